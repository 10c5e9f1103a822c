/- Span: first ways, the plain part. -/
import Derived.Test.YtnplopiconabiaaSA
namespace Go.Proofs.Ytnplopiconabiaa.Span
open Go Go.V
set_option linter.unusedVariables false
set_option linter.unusedSimpArgs false

/-- A walk from a, with its end. -/
inductive Walk (T : Int → List Int) (a : Int) : List Int → Int → Prop
  | nil : Walk T a [a] a
  | snoc {u : List Int} {y x : Int} : Walk T a u y → x ∈ T y → Walk T a (u ++ [x]) x
def lexL : List Int → List Int → Prop
  | a :: u, b :: v => a < b ∨ (a = b ∧ lexL u v)
  | _, _ => False
/-- Shorter, or as long and ahead. -/
def slt (u v : List Int) : Prop := u.length < v.length ∨ (u.length = v.length ∧ lexL u v)
theorem lexL_trans : ∀ {u v w : List Int}, lexL u v → lexL v w → lexL u w
  | a :: u, b :: v, c :: w, h, h2 => by
    rcases h with h | ⟨h, h'⟩
    · rcases h2 with h2 | ⟨h2, h2'⟩
      · exact .inl (by omega)
      · exact .inl (by omega)
    · rcases h2 with h2 | ⟨h2, h2'⟩
      · exact .inl (by omega)
      · exact .inr ⟨by omega, lexL_trans h' h2'⟩
  | [], _, _, h, _ => by cases h
  | _ :: _, [], _, h, _ => by cases h
  | _ :: _, _ :: _, [], _, h => by cases h
theorem lexL_irr : ∀ {u : List Int}, ¬ lexL u u
  | [], h => by cases h
  | a :: u, h => by
    rcases h with h | ⟨_, h⟩
    · omega
    · exact lexL_irr h
theorem lexL_snoc : ∀ {u v : List Int} {x y : Int}, lexL u v → lexL (u ++ [x]) (v ++ [y])
  | a :: u, b :: v, x, y, h => by
    rcases h with h | ⟨h, h'⟩
    · exact .inl h
    · exact .inr ⟨h, lexL_snoc h'⟩
  | [], _, _, _, h => by cases h
  | _ :: _, [], _, _, h => by cases h
theorem lexL_end : ∀ {u : List Int} {x y : Int}, x < y → lexL (u ++ [x]) (u ++ [y])
  | [], x, y, h => .inl h
  | a :: u, x, y, h => .inr ⟨rfl, lexL_end h⟩
theorem lexL_tri : ∀ {u v : List Int}, u.length = v.length → u = v ∨ lexL u v ∨ lexL v u
  | [], [], _ => .inl rfl
  | [], _ :: _, h => by simp at h
  | _ :: _, [], h => by simp at h
  | a :: u, b :: v, h => by
    have h' : u.length = v.length := by simpa using h
    rcases Int.lt_trichotomy a b with h1 | h1 | h1
    · exact .inr (.inl (.inl h1))
    · rcases lexL_tri h' with h2 | h2 | h2
      · exact .inl (by rw [h1, h2])
      · exact .inr (.inl (.inr ⟨h1, h2⟩))
      · exact .inr (.inr (.inr ⟨h1.symm, h2⟩))
    · exact .inr (.inr (.inl h1))
theorem slt_trans {u v w : List Int} (h : slt u v) (h2 : slt v w) : slt u w := by
  rcases h with h | ⟨h, h'⟩
  · rcases h2 with h2 | ⟨h2, _⟩
    · exact .inl (by omega)
    · exact .inl (by omega)
  · rcases h2 with h2 | ⟨h2, h2'⟩
    · exact .inl (by omega)
    · exact .inr ⟨by omega, lexL_trans h' h2'⟩
theorem slt_irr {u : List Int} (h : slt u u) : False := by
  rcases h with h | ⟨_, h⟩
  · omega
  · exact lexL_irr h
theorem slt_snoc {u v : List Int} {x y : Int} (h : slt u v) : slt (u ++ [x]) (v ++ [y]) := by
  rcases h with h | ⟨h, h'⟩
  · exact .inl (by simp; omega)
  · exact .inr ⟨by simp; omega, lexL_snoc h'⟩
theorem slt_end {u : List Int} {x y : Int} (h : x < y) : slt (u ++ [x]) (u ++ [y]) := .inr ⟨by simp, lexL_end h⟩
/-- The first way: a walk of an edge or more, ahead of every other one. -/
def WayIs (T : Int → List Int) (a b : Int) (w : List Int) : Prop := Walk T a w b ∧ 2 ≤ w.length ∧ ∀ u, Walk T a u b → 2 ≤ u.length → w = u ∨ slt w u
theorem WayIs.uniq {T : Int → List Int} {a b : Int} {w w' : List Int} (h : WayIs T a b w) (h' : WayIs T a b w') : w = w' := by
  rcases h.2.2 _ h'.1 h'.2.1 with e | e
  · exact e
  · rcases h'.2.2 _ h.1 h.2.1 with e2 | e2
    · exact e2.symm
    · exact (slt_irr (slt_trans e e2)).elim
def NoWay (T : Int → List Int) (a b : Int) : Prop := ∀ u, Walk T a u b → ¬ 2 ≤ u.length
theorem Walk.len {T : Int → List Int} {a y : Int} {u : List Int} (h : Walk T a u y) : 1 ≤ u.length := by
  cases h with
  | nil => simp
  | snoc _ _ => simp
theorem Walk.cut {T : Int → List Int} {a y : Int} {u : List Int} (h : Walk T a u y) (hl : 2 ≤ u.length) : ∃ u' z, Walk T a u' z ∧ y ∈ T z ∧ u = u' ++ [y] := by
  cases h with
  | nil => simp at hl
  | snoc h h2 => exact ⟨_, _, h, h2, rfl⟩
theorem Walk.reach {T : Int → List Int} {a y : Int} {u : List Int} (h : Walk T a u y) (hl : 2 ≤ u.length) : Reach T a y := by
  induction h with
  | nil => simp at hl
  | @snoc u z x h h2 ih =>
    by_cases e : 2 ≤ u.length
    · exact .more (ih e) h2
    · cases h with
      | nil => exact .one h2
      | snoc h _ => have := h.len; simp only [List.length_append, List.length_singleton] at e; omega
theorem Reach.walk {T : Int → List Int} {a y : Int} (h : Reach T a y) : ∃ u, Walk T a u y ∧ 2 ≤ u.length := by
  induction h with
  | one h => exact ⟨_, .snoc .nil h, by simp⟩
  | more _ h ih => obtain ⟨u, h1, h2⟩ := ih; exact ⟨_, .snoc h1 h, by simp; omega⟩
theorem Walk.step {T : Int → List Int} {a y : Int} {u : List Int} (h : Walk T a u y) : u.head? = some a ∧ u.getLast? = some y ∧ ∀ i (hi : i + 1 < u.length), u[i + 1] ∈ T u[i] := by
  induction h with
  | nil => exact ⟨rfl, rfl, fun i hi => by simp at hi⟩
  | @snoc u z x h h2 ih =>
    obtain ⟨h3, h4, h5⟩ := ih
    refine ⟨?_, by simp, fun i hi => ?_⟩
    · rw [List.head?_append, h3]; rfl
    · simp only [List.length_append, List.length_singleton] at hi
      have hl := h.len
      by_cases e : i + 1 < u.length
      · rw [List.getElem_append_left e, List.getElem_append_left (by omega)]; exact h5 i e
      · have : i + 1 = u.length := by omega
        rw [List.getElem_append_right (show u.length ≤ i + 1 by omega), List.getElem_append_left (show i < u.length by omega)]
        have e2 : u[i] = z := by
          rw [List.getLast?_eq_getElem?] at h4
          rw [show u.length - 1 = i by omega, List.getElem?_eq_getElem (by omega)] at h4
          exact Option.some.inj h4
        simpa [this, e2] using h2

abbrev EnW := Int × List Int
/-- How far a breadth-first search has come: the nodes in the order in which they were come to, each with its way; k of them done, of the next one j targets. -/
structure Bfs (T : Int → List Int) (a : Int) (L : List EnW) (k j : Nat) : Prop where
  first : ∃ L', L = (a, [a]) :: L'
  par : ∀ e ∈ L.tail, Walk T a e.2 e.1 ∧ 2 ≤ e.2.length ∧ ∃ q, ∃ p : EnW, L[q]? = some p ∧ e.2 = p.2 ++ [e.1] ∧ e.1 ∈ T p.1 ∧ (p.1 = a → p.2 = [a]) ∧ (q < k ∨ (q = k ∧ e.1 ∈ (T p.1).take j))
  sorted : L.Pairwise fun e e' => slt e.2 e'.2
  nodup : (L.tail.map (·.1)).Nodup
  done : ∀ q (p : EnW), L[q]? = some p → (q < k → ∀ x ∈ T p.1, x ∈ L.tail.map (·.1)) ∧ (q = k → ∀ x ∈ (T p.1).take j, x ∈ L.tail.map (·.1))
  min : ∀ e ∈ L.tail, ∀ u, Walk T a u e.1 → 2 ≤ u.length → e.2 = u ∨ slt e.2 u
theorem Bfs.start (T : Int → List Int) (a : Int) : Bfs T a [(a, [a])] 0 0 where
  first := ⟨[], rfl⟩
  par := by simp
  sorted := by simp
  nodup := by simp
  done := fun q p h => ⟨fun h => absurd h (by omega), fun h => by simp⟩
  min := by simp
theorem Bfs.skip {T : Int → List Int} {a : Int} {L : List EnW} {k j : Nat} (h : Bfs T a L k j) {e : EnW} (hk : L[k]? = some e) {x : Int} (hj : (T e.1)[j]? = some x) (hx : x ∈ L.tail.map (·.1)) : Bfs T a L k (j + 1) where
  first := h.first
  par := fun e' he => by
    obtain ⟨h1, h2, q, p, h3, h4, h5, h6, h7⟩ := h.par e' he
    refine ⟨h1, h2, q, p, h3, h4, h5, h6, h7.imp id fun h8 => ⟨h8.1, ?_⟩⟩
    exact List.mem_of_mem_take (i := j) (by rw [List.take_take, Nat.min_eq_left (by omega)]; exact h8.2)
  sorted := h.sorted
  nodup := h.nodup
  done := fun q p hq => ⟨(h.done q p hq).1, fun hqk y hy => by
    subst hqk
    rw [hk] at hq; cases hq
    rw [List.take_add_one, hj] at hy
    rcases List.mem_append.1 hy with hy | hy
    · exact (h.done q e hk).2 rfl y hy
    · have : y = x := by simpa using hy
      rw [this]; exact hx⟩
  min := h.min
theorem Bfs.next {T : Int → List Int} {a : Int} {L : List EnW} {k j : Nat} (h : Bfs T a L k j) {e : EnW} (hk : L[k]? = some e) (hj : (T e.1).length ≤ j) : Bfs T a L (k + 1) 0 where
  first := h.first
  par := fun e' he => by
    obtain ⟨h1, h2, q, p, h3, h4, h5, h6, h7⟩ := h.par e' he
    refine ⟨h1, h2, q, p, h3, h4, h5, h6, .inl ?_⟩
    rcases h7 with h7 | h7
    · omega
    · omega
  sorted := h.sorted
  nodup := h.nodup
  done := fun q p hq => ⟨fun hlt x hx => by
    by_cases e2 : q < k
    · exact (h.done q p hq).1 e2 x hx
    · have : q = k := by omega
      subst this
      rw [hk] at hq; cases hq
      exact (h.done q e hk).2 rfl x (by rw [List.take_of_length_le hj]; exact hx), fun _ x hx => by simp at hx⟩
  min := h.min
theorem Bfs.head {T : Int → List Int} {a : Int} {L : List EnW} {k j : Nat} (h : Bfs T a L k j) : L[0]? = some (a, [a]) := by
  obtain ⟨L', e⟩ := h.first; rw [e]; rfl
theorem Bfs.tailAt {T : Int → List Int} {a : Int} {L : List EnW} {k j : Nat} (h : Bfs T a L k j) {x : Int} (hx : x ∈ L.tail.map (·.1)) : ∃ q p, 1 ≤ q ∧ L[q]? = some p ∧ p ∈ L.tail ∧ p.1 = x := by
  obtain ⟨p, hp, e⟩ := List.mem_map.1 hx
  obtain ⟨L', e2⟩ := h.first
  obtain ⟨q, hq, e3⟩ := List.mem_iff_getElem.1 hp
  refine ⟨q + 1, p, by omega, ?_, hp, e⟩
  subst e2
  simp only [List.tail_cons] at hq e3
  rw [List.getElem?_cons_succ, List.getElem?_eq_getElem hq, e3]
theorem Bfs.sle {T : Int → List Int} {a : Int} {L : List EnW} {k j : Nat} (h : Bfs T a L k j) {q r : Nat} {e p : EnW} (hq : L[q]? = some e) (hr : L[r]? = some p) (hqr : q ≤ r) : e.2 = p.2 ∨ slt e.2 p.2 := by
  obtain ⟨h1, e1⟩ := List.getElem?_eq_some_iff.1 hq
  obtain ⟨h2, e2⟩ := List.getElem?_eq_some_iff.1 hr
  by_cases e3 : q = r
  · subst e3; rw [hq] at hr; cases hr; exact .inl rfl
  · have := (List.pairwise_iff_getElem.1 h.sorted) q r h1 h2 (by omega)
    rw [e1, e2] at this; exact .inr this
theorem Bfs.front {T : Int → List Int} {a : Int} {L : List EnW} {k j : Nat} (h : Bfs T a L k j) {e : EnW} (hk : L[k]? = some e) {u : List Int} {y : Int} (hu : Walk T a u y) : (∀ q p, q < k → L[q]? = some p → p.1 ≠ y) → e.2 = u ∨ slt e.2 u := by
  have h0 := h.head
  by_cases k0 : k = 0
  · subst k0
    rw [h0] at hk; cases hk
    intro _
    cases hu with
    | nil => exact .inl rfl
    | snoc h1 _ => exact .inr (.inl (by have := h1.len; simp; omega))
  · induction hu with
    | nil => intro h1; exact absurd rfl (h1 0 _ (by omega) h0)
    | @snoc u z y h1 h2 ih =>
      intro h3
      by_cases hy : y ∈ L.tail.map (·.1)
      · obtain ⟨q, p, hq1, hq, hp, rfl⟩ := h.tailAt hy
        have hkq : k ≤ q := Nat.le_of_not_lt fun hlt => h3 q p hlt hq rfl
        have hm := h.min p hp _ (Walk.snoc h1 h2) (by have := h1.len; simp; omega)
        rcases h.sle hk hq hkq with e1 | e1
        · rw [e1]; exact hm
        · rcases hm with hm | hm
          · exact .inr (hm ▸ e1)
          · exact .inr (slt_trans e1 hm)
      · have := ih fun q p hq hp hz => hy ((h.done q p hp).1 hq y (by rw [hz]; exact h2))
        rcases this with e1 | e1
        · exact .inr (.inl (by rw [e1]; simp))
        · rcases e1 with e1 | ⟨e1, _⟩
          · exact .inr (.inl (by simp; omega))
          · exact .inr (.inl (by simp; omega))
theorem Bfs.min_new {T : Int → List Int} {a : Int} {L : List EnW} {k j : Nat} (h : Bfs T a L k j) {e : EnW} (hk : L[k]? = some e) {x : Int} (hx : x ∉ L.tail.map (·.1)) : ∀ u, Walk T a u x → 2 ≤ u.length → e.2 ++ [x] = u ∨ slt (e.2 ++ [x]) u := fun u hu hl => by
  obtain ⟨u', z, h1, h2, rfl⟩ := hu.cut hl
  rcases h.front hk h1 (fun q p hq hp hz => hx ((h.done q p hp).1 hq x (by rw [hz]; exact h2))) with e1 | e1
  · exact .inl (by rw [e1])
  · exact .inr (slt_snoc e1)
theorem Bfs.self {T : Int → List Int} {a : Int} {L : List EnW} {k j : Nat} (h : Bfs T a L k j) {e : EnW} (hk : L[k]? = some e) {x : Int} (hj : (T e.1)[j]? = some x) (hx : x ∉ L.tail.map (·.1)) (ha : e.1 = a) : e.2 = [a] := by
  have h0 := h.head
  by_cases k0 : k = 0
  · subst k0; rw [h0] at hk; cases hk; rfl
  · exact absurd ((h.done 0 _ h0).1 (by omega) x (by rw [← ha]; exact List.mem_of_getElem? hj)) hx
theorem Bfs.walk {T : Int → List Int} {a : Int} {L : List EnW} {k j : Nat} (h : Bfs T a L k j) {e : EnW} {q : Nat} (hk : L[q]? = some e) : Walk T a e.2 e.1 := by
  obtain ⟨L', e2⟩ := h.first
  match q, hk with
  | 0, hk => rw [h.head] at hk; cases hk; exact .nil
  | q + 1, hk =>
    refine (h.par e ?_).1
    subst e2
    rw [List.getElem?_cons_succ] at hk
    exact List.mem_of_getElem? hk
theorem Bfs.add {T : Int → List Int} {a : Int} {L : List EnW} {k j : Nat} (h : Bfs T a L k j) {e : EnW} (hk : L[k]? = some e) (hT : (T e.1).Pairwise (· < ·)) {x : Int} (hj : (T e.1)[j]? = some x) (hx : x ∉ L.tail.map (·.1)) : Bfs T a (L ++ [(x, e.2 ++ [x])]) k (j + 1) := by
  obtain ⟨L', e2⟩ := h.first
  have hw := h.walk hk
  have hTx := List.mem_of_getElem? hj
  have hne : L ≠ [] := by rw [e2]; simp
  have htail : (L ++ [(x, e.2 ++ [x])]).tail = L.tail ++ [(x, e.2 ++ [x])] := List.tail_append_of_ne_nil hne
  have hget : ∀ q (p : EnW), L[q]? = some p → (L ++ [(x, e.2 ++ [x])])[q]? = some p := fun q p hq => by
    rw [List.getElem?_append_left (List.getElem?_eq_some_iff.1 hq).1]; exact hq
  have hlast : ∀ y ∈ (T e.1).take j, y < x := fun y hy => by
    obtain ⟨i, hi, rfl⟩ := List.mem_take_iff_getElem.1 hy
    obtain ⟨hj1, hj2⟩ := List.getElem?_eq_some_iff.1 hj
    have := (List.pairwise_iff_getElem.1 hT) i j (by omega) hj1 (by omega)
    rw [hj2] at this; exact this
  have hmore : ∀ y ∈ (T e.1).take j, y ∈ (T e.1).take (j + 1) := fun y hy => List.mem_of_mem_take (i := j) (by rw [List.take_take, Nat.min_eq_left (by omega)]; exact hy)
  refine ⟨⟨L' ++ [(x, e.2 ++ [x])], by rw [e2]; rfl⟩, fun e' he => ?_, ?_, ?_, fun q p hq => ?_, fun e' he => ?_⟩
  · rw [htail] at he
    rcases List.mem_append.1 he with he | he
    · obtain ⟨h1, h2, q, p, h3, h4, h5, h6, h7⟩ := h.par e' he
      refine ⟨h1, h2, q, p, hget q p h3, h4, h5, h6, h7.imp id fun h8 => ⟨h8.1, ?_⟩⟩
      exact List.mem_of_mem_take (i := j) (by rw [List.take_take, Nat.min_eq_left (by omega)]; exact h8.2)
    · rw [List.mem_singleton.1 he]
      refine ⟨.snoc hw hTx, by have := hw.len; simp; omega, k, e, hget k e hk, rfl, hTx, fun ha => h.self hk hj hx ha, .inr ⟨rfl, ?_⟩⟩
      rw [List.take_add_one, hj]; simp
  · rw [List.pairwise_append]
    refine ⟨h.sorted, by simp, fun e' he e'' he2 => ?_⟩
    rw [List.mem_singleton.1 he2]
    have he' := he
    rw [e2] at he'
    rcases List.mem_cons.1 he' with rfl | he'
    · exact .inl (by have := hw.len; simp; omega)
    · obtain ⟨h1, h2, q, p, h3, h4, h5, h6, h7⟩ := h.par e' (by rw [e2]; exact he')
      rw [h4]
      rcases h7 with h7 | ⟨rfl, h7⟩
      · obtain ⟨hq1, hq2⟩ := List.getElem?_eq_some_iff.1 h3
        obtain ⟨hk1, hk2⟩ := List.getElem?_eq_some_iff.1 hk
        have := (List.pairwise_iff_getElem.1 h.sorted) q k hq1 hk1 h7
        rw [hq2, hk2] at this
        exact slt_snoc this
      · rw [hk] at h3; cases h3
        exact slt_end (hlast _ h7)
  · rw [htail, List.map_append, List.nodup_append]
    exact ⟨h.nodup, by simp, fun y hy z hz e3 => by
      have : z = x := by simpa using hz
      exact hx (by rw [← this, ← e3]; exact hy)⟩
  · rw [htail, List.map_append]
    by_cases hqL : q < L.length
    · rw [List.getElem?_append_left hqL] at hq
      refine ⟨fun hlt y hy => List.mem_append.2 (.inl ((h.done q p hq).1 hlt y hy)), fun hqk y hy => ?_⟩
      subst hqk
      rw [hk] at hq; cases hq
      rw [List.take_add_one, hj] at hy
      rcases List.mem_append.1 hy with hy | hy
      · exact List.mem_append.2 (.inl ((h.done q e hk).2 rfl y hy))
      · have : y = x := by simpa using hy
        rw [this]; simp
    · have := (List.getElem?_eq_some_iff.1 hk).1
      exact ⟨fun h => absurd h (by omega), fun h => absurd h (by omega)⟩
  · rw [htail] at he
    rcases List.mem_append.1 he with he | he
    · exact h.min e' he
    · rw [List.mem_singleton.1 he]
      exact h.min_new hk hx
theorem Bfs.none {T : Int → List Int} {a b : Int} {L : List EnW} (h : Bfs T a L L.length 0) (hb : b ∉ L.tail.map (·.1)) : NoWay T a b := by
  have key : ∀ u y, Walk T a u y → ∃ q, ∃ p : EnW, L[q]? = some p ∧ p.1 = y := fun u y hu => by
    induction hu with
    | nil => exact ⟨0, _, h.head, rfl⟩
    | snoc _ h2 ih =>
      obtain ⟨q, p, hq, rfl⟩ := ih
      obtain ⟨q', p', _, h3, _, h4⟩ := h.tailAt ((h.done q p hq).1 (List.getElem?_eq_some_iff.1 hq).1 _ h2)
      exact ⟨q', p', h3, h4⟩
  intro u hu hl
  obtain ⟨u', z, h1, h2, rfl⟩ := hu.cut hl
  obtain ⟨q, p, hq, rfl⟩ := key _ _ h1
  exact hb ((h.done q p hq).1 (List.getElem?_eq_some_iff.1 hq).1 _ h2)
end Go.Proofs.Ytnplopiconabiaa.Span
