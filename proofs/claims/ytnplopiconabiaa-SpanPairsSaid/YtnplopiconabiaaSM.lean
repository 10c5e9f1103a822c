/- Span: first ways by layers, the plain part of the document's way. -/
import Derived.Test.YtnplopiconabiaaSD
namespace Go.Proofs.Ytnplopiconabiaa.Span
open Go Go.V
set_option linter.unusedVariables false
set_option linter.unusedSimpArgs false

/-- The least of all that have just k edges, and none is shorter. -/
def Best (T : Int → List Int) (a : Int) (k : Nat) (n : Int) (w : List Int) : Prop := Walk T a w n ∧ w.length = k + 1 ∧ ∀ u, Walk T a u n → (2 ≤ u.length ∨ k = 0) → w = u ∨ slt w u
/-- What is known behind k rounds. -/
structure Lay (T : Int → List Int) (a : Int) (k : Nat) (ways : List (List Int)) (seen : List Int) : Prop where
  best : ∀ w ∈ ways, ∃ n, Best T a k n w
  all : ∀ u n, Walk T a u n → u.length = k + 1 → (∀ u', Walk T a u' n → (2 ≤ u'.length ∨ k = 0) → k + 1 ≤ u'.length) → ∃ w ∈ ways, Best T a k n w
  seen : ∀ x, x ∈ seen ↔ ∃ u, Walk T a u x ∧ 2 ≤ u.length ∧ u.length ≤ k + 1
/-- Of the candidates (all of K + 1 numbers) the least for each last number. -/
structure Part (K : Nat) (cs : List Int → Prop) (next : List (List Int)) : Prop where
  sub : ∀ w ∈ next, cs w
  len : ∀ c, cs c → c.length = K + 1
  low : ∀ c, cs c → ∃ w ∈ next, w[K]? = c[K]? ∧ (w = c ∨ lexL w c)
  one : next.Pairwise fun w w' => w[K]? ≠ w'[K]?
theorem Part.congr {K : Nat} {cs cs' : List Int → Prop} {next : List (List Int)} (h : Part K cs next) (e : ∀ c, cs c ↔ cs' c) : Part K cs' next :=
  ⟨fun w hw => (e w).1 (h.sub w hw), fun c hc => h.len c ((e c).2 hc), fun c hc => h.low c ((e c).2 hc), h.one⟩
theorem Part.nil (K : Nat) : Part K (fun _ => False) [] := ⟨fun _ h => (by cases h), fun _ h => h.elim, fun _ h => h.elim, .nil⟩
section
variable {K : Nat} {cs : List Int → Prop} {next : List (List Int)} {c : List Int} (h : Part K cs next) (hc : c.length = K + 1)
include h hc
theorem Part.add (hn : ∀ w ∈ next, w[K]? ≠ c[K]?) : Part K (fun x => cs x ∨ x = c) (next ++ [c]) where
  sub := fun w hw => by
    rcases List.mem_append.1 hw with hw | hw
    · exact .inl (h.sub w hw)
    · exact .inr (List.mem_singleton.1 hw)
  len := fun x hx => by
    rcases hx with hx | rfl
    · exact h.len x hx
    · exact hc
  low := fun x hx => by
    rcases hx with hx | rfl
    · obtain ⟨w, h1, h2⟩ := h.low x hx
      exact ⟨w, List.mem_append_left _ h1, h2⟩
    · exact ⟨x, List.mem_append_right _ (List.mem_singleton.2 rfl), rfl, .inl rfl⟩
  one := List.pairwise_append.2 ⟨h.one, List.pairwise_singleton _ _, fun w hw x hx => by rw [List.mem_singleton.1 hx]; exact hn w hw⟩
theorem Part.keep {w : List Int} (hw : w ∈ next) (e : w[K]? = c[K]?) (hl : ¬ lexL c w) : Part K (fun x => cs x ∨ x = c) next where
  sub := fun w hw => .inl (h.sub w hw)
  len := fun x hx => by
    rcases hx with hx | rfl
    · exact h.len x hx
    · exact hc
  low := fun x hx => by
    rcases hx with hx | rfl
    · exact h.low x hx
    · refine ⟨w, hw, e, ?_⟩
      rcases lexL_tri (show w.length = x.length by rw [h.len w (h.sub w hw), hc]) with h1 | h1 | h1
      · exact .inl h1
      · exact .inr h1
      · exact absurd h1 hl
  one := h.one
theorem Part.put {at_ : Nat} (ha : at_ < next.length) (e : (next[at_])[K]? = c[K]?) (hl : lexL c next[at_]) : Part K (fun x => cs x ∨ x = c) (next.set at_ c) where
  sub := fun w hw => by
    rcases List.mem_or_eq_of_mem_set hw with hw | rfl
    · exact .inl (h.sub w hw)
    · exact .inr rfl
  len := fun x hx => by
    rcases hx with hx | rfl
    · exact h.len x hx
    · exact hc
  low := fun x hx => by
    have hin : c ∈ next.set at_ c := List.mem_set ha c
    rcases hx with hx | rfl
    · obtain ⟨w, h1, h2, h3⟩ := h.low x hx
      obtain ⟨j, hj, rfl⟩ := List.mem_iff_getElem.1 h1
      by_cases e2 : j = at_
      · subst e2
        refine ⟨c, hin, by rw [← e, h2], .inr ?_⟩
        rcases h3 with h3 | h3
        · rw [← h3]; exact hl
        · exact lexL_trans hl h3
      · refine ⟨next[j], ?_, h2, h3⟩
        refine List.mem_iff_getElem.2 ⟨j, by simpa using hj, ?_⟩
        rw [List.getElem_set_ne (fun e => e2 e.symm)]
    · exact ⟨x, hin, rfl, .inl rfl⟩
  one := by
    rw [List.pairwise_iff_getElem]
    intro i j hi hj hij
    rw [List.length_set] at hi hj
    have h0 := (List.pairwise_iff_getElem.1 h.one) i j hi hj hij
    rw [List.getElem_set, List.getElem_set]
    by_cases e1 : at_ = i
    · subst e1
      rw [if_pos rfl, if_neg (by omega)]
      rw [e] at h0; exact h0
    · rw [if_neg e1]
      by_cases e2 : at_ = j
      · subst e2
        rw [if_pos rfl]
        rw [e] at h0; exact h0
      · rw [if_neg e2]; exact h0
end
/-- The candidates of a round: all of the ways ahead of i with every edge, and the i-th with the first j edges. -/
def Cand (ways : List (List Int)) (L : List (Int × Int)) (seen : List Int) (i j : Nat) (c : List Int) : Prop :=
  ∃ (i' j' : Nat) (w : List Int) (p : Int × Int), ways[i']? = some w ∧ L[j']? = some p ∧ (i' < i ∨ (i' = i ∧ j' < j)) ∧ w.getLast? = some p.1 ∧ p.2 ∉ seen ∧ c = w ++ [p.2]
section
variable {ways : List (List Int)} {L : List (Int × Int)} {seen : List Int} {i j : Nat}
theorem Cand.start {c : List Int} : Cand ways L seen 0 0 c ↔ False := ⟨fun ⟨i', j', w, p, _, _, h, _⟩ => by omega, fun h => h.elim⟩
theorem Cand.row {c : List Int} (hj : L.length ≤ j) : Cand ways L seen (i + 1) 0 c ↔ Cand ways L seen i j c := by
  constructor
  · rintro ⟨i', j', w, p, h1, h2, h3, h4⟩
    have := (List.getElem?_eq_some_iff.1 h2).1
    exact ⟨i', j', w, p, h1, h2, by omega, h4⟩
  · rintro ⟨i', j', w, p, h1, h2, h3, h4⟩
    exact ⟨i', j', w, p, h1, h2, by omega, h4⟩
theorem Cand.skip {c : List Int} {w : List Int} {p : Int × Int} (hi : ways[i]? = some w) (hj : L[j]? = some p) (h : ¬ (w.getLast? = some p.1 ∧ p.2 ∉ seen)) : Cand ways L seen i (j + 1) c ↔ Cand ways L seen i j c := by
  constructor
  · rintro ⟨i', j', w', p', h1, h2, h3, h4, h5, h6⟩
    refine ⟨i', j', w', p', h1, h2, ?_, h4, h5, h6⟩
    by_cases e : i' = i ∧ j' = j
    · obtain ⟨rfl, rfl⟩ := e
      rw [hi] at h1; cases h1
      rw [hj] at h2; cases h2
      exact absurd ⟨h4, h5⟩ h
    · omega
  · rintro ⟨i', j', w', p', h1, h2, h3, h4⟩
    exact ⟨i', j', w', p', h1, h2, by omega, h4⟩
theorem Cand.more {c : List Int} {w : List Int} {p : Int × Int} (hi : ways[i]? = some w) (hj : L[j]? = some p) (h : w.getLast? = some p.1) (h' : p.2 ∉ seen) : (Cand ways L seen i j c ∨ c = w ++ [p.2]) ↔ Cand ways L seen i (j + 1) c := by
  constructor
  · rintro (⟨i', j', w', p', h1, h2, h3, h4⟩ | rfl)
    · exact ⟨i', j', w', p', h1, h2, by omega, h4⟩
    · exact ⟨i, j, w, p, hi, hj, by omega, h, h', rfl⟩
  · rintro ⟨i', j', w', p', h1, h2, h3, h4, h5, h6⟩
    by_cases e : i' = i ∧ j' = j
    · obtain ⟨rfl, rfl⟩ := e
      rw [hi] at h1; cases h1
      rw [hj] at h2; cases h2
      exact .inr h6
    · exact .inl ⟨i', j', w', p', h1, h2, by omega, h4, h5, h6⟩
end
theorem Lay.start (T : Int → List Int) (a : Int) : Lay T a 0 [[a]] [] where
  best := fun w hw => by
    rw [List.mem_singleton.1 hw]
    refine ⟨a, .nil, rfl, fun u hu _ => ?_⟩
    cases hu with
    | nil => exact .inl rfl
    | snoc h _ => exact .inr (.inl (by have := h.len; simp; omega))
  all := fun u n hu hl h => by
    refine ⟨[a], by simp, ?_⟩
    cases hu with
    | nil =>
      refine ⟨.nil, rfl, fun u hu _ => ?_⟩
      cases hu with
      | nil => exact .inl rfl
      | snoc h _ => exact .inr (.inl (by have := h.len; simp; omega))
    | snoc h2 _ => have := h2.len; rw [List.length_append, List.length_singleton] at hl; omega
  seen := fun x => by
    constructor
    · intro h; cases h
    · rintro ⟨u, _, h1, h2⟩; omega
theorem Walk.last {T : Int → List Int} {a n : Int} {u : List Int} {k : Nat} (h : Walk T a u n) (hl : u.length = k + 1) : u[k]? = some n := by
  have := h.step.2.1
  rwa [List.getLast?_eq_getElem?, hl] at this
section
variable {T : Int → List Int} {a : Int} {k : Nat} {ways next : List (List Int)} {seen : List Int} {L : List (Int × Int)} (h : Lay T a k ways seen) (hL : ∀ p : Int × Int, p ∈ L ↔ p.2 ∈ T p.1) (hp : Part (k + 1) (Cand ways L seen ways.length 0) next)
include h
theorem Lay.pre {u1 : List Int} {z x : Int} (h1 : Walk T a u1 z) (h2 : x ∈ T z) (hl : u1.length = k + 1) (hx : x ∉ seen) : ∃ w' ∈ ways, Best T a k z w' ∧ (w' = u1 ∨ lexL w' u1) := by
  obtain ⟨w', hw, hb⟩ := h.all u1 z h1 hl (fun u' hu' hc => by
    apply Classical.byContradiction
    intro hn
    refine hx ((h.seen x).2 ⟨u' ++ [x], .snoc hu' h2, ?_, ?_⟩)
    · have := hu'.len; simp; omega
    · simp; omega)
  refine ⟨w', hw, hb, ?_⟩
  rcases hb.2.2 u1 h1 (by omega) with e | e | ⟨_, e⟩
  · exact .inl e
  · have := hb.2.1; omega
  · exact .inr e
include hL hp
/-- Each walk to a node that wasn't seen has a candidate that is no later. -/
theorem Lay.cand {u : List Int} {x : Int} (hu : Walk T a u x) (hl : u.length = k + 2) (hx : x ∉ seen) : ∃ w ∈ next, w[k + 1]? = some x ∧ (w = u ∨ lexL w u) := by
  obtain ⟨u1, z, h1, h2, rfl⟩ := hu.cut (by omega)
  have hl1 : u1.length = k + 1 := by simp at hl; omega
  obtain ⟨w', hw', hb, hle⟩ := h.pre h1 h2 hl1 hx
  obtain ⟨i, hi, e⟩ := List.mem_iff_getElem.1 hw'
  obtain ⟨j, hj, e2⟩ := List.mem_iff_getElem.1 ((hL (z, x)).2 h2)
  have hc : Cand ways L seen ways.length 0 (w' ++ [x]) := ⟨i, j, w', (z, x), by rw [List.getElem?_eq_getElem hi, e], by rw [List.getElem?_eq_getElem hj, e2], by omega, hb.1.step.2.1, hx, rfl⟩
  obtain ⟨w, hw, e3, hlow⟩ := hp.low _ hc
  refine ⟨w, hw, ?_, ?_⟩
  · rw [e3]
    have := hb.2.1
    rw [List.getElem?_append_right (by omega), this, Nat.sub_self]; rfl
  · have hle2 : w' ++ [x] = u1 ++ [x] ∨ lexL (w' ++ [x]) (u1 ++ [x]) := by
      rcases hle with h3 | h3
      · exact .inl (by rw [h3])
      · exact .inr (lexL_snoc h3)
    rcases hlow with h3 | h3 <;> rcases hle2 with h4 | h4
    · exact .inl (by rw [h3, h4])
    · exact .inr (by rw [h3]; exact h4)
    · exact .inr (by rw [← h4]; exact h3)
    · exact .inr (lexL_trans h3 h4)
theorem Lay.nbest {w : List Int} (hw : w ∈ next) : ∃ x, Best T a (k + 1) x w ∧ x ∉ seen := by
  obtain ⟨i', j', v, p, h1, h2, _, h4, h5, rfl⟩ := hp.sub w hw
  obtain ⟨z, hz⟩ := h.best v (List.mem_of_getElem? h1)
  have ez : z = p.1 := by have := hz.1.step.2.1; rw [h4] at this; exact (Option.some.inj this).symm
  have hT : p.2 ∈ T z := by rw [ez]; exact (hL p).1 (List.mem_of_getElem? h2)
  have hwk : Walk T a (v ++ [p.2]) p.2 := .snoc hz.1 hT
  have hlen : (v ++ [p.2]).length = k + 1 + 1 := by have := hz.2.1; simp; omega
  refine ⟨p.2, ⟨hwk, hlen, fun u hu hc => ?_⟩, h5⟩
  have h2u : 2 ≤ u.length := by omega
  by_cases hs : u.length ≤ k + 1
  · exact absurd ((h.seen p.2).2 ⟨u, hu, h2u, hs⟩) h5
  by_cases hs2 : u.length = k + 2
  · obtain ⟨w2, hw2, e2, hle⟩ := h.cand hL hp hu hs2 h5
    have ew : w2 = v ++ [p.2] := by
      obtain ⟨i, hi, e3⟩ := List.mem_iff_getElem.1 hw
      obtain ⟨j, hj, e4⟩ := List.mem_iff_getElem.1 hw2
      have e5 : (v ++ [p.2])[k + 1]? = some p.2 := hwk.last hlen
      rcases Nat.lt_trichotomy i j with hij | hij | hij
      · exact absurd (by rw [e3, e4, e5, e2]) ((List.pairwise_iff_getElem.1 hp.one) i j hi hj hij)
      · subst hij; rw [← e4, e3]
      · exact absurd (by rw [e3, e4, e5, e2]) ((List.pairwise_iff_getElem.1 hp.one) j i hj hi hij)
    rw [← ew]
    exact hle.imp id fun h => .inr ⟨by rw [hp.len _ (hp.sub _ hw2), hs2], h⟩
  · exact .inr (.inl (by omega))
theorem Lay.nall {u : List Int} {n : Int} (hu : Walk T a u n) (hl : u.length = k + 2) (hx : n ∉ seen) : ∃ w ∈ next, Best T a (k + 1) n w := by
  obtain ⟨w, hw, e, _⟩ := h.cand hL hp hu hl hx
  obtain ⟨x, hb, _⟩ := h.nbest hL hp hw
  have := hb.1.last hb.2.1
  rw [e] at this
  cases this
  exact ⟨w, hw, hb⟩
/-- A round. -/
theorem Lay.round {seen' : List Int} (hs : ∀ x, x ∈ seen' ↔ x ∈ seen ∨ ∃ w ∈ next, w[k + 1]? = some x) : Lay T a (k + 1) next seen' where
  best := fun w hw => (h.nbest hL hp hw).imp fun _ h => h.1
  all := fun u n hu hl hmin => h.nall hL hp hu hl fun hin => by
    obtain ⟨u', h1, h2, h3⟩ := (h.seen n).1 hin
    have := hmin u' h1 (.inl h2)
    omega
  seen := fun x => by
    rw [hs]
    constructor
    · rintro (hx | ⟨w, hw, e⟩)
      · obtain ⟨u, h1, h2, h3⟩ := (h.seen x).1 hx
        exact ⟨u, h1, h2, by omega⟩
      · obtain ⟨n, hb, _⟩ := h.nbest hL hp hw
        have := hb.1.last hb.2.1
        rw [e] at this; cases this
        exact ⟨w, hb.1, by rw [hb.2.1]; omega, by rw [hb.2.1]; omega⟩
    · rintro ⟨u, h1, h2, h3⟩
      by_cases hx : x ∈ seen
      · exact .inl hx
      by_cases h4 : u.length ≤ k + 1
      · exact .inl ((h.seen x).2 ⟨u, h1, h2, h4⟩)
      · obtain ⟨w, hw, hb⟩ := h.nall hL hp h1 (by omega) hx
        exact .inr ⟨w, hw, hb.1.last hb.2.1⟩
end
/-- Where no way is left all that is come to was seen. -/
theorem Lay.done {T : Int → List Int} {a : Int} {k : Nat} {seen : List Int} (h : Lay T a (k + 1) [] seen) {u : List Int} {x : Int} (hu : Walk T a u x) (hl : 2 ≤ u.length) : x ∈ seen := by
  induction hu with
  | nil => simp at hl
  | @snoc u y x h1 h2 ih =>
    by_cases e : 2 ≤ u.length
    · obtain ⟨v, h3, h4, h5⟩ := (h.seen y).1 (ih e)
      by_cases h6 : v.length ≤ k + 1
      · exact (h.seen x).2 ⟨v ++ [x], .snoc h3 h2, by simp; omega, by simp; omega⟩
      · -- a shortest one of just k + 2 would be left
        by_cases h7 : ∃ v', Walk T a v' y ∧ 2 ≤ v'.length ∧ v'.length ≤ k + 1
        · obtain ⟨v', h8, h9, h10⟩ := h7
          exact (h.seen x).2 ⟨v' ++ [x], .snoc h8 h2, by simp; omega, by simp; omega⟩
        · obtain ⟨w, hw, _⟩ := h.all v y h3 (by omega) (fun u' hu' hc => by
            apply Classical.byContradiction
            intro hn
            exact h7 ⟨u', hu', by omega, by omega⟩)
          cases hw
    · cases h1 with
      | nil => exact (h.seen x).2 ⟨_, .snoc .nil h2, by simp, by simp⟩
      | snoc h3 _ => have := h3.len; rw [List.length_append, List.length_singleton] at e; omega
theorem Best.way {T : Int → List Int} {a n : Int} {k : Nat} {w : List Int} (h : Best T a (k + 1) n w) : WayIs T a n w := ⟨h.1, by rw [h.2.1]; omega, fun u hu hl => h.2.2 u hu (.inl hl)⟩
end Go.Proofs.Ytnplopiconabiaa.Span
