/- Span: the document's span and rings, the plain part. -/
import Derived.Test.YtnplopiconabiaaSM
import Derived.Test.YtnplopiconabiaaSE
namespace Go.Proofs.Ytnplopiconabiaa.Span
open Go Go.V
set_option linter.unusedVariables false
set_option linter.unusedSimpArgs false

theorem Reach.left {T : Int → List Int} {a b : Int} (h : Reach T a b) : ∀ P : Int → Prop, (∀ x, b ∈ T x → P x) → (∀ x y, y ∈ T x → P y → P x) → P a := by
  induction h with
  | one h => exact fun P h1 _ => h1 a h
  | more _ h ih => exact fun P h1 h2 => ih P (fun x hx => h2 x _ hx (h1 _ h)) h2
/-- Pairs that were put together till nothing is new. -/
structure Clo (T : Int → List Int) (L out : List (Int × Int)) (i : Nat) : Prop where
  base : ∀ p ∈ L, p ∈ out
  sub : ∀ p ∈ out, Reach T p.1 p.2
  nodup : out.Nodup
  clo : ∀ j (q : Int × Int), j < i → out[j]? = some q → ∀ e ∈ L, e.2 = q.1 → (e.1, q.2) ∈ out
theorem Clo.all {T : Int → List Int} {L out : List (Int × Int)} {i : Nat} (h : Clo T L out i) (hL : ∀ p : Int × Int, p ∈ L ↔ p.2 ∈ T p.1) (hi : out.length ≤ i) {x : Int × Int} : x ∈ out ↔ Reach T x.1 x.2 := by
  refine ⟨h.sub x, fun hr => ?_⟩
  obtain ⟨a, b⟩ := x
  refine hr.left (fun a => (a, b) ∈ out) (fun x hx => h.base _ ((hL (x, b)).2 hx)) fun x y hy hin => ?_
  obtain ⟨j, hj, e⟩ := List.mem_iff_getElem.1 hin
  exact h.clo j (y, b) (by omega) (by rw [List.getElem?_eq_getElem hj, e]) (x, y) ((hL (x, y)).2 hy) rfl
/-- One more pair. -/
theorem Clo.add {T : Int → List Int} {L out : List (Int × Int)} {i : Nat} (h : Clo T L out i) {p : Int × Int} (hr : Reach T p.1 p.2) (hn : p ∉ out) (hi : i ≤ out.length) : Clo T L (out ++ [p]) i where
  base := fun q hq => List.mem_append_left _ (h.base q hq)
  sub := fun q hq => by
    rcases List.mem_append.1 hq with hq | hq
    · exact h.sub q hq
    · rw [List.mem_singleton.1 hq]; exact hr
  nodup := by
    rw [List.nodup_append]
    exact ⟨h.nodup, by simp, fun x hx y hy e => hn (by rw [← List.mem_singleton.1 hy, ← e]; exact hx)⟩
  clo := fun j q hj hq e he h2 => by
    rw [List.getElem?_append_left (by omega)] at hq
    exact List.mem_append_left _ (h.clo j q hj hq e he h2)
theorem clo_few {T : Int → List Int} {L out : List (Int × Int)} {i : Nat} (h : Clo T L out i) (hL : ∀ p : Int × Int, p ∈ L ↔ p.2 ∈ T p.1) : out.length ≤ L.length * L.length := by
  have h2 := sub_len h.nodup (l' := L.flatMap fun e => L.map fun e' => ((e.1, e'.2) : Int × Int)) (fun x hx => by
    have hr := h.sub x hx
    obtain ⟨y, r, h1⟩ := List.exists_cons_of_ne_nil hr.first
    have m1 : (x.1, y) ∈ L := (hL (x.1, y)).2 (show y ∈ T x.1 by rw [h1]; simp)
    obtain ⟨z, hz⟩ := hr.last
    have m2 : (z, x.2) ∈ L := (hL (z, x.2)).2 hz
    exact List.mem_flatMap.2 ⟨_, m1, List.mem_map.2 ⟨_, m2, rfl⟩⟩)
  refine Nat.le_trans h2 ?_
  rw [List.length_flatMap]
  simp only [List.length_map]
  have : ∀ l : List (Int × Int), (l.map fun _ => L.length).sum = l.length * L.length := fun l => by
    induction l with
    | nil => simp
    | cons a l ih => rw [List.map_cons, List.sum_cons, ih, List.length_cons, Nat.succ_mul]; omega
  rw [this]; exact Nat.le_refl _
/-- The first i numbers rise, but for the k-th among them. -/
structure Ins (l : List Int) (i k : Nat) : Prop where
  le : k ≤ i
  lt : i < l.length
  nodup : l.Nodup
  up : ∀ j j' x y, j < j' → j' ≤ i → j' ≠ k → l[j]? = some x → l[j']? = some y → x < y
def Up (l : List Int) (i : Nat) : Prop := ∀ j j' x y, j < j' → j' < i → l[j]? = some x → l[j']? = some y → x < y
theorem Ins.start {l : List Int} {i : Nat} (h : Up l i) (hi : i < l.length) (hn : l.Nodup) : Ins l i i :=
  ⟨Nat.le_refl _, hi, hn, fun j j' x y h1 h2 h3 => h j j' x y h1 (by omega)⟩
theorem Ins.done {l : List Int} {i k : Nat} (h : Ins l i k) (hk : k = 0 ∨ ∃ x y, l[k - 1]? = some x ∧ l[k]? = some y ∧ ¬ y < x) : Up l (i + 1) := fun j j' x y h1 h2 hx hy => by
  by_cases e : j' = k
  · subst e
    rcases hk with hk | ⟨x', y', hx', hy', hle⟩
    · omega
    · rw [hy] at hy'; cases hy'
      have hne : x' ≠ y := fun e => by
        subst e
        obtain ⟨a1, a2⟩ := List.getElem?_eq_some_iff.1 hx'
        obtain ⟨b1, b2⟩ := List.getElem?_eq_some_iff.1 hy
        have := (List.getElem_inj h.nodup).1 (a2.trans b2.symm)
        omega
      by_cases e2 : j = j' - 1
      · subst e2; rw [hx] at hx'; cases hx'; omega
      · have := h.up j (j' - 1) x x' (by omega) (by have := h.le; omega) (by omega) hx hx'
        omega
  · exact h.up j j' x y h1 (by omega) e hx hy
theorem swap_get {l : List Int} {k : Nat} (hk : 0 < k) (hl : k < l.length) {x y : Int} (hx : l[k - 1]? = some x) (hy : l[k]? = some y) (j : Nat) : ((l.set k x).set (k - 1) y)[j]? = if j = k then l[k - 1]? else if j = k - 1 then l[k]? else l[j]? := by
  rw [List.getElem?_set, List.getElem?_set]
  by_cases e1 : k - 1 = j
  · rw [if_pos e1, if_pos (by rw [List.length_set]; omega), if_neg (by omega), if_pos e1.symm, hy]
  · rw [if_neg e1]
    by_cases e2 : k = j
    · subst e2; rw [if_pos rfl, if_pos rfl, if_pos hl, hx]
    · rw [if_neg e2, if_neg (fun e => e2 e.symm), if_neg (fun e => e1 e.symm)]
theorem swap_perm {l : List Int} {k : Nat} (hk : 0 < k) (hl : k < l.length) {x y : Int} (hx : l[k - 1]? = some x) (hy : l[k]? = some y) : ((l.set k x).set (k - 1) y).Perm l := by
  obtain ⟨a1, a2⟩ := List.getElem?_eq_some_iff.1 hx
  obtain ⟨b1, b2⟩ := List.getElem?_eq_some_iff.1 hy
  have e1 : l = l.take (k - 1) ++ x :: y :: l.drop (k + 1) := by
    have h1 : l.drop (k - 1) = x :: y :: l.drop (k + 1) := by
      rw [List.drop_eq_getElem_cons a1, a2, show k - 1 + 1 = k by omega, List.drop_eq_getElem_cons b1, b2]
    rw [← h1, List.take_append_drop]
  have hlen : (l.take (k - 1)).length = k - 1 := by rw [List.length_take]; omega
  have e2 : (l.set k x).set (k - 1) y = l.take (k - 1) ++ y :: x :: l.drop (k + 1) := by
    generalize l.take (k - 1) = A at *
    generalize l.drop (k + 1) = B at *
    subst e1
    rw [List.set_append_right _ _ (by omega), List.set_append_right _ _ (by omega), hlen, show k - (k - 1) = 1 by omega, Nat.sub_self]
    rfl
  rw [e2]
  conv => rhs; rw [e1]
  exact List.Perm.append_left _ (List.Perm.swap _ _ _)
theorem Ins.swap {l : List Int} {i k : Nat} (h : Ins l i k) (hk : 0 < k) {x y : Int} (hx : l[k - 1]? = some x) (hy : l[k]? = some y) (hlt : y < x) : Ins ((l.set k x).set (k - 1) y) i (k - 1) := by
  have hki := h.le
  have hil := h.lt
  refine ⟨by omega, by simpa using h.lt, (swap_perm hk (by omega) hx hy).nodup_iff.2 h.nodup, fun j j' u v h1 h2 h3 hu hv => ?_⟩
  rw [swap_get hk (by omega) hx hy] at hu hv
  by_cases e1 : j' = k
  · subst e1
    rw [if_pos rfl, hx] at hv; cases hv
    rw [if_neg (by omega)] at hu
    by_cases e2 : j = j' - 1
    · rw [if_pos e2, hy] at hu; cases hu; exact hlt
    · rw [if_neg e2] at hu
      exact h.up j (j' - 1) u x (by omega) (by omega) (by omega) hu hx
  · rw [if_neg e1, if_neg h3] at hv
    by_cases e2 : j = k
    · rw [if_pos e2] at hu
      exact h.up (k - 1) j' u v (by omega) h2 e1 hu hv
    · rw [if_neg e2] at hu
      by_cases e3 : j = k - 1
      · rw [if_pos e3] at hu
        exact h.up k j' u v (by omega) h2 e1 hu hv
      · rw [if_neg e3] at hu
        exact h.up j j' u v h1 h2 e1 hu hv
theorem Up.lt {l : List Int} (h : Up l l.length) : l.Pairwise (· < ·) := by
  rw [List.pairwise_iff_getElem]
  intro i j hi hj hij
  exact h i j _ _ hij hj (List.getElem?_eq_getElem hi) (List.getElem?_eq_getElem hj)
section
open Classical
/-- Who is in a ring leads to itself. -/
theorem in_rings {T : Int → List Int} {K : List Int} (hK : ∀ a b, Reach T a b → a ∈ K) {a : Int} : (∃ r ∈ ringsOf T K K, a ∈ r) ↔ Reach T a a := by
  constructor
  · rintro ⟨r, hr, ha⟩
    obtain ⟨h, _, _, rfl⟩ := mem_ringsOf.1 hr
    exact (mem_ringOf.1 ha).2.symm.self
  · intro h
    have hm : Mut T a a := ⟨h, h⟩
    obtain ⟨m, hmm, hmin⟩ := least (l := ringOf T K a) (List.ne_nil_of_mem (mem_ringOf.2 ⟨hK _ _ h, hm⟩))
    have h1 := mem_ringOf.1 hmm
    refine ⟨_, mem_ringsOf.2 ⟨m, h1.1, ⟨h1.2.symm.self, fun y hy h => hmin y (mem_ringOf.2 ⟨hy, h1.2.trans h⟩)⟩, rfl⟩, mem_ringOf.2 ⟨hK _ _ h, h1.2.symm⟩⟩
/-- The rings are the same over all nodes that lead to themselves. -/
theorem rings_ext {T : Int → List Int} {K K' : List Int} (h1 : K.Pairwise (· < ·)) (h2 : K'.Pairwise (· < ·)) (hK : ∀ a, Reach T a a → a ∈ K) (hK' : ∀ a, Reach T a a → a ∈ K') : ringsOf T K K = ringsOf T K' K' := by
  have er : ∀ a, ringOf T K a = ringOf T K' a := fun a => lt_ext (h1.filter _) (h2.filter _) fun x => by
    rw [mem_ringOf, mem_ringOf]
    exact ⟨fun h => ⟨hK' _ h.2.symm.self, h.2⟩, fun h => ⟨hK _ h.2.symm.self, h.2⟩⟩
  have eh : ∀ a, IsHead T K a ↔ IsHead T K' a := fun a => by
    constructor
    · exact fun h => ⟨h.1, fun x hx hm => h.2 x (hK _ hm.symm.self) hm⟩
    · exact fun h => ⟨h.1, fun x hx hm => h.2 x (hK' _ hm.symm.self) hm⟩
  have ef : (K.filter fun a => decide (IsHead T K a)) = K'.filter fun a => decide (IsHead T K' a) := lt_ext (h1.filter _) (h2.filter _) fun x => by
    rw [List.mem_filter, List.mem_filter, decide_eq_true_eq, decide_eq_true_eq]
    exact ⟨fun h => ⟨hK' _ h.2.1, (eh x).1 h.2⟩, fun h => ⟨hK _ h.2.1, (eh x).2 h.2⟩⟩
  unfold ringsOf
  rw [ef]
  exact List.map_congr_left fun a _ => er a
end
end Go.Proofs.Ytnplopiconabiaa.Span
