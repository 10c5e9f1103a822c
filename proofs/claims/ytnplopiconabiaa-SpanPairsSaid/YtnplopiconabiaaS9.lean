/- Span: rings, the plain part. -/
import Derived.Test.YtnplopiconabiaaS8
namespace Go.Proofs.Ytnplopiconabiaa.Span
open Go Go.V
set_option linter.unusedVariables false
set_option linter.unusedSimpArgs false
open Classical

theorem lt_ext {l l' : List Int} (h : l.Pairwise (· < ·)) (h' : l'.Pairwise (· < ·)) (he : ∀ x, x ∈ l ↔ x ∈ l') : l = l' := by
  have hp : l.Perm l' := (List.perm_ext_iff_of_nodup (h.imp fun h => by omega) (h'.imp fun h => by omega)).2 he
  exact hp.eq_of_pairwise (fun a b _ _ h1 h2 => by omega) h h'
theorem Reach.trans {T : Int → List Int} {a b c : Int} (h : Reach T a b) (h2 : Reach T b c) : Reach T a c := by
  induction h2 with
  | one hb => exact .more h hb
  | more _ hc ih => exact .more ih hc
/-- Two nodes that lead to one another. -/
def Mut (T : Int → List Int) (a b : Int) : Prop := Reach T a b ∧ Reach T b a
theorem Mut.symm {T : Int → List Int} {a b : Int} (h : Mut T a b) : Mut T b a := ⟨h.2, h.1⟩
theorem Mut.trans {T : Int → List Int} {a b c : Int} (h : Mut T a b) (h2 : Mut T b c) : Mut T a c := ⟨h.1.trans h2.1, h2.2.trans h.2⟩
theorem Mut.self {T : Int → List Int} {a b : Int} (h : Mut T a b) : Reach T a a := h.1.trans h.2
noncomputable def ringOf (T : Int → List Int) (K : List Int) (a : Int) : List Int := K.filter fun x => decide (Mut T a x)
def IsHead (T : Int → List Int) (K : List Int) (a : Int) : Prop := Reach T a a ∧ ∀ x ∈ K, Mut T a x → a ≤ x
noncomputable def ringsOf (T : Int → List Int) (K L : List Int) : List (List Int) := (L.filter fun a => decide (IsHead T K a)).map (ringOf T K)
theorem mem_ringOf {T : Int → List Int} {K : List Int} {a x : Int} : x ∈ ringOf T K a ↔ x ∈ K ∧ Mut T a x := by simp [ringOf]
theorem mem_ringsOf {T : Int → List Int} {K L : List Int} {r : List Int} : r ∈ ringsOf T K L ↔ ∃ h ∈ L, IsHead T K h ∧ r = ringOf T K h := by
  simp [ringsOf]
  constructor
  · rintro ⟨h, ⟨h1, h2⟩, rfl⟩; exact ⟨h, h1, h2, rfl⟩
  · rintro ⟨h, h1, h2, rfl⟩; exact ⟨h, ⟨h1, h2⟩, rfl⟩
theorem least : ∀ {l : List Int}, l ≠ [] → ∃ m ∈ l, ∀ x ∈ l, m ≤ x
  | [a], _ => ⟨a, by simp, by simp⟩
  | a :: b :: l, _ => by
    obtain ⟨m, hm, h⟩ := least (l := b :: l) (by simp)
    by_cases e : a ≤ m
    · exact ⟨a, by simp, fun x hx => by
        rcases List.mem_cons.1 hx with rfl | hx
        · omega
        · have := h x hx; omega⟩
    · exact ⟨m, List.mem_cons_of_mem _ hm, fun x hx => by
        rcases List.mem_cons.1 hx with rfl | hx
        · omega
        · exact h x hx⟩
section
variable {T : Int → List Int} {K : List Int} (hK : K.Pairwise (· < ·)) {i : Nat} (hi : i < K.length)
include hK hi
theorem take_lt {x : Int} : x ∈ K.take i ↔ x ∈ K ∧ x < K[i] := by
  constructor
  · intro h
    obtain ⟨j, hj, e⟩ := List.mem_take_iff_getElem.1 h
    subst e
    exact ⟨List.getElem_mem _, (List.pairwise_iff_getElem.1 hK) j i (by omega) hi (by omega)⟩
  · rintro ⟨h, h2⟩
    obtain ⟨j, hj, rfl⟩ := List.mem_iff_getElem.1 h
    refine List.mem_take_iff_getElem.2 ⟨j, ?_, rfl⟩
    have : j < i := by
      rcases Nat.lt_trichotomy j i with h3 | h3 | h3
      · exact h3
      · subst h3; omega
      · have := (List.pairwise_iff_getElem.1 hK) i j hi hj h3; omega
    omega
theorem seen_not {r : List Int} (hr : r ∈ ringsOf T K (K.take i)) (hx : K[i] ∈ r) : ¬ IsHead T K K[i] := by
  obtain ⟨h, h1, h2, rfl⟩ := mem_ringsOf.1 hr
  intro h3
  have h4 := (mem_ringOf.1 hx).2
  obtain ⟨h5, h6⟩ := (take_lt hK hi).1 h1
  have := h3.2 h h5 h4.symm
  omega
theorem unseen_head (hs : Reach T K[i] K[i]) (hn : ∀ r ∈ ringsOf T K (K.take i), K[i] ∉ r) : IsHead T K K[i] := by
  refine ⟨hs, fun x hx hm => ?_⟩
  apply Classical.byContradiction
  intro hlt
  obtain ⟨m, hmm, hmin⟩ := least (l := ringOf T K K[i]) (List.ne_nil_of_mem (mem_ringOf.2 ⟨hx, hm⟩))
  have h1 := mem_ringOf.1 hmm
  have h2 := hmin x (mem_ringOf.2 ⟨hx, hm⟩)
  have hh : IsHead T K m := ⟨h1.2.symm.self, fun y hy h => hmin y (mem_ringOf.2 ⟨hy, h1.2.trans h⟩)⟩
  exact hn _ (mem_ringsOf.2 ⟨m, (take_lt hK hi).2 ⟨h1.1, by omega⟩, hh, rfl⟩) (mem_ringOf.2 ⟨List.getElem_mem _, h1.2.symm⟩)
omit hK in
theorem ring_new (hn : ∀ r ∈ ringsOf T K (K.take i), K[i] ∉ r) {x : Int} (hx : Mut T K[i] x) : ∀ r ∈ ringsOf T K (K.take i), x ∉ r := fun r hr h => by
  obtain ⟨a, h1, h2, rfl⟩ := mem_ringsOf.1 hr
  exact hn _ hr (mem_ringOf.2 ⟨List.getElem_mem _, (mem_ringOf.1 h).2.trans hx.symm⟩)
omit hK in
theorem rings_yes (h : IsHead T K K[i]) : ringsOf T K (K.take (i + 1)) = ringsOf T K (K.take i) ++ [ringOf T K K[i]] := by
  rw [take_snoc hi, ringsOf, List.filter_append, List.map_append]
  have : [K[i]].filter (fun a => decide (IsHead T K a)) = [K[i]] := by simp [h]
  rw [this]; rfl
omit hK in
theorem rings_no (h : ¬ IsHead T K K[i]) : ringsOf T K (K.take (i + 1)) = ringsOf T K (K.take i) := by
  rw [take_snoc hi, ringsOf, List.filter_append, List.map_append]
  have : [K[i]].filter (fun a => decide (IsHead T K a)) = [] := by simp [h]
  rw [this]; simp [ringsOf]
end
theorem ring_eq {T : Int → List Int} {K Kt : List Int} (hK : K.Pairwise (· < ·)) (hT : Kt.Pairwise (· < ·)) {a : Int} (h1 : ∀ x, x ∈ Kt ↔ Reach T a x) (h2 : ∀ x, Reach T x a → x ∈ K) : Kt.filter (fun x => decide (Reach T x a)) = ringOf T K a := by
  refine lt_ext (hT.filter _) (hK.filter _) fun x => ?_
  rw [mem_ringOf, List.mem_filter, h1, decide_eq_true_eq]
  exact ⟨fun h => ⟨h2 x h.2, h⟩, fun h => h.2⟩
theorem take_filter {p : Int → Bool} {l : List Int} {j : Nat} (h : j < l.length) : (l.take (j + 1)).filter p = (l.take j).filter p ++ if p l[j] then [l[j]] else [] := by
  rw [take_snoc h, List.filter_append]
  by_cases e : p l[j] <;> simp [e]
/-- What a map of counts tells. -/
theorem cnt_look {l : List (Int × Value)} (hn : (l.map (·.1)).Nodup) (hc : ∀ q ∈ l, ∃ n : Int, q.2 = I64 n ∧ 1 ≤ n ∧ n ≤ 200000) (x : Int) : ∃ k : Int, (∃ b, LookRel l x (I64 0) (I64 k) b) ∧ 0 ≤ k ∧ k ≤ 200000 ∧ (0 < k ↔ x ∈ l.map (·.1)) := by
  cases hlk : V.look l x with
  | some y =>
    obtain ⟨n, h1, h2, h3⟩ := hc _ (look_mem hlk)
    have h1 : y = I64 n := h1
    subst h1
    exact ⟨n, ⟨true, .inl ⟨rfl, hlk⟩⟩, by omega, h3, ⟨fun _ => List.mem_map.2 ⟨_, look_mem hlk, rfl⟩, fun _ => by omega⟩⟩
  | none =>
    refine ⟨0, ⟨false, .inr ⟨rfl, hlk, rfl⟩⟩, by omega, by omega, ⟨fun h => absurd h (by omega), fun hx => ?_⟩⟩
    obtain ⟨q, hq, e⟩ := List.mem_map.1 hx
    have := look_of_mem hn (k := q.1) (x := q.2) hq
    rw [e, hlk] at this; cases this
end Go.Proofs.Ytnplopiconabiaa.Span
