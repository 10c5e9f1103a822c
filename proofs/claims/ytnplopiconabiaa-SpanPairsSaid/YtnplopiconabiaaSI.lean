/- Span: plain facts on spans of few edges. -/
import Derived.Test.YtnplopiconabiaaSH
namespace Go.Proofs.Ytnplopiconabiaa.Span
open Go Go.V
set_option linter.unusedVariables false
set_option linter.unusedSimpArgs false

theorem reach_mono {T T' : Int → List Int} (h : ∀ y, ∀ x ∈ T y, x ∈ T' y) {a b : Int} (hr : Reach T a b) : Reach T' a b := by
  induction hr with
  | one h1 => exact .one (h _ _ h1)
  | more _ h1 ih => exact .more ih (h _ _ h1)
theorem succs_mono {E E' : List EG} (h : ∀ e ∈ E, e ∈ E') (lab : ByteArray) : ∀ y, ∀ x ∈ succs E lab y, x ∈ succs E' lab y := fun y x hx => by
  obtain ⟨e, he, h1⟩ := mem_succs.1 hx
  exact mem_succs.2 ⟨e, h e he, h1⟩
/-- A span's pairs, taken for edges, span the same. -/
theorem reach_pairs {T : Int → List Int} {lab : ByteArray} {X : List PI} (hX : ∀ x : PI, x ∈ X ↔ Reach T x.1 x.2) {a b : Int} : Reach (succs (X.map fun x => (⟨x.1, lab, x.2⟩ : EG)) lab) a b ↔ Reach T a b := by
  have hT : ∀ y x, x ∈ succs (X.map fun x => (⟨x.1, lab, x.2⟩ : EG)) lab y ↔ Reach T y x := fun y x => by
    rw [mem_succs]
    constructor
    · rintro ⟨e, he, h1, h2, h3⟩
      obtain ⟨z, hz, rfl⟩ := List.mem_map.1 he
      have h2 : z.1 = y := h2
      have h3 : z.2 = x := h3
      rw [← h2, ← h3]; exact (hX z).1 hz
    · intro h
      exact ⟨_, List.mem_map.2 ⟨(y, x), (hX _).2 h, rfl⟩, rfl, rfl, rfl⟩
  constructor
  · intro h
    induction h with
    | one h => exact (hT _ _).1 h
    | more _ h ih => exact ih.trans ((hT _ _).1 h)
  · intro h; exact .one ((hT _ _).2 h)
/-- Of few edges the span has few pairs. -/
theorem few {E : List EG} {lab : ByteArray} {X : List PI} (hn : X.Nodup) (hX : ∀ x ∈ X, Reach (succs E lab) x.1 x.2) : X.length ≤ E.length * E.length := by
  have h := sub_len hn (l' := E.flatMap fun e => E.map fun e' => ((e.f, e'.t) : PI)) (fun x hx => by
    have hr := hX x hx
    obtain ⟨y, r, h1⟩ := List.exists_cons_of_ne_nil hr.first
    obtain ⟨e, he, _, h2, _⟩ := mem_succs.1 (show y ∈ succs E lab x.1 by rw [h1]; simp)
    obtain ⟨z, hz⟩ := hr.last
    obtain ⟨e', he', _, _, h3⟩ := mem_succs.1 hz
    exact List.mem_flatMap.2 ⟨e, he, List.mem_map.2 ⟨e', he', Prod.ext h2 h3⟩⟩)
  refine Nat.le_trans h ?_
  rw [List.length_flatMap]
  simp only [List.length_map]
  have : ∀ l : List EG, (l.map fun _ => E.length).sum = l.length * E.length := fun l => by
    induction l with
    | nil => simp
    | cons a l ih => rw [List.map_cons, List.sum_cons, ih, List.length_cons, Nat.succ_mul]; omega
  rw [this]; exact Nat.le_refl _
theorem plt_ext {l l' : List PI} (h : l.Pairwise plt) (h' : l'.Pairwise plt) (he : ∀ x, x ∈ l ↔ x ∈ l') : l = l' := by
  have n1 : l.Nodup := h.imp fun h e => by rw [e] at h; exact plt_irrefl _ h
  have n2 : l'.Nodup := h'.imp fun h e => by rw [e] at h; exact plt_irrefl _ h
  exact ((List.perm_ext_iff_of_nodup n1 n2).2 he).eq_of_pairwise (fun a b _ _ h1 h2 => by
    unfold plt at h1 h2
    exact Prod.ext (by omega) (by omega)) h h'
/-- What Pairs answers where the span is known to be small. -/
theorem said_list {T : Int → List Int} {w w' : World} {e : Ending} (h : PairsSaid T true w e w') (hfew : ∀ X : List PI, X.Nodup → (∀ x ∈ X, Reach T x.1 x.2) → X.length ≤ 4000) :
    ∃ (b : Nat) (Z : List (Nat × PI)), e = .returned (.tuple #[.slice (some ⟨b, 0, none⟩) Z.length Z.length, I64 0]) ∧ (Z.map (·.2)).Pairwise plt ∧ (∀ x, x ∈ Z.map (·.2) ↔ Reach T x.1 x.2) ∧ Z.length ≤ 4000 ∧ (∃ c, OwnP w' w.heap.size 1 (some ⟨b, 0, none⟩) Z.length c (Z.map tz)) ∧ Tups w' Z ∧ (∀ z ∈ Z, w.heap.size ≤ z.1) ∧ ∀ z ∈ Z, z.1 ≠ b := by
  rcases h with ⟨h, _⟩ | ⟨_, ⟨X, hn, hl4, hx, _⟩ | h⟩
  · cases h
  · have := hfew X hn hx; omega
  · exact h
end Go.Proofs.Ytnplopiconabiaa.Span
