/- The tree, plain: pairs that rise. -/
import Derived.Test.YtalegpdnhkopmaaDoorE0
namespace Go.Proofs.YtalegpdnhkopmaaDoor.Tree
open Go Go.V Go.RowKit
open Go.Proofs.YtalegpdnhkopmaaDoor.By
set_option linter.unusedVariables false
set_option linter.unusedSimpArgs false

abbrev KV := Bs × Bs
inductive Tr where
  | nil
  | node (k v : Bs) (l r : Tr)
def Tr.dep : Tr → Nat
  | nil => 0
  | node _ _ l r => 1 + max l.dep r.dep
def Tr.cnt : Tr → Nat
  | nil => 0
  | node _ _ l r => 1 + l.cnt + r.cnt
def Tr.toL : Tr → List KV
  | nil => []
  | node k v l r => l.toL ++ (k, v) :: r.toL
theorem Tr.len : ∀ T : Tr, T.toL.length = T.cnt
  | nil => rfl
  | node k v l r => by
    rw [toL, List.length_append, List.length_cons, l.len, r.len, cnt]; omega
theorem Tr.dep_le : ∀ T : Tr, T.dep ≤ T.cnt
  | nil => Nat.le_refl _
  | node k v l r => by
    have := l.dep_le; have := r.dep_le
    rw [dep, cnt]; omega
/-- Rising keys. -/
def Srt (L : List KV) : Prop := L.Pairwise fun x y => lt8 x.1 y.1
theorem Srt.mid {A B : List KV} {x : KV} (h : Srt (A ++ x :: B)) : Srt A ∧ Srt B ∧ (∀ a ∈ A, lt8 a.1 x.1) ∧ (∀ b ∈ B, lt8 x.1 b.1) := by
  unfold Srt at h ⊢
  rw [List.pairwise_append, List.pairwise_cons] at h
  exact ⟨h.1, h.2.1.2, fun a ha => h.2.2 a ha x List.mem_cons_self, h.2.1.1⟩
/-- With a pair more, or another value. -/
def insL (k v : Bs) : List KV → List KV
  | [] => [(k, v)]
  | x :: t => if lt8 k x.1 then (k, v) :: x :: t else if k = x.1 then (k, v) :: t else x :: insL k v t
def delL (k : Bs) (L : List KV) : List KV := L.filter fun x => decide (x.1 ≠ k)
theorem insL_lt {k v : Bs} {x : KV} {B : List KV} : ∀ {A : List KV}, lt8 k x.1 → insL k v (A ++ x :: B) = insL k v A ++ x :: B
  | [], h => by simp [insL, h]
  | a :: A, h => by
    rw [List.cons_append, insL, insL]
    split
    · rfl
    · split
      · rfl
      · rw [insL_lt h]; rfl
theorem insL_eq {v : Bs} {x : KV} {B : List KV} : ∀ {A : List KV}, (∀ a ∈ A, lt8 a.1 x.1) → insL x.1 v (A ++ x :: B) = A ++ (x.1, v) :: B
  | [], h => by simp [insL, lt8_irr]
  | a :: A, h => by
    have ha := h a List.mem_cons_self
    rw [List.cons_append, insL, if_neg (lt8_asymm ha), if_neg (fun e => by rw [e] at ha; exact lt8_irr _ ha), insL_eq fun b hb => h b (List.mem_cons_of_mem _ hb)]
    rfl
theorem insL_gt {k v : Bs} {x : KV} {B : List KV} (hx : lt8 x.1 k) : ∀ {A : List KV}, (∀ a ∈ A, lt8 a.1 x.1) → insL k v (A ++ x :: B) = A ++ x :: insL k v B
  | [], h => by rw [List.nil_append, List.nil_append, insL, if_neg (lt8_asymm hx), if_neg (fun e => by rw [e] at hx; exact lt8_irr _ hx)]
  | a :: A, h => by
    have ha := lt8_trans (h a List.mem_cons_self) hx
    rw [List.cons_append, insL, if_neg (lt8_asymm ha), if_neg (fun e => by rw [e] at ha; exact lt8_irr _ ha), insL_gt hx fun b hb => h b (List.mem_cons_of_mem _ hb)]
    rfl
theorem delL_none {k : Bs} {L : List KV} (h : ∀ a ∈ L, a.1 ≠ k) : delL k L = L := by
  unfold delL
  rw [List.filter_eq_self]
  exact fun a ha => decide_eq_true (h a ha)
theorem delL_app (k : Bs) (A B : List KV) : delL k (A ++ B) = delL k A ++ delL k B := List.filter_append _ _
theorem delL_lt {k : Bs} {x : KV} {A B : List KV} (h : Srt (A ++ x :: B)) (hk : lt8 k x.1) : delL k (A ++ x :: B) = delL k A ++ x :: B := by
  obtain ⟨_, _, _, hB⟩ := h.mid
  rw [delL_app, delL_none (L := x :: B) fun a ha => ?_]
  rcases List.mem_cons.1 ha with rfl | ha
  · intro e; rw [e] at hk; exact lt8_irr _ hk
  · intro e; have := lt8_trans hk (hB a ha); rw [e] at this; exact lt8_irr _ this
theorem delL_gt {k : Bs} {x : KV} {A B : List KV} (h : Srt (A ++ x :: B)) (hk : lt8 x.1 k) : delL k (A ++ x :: B) = A ++ x :: delL k B := by
  obtain ⟨_, _, hA, _⟩ := h.mid
  have e : delL k (x :: B) = x :: delL k B := by
    unfold delL; rw [List.filter_cons, if_pos (by simp; intro e; rw [e] at hk; exact lt8_irr _ hk)]
  rw [delL_app, e, delL_none fun a ha e => by have := lt8_trans (hA a ha) hk; rw [e] at this; exact lt8_irr _ this]
theorem delL_eq {x : KV} {A B : List KV} (h : Srt (A ++ x :: B)) : delL x.1 (A ++ x :: B) = A ++ B := by
  obtain ⟨_, _, hA, hB⟩ := h.mid
  have e : delL x.1 (x :: B) = B := by
    unfold delL; rw [List.filter_cons, if_neg (by simp)]
    exact delL_none fun a ha e => by have := hB a ha; rw [e] at this; exact lt8_irr _ this
  rw [delL_app, e, delL_none fun a ha e => by have := hA a ha; rw [e] at this; exact lt8_irr _ this]
theorem mem_insL {k v : Bs} {y : KV} : ∀ {L : List KV}, Srt L → (y ∈ insL k v L ↔ y = (k, v) ∨ y.1 ≠ k ∧ y ∈ L)
  | [], _ => by simp [insL]
  | x :: L, h => by
    have h' := List.pairwise_cons.1 h
    rw [insL]
    split
    · rename_i c
      simp only [List.mem_cons]
      constructor
      · rintro (rfl | rfl | hy)
        · exact .inl rfl
        · exact .inr ⟨fun e => by rw [e] at c; exact lt8_irr _ c, .inl rfl⟩
        · exact .inr ⟨fun e => by have := lt8_trans c (h'.1 y hy); rw [e] at this; exact lt8_irr _ this, .inr hy⟩
      · rintro (rfl | ⟨_, hy⟩)
        · exact .inl rfl
        · exact .inr hy
    · rename_i c
      split
      · rename_i e
        simp only [List.mem_cons]
        constructor
        · rintro (rfl | hy)
          · exact .inl rfl
          · exact .inr ⟨fun e2 => by have := h'.1 y hy; rw [← e, e2] at this; exact lt8_irr _ this, .inr hy⟩
        · rintro (rfl | ⟨hn, rfl | hy⟩)
          · exact .inl rfl
          · exact absurd e.symm hn
          · exact .inr hy
      · rename_i e
        rw [List.mem_cons, mem_insL h'.2, List.mem_cons]
        constructor
        · rintro (rfl | rfl | ⟨h1, h2⟩)
          · exact .inr ⟨fun z => e z.symm, .inl rfl⟩
          · exact .inl rfl
          · exact .inr ⟨h1, .inr h2⟩
        · rintro (rfl | ⟨h1, rfl | h2⟩)
          · exact .inr (.inl rfl)
          · exact .inl rfl
          · exact .inr (.inr ⟨h1, h2⟩)
theorem Srt.ins {k v : Bs} : ∀ {L : List KV}, Srt L → Srt (insL k v L)
  | [], _ => List.pairwise_singleton _ _
  | x :: L, h => by
    have h' := List.pairwise_cons.1 h
    rw [insL]
    split
    · rename_i c
      refine List.pairwise_cons.2 ⟨fun y hy => ?_, h⟩
      rcases List.mem_cons.1 hy with rfl | hy
      · exact c
      · exact lt8_trans c (h'.1 y hy)
    · rename_i c
      split
      · rename_i e
        refine List.pairwise_cons.2 ⟨fun y hy => ?_, h'.2⟩
        rw [e]; exact h'.1 y hy
      · rename_i e
        refine List.pairwise_cons.2 ⟨fun y hy => ?_, Srt.ins h'.2⟩
        rcases (mem_insL h'.2).1 hy with rfl | ⟨_, hy⟩
        · rcases lt8_total k x.1 with g | g | g
          · exact absurd g c
          · exact absurd g e
          · exact g
        · exact h'.1 y hy
theorem Srt.del {k : Bs} {L : List KV} (h : Srt L) : Srt (delL k L) := h.sublist List.filter_sublist
theorem mem_delL {k : Bs} {y : KV} {L : List KV} : y ∈ delL k L ↔ y.1 ≠ k ∧ y ∈ L := by
  unfold delL; rw [List.mem_filter, decide_eq_true_eq, and_comm]
/-- A key's value. -/
def lookL (k : Bs) (L : List KV) : Option Bs := (L.find? fun x => decide (x.1 = k)).map (·.2)
theorem lookL_some {k v : Bs} {L : List KV} (h : Srt L) : lookL k L = some v ↔ (k, v) ∈ L := by
  induction L with
  | nil => simp [lookL]
  | cons x L ih =>
    have h' := List.pairwise_cons.1 h
    have ih := ih h'.2
    unfold lookL at ih ⊢
    rw [List.find?_cons]
    split
    · rename_i e
      have e : x.1 = k := of_decide_eq_true e
      constructor
      · intro z
        have z : x.2 = v := by simpa using z
        rw [← e, ← z]; exact List.mem_cons_self
      · intro z
        rcases List.mem_cons.1 z with rfl | z
        · rfl
        · have := h'.1 _ z; rw [e] at this; exact (lt8_irr _ this).elim
    · rename_i e
      have e : ¬ x.1 = k := of_decide_eq_false e
      rw [ih, List.mem_cons]
      constructor
      · exact .inr
      · rintro (rfl | z)
        · exact absurd rfl e
        · exact z
theorem lookL_none {k : Bs} {L : List KV} : lookL k L = none ↔ ∀ x ∈ L, x.1 ≠ k := by
  unfold lookL
  rw [Option.map_eq_none_iff, List.find?_eq_none]
  simp
theorem lookL_lt {k : Bs} {x : KV} {A B : List KV} (h : Srt (A ++ x :: B)) (hk : lt8 k x.1) : lookL k (A ++ x :: B) = lookL k A := by
  obtain ⟨_, _, _, hB⟩ := h.mid
  unfold lookL
  rw [List.find?_append]
  have : List.find? (fun x => decide (x.1 = k)) (x :: B) = none := by
    rw [List.find?_eq_none]
    intro a ha
    rcases List.mem_cons.1 ha with rfl | ha
    · simp; intro e; rw [e] at hk; exact lt8_irr _ hk
    · simp; intro e; have := lt8_trans hk (hB a ha); rw [e] at this; exact lt8_irr _ this
  rw [this, Option.or_none]
theorem lookL_gt {k : Bs} {x : KV} {A B : List KV} (h : Srt (A ++ x :: B)) (hk : lt8 x.1 k) : lookL k (A ++ x :: B) = lookL k B := by
  obtain ⟨_, _, hA, _⟩ := h.mid
  unfold lookL
  rw [List.find?_append, List.find?_cons]
  have : List.find? (fun x => decide (x.1 = k)) A = none := by
    rw [List.find?_eq_none]
    intro a ha
    simp; intro e; have := lt8_trans (hA a ha) hk; rw [e] at this; exact lt8_irr _ this
  rw [this, Option.none_or]
  have e : ¬ x.1 = k := fun e => by rw [e] at hk; exact lt8_irr _ hk
  simp [e]
theorem lookL_eq {x : KV} {A B : List KV} (h : Srt (A ++ x :: B)) : lookL x.1 (A ++ x :: B) = some x.2 :=
  (lookL_some h).2 (List.mem_append_right _ List.mem_cons_self)
/-- How many keys are less. -/
def rankL (k : Bs) (L : List KV) : Nat := (L.filter fun x => decide (lt8 x.1 k)).length
theorem rankL_le (k : Bs) (L : List KV) : rankL k L ≤ L.length := List.length_filter_le _ _
theorem rankL_ge {k : Bs} {x : KV} {A B : List KV} (h : Srt (A ++ x :: B)) (hk : ¬ lt8 x.1 k) : rankL k (A ++ x :: B) = rankL k A := by
  obtain ⟨_, _, _, hB⟩ := h.mid
  unfold rankL
  rw [List.filter_append, List.length_append]
  have : (x :: B).filter (fun x => decide (lt8 x.1 k)) = [] := by
    rw [List.filter_eq_nil_iff]
    intro a ha
    rcases List.mem_cons.1 ha with rfl | ha
    · simpa using hk
    · simp; exact fun z => hk (lt8_trans (hB a ha) z)
  rw [this]; simp
theorem rankL_lt {k : Bs} {x : KV} {A B : List KV} (h : Srt (A ++ x :: B)) (hk : lt8 x.1 k) : rankL k (A ++ x :: B) = A.length + 1 + rankL k B := by
  obtain ⟨_, _, hA, _⟩ := h.mid
  unfold rankL
  rw [List.filter_append, List.filter_cons, if_pos (by simpa using hk), List.length_append, List.length_cons]
  have : A.filter (fun x => decide (lt8 x.1 k)) = A := by
    rw [List.filter_eq_self]
    exact fun a ha => by simpa using lt8_trans (hA a ha) hk
  rw [this]; omega
theorem rankL_drop {k : Bs} : ∀ {L : List KV}, Srt L → L.drop (rankL k L) = L.filter fun x => decide (¬ lt8 x.1 k)
  | [], _ => rfl
  | x :: L, h => by
    have h' := List.pairwise_cons.1 h
    by_cases c : lt8 x.1 k
    · have : rankL k (x :: L) = rankL k L + 1 := by unfold rankL; rw [List.filter_cons, if_pos (by simpa using c)]; rfl
      rw [this, List.drop_succ_cons, rankL_drop h'.2, List.filter_cons, if_neg (by simpa using c)]
    · have : rankL k (x :: L) = 0 := by
        unfold rankL
        have : (x :: L).filter (fun x => decide (lt8 x.1 k)) = [] := by
          rw [List.filter_eq_nil_iff]
          intro a ha
          rcases List.mem_cons.1 ha with rfl | ha
          · simpa using c
          · simp; exact fun z => c (lt8_trans (h'.1 a ha) z)
        rw [this]; rfl
      rw [this, List.drop_zero]
      symm
      rw [List.filter_eq_self]
      intro a ha
      rcases List.mem_cons.1 ha with rfl | ha
      · simpa using c
      · simp; exact fun z => c (lt8_trans (h'.1 a ha) z)
/-- Two rising rows with the same pairs are one. -/
theorem Srt.uniq {L M : List KV} (hL : Srt L) (hM : Srt M) (h : ∀ y, y ∈ L ↔ y ∈ M) : L = M :=
  List.Perm.eq_of_pairwise (le := fun x y : KV => lt8 x.1 y.1) (fun a b _ _ h1 h2 => (lt8_asymm h1 h2).elim) hL hM
    ((List.perm_ext_iff_of_nodup (hL.imp fun h e => by rw [e] at h; exact lt8_irr _ h) (hM.imp fun h e => by rw [e] at h; exact lt8_irr _ h)).2 h)
end Go.Proofs.YtalegpdnhkopmaaDoor.Tree
