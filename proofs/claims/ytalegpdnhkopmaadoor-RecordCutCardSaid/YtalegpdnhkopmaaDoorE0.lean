/- Bytes in order, plain. -/
import Derived.Test.YtalegpdnhkopmaaDoorUA
namespace Go.Proofs.YtalegpdnhkopmaaDoor.By
open Go Go.V Go.RowKit
set_option linter.unusedVariables false
set_option linter.unusedSimpArgs false

abbrev Bs := List UInt8
/-- A byte as a cell. -/
def U8 (b : UInt8) : Value := .int .u8 (b.toNat : Int)
theorem byteCells_U8 (s : ByteArray) : byteCells s = s.data.toList.map U8 := rfl
/-- Ahead of one another. -/
def lt8 (a b : Bs) : Prop := Op.bytesLess a b = true
instance (a b : Bs) : Decidable (lt8 a b) := inferInstanceAs (Decidable (_ = true))

theorem u8_lt_asymm {x y : UInt8} (h : x < y) : ¬ y < x := fun z => by
  have h1 := UInt8.lt_iff_toNat_lt.mp h; have h2 := UInt8.lt_iff_toNat_lt.mp z; omega
theorem u8_eq {x y : UInt8} (h1 : ¬ x < y) (h2 : ¬ y < x) : x = y := by
  apply UInt8.toNat_inj.mp
  have h1 : ¬ x.toNat < y.toNat := fun z => h1 (UInt8.lt_iff_toNat_lt.mpr z)
  have h2 : ¬ y.toNat < x.toNat := fun z => h2 (UInt8.lt_iff_toNat_lt.mpr z)
  omega
theorem u8_irr (x : UInt8) : ¬ x < x := fun z => u8_lt_asymm z z
theorem lt8_cons (x y : UInt8) (a b : Bs) : lt8 (x :: a) (y :: b) ↔ x < y ∨ x = y ∧ lt8 a b := by
  unfold lt8
  rw [Op.bytesLess]
  simp
theorem lt8_nil (a : Bs) : ¬ lt8 a [] := by unfold lt8; cases a <;> simp [Op.bytesLess]
theorem lt8_nil_cons (x : UInt8) (a : Bs) : lt8 [] (x :: a) := rfl
theorem lt8_irr : ∀ a : Bs, ¬ lt8 a a
  | [] => lt8_nil _
  | x :: a => fun h => by
    rcases (lt8_cons _ _ _ _).1 h with h | ⟨_, h⟩
    · exact u8_irr x h
    · exact lt8_irr a h
theorem lt8_trans : ∀ {a b c : Bs}, lt8 a b → lt8 b c → lt8 a c
  | _, [], _, h, _ => (lt8_nil _ h).elim
  | _, _ :: _, [], _, h => (lt8_nil _ h).elim
  | [], _ :: _, z :: c, _, _ => lt8_nil_cons z c
  | x :: a, y :: b, z :: c, h, k => by
    rcases (lt8_cons _ _ _ _).1 h with h1 | ⟨e1, h1⟩
    · rcases (lt8_cons _ _ _ _).1 k with k1 | ⟨e2, k1⟩
      · refine (lt8_cons _ _ _ _).2 (.inl ?_)
        have h1 := UInt8.lt_iff_toNat_lt.mp h1; have h2 := UInt8.lt_iff_toNat_lt.mp k1
        exact UInt8.lt_iff_toNat_lt.mpr (by omega)
      · exact (lt8_cons _ _ _ _).2 (.inl (by rw [← e2]; exact h1))
    · rcases (lt8_cons _ _ _ _).1 k with k1 | ⟨e2, k1⟩
      · exact (lt8_cons _ _ _ _).2 (.inl (by rw [e1]; exact k1))
      · exact (lt8_cons _ _ _ _).2 (.inr ⟨e1.trans e2, lt8_trans h1 k1⟩)
theorem lt8_asymm {a b : Bs} (h : lt8 a b) : ¬ lt8 b a := fun k => lt8_irr _ (lt8_trans h k)
theorem lt8_total : ∀ (a b : Bs), lt8 a b ∨ a = b ∨ lt8 b a
  | [], [] => .inr (.inl rfl)
  | [], y :: b => .inl (lt8_nil_cons _ _)
  | x :: a, [] => .inr (.inr (lt8_nil_cons _ _))
  | x :: a, y :: b => by
    by_cases c : x < y
    · exact .inl ((lt8_cons _ _ _ _).2 (.inl c))
    by_cases d : y < x
    · exact .inr (.inr ((lt8_cons _ _ _ _).2 (.inl d)))
    have := u8_eq c d
    subst this
    rcases lt8_total a b with h | rfl | h
    · exact .inl ((lt8_cons _ _ _ _).2 (.inr ⟨rfl, h⟩))
    · exact .inr (.inl rfl)
    · exact .inr (.inr ((lt8_cons _ _ _ _).2 (.inr ⟨rfl, h⟩)))
theorem cmpB : ∀ a b : Bs, Lib.compareBytes a b = if lt8 a b then -1 else if a = b then 0 else 1
  | [], [] => rfl
  | [], y :: b => by rw [Lib.compareBytes, if_pos (lt8_nil_cons _ _)]
  | x :: a, [] => by rw [Lib.compareBytes, if_neg (lt8_nil _), if_neg (by simp)]
  | x :: a, y :: b => by
    have ih := cmpB a b
    rw [Lib.compareBytes]
    by_cases c : x < y
    · rw [if_pos c, if_pos ((lt8_cons _ _ _ _).2 (.inl c))]
    · by_cases d : y < x
      · rw [if_neg c, if_pos d, if_neg (fun h => by rcases (lt8_cons _ _ _ _).1 h with h | ⟨rfl, h⟩; exact c h; exact u8_irr _ d), if_neg (fun h => by injection h with h _; subst h; exact u8_irr _ d)]
      · have := u8_eq c d
        subst this
        rw [if_neg c, if_neg c, ih]
        simp only [lt8_cons, u8_irr, false_or, true_and, List.cons.injEq]
theorem cmpB_lt {a b : Bs} : Lib.compareBytes a b < 0 ↔ lt8 a b := by
  rw [cmpB]; split
  · rename_i h; simp [h]
  · rename_i h; split <;> simp [h]
theorem cmpB_eq {a b : Bs} : Lib.compareBytes a b = 0 ↔ a = b := by
  rw [cmpB]; split
  · rename_i h
    constructor
    · intro z; cases z
    · rintro rfl; exact (lt8_irr _ h).elim
  · split
    · rename_i h; simp [h]
    · rename_i h; simp [h]
theorem cmpB_gt {a b : Bs} : 0 < Lib.compareBytes a b ↔ lt8 b a := by
  rw [cmpB]; split
  · rename_i h
    constructor
    · intro z; cases z
    · intro z; exact (lt8_asymm h z).elim
  · rename_i h
    split
    · rename_i h2; subst h2; simp [lt8_irr]
    · rename_i h2
      rcases lt8_total a b with g | g | g
      · exact absurd g h
      · exact absurd g h2
      · simp [g]
theorem cmpB_3 (a b : Bs) : Lib.compareBytes a b = -1 ∨ Lib.compareBytes a b = 0 ∨ Lib.compareBytes a b = 1 := by
  rw [cmpB]; split
  · exact .inl rfl
  · split
    · exact .inr (.inl rfl)
    · exact .inr (.inr rfl)
theorem lt8_app (p a b : Bs) : lt8 (p ++ a) (p ++ b) ↔ lt8 a b := by
  induction p with
  | nil => rfl
  | cons x p ih => rw [List.cons_append, List.cons_append, lt8_cons, ih]; simp [u8_irr]

/-- The least bytes behind all that begin so; none: there are no such. -/
def endR : Bs → Bs
  | [] => []
  | c :: t => if endR t = [] then (if c < 255 then [c + 1] else []) else c :: endR t
theorem endR_lt (x : Bs) (c : UInt8) (h : c < 255) : endR (x ++ [c]) = x ++ [c + 1] := by
  induction x with
  | nil => simp [endR, h]
  | cons d x ih => simp [endR, ih]
theorem endR_255 (x : Bs) : endR (x ++ [255]) = endR x := by
  induction x with
  | nil => simp [endR]
  | cons d x ih => simp [endR, ih]
theorem lt_succ (c d : UInt8) (h : c < 255) : (d < c + 1) ↔ (d ≤ c) := by
  rw [UInt8.lt_iff_toNat_lt, UInt8.le_iff_toNat_le, UInt8.toNat_add]
  rw [UInt8.lt_iff_toNat_lt] at h
  have e1 : (255 : UInt8).toNat = 255 := rfl
  have e2 : (1 : UInt8).toNat = 1 := rfl
  rw [e1] at h
  rw [e2, Nat.mod_eq_of_lt (by omega)]
  omega
theorem begins_iff : ∀ (b o : Bs), (o.take b.length = b) ↔ (¬ lt8 o b ∧ (endR b = [] ∨ lt8 o (endR b)))
  | [], o => by simp [endR, lt8_nil]
  | c :: t, [] => by simp [lt8_nil_cons]
  | c :: t, d :: s => by
    have ih := begins_iff t s
    simp only [List.length_cons, List.take_succ_cons, List.cons.injEq, ih, endR, lt8_cons]
    rcases Nat.lt_trichotomy d.toNat c.toNat with h | h | h
    · have h1 : d < c := UInt8.lt_iff_toNat_lt.mpr h
      have h2 : ¬ d = c := fun e => by rw [e] at h; omega
      simp [h1, h2]
    · have h2 : d = c := UInt8.toNat_inj.mp h
      subst h2
      have h1 : ¬ d < d := u8_irr d
      by_cases e : endR t = []
      · simp only [e, if_true, true_or, and_true, true_and]
        by_cases c2 : d < 255
        · have h3 : d < d + 1 := (lt_succ d d c2).mpr (UInt8.le_iff_toNat_le.mpr (Nat.le_refl _))
          simp [lt8_cons, h1, c2, h3]
        · simp [lt8_cons, h1, c2]
      · simp [e, lt8_cons, h1]
    · have h1 : ¬ d < c := fun e => by have := UInt8.lt_iff_toNat_lt.mp e; omega
      have h2 : ¬ d = c := fun e => by rw [e] at h; omega
      by_cases e : endR t = []
      · simp only [e, if_true]
        by_cases c2 : c < 255
        · have h3 : ¬ d < c + 1 := fun z => by have := UInt8.le_iff_toNat_le.mp ((lt_succ c d c2).mp z); omega
          simp [lt8_cons, lt8_nil, h1, h2, c2, h3]
        · have h4 : (255 : UInt8).toNat = 255 := rfl
          have h5 : ¬ c.toNat < 255 := fun z => c2 (UInt8.lt_iff_toNat_lt.mpr z)
          have h6 := d.toNat_lt
          omega
      · simp [e, lt8_cons, h1, h2]
end Go.Proofs.YtalegpdnhkopmaaDoor.By
