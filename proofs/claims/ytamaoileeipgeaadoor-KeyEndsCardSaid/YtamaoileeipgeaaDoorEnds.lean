/- KeyEnds, the plain law: what begins with any bytes lies between them and their End, and nothing else does. -/
import Derived.Test.YtamaoileeipgeaaDoorXKey4
namespace Go.Proofs.YtamaoileeipgeaaDoor.XKey
open Go.RowKit Go.Proofs.YtamaoileeipgeaaDoorW.PrintWords Go.Proofs.YtamaoileeipgeaaDoorW.PrintLast
set_option linter.unusedVariables false
set_option linter.unusedSimpArgs false

theorem awake_ev : Ev (fun k => rhizomelaw01_awake.f k) true := Ev.of (fun k => rhizomelaw01_awake.mono k) (k := 40) (by kernel_rfl)

/-- The end of what begins with these bytes. -/
def endR : List UInt8 → List UInt8
  | [] => []
  | c :: t => if endR t = [] then (if c < 255 then [c + 1] else []) else c :: endR t
theorem endR_lt (x : List UInt8) (c : UInt8) (h : c < 255) : endR (x ++ [c]) = x ++ [c + 1] := by
  induction x with
  | nil => simp [endR, h]
  | cons d x ih => simp [endR, ih]
theorem endR_255 (x : List UInt8) : endR (x ++ [255]) = endR x := by
  induction x with
  | nil => simp [endR]
  | cons d x ih => simp [endR, ih]

theorem lt_succ (c d : UInt8) (h : c < 255) : (d < c + 1) ↔ (d ≤ c) := by
  rw [UInt8.lt_iff_toNat_lt, UInt8.le_iff_toNat_le, UInt8.toNat_add]
  rw [UInt8.lt_iff_toNat_lt] at h
  have e1 : (255 : UInt8).toNat = 255 := rfl
  have e2 : (1 : UInt8).toNat = 1 := rfl
  rw [e1] at h
  rw [e2, Nat.mod_eq_of_lt (by omega)]
  omega

theorem begins_iff : ∀ (b o : List UInt8), (o.take b.length = b) ↔ (Op.bytesLess o b = false ∧ (endR b = [] ∨ Op.bytesLess o (endR b) = true))
  | [], o => by simp [endR]; cases o <;> rfl
  | c :: t, [] => by simp [Op.bytesLess]
  | c :: t, d :: s => by
    have ih := begins_iff t s
    have hn : ∀ z, Op.bytesLess z [] = false := fun z => by cases z <;> rfl
    simp only [List.length_cons, List.take_succ_cons, List.cons.injEq, ih, endR]
    rcases Nat.lt_trichotomy d.toNat c.toNat with h | h | h
    · have h1 : d < c := UInt8.lt_iff_toNat_lt.mpr h
      have h2 : ¬ d = c := fun e => by rw [e] at h; omega
      simp [Op.bytesLess, h1, h2]
    · have h2 : d = c := UInt8.toNat_inj.mp h
      subst h2
      have h1 : ¬ d < d := fun e => by have := UInt8.lt_iff_toNat_lt.mp e; omega
      by_cases e : endR t = []
      · simp only [e, if_true, true_or, and_true, true_and]
        by_cases c2 : d < 255
        · have h3 : d < d + 1 := (lt_succ d d c2).mpr (UInt8.le_iff_toNat_le.mpr (Nat.le_refl _))
          simp [Op.bytesLess, h1, c2, h3]
        · simp [Op.bytesLess, h1, c2]
      · simp [e, Op.bytesLess, h1]
    · have h1 : ¬ d < c := fun e => by have := UInt8.lt_iff_toNat_lt.mp e; omega
      have h2 : ¬ d = c := fun e => by rw [e] at h; omega
      by_cases e : endR t = []
      · simp only [e, if_true]
        by_cases c2 : c < 255
        · have h3 : ¬ d < c + 1 := fun z => by have := UInt8.le_iff_toNat_le.mp ((lt_succ c d c2).mp z); omega
          simp [Op.bytesLess, h1, h2, c2, h3, hn]
        · have h4 : (255 : UInt8).toNat = 255 := rfl
          have h5 : ¬ c.toNat < 255 := fun z => c2 (UInt8.lt_iff_toNat_lt.mpr z)
          have h6 := d.toNat_lt
          omega
      · simp [e, Op.bytesLess, h1, h2]

/-- Bytes: numbers from 0 to 255. -/
def IsB (l : List Int) : Prop := ∀ x ∈ l, 0 ≤ x ∧ x < 256
theorem IsB.at_ {l : List Int} (h : IsB l) (i : Nat) (hi : i < l.length) : 0 ≤ rd l (i : Int) ∧ rd l (i : Int) < 256 := by
  have e : rd l (i : Int) = l[i] := by simp [rd, hi]
  rw [e]
  exact h _ (List.getElem_mem hi)
def b8 (x : Int) : UInt8 := UInt8.ofNat x.toNat
theorem bytesOf_eq (l : List Int) : Lib.bytesOf l = l.map b8 := rfl
theorem b8_255 (x : Int) (h0 : 0 ≤ x) (h1 : x < 256) : b8 x = 255 ↔ x = 255 := by
  constructor
  · intro e
    have := congrArg UInt8.toNat e
    simp [b8] at this
    omega
  · rintro rfl; rfl
theorem b8_lt (x : Int) (h0 : 0 ≤ x) (h1 : x < 256) : b8 x < 255 ↔ x < 255 := by
  rw [UInt8.lt_iff_toNat_lt]
  have e1 : (255 : UInt8).toNat = 255 := rfl
  have e2 : (b8 x).toNat = x.toNat := by simp [b8]; omega
  rw [e1, e2]
  omega
theorem b8_succ (x : Int) (h0 : 0 ≤ x) (h1 : x < 255) : b8 ((x + 1) % 256) = b8 x + 1 := by
  apply UInt8.toNat_inj.mp
  rw [UInt8.toNat_add]
  have e2 : (b8 x).toNat = x.toNat := by simp [b8]; omega
  have e3 : (1 : UInt8).toNat = 1 := rfl
  rw [e2, e3]
  simp [b8]
  omega
theorem take_succ_rd (l : List Int) (i : Nat) (hi : i < l.length) : l.take (i + 1) = l.take i ++ [rd l (i : Int)] := by
  rw [List.take_succ_eq_append_getElem hi]
  simp [rd, hi]
theorem set_snoc (x : List Int) (c d : Int) (i : Nat) (hi : x.length = i) : (x ++ [c]).set i d = x ++ [d] := by
  subst hi
  simp
theorem endFrom_eq (l : List Int) (h : IsB l) : ∀ i, i ≤ l.length → (endFrom l i).map b8 = endR ((l.take i).map b8)
  | 0, _ => by simp [endFrom, endR]
  | i + 1, hi => by
    have ih := endFrom_eq l h i (by omega)
    obtain ⟨h0, h1⟩ := h.at_ i (by omega)
    have hl : (l.take i).length = i := by rw [List.length_take]; omega
    rw [take_succ_rd l i (by omega), List.map_append]
    simp only [endFrom, List.map_cons, List.map_nil]
    by_cases c : rd l (i : Int) < 255
    · rw [if_pos c, take_succ_rd l i (by omega), set_snoc _ _ _ _ hl, endR_lt _ _ ((b8_lt _ h0 h1).mpr c), List.map_append, List.map_cons, List.map_nil, b8_succ _ h0 c]
    · have e : rd l (i : Int) = 255 := by omega
      rw [if_neg c, ih, (b8_255 _ h0 h1).mpr e, endR_255]
theorem refEndFrom_eq (l : List Int) (h : IsB l) : ∀ i, i ≤ l.length → refEndFrom l i = endFrom l i
  | 0, _ => rfl
  | i + 1, hi => by
    have ih := refEndFrom_eq l h i (by omega)
    obtain ⟨h0, h1⟩ := h.at_ i (by omega)
    simp only [endFrom, refEndFrom, ih]
    by_cases c : rd l (i : Int) < 255
    · rw [if_pos c, if_neg (by omega)]
    · rw [if_neg c, if_pos (by omega)]
theorem endFrom_len (l : List Int) : ∀ i, ((endFrom l i).length : Int) = 0 ↔ (endFrom l i).map b8 = [] := by
  intro i
  simp

theorem ends_pure (l0 l1 : List Int) (h0 : IsB l0) (h1 : IsB l1) (hl0 : l0.length ≤ 140737488351232) (hl1 : l1.length ≤ 140737488351232) : Ev (fun k => rhizomelaw01_KeyEnds.f k l0 l1) true := by
  unfold rhizomelaw01_KeyEnds.f
  refine Ev.bind awake_ev ?_
  simp only [if_true]
  have hw : wrap64 ((l0.length : Int) + (l1.length : Int)) = (l0.length : Int) + (l1.length : Int) := by unfold wrap64; omega
  rw [hw]
  by_cases c : (l0.length : Int) + (l1.length : Int) > 5000
  · rw [decide_eq_true c]
    refine Ev.step (f := fun k => (rhizomelaw01_awake.f k).bind fun t159 => (some t159)) (fun k => by simp only [rhizomelaw01_KeyEnds.j0, if_true]) ?_
    exact Ev.bind awake_ev (Ev.now _)
  · rw [decide_eq_false c]
    obtain ⟨e, he⟩ : ∃ e, endFrom l0 l0.length = e := ⟨_, rfl⟩
    have hk : key_End.f l0 = some e := by unfold key_End.f; rw [if_pos (by omega), he]
    have hr : rhizomeref01_End.f l0 = some e := by unfold rhizomeref01_End.f; rw [if_pos (by omega), refEndFrom_eq l0 h0 _ (Nat.le_refl _), he]
    have hb := begins_iff (l0.map b8) (l1.map b8)
    have hend : endR (l0.map b8) = e.map b8 := by rw [← he, endFrom_eq l0 h0 _ (Nat.le_refl _), List.take_length]
    rw [hend] at hb
    refine Ev.step (f := fun _ => some true) (fun k => ?_) (Ev.now _)
    simp only [rhizomelaw01_KeyEnds.j0, Bool.false_eq_true, if_false, Option.bind_some, List.nil_append, List.length_nil, Nat.zero_add]
    rw [if_pos (by omega)]
    simp only [hk, hr, Option.bind_some, if_true, Lib.strOfNums_toList, bytesOf_eq]
    have ht : (l1.take l0.length).map b8 = (l1.map b8).take l0.length := by rw [List.map_take]
    have hlen : (l0.map b8).length = l0.length := by simp
    rw [hlen] at hb
    by_cases c1 : (l1.length : Int) ≥ (l0.length : Int)
    · rw [if_pos c1, if_pos (by omega), if_pos (by omega)]
      rw [Int.toNat_natCast, ht]
      by_cases c2 : Op.bytesLess (l1.map b8) (l0.map b8) = true
      · rw [if_pos c2]
        have : ¬ (l1.map b8).take l0.length = l0.map b8 := fun z => by have := (hb.mp z).1; rw [c2] at this; cases this
        simp [this]
      · rw [if_neg c2]
        have c2' := Bool.eq_false_iff.mpr c2
        by_cases c3 : (e.length : Int) = 0
        · rw [if_pos c3]
          have e0 : e = [] := List.eq_nil_of_length_eq_zero (by omega)
          have : (l1.map b8).take l0.length = l0.map b8 := hb.mpr ⟨c2', .inl (by rw [e0]; rfl)⟩
          simp [this]
        · rw [if_neg c3]
          have e0 : ¬ e.map b8 = [] := by intro z; apply c3; simpa using z
          by_cases c4 : Op.bytesLess (l1.map b8) (e.map b8) = true
          · have : (l1.map b8).take l0.length = l0.map b8 := hb.mpr ⟨c2', .inr c4⟩
            rw [this, c4]
            simp
          · have : ¬ (l1.map b8).take l0.length = l0.map b8 := fun z => (hb.mp z).2.elim e0 c4
            rw [Bool.eq_false_iff.mpr c4]
            simp [this]
    · rw [if_neg c1]
      have hp : ¬ (l1.map b8).take l0.length = l0.map b8 := fun z => by
        have := congrArg List.length z
        rw [List.length_take, List.length_map, List.length_map] at this
        omega
      by_cases c2 : Op.bytesLess (l1.map b8) (l0.map b8) = true
      · rw [if_pos c2]; rfl
      · rw [if_neg c2]
        have c2' := Bool.eq_false_iff.mpr c2
        by_cases c3 : (e.length : Int) = 0
        · exact absurd (hb.mpr ⟨c2', .inl (by rw [show e = [] from List.eq_nil_of_length_eq_zero (by omega)]; rfl)⟩) hp
        · rw [if_neg c3]
          by_cases c4 : Op.bytesLess (l1.map b8) (e.map b8) = true
          · exact absurd (hb.mpr ⟨c2', .inr c4⟩) hp
          · rw [Bool.eq_false_iff.mpr c4]; rfl
end Go.Proofs.YtamaoileeipgeaaDoor.XKey
