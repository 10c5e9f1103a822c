/- The code of a key: both Encodes write one row of bytes, or tell that it is too long. -/
import Derived.Test.YtamaoileeipgeaaDoorCode1
import Derived.Test.YtamaoileeipgeaaDoorXKey8
namespace Go.Proofs.YtamaoileeipgeaaDoor.XKey
open Go.RowKit Go.Proofs.YtamaoileeipgeaaDoorW.PrintWords Go.Proofs.YtamaoileeipgeaaDoorW.PrintLast Go.Proofs.YtamaoileeipgeaaDoorW.PrintMore
set_option linter.unusedVariables false
set_option linter.unusedSimpArgs false

def kbp (p : S31) : List Int := kb p.f0 p.f1 p.f2
/-- A key's bytes and the error's number. -/
def encK : List Int → List S31 → List Int × Int
  | acc, [] => (acc, 0)
  | acc, p :: r => if p.f0 = true ∧ p.f1.size > 200 then ([], 3) else if (acc ++ kbp p).length > 200 then ([], 3) else encK (acc ++ kbp p) r

theorem rd31_at (l : List S31) (i : Nat) (h : i < l.length) : l.drop i = rd_T31 l (i : Int) :: l.drop (i + 1) := by
  rw [List.drop_eq_getElem_cons h]
  simp [rd_T31, h]
theorem rd56_map (l : List S31) (i : Nat) (h : i < l.length) : rd_T56 (l.map toRef) (i : Int) = toRef (rd_T31 l (i : Int)) := by
  simp [rd_T31, rd_T56, h]
theorem kb_toRef (p : S31) : kb (toRef p).f0 (toRef p).f1 (toRef p).f2 = kbp p := by
  obtain ⟨t, s, n⟩ := p
  cases t <;> rfl
theorem wrap_succ (i : Nat) (h : i < 4611686018427387904) : wrap64 ((i : Int) + 1) = ((i + 1 : Nat) : Int) := by unfold wrap64; omega

theorem encode_l0 (l : List S31) (hl : l.length < 4611686018427387904) : ∀ (m i : Nat) (acc : List Int), l.length - i = m → i ≤ l.length → acc.length ≤ 200 →
    Ev (fun k => key_Encode.l0 k acc l (l.length : Int) (i : Int)) (encK acc (l.drop i))
  | 0, i, acc, hm, hi, ha => by
    refine Ev.step (f := fun _ => some (acc, 0)) (fun k => ?_) ?_
    · simp only [key_Encode.l0, slices_Clip_byte_byte.f, Option.bind_some]
      rw [if_neg (by omega)]
    · rw [List.drop_eq_nil_of_le (by omega)]
      exact Ev.now _
  | m + 1, i, acc, hm, hi, ha => by
    have ih := fun acc h => encode_l0 l hl m (i + 1) acc (by omega) (by omega) h
    rw [rd31_at l i (by omega)]
    obtain ⟨p, hp⟩ : ∃ p, rd_T31 l (i : Int) = p := ⟨_, rfl⟩
    rw [hp]
    have hw := wrap_succ i (by omega)
    have hj : ∀ b, (b = true ↔ (p.f0 = true ∧ p.f1.size > 200)) → Ev (fun k => key_Encode.j1 k acc l (l.length : Int) (i : Int) b p.f0 p.f1 p.f2) (encK acc (p :: l.drop (i + 1))) := by
      intro b hb
      by_cases c : p.f0 = true ∧ p.f1.size > 200
      · refine Ev.step (f := fun _ => some ([], 3)) (fun k => ?_) ?_
        · simp only [key_Encode.j1]
          rw [if_pos (hb.mpr c)]
        · simp only [encK]
          rw [if_pos c]
          exact Ev.now _
      · refine Ev.step (f := fun k => (key_put.f k acc p.f0 p.f1 p.f2).bind fun t126 => if (t126.length : Int) > 200 then some ([], 3) else key_Encode.l0 k t126 l (l.length : Int) ((i + 1 : Nat) : Int)) (fun k => ?_) ?_
        · simp only [key_Encode.j1, hw]
          rw [if_neg (fun z => c (hb.mp z))]
        · refine Ev.bind (put_ev acc p.f0 p.f1 p.f2 (fun z => by have : ¬ p.f1.size > 200 := fun y => c ⟨z, y⟩; omega) (by omega)) ?_
          simp only [encK]
          rw [if_neg c]
          by_cases c2 : (acc ++ kbp p).length > 200
          · rw [if_pos c2]
            refine Ev.congr (fun k => ?_) (Ev.now _)
            exact if_pos (by have := c2; unfold kbp at this; omega)
          · rw [if_neg c2]
            refine Ev.congr (fun k => ?_) (ih (acc ++ kbp p) (by omega))
            exact if_neg (by have := c2; unfold kbp at this; omega)
    by_cases c : (p.f1.size : Int) > 200
    · refine Ev.step (f := fun k => key_Encode.j1 k acc l (l.length : Int) (i : Int) p.f0 p.f0 p.f1 p.f2) (fun k => ?_) (hj p.f0 ⟨fun z => ⟨z, by omega⟩, fun z => z.1⟩)
      simp only [key_Encode.l0, hp]
      rw [if_pos (by omega), if_pos (by omega), if_pos (by omega), if_pos c]
    · refine Ev.step (f := fun k => key_Encode.j1 k acc l (l.length : Int) (i : Int) false p.f0 p.f1 p.f2) (fun k => ?_) (hj false ⟨fun z => (Bool.false_ne_true z).elim, fun z => absurd z.2 (by omega)⟩)
      simp only [key_Encode.l0, hp]
      rw [if_pos (by omega), if_pos (by omega), if_pos (by omega), if_neg c]
theorem encode_ev (l : List S31) (hl : l.length < 4611686018427387904) : Ev (fun k => key_Encode.f k l) (encK [] l) :=
  encode_l0 l hl l.length 0 [] (by omega) (by omega) (by simp)

theorem refEncode_l0 (l : List S31) (hl : l.length < 4611686018427387904) : ∀ (m i : Nat) (acc : List Int), l.length - i = m → i ≤ l.length → acc.length ≤ 200 →
    Ev (fun k => rhizomeref01_Encode.l0 k (l.map toRef) acc (l.length : Int) (i : Int)) (encK acc (l.drop i))
  | 0, i, acc, hm, hi, ha => by
    refine Ev.step (f := fun _ => some (acc, 0)) (fun k => ?_) ?_
    · simp only [rhizomeref01_Encode.l0]
      rw [if_neg (by omega)]
    · rw [List.drop_eq_nil_of_le (by omega)]
      exact Ev.now _
  | m + 1, i, acc, hm, hi, ha => by
    have ih := fun acc h => refEncode_l0 l hl m (i + 1) acc (by omega) (by omega) h
    rw [rd31_at l i (by omega)]
    have hp56 := rd56_map l i (by omega)
    obtain ⟨p, hp⟩ : ∃ p, rd_T31 l (i : Int) = p := ⟨_, rfl⟩
    rw [hp] at hp56 ⊢
    have hw := wrap_succ i (by omega)
    have hlen : (l.map toRef).length = l.length := List.length_map _
    have hf0 : (toRef p).f0 = p.f0 := by obtain ⟨t, s, n⟩ := p; cases t <;> rfl
    have hsz : p.f0 = true → (toRef p).f1 = p.f1 := by obtain ⟨t, s, n⟩ := p; rintro rfl; rfl
    have hj : ∀ b, (b = true ↔ (p.f0 = true ∧ p.f1.size > 200)) → Ev (fun k => rhizomeref01_Encode.j1 k (l.map toRef) acc (i : Int) (l.length : Int) (i : Int) b) (encK acc (p :: l.drop (i + 1))) := by
      intro b hb
      by_cases c : p.f0 = true ∧ p.f1.size > 200
      · refine Ev.step (f := fun _ => some ([], 3)) (fun k => ?_) ?_
        · simp only [rhizomeref01_Encode.j1]
          rw [if_pos (hb.mpr c)]
        · simp only [encK]
          rw [if_pos c]
          exact Ev.now _
      · refine Ev.step (f := fun k => (rhizomeref01_Bytes.f k (toRef p).f0 (toRef p).f1 (toRef p).f2).bind fun t205 => (if acc.length + t205.length < 140737488355328 then ((some (acc ++ t205 : List Int)).bind fun y208 => (if (y208.length : Int) > 200 then (some (([] : List Int), 3)) else (rhizomeref01_Encode.l0 k (l.map toRef) y208 (l.length : Int) ((i + 1 : Nat) : Int)))) else (none))) (fun k => ?_) ?_
        · simp only [rhizomeref01_Encode.j1, hw, hp56, hlen]
          rw [if_neg (fun z => c (hb.mp z)), if_pos (by omega), if_pos (by omega)]
        · have hsm : p.f0 = true → p.f1.size ≤ 200 := fun z => by have : ¬ p.f1.size > 200 := fun y => c ⟨z, y⟩; omega
          refine Ev.bind (refBytes_ev (toRef p).f0 (toRef p).f1 (toRef p).f2 (fun z => by rw [hf0] at z; rw [hsz z]; have := hsm z; omega)) ?_
          rw [kb_toRef]
          have hk : (kbp p).length ≤ 1000 := by
            unfold kbp kb
            split
            · next z =>
              have h1 := escI_length p.f1.data.toList
              have h2 : p.f1.data.toList.length = p.f1.size := by rw [Array.length_toList]; rfl
              have := hsm z
              simp only [List.length_cons, List.length_append, List.length_nil]
              omega
            · simp [be8]
          have hL : acc.length + (kbp p).length < 140737488355328 := by omega
          simp only [encK, hL, if_true, Option.bind_some]
          rw [if_neg c]
          by_cases c2 : (acc ++ kbp p).length > 200
          · rw [if_pos c2]
            refine Ev.congr (fun k => ?_) (Ev.now _)
            exact if_pos (by omega)
          · rw [if_neg c2]
            refine Ev.congr (fun k => ?_) (ih (acc ++ kbp p) (by omega))
            exact if_neg (by omega)
    by_cases c : p.f0 = true
    · refine Ev.step (f := fun k => rhizomeref01_Encode.j1 k (l.map toRef) acc (i : Int) (l.length : Int) (i : Int) (decide ((p.f1.size : Int) > 200))) (fun k => ?_) (hj _ ⟨fun z => ⟨c, by have := of_decide_eq_true z; omega⟩, fun z => decide_eq_true (by have := z.2; omega)⟩)
      simp only [rhizomeref01_Encode.l0, hp56, hlen, hf0, hsz c]
      rw [if_pos (by omega), if_pos (by omega), if_pos (by omega), if_pos c]
    · refine Ev.step (f := fun k => rhizomeref01_Encode.j1 k (l.map toRef) acc (i : Int) (l.length : Int) (i : Int) false) (fun k => ?_) (hj _ ⟨fun z => (Bool.false_ne_true z).elim, fun z => absurd z.1 c⟩)
      simp only [rhizomeref01_Encode.l0, hp56, hlen, hf0]
      rw [if_pos (by omega), if_pos (by omega), if_pos (by omega), if_neg c]
theorem refEncode_ev (l : List S31) (hl : l.length < 4611686018427387904) : Ev (fun k => rhizomeref01_Encode.f k (l.map toRef)) (encK [] l) := by
  have := refEncode_l0 l hl l.length 0 [] (by omega) (by omega) (by simp)
  refine Ev.congr (fun k => ?_) this
  unfold rhizomeref01_Encode.f
  rw [List.length_map]
  rfl

theorem few_l0 (l : List S31) (hl : l.length < 4611686018427387904) : ∀ (m i : Nat) (x : Int), l.length - i = m → i ≤ l.length →
    ∃ b, Ev (fun k => rhizomelaw01_few.l0 k l x (l.length : Int) (i : Int)) b ∧ (b = true → l.length ≤ 60)
  | 0, i, x, hm, hi => by
    by_cases c : (l.length : Int) ≤ 60
    · refine ⟨decide (x ≤ 5000), Ev.step (f := fun _ => some (decide (x ≤ 5000))) (fun k => ?_) (Ev.now _), fun _ => by omega⟩
      simp only [rhizomelaw01_few.l0]
      rw [if_neg (by omega), if_pos c]
    · refine ⟨false, Ev.step (f := fun _ => some false) (fun k => ?_) (Ev.now _), fun z => (Bool.false_ne_true z).elim⟩
      simp only [rhizomelaw01_few.l0]
      rw [if_neg (by omega), if_neg c]
  | m + 1, i, x, hm, hi => by
    have hw := wrap_succ i (by omega)
    obtain ⟨b, hb, h60⟩ := few_l0 l hl m (i + 1) (wrap64 (x + ((((rd_T31 l (i : Int)).f1).size : Int) % 100000))) (by omega) (by omega)
    refine ⟨b, Ev.step (fun k => ?_) hb, h60⟩
    simp only [rhizomelaw01_few.l0, hw]
    rw [if_pos (by omega), if_pos (by omega), if_pos (by omega)]
theorem few_ev (l : List S31) (hl : l.length < 4611686018427387904) : ∃ b, Ev (fun k => rhizomelaw01_few.f k l) b ∧ (b = true → l.length ≤ 60) :=
  few_l0 l hl l.length 0 0 (by omega) (by omega)
theorem same_l0 (l : List S31) (hl : l.length < 4611686018427387904) : ∀ (m i : Nat), l.length - i = m → i ≤ l.length →
    Ev (fun k => rhizomelaw01_same.l0 k l l (l.length : Int) (i : Int)) true
  | 0, i, hm, hi => by
    refine Ev.step (f := fun _ => some true) (fun k => ?_) (Ev.now _)
    simp only [rhizomelaw01_same.l0]
    rw [if_neg (by omega)]
    simp
  | m + 1, i, hm, hi => by
    have hw := wrap_succ i (by omega)
    refine Ev.step (fun k => ?_) (same_l0 l hl m (i + 1) (by omega) (by omega))
    simp only [rhizomelaw01_same.l0, hw]
    rw [if_pos (by omega), if_pos (by omega), if_pos (by omega), if_pos (by omega), if_neg (by simp)]
theorem same_ev (l : List S31) (hl : l.length < 4611686018427387904) : Ev (fun k => rhizomelaw01_same.f k l l) true :=
  same_l0 l hl l.length 0 (by omega) (by omega)

theorem refPart_self (a : S56) : refPart a a = 0 := by
  have h : ∀ l : List UInt8, Op.bytesLess l l = false := by
    intro l
    induction l with
    | nil => rfl
    | cons c l ih => 
      have h1 : ¬ c < c := fun e => by have := UInt8.lt_iff_toNat_lt.mp e; omega
      simp [Op.bytesLess, h1, ih]
  simp [refPart, h]
theorem refCmp_self (l : List S56) (hl : l.length < 4611686018427387904) : ∀ (m i : Nat), l.length - i = m → i ≤ l.length →
    Ev (fun k => rhizomeref01_Cmp.l0 k l l (i : Int)) 0
  | 0, i, hm, hi => by
    refine Ev.step (f := fun k => rhizomeref01_Cmp.j1 k l l (i : Int) false) (fun k => ?_) (Ev.step (f := fun _ => some 0) (fun k => ?_) (Ev.now _))
    · simp only [rhizomeref01_Cmp.l0]
      rw [if_neg (by omega)]
    · simp only [rhizomeref01_Cmp.j1]
      rw [if_neg (by decide), if_neg (by omega), if_neg (by omega)]
  | m + 1, i, hm, hi => by
    have hw := wrap_succ i (by omega)
    refine Ev.step (f := fun k => rhizomeref01_Cmp.j1 k l l (i : Int) true) (fun k => ?_) (Ev.step (fun k => ?_) (refCmp_self l hl m (i + 1) (by omega) (by omega)))
    · simp only [rhizomeref01_Cmp.l0]
      rw [if_pos (by omega), decide_eq_true (by omega)]
    · simp only [rhizomeref01_Cmp.j1, rhizomeref01_part.f, Option.bind_some, hw, if_true]
      rw [if_pos (by omega), if_pos (by omega), if_pos (by omega), if_pos (refPart_self _)]
theorem refSame_self (l : List S56) (hl : l.length < 4611686018427387904) : Ev (fun k => rhizomeref01_Same.f k l l) true := by
  unfold rhizomeref01_Same.f
  simp only [if_true]
  refine Ev.bind (refCmp_self l hl l.length 0 (by omega) (by omega)) (Ev.now _)
end Go.Proofs.YtamaoileeipgeaaDoor.XKey
