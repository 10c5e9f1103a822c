/- Key: Encode and few, plain (cut out of Code2). -/
import Derived.Test.YtamaoileeipgeaaDoorCode1
namespace Go.Proofs.YtamaoileeipgeaaDoor.XKey
open Go.RowKit Go.Proofs.YtamaoileeipgeaaDoorW.PrintWords Go.Proofs.YtamaoileeipgeaaDoorW.PrintLast Go.Proofs.YtamaoileeipgeaaDoorW.PrintMore
set_option linter.unusedVariables false
set_option linter.unusedSimpArgs false



def kbp (p : S31) : List Int := kb p.f0 p.f1 p.f2
/-- A key's bytes and the error's number. -/
def encK : List Int → List S31 → List Int × Int
  | acc, [] => (acc, 0)
  | acc, p :: r => if p.f0 = true ∧ p.f1.size > 200 then ([], 3) else if (acc ++ kbp p).length > 200 then ([], 3) else encK (acc ++ kbp p) r

theorem rd31_at (l : List S31) (i : Nat) (h : i < l.length) : l.drop i = rd_T31 l (i : Int) :: l.drop (i + 1) := by
  rw [List.drop_eq_getElem_cons h]
  simp [rd_T31, h]
theorem wrap_succ (i : Nat) (h : i < 4611686018427387904) : wrap64 ((i : Int) + 1) = ((i + 1 : Nat) : Int) := by unfold wrap64; omega

theorem encode_l0 (l : List S31) (hl : l.length < 4611686018427387904) : ∀ (m i : Nat) (acc : List Int), l.length - i = m → i ≤ l.length → acc.length ≤ 200 →
    Ev (fun k => key_Encode.l0 k acc l (l.length : Int) (i : Int)) (encK acc (l.drop i))
  | 0, i, acc, hm, hi, ha => by
    refine Ev.step (f := fun _ => some (acc, 0)) (fun k => ?_) ?_
    · simp only [key_Encode.l0, slices_Clip_byte_byte.f, Option.bind_some]
      rw [if_neg (by omega)]
    · rw [List.drop_eq_nil_of_le (by omega)]
      exact Ev.now _
  | m + 1, i, acc, hm, hi, ha => by
    have ih := fun acc h => encode_l0 l hl m (i + 1) acc (by omega) (by omega) h
    rw [rd31_at l i (by omega)]
    obtain ⟨p, hp⟩ : ∃ p, rd_T31 l (i : Int) = p := ⟨_, rfl⟩
    rw [hp]
    have hw := wrap_succ i (by omega)
    have hj : ∀ b, (b = true ↔ (p.f0 = true ∧ p.f1.size > 200)) → Ev (fun k => key_Encode.j1 k acc l (l.length : Int) (i : Int) b p.f0 p.f1 p.f2) (encK acc (p :: l.drop (i + 1))) := by
      intro b hb
      by_cases c : p.f0 = true ∧ p.f1.size > 200
      · refine Ev.step (f := fun _ => some ([], 3)) (fun k => ?_) ?_
        · simp only [key_Encode.j1]
          rw [if_pos (hb.mpr c)]
        · simp only [encK]
          rw [if_pos c]
          exact Ev.now _
      · refine Ev.step (f := fun k => (key_put.f k acc p.f0 p.f1 p.f2).bind fun t126 => if (t126.length : Int) > 200 then some ([], 3) else key_Encode.l0 k t126 l (l.length : Int) ((i + 1 : Nat) : Int)) (fun k => ?_) ?_
        · simp only [key_Encode.j1, hw]
          rw [if_neg (fun z => c (hb.mp z))]
        · refine Ev.bind (put_ev acc p.f0 p.f1 p.f2 (fun z => by have : ¬ p.f1.size > 200 := fun y => c ⟨z, y⟩; omega) (by omega)) ?_
          simp only [encK]
          rw [if_neg c]
          by_cases c2 : (acc ++ kbp p).length > 200
          · rw [if_pos c2]
            refine Ev.congr (fun k => ?_) (Ev.now _)
            exact if_pos (by have := c2; unfold kbp at this; omega)
          · rw [if_neg c2]
            refine Ev.congr (fun k => ?_) (ih (acc ++ kbp p) (by omega))
            exact if_neg (by have := c2; unfold kbp at this; omega)
    by_cases c : (p.f1.size : Int) > 200
    · refine Ev.step (f := fun k => key_Encode.j1 k acc l (l.length : Int) (i : Int) p.f0 p.f0 p.f1 p.f2) (fun k => ?_) (hj p.f0 ⟨fun z => ⟨z, by omega⟩, fun z => z.1⟩)
      simp only [key_Encode.l0, hp]
      rw [if_pos (by omega), if_pos (by omega), if_pos (by omega), if_pos c]
    · refine Ev.step (f := fun k => key_Encode.j1 k acc l (l.length : Int) (i : Int) false p.f0 p.f1 p.f2) (fun k => ?_) (hj false ⟨fun z => (Bool.false_ne_true z).elim, fun z => absurd z.2 (by omega)⟩)
      simp only [key_Encode.l0, hp]
      rw [if_pos (by omega), if_pos (by omega), if_pos (by omega), if_neg c]
theorem encode_ev (l : List S31) (hl : l.length < 4611686018427387904) : Ev (fun k => key_Encode.f k l) (encK [] l) :=
  encode_l0 l hl l.length 0 [] (by omega) (by omega) (by simp)

theorem few_l0 (l : List S31) (hl : l.length < 4611686018427387904) : ∀ (m i : Nat) (x : Int), l.length - i = m → i ≤ l.length →
    ∃ b, Ev (fun k => rhizomelaw01_few.l0 k l x (l.length : Int) (i : Int)) b ∧ (b = true → l.length ≤ 60)
  | 0, i, x, hm, hi => by
    by_cases c : (l.length : Int) ≤ 60
    · refine ⟨decide (x ≤ 5000), Ev.step (f := fun _ => some (decide (x ≤ 5000))) (fun k => ?_) (Ev.now _), fun _ => by omega⟩
      simp only [rhizomelaw01_few.l0]
      rw [if_neg (by omega), if_pos c]
    · refine ⟨false, Ev.step (f := fun _ => some false) (fun k => ?_) (Ev.now _), fun z => (Bool.false_ne_true z).elim⟩
      simp only [rhizomelaw01_few.l0]
      rw [if_neg (by omega), if_neg c]
  | m + 1, i, x, hm, hi => by
    have hw := wrap_succ i (by omega)
    obtain ⟨b, hb, h60⟩ := few_l0 l hl m (i + 1) (wrap64 (x + ((((rd_T31 l (i : Int)).f1).size : Int) % 100000))) (by omega) (by omega)
    refine ⟨b, Ev.step (fun k => ?_) hb, h60⟩
    simp only [rhizomelaw01_few.l0, hw]
    rw [if_pos (by omega), if_pos (by omega), if_pos (by omega)]
theorem few_ev (l : List S31) (hl : l.length < 4611686018427387904) : ∃ b, Ev (fun k => rhizomelaw01_few.f k l) b ∧ (b = true → l.length ≤ 60) :=
  few_l0 l hl l.length 0 0 (by omega) (by omega)
end Go.Proofs.YtamaoileeipgeaaDoor.XKey
