/- KeyWrites: the plain law. -/
import Derived.Test.YtamaoileeipgeaaDoorCode5
import Derived.Test.YtamaoileeipgeaaDoorXKey9
namespace Go.Proofs.YtamaoileeipgeaaDoor.XKey
open Go.RowKit Go.Proofs.YtamaoileeipgeaaDoorW.PrintWords Go.Proofs.YtamaoileeipgeaaDoorW.PrintLast Go.Proofs.YtamaoileeipgeaaDoorW.PrintMore
set_option linter.unusedVariables false
set_option linter.unusedSimpArgs false

theorem writes_j0_end (x0 : List S31) : Ev (fun k => rhizomelaw01_KeyWrites.j0 k x0 true) true :=
  Ev.step (f := fun k => (rhizomelaw01_awake.f k).bind fun t => some t) (fun k => by rw [rhizomelaw01_KeyWrites.j0, if_pos rfl]) (Ev.bind awake_ev (Ev.now _))
theorem toRef_plain (p : S31) : toRef (plain p) = toRef p := by
  obtain ⟨t, s, n⟩ := p
  cases t <;> rfl
theorem plain_t (p : S31) (h : (plain p).f0 = true) : (plain p).f2 = 0 := by
  obtain ⟨t, s, n⟩ := p
  cases t
  · cases h
  · rfl
theorem plain_f (p : S31) (h : ¬ (plain p).f0 = true) : (plain p).f1.toList = ([] : List UInt8) := by
  obtain ⟨t, s, n⟩ := p
  cases t
  · exact Lib.strOfNums_toList []
  · exact absurd rfl h
theorem wl0_step (k : Nat) (x0 x8 L : List S31) (x9 n i j : Int) (hi : i < n) (h0 : 0 ≤ i) (hl : i < (L.length : Int)) (hw : wrap64 (i + 1) = j) (p : S31) (hp : rd_T31 L i = plain p) :
    rhizomelaw01_KeyWrites.l0 (k + 1) x0 x8 x9 L n i = rhizomelaw01_KeyWrites.l0 k x0 x8 x9 L n j := by
  rw [rhizomelaw01_KeyWrites.l0, if_pos hi, if_pos h0, if_pos hl, hw, hp]
  by_cases c : (plain p).f0 = true
  · rw [if_pos c, if_pos (plain_t p c), if_pos c]
  · rw [if_neg c, if_neg c, if_pos (plain_f p c)]
theorem writes_l0 (x0 : List S31) (hl : x0.length ≤ 60) : ∀ (m i : Nat), x0.length - i = m → i ≤ x0.length →
    Ev (fun k => rhizomelaw01_KeyWrites.l0 k x0 (x0.map plain) 0 (x0.map plain) (((x0.map plain).length : Nat) : Int) (i : Int)) true
  | 0, i, hm, hi => by
    have hlen : (x0.map plain).length = x0.length := List.length_map _
    have hr : ∀ K : List S31, K.length ≤ 60 → rhizomelaw01_Ref.f K = some (K.map toRef) := fun K h => by unfold rhizomelaw01_Ref.f; rw [if_pos (by omega)]
    have hm2 : (x0.map plain).map toRef = x0.map toRef := by
      rw [List.map_map]
      exact List.map_congr_left (fun p _ => toRef_plain p)
    refine Ev.step (f := fun k => (rhizomeref01_Same.f k (x0.map toRef) (x0.map toRef)).bind fun t311 => some t311) (fun k => ?_) (Ev.bind (refSame_self _ (by rw [List.length_map]; omega)) (Ev.now _))
    rw [rhizomelaw01_KeyWrites.l0, if_neg (by omega), if_pos rfl, hr _ (by omega), Option.bind_some, hr _ hl, Option.bind_some, hm2]
  | m + 1, i, hm, hi => by
    have hlen : (x0.map plain).length = x0.length := List.length_map _
    refine Ev.step (fun k => ?_) (writes_l0 x0 hl m (i + 1) (by omega) (by omega))
    refine wl0_step k x0 _ _ 0 _ (i : Int) _ (by omega) (by omega) (by omega) (wrap_succ i (by omega)) (x0.getD i z31) ?_
    have : i < x0.length := by omega
    simp [rd_T31, this]
theorem kb_isB (t : Bool) (s : ByteArray) (n : Int) : IsB (kb t s n) := by
  intro x hx
  unfold kb at hx
  split at hx
  · rcases List.mem_cons.mp hx with rfl | hx
    · omega
    · rcases List.mem_append.mp hx with hx | hx
      · obtain ⟨b, _, hb⟩ := List.mem_flatMap.mp hx
        split at hb
        · simp at hb; omega
        · have := b.toNat_lt
          simp at hb; omega
      · simp at hx; omega
  · simp [be8] at hx
    omega
theorem flatMap_isB (ps : List S31) : IsB (ps.flatMap kbp) := fun x hx => by
  obtain ⟨p, _, h⟩ := List.mem_flatMap.mp hx
  exact kb_isB _ _ _ x h
theorem writes_j1_no (x0 : List S31) (b : List Int) : Ev (fun k => rhizomelaw01_KeyWrites.j1 k x0 b 3 false) true :=
  Ev.step (f := fun _ => some true) (fun k => by rw [rhizomelaw01_KeyWrites.j1, if_neg (by decide), if_neg (by decide)]) (Ev.now _)
theorem writes_j1_ok (x0 : List S31) (hl : x0.length ≤ 60) (hp : ∀ p ∈ x0, In64p p) (h200 : (x0.flatMap kbp).length ≤ 200) : Ev (fun k => rhizomelaw01_KeyWrites.j1 k x0 (x0.flatMap kbp) 0 false) true := by
  have hd := decode_ev (x0.flatMap kbp) (flatMap_isB x0)
  rw [if_neg (by omega), parse_complete x0 _ (Nat.le_refl _) hp] at hd
  refine Ev.step (f := fun k => (key_Decode.f k (x0.flatMap kbp)).bind fun bt299 => (rhizomelaw01_KeyWrites.l0 k x0 bt299.1 bt299.2 bt299.1 (bt299.1.length : Int) 0)) (fun k => by rw [rhizomelaw01_KeyWrites.j1, if_neg (by decide), if_pos rfl]) (Ev.bind hd ?_)
  exact writes_l0 x0 hl x0.length 0 (by omega) (by omega)
theorem writes_pure (x0 : List S31) (hl : x0.length < 4611686018427387904) (hp : ∀ p ∈ x0, In64p p) : Ev (fun k => rhizomelaw01_KeyWrites.f k x0) true := by
  unfold rhizomelaw01_KeyWrites.f
  refine Ev.bind awake_ev ?_
  simp only [if_true]
  obtain ⟨b, hb, h60⟩ := few_ev x0 hl
  refine Ev.bind hb ?_
  cases b with
  | false => exact writes_j0_end x0
  | true =>
    have h60 := h60 rfl
    show Ev (fun k => rhizomelaw01_KeyWrites.j0 k x0 false) true
    have he := encode_ev x0 hl
    have hr := refEncode_ev x0 hl
    have hs := same_ev x0 hl
    obtain ⟨B, e, hB, hj⟩ : ∃ B e, encK [] x0 = (B, e) ∧ Ev (fun k => rhizomelaw01_KeyWrites.j1 k x0 B e false) true := by
      rcases encK_cases x0 [] (by simp) with h | ⟨h, h200⟩
      · exact ⟨_, _, h, writes_j1_no x0 []⟩
      · rw [List.nil_append] at h h200
        exact ⟨_, _, h, writes_j1_ok x0 h60 hp h200⟩
    rw [hB] at he hr
    have ho : rhizomelaw01_own.f x0 = some x0 := by
      unfold rhizomelaw01_own.f
      rw [Option.bind_some, if_pos (by rw [List.length_nil]; omega), List.nil_append]
    have hf : rhizomelaw01_Ref.f x0 = some (x0.map toRef) := by unfold rhizomelaw01_Ref.f; rw [if_pos (by omega)]
    refine Ev.step (f := fun k => (key_Encode.f k x0).bind fun bt287 => ((rhizomeref01_Encode.f k (x0.map toRef)).bind fun bt294 => (if bt287.2 = bt294.2 then (if (strOfNums bt287.1).toList = (strOfNums bt294.1).toList then ((rhizomelaw01_same.f k x0 x0).bind fun t298 => (rhizomelaw01_KeyWrites.j1 k x0 bt287.1 bt294.2 (!t298))) else (rhizomelaw01_KeyWrites.j1 k x0 bt287.1 bt294.2 true)) else (rhizomelaw01_KeyWrites.j1 k x0 bt287.1 bt294.2 true)))) (fun k => ?_) ?_
    · rw [rhizomelaw01_KeyWrites.j0, if_neg (by decide), ho, Option.bind_some, hf]
      rfl
    · refine Ev.bind he (Ev.bind hr ?_)
      refine Ev.congr (f := fun k => (rhizomelaw01_same.f k x0 x0).bind fun t298 => (rhizomelaw01_KeyWrites.j1 k x0 B e (!t298))) (fun k => ?_) (Ev.bind hs hj)
      show (if e = e then _ else _) = _
      rw [if_pos rfl, if_pos rfl]
end Go.Proofs.YtamaoileeipgeaaDoor.XKey
