-- Written by xprint.py (a program of this session's repo) over the kit's print; Lean checks it.
import Derived.Test.YtamaoileeipgeaaDoorXKey0
import Derived.Test.YtamaoileeipgeaaDoorXKey2
import Derived.Test.YtamaoileeipgeaaDoorXKey5
import Derived.Test.YtamaoileeipgeaaDoorXKey6
import Derived.Test.YtamaoileeipgeaaDoorXKey8
namespace Go.Proofs.YtamaoileeipgeaaDoor.XKey
open Go.RowKit Go.Proofs.YtamaoileeipgeaaDoorW.PrintWords Go.Proofs.YtamaoileeipgeaaDoorW.PrintLast Go.Proofs.YtamaoileeipgeaaDoorW.PrintMore
attribute [local go_sem] max2_int min2_int max_two min_two max_three min_three max_four min_four   -- for this text's walks alone
set_option linter.unusedVariables false
set_option linter.unusedSimpArgs false

/-! ### rhizomelaw01_KeyWrites: function 5 -/
mutual
def rhizomelaw01_KeyWrites.j0 : Nat → List (S31) → Bool → Option (Bool)
  | 0, _, _ => none
  | k + 1, x0, x18 => if x18 = true then ((rhizomelaw01_awake.f k).bind fun t283 => (some t283)) else ((rhizomelaw01_own.f x0).bind fun t284 => ((key_Encode.f k t284).bind fun bt287 => ((rhizomelaw01_Ref.f x0).bind fun t291 => ((rhizomeref01_Encode.f k t291).bind fun bt294 => (if bt287.2 = bt294.2 then (if (strOfNums bt287.1).toList = (strOfNums bt294.1).toList then ((rhizomelaw01_same.f k t284 x0).bind fun t298 => (rhizomelaw01_KeyWrites.j1 k x0 bt287.1 bt294.2 (!t298))) else (rhizomelaw01_KeyWrites.j1 k x0 bt287.1 bt294.2 true)) else (rhizomelaw01_KeyWrites.j1 k x0 bt287.1 bt294.2 true))))))
def rhizomelaw01_KeyWrites.j1 : Nat → List (S31) → List Int → Int → Bool → Option (Bool)
  | 0, _, _, _, _ => none
  | k + 1, x0, x4, x7, x48 => if x48 = true then (some false) else (if x7 = 0 then ((key_Decode.f k x4).bind fun bt299 => (rhizomelaw01_KeyWrites.l0 k x0 bt299.1 bt299.2 bt299.1 (bt299.1.length : Int) 0)) else (some true))
def rhizomelaw01_KeyWrites.l0 : Nat → List (S31) → List (S31) → Int → List (S31) → Int → Int → Option (Bool)
  | 0, _, _, _, _, _, _ => none
  | k + 1, x0, x8, x9, x56, x57, x58 => if x58 < x57 then (if 0 ≤ x58 then (if x58 < (x56.length : Int) then (if (rd_T31 x56 x58).f0 = true then (if ((rd_T31 x56 x58).f2) = 0 then (if ((rd_T31 x56 x58).f0 = true) then (rhizomelaw01_KeyWrites.l0 k x0 x8 x9 x56 x57 (wrap64 (x58 + 1))) else (if ((rd_T31 x56 x58).f1).toList = ([] : List UInt8) then (rhizomelaw01_KeyWrites.l0 k x0 x8 x9 x56 x57 (wrap64 (x58 + 1))) else (some false))) else (some false)) else (if ((rd_T31 x56 x58).f0 = true) then (rhizomelaw01_KeyWrites.l0 k x0 x8 x9 x56 x57 (wrap64 (x58 + 1))) else (if ((rd_T31 x56 x58).f1).toList = ([] : List UInt8) then (rhizomelaw01_KeyWrites.l0 k x0 x8 x9 x56 x57 (wrap64 (x58 + 1))) else (some false)))) else (none)) else (none)) else (if x9 = 0 then ((rhizomelaw01_Ref.f x8).bind fun t305 => ((rhizomelaw01_Ref.f x0).bind fun t308 => ((rhizomeref01_Same.f k t305 t308).bind fun t311 => (some t311)))) else (some false))
end
def rhizomelaw01_KeyWrites.f (k : Nat) (l0 : List (S31)) : Option (Bool) := (rhizomelaw01_awake.f k).bind fun t281 => (if t281 = true then ((rhizomelaw01_few.f k l0).bind fun t282 => (rhizomelaw01_KeyWrites.j0 k l0 (!t282))) else (rhizomelaw01_KeyWrites.j0 k l0 true))
theorem rhizomelaw01_KeyWrites.mono_l : ∀ k, (∀ y0 y1, LeO (rhizomelaw01_KeyWrites.j0 k y0 y1) (rhizomelaw01_KeyWrites.j0 (k + 1) y0 y1)) ∧ (∀ y0 y1 y2 y3, LeO (rhizomelaw01_KeyWrites.j1 k y0 y1 y2 y3) (rhizomelaw01_KeyWrites.j1 (k + 1) y0 y1 y2 y3)) ∧ (∀ y0 y1 y2 y3 y4 y5, LeO (rhizomelaw01_KeyWrites.l0 k y0 y1 y2 y3 y4 y5) (rhizomelaw01_KeyWrites.l0 (k + 1) y0 y1 y2 y3 y4 y5))
  | 0 => ⟨fun _ _ r h => by simp [rhizomelaw01_KeyWrites.j0] at h, fun _ _ _ _ r h => by simp [rhizomelaw01_KeyWrites.j1] at h, fun _ _ _ _ _ _ r h => by simp [rhizomelaw01_KeyWrites.l0] at h⟩
  | k + 1 => by
    obtain ⟨ih0, ih1, ih2⟩ := rhizomelaw01_KeyWrites.mono_l k
    refine ⟨?_, ?_, ?_⟩
    · intro y0 y1
      unfold rhizomelaw01_KeyWrites.j0
      repeat' first
      | (with_reducible exact ih0 _ _)
      | (with_reducible exact ih1 _ _ _ _)
      | (with_reducible exact ih2 _ _ _ _ _ _)
      | (with_reducible exact key_Decode.mono _ _)
      | (with_reducible exact key_Encode.mono _ _)
      | (with_reducible exact rhizomelaw01_awake.mono _)
      | (with_reducible exact rhizomelaw01_few.mono _ _)
      | (with_reducible exact rhizomelaw01_same.mono _ _ _)
      | (with_reducible exact rhizomeref01_Encode.mono _ _)
      | (with_reducible exact rhizomeref01_Same.mono _ _ _)
      | (with_reducible exact LeO.refl _)
      | (with_reducible exact LeO.none _)
      | (with_reducible refine LeO.ite ?_ ?_)
      | (with_reducible refine LeO.bind ?_ (fun _ => ?_))
      | exact ih0 _ _
      | exact ih1 _ _ _ _
      | exact ih2 _ _ _ _ _ _
      | exact key_Decode.mono _ _
      | exact key_Encode.mono _ _
      | exact rhizomelaw01_awake.mono _
      | exact rhizomelaw01_few.mono _ _
      | exact rhizomelaw01_same.mono _ _ _
      | exact rhizomeref01_Encode.mono _ _
      | exact rhizomeref01_Same.mono _ _ _
      | exact LeO.none _
      | refine LeO.ite ?_ ?_
      | refine LeO.bind ?_ (fun _ => ?_)
    · intro y0 y1 y2 y3
      unfold rhizomelaw01_KeyWrites.j1
      repeat' first
      | (with_reducible exact ih0 _ _)
      | (with_reducible exact ih1 _ _ _ _)
      | (with_reducible exact ih2 _ _ _ _ _ _)
      | (with_reducible exact key_Decode.mono _ _)
      | (with_reducible exact key_Encode.mono _ _)
      | (with_reducible exact rhizomelaw01_awake.mono _)
      | (with_reducible exact rhizomelaw01_few.mono _ _)
      | (with_reducible exact rhizomelaw01_same.mono _ _ _)
      | (with_reducible exact rhizomeref01_Encode.mono _ _)
      | (with_reducible exact rhizomeref01_Same.mono _ _ _)
      | (with_reducible exact LeO.refl _)
      | (with_reducible exact LeO.none _)
      | (with_reducible refine LeO.ite ?_ ?_)
      | (with_reducible refine LeO.bind ?_ (fun _ => ?_))
      | exact ih0 _ _
      | exact ih1 _ _ _ _
      | exact ih2 _ _ _ _ _ _
      | exact key_Decode.mono _ _
      | exact key_Encode.mono _ _
      | exact rhizomelaw01_awake.mono _
      | exact rhizomelaw01_few.mono _ _
      | exact rhizomelaw01_same.mono _ _ _
      | exact rhizomeref01_Encode.mono _ _
      | exact rhizomeref01_Same.mono _ _ _
      | exact LeO.none _
      | refine LeO.ite ?_ ?_
      | refine LeO.bind ?_ (fun _ => ?_)
    · intro y0 y1 y2 y3 y4 y5
      unfold rhizomelaw01_KeyWrites.l0
      repeat' first
      | (with_reducible exact ih0 _ _)
      | (with_reducible exact ih1 _ _ _ _)
      | (with_reducible exact ih2 _ _ _ _ _ _)
      | (with_reducible exact key_Decode.mono _ _)
      | (with_reducible exact key_Encode.mono _ _)
      | (with_reducible exact rhizomelaw01_awake.mono _)
      | (with_reducible exact rhizomelaw01_few.mono _ _)
      | (with_reducible exact rhizomelaw01_same.mono _ _ _)
      | (with_reducible exact rhizomeref01_Encode.mono _ _)
      | (with_reducible exact rhizomeref01_Same.mono _ _ _)
      | (with_reducible exact LeO.refl _)
      | (with_reducible exact LeO.none _)
      | (with_reducible refine LeO.ite ?_ ?_)
      | (with_reducible refine LeO.bind ?_ (fun _ => ?_))
      | exact ih0 _ _
      | exact ih1 _ _ _ _
      | exact ih2 _ _ _ _ _ _
      | exact key_Decode.mono _ _
      | exact key_Encode.mono _ _
      | exact rhizomelaw01_awake.mono _
      | exact rhizomelaw01_few.mono _ _
      | exact rhizomelaw01_same.mono _ _ _
      | exact rhizomeref01_Encode.mono _ _
      | exact rhizomeref01_Same.mono _ _ _
      | exact LeO.none _
      | refine LeO.ite ?_ ?_
      | refine LeO.bind ?_ (fun _ => ?_)
theorem rhizomelaw01_KeyWrites.mono : ∀ a0 k, LeO (rhizomelaw01_KeyWrites.f k a0) (rhizomelaw01_KeyWrites.f (k + 1) a0) := by
  intro a0 k
  obtain ⟨ih0, ih1, ih2⟩ := rhizomelaw01_KeyWrites.mono_l k
  unfold rhizomelaw01_KeyWrites.f
  repeat' first
      | (with_reducible exact ih0 _ _)
      | (with_reducible exact ih1 _ _ _ _)
      | (with_reducible exact ih2 _ _ _ _ _ _)
      | (with_reducible exact key_Decode.mono _ _)
      | (with_reducible exact key_Encode.mono _ _)
      | (with_reducible exact rhizomelaw01_awake.mono _)
      | (with_reducible exact rhizomelaw01_few.mono _ _)
      | (with_reducible exact rhizomelaw01_same.mono _ _ _)
      | (with_reducible exact rhizomeref01_Encode.mono _ _)
      | (with_reducible exact rhizomeref01_Same.mono _ _ _)
      | (with_reducible exact LeO.refl _)
      | (with_reducible exact LeO.none _)
      | (with_reducible refine LeO.ite ?_ ?_)
      | (with_reducible refine LeO.bind ?_ (fun _ => ?_))
      | exact ih0 _ _
      | exact ih1 _ _ _ _
      | exact ih2 _ _ _ _ _ _
      | exact key_Decode.mono _ _
      | exact key_Encode.mono _ _
      | exact rhizomelaw01_awake.mono _
      | exact rhizomelaw01_few.mono _ _
      | exact rhizomelaw01_same.mono _ _ _
      | exact rhizomeref01_Encode.mono _ _
      | exact rhizomeref01_Same.mono _ _ _
      | exact LeO.none _
      | refine LeO.ite ?_ ?_
      | refine LeO.bind ?_ (fun _ => ?_)
set_option maxHeartbeats 8000000 in
set_option maxRecDepth 100000 in
theorem rhizomelaw01_KeyWrites.calls (k : Nat) (A0 : Option Addr) (c0 : Nat) (l0 : List (S31)) (r : Bool) (w : World) (hr0 : Kd.C k31 w A0 l0.length l0) (hc0 : l0.length ≤ c0) (h : rhizomelaw01_KeyWrites.f k l0 = some r) :
    Calls Tryd.prog 5 #[.slice A0 l0.length c0] w fun e w' => e = .returned (.bool r) ∧ Below w.heap.size w w' := by
  have hu31 := Tryd.underlying31
  have HR0 := Aside0.mk hr0
  have HC0 := Aside0.mk hc0
  clear hr0 hc0
  have HB := Aside0.mk (Below.refl w.heap.size w)
  have H : ((rhizomelaw01_awake.f k).bind fun t281 => (if t281 = true then ((rhizomelaw01_few.f k l0).bind fun t282 => (rhizomelaw01_KeyWrites.j0 k l0 (!t282))) else (rhizomelaw01_KeyWrites.j0 k l0 true))) = some r := h
  clear h
  have HC2 := Aside0.mk H
  clear H
  go_enter Tryd.func5, Tryd.ntmps5
  go_upto_region 1 with (fail)
  go_cut [18] (fun v18 wc => ∃ (kq : Nat) (x18_1 : Bool), v18 = .bool x18_1 ∧ Aside0 (rhizomelaw01_KeyWrites.j0 kq l0 x18_1 = some r) ∧ Aside0 (kq ≤ k) ∧ Aside0 (Below w.heap.size w wc))
  case first =>
    have H := HC2.out
    clear HC2
    replace H := Option.bind_eq_some_iff.mp H
    obtain ⟨t281, A30, H⟩ := H
    replace H : (if t281 = true then ((rhizomelaw01_few.f k l0).bind fun t282 => (rhizomelaw01_KeyWrites.j0 k l0 (!t282))) else (rhizomelaw01_KeyWrites.j0 k l0 true)) = some r := H
    have A3 := Aside0.mk A30
    clear A30
    by_cases c4 : t281 = true
    · subst c4
      have H1 : ((rhizomelaw01_few.f k l0).bind fun t282 => (rhizomelaw01_KeyWrites.j0 k l0 (!t282))) = some r := by rw [if_pos rfl] at H; exact H
      clear H
      have H := H1
      clear H1
      replace H := Option.bind_eq_some_iff.mp H
      obtain ⟨t282, A50, H⟩ := H
      replace H : (rhizomelaw01_KeyWrites.j0 k l0 (!t282)) = some r := H
      have A5 := Aside0.mk A50
      clear A50
      have H' := Aside0.mk H
      clear H
      go_wp2_with (first | ((with_reducible refine gate_callee (f := 10) rfl ?_); refine goesL_ (some 12) rfl rfl Tryd.func10 (by kernel_rfl) rfl #[] rfl (by (try simp only [List.map_toArray, List.map_cons, List.map_nil]); first | done | rfl | (simp only [List.length_drop, List.length_take]; rfl)) ?_; (with_reducible refine (rhizomelaw01_awake.calls k  true _ A3.out).mono ?_); rintro e w6 ⟨rfl, hb⟩; refine ⟨_, rfl, ?_⟩; have n0_ := Aside0.mk (below_step (by repeat (first | (with_reducible first | exact HB.out | apply below_alloc | apply pw_below_drewN | apply below_drew1) | exact HB.out)) hb); clear HB; have HB := n0_; clear n0_; (try clear hb); (try clear hb2); (try clear hk); (try clear hi)) | (go_at_call 13; (with_reducible refine (rhizomelaw01_few.calls k _ _ l0 t282 _ ?side1 ?side2 A5.out).mono ?_); (case side1 => repeat (first | exact (Kd.C_below HR0.out HB.out) | (with_reducible refine Kd.C_alloc ?_ _) | (with_reducible refine Kd.C_drewN ?_ _) | (with_reducible refine Kd.C_drew ?_))); (case side2 => exact HC0.out); rintro e w' ⟨rfl, ⟨nd, rfl⟩⟩))
      go_meet
      case rel => exact ⟨_, (!t282), (by first | rfl | (simp; done) | (simp [*]; done)), H', ⟨by first | omega | exact Nat.le_refl _⟩, ⟨by repeat (first | (with_reducible first | exact HB.out | apply below_alloc | apply pw_below_drewN | apply below_drew1) | exact HB.out)⟩⟩
    · replace c4 := Bool.eq_false_iff.mpr c4
      subst c4
      have H1 : (rhizomelaw01_KeyWrites.j0 k l0 true) = some r := by rw [if_neg (show ¬ (false = true) by decide)] at H; exact H
      clear H
      have H := H1
      clear H1
      have H' := Aside0.mk H
      clear H
      go_wp2_with (first | ((with_reducible refine gate_callee (f := 10) rfl ?_); refine goesL_ (some 12) rfl rfl Tryd.func10 (by kernel_rfl) rfl #[] rfl (by (try simp only [List.map_toArray, List.map_cons, List.map_nil]); first | done | rfl | (simp only [List.length_drop, List.length_take]; rfl)) ?_; (with_reducible refine (rhizomelaw01_awake.calls k  false _ A3.out).mono ?_); rintro e w7 ⟨rfl, hb⟩; refine ⟨_, rfl, ?_⟩; have n0_ := Aside0.mk (below_step (by repeat (first | (with_reducible first | exact HB.out | apply below_alloc | apply pw_below_drewN | apply below_drew1) | exact HB.out)) hb); clear HB; have HB := n0_; clear n0_; (try clear hb); (try clear hb2); (try clear hk); (try clear hi)))
      go_meet
      case rel => exact ⟨_, (true), (by first | rfl | (simp; done) | (simp [*]; done)), H', ⟨by first | omega | exact Nat.le_refl _⟩, ⟨by repeat (first | (with_reducible first | exact HB.out | apply below_alloc | apply pw_below_drewN | apply below_drew1) | exact HB.out)⟩⟩
  case rest =>
    clear HC2
    try clear c1
    try clear p2
    try clear c4
    try clear c5
    obtain ⟨kq, x18_1, rfl, HA, HJ1, HB⟩ := hcut
    cases kq with
    | zero => exact absurd HA.out (by simp [rhizomelaw01_KeyWrites.j0])
    | succ kj1 =>
      have H := HA.out
      clear HA
      simp only [rhizomelaw01_KeyWrites.j0] at H
      by_cases c8 : x18_1 = true
      · subst c8
        have H1 : ((rhizomelaw01_awake.f kj1).bind fun t283 => (some t283)) = some r := by rw [if_pos rfl] at H; exact H
        clear H
        have H := H1
        clear H1
        replace H := Option.bind_eq_some_iff.mp H
        obtain ⟨t283, A90, H⟩ := H
        replace H : (some t283) = some r := H
        have A9 := Aside0.mk A90
        clear A90
        obtain rfl := Option.some.inj H
        go_wp2_with (first | ((with_reducible refine gate_callee (f := 10) rfl ?_); refine goesL_ (some 19) rfl rfl Tryd.func10 (by kernel_rfl) rfl #[] rfl (by (try simp only [List.map_toArray, List.map_cons, List.map_nil]); first | done | rfl | (simp only [List.length_drop, List.length_take]; rfl)) ?_; (with_reducible refine (rhizomelaw01_awake.calls kj1  t283 _ A9.out).mono ?_); rintro e w10 ⟨rfl, hb⟩; refine ⟨_, rfl, ?_⟩; have n0_ := Aside0.mk (below_step (by repeat (first | (with_reducible first | exact HB.out | apply below_alloc | apply pw_below_drewN | apply below_drew1) | exact HB.out)) hb); clear HB; have HB := n0_; clear n0_; (try clear hb); (try clear hb2); (try clear hk); (try clear hi)))
        go_ret
        exact ⟨by first | rfl | (simp [errW_none, errW_some] <;> rfl) | (simp [*, errW_none, errW_some] <;> rfl), by repeat (first | (with_reducible first | exact HB.out | apply below_alloc | apply pw_below_drewN | apply below_drew1) | exact HB.out)⟩
      · replace c8 := Bool.eq_false_iff.mpr c8
        subst c8
        have H1 : ((rhizomelaw01_own.f l0).bind fun t284 => ((key_Encode.f kj1 t284).bind fun bt287 => ((rhizomelaw01_Ref.f l0).bind fun t291 => ((rhizomeref01_Encode.f kj1 t291).bind fun bt294 => (if bt287.2 = bt294.2 then (if (strOfNums bt287.1).toList = (strOfNums bt294.1).toList then ((rhizomelaw01_same.f kj1 t284 l0).bind fun t298 => (rhizomelaw01_KeyWrites.j1 kj1 l0 bt287.1 bt294.2 (!t298))) else (rhizomelaw01_KeyWrites.j1 kj1 l0 bt287.1 bt294.2 true)) else (rhizomelaw01_KeyWrites.j1 kj1 l0 bt287.1 bt294.2 true)))))) = some r := by rw [if_neg (show ¬ (false = true) by decide)] at H; exact H
        clear H
        have H := H1
        clear H1
        replace H := Option.bind_eq_some_iff.mp H
        obtain ⟨t284, A110, H⟩ := H
        replace H : ((key_Encode.f kj1 t284).bind fun bt287 => ((rhizomelaw01_Ref.f l0).bind fun t291 => ((rhizomeref01_Encode.f kj1 t291).bind fun bt294 => (if bt287.2 = bt294.2 then (if (strOfNums bt287.1).toList = (strOfNums bt294.1).toList then ((rhizomelaw01_same.f kj1 t284 l0).bind fun t298 => (rhizomelaw01_KeyWrites.j1 kj1 l0 bt287.1 bt294.2 (!t298))) else (rhizomelaw01_KeyWrites.j1 kj1 l0 bt287.1 bt294.2 true)) else (rhizomelaw01_KeyWrites.j1 kj1 l0 bt287.1 bt294.2 true))))) = some r := H
        have A11 := Aside0.mk A110
        clear A110
        replace H := Option.bind_eq_some_iff.mp H
        obtain ⟨⟨t287, t290⟩, A120, H⟩ := H
        replace H : ((rhizomelaw01_Ref.f l0).bind fun t291 => ((rhizomeref01_Encode.f kj1 t291).bind fun bt294 => (if t290 = bt294.2 then (if (strOfNums t287).toList = (strOfNums bt294.1).toList then ((rhizomelaw01_same.f kj1 t284 l0).bind fun t298 => (rhizomelaw01_KeyWrites.j1 kj1 l0 t287 bt294.2 (!t298))) else (rhizomelaw01_KeyWrites.j1 kj1 l0 t287 bt294.2 true)) else (rhizomelaw01_KeyWrites.j1 kj1 l0 t287 bt294.2 true)))) = some r := H
        have A12 := Aside0.mk A120
        clear A120
        replace H := Option.bind_eq_some_iff.mp H
        obtain ⟨t291, A130, H⟩ := H
        replace H : ((rhizomeref01_Encode.f kj1 t291).bind fun bt294 => (if t290 = bt294.2 then (if (strOfNums t287).toList = (strOfNums bt294.1).toList then ((rhizomelaw01_same.f kj1 t284 l0).bind fun t298 => (rhizomelaw01_KeyWrites.j1 kj1 l0 t287 bt294.2 (!t298))) else (rhizomelaw01_KeyWrites.j1 kj1 l0 t287 bt294.2 true)) else (rhizomelaw01_KeyWrites.j1 kj1 l0 t287 bt294.2 true))) = some r := H
        have A13 := Aside0.mk A130
        clear A130
        replace H := Option.bind_eq_some_iff.mp H
        obtain ⟨⟨t294, t295⟩, A140, H⟩ := H
        replace H : (if t290 = t295 then (if (strOfNums t287).toList = (strOfNums t294).toList then ((rhizomelaw01_same.f kj1 t284 l0).bind fun t298 => (rhizomelaw01_KeyWrites.j1 kj1 l0 t287 t295 (!t298))) else (rhizomelaw01_KeyWrites.j1 kj1 l0 t287 t295 true)) else (rhizomelaw01_KeyWrites.j1 kj1 l0 t287 t295 true)) = some r := H
        have A14 := Aside0.mk A140
        clear A140
        have HC15 := Aside0.mk H
        clear H
        go_upto_region 6 with (first | ((with_reducible refine gate_callee (f := 16) rfl ?_); refine goesL_ (some 21) rfl rfl Tryd.func16 (by kernel_rfl) rfl #[.slice A0 l0.length c0] rfl (by (try simp only [List.map_toArray, List.map_cons, List.map_nil]); first | done | rfl | (simp only [List.length_drop, List.length_take]; rfl)) ?_; (with_reducible refine (rhizomelaw01_own.calls _ _ l0 t284 _ ?side1 ?side2 A11.out).mono ?_); (case side1 => repeat (first | exact (Kd.C_below HR0.out HB.out) | (with_reducible refine Kd.C_alloc ?_ _) | (with_reducible refine Kd.C_drewN ?_ _) | (with_reducible refine Kd.C_drew ?_))); (case side2 => exact HC0.out); rintro e w16 ⟨v285, rfl, ho0, hb⟩; refine ⟨_, rfl, ?_⟩; have n0_ := Aside0.mk (Kd.R_lower ho0 (below_size (by repeat (first | (with_reducible first | exact HB.out | apply below_alloc | apply pw_below_drewN | apply below_drew1) | exact HB.out)))); have n1_ := Aside0.mk (below_step (by repeat (first | (with_reducible first | exact HB.out | apply below_alloc | apply pw_below_drewN | apply below_drew1) | exact HB.out)) hb); clear HB; have HO286 := n0_; have HB := n1_; clear n0_ n1_; (try clear hb); (try clear hb2); (try clear hk); (try clear hi); (try clear ho0); obtain ⟨Ao17, co17, eo17⟩ := Kd.R_slice HO286.out; subst eo17) | ((with_reducible refine gate_callee (f := 15) rfl ?_); refine goesL_ (some 24) rfl rfl Tryd.func15 (by kernel_rfl) rfl #[.slice Ao17 t284.length co17] rfl (by (try simp only [List.map_toArray, List.map_cons, List.map_nil]); first | done | rfl | (simp only [List.length_drop, List.length_take]; rfl)) ?_; (with_reducible refine (key_Encode.calls kj1 _ _ t284 t287 t290 _ ?side1 ?side2 A12.out).mono ?_); (case side1 => repeat (first | exact (Kd.R_reads' HO286.out).2.2 | (with_reducible refine Kd.C_alloc ?_ _) | (with_reducible refine Kd.C_drewN ?_ _) | (with_reducible refine Kd.C_drew ?_))); (case side2 => exact (Kd.R_reads' HO286.out).2.1); rintro e w18 ⟨v288, rfl, ho0, hb⟩; refine ⟨_, rfl, ?_⟩; have n0_ := Aside0.mk (Kd.R_below (by (with_reducible repeat (first | apply Kd.R_alloc | apply Kd.R_drewN | apply Kd.R_drew)); exact HO286.out) hb); have n1_ := Aside0.mk (Kd.V_lower (Kd.V_mono (ok' := fun k_ => some k_ ≠ (.slice Ao17 t284.length co17 : Value).ownBlock) ho0 (fun k_ hk_ => (Kd.fresh' (Kd.R_lt (by (with_reducible repeat (first | apply Kd.R_alloc | apply Kd.R_drewN | apply Kd.R_drew)); exact HO286.out)) k_ hk_))) (below_size (by repeat (first | (with_reducible first | exact HB.out | apply below_alloc | apply pw_below_drewN | apply below_drew1) | exact HB.out)))); have n2_ := Aside0.mk (below_step (by repeat (first | (with_reducible first | exact HB.out | apply below_alloc | apply pw_below_drewN | apply below_drew1) | exact HB.out)) hb); clear HO286; clear HB; have HO286 := n0_; have HO289 := n1_; have HB := n2_; clear n0_ n1_ n2_; (try clear hb); (try clear hb2); (try clear hk); (try clear hi); (try clear ho0)) | ((with_reducible refine gate_callee (f := 20) rfl ?_); refine goesL_ (some 29) rfl rfl Tryd.func20 (by kernel_rfl) rfl #[.slice A0 l0.length c0] rfl (by (try simp only [List.map_toArray, List.map_cons, List.map_nil]); first | done | rfl | (simp only [List.length_drop, List.length_take]; rfl)) ?_; (with_reducible refine (rhizomelaw01_Ref.calls _ _ l0 t291 _ ?side1 ?side2 A13.out).mono ?_); (case side1 => repeat (first | exact (Kd.C_below HR0.out HB.out) | (with_reducible refine Kd.C_alloc ?_ _) | (with_reducible refine Kd.C_drewN ?_ _) | (with_reducible refine Kd.C_drew ?_))); (case side2 => exact HC0.out); rintro e w19 ⟨v292, rfl, ho0, hb⟩; refine ⟨_, rfl, ?_⟩; have n0_ := Aside0.mk (Kd.R_below (by (with_reducible repeat (first | apply Kd.R_alloc | apply Kd.R_drewN | apply Kd.R_drew)); exact HO286.out) hb); have n1_ := Aside0.mk (Kd.V_elder' (by (with_reducible repeat (first | apply Kd.V_alloc | apply Kd.V_drewN | apply Kd.V_drew)); exact HO289.out) (Kd.R_base ho0) hb); have n2_ := Aside0.mk (Kd.R_lower ho0 (below_size (by repeat (first | (with_reducible first | exact HB.out | apply below_alloc | apply pw_below_drewN | apply below_drew1) | exact HB.out)))); have n3_ := Aside0.mk (below_step (by repeat (first | (with_reducible first | exact HB.out | apply below_alloc | apply pw_below_drewN | apply below_drew1) | exact HB.out)) hb); clear HO286; clear HO289; clear HB; have HO286 := n0_; have HO289 := n1_; have HO293 := n2_; have HB := n3_; clear n0_ n1_ n2_ n3_; (try clear hb); (try clear hb2); (try clear hk); (try clear hi); (try clear ho0); obtain ⟨Ao20, co20, eo20⟩ := Kd.R_slice HO293.out; subst eo20) | ((with_reducible refine gate_callee (f := 19) rfl ?_); refine goesL_ (some 30) rfl rfl Tryd.func19 (by kernel_rfl) rfl #[.slice Ao20 t291.length co20] rfl (by (try simp only [List.map_toArray, List.map_cons, List.map_nil]); first | done | rfl | (simp only [List.length_drop, List.length_take]; rfl)) ?_; (with_reducible refine (rhizomeref01_Encode.calls kj1 _ _ t291 t294 t295 _ ?side1 ?side2 A14.out).mono ?_); (case side1 => repeat (first | exact (Kd.R_reads' HO293.out).2.2 | (with_reducible refine Kd.C_alloc ?_ _) | (with_reducible refine Kd.C_drewN ?_ _) | (with_reducible refine Kd.C_drew ?_))); (case side2 => exact (Kd.R_reads' HO293.out).2.1); rintro e w21 ⟨v296, rfl, ho0, hb⟩; refine ⟨_, rfl, ?_⟩; have n0_ := Aside0.mk (Kd.R_below (by (with_reducible repeat (first | apply Kd.R_alloc | apply Kd.R_drewN | apply Kd.R_drew)); exact HO286.out) hb); have n1_ := Aside0.mk (Kd.V_elder' (by (with_reducible repeat (first | apply Kd.V_alloc | apply Kd.V_drewN | apply Kd.V_drew)); exact HO289.out) (Kd.R_base ho0) hb); have n2_ := Aside0.mk (Kd.R_below (by (with_reducible repeat (first | apply Kd.R_alloc | apply Kd.R_drewN | apply Kd.R_drew)); exact HO293.out) hb); have n3_ := Aside0.mk (Kd.R_lower ho0 (below_size (by repeat (first | (with_reducible first | exact HB.out | apply below_alloc | apply pw_below_drewN | apply below_drew1) | exact HB.out)))); have n4_ := Aside0.mk (below_step (by repeat (first | (with_reducible first | exact HB.out | apply below_alloc | apply pw_below_drewN | apply below_drew1) | exact HB.out)) hb); clear HO286; clear HO289; clear HO293; clear HB; have HO286 := n0_; have HO289 := n1_; have HO293 := n2_; have HO297 := n3_; have HB := n4_; clear n0_ n1_ n2_ n3_ n4_; (try clear hb); (try clear hb2); (try clear hk); (try clear hi); (try clear ho0)))
        (try simp only [Act.put, List.setIfInBounds_toArray, List.set_cons_zero, List.set_cons_succ])
        go_cut [48] (fun v48 wc => ∃ (kq : Nat) (x48_14 : Bool), v48 = .bool x48_14 ∧ Aside0 (rhizomelaw01_KeyWrites.j1 kq l0 t287 t295 x48_14 = some r) ∧ Aside0 (kq ≤ kj1) ∧ Aside0 (Kd.V (Kd.int .u8) 5 wc w.heap.size (fun _ => True) v288 t287) ∧ Aside0 (Below w.heap.size w wc))
        case first =>
          have H := HC15.out
          clear HC15
          by_cases c22 : t290 = t295
          · rw [if_pos c22] at H
            have c22b0 : (t290 == t295) = true := beq_iff_eq.mpr c22
            have c22b1 : (t290 != t295) = false := bne_eq_false_iff_eq.mpr c22
            clear c22
            (first | rw [c22b0] | (simp only [i64_w, i32_w]; rw [c22b0]) | skip)
            by_cases c23 : (strOfNums t287).toList = (strOfNums t294).toList
            · rw [if_pos c23] at H
              have c23b0 : ((strOfNums t287).toList == (strOfNums t294).toList) = true := beq_iff_eq.mpr c23
              have c23b1 : ((strOfNums t287).toList != (strOfNums t294).toList) = false := bne_eq_false_iff_eq.mpr c23
              clear c23
              replace H := Option.bind_eq_some_iff.mp H
              obtain ⟨t298, A240, H⟩ := H
              replace H : (rhizomelaw01_KeyWrites.j1 kj1 l0 t287 t295 (!t298)) = some r := H
              have A24 := Aside0.mk A240
              clear A240
              have H' := Aside0.mk H
              clear H
              obtain ⟨Ao25, co25, eo25⟩ := Kd.V_slice HO289.out
              subst eo25
              have hcv26 := Kd.C_string (P := Tryd.prog) (A := Ao25) (c := co25) Tryd.underlying22 Tryd.underlying5 Tryd.underlying9 (Kd.V_reads' HO289.out).2.2
              have hcv27 := own_string (P := Tryd.prog) Tryd.underlying22 Tryd.underlying5 Tryd.underlying9 (Kd.own_of_R HO297.out)
              go_wp2_with (first | (go_at_call 21; (with_reducible refine (rhizomelaw01_same.calls kj1 _ _ t284 _ _ l0 t298 _ ?side1 ?side2 ?side3 ?side4 A24.out).mono ?_); (case side1 => repeat (first | exact (Kd.R_reads' HO286.out).2.2 | (with_reducible refine Kd.C_alloc ?_ _) | (with_reducible refine Kd.C_drewN ?_ _) | (with_reducible refine Kd.C_drew ?_))); (case side2 => exact (Kd.R_reads' HO286.out).2.1); (case side3 => repeat (first | exact (Kd.C_below HR0.out HB.out) | (with_reducible refine Kd.C_alloc ?_ _) | (with_reducible refine Kd.C_drewN ?_ _) | (with_reducible refine Kd.C_drew ?_))); (case side4 => exact HC0.out); rintro e w' ⟨rfl, ⟨nd, rfl⟩⟩))
              go_meet
              case rel => exact ⟨_, (!t298), (by first | rfl | (simp; done) | (simp [*]; done)), H', ⟨by have := HJ1.out; first | omega | exact Nat.le_refl _⟩, ⟨by (with_reducible repeat (first | apply Kd.V_alloc | apply Kd.V_drewN | apply Kd.V_drew)); exact Kd.V_mono HO289.out (fun _ hk => trivial)⟩, ⟨by repeat (first | (with_reducible first | exact HB.out | apply below_alloc | apply pw_below_drewN | apply below_drew1) | exact HB.out)⟩⟩
            · rw [if_neg c23] at H
              have c23b0 : ((strOfNums t287).toList == (strOfNums t294).toList) = false := beq_eq_false_iff_ne.mpr c23
              have c23b1 : ((strOfNums t287).toList != (strOfNums t294).toList) = true := bne_iff_ne.mpr c23
              have H' := Aside0.mk H
              clear H
              obtain ⟨Ao28, co28, eo28⟩ := Kd.V_slice HO289.out
              subst eo28
              have hcv29 := Kd.C_string (P := Tryd.prog) (A := Ao28) (c := co28) Tryd.underlying22 Tryd.underlying5 Tryd.underlying9 (Kd.V_reads' HO289.out).2.2
              have hcv30 := own_string (P := Tryd.prog) Tryd.underlying22 Tryd.underlying5 Tryd.underlying9 (Kd.own_of_R HO297.out)
              go_wp2
              go_meet
              case rel => exact ⟨_, (true), (by first | rfl | (simp; done) | (simp [*]; done)), H', ⟨by have := HJ1.out; first | omega | exact Nat.le_refl _⟩, ⟨by (with_reducible repeat (first | apply Kd.V_alloc | apply Kd.V_drewN | apply Kd.V_drew)); exact Kd.V_mono HO289.out (fun _ hk => trivial)⟩, ⟨by repeat (first | (with_reducible first | exact HB.out | apply below_alloc | apply pw_below_drewN | apply below_drew1) | exact HB.out)⟩⟩
          · rw [if_neg c22] at H
            have c22b0 : (t290 == t295) = false := beq_eq_false_iff_ne.mpr c22
            have c22b1 : (t290 != t295) = true := bne_iff_ne.mpr c22
            (first | rw [c22b0] | (simp only [i64_w, i32_w]; rw [c22b0]) | skip)
            have H' := Aside0.mk H
            clear H
            go_wp2
            go_meet
            case rel => exact ⟨_, (true), (by first | rfl | (simp; done) | (simp [*]; done)), H', ⟨by have := HJ1.out; first | omega | exact Nat.le_refl _⟩, ⟨by (with_reducible repeat (first | apply Kd.V_alloc | apply Kd.V_drewN | apply Kd.V_drew)); exact Kd.V_mono HO289.out (fun _ hk => trivial)⟩, ⟨by repeat (first | (with_reducible first | exact HB.out | apply below_alloc | apply pw_below_drewN | apply below_drew1) | exact HB.out)⟩⟩
        case rest =>
          clear HC15
          try clear c1
          try clear c2
          try clear p2
          try clear hcv2
          try clear hcv3
          try clear c4
          try clear c5
          try clear c8
          try clear c10
          try clear c15
          try clear c16
          try clear c19
          try clear c20
          try clear c22
          try clear c22b0
          try clear c22b1
          try clear c23
          try clear c23b0
          try clear c23b1
          try clear hcv26
          try clear hcv27
          try clear hcv29
          try clear hcv30
          try clear p2
          obtain ⟨kq, x48_14, rfl, HA, HJ14, HO_4, HB⟩ := hcut
          cases kq with
          | zero => exact absurd HA.out (by simp [rhizomelaw01_KeyWrites.j1])
          | succ kj14 =>
            have H := HA.out
            clear HA
            simp only [rhizomelaw01_KeyWrites.j1] at H
            by_cases c31 : x48_14 = true
            · subst c31
              have H1 : (some false) = some r := by rw [if_pos rfl] at H; exact H
              clear H
              have H := H1
              clear H1
              obtain rfl := Option.some.inj H
              go_wp2
              go_ret
              exact ⟨by first | rfl | (simp [errW_none, errW_some] <;> rfl) | (simp [*, errW_none, errW_some] <;> rfl), by repeat (first | (with_reducible first | exact HB.out | apply below_alloc | apply pw_below_drewN | apply below_drew1) | exact HB.out)⟩
            · replace c31 := Bool.eq_false_iff.mpr c31
              subst c31
              have H1 : (if t295 = 0 then ((key_Decode.f kj14 t287).bind fun bt299 => (rhizomelaw01_KeyWrites.l0 kj14 l0 bt299.1 bt299.2 bt299.1 (bt299.1.length : Int) 0)) else (some true)) = some r := by rw [if_neg (show ¬ (false = true) by decide)] at H; exact H
              clear H
              have H := H1
              clear H1
              by_cases c32 : t295 = 0
              · rw [if_pos c32] at H
                have c32b0 : (t295 == 0) = true := beq_iff_eq.mpr c32
                have c32b1 : (t295 != 0) = false := bne_eq_false_iff_eq.mpr c32
                clear c32
                replace H := Option.bind_eq_some_iff.mp H
                obtain ⟨⟨t299, t302⟩, A330, H⟩ := H
                replace H : (rhizomelaw01_KeyWrites.l0 kj14 l0 t299 t302 t299 (t299.length : Int) 0) = some r := H
                have A33 := Aside0.mk A330
                clear A330
                have H' := Aside0.mk H
                clear H
                obtain ⟨Ao34, co34, eo34⟩ := Kd.V_slice HO_4.out
                subst eo34
                go_wp2_with (first | ((with_reducible refine gate_callee (f := 22) rfl ?_); refine goesL_ (some 53) rfl rfl Tryd.func22 (by kernel_rfl) rfl #[.slice Ao34 t287.length co34] rfl (by (try simp only [List.map_toArray, List.map_cons, List.map_nil]); first | done | rfl | (simp only [List.length_drop, List.length_take]; rfl)) ?_; (with_reducible refine (key_Decode.calls kj14 (fun k_ => True) _ _ t287 t299 t302 _ ?side1 A33.out).mono ?_); (case side1 => exact HO_4.out); rintro e w35 ⟨v300, rfl, ho0, hb⟩; refine ⟨_, rfl, ?_⟩; have n0_ := Aside0.mk (Kd.V_below (by (with_reducible repeat (first | apply Kd.V_alloc | apply Kd.V_drewN | apply Kd.V_drew)); exact HO_4.out) hb); have n1_ := Aside0.mk (Kd.V_lower (Kd.V_mono (ok' := fun k_ => True) ho0 (fun k_ hk_ => trivial)) (below_size (by repeat (first | (with_reducible first | exact HB.out | apply below_alloc | apply pw_below_drewN | apply below_drew1) | exact HB.out)))); have n2_ := Aside0.mk (below_step (by repeat (first | (with_reducible first | exact HB.out | apply below_alloc | apply pw_below_drewN | apply below_drew1) | exact HB.out)) hb); clear HO_4; clear HB; have HO_4 := n0_; have HO301 := n1_; have HB := n2_; clear n0_ n1_ n2_; (try clear hb); (try clear hb2); (try clear hk); (try clear hi); (try clear ho0); obtain ⟨Ao36, co36, eo36⟩ := Kd.V_slice HO301.out; subst eo36))
                go_loopg [58] kj14 (fun kq v58 w' => ∃ (x58_3 : Int), v58 = .int .i64 x58_3 ∧ Aside0 (rhizomelaw01_KeyWrites.l0 kq l0 t299 t302 t299 (t299.length : Int) x58_3 = some r) ∧ Aside0 (kq ≤ kj14) ∧ Aside0 (Kd.V k31 31 w' w.heap.size (fun _ => True) (.slice Ao36 t299.length co36) t299) ∧ Aside0 (Kd.V k31 31 w' w.heap.size (fun _ => True) (.slice Ao36 t299.length co36) t299) ∧ Aside0 (Below w.heap.size w w'))
                case atStart => exact ⟨(0), (by first | rfl | (simp; done) | (simp [*]; done)), H', ⟨Nat.le_refl _⟩, ⟨by (with_reducible repeat (first | apply Kd.V_alloc | apply Kd.V_drewN | apply Kd.V_drew)); exact HO301.out⟩, ⟨by (with_reducible repeat (first | apply Kd.V_alloc | apply Kd.V_drewN | apply Kd.V_drew)); exact HO301.out⟩, ⟨by repeat (first | (with_reducible first | exact HB.out | apply below_alloc | apply pw_below_drewN | apply below_drew1) | exact HB.out)⟩⟩
                case round =>
                  clear H'
                  try clear c1
                  try clear c2
                  try clear p2
                  try clear hcv2
                  try clear c3
                  try clear hcv3
                  try clear c4
                  try clear c5
                  try clear c8
                  try clear c10
                  try clear c15
                  try clear c16
                  try clear c19
                  try clear c20
                  try clear c22
                  try clear c22b0
                  try clear c22b1
                  try clear c23
                  try clear c23b0
                  try clear c23b1
                  try clear hcv26
                  try clear hcv27
                  try clear hcv29
                  try clear hcv30
                  try clear c31
                  try clear c32
                  try clear c32b0
                  try clear c32b1
                  try clear p2
                  obtain ⟨x58_3, rfl, HA, HK3, HO_8, HO_56, HB⟩ := hrel
                  cases gk with
                  | zero => exact absurd HA.out (by simp [rhizomelaw01_KeyWrites.l0])
                  | succ k3 =>
                    have H := HA.out
                    clear HA
                    simp only [rhizomelaw01_KeyWrites.l0] at H
                    by_cases c37 : x58_3 < (t299.length : Int)
                    · rw [if_pos c37] at H
                      have c37b0 : decide (x58_3 < (t299.length : Int)) = true := decide_eq_true c37
                      clear c37
                      by_cases c38 : 0 ≤ x58_3
                      · rw [if_pos c38] at H
                        have c38b0 : decide (0 ≤ x58_3) = true := decide_eq_true c38
                        clear c38
                        by_cases c39 : x58_3 < (t299.length : Int)
                        · rw [if_pos c39] at H
                          have c39b0 : decide (x58_3 < (t299.length : Int)) = true := decide_eq_true c39
                          clear c39
                          obtain ⟨bq40, hbq40⟩ : ∃ b_ : Bool, b_ = ((rd_T31 t299 x58_3).f0) := ⟨_, rfl⟩
                          replace H : (if bq40 = true then (if ((rd_T31 t299 x58_3).f2) = 0 then (if (bq40 = true) then (rhizomelaw01_KeyWrites.l0 k3 l0 t299 t302 t299 (t299.length : Int) (wrap64 (x58_3 + 1))) else (if ((rd_T31 t299 x58_3).f1).toList = ([] : List UInt8) then (rhizomelaw01_KeyWrites.l0 k3 l0 t299 t302 t299 (t299.length : Int) (wrap64 (x58_3 + 1))) else (some false))) else (some false)) else (if (bq40 = true) then (rhizomelaw01_KeyWrites.l0 k3 l0 t299 t302 t299 (t299.length : Int) (wrap64 (x58_3 + 1))) else (if ((rd_T31 t299 x58_3).f1).toList = ([] : List UInt8) then (rhizomelaw01_KeyWrites.l0 k3 l0 t299 t302 t299 (t299.length : Int) (wrap64 (x58_3 + 1))) else (some false)))) = some r := by rw [← hbq40] at H; exact H
                          have Nbq40 := Aside0.mk hbq40
                          clear hbq40
                          by_cases c41 : bq40 = true
                          · subst c41
                            have H1 : (if ((rd_T31 t299 x58_3).f2) = 0 then (if (true = true) then (rhizomelaw01_KeyWrites.l0 k3 l0 t299 t302 t299 (t299.length : Int) (wrap64 (x58_3 + 1))) else (if ((rd_T31 t299 x58_3).f1).toList = ([] : List UInt8) then (rhizomelaw01_KeyWrites.l0 k3 l0 t299 t302 t299 (t299.length : Int) (wrap64 (x58_3 + 1))) else (some false))) else (some false)) = some r := by rw [if_pos rfl] at H; exact H
                            clear H
                            have H := H1
                            clear H1
                            by_cases c42 : ((rd_T31 t299 x58_3).f2) = 0
                            · rw [if_pos c42] at H
                              have c42b0 : (((rd_T31 t299 x58_3).f2) == 0) = true := beq_iff_eq.mpr c42
                              have c42b1 : (((rd_T31 t299 x58_3).f2) != 0) = false := bne_eq_false_iff_eq.mpr c42
                              clear c42
                              by_cases c43 : (true = true)
                              · clear c43
                                have H1 : (rhizomelaw01_KeyWrites.l0 k3 l0 t299 t302 t299 (t299.length : Int) (wrap64 (x58_3 + 1))) = some r := by rw [if_pos rfl] at H; exact H
                                clear H
                                have H := H1
                                clear H1
                                have H' := Aside0.mk H
                                clear H
                                have p303 : 0 ≤ (x58_3 : Int) := of_decide_eq_true (by first | (with_reducible assumption) | assumption)
                                have q303 : x58_3 < (t299.length : Int) := of_decide_eq_true (by first | (with_reducible assumption) | assumption)
                                obtain ⟨ad303, e303, hx303_0, hx303_1, hx303_2⟩ := at_T31 (Kd.V_reads' HO_56.out).2.2 x58_3 p303 q303
                                (try rw [← Nbq40.out] at hx303_0)
                                cases e303
                                replace p303 := eq_true p303
                                replace q303 := eq_true q303
                                go_wp2_with (first | ((with_reducible refine gate_dst (N := 11) rfl ?_); refine box_event ?hg (N := 11) ?hd (cs := #[.bool false, .string (⟨#[]⟩ : ByteArray), .int .i64 0]) (t := 31) ?hr ?_; (case hd => rfl); (case hg => rfl); (case hr => first | (go_simp; done) | (go_simp; rfl)); intro gb304 hg w44 hbox hb; have n0_ := Aside0.mk (Kd.V_below (Kd.V_elderB (by (with_reducible repeat (first | apply Kd.V_alloc | apply Kd.V_drewN | apply Kd.V_drew)); exact HO_8.out) gb304 (Nat.le_of_eq hg.symm)) hb); have n1_ := Aside0.mk (Kd.V_below (Kd.V_elderB (by (with_reducible repeat (first | apply Kd.V_alloc | apply Kd.V_drewN | apply Kd.V_drew)); exact HO_56.out) gb304 (Nat.le_of_eq hg.symm)) hb); have n2_ := Aside0.mk (below_step (by repeat (first | (with_reducible first | exact HB.out | apply below_alloc | apply pw_below_drewN | apply below_drew1) | exact HB.out)) hb); have n3_ := Aside0.mk (hbox); have n4_ := Aside0.mk ((by rw [hg]; exact (below_size (by repeat (first | (with_reducible first | exact HB.out | apply below_alloc | apply pw_below_drewN | apply below_drew1) | exact HB.out))) : w.heap.size ≤ gb304)); have n5_ := Aside0.mk ((by rw [hg]; exact (below_size (by repeat (first | (with_reducible first | exact HB.out | apply below_alloc | apply pw_below_drewN | apply below_drew1) | exact HB.out))) : w.heap.size ≤ gb304)); clear HO_8; clear HO_56; clear HB; have HO_8 := n0_; have HO_56 := n1_; have HB := n2_; have BK304 := n3_; have GW304 := n4_; have GE304 := n5_; clear n0_ n1_ n2_ n3_ n4_ n5_; clear hb hbox hg; have hcz45_0 : w44.cell? ⟨gb304, 0, none⟩ = some (.bool false) := (blk_cell BK304.out 0).trans rfl; have hcz45_1 : w44.cell? ⟨gb304, 1, none⟩ = some (.string (⟨#[]⟩ : ByteArray)) := (blk_cell BK304.out 1).trans rfl; have hcz45_2 : w44.cell? ⟨gb304, 2, none⟩ = some (.int .i64 0) := (blk_cell BK304.out 2).trans rfl; have hfz45_0 := blk_frozen BK304.out 0; have hfz45_1 := blk_frozen BK304.out 1; have hfz45_2 := blk_frozen BK304.out 2))
                                go_roundg k3
                                case measure => have := HJ1.out; have := HJ14.out; have := HK3.out; omega
                                case rel => exact ⟨(wrap64 (x58_3 + 1)), (by first | rfl | (simp; done) | (simp [*]; done)), H', ⟨by have := HJ1.out; have := HJ14.out; have := HK3.out; omega⟩, ⟨by (with_reducible repeat (first | apply Kd.V_alloc | apply Kd.V_drewN | apply Kd.V_drew)); exact Kd.V_mono (Kd.V_far (p := ⟨gb304, 2, none⟩) (Kd.V_far (p := ⟨gb304, 1, none⟩) (Kd.V_far (p := ⟨gb304, 0, none⟩) (Kd.V_mono HO_8.out (fun k_ hk => (⟨hk, hk.2⟩ : _ ∧ k_ ≠ gb304))) (fun _ hk => hk.2) (.bool true)) (fun _ hk => hk.2) (.string ((rd_T31 t299 x58_3).f1))) (fun _ hk => hk.2) (.int .i64 ((rd_T31 t299 x58_3).f2))) (fun _ hk => trivial)⟩, ⟨by (with_reducible repeat (first | apply Kd.V_alloc | apply Kd.V_drewN | apply Kd.V_drew)); exact Kd.V_mono (Kd.V_far (p := ⟨gb304, 2, none⟩) (Kd.V_far (p := ⟨gb304, 1, none⟩) (Kd.V_far (p := ⟨gb304, 0, none⟩) (Kd.V_mono HO_56.out (fun k_ hk => (⟨hk, hk.2⟩ : _ ∧ k_ ≠ gb304))) (fun _ hk => hk.2) (.bool true)) (fun _ hk => hk.2) (.string ((rd_T31 t299 x58_3).f1))) (fun _ hk => hk.2) (.int .i64 ((rd_T31 t299 x58_3).f2))) (fun _ hk => trivial)⟩, ⟨by repeat (first | (with_reducible first | exact HB.out | apply below_alloc | apply pw_below_drewN | apply below_drew1 | refine below_set ?_ GE304.out) | exact HB.out)⟩⟩
                              · exact absurd rfl c43
                            · rw [if_neg c42] at H
                              have c42b0 : (((rd_T31 t299 x58_3).f2) == 0) = false := beq_eq_false_iff_ne.mpr c42
                              have c42b1 : (((rd_T31 t299 x58_3).f2) != 0) = true := bne_iff_ne.mpr c42
                              obtain rfl := Option.some.inj H
                              have p303 : 0 ≤ (x58_3 : Int) := of_decide_eq_true (by first | (with_reducible assumption) | assumption)
                              have q303 : x58_3 < (t299.length : Int) := of_decide_eq_true (by first | (with_reducible assumption) | assumption)
                              obtain ⟨ad303, e303, hx303_0, hx303_1, hx303_2⟩ := at_T31 (Kd.V_reads' HO_56.out).2.2 x58_3 p303 q303
                              (try rw [← Nbq40.out] at hx303_0)
                              cases e303
                              replace p303 := eq_true p303
                              replace q303 := eq_true q303
                              go_wp2_with (first | ((with_reducible refine gate_dst (N := 11) rfl ?_); refine box_event ?hg (N := 11) ?hd (cs := #[.bool false, .string (⟨#[]⟩ : ByteArray), .int .i64 0]) (t := 31) ?hr ?_; (case hd => rfl); (case hg => rfl); (case hr => first | (go_simp; done) | (go_simp; rfl)); intro gb304 hg w51 hbox hb; have n0_ := Aside0.mk (Kd.V_below (Kd.V_elderB (by (with_reducible repeat (first | apply Kd.V_alloc | apply Kd.V_drewN | apply Kd.V_drew)); exact HO_8.out) gb304 (Nat.le_of_eq hg.symm)) hb); have n1_ := Aside0.mk (Kd.V_below (Kd.V_elderB (by (with_reducible repeat (first | apply Kd.V_alloc | apply Kd.V_drewN | apply Kd.V_drew)); exact HO_56.out) gb304 (Nat.le_of_eq hg.symm)) hb); have n2_ := Aside0.mk (below_step (by repeat (first | (with_reducible first | exact HB.out | apply below_alloc | apply pw_below_drewN | apply below_drew1) | exact HB.out)) hb); have n3_ := Aside0.mk (hbox); have n4_ := Aside0.mk ((by rw [hg]; exact (below_size (by repeat (first | (with_reducible first | exact HB.out | apply below_alloc | apply pw_below_drewN | apply below_drew1) | exact HB.out))) : w.heap.size ≤ gb304)); have n5_ := Aside0.mk ((by rw [hg]; exact (below_size (by repeat (first | (with_reducible first | exact HB.out | apply below_alloc | apply pw_below_drewN | apply below_drew1) | exact HB.out))) : w.heap.size ≤ gb304)); clear HO_8; clear HO_56; clear HB; have HO_8 := n0_; have HO_56 := n1_; have HB := n2_; have BK304 := n3_; have GW304 := n4_; have GE304 := n5_; clear n0_ n1_ n2_ n3_ n4_ n5_; clear hb hbox hg; have hcz52_0 : w51.cell? ⟨gb304, 0, none⟩ = some (.bool false) := (blk_cell BK304.out 0).trans rfl; have hcz52_1 : w51.cell? ⟨gb304, 1, none⟩ = some (.string (⟨#[]⟩ : ByteArray)) := (blk_cell BK304.out 1).trans rfl; have hcz52_2 : w51.cell? ⟨gb304, 2, none⟩ = some (.int .i64 0) := (blk_cell BK304.out 2).trans rfl; have hfz52_0 := blk_frozen BK304.out 0; have hfz52_1 := blk_frozen BK304.out 1; have hfz52_2 := blk_frozen BK304.out 2))
                              go_ret
                              exact ⟨by first | rfl | (simp [errW_none, errW_some] <;> rfl) | (simp [*, errW_none, errW_some] <;> rfl), by repeat (first | (with_reducible first | exact HB.out | apply below_alloc | apply pw_below_drewN | apply below_drew1 | refine below_set ?_ GE304.out) | exact HB.out)⟩
                          · replace c41 := Bool.eq_false_iff.mpr c41
                            subst c41
                            have H1 : (if (false = true) then (rhizomelaw01_KeyWrites.l0 k3 l0 t299 t302 t299 (t299.length : Int) (wrap64 (x58_3 + 1))) else (if ((rd_T31 t299 x58_3).f1).toList = ([] : List UInt8) then (rhizomelaw01_KeyWrites.l0 k3 l0 t299 t302 t299 (t299.length : Int) (wrap64 (x58_3 + 1))) else (some false))) = some r := by rw [if_neg (show ¬ (false = true) by decide)] at H; exact H
                            clear H
                            have H := H1
                            clear H1
                            by_cases c53 : (false = true)
                            · exact absurd c53 (by decide)
                            · clear c53
                              have H1 : (if ((rd_T31 t299 x58_3).f1).toList = ([] : List UInt8) then (rhizomelaw01_KeyWrites.l0 k3 l0 t299 t302 t299 (t299.length : Int) (wrap64 (x58_3 + 1))) else (some false)) = some r := by rw [if_neg (show ¬ (false = true) by decide)] at H; exact H
                              clear H
                              have H := H1
                              clear H1
                              by_cases c56 : ((rd_T31 t299 x58_3).f1).toList = ([] : List UInt8)
                              · rw [if_pos c56] at H
                                have c56b0 : (((rd_T31 t299 x58_3).f1).toList == ([] : List UInt8)) = true := beq_iff_eq.mpr c56
                                have c56b1 : (((rd_T31 t299 x58_3).f1).toList != ([] : List UInt8)) = false := bne_eq_false_iff_eq.mpr c56
                                clear c56
                                have H' := Aside0.mk H
                                clear H
                                have p303 : 0 ≤ (x58_3 : Int) := of_decide_eq_true (by first | (with_reducible assumption) | assumption)
                                have q303 : x58_3 < (t299.length : Int) := of_decide_eq_true (by first | (with_reducible assumption) | assumption)
                                obtain ⟨ad303, e303, hx303_0, hx303_1, hx303_2⟩ := at_T31 (Kd.V_reads' HO_56.out).2.2 x58_3 p303 q303
                                (try rw [← Nbq40.out] at hx303_0)
                                cases e303
                                replace p303 := eq_true p303
                                replace q303 := eq_true q303
                                go_wp2_with (first | ((with_reducible refine gate_dst (N := 11) rfl ?_); refine box_event ?hg (N := 11) ?hd (cs := #[.bool false, .string (⟨#[]⟩ : ByteArray), .int .i64 0]) (t := 31) ?hr ?_; (case hd => rfl); (case hg => rfl); (case hr => first | (go_simp; done) | (go_simp; rfl)); intro gb304 hg w57 hbox hb; have n0_ := Aside0.mk (Kd.V_below (Kd.V_elderB (by (with_reducible repeat (first | apply Kd.V_alloc | apply Kd.V_drewN | apply Kd.V_drew)); exact HO_8.out) gb304 (Nat.le_of_eq hg.symm)) hb); have n1_ := Aside0.mk (Kd.V_below (Kd.V_elderB (by (with_reducible repeat (first | apply Kd.V_alloc | apply Kd.V_drewN | apply Kd.V_drew)); exact HO_56.out) gb304 (Nat.le_of_eq hg.symm)) hb); have n2_ := Aside0.mk (below_step (by repeat (first | (with_reducible first | exact HB.out | apply below_alloc | apply pw_below_drewN | apply below_drew1) | exact HB.out)) hb); have n3_ := Aside0.mk (hbox); have n4_ := Aside0.mk ((by rw [hg]; exact (below_size (by repeat (first | (with_reducible first | exact HB.out | apply below_alloc | apply pw_below_drewN | apply below_drew1) | exact HB.out))) : w.heap.size ≤ gb304)); have n5_ := Aside0.mk ((by rw [hg]; exact (below_size (by repeat (first | (with_reducible first | exact HB.out | apply below_alloc | apply pw_below_drewN | apply below_drew1) | exact HB.out))) : w.heap.size ≤ gb304)); clear HO_8; clear HO_56; clear HB; have HO_8 := n0_; have HO_56 := n1_; have HB := n2_; have BK304 := n3_; have GW304 := n4_; have GE304 := n5_; clear n0_ n1_ n2_ n3_ n4_ n5_; clear hb hbox hg; have hcz58_0 : w57.cell? ⟨gb304, 0, none⟩ = some (.bool false) := (blk_cell BK304.out 0).trans rfl; have hcz58_1 : w57.cell? ⟨gb304, 1, none⟩ = some (.string (⟨#[]⟩ : ByteArray)) := (blk_cell BK304.out 1).trans rfl; have hcz58_2 : w57.cell? ⟨gb304, 2, none⟩ = some (.int .i64 0) := (blk_cell BK304.out 2).trans rfl; have hfz58_0 := blk_frozen BK304.out 0; have hfz58_1 := blk_frozen BK304.out 1; have hfz58_2 := blk_frozen BK304.out 2))
                                go_roundg k3
                                case measure => have := HJ1.out; have := HJ14.out; have := HK3.out; omega
                                case rel => exact ⟨(wrap64 (x58_3 + 1)), (by first | rfl | (simp; done) | (simp [*]; done)), H', ⟨by have := HJ1.out; have := HJ14.out; have := HK3.out; omega⟩, ⟨by (with_reducible repeat (first | apply Kd.V_alloc | apply Kd.V_drewN | apply Kd.V_drew)); exact Kd.V_mono (Kd.V_far (p := ⟨gb304, 2, none⟩) (Kd.V_far (p := ⟨gb304, 1, none⟩) (Kd.V_far (p := ⟨gb304, 0, none⟩) (Kd.V_mono HO_8.out (fun k_ hk => (⟨hk, hk.2⟩ : _ ∧ k_ ≠ gb304))) (fun _ hk => hk.2) (.bool false)) (fun _ hk => hk.2) (.string ((rd_T31 t299 x58_3).f1))) (fun _ hk => hk.2) (.int .i64 ((rd_T31 t299 x58_3).f2))) (fun _ hk => trivial)⟩, ⟨by (with_reducible repeat (first | apply Kd.V_alloc | apply Kd.V_drewN | apply Kd.V_drew)); exact Kd.V_mono (Kd.V_far (p := ⟨gb304, 2, none⟩) (Kd.V_far (p := ⟨gb304, 1, none⟩) (Kd.V_far (p := ⟨gb304, 0, none⟩) (Kd.V_mono HO_56.out (fun k_ hk => (⟨hk, hk.2⟩ : _ ∧ k_ ≠ gb304))) (fun _ hk => hk.2) (.bool false)) (fun _ hk => hk.2) (.string ((rd_T31 t299 x58_3).f1))) (fun _ hk => hk.2) (.int .i64 ((rd_T31 t299 x58_3).f2))) (fun _ hk => trivial)⟩, ⟨by repeat (first | (with_reducible first | exact HB.out | apply below_alloc | apply pw_below_drewN | apply below_drew1 | refine below_set ?_ GE304.out) | exact HB.out)⟩⟩
                              · rw [if_neg c56] at H
                                have c56b0 : (((rd_T31 t299 x58_3).f1).toList == ([] : List UInt8)) = false := beq_eq_false_iff_ne.mpr c56
                                have c56b1 : (((rd_T31 t299 x58_3).f1).toList != ([] : List UInt8)) = true := bne_iff_ne.mpr c56
                                obtain rfl := Option.some.inj H
                                have p303 : 0 ≤ (x58_3 : Int) := of_decide_eq_true (by first | (with_reducible assumption) | assumption)
                                have q303 : x58_3 < (t299.length : Int) := of_decide_eq_true (by first | (with_reducible assumption) | assumption)
                                obtain ⟨ad303, e303, hx303_0, hx303_1, hx303_2⟩ := at_T31 (Kd.V_reads' HO_56.out).2.2 x58_3 p303 q303
                                (try rw [← Nbq40.out] at hx303_0)
                                cases e303
                                replace p303 := eq_true p303
                                replace q303 := eq_true q303
                                go_wp2_with (first | ((with_reducible refine gate_dst (N := 11) rfl ?_); refine box_event ?hg (N := 11) ?hd (cs := #[.bool false, .string (⟨#[]⟩ : ByteArray), .int .i64 0]) (t := 31) ?hr ?_; (case hd => rfl); (case hg => rfl); (case hr => first | (go_simp; done) | (go_simp; rfl)); intro gb304 hg w59 hbox hb; have n0_ := Aside0.mk (Kd.V_below (Kd.V_elderB (by (with_reducible repeat (first | apply Kd.V_alloc | apply Kd.V_drewN | apply Kd.V_drew)); exact HO_8.out) gb304 (Nat.le_of_eq hg.symm)) hb); have n1_ := Aside0.mk (Kd.V_below (Kd.V_elderB (by (with_reducible repeat (first | apply Kd.V_alloc | apply Kd.V_drewN | apply Kd.V_drew)); exact HO_56.out) gb304 (Nat.le_of_eq hg.symm)) hb); have n2_ := Aside0.mk (below_step (by repeat (first | (with_reducible first | exact HB.out | apply below_alloc | apply pw_below_drewN | apply below_drew1) | exact HB.out)) hb); have n3_ := Aside0.mk (hbox); have n4_ := Aside0.mk ((by rw [hg]; exact (below_size (by repeat (first | (with_reducible first | exact HB.out | apply below_alloc | apply pw_below_drewN | apply below_drew1) | exact HB.out))) : w.heap.size ≤ gb304)); have n5_ := Aside0.mk ((by rw [hg]; exact (below_size (by repeat (first | (with_reducible first | exact HB.out | apply below_alloc | apply pw_below_drewN | apply below_drew1) | exact HB.out))) : w.heap.size ≤ gb304)); clear HO_8; clear HO_56; clear HB; have HO_8 := n0_; have HO_56 := n1_; have HB := n2_; have BK304 := n3_; have GW304 := n4_; have GE304 := n5_; clear n0_ n1_ n2_ n3_ n4_ n5_; clear hb hbox hg; have hcz60_0 : w59.cell? ⟨gb304, 0, none⟩ = some (.bool false) := (blk_cell BK304.out 0).trans rfl; have hcz60_1 : w59.cell? ⟨gb304, 1, none⟩ = some (.string (⟨#[]⟩ : ByteArray)) := (blk_cell BK304.out 1).trans rfl; have hcz60_2 : w59.cell? ⟨gb304, 2, none⟩ = some (.int .i64 0) := (blk_cell BK304.out 2).trans rfl; have hfz60_0 := blk_frozen BK304.out 0; have hfz60_1 := blk_frozen BK304.out 1; have hfz60_2 := blk_frozen BK304.out 2))
                                go_ret
                                exact ⟨by first | rfl | (simp [errW_none, errW_some] <;> rfl) | (simp [*, errW_none, errW_some] <;> rfl), by repeat (first | (with_reducible first | exact HB.out | apply below_alloc | apply pw_below_drewN | apply below_drew1 | refine below_set ?_ GE304.out) | exact HB.out)⟩
                        · rw [if_neg c39] at H
                          exact absurd H (by simp)
                      · rw [if_neg c38] at H
                        exact absurd H (by simp)
                    · rw [if_neg c37] at H
                      have c37b0 : decide (x58_3 < (t299.length : Int)) = false := decide_eq_false c37
                      clear c37
                      by_cases c61 : t302 = 0
                      · rw [if_pos c61] at H
                        have c61b0 : (t302 == 0) = true := beq_iff_eq.mpr c61
                        have c61b1 : (t302 != 0) = false := bne_eq_false_iff_eq.mpr c61
                        clear c61
                        replace H := Option.bind_eq_some_iff.mp H
                        obtain ⟨t305, A620, H⟩ := H
                        replace H : ((rhizomelaw01_Ref.f l0).bind fun t308 => ((rhizomeref01_Same.f k3 t305 t308).bind fun t311 => (some t311))) = some r := H
                        have A62 := Aside0.mk A620
                        clear A620
                        replace H := Option.bind_eq_some_iff.mp H
                        obtain ⟨t308, A630, H⟩ := H
                        replace H : ((rhizomeref01_Same.f k3 t305 t308).bind fun t311 => (some t311)) = some r := H
                        have A63 := Aside0.mk A630
                        clear A630
                        replace H := Option.bind_eq_some_iff.mp H
                        obtain ⟨t311, A640, H⟩ := H
                        replace H : (some t311) = some r := H
                        have A64 := Aside0.mk A640
                        clear A640
                        obtain rfl := Option.some.inj H
                        go_wp2_with (first | (go_at_call 20; (with_reducible refine (rhizomelaw01_Ref.calls _ _ t299 t305 _ ?side1 ?side2 A62.out).mono ?_); (case side1 => repeat (first | exact (Kd.V_reads' HO_8.out).2.2 | (with_reducible refine Kd.C_alloc ?_ _) | (with_reducible refine Kd.C_drewN ?_ _) | (with_reducible refine Kd.C_drew ?_))); (case side2 => exact (Kd.V_reads' HO_8.out).2.1); rintro e w65 ⟨v306, rfl, ho0, hb⟩; have n0_ := Aside0.mk (Kd.V_elder' (by (with_reducible repeat (first | apply Kd.V_alloc | apply Kd.V_drewN | apply Kd.V_drew)); exact HO_8.out) (Kd.R_base ho0) hb); have n1_ := Aside0.mk (Kd.V_elder' (by (with_reducible repeat (first | apply Kd.V_alloc | apply Kd.V_drewN | apply Kd.V_drew)); exact HO_56.out) (Kd.R_base ho0) hb); have n2_ := Aside0.mk (Kd.R_lower ho0 (below_size (by repeat (first | (with_reducible first | exact HB.out | apply below_alloc | apply pw_below_drewN | apply below_drew1) | exact HB.out)))); have n3_ := Aside0.mk (below_step (by repeat (first | (with_reducible first | exact HB.out | apply below_alloc | apply pw_below_drewN | apply below_drew1) | exact HB.out)) hb); clear HO_8; clear HO_56; clear HB; have HO_8 := n0_; have HO_56 := n1_; have HO307 := n2_; have HB := n3_; clear n0_ n1_ n2_ n3_; (try clear hb); (try clear hb2); (try clear hk); (try clear hi); (try clear ho0)) | (go_at_call 20; (with_reducible refine (rhizomelaw01_Ref.calls _ _ l0 t308 _ ?side1 ?side2 A63.out).mono ?_); (case side1 => repeat (first | exact (Kd.C_below HR0.out HB.out) | (with_reducible refine Kd.C_alloc ?_ _) | (with_reducible refine Kd.C_drewN ?_ _) | (with_reducible refine Kd.C_drew ?_))); (case side2 => exact HC0.out); rintro e w66 ⟨v309, rfl, ho0, hb⟩; have n0_ := Aside0.mk (Kd.V_elder' (by (with_reducible repeat (first | apply Kd.V_alloc | apply Kd.V_drewN | apply Kd.V_drew)); exact HO_8.out) (Kd.R_base ho0) hb); have n1_ := Aside0.mk (Kd.V_elder' (by (with_reducible repeat (first | apply Kd.V_alloc | apply Kd.V_drewN | apply Kd.V_drew)); exact HO_56.out) (Kd.R_base ho0) hb); have n2_ := Aside0.mk (Kd.R_elder' (by (with_reducible repeat (first | apply Kd.R_alloc | apply Kd.R_drewN | apply Kd.R_drew)); exact HO307.out) (Kd.R_base ho0) hb); have n3_ := Aside0.mk (Kd.R_lower (Kd.R_new' ho0 (Kd.R_lt (by (with_reducible repeat (first | apply Kd.R_alloc | apply Kd.R_drewN | apply Kd.R_drew)); exact HO307.out))) (below_size (by repeat (first | (with_reducible first | exact HB.out | apply below_alloc | apply pw_below_drewN | apply below_drew1) | exact HB.out)))); have n4_ := Aside0.mk (below_step (by repeat (first | (with_reducible first | exact HB.out | apply below_alloc | apply pw_below_drewN | apply below_drew1) | exact HB.out)) hb); clear HO_8; clear HO_56; clear HO307; clear HB; have HO_8 := n0_; have HO_56 := n1_; have HO307 := n2_; have HO310 := n3_; have HB := n4_; clear n0_ n1_ n2_ n3_ n4_; (try clear hb); (try clear hb2); (try clear hk); (try clear hi); (try clear ho0); obtain ⟨Ao67, co67, eo67⟩ := Kd.R_slice HO307.out; subst eo67; obtain ⟨Ao68, co68, eo68⟩ := Kd.R_slice HO310.out; subst eo68) | (go_at_call 23; (with_reducible refine (rhizomeref01_Same.calls k3 _ _ t305 _ _ t308 t311 _ ?side1 ?side2 ?side3 ?side4 A64.out).mono ?_); (case side1 => repeat (first | exact (Kd.R_reads' HO307.out).2.2 | (with_reducible refine Kd.C_alloc ?_ _) | (with_reducible refine Kd.C_drewN ?_ _) | (with_reducible refine Kd.C_drew ?_))); (case side2 => exact (Kd.R_reads' HO307.out).2.1); (case side3 => repeat (first | exact (Kd.R_reads' HO310.out).2.2 | (with_reducible refine Kd.C_alloc ?_ _) | (with_reducible refine Kd.C_drewN ?_ _) | (with_reducible refine Kd.C_drew ?_))); (case side4 => exact (Kd.R_reads' HO310.out).2.1); rintro e w69 ⟨rfl, hb⟩; have n0_ := Aside0.mk (Kd.V_below (by (with_reducible repeat (first | apply Kd.V_alloc | apply Kd.V_drewN | apply Kd.V_drew)); exact HO_8.out) hb); have n1_ := Aside0.mk (Kd.V_below (by (with_reducible repeat (first | apply Kd.V_alloc | apply Kd.V_drewN | apply Kd.V_drew)); exact HO_56.out) hb); have n2_ := Aside0.mk (Kd.R_below (by (with_reducible repeat (first | apply Kd.R_alloc | apply Kd.R_drewN | apply Kd.R_drew)); exact HO307.out) hb); have n3_ := Aside0.mk (Kd.R_below (by (with_reducible repeat (first | apply Kd.R_alloc | apply Kd.R_drewN | apply Kd.R_drew)); exact HO310.out) hb); have n4_ := Aside0.mk (below_step (by repeat (first | (with_reducible first | exact HB.out | apply below_alloc | apply pw_below_drewN | apply below_drew1) | exact HB.out)) hb); clear HO_8; clear HO_56; clear HO307; clear HO310; clear HB; have HO_8 := n0_; have HO_56 := n1_; have HO307 := n2_; have HO310 := n3_; have HB := n4_; clear n0_ n1_ n2_ n3_ n4_; (try clear hb); (try clear hb2); (try clear hk); (try clear hi)))
                        go_ret
                        exact ⟨by first | rfl | (simp [errW_none, errW_some] <;> rfl) | (simp [*, errW_none, errW_some] <;> rfl), by repeat (first | (with_reducible first | exact HB.out | apply below_alloc | apply pw_below_drewN | apply below_drew1) | exact HB.out)⟩
                      · rw [if_neg c61] at H
                        have c61b0 : (t302 == 0) = false := beq_eq_false_iff_ne.mpr c61
                        have c61b1 : (t302 != 0) = true := bne_iff_ne.mpr c61
                        obtain rfl := Option.some.inj H
                        go_wp2
                        go_ret
                        exact ⟨by first | rfl | (simp [errW_none, errW_some] <;> rfl) | (simp [*, errW_none, errW_some] <;> rfl), by repeat (first | (with_reducible first | exact HB.out | apply below_alloc | apply pw_below_drewN | apply below_drew1) | exact HB.out)⟩
              · rw [if_neg c32] at H
                have c32b0 : (t295 == 0) = false := beq_eq_false_iff_ne.mpr c32
                have c32b1 : (t295 != 0) = true := bne_iff_ne.mpr c32
                obtain rfl := Option.some.inj H
                go_wp2
                go_ret
                exact ⟨by first | rfl | (simp [errW_none, errW_some] <;> rfl) | (simp [*, errW_none, errW_some] <;> rfl), by repeat (first | (with_reducible first | exact HB.out | apply below_alloc | apply pw_below_drewN | apply below_drew1) | exact HB.out)⟩

end Go.Proofs.YtamaoileeipgeaaDoor.XKey
