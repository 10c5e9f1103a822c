-- Written by xprint.py (a program of this session's repo) over the kit's print; Lean checks it.
import Derived.Test.YtamaoileeipgeaaDoorXKey0
import Derived.Test.YtamaoileeipgeaaDoorXKey2
import Derived.Test.YtamaoileeipgeaaDoorXKey5
import Derived.Test.YtamaoileeipgeaaDoorXKey8
import Derived.Test.YtamaoileeipgeaaDoorXCmp
namespace Go.Proofs.YtamaoileeipgeaaDoor.XKey
open Go.RowKit Go.Proofs.YtamaoileeipgeaaDoorW.PrintWords Go.Proofs.YtamaoileeipgeaaDoorW.PrintLast Go.Proofs.YtamaoileeipgeaaDoorW.PrintMore
attribute [local go_sem] max2_int min2_int max_two min_two max_three min_three max_four min_four   -- for this text's walks alone
set_option linter.unusedVariables false
set_option linter.unusedSimpArgs false

/-! ### rhizomelaw01_KeyOrders: function 8 -/
mutual
def rhizomelaw01_KeyOrders.j0 : Nat → List (S31) → List (S31) → Bool → Option (Bool)
  | 0, _, _, _ => none
  | k + 1, x0, x1, x22 => if x22 = true then ((rhizomelaw01_awake.f k).bind fun t370 => (some t370)) else ((rhizomelaw01_own.f x0).bind fun t371 => ((rhizomelaw01_own.f x1).bind fun t374 => ((key_Cmp.f t371 t374).bind fun t377 => ((rhizomelaw01_Ref.f x0).bind fun t378 => ((rhizomelaw01_Ref.f x1).bind fun t381 => ((rhizomeref01_Cmp.f k t378 t381).bind fun t384 => (if t377 = t384 then ((key_Cmp.f x1 x0).bind fun t385 => (rhizomelaw01_KeyOrders.j1 k x0 x1 t377 (t385 != (wrap64 (-t377))))) else (rhizomelaw01_KeyOrders.j1 k x0 x1 t377 true))))))))
def rhizomelaw01_KeyOrders.j1 : Nat → List (S31) → List (S31) → Int → Bool → Option (Bool)
  | 0, _, _, _, _ => none
  | k + 1, x0, x1, x5, x43 => if x43 = true then (some false) else ((key_Encode.f k x0).bind fun bt386 => ((key_Encode.f k x1).bind fun bt390 => (if bt386.2 = 0 then (rhizomelaw01_KeyOrders.j2 k x0 x1 x5 bt386.1 bt390.1 (bt390.2 != 0)) else (rhizomelaw01_KeyOrders.j2 k x0 x1 x5 bt386.1 bt390.1 true))))
def rhizomelaw01_KeyOrders.j2 : Nat → List (S31) → List (S31) → Int → List Int → List Int → Bool → Option (Bool)
  | 0, _, _, _, _, _, _ => none
  | k + 1, x0, x1, x5, x6, x8, x59 => if x59 = true then (some true) else (if ((Op.bytesLess ((strOfNums x6).toList) ((strOfNums x8).toList)) != (decide (x5 < 0))) = true then (rhizomelaw01_KeyOrders.j3 k x0 x1 x6 x8 true) else (rhizomelaw01_KeyOrders.j3 k x0 x1 x6 x8 (((strOfNums x6).toList == (strOfNums x8).toList) != (x5 == 0))))
def rhizomelaw01_KeyOrders.j3 : Nat → List (S31) → List (S31) → List Int → List Int → Bool → Option (Bool)
  | 0, _, _, _, _, _ => none
  | k + 1, x0, x1, x6, x8, x77 => if x77 = true then (some false) else (if (x6.length : Int) ≤ (x8.length : Int) then (if 0 ≤ (x6.length : Int) then ((some (x8.take ((x6.length : Int) : Int).toNat : List Int)).bind fun y394 => (if (x0.length : Int) ≤ (x1.length : Int) then ((rhizomelaw01_Ref.f x0).bind fun t399 => (if 0 ≤ (mn (x0.length : Int) (x1.length : Int)) then (if (mn (x0.length : Int) (x1.length : Int)) ≤ (x1.length : Int) then ((rhizomelaw01_Ref.f (x1.take ((mn (x0.length : Int) (x1.length : Int)) : Int).toNat)).bind fun t406 => ((rhizomeref01_Same.f k t399 t406).bind fun t409 => (some (((strOfNums y394).toList == (strOfNums x6).toList) == t409)))) else (none)) else (none))) else (some (((strOfNums y394).toList == (strOfNums x6).toList) == false)))) else (none)) else (if (x0.length : Int) ≤ (x1.length : Int) then ((rhizomelaw01_Ref.f x0).bind fun t410 => (if 0 ≤ (mn (x0.length : Int) (x1.length : Int)) then (if (mn (x0.length : Int) (x1.length : Int)) ≤ (x1.length : Int) then ((rhizomelaw01_Ref.f (x1.take ((mn (x0.length : Int) (x1.length : Int)) : Int).toNat)).bind fun t417 => ((rhizomeref01_Same.f k t410 t417).bind fun t420 => (some (false == t420)))) else (none)) else (none))) else (some (false == false))))
end
def rhizomelaw01_KeyOrders.f (k : Nat) (l0 : List (S31)) (l1 : List (S31)) : Option (Bool) := (rhizomelaw01_awake.f k).bind fun t367 => (if t367 = true then ((rhizomelaw01_few.f k l0).bind fun t368 => (if t368 = true then ((rhizomelaw01_few.f k l1).bind fun t369 => (rhizomelaw01_KeyOrders.j0 k l0 l1 (!t369))) else (rhizomelaw01_KeyOrders.j0 k l0 l1 true))) else (rhizomelaw01_KeyOrders.j0 k l0 l1 true))
theorem rhizomelaw01_KeyOrders.mono_l : ∀ k, (∀ y0 y1 y2, LeO (rhizomelaw01_KeyOrders.j0 k y0 y1 y2) (rhizomelaw01_KeyOrders.j0 (k + 1) y0 y1 y2)) ∧ (∀ y0 y1 y2 y3, LeO (rhizomelaw01_KeyOrders.j1 k y0 y1 y2 y3) (rhizomelaw01_KeyOrders.j1 (k + 1) y0 y1 y2 y3)) ∧ (∀ y0 y1 y2 y3 y4 y5, LeO (rhizomelaw01_KeyOrders.j2 k y0 y1 y2 y3 y4 y5) (rhizomelaw01_KeyOrders.j2 (k + 1) y0 y1 y2 y3 y4 y5)) ∧ (∀ y0 y1 y2 y3 y4, LeO (rhizomelaw01_KeyOrders.j3 k y0 y1 y2 y3 y4) (rhizomelaw01_KeyOrders.j3 (k + 1) y0 y1 y2 y3 y4))
  | 0 => ⟨fun _ _ _ r h => by simp [rhizomelaw01_KeyOrders.j0] at h, fun _ _ _ _ r h => by simp [rhizomelaw01_KeyOrders.j1] at h, fun _ _ _ _ _ _ r h => by simp [rhizomelaw01_KeyOrders.j2] at h, fun _ _ _ _ _ r h => by simp [rhizomelaw01_KeyOrders.j3] at h⟩
  | k + 1 => by
    obtain ⟨ih0, ih1, ih2, ih3⟩ := rhizomelaw01_KeyOrders.mono_l k
    refine ⟨?_, ?_, ?_, ?_⟩
    · intro y0 y1 y2
      unfold rhizomelaw01_KeyOrders.j0
      repeat' first
      | (with_reducible exact ih0 _ _ _)
      | (with_reducible exact ih1 _ _ _ _)
      | (with_reducible exact ih2 _ _ _ _ _ _)
      | (with_reducible exact ih3 _ _ _ _ _)
      | (with_reducible exact key_Encode.mono _ _)
      | (with_reducible exact rhizomelaw01_awake.mono _)
      | (with_reducible exact rhizomelaw01_few.mono _ _)
      | (with_reducible exact rhizomeref01_Cmp.mono _ _ _)
      | (with_reducible exact rhizomeref01_Same.mono _ _ _)
      | (with_reducible exact LeO.refl _)
      | (with_reducible exact LeO.none _)
      | (with_reducible refine LeO.ite ?_ ?_)
      | (with_reducible refine LeO.bind ?_ (fun _ => ?_))
      | exact ih0 _ _ _
      | exact ih1 _ _ _ _
      | exact ih2 _ _ _ _ _ _
      | exact ih3 _ _ _ _ _
      | exact key_Encode.mono _ _
      | exact rhizomelaw01_awake.mono _
      | exact rhizomelaw01_few.mono _ _
      | exact rhizomeref01_Cmp.mono _ _ _
      | exact rhizomeref01_Same.mono _ _ _
      | exact LeO.none _
      | refine LeO.ite ?_ ?_
      | refine LeO.bind ?_ (fun _ => ?_)
    · intro y0 y1 y2 y3
      unfold rhizomelaw01_KeyOrders.j1
      repeat' first
      | (with_reducible exact ih0 _ _ _)
      | (with_reducible exact ih1 _ _ _ _)
      | (with_reducible exact ih2 _ _ _ _ _ _)
      | (with_reducible exact ih3 _ _ _ _ _)
      | (with_reducible exact key_Encode.mono _ _)
      | (with_reducible exact rhizomelaw01_awake.mono _)
      | (with_reducible exact rhizomelaw01_few.mono _ _)
      | (with_reducible exact rhizomeref01_Cmp.mono _ _ _)
      | (with_reducible exact rhizomeref01_Same.mono _ _ _)
      | (with_reducible exact LeO.refl _)
      | (with_reducible exact LeO.none _)
      | (with_reducible refine LeO.ite ?_ ?_)
      | (with_reducible refine LeO.bind ?_ (fun _ => ?_))
      | exact ih0 _ _ _
      | exact ih1 _ _ _ _
      | exact ih2 _ _ _ _ _ _
      | exact ih3 _ _ _ _ _
      | exact key_Encode.mono _ _
      | exact rhizomelaw01_awake.mono _
      | exact rhizomelaw01_few.mono _ _
      | exact rhizomeref01_Cmp.mono _ _ _
      | exact rhizomeref01_Same.mono _ _ _
      | exact LeO.none _
      | refine LeO.ite ?_ ?_
      | refine LeO.bind ?_ (fun _ => ?_)
    · intro y0 y1 y2 y3 y4 y5
      unfold rhizomelaw01_KeyOrders.j2
      repeat' first
      | (with_reducible exact ih0 _ _ _)
      | (with_reducible exact ih1 _ _ _ _)
      | (with_reducible exact ih2 _ _ _ _ _ _)
      | (with_reducible exact ih3 _ _ _ _ _)
      | (with_reducible exact key_Encode.mono _ _)
      | (with_reducible exact rhizomelaw01_awake.mono _)
      | (with_reducible exact rhizomelaw01_few.mono _ _)
      | (with_reducible exact rhizomeref01_Cmp.mono _ _ _)
      | (with_reducible exact rhizomeref01_Same.mono _ _ _)
      | (with_reducible exact LeO.refl _)
      | (with_reducible exact LeO.none _)
      | (with_reducible refine LeO.ite ?_ ?_)
      | (with_reducible refine LeO.bind ?_ (fun _ => ?_))
      | exact ih0 _ _ _
      | exact ih1 _ _ _ _
      | exact ih2 _ _ _ _ _ _
      | exact ih3 _ _ _ _ _
      | exact key_Encode.mono _ _
      | exact rhizomelaw01_awake.mono _
      | exact rhizomelaw01_few.mono _ _
      | exact rhizomeref01_Cmp.mono _ _ _
      | exact rhizomeref01_Same.mono _ _ _
      | exact LeO.none _
      | refine LeO.ite ?_ ?_
      | refine LeO.bind ?_ (fun _ => ?_)
    · intro y0 y1 y2 y3 y4
      unfold rhizomelaw01_KeyOrders.j3
      repeat' first
      | (with_reducible exact ih0 _ _ _)
      | (with_reducible exact ih1 _ _ _ _)
      | (with_reducible exact ih2 _ _ _ _ _ _)
      | (with_reducible exact ih3 _ _ _ _ _)
      | (with_reducible exact key_Encode.mono _ _)
      | (with_reducible exact rhizomelaw01_awake.mono _)
      | (with_reducible exact rhizomelaw01_few.mono _ _)
      | (with_reducible exact rhizomeref01_Cmp.mono _ _ _)
      | (with_reducible exact rhizomeref01_Same.mono _ _ _)
      | (with_reducible exact LeO.refl _)
      | (with_reducible exact LeO.none _)
      | (with_reducible refine LeO.ite ?_ ?_)
      | (with_reducible refine LeO.bind ?_ (fun _ => ?_))
      | exact ih0 _ _ _
      | exact ih1 _ _ _ _
      | exact ih2 _ _ _ _ _ _
      | exact ih3 _ _ _ _ _
      | exact key_Encode.mono _ _
      | exact rhizomelaw01_awake.mono _
      | exact rhizomelaw01_few.mono _ _
      | exact rhizomeref01_Cmp.mono _ _ _
      | exact rhizomeref01_Same.mono _ _ _
      | exact LeO.none _
      | refine LeO.ite ?_ ?_
      | refine LeO.bind ?_ (fun _ => ?_)
theorem rhizomelaw01_KeyOrders.mono : ∀ a0 a1 k, LeO (rhizomelaw01_KeyOrders.f k a0 a1) (rhizomelaw01_KeyOrders.f (k + 1) a0 a1) := by
  intro a0 a1 k
  obtain ⟨ih0, ih1, ih2, ih3⟩ := rhizomelaw01_KeyOrders.mono_l k
  unfold rhizomelaw01_KeyOrders.f
  repeat' first
      | (with_reducible exact ih0 _ _ _)
      | (with_reducible exact ih1 _ _ _ _)
      | (with_reducible exact ih2 _ _ _ _ _ _)
      | (with_reducible exact ih3 _ _ _ _ _)
      | (with_reducible exact key_Encode.mono _ _)
      | (with_reducible exact rhizomelaw01_awake.mono _)
      | (with_reducible exact rhizomelaw01_few.mono _ _)
      | (with_reducible exact rhizomeref01_Cmp.mono _ _ _)
      | (with_reducible exact rhizomeref01_Same.mono _ _ _)
      | (with_reducible exact LeO.refl _)
      | (with_reducible exact LeO.none _)
      | (with_reducible refine LeO.ite ?_ ?_)
      | (with_reducible refine LeO.bind ?_ (fun _ => ?_))
      | exact ih0 _ _ _
      | exact ih1 _ _ _ _
      | exact ih2 _ _ _ _ _ _
      | exact ih3 _ _ _ _ _
      | exact key_Encode.mono _ _
      | exact rhizomelaw01_awake.mono _
      | exact rhizomelaw01_few.mono _ _
      | exact rhizomeref01_Cmp.mono _ _ _
      | exact rhizomeref01_Same.mono _ _ _
      | exact LeO.none _
      | refine LeO.ite ?_ ?_
      | refine LeO.bind ?_ (fun _ => ?_)
def rhizomelaw01_KeyOrders.T12 : Bool × List (List Nat × List Nat) := (true, [([], []), ([0], [0]), ([], []), ([2], [2]), ([1, 3], [1, 3]), ([4], [4]), ([5], [5]), ([5], [5]), ([7, 5], [5, 7]), ([6, 8, 5], [5, 6, 8]), ([9, 5], [5, 9]), ([5], [5]), ([11, 5], [5, 11]), ([10, 12, 5], [5, 10, 12]), ([5, 13], [5, 13]), ([14, 5, 0, 1, 2, 3, 4, 5, 6, 7, 8, 9, 10, 11, 12, 13, 14], [14])])
def rhizomelaw01_KeyOrders.B12 : List Nat := [0, 1, 0, 4, 15, 31, 63, 63, 191, 511, 1023, 63, 2111, 8191, 16383, 32767]
theorem rhizomelaw01_KeyOrders.tab12 : rtab .any (opsOf Tryd.f8 12) = rhizomelaw01_KeyOrders.T12 := by kernel_rfl
theorem rhizomelaw01_KeyOrders.bits12 : waitsOk rhizomelaw01_KeyOrders.T12.2 rhizomelaw01_KeyOrders.B12 = true := by kernel_rfl
def rhizomelaw01_KeyOrders.T13 : Bool × List (List Nat × List Nat) := (true, [([], []), ([], []), ([1], [1]), ([], []), ([3], [3]), ([2, 4], [2, 4]), ([5], [5]), ([6], [6]), ([7, 6, 6], [6, 7]), ([6], [6]), ([6], [6]), ([10, 6], [6, 10]), ([6], [6]), ([12, 6], [6, 12]), ([11, 13, 6], [6, 11, 13]), ([9, 14, 6], [6, 9, 14]), ([15, 8, 6], [6, 15]), ([8, 16, 16, 6], [6, 8, 16]), ([6, 17], [6, 17]), ([0, 18], [0, 18]), ([19, 17, 0, 1, 2, 3, 4, 5, 6, 7, 8, 9, 10, 11, 12, 13, 14, 15, 16, 17, 18, 19], [19])])
def rhizomelaw01_KeyOrders.B13 : List Nat := [0, 0, 2, 0, 8, 30, 62, 126, 254, 126, 126, 1150, 126, 4222, 15486, 32382, 65534, 131070, 262142, 524287, 1048575]
theorem rhizomelaw01_KeyOrders.tab13 : rtab .any (opsOf Tryd.f8 13) = rhizomelaw01_KeyOrders.T13 := by kernel_rfl
theorem rhizomelaw01_KeyOrders.bits13 : waitsOk rhizomelaw01_KeyOrders.T13.2 rhizomelaw01_KeyOrders.B13 = true := by kernel_rfl
set_option maxHeartbeats 8000000 in
set_option maxRecDepth 100000 in
theorem rhizomelaw01_KeyOrders.calls (k : Nat) (A0 : Option Addr) (c0 : Nat) (l0 : List (S31)) (A1 : Option Addr) (c1 : Nat) (l1 : List (S31)) (r : Bool) (w : World) (hr0 : Kd.C k31 w A0 l0.length l0) (hc0 : l0.length ≤ c0) (hr1 : Kd.C k31 w A1 l1.length l1) (hc1 : l1.length ≤ c1) (h : rhizomelaw01_KeyOrders.f k l0 l1 = some r) :
    Calls Tryd.prog 8 #[.slice A0 l0.length c0, .slice A1 l1.length c1] w fun e w' => e = .returned (.bool r) ∧ Below w.heap.size w w' := by
  have HR0 := Aside0.mk hr0
  have HC0 := Aside0.mk hc0
  clear hr0 hc0
  have HR1 := Aside0.mk hr1
  have HC1 := Aside0.mk hc1
  clear hr1 hc1
  have HB := Aside0.mk (Below.refl w.heap.size w)
  have H : ((rhizomelaw01_awake.f k).bind fun t367 => (if t367 = true then ((rhizomelaw01_few.f k l0).bind fun t368 => (if t368 = true then ((rhizomelaw01_few.f k l1).bind fun t369 => (rhizomelaw01_KeyOrders.j0 k l0 l1 (!t369))) else (rhizomelaw01_KeyOrders.j0 k l0 l1 true))) else (rhizomelaw01_KeyOrders.j0 k l0 l1 true))) = some r := h
  clear h
  have HC3 := Aside0.mk H
  clear H
  go_enter Tryd.func8, Tryd.ntmps8
  go_upto_region 1 with (fail)
  go_cut [22] (fun v22 wc => ∃ (kq : Nat) (x22_2 : Bool), v22 = .bool x22_2 ∧ Aside0 (rhizomelaw01_KeyOrders.j0 kq l0 l1 x22_2 = some r) ∧ Aside0 (kq ≤ k) ∧ Aside0 (Below w.heap.size w wc))
  case first =>
    have H := HC3.out
    clear HC3
    replace H := Option.bind_eq_some_iff.mp H
    obtain ⟨t367, A40, H⟩ := H
    replace H : (if t367 = true then ((rhizomelaw01_few.f k l0).bind fun t368 => (if t368 = true then ((rhizomelaw01_few.f k l1).bind fun t369 => (rhizomelaw01_KeyOrders.j0 k l0 l1 (!t369))) else (rhizomelaw01_KeyOrders.j0 k l0 l1 true))) else (rhizomelaw01_KeyOrders.j0 k l0 l1 true)) = some r := H
    have A4 := Aside0.mk A40
    clear A40
    by_cases c5 : t367 = true
    · subst c5
      have H1 : ((rhizomelaw01_few.f k l0).bind fun t368 => (if t368 = true then ((rhizomelaw01_few.f k l1).bind fun t369 => (rhizomelaw01_KeyOrders.j0 k l0 l1 (!t369))) else (rhizomelaw01_KeyOrders.j0 k l0 l1 true))) = some r := by rw [if_pos rfl] at H; exact H
      clear H
      have H := H1
      clear H1
      replace H := Option.bind_eq_some_iff.mp H
      obtain ⟨t368, A60, H⟩ := H
      replace H : (if t368 = true then ((rhizomelaw01_few.f k l1).bind fun t369 => (rhizomelaw01_KeyOrders.j0 k l0 l1 (!t369))) else (rhizomelaw01_KeyOrders.j0 k l0 l1 true)) = some r := H
      have A6 := Aside0.mk A60
      clear A60
      by_cases c7 : t368 = true
      · subst c7
        have H1 : ((rhizomelaw01_few.f k l1).bind fun t369 => (rhizomelaw01_KeyOrders.j0 k l0 l1 (!t369))) = some r := by rw [if_pos rfl] at H; exact H
        clear H
        have H := H1
        clear H1
        replace H := Option.bind_eq_some_iff.mp H
        obtain ⟨t369, A80, H⟩ := H
        replace H : (rhizomelaw01_KeyOrders.j0 k l0 l1 (!t369)) = some r := H
        have A8 := Aside0.mk A80
        clear A80
        have H' := Aside0.mk H
        clear H
        go_wp2_with (first | ((with_reducible refine gate_callee (f := 10) rfl ?_); refine goesL_ (some 11) rfl rfl Tryd.func10 (by kernel_rfl) rfl #[] rfl (by (try simp only [List.map_toArray, List.map_cons, List.map_nil]); first | done | rfl | (simp only [List.length_drop, List.length_take]; rfl)) ?_; (with_reducible refine (rhizomelaw01_awake.calls k  true _ A4.out).mono ?_); rintro e w9 ⟨rfl, hb⟩; refine ⟨_, rfl, ?_⟩; have n0_ := Aside0.mk (below_step (by repeat (first | (with_reducible first | exact HB.out | apply below_alloc | apply pw_below_drewN | apply below_drew1) | exact HB.out)) hb); clear HB; have HB := n0_; clear n0_; (try clear hb); (try clear hb2); (try clear hk); (try clear hi)) | (go_at_call 13; (with_reducible refine (rhizomelaw01_few.calls k _ _ l0 true _ ?side1 ?side2 A6.out).mono ?_); (case side1 => repeat (first | exact (Kd.C_below HR0.out HB.out) | (with_reducible refine Kd.C_alloc ?_ _) | (with_reducible refine Kd.C_drewN ?_ _) | (with_reducible refine Kd.C_drew ?_))); (case side2 => exact HC0.out); rintro e w' ⟨rfl, ⟨nd, rfl⟩⟩) | (go_at_call 13; (with_reducible refine (rhizomelaw01_few.calls k _ _ l1 t369 _ ?side1 ?side2 A8.out).mono ?_); (case side1 => repeat (first | exact (Kd.C_below HR1.out (by repeat (first | (with_reducible first | exact HB.out | apply below_alloc | apply pw_below_drewN | apply below_drew1) | exact HB.out))) | (with_reducible refine Kd.C_alloc ?_ _) | (with_reducible refine Kd.C_drewN ?_ _) | (with_reducible refine Kd.C_drew ?_))); (case side2 => exact HC1.out); rintro e w' ⟨rfl, ⟨nd, rfl⟩⟩))
        go_meet
        case rel => exact ⟨_, (!t369), (by first | rfl | (simp; done) | (simp [*]; done)), H', ⟨by first | omega | exact Nat.le_refl _⟩, ⟨by repeat (first | (with_reducible first | exact HB.out | apply below_alloc | apply pw_below_drewN | apply below_drew1) | exact HB.out)⟩⟩
      · replace c7 := Bool.eq_false_iff.mpr c7
        subst c7
        have H1 : (rhizomelaw01_KeyOrders.j0 k l0 l1 true) = some r := by rw [if_neg (show ¬ (false = true) by decide)] at H; exact H
        clear H
        have H := H1
        clear H1
        have H' := Aside0.mk H
        clear H
        go_wp2_with (first | ((with_reducible refine gate_callee (f := 10) rfl ?_); refine goesL_ (some 11) rfl rfl Tryd.func10 (by kernel_rfl) rfl #[] rfl (by (try simp only [List.map_toArray, List.map_cons, List.map_nil]); first | done | rfl | (simp only [List.length_drop, List.length_take]; rfl)) ?_; (with_reducible refine (rhizomelaw01_awake.calls k  true _ A4.out).mono ?_); rintro e w10 ⟨rfl, hb⟩; refine ⟨_, rfl, ?_⟩; have n0_ := Aside0.mk (below_step (by repeat (first | (with_reducible first | exact HB.out | apply below_alloc | apply pw_below_drewN | apply below_drew1) | exact HB.out)) hb); clear HB; have HB := n0_; clear n0_; (try clear hb); (try clear hb2); (try clear hk); (try clear hi)) | (go_at_call 13; (with_reducible refine (rhizomelaw01_few.calls k _ _ l0 false _ ?side1 ?side2 A6.out).mono ?_); (case side1 => repeat (first | exact (Kd.C_below HR0.out HB.out) | (with_reducible refine Kd.C_alloc ?_ _) | (with_reducible refine Kd.C_drewN ?_ _) | (with_reducible refine Kd.C_drew ?_))); (case side2 => exact HC0.out); rintro e w' ⟨rfl, ⟨nd, rfl⟩⟩))
        go_meet
        case rel => exact ⟨_, (true), (by first | rfl | (simp; done) | (simp [*]; done)), H', ⟨by first | omega | exact Nat.le_refl _⟩, ⟨by repeat (first | (with_reducible first | exact HB.out | apply below_alloc | apply pw_below_drewN | apply below_drew1) | exact HB.out)⟩⟩
    · replace c5 := Bool.eq_false_iff.mpr c5
      subst c5
      have H1 : (rhizomelaw01_KeyOrders.j0 k l0 l1 true) = some r := by rw [if_neg (show ¬ (false = true) by decide)] at H; exact H
      clear H
      have H := H1
      clear H1
      have H' := Aside0.mk H
      clear H
      go_wp2_with (first | ((with_reducible refine gate_callee (f := 10) rfl ?_); refine goesL_ (some 11) rfl rfl Tryd.func10 (by kernel_rfl) rfl #[] rfl (by (try simp only [List.map_toArray, List.map_cons, List.map_nil]); first | done | rfl | (simp only [List.length_drop, List.length_take]; rfl)) ?_; (with_reducible refine (rhizomelaw01_awake.calls k  false _ A4.out).mono ?_); rintro e w11 ⟨rfl, hb⟩; refine ⟨_, rfl, ?_⟩; have n0_ := Aside0.mk (below_step (by repeat (first | (with_reducible first | exact HB.out | apply below_alloc | apply pw_below_drewN | apply below_drew1) | exact HB.out)) hb); clear HB; have HB := n0_; clear n0_; (try clear hb); (try clear hb2); (try clear hk); (try clear hi)))
      go_meet
      case rel => exact ⟨_, (true), (by first | rfl | (simp; done) | (simp [*]; done)), H', ⟨by first | omega | exact Nat.le_refl _⟩, ⟨by repeat (first | (with_reducible first | exact HB.out | apply below_alloc | apply pw_below_drewN | apply below_drew1) | exact HB.out)⟩⟩
  case rest =>
    clear HC3
    try clear c1
    try clear p2
    try clear c5
    try clear c7
    try clear c8
    try clear c10
    obtain ⟨kq, x22_2, rfl, HA, HJ2, HB⟩ := hcut
    cases kq with
    | zero => exact absurd HA.out (by simp [rhizomelaw01_KeyOrders.j0])
    | succ kj2 =>
      have H := HA.out
      clear HA
      simp only [rhizomelaw01_KeyOrders.j0] at H
      by_cases c12 : x22_2 = true
      · subst c12
        have H1 : ((rhizomelaw01_awake.f kj2).bind fun t370 => (some t370)) = some r := by rw [if_pos rfl] at H; exact H
        clear H
        have H := H1
        clear H1
        replace H := Option.bind_eq_some_iff.mp H
        obtain ⟨t370, A130, H⟩ := H
        replace H : (some t370) = some r := H
        have A13 := Aside0.mk A130
        clear A130
        obtain rfl := Option.some.inj H
        go_wp2_with (first | ((with_reducible refine gate_callee (f := 10) rfl ?_); refine goesL_ (some 23) rfl rfl Tryd.func10 (by kernel_rfl) rfl #[] rfl (by (try simp only [List.map_toArray, List.map_cons, List.map_nil]); first | done | rfl | (simp only [List.length_drop, List.length_take]; rfl)) ?_; (with_reducible refine (rhizomelaw01_awake.calls kj2  t370 _ A13.out).mono ?_); rintro e w14 ⟨rfl, hb⟩; refine ⟨_, rfl, ?_⟩; have n0_ := Aside0.mk (below_step (by repeat (first | (with_reducible first | exact HB.out | apply below_alloc | apply pw_below_drewN | apply below_drew1) | exact HB.out)) hb); clear HB; have HB := n0_; clear n0_; (try clear hb); (try clear hb2); (try clear hk); (try clear hi)))
        go_ret
        exact ⟨by first | rfl | (simp [errW_none, errW_some] <;> rfl) | (simp [*, errW_none, errW_some] <;> rfl), by repeat (first | (with_reducible first | exact HB.out | apply below_alloc | apply pw_below_drewN | apply below_drew1) | exact HB.out)⟩
      · replace c12 := Bool.eq_false_iff.mpr c12
        subst c12
        have H1 : ((rhizomelaw01_own.f l0).bind fun t371 => ((rhizomelaw01_own.f l1).bind fun t374 => ((key_Cmp.f t371 t374).bind fun t377 => ((rhizomelaw01_Ref.f l0).bind fun t378 => ((rhizomelaw01_Ref.f l1).bind fun t381 => ((rhizomeref01_Cmp.f kj2 t378 t381).bind fun t384 => (if t377 = t384 then ((key_Cmp.f l1 l0).bind fun t385 => (rhizomelaw01_KeyOrders.j1 kj2 l0 l1 t377 (t385 != (wrap64 (-t377))))) else (rhizomelaw01_KeyOrders.j1 kj2 l0 l1 t377 true)))))))) = some r := by rw [if_neg (show ¬ (false = true) by decide)] at H; exact H
        clear H
        have H := H1
        clear H1
        replace H := Option.bind_eq_some_iff.mp H
        obtain ⟨t371, A150, H⟩ := H
        replace H : ((rhizomelaw01_own.f l1).bind fun t374 => ((key_Cmp.f t371 t374).bind fun t377 => ((rhizomelaw01_Ref.f l0).bind fun t378 => ((rhizomelaw01_Ref.f l1).bind fun t381 => ((rhizomeref01_Cmp.f kj2 t378 t381).bind fun t384 => (if t377 = t384 then ((key_Cmp.f l1 l0).bind fun t385 => (rhizomelaw01_KeyOrders.j1 kj2 l0 l1 t377 (t385 != (wrap64 (-t377))))) else (rhizomelaw01_KeyOrders.j1 kj2 l0 l1 t377 true))))))) = some r := H
        have A15 := Aside0.mk A150
        clear A150
        replace H := Option.bind_eq_some_iff.mp H
        obtain ⟨t374, A160, H⟩ := H
        replace H : ((key_Cmp.f t371 t374).bind fun t377 => ((rhizomelaw01_Ref.f l0).bind fun t378 => ((rhizomelaw01_Ref.f l1).bind fun t381 => ((rhizomeref01_Cmp.f kj2 t378 t381).bind fun t384 => (if t377 = t384 then ((key_Cmp.f l1 l0).bind fun t385 => (rhizomelaw01_KeyOrders.j1 kj2 l0 l1 t377 (t385 != (wrap64 (-t377))))) else (rhizomelaw01_KeyOrders.j1 kj2 l0 l1 t377 true)))))) = some r := H
        have A16 := Aside0.mk A160
        clear A160
        replace H := Option.bind_eq_some_iff.mp H
        obtain ⟨t377, A170, H⟩ := H
        replace H : ((rhizomelaw01_Ref.f l0).bind fun t378 => ((rhizomelaw01_Ref.f l1).bind fun t381 => ((rhizomeref01_Cmp.f kj2 t378 t381).bind fun t384 => (if t377 = t384 then ((key_Cmp.f l1 l0).bind fun t385 => (rhizomelaw01_KeyOrders.j1 kj2 l0 l1 t377 (t385 != (wrap64 (-t377))))) else (rhizomelaw01_KeyOrders.j1 kj2 l0 l1 t377 true))))) = some r := H
        have A17 := Aside0.mk A170
        clear A170
        have HC18 := Aside0.mk H
        clear H
        go_upto_region 4 with (first | ((with_reducible refine gate_callee (f := 16) rfl ?_); refine goesL_ (some 25) rfl rfl Tryd.func16 (by kernel_rfl) rfl #[.slice A0 l0.length c0] rfl (by (try simp only [List.map_toArray, List.map_cons, List.map_nil]); first | done | rfl | (simp only [List.length_drop, List.length_take]; rfl)) ?_; (with_reducible refine (rhizomelaw01_own.calls _ _ l0 t371 _ ?side1 ?side2 A15.out).mono ?_); (case side1 => repeat (first | exact (Kd.C_below HR0.out HB.out) | (with_reducible refine Kd.C_alloc ?_ _) | (with_reducible refine Kd.C_drewN ?_ _) | (with_reducible refine Kd.C_drew ?_))); (case side2 => exact HC0.out); rintro e w19 ⟨v372, rfl, ho0, hb⟩; refine ⟨_, rfl, ?_⟩; have n0_ := Aside0.mk (Kd.R_lower ho0 (below_size (by repeat (first | (with_reducible first | exact HB.out | apply below_alloc | apply pw_below_drewN | apply below_drew1) | exact HB.out)))); have n1_ := Aside0.mk (below_step (by repeat (first | (with_reducible first | exact HB.out | apply below_alloc | apply pw_below_drewN | apply below_drew1) | exact HB.out)) hb); clear HB; have HO373 := n0_; have HB := n1_; clear n0_ n1_; (try clear hb); (try clear hb2); (try clear hk); (try clear hi); (try clear ho0)) | ((with_reducible refine gate_callee (f := 16) rfl ?_); refine goesL_ (some 27) rfl rfl Tryd.func16 (by kernel_rfl) rfl #[.slice A1 l1.length c1] rfl (by (try simp only [List.map_toArray, List.map_cons, List.map_nil]); first | done | rfl | (simp only [List.length_drop, List.length_take]; rfl)) ?_; (with_reducible refine (rhizomelaw01_own.calls _ _ l1 t374 _ ?side1 ?side2 A16.out).mono ?_); (case side1 => repeat (first | exact (Kd.C_below HR1.out HB.out) | (with_reducible refine Kd.C_alloc ?_ _) | (with_reducible refine Kd.C_drewN ?_ _) | (with_reducible refine Kd.C_drew ?_))); (case side2 => exact HC1.out); rintro e w20 ⟨v375, rfl, ho0, hb⟩; refine ⟨_, rfl, ?_⟩; have n0_ := Aside0.mk (Kd.R_elder' (by (with_reducible repeat (first | apply Kd.R_alloc | apply Kd.R_drewN | apply Kd.R_drew)); exact HO373.out) (Kd.R_base ho0) hb); have n1_ := Aside0.mk (Kd.R_lower (Kd.R_new' ho0 (Kd.R_lt (by (with_reducible repeat (first | apply Kd.R_alloc | apply Kd.R_drewN | apply Kd.R_drew)); exact HO373.out))) (below_size (by repeat (first | (with_reducible first | exact HB.out | apply below_alloc | apply pw_below_drewN | apply below_drew1) | exact HB.out)))); have n2_ := Aside0.mk (below_step (by repeat (first | (with_reducible first | exact HB.out | apply below_alloc | apply pw_below_drewN | apply below_drew1) | exact HB.out)) hb); clear HO373; clear HB; have HO373 := n0_; have HO376 := n1_; have HB := n2_; clear n0_ n1_ n2_; (try clear hb); (try clear hb2); (try clear hk); (try clear hi); (try clear ho0); obtain ⟨Ao21, co21, eo21⟩ := Kd.R_slice HO373.out; subst eo21; obtain ⟨Ao22, co22, eo22⟩ := Kd.R_slice HO376.out; subst eo22) | ((with_reducible refine gate_callee (f := 25) rfl ?_); refine goesL_ (some 28) rfl rfl Tryd.func25 (by kernel_rfl) rfl #[.slice Ao21 t371.length co21, .slice Ao22 t374.length co22] rfl (by (try simp only [List.map_toArray, List.map_cons, List.map_nil]); first | done | rfl | (simp only [List.length_drop, List.length_take]; rfl)) ?_; (with_reducible refine (key_Cmp.calls _ _ t371 _ _ t374 t377 _ ?side1 ?side2 ?side3 ?side4 A17.out).mono ?_); (case side1 => repeat (first | exact (Kd.R_reads' HO373.out).2.2 | (with_reducible refine Kd.C_alloc ?_ _) | (with_reducible refine Kd.C_drewN ?_ _) | (with_reducible refine Kd.C_drew ?_))); (case side2 => exact (Kd.R_reads' HO373.out).2.1); (case side3 => repeat (first | exact (Kd.R_reads' HO376.out).2.2 | (with_reducible refine Kd.C_alloc ?_ _) | (with_reducible refine Kd.C_drewN ?_ _) | (with_reducible refine Kd.C_drew ?_))); (case side4 => exact (Kd.R_reads' HO376.out).2.1); rintro e w23 ⟨rfl, hb⟩; refine ⟨_, rfl, ?_⟩; have n0_ := Aside0.mk (Kd.R_below (by (with_reducible repeat (first | apply Kd.R_alloc | apply Kd.R_drewN | apply Kd.R_drew)); exact HO373.out) hb); have n1_ := Aside0.mk (Kd.R_below (by (with_reducible repeat (first | apply Kd.R_alloc | apply Kd.R_drewN | apply Kd.R_drew)); exact HO376.out) hb); have n2_ := Aside0.mk (below_step (by repeat (first | (with_reducible first | exact HB.out | apply below_alloc | apply pw_below_drewN | apply below_drew1) | exact HB.out)) hb); clear HO373; clear HO376; clear HB; have HO373 := n0_; have HO376 := n1_; have HB := n2_; clear n0_ n1_ n2_; (try clear hb); (try clear hb2); (try clear hk); (try clear hi)))
        (try simp only [Act.put, List.setIfInBounds_toArray, List.set_cons_zero, List.set_cons_succ])
        go_cut [43] (fun v43 wc => ∃ (kq : Nat) (x43_17 : Bool), v43 = .bool x43_17 ∧ Aside0 (rhizomelaw01_KeyOrders.j1 kq l0 l1 t377 x43_17 = some r) ∧ Aside0 (kq ≤ kj2) ∧ Aside0 (Below w.heap.size w wc))
        case first =>
          have H := HC18.out
          clear HC18
          replace H := Option.bind_eq_some_iff.mp H
          obtain ⟨t378, A240, H⟩ := H
          replace H : ((rhizomelaw01_Ref.f l1).bind fun t381 => ((rhizomeref01_Cmp.f kj2 t378 t381).bind fun t384 => (if t377 = t384 then ((key_Cmp.f l1 l0).bind fun t385 => (rhizomelaw01_KeyOrders.j1 kj2 l0 l1 t377 (t385 != (wrap64 (-t377))))) else (rhizomelaw01_KeyOrders.j1 kj2 l0 l1 t377 true)))) = some r := H
          have A24 := Aside0.mk A240
          clear A240
          replace H := Option.bind_eq_some_iff.mp H
          obtain ⟨t381, A250, H⟩ := H
          replace H : ((rhizomeref01_Cmp.f kj2 t378 t381).bind fun t384 => (if t377 = t384 then ((key_Cmp.f l1 l0).bind fun t385 => (rhizomelaw01_KeyOrders.j1 kj2 l0 l1 t377 (t385 != (wrap64 (-t377))))) else (rhizomelaw01_KeyOrders.j1 kj2 l0 l1 t377 true))) = some r := H
          have A25 := Aside0.mk A250
          clear A250
          replace H := Option.bind_eq_some_iff.mp H
          obtain ⟨t384, A260, H⟩ := H
          replace H : (if t377 = t384 then ((key_Cmp.f l1 l0).bind fun t385 => (rhizomelaw01_KeyOrders.j1 kj2 l0 l1 t377 (t385 != (wrap64 (-t377))))) else (rhizomelaw01_KeyOrders.j1 kj2 l0 l1 t377 true)) = some r := H
          have A26 := Aside0.mk A260
          clear A260
          by_cases c27 : t377 = t384
          · rw [if_pos c27] at H
            have c27b0 : (t377 == t384) = true := beq_iff_eq.mpr c27
            have c27b1 : (t377 != t384) = false := bne_eq_false_iff_eq.mpr c27
            clear c27
            (first | rw [c27b0] | (simp only [i64_w, i32_w]; rw [c27b0]) | skip)
            replace H := Option.bind_eq_some_iff.mp H
            obtain ⟨t385, A280, H⟩ := H
            replace H : (rhizomelaw01_KeyOrders.j1 kj2 l0 l1 t377 (t385 != (wrap64 (-t377)))) = some r := H
            have A28 := Aside0.mk A280
            clear A280
            have H' := Aside0.mk H
            clear H
            go_wp2_with (first | ((with_reducible refine gate_callee (f := 20) rfl ?_); refine goesL_ (some 31) rfl rfl Tryd.func20 (by kernel_rfl) rfl #[.slice A0 l0.length c0] rfl (by (try simp only [List.map_toArray, List.map_cons, List.map_nil]); first | done | rfl | (simp only [List.length_drop, List.length_take]; rfl)) ?_; (with_reducible refine (rhizomelaw01_Ref.calls _ _ l0 t378 _ ?side1 ?side2 A24.out).mono ?_); (case side1 => repeat (first | exact (Kd.C_below HR0.out HB.out) | (with_reducible refine Kd.C_alloc ?_ _) | (with_reducible refine Kd.C_drewN ?_ _) | (with_reducible refine Kd.C_drew ?_))); (case side2 => exact HC0.out); rintro e w29 ⟨v379, rfl, ho0, hb⟩; refine ⟨_, rfl, ?_⟩; have n0_ := Aside0.mk (Kd.R_below (by (with_reducible repeat (first | apply Kd.R_alloc | apply Kd.R_drewN | apply Kd.R_drew)); exact HO373.out) hb); have n1_ := Aside0.mk (Kd.R_below (by (with_reducible repeat (first | apply Kd.R_alloc | apply Kd.R_drewN | apply Kd.R_drew)); exact HO376.out) hb); have n2_ := Aside0.mk (Kd.R_lower ho0 (below_size (by repeat (first | (with_reducible first | exact HB.out | apply below_alloc | apply pw_below_drewN | apply below_drew1) | exact HB.out)))); have n3_ := Aside0.mk (below_step (by repeat (first | (with_reducible first | exact HB.out | apply below_alloc | apply pw_below_drewN | apply below_drew1) | exact HB.out)) hb); clear HO373; clear HO376; clear HB; have HO373 := n0_; have HO376 := n1_; have HO380 := n2_; have HB := n3_; clear n0_ n1_ n2_ n3_; (try clear hb); (try clear hb2); (try clear hk); (try clear hi); (try clear ho0)) | ((with_reducible refine gate_callee (f := 20) rfl ?_); refine goesL_ (some 33) rfl rfl Tryd.func20 (by kernel_rfl) rfl #[.slice A1 l1.length c1] rfl (by (try simp only [List.map_toArray, List.map_cons, List.map_nil]); first | done | rfl | (simp only [List.length_drop, List.length_take]; rfl)) ?_; (with_reducible refine (rhizomelaw01_Ref.calls _ _ l1 t381 _ ?side1 ?side2 A25.out).mono ?_); (case side1 => repeat (first | exact (Kd.C_below HR1.out HB.out) | (with_reducible refine Kd.C_alloc ?_ _) | (with_reducible refine Kd.C_drewN ?_ _) | (with_reducible refine Kd.C_drew ?_))); (case side2 => exact HC1.out); rintro e w30 ⟨v382, rfl, ho0, hb⟩; refine ⟨_, rfl, ?_⟩; have n0_ := Aside0.mk (Kd.R_below (by (with_reducible repeat (first | apply Kd.R_alloc | apply Kd.R_drewN | apply Kd.R_drew)); exact HO373.out) hb); have n1_ := Aside0.mk (Kd.R_below (by (with_reducible repeat (first | apply Kd.R_alloc | apply Kd.R_drewN | apply Kd.R_drew)); exact HO376.out) hb); have n2_ := Aside0.mk (Kd.R_elder' (by (with_reducible repeat (first | apply Kd.R_alloc | apply Kd.R_drewN | apply Kd.R_drew)); exact HO380.out) (Kd.R_base ho0) hb); have n3_ := Aside0.mk (Kd.R_lower (Kd.R_new' ho0 (Kd.R_lt (by (with_reducible repeat (first | apply Kd.R_alloc | apply Kd.R_drewN | apply Kd.R_drew)); exact HO380.out))) (below_size (by repeat (first | (with_reducible first | exact HB.out | apply below_alloc | apply pw_below_drewN | apply below_drew1) | exact HB.out)))); have n4_ := Aside0.mk (below_step (by repeat (first | (with_reducible first | exact HB.out | apply below_alloc | apply pw_below_drewN | apply below_drew1) | exact HB.out)) hb); clear HO373; clear HO376; clear HO380; clear HB; have HO373 := n0_; have HO376 := n1_; have HO380 := n2_; have HO383 := n3_; have HB := n4_; clear n0_ n1_ n2_ n3_ n4_; (try clear hb); (try clear hb2); (try clear hk); (try clear hi); (try clear ho0); obtain ⟨Ao31, co31, eo31⟩ := Kd.R_slice HO380.out; subst eo31; obtain ⟨Ao32, co32, eo32⟩ := Kd.R_slice HO383.out; subst eo32) | ((with_reducible refine gate_callee (f := 26) rfl ?_); refine goesL_ (some 34) rfl rfl Tryd.func26 (by kernel_rfl) rfl #[.slice Ao31 t378.length co31, .slice Ao32 t381.length co32] rfl (by (try simp only [List.map_toArray, List.map_cons, List.map_nil]); first | done | rfl | (simp only [List.length_drop, List.length_take]; rfl)) ?_; (with_reducible refine (rhizomeref01_Cmp.calls kj2 _ _ t378 _ _ t381 t384 _ ?side1 ?side2 ?side3 ?side4 A26.out).mono ?_); (case side1 => repeat (first | exact (Kd.R_reads' HO380.out).2.2 | (with_reducible refine Kd.C_alloc ?_ _) | (with_reducible refine Kd.C_drewN ?_ _) | (with_reducible refine Kd.C_drew ?_))); (case side2 => exact (Kd.R_reads' HO380.out).2.1); (case side3 => repeat (first | exact (Kd.R_reads' HO383.out).2.2 | (with_reducible refine Kd.C_alloc ?_ _) | (with_reducible refine Kd.C_drewN ?_ _) | (with_reducible refine Kd.C_drew ?_))); (case side4 => exact (Kd.R_reads' HO383.out).2.1); rintro e w33 ⟨rfl, hb⟩; refine ⟨_, rfl, ?_⟩; have n0_ := Aside0.mk (Kd.R_below (by (with_reducible repeat (first | apply Kd.R_alloc | apply Kd.R_drewN | apply Kd.R_drew)); exact HO373.out) hb); have n1_ := Aside0.mk (Kd.R_below (by (with_reducible repeat (first | apply Kd.R_alloc | apply Kd.R_drewN | apply Kd.R_drew)); exact HO376.out) hb); have n2_ := Aside0.mk (Kd.R_below (by (with_reducible repeat (first | apply Kd.R_alloc | apply Kd.R_drewN | apply Kd.R_drew)); exact HO380.out) hb); have n3_ := Aside0.mk (Kd.R_below (by (with_reducible repeat (first | apply Kd.R_alloc | apply Kd.R_drewN | apply Kd.R_drew)); exact HO383.out) hb); have n4_ := Aside0.mk (below_step (by repeat (first | (with_reducible first | exact HB.out | apply below_alloc | apply pw_below_drewN | apply below_drew1) | exact HB.out)) hb); clear HO373; clear HO376; clear HO380; clear HO383; clear HB; have HO373 := n0_; have HO376 := n1_; have HO380 := n2_; have HO383 := n3_; have HB := n4_; clear n0_ n1_ n2_ n3_ n4_; (try clear hb); (try clear hb2); (try clear hk); (try clear hi)) | (go_at_call 25; (with_reducible refine (key_Cmp.calls _ _ l1 _ _ l0 t385 _ ?side1 ?side2 ?side3 ?side4 A28.out).mono ?_); (case side1 => repeat (first | exact (Kd.C_below HR1.out HB.out) | (with_reducible refine Kd.C_alloc ?_ _) | (with_reducible refine Kd.C_drewN ?_ _) | (with_reducible refine Kd.C_drew ?_))); (case side2 => exact HC1.out); (case side3 => repeat (first | exact (Kd.C_below HR0.out HB.out) | (with_reducible refine Kd.C_alloc ?_ _) | (with_reducible refine Kd.C_drewN ?_ _) | (with_reducible refine Kd.C_drew ?_))); (case side4 => exact HC0.out); rintro e w34 ⟨rfl, hb⟩; have n0_ := Aside0.mk (Kd.R_below (by (with_reducible repeat (first | apply Kd.R_alloc | apply Kd.R_drewN | apply Kd.R_drew)); exact HO373.out) hb); have n1_ := Aside0.mk (Kd.R_below (by (with_reducible repeat (first | apply Kd.R_alloc | apply Kd.R_drewN | apply Kd.R_drew)); exact HO376.out) hb); have n2_ := Aside0.mk (Kd.R_below (by (with_reducible repeat (first | apply Kd.R_alloc | apply Kd.R_drewN | apply Kd.R_drew)); exact HO380.out) hb); have n3_ := Aside0.mk (Kd.R_below (by (with_reducible repeat (first | apply Kd.R_alloc | apply Kd.R_drewN | apply Kd.R_drew)); exact HO383.out) hb); have n4_ := Aside0.mk (below_step (by repeat (first | (with_reducible first | exact HB.out | apply below_alloc | apply pw_below_drewN | apply below_drew1) | exact HB.out)) hb); clear HO373; clear HO376; clear HO380; clear HO383; clear HB; have HO373 := n0_; have HO376 := n1_; have HO380 := n2_; have HO383 := n3_; have HB := n4_; clear n0_ n1_ n2_ n3_ n4_; (try clear hb); (try clear hb2); (try clear hk); (try clear hi)))
            go_meet
            case rel => exact ⟨_, ((t385 != (wrap64 (-t377)))), (by first | rfl | (simp; done) | (simp [*]; done)), H', ⟨by have := HJ2.out; first | omega | exact Nat.le_refl _⟩, ⟨by repeat (first | (with_reducible first | exact HB.out | apply below_alloc | apply pw_below_drewN | apply below_drew1) | exact HB.out)⟩⟩
          · rw [if_neg c27] at H
            have c27b0 : (t377 == t384) = false := beq_eq_false_iff_ne.mpr c27
            have c27b1 : (t377 != t384) = true := bne_iff_ne.mpr c27
            (first | rw [c27b0] | (simp only [i64_w, i32_w]; rw [c27b0]) | skip)
            have H' := Aside0.mk H
            clear H
            go_wp2_with (first | ((with_reducible refine gate_callee (f := 20) rfl ?_); refine goesL_ (some 31) rfl rfl Tryd.func20 (by kernel_rfl) rfl #[.slice A0 l0.length c0] rfl (by (try simp only [List.map_toArray, List.map_cons, List.map_nil]); first | done | rfl | (simp only [List.length_drop, List.length_take]; rfl)) ?_; (with_reducible refine (rhizomelaw01_Ref.calls _ _ l0 t378 _ ?side1 ?side2 A24.out).mono ?_); (case side1 => repeat (first | exact (Kd.C_below HR0.out HB.out) | (with_reducible refine Kd.C_alloc ?_ _) | (with_reducible refine Kd.C_drewN ?_ _) | (with_reducible refine Kd.C_drew ?_))); (case side2 => exact HC0.out); rintro e w35 ⟨v379, rfl, ho0, hb⟩; refine ⟨_, rfl, ?_⟩; have n0_ := Aside0.mk (Kd.R_below (by (with_reducible repeat (first | apply Kd.R_alloc | apply Kd.R_drewN | apply Kd.R_drew)); exact HO373.out) hb); have n1_ := Aside0.mk (Kd.R_below (by (with_reducible repeat (first | apply Kd.R_alloc | apply Kd.R_drewN | apply Kd.R_drew)); exact HO376.out) hb); have n2_ := Aside0.mk (Kd.R_lower ho0 (below_size (by repeat (first | (with_reducible first | exact HB.out | apply below_alloc | apply pw_below_drewN | apply below_drew1) | exact HB.out)))); have n3_ := Aside0.mk (below_step (by repeat (first | (with_reducible first | exact HB.out | apply below_alloc | apply pw_below_drewN | apply below_drew1) | exact HB.out)) hb); clear HO373; clear HO376; clear HB; have HO373 := n0_; have HO376 := n1_; have HO380 := n2_; have HB := n3_; clear n0_ n1_ n2_ n3_; (try clear hb); (try clear hb2); (try clear hk); (try clear hi); (try clear ho0)) | ((with_reducible refine gate_callee (f := 20) rfl ?_); refine goesL_ (some 33) rfl rfl Tryd.func20 (by kernel_rfl) rfl #[.slice A1 l1.length c1] rfl (by (try simp only [List.map_toArray, List.map_cons, List.map_nil]); first | done | rfl | (simp only [List.length_drop, List.length_take]; rfl)) ?_; (with_reducible refine (rhizomelaw01_Ref.calls _ _ l1 t381 _ ?side1 ?side2 A25.out).mono ?_); (case side1 => repeat (first | exact (Kd.C_below HR1.out HB.out) | (with_reducible refine Kd.C_alloc ?_ _) | (with_reducible refine Kd.C_drewN ?_ _) | (with_reducible refine Kd.C_drew ?_))); (case side2 => exact HC1.out); rintro e w36 ⟨v382, rfl, ho0, hb⟩; refine ⟨_, rfl, ?_⟩; have n0_ := Aside0.mk (Kd.R_below (by (with_reducible repeat (first | apply Kd.R_alloc | apply Kd.R_drewN | apply Kd.R_drew)); exact HO373.out) hb); have n1_ := Aside0.mk (Kd.R_below (by (with_reducible repeat (first | apply Kd.R_alloc | apply Kd.R_drewN | apply Kd.R_drew)); exact HO376.out) hb); have n2_ := Aside0.mk (Kd.R_elder' (by (with_reducible repeat (first | apply Kd.R_alloc | apply Kd.R_drewN | apply Kd.R_drew)); exact HO380.out) (Kd.R_base ho0) hb); have n3_ := Aside0.mk (Kd.R_lower (Kd.R_new' ho0 (Kd.R_lt (by (with_reducible repeat (first | apply Kd.R_alloc | apply Kd.R_drewN | apply Kd.R_drew)); exact HO380.out))) (below_size (by repeat (first | (with_reducible first | exact HB.out | apply below_alloc | apply pw_below_drewN | apply below_drew1) | exact HB.out)))); have n4_ := Aside0.mk (below_step (by repeat (first | (with_reducible first | exact HB.out | apply below_alloc | apply pw_below_drewN | apply below_drew1) | exact HB.out)) hb); clear HO373; clear HO376; clear HO380; clear HB; have HO373 := n0_; have HO376 := n1_; have HO380 := n2_; have HO383 := n3_; have HB := n4_; clear n0_ n1_ n2_ n3_ n4_; (try clear hb); (try clear hb2); (try clear hk); (try clear hi); (try clear ho0); obtain ⟨Ao37, co37, eo37⟩ := Kd.R_slice HO380.out; subst eo37; obtain ⟨Ao38, co38, eo38⟩ := Kd.R_slice HO383.out; subst eo38) | ((with_reducible refine gate_callee (f := 26) rfl ?_); refine goesL_ (some 34) rfl rfl Tryd.func26 (by kernel_rfl) rfl #[.slice Ao37 t378.length co37, .slice Ao38 t381.length co38] rfl (by (try simp only [List.map_toArray, List.map_cons, List.map_nil]); first | done | rfl | (simp only [List.length_drop, List.length_take]; rfl)) ?_; (with_reducible refine (rhizomeref01_Cmp.calls kj2 _ _ t378 _ _ t381 t384 _ ?side1 ?side2 ?side3 ?side4 A26.out).mono ?_); (case side1 => repeat (first | exact (Kd.R_reads' HO380.out).2.2 | (with_reducible refine Kd.C_alloc ?_ _) | (with_reducible refine Kd.C_drewN ?_ _) | (with_reducible refine Kd.C_drew ?_))); (case side2 => exact (Kd.R_reads' HO380.out).2.1); (case side3 => repeat (first | exact (Kd.R_reads' HO383.out).2.2 | (with_reducible refine Kd.C_alloc ?_ _) | (with_reducible refine Kd.C_drewN ?_ _) | (with_reducible refine Kd.C_drew ?_))); (case side4 => exact (Kd.R_reads' HO383.out).2.1); rintro e w39 ⟨rfl, hb⟩; refine ⟨_, rfl, ?_⟩; have n0_ := Aside0.mk (Kd.R_below (by (with_reducible repeat (first | apply Kd.R_alloc | apply Kd.R_drewN | apply Kd.R_drew)); exact HO373.out) hb); have n1_ := Aside0.mk (Kd.R_below (by (with_reducible repeat (first | apply Kd.R_alloc | apply Kd.R_drewN | apply Kd.R_drew)); exact HO376.out) hb); have n2_ := Aside0.mk (Kd.R_below (by (with_reducible repeat (first | apply Kd.R_alloc | apply Kd.R_drewN | apply Kd.R_drew)); exact HO380.out) hb); have n3_ := Aside0.mk (Kd.R_below (by (with_reducible repeat (first | apply Kd.R_alloc | apply Kd.R_drewN | apply Kd.R_drew)); exact HO383.out) hb); have n4_ := Aside0.mk (below_step (by repeat (first | (with_reducible first | exact HB.out | apply below_alloc | apply pw_below_drewN | apply below_drew1) | exact HB.out)) hb); clear HO373; clear HO376; clear HO380; clear HO383; clear HB; have HO373 := n0_; have HO376 := n1_; have HO380 := n2_; have HO383 := n3_; have HB := n4_; clear n0_ n1_ n2_ n3_ n4_; (try clear hb); (try clear hb2); (try clear hk); (try clear hi)))
            go_meet
            case rel => exact ⟨_, (true), (by first | rfl | (simp; done) | (simp [*]; done)), H', ⟨by have := HJ2.out; first | omega | exact Nat.le_refl _⟩, ⟨by repeat (first | (with_reducible first | exact HB.out | apply below_alloc | apply pw_below_drewN | apply below_drew1) | exact HB.out)⟩⟩
        case rest =>
          clear HC18
          try clear c1
          try clear c2
          try clear p2
          try clear c5
          try clear p6
          try clear c7
          try clear c8
          try clear c10
          try clear c12
          try clear c16
          try clear c20
          try clear c25
          try clear c26
          try clear c27
          try clear c27b0
          try clear c27b1
          try clear p2
          obtain ⟨kq, x43_17, rfl, HA, HJ17, HB⟩ := hcut
          cases kq with
          | zero => exact absurd HA.out (by simp [rhizomelaw01_KeyOrders.j1])
          | succ kj17 =>
            have H := HA.out
            clear HA
            simp only [rhizomelaw01_KeyOrders.j1] at H
            by_cases c40 : x43_17 = true
            · subst c40
              have H1 : (some false) = some r := by rw [if_pos rfl] at H; exact H
              clear H
              have H := H1
              clear H1
              obtain rfl := Option.some.inj H
              go_wp2
              go_ret
              exact ⟨by first | rfl | (simp [errW_none, errW_some] <;> rfl) | (simp [*, errW_none, errW_some] <;> rfl), by repeat (first | (with_reducible first | exact HB.out | apply below_alloc | apply pw_below_drewN | apply below_drew1) | exact HB.out)⟩
            · replace c40 := Bool.eq_false_iff.mpr c40
              subst c40
              have H1 : ((key_Encode.f kj17 l0).bind fun bt386 => ((key_Encode.f kj17 l1).bind fun bt390 => (if bt386.2 = 0 then (rhizomelaw01_KeyOrders.j2 kj17 l0 l1 t377 bt386.1 bt390.1 (bt390.2 != 0)) else (rhizomelaw01_KeyOrders.j2 kj17 l0 l1 t377 bt386.1 bt390.1 true)))) = some r := by rw [if_neg (show ¬ (false = true) by decide)] at H; exact H
              clear H
              have H := H1
              clear H1
              replace H := Option.bind_eq_some_iff.mp H
              obtain ⟨⟨t386, t389⟩, A410, H⟩ := H
              replace H : ((key_Encode.f kj17 l1).bind fun bt390 => (if t389 = 0 then (rhizomelaw01_KeyOrders.j2 kj17 l0 l1 t377 t386 bt390.1 (bt390.2 != 0)) else (rhizomelaw01_KeyOrders.j2 kj17 l0 l1 t377 t386 bt390.1 true))) = some r := H
              have A41 := Aside0.mk A410
              clear A410
              replace H := Option.bind_eq_some_iff.mp H
              obtain ⟨⟨t390, t393⟩, A420, H⟩ := H
              replace H : (if t389 = 0 then (rhizomelaw01_KeyOrders.j2 kj17 l0 l1 t377 t386 t390 (t393 != 0)) else (rhizomelaw01_KeyOrders.j2 kj17 l0 l1 t377 t386 t390 true)) = some r := H
              have A42 := Aside0.mk A420
              clear A420
              have HC43 := Aside0.mk H
              clear H
              go_upto_region 8 with (first | ((with_reducible refine gate_callee (f := 15) rfl ?_); refine goesL_ (some 46) rfl rfl Tryd.func15 (by kernel_rfl) rfl #[.slice A0 l0.length c0] rfl (by (try simp only [List.map_toArray, List.map_cons, List.map_nil]); first | done | rfl | (simp only [List.length_drop, List.length_take]; rfl)) ?_; (with_reducible refine (key_Encode.calls kj17 _ _ l0 t386 t389 _ ?side1 ?side2 A41.out).mono ?_); (case side1 => repeat (first | exact (Kd.C_below HR0.out HB.out) | (with_reducible refine Kd.C_alloc ?_ _) | (with_reducible refine Kd.C_drewN ?_ _) | (with_reducible refine Kd.C_drew ?_))); (case side2 => exact HC0.out); rintro e w44 ⟨v387, rfl, ho0, hb⟩; refine ⟨_, rfl, ?_⟩; have n0_ := Aside0.mk (Kd.V_lower (Kd.V_mono (ok' := fun k_ => True) ho0 (fun k_ hk_ => trivial)) (below_size (by repeat (first | (with_reducible first | exact HB.out | apply below_alloc | apply pw_below_drewN | apply below_drew1) | exact HB.out)))); have n1_ := Aside0.mk (below_step (by repeat (first | (with_reducible first | exact HB.out | apply below_alloc | apply pw_below_drewN | apply below_drew1) | exact HB.out)) hb); clear HB; have HO388 := n0_; have HB := n1_; clear n0_ n1_; (try clear hb); (try clear hb2); (try clear hk); (try clear hi); (try clear ho0)) | ((with_reducible refine gate_callee (f := 15) rfl ?_); refine goesL_ (some 51) rfl rfl Tryd.func15 (by kernel_rfl) rfl #[.slice A1 l1.length c1] rfl (by (try simp only [List.map_toArray, List.map_cons, List.map_nil]); first | done | rfl | (simp only [List.length_drop, List.length_take]; rfl)) ?_; (with_reducible refine (key_Encode.calls kj17 _ _ l1 t390 t393 _ ?side1 ?side2 A42.out).mono ?_); (case side1 => repeat (first | exact (Kd.C_below HR1.out HB.out) | (with_reducible refine Kd.C_alloc ?_ _) | (with_reducible refine Kd.C_drewN ?_ _) | (with_reducible refine Kd.C_drew ?_))); (case side2 => exact HC1.out); rintro e w45 ⟨v391, rfl, ho0, hb⟩; refine ⟨_, rfl, ?_⟩; have n0_ := Aside0.mk (Kd.V_below (by (with_reducible repeat (first | apply Kd.V_alloc | apply Kd.V_drewN | apply Kd.V_drew)); exact HO388.out) hb); have n1_ := Aside0.mk (Kd.V_lower (Kd.V_mono (ok' := fun k_ => True) ho0 (fun k_ hk_ => trivial)) (below_size (by repeat (first | (with_reducible first | exact HB.out | apply below_alloc | apply pw_below_drewN | apply below_drew1) | exact HB.out)))); have n2_ := Aside0.mk (below_step (by repeat (first | (with_reducible first | exact HB.out | apply below_alloc | apply pw_below_drewN | apply below_drew1) | exact HB.out)) hb); clear HO388; clear HB; have HO388 := n0_; have HO392 := n1_; have HB := n2_; clear n0_ n1_ n2_; (try clear hb); (try clear hb2); (try clear hk); (try clear hi); (try clear ho0)))
              (try simp only [Act.put, List.setIfInBounds_toArray, List.set_cons_zero, List.set_cons_succ])
              go_cut [59] (fun v59 wc => ∃ (kq : Nat) (x59_42 : Bool), v59 = .bool x59_42 ∧ Aside0 (rhizomelaw01_KeyOrders.j2 kq l0 l1 t377 t386 t390 x59_42 = some r) ∧ Aside0 (kq ≤ kj17) ∧ Aside0 (Kd.V (Kd.int .u8) 5 wc w.heap.size (fun _ => True) v387 t386) ∧ Aside0 (Kd.V (Kd.int .u8) 5 wc w.heap.size (fun _ => True) v391 t390) ∧ Aside0 (Below w.heap.size w wc))
              case first =>
                have H := HC43.out
                clear HC43
                by_cases c46 : t389 = 0
                · rw [if_pos c46] at H
                  have c46b0 : (t389 == 0) = true := beq_iff_eq.mpr c46
                  have c46b1 : (t389 != 0) = false := bne_eq_false_iff_eq.mpr c46
                  clear c46
                  (first | rw [c46b0] | (simp only [i64_w, i32_w]; rw [c46b0]) | skip)
                  have H' := Aside0.mk H
                  clear H
                  go_wp2
                  go_meet
                  case rel => exact ⟨_, ((t393 != 0)), (by first | rfl | (simp; done) | (simp [*]; done)), H', ⟨by have := HJ2.out; have := HJ17.out; first | omega | exact Nat.le_refl _⟩, ⟨by (with_reducible repeat (first | apply Kd.V_alloc | apply Kd.V_drewN | apply Kd.V_drew)); exact HO388.out⟩, ⟨by (with_reducible repeat (first | apply Kd.V_alloc | apply Kd.V_drewN | apply Kd.V_drew)); exact HO392.out⟩, ⟨by repeat (first | (with_reducible first | exact HB.out | apply below_alloc | apply pw_below_drewN | apply below_drew1) | exact HB.out)⟩⟩
                · rw [if_neg c46] at H
                  have c46b0 : (t389 == 0) = false := beq_eq_false_iff_ne.mpr c46
                  have c46b1 : (t389 != 0) = true := bne_iff_ne.mpr c46
                  (first | rw [c46b0] | (simp only [i64_w, i32_w]; rw [c46b0]) | skip)
                  have H' := Aside0.mk H
                  clear H
                  go_wp2
                  go_meet
                  case rel => exact ⟨_, (true), (by first | rfl | (simp; done) | (simp [*]; done)), H', ⟨by have := HJ2.out; have := HJ17.out; first | omega | exact Nat.le_refl _⟩, ⟨by (with_reducible repeat (first | apply Kd.V_alloc | apply Kd.V_drewN | apply Kd.V_drew)); exact HO388.out⟩, ⟨by (with_reducible repeat (first | apply Kd.V_alloc | apply Kd.V_drewN | apply Kd.V_drew)); exact HO392.out⟩, ⟨by repeat (first | (with_reducible first | exact HB.out | apply below_alloc | apply pw_below_drewN | apply below_drew1) | exact HB.out)⟩⟩
              case rest =>
                clear HC43
                try clear c1
                try clear c2
                try clear p2
                try clear c4
                try clear c5
                try clear p6
                try clear c7
                try clear c8
                try clear c10
                try clear c12
                try clear c15
                try clear c16
                try clear c20
                try clear c25
                try clear c26
                try clear c27
                try clear c27b0
                try clear c27b1
                try clear c40
                try clear c46
                try clear c46b0
                try clear c46b1
                try clear p2
                try clear p6
                obtain ⟨kq, x59_42, rfl, HA, HJ42, HO_6, HO_8, HB⟩ := hcut
                cases kq with
                | zero => exact absurd HA.out (by simp [rhizomelaw01_KeyOrders.j2])
                | succ kj42 =>
                  have H := HA.out
                  clear HA
                  simp only [rhizomelaw01_KeyOrders.j2] at H
                  by_cases c47 : x59_42 = true
                  · subst c47
                    have H1 : (some true) = some r := by rw [if_pos rfl] at H; exact H
                    clear H
                    have H := H1
                    clear H1
                    obtain rfl := Option.some.inj H
                    go_wp2
                    go_ret
                    exact ⟨by first | rfl | (simp [errW_none, errW_some] <;> rfl) | (simp [*, errW_none, errW_some] <;> rfl), by repeat (first | (with_reducible first | exact HB.out | apply below_alloc | apply pw_below_drewN | apply below_drew1) | exact HB.out)⟩
                  · replace c47 := Bool.eq_false_iff.mpr c47
                    subst c47
                    have H1 : (if ((Op.bytesLess ((strOfNums t386).toList) ((strOfNums t390).toList)) != (decide (t377 < 0))) = true then (rhizomelaw01_KeyOrders.j3 kj42 l0 l1 t386 t390 true) else (rhizomelaw01_KeyOrders.j3 kj42 l0 l1 t386 t390 (((strOfNums t386).toList == (strOfNums t390).toList) != (t377 == 0)))) = some r := by rw [if_neg (show ¬ (false = true) by decide)] at H; exact H
                    clear H
                    have H := H1
                    clear H1
                    have HC48 := Aside0.mk H
                    clear H
                    go_upto_region 10 with (fail)
                    go_cut [77] (fun v77 wc => ∃ (kq : Nat) (x77_47 : Bool), v77 = .bool x77_47 ∧ Aside0 (rhizomelaw01_KeyOrders.j3 kq l0 l1 t386 t390 x77_47 = some r) ∧ Aside0 (kq ≤ kj42) ∧ Aside0 (Kd.V (Kd.int .u8) 5 wc w.heap.size (fun _ => True) v387 t386) ∧ Aside0 (Kd.V (Kd.int .u8) 5 wc w.heap.size (fun _ => True) v391 t390) ∧ Aside0 (Below w.heap.size w wc))
                    case first =>
                      have H := HC48.out
                      clear HC48
                      by_cases c49 : ((Op.bytesLess ((strOfNums t386).toList) ((strOfNums t390).toList)) != (decide (t377 < 0))) = true
                      · rw [if_pos c49] at H
                        have c49b0 : ((Op.bytesLess ((strOfNums t386).toList) ((strOfNums t390).toList)) != (decide (t377 < 0))) = true := c49
                        (try (have c49b1 : decide ((Op.bytesLess ((strOfNums t386).toList) ((strOfNums t390).toList)) = (decide (t377 < 0))) = false := by simpa using c49))
                        (try (have c49b2 : ((Op.bytesLess ((strOfNums t386).toList) ((strOfNums t390).toList)) == (decide (t377 < 0))) = false := by simpa using c49))
                        (try (have c49b3 : ¬ ((Op.bytesLess ((strOfNums t386).toList) ((strOfNums t390).toList)) = (decide (t377 < 0))) := by simpa using c49))
                        clear c49
                        (first | rw [c49b0] | (simp only [i64_w, i32_w]; rw [c49b0]) | skip)
                        have H' := Aside0.mk H
                        clear H
                        obtain ⟨Ao50, co50, eo50⟩ := Kd.V_slice HO_6.out
                        subst eo50
                        have hcv51 := Kd.C_string (P := Tryd.prog) (A := Ao50) (c := co50) Tryd.underlying22 Tryd.underlying5 Tryd.underlying9 (Kd.V_reads' HO_6.out).2.2
                        obtain ⟨Ao52, co52, eo52⟩ := Kd.V_slice HO_8.out
                        subst eo52
                        have hcv53 := Kd.C_string (P := Tryd.prog) (A := Ao52) (c := co52) Tryd.underlying22 Tryd.underlying5 Tryd.underlying9 (Kd.V_reads' HO_8.out).2.2
                        go_wp2
                        go_meet
                        case rel => exact ⟨_, (true), (by first | rfl | (simp; done) | (simp [*]; done)), H', ⟨by have := HJ2.out; have := HJ17.out; have := HJ42.out; first | omega | exact Nat.le_refl _⟩, ⟨by (with_reducible repeat (first | apply Kd.V_alloc | apply Kd.V_drewN | apply Kd.V_drew)); exact HO_6.out⟩, ⟨by (with_reducible repeat (first | apply Kd.V_alloc | apply Kd.V_drewN | apply Kd.V_drew)); exact HO_8.out⟩, ⟨by repeat (first | (with_reducible first | exact HB.out | apply below_alloc | apply pw_below_drewN | apply below_drew1) | exact HB.out)⟩⟩
                      · rw [if_neg c49] at H
                        have c49b0 : ((Op.bytesLess ((strOfNums t386).toList) ((strOfNums t390).toList)) != (decide (t377 < 0))) = false := by simpa using c49
                        (try (have c49b1 : decide ((Op.bytesLess ((strOfNums t386).toList) ((strOfNums t390).toList)) = (decide (t377 < 0))) = true := by simpa using c49))
                        (try (have c49b2 : ((Op.bytesLess ((strOfNums t386).toList) ((strOfNums t390).toList)) == (decide (t377 < 0))) = true := by simpa using c49))
                        clear c49
                        (first | rw [c49b0] | (simp only [i64_w, i32_w]; rw [c49b0]) | skip)
                        have H' := Aside0.mk H
                        clear H
                        obtain ⟨Ao54, co54, eo54⟩ := Kd.V_slice HO_6.out
                        subst eo54
                        have hcv55 := Kd.C_string (P := Tryd.prog) (A := Ao54) (c := co54) Tryd.underlying22 Tryd.underlying5 Tryd.underlying9 (Kd.V_reads' HO_6.out).2.2
                        obtain ⟨Ao56, co56, eo56⟩ := Kd.V_slice HO_8.out
                        subst eo56
                        have hcv57 := Kd.C_string (P := Tryd.prog) (A := Ao56) (c := co56) Tryd.underlying22 Tryd.underlying5 Tryd.underlying9 (Kd.V_reads' HO_8.out).2.2
                        have hcv58 := Kd.C_string (P := Tryd.prog) (A := Ao54) (c := co54) Tryd.underlying22 Tryd.underlying5 Tryd.underlying9 (Kd.V_reads' HO_6.out).2.2
                        have hcv59 := Kd.C_string (P := Tryd.prog) (A := Ao56) (c := co56) Tryd.underlying22 Tryd.underlying5 Tryd.underlying9 (Kd.V_reads' HO_8.out).2.2
                        go_wp2
                        go_meet
                        case rel => exact ⟨_, ((((strOfNums t386).toList == (strOfNums t390).toList) != (t377 == 0))), (by first | rfl | (simp; done) | (simp [*]; done)), H', ⟨by have := HJ2.out; have := HJ17.out; have := HJ42.out; first | omega | exact Nat.le_refl _⟩, ⟨by (with_reducible repeat (first | apply Kd.V_alloc | apply Kd.V_drewN | apply Kd.V_drew)); exact HO_6.out⟩, ⟨by (with_reducible repeat (first | apply Kd.V_alloc | apply Kd.V_drewN | apply Kd.V_drew)); exact HO_8.out⟩, ⟨by repeat (first | (with_reducible first | exact HB.out | apply below_alloc | apply pw_below_drewN | apply below_drew1) | exact HB.out)⟩⟩
                    case rest =>
                      clear HC48
                      try clear c1
                      try clear c2
                      try clear p2
                      try clear c4
                      try clear c5
                      try clear hcv5
                      try clear p6
                      try clear c7
                      try clear c8
                      try clear c10
                      try clear c12
                      try clear c15
                      try clear c16
                      try clear c20
                      try clear c25
                      try clear c26
                      try clear c27
                      try clear c27b0
                      try clear c27b1
                      try clear c40
                      try clear c46
                      try clear c46b0
                      try clear c46b1
                      try clear c47
                      try clear c49
                      try clear c49b0
                      try clear c49b1
                      try clear c49b2
                      try clear hcv51
                      try clear hcv53
                      try clear hcv55
                      try clear hcv57
                      try clear hcv58
                      try clear hcv59
                      try clear p2
                      try clear p6
                      obtain ⟨kq, x77_47, rfl, HA, HJ47, HO_6, HO_8, HB⟩ := hcut
                      cases kq with
                      | zero => exact absurd HA.out (by simp [rhizomelaw01_KeyOrders.j3])
                      | succ kj47 =>
                        have H := HA.out
                        clear HA
                        simp only [rhizomelaw01_KeyOrders.j3] at H
                        by_cases c60 : x77_47 = true
                        · subst c60
                          have H1 : (some false) = some r := by rw [if_pos rfl] at H; exact H
                          clear H
                          have H := H1
                          clear H1
                          obtain rfl := Option.some.inj H
                          go_wp2
                          go_ret
                          exact ⟨by first | rfl | (simp [errW_none, errW_some] <;> rfl) | (simp [*, errW_none, errW_some] <;> rfl), by repeat (first | (with_reducible first | exact HB.out | apply below_alloc | apply pw_below_drewN | apply below_drew1) | exact HB.out)⟩
                        · replace c60 := Bool.eq_false_iff.mpr c60
                          subst c60
                          have H1 : (if (t386.length : Int) ≤ (t390.length : Int) then (if 0 ≤ (t386.length : Int) then ((some (t390.take ((t386.length : Int) : Int).toNat : List Int)).bind fun y394 => (if (l0.length : Int) ≤ (l1.length : Int) then ((rhizomelaw01_Ref.f l0).bind fun t399 => (if 0 ≤ (mn (l0.length : Int) (l1.length : Int)) then (if (mn (l0.length : Int) (l1.length : Int)) ≤ (l1.length : Int) then ((rhizomelaw01_Ref.f (l1.take ((mn (l0.length : Int) (l1.length : Int)) : Int).toNat)).bind fun t406 => ((rhizomeref01_Same.f kj47 t399 t406).bind fun t409 => (some (((strOfNums y394).toList == (strOfNums t386).toList) == t409)))) else (none)) else (none))) else (some (((strOfNums y394).toList == (strOfNums t386).toList) == false)))) else (none)) else (if (l0.length : Int) ≤ (l1.length : Int) then ((rhizomelaw01_Ref.f l0).bind fun t410 => (if 0 ≤ (mn (l0.length : Int) (l1.length : Int)) then (if (mn (l0.length : Int) (l1.length : Int)) ≤ (l1.length : Int) then ((rhizomelaw01_Ref.f (l1.take ((mn (l0.length : Int) (l1.length : Int)) : Int).toNat)).bind fun t417 => ((rhizomeref01_Same.f kj47 t410 t417).bind fun t420 => (some (false == t420)))) else (none)) else (none))) else (some (false == false)))) = some r := by rw [if_neg (show ¬ (false = true) by decide)] at H; exact H
                          clear H
                          have H := H1
                          clear H1
                          by_cases c61 : (t386.length : Int) ≤ (t390.length : Int)
                          · rw [if_pos c61] at H
                            have c61b0 : decide ((t386.length : Int) ≤ (t390.length : Int)) = true := decide_eq_true c61
                            have c61b1 : decide (t386.length ≤ t390.length) = true := decide_eq_true (Int.ofNat_le.mp c61)
                            clear c61
                            by_cases c62 : 0 ≤ (t386.length : Int)
                            · rw [if_pos c62] at H
                              have c62b0 := eq_true c62
                              have c62b1 : decide (0 ≤ (t386.length : Int)) = true := decide_eq_true c62
                              clear c62
                              have c63b0 := eq_true (of_decide_eq_true (by first | (with_reducible assumption) | assumption) : (t386.length : Int) ≤ (t390.length : Int))
                              obtain ⟨y394, hy394⟩ : ∃ y_ : List Int, y_ = (t390.take ((t386.length : Int) : Int).toNat) := ⟨_, rfl⟩
                              replace H : (if (l0.length : Int) ≤ (l1.length : Int) then ((rhizomelaw01_Ref.f l0).bind fun t399 => (if 0 ≤ (mn (l0.length : Int) (l1.length : Int)) then (if (mn (l0.length : Int) (l1.length : Int)) ≤ (l1.length : Int) then ((rhizomelaw01_Ref.f (l1.take ((mn (l0.length : Int) (l1.length : Int)) : Int).toNat)).bind fun t406 => ((rhizomeref01_Same.f kj47 t399 t406).bind fun t409 => (some (((strOfNums y394).toList == (strOfNums t386).toList) == t409)))) else (none)) else (none))) else (some (((strOfNums y394).toList == (strOfNums t386).toList) == false))) = some r := by first | (rw [hy394]; with_reducible exact H) | (have H2_ := (Option.bind_some _ _).symm.trans H; rw [hy394]; with_reducible exact H2_) | (have H2_ := (Option.bind_some _ _).symm.trans H; with_reducible exact H2_) | with_reducible exact H | (rw [hy394]; exact H) | exact H
                              have Ny394 := Aside0.mk hy394
                              clear hy394
                              by_cases c64 : (l0.length : Int) ≤ (l1.length : Int)
                              · rw [if_pos c64] at H
                                have c64b0 : decide ((l0.length : Int) ≤ (l1.length : Int)) = true := decide_eq_true c64
                                have c64b1 : decide (l0.length ≤ l1.length) = true := decide_eq_true (Int.ofNat_le.mp c64)
                                clear c64
                                replace H := Option.bind_eq_some_iff.mp H
                                obtain ⟨t399, A650, H⟩ := H
                                replace H : (if 0 ≤ (mn (l0.length : Int) (l1.length : Int)) then (if (mn (l0.length : Int) (l1.length : Int)) ≤ (l1.length : Int) then ((rhizomelaw01_Ref.f (l1.take ((mn (l0.length : Int) (l1.length : Int)) : Int).toNat)).bind fun t406 => ((rhizomeref01_Same.f kj47 t399 t406).bind fun t409 => (some (((strOfNums y394).toList == (strOfNums t386).toList) == t409)))) else (none)) else (none)) = some r := H
                                have A65 := Aside0.mk A650
                                clear A650
                                obtain ⟨ji66, hji66⟩ : ∃ j_ : Int, (mn (l0.length : Int) (l1.length : Int)) = j_ := ⟨_, rfl⟩
                                replace H : (if 0 ≤ (ji66) then (if (ji66) ≤ (l1.length : Int) then ((rhizomelaw01_Ref.f (l1.take ((ji66) : Int).toNat)).bind fun t406 => ((rhizomeref01_Same.f kj47 t399 t406).bind fun t409 => (some (((strOfNums y394).toList == (strOfNums t386).toList) == t409)))) else (none)) else (none)) = some r := by first | (rw [hji66] at H; exact H) | (simp only [hji66] at H ⊢; exact H)
                                (try rw [hji66] at A65)
                                have hji66_ : (if (l1.length : Int) < (l0.length : Int) then (l1.length : Int) else (l0.length : Int)) = ji66 := hji66
                                have hji66n : (if l1.length < l0.length then (l1.length : Int) else (l0.length : Int)) = ji66 := by rw [← hji66_]; simp only [Int.ofNat_lt]
                                by_cases c67 : 0 ≤ (ji66)
                                · rw [if_pos c67] at H
                                  have c67b0 := eq_true c67
                                  have c67b1 : decide (0 ≤ (ji66)) = true := decide_eq_true c67
                                  clear c67
                                  by_cases c68 : (ji66) ≤ (l1.length : Int)
                                  · rw [if_pos c68] at H
                                    have c68b0 := eq_true c68
                                    have c68b1 : decide ((ji66) ≤ (l1.length : Int)) = true := decide_eq_true c68
                                    clear c68
                                    obtain ⟨y402, hy402⟩ : ∃ y_ : List (S31), y_ = (l1.take ((ji66) : Int).toNat) := ⟨_, rfl⟩
                                    replace H : ((rhizomelaw01_Ref.f y402).bind fun t406 => ((rhizomeref01_Same.f kj47 t399 t406).bind fun t409 => (some (((strOfNums y394).toList == (strOfNums t386).toList) == t409)))) = some r := by first | (rw [hy402]; with_reducible exact H) | (have H2_ := (Option.bind_some _ _).symm.trans H; rw [hy402]; with_reducible exact H2_) | (have H2_ := (Option.bind_some _ _).symm.trans H; with_reducible exact H2_) | with_reducible exact H | (rw [hy402]; exact H) | exact H
                                    have Ny402 := Aside0.mk hy402
                                    clear hy402
                                    replace H := Option.bind_eq_some_iff.mp H
                                    obtain ⟨t406, A690, H⟩ := H
                                    replace H : ((rhizomeref01_Same.f kj47 t399 t406).bind fun t409 => (some (((strOfNums y394).toList == (strOfNums t386).toList) == t409))) = some r := H
                                    have A69 := Aside0.mk A690
                                    clear A690
                                    replace H := Option.bind_eq_some_iff.mp H
                                    obtain ⟨t409, A700, H⟩ := H
                                    replace H : (some (((strOfNums y394).toList == (strOfNums t386).toList) == t409)) = some r := H
                                    have A70 := Aside0.mk A700
                                    clear A700
                                    obtain rfl := Option.some.inj H
                                    try go_wp2
                                    have n0_ := Aside0.mk (Kd.V_drew HO_6.out)
                                    have n1_ := Aside0.mk (Kd.V_drew HO_8.out)
                                    have n2_ := Aside0.mk (below_drew1 HB.out)
                                    clear HO_6
                                    clear HO_8
                                    clear HB
                                    have HO_6 := n0_
                                    have HO_8 := n1_
                                    have HB := n2_
                                    clear n0_ n1_ n2_
                                    obtain ⟨Ao72, co72, eo72⟩ := Kd.V_slice HO_6.out
                                    (first | subst eo72 | (injection eo72 with f1_ f2_ f3_; have f4_ := f1_.symm; have f5_ := f3_.symm; clear f1_ f2_ f3_; subst f4_; subst f5_))
                                    obtain ⟨Ao73, co73, eo73⟩ := Kd.V_slice HO_8.out
                                    (first | subst eo73 | (injection eo73 with f1_ f2_ f3_; have f4_ := f1_.symm; have f5_ := f3_.symm; clear f1_ f2_ f3_; subst f4_; subst f5_))
                                    have q74 : ((t386.length : Int) : Int) ≤ ((t390.length : Int) : Int) := of_decide_eq_true (by first | (with_reducible assumption) | assumption)
                                    obtain ⟨i074, hi074, _, hsz74, _⟩ := info_parts info5
                                    have hroom74 : t390.length ≤ co73 := (Kd.V_reads' HO_8.out).2.1
                                    have hC74 : Kd.F (Kd.int .u8) _ _ Ao73 t390.length t390 := (Kd.V_at (base := w.heap.size) HO_8.out).2.2
                                    have hcut74 := cut_to (P := Tryd.prog) 22 5 .i64 Tryd.underlying22 hi074 Ao73 t390.length co73 (t386.length : Int) (of_decide_eq_true (by first | (with_reducible assumption) | assumption)) q74 hroom74
                                    have hr74 := Kd.F_take (m := ((t386.length : Int) : Int).toNat) hC74 (by omega)
                                    have hy74 : y394.length = ((t386.length : Int) : Int).toNat := (by rw [Ny394.out, List.length_take]; omega)
                                    rw [← Ny394.out] at hr74
                                    rw [← hy74] at hcut74
                                    have HO398 := Aside0.mk (show Kd.V (Kd.int .u8) 5 _ w.heap.size _ (.slice Ao73 y394.length co73) y394 from Kd.V_mk (by omega) hr74)
                                    have HC398 := Aside0.mk (show y394.length ≤ co73 from by omega)
                                    clear hr74 hC74 hroom74 hi074 hsz74
                                    have KY74 := Aside0.mk hy74
                                    clear hy74
                                    replace q74 := eq_true q74
                                    refine start_ (n := 16) (S := fun w' => (convert 22 9 (.slice Ao73 y394.length co73)).run Tryd.prog w' = .ok (.string (strOfNums y394)) w' ∧ (convert 22 9 (.slice Ao72 t386.length co72)).run Tryd.prog w' = .ok (.string (strOfNums t386)) w') (ds := []) #[false, false, false, false, false, false, false, false, false, false, false, false, false, false, false, false] (by kernel_rfl) rfl rfl ⟨(Kd.C_string (P := Tryd.prog) (A := Ao73) (c := co73) Tryd.underlying22 Tryd.underlying5 Tryd.underlying9 (Kd.V_reads' HO398.out).2.2), (Kd.C_string (P := Tryd.prog) (A := Ao72) (c := co72) Tryd.underlying22 Tryd.underlying5 Tryd.underlying9 (Kd.V_reads' HO_6.out).2.2)⟩ (fun hHeld => ?_); refine with_tabW rhizomelaw01_KeyOrders.tab12 rhizomelaw01_KeyOrders.bits12 (fun HT_ HW_ => ?_)
                                    generalize wc.drew = w71 at HO_6 HO_8 HB HO398 hHeld ⊢
                                    refine pure_ (i := 0) (N := some 78) (v := ?_) (a' := ?_) #[true, false, false, false, false, false, false, false, false, false, false, false, false, false, false, false] rfl rfl (any_of HT_.out (by kernel_rfl)) (fun _ _ _ h => h) (Or.inl ⟨by rfl, ?_⟩) ?_ ?_
                                    rotate_left
                                    · intro w'
                                      go_simp
                                      first | (simp only [hji66n]; first | done | with_reducible rfl) | with_reducible rfl | (simp only [hji66n]; rw [if_pos ⟨by omega, by have hc1_ := HC1.out; omega⟩]; first | done | with_reducible rfl) | (rw [if_pos ⟨by omega, by have hc1_ := HC1.out; omega⟩]; first | done | with_reducible rfl)
                                    rotate_left
                                    · simp only [Act.put, List.setIfInBounds_toArray, List.set_cons_zero, List.set_cons_succ, i64_w, i32_w]
                                      rfl
                                    refine pure_ (i := 1) (N := some 79) (v := ?_) (a' := ?_) #[true, true, false, false, false, false, false, false, false, false, false, false, false, false, false, false] rfl rfl (any_of HT_.out (by kernel_rfl)) (fun _ _ _ h => h) (Or.inl ⟨by rfl, ?_⟩) ?_ ?_
                                    rotate_left
                                    · intro w'
                                      go_simp
                                      first | (simp only [hji66n]; first | done | with_reducible rfl) | with_reducible rfl | (simp only [hji66n]; rw [if_pos ⟨by omega, by have hc1_ := HC1.out; omega⟩]; first | done | with_reducible rfl) | (rw [if_pos ⟨by omega, by have hc1_ := HC1.out; omega⟩]; first | done | with_reducible rfl)
                                    rotate_left
                                    · simp only [Act.put, List.setIfInBounds_toArray, List.set_cons_zero, List.set_cons_succ, i64_w, i32_w]
                                      rfl
                                    refine pure_ (i := 2) (N := some 80) (v := ?_) (a' := ?_) #[true, true, true, false, false, false, false, false, false, false, false, false, false, false, false, false] rfl rfl (any_of HT_.out (by kernel_rfl)) (fun _ _ _ h => h) (Or.inl ⟨by rfl, ?_⟩) ?_ ?_
                                    rotate_left
                                    · intro w'
                                      go_simp
                                      first | (simp only [hji66n]; first | done | with_reducible rfl) | with_reducible rfl | (simp only [hji66n]; rw [if_pos ⟨by omega, by have hc1_ := HC1.out; omega⟩]; first | done | with_reducible rfl) | (rw [if_pos ⟨by omega, by have hc1_ := HC1.out; omega⟩]; first | done | with_reducible rfl)
                                    rotate_left
                                    · simp only [Act.put, List.setIfInBounds_toArray, List.set_cons_zero, List.set_cons_succ, i64_w, i32_w]
                                      rfl
                                    refine pure_ (i := 3) (N := some 81) (v := ?_) (a' := ?_) #[true, true, true, true, false, false, false, false, false, false, false, false, false, false, false, false] rfl rfl (any_of HT_.out (by kernel_rfl)) (fun _ _ _ h => h) (Or.inl ⟨by rfl, ?_⟩) ?_ ?_
                                    rotate_left
                                    · intro w'
                                      go_simp
                                      first | (simp only [hji66n]; first | done | with_reducible rfl) | with_reducible rfl | (simp only [hji66n]; rw [if_pos ⟨by omega, by have hc1_ := HC1.out; omega⟩]; first | done | with_reducible rfl) | (rw [if_pos ⟨by omega, by have hc1_ := HC1.out; omega⟩]; first | done | with_reducible rfl)
                                    rotate_left
                                    · simp only [Act.put, List.setIfInBounds_toArray, List.set_cons_zero, List.set_cons_succ, i64_w, i32_w]
                                      rfl
                                    refine pure_ (i := 4) (N := some 82) (v := ?_) (a' := ?_) #[true, true, true, true, true, false, false, false, false, false, false, false, false, false, false, false] rfl rfl (any_of HT_.out (by kernel_rfl)) (fun _ _ _ h => h) (Or.inl ⟨by rfl, ?_⟩) ?_ ?_
                                    rotate_left
                                    · intro w'
                                      go_simp
                                      first | (simp only [hji66n]; first | done | with_reducible rfl) | with_reducible rfl | (simp only [hji66n]; rw [if_pos ⟨by omega, by have hc1_ := HC1.out; omega⟩]; first | done | with_reducible rfl) | (rw [if_pos ⟨by omega, by have hc1_ := HC1.out; omega⟩]; first | done | with_reducible rfl)
                                    rotate_left
                                    · simp only [Act.put, List.setIfInBounds_toArray, List.set_cons_zero, List.set_cons_succ, i64_w, i32_w]
                                      rfl
                                    refine pure_ (i := 5) (N := some 83) (v := ?_) (a' := ?_) #[true, true, true, true, true, true, false, false, false, false, false, false, false, false, false, false] rfl rfl (any_of HT_.out (by kernel_rfl)) (fun _ _ _ h => h) (Or.inl ⟨by rfl, ?_⟩) ?_ ?_
                                    rotate_left
                                    · intro w'
                                      go_simp
                                      first | (simp only [hji66n]; first | done | with_reducible rfl) | with_reducible rfl | (simp only [hji66n]; rw [if_pos ⟨by omega, by have hc1_ := HC1.out; omega⟩]; first | done | with_reducible rfl) | (rw [if_pos ⟨by omega, by have hc1_ := HC1.out; omega⟩]; first | done | with_reducible rfl)
                                    rotate_left
                                    · simp only [Act.put, List.setIfInBounds_toArray, List.set_cons_zero, List.set_cons_succ, i64_w, i32_w]
                                      rfl
                                    refine pure_ (i := 6) (N := some 84) (v := ?_) (a' := ?_) #[true, true, true, true, true, true, true, false, false, false, false, false, false, false, false, false] rfl rfl (any_of HT_.out (by kernel_rfl)) (fun _ _ _ h => h) (Or.inl ⟨by rfl, ?_⟩) ?_ ?_
                                    rotate_left
                                    · intro w'
                                      go_simp
                                      first | (simp only [hji66n]; first | done | with_reducible rfl) | with_reducible rfl | (simp only [hji66n]; rw [if_pos ⟨by omega, by have hc1_ := HC1.out; omega⟩]; first | done | with_reducible rfl) | (rw [if_pos ⟨by omega, by have hc1_ := HC1.out; omega⟩]; first | done | with_reducible rfl)
                                    rotate_left
                                    · simp only [Act.put, List.setIfInBounds_toArray, List.set_cons_zero, List.set_cons_succ, i64_w, i32_w]
                                      rfl
                                    refine pure_ (i := 7) (N := some 85) (v := ?_) (a' := ?_) #[true, true, true, true, true, true, true, true, false, false, false, false, false, false, false, false] rfl rfl (any_of HT_.out (by kernel_rfl)) (fun _ _ _ h => h) (Or.inl ⟨by rfl, ?_⟩) ?_ ?_
                                    rotate_left
                                    · intro w'
                                      go_simp
                                      first | (simp only [hji66n]; first | done | with_reducible rfl) | with_reducible rfl | (simp only [hji66n]; rw [if_pos ⟨by omega, by have hc1_ := HC1.out; omega⟩]; first | done | with_reducible rfl) | (rw [if_pos ⟨by omega, by have hc1_ := HC1.out; omega⟩]; first | done | with_reducible rfl)
                                    rotate_left
                                    · simp only [Act.put, List.setIfInBounds_toArray, List.set_cons_zero, List.set_cons_succ, i64_w, i32_w]
                                      rfl
                                    refine pure_ (i := 8) (N := some 86) (v := ?_) (a' := ?_) #[true, true, true, true, true, true, true, true, true, false, false, false, false, false, false, false] rfl rfl (any_of HT_.out (by kernel_rfl)) (fun _ _ _ h => h) (Or.inl ⟨by rfl, ?_⟩) ?_ ?_
                                    rotate_left
                                    · intro w'
                                      go_simp
                                      first | (simp only [hji66n]; first | done | with_reducible rfl) | with_reducible rfl | (simp only [hji66n]; rw [if_pos ⟨by omega, by have hc1_ := HC1.out; omega⟩]; first | done | with_reducible rfl) | (rw [if_pos ⟨by omega, by have hc1_ := HC1.out; omega⟩]; first | done | with_reducible rfl)
                                    rotate_left
                                    · simp only [Act.put, List.setIfInBounds_toArray, List.set_cons_zero, List.set_cons_succ, i64_w, i32_w]
                                      rfl
                                    refine pure_ (i := 9) (N := some 87) (v := ?_) (a' := ?_) #[true, true, true, true, true, true, true, true, true, true, false, false, false, false, false, false] rfl rfl (any_of HT_.out (by kernel_rfl)) (fun _ _ _ h => h) (Or.inl ⟨by rfl, ?_⟩) ?_ ?_
                                    rotate_left
                                    · intro w'
                                      go_simp
                                      first | (simp only [hji66n]; first | done | with_reducible rfl) | with_reducible rfl | (simp only [hji66n]; rw [if_pos ⟨by omega, by have hc1_ := HC1.out; omega⟩]; first | done | with_reducible rfl) | (rw [if_pos ⟨by omega, by have hc1_ := HC1.out; omega⟩]; first | done | with_reducible rfl)
                                    rotate_left
                                    · simp only [Act.put, List.setIfInBounds_toArray, List.set_cons_zero, List.set_cons_succ, i64_w, i32_w]
                                      rfl
                                    refine pure_ (i := 11) (N := some 89) (v := ?_) (a' := ?_) #[true, true, true, true, true, true, true, true, true, true, false, true, false, false, false, false] rfl rfl (any_of HT_.out (by kernel_rfl)) (fun _ _ _ h => h) (Or.inl ⟨by rfl, ?_⟩) ?_ ?_
                                    rotate_left
                                    · intro w'
                                      go_simp
                                      first | (simp only [hji66n]; first | done | with_reducible rfl) | with_reducible rfl | (simp only [hji66n]; rw [if_pos ⟨by omega, by have hc1_ := HC1.out; omega⟩]; first | done | with_reducible rfl) | (rw [if_pos ⟨by omega, by have hc1_ := HC1.out; omega⟩]; first | done | with_reducible rfl)
                                    rotate_left
                                    · simp only [Act.put, List.setIfInBounds_toArray, List.set_cons_zero, List.set_cons_succ, i64_w, i32_w]
                                      rfl
                                    refine take_ (i := 10) (N := some 88) (v := ?_) (a' := ?_) #[true, true, true, true, true, true, true, true, true, true, true, true, false, false, false, false] rfl rfl (take_ofW HT_.out HW_.out (by kernel_rfl)) (fun _ _ _ h => h) (Or.inl ⟨by rfl, ?_⟩) hHeld ?_ ?_
                                    rotate_left
                                    · rintro w' ⟨s0, s1⟩
                                      go_simp
                                      first | (simp only [hji66n]; first | done | with_reducible rfl) | with_reducible rfl | (simp only [hji66n]; rw [if_pos ⟨by omega, by have hc1_ := HC1.out; omega⟩]; first | done | with_reducible rfl) | (rw [if_pos ⟨by omega, by have hc1_ := HC1.out; omega⟩]; first | done | with_reducible rfl)
                                    rotate_left
                                    · simp only [Act.put, List.setIfInBounds_toArray, List.set_cons_zero, List.set_cons_succ, i64_w, i32_w]
                                      rfl
                                    refine take_ (i := 12) (N := some 90) (v := ?_) (a' := ?_) #[true, true, true, true, true, true, true, true, true, true, true, true, true, false, false, false] rfl rfl (take_ofW HT_.out HW_.out (by kernel_rfl)) (fun _ _ _ h => h) (Or.inl ⟨by rfl, ?_⟩) hHeld ?_ ?_
                                    rotate_left
                                    · rintro w' ⟨s0, s1⟩
                                      go_simp
                                      first | (simp only [hji66n]; first | done | with_reducible rfl) | with_reducible rfl | (simp only [hji66n]; rw [if_pos ⟨by omega, by have hc1_ := HC1.out; omega⟩]; first | done | with_reducible rfl) | (rw [if_pos ⟨by omega, by have hc1_ := HC1.out; omega⟩]; first | done | with_reducible rfl)
                                    rotate_left
                                    · simp only [Act.put, List.setIfInBounds_toArray, List.set_cons_zero, List.set_cons_succ, i64_w, i32_w]
                                      rfl
                                    refine pure_ (i := 13) (N := some 91) (v := ?_) (a' := ?_) #[true, true, true, true, true, true, true, true, true, true, true, true, true, true, false, false] rfl rfl (any_of HT_.out (by kernel_rfl)) (fun _ _ _ h => h) (Or.inl ⟨by rfl, ?_⟩) ?_ ?_
                                    rotate_left
                                    · intro w'
                                      go_simp
                                      first | (simp only [hji66n]; first | done | with_reducible rfl) | with_reducible rfl | (simp only [hji66n]; rw [if_pos ⟨by omega, by have hc1_ := HC1.out; omega⟩]; first | done | with_reducible rfl) | (rw [if_pos ⟨by omega, by have hc1_ := HC1.out; omega⟩]; first | done | with_reducible rfl)
                                    rotate_left
                                    · simp only [Act.put, List.setIfInBounds_toArray, List.set_cons_zero, List.set_cons_succ, i64_w, i32_w]
                                      rfl
                                    refine pure_ (i := 14) (N := some 92) (v := ?_) (a' := ?_) #[true, true, true, true, true, true, true, true, true, true, true, true, true, true, true, false] rfl rfl (any_of HT_.out (by kernel_rfl)) (fun _ _ _ h => h) (Or.inl ⟨by rfl, ?_⟩) ?_ ?_
                                    rotate_left
                                    · intro w'
                                      go_simp
                                      first | (simp only [hji66n]; first | done | with_reducible rfl) | with_reducible rfl | (simp only [hji66n]; rw [if_pos ⟨by omega, by have hc1_ := HC1.out; omega⟩]; first | done | with_reducible rfl) | (rw [if_pos ⟨by omega, by have hc1_ := HC1.out; omega⟩]; first | done | with_reducible rfl)
                                    rotate_left
                                    · simp only [Act.put, List.setIfInBounds_toArray, List.set_cons_zero, List.set_cons_succ, i64_w, i32_w]
                                      rfl
                                    refine pure_ (i := 15) (N := some 10) (v := ?_) (a' := ?_) #[true, true, true, true, true, true, true, true, true, true, true, true, true, true, true, true] rfl rfl (any_of HT_.out (by kernel_rfl)) (fun _ _ _ h => h) (Or.inl ⟨by rfl, ?_⟩) ?_ ?_
                                    rotate_left
                                    · intro w'
                                      go_simp
                                      first | (simp only [hji66n]; first | done | with_reducible rfl) | with_reducible rfl | (simp only [hji66n]; rw [if_pos ⟨by omega, by have hc1_ := HC1.out; omega⟩]; first | done | with_reducible rfl) | (rw [if_pos ⟨by omega, by have hc1_ := HC1.out; omega⟩]; first | done | with_reducible rfl)
                                    rotate_left
                                    · simp only [Act.put, List.setIfInBounds_toArray, List.set_cons_zero, List.set_cons_succ, i64_w, i32_w]
                                      rfl
                                    refine done_ (done_of HT_.out (by kernel_rfl)) ?_
                                    try go_wp2
                                    have n0_ := Aside0.mk (Kd.V_drew HO_6.out)
                                    have n1_ := Aside0.mk (Kd.V_drew HO_8.out)
                                    have n2_ := Aside0.mk (Kd.V_drew HO398.out)
                                    have n3_ := Aside0.mk (below_drew1 HB.out)
                                    clear HO_6
                                    clear HO_8
                                    clear HO398
                                    clear HB
                                    have HO_6 := n0_
                                    have HO_8 := n1_
                                    have HO398 := n2_
                                    have HB := n3_
                                    clear n0_ n1_ n2_ n3_
                                    have q76 : ((ji66) : Int) ≤ ((l1.length : Int) : Int) := of_decide_eq_true (by first | (with_reducible assumption) | assumption)
                                    obtain ⟨i076, hi076, _, hsz76, _⟩ := info_parts info31
                                    have hroom76 : l1.length ≤ c1 := HC1.out
                                    have hC76 : Kd.C k31 _ A1 l1.length l1 := HR1.out
                                    have hcut76 := cut_to (P := Tryd.prog) 26 31 .i64 Tryd.underlying26 hi076 A1 l1.length c1 (ji66) (of_decide_eq_true (by first | (with_reducible assumption) | assumption)) q76 hroom76
                                    have hr76 := Kd.C_take (m := ((ji66) : Int).toNat) hC76 (by omega)
                                    have hy76 : y402.length = ((ji66) : Int).toNat := (by rw [Ny402.out, List.length_take]; omega)
                                    rw [← Ny402.out] at hr76
                                    rw [← hy76] at hcut76
                                    have HR405 := Aside0.mk hr76
                                    have HC405 := Aside0.mk (show y402.length ≤ c1 from by omega)
                                    clear hr76 hC76 hroom76 hi076 hsz76
                                    have KY76 := Aside0.mk hy76
                                    clear hy76
                                    replace q76 := eq_true q76
                                    refine start_ (n := 21) (S := fun w' => True) (ds := []) #[false, false, false, false, false, false, false, false, false, false, false, false, false, false, false, false, false, false, false, false, false] (by kernel_rfl) rfl rfl trivial (fun hHeld => ?_); refine with_tabW rhizomelaw01_KeyOrders.tab13 rhizomelaw01_KeyOrders.bits13 (fun HT_ HW_ => ?_)
                                    generalize w71.drew = w75 at HO_6 HO_8 HO398 HB HR405 hHeld ⊢
                                    refine pure_ (i := 0) (N := some 93) (v := ?_) (a' := ?_) #[true, false, false, false, false, false, false, false, false, false, false, false, false, false, false, false, false, false, false, false, false] rfl rfl (any_of HT_.out (by kernel_rfl)) (fun _ _ _ h => h) (Or.inl ⟨by rfl, ?_⟩) ?_ ?_
                                    rotate_left
                                    · intro w'
                                      go_simp
                                      first | (simp only [hji66n]; first | done | with_reducible rfl) | with_reducible rfl | (simp only [hji66n]; rw [if_pos ⟨by omega, by have hc1_ := HC1.out; omega⟩]; first | done | with_reducible rfl) | (rw [if_pos ⟨by omega, by have hc1_ := HC1.out; omega⟩]; first | done | with_reducible rfl)
                                    rotate_left
                                    · simp only [Act.put, List.setIfInBounds_toArray, List.set_cons_zero, List.set_cons_succ, i64_w, i32_w]
                                      rfl
                                    refine pure_ (i := 1) (N := some 94) (v := ?_) (a' := ?_) #[true, true, false, false, false, false, false, false, false, false, false, false, false, false, false, false, false, false, false, false, false] rfl rfl (any_of HT_.out (by kernel_rfl)) (fun _ _ _ h => h) (Or.inl ⟨by rfl, ?_⟩) ?_ ?_
                                    rotate_left
                                    · intro w'
                                      go_simp
                                      first | (simp only [hji66n]; first | done | with_reducible rfl) | with_reducible rfl | (simp only [hji66n]; rw [if_pos ⟨by omega, by have hc1_ := HC1.out; omega⟩]; first | done | with_reducible rfl) | (rw [if_pos ⟨by omega, by have hc1_ := HC1.out; omega⟩]; first | done | with_reducible rfl)
                                    rotate_left
                                    · simp only [Act.put, List.setIfInBounds_toArray, List.set_cons_zero, List.set_cons_succ, i64_w, i32_w]
                                      rfl
                                    refine pure_ (i := 2) (N := some 95) (v := ?_) (a' := ?_) #[true, true, true, false, false, false, false, false, false, false, false, false, false, false, false, false, false, false, false, false, false] rfl rfl (any_of HT_.out (by kernel_rfl)) (fun _ _ _ h => h) (Or.inl ⟨by rfl, ?_⟩) ?_ ?_
                                    rotate_left
                                    · intro w'
                                      go_simp
                                      first | (simp only [hji66n]; first | done | with_reducible rfl) | with_reducible rfl | (simp only [hji66n]; rw [if_pos ⟨by omega, by have hc1_ := HC1.out; omega⟩]; first | done | with_reducible rfl) | (rw [if_pos ⟨by omega, by have hc1_ := HC1.out; omega⟩]; first | done | with_reducible rfl)
                                    rotate_left
                                    · simp only [Act.put, List.setIfInBounds_toArray, List.set_cons_zero, List.set_cons_succ, i64_w, i32_w]
                                      rfl
                                    refine pure_ (i := 3) (N := some 96) (v := ?_) (a' := ?_) #[true, true, true, true, false, false, false, false, false, false, false, false, false, false, false, false, false, false, false, false, false] rfl rfl (any_of HT_.out (by kernel_rfl)) (fun _ _ _ h => h) (Or.inl ⟨by rfl, ?_⟩) ?_ ?_
                                    rotate_left
                                    · intro w'
                                      go_simp
                                      first | (simp only [hji66n]; first | done | with_reducible rfl) | with_reducible rfl | (simp only [hji66n]; rw [if_pos ⟨by omega, by have hc1_ := HC1.out; omega⟩]; first | done | with_reducible rfl) | (rw [if_pos ⟨by omega, by have hc1_ := HC1.out; omega⟩]; first | done | with_reducible rfl)
                                    rotate_left
                                    · simp only [Act.put, List.setIfInBounds_toArray, List.set_cons_zero, List.set_cons_succ, i64_w, i32_w]
                                      rfl
                                    refine pure_ (i := 4) (N := some 97) (v := ?_) (a' := ?_) #[true, true, true, true, true, false, false, false, false, false, false, false, false, false, false, false, false, false, false, false, false] rfl rfl (any_of HT_.out (by kernel_rfl)) (fun _ _ _ h => h) (Or.inl ⟨by rfl, ?_⟩) ?_ ?_
                                    rotate_left
                                    · intro w'
                                      go_simp
                                      first | (simp only [hji66n]; first | done | with_reducible rfl) | with_reducible rfl | (simp only [hji66n]; rw [if_pos ⟨by omega, by have hc1_ := HC1.out; omega⟩]; first | done | with_reducible rfl) | (rw [if_pos ⟨by omega, by have hc1_ := HC1.out; omega⟩]; first | done | with_reducible rfl)
                                    rotate_left
                                    · simp only [Act.put, List.setIfInBounds_toArray, List.set_cons_zero, List.set_cons_succ, i64_w, i32_w]
                                      rfl
                                    refine pure_ (i := 5) (N := some 98) (v := ?_) (a' := ?_) #[true, true, true, true, true, true, false, false, false, false, false, false, false, false, false, false, false, false, false, false, false] rfl rfl (any_of HT_.out (by kernel_rfl)) (fun _ _ _ h => h) (Or.inl ⟨by rfl, ?_⟩) ?_ ?_
                                    rotate_left
                                    · intro w'
                                      go_simp
                                      first | (simp only [hji66n]; first | done | with_reducible rfl) | with_reducible rfl | (simp only [hji66n]; rw [if_pos ⟨by omega, by have hc1_ := HC1.out; omega⟩]; first | done | with_reducible rfl) | (rw [if_pos ⟨by omega, by have hc1_ := HC1.out; omega⟩]; first | done | with_reducible rfl)
                                    rotate_left
                                    · simp only [Act.put, List.setIfInBounds_toArray, List.set_cons_zero, List.set_cons_succ, i64_w, i32_w]
                                      rfl
                                    refine pure_ (i := 6) (N := some 99) (v := ?_) (a' := ?_) #[true, true, true, true, true, true, true, false, false, false, false, false, false, false, false, false, false, false, false, false, false] rfl rfl (any_of HT_.out (by kernel_rfl)) (fun _ _ _ h => h) (Or.inl ⟨by rfl, ?_⟩) ?_ ?_
                                    rotate_left
                                    · intro w'
                                      go_simp
                                      first | (simp only [hji66n]; first | done | with_reducible rfl) | with_reducible rfl | (simp only [hji66n]; rw [if_pos ⟨by omega, by have hc1_ := HC1.out; omega⟩]; first | done | with_reducible rfl) | (rw [if_pos ⟨by omega, by have hc1_ := HC1.out; omega⟩]; first | done | with_reducible rfl)
                                    rotate_left
                                    · simp only [Act.put, List.setIfInBounds_toArray, List.set_cons_zero, List.set_cons_succ, i64_w, i32_w]
                                      rfl
                                    refine pure_ (i := 7) (N := some 100) (v := ?_) (a' := ?_) #[true, true, true, true, true, true, true, true, false, false, false, false, false, false, false, false, false, false, false, false, false] rfl rfl (any_of HT_.out (by kernel_rfl)) (fun _ _ _ h => h) (Or.inl ⟨by rfl, ?_⟩) ?_ ?_
                                    rotate_left
                                    · intro w'
                                      go_simp
                                      first | (simp only [hji66n]; first | done | with_reducible rfl) | with_reducible rfl | (simp only [hji66n]; rw [if_pos ⟨by omega, by have hc1_ := HC1.out; omega⟩]; first | done | with_reducible rfl) | (rw [if_pos ⟨by omega, by have hc1_ := HC1.out; omega⟩]; first | done | with_reducible rfl)
                                    rotate_left
                                    · simp only [Act.put, List.setIfInBounds_toArray, List.set_cons_zero, List.set_cons_succ, i64_w, i32_w]
                                      rfl
                                    refine pure_ (i := 9) (N := some 102) (v := ?_) (a' := ?_) #[true, true, true, true, true, true, true, true, false, true, false, false, false, false, false, false, false, false, false, false, false] rfl rfl (any_of HT_.out (by kernel_rfl)) (fun _ _ _ h => h) (Or.inl ⟨by rfl, ?_⟩) ?_ ?_
                                    rotate_left
                                    · intro w'
                                      go_simp
                                      first | (simp only [hji66n]; first | done | with_reducible rfl) | with_reducible rfl | (simp only [hji66n]; rw [if_pos ⟨by omega, by have hc1_ := HC1.out; omega⟩]; first | done | with_reducible rfl) | (rw [if_pos ⟨by omega, by have hc1_ := HC1.out; omega⟩]; first | done | with_reducible rfl)
                                    rotate_left
                                    · simp only [Act.put, List.setIfInBounds_toArray, List.set_cons_zero, List.set_cons_succ, i64_w, i32_w]
                                      rfl
                                    refine pure_ (i := 10) (N := some 103) (v := ?_) (a' := ?_) #[true, true, true, true, true, true, true, true, false, true, true, false, false, false, false, false, false, false, false, false, false] rfl rfl (any_of HT_.out (by kernel_rfl)) (fun _ _ _ h => h) (Or.inl ⟨by rfl, ?_⟩) ?_ ?_
                                    rotate_left
                                    · intro w'
                                      go_simp
                                      first | (simp only [hji66n]; first | done | with_reducible rfl) | with_reducible rfl | (simp only [hji66n]; rw [if_pos ⟨by omega, by have hc1_ := HC1.out; omega⟩]; first | done | with_reducible rfl) | (rw [if_pos ⟨by omega, by have hc1_ := HC1.out; omega⟩]; first | done | with_reducible rfl)
                                    rotate_left
                                    · simp only [Act.put, List.setIfInBounds_toArray, List.set_cons_zero, List.set_cons_succ, i64_w, i32_w]
                                      rfl
                                    refine pure_ (i := 11) (N := some 104) (v := ?_) (a' := ?_) #[true, true, true, true, true, true, true, true, false, true, true, true, false, false, false, false, false, false, false, false, false] rfl rfl (any_of HT_.out (by kernel_rfl)) (fun _ _ _ h => h) (Or.inl ⟨by rfl, ?_⟩) ?_ ?_
                                    rotate_left
                                    · intro w'
                                      go_simp
                                      first | (simp only [hji66n]; first | done | with_reducible rfl) | with_reducible rfl | (simp only [hji66n]; rw [if_pos ⟨by omega, by have hc1_ := HC1.out; omega⟩]; first | done | with_reducible rfl) | (rw [if_pos ⟨by omega, by have hc1_ := HC1.out; omega⟩]; first | done | with_reducible rfl)
                                    rotate_left
                                    · simp only [Act.put, List.setIfInBounds_toArray, List.set_cons_zero, List.set_cons_succ, i64_w, i32_w]
                                      rfl
                                    refine pure_ (i := 12) (N := some 105) (v := ?_) (a' := ?_) #[true, true, true, true, true, true, true, true, false, true, true, true, true, false, false, false, false, false, false, false, false] rfl rfl (any_of HT_.out (by kernel_rfl)) (fun _ _ _ h => h) (Or.inl ⟨by rfl, ?_⟩) ?_ ?_
                                    rotate_left
                                    · intro w'
                                      go_simp
                                      first | (simp only [hji66n]; first | done | with_reducible rfl) | with_reducible rfl | (simp only [hji66n]; rw [if_pos ⟨by omega, by have hc1_ := HC1.out; omega⟩]; first | done | with_reducible rfl) | (rw [if_pos ⟨by omega, by have hc1_ := HC1.out; omega⟩]; first | done | with_reducible rfl)
                                    rotate_left
                                    · simp only [Act.put, List.setIfInBounds_toArray, List.set_cons_zero, List.set_cons_succ, i64_w, i32_w]
                                      rfl
                                    refine pure_ (i := 13) (N := some 106) (v := ?_) (a' := ?_) #[true, true, true, true, true, true, true, true, false, true, true, true, true, true, false, false, false, false, false, false, false] rfl rfl (any_of HT_.out (by kernel_rfl)) (fun _ _ _ h => h) (Or.inl ⟨by rfl, ?_⟩) ?_ ?_
                                    rotate_left
                                    · intro w'
                                      go_simp
                                      first | (simp only [hji66n]; first | done | with_reducible rfl) | with_reducible rfl | (simp only [hji66n]; rw [if_pos ⟨by omega, by have hc1_ := HC1.out; omega⟩]; first | done | with_reducible rfl) | (rw [if_pos ⟨by omega, by have hc1_ := HC1.out; omega⟩]; first | done | with_reducible rfl)
                                    rotate_left
                                    · simp only [Act.put, List.setIfInBounds_toArray, List.set_cons_zero, List.set_cons_succ, i64_w, i32_w]
                                      rfl
                                    refine pure_ (i := 14) (N := some 107) (v := ?_) (a' := ?_) #[true, true, true, true, true, true, true, true, false, true, true, true, true, true, true, false, false, false, false, false, false] rfl rfl (any_of HT_.out (by kernel_rfl)) (fun _ _ _ h => h) (Or.inl ⟨by rfl, ?_⟩) ?_ ?_
                                    rotate_left
                                    · intro w'
                                      go_simp
                                      first | (simp only [hji66n]; first | done | with_reducible rfl) | with_reducible rfl | (simp only [hji66n]; rw [if_pos ⟨by omega, by have hc1_ := HC1.out; omega⟩]; first | done | with_reducible rfl) | (rw [if_pos ⟨by omega, by have hc1_ := HC1.out; omega⟩]; first | done | with_reducible rfl)
                                    rotate_left
                                    · simp only [Act.put, List.setIfInBounds_toArray, List.set_cons_zero, List.set_cons_succ, i64_w, i32_w]
                                      rfl
                                    refine pure_ (i := 15) (N := some 108) (v := ?_) (a' := ?_) #[true, true, true, true, true, true, true, true, false, true, true, true, true, true, true, true, false, false, false, false, false] rfl rfl (any_of HT_.out (by kernel_rfl)) (fun _ _ _ h => h) (Or.inl ⟨by rfl, ?_⟩) ?_ ?_
                                    rotate_left
                                    · intro w'
                                      go_simp
                                      first | (simp only [hji66n]; first | done | with_reducible rfl) | with_reducible rfl | (simp only [hji66n]; rw [if_pos ⟨by omega, by have hc1_ := HC1.out; omega⟩]; first | done | with_reducible rfl) | (rw [if_pos ⟨by omega, by have hc1_ := HC1.out; omega⟩]; first | done | with_reducible rfl)
                                    rotate_left
                                    · simp only [Act.put, List.setIfInBounds_toArray, List.set_cons_zero, List.set_cons_succ, i64_w, i32_w]
                                      rfl
                                    refine one_ (i := 8) (N := some 101) #[true, true, true, true, true, true, true, true, true, true, true, true, true, true, true, true, false, false, false, false, false] rfl rfl (one_of HT_.out (by kernel_rfl)) (by decide) (fun K hK => ?_)
                                    refine goes_ Tryd.func20 (by kernel_rfl) rfl #[.slice A0 l0.length c0] (by rfl) rfl rfl (by (try simp only [List.map_toArray, List.map_cons, List.map_nil]); first | done | rfl | (simp only [List.length_drop, List.length_take]; rfl)) ?_
                                    with_reducible refine (rhizomelaw01_Ref.calls _ _ l0 t399 _ ?side1 ?side2 A65.out).mono ?_
                                    (case side1 => repeat (first | exact (Kd.C_below HR0.out HB.out) | (with_reducible refine Kd.C_alloc ?_ _) | (with_reducible refine Kd.C_drewN ?_ _) | (with_reducible refine Kd.C_drew ?_)))
                                    (case side2 => exact HC0.out)
                                    rintro e w77 ⟨v400, rfl, ho0, hb⟩
                                    refine ⟨_, rfl, ?_⟩
                                    have n0_ := Aside0.mk (Kd.V_elder' (by (with_reducible repeat (first | apply Kd.V_alloc | apply Kd.V_drewN | apply Kd.V_drew)); exact HO_6.out) (Kd.R_base ho0) hb)
                                    have n1_ := Aside0.mk (Kd.V_elder' (by (with_reducible repeat (first | apply Kd.V_alloc | apply Kd.V_drewN | apply Kd.V_drew)); exact HO_8.out) (Kd.R_base ho0) hb)
                                    have n2_ := Aside0.mk (Kd.V_elder' (by (with_reducible repeat (first | apply Kd.V_alloc | apply Kd.V_drewN | apply Kd.V_drew)); exact HO398.out) (Kd.R_base ho0) hb)
                                    have n3_ := Aside0.mk (Kd.R_lower ho0 (below_size (by repeat (first | (with_reducible first | exact HB.out | apply below_alloc | apply pw_below_drewN | apply below_drew1) | exact HB.out))))
                                    have n4_ := Aside0.mk (below_step (by repeat (first | (with_reducible first | exact HB.out | apply below_alloc | apply pw_below_drewN | apply below_drew1) | exact HB.out)) hb)
                                    clear HO_6
                                    clear HO_8
                                    clear HO398
                                    clear HB
                                    have HO_6 := n0_
                                    have HO_8 := n1_
                                    have HO398 := n2_
                                    have HO401 := n3_
                                    have HB := n4_
                                    clear n0_ n1_ n2_ n3_ n4_
                                    (try clear hb)
                                    (try clear hb2)
                                    (try clear hk)
                                    (try clear hi)
                                    (try clear ho0)
                                    refine hK.out _ _ trivial (fun hHeld => ?_)
                                    clear hK K
                                    refine norm_ (a' := ?_) ?_ ?_
                                    rotate_left
                                    · show Act.put _ (some 101) _ = _
                                      simp only [Act.put, List.setIfInBounds_toArray, List.set_cons_zero, List.set_cons_succ, i64_w, i32_w]
                                      rfl
                                    refine one_ (i := 16) (N := some 109) #[true, true, true, true, true, true, true, true, true, true, true, true, true, true, true, true, true, false, false, false, false] rfl rfl (one_of HT_.out (by kernel_rfl)) (by decide) (fun K hK => ?_)
                                    refine goes_ Tryd.func20 (by kernel_rfl) rfl #[.slice A1 y402.length c1] (by rfl) rfl rfl (by (try simp only [List.map_toArray, List.map_cons, List.map_nil]); first | done | rfl | (simp only [List.length_drop, List.length_take]; rfl) | (simp only [KY76.out]; rfl)) ?_
                                    with_reducible refine (rhizomelaw01_Ref.calls _ _ y402 t406 _ ?side1 ?side2 A69.out).mono ?_
                                    (case side1 => repeat (first | exact (Kd.C_below HR405.out HB.out) | (with_reducible refine Kd.C_alloc ?_ _) | (with_reducible refine Kd.C_drewN ?_ _) | (with_reducible refine Kd.C_drew ?_)))
                                    (case side2 => exact HC405.out)
                                    rintro e w78 ⟨v407, rfl, ho0, hb⟩
                                    refine ⟨_, rfl, ?_⟩
                                    have n0_ := Aside0.mk (Kd.V_elder' (by (with_reducible repeat (first | apply Kd.V_alloc | apply Kd.V_drewN | apply Kd.V_drew)); exact HO_6.out) (Kd.R_base ho0) hb)
                                    have n1_ := Aside0.mk (Kd.V_elder' (by (with_reducible repeat (first | apply Kd.V_alloc | apply Kd.V_drewN | apply Kd.V_drew)); exact HO_8.out) (Kd.R_base ho0) hb)
                                    have n2_ := Aside0.mk (Kd.V_elder' (by (with_reducible repeat (first | apply Kd.V_alloc | apply Kd.V_drewN | apply Kd.V_drew)); exact HO398.out) (Kd.R_base ho0) hb)
                                    have n3_ := Aside0.mk (Kd.R_elder' (by (with_reducible repeat (first | apply Kd.R_alloc | apply Kd.R_drewN | apply Kd.R_drew)); exact HO401.out) (Kd.R_base ho0) hb)
                                    have n4_ := Aside0.mk (Kd.R_lower (Kd.R_new' ho0 (Kd.R_lt (by (with_reducible repeat (first | apply Kd.R_alloc | apply Kd.R_drewN | apply Kd.R_drew)); exact HO401.out))) (below_size (by repeat (first | (with_reducible first | exact HB.out | apply below_alloc | apply pw_below_drewN | apply below_drew1) | exact HB.out))))
                                    have n5_ := Aside0.mk (below_step (by repeat (first | (with_reducible first | exact HB.out | apply below_alloc | apply pw_below_drewN | apply below_drew1) | exact HB.out)) hb)
                                    clear HO_6
                                    clear HO_8
                                    clear HO398
                                    clear HO401
                                    clear HB
                                    have HO_6 := n0_
                                    have HO_8 := n1_
                                    have HO398 := n2_
                                    have HO401 := n3_
                                    have HO408 := n4_
                                    have HB := n5_
                                    clear n0_ n1_ n2_ n3_ n4_ n5_
                                    (try clear hb)
                                    (try clear hb2)
                                    (try clear hk)
                                    (try clear hi)
                                    (try clear ho0)
                                    obtain ⟨Ao79, co79, eo79⟩ := Kd.R_slice HO401.out
                                    (first | subst eo79 | (injection eo79 with f1_ f2_ f3_; have f4_ := f1_.symm; have f5_ := f3_.symm; clear f1_ f2_ f3_; subst f4_; subst f5_))
                                    obtain ⟨Ao80, co80, eo80⟩ := Kd.R_slice HO408.out
                                    (first | subst eo80 | (injection eo80 with f1_ f2_ f3_; have f4_ := f1_.symm; have f5_ := f3_.symm; clear f1_ f2_ f3_; subst f4_; subst f5_))
                                    refine hK.out _ _ trivial (fun hHeld => ?_)
                                    clear hK K
                                    refine norm_ (a' := ?_) ?_ ?_
                                    rotate_left
                                    · show Act.put _ (some 109) _ = _
                                      simp only [Act.put, List.setIfInBounds_toArray, List.set_cons_zero, List.set_cons_succ, i64_w, i32_w]
                                      rfl
                                    refine one_ (i := 17) (N := some 110) #[true, true, true, true, true, true, true, true, true, true, true, true, true, true, true, true, true, true, false, false, false] rfl rfl (one_of HT_.out (by kernel_rfl)) (by decide) (fun K hK => ?_)
                                    refine goes_ Tryd.func23 (by kernel_rfl) rfl #[.slice Ao79 t399.length co79, .slice Ao80 t406.length co80] (by rfl) rfl rfl (by (try simp only [List.map_toArray, List.map_cons, List.map_nil]); first | done | rfl | (simp only [List.length_drop, List.length_take]; rfl)) ?_
                                    with_reducible refine (rhizomeref01_Same.calls kj47 _ _ t399 _ _ t406 t409 _ ?side1 ?side2 ?side3 ?side4 A70.out).mono ?_
                                    (case side1 => repeat (first | exact (Kd.R_reads' HO401.out).2.2 | (with_reducible refine Kd.C_alloc ?_ _) | (with_reducible refine Kd.C_drewN ?_ _) | (with_reducible refine Kd.C_drew ?_)))
                                    (case side2 => exact (Kd.R_reads' HO401.out).2.1)
                                    (case side3 => repeat (first | exact (Kd.R_reads' HO408.out).2.2 | (with_reducible refine Kd.C_alloc ?_ _) | (with_reducible refine Kd.C_drewN ?_ _) | (with_reducible refine Kd.C_drew ?_)))
                                    (case side4 => exact (Kd.R_reads' HO408.out).2.1)
                                    rintro e w81 ⟨rfl, hb⟩
                                    refine ⟨_, rfl, ?_⟩
                                    have n0_ := Aside0.mk (Kd.V_below (by (with_reducible repeat (first | apply Kd.V_alloc | apply Kd.V_drewN | apply Kd.V_drew)); exact HO_6.out) hb)
                                    have n1_ := Aside0.mk (Kd.V_below (by (with_reducible repeat (first | apply Kd.V_alloc | apply Kd.V_drewN | apply Kd.V_drew)); exact HO_8.out) hb)
                                    have n2_ := Aside0.mk (Kd.V_below (by (with_reducible repeat (first | apply Kd.V_alloc | apply Kd.V_drewN | apply Kd.V_drew)); exact HO398.out) hb)
                                    have n3_ := Aside0.mk (Kd.R_below (by (with_reducible repeat (first | apply Kd.R_alloc | apply Kd.R_drewN | apply Kd.R_drew)); exact HO401.out) hb)
                                    have n4_ := Aside0.mk (Kd.R_below (by (with_reducible repeat (first | apply Kd.R_alloc | apply Kd.R_drewN | apply Kd.R_drew)); exact HO408.out) hb)
                                    have n5_ := Aside0.mk (below_step (by repeat (first | (with_reducible first | exact HB.out | apply below_alloc | apply pw_below_drewN | apply below_drew1) | exact HB.out)) hb)
                                    clear HO_6
                                    clear HO_8
                                    clear HO398
                                    clear HO401
                                    clear HO408
                                    clear HB
                                    have HO_6 := n0_
                                    have HO_8 := n1_
                                    have HO398 := n2_
                                    have HO401 := n3_
                                    have HO408 := n4_
                                    have HB := n5_
                                    clear n0_ n1_ n2_ n3_ n4_ n5_
                                    (try clear hb)
                                    (try clear hb2)
                                    (try clear hk)
                                    (try clear hi)
                                    refine hK.out _ _ trivial (fun hHeld => ?_)
                                    clear hK K
                                    refine norm_ (a' := ?_) ?_ ?_
                                    rotate_left
                                    · show Act.put _ (some 110) _ = _
                                      simp only [Act.put, List.setIfInBounds_toArray, List.set_cons_zero, List.set_cons_succ, i64_w, i32_w]
                                      rfl
                                    refine pure_ (i := 18) (N := some 111) (v := ?_) (a' := ?_) #[true, true, true, true, true, true, true, true, true, true, true, true, true, true, true, true, true, true, true, false, false] rfl rfl (any_of HT_.out (by kernel_rfl)) (fun _ _ _ h => h) (Or.inl ⟨by rfl, ?_⟩) ?_ ?_
                                    rotate_left
                                    · intro w'
                                      go_simp
                                      first | (simp only [hji66n]; first | done | with_reducible rfl) | with_reducible rfl | (simp only [hji66n]; rw [if_pos ⟨by omega, by have hc1_ := HC1.out; omega⟩]; first | done | with_reducible rfl) | (rw [if_pos ⟨by omega, by have hc1_ := HC1.out; omega⟩]; first | done | with_reducible rfl)
                                    rotate_left
                                    · simp only [Act.put, List.setIfInBounds_toArray, List.set_cons_zero, List.set_cons_succ, i64_w, i32_w]
                                      rfl
                                    refine pure_ (i := 19) (N := some 112) (v := ?_) (a' := ?_) #[true, true, true, true, true, true, true, true, true, true, true, true, true, true, true, true, true, true, true, true, false] rfl rfl (any_of HT_.out (by kernel_rfl)) (fun _ _ _ h => h) (Or.inl ⟨by rfl, ?_⟩) ?_ ?_
                                    rotate_left
                                    · intro w'
                                      go_simp
                                      first | (simp only [hji66n]; first | done | with_reducible rfl) | with_reducible rfl | (simp only [hji66n]; rw [if_pos ⟨by omega, by have hc1_ := HC1.out; omega⟩]; first | done | with_reducible rfl) | (rw [if_pos ⟨by omega, by have hc1_ := HC1.out; omega⟩]; first | done | with_reducible rfl)
                                    rotate_left
                                    · simp only [Act.put, List.setIfInBounds_toArray, List.set_cons_zero, List.set_cons_succ, i64_w, i32_w]
                                      rfl
                                    refine pure_ (i := 20) (N := some 4) (v := ?_) (a' := ?_) #[true, true, true, true, true, true, true, true, true, true, true, true, true, true, true, true, true, true, true, true, true] rfl rfl (any_of HT_.out (by kernel_rfl)) (fun _ _ _ h => h) (Or.inl ⟨by rfl, ?_⟩) ?_ ?_
                                    rotate_left
                                    · intro w'
                                      go_simp
                                      first | (simp only [hji66n]; first | done | with_reducible rfl) | with_reducible rfl | (simp only [hji66n]; rw [if_pos ⟨by omega, by have hc1_ := HC1.out; omega⟩]; first | done | with_reducible rfl) | (rw [if_pos ⟨by omega, by have hc1_ := HC1.out; omega⟩]; first | done | with_reducible rfl)
                                    rotate_left
                                    · simp only [Act.put, List.setIfInBounds_toArray, List.set_cons_zero, List.set_cons_succ, i64_w, i32_w]
                                      rfl
                                    refine done_ (done_of HT_.out (by kernel_rfl)) ?_
                                    try go_wp2
                                    go_ret
                                    exact ⟨by first | rfl | (simp [errW_none, errW_some] <;> rfl) | (simp only [← hji66]; first | rfl | (simp [errW_none, errW_some] <;> rfl)) | (simp [*, errW_none, errW_some] <;> rfl), by repeat (first | (with_reducible first | exact HB.out | apply below_alloc | apply pw_below_drewN | apply below_drew1) | exact HB.out)⟩
                                  · rw [if_neg c68] at H
                                    exact absurd H (by simp)
                                · rw [if_neg c67] at H
                                  exact absurd H (by simp)
                              · rw [if_neg c64] at H
                                have c64b0 : decide ((l0.length : Int) ≤ (l1.length : Int)) = false := decide_eq_false c64
                                have c64b1 : decide (l0.length ≤ l1.length) = false := decide_eq_false (fun h => c64 (Int.ofNat_le.mpr h))
                                clear c64
                                obtain rfl := Option.some.inj H
                                try go_wp2
                                have n0_ := Aside0.mk (Kd.V_drew HO_6.out)
                                have n1_ := Aside0.mk (Kd.V_drew HO_8.out)
                                have n2_ := Aside0.mk (below_drew1 HB.out)
                                clear HO_6
                                clear HO_8
                                clear HB
                                have HO_6 := n0_
                                have HO_8 := n1_
                                have HB := n2_
                                clear n0_ n1_ n2_
                                obtain ⟨Ao83, co83, eo83⟩ := Kd.V_slice HO_6.out
                                (first | subst eo83 | (injection eo83 with f1_ f2_ f3_; have f4_ := f1_.symm; have f5_ := f3_.symm; clear f1_ f2_ f3_; subst f4_; subst f5_))
                                obtain ⟨Ao84, co84, eo84⟩ := Kd.V_slice HO_8.out
                                (first | subst eo84 | (injection eo84 with f1_ f2_ f3_; have f4_ := f1_.symm; have f5_ := f3_.symm; clear f1_ f2_ f3_; subst f4_; subst f5_))
                                have q85 : ((t386.length : Int) : Int) ≤ ((t390.length : Int) : Int) := of_decide_eq_true (by first | (with_reducible assumption) | assumption)
                                obtain ⟨i085, hi085, _, hsz85, _⟩ := info_parts info5
                                have hroom85 : t390.length ≤ co84 := (Kd.V_reads' HO_8.out).2.1
                                have hC85 : Kd.F (Kd.int .u8) _ _ Ao84 t390.length t390 := (Kd.V_at (base := w.heap.size) HO_8.out).2.2
                                have hcut85 := cut_to (P := Tryd.prog) 22 5 .i64 Tryd.underlying22 hi085 Ao84 t390.length co84 (t386.length : Int) (of_decide_eq_true (by first | (with_reducible assumption) | assumption)) q85 hroom85
                                have hr85 := Kd.F_take (m := ((t386.length : Int) : Int).toNat) hC85 (by omega)
                                have hy85 : y394.length = ((t386.length : Int) : Int).toNat := (by rw [Ny394.out, List.length_take]; omega)
                                rw [← Ny394.out] at hr85
                                rw [← hy85] at hcut85
                                have HO398 := Aside0.mk (show Kd.V (Kd.int .u8) 5 _ w.heap.size _ (.slice Ao84 y394.length co84) y394 from Kd.V_mk (by omega) hr85)
                                have HC398 := Aside0.mk (show y394.length ≤ co84 from by omega)
                                clear hr85 hC85 hroom85 hi085 hsz85
                                have KY85 := Aside0.mk hy85
                                clear hy85
                                replace q85 := eq_true q85
                                refine start_ (n := 16) (S := fun w' => (convert 22 9 (.slice Ao84 y394.length co84)).run Tryd.prog w' = .ok (.string (strOfNums y394)) w' ∧ (convert 22 9 (.slice Ao83 t386.length co83)).run Tryd.prog w' = .ok (.string (strOfNums t386)) w') (ds := []) #[false, false, false, false, false, false, false, false, false, false, false, false, false, false, false, false] (by kernel_rfl) rfl rfl ⟨(Kd.C_string (P := Tryd.prog) (A := Ao84) (c := co84) Tryd.underlying22 Tryd.underlying5 Tryd.underlying9 (Kd.V_reads' HO398.out).2.2), (Kd.C_string (P := Tryd.prog) (A := Ao83) (c := co83) Tryd.underlying22 Tryd.underlying5 Tryd.underlying9 (Kd.V_reads' HO_6.out).2.2)⟩ (fun hHeld => ?_); refine with_tabW rhizomelaw01_KeyOrders.tab12 rhizomelaw01_KeyOrders.bits12 (fun HT_ HW_ => ?_)
                                generalize wc.drew = w82 at HO_6 HO_8 HB HO398 hHeld ⊢
                                refine pure_ (i := 0) (N := some 78) (v := ?_) (a' := ?_) #[true, false, false, false, false, false, false, false, false, false, false, false, false, false, false, false] rfl rfl (any_of HT_.out (by kernel_rfl)) (fun _ _ _ h => h) (Or.inl ⟨by rfl, ?_⟩) ?_ ?_
                                rotate_left
                                · intro w'
                                  go_simp
                                  first | (simp only [hji66n]; first | done | with_reducible rfl) | with_reducible rfl | (simp only [hji66n]; rw [if_pos ⟨by omega, by have hc1_ := HC1.out; omega⟩]; first | done | with_reducible rfl) | (rw [if_pos ⟨by omega, by have hc1_ := HC1.out; omega⟩]; first | done | with_reducible rfl)
                                rotate_left
                                · simp only [Act.put, List.setIfInBounds_toArray, List.set_cons_zero, List.set_cons_succ, i64_w, i32_w]
                                  rfl
                                refine pure_ (i := 1) (N := some 79) (v := ?_) (a' := ?_) #[true, true, false, false, false, false, false, false, false, false, false, false, false, false, false, false] rfl rfl (any_of HT_.out (by kernel_rfl)) (fun _ _ _ h => h) (Or.inl ⟨by rfl, ?_⟩) ?_ ?_
                                rotate_left
                                · intro w'
                                  go_simp
                                  first | (simp only [hji66n]; first | done | with_reducible rfl) | with_reducible rfl | (simp only [hji66n]; rw [if_pos ⟨by omega, by have hc1_ := HC1.out; omega⟩]; first | done | with_reducible rfl) | (rw [if_pos ⟨by omega, by have hc1_ := HC1.out; omega⟩]; first | done | with_reducible rfl)
                                rotate_left
                                · simp only [Act.put, List.setIfInBounds_toArray, List.set_cons_zero, List.set_cons_succ, i64_w, i32_w]
                                  rfl
                                refine pure_ (i := 2) (N := some 80) (v := ?_) (a' := ?_) #[true, true, true, false, false, false, false, false, false, false, false, false, false, false, false, false] rfl rfl (any_of HT_.out (by kernel_rfl)) (fun _ _ _ h => h) (Or.inl ⟨by rfl, ?_⟩) ?_ ?_
                                rotate_left
                                · intro w'
                                  go_simp
                                  first | (simp only [hji66n]; first | done | with_reducible rfl) | with_reducible rfl | (simp only [hji66n]; rw [if_pos ⟨by omega, by have hc1_ := HC1.out; omega⟩]; first | done | with_reducible rfl) | (rw [if_pos ⟨by omega, by have hc1_ := HC1.out; omega⟩]; first | done | with_reducible rfl)
                                rotate_left
                                · simp only [Act.put, List.setIfInBounds_toArray, List.set_cons_zero, List.set_cons_succ, i64_w, i32_w]
                                  rfl
                                refine pure_ (i := 3) (N := some 81) (v := ?_) (a' := ?_) #[true, true, true, true, false, false, false, false, false, false, false, false, false, false, false, false] rfl rfl (any_of HT_.out (by kernel_rfl)) (fun _ _ _ h => h) (Or.inl ⟨by rfl, ?_⟩) ?_ ?_
                                rotate_left
                                · intro w'
                                  go_simp
                                  first | (simp only [hji66n]; first | done | with_reducible rfl) | with_reducible rfl | (simp only [hji66n]; rw [if_pos ⟨by omega, by have hc1_ := HC1.out; omega⟩]; first | done | with_reducible rfl) | (rw [if_pos ⟨by omega, by have hc1_ := HC1.out; omega⟩]; first | done | with_reducible rfl)
                                rotate_left
                                · simp only [Act.put, List.setIfInBounds_toArray, List.set_cons_zero, List.set_cons_succ, i64_w, i32_w]
                                  rfl
                                refine pure_ (i := 4) (N := some 82) (v := ?_) (a' := ?_) #[true, true, true, true, true, false, false, false, false, false, false, false, false, false, false, false] rfl rfl (any_of HT_.out (by kernel_rfl)) (fun _ _ _ h => h) (Or.inl ⟨by rfl, ?_⟩) ?_ ?_
                                rotate_left
                                · intro w'
                                  go_simp
                                  first | (simp only [hji66n]; first | done | with_reducible rfl) | with_reducible rfl | (simp only [hji66n]; rw [if_pos ⟨by omega, by have hc1_ := HC1.out; omega⟩]; first | done | with_reducible rfl) | (rw [if_pos ⟨by omega, by have hc1_ := HC1.out; omega⟩]; first | done | with_reducible rfl)
                                rotate_left
                                · simp only [Act.put, List.setIfInBounds_toArray, List.set_cons_zero, List.set_cons_succ, i64_w, i32_w]
                                  rfl
                                refine pure_ (i := 5) (N := some 83) (v := ?_) (a' := ?_) #[true, true, true, true, true, true, false, false, false, false, false, false, false, false, false, false] rfl rfl (any_of HT_.out (by kernel_rfl)) (fun _ _ _ h => h) (Or.inl ⟨by rfl, ?_⟩) ?_ ?_
                                rotate_left
                                · intro w'
                                  go_simp
                                  first | (simp only [hji66n]; first | done | with_reducible rfl) | with_reducible rfl | (simp only [hji66n]; rw [if_pos ⟨by omega, by have hc1_ := HC1.out; omega⟩]; first | done | with_reducible rfl) | (rw [if_pos ⟨by omega, by have hc1_ := HC1.out; omega⟩]; first | done | with_reducible rfl)
                                rotate_left
                                · simp only [Act.put, List.setIfInBounds_toArray, List.set_cons_zero, List.set_cons_succ, i64_w, i32_w]
                                  rfl
                                refine pure_ (i := 6) (N := some 84) (v := ?_) (a' := ?_) #[true, true, true, true, true, true, true, false, false, false, false, false, false, false, false, false] rfl rfl (any_of HT_.out (by kernel_rfl)) (fun _ _ _ h => h) (Or.inl ⟨by rfl, ?_⟩) ?_ ?_
                                rotate_left
                                · intro w'
                                  go_simp
                                  first | (simp only [hji66n]; first | done | with_reducible rfl) | with_reducible rfl | (simp only [hji66n]; rw [if_pos ⟨by omega, by have hc1_ := HC1.out; omega⟩]; first | done | with_reducible rfl) | (rw [if_pos ⟨by omega, by have hc1_ := HC1.out; omega⟩]; first | done | with_reducible rfl)
                                rotate_left
                                · simp only [Act.put, List.setIfInBounds_toArray, List.set_cons_zero, List.set_cons_succ, i64_w, i32_w]
                                  rfl
                                refine pure_ (i := 7) (N := some 85) (v := ?_) (a' := ?_) #[true, true, true, true, true, true, true, true, false, false, false, false, false, false, false, false] rfl rfl (any_of HT_.out (by kernel_rfl)) (fun _ _ _ h => h) (Or.inl ⟨by rfl, ?_⟩) ?_ ?_
                                rotate_left
                                · intro w'
                                  go_simp
                                  first | (simp only [hji66n]; first | done | with_reducible rfl) | with_reducible rfl | (simp only [hji66n]; rw [if_pos ⟨by omega, by have hc1_ := HC1.out; omega⟩]; first | done | with_reducible rfl) | (rw [if_pos ⟨by omega, by have hc1_ := HC1.out; omega⟩]; first | done | with_reducible rfl)
                                rotate_left
                                · simp only [Act.put, List.setIfInBounds_toArray, List.set_cons_zero, List.set_cons_succ, i64_w, i32_w]
                                  rfl
                                refine pure_ (i := 8) (N := some 86) (v := ?_) (a' := ?_) #[true, true, true, true, true, true, true, true, true, false, false, false, false, false, false, false] rfl rfl (any_of HT_.out (by kernel_rfl)) (fun _ _ _ h => h) (Or.inl ⟨by rfl, ?_⟩) ?_ ?_
                                rotate_left
                                · intro w'
                                  go_simp
                                  first | (simp only [hji66n]; first | done | with_reducible rfl) | with_reducible rfl | (simp only [hji66n]; rw [if_pos ⟨by omega, by have hc1_ := HC1.out; omega⟩]; first | done | with_reducible rfl) | (rw [if_pos ⟨by omega, by have hc1_ := HC1.out; omega⟩]; first | done | with_reducible rfl)
                                rotate_left
                                · simp only [Act.put, List.setIfInBounds_toArray, List.set_cons_zero, List.set_cons_succ, i64_w, i32_w]
                                  rfl
                                refine pure_ (i := 9) (N := some 87) (v := ?_) (a' := ?_) #[true, true, true, true, true, true, true, true, true, true, false, false, false, false, false, false] rfl rfl (any_of HT_.out (by kernel_rfl)) (fun _ _ _ h => h) (Or.inl ⟨by rfl, ?_⟩) ?_ ?_
                                rotate_left
                                · intro w'
                                  go_simp
                                  first | (simp only [hji66n]; first | done | with_reducible rfl) | with_reducible rfl | (simp only [hji66n]; rw [if_pos ⟨by omega, by have hc1_ := HC1.out; omega⟩]; first | done | with_reducible rfl) | (rw [if_pos ⟨by omega, by have hc1_ := HC1.out; omega⟩]; first | done | with_reducible rfl)
                                rotate_left
                                · simp only [Act.put, List.setIfInBounds_toArray, List.set_cons_zero, List.set_cons_succ, i64_w, i32_w]
                                  rfl
                                refine pure_ (i := 11) (N := some 89) (v := ?_) (a' := ?_) #[true, true, true, true, true, true, true, true, true, true, false, true, false, false, false, false] rfl rfl (any_of HT_.out (by kernel_rfl)) (fun _ _ _ h => h) (Or.inl ⟨by rfl, ?_⟩) ?_ ?_
                                rotate_left
                                · intro w'
                                  go_simp
                                  first | (simp only [hji66n]; first | done | with_reducible rfl) | with_reducible rfl | (simp only [hji66n]; rw [if_pos ⟨by omega, by have hc1_ := HC1.out; omega⟩]; first | done | with_reducible rfl) | (rw [if_pos ⟨by omega, by have hc1_ := HC1.out; omega⟩]; first | done | with_reducible rfl)
                                rotate_left
                                · simp only [Act.put, List.setIfInBounds_toArray, List.set_cons_zero, List.set_cons_succ, i64_w, i32_w]
                                  rfl
                                refine take_ (i := 10) (N := some 88) (v := ?_) (a' := ?_) #[true, true, true, true, true, true, true, true, true, true, true, true, false, false, false, false] rfl rfl (take_ofW HT_.out HW_.out (by kernel_rfl)) (fun _ _ _ h => h) (Or.inl ⟨by rfl, ?_⟩) hHeld ?_ ?_
                                rotate_left
                                · rintro w' ⟨s0, s1⟩
                                  go_simp
                                  first | (simp only [hji66n]; first | done | with_reducible rfl) | with_reducible rfl | (simp only [hji66n]; rw [if_pos ⟨by omega, by have hc1_ := HC1.out; omega⟩]; first | done | with_reducible rfl) | (rw [if_pos ⟨by omega, by have hc1_ := HC1.out; omega⟩]; first | done | with_reducible rfl)
                                rotate_left
                                · simp only [Act.put, List.setIfInBounds_toArray, List.set_cons_zero, List.set_cons_succ, i64_w, i32_w]
                                  rfl
                                refine take_ (i := 12) (N := some 90) (v := ?_) (a' := ?_) #[true, true, true, true, true, true, true, true, true, true, true, true, true, false, false, false] rfl rfl (take_ofW HT_.out HW_.out (by kernel_rfl)) (fun _ _ _ h => h) (Or.inl ⟨by rfl, ?_⟩) hHeld ?_ ?_
                                rotate_left
                                · rintro w' ⟨s0, s1⟩
                                  go_simp
                                  first | (simp only [hji66n]; first | done | with_reducible rfl) | with_reducible rfl | (simp only [hji66n]; rw [if_pos ⟨by omega, by have hc1_ := HC1.out; omega⟩]; first | done | with_reducible rfl) | (rw [if_pos ⟨by omega, by have hc1_ := HC1.out; omega⟩]; first | done | with_reducible rfl)
                                rotate_left
                                · simp only [Act.put, List.setIfInBounds_toArray, List.set_cons_zero, List.set_cons_succ, i64_w, i32_w]
                                  rfl
                                refine pure_ (i := 13) (N := some 91) (v := ?_) (a' := ?_) #[true, true, true, true, true, true, true, true, true, true, true, true, true, true, false, false] rfl rfl (any_of HT_.out (by kernel_rfl)) (fun _ _ _ h => h) (Or.inl ⟨by rfl, ?_⟩) ?_ ?_
                                rotate_left
                                · intro w'
                                  go_simp
                                  first | (simp only [hji66n]; first | done | with_reducible rfl) | with_reducible rfl | (simp only [hji66n]; rw [if_pos ⟨by omega, by have hc1_ := HC1.out; omega⟩]; first | done | with_reducible rfl) | (rw [if_pos ⟨by omega, by have hc1_ := HC1.out; omega⟩]; first | done | with_reducible rfl)
                                rotate_left
                                · simp only [Act.put, List.setIfInBounds_toArray, List.set_cons_zero, List.set_cons_succ, i64_w, i32_w]
                                  rfl
                                refine pure_ (i := 14) (N := some 92) (v := ?_) (a' := ?_) #[true, true, true, true, true, true, true, true, true, true, true, true, true, true, true, false] rfl rfl (any_of HT_.out (by kernel_rfl)) (fun _ _ _ h => h) (Or.inl ⟨by rfl, ?_⟩) ?_ ?_
                                rotate_left
                                · intro w'
                                  go_simp
                                  first | (simp only [hji66n]; first | done | with_reducible rfl) | with_reducible rfl | (simp only [hji66n]; rw [if_pos ⟨by omega, by have hc1_ := HC1.out; omega⟩]; first | done | with_reducible rfl) | (rw [if_pos ⟨by omega, by have hc1_ := HC1.out; omega⟩]; first | done | with_reducible rfl)
                                rotate_left
                                · simp only [Act.put, List.setIfInBounds_toArray, List.set_cons_zero, List.set_cons_succ, i64_w, i32_w]
                                  rfl
                                refine pure_ (i := 15) (N := some 10) (v := ?_) (a' := ?_) #[true, true, true, true, true, true, true, true, true, true, true, true, true, true, true, true] rfl rfl (any_of HT_.out (by kernel_rfl)) (fun _ _ _ h => h) (Or.inl ⟨by rfl, ?_⟩) ?_ ?_
                                rotate_left
                                · intro w'
                                  go_simp
                                  first | (simp only [hji66n]; first | done | with_reducible rfl) | with_reducible rfl | (simp only [hji66n]; rw [if_pos ⟨by omega, by have hc1_ := HC1.out; omega⟩]; first | done | with_reducible rfl) | (rw [if_pos ⟨by omega, by have hc1_ := HC1.out; omega⟩]; first | done | with_reducible rfl)
                                rotate_left
                                · simp only [Act.put, List.setIfInBounds_toArray, List.set_cons_zero, List.set_cons_succ, i64_w, i32_w]
                                  rfl
                                refine done_ (done_of HT_.out (by kernel_rfl)) ?_
                                try go_wp2
                                have n0_ := Aside0.mk (Kd.V_drew HO_6.out)
                                have n1_ := Aside0.mk (Kd.V_drew HO_8.out)
                                have n2_ := Aside0.mk (Kd.V_drew HO398.out)
                                have n3_ := Aside0.mk (below_drew1 HB.out)
                                clear HO_6
                                clear HO_8
                                clear HO398
                                clear HB
                                have HO_6 := n0_
                                have HO_8 := n1_
                                have HO398 := n2_
                                have HB := n3_
                                clear n0_ n1_ n2_ n3_
                                refine start_ (n := 21) (S := fun w' => True) (ds := []) #[false, false, false, false, false, false, false, false, false, false, false, false, false, false, false, false, false, false, false, false, false] (by kernel_rfl) rfl rfl trivial (fun hHeld => ?_); refine with_tabW rhizomelaw01_KeyOrders.tab13 rhizomelaw01_KeyOrders.bits13 (fun HT_ HW_ => ?_)
                                generalize w82.drew = w86 at HO_6 HO_8 HO398 HB hHeld ⊢
                                refine pure_ (i := 0) (N := some 93) (v := ?_) (a' := ?_) #[true, false, false, false, false, false, false, false, false, false, false, false, false, false, false, false, false, false, false, false, false] rfl rfl (any_of HT_.out (by kernel_rfl)) (fun _ _ _ h => h) (Or.inl ⟨by rfl, ?_⟩) ?_ ?_
                                rotate_left
                                · intro w'
                                  go_simp
                                  first | (simp only [hji66n]; first | done | with_reducible rfl) | with_reducible rfl | (simp only [hji66n]; rw [if_pos ⟨by omega, by have hc1_ := HC1.out; omega⟩]; first | done | with_reducible rfl) | (rw [if_pos ⟨by omega, by have hc1_ := HC1.out; omega⟩]; first | done | with_reducible rfl)
                                rotate_left
                                · simp only [Act.put, List.setIfInBounds_toArray, List.set_cons_zero, List.set_cons_succ, i64_w, i32_w]
                                  rfl
                                refine pure_ (i := 1) (N := some 94) (v := ?_) (a' := ?_) #[true, true, false, false, false, false, false, false, false, false, false, false, false, false, false, false, false, false, false, false, false] rfl rfl (any_of HT_.out (by kernel_rfl)) (fun _ _ _ h => h) (Or.inl ⟨by rfl, ?_⟩) ?_ ?_
                                rotate_left
                                · intro w'
                                  go_simp
                                  first | (simp only [hji66n]; first | done | with_reducible rfl) | with_reducible rfl | (simp only [hji66n]; rw [if_pos ⟨by omega, by have hc1_ := HC1.out; omega⟩]; first | done | with_reducible rfl) | (rw [if_pos ⟨by omega, by have hc1_ := HC1.out; omega⟩]; first | done | with_reducible rfl)
                                rotate_left
                                · simp only [Act.put, List.setIfInBounds_toArray, List.set_cons_zero, List.set_cons_succ, i64_w, i32_w]
                                  rfl
                                refine pure_ (i := 2) (N := some 95) (v := ?_) (a' := ?_) #[true, true, true, false, false, false, false, false, false, false, false, false, false, false, false, false, false, false, false, false, false] rfl rfl (any_of HT_.out (by kernel_rfl)) (fun _ _ _ h => h) (Or.inl ⟨by rfl, ?_⟩) ?_ ?_
                                rotate_left
                                · intro w'
                                  go_simp
                                  first | (simp only [hji66n]; first | done | with_reducible rfl) | with_reducible rfl | (simp only [hji66n]; rw [if_pos ⟨by omega, by have hc1_ := HC1.out; omega⟩]; first | done | with_reducible rfl) | (rw [if_pos ⟨by omega, by have hc1_ := HC1.out; omega⟩]; first | done | with_reducible rfl)
                                rotate_left
                                · simp only [Act.put, List.setIfInBounds_toArray, List.set_cons_zero, List.set_cons_succ, i64_w, i32_w]
                                  rfl
                                refine pure_ (i := 3) (N := some 96) (v := ?_) (a' := ?_) #[true, true, true, true, false, false, false, false, false, false, false, false, false, false, false, false, false, false, false, false, false] rfl rfl (any_of HT_.out (by kernel_rfl)) (fun _ _ _ h => h) (Or.inl ⟨by rfl, ?_⟩) ?_ ?_
                                rotate_left
                                · intro w'
                                  go_simp
                                  first | (simp only [hji66n]; first | done | with_reducible rfl) | with_reducible rfl | (simp only [hji66n]; rw [if_pos ⟨by omega, by have hc1_ := HC1.out; omega⟩]; first | done | with_reducible rfl) | (rw [if_pos ⟨by omega, by have hc1_ := HC1.out; omega⟩]; first | done | with_reducible rfl)
                                rotate_left
                                · simp only [Act.put, List.setIfInBounds_toArray, List.set_cons_zero, List.set_cons_succ, i64_w, i32_w]
                                  rfl
                                refine pure_ (i := 4) (N := some 97) (v := ?_) (a' := ?_) #[true, true, true, true, true, false, false, false, false, false, false, false, false, false, false, false, false, false, false, false, false] rfl rfl (any_of HT_.out (by kernel_rfl)) (fun _ _ _ h => h) (Or.inl ⟨by rfl, ?_⟩) ?_ ?_
                                rotate_left
                                · intro w'
                                  go_simp
                                  first | (simp only [hji66n]; first | done | with_reducible rfl) | with_reducible rfl | (simp only [hji66n]; rw [if_pos ⟨by omega, by have hc1_ := HC1.out; omega⟩]; first | done | with_reducible rfl) | (rw [if_pos ⟨by omega, by have hc1_ := HC1.out; omega⟩]; first | done | with_reducible rfl)
                                rotate_left
                                · simp only [Act.put, List.setIfInBounds_toArray, List.set_cons_zero, List.set_cons_succ, i64_w, i32_w]
                                  rfl
                                refine pure_ (i := 5) (N := some 98) (v := ?_) (a' := ?_) #[true, true, true, true, true, true, false, false, false, false, false, false, false, false, false, false, false, false, false, false, false] rfl rfl (any_of HT_.out (by kernel_rfl)) (fun _ _ _ h => h) (Or.inl ⟨by rfl, ?_⟩) ?_ ?_
                                rotate_left
                                · intro w'
                                  go_simp
                                  first | (simp only [hji66n]; first | done | with_reducible rfl) | with_reducible rfl | (simp only [hji66n]; rw [if_pos ⟨by omega, by have hc1_ := HC1.out; omega⟩]; first | done | with_reducible rfl) | (rw [if_pos ⟨by omega, by have hc1_ := HC1.out; omega⟩]; first | done | with_reducible rfl)
                                rotate_left
                                · simp only [Act.put, List.setIfInBounds_toArray, List.set_cons_zero, List.set_cons_succ, i64_w, i32_w]
                                  rfl
                                refine pure_ (i := 6) (N := some 99) (v := ?_) (a' := ?_) #[true, true, true, true, true, true, true, false, false, false, false, false, false, false, false, false, false, false, false, false, false] rfl rfl (any_of HT_.out (by kernel_rfl)) (fun _ _ _ h => h) (Or.inl ⟨by rfl, ?_⟩) ?_ ?_
                                rotate_left
                                · intro w'
                                  go_simp
                                  first | (simp only [hji66n]; first | done | with_reducible rfl) | with_reducible rfl | (simp only [hji66n]; rw [if_pos ⟨by omega, by have hc1_ := HC1.out; omega⟩]; first | done | with_reducible rfl) | (rw [if_pos ⟨by omega, by have hc1_ := HC1.out; omega⟩]; first | done | with_reducible rfl)
                                rotate_left
                                · simp only [Act.put, List.setIfInBounds_toArray, List.set_cons_zero, List.set_cons_succ, i64_w, i32_w]
                                  rfl
                                refine pure_ (i := 7) (N := some 100) (v := undef) (a' := ?_) #[true, true, true, true, true, true, true, true, false, false, false, false, false, false, false, false, false, false, false, false, false] rfl rfl (any_of HT_.out (by kernel_rfl)) (fun _ _ _ h => h) (Or.inr ⟨by rfl, rfl⟩) ?_ ?_
                                rotate_left
                                · simp only [Act.put, List.setIfInBounds_toArray, List.set_cons_zero, List.set_cons_succ, i64_w, i32_w]
                                  rfl
                                refine pure_ (i := 8) (N := some 101) (v := undef) (a' := ?_) #[true, true, true, true, true, true, true, true, true, false, false, false, false, false, false, false, false, false, false, false, false] rfl rfl (any_of HT_.out (by kernel_rfl)) (fun _ _ _ h => h) (Or.inr ⟨by rfl, rfl⟩) ?_ ?_
                                rotate_left
                                · simp only [Act.put, List.setIfInBounds_toArray, List.set_cons_zero, List.set_cons_succ, i64_w, i32_w]
                                  rfl
                                refine pure_ (i := 9) (N := some 102) (v := undef) (a' := ?_) #[true, true, true, true, true, true, true, true, true, true, false, false, false, false, false, false, false, false, false, false, false] rfl rfl (any_of HT_.out (by kernel_rfl)) (fun _ _ _ h => h) (Or.inr ⟨by rfl, rfl⟩) ?_ ?_
                                rotate_left
                                · simp only [Act.put, List.setIfInBounds_toArray, List.set_cons_zero, List.set_cons_succ, i64_w, i32_w]
                                  rfl
                                refine pure_ (i := 10) (N := some 103) (v := undef) (a' := ?_) #[true, true, true, true, true, true, true, true, true, true, true, false, false, false, false, false, false, false, false, false, false] rfl rfl (any_of HT_.out (by kernel_rfl)) (fun _ _ _ h => h) (Or.inr ⟨by rfl, rfl⟩) ?_ ?_
                                rotate_left
                                · simp only [Act.put, List.setIfInBounds_toArray, List.set_cons_zero, List.set_cons_succ, i64_w, i32_w]
                                  rfl
                                refine pure_ (i := 11) (N := some 104) (v := undef) (a' := ?_) #[true, true, true, true, true, true, true, true, true, true, true, true, false, false, false, false, false, false, false, false, false] rfl rfl (any_of HT_.out (by kernel_rfl)) (fun _ _ _ h => h) (Or.inr ⟨by rfl, rfl⟩) ?_ ?_
                                rotate_left
                                · simp only [Act.put, List.setIfInBounds_toArray, List.set_cons_zero, List.set_cons_succ, i64_w, i32_w]
                                  rfl
                                refine pure_ (i := 12) (N := some 105) (v := undef) (a' := ?_) #[true, true, true, true, true, true, true, true, true, true, true, true, true, false, false, false, false, false, false, false, false] rfl rfl (any_of HT_.out (by kernel_rfl)) (fun _ _ _ h => h) (Or.inr ⟨by rfl, rfl⟩) ?_ ?_
                                rotate_left
                                · simp only [Act.put, List.setIfInBounds_toArray, List.set_cons_zero, List.set_cons_succ, i64_w, i32_w]
                                  rfl
                                refine pure_ (i := 13) (N := some 106) (v := undef) (a' := ?_) #[true, true, true, true, true, true, true, true, true, true, true, true, true, true, false, false, false, false, false, false, false] rfl rfl (any_of HT_.out (by kernel_rfl)) (fun _ _ _ h => h) (Or.inr ⟨by rfl, rfl⟩) ?_ ?_
                                rotate_left
                                · simp only [Act.put, List.setIfInBounds_toArray, List.set_cons_zero, List.set_cons_succ, i64_w, i32_w]
                                  rfl
                                refine pure_ (i := 14) (N := some 107) (v := undef) (a' := ?_) #[true, true, true, true, true, true, true, true, true, true, true, true, true, true, true, false, false, false, false, false, false] rfl rfl (any_of HT_.out (by kernel_rfl)) (fun _ _ _ h => h) (Or.inr ⟨by rfl, rfl⟩) ?_ ?_
                                rotate_left
                                · simp only [Act.put, List.setIfInBounds_toArray, List.set_cons_zero, List.set_cons_succ, i64_w, i32_w]
                                  rfl
                                refine pure_ (i := 15) (N := some 108) (v := undef) (a' := ?_) #[true, true, true, true, true, true, true, true, true, true, true, true, true, true, true, true, false, false, false, false, false] rfl rfl (any_of HT_.out (by kernel_rfl)) (fun _ _ _ h => h) (Or.inr ⟨by rfl, rfl⟩) ?_ ?_
                                rotate_left
                                · simp only [Act.put, List.setIfInBounds_toArray, List.set_cons_zero, List.set_cons_succ, i64_w, i32_w]
                                  rfl
                                refine pure_ (i := 16) (N := some 109) (v := undef) (a' := ?_) #[true, true, true, true, true, true, true, true, true, true, true, true, true, true, true, true, true, false, false, false, false] rfl rfl (any_of HT_.out (by kernel_rfl)) (fun _ _ _ h => h) (Or.inr ⟨by rfl, rfl⟩) ?_ ?_
                                rotate_left
                                · simp only [Act.put, List.setIfInBounds_toArray, List.set_cons_zero, List.set_cons_succ, i64_w, i32_w]
                                  rfl
                                refine pure_ (i := 17) (N := some 110) (v := undef) (a' := ?_) #[true, true, true, true, true, true, true, true, true, true, true, true, true, true, true, true, true, true, false, false, false] rfl rfl (any_of HT_.out (by kernel_rfl)) (fun _ _ _ h => h) (Or.inr ⟨by rfl, rfl⟩) ?_ ?_
                                rotate_left
                                · simp only [Act.put, List.setIfInBounds_toArray, List.set_cons_zero, List.set_cons_succ, i64_w, i32_w]
                                  rfl
                                refine pure_ (i := 18) (N := some 111) (v := ?_) (a' := ?_) #[true, true, true, true, true, true, true, true, true, true, true, true, true, true, true, true, true, true, true, false, false] rfl rfl (any_of HT_.out (by kernel_rfl)) (fun _ _ _ h => h) (Or.inl ⟨by rfl, ?_⟩) ?_ ?_
                                rotate_left
                                · intro w'
                                  go_simp
                                  first | (simp only [hji66n]; first | done | with_reducible rfl) | with_reducible rfl | (simp only [hji66n]; rw [if_pos ⟨by omega, by have hc1_ := HC1.out; omega⟩]; first | done | with_reducible rfl) | (rw [if_pos ⟨by omega, by have hc1_ := HC1.out; omega⟩]; first | done | with_reducible rfl)
                                rotate_left
                                · simp only [Act.put, List.setIfInBounds_toArray, List.set_cons_zero, List.set_cons_succ, i64_w, i32_w]
                                  rfl
                                refine pure_ (i := 19) (N := some 112) (v := ?_) (a' := ?_) #[true, true, true, true, true, true, true, true, true, true, true, true, true, true, true, true, true, true, true, true, false] rfl rfl (any_of HT_.out (by kernel_rfl)) (fun _ _ _ h => h) (Or.inl ⟨by rfl, ?_⟩) ?_ ?_
                                rotate_left
                                · intro w'
                                  go_simp
                                  first | (simp only [hji66n]; first | done | with_reducible rfl) | with_reducible rfl | (simp only [hji66n]; rw [if_pos ⟨by omega, by have hc1_ := HC1.out; omega⟩]; first | done | with_reducible rfl) | (rw [if_pos ⟨by omega, by have hc1_ := HC1.out; omega⟩]; first | done | with_reducible rfl)
                                rotate_left
                                · simp only [Act.put, List.setIfInBounds_toArray, List.set_cons_zero, List.set_cons_succ, i64_w, i32_w]
                                  rfl
                                refine pure_ (i := 20) (N := some 4) (v := ?_) (a' := ?_) #[true, true, true, true, true, true, true, true, true, true, true, true, true, true, true, true, true, true, true, true, true] rfl rfl (any_of HT_.out (by kernel_rfl)) (fun _ _ _ h => h) (Or.inl ⟨by rfl, ?_⟩) ?_ ?_
                                rotate_left
                                · intro w'
                                  go_simp
                                  first | (simp only [hji66n]; first | done | with_reducible rfl) | with_reducible rfl | (simp only [hji66n]; rw [if_pos ⟨by omega, by have hc1_ := HC1.out; omega⟩]; first | done | with_reducible rfl) | (rw [if_pos ⟨by omega, by have hc1_ := HC1.out; omega⟩]; first | done | with_reducible rfl)
                                rotate_left
                                · simp only [Act.put, List.setIfInBounds_toArray, List.set_cons_zero, List.set_cons_succ, i64_w, i32_w]
                                  rfl
                                refine done_ (done_of HT_.out (by kernel_rfl)) ?_
                                try go_wp2
                                go_ret
                                exact ⟨by first | rfl | (simp [errW_none, errW_some] <;> rfl) | (simp [*, errW_none, errW_some] <;> rfl), by repeat (first | (with_reducible first | exact HB.out | apply below_alloc | apply pw_below_drewN | apply below_drew1) | exact HB.out)⟩
                            · rw [if_neg c62] at H
                              exact absurd H (by simp)
                          · rw [if_neg c61] at H
                            have c61b0 : decide ((t386.length : Int) ≤ (t390.length : Int)) = false := decide_eq_false c61
                            have c61b1 : decide (t386.length ≤ t390.length) = false := decide_eq_false (fun h => c61 (Int.ofNat_le.mpr h))
                            clear c61
                            by_cases c87 : (l0.length : Int) ≤ (l1.length : Int)
                            · rw [if_pos c87] at H
                              have c87b0 : decide ((l0.length : Int) ≤ (l1.length : Int)) = true := decide_eq_true c87
                              have c87b1 : decide (l0.length ≤ l1.length) = true := decide_eq_true (Int.ofNat_le.mp c87)
                              clear c87
                              replace H := Option.bind_eq_some_iff.mp H
                              obtain ⟨t410, A880, H⟩ := H
                              replace H : (if 0 ≤ (mn (l0.length : Int) (l1.length : Int)) then (if (mn (l0.length : Int) (l1.length : Int)) ≤ (l1.length : Int) then ((rhizomelaw01_Ref.f (l1.take ((mn (l0.length : Int) (l1.length : Int)) : Int).toNat)).bind fun t417 => ((rhizomeref01_Same.f kj47 t410 t417).bind fun t420 => (some (false == t420)))) else (none)) else (none)) = some r := H
                              have A88 := Aside0.mk A880
                              clear A880
                              obtain ⟨ji89, hji89⟩ : ∃ j_ : Int, (mn (l0.length : Int) (l1.length : Int)) = j_ := ⟨_, rfl⟩
                              replace H : (if 0 ≤ (ji89) then (if (ji89) ≤ (l1.length : Int) then ((rhizomelaw01_Ref.f (l1.take ((ji89) : Int).toNat)).bind fun t417 => ((rhizomeref01_Same.f kj47 t410 t417).bind fun t420 => (some (false == t420)))) else (none)) else (none)) = some r := by first | (rw [hji89] at H; exact H) | (simp only [hji89] at H ⊢; exact H)
                              (try rw [hji89] at A88)
                              have hji89_ : (if (l1.length : Int) < (l0.length : Int) then (l1.length : Int) else (l0.length : Int)) = ji89 := hji89
                              have hji89n : (if l1.length < l0.length then (l1.length : Int) else (l0.length : Int)) = ji89 := by rw [← hji89_]; simp only [Int.ofNat_lt]
                              by_cases c90 : 0 ≤ (ji89)
                              · rw [if_pos c90] at H
                                have c90b0 := eq_true c90
                                have c90b1 : decide (0 ≤ (ji89)) = true := decide_eq_true c90
                                clear c90
                                by_cases c91 : (ji89) ≤ (l1.length : Int)
                                · rw [if_pos c91] at H
                                  have c91b0 := eq_true c91
                                  have c91b1 : decide ((ji89) ≤ (l1.length : Int)) = true := decide_eq_true c91
                                  clear c91
                                  obtain ⟨y413, hy413⟩ : ∃ y_ : List (S31), y_ = (l1.take ((ji89) : Int).toNat) := ⟨_, rfl⟩
                                  replace H : ((rhizomelaw01_Ref.f y413).bind fun t417 => ((rhizomeref01_Same.f kj47 t410 t417).bind fun t420 => (some (false == t420)))) = some r := by first | (rw [hy413]; with_reducible exact H) | (have H2_ := (Option.bind_some _ _).symm.trans H; rw [hy413]; with_reducible exact H2_) | (have H2_ := (Option.bind_some _ _).symm.trans H; with_reducible exact H2_) | with_reducible exact H | (rw [hy413]; exact H) | exact H
                                  have Ny413 := Aside0.mk hy413
                                  clear hy413
                                  replace H := Option.bind_eq_some_iff.mp H
                                  obtain ⟨t417, A920, H⟩ := H
                                  replace H : ((rhizomeref01_Same.f kj47 t410 t417).bind fun t420 => (some (false == t420))) = some r := H
                                  have A92 := Aside0.mk A920
                                  clear A920
                                  replace H := Option.bind_eq_some_iff.mp H
                                  obtain ⟨t420, A930, H⟩ := H
                                  replace H : (some (false == t420)) = some r := H
                                  have A93 := Aside0.mk A930
                                  clear A930
                                  obtain rfl := Option.some.inj H
                                  try go_wp2
                                  have n0_ := Aside0.mk (Kd.V_drew HO_6.out)
                                  have n1_ := Aside0.mk (Kd.V_drew HO_8.out)
                                  have n2_ := Aside0.mk (below_drew1 HB.out)
                                  clear HO_6
                                  clear HO_8
                                  clear HB
                                  have HO_6 := n0_
                                  have HO_8 := n1_
                                  have HB := n2_
                                  clear n0_ n1_ n2_
                                  obtain ⟨Ao95, co95, eo95⟩ := Kd.V_slice HO_6.out
                                  (first | subst eo95 | (injection eo95 with f1_ f2_ f3_; have f4_ := f1_.symm; have f5_ := f3_.symm; clear f1_ f2_ f3_; subst f4_; subst f5_))
                                  obtain ⟨Ao96, co96, eo96⟩ := Kd.V_slice HO_8.out
                                  (first | subst eo96 | (injection eo96 with f1_ f2_ f3_; have f4_ := f1_.symm; have f5_ := f3_.symm; clear f1_ f2_ f3_; subst f4_; subst f5_))
                                  refine start_ (n := 16) (S := fun w' => True) (ds := []) #[false, false, false, false, false, false, false, false, false, false, false, false, false, false, false, false] (by kernel_rfl) rfl rfl trivial (fun hHeld => ?_); refine with_tabW rhizomelaw01_KeyOrders.tab12 rhizomelaw01_KeyOrders.bits12 (fun HT_ HW_ => ?_)
                                  generalize wc.drew = w94 at HO_6 HO_8 HB hHeld ⊢
                                  refine pure_ (i := 0) (N := some 78) (v := ?_) (a' := ?_) #[true, false, false, false, false, false, false, false, false, false, false, false, false, false, false, false] rfl rfl (any_of HT_.out (by kernel_rfl)) (fun _ _ _ h => h) (Or.inl ⟨by rfl, ?_⟩) ?_ ?_
                                  rotate_left
                                  · intro w'
                                    go_simp
                                    first | (simp only [hji89n]; first | done | with_reducible rfl) | with_reducible rfl | (simp only [hji89n]; rw [if_pos ⟨by omega, by have hc1_ := HC1.out; omega⟩]; first | done | with_reducible rfl) | (rw [if_pos ⟨by omega, by have hc1_ := HC1.out; omega⟩]; first | done | with_reducible rfl)
                                  rotate_left
                                  · simp only [Act.put, List.setIfInBounds_toArray, List.set_cons_zero, List.set_cons_succ, i64_w, i32_w]
                                    rfl
                                  refine pure_ (i := 1) (N := some 79) (v := ?_) (a' := ?_) #[true, true, false, false, false, false, false, false, false, false, false, false, false, false, false, false] rfl rfl (any_of HT_.out (by kernel_rfl)) (fun _ _ _ h => h) (Or.inl ⟨by rfl, ?_⟩) ?_ ?_
                                  rotate_left
                                  · intro w'
                                    go_simp
                                    first | (simp only [hji89n]; first | done | with_reducible rfl) | with_reducible rfl | (simp only [hji89n]; rw [if_pos ⟨by omega, by have hc1_ := HC1.out; omega⟩]; first | done | with_reducible rfl) | (rw [if_pos ⟨by omega, by have hc1_ := HC1.out; omega⟩]; first | done | with_reducible rfl)
                                  rotate_left
                                  · simp only [Act.put, List.setIfInBounds_toArray, List.set_cons_zero, List.set_cons_succ, i64_w, i32_w]
                                    rfl
                                  refine pure_ (i := 2) (N := some 80) (v := ?_) (a' := ?_) #[true, true, true, false, false, false, false, false, false, false, false, false, false, false, false, false] rfl rfl (any_of HT_.out (by kernel_rfl)) (fun _ _ _ h => h) (Or.inl ⟨by rfl, ?_⟩) ?_ ?_
                                  rotate_left
                                  · intro w'
                                    go_simp
                                    first | (simp only [hji89n]; first | done | with_reducible rfl) | with_reducible rfl | (simp only [hji89n]; rw [if_pos ⟨by omega, by have hc1_ := HC1.out; omega⟩]; first | done | with_reducible rfl) | (rw [if_pos ⟨by omega, by have hc1_ := HC1.out; omega⟩]; first | done | with_reducible rfl)
                                  rotate_left
                                  · simp only [Act.put, List.setIfInBounds_toArray, List.set_cons_zero, List.set_cons_succ, i64_w, i32_w]
                                    rfl
                                  refine pure_ (i := 3) (N := some 81) (v := ?_) (a' := ?_) #[true, true, true, true, false, false, false, false, false, false, false, false, false, false, false, false] rfl rfl (any_of HT_.out (by kernel_rfl)) (fun _ _ _ h => h) (Or.inl ⟨by rfl, ?_⟩) ?_ ?_
                                  rotate_left
                                  · intro w'
                                    go_simp
                                    first | (simp only [hji89n]; first | done | with_reducible rfl) | with_reducible rfl | (simp only [hji89n]; rw [if_pos ⟨by omega, by have hc1_ := HC1.out; omega⟩]; first | done | with_reducible rfl) | (rw [if_pos ⟨by omega, by have hc1_ := HC1.out; omega⟩]; first | done | with_reducible rfl)
                                  rotate_left
                                  · simp only [Act.put, List.setIfInBounds_toArray, List.set_cons_zero, List.set_cons_succ, i64_w, i32_w]
                                    rfl
                                  refine pure_ (i := 4) (N := some 82) (v := ?_) (a' := ?_) #[true, true, true, true, true, false, false, false, false, false, false, false, false, false, false, false] rfl rfl (any_of HT_.out (by kernel_rfl)) (fun _ _ _ h => h) (Or.inl ⟨by rfl, ?_⟩) ?_ ?_
                                  rotate_left
                                  · intro w'
                                    go_simp
                                    first | (simp only [hji89n]; first | done | with_reducible rfl) | with_reducible rfl | (simp only [hji89n]; rw [if_pos ⟨by omega, by have hc1_ := HC1.out; omega⟩]; first | done | with_reducible rfl) | (rw [if_pos ⟨by omega, by have hc1_ := HC1.out; omega⟩]; first | done | with_reducible rfl)
                                  rotate_left
                                  · simp only [Act.put, List.setIfInBounds_toArray, List.set_cons_zero, List.set_cons_succ, i64_w, i32_w]
                                    rfl
                                  refine pure_ (i := 5) (N := some 83) (v := ?_) (a' := ?_) #[true, true, true, true, true, true, false, false, false, false, false, false, false, false, false, false] rfl rfl (any_of HT_.out (by kernel_rfl)) (fun _ _ _ h => h) (Or.inl ⟨by rfl, ?_⟩) ?_ ?_
                                  rotate_left
                                  · intro w'
                                    go_simp
                                    first | (simp only [hji89n]; first | done | with_reducible rfl) | with_reducible rfl | (simp only [hji89n]; rw [if_pos ⟨by omega, by have hc1_ := HC1.out; omega⟩]; first | done | with_reducible rfl) | (rw [if_pos ⟨by omega, by have hc1_ := HC1.out; omega⟩]; first | done | with_reducible rfl)
                                  rotate_left
                                  · simp only [Act.put, List.setIfInBounds_toArray, List.set_cons_zero, List.set_cons_succ, i64_w, i32_w]
                                    rfl
                                  refine pure_ (i := 6) (N := some 84) (v := undef) (a' := ?_) #[true, true, true, true, true, true, true, false, false, false, false, false, false, false, false, false] rfl rfl (any_of HT_.out (by kernel_rfl)) (fun _ _ _ h => h) (Or.inr ⟨by rfl, rfl⟩) ?_ ?_
                                  rotate_left
                                  · simp only [Act.put, List.setIfInBounds_toArray, List.set_cons_zero, List.set_cons_succ, i64_w, i32_w]
                                    rfl
                                  refine pure_ (i := 7) (N := some 85) (v := undef) (a' := ?_) #[true, true, true, true, true, true, true, true, false, false, false, false, false, false, false, false] rfl rfl (any_of HT_.out (by kernel_rfl)) (fun _ _ _ h => h) (Or.inr ⟨by rfl, rfl⟩) ?_ ?_
                                  rotate_left
                                  · simp only [Act.put, List.setIfInBounds_toArray, List.set_cons_zero, List.set_cons_succ, i64_w, i32_w]
                                    rfl
                                  refine pure_ (i := 8) (N := some 86) (v := undef) (a' := ?_) #[true, true, true, true, true, true, true, true, true, false, false, false, false, false, false, false] rfl rfl (any_of HT_.out (by kernel_rfl)) (fun _ _ _ h => h) (Or.inr ⟨by rfl, rfl⟩) ?_ ?_
                                  rotate_left
                                  · simp only [Act.put, List.setIfInBounds_toArray, List.set_cons_zero, List.set_cons_succ, i64_w, i32_w]
                                    rfl
                                  refine pure_ (i := 9) (N := some 87) (v := undef) (a' := ?_) #[true, true, true, true, true, true, true, true, true, true, false, false, false, false, false, false] rfl rfl (any_of HT_.out (by kernel_rfl)) (fun _ _ _ h => h) (Or.inr ⟨by rfl, rfl⟩) ?_ ?_
                                  rotate_left
                                  · simp only [Act.put, List.setIfInBounds_toArray, List.set_cons_zero, List.set_cons_succ, i64_w, i32_w]
                                    rfl
                                  refine pure_ (i := 10) (N := some 88) (v := undef) (a' := ?_) #[true, true, true, true, true, true, true, true, true, true, true, false, false, false, false, false] rfl rfl (any_of HT_.out (by kernel_rfl)) (fun _ _ _ h => h) (Or.inr ⟨by rfl, rfl⟩) ?_ ?_
                                  rotate_left
                                  · simp only [Act.put, List.setIfInBounds_toArray, List.set_cons_zero, List.set_cons_succ, i64_w, i32_w]
                                    rfl
                                  refine pure_ (i := 11) (N := some 89) (v := undef) (a' := ?_) #[true, true, true, true, true, true, true, true, true, true, true, true, false, false, false, false] rfl rfl (any_of HT_.out (by kernel_rfl)) (fun _ _ _ h => h) (Or.inr ⟨by rfl, rfl⟩) ?_ ?_
                                  rotate_left
                                  · simp only [Act.put, List.setIfInBounds_toArray, List.set_cons_zero, List.set_cons_succ, i64_w, i32_w]
                                    rfl
                                  refine pure_ (i := 12) (N := some 90) (v := undef) (a' := ?_) #[true, true, true, true, true, true, true, true, true, true, true, true, true, false, false, false] rfl rfl (any_of HT_.out (by kernel_rfl)) (fun _ _ _ h => h) (Or.inr ⟨by rfl, rfl⟩) ?_ ?_
                                  rotate_left
                                  · simp only [Act.put, List.setIfInBounds_toArray, List.set_cons_zero, List.set_cons_succ, i64_w, i32_w]
                                    rfl
                                  refine pure_ (i := 13) (N := some 91) (v := undef) (a' := ?_) #[true, true, true, true, true, true, true, true, true, true, true, true, true, true, false, false] rfl rfl (any_of HT_.out (by kernel_rfl)) (fun _ _ _ h => h) (Or.inr ⟨by rfl, rfl⟩) ?_ ?_
                                  rotate_left
                                  · simp only [Act.put, List.setIfInBounds_toArray, List.set_cons_zero, List.set_cons_succ, i64_w, i32_w]
                                    rfl
                                  refine pure_ (i := 14) (N := some 92) (v := ?_) (a' := ?_) #[true, true, true, true, true, true, true, true, true, true, true, true, true, true, true, false] rfl rfl (any_of HT_.out (by kernel_rfl)) (fun _ _ _ h => h) (Or.inl ⟨by rfl, ?_⟩) ?_ ?_
                                  rotate_left
                                  · intro w'
                                    go_simp
                                    first | (simp only [hji89n]; first | done | with_reducible rfl) | with_reducible rfl | (simp only [hji89n]; rw [if_pos ⟨by omega, by have hc1_ := HC1.out; omega⟩]; first | done | with_reducible rfl) | (rw [if_pos ⟨by omega, by have hc1_ := HC1.out; omega⟩]; first | done | with_reducible rfl)
                                  rotate_left
                                  · simp only [Act.put, List.setIfInBounds_toArray, List.set_cons_zero, List.set_cons_succ, i64_w, i32_w]
                                    rfl
                                  refine pure_ (i := 15) (N := some 10) (v := ?_) (a' := ?_) #[true, true, true, true, true, true, true, true, true, true, true, true, true, true, true, true] rfl rfl (any_of HT_.out (by kernel_rfl)) (fun _ _ _ h => h) (Or.inl ⟨by rfl, ?_⟩) ?_ ?_
                                  rotate_left
                                  · intro w'
                                    go_simp
                                    first | (simp only [hji89n]; first | done | with_reducible rfl) | with_reducible rfl | (simp only [hji89n]; rw [if_pos ⟨by omega, by have hc1_ := HC1.out; omega⟩]; first | done | with_reducible rfl) | (rw [if_pos ⟨by omega, by have hc1_ := HC1.out; omega⟩]; first | done | with_reducible rfl)
                                  rotate_left
                                  · simp only [Act.put, List.setIfInBounds_toArray, List.set_cons_zero, List.set_cons_succ, i64_w, i32_w]
                                    rfl
                                  refine done_ (done_of HT_.out (by kernel_rfl)) ?_
                                  try go_wp2
                                  have n0_ := Aside0.mk (Kd.V_drew HO_6.out)
                                  have n1_ := Aside0.mk (Kd.V_drew HO_8.out)
                                  have n2_ := Aside0.mk (below_drew1 HB.out)
                                  clear HO_6
                                  clear HO_8
                                  clear HB
                                  have HO_6 := n0_
                                  have HO_8 := n1_
                                  have HB := n2_
                                  clear n0_ n1_ n2_
                                  have q98 : ((ji89) : Int) ≤ ((l1.length : Int) : Int) := of_decide_eq_true (by first | (with_reducible assumption) | assumption)
                                  obtain ⟨i098, hi098, _, hsz98, _⟩ := info_parts info31
                                  have hroom98 : l1.length ≤ c1 := HC1.out
                                  have hC98 : Kd.C k31 _ A1 l1.length l1 := HR1.out
                                  have hcut98 := cut_to (P := Tryd.prog) 26 31 .i64 Tryd.underlying26 hi098 A1 l1.length c1 (ji89) (of_decide_eq_true (by first | (with_reducible assumption) | assumption)) q98 hroom98
                                  have hr98 := Kd.C_take (m := ((ji89) : Int).toNat) hC98 (by omega)
                                  have hy98 : y413.length = ((ji89) : Int).toNat := (by rw [Ny413.out, List.length_take]; omega)
                                  rw [← Ny413.out] at hr98
                                  rw [← hy98] at hcut98
                                  have HR416 := Aside0.mk hr98
                                  have HC416 := Aside0.mk (show y413.length ≤ c1 from by omega)
                                  clear hr98 hC98 hroom98 hi098 hsz98
                                  have KY98 := Aside0.mk hy98
                                  clear hy98
                                  replace q98 := eq_true q98
                                  refine start_ (n := 21) (S := fun w' => True) (ds := []) #[false, false, false, false, false, false, false, false, false, false, false, false, false, false, false, false, false, false, false, false, false] (by kernel_rfl) rfl rfl trivial (fun hHeld => ?_); refine with_tabW rhizomelaw01_KeyOrders.tab13 rhizomelaw01_KeyOrders.bits13 (fun HT_ HW_ => ?_)
                                  generalize w94.drew = w97 at HO_6 HO_8 HB HR416 hHeld ⊢
                                  refine pure_ (i := 0) (N := some 93) (v := ?_) (a' := ?_) #[true, false, false, false, false, false, false, false, false, false, false, false, false, false, false, false, false, false, false, false, false] rfl rfl (any_of HT_.out (by kernel_rfl)) (fun _ _ _ h => h) (Or.inl ⟨by rfl, ?_⟩) ?_ ?_
                                  rotate_left
                                  · intro w'
                                    go_simp
                                    first | (simp only [hji89n]; first | done | with_reducible rfl) | with_reducible rfl | (simp only [hji89n]; rw [if_pos ⟨by omega, by have hc1_ := HC1.out; omega⟩]; first | done | with_reducible rfl) | (rw [if_pos ⟨by omega, by have hc1_ := HC1.out; omega⟩]; first | done | with_reducible rfl)
                                  rotate_left
                                  · simp only [Act.put, List.setIfInBounds_toArray, List.set_cons_zero, List.set_cons_succ, i64_w, i32_w]
                                    rfl
                                  refine pure_ (i := 1) (N := some 94) (v := ?_) (a' := ?_) #[true, true, false, false, false, false, false, false, false, false, false, false, false, false, false, false, false, false, false, false, false] rfl rfl (any_of HT_.out (by kernel_rfl)) (fun _ _ _ h => h) (Or.inl ⟨by rfl, ?_⟩) ?_ ?_
                                  rotate_left
                                  · intro w'
                                    go_simp
                                    first | (simp only [hji89n]; first | done | with_reducible rfl) | with_reducible rfl | (simp only [hji89n]; rw [if_pos ⟨by omega, by have hc1_ := HC1.out; omega⟩]; first | done | with_reducible rfl) | (rw [if_pos ⟨by omega, by have hc1_ := HC1.out; omega⟩]; first | done | with_reducible rfl)
                                  rotate_left
                                  · simp only [Act.put, List.setIfInBounds_toArray, List.set_cons_zero, List.set_cons_succ, i64_w, i32_w]
                                    rfl
                                  refine pure_ (i := 2) (N := some 95) (v := ?_) (a' := ?_) #[true, true, true, false, false, false, false, false, false, false, false, false, false, false, false, false, false, false, false, false, false] rfl rfl (any_of HT_.out (by kernel_rfl)) (fun _ _ _ h => h) (Or.inl ⟨by rfl, ?_⟩) ?_ ?_
                                  rotate_left
                                  · intro w'
                                    go_simp
                                    first | (simp only [hji89n]; first | done | with_reducible rfl) | with_reducible rfl | (simp only [hji89n]; rw [if_pos ⟨by omega, by have hc1_ := HC1.out; omega⟩]; first | done | with_reducible rfl) | (rw [if_pos ⟨by omega, by have hc1_ := HC1.out; omega⟩]; first | done | with_reducible rfl)
                                  rotate_left
                                  · simp only [Act.put, List.setIfInBounds_toArray, List.set_cons_zero, List.set_cons_succ, i64_w, i32_w]
                                    rfl
                                  refine pure_ (i := 3) (N := some 96) (v := ?_) (a' := ?_) #[true, true, true, true, false, false, false, false, false, false, false, false, false, false, false, false, false, false, false, false, false] rfl rfl (any_of HT_.out (by kernel_rfl)) (fun _ _ _ h => h) (Or.inl ⟨by rfl, ?_⟩) ?_ ?_
                                  rotate_left
                                  · intro w'
                                    go_simp
                                    first | (simp only [hji89n]; first | done | with_reducible rfl) | with_reducible rfl | (simp only [hji89n]; rw [if_pos ⟨by omega, by have hc1_ := HC1.out; omega⟩]; first | done | with_reducible rfl) | (rw [if_pos ⟨by omega, by have hc1_ := HC1.out; omega⟩]; first | done | with_reducible rfl)
                                  rotate_left
                                  · simp only [Act.put, List.setIfInBounds_toArray, List.set_cons_zero, List.set_cons_succ, i64_w, i32_w]
                                    rfl
                                  refine pure_ (i := 4) (N := some 97) (v := ?_) (a' := ?_) #[true, true, true, true, true, false, false, false, false, false, false, false, false, false, false, false, false, false, false, false, false] rfl rfl (any_of HT_.out (by kernel_rfl)) (fun _ _ _ h => h) (Or.inl ⟨by rfl, ?_⟩) ?_ ?_
                                  rotate_left
                                  · intro w'
                                    go_simp
                                    first | (simp only [hji89n]; first | done | with_reducible rfl) | with_reducible rfl | (simp only [hji89n]; rw [if_pos ⟨by omega, by have hc1_ := HC1.out; omega⟩]; first | done | with_reducible rfl) | (rw [if_pos ⟨by omega, by have hc1_ := HC1.out; omega⟩]; first | done | with_reducible rfl)
                                  rotate_left
                                  · simp only [Act.put, List.setIfInBounds_toArray, List.set_cons_zero, List.set_cons_succ, i64_w, i32_w]
                                    rfl
                                  refine pure_ (i := 5) (N := some 98) (v := ?_) (a' := ?_) #[true, true, true, true, true, true, false, false, false, false, false, false, false, false, false, false, false, false, false, false, false] rfl rfl (any_of HT_.out (by kernel_rfl)) (fun _ _ _ h => h) (Or.inl ⟨by rfl, ?_⟩) ?_ ?_
                                  rotate_left
                                  · intro w'
                                    go_simp
                                    first | (simp only [hji89n]; first | done | with_reducible rfl) | with_reducible rfl | (simp only [hji89n]; rw [if_pos ⟨by omega, by have hc1_ := HC1.out; omega⟩]; first | done | with_reducible rfl) | (rw [if_pos ⟨by omega, by have hc1_ := HC1.out; omega⟩]; first | done | with_reducible rfl)
                                  rotate_left
                                  · simp only [Act.put, List.setIfInBounds_toArray, List.set_cons_zero, List.set_cons_succ, i64_w, i32_w]
                                    rfl
                                  refine pure_ (i := 6) (N := some 99) (v := ?_) (a' := ?_) #[true, true, true, true, true, true, true, false, false, false, false, false, false, false, false, false, false, false, false, false, false] rfl rfl (any_of HT_.out (by kernel_rfl)) (fun _ _ _ h => h) (Or.inl ⟨by rfl, ?_⟩) ?_ ?_
                                  rotate_left
                                  · intro w'
                                    go_simp
                                    first | (simp only [hji89n]; first | done | with_reducible rfl) | with_reducible rfl | (simp only [hji89n]; rw [if_pos ⟨by omega, by have hc1_ := HC1.out; omega⟩]; first | done | with_reducible rfl) | (rw [if_pos ⟨by omega, by have hc1_ := HC1.out; omega⟩]; first | done | with_reducible rfl)
                                  rotate_left
                                  · simp only [Act.put, List.setIfInBounds_toArray, List.set_cons_zero, List.set_cons_succ, i64_w, i32_w]
                                    rfl
                                  refine pure_ (i := 7) (N := some 100) (v := ?_) (a' := ?_) #[true, true, true, true, true, true, true, true, false, false, false, false, false, false, false, false, false, false, false, false, false] rfl rfl (any_of HT_.out (by kernel_rfl)) (fun _ _ _ h => h) (Or.inl ⟨by rfl, ?_⟩) ?_ ?_
                                  rotate_left
                                  · intro w'
                                    go_simp
                                    first | (simp only [hji89n]; first | done | with_reducible rfl) | with_reducible rfl | (simp only [hji89n]; rw [if_pos ⟨by omega, by have hc1_ := HC1.out; omega⟩]; first | done | with_reducible rfl) | (rw [if_pos ⟨by omega, by have hc1_ := HC1.out; omega⟩]; first | done | with_reducible rfl)
                                  rotate_left
                                  · simp only [Act.put, List.setIfInBounds_toArray, List.set_cons_zero, List.set_cons_succ, i64_w, i32_w]
                                    rfl
                                  refine pure_ (i := 9) (N := some 102) (v := ?_) (a' := ?_) #[true, true, true, true, true, true, true, true, false, true, false, false, false, false, false, false, false, false, false, false, false] rfl rfl (any_of HT_.out (by kernel_rfl)) (fun _ _ _ h => h) (Or.inl ⟨by rfl, ?_⟩) ?_ ?_
                                  rotate_left
                                  · intro w'
                                    go_simp
                                    first | (simp only [hji89n]; first | done | with_reducible rfl) | with_reducible rfl | (simp only [hji89n]; rw [if_pos ⟨by omega, by have hc1_ := HC1.out; omega⟩]; first | done | with_reducible rfl) | (rw [if_pos ⟨by omega, by have hc1_ := HC1.out; omega⟩]; first | done | with_reducible rfl)
                                  rotate_left
                                  · simp only [Act.put, List.setIfInBounds_toArray, List.set_cons_zero, List.set_cons_succ, i64_w, i32_w]
                                    rfl
                                  refine pure_ (i := 10) (N := some 103) (v := ?_) (a' := ?_) #[true, true, true, true, true, true, true, true, false, true, true, false, false, false, false, false, false, false, false, false, false] rfl rfl (any_of HT_.out (by kernel_rfl)) (fun _ _ _ h => h) (Or.inl ⟨by rfl, ?_⟩) ?_ ?_
                                  rotate_left
                                  · intro w'
                                    go_simp
                                    first | (simp only [hji89n]; first | done | with_reducible rfl) | with_reducible rfl | (simp only [hji89n]; rw [if_pos ⟨by omega, by have hc1_ := HC1.out; omega⟩]; first | done | with_reducible rfl) | (rw [if_pos ⟨by omega, by have hc1_ := HC1.out; omega⟩]; first | done | with_reducible rfl)
                                  rotate_left
                                  · simp only [Act.put, List.setIfInBounds_toArray, List.set_cons_zero, List.set_cons_succ, i64_w, i32_w]
                                    rfl
                                  refine pure_ (i := 11) (N := some 104) (v := ?_) (a' := ?_) #[true, true, true, true, true, true, true, true, false, true, true, true, false, false, false, false, false, false, false, false, false] rfl rfl (any_of HT_.out (by kernel_rfl)) (fun _ _ _ h => h) (Or.inl ⟨by rfl, ?_⟩) ?_ ?_
                                  rotate_left
                                  · intro w'
                                    go_simp
                                    first | (simp only [hji89n]; first | done | with_reducible rfl) | with_reducible rfl | (simp only [hji89n]; rw [if_pos ⟨by omega, by have hc1_ := HC1.out; omega⟩]; first | done | with_reducible rfl) | (rw [if_pos ⟨by omega, by have hc1_ := HC1.out; omega⟩]; first | done | with_reducible rfl)
                                  rotate_left
                                  · simp only [Act.put, List.setIfInBounds_toArray, List.set_cons_zero, List.set_cons_succ, i64_w, i32_w]
                                    rfl
                                  refine pure_ (i := 12) (N := some 105) (v := ?_) (a' := ?_) #[true, true, true, true, true, true, true, true, false, true, true, true, true, false, false, false, false, false, false, false, false] rfl rfl (any_of HT_.out (by kernel_rfl)) (fun _ _ _ h => h) (Or.inl ⟨by rfl, ?_⟩) ?_ ?_
                                  rotate_left
                                  · intro w'
                                    go_simp
                                    first | (simp only [hji89n]; first | done | with_reducible rfl) | with_reducible rfl | (simp only [hji89n]; rw [if_pos ⟨by omega, by have hc1_ := HC1.out; omega⟩]; first | done | with_reducible rfl) | (rw [if_pos ⟨by omega, by have hc1_ := HC1.out; omega⟩]; first | done | with_reducible rfl)
                                  rotate_left
                                  · simp only [Act.put, List.setIfInBounds_toArray, List.set_cons_zero, List.set_cons_succ, i64_w, i32_w]
                                    rfl
                                  refine pure_ (i := 13) (N := some 106) (v := ?_) (a' := ?_) #[true, true, true, true, true, true, true, true, false, true, true, true, true, true, false, false, false, false, false, false, false] rfl rfl (any_of HT_.out (by kernel_rfl)) (fun _ _ _ h => h) (Or.inl ⟨by rfl, ?_⟩) ?_ ?_
                                  rotate_left
                                  · intro w'
                                    go_simp
                                    first | (simp only [hji89n]; first | done | with_reducible rfl) | with_reducible rfl | (simp only [hji89n]; rw [if_pos ⟨by omega, by have hc1_ := HC1.out; omega⟩]; first | done | with_reducible rfl) | (rw [if_pos ⟨by omega, by have hc1_ := HC1.out; omega⟩]; first | done | with_reducible rfl)
                                  rotate_left
                                  · simp only [Act.put, List.setIfInBounds_toArray, List.set_cons_zero, List.set_cons_succ, i64_w, i32_w]
                                    rfl
                                  refine pure_ (i := 14) (N := some 107) (v := ?_) (a' := ?_) #[true, true, true, true, true, true, true, true, false, true, true, true, true, true, true, false, false, false, false, false, false] rfl rfl (any_of HT_.out (by kernel_rfl)) (fun _ _ _ h => h) (Or.inl ⟨by rfl, ?_⟩) ?_ ?_
                                  rotate_left
                                  · intro w'
                                    go_simp
                                    first | (simp only [hji89n]; first | done | with_reducible rfl) | with_reducible rfl | (simp only [hji89n]; rw [if_pos ⟨by omega, by have hc1_ := HC1.out; omega⟩]; first | done | with_reducible rfl) | (rw [if_pos ⟨by omega, by have hc1_ := HC1.out; omega⟩]; first | done | with_reducible rfl)
                                  rotate_left
                                  · simp only [Act.put, List.setIfInBounds_toArray, List.set_cons_zero, List.set_cons_succ, i64_w, i32_w]
                                    rfl
                                  refine pure_ (i := 15) (N := some 108) (v := ?_) (a' := ?_) #[true, true, true, true, true, true, true, true, false, true, true, true, true, true, true, true, false, false, false, false, false] rfl rfl (any_of HT_.out (by kernel_rfl)) (fun _ _ _ h => h) (Or.inl ⟨by rfl, ?_⟩) ?_ ?_
                                  rotate_left
                                  · intro w'
                                    go_simp
                                    first | (simp only [hji89n]; first | done | with_reducible rfl) | with_reducible rfl | (simp only [hji89n]; rw [if_pos ⟨by omega, by have hc1_ := HC1.out; omega⟩]; first | done | with_reducible rfl) | (rw [if_pos ⟨by omega, by have hc1_ := HC1.out; omega⟩]; first | done | with_reducible rfl)
                                  rotate_left
                                  · simp only [Act.put, List.setIfInBounds_toArray, List.set_cons_zero, List.set_cons_succ, i64_w, i32_w]
                                    rfl
                                  refine one_ (i := 8) (N := some 101) #[true, true, true, true, true, true, true, true, true, true, true, true, true, true, true, true, false, false, false, false, false] rfl rfl (one_of HT_.out (by kernel_rfl)) (by decide) (fun K hK => ?_)
                                  refine goes_ Tryd.func20 (by kernel_rfl) rfl #[.slice A0 l0.length c0] (by rfl) rfl rfl (by (try simp only [List.map_toArray, List.map_cons, List.map_nil]); first | done | rfl | (simp only [List.length_drop, List.length_take]; rfl)) ?_
                                  with_reducible refine (rhizomelaw01_Ref.calls _ _ l0 t410 _ ?side1 ?side2 A88.out).mono ?_
                                  (case side1 => repeat (first | exact (Kd.C_below HR0.out HB.out) | (with_reducible refine Kd.C_alloc ?_ _) | (with_reducible refine Kd.C_drewN ?_ _) | (with_reducible refine Kd.C_drew ?_)))
                                  (case side2 => exact HC0.out)
                                  rintro e w99 ⟨v411, rfl, ho0, hb⟩
                                  refine ⟨_, rfl, ?_⟩
                                  have n0_ := Aside0.mk (Kd.V_elder' (by (with_reducible repeat (first | apply Kd.V_alloc | apply Kd.V_drewN | apply Kd.V_drew)); exact HO_6.out) (Kd.R_base ho0) hb)
                                  have n1_ := Aside0.mk (Kd.V_elder' (by (with_reducible repeat (first | apply Kd.V_alloc | apply Kd.V_drewN | apply Kd.V_drew)); exact HO_8.out) (Kd.R_base ho0) hb)
                                  have n2_ := Aside0.mk (Kd.R_lower ho0 (below_size (by repeat (first | (with_reducible first | exact HB.out | apply below_alloc | apply pw_below_drewN | apply below_drew1) | exact HB.out))))
                                  have n3_ := Aside0.mk (below_step (by repeat (first | (with_reducible first | exact HB.out | apply below_alloc | apply pw_below_drewN | apply below_drew1) | exact HB.out)) hb)
                                  clear HO_6
                                  clear HO_8
                                  clear HB
                                  have HO_6 := n0_
                                  have HO_8 := n1_
                                  have HO412 := n2_
                                  have HB := n3_
                                  clear n0_ n1_ n2_ n3_
                                  (try clear hb)
                                  (try clear hb2)
                                  (try clear hk)
                                  (try clear hi)
                                  (try clear ho0)
                                  refine hK.out _ _ trivial (fun hHeld => ?_)
                                  clear hK K
                                  refine norm_ (a' := ?_) ?_ ?_
                                  rotate_left
                                  · show Act.put _ (some 101) _ = _
                                    simp only [Act.put, List.setIfInBounds_toArray, List.set_cons_zero, List.set_cons_succ, i64_w, i32_w]
                                    rfl
                                  refine one_ (i := 16) (N := some 109) #[true, true, true, true, true, true, true, true, true, true, true, true, true, true, true, true, true, false, false, false, false] rfl rfl (one_of HT_.out (by kernel_rfl)) (by decide) (fun K hK => ?_)
                                  refine goes_ Tryd.func20 (by kernel_rfl) rfl #[.slice A1 y413.length c1] (by rfl) rfl rfl (by (try simp only [List.map_toArray, List.map_cons, List.map_nil]); first | done | rfl | (simp only [List.length_drop, List.length_take]; rfl) | (simp only [KY98.out]; rfl)) ?_
                                  with_reducible refine (rhizomelaw01_Ref.calls _ _ y413 t417 _ ?side1 ?side2 A92.out).mono ?_
                                  (case side1 => repeat (first | exact (Kd.C_below HR416.out HB.out) | (with_reducible refine Kd.C_alloc ?_ _) | (with_reducible refine Kd.C_drewN ?_ _) | (with_reducible refine Kd.C_drew ?_)))
                                  (case side2 => exact HC416.out)
                                  rintro e w100 ⟨v418, rfl, ho0, hb⟩
                                  refine ⟨_, rfl, ?_⟩
                                  have n0_ := Aside0.mk (Kd.V_elder' (by (with_reducible repeat (first | apply Kd.V_alloc | apply Kd.V_drewN | apply Kd.V_drew)); exact HO_6.out) (Kd.R_base ho0) hb)
                                  have n1_ := Aside0.mk (Kd.V_elder' (by (with_reducible repeat (first | apply Kd.V_alloc | apply Kd.V_drewN | apply Kd.V_drew)); exact HO_8.out) (Kd.R_base ho0) hb)
                                  have n2_ := Aside0.mk (Kd.R_elder' (by (with_reducible repeat (first | apply Kd.R_alloc | apply Kd.R_drewN | apply Kd.R_drew)); exact HO412.out) (Kd.R_base ho0) hb)
                                  have n3_ := Aside0.mk (Kd.R_lower (Kd.R_new' ho0 (Kd.R_lt (by (with_reducible repeat (first | apply Kd.R_alloc | apply Kd.R_drewN | apply Kd.R_drew)); exact HO412.out))) (below_size (by repeat (first | (with_reducible first | exact HB.out | apply below_alloc | apply pw_below_drewN | apply below_drew1) | exact HB.out))))
                                  have n4_ := Aside0.mk (below_step (by repeat (first | (with_reducible first | exact HB.out | apply below_alloc | apply pw_below_drewN | apply below_drew1) | exact HB.out)) hb)
                                  clear HO_6
                                  clear HO_8
                                  clear HO412
                                  clear HB
                                  have HO_6 := n0_
                                  have HO_8 := n1_
                                  have HO412 := n2_
                                  have HO419 := n3_
                                  have HB := n4_
                                  clear n0_ n1_ n2_ n3_ n4_
                                  (try clear hb)
                                  (try clear hb2)
                                  (try clear hk)
                                  (try clear hi)
                                  (try clear ho0)
                                  obtain ⟨Ao101, co101, eo101⟩ := Kd.R_slice HO412.out
                                  (first | subst eo101 | (injection eo101 with f1_ f2_ f3_; have f4_ := f1_.symm; have f5_ := f3_.symm; clear f1_ f2_ f3_; subst f4_; subst f5_))
                                  obtain ⟨Ao102, co102, eo102⟩ := Kd.R_slice HO419.out
                                  (first | subst eo102 | (injection eo102 with f1_ f2_ f3_; have f4_ := f1_.symm; have f5_ := f3_.symm; clear f1_ f2_ f3_; subst f4_; subst f5_))
                                  refine hK.out _ _ trivial (fun hHeld => ?_)
                                  clear hK K
                                  refine norm_ (a' := ?_) ?_ ?_
                                  rotate_left
                                  · show Act.put _ (some 109) _ = _
                                    simp only [Act.put, List.setIfInBounds_toArray, List.set_cons_zero, List.set_cons_succ, i64_w, i32_w]
                                    rfl
                                  refine one_ (i := 17) (N := some 110) #[true, true, true, true, true, true, true, true, true, true, true, true, true, true, true, true, true, true, false, false, false] rfl rfl (one_of HT_.out (by kernel_rfl)) (by decide) (fun K hK => ?_)
                                  refine goes_ Tryd.func23 (by kernel_rfl) rfl #[.slice Ao101 t410.length co101, .slice Ao102 t417.length co102] (by rfl) rfl rfl (by (try simp only [List.map_toArray, List.map_cons, List.map_nil]); first | done | rfl | (simp only [List.length_drop, List.length_take]; rfl)) ?_
                                  with_reducible refine (rhizomeref01_Same.calls kj47 _ _ t410 _ _ t417 t420 _ ?side1 ?side2 ?side3 ?side4 A93.out).mono ?_
                                  (case side1 => repeat (first | exact (Kd.R_reads' HO412.out).2.2 | (with_reducible refine Kd.C_alloc ?_ _) | (with_reducible refine Kd.C_drewN ?_ _) | (with_reducible refine Kd.C_drew ?_)))
                                  (case side2 => exact (Kd.R_reads' HO412.out).2.1)
                                  (case side3 => repeat (first | exact (Kd.R_reads' HO419.out).2.2 | (with_reducible refine Kd.C_alloc ?_ _) | (with_reducible refine Kd.C_drewN ?_ _) | (with_reducible refine Kd.C_drew ?_)))
                                  (case side4 => exact (Kd.R_reads' HO419.out).2.1)
                                  rintro e w103 ⟨rfl, hb⟩
                                  refine ⟨_, rfl, ?_⟩
                                  have n0_ := Aside0.mk (Kd.V_below (by (with_reducible repeat (first | apply Kd.V_alloc | apply Kd.V_drewN | apply Kd.V_drew)); exact HO_6.out) hb)
                                  have n1_ := Aside0.mk (Kd.V_below (by (with_reducible repeat (first | apply Kd.V_alloc | apply Kd.V_drewN | apply Kd.V_drew)); exact HO_8.out) hb)
                                  have n2_ := Aside0.mk (Kd.R_below (by (with_reducible repeat (first | apply Kd.R_alloc | apply Kd.R_drewN | apply Kd.R_drew)); exact HO412.out) hb)
                                  have n3_ := Aside0.mk (Kd.R_below (by (with_reducible repeat (first | apply Kd.R_alloc | apply Kd.R_drewN | apply Kd.R_drew)); exact HO419.out) hb)
                                  have n4_ := Aside0.mk (below_step (by repeat (first | (with_reducible first | exact HB.out | apply below_alloc | apply pw_below_drewN | apply below_drew1) | exact HB.out)) hb)
                                  clear HO_6
                                  clear HO_8
                                  clear HO412
                                  clear HO419
                                  clear HB
                                  have HO_6 := n0_
                                  have HO_8 := n1_
                                  have HO412 := n2_
                                  have HO419 := n3_
                                  have HB := n4_
                                  clear n0_ n1_ n2_ n3_ n4_
                                  (try clear hb)
                                  (try clear hb2)
                                  (try clear hk)
                                  (try clear hi)
                                  refine hK.out _ _ trivial (fun hHeld => ?_)
                                  clear hK K
                                  refine norm_ (a' := ?_) ?_ ?_
                                  rotate_left
                                  · show Act.put _ (some 110) _ = _
                                    simp only [Act.put, List.setIfInBounds_toArray, List.set_cons_zero, List.set_cons_succ, i64_w, i32_w]
                                    rfl
                                  refine pure_ (i := 18) (N := some 111) (v := ?_) (a' := ?_) #[true, true, true, true, true, true, true, true, true, true, true, true, true, true, true, true, true, true, true, false, false] rfl rfl (any_of HT_.out (by kernel_rfl)) (fun _ _ _ h => h) (Or.inl ⟨by rfl, ?_⟩) ?_ ?_
                                  rotate_left
                                  · intro w'
                                    go_simp
                                    first | (simp only [hji89n]; first | done | with_reducible rfl) | with_reducible rfl | (simp only [hji89n]; rw [if_pos ⟨by omega, by have hc1_ := HC1.out; omega⟩]; first | done | with_reducible rfl) | (rw [if_pos ⟨by omega, by have hc1_ := HC1.out; omega⟩]; first | done | with_reducible rfl)
                                  rotate_left
                                  · simp only [Act.put, List.setIfInBounds_toArray, List.set_cons_zero, List.set_cons_succ, i64_w, i32_w]
                                    rfl
                                  refine pure_ (i := 19) (N := some 112) (v := ?_) (a' := ?_) #[true, true, true, true, true, true, true, true, true, true, true, true, true, true, true, true, true, true, true, true, false] rfl rfl (any_of HT_.out (by kernel_rfl)) (fun _ _ _ h => h) (Or.inl ⟨by rfl, ?_⟩) ?_ ?_
                                  rotate_left
                                  · intro w'
                                    go_simp
                                    first | (simp only [hji89n]; first | done | with_reducible rfl) | with_reducible rfl | (simp only [hji89n]; rw [if_pos ⟨by omega, by have hc1_ := HC1.out; omega⟩]; first | done | with_reducible rfl) | (rw [if_pos ⟨by omega, by have hc1_ := HC1.out; omega⟩]; first | done | with_reducible rfl)
                                  rotate_left
                                  · simp only [Act.put, List.setIfInBounds_toArray, List.set_cons_zero, List.set_cons_succ, i64_w, i32_w]
                                    rfl
                                  refine pure_ (i := 20) (N := some 4) (v := ?_) (a' := ?_) #[true, true, true, true, true, true, true, true, true, true, true, true, true, true, true, true, true, true, true, true, true] rfl rfl (any_of HT_.out (by kernel_rfl)) (fun _ _ _ h => h) (Or.inl ⟨by rfl, ?_⟩) ?_ ?_
                                  rotate_left
                                  · intro w'
                                    go_simp
                                    first | (simp only [hji89n]; first | done | with_reducible rfl) | with_reducible rfl | (simp only [hji89n]; rw [if_pos ⟨by omega, by have hc1_ := HC1.out; omega⟩]; first | done | with_reducible rfl) | (rw [if_pos ⟨by omega, by have hc1_ := HC1.out; omega⟩]; first | done | with_reducible rfl)
                                  rotate_left
                                  · simp only [Act.put, List.setIfInBounds_toArray, List.set_cons_zero, List.set_cons_succ, i64_w, i32_w]
                                    rfl
                                  refine done_ (done_of HT_.out (by kernel_rfl)) ?_
                                  try go_wp2
                                  go_ret
                                  exact ⟨by first | rfl | (simp [errW_none, errW_some] <;> rfl) | (simp only [← hji89]; first | rfl | (simp [errW_none, errW_some] <;> rfl)) | (simp [*, errW_none, errW_some] <;> rfl), by repeat (first | (with_reducible first | exact HB.out | apply below_alloc | apply pw_below_drewN | apply below_drew1) | exact HB.out)⟩
                                · rw [if_neg c91] at H
                                  exact absurd H (by simp)
                              · rw [if_neg c90] at H
                                exact absurd H (by simp)
                            · rw [if_neg c87] at H
                              have c87b0 : decide ((l0.length : Int) ≤ (l1.length : Int)) = false := decide_eq_false c87
                              have c87b1 : decide (l0.length ≤ l1.length) = false := decide_eq_false (fun h => c87 (Int.ofNat_le.mpr h))
                              clear c87
                              obtain rfl := Option.some.inj H
                              try go_wp2
                              have n0_ := Aside0.mk (Kd.V_drew HO_6.out)
                              have n1_ := Aside0.mk (Kd.V_drew HO_8.out)
                              have n2_ := Aside0.mk (below_drew1 HB.out)
                              clear HO_6
                              clear HO_8
                              clear HB
                              have HO_6 := n0_
                              have HO_8 := n1_
                              have HB := n2_
                              clear n0_ n1_ n2_
                              obtain ⟨Ao105, co105, eo105⟩ := Kd.V_slice HO_6.out
                              (first | subst eo105 | (injection eo105 with f1_ f2_ f3_; have f4_ := f1_.symm; have f5_ := f3_.symm; clear f1_ f2_ f3_; subst f4_; subst f5_))
                              obtain ⟨Ao106, co106, eo106⟩ := Kd.V_slice HO_8.out
                              (first | subst eo106 | (injection eo106 with f1_ f2_ f3_; have f4_ := f1_.symm; have f5_ := f3_.symm; clear f1_ f2_ f3_; subst f4_; subst f5_))
                              refine start_ (n := 16) (S := fun w' => True) (ds := []) #[false, false, false, false, false, false, false, false, false, false, false, false, false, false, false, false] (by kernel_rfl) rfl rfl trivial (fun hHeld => ?_); refine with_tabW rhizomelaw01_KeyOrders.tab12 rhizomelaw01_KeyOrders.bits12 (fun HT_ HW_ => ?_)
                              generalize wc.drew = w104 at HO_6 HO_8 HB hHeld ⊢
                              refine pure_ (i := 0) (N := some 78) (v := ?_) (a' := ?_) #[true, false, false, false, false, false, false, false, false, false, false, false, false, false, false, false] rfl rfl (any_of HT_.out (by kernel_rfl)) (fun _ _ _ h => h) (Or.inl ⟨by rfl, ?_⟩) ?_ ?_
                              rotate_left
                              · intro w'
                                go_simp
                                first | (simp only [hji89n]; first | done | with_reducible rfl) | with_reducible rfl | (simp only [hji89n]; rw [if_pos ⟨by omega, by have hc1_ := HC1.out; omega⟩]; first | done | with_reducible rfl) | (rw [if_pos ⟨by omega, by have hc1_ := HC1.out; omega⟩]; first | done | with_reducible rfl)
                              rotate_left
                              · simp only [Act.put, List.setIfInBounds_toArray, List.set_cons_zero, List.set_cons_succ, i64_w, i32_w]
                                rfl
                              refine pure_ (i := 1) (N := some 79) (v := ?_) (a' := ?_) #[true, true, false, false, false, false, false, false, false, false, false, false, false, false, false, false] rfl rfl (any_of HT_.out (by kernel_rfl)) (fun _ _ _ h => h) (Or.inl ⟨by rfl, ?_⟩) ?_ ?_
                              rotate_left
                              · intro w'
                                go_simp
                                first | (simp only [hji89n]; first | done | with_reducible rfl) | with_reducible rfl | (simp only [hji89n]; rw [if_pos ⟨by omega, by have hc1_ := HC1.out; omega⟩]; first | done | with_reducible rfl) | (rw [if_pos ⟨by omega, by have hc1_ := HC1.out; omega⟩]; first | done | with_reducible rfl)
                              rotate_left
                              · simp only [Act.put, List.setIfInBounds_toArray, List.set_cons_zero, List.set_cons_succ, i64_w, i32_w]
                                rfl
                              refine pure_ (i := 2) (N := some 80) (v := ?_) (a' := ?_) #[true, true, true, false, false, false, false, false, false, false, false, false, false, false, false, false] rfl rfl (any_of HT_.out (by kernel_rfl)) (fun _ _ _ h => h) (Or.inl ⟨by rfl, ?_⟩) ?_ ?_
                              rotate_left
                              · intro w'
                                go_simp
                                first | (simp only [hji89n]; first | done | with_reducible rfl) | with_reducible rfl | (simp only [hji89n]; rw [if_pos ⟨by omega, by have hc1_ := HC1.out; omega⟩]; first | done | with_reducible rfl) | (rw [if_pos ⟨by omega, by have hc1_ := HC1.out; omega⟩]; first | done | with_reducible rfl)
                              rotate_left
                              · simp only [Act.put, List.setIfInBounds_toArray, List.set_cons_zero, List.set_cons_succ, i64_w, i32_w]
                                rfl
                              refine pure_ (i := 3) (N := some 81) (v := ?_) (a' := ?_) #[true, true, true, true, false, false, false, false, false, false, false, false, false, false, false, false] rfl rfl (any_of HT_.out (by kernel_rfl)) (fun _ _ _ h => h) (Or.inl ⟨by rfl, ?_⟩) ?_ ?_
                              rotate_left
                              · intro w'
                                go_simp
                                first | (simp only [hji89n]; first | done | with_reducible rfl) | with_reducible rfl | (simp only [hji89n]; rw [if_pos ⟨by omega, by have hc1_ := HC1.out; omega⟩]; first | done | with_reducible rfl) | (rw [if_pos ⟨by omega, by have hc1_ := HC1.out; omega⟩]; first | done | with_reducible rfl)
                              rotate_left
                              · simp only [Act.put, List.setIfInBounds_toArray, List.set_cons_zero, List.set_cons_succ, i64_w, i32_w]
                                rfl
                              refine pure_ (i := 4) (N := some 82) (v := ?_) (a' := ?_) #[true, true, true, true, true, false, false, false, false, false, false, false, false, false, false, false] rfl rfl (any_of HT_.out (by kernel_rfl)) (fun _ _ _ h => h) (Or.inl ⟨by rfl, ?_⟩) ?_ ?_
                              rotate_left
                              · intro w'
                                go_simp
                                first | (simp only [hji89n]; first | done | with_reducible rfl) | with_reducible rfl | (simp only [hji89n]; rw [if_pos ⟨by omega, by have hc1_ := HC1.out; omega⟩]; first | done | with_reducible rfl) | (rw [if_pos ⟨by omega, by have hc1_ := HC1.out; omega⟩]; first | done | with_reducible rfl)
                              rotate_left
                              · simp only [Act.put, List.setIfInBounds_toArray, List.set_cons_zero, List.set_cons_succ, i64_w, i32_w]
                                rfl
                              refine pure_ (i := 5) (N := some 83) (v := ?_) (a' := ?_) #[true, true, true, true, true, true, false, false, false, false, false, false, false, false, false, false] rfl rfl (any_of HT_.out (by kernel_rfl)) (fun _ _ _ h => h) (Or.inl ⟨by rfl, ?_⟩) ?_ ?_
                              rotate_left
                              · intro w'
                                go_simp
                                first | (simp only [hji89n]; first | done | with_reducible rfl) | with_reducible rfl | (simp only [hji89n]; rw [if_pos ⟨by omega, by have hc1_ := HC1.out; omega⟩]; first | done | with_reducible rfl) | (rw [if_pos ⟨by omega, by have hc1_ := HC1.out; omega⟩]; first | done | with_reducible rfl)
                              rotate_left
                              · simp only [Act.put, List.setIfInBounds_toArray, List.set_cons_zero, List.set_cons_succ, i64_w, i32_w]
                                rfl
                              refine pure_ (i := 6) (N := some 84) (v := undef) (a' := ?_) #[true, true, true, true, true, true, true, false, false, false, false, false, false, false, false, false] rfl rfl (any_of HT_.out (by kernel_rfl)) (fun _ _ _ h => h) (Or.inr ⟨by rfl, rfl⟩) ?_ ?_
                              rotate_left
                              · simp only [Act.put, List.setIfInBounds_toArray, List.set_cons_zero, List.set_cons_succ, i64_w, i32_w]
                                rfl
                              refine pure_ (i := 7) (N := some 85) (v := undef) (a' := ?_) #[true, true, true, true, true, true, true, true, false, false, false, false, false, false, false, false] rfl rfl (any_of HT_.out (by kernel_rfl)) (fun _ _ _ h => h) (Or.inr ⟨by rfl, rfl⟩) ?_ ?_
                              rotate_left
                              · simp only [Act.put, List.setIfInBounds_toArray, List.set_cons_zero, List.set_cons_succ, i64_w, i32_w]
                                rfl
                              refine pure_ (i := 8) (N := some 86) (v := undef) (a' := ?_) #[true, true, true, true, true, true, true, true, true, false, false, false, false, false, false, false] rfl rfl (any_of HT_.out (by kernel_rfl)) (fun _ _ _ h => h) (Or.inr ⟨by rfl, rfl⟩) ?_ ?_
                              rotate_left
                              · simp only [Act.put, List.setIfInBounds_toArray, List.set_cons_zero, List.set_cons_succ, i64_w, i32_w]
                                rfl
                              refine pure_ (i := 9) (N := some 87) (v := undef) (a' := ?_) #[true, true, true, true, true, true, true, true, true, true, false, false, false, false, false, false] rfl rfl (any_of HT_.out (by kernel_rfl)) (fun _ _ _ h => h) (Or.inr ⟨by rfl, rfl⟩) ?_ ?_
                              rotate_left
                              · simp only [Act.put, List.setIfInBounds_toArray, List.set_cons_zero, List.set_cons_succ, i64_w, i32_w]
                                rfl
                              refine pure_ (i := 10) (N := some 88) (v := undef) (a' := ?_) #[true, true, true, true, true, true, true, true, true, true, true, false, false, false, false, false] rfl rfl (any_of HT_.out (by kernel_rfl)) (fun _ _ _ h => h) (Or.inr ⟨by rfl, rfl⟩) ?_ ?_
                              rotate_left
                              · simp only [Act.put, List.setIfInBounds_toArray, List.set_cons_zero, List.set_cons_succ, i64_w, i32_w]
                                rfl
                              refine pure_ (i := 11) (N := some 89) (v := undef) (a' := ?_) #[true, true, true, true, true, true, true, true, true, true, true, true, false, false, false, false] rfl rfl (any_of HT_.out (by kernel_rfl)) (fun _ _ _ h => h) (Or.inr ⟨by rfl, rfl⟩) ?_ ?_
                              rotate_left
                              · simp only [Act.put, List.setIfInBounds_toArray, List.set_cons_zero, List.set_cons_succ, i64_w, i32_w]
                                rfl
                              refine pure_ (i := 12) (N := some 90) (v := undef) (a' := ?_) #[true, true, true, true, true, true, true, true, true, true, true, true, true, false, false, false] rfl rfl (any_of HT_.out (by kernel_rfl)) (fun _ _ _ h => h) (Or.inr ⟨by rfl, rfl⟩) ?_ ?_
                              rotate_left
                              · simp only [Act.put, List.setIfInBounds_toArray, List.set_cons_zero, List.set_cons_succ, i64_w, i32_w]
                                rfl
                              refine pure_ (i := 13) (N := some 91) (v := undef) (a' := ?_) #[true, true, true, true, true, true, true, true, true, true, true, true, true, true, false, false] rfl rfl (any_of HT_.out (by kernel_rfl)) (fun _ _ _ h => h) (Or.inr ⟨by rfl, rfl⟩) ?_ ?_
                              rotate_left
                              · simp only [Act.put, List.setIfInBounds_toArray, List.set_cons_zero, List.set_cons_succ, i64_w, i32_w]
                                rfl
                              refine pure_ (i := 14) (N := some 92) (v := ?_) (a' := ?_) #[true, true, true, true, true, true, true, true, true, true, true, true, true, true, true, false] rfl rfl (any_of HT_.out (by kernel_rfl)) (fun _ _ _ h => h) (Or.inl ⟨by rfl, ?_⟩) ?_ ?_
                              rotate_left
                              · intro w'
                                go_simp
                                first | (simp only [hji89n]; first | done | with_reducible rfl) | with_reducible rfl | (simp only [hji89n]; rw [if_pos ⟨by omega, by have hc1_ := HC1.out; omega⟩]; first | done | with_reducible rfl) | (rw [if_pos ⟨by omega, by have hc1_ := HC1.out; omega⟩]; first | done | with_reducible rfl)
                              rotate_left
                              · simp only [Act.put, List.setIfInBounds_toArray, List.set_cons_zero, List.set_cons_succ, i64_w, i32_w]
                                rfl
                              refine pure_ (i := 15) (N := some 10) (v := ?_) (a' := ?_) #[true, true, true, true, true, true, true, true, true, true, true, true, true, true, true, true] rfl rfl (any_of HT_.out (by kernel_rfl)) (fun _ _ _ h => h) (Or.inl ⟨by rfl, ?_⟩) ?_ ?_
                              rotate_left
                              · intro w'
                                go_simp
                                first | (simp only [hji89n]; first | done | with_reducible rfl) | with_reducible rfl | (simp only [hji89n]; rw [if_pos ⟨by omega, by have hc1_ := HC1.out; omega⟩]; first | done | with_reducible rfl) | (rw [if_pos ⟨by omega, by have hc1_ := HC1.out; omega⟩]; first | done | with_reducible rfl)
                              rotate_left
                              · simp only [Act.put, List.setIfInBounds_toArray, List.set_cons_zero, List.set_cons_succ, i64_w, i32_w]
                                rfl
                              refine done_ (done_of HT_.out (by kernel_rfl)) ?_
                              try go_wp2
                              have n0_ := Aside0.mk (Kd.V_drew HO_6.out)
                              have n1_ := Aside0.mk (Kd.V_drew HO_8.out)
                              have n2_ := Aside0.mk (below_drew1 HB.out)
                              clear HO_6
                              clear HO_8
                              clear HB
                              have HO_6 := n0_
                              have HO_8 := n1_
                              have HB := n2_
                              clear n0_ n1_ n2_
                              refine start_ (n := 21) (S := fun w' => True) (ds := []) #[false, false, false, false, false, false, false, false, false, false, false, false, false, false, false, false, false, false, false, false, false] (by kernel_rfl) rfl rfl trivial (fun hHeld => ?_); refine with_tabW rhizomelaw01_KeyOrders.tab13 rhizomelaw01_KeyOrders.bits13 (fun HT_ HW_ => ?_)
                              generalize w104.drew = w107 at HO_6 HO_8 HB hHeld ⊢
                              refine pure_ (i := 0) (N := some 93) (v := ?_) (a' := ?_) #[true, false, false, false, false, false, false, false, false, false, false, false, false, false, false, false, false, false, false, false, false] rfl rfl (any_of HT_.out (by kernel_rfl)) (fun _ _ _ h => h) (Or.inl ⟨by rfl, ?_⟩) ?_ ?_
                              rotate_left
                              · intro w'
                                go_simp
                                first | (simp only [hji89n]; first | done | with_reducible rfl) | with_reducible rfl | (simp only [hji89n]; rw [if_pos ⟨by omega, by have hc1_ := HC1.out; omega⟩]; first | done | with_reducible rfl) | (rw [if_pos ⟨by omega, by have hc1_ := HC1.out; omega⟩]; first | done | with_reducible rfl)
                              rotate_left
                              · simp only [Act.put, List.setIfInBounds_toArray, List.set_cons_zero, List.set_cons_succ, i64_w, i32_w]
                                rfl
                              refine pure_ (i := 1) (N := some 94) (v := ?_) (a' := ?_) #[true, true, false, false, false, false, false, false, false, false, false, false, false, false, false, false, false, false, false, false, false] rfl rfl (any_of HT_.out (by kernel_rfl)) (fun _ _ _ h => h) (Or.inl ⟨by rfl, ?_⟩) ?_ ?_
                              rotate_left
                              · intro w'
                                go_simp
                                first | (simp only [hji89n]; first | done | with_reducible rfl) | with_reducible rfl | (simp only [hji89n]; rw [if_pos ⟨by omega, by have hc1_ := HC1.out; omega⟩]; first | done | with_reducible rfl) | (rw [if_pos ⟨by omega, by have hc1_ := HC1.out; omega⟩]; first | done | with_reducible rfl)
                              rotate_left
                              · simp only [Act.put, List.setIfInBounds_toArray, List.set_cons_zero, List.set_cons_succ, i64_w, i32_w]
                                rfl
                              refine pure_ (i := 2) (N := some 95) (v := ?_) (a' := ?_) #[true, true, true, false, false, false, false, false, false, false, false, false, false, false, false, false, false, false, false, false, false] rfl rfl (any_of HT_.out (by kernel_rfl)) (fun _ _ _ h => h) (Or.inl ⟨by rfl, ?_⟩) ?_ ?_
                              rotate_left
                              · intro w'
                                go_simp
                                first | (simp only [hji89n]; first | done | with_reducible rfl) | with_reducible rfl | (simp only [hji89n]; rw [if_pos ⟨by omega, by have hc1_ := HC1.out; omega⟩]; first | done | with_reducible rfl) | (rw [if_pos ⟨by omega, by have hc1_ := HC1.out; omega⟩]; first | done | with_reducible rfl)
                              rotate_left
                              · simp only [Act.put, List.setIfInBounds_toArray, List.set_cons_zero, List.set_cons_succ, i64_w, i32_w]
                                rfl
                              refine pure_ (i := 3) (N := some 96) (v := ?_) (a' := ?_) #[true, true, true, true, false, false, false, false, false, false, false, false, false, false, false, false, false, false, false, false, false] rfl rfl (any_of HT_.out (by kernel_rfl)) (fun _ _ _ h => h) (Or.inl ⟨by rfl, ?_⟩) ?_ ?_
                              rotate_left
                              · intro w'
                                go_simp
                                first | (simp only [hji89n]; first | done | with_reducible rfl) | with_reducible rfl | (simp only [hji89n]; rw [if_pos ⟨by omega, by have hc1_ := HC1.out; omega⟩]; first | done | with_reducible rfl) | (rw [if_pos ⟨by omega, by have hc1_ := HC1.out; omega⟩]; first | done | with_reducible rfl)
                              rotate_left
                              · simp only [Act.put, List.setIfInBounds_toArray, List.set_cons_zero, List.set_cons_succ, i64_w, i32_w]
                                rfl
                              refine pure_ (i := 4) (N := some 97) (v := ?_) (a' := ?_) #[true, true, true, true, true, false, false, false, false, false, false, false, false, false, false, false, false, false, false, false, false] rfl rfl (any_of HT_.out (by kernel_rfl)) (fun _ _ _ h => h) (Or.inl ⟨by rfl, ?_⟩) ?_ ?_
                              rotate_left
                              · intro w'
                                go_simp
                                first | (simp only [hji89n]; first | done | with_reducible rfl) | with_reducible rfl | (simp only [hji89n]; rw [if_pos ⟨by omega, by have hc1_ := HC1.out; omega⟩]; first | done | with_reducible rfl) | (rw [if_pos ⟨by omega, by have hc1_ := HC1.out; omega⟩]; first | done | with_reducible rfl)
                              rotate_left
                              · simp only [Act.put, List.setIfInBounds_toArray, List.set_cons_zero, List.set_cons_succ, i64_w, i32_w]
                                rfl
                              refine pure_ (i := 5) (N := some 98) (v := ?_) (a' := ?_) #[true, true, true, true, true, true, false, false, false, false, false, false, false, false, false, false, false, false, false, false, false] rfl rfl (any_of HT_.out (by kernel_rfl)) (fun _ _ _ h => h) (Or.inl ⟨by rfl, ?_⟩) ?_ ?_
                              rotate_left
                              · intro w'
                                go_simp
                                first | (simp only [hji89n]; first | done | with_reducible rfl) | with_reducible rfl | (simp only [hji89n]; rw [if_pos ⟨by omega, by have hc1_ := HC1.out; omega⟩]; first | done | with_reducible rfl) | (rw [if_pos ⟨by omega, by have hc1_ := HC1.out; omega⟩]; first | done | with_reducible rfl)
                              rotate_left
                              · simp only [Act.put, List.setIfInBounds_toArray, List.set_cons_zero, List.set_cons_succ, i64_w, i32_w]
                                rfl
                              refine pure_ (i := 6) (N := some 99) (v := ?_) (a' := ?_) #[true, true, true, true, true, true, true, false, false, false, false, false, false, false, false, false, false, false, false, false, false] rfl rfl (any_of HT_.out (by kernel_rfl)) (fun _ _ _ h => h) (Or.inl ⟨by rfl, ?_⟩) ?_ ?_
                              rotate_left
                              · intro w'
                                go_simp
                                first | (simp only [hji89n]; first | done | with_reducible rfl) | with_reducible rfl | (simp only [hji89n]; rw [if_pos ⟨by omega, by have hc1_ := HC1.out; omega⟩]; first | done | with_reducible rfl) | (rw [if_pos ⟨by omega, by have hc1_ := HC1.out; omega⟩]; first | done | with_reducible rfl)
                              rotate_left
                              · simp only [Act.put, List.setIfInBounds_toArray, List.set_cons_zero, List.set_cons_succ, i64_w, i32_w]
                                rfl
                              refine pure_ (i := 7) (N := some 100) (v := undef) (a' := ?_) #[true, true, true, true, true, true, true, true, false, false, false, false, false, false, false, false, false, false, false, false, false] rfl rfl (any_of HT_.out (by kernel_rfl)) (fun _ _ _ h => h) (Or.inr ⟨by rfl, rfl⟩) ?_ ?_
                              rotate_left
                              · simp only [Act.put, List.setIfInBounds_toArray, List.set_cons_zero, List.set_cons_succ, i64_w, i32_w]
                                rfl
                              refine pure_ (i := 8) (N := some 101) (v := undef) (a' := ?_) #[true, true, true, true, true, true, true, true, true, false, false, false, false, false, false, false, false, false, false, false, false] rfl rfl (any_of HT_.out (by kernel_rfl)) (fun _ _ _ h => h) (Or.inr ⟨by rfl, rfl⟩) ?_ ?_
                              rotate_left
                              · simp only [Act.put, List.setIfInBounds_toArray, List.set_cons_zero, List.set_cons_succ, i64_w, i32_w]
                                rfl
                              refine pure_ (i := 9) (N := some 102) (v := undef) (a' := ?_) #[true, true, true, true, true, true, true, true, true, true, false, false, false, false, false, false, false, false, false, false, false] rfl rfl (any_of HT_.out (by kernel_rfl)) (fun _ _ _ h => h) (Or.inr ⟨by rfl, rfl⟩) ?_ ?_
                              rotate_left
                              · simp only [Act.put, List.setIfInBounds_toArray, List.set_cons_zero, List.set_cons_succ, i64_w, i32_w]
                                rfl
                              refine pure_ (i := 10) (N := some 103) (v := undef) (a' := ?_) #[true, true, true, true, true, true, true, true, true, true, true, false, false, false, false, false, false, false, false, false, false] rfl rfl (any_of HT_.out (by kernel_rfl)) (fun _ _ _ h => h) (Or.inr ⟨by rfl, rfl⟩) ?_ ?_
                              rotate_left
                              · simp only [Act.put, List.setIfInBounds_toArray, List.set_cons_zero, List.set_cons_succ, i64_w, i32_w]
                                rfl
                              refine pure_ (i := 11) (N := some 104) (v := undef) (a' := ?_) #[true, true, true, true, true, true, true, true, true, true, true, true, false, false, false, false, false, false, false, false, false] rfl rfl (any_of HT_.out (by kernel_rfl)) (fun _ _ _ h => h) (Or.inr ⟨by rfl, rfl⟩) ?_ ?_
                              rotate_left
                              · simp only [Act.put, List.setIfInBounds_toArray, List.set_cons_zero, List.set_cons_succ, i64_w, i32_w]
                                rfl
                              refine pure_ (i := 12) (N := some 105) (v := undef) (a' := ?_) #[true, true, true, true, true, true, true, true, true, true, true, true, true, false, false, false, false, false, false, false, false] rfl rfl (any_of HT_.out (by kernel_rfl)) (fun _ _ _ h => h) (Or.inr ⟨by rfl, rfl⟩) ?_ ?_
                              rotate_left
                              · simp only [Act.put, List.setIfInBounds_toArray, List.set_cons_zero, List.set_cons_succ, i64_w, i32_w]
                                rfl
                              refine pure_ (i := 13) (N := some 106) (v := undef) (a' := ?_) #[true, true, true, true, true, true, true, true, true, true, true, true, true, true, false, false, false, false, false, false, false] rfl rfl (any_of HT_.out (by kernel_rfl)) (fun _ _ _ h => h) (Or.inr ⟨by rfl, rfl⟩) ?_ ?_
                              rotate_left
                              · simp only [Act.put, List.setIfInBounds_toArray, List.set_cons_zero, List.set_cons_succ, i64_w, i32_w]
                                rfl
                              refine pure_ (i := 14) (N := some 107) (v := undef) (a' := ?_) #[true, true, true, true, true, true, true, true, true, true, true, true, true, true, true, false, false, false, false, false, false] rfl rfl (any_of HT_.out (by kernel_rfl)) (fun _ _ _ h => h) (Or.inr ⟨by rfl, rfl⟩) ?_ ?_
                              rotate_left
                              · simp only [Act.put, List.setIfInBounds_toArray, List.set_cons_zero, List.set_cons_succ, i64_w, i32_w]
                                rfl
                              refine pure_ (i := 15) (N := some 108) (v := undef) (a' := ?_) #[true, true, true, true, true, true, true, true, true, true, true, true, true, true, true, true, false, false, false, false, false] rfl rfl (any_of HT_.out (by kernel_rfl)) (fun _ _ _ h => h) (Or.inr ⟨by rfl, rfl⟩) ?_ ?_
                              rotate_left
                              · simp only [Act.put, List.setIfInBounds_toArray, List.set_cons_zero, List.set_cons_succ, i64_w, i32_w]
                                rfl
                              refine pure_ (i := 16) (N := some 109) (v := undef) (a' := ?_) #[true, true, true, true, true, true, true, true, true, true, true, true, true, true, true, true, true, false, false, false, false] rfl rfl (any_of HT_.out (by kernel_rfl)) (fun _ _ _ h => h) (Or.inr ⟨by rfl, rfl⟩) ?_ ?_
                              rotate_left
                              · simp only [Act.put, List.setIfInBounds_toArray, List.set_cons_zero, List.set_cons_succ, i64_w, i32_w]
                                rfl
                              refine pure_ (i := 17) (N := some 110) (v := undef) (a' := ?_) #[true, true, true, true, true, true, true, true, true, true, true, true, true, true, true, true, true, true, false, false, false] rfl rfl (any_of HT_.out (by kernel_rfl)) (fun _ _ _ h => h) (Or.inr ⟨by rfl, rfl⟩) ?_ ?_
                              rotate_left
                              · simp only [Act.put, List.setIfInBounds_toArray, List.set_cons_zero, List.set_cons_succ, i64_w, i32_w]
                                rfl
                              refine pure_ (i := 18) (N := some 111) (v := ?_) (a' := ?_) #[true, true, true, true, true, true, true, true, true, true, true, true, true, true, true, true, true, true, true, false, false] rfl rfl (any_of HT_.out (by kernel_rfl)) (fun _ _ _ h => h) (Or.inl ⟨by rfl, ?_⟩) ?_ ?_
                              rotate_left
                              · intro w'
                                go_simp
                                first | (simp only [hji89n]; first | done | with_reducible rfl) | with_reducible rfl | (simp only [hji89n]; rw [if_pos ⟨by omega, by have hc1_ := HC1.out; omega⟩]; first | done | with_reducible rfl) | (rw [if_pos ⟨by omega, by have hc1_ := HC1.out; omega⟩]; first | done | with_reducible rfl)
                              rotate_left
                              · simp only [Act.put, List.setIfInBounds_toArray, List.set_cons_zero, List.set_cons_succ, i64_w, i32_w]
                                rfl
                              refine pure_ (i := 19) (N := some 112) (v := ?_) (a' := ?_) #[true, true, true, true, true, true, true, true, true, true, true, true, true, true, true, true, true, true, true, true, false] rfl rfl (any_of HT_.out (by kernel_rfl)) (fun _ _ _ h => h) (Or.inl ⟨by rfl, ?_⟩) ?_ ?_
                              rotate_left
                              · intro w'
                                go_simp
                                first | (simp only [hji89n]; first | done | with_reducible rfl) | with_reducible rfl | (simp only [hji89n]; rw [if_pos ⟨by omega, by have hc1_ := HC1.out; omega⟩]; first | done | with_reducible rfl) | (rw [if_pos ⟨by omega, by have hc1_ := HC1.out; omega⟩]; first | done | with_reducible rfl)
                              rotate_left
                              · simp only [Act.put, List.setIfInBounds_toArray, List.set_cons_zero, List.set_cons_succ, i64_w, i32_w]
                                rfl
                              refine pure_ (i := 20) (N := some 4) (v := ?_) (a' := ?_) #[true, true, true, true, true, true, true, true, true, true, true, true, true, true, true, true, true, true, true, true, true] rfl rfl (any_of HT_.out (by kernel_rfl)) (fun _ _ _ h => h) (Or.inl ⟨by rfl, ?_⟩) ?_ ?_
                              rotate_left
                              · intro w'
                                go_simp
                                first | (simp only [hji89n]; first | done | with_reducible rfl) | with_reducible rfl | (simp only [hji89n]; rw [if_pos ⟨by omega, by have hc1_ := HC1.out; omega⟩]; first | done | with_reducible rfl) | (rw [if_pos ⟨by omega, by have hc1_ := HC1.out; omega⟩]; first | done | with_reducible rfl)
                              rotate_left
                              · simp only [Act.put, List.setIfInBounds_toArray, List.set_cons_zero, List.set_cons_succ, i64_w, i32_w]
                                rfl
                              refine done_ (done_of HT_.out (by kernel_rfl)) ?_
                              try go_wp2
                              go_ret
                              exact ⟨by first | rfl | (simp [errW_none, errW_some] <;> rfl) | (simp [*, errW_none, errW_some] <;> rfl), by repeat (first | (with_reducible first | exact HB.out | apply below_alloc | apply pw_below_drewN | apply below_drew1) | exact HB.out)⟩

end Go.Proofs.YtamaoileeipgeaaDoor.XKey
