-- Written by xprint.py (a program of this session's repo) over the kit's print; Lean checks it.
import Derived.Test.YtamaoileeipgeaaDoorXKey0
import Derived.Test.YtamaoileeipgeaaDoorXKey2
import Derived.Test.YtamaoileeipgeaaDoorXKey5
import Derived.Test.YtamaoileeipgeaaDoorXCmp
namespace Go.Proofs.YtamaoileeipgeaaDoor.XKey
open Go.RowKit Go.Proofs.YtamaoileeipgeaaDoorW.PrintWords Go.Proofs.YtamaoileeipgeaaDoorW.PrintLast Go.Proofs.YtamaoileeipgeaaDoorW.PrintMore
attribute [local go_sem] max2_int min2_int max_two min_two max_three min_three max_four min_four   -- for this text's walks alone
set_option linter.unusedVariables false
set_option linter.unusedSimpArgs false

/-! ### rhizomelaw01_KeyThree: function 9 -/
mutual
def rhizomelaw01_KeyThree.j0 : Nat → List (S31) → List (S31) → List (S31) → Bool → Option (Bool)
  | 0, _, _, _, _ => none
  | k + 1, x0, x1, x2, x25 => if x25 = true then ((rhizomelaw01_awake.f k).bind fun t425 => (some t425)) else ((key_Cmp.f x0 x1).bind fun t426 => (if t426 ≤ 0 then ((key_Cmp.f x1 x2).bind fun t427 => (if t427 ≤ 0 then ((key_Cmp.f x0 x2).bind fun t428 => (rhizomelaw01_KeyThree.j1 k x0 x2 (decide (t428 > 0)))) else (rhizomelaw01_KeyThree.j1 k x0 x2 false))) else (rhizomelaw01_KeyThree.j1 k x0 x2 false)))
def rhizomelaw01_KeyThree.j1 : Nat → List (S31) → List (S31) → Bool → Option (Bool)
  | 0, _, _, _ => none
  | k + 1, x0, x2, x42 => if x42 = true then (some false) else (rhizomelaw01_KeyThree.l0 k x0 x2 (x2.length : Int) 0)
def rhizomelaw01_KeyThree.l0 : Nat → List (S31) → List (S31) → Int → Int → Option (Bool)
  | 0, _, _, _, _ => none
  | k + 1, x0, x43, x44, x45 => if x45 < x44 then (if 0 ≤ x45 then (if x45 < (x43.length : Int) then ((rhizomelaw01_own.f x0).bind fun t432 => ((some (([(⟨(rd_T31 x43 x45).f0, (rd_T31 x43 x45).f1, (rd_T31 x43 x45).f2⟩ : S31)] : List (S31)) : List (S31))).bind fun y435 => (if t432.length + y435.length < 4398046511104 then ((key_Cmp.f x0 (t432 ++ y435)).bind fun t441 => (if t441 = (-1) then ((rhizomelaw01_own.f x0).bind fun t442 => ((some (([(⟨(rd_T31 x43 x45).f0, (rd_T31 x43 x45).f1, (rd_T31 x43 x45).f2⟩ : S31)] : List (S31)) : List (S31))).bind fun y445 => (if t442.length + y445.length < 4398046511104 then ((key_Cmp.f (t442 ++ y445) x0).bind fun t451 => (if t451 = 1 then (rhizomelaw01_KeyThree.l0 k x0 x43 x44 (wrap64 (x45 + 1))) else (some false))) else (none)))) else (some false))) else (none)))) else (none)) else (none)) else ((key_Cmp.f x0 x0).bind fun t429 => (some (t429 == 0)))
end
def rhizomelaw01_KeyThree.f (k : Nat) (l0 : List (S31)) (l1 : List (S31)) (l2 : List (S31)) : Option (Bool) := (rhizomelaw01_awake.f k).bind fun t421 => (if t421 = true then ((rhizomelaw01_few.f k l0).bind fun t422 => (if t422 = true then ((rhizomelaw01_few.f k l1).bind fun t423 => (if t423 = true then ((rhizomelaw01_few.f k l2).bind fun t424 => (rhizomelaw01_KeyThree.j0 k l0 l1 l2 (!t424))) else (rhizomelaw01_KeyThree.j0 k l0 l1 l2 true))) else (rhizomelaw01_KeyThree.j0 k l0 l1 l2 true))) else (rhizomelaw01_KeyThree.j0 k l0 l1 l2 true))
theorem rhizomelaw01_KeyThree.mono_l : ∀ k, (∀ y0 y1 y2 y3, LeO (rhizomelaw01_KeyThree.j0 k y0 y1 y2 y3) (rhizomelaw01_KeyThree.j0 (k + 1) y0 y1 y2 y3)) ∧ (∀ y0 y1 y2, LeO (rhizomelaw01_KeyThree.j1 k y0 y1 y2) (rhizomelaw01_KeyThree.j1 (k + 1) y0 y1 y2)) ∧ (∀ y0 y1 y2 y3, LeO (rhizomelaw01_KeyThree.l0 k y0 y1 y2 y3) (rhizomelaw01_KeyThree.l0 (k + 1) y0 y1 y2 y3))
  | 0 => ⟨fun _ _ _ _ r h => by simp [rhizomelaw01_KeyThree.j0] at h, fun _ _ _ r h => by simp [rhizomelaw01_KeyThree.j1] at h, fun _ _ _ _ r h => by simp [rhizomelaw01_KeyThree.l0] at h⟩
  | k + 1 => by
    obtain ⟨ih0, ih1, ih2⟩ := rhizomelaw01_KeyThree.mono_l k
    refine ⟨?_, ?_, ?_⟩
    · intro y0 y1 y2 y3
      unfold rhizomelaw01_KeyThree.j0
      repeat' first
      | (with_reducible exact ih0 _ _ _ _)
      | (with_reducible exact ih1 _ _ _)
      | (with_reducible exact ih2 _ _ _ _)
      | (with_reducible exact rhizomelaw01_awake.mono _)
      | (with_reducible exact rhizomelaw01_few.mono _ _)
      | (with_reducible exact LeO.refl _)
      | (with_reducible exact LeO.none _)
      | (with_reducible refine LeO.ite ?_ ?_)
      | (with_reducible refine LeO.bind ?_ (fun _ => ?_))
      | exact ih0 _ _ _ _
      | exact ih1 _ _ _
      | exact ih2 _ _ _ _
      | exact rhizomelaw01_awake.mono _
      | exact rhizomelaw01_few.mono _ _
      | exact LeO.none _
      | refine LeO.ite ?_ ?_
      | refine LeO.bind ?_ (fun _ => ?_)
    · intro y0 y1 y2
      unfold rhizomelaw01_KeyThree.j1
      repeat' first
      | (with_reducible exact ih0 _ _ _ _)
      | (with_reducible exact ih1 _ _ _)
      | (with_reducible exact ih2 _ _ _ _)
      | (with_reducible exact rhizomelaw01_awake.mono _)
      | (with_reducible exact rhizomelaw01_few.mono _ _)
      | (with_reducible exact LeO.refl _)
      | (with_reducible exact LeO.none _)
      | (with_reducible refine LeO.ite ?_ ?_)
      | (with_reducible refine LeO.bind ?_ (fun _ => ?_))
      | exact ih0 _ _ _ _
      | exact ih1 _ _ _
      | exact ih2 _ _ _ _
      | exact rhizomelaw01_awake.mono _
      | exact rhizomelaw01_few.mono _ _
      | exact LeO.none _
      | refine LeO.ite ?_ ?_
      | refine LeO.bind ?_ (fun _ => ?_)
    · intro y0 y1 y2 y3
      unfold rhizomelaw01_KeyThree.l0
      repeat' first
      | (with_reducible exact ih0 _ _ _ _)
      | (with_reducible exact ih1 _ _ _)
      | (with_reducible exact ih2 _ _ _ _)
      | (with_reducible exact rhizomelaw01_awake.mono _)
      | (with_reducible exact rhizomelaw01_few.mono _ _)
      | (with_reducible exact LeO.refl _)
      | (with_reducible exact LeO.none _)
      | (with_reducible refine LeO.ite ?_ ?_)
      | (with_reducible refine LeO.bind ?_ (fun _ => ?_))
      | exact ih0 _ _ _ _
      | exact ih1 _ _ _
      | exact ih2 _ _ _ _
      | exact rhizomelaw01_awake.mono _
      | exact rhizomelaw01_few.mono _ _
      | exact LeO.none _
      | refine LeO.ite ?_ ?_
      | refine LeO.bind ?_ (fun _ => ?_)
theorem rhizomelaw01_KeyThree.mono : ∀ a0 a1 a2 k, LeO (rhizomelaw01_KeyThree.f k a0 a1 a2) (rhizomelaw01_KeyThree.f (k + 1) a0 a1 a2) := by
  intro a0 a1 a2 k
  obtain ⟨ih0, ih1, ih2⟩ := rhizomelaw01_KeyThree.mono_l k
  unfold rhizomelaw01_KeyThree.f
  repeat' first
      | (with_reducible exact ih0 _ _ _ _)
      | (with_reducible exact ih1 _ _ _)
      | (with_reducible exact ih2 _ _ _ _)
      | (with_reducible exact rhizomelaw01_awake.mono _)
      | (with_reducible exact rhizomelaw01_few.mono _ _)
      | (with_reducible exact LeO.refl _)
      | (with_reducible exact LeO.none _)
      | (with_reducible refine LeO.ite ?_ ?_)
      | (with_reducible refine LeO.bind ?_ (fun _ => ?_))
      | exact ih0 _ _ _ _
      | exact ih1 _ _ _
      | exact ih2 _ _ _ _
      | exact rhizomelaw01_awake.mono _
      | exact rhizomelaw01_few.mono _ _
      | exact LeO.none _
      | refine LeO.ite ?_ ?_
      | refine LeO.bind ?_ (fun _ => ?_)
def rhizomelaw01_KeyThree.T8 : Bool × List (List Nat × List Nat) := (true, [([], []), ([], []), ([1], [1]), ([], []), ([3], [3]), ([2, 4, 2], [2, 4]), ([0, 5, 5], [0, 5]), ([6], [6]), ([7, 6], [7]), ([8], [8]), ([9, 8, 8], [8, 9]), ([8], [8]), ([11, 8], [8, 11]), ([10, 12, 10, 8], [8, 10, 12]), ([8], [8]), ([13, 14, 13, 8], [8, 13, 14]), ([15, 8], [8, 15]), ([8, 16], [8, 16])])
def rhizomelaw01_KeyThree.B8 : List Nat := [0, 0, 2, 0, 8, 30, 63, 127, 255, 511, 1023, 511, 2559, 8191, 511, 32767, 65535, 131071]
theorem rhizomelaw01_KeyThree.tab8 : rtab .any (opsOf Tryd.f9 8) = rhizomelaw01_KeyThree.T8 := by kernel_rfl
theorem rhizomelaw01_KeyThree.bits8 : waitsOk rhizomelaw01_KeyThree.T8.2 rhizomelaw01_KeyThree.B8 = true := by kernel_rfl
set_option maxHeartbeats 8000000 in
set_option maxRecDepth 100000 in
theorem rhizomelaw01_KeyThree.calls (k : Nat) (A0 : Option Addr) (c0 : Nat) (l0 : List (S31)) (A1 : Option Addr) (c1 : Nat) (l1 : List (S31)) (A2 : Option Addr) (c2 : Nat) (l2 : List (S31)) (r : Bool) (w : World) (hr0 : Kd.C k31 w A0 l0.length l0) (hc0 : l0.length ≤ c0) (hr1 : Kd.C k31 w A1 l1.length l1) (hc1 : l1.length ≤ c1) (hr2 : Kd.C k31 w A2 l2.length l2) (hc2 : l2.length ≤ c2) (h : rhizomelaw01_KeyThree.f k l0 l1 l2 = some r) :
    Calls Tryd.prog 9 #[.slice A0 l0.length c0, .slice A1 l1.length c1, .slice A2 l2.length c2] w fun e w' => e = .returned (.bool r) ∧ Below w.heap.size w w' := by
  have hu31 := Tryd.underlying31
  have HR0 := Aside0.mk hr0
  have HC0 := Aside0.mk hc0
  clear hr0 hc0
  have HR1 := Aside0.mk hr1
  have HC1 := Aside0.mk hc1
  clear hr1 hc1
  have HR2 := Aside0.mk hr2
  have HC2 := Aside0.mk hc2
  clear hr2 hc2
  have HB := Aside0.mk (Below.refl w.heap.size w)
  have H : ((rhizomelaw01_awake.f k).bind fun t421 => (if t421 = true then ((rhizomelaw01_few.f k l0).bind fun t422 => (if t422 = true then ((rhizomelaw01_few.f k l1).bind fun t423 => (if t423 = true then ((rhizomelaw01_few.f k l2).bind fun t424 => (rhizomelaw01_KeyThree.j0 k l0 l1 l2 (!t424))) else (rhizomelaw01_KeyThree.j0 k l0 l1 l2 true))) else (rhizomelaw01_KeyThree.j0 k l0 l1 l2 true))) else (rhizomelaw01_KeyThree.j0 k l0 l1 l2 true))) = some r := h
  clear h
  have HC4 := Aside0.mk H
  clear H
  go_enter Tryd.func9, Tryd.ntmps9
  go_upto_region 1 with (fail)
  go_cut [25] (fun v25 wc => ∃ (kq : Nat) (x25_3 : Bool), v25 = .bool x25_3 ∧ Aside0 (rhizomelaw01_KeyThree.j0 kq l0 l1 l2 x25_3 = some r) ∧ Aside0 (kq ≤ k) ∧ Aside0 (Below w.heap.size w wc))
  case first =>
    have H := HC4.out
    clear HC4
    replace H := Option.bind_eq_some_iff.mp H
    obtain ⟨t421, A50, H⟩ := H
    replace H : (if t421 = true then ((rhizomelaw01_few.f k l0).bind fun t422 => (if t422 = true then ((rhizomelaw01_few.f k l1).bind fun t423 => (if t423 = true then ((rhizomelaw01_few.f k l2).bind fun t424 => (rhizomelaw01_KeyThree.j0 k l0 l1 l2 (!t424))) else (rhizomelaw01_KeyThree.j0 k l0 l1 l2 true))) else (rhizomelaw01_KeyThree.j0 k l0 l1 l2 true))) else (rhizomelaw01_KeyThree.j0 k l0 l1 l2 true)) = some r := H
    have A5 := Aside0.mk A50
    clear A50
    by_cases c6 : t421 = true
    · subst c6
      have H1 : ((rhizomelaw01_few.f k l0).bind fun t422 => (if t422 = true then ((rhizomelaw01_few.f k l1).bind fun t423 => (if t423 = true then ((rhizomelaw01_few.f k l2).bind fun t424 => (rhizomelaw01_KeyThree.j0 k l0 l1 l2 (!t424))) else (rhizomelaw01_KeyThree.j0 k l0 l1 l2 true))) else (rhizomelaw01_KeyThree.j0 k l0 l1 l2 true))) = some r := by rw [if_pos rfl] at H; exact H
      clear H
      have H := H1
      clear H1
      replace H := Option.bind_eq_some_iff.mp H
      obtain ⟨t422, A70, H⟩ := H
      replace H : (if t422 = true then ((rhizomelaw01_few.f k l1).bind fun t423 => (if t423 = true then ((rhizomelaw01_few.f k l2).bind fun t424 => (rhizomelaw01_KeyThree.j0 k l0 l1 l2 (!t424))) else (rhizomelaw01_KeyThree.j0 k l0 l1 l2 true))) else (rhizomelaw01_KeyThree.j0 k l0 l1 l2 true)) = some r := H
      have A7 := Aside0.mk A70
      clear A70
      by_cases c8 : t422 = true
      · subst c8
        have H1 : ((rhizomelaw01_few.f k l1).bind fun t423 => (if t423 = true then ((rhizomelaw01_few.f k l2).bind fun t424 => (rhizomelaw01_KeyThree.j0 k l0 l1 l2 (!t424))) else (rhizomelaw01_KeyThree.j0 k l0 l1 l2 true))) = some r := by rw [if_pos rfl] at H; exact H
        clear H
        have H := H1
        clear H1
        replace H := Option.bind_eq_some_iff.mp H
        obtain ⟨t423, A90, H⟩ := H
        replace H : (if t423 = true then ((rhizomelaw01_few.f k l2).bind fun t424 => (rhizomelaw01_KeyThree.j0 k l0 l1 l2 (!t424))) else (rhizomelaw01_KeyThree.j0 k l0 l1 l2 true)) = some r := H
        have A9 := Aside0.mk A90
        clear A90
        by_cases c10 : t423 = true
        · subst c10
          have H1 : ((rhizomelaw01_few.f k l2).bind fun t424 => (rhizomelaw01_KeyThree.j0 k l0 l1 l2 (!t424))) = some r := by rw [if_pos rfl] at H; exact H
          clear H
          have H := H1
          clear H1
          replace H := Option.bind_eq_some_iff.mp H
          obtain ⟨t424, A110, H⟩ := H
          replace H : (rhizomelaw01_KeyThree.j0 k l0 l1 l2 (!t424)) = some r := H
          have A11 := Aside0.mk A110
          clear A110
          have H' := Aside0.mk H
          clear H
          go_wp2_with (first | ((with_reducible refine gate_callee (f := 10) rfl ?_); refine goesL_ (some 9) rfl rfl Tryd.func10 (by kernel_rfl) rfl #[] rfl (by (try simp only [List.map_toArray, List.map_cons, List.map_nil]); first | done | rfl | (simp only [List.length_drop, List.length_take]; rfl)) ?_; (with_reducible refine (rhizomelaw01_awake.calls k  true _ A5.out).mono ?_); rintro e w12 ⟨rfl, hb⟩; refine ⟨_, rfl, ?_⟩; have n0_ := Aside0.mk (below_step (by repeat (first | (with_reducible first | exact HB.out | apply below_alloc | apply pw_below_drewN | apply below_drew1) | exact HB.out)) hb); clear HB; have HB := n0_; clear n0_; (try clear hb); (try clear hb2); (try clear hk); (try clear hi)) | (go_at_call 13; (with_reducible refine (rhizomelaw01_few.calls k _ _ l0 true _ ?side1 ?side2 A7.out).mono ?_); (case side1 => repeat (first | exact (Kd.C_below HR0.out HB.out) | (with_reducible refine Kd.C_alloc ?_ _) | (with_reducible refine Kd.C_drewN ?_ _) | (with_reducible refine Kd.C_drew ?_))); (case side2 => exact HC0.out); rintro e w' ⟨rfl, ⟨nd, rfl⟩⟩) | (go_at_call 13; (with_reducible refine (rhizomelaw01_few.calls k _ _ l1 true _ ?side1 ?side2 A9.out).mono ?_); (case side1 => repeat (first | exact (Kd.C_below HR1.out (by repeat (first | (with_reducible first | exact HB.out | apply below_alloc | apply pw_below_drewN | apply below_drew1) | exact HB.out))) | (with_reducible refine Kd.C_alloc ?_ _) | (with_reducible refine Kd.C_drewN ?_ _) | (with_reducible refine Kd.C_drew ?_))); (case side2 => exact HC1.out); rintro e w' ⟨rfl, ⟨nd, rfl⟩⟩) | (go_at_call 13; (with_reducible refine (rhizomelaw01_few.calls k _ _ l2 t424 _ ?side1 ?side2 A11.out).mono ?_); (case side1 => repeat (first | exact (Kd.C_below HR2.out (by repeat (first | (with_reducible first | exact HB.out | apply below_alloc | apply pw_below_drewN | apply below_drew1) | exact HB.out))) | (with_reducible refine Kd.C_alloc ?_ _) | (with_reducible refine Kd.C_drewN ?_ _) | (with_reducible refine Kd.C_drew ?_))); (case side2 => exact HC2.out); rintro e w' ⟨rfl, ⟨nd, rfl⟩⟩))
          go_meet
          case rel => exact ⟨_, (!t424), (by first | rfl | (simp; done) | (simp [*]; done)), H', ⟨by first | omega | exact Nat.le_refl _⟩, ⟨by repeat (first | (with_reducible first | exact HB.out | apply below_alloc | apply pw_below_drewN | apply below_drew1) | exact HB.out)⟩⟩
        · replace c10 := Bool.eq_false_iff.mpr c10
          subst c10
          have H1 : (rhizomelaw01_KeyThree.j0 k l0 l1 l2 true) = some r := by rw [if_neg (show ¬ (false = true) by decide)] at H; exact H
          clear H
          have H := H1
          clear H1
          have H' := Aside0.mk H
          clear H
          go_wp2_with (first | ((with_reducible refine gate_callee (f := 10) rfl ?_); refine goesL_ (some 9) rfl rfl Tryd.func10 (by kernel_rfl) rfl #[] rfl (by (try simp only [List.map_toArray, List.map_cons, List.map_nil]); first | done | rfl | (simp only [List.length_drop, List.length_take]; rfl)) ?_; (with_reducible refine (rhizomelaw01_awake.calls k  true _ A5.out).mono ?_); rintro e w13 ⟨rfl, hb⟩; refine ⟨_, rfl, ?_⟩; have n0_ := Aside0.mk (below_step (by repeat (first | (with_reducible first | exact HB.out | apply below_alloc | apply pw_below_drewN | apply below_drew1) | exact HB.out)) hb); clear HB; have HB := n0_; clear n0_; (try clear hb); (try clear hb2); (try clear hk); (try clear hi)) | (go_at_call 13; (with_reducible refine (rhizomelaw01_few.calls k _ _ l0 true _ ?side1 ?side2 A7.out).mono ?_); (case side1 => repeat (first | exact (Kd.C_below HR0.out HB.out) | (with_reducible refine Kd.C_alloc ?_ _) | (with_reducible refine Kd.C_drewN ?_ _) | (with_reducible refine Kd.C_drew ?_))); (case side2 => exact HC0.out); rintro e w' ⟨rfl, ⟨nd, rfl⟩⟩) | (go_at_call 13; (with_reducible refine (rhizomelaw01_few.calls k _ _ l1 false _ ?side1 ?side2 A9.out).mono ?_); (case side1 => repeat (first | exact (Kd.C_below HR1.out (by repeat (first | (with_reducible first | exact HB.out | apply below_alloc | apply pw_below_drewN | apply below_drew1) | exact HB.out))) | (with_reducible refine Kd.C_alloc ?_ _) | (with_reducible refine Kd.C_drewN ?_ _) | (with_reducible refine Kd.C_drew ?_))); (case side2 => exact HC1.out); rintro e w' ⟨rfl, ⟨nd, rfl⟩⟩))
          go_meet
          case rel => exact ⟨_, (true), (by first | rfl | (simp; done) | (simp [*]; done)), H', ⟨by first | omega | exact Nat.le_refl _⟩, ⟨by repeat (first | (with_reducible first | exact HB.out | apply below_alloc | apply pw_below_drewN | apply below_drew1) | exact HB.out)⟩⟩
      · replace c8 := Bool.eq_false_iff.mpr c8
        subst c8
        have H1 : (rhizomelaw01_KeyThree.j0 k l0 l1 l2 true) = some r := by rw [if_neg (show ¬ (false = true) by decide)] at H; exact H
        clear H
        have H := H1
        clear H1
        have H' := Aside0.mk H
        clear H
        go_wp2_with (first | ((with_reducible refine gate_callee (f := 10) rfl ?_); refine goesL_ (some 9) rfl rfl Tryd.func10 (by kernel_rfl) rfl #[] rfl (by (try simp only [List.map_toArray, List.map_cons, List.map_nil]); first | done | rfl | (simp only [List.length_drop, List.length_take]; rfl)) ?_; (with_reducible refine (rhizomelaw01_awake.calls k  true _ A5.out).mono ?_); rintro e w14 ⟨rfl, hb⟩; refine ⟨_, rfl, ?_⟩; have n0_ := Aside0.mk (below_step (by repeat (first | (with_reducible first | exact HB.out | apply below_alloc | apply pw_below_drewN | apply below_drew1) | exact HB.out)) hb); clear HB; have HB := n0_; clear n0_; (try clear hb); (try clear hb2); (try clear hk); (try clear hi)) | (go_at_call 13; (with_reducible refine (rhizomelaw01_few.calls k _ _ l0 false _ ?side1 ?side2 A7.out).mono ?_); (case side1 => repeat (first | exact (Kd.C_below HR0.out HB.out) | (with_reducible refine Kd.C_alloc ?_ _) | (with_reducible refine Kd.C_drewN ?_ _) | (with_reducible refine Kd.C_drew ?_))); (case side2 => exact HC0.out); rintro e w' ⟨rfl, ⟨nd, rfl⟩⟩))
        go_meet
        case rel => exact ⟨_, (true), (by first | rfl | (simp; done) | (simp [*]; done)), H', ⟨by first | omega | exact Nat.le_refl _⟩, ⟨by repeat (first | (with_reducible first | exact HB.out | apply below_alloc | apply pw_below_drewN | apply below_drew1) | exact HB.out)⟩⟩
    · replace c6 := Bool.eq_false_iff.mpr c6
      subst c6
      have H1 : (rhizomelaw01_KeyThree.j0 k l0 l1 l2 true) = some r := by rw [if_neg (show ¬ (false = true) by decide)] at H; exact H
      clear H
      have H := H1
      clear H1
      have H' := Aside0.mk H
      clear H
      go_wp2_with (first | ((with_reducible refine gate_callee (f := 10) rfl ?_); refine goesL_ (some 9) rfl rfl Tryd.func10 (by kernel_rfl) rfl #[] rfl (by (try simp only [List.map_toArray, List.map_cons, List.map_nil]); first | done | rfl | (simp only [List.length_drop, List.length_take]; rfl)) ?_; (with_reducible refine (rhizomelaw01_awake.calls k  false _ A5.out).mono ?_); rintro e w15 ⟨rfl, hb⟩; refine ⟨_, rfl, ?_⟩; have n0_ := Aside0.mk (below_step (by repeat (first | (with_reducible first | exact HB.out | apply below_alloc | apply pw_below_drewN | apply below_drew1) | exact HB.out)) hb); clear HB; have HB := n0_; clear n0_; (try clear hb); (try clear hb2); (try clear hk); (try clear hi)))
      go_meet
      case rel => exact ⟨_, (true), (by first | rfl | (simp; done) | (simp [*]; done)), H', ⟨by first | omega | exact Nat.le_refl _⟩, ⟨by repeat (first | (with_reducible first | exact HB.out | apply below_alloc | apply pw_below_drewN | apply below_drew1) | exact HB.out)⟩⟩
  case rest =>
    clear HC4
    try clear c1
    try clear c2
    try clear p2
    try clear c6
    try clear c8
    try clear c9
    try clear c10
    obtain ⟨kq, x25_3, rfl, HA, HJ3, HB⟩ := hcut
    cases kq with
    | zero => exact absurd HA.out (by simp [rhizomelaw01_KeyThree.j0])
    | succ kj3 =>
      have H := HA.out
      clear HA
      simp only [rhizomelaw01_KeyThree.j0] at H
      by_cases c16 : x25_3 = true
      · subst c16
        have H1 : ((rhizomelaw01_awake.f kj3).bind fun t425 => (some t425)) = some r := by rw [if_pos rfl] at H; exact H
        clear H
        have H := H1
        clear H1
        replace H := Option.bind_eq_some_iff.mp H
        obtain ⟨t425, A170, H⟩ := H
        replace H : (some t425) = some r := H
        have A17 := Aside0.mk A170
        clear A170
        obtain rfl := Option.some.inj H
        go_wp2_with (first | ((with_reducible refine gate_callee (f := 10) rfl ?_); refine goesL_ (some 26) rfl rfl Tryd.func10 (by kernel_rfl) rfl #[] rfl (by (try simp only [List.map_toArray, List.map_cons, List.map_nil]); first | done | rfl | (simp only [List.length_drop, List.length_take]; rfl)) ?_; (with_reducible refine (rhizomelaw01_awake.calls kj3  t425 _ A17.out).mono ?_); rintro e w18 ⟨rfl, hb⟩; refine ⟨_, rfl, ?_⟩; have n0_ := Aside0.mk (below_step (by repeat (first | (with_reducible first | exact HB.out | apply below_alloc | apply pw_below_drewN | apply below_drew1) | exact HB.out)) hb); clear HB; have HB := n0_; clear n0_; (try clear hb); (try clear hb2); (try clear hk); (try clear hi)))
        go_ret
        exact ⟨by first | rfl | (simp [errW_none, errW_some] <;> rfl) | (simp [*, errW_none, errW_some] <;> rfl), by repeat (first | (with_reducible first | exact HB.out | apply below_alloc | apply pw_below_drewN | apply below_drew1) | exact HB.out)⟩
      · replace c16 := Bool.eq_false_iff.mpr c16
        subst c16
        have H1 : ((key_Cmp.f l0 l1).bind fun t426 => (if t426 ≤ 0 then ((key_Cmp.f l1 l2).bind fun t427 => (if t427 ≤ 0 then ((key_Cmp.f l0 l2).bind fun t428 => (rhizomelaw01_KeyThree.j1 kj3 l0 l2 (decide (t428 > 0)))) else (rhizomelaw01_KeyThree.j1 kj3 l0 l2 false))) else (rhizomelaw01_KeyThree.j1 kj3 l0 l2 false))) = some r := by rw [if_neg (show ¬ (false = true) by decide)] at H; exact H
        clear H
        have H := H1
        clear H1
        have HC19 := Aside0.mk H
        clear H
        go_upto_region 3 with (fail)
        go_cut [42] (fun v42 wc => ∃ (kq : Nat) (x42_18 : Bool), v42 = .bool x42_18 ∧ Aside0 (rhizomelaw01_KeyThree.j1 kq l0 l2 x42_18 = some r) ∧ Aside0 (kq ≤ kj3) ∧ Aside0 (Below w.heap.size w wc))
        case first =>
          have H := HC19.out
          clear HC19
          replace H := Option.bind_eq_some_iff.mp H
          obtain ⟨t426, A200, H⟩ := H
          replace H : (if t426 ≤ 0 then ((key_Cmp.f l1 l2).bind fun t427 => (if t427 ≤ 0 then ((key_Cmp.f l0 l2).bind fun t428 => (rhizomelaw01_KeyThree.j1 kj3 l0 l2 (decide (t428 > 0)))) else (rhizomelaw01_KeyThree.j1 kj3 l0 l2 false))) else (rhizomelaw01_KeyThree.j1 kj3 l0 l2 false)) = some r := H
          have A20 := Aside0.mk A200
          clear A200
          by_cases c21 : t426 ≤ 0
          · rw [if_pos c21] at H
            have c21b0 : decide (t426 ≤ 0) = true := decide_eq_true c21
            clear c21
            (first | rw [c21b0] | (simp only [i64_w, i32_w]; rw [c21b0]) | skip)
            replace H := Option.bind_eq_some_iff.mp H
            obtain ⟨t427, A220, H⟩ := H
            replace H : (if t427 ≤ 0 then ((key_Cmp.f l0 l2).bind fun t428 => (rhizomelaw01_KeyThree.j1 kj3 l0 l2 (decide (t428 > 0)))) else (rhizomelaw01_KeyThree.j1 kj3 l0 l2 false)) = some r := H
            have A22 := Aside0.mk A220
            clear A220
            by_cases c23 : t427 ≤ 0
            · rw [if_pos c23] at H
              have c23b0 : decide (t427 ≤ 0) = true := decide_eq_true c23
              clear c23
              replace H := Option.bind_eq_some_iff.mp H
              obtain ⟨t428, A240, H⟩ := H
              replace H : (rhizomelaw01_KeyThree.j1 kj3 l0 l2 (decide (t428 > 0))) = some r := H
              have A24 := Aside0.mk A240
              clear A240
              have H' := Aside0.mk H
              clear H
              go_wp2_with (first | ((with_reducible refine gate_callee (f := 25) rfl ?_); refine goesL_ (some 29) rfl rfl Tryd.func25 (by kernel_rfl) rfl #[.slice A0 l0.length c0, .slice A1 l1.length c1] rfl (by (try simp only [List.map_toArray, List.map_cons, List.map_nil]); first | done | rfl | (simp only [List.length_drop, List.length_take]; rfl)) ?_; (with_reducible refine (key_Cmp.calls _ _ l0 _ _ l1 t426 _ ?side1 ?side2 ?side3 ?side4 A20.out).mono ?_); (case side1 => repeat (first | exact (Kd.C_below HR0.out HB.out) | (with_reducible refine Kd.C_alloc ?_ _) | (with_reducible refine Kd.C_drewN ?_ _) | (with_reducible refine Kd.C_drew ?_))); (case side2 => exact HC0.out); (case side3 => repeat (first | exact (Kd.C_below HR1.out HB.out) | (with_reducible refine Kd.C_alloc ?_ _) | (with_reducible refine Kd.C_drewN ?_ _) | (with_reducible refine Kd.C_drew ?_))); (case side4 => exact HC1.out); rintro e w25 ⟨rfl, hb⟩; refine ⟨_, rfl, ?_⟩; have n0_ := Aside0.mk (below_step (by repeat (first | (with_reducible first | exact HB.out | apply below_alloc | apply pw_below_drewN | apply below_drew1) | exact HB.out)) hb); clear HB; have HB := n0_; clear n0_; (try clear hb); (try clear hb2); (try clear hk); (try clear hi)) | (go_at_call 25; (with_reducible refine (key_Cmp.calls _ _ l1 _ _ l2 t427 _ ?side1 ?side2 ?side3 ?side4 A22.out).mono ?_); (case side1 => repeat (first | exact (Kd.C_below HR1.out HB.out) | (with_reducible refine Kd.C_alloc ?_ _) | (with_reducible refine Kd.C_drewN ?_ _) | (with_reducible refine Kd.C_drew ?_))); (case side2 => exact HC1.out); (case side3 => repeat (first | exact (Kd.C_below HR2.out HB.out) | (with_reducible refine Kd.C_alloc ?_ _) | (with_reducible refine Kd.C_drewN ?_ _) | (with_reducible refine Kd.C_drew ?_))); (case side4 => exact HC2.out); rintro e w26 ⟨rfl, hb⟩; have n0_ := Aside0.mk (below_step (by repeat (first | (with_reducible first | exact HB.out | apply below_alloc | apply pw_below_drewN | apply below_drew1) | exact HB.out)) hb); clear HB; have HB := n0_; clear n0_; (try clear hb); (try clear hb2); (try clear hk); (try clear hi)) | (go_at_call 25; (with_reducible refine (key_Cmp.calls _ _ l0 _ _ l2 t428 _ ?side1 ?side2 ?side3 ?side4 A24.out).mono ?_); (case side1 => repeat (first | exact (Kd.C_below HR0.out HB.out) | (with_reducible refine Kd.C_alloc ?_ _) | (with_reducible refine Kd.C_drewN ?_ _) | (with_reducible refine Kd.C_drew ?_))); (case side2 => exact HC0.out); (case side3 => repeat (first | exact (Kd.C_below HR2.out HB.out) | (with_reducible refine Kd.C_alloc ?_ _) | (with_reducible refine Kd.C_drewN ?_ _) | (with_reducible refine Kd.C_drew ?_))); (case side4 => exact HC2.out); rintro e w27 ⟨rfl, hb⟩; have n0_ := Aside0.mk (below_step (by repeat (first | (with_reducible first | exact HB.out | apply below_alloc | apply pw_below_drewN | apply below_drew1) | exact HB.out)) hb); clear HB; have HB := n0_; clear n0_; (try clear hb); (try clear hb2); (try clear hk); (try clear hi)))
              go_meet
              case rel => exact ⟨_, (decide (t428 > 0)), (by first | rfl | (simp; done) | (simp [*]; done)), H', ⟨by have := HJ3.out; first | omega | exact Nat.le_refl _⟩, ⟨by repeat (first | (with_reducible first | exact HB.out | apply below_alloc | apply pw_below_drewN | apply below_drew1) | exact HB.out)⟩⟩
            · rw [if_neg c23] at H
              have c23b0 : decide (t427 ≤ 0) = false := decide_eq_false c23
              clear c23
              have H' := Aside0.mk H
              clear H
              go_wp2_with (first | ((with_reducible refine gate_callee (f := 25) rfl ?_); refine goesL_ (some 29) rfl rfl Tryd.func25 (by kernel_rfl) rfl #[.slice A0 l0.length c0, .slice A1 l1.length c1] rfl (by (try simp only [List.map_toArray, List.map_cons, List.map_nil]); first | done | rfl | (simp only [List.length_drop, List.length_take]; rfl)) ?_; (with_reducible refine (key_Cmp.calls _ _ l0 _ _ l1 t426 _ ?side1 ?side2 ?side3 ?side4 A20.out).mono ?_); (case side1 => repeat (first | exact (Kd.C_below HR0.out HB.out) | (with_reducible refine Kd.C_alloc ?_ _) | (with_reducible refine Kd.C_drewN ?_ _) | (with_reducible refine Kd.C_drew ?_))); (case side2 => exact HC0.out); (case side3 => repeat (first | exact (Kd.C_below HR1.out HB.out) | (with_reducible refine Kd.C_alloc ?_ _) | (with_reducible refine Kd.C_drewN ?_ _) | (with_reducible refine Kd.C_drew ?_))); (case side4 => exact HC1.out); rintro e w28 ⟨rfl, hb⟩; refine ⟨_, rfl, ?_⟩; have n0_ := Aside0.mk (below_step (by repeat (first | (with_reducible first | exact HB.out | apply below_alloc | apply pw_below_drewN | apply below_drew1) | exact HB.out)) hb); clear HB; have HB := n0_; clear n0_; (try clear hb); (try clear hb2); (try clear hk); (try clear hi)) | (go_at_call 25; (with_reducible refine (key_Cmp.calls _ _ l1 _ _ l2 t427 _ ?side1 ?side2 ?side3 ?side4 A22.out).mono ?_); (case side1 => repeat (first | exact (Kd.C_below HR1.out HB.out) | (with_reducible refine Kd.C_alloc ?_ _) | (with_reducible refine Kd.C_drewN ?_ _) | (with_reducible refine Kd.C_drew ?_))); (case side2 => exact HC1.out); (case side3 => repeat (first | exact (Kd.C_below HR2.out HB.out) | (with_reducible refine Kd.C_alloc ?_ _) | (with_reducible refine Kd.C_drewN ?_ _) | (with_reducible refine Kd.C_drew ?_))); (case side4 => exact HC2.out); rintro e w29 ⟨rfl, hb⟩; have n0_ := Aside0.mk (below_step (by repeat (first | (with_reducible first | exact HB.out | apply below_alloc | apply pw_below_drewN | apply below_drew1) | exact HB.out)) hb); clear HB; have HB := n0_; clear n0_; (try clear hb); (try clear hb2); (try clear hk); (try clear hi)))
              go_meet
              case rel => exact ⟨_, (false), (by first | rfl | (simp; done) | (simp [*]; done)), H', ⟨by have := HJ3.out; first | omega | exact Nat.le_refl _⟩, ⟨by repeat (first | (with_reducible first | exact HB.out | apply below_alloc | apply pw_below_drewN | apply below_drew1) | exact HB.out)⟩⟩
          · rw [if_neg c21] at H
            have c21b0 : decide (t426 ≤ 0) = false := decide_eq_false c21
            clear c21
            (first | rw [c21b0] | (simp only [i64_w, i32_w]; rw [c21b0]) | skip)
            have H' := Aside0.mk H
            clear H
            go_wp2_with (first | ((with_reducible refine gate_callee (f := 25) rfl ?_); refine goesL_ (some 29) rfl rfl Tryd.func25 (by kernel_rfl) rfl #[.slice A0 l0.length c0, .slice A1 l1.length c1] rfl (by (try simp only [List.map_toArray, List.map_cons, List.map_nil]); first | done | rfl | (simp only [List.length_drop, List.length_take]; rfl)) ?_; (with_reducible refine (key_Cmp.calls _ _ l0 _ _ l1 t426 _ ?side1 ?side2 ?side3 ?side4 A20.out).mono ?_); (case side1 => repeat (first | exact (Kd.C_below HR0.out HB.out) | (with_reducible refine Kd.C_alloc ?_ _) | (with_reducible refine Kd.C_drewN ?_ _) | (with_reducible refine Kd.C_drew ?_))); (case side2 => exact HC0.out); (case side3 => repeat (first | exact (Kd.C_below HR1.out HB.out) | (with_reducible refine Kd.C_alloc ?_ _) | (with_reducible refine Kd.C_drewN ?_ _) | (with_reducible refine Kd.C_drew ?_))); (case side4 => exact HC1.out); rintro e w30 ⟨rfl, hb⟩; refine ⟨_, rfl, ?_⟩; have n0_ := Aside0.mk (below_step (by repeat (first | (with_reducible first | exact HB.out | apply below_alloc | apply pw_below_drewN | apply below_drew1) | exact HB.out)) hb); clear HB; have HB := n0_; clear n0_; (try clear hb); (try clear hb2); (try clear hk); (try clear hi)))
            go_meet
            case rel => exact ⟨_, (false), (by first | rfl | (simp; done) | (simp [*]; done)), H', ⟨by have := HJ3.out; first | omega | exact Nat.le_refl _⟩, ⟨by repeat (first | (with_reducible first | exact HB.out | apply below_alloc | apply pw_below_drewN | apply below_drew1) | exact HB.out)⟩⟩
        case rest =>
          clear HC19
          try clear c1
          try clear c2
          try clear p2
          try clear c6
          try clear c8
          try clear c9
          try clear c10
          try clear c16
          try clear c21
          try clear c21b0
          try clear c23
          try clear c23b0
          try clear c25
          try clear p2
          obtain ⟨kq, x42_18, rfl, HA, HJ18, HB⟩ := hcut
          cases kq with
          | zero => exact absurd HA.out (by simp [rhizomelaw01_KeyThree.j1])
          | succ kj18 =>
            have H := HA.out
            clear HA
            simp only [rhizomelaw01_KeyThree.j1] at H
            by_cases c31 : x42_18 = true
            · subst c31
              have H1 : (some false) = some r := by rw [if_pos rfl] at H; exact H
              clear H
              have H := H1
              clear H1
              obtain rfl := Option.some.inj H
              go_wp2
              go_ret
              exact ⟨by first | rfl | (simp [errW_none, errW_some] <;> rfl) | (simp [*, errW_none, errW_some] <;> rfl), by repeat (first | (with_reducible first | exact HB.out | apply below_alloc | apply pw_below_drewN | apply below_drew1) | exact HB.out)⟩
            · replace c31 := Bool.eq_false_iff.mpr c31
              subst c31
              have H1 : (rhizomelaw01_KeyThree.l0 kj18 l0 l2 (l2.length : Int) 0) = some r := by rw [if_neg (show ¬ (false = true) by decide)] at H; exact H
              clear H
              have H := H1
              clear H1
              have H' := Aside0.mk H
              clear H
              go_wp2
              go_loopg [45] kj18 (fun kq v45 w' => ∃ (x45_3 : Int), v45 = .int .i64 x45_3 ∧ Aside0 (rhizomelaw01_KeyThree.l0 kq l0 l2 (l2.length : Int) x45_3 = some r) ∧ Aside0 (kq ≤ kj18) ∧ Aside0 (Below w.heap.size w w'))
              case atStart => exact ⟨(0), (by first | rfl | (simp; done) | (simp [*]; done)), H', ⟨Nat.le_refl _⟩, ⟨by repeat (first | (with_reducible first | exact HB.out | apply below_alloc | apply pw_below_drewN | apply below_drew1) | exact HB.out)⟩⟩
              case round =>
                clear H'
                try clear c1
                try clear c2
                try clear p2
                try clear c3
                try clear c6
                try clear c8
                try clear c9
                try clear c10
                try clear c16
                try clear c21
                try clear c21b0
                try clear c23
                try clear c23b0
                try clear c25
                try clear c31
                try clear p2
                obtain ⟨x45_3, rfl, HA, HK3, HB⟩ := hrel
                cases gk with
                | zero => exact absurd HA.out (by simp [rhizomelaw01_KeyThree.l0])
                | succ k3 =>
                  have H := HA.out
                  clear HA
                  simp only [rhizomelaw01_KeyThree.l0] at H
                  by_cases c32 : x45_3 < (l2.length : Int)
                  · rw [if_pos c32] at H
                    have c32b0 : decide (x45_3 < (l2.length : Int)) = true := decide_eq_true c32
                    clear c32
                    by_cases c33 : 0 ≤ x45_3
                    · rw [if_pos c33] at H
                      have c33b0 : decide (0 ≤ x45_3) = true := decide_eq_true c33
                      clear c33
                      by_cases c34 : x45_3 < (l2.length : Int)
                      · rw [if_pos c34] at H
                        have c34b0 : decide (x45_3 < (l2.length : Int)) = true := decide_eq_true c34
                        clear c34
                        replace H := Option.bind_eq_some_iff.mp H
                        obtain ⟨t432, A350, H⟩ := H
                        replace H : ((some (([(⟨(rd_T31 l2 x45_3).f0, (rd_T31 l2 x45_3).f1, (rd_T31 l2 x45_3).f2⟩ : S31)] : List (S31)) : List (S31))).bind fun y435 => (if t432.length + y435.length < 4398046511104 then ((key_Cmp.f l0 (t432 ++ y435)).bind fun t441 => (if t441 = (-1) then ((rhizomelaw01_own.f l0).bind fun t442 => ((some (([(⟨(rd_T31 l2 x45_3).f0, (rd_T31 l2 x45_3).f1, (rd_T31 l2 x45_3).f2⟩ : S31)] : List (S31)) : List (S31))).bind fun y445 => (if t442.length + y445.length < 4398046511104 then ((key_Cmp.f (t442 ++ y445) l0).bind fun t451 => (if t451 = 1 then (rhizomelaw01_KeyThree.l0 k3 l0 l2 (l2.length : Int) (wrap64 (x45_3 + 1))) else (some false))) else (none)))) else (some false))) else (none))) = some r := H
                        have A35 := Aside0.mk A350
                        clear A350
                        obtain ⟨y435, hy435⟩ : ∃ y_ : List (S31), y_ = (([(⟨(rd_T31 l2 x45_3).f0, (rd_T31 l2 x45_3).f1, (rd_T31 l2 x45_3).f2⟩ : S31)] : List (S31))) := ⟨_, rfl⟩
                        replace H : (if t432.length + y435.length < 4398046511104 then ((key_Cmp.f l0 (t432 ++ y435)).bind fun t441 => (if t441 = (-1) then ((rhizomelaw01_own.f l0).bind fun t442 => ((some (([(⟨(rd_T31 l2 x45_3).f0, (rd_T31 l2 x45_3).f1, (rd_T31 l2 x45_3).f2⟩ : S31)] : List (S31)) : List (S31))).bind fun y445 => (if t442.length + y445.length < 4398046511104 then ((key_Cmp.f (t442 ++ y445) l0).bind fun t451 => (if t451 = 1 then (rhizomelaw01_KeyThree.l0 k3 l0 l2 (l2.length : Int) (wrap64 (x45_3 + 1))) else (some false))) else (none)))) else (some false))) else (none)) = some r := by first | (rw [hy435]; with_reducible exact H) | (have H2_ := (Option.bind_some _ _).symm.trans H; rw [hy435]; with_reducible exact H2_) | (have H2_ := (Option.bind_some _ _).symm.trans H; with_reducible exact H2_) | with_reducible exact H | (rw [hy435]; exact H) | exact H
                        have Ny435 := Aside0.mk hy435
                        clear hy435
                        by_cases c36 : t432.length + y435.length < 4398046511104
                        · rw [if_pos c36] at H
                          have LMc36 := Aside0.mk c36
                          clear c36
                          obtain ⟨y438, hy438⟩ : ∃ y_ : List (S31), y_ = (t432 ++ y435) := ⟨_, rfl⟩
                          replace H : ((key_Cmp.f l0 y438).bind fun t441 => (if t441 = (-1) then ((rhizomelaw01_own.f l0).bind fun t442 => ((some (([(⟨(rd_T31 l2 x45_3).f0, (rd_T31 l2 x45_3).f1, (rd_T31 l2 x45_3).f2⟩ : S31)] : List (S31)) : List (S31))).bind fun y445 => (if t442.length + y445.length < 4398046511104 then ((key_Cmp.f (t442 ++ y445) l0).bind fun t451 => (if t451 = 1 then (rhizomelaw01_KeyThree.l0 k3 l0 l2 (l2.length : Int) (wrap64 (x45_3 + 1))) else (some false))) else (none)))) else (some false))) = some r := by first | (rw [hy438]; with_reducible exact H) | (have H2_ := (Option.bind_some _ _).symm.trans H; rw [hy438]; with_reducible exact H2_) | (have H2_ := (Option.bind_some _ _).symm.trans H; with_reducible exact H2_) | with_reducible exact H | (rw [hy438]; exact H) | exact H
                          have Ny438 := Aside0.mk hy438
                          clear hy438
                          replace H := Option.bind_eq_some_iff.mp H
                          obtain ⟨t441, A370, H⟩ := H
                          replace H : (if t441 = (-1) then ((rhizomelaw01_own.f l0).bind fun t442 => ((some (([(⟨(rd_T31 l2 x45_3).f0, (rd_T31 l2 x45_3).f1, (rd_T31 l2 x45_3).f2⟩ : S31)] : List (S31)) : List (S31))).bind fun y445 => (if t442.length + y445.length < 4398046511104 then ((key_Cmp.f (t442 ++ y445) l0).bind fun t451 => (if t451 = 1 then (rhizomelaw01_KeyThree.l0 k3 l0 l2 (l2.length : Int) (wrap64 (x45_3 + 1))) else (some false))) else (none)))) else (some false)) = some r := H
                          have A37 := Aside0.mk A370
                          clear A370
                          by_cases c38 : t441 = (-1)
                          · rw [if_pos c38] at H
                            have c38b0 : (t441 == (-1)) = true := beq_iff_eq.mpr c38
                            have c38b1 : (t441 != (-1)) = false := bne_eq_false_iff_eq.mpr c38
                            clear c38
                            replace H := Option.bind_eq_some_iff.mp H
                            obtain ⟨t442, A390, H⟩ := H
                            replace H : ((some (([(⟨(rd_T31 l2 x45_3).f0, (rd_T31 l2 x45_3).f1, (rd_T31 l2 x45_3).f2⟩ : S31)] : List (S31)) : List (S31))).bind fun y445 => (if t442.length + y445.length < 4398046511104 then ((key_Cmp.f (t442 ++ y445) l0).bind fun t451 => (if t451 = 1 then (rhizomelaw01_KeyThree.l0 k3 l0 l2 (l2.length : Int) (wrap64 (x45_3 + 1))) else (some false))) else (none))) = some r := H
                            have A39 := Aside0.mk A390
                            clear A390
                            obtain ⟨y445, hy445⟩ : ∃ y_ : List (S31), y_ = (([(⟨(rd_T31 l2 x45_3).f0, (rd_T31 l2 x45_3).f1, (rd_T31 l2 x45_3).f2⟩ : S31)] : List (S31))) := ⟨_, rfl⟩
                            replace H : (if t442.length + y445.length < 4398046511104 then ((key_Cmp.f (t442 ++ y445) l0).bind fun t451 => (if t451 = 1 then (rhizomelaw01_KeyThree.l0 k3 l0 l2 (l2.length : Int) (wrap64 (x45_3 + 1))) else (some false))) else (none)) = some r := by first | (rw [hy445]; with_reducible exact H) | (have H2_ := (Option.bind_some _ _).symm.trans H; rw [hy445]; with_reducible exact H2_) | (have H2_ := (Option.bind_some _ _).symm.trans H; with_reducible exact H2_) | with_reducible exact H | (rw [hy445]; exact H) | exact H
                            have Ny445 := Aside0.mk hy445
                            clear hy445
                            by_cases c40 : t442.length + y445.length < 4398046511104
                            · rw [if_pos c40] at H
                              have LMc40 := Aside0.mk c40
                              clear c40
                              obtain ⟨y448, hy448⟩ : ∃ y_ : List (S31), y_ = (t442 ++ y445) := ⟨_, rfl⟩
                              replace H : ((key_Cmp.f y448 l0).bind fun t451 => (if t451 = 1 then (rhizomelaw01_KeyThree.l0 k3 l0 l2 (l2.length : Int) (wrap64 (x45_3 + 1))) else (some false))) = some r := by first | (rw [hy448]; with_reducible exact H) | (have H2_ := (Option.bind_some _ _).symm.trans H; rw [hy448]; with_reducible exact H2_) | (have H2_ := (Option.bind_some _ _).symm.trans H; with_reducible exact H2_) | with_reducible exact H | (rw [hy448]; exact H) | exact H
                              have Ny448 := Aside0.mk hy448
                              clear hy448
                              replace H := Option.bind_eq_some_iff.mp H
                              obtain ⟨t451, A410, H⟩ := H
                              replace H : (if t451 = 1 then (rhizomelaw01_KeyThree.l0 k3 l0 l2 (l2.length : Int) (wrap64 (x45_3 + 1))) else (some false)) = some r := H
                              have A41 := Aside0.mk A410
                              clear A410
                              by_cases c42 : t451 = 1
                              · rw [if_pos c42] at H
                                have c42b0 : (t451 == 1) = true := beq_iff_eq.mpr c42
                                have c42b1 : (t451 != 1) = false := bne_eq_false_iff_eq.mpr c42
                                clear c42
                                have H' := Aside0.mk H
                                clear H
                                have p430 : 0 ≤ (x45_3 : Int) := of_decide_eq_true (by first | (with_reducible assumption) | assumption)
                                have q430 : x45_3 < (l2.length : Int) := of_decide_eq_true (by first | (with_reducible assumption) | assumption)
                                obtain ⟨ad430, e430, hx430_0, hx430_1, hx430_2⟩ := at_T31 HR2.out x45_3 p430 q430
                                cases e430
                                replace hx430_0 := (HB.out.cell (World.block_lt_of_cell? w _ hx430_0)).trans hx430_0
                                replace hx430_1 := (HB.out.cell (World.block_lt_of_cell? w _ hx430_1)).trans hx430_1
                                replace hx430_2 := (HB.out.cell (World.block_lt_of_cell? w _ hx430_2)).trans hx430_2
                                replace p430 := eq_true p430
                                replace q430 := eq_true q430
                                try go_wp2_with (first | ((with_reducible refine gate_dst (N := 8) rfl ?_); (try (refine gate_guard (by rfl) ?_; dsimp only)); refine box_event ?hg (N := 8) ?hd (cs := #[.bool false, .string (⟨#[]⟩ : ByteArray), .int .i64 0]) (t := 31) ?hr ?_; (case hd => rfl); (case hg => rfl); (case hr => first | (go_simp; done) | (go_simp; rfl)); intro gb431 hg w43 hbox hb; have n0_ := Aside0.mk (below_step (by repeat (first | (with_reducible first | exact HB.out | apply below_alloc | apply pw_below_drewN | apply below_drew1) | exact HB.out)) hb); have n1_ := Aside0.mk (hbox); have n2_ := Aside0.mk ((by rw [hg]; exact (below_size (by repeat (first | (with_reducible first | exact HB.out | apply below_alloc | apply pw_below_drewN | apply below_drew1) | exact HB.out))) : w.heap.size ≤ gb431)); have n3_ := Aside0.mk ((by rw [hg]; exact (below_size (by repeat (first | (with_reducible first | exact HB.out | apply below_alloc | apply pw_below_drewN | apply below_drew1) | exact HB.out))) : w.heap.size ≤ gb431)); clear HB; have HB := n0_; have BK431 := n1_; have GW431 := n2_; have GE431 := n3_; clear n0_ n1_ n2_ n3_; clear hb hbox hg; have hcz44_0 : w43.cell? ⟨gb431, 0, none⟩ = some (.bool false) := (blk_cell BK431.out 0).trans rfl; have hcz44_1 : w43.cell? ⟨gb431, 1, none⟩ = some (.string (⟨#[]⟩ : ByteArray)) := (blk_cell BK431.out 1).trans rfl; have hcz44_2 : w43.cell? ⟨gb431, 2, none⟩ = some (.int .i64 0) := (blk_cell BK431.out 2).trans rfl; have hfz44_0 := blk_frozen BK431.out 0; have hfz44_1 := blk_frozen BK431.out 1; have hfz44_2 := blk_frozen BK431.out 2))
                                have n0_ : Aside0 ((((w43.setCell ⟨gb431, 0, none⟩ (.bool ((rd_T31 l2 x45_3).f0))).setCell ⟨gb431, 1, none⟩ (.string ((rd_T31 l2 x45_3).f1))).setCell ⟨gb431, 2, none⟩ (.int .i64 ((rd_T31 l2 x45_3).f2))).heap[gb431]? = some (.cells #[.bool ((rd_T31 l2 x45_3).f0), .string ((rd_T31 l2 x45_3).f1), .int .i64 ((rd_T31 l2 x45_3).f2)] 31 (0, 0))) := ⟨by (with_reducible repeat (first | refine blk_drewN ?_ _ | refine blk_drew ?_ | refine blk_alloc ?_ _)); refine blk_put (cs := #[.bool ((rd_T31 l2 x45_3).f0), .string ((rd_T31 l2 x45_3).f1), .int .i64 0]) ?_ 2 _ rfl; (with_reducible repeat (first | refine blk_drewN ?_ _ | refine blk_drew ?_ | refine blk_alloc ?_ _)); refine blk_put (cs := #[.bool ((rd_T31 l2 x45_3).f0), .string (⟨#[]⟩ : ByteArray), .int .i64 0]) ?_ 1 _ rfl; (with_reducible repeat (first | refine blk_drewN ?_ _ | refine blk_drew ?_ | refine blk_alloc ?_ _)); refine blk_put (cs := #[.bool false, .string (⟨#[]⟩ : ByteArray), .int .i64 0]) ?_ 0 _ rfl; (with_reducible repeat (first | refine blk_drewN ?_ _ | refine blk_drew ?_ | refine blk_alloc ?_ _)); exact BK431.out⟩
                                have n1_ : Aside0 (Below w.heap.size w (((w43.setCell ⟨gb431, 0, none⟩ (.bool ((rd_T31 l2 x45_3).f0))).setCell ⟨gb431, 1, none⟩ (.string ((rd_T31 l2 x45_3).f1))).setCell ⟨gb431, 2, none⟩ (.int .i64 ((rd_T31 l2 x45_3).f2)))) := ⟨by repeat (first | (with_reducible first | exact HB.out | apply below_alloc | apply pw_below_drewN | apply below_drew1 | refine below_set ?_ GE431.out) | exact HB.out)⟩
                                (try clear BK431)
                                (try clear HB)
                                generalize (((w43.setCell ⟨gb431, 0, none⟩ (.bool ((rd_T31 l2 x45_3).f0))).setCell ⟨gb431, 1, none⟩ (.string ((rd_T31 l2 x45_3).f1))).setCell ⟨gb431, 2, none⟩ (.int .i64 ((rd_T31 l2 x45_3).f2))) = w45 at n0_ n1_ ⊢
                                have BK431 := n0_
                                have HB := n1_
                                clear n0_ n1_
                                have n0_ := Aside0.mk (blk_drew BK431.out)
                                have n1_ := Aside0.mk (below_drew1 HB.out)
                                clear BK431
                                clear HB
                                have BK431 := n0_
                                have HB := n1_
                                clear n0_ n1_
                                refine start_ (n := 18) (S := fun w' => w'.cell? ⟨gb431, 0, none⟩ = some (.bool ((rd_T31 l2 x45_3).f0)) ∧ w'.cell? ⟨gb431, 1, none⟩ = some (.string ((rd_T31 l2 x45_3).f1)) ∧ w'.cell? ⟨gb431, 2, none⟩ = some (.int .i64 ((rd_T31 l2 x45_3).f2))) (ds := []) #[false, false, false, false, false, false, false, false, false, false, false, false, false, false, false, false, false, false] (by kernel_rfl) rfl rfl ⟨(blk_cell BK431.out 0).trans rfl, (blk_cell BK431.out 1).trans rfl, (blk_cell BK431.out 2).trans rfl⟩ (fun hHeld => ?_); refine with_tabW rhizomelaw01_KeyThree.tab8 rhizomelaw01_KeyThree.bits8 (fun HT_ HW_ => ?_)
                                generalize w45.drew = w46 at BK431 HB hHeld ⊢
                                refine pure_ (i := 0) (N := some 49) (v := ?_) (a' := ?_) #[true, false, false, false, false, false, false, false, false, false, false, false, false, false, false, false, false, false] rfl rfl (any_of HT_.out (by kernel_rfl)) (fun _ _ _ h => h) (Or.inl ⟨by rfl, ?_⟩) ?_ ?_
                                rotate_left
                                · intro w'
                                  go_simp
                                  with_reducible rfl
                                rotate_left
                                · simp only [Act.put, List.setIfInBounds_toArray, List.set_cons_zero, List.set_cons_succ, i64_w, i32_w]
                                  rfl
                                refine pure_ (i := 1) (N := some 50) (v := ?_) (a' := ?_) #[true, true, false, false, false, false, false, false, false, false, false, false, false, false, false, false, false, false] rfl rfl (any_of HT_.out (by kernel_rfl)) (fun _ _ _ h => h) (Or.inl ⟨by rfl, ?_⟩) ?_ ?_
                                rotate_left
                                · intro w'
                                  go_simp
                                  with_reducible rfl
                                rotate_left
                                · simp only [Act.put, List.setIfInBounds_toArray, List.set_cons_zero, List.set_cons_succ, i64_w, i32_w]
                                  rfl
                                refine take_ (i := 3) (N := some 52) (v := ?_) (a' := ?_) #[true, true, false, true, false, false, false, false, false, false, false, false, false, false, false, false, false, false] rfl rfl (take_ofW HT_.out HW_.out (by kernel_rfl)) (fun _ _ _ h => h) (Or.inl ⟨by rfl, ?_⟩) hHeld ?_ ?_
                                rotate_left
                                · rintro w' ⟨s0, s1, s2⟩
                                  go_simp
                                  with_reducible rfl
                                rotate_left
                                · simp only [Act.put, List.setIfInBounds_toArray, List.set_cons_zero, List.set_cons_succ, i64_w, i32_w]
                                  rfl
                                refine join_ (σ := Value × Value × Value × Value × Value) 4 #[true, true, true, true, true, true, true, true, true, true, true, true, true, false, true, false, false, false] (fun s_ => [(51, s_.1), (53, s_.2.1), (54, s_.2.2.1), (55, .int .i64 t441), (59, s_.2.2.2.1), (61, s_.2.2.2.2), (56, .bool false), (57, .bool false), (58, .slice A0 l0.length c0), (60, .agg #[.bool ((rd_T31 l2 x45_3).f0), .string ((rd_T31 l2 x45_3).f1), .int .i64 ((rd_T31 l2 x45_3).f2)]), (63, .slice A0 l0.length c0)]) (fun s_ w' => (w'.cell? ⟨gb431, 0, none⟩ = some (.bool ((rd_T31 l2 x45_3).f0)) ∧ w'.cell? ⟨gb431, 1, none⟩ = some (.string ((rd_T31 l2 x45_3).f1)) ∧ w'.cell? ⟨gb431, 2, none⟩ = some (.int .i64 ((rd_T31 l2 x45_3).f2))) ∧ (Kd.R k31 31 w' w.heap.size (fun k_ => some k_ ≠ (s_.2.2.1 : Value).ownBlock ∧ some k_ ≠ (s_.2.2.2.1 : Value).ownBlock ∧ some k_ ≠ (s_.2.2.2.2 : Value).ownBlock ∧ k_ ≠ gb431) s_.2.1 y435) ∧ (Kd.R k31 31 w' w.heap.size (fun k_ => some k_ ≠ (s_.2.1 : Value).ownBlock ∧ some k_ ≠ (s_.2.2.2.1 : Value).ownBlock ∧ some k_ ≠ (s_.2.2.2.2 : Value).ownBlock ∧ k_ ≠ gb431) s_.2.2.1 y438) ∧ (Kd.R k31 31 w' w.heap.size (fun k_ => some k_ ≠ (s_.2.1 : Value).ownBlock ∧ some k_ ≠ (s_.2.2.1 : Value).ownBlock ∧ some k_ ≠ (s_.2.2.2.2 : Value).ownBlock ∧ k_ ≠ gb431) s_.2.2.2.1 t442) ∧ (Kd.R k31 31 w' w.heap.size (fun k_ => some k_ ≠ (s_.2.1 : Value).ownBlock ∧ some k_ ≠ (s_.2.2.1 : Value).ownBlock ∧ some k_ ≠ (s_.2.2.2.1 : Value).ownBlock ∧ k_ ≠ gb431) s_.2.2.2.2 y445) ∧ (w'.heap[gb431]? = some (.cells #[.bool ((rd_T31 l2 x45_3).f0), .string ((rd_T31 l2 x45_3).f1), .int .i64 ((rd_T31 l2 x45_3).f2)] 31 (0, 0))) ∧ (Below w.heap.size w w')) ?_ ?_
                                rotate_left
                                · intro hCont
                                  refine two_ (i := 2) (j := 4) (Ni := some 51) (Nj := some 53) #[true, true, true, true, false, false, false, false, false, false, false, false, false, false, false, false, false, false] #[true, true, false, true, true, false, false, false, false, false, false, false, false, false, false, false, false, false] rfl rfl rfl rfl (two_of HT_.out (by kernel_rfl)) (by decide) (by decide) (fun K hK => ?_) (fun K hK => ?_)
                                  · skip
                                    refine goes_ Tryd.func16 (by kernel_rfl) rfl #[.slice A0 l0.length c0] (by rfl) rfl rfl (by (try simp only [List.map_toArray, List.map_cons, List.map_nil]); first | done | rfl | (simp only [List.length_drop, List.length_take]; rfl)) ?_
                                    with_reducible refine (rhizomelaw01_own.calls _ _ l0 t432 _ ?side1 ?side2 A35.out).mono ?_
                                    (case side1 => repeat (first | exact (Kd.C_below HR0.out HB.out) | (with_reducible refine Kd.C_alloc ?_ _) | (with_reducible refine Kd.C_drewN ?_ _) | (with_reducible refine Kd.C_drew ?_)))
                                    (case side2 => exact HC0.out)
                                    rintro e w47 ⟨v433, rfl, ho0, hb⟩
                                    refine ⟨_, rfl, ?_⟩
                                    have n0_ := Aside0.mk (Kd.R_lower (Kd.R_newB ho0 (g := gb431) (o := .cells #[.bool ((rd_T31 l2 x45_3).f0), .string ((rd_T31 l2 x45_3).f1), .int .i64 ((rd_T31 l2 x45_3).f2)] 31 (0, 0)) (by (with_reducible repeat (first | refine blk_drewN ?_ _ | refine blk_drew ?_ | refine blk_alloc ?_ _)); exact BK431.out)) (below_size (by repeat (first | (with_reducible first | exact HB.out | apply below_alloc | apply pw_below_drewN | apply below_drew1 | refine below_set ?_ GE431.out) | exact HB.out))))
                                    have n1_ := Aside0.mk (blk_below (g := gb431) (o := .cells #[.bool ((rd_T31 l2 x45_3).f0), .string ((rd_T31 l2 x45_3).f1), .int .i64 ((rd_T31 l2 x45_3).f2)] 31 (0, 0)) (by (with_reducible repeat (first | refine blk_drewN ?_ _ | refine blk_drew ?_ | refine blk_alloc ?_ _)); exact BK431.out) hb)
                                    have n2_ := Aside0.mk (below_step (by repeat (first | (with_reducible first | exact HB.out | apply below_alloc | apply pw_below_drewN | apply below_drew1 | refine below_set ?_ GE431.out) | exact HB.out)) hb)
                                    clear BK431
                                    clear HB
                                    have HO434 := n0_
                                    have BK431 := n1_
                                    have HB := n2_
                                    clear n0_ n1_ n2_
                                    (try clear hb)
                                    (try clear hb2)
                                    (try clear hk)
                                    (try clear hi)
                                    (try clear ho0)
                                    refine hK.out _ _ ⟨(blk_cell BK431.out 0).trans rfl, (blk_cell BK431.out 1).trans rfl, (blk_cell BK431.out 2).trans rfl⟩ (fun hHeld => ?_)
                                    clear hK K
                                    refine norm_ (a' := ?_) ?_ ?_
                                    rotate_left
                                    · show Act.put _ (some 51) _ = _
                                      simp only [Act.put, List.setIfInBounds_toArray, List.set_cons_zero, List.set_cons_succ, i64_w, i32_w]
                                      rfl
                                    refine one_ (i := 4) (N := some 53) #[true, true, true, true, true, false, false, false, false, false, false, false, false, false, false, false, false, false] rfl rfl (one_of HT_.out (by kernel_rfl)) (by decide) (fun K hK => ?_)
                                    refine Kd.R_lit_step k31 _ 31 ?hg (N := 53) ?hd (xs := ([(⟨(rd_T31 l2 x45_3).f0, (rd_T31 l2 x45_3).f1, (rd_T31 l2 x45_3).f2⟩ : S31)] : List (S31))) (inner := [.bool ((rd_T31 l2 x45_3).f0), .string ((rd_T31 l2 x45_3).f1), .int .i64 ((rd_T31 l2 x45_3).f2)]) (ok := fun _ => True) (okp := fun _ => True) ?hr ?hp (fun _ hk => hk) trivial (Below.refl _ _) (Nat.le_refl _) (by simp) ?_; (case hd => rfl); (case hg => rfl); (case hr => first | (go_simp; done) | (go_simp; rfl)); (case hp => exact (Reps.c3 (show Kd.M k31 _ _ _ (⟨(rd_T31 l2 x45_3).f0, (rd_T31 l2 x45_3).f1, (rd_T31 l2 x45_3).f2⟩ : S31) [.bool ((rd_T31 l2 x45_3).f0), .string ((rd_T31 l2 x45_3).f1), .int .i64 ((rd_T31 l2 x45_3).f2)] from (k31_mkM _ _ _ (⟨(rd_T31 l2 x45_3).f0, (rd_T31 l2 x45_3).f1, (rd_T31 l2 x45_3).f2⟩ : S31) )) (Reps.none _ _)))
                                    intro v436 w48 ho49 hb hg_ hnew_
                                    clear hg_ hnew_
                                    (first | rw [← Ny435.out] at ho49 | (simp only [Int.reduceToNat] at ho49; rw [← Ny435.out] at ho49))
                                    have n0_ := Aside0.mk (Kd.R_elder' (by (with_reducible repeat (first | apply Kd.R_alloc | apply Kd.R_drewN | apply Kd.R_drew)); exact HO434.out) (Kd.R_base ho49) hb)
                                    have n1_ := Aside0.mk (Kd.R_lower (Kd.R_newB (Kd.R_new' ho49 (Kd.R_lt (by (with_reducible repeat (first | apply Kd.R_alloc | apply Kd.R_drewN | apply Kd.R_drew)); exact HO434.out))) (g := gb431) (o := .cells #[.bool ((rd_T31 l2 x45_3).f0), .string ((rd_T31 l2 x45_3).f1), .int .i64 ((rd_T31 l2 x45_3).f2)] 31 (0, 0)) (by (with_reducible repeat (first | refine blk_drewN ?_ _ | refine blk_drew ?_ | refine blk_alloc ?_ _)); exact BK431.out)) (below_size (by repeat (first | (with_reducible first | exact HB.out | apply below_alloc | apply pw_below_drewN | apply below_drew1 | refine below_set ?_ GE431.out) | exact HB.out))))
                                    have n2_ := Aside0.mk (blk_below (g := gb431) (o := .cells #[.bool ((rd_T31 l2 x45_3).f0), .string ((rd_T31 l2 x45_3).f1), .int .i64 ((rd_T31 l2 x45_3).f2)] 31 (0, 0)) (by (with_reducible repeat (first | refine blk_drewN ?_ _ | refine blk_drew ?_ | refine blk_alloc ?_ _)); exact BK431.out) hb)
                                    have n3_ := Aside0.mk (below_step (by repeat (first | (with_reducible first | exact HB.out | apply below_alloc | apply pw_below_drewN | apply below_drew1 | refine below_set ?_ GE431.out) | exact HB.out)) hb)
                                    clear HO434
                                    clear BK431
                                    clear HB
                                    have HO434 := n0_
                                    have HO437 := n1_
                                    have BK431 := n2_
                                    have HB := n3_
                                    clear n0_ n1_ n2_ n3_
                                    clear hb ho49
                                    obtain ⟨Ao51, co51, eo51⟩ := Kd.R_slice HO437.out
                                    (first | subst eo51 | (injection eo51 with f1_ f2_ f3_; have f4_ := f1_.symm; have f5_ := f3_.symm; clear f1_ f2_ f3_; subst f4_; subst f5_))
                                    refine hK.out _ _ ⟨(blk_cell BK431.out 0).trans rfl, (blk_cell BK431.out 1).trans rfl, (blk_cell BK431.out 2).trans rfl⟩ (fun hHeld => ?_)
                                    clear hK K
                                    refine norm_ (a' := ?_) ?_ ?_
                                    rotate_left
                                    · show Act.put _ (some 53) _ = _
                                      simp only [Act.put, List.setIfInBounds_toArray, List.set_cons_zero, List.set_cons_succ, i64_w, i32_w]
                                      rfl
                                    refine one_ (i := 5) (N := some 54) #[true, true, true, true, true, true, false, false, false, false, false, false, false, false, false, false, false, false] rfl rfl (one_of HT_.out (by kernel_rfl)) (by decide) (fun K hK => ?_)
                                    refine Kd.R_append_rows_step k31 (w0 := w) w.heap.size (by rfl) (.tmp 51) (.tmp 53) 26 31 (.agg #[(.bool false), (.string ⟨#[]⟩), (.int .i64 0)]) 32 rfl Tryd.underlying26 info31 rfl (by decide) (by omega) v433 t432 y435 _ _ _ (fun k_ => some k_ ≠ (.slice Ao51 y435.length co51 : Value).ownBlock ∧ k_ ≠ gb431) (fun _ => False) rfl rfl ?aO ?aR (fun _ _ h => h) (fun _ h => h.elim) ?aF ?aB ?aS ?aL ?_
                                    (case aR => repeat (first | exact (Kd.R_reads' HO437.out).2.2 | (with_reducible refine Kd.C_alloc ?_ _) | (with_reducible refine Kd.C_drewN ?_ _) | (with_reducible refine Kd.C_drew ?_)))
                                    (case aB => exact (by repeat (first | (with_reducible first | exact HB.out | apply below_alloc | apply pw_below_drewN | apply below_drew1 | refine below_set ?_ GE431.out) | exact HB.out)))
                                    (case aF => exact (fun k_ hk => ⟨Kd.fresh' (Kd.R_lt (by (with_reducible repeat (first | apply Kd.R_alloc | apply Kd.R_drewN | apply Kd.R_drew)); exact HO437.out)) k_ hk, Kd.freshB (g := gb431) (o := .cells #[.bool ((rd_T31 l2 x45_3).f0), .string ((rd_T31 l2 x45_3).f1), .int .i64 ((rd_T31 l2 x45_3).f2)] 31 (0, 0)) (by (with_reducible repeat (first | refine blk_drewN ?_ _ | refine blk_drew ?_ | refine blk_alloc ?_ _)); exact BK431.out) k_ hk⟩))
                                    (case aO => exact (by (with_reducible repeat (first | apply Kd.R_alloc | apply Kd.R_drewN | apply Kd.R_drew)); exact Kd.R_mono HO434.out (fun _ hk => ⟨hk.2, hk.1.2⟩)))
                                    (case aS => exact (below_size (by repeat (first | (with_reducible first | exact HB.out | apply below_alloc | apply pw_below_drewN | apply below_drew1 | refine below_set ?_ GE431.out) | exact HB.out))))
                                    (case aL => have := LMc36.out; omega)
                                    intro v439 w50 ho hb hg hat
                                    rw [← Ny438.out] at ho
                                    have n0_ := Aside0.mk (blk_grown (g := gb431) (o := .cells #[.bool ((rd_T31 l2 x45_3).f0), .string ((rd_T31 l2 x45_3).f1), .int .i64 ((rd_T31 l2 x45_3).f2)] 31 (0, 0)) (by (with_reducible repeat (first | refine blk_drewN ?_ _ | refine blk_drew ?_ | refine blk_alloc ?_ _)); exact BK431.out) hg (Kd.R_away HO434.out (fun _ hk => hk.1.2)))
                                    have n1_ := Aside0.mk (Kd.R_after (ok := (fun k_ => k_ ≠ gb431)) (by (with_reducible repeat (first | apply Kd.R_alloc | apply Kd.R_drewN | apply Kd.R_drew)); exact Kd.R_mono HO437.out (fun _ hk => ⟨hk.2, hk.1.2⟩)) hg hat)
                                    have n2_ := Aside0.mk (hb)
                                    have n3_ := Aside0.mk (ho)
                                    clear BK431
                                    clear HO437
                                    clear HB
                                    clear HO434
                                    have BK431 := n0_
                                    have HO437 := n1_
                                    have HB := n2_
                                    have HO440 := n3_
                                    clear n0_ n1_ n2_ n3_
                                    clear ho hb hg hat
                                    obtain ⟨Ao52, co52, eo52⟩ := Kd.R_slice HO440.out
                                    (first | subst eo52 | (injection eo52 with f1_ f2_ f3_; have f4_ := f1_.symm; have f5_ := f3_.symm; clear f1_ f2_ f3_; subst f4_; subst f5_))
                                    refine hK.out _ _ ⟨(blk_cell BK431.out 0).trans rfl, (blk_cell BK431.out 1).trans rfl, (blk_cell BK431.out 2).trans rfl⟩ (fun hHeld => ?_)
                                    clear hK K
                                    refine norm_ (a' := ?_) ?_ ?_
                                    rotate_left
                                    · show Act.put _ (some 54) _ = _
                                      simp only [Act.put, List.setIfInBounds_toArray, List.set_cons_zero, List.set_cons_succ, i64_w, i32_w]
                                      rfl
                                    refine one_ (i := 6) (N := some 55) #[true, true, true, true, true, true, true, false, false, false, false, false, false, false, false, false, false, false] rfl rfl (one_of HT_.out (by kernel_rfl)) (by decide) (fun K hK => ?_)
                                    refine goes_ Tryd.func25 (by kernel_rfl) rfl #[.slice A0 l0.length c0, .slice Ao52 y438.length co52] (by rfl) rfl rfl (by (try simp only [List.map_toArray, List.map_cons, List.map_nil]); first | done | rfl | (simp only [List.length_drop, List.length_take]; rfl)) ?_
                                    with_reducible refine (key_Cmp.calls _ _ l0 _ _ y438 t441 _ ?side1 ?side2 ?side3 ?side4 A37.out).mono ?_
                                    (case side1 => repeat (first | exact (Kd.C_below HR0.out HB.out) | (with_reducible refine Kd.C_alloc ?_ _) | (with_reducible refine Kd.C_drewN ?_ _) | (with_reducible refine Kd.C_drew ?_)))
                                    (case side2 => exact HC0.out)
                                    (case side3 => repeat (first | exact (Kd.R_reads' HO440.out).2.2 | (with_reducible refine Kd.C_alloc ?_ _) | (with_reducible refine Kd.C_drewN ?_ _) | (with_reducible refine Kd.C_drew ?_)))
                                    (case side4 => exact (Kd.R_reads' HO440.out).2.1)
                                    rintro e w53 ⟨rfl, hb⟩
                                    refine ⟨_, rfl, ?_⟩
                                    have n0_ := Aside0.mk (Kd.R_below (by (with_reducible repeat (first | apply Kd.R_alloc | apply Kd.R_drewN | apply Kd.R_drew)); exact HO437.out) hb)
                                    have n1_ := Aside0.mk (Kd.R_below (by (with_reducible repeat (first | apply Kd.R_alloc | apply Kd.R_drewN | apply Kd.R_drew)); exact HO440.out) hb)
                                    have n2_ := Aside0.mk (blk_below (g := gb431) (o := .cells #[.bool ((rd_T31 l2 x45_3).f0), .string ((rd_T31 l2 x45_3).f1), .int .i64 ((rd_T31 l2 x45_3).f2)] 31 (0, 0)) (by (with_reducible repeat (first | refine blk_drewN ?_ _ | refine blk_drew ?_ | refine blk_alloc ?_ _)); exact BK431.out) hb)
                                    have n3_ := Aside0.mk (below_step (by repeat (first | (with_reducible first | exact HB.out | apply below_alloc | apply pw_below_drewN | apply below_drew1 | refine below_set ?_ GE431.out) | exact HB.out)) hb)
                                    clear HO437
                                    clear HO440
                                    clear BK431
                                    clear HB
                                    have HO437 := n0_
                                    have HO440 := n1_
                                    have BK431 := n2_
                                    have HB := n3_
                                    clear n0_ n1_ n2_ n3_
                                    (try clear hb)
                                    (try clear hb2)
                                    (try clear hk)
                                    (try clear hi)
                                    refine hK.out _ _ ⟨(blk_cell BK431.out 0).trans rfl, (blk_cell BK431.out 1).trans rfl, (blk_cell BK431.out 2).trans rfl⟩ (fun hHeld => ?_)
                                    clear hK K
                                    refine norm_ (a' := ?_) ?_ ?_
                                    rotate_left
                                    · show Act.put _ (some 55) _ = _
                                      simp only [Act.put, List.setIfInBounds_toArray, List.set_cons_zero, List.set_cons_succ, i64_w, i32_w]
                                      rfl
                                    refine pure_ (i := 7) (N := some 56) (v := ?_) (a' := ?_) #[true, true, true, true, true, true, true, true, false, false, false, false, false, false, false, false, false, false] rfl rfl (any_of HT_.out (by kernel_rfl)) (fun _ _ _ h => h) (Or.inl ⟨by rfl, ?_⟩) ?_ ?_
                                    rotate_left
                                    · intro w'
                                      go_simp
                                      with_reducible rfl
                                    rotate_left
                                    · simp only [Act.put, List.setIfInBounds_toArray, List.set_cons_zero, List.set_cons_succ, i64_w, i32_w]
                                      rfl
                                    refine pure_ (i := 8) (N := some 57) (v := ?_) (a' := ?_) #[true, true, true, true, true, true, true, true, true, false, false, false, false, false, false, false, false, false] rfl rfl (any_of HT_.out (by kernel_rfl)) (fun _ _ _ h => h) (Or.inl ⟨by rfl, ?_⟩) ?_ ?_
                                    rotate_left
                                    · intro w'
                                      go_simp
                                      with_reducible rfl
                                    rotate_left
                                    · simp only [Act.put, List.setIfInBounds_toArray, List.set_cons_zero, List.set_cons_succ, i64_w, i32_w]
                                      rfl
                                    refine pure_ (i := 9) (N := some 58) (v := ?_) (a' := ?_) #[true, true, true, true, true, true, true, true, true, true, false, false, false, false, false, false, false, false] rfl rfl (any_of HT_.out (by kernel_rfl)) (fun _ _ _ h => h) (Or.inl ⟨by rfl, ?_⟩) ?_ ?_
                                    rotate_left
                                    · intro w'
                                      go_simp
                                      with_reducible rfl
                                    rotate_left
                                    · simp only [Act.put, List.setIfInBounds_toArray, List.set_cons_zero, List.set_cons_succ, i64_w, i32_w]
                                      rfl
                                    refine take_ (i := 11) (N := some 60) (v := ?_) (a' := ?_) #[true, true, true, true, true, true, true, true, true, true, false, true, false, false, false, false, false, false] rfl rfl (take_ofW HT_.out HW_.out (by kernel_rfl)) (fun _ _ _ h => h) (Or.inl ⟨by rfl, ?_⟩) hHeld ?_ ?_
                                    rotate_left
                                    · rintro w' ⟨s0, s1, s2⟩
                                      go_simp
                                      with_reducible rfl
                                    rotate_left
                                    · simp only [Act.put, List.setIfInBounds_toArray, List.set_cons_zero, List.set_cons_succ, i64_w, i32_w]
                                      rfl
                                    refine pure_ (i := 14) (N := some 63) (v := ?_) (a' := ?_) #[true, true, true, true, true, true, true, true, true, true, false, true, false, false, true, false, false, false] rfl rfl (any_of HT_.out (by kernel_rfl)) (fun _ _ _ h => h) (Or.inl ⟨by rfl, ?_⟩) ?_ ?_
                                    rotate_left
                                    · intro w'
                                      go_simp
                                      with_reducible rfl
                                    rotate_left
                                    · simp only [Act.put, List.setIfInBounds_toArray, List.set_cons_zero, List.set_cons_succ, i64_w, i32_w]
                                      rfl
                                    refine two_ (i := 10) (j := 12) (Ni := some 59) (Nj := some 61) #[true, true, true, true, true, true, true, true, true, true, true, true, false, false, true, false, false, false] #[true, true, true, true, true, true, true, true, true, true, false, true, true, false, true, false, false, false] rfl rfl rfl rfl (two_of HT_.out (by kernel_rfl)) (by decide) (by decide) (fun K hK => ?_) (fun K hK => ?_)
                                    · skip
                                      refine goes_ Tryd.func16 (by kernel_rfl) rfl #[.slice A0 l0.length c0] (by rfl) rfl rfl (by (try simp only [List.map_toArray, List.map_cons, List.map_nil]); first | done | rfl | (simp only [List.length_drop, List.length_take]; rfl)) ?_
                                      with_reducible refine (rhizomelaw01_own.calls _ _ l0 t442 _ ?side1 ?side2 A39.out).mono ?_
                                      (case side1 => repeat (first | exact (Kd.C_below HR0.out HB.out) | (with_reducible refine Kd.C_alloc ?_ _) | (with_reducible refine Kd.C_drewN ?_ _) | (with_reducible refine Kd.C_drew ?_)))
                                      (case side2 => exact HC0.out)
                                      rintro e w54 ⟨v443, rfl, ho0, hb⟩
                                      refine ⟨_, rfl, ?_⟩
                                      have n0_ := Aside0.mk (Kd.R_elder' (by (with_reducible repeat (first | apply Kd.R_alloc | apply Kd.R_drewN | apply Kd.R_drew)); exact HO437.out) (Kd.R_base ho0) hb)
                                      have n1_ := Aside0.mk (Kd.R_elder' (by (with_reducible repeat (first | apply Kd.R_alloc | apply Kd.R_drewN | apply Kd.R_drew)); exact HO440.out) (Kd.R_base ho0) hb)
                                      have n2_ := Aside0.mk (Kd.R_lower (Kd.R_newB (Kd.R_new' (Kd.R_new' ho0 (Kd.R_lt (by (with_reducible repeat (first | apply Kd.R_alloc | apply Kd.R_drewN | apply Kd.R_drew)); exact HO437.out))) (Kd.R_lt (by (with_reducible repeat (first | apply Kd.R_alloc | apply Kd.R_drewN | apply Kd.R_drew)); exact HO440.out))) (g := gb431) (o := .cells #[.bool ((rd_T31 l2 x45_3).f0), .string ((rd_T31 l2 x45_3).f1), .int .i64 ((rd_T31 l2 x45_3).f2)] 31 (0, 0)) (by (with_reducible repeat (first | refine blk_drewN ?_ _ | refine blk_drew ?_ | refine blk_alloc ?_ _)); exact BK431.out)) (below_size (by repeat (first | (with_reducible first | exact HB.out | apply below_alloc | apply pw_below_drewN | apply below_drew1 | refine below_set ?_ GE431.out) | exact HB.out))))
                                      have n3_ := Aside0.mk (blk_below (g := gb431) (o := .cells #[.bool ((rd_T31 l2 x45_3).f0), .string ((rd_T31 l2 x45_3).f1), .int .i64 ((rd_T31 l2 x45_3).f2)] 31 (0, 0)) (by (with_reducible repeat (first | refine blk_drewN ?_ _ | refine blk_drew ?_ | refine blk_alloc ?_ _)); exact BK431.out) hb)
                                      have n4_ := Aside0.mk (below_step (by repeat (first | (with_reducible first | exact HB.out | apply below_alloc | apply pw_below_drewN | apply below_drew1 | refine below_set ?_ GE431.out) | exact HB.out)) hb)
                                      clear HO437
                                      clear HO440
                                      clear BK431
                                      clear HB
                                      have HO437 := n0_
                                      have HO440 := n1_
                                      have HO444 := n2_
                                      have BK431 := n3_
                                      have HB := n4_
                                      clear n0_ n1_ n2_ n3_ n4_
                                      (try clear hb)
                                      (try clear hb2)
                                      (try clear hk)
                                      (try clear hi)
                                      (try clear ho0)
                                      refine hK.out _ _ ⟨(blk_cell BK431.out 0).trans rfl, (blk_cell BK431.out 1).trans rfl, (blk_cell BK431.out 2).trans rfl⟩ (fun hHeld => ?_)
                                      clear hK K
                                      refine norm_ (a' := ?_) ?_ ?_
                                      rotate_left
                                      · show Act.put _ (some 59) _ = _
                                        simp only [Act.put, List.setIfInBounds_toArray, List.set_cons_zero, List.set_cons_succ, i64_w, i32_w]
                                        rfl
                                      refine one_ (i := 12) (N := some 61) #[true, true, true, true, true, true, true, true, true, true, true, true, true, false, true, false, false, false] rfl rfl (one_of HT_.out (by kernel_rfl)) (by decide) (fun K hK => ?_)
                                      refine Kd.R_lit_step k31 _ 31 ?hg (N := 61) ?hd (xs := ([(⟨(rd_T31 l2 x45_3).f0, (rd_T31 l2 x45_3).f1, (rd_T31 l2 x45_3).f2⟩ : S31)] : List (S31))) (inner := [.bool ((rd_T31 l2 x45_3).f0), .string ((rd_T31 l2 x45_3).f1), .int .i64 ((rd_T31 l2 x45_3).f2)]) (ok := fun _ => True) (okp := fun _ => True) ?hr ?hp (fun _ hk => hk) trivial (Below.refl _ _) (Nat.le_refl _) (by simp) ?_; (case hd => rfl); (case hg => rfl); (case hr => first | (go_simp; done) | (go_simp; rfl)); (case hp => exact (Reps.c3 (show Kd.M k31 _ _ _ (⟨(rd_T31 l2 x45_3).f0, (rd_T31 l2 x45_3).f1, (rd_T31 l2 x45_3).f2⟩ : S31) [.bool ((rd_T31 l2 x45_3).f0), .string ((rd_T31 l2 x45_3).f1), .int .i64 ((rd_T31 l2 x45_3).f2)] from (k31_mkM _ _ _ (⟨(rd_T31 l2 x45_3).f0, (rd_T31 l2 x45_3).f1, (rd_T31 l2 x45_3).f2⟩ : S31) )) (Reps.none _ _)))
                                      intro v446 w55 ho56 hb hg_ hnew_
                                      clear hg_ hnew_
                                      (first | rw [← Ny445.out] at ho56 | (simp only [Int.reduceToNat] at ho56; rw [← Ny445.out] at ho56))
                                      have n0_ := Aside0.mk (Kd.R_elder' (by (with_reducible repeat (first | apply Kd.R_alloc | apply Kd.R_drewN | apply Kd.R_drew)); exact HO437.out) (Kd.R_base ho56) hb)
                                      have n1_ := Aside0.mk (Kd.R_elder' (by (with_reducible repeat (first | apply Kd.R_alloc | apply Kd.R_drewN | apply Kd.R_drew)); exact HO440.out) (Kd.R_base ho56) hb)
                                      have n2_ := Aside0.mk (Kd.R_elder' (by (with_reducible repeat (first | apply Kd.R_alloc | apply Kd.R_drewN | apply Kd.R_drew)); exact HO444.out) (Kd.R_base ho56) hb)
                                      have n3_ := Aside0.mk (Kd.R_lower (Kd.R_newB (Kd.R_new' (Kd.R_new' (Kd.R_new' ho56 (Kd.R_lt (by (with_reducible repeat (first | apply Kd.R_alloc | apply Kd.R_drewN | apply Kd.R_drew)); exact HO437.out))) (Kd.R_lt (by (with_reducible repeat (first | apply Kd.R_alloc | apply Kd.R_drewN | apply Kd.R_drew)); exact HO440.out))) (Kd.R_lt (by (with_reducible repeat (first | apply Kd.R_alloc | apply Kd.R_drewN | apply Kd.R_drew)); exact HO444.out))) (g := gb431) (o := .cells #[.bool ((rd_T31 l2 x45_3).f0), .string ((rd_T31 l2 x45_3).f1), .int .i64 ((rd_T31 l2 x45_3).f2)] 31 (0, 0)) (by (with_reducible repeat (first | refine blk_drewN ?_ _ | refine blk_drew ?_ | refine blk_alloc ?_ _)); exact BK431.out)) (below_size (by repeat (first | (with_reducible first | exact HB.out | apply below_alloc | apply pw_below_drewN | apply below_drew1 | refine below_set ?_ GE431.out) | exact HB.out))))
                                      have n4_ := Aside0.mk (blk_below (g := gb431) (o := .cells #[.bool ((rd_T31 l2 x45_3).f0), .string ((rd_T31 l2 x45_3).f1), .int .i64 ((rd_T31 l2 x45_3).f2)] 31 (0, 0)) (by (with_reducible repeat (first | refine blk_drewN ?_ _ | refine blk_drew ?_ | refine blk_alloc ?_ _)); exact BK431.out) hb)
                                      have n5_ := Aside0.mk (below_step (by repeat (first | (with_reducible first | exact HB.out | apply below_alloc | apply pw_below_drewN | apply below_drew1 | refine below_set ?_ GE431.out) | exact HB.out)) hb)
                                      clear HO437
                                      clear HO440
                                      clear HO444
                                      clear BK431
                                      clear HB
                                      have HO437 := n0_
                                      have HO440 := n1_
                                      have HO444 := n2_
                                      have HO447 := n3_
                                      have BK431 := n4_
                                      have HB := n5_
                                      clear n0_ n1_ n2_ n3_ n4_ n5_
                                      clear hb ho56
                                      refine hK.out _ _ ⟨(blk_cell BK431.out 0).trans rfl, (blk_cell BK431.out 1).trans rfl, (blk_cell BK431.out 2).trans rfl⟩ (fun hHeld => ?_)
                                      clear hK K
                                      refine norm_ (a' := ?_) ?_ ?_
                                      rotate_left
                                      · show Act.put _ (some 61) _ = _
                                        simp only [Act.put, List.setIfInBounds_toArray, List.set_cons_zero, List.set_cons_succ, i64_w, i32_w]
                                        rfl
                                      exact norm_ (by first | (simp only [putAll, Act.put, List.setIfInBounds_toArray, List.set_cons_zero, List.set_cons_succ]; done) | (simp only [putAll, Act.put, List.setIfInBounds_toArray, List.set_cons_zero, List.set_cons_succ]; rfl)) (hCont (v433, .slice Ao51 y435.length co51, .slice Ao52 y438.length co52, v443, v446) _ ⟨hHeld, (by (with_reducible repeat (first | apply Kd.R_alloc | apply Kd.R_drewN | apply Kd.R_drew)); exact Kd.R_mono HO437.out (fun _ hk => ⟨hk.1.1.2, ⟨hk.1.2, ⟨hk.2, hk.1.1.1⟩⟩⟩)), (by (with_reducible repeat (first | apply Kd.R_alloc | apply Kd.R_drewN | apply Kd.R_drew)); exact Kd.R_mono HO440.out (fun _ hk => ⟨hk.1.1.1, ⟨hk.1.2, ⟨hk.2, hk.1.1.2⟩⟩⟩)), (by (with_reducible repeat (first | apply Kd.R_alloc | apply Kd.R_drewN | apply Kd.R_drew)); exact Kd.R_mono HO444.out (fun _ hk => ⟨hk.1.1.1.2, ⟨hk.1.1.2, ⟨hk.2, hk.1.2⟩⟩⟩)), (by (with_reducible repeat (first | apply Kd.R_alloc | apply Kd.R_drewN | apply Kd.R_drew)); exact Kd.R_mono HO447.out (fun _ hk => ⟨hk.1.1.1.2, ⟨hk.1.1.2, ⟨hk.1.2, hk.2⟩⟩⟩)), (by (with_reducible repeat (first | refine blk_drewN ?_ _ | refine blk_drew ?_ | refine blk_alloc ?_ _)); exact BK431.out), (by repeat (first | (with_reducible first | exact HB.out | apply below_alloc | apply pw_below_drewN | apply below_drew1 | refine below_set ?_ GE431.out) | exact HB.out))⟩)
                                    · skip
                                      refine Kd.R_lit_step k31 _ 31 ?hg (N := 61) ?hd (xs := ([(⟨(rd_T31 l2 x45_3).f0, (rd_T31 l2 x45_3).f1, (rd_T31 l2 x45_3).f2⟩ : S31)] : List (S31))) (inner := [.bool ((rd_T31 l2 x45_3).f0), .string ((rd_T31 l2 x45_3).f1), .int .i64 ((rd_T31 l2 x45_3).f2)]) (ok := fun _ => True) (okp := fun _ => True) ?hr ?hp (fun _ hk => hk) trivial (Below.refl _ _) (Nat.le_refl _) (by simp) ?_; (case hd => rfl); (case hg => rfl); (case hr => first | (go_simp; done) | (go_simp; rfl)); (case hp => exact (Reps.c3 (show Kd.M k31 _ _ _ (⟨(rd_T31 l2 x45_3).f0, (rd_T31 l2 x45_3).f1, (rd_T31 l2 x45_3).f2⟩ : S31) [.bool ((rd_T31 l2 x45_3).f0), .string ((rd_T31 l2 x45_3).f1), .int .i64 ((rd_T31 l2 x45_3).f2)] from (k31_mkM _ _ _ (⟨(rd_T31 l2 x45_3).f0, (rd_T31 l2 x45_3).f1, (rd_T31 l2 x45_3).f2⟩ : S31) )) (Reps.none _ _)))
                                      intro v446 w54 ho55 hb hg_ hnew_
                                      clear hg_ hnew_
                                      (first | rw [← Ny445.out] at ho55 | (simp only [Int.reduceToNat] at ho55; rw [← Ny445.out] at ho55))
                                      have n0_ := Aside0.mk (Kd.R_elder' (by (with_reducible repeat (first | apply Kd.R_alloc | apply Kd.R_drewN | apply Kd.R_drew)); exact HO437.out) (Kd.R_base ho55) hb)
                                      have n1_ := Aside0.mk (Kd.R_elder' (by (with_reducible repeat (first | apply Kd.R_alloc | apply Kd.R_drewN | apply Kd.R_drew)); exact HO440.out) (Kd.R_base ho55) hb)
                                      have n2_ := Aside0.mk (Kd.R_lower (Kd.R_newB (Kd.R_new' (Kd.R_new' ho55 (Kd.R_lt (by (with_reducible repeat (first | apply Kd.R_alloc | apply Kd.R_drewN | apply Kd.R_drew)); exact HO437.out))) (Kd.R_lt (by (with_reducible repeat (first | apply Kd.R_alloc | apply Kd.R_drewN | apply Kd.R_drew)); exact HO440.out))) (g := gb431) (o := .cells #[.bool ((rd_T31 l2 x45_3).f0), .string ((rd_T31 l2 x45_3).f1), .int .i64 ((rd_T31 l2 x45_3).f2)] 31 (0, 0)) (by (with_reducible repeat (first | refine blk_drewN ?_ _ | refine blk_drew ?_ | refine blk_alloc ?_ _)); exact BK431.out)) (below_size (by repeat (first | (with_reducible first | exact HB.out | apply below_alloc | apply pw_below_drewN | apply below_drew1 | refine below_set ?_ GE431.out) | exact HB.out))))
                                      have n3_ := Aside0.mk (blk_below (g := gb431) (o := .cells #[.bool ((rd_T31 l2 x45_3).f0), .string ((rd_T31 l2 x45_3).f1), .int .i64 ((rd_T31 l2 x45_3).f2)] 31 (0, 0)) (by (with_reducible repeat (first | refine blk_drewN ?_ _ | refine blk_drew ?_ | refine blk_alloc ?_ _)); exact BK431.out) hb)
                                      have n4_ := Aside0.mk (below_step (by repeat (first | (with_reducible first | exact HB.out | apply below_alloc | apply pw_below_drewN | apply below_drew1 | refine below_set ?_ GE431.out) | exact HB.out)) hb)
                                      clear HO437
                                      clear HO440
                                      clear BK431
                                      clear HB
                                      have HO437 := n0_
                                      have HO440 := n1_
                                      have HO447 := n2_
                                      have BK431 := n3_
                                      have HB := n4_
                                      clear n0_ n1_ n2_ n3_ n4_
                                      clear hb ho55
                                      refine hK.out _ _ ⟨(blk_cell BK431.out 0).trans rfl, (blk_cell BK431.out 1).trans rfl, (blk_cell BK431.out 2).trans rfl⟩ (fun hHeld => ?_)
                                      clear hK K
                                      refine norm_ (a' := ?_) ?_ ?_
                                      rotate_left
                                      · show Act.put _ (some 61) _ = _
                                        simp only [Act.put, List.setIfInBounds_toArray, List.set_cons_zero, List.set_cons_succ, i64_w, i32_w]
                                        rfl
                                      refine one_ (i := 10) (N := some 59) #[true, true, true, true, true, true, true, true, true, true, true, true, true, false, true, false, false, false] rfl rfl (one_of HT_.out (by kernel_rfl)) (by decide) (fun K hK => ?_)
                                      refine goes_ Tryd.func16 (by kernel_rfl) rfl #[.slice A0 l0.length c0] (by rfl) rfl rfl (by (try simp only [List.map_toArray, List.map_cons, List.map_nil]); first | done | rfl | (simp only [List.length_drop, List.length_take]; rfl)) ?_
                                      with_reducible refine (rhizomelaw01_own.calls _ _ l0 t442 _ ?side1 ?side2 A39.out).mono ?_
                                      (case side1 => repeat (first | exact (Kd.C_below HR0.out HB.out) | (with_reducible refine Kd.C_alloc ?_ _) | (with_reducible refine Kd.C_drewN ?_ _) | (with_reducible refine Kd.C_drew ?_)))
                                      (case side2 => exact HC0.out)
                                      rintro e w56 ⟨v443, rfl, ho0, hb⟩
                                      refine ⟨_, rfl, ?_⟩
                                      have n0_ := Aside0.mk (Kd.R_elder' (by (with_reducible repeat (first | apply Kd.R_alloc | apply Kd.R_drewN | apply Kd.R_drew)); exact HO437.out) (Kd.R_base ho0) hb)
                                      have n1_ := Aside0.mk (Kd.R_elder' (by (with_reducible repeat (first | apply Kd.R_alloc | apply Kd.R_drewN | apply Kd.R_drew)); exact HO440.out) (Kd.R_base ho0) hb)
                                      have n2_ := Aside0.mk (Kd.R_elder' (by (with_reducible repeat (first | apply Kd.R_alloc | apply Kd.R_drewN | apply Kd.R_drew)); exact HO447.out) (Kd.R_base ho0) hb)
                                      have n3_ := Aside0.mk (Kd.R_lower (Kd.R_newB (Kd.R_new' (Kd.R_new' (Kd.R_new' ho0 (Kd.R_lt (by (with_reducible repeat (first | apply Kd.R_alloc | apply Kd.R_drewN | apply Kd.R_drew)); exact HO437.out))) (Kd.R_lt (by (with_reducible repeat (first | apply Kd.R_alloc | apply Kd.R_drewN | apply Kd.R_drew)); exact HO440.out))) (Kd.R_lt (by (with_reducible repeat (first | apply Kd.R_alloc | apply Kd.R_drewN | apply Kd.R_drew)); exact HO447.out))) (g := gb431) (o := .cells #[.bool ((rd_T31 l2 x45_3).f0), .string ((rd_T31 l2 x45_3).f1), .int .i64 ((rd_T31 l2 x45_3).f2)] 31 (0, 0)) (by (with_reducible repeat (first | refine blk_drewN ?_ _ | refine blk_drew ?_ | refine blk_alloc ?_ _)); exact BK431.out)) (below_size (by repeat (first | (with_reducible first | exact HB.out | apply below_alloc | apply pw_below_drewN | apply below_drew1 | refine below_set ?_ GE431.out) | exact HB.out))))
                                      have n4_ := Aside0.mk (blk_below (g := gb431) (o := .cells #[.bool ((rd_T31 l2 x45_3).f0), .string ((rd_T31 l2 x45_3).f1), .int .i64 ((rd_T31 l2 x45_3).f2)] 31 (0, 0)) (by (with_reducible repeat (first | refine blk_drewN ?_ _ | refine blk_drew ?_ | refine blk_alloc ?_ _)); exact BK431.out) hb)
                                      have n5_ := Aside0.mk (below_step (by repeat (first | (with_reducible first | exact HB.out | apply below_alloc | apply pw_below_drewN | apply below_drew1 | refine below_set ?_ GE431.out) | exact HB.out)) hb)
                                      clear HO437
                                      clear HO440
                                      clear HO447
                                      clear BK431
                                      clear HB
                                      have HO437 := n0_
                                      have HO440 := n1_
                                      have HO447 := n2_
                                      have HO444 := n3_
                                      have BK431 := n4_
                                      have HB := n5_
                                      clear n0_ n1_ n2_ n3_ n4_ n5_
                                      (try clear hb)
                                      (try clear hb2)
                                      (try clear hk)
                                      (try clear hi)
                                      (try clear ho0)
                                      refine hK.out _ _ ⟨(blk_cell BK431.out 0).trans rfl, (blk_cell BK431.out 1).trans rfl, (blk_cell BK431.out 2).trans rfl⟩ (fun hHeld => ?_)
                                      clear hK K
                                      refine norm_ (a' := ?_) ?_ ?_
                                      rotate_left
                                      · show Act.put _ (some 59) _ = _
                                        simp only [Act.put, List.setIfInBounds_toArray, List.set_cons_zero, List.set_cons_succ, i64_w, i32_w]
                                        rfl
                                      exact norm_ (by first | (simp only [putAll, Act.put, List.setIfInBounds_toArray, List.set_cons_zero, List.set_cons_succ]; done) | (simp only [putAll, Act.put, List.setIfInBounds_toArray, List.set_cons_zero, List.set_cons_succ]; rfl)) (hCont (v433, .slice Ao51 y435.length co51, .slice Ao52 y438.length co52, v443, v446) _ ⟨hHeld, (by (with_reducible repeat (first | apply Kd.R_alloc | apply Kd.R_drewN | apply Kd.R_drew)); exact Kd.R_mono HO437.out (fun _ hk => ⟨hk.1.1.2, ⟨hk.2, ⟨hk.1.2, hk.1.1.1⟩⟩⟩)), (by (with_reducible repeat (first | apply Kd.R_alloc | apply Kd.R_drewN | apply Kd.R_drew)); exact Kd.R_mono HO440.out (fun _ hk => ⟨hk.1.1.1, ⟨hk.2, ⟨hk.1.2, hk.1.1.2⟩⟩⟩)), (by (with_reducible repeat (first | apply Kd.R_alloc | apply Kd.R_drewN | apply Kd.R_drew)); exact Kd.R_mono HO444.out (fun _ hk => ⟨hk.1.1.1.2, ⟨hk.1.1.2, ⟨hk.1.2, hk.2⟩⟩⟩)), (by (with_reducible repeat (first | apply Kd.R_alloc | apply Kd.R_drewN | apply Kd.R_drew)); exact Kd.R_mono HO447.out (fun _ hk => ⟨hk.1.1.1.2, ⟨hk.1.1.2, ⟨hk.2, hk.1.2⟩⟩⟩)), (by (with_reducible repeat (first | refine blk_drewN ?_ _ | refine blk_drew ?_ | refine blk_alloc ?_ _)); exact BK431.out), (by repeat (first | (with_reducible first | exact HB.out | apply below_alloc | apply pw_below_drewN | apply below_drew1 | refine below_set ?_ GE431.out) | exact HB.out))⟩)
                                  · skip
                                    refine Kd.R_lit_step k31 _ 31 ?hg (N := 53) ?hd (xs := ([(⟨(rd_T31 l2 x45_3).f0, (rd_T31 l2 x45_3).f1, (rd_T31 l2 x45_3).f2⟩ : S31)] : List (S31))) (inner := [.bool ((rd_T31 l2 x45_3).f0), .string ((rd_T31 l2 x45_3).f1), .int .i64 ((rd_T31 l2 x45_3).f2)]) (ok := fun _ => True) (okp := fun _ => True) ?hr ?hp (fun _ hk => hk) trivial (Below.refl _ _) (Nat.le_refl _) (by simp) ?_; (case hd => rfl); (case hg => rfl); (case hr => first | (go_simp; done) | (go_simp; rfl)); (case hp => exact (Reps.c3 (show Kd.M k31 _ _ _ (⟨(rd_T31 l2 x45_3).f0, (rd_T31 l2 x45_3).f1, (rd_T31 l2 x45_3).f2⟩ : S31) [.bool ((rd_T31 l2 x45_3).f0), .string ((rd_T31 l2 x45_3).f1), .int .i64 ((rd_T31 l2 x45_3).f2)] from (k31_mkM _ _ _ (⟨(rd_T31 l2 x45_3).f0, (rd_T31 l2 x45_3).f1, (rd_T31 l2 x45_3).f2⟩ : S31) )) (Reps.none _ _)))
                                    intro v436 w47 ho48 hb hg_ hnew_
                                    clear hg_ hnew_
                                    (first | rw [← Ny435.out] at ho48 | (simp only [Int.reduceToNat] at ho48; rw [← Ny435.out] at ho48))
                                    have n0_ := Aside0.mk (Kd.R_lower (Kd.R_newB ho48 (g := gb431) (o := .cells #[.bool ((rd_T31 l2 x45_3).f0), .string ((rd_T31 l2 x45_3).f1), .int .i64 ((rd_T31 l2 x45_3).f2)] 31 (0, 0)) (by (with_reducible repeat (first | refine blk_drewN ?_ _ | refine blk_drew ?_ | refine blk_alloc ?_ _)); exact BK431.out)) (below_size (by repeat (first | (with_reducible first | exact HB.out | apply below_alloc | apply pw_below_drewN | apply below_drew1 | refine below_set ?_ GE431.out) | exact HB.out))))
                                    have n1_ := Aside0.mk (blk_below (g := gb431) (o := .cells #[.bool ((rd_T31 l2 x45_3).f0), .string ((rd_T31 l2 x45_3).f1), .int .i64 ((rd_T31 l2 x45_3).f2)] 31 (0, 0)) (by (with_reducible repeat (first | refine blk_drewN ?_ _ | refine blk_drew ?_ | refine blk_alloc ?_ _)); exact BK431.out) hb)
                                    have n2_ := Aside0.mk (below_step (by repeat (first | (with_reducible first | exact HB.out | apply below_alloc | apply pw_below_drewN | apply below_drew1 | refine below_set ?_ GE431.out) | exact HB.out)) hb)
                                    clear BK431
                                    clear HB
                                    have HO437 := n0_
                                    have BK431 := n1_
                                    have HB := n2_
                                    clear n0_ n1_ n2_
                                    clear hb ho48
                                    refine hK.out _ _ ⟨(blk_cell BK431.out 0).trans rfl, (blk_cell BK431.out 1).trans rfl, (blk_cell BK431.out 2).trans rfl⟩ (fun hHeld => ?_)
                                    clear hK K
                                    refine norm_ (a' := ?_) ?_ ?_
                                    rotate_left
                                    · show Act.put _ (some 53) _ = _
                                      simp only [Act.put, List.setIfInBounds_toArray, List.set_cons_zero, List.set_cons_succ, i64_w, i32_w]
                                      rfl
                                    refine one_ (i := 2) (N := some 51) #[true, true, true, true, true, false, false, false, false, false, false, false, false, false, false, false, false, false] rfl rfl (one_of HT_.out (by kernel_rfl)) (by decide) (fun K hK => ?_)
                                    refine goes_ Tryd.func16 (by kernel_rfl) rfl #[.slice A0 l0.length c0] (by rfl) rfl rfl (by (try simp only [List.map_toArray, List.map_cons, List.map_nil]); first | done | rfl | (simp only [List.length_drop, List.length_take]; rfl)) ?_
                                    with_reducible refine (rhizomelaw01_own.calls _ _ l0 t432 _ ?side1 ?side2 A35.out).mono ?_
                                    (case side1 => repeat (first | exact (Kd.C_below HR0.out HB.out) | (with_reducible refine Kd.C_alloc ?_ _) | (with_reducible refine Kd.C_drewN ?_ _) | (with_reducible refine Kd.C_drew ?_)))
                                    (case side2 => exact HC0.out)
                                    rintro e w49 ⟨v433, rfl, ho0, hb⟩
                                    refine ⟨_, rfl, ?_⟩
                                    have n0_ := Aside0.mk (Kd.R_elder' (by (with_reducible repeat (first | apply Kd.R_alloc | apply Kd.R_drewN | apply Kd.R_drew)); exact HO437.out) (Kd.R_base ho0) hb)
                                    have n1_ := Aside0.mk (Kd.R_lower (Kd.R_newB (Kd.R_new' ho0 (Kd.R_lt (by (with_reducible repeat (first | apply Kd.R_alloc | apply Kd.R_drewN | apply Kd.R_drew)); exact HO437.out))) (g := gb431) (o := .cells #[.bool ((rd_T31 l2 x45_3).f0), .string ((rd_T31 l2 x45_3).f1), .int .i64 ((rd_T31 l2 x45_3).f2)] 31 (0, 0)) (by (with_reducible repeat (first | refine blk_drewN ?_ _ | refine blk_drew ?_ | refine blk_alloc ?_ _)); exact BK431.out)) (below_size (by repeat (first | (with_reducible first | exact HB.out | apply below_alloc | apply pw_below_drewN | apply below_drew1 | refine below_set ?_ GE431.out) | exact HB.out))))
                                    have n2_ := Aside0.mk (blk_below (g := gb431) (o := .cells #[.bool ((rd_T31 l2 x45_3).f0), .string ((rd_T31 l2 x45_3).f1), .int .i64 ((rd_T31 l2 x45_3).f2)] 31 (0, 0)) (by (with_reducible repeat (first | refine blk_drewN ?_ _ | refine blk_drew ?_ | refine blk_alloc ?_ _)); exact BK431.out) hb)
                                    have n3_ := Aside0.mk (below_step (by repeat (first | (with_reducible first | exact HB.out | apply below_alloc | apply pw_below_drewN | apply below_drew1 | refine below_set ?_ GE431.out) | exact HB.out)) hb)
                                    clear HO437
                                    clear BK431
                                    clear HB
                                    have HO437 := n0_
                                    have HO434 := n1_
                                    have BK431 := n2_
                                    have HB := n3_
                                    clear n0_ n1_ n2_ n3_
                                    (try clear hb)
                                    (try clear hb2)
                                    (try clear hk)
                                    (try clear hi)
                                    (try clear ho0)
                                    obtain ⟨Ao51, co51, eo51⟩ := Kd.R_slice HO437.out
                                    (first | subst eo51 | (injection eo51 with f1_ f2_ f3_; have f4_ := f1_.symm; have f5_ := f3_.symm; clear f1_ f2_ f3_; subst f4_; subst f5_))
                                    refine hK.out _ _ ⟨(blk_cell BK431.out 0).trans rfl, (blk_cell BK431.out 1).trans rfl, (blk_cell BK431.out 2).trans rfl⟩ (fun hHeld => ?_)
                                    clear hK K
                                    refine norm_ (a' := ?_) ?_ ?_
                                    rotate_left
                                    · show Act.put _ (some 51) _ = _
                                      simp only [Act.put, List.setIfInBounds_toArray, List.set_cons_zero, List.set_cons_succ, i64_w, i32_w]
                                      rfl
                                    refine one_ (i := 5) (N := some 54) #[true, true, true, true, true, true, false, false, false, false, false, false, false, false, false, false, false, false] rfl rfl (one_of HT_.out (by kernel_rfl)) (by decide) (fun K hK => ?_)
                                    refine Kd.R_append_rows_step k31 (w0 := w) w.heap.size (by rfl) (.tmp 51) (.tmp 53) 26 31 (.agg #[(.bool false), (.string ⟨#[]⟩), (.int .i64 0)]) 32 rfl Tryd.underlying26 info31 rfl (by decide) (by omega) v433 t432 y435 _ _ _ (fun k_ => some k_ ≠ (.slice Ao51 y435.length co51 : Value).ownBlock ∧ k_ ≠ gb431) (fun _ => False) rfl rfl ?aO ?aR (fun _ _ h => h) (fun _ h => h.elim) ?aF ?aB ?aS ?aL ?_
                                    (case aR => repeat (first | exact (Kd.R_reads' HO437.out).2.2 | (with_reducible refine Kd.C_alloc ?_ _) | (with_reducible refine Kd.C_drewN ?_ _) | (with_reducible refine Kd.C_drew ?_)))
                                    (case aB => exact (by repeat (first | (with_reducible first | exact HB.out | apply below_alloc | apply pw_below_drewN | apply below_drew1 | refine below_set ?_ GE431.out) | exact HB.out)))
                                    (case aF => exact (fun k_ hk => ⟨Kd.fresh' (Kd.R_lt (by (with_reducible repeat (first | apply Kd.R_alloc | apply Kd.R_drewN | apply Kd.R_drew)); exact HO437.out)) k_ hk, Kd.freshB (g := gb431) (o := .cells #[.bool ((rd_T31 l2 x45_3).f0), .string ((rd_T31 l2 x45_3).f1), .int .i64 ((rd_T31 l2 x45_3).f2)] 31 (0, 0)) (by (with_reducible repeat (first | refine blk_drewN ?_ _ | refine blk_drew ?_ | refine blk_alloc ?_ _)); exact BK431.out) k_ hk⟩))
                                    (case aO => exact (by (with_reducible repeat (first | apply Kd.R_alloc | apply Kd.R_drewN | apply Kd.R_drew)); exact Kd.R_mono HO434.out (fun _ hk => ⟨hk.1.2, hk.2⟩)))
                                    (case aS => exact (below_size (by repeat (first | (with_reducible first | exact HB.out | apply below_alloc | apply pw_below_drewN | apply below_drew1 | refine below_set ?_ GE431.out) | exact HB.out))))
                                    (case aL => have := LMc36.out; omega)
                                    intro v439 w50 ho hb hg hat
                                    rw [← Ny438.out] at ho
                                    have n0_ := Aside0.mk (blk_grown (g := gb431) (o := .cells #[.bool ((rd_T31 l2 x45_3).f0), .string ((rd_T31 l2 x45_3).f1), .int .i64 ((rd_T31 l2 x45_3).f2)] 31 (0, 0)) (by (with_reducible repeat (first | refine blk_drewN ?_ _ | refine blk_drew ?_ | refine blk_alloc ?_ _)); exact BK431.out) hg (Kd.R_away HO434.out (fun _ hk => hk.2)))
                                    have n1_ := Aside0.mk (Kd.R_after (ok := (fun k_ => k_ ≠ gb431)) (by (with_reducible repeat (first | apply Kd.R_alloc | apply Kd.R_drewN | apply Kd.R_drew)); exact Kd.R_mono HO437.out (fun _ hk => ⟨hk.1.2, hk.2⟩)) hg hat)
                                    have n2_ := Aside0.mk (hb)
                                    have n3_ := Aside0.mk (ho)
                                    clear BK431
                                    clear HO437
                                    clear HB
                                    clear HO434
                                    have BK431 := n0_
                                    have HO437 := n1_
                                    have HB := n2_
                                    have HO440 := n3_
                                    clear n0_ n1_ n2_ n3_
                                    clear ho hb hg hat
                                    obtain ⟨Ao52, co52, eo52⟩ := Kd.R_slice HO440.out
                                    (first | subst eo52 | (injection eo52 with f1_ f2_ f3_; have f4_ := f1_.symm; have f5_ := f3_.symm; clear f1_ f2_ f3_; subst f4_; subst f5_))
                                    refine hK.out _ _ ⟨(blk_cell BK431.out 0).trans rfl, (blk_cell BK431.out 1).trans rfl, (blk_cell BK431.out 2).trans rfl⟩ (fun hHeld => ?_)
                                    clear hK K
                                    refine norm_ (a' := ?_) ?_ ?_
                                    rotate_left
                                    · show Act.put _ (some 54) _ = _
                                      simp only [Act.put, List.setIfInBounds_toArray, List.set_cons_zero, List.set_cons_succ, i64_w, i32_w]
                                      rfl
                                    refine one_ (i := 6) (N := some 55) #[true, true, true, true, true, true, true, false, false, false, false, false, false, false, false, false, false, false] rfl rfl (one_of HT_.out (by kernel_rfl)) (by decide) (fun K hK => ?_)
                                    refine goes_ Tryd.func25 (by kernel_rfl) rfl #[.slice A0 l0.length c0, .slice Ao52 y438.length co52] (by rfl) rfl rfl (by (try simp only [List.map_toArray, List.map_cons, List.map_nil]); first | done | rfl | (simp only [List.length_drop, List.length_take]; rfl)) ?_
                                    with_reducible refine (key_Cmp.calls _ _ l0 _ _ y438 t441 _ ?side1 ?side2 ?side3 ?side4 A37.out).mono ?_
                                    (case side1 => repeat (first | exact (Kd.C_below HR0.out HB.out) | (with_reducible refine Kd.C_alloc ?_ _) | (with_reducible refine Kd.C_drewN ?_ _) | (with_reducible refine Kd.C_drew ?_)))
                                    (case side2 => exact HC0.out)
                                    (case side3 => repeat (first | exact (Kd.R_reads' HO440.out).2.2 | (with_reducible refine Kd.C_alloc ?_ _) | (with_reducible refine Kd.C_drewN ?_ _) | (with_reducible refine Kd.C_drew ?_)))
                                    (case side4 => exact (Kd.R_reads' HO440.out).2.1)
                                    rintro e w53 ⟨rfl, hb⟩
                                    refine ⟨_, rfl, ?_⟩
                                    have n0_ := Aside0.mk (Kd.R_below (by (with_reducible repeat (first | apply Kd.R_alloc | apply Kd.R_drewN | apply Kd.R_drew)); exact HO437.out) hb)
                                    have n1_ := Aside0.mk (Kd.R_below (by (with_reducible repeat (first | apply Kd.R_alloc | apply Kd.R_drewN | apply Kd.R_drew)); exact HO440.out) hb)
                                    have n2_ := Aside0.mk (blk_below (g := gb431) (o := .cells #[.bool ((rd_T31 l2 x45_3).f0), .string ((rd_T31 l2 x45_3).f1), .int .i64 ((rd_T31 l2 x45_3).f2)] 31 (0, 0)) (by (with_reducible repeat (first | refine blk_drewN ?_ _ | refine blk_drew ?_ | refine blk_alloc ?_ _)); exact BK431.out) hb)
                                    have n3_ := Aside0.mk (below_step (by repeat (first | (with_reducible first | exact HB.out | apply below_alloc | apply pw_below_drewN | apply below_drew1 | refine below_set ?_ GE431.out) | exact HB.out)) hb)
                                    clear HO437
                                    clear HO440
                                    clear BK431
                                    clear HB
                                    have HO437 := n0_
                                    have HO440 := n1_
                                    have BK431 := n2_
                                    have HB := n3_
                                    clear n0_ n1_ n2_ n3_
                                    (try clear hb)
                                    (try clear hb2)
                                    (try clear hk)
                                    (try clear hi)
                                    refine hK.out _ _ ⟨(blk_cell BK431.out 0).trans rfl, (blk_cell BK431.out 1).trans rfl, (blk_cell BK431.out 2).trans rfl⟩ (fun hHeld => ?_)
                                    clear hK K
                                    refine norm_ (a' := ?_) ?_ ?_
                                    rotate_left
                                    · show Act.put _ (some 55) _ = _
                                      simp only [Act.put, List.setIfInBounds_toArray, List.set_cons_zero, List.set_cons_succ, i64_w, i32_w]
                                      rfl
                                    refine pure_ (i := 7) (N := some 56) (v := ?_) (a' := ?_) #[true, true, true, true, true, true, true, true, false, false, false, false, false, false, false, false, false, false] rfl rfl (any_of HT_.out (by kernel_rfl)) (fun _ _ _ h => h) (Or.inl ⟨by rfl, ?_⟩) ?_ ?_
                                    rotate_left
                                    · intro w'
                                      go_simp
                                      with_reducible rfl
                                    rotate_left
                                    · simp only [Act.put, List.setIfInBounds_toArray, List.set_cons_zero, List.set_cons_succ, i64_w, i32_w]
                                      rfl
                                    refine pure_ (i := 8) (N := some 57) (v := ?_) (a' := ?_) #[true, true, true, true, true, true, true, true, true, false, false, false, false, false, false, false, false, false] rfl rfl (any_of HT_.out (by kernel_rfl)) (fun _ _ _ h => h) (Or.inl ⟨by rfl, ?_⟩) ?_ ?_
                                    rotate_left
                                    · intro w'
                                      go_simp
                                      with_reducible rfl
                                    rotate_left
                                    · simp only [Act.put, List.setIfInBounds_toArray, List.set_cons_zero, List.set_cons_succ, i64_w, i32_w]
                                      rfl
                                    refine pure_ (i := 9) (N := some 58) (v := ?_) (a' := ?_) #[true, true, true, true, true, true, true, true, true, true, false, false, false, false, false, false, false, false] rfl rfl (any_of HT_.out (by kernel_rfl)) (fun _ _ _ h => h) (Or.inl ⟨by rfl, ?_⟩) ?_ ?_
                                    rotate_left
                                    · intro w'
                                      go_simp
                                      with_reducible rfl
                                    rotate_left
                                    · simp only [Act.put, List.setIfInBounds_toArray, List.set_cons_zero, List.set_cons_succ, i64_w, i32_w]
                                      rfl
                                    refine take_ (i := 11) (N := some 60) (v := ?_) (a' := ?_) #[true, true, true, true, true, true, true, true, true, true, false, true, false, false, false, false, false, false] rfl rfl (take_ofW HT_.out HW_.out (by kernel_rfl)) (fun _ _ _ h => h) (Or.inl ⟨by rfl, ?_⟩) hHeld ?_ ?_
                                    rotate_left
                                    · rintro w' ⟨s0, s1, s2⟩
                                      go_simp
                                      with_reducible rfl
                                    rotate_left
                                    · simp only [Act.put, List.setIfInBounds_toArray, List.set_cons_zero, List.set_cons_succ, i64_w, i32_w]
                                      rfl
                                    refine pure_ (i := 14) (N := some 63) (v := ?_) (a' := ?_) #[true, true, true, true, true, true, true, true, true, true, false, true, false, false, true, false, false, false] rfl rfl (any_of HT_.out (by kernel_rfl)) (fun _ _ _ h => h) (Or.inl ⟨by rfl, ?_⟩) ?_ ?_
                                    rotate_left
                                    · intro w'
                                      go_simp
                                      with_reducible rfl
                                    rotate_left
                                    · simp only [Act.put, List.setIfInBounds_toArray, List.set_cons_zero, List.set_cons_succ, i64_w, i32_w]
                                      rfl
                                    refine two_ (i := 10) (j := 12) (Ni := some 59) (Nj := some 61) #[true, true, true, true, true, true, true, true, true, true, true, true, false, false, true, false, false, false] #[true, true, true, true, true, true, true, true, true, true, false, true, true, false, true, false, false, false] rfl rfl rfl rfl (two_of HT_.out (by kernel_rfl)) (by decide) (by decide) (fun K hK => ?_) (fun K hK => ?_)
                                    · skip
                                      refine goes_ Tryd.func16 (by kernel_rfl) rfl #[.slice A0 l0.length c0] (by rfl) rfl rfl (by (try simp only [List.map_toArray, List.map_cons, List.map_nil]); first | done | rfl | (simp only [List.length_drop, List.length_take]; rfl)) ?_
                                      with_reducible refine (rhizomelaw01_own.calls _ _ l0 t442 _ ?side1 ?side2 A39.out).mono ?_
                                      (case side1 => repeat (first | exact (Kd.C_below HR0.out HB.out) | (with_reducible refine Kd.C_alloc ?_ _) | (with_reducible refine Kd.C_drewN ?_ _) | (with_reducible refine Kd.C_drew ?_)))
                                      (case side2 => exact HC0.out)
                                      rintro e w54 ⟨v443, rfl, ho0, hb⟩
                                      refine ⟨_, rfl, ?_⟩
                                      have n0_ := Aside0.mk (Kd.R_elder' (by (with_reducible repeat (first | apply Kd.R_alloc | apply Kd.R_drewN | apply Kd.R_drew)); exact HO437.out) (Kd.R_base ho0) hb)
                                      have n1_ := Aside0.mk (Kd.R_elder' (by (with_reducible repeat (first | apply Kd.R_alloc | apply Kd.R_drewN | apply Kd.R_drew)); exact HO440.out) (Kd.R_base ho0) hb)
                                      have n2_ := Aside0.mk (Kd.R_lower (Kd.R_newB (Kd.R_new' (Kd.R_new' ho0 (Kd.R_lt (by (with_reducible repeat (first | apply Kd.R_alloc | apply Kd.R_drewN | apply Kd.R_drew)); exact HO437.out))) (Kd.R_lt (by (with_reducible repeat (first | apply Kd.R_alloc | apply Kd.R_drewN | apply Kd.R_drew)); exact HO440.out))) (g := gb431) (o := .cells #[.bool ((rd_T31 l2 x45_3).f0), .string ((rd_T31 l2 x45_3).f1), .int .i64 ((rd_T31 l2 x45_3).f2)] 31 (0, 0)) (by (with_reducible repeat (first | refine blk_drewN ?_ _ | refine blk_drew ?_ | refine blk_alloc ?_ _)); exact BK431.out)) (below_size (by repeat (first | (with_reducible first | exact HB.out | apply below_alloc | apply pw_below_drewN | apply below_drew1 | refine below_set ?_ GE431.out) | exact HB.out))))
                                      have n3_ := Aside0.mk (blk_below (g := gb431) (o := .cells #[.bool ((rd_T31 l2 x45_3).f0), .string ((rd_T31 l2 x45_3).f1), .int .i64 ((rd_T31 l2 x45_3).f2)] 31 (0, 0)) (by (with_reducible repeat (first | refine blk_drewN ?_ _ | refine blk_drew ?_ | refine blk_alloc ?_ _)); exact BK431.out) hb)
                                      have n4_ := Aside0.mk (below_step (by repeat (first | (with_reducible first | exact HB.out | apply below_alloc | apply pw_below_drewN | apply below_drew1 | refine below_set ?_ GE431.out) | exact HB.out)) hb)
                                      clear HO437
                                      clear HO440
                                      clear BK431
                                      clear HB
                                      have HO437 := n0_
                                      have HO440 := n1_
                                      have HO444 := n2_
                                      have BK431 := n3_
                                      have HB := n4_
                                      clear n0_ n1_ n2_ n3_ n4_
                                      (try clear hb)
                                      (try clear hb2)
                                      (try clear hk)
                                      (try clear hi)
                                      (try clear ho0)
                                      refine hK.out _ _ ⟨(blk_cell BK431.out 0).trans rfl, (blk_cell BK431.out 1).trans rfl, (blk_cell BK431.out 2).trans rfl⟩ (fun hHeld => ?_)
                                      clear hK K
                                      refine norm_ (a' := ?_) ?_ ?_
                                      rotate_left
                                      · show Act.put _ (some 59) _ = _
                                        simp only [Act.put, List.setIfInBounds_toArray, List.set_cons_zero, List.set_cons_succ, i64_w, i32_w]
                                        rfl
                                      refine one_ (i := 12) (N := some 61) #[true, true, true, true, true, true, true, true, true, true, true, true, true, false, true, false, false, false] rfl rfl (one_of HT_.out (by kernel_rfl)) (by decide) (fun K hK => ?_)
                                      refine Kd.R_lit_step k31 _ 31 ?hg (N := 61) ?hd (xs := ([(⟨(rd_T31 l2 x45_3).f0, (rd_T31 l2 x45_3).f1, (rd_T31 l2 x45_3).f2⟩ : S31)] : List (S31))) (inner := [.bool ((rd_T31 l2 x45_3).f0), .string ((rd_T31 l2 x45_3).f1), .int .i64 ((rd_T31 l2 x45_3).f2)]) (ok := fun _ => True) (okp := fun _ => True) ?hr ?hp (fun _ hk => hk) trivial (Below.refl _ _) (Nat.le_refl _) (by simp) ?_; (case hd => rfl); (case hg => rfl); (case hr => first | (go_simp; done) | (go_simp; rfl)); (case hp => exact (Reps.c3 (show Kd.M k31 _ _ _ (⟨(rd_T31 l2 x45_3).f0, (rd_T31 l2 x45_3).f1, (rd_T31 l2 x45_3).f2⟩ : S31) [.bool ((rd_T31 l2 x45_3).f0), .string ((rd_T31 l2 x45_3).f1), .int .i64 ((rd_T31 l2 x45_3).f2)] from (k31_mkM _ _ _ (⟨(rd_T31 l2 x45_3).f0, (rd_T31 l2 x45_3).f1, (rd_T31 l2 x45_3).f2⟩ : S31) )) (Reps.none _ _)))
                                      intro v446 w55 ho56 hb hg_ hnew_
                                      clear hg_ hnew_
                                      (first | rw [← Ny445.out] at ho56 | (simp only [Int.reduceToNat] at ho56; rw [← Ny445.out] at ho56))
                                      have n0_ := Aside0.mk (Kd.R_elder' (by (with_reducible repeat (first | apply Kd.R_alloc | apply Kd.R_drewN | apply Kd.R_drew)); exact HO437.out) (Kd.R_base ho56) hb)
                                      have n1_ := Aside0.mk (Kd.R_elder' (by (with_reducible repeat (first | apply Kd.R_alloc | apply Kd.R_drewN | apply Kd.R_drew)); exact HO440.out) (Kd.R_base ho56) hb)
                                      have n2_ := Aside0.mk (Kd.R_elder' (by (with_reducible repeat (first | apply Kd.R_alloc | apply Kd.R_drewN | apply Kd.R_drew)); exact HO444.out) (Kd.R_base ho56) hb)
                                      have n3_ := Aside0.mk (Kd.R_lower (Kd.R_newB (Kd.R_new' (Kd.R_new' (Kd.R_new' ho56 (Kd.R_lt (by (with_reducible repeat (first | apply Kd.R_alloc | apply Kd.R_drewN | apply Kd.R_drew)); exact HO437.out))) (Kd.R_lt (by (with_reducible repeat (first | apply Kd.R_alloc | apply Kd.R_drewN | apply Kd.R_drew)); exact HO440.out))) (Kd.R_lt (by (with_reducible repeat (first | apply Kd.R_alloc | apply Kd.R_drewN | apply Kd.R_drew)); exact HO444.out))) (g := gb431) (o := .cells #[.bool ((rd_T31 l2 x45_3).f0), .string ((rd_T31 l2 x45_3).f1), .int .i64 ((rd_T31 l2 x45_3).f2)] 31 (0, 0)) (by (with_reducible repeat (first | refine blk_drewN ?_ _ | refine blk_drew ?_ | refine blk_alloc ?_ _)); exact BK431.out)) (below_size (by repeat (first | (with_reducible first | exact HB.out | apply below_alloc | apply pw_below_drewN | apply below_drew1 | refine below_set ?_ GE431.out) | exact HB.out))))
                                      have n4_ := Aside0.mk (blk_below (g := gb431) (o := .cells #[.bool ((rd_T31 l2 x45_3).f0), .string ((rd_T31 l2 x45_3).f1), .int .i64 ((rd_T31 l2 x45_3).f2)] 31 (0, 0)) (by (with_reducible repeat (first | refine blk_drewN ?_ _ | refine blk_drew ?_ | refine blk_alloc ?_ _)); exact BK431.out) hb)
                                      have n5_ := Aside0.mk (below_step (by repeat (first | (with_reducible first | exact HB.out | apply below_alloc | apply pw_below_drewN | apply below_drew1 | refine below_set ?_ GE431.out) | exact HB.out)) hb)
                                      clear HO437
                                      clear HO440
                                      clear HO444
                                      clear BK431
                                      clear HB
                                      have HO437 := n0_
                                      have HO440 := n1_
                                      have HO444 := n2_
                                      have HO447 := n3_
                                      have BK431 := n4_
                                      have HB := n5_
                                      clear n0_ n1_ n2_ n3_ n4_ n5_
                                      clear hb ho56
                                      refine hK.out _ _ ⟨(blk_cell BK431.out 0).trans rfl, (blk_cell BK431.out 1).trans rfl, (blk_cell BK431.out 2).trans rfl⟩ (fun hHeld => ?_)
                                      clear hK K
                                      refine norm_ (a' := ?_) ?_ ?_
                                      rotate_left
                                      · show Act.put _ (some 61) _ = _
                                        simp only [Act.put, List.setIfInBounds_toArray, List.set_cons_zero, List.set_cons_succ, i64_w, i32_w]
                                        rfl
                                      exact norm_ (by first | (simp only [putAll, Act.put, List.setIfInBounds_toArray, List.set_cons_zero, List.set_cons_succ]; done) | (simp only [putAll, Act.put, List.setIfInBounds_toArray, List.set_cons_zero, List.set_cons_succ]; rfl)) (hCont (v433, .slice Ao51 y435.length co51, .slice Ao52 y438.length co52, v443, v446) _ ⟨hHeld, (by (with_reducible repeat (first | apply Kd.R_alloc | apply Kd.R_drewN | apply Kd.R_drew)); exact Kd.R_mono HO437.out (fun _ hk => ⟨hk.1.1.2, ⟨hk.1.2, ⟨hk.2, hk.1.1.1⟩⟩⟩)), (by (with_reducible repeat (first | apply Kd.R_alloc | apply Kd.R_drewN | apply Kd.R_drew)); exact Kd.R_mono HO440.out (fun _ hk => ⟨hk.1.1.1, ⟨hk.1.2, ⟨hk.2, hk.1.1.2⟩⟩⟩)), (by (with_reducible repeat (first | apply Kd.R_alloc | apply Kd.R_drewN | apply Kd.R_drew)); exact Kd.R_mono HO444.out (fun _ hk => ⟨hk.1.1.1.2, ⟨hk.1.1.2, ⟨hk.2, hk.1.2⟩⟩⟩)), (by (with_reducible repeat (first | apply Kd.R_alloc | apply Kd.R_drewN | apply Kd.R_drew)); exact Kd.R_mono HO447.out (fun _ hk => ⟨hk.1.1.1.2, ⟨hk.1.1.2, ⟨hk.1.2, hk.2⟩⟩⟩)), (by (with_reducible repeat (first | refine blk_drewN ?_ _ | refine blk_drew ?_ | refine blk_alloc ?_ _)); exact BK431.out), (by repeat (first | (with_reducible first | exact HB.out | apply below_alloc | apply pw_below_drewN | apply below_drew1 | refine below_set ?_ GE431.out) | exact HB.out))⟩)
                                    · skip
                                      refine Kd.R_lit_step k31 _ 31 ?hg (N := 61) ?hd (xs := ([(⟨(rd_T31 l2 x45_3).f0, (rd_T31 l2 x45_3).f1, (rd_T31 l2 x45_3).f2⟩ : S31)] : List (S31))) (inner := [.bool ((rd_T31 l2 x45_3).f0), .string ((rd_T31 l2 x45_3).f1), .int .i64 ((rd_T31 l2 x45_3).f2)]) (ok := fun _ => True) (okp := fun _ => True) ?hr ?hp (fun _ hk => hk) trivial (Below.refl _ _) (Nat.le_refl _) (by simp) ?_; (case hd => rfl); (case hg => rfl); (case hr => first | (go_simp; done) | (go_simp; rfl)); (case hp => exact (Reps.c3 (show Kd.M k31 _ _ _ (⟨(rd_T31 l2 x45_3).f0, (rd_T31 l2 x45_3).f1, (rd_T31 l2 x45_3).f2⟩ : S31) [.bool ((rd_T31 l2 x45_3).f0), .string ((rd_T31 l2 x45_3).f1), .int .i64 ((rd_T31 l2 x45_3).f2)] from (k31_mkM _ _ _ (⟨(rd_T31 l2 x45_3).f0, (rd_T31 l2 x45_3).f1, (rd_T31 l2 x45_3).f2⟩ : S31) )) (Reps.none _ _)))
                                      intro v446 w54 ho55 hb hg_ hnew_
                                      clear hg_ hnew_
                                      (first | rw [← Ny445.out] at ho55 | (simp only [Int.reduceToNat] at ho55; rw [← Ny445.out] at ho55))
                                      have n0_ := Aside0.mk (Kd.R_elder' (by (with_reducible repeat (first | apply Kd.R_alloc | apply Kd.R_drewN | apply Kd.R_drew)); exact HO437.out) (Kd.R_base ho55) hb)
                                      have n1_ := Aside0.mk (Kd.R_elder' (by (with_reducible repeat (first | apply Kd.R_alloc | apply Kd.R_drewN | apply Kd.R_drew)); exact HO440.out) (Kd.R_base ho55) hb)
                                      have n2_ := Aside0.mk (Kd.R_lower (Kd.R_newB (Kd.R_new' (Kd.R_new' ho55 (Kd.R_lt (by (with_reducible repeat (first | apply Kd.R_alloc | apply Kd.R_drewN | apply Kd.R_drew)); exact HO437.out))) (Kd.R_lt (by (with_reducible repeat (first | apply Kd.R_alloc | apply Kd.R_drewN | apply Kd.R_drew)); exact HO440.out))) (g := gb431) (o := .cells #[.bool ((rd_T31 l2 x45_3).f0), .string ((rd_T31 l2 x45_3).f1), .int .i64 ((rd_T31 l2 x45_3).f2)] 31 (0, 0)) (by (with_reducible repeat (first | refine blk_drewN ?_ _ | refine blk_drew ?_ | refine blk_alloc ?_ _)); exact BK431.out)) (below_size (by repeat (first | (with_reducible first | exact HB.out | apply below_alloc | apply pw_below_drewN | apply below_drew1 | refine below_set ?_ GE431.out) | exact HB.out))))
                                      have n3_ := Aside0.mk (blk_below (g := gb431) (o := .cells #[.bool ((rd_T31 l2 x45_3).f0), .string ((rd_T31 l2 x45_3).f1), .int .i64 ((rd_T31 l2 x45_3).f2)] 31 (0, 0)) (by (with_reducible repeat (first | refine blk_drewN ?_ _ | refine blk_drew ?_ | refine blk_alloc ?_ _)); exact BK431.out) hb)
                                      have n4_ := Aside0.mk (below_step (by repeat (first | (with_reducible first | exact HB.out | apply below_alloc | apply pw_below_drewN | apply below_drew1 | refine below_set ?_ GE431.out) | exact HB.out)) hb)
                                      clear HO437
                                      clear HO440
                                      clear BK431
                                      clear HB
                                      have HO437 := n0_
                                      have HO440 := n1_
                                      have HO447 := n2_
                                      have BK431 := n3_
                                      have HB := n4_
                                      clear n0_ n1_ n2_ n3_ n4_
                                      clear hb ho55
                                      refine hK.out _ _ ⟨(blk_cell BK431.out 0).trans rfl, (blk_cell BK431.out 1).trans rfl, (blk_cell BK431.out 2).trans rfl⟩ (fun hHeld => ?_)
                                      clear hK K
                                      refine norm_ (a' := ?_) ?_ ?_
                                      rotate_left
                                      · show Act.put _ (some 61) _ = _
                                        simp only [Act.put, List.setIfInBounds_toArray, List.set_cons_zero, List.set_cons_succ, i64_w, i32_w]
                                        rfl
                                      refine one_ (i := 10) (N := some 59) #[true, true, true, true, true, true, true, true, true, true, true, true, true, false, true, false, false, false] rfl rfl (one_of HT_.out (by kernel_rfl)) (by decide) (fun K hK => ?_)
                                      refine goes_ Tryd.func16 (by kernel_rfl) rfl #[.slice A0 l0.length c0] (by rfl) rfl rfl (by (try simp only [List.map_toArray, List.map_cons, List.map_nil]); first | done | rfl | (simp only [List.length_drop, List.length_take]; rfl)) ?_
                                      with_reducible refine (rhizomelaw01_own.calls _ _ l0 t442 _ ?side1 ?side2 A39.out).mono ?_
                                      (case side1 => repeat (first | exact (Kd.C_below HR0.out HB.out) | (with_reducible refine Kd.C_alloc ?_ _) | (with_reducible refine Kd.C_drewN ?_ _) | (with_reducible refine Kd.C_drew ?_)))
                                      (case side2 => exact HC0.out)
                                      rintro e w56 ⟨v443, rfl, ho0, hb⟩
                                      refine ⟨_, rfl, ?_⟩
                                      have n0_ := Aside0.mk (Kd.R_elder' (by (with_reducible repeat (first | apply Kd.R_alloc | apply Kd.R_drewN | apply Kd.R_drew)); exact HO437.out) (Kd.R_base ho0) hb)
                                      have n1_ := Aside0.mk (Kd.R_elder' (by (with_reducible repeat (first | apply Kd.R_alloc | apply Kd.R_drewN | apply Kd.R_drew)); exact HO440.out) (Kd.R_base ho0) hb)
                                      have n2_ := Aside0.mk (Kd.R_elder' (by (with_reducible repeat (first | apply Kd.R_alloc | apply Kd.R_drewN | apply Kd.R_drew)); exact HO447.out) (Kd.R_base ho0) hb)
                                      have n3_ := Aside0.mk (Kd.R_lower (Kd.R_newB (Kd.R_new' (Kd.R_new' (Kd.R_new' ho0 (Kd.R_lt (by (with_reducible repeat (first | apply Kd.R_alloc | apply Kd.R_drewN | apply Kd.R_drew)); exact HO437.out))) (Kd.R_lt (by (with_reducible repeat (first | apply Kd.R_alloc | apply Kd.R_drewN | apply Kd.R_drew)); exact HO440.out))) (Kd.R_lt (by (with_reducible repeat (first | apply Kd.R_alloc | apply Kd.R_drewN | apply Kd.R_drew)); exact HO447.out))) (g := gb431) (o := .cells #[.bool ((rd_T31 l2 x45_3).f0), .string ((rd_T31 l2 x45_3).f1), .int .i64 ((rd_T31 l2 x45_3).f2)] 31 (0, 0)) (by (with_reducible repeat (first | refine blk_drewN ?_ _ | refine blk_drew ?_ | refine blk_alloc ?_ _)); exact BK431.out)) (below_size (by repeat (first | (with_reducible first | exact HB.out | apply below_alloc | apply pw_below_drewN | apply below_drew1 | refine below_set ?_ GE431.out) | exact HB.out))))
                                      have n4_ := Aside0.mk (blk_below (g := gb431) (o := .cells #[.bool ((rd_T31 l2 x45_3).f0), .string ((rd_T31 l2 x45_3).f1), .int .i64 ((rd_T31 l2 x45_3).f2)] 31 (0, 0)) (by (with_reducible repeat (first | refine blk_drewN ?_ _ | refine blk_drew ?_ | refine blk_alloc ?_ _)); exact BK431.out) hb)
                                      have n5_ := Aside0.mk (below_step (by repeat (first | (with_reducible first | exact HB.out | apply below_alloc | apply pw_below_drewN | apply below_drew1 | refine below_set ?_ GE431.out) | exact HB.out)) hb)
                                      clear HO437
                                      clear HO440
                                      clear HO447
                                      clear BK431
                                      clear HB
                                      have HO437 := n0_
                                      have HO440 := n1_
                                      have HO447 := n2_
                                      have HO444 := n3_
                                      have BK431 := n4_
                                      have HB := n5_
                                      clear n0_ n1_ n2_ n3_ n4_ n5_
                                      (try clear hb)
                                      (try clear hb2)
                                      (try clear hk)
                                      (try clear hi)
                                      (try clear ho0)
                                      refine hK.out _ _ ⟨(blk_cell BK431.out 0).trans rfl, (blk_cell BK431.out 1).trans rfl, (blk_cell BK431.out 2).trans rfl⟩ (fun hHeld => ?_)
                                      clear hK K
                                      refine norm_ (a' := ?_) ?_ ?_
                                      rotate_left
                                      · show Act.put _ (some 59) _ = _
                                        simp only [Act.put, List.setIfInBounds_toArray, List.set_cons_zero, List.set_cons_succ, i64_w, i32_w]
                                        rfl
                                      exact norm_ (by first | (simp only [putAll, Act.put, List.setIfInBounds_toArray, List.set_cons_zero, List.set_cons_succ]; done) | (simp only [putAll, Act.put, List.setIfInBounds_toArray, List.set_cons_zero, List.set_cons_succ]; rfl)) (hCont (v433, .slice Ao51 y435.length co51, .slice Ao52 y438.length co52, v443, v446) _ ⟨hHeld, (by (with_reducible repeat (first | apply Kd.R_alloc | apply Kd.R_drewN | apply Kd.R_drew)); exact Kd.R_mono HO437.out (fun _ hk => ⟨hk.1.1.2, ⟨hk.2, ⟨hk.1.2, hk.1.1.1⟩⟩⟩)), (by (with_reducible repeat (first | apply Kd.R_alloc | apply Kd.R_drewN | apply Kd.R_drew)); exact Kd.R_mono HO440.out (fun _ hk => ⟨hk.1.1.1, ⟨hk.2, ⟨hk.1.2, hk.1.1.2⟩⟩⟩)), (by (with_reducible repeat (first | apply Kd.R_alloc | apply Kd.R_drewN | apply Kd.R_drew)); exact Kd.R_mono HO444.out (fun _ hk => ⟨hk.1.1.1.2, ⟨hk.1.1.2, ⟨hk.1.2, hk.2⟩⟩⟩)), (by (with_reducible repeat (first | apply Kd.R_alloc | apply Kd.R_drewN | apply Kd.R_drew)); exact Kd.R_mono HO447.out (fun _ hk => ⟨hk.1.1.1.2, ⟨hk.1.1.2, ⟨hk.2, hk.1.2⟩⟩⟩)), (by (with_reducible repeat (first | refine blk_drewN ?_ _ | refine blk_drew ?_ | refine blk_alloc ?_ _)); exact BK431.out), (by repeat (first | (with_reducible first | exact HB.out | apply below_alloc | apply pw_below_drewN | apply below_drew1 | refine below_set ?_ GE431.out) | exact HB.out))⟩)
                                rintro ⟨v433, v436, v439, v443, v446⟩ w57 ⟨hS_, h0_, h1_, h2_, h3_, h4_, h5_⟩
                                have n0_ : Aside0 (Kd.R k31 31 w57 w.heap.size (fun k_ => some k_ ≠ (v439 : Value).ownBlock ∧ some k_ ≠ (v443 : Value).ownBlock ∧ some k_ ≠ (v446 : Value).ownBlock ∧ k_ ≠ gb431) v436 y435) := ⟨h0_⟩
                                have n1_ : Aside0 (Kd.R k31 31 w57 w.heap.size (fun k_ => some k_ ≠ (v436 : Value).ownBlock ∧ some k_ ≠ (v443 : Value).ownBlock ∧ some k_ ≠ (v446 : Value).ownBlock ∧ k_ ≠ gb431) v439 y438) := ⟨h1_⟩
                                have n2_ : Aside0 (Kd.R k31 31 w57 w.heap.size (fun k_ => some k_ ≠ (v436 : Value).ownBlock ∧ some k_ ≠ (v439 : Value).ownBlock ∧ some k_ ≠ (v446 : Value).ownBlock ∧ k_ ≠ gb431) v443 t442) := ⟨h2_⟩
                                have n3_ : Aside0 (Kd.R k31 31 w57 w.heap.size (fun k_ => some k_ ≠ (v436 : Value).ownBlock ∧ some k_ ≠ (v439 : Value).ownBlock ∧ some k_ ≠ (v443 : Value).ownBlock ∧ k_ ≠ gb431) v446 y445) := ⟨h3_⟩
                                have n4_ : Aside0 (w57.heap[gb431]? = some (.cells #[.bool ((rd_T31 l2 x45_3).f0), .string ((rd_T31 l2 x45_3).f1), .int .i64 ((rd_T31 l2 x45_3).f2)] 31 (0, 0))) := ⟨h4_⟩
                                have n5_ : Aside0 (Below w.heap.size w w57) := ⟨h5_⟩
                                clear BK431
                                clear HB
                                clear h0_ h1_ h2_ h3_ h4_ h5_
                                have HO437 := n0_
                                have HO440 := n1_
                                have HO444 := n2_
                                have HO447 := n3_
                                have BK431 := n4_
                                have HB := n5_
                                clear n0_ n1_ n2_ n3_ n4_ n5_
                                have hHeld : w57.cell? ⟨gb431, 0, none⟩ = some (.bool ((rd_T31 l2 x45_3).f0)) ∧ w57.cell? ⟨gb431, 1, none⟩ = some (.string ((rd_T31 l2 x45_3).f1)) ∧ w57.cell? ⟨gb431, 2, none⟩ = some (.int .i64 ((rd_T31 l2 x45_3).f2)) := hS_
                                obtain ⟨Ao59, co59, eo59⟩ := Kd.R_slice HO447.out
                                (first | subst eo59 | (injection eo59 with f1_ f2_ f3_; have f4_ := f1_.symm; have f5_ := f3_.symm; clear f1_ f2_ f3_; subst f4_; subst f5_))
                                refine norm_ (a' := ?_) ?_ ?_
                                rotate_left
                                · simp only [putAll, Act.put, List.setIfInBounds_toArray, List.set_cons_zero, List.set_cons_succ]
                                  rfl
                                refine one_ (i := 13) (N := some 62) #[true, true, true, true, true, true, true, true, true, true, true, true, true, true, true, false, false, false] rfl rfl (one_of HT_.out (by kernel_rfl)) (by decide) (fun K hK => ?_)
                                refine Kd.R_append_rows_step k31 (w0 := w) w.heap.size (by rfl) (.tmp 59) (.tmp 61) 26 31 (.agg #[(.bool false), (.string ⟨#[]⟩), (.int .i64 0)]) 32 rfl Tryd.underlying26 info31 rfl (by decide) (by omega) v443 t442 y445 _ _ _ (fun k_ => some k_ ≠ (v436 : Value).ownBlock ∧ some k_ ≠ (v439 : Value).ownBlock ∧ some k_ ≠ (.slice Ao59 y445.length co59 : Value).ownBlock ∧ k_ ≠ gb431) (fun _ => False) rfl rfl ?aO ?aR (fun _ _ h => h) (fun _ h => h.elim) ?aF ?aB ?aS ?aL ?_
                                (case aR => repeat (first | exact (Kd.R_reads' HO447.out).2.2 | (with_reducible refine Kd.C_alloc ?_ _) | (with_reducible refine Kd.C_drewN ?_ _) | (with_reducible refine Kd.C_drew ?_)))
                                (case aB => exact (by repeat (first | (with_reducible first | exact HB.out | apply below_alloc | apply pw_below_drewN | apply below_drew1 | refine below_set ?_ GE431.out) | exact HB.out)))
                                (case aF => exact (fun k_ hk => ⟨Kd.fresh' (Kd.R_lt (by (with_reducible repeat (first | apply Kd.R_alloc | apply Kd.R_drewN | apply Kd.R_drew)); exact HO437.out)) k_ hk, Kd.fresh' (Kd.R_lt (by (with_reducible repeat (first | apply Kd.R_alloc | apply Kd.R_drewN | apply Kd.R_drew)); exact HO440.out)) k_ hk, Kd.fresh' (Kd.R_lt (by (with_reducible repeat (first | apply Kd.R_alloc | apply Kd.R_drewN | apply Kd.R_drew)); exact HO447.out)) k_ hk, Kd.freshB (g := gb431) (o := .cells #[.bool ((rd_T31 l2 x45_3).f0), .string ((rd_T31 l2 x45_3).f1), .int .i64 ((rd_T31 l2 x45_3).f2)] 31 (0, 0)) (by (with_reducible repeat (first | refine blk_drewN ?_ _ | refine blk_drew ?_ | refine blk_alloc ?_ _)); exact BK431.out) k_ hk⟩))
                                (case aO => exact (by (with_reducible repeat (first | apply Kd.R_alloc | apply Kd.R_drewN | apply Kd.R_drew)); exact HO444.out))
                                (case aS => exact (below_size (by repeat (first | (with_reducible first | exact HB.out | apply below_alloc | apply pw_below_drewN | apply below_drew1 | refine below_set ?_ GE431.out) | exact HB.out))))
                                (case aL => have := LMc40.out; omega)
                                intro v449 w58 ho hb hg hat
                                rw [← Ny448.out] at ho
                                have n0_ := Aside0.mk (blk_grown (g := gb431) (o := .cells #[.bool ((rd_T31 l2 x45_3).f0), .string ((rd_T31 l2 x45_3).f1), .int .i64 ((rd_T31 l2 x45_3).f2)] 31 (0, 0)) (by (with_reducible repeat (first | refine blk_drewN ?_ _ | refine blk_drew ?_ | refine blk_alloc ?_ _)); exact BK431.out) hg (Kd.R_away HO444.out (fun _ hk => hk.2.2.2)))
                                have n1_ := Aside0.mk (Kd.R_after (ok := (fun k_ => some k_ ≠ (v439 : Value).ownBlock ∧ some k_ ≠ (.slice Ao59 y445.length co59 : Value).ownBlock ∧ k_ ≠ gb431)) (by (with_reducible repeat (first | apply Kd.R_alloc | apply Kd.R_drewN | apply Kd.R_drew)); exact Kd.R_mono HO437.out (fun _ hk => ⟨⟨hk.1, ⟨hk.2.2.1, hk.2.2.2⟩⟩, hk.2.1⟩)) hg hat)
                                have n2_ := Aside0.mk (Kd.R_after (ok := (fun k_ => some k_ ≠ (v436 : Value).ownBlock ∧ some k_ ≠ (.slice Ao59 y445.length co59 : Value).ownBlock ∧ k_ ≠ gb431)) (by (with_reducible repeat (first | apply Kd.R_alloc | apply Kd.R_drewN | apply Kd.R_drew)); exact Kd.R_mono HO440.out (fun _ hk => ⟨⟨hk.1, ⟨hk.2.2.1, hk.2.2.2⟩⟩, hk.2.1⟩)) hg hat)
                                have n3_ := Aside0.mk (Kd.R_after (ok := (fun k_ => some k_ ≠ (v436 : Value).ownBlock ∧ some k_ ≠ (v439 : Value).ownBlock ∧ k_ ≠ gb431)) (by (with_reducible repeat (first | apply Kd.R_alloc | apply Kd.R_drewN | apply Kd.R_drew)); exact Kd.R_mono HO447.out (fun _ hk => ⟨⟨hk.1, ⟨hk.2.1, hk.2.2.2⟩⟩, hk.2.2.1⟩)) hg hat)
                                have n4_ := Aside0.mk (hb)
                                have n5_ := Aside0.mk (ho)
                                clear BK431
                                clear HO437
                                clear HO440
                                clear HO447
                                clear HB
                                clear HO444
                                have BK431 := n0_
                                have HO437 := n1_
                                have HO440 := n2_
                                have HO447 := n3_
                                have HB := n4_
                                have HO450 := n5_
                                clear n0_ n1_ n2_ n3_ n4_ n5_
                                clear ho hb hg hat
                                obtain ⟨Ao60, co60, eo60⟩ := Kd.R_slice HO450.out
                                (first | subst eo60 | (injection eo60 with f1_ f2_ f3_; have f4_ := f1_.symm; have f5_ := f3_.symm; clear f1_ f2_ f3_; subst f4_; subst f5_))
                                refine hK.out _ _ ⟨(blk_cell BK431.out 0).trans rfl, (blk_cell BK431.out 1).trans rfl, (blk_cell BK431.out 2).trans rfl⟩ (fun hHeld => ?_)
                                clear hK K
                                refine norm_ (a' := ?_) ?_ ?_
                                rotate_left
                                · show Act.put _ (some 62) _ = _
                                  simp only [Act.put, List.setIfInBounds_toArray, List.set_cons_zero, List.set_cons_succ, i64_w, i32_w]
                                  rfl
                                refine one_ (i := 15) (N := some 64) #[true, true, true, true, true, true, true, true, true, true, true, true, true, true, true, true, false, false] rfl rfl (one_of HT_.out (by kernel_rfl)) (by decide) (fun K hK => ?_)
                                refine goes_ Tryd.func25 (by kernel_rfl) rfl #[.slice Ao60 y448.length co60, .slice A0 l0.length c0] (by rfl) rfl rfl (by (try simp only [List.map_toArray, List.map_cons, List.map_nil]); first | done | rfl | (simp only [List.length_drop, List.length_take]; rfl)) ?_
                                with_reducible refine (key_Cmp.calls _ _ y448 _ _ l0 t451 _ ?side1 ?side2 ?side3 ?side4 A41.out).mono ?_
                                (case side1 => repeat (first | exact (Kd.R_reads' HO450.out).2.2 | (with_reducible refine Kd.C_alloc ?_ _) | (with_reducible refine Kd.C_drewN ?_ _) | (with_reducible refine Kd.C_drew ?_)))
                                (case side2 => exact (Kd.R_reads' HO450.out).2.1)
                                (case side3 => repeat (first | exact (Kd.C_below HR0.out HB.out) | (with_reducible refine Kd.C_alloc ?_ _) | (with_reducible refine Kd.C_drewN ?_ _) | (with_reducible refine Kd.C_drew ?_)))
                                (case side4 => exact HC0.out)
                                rintro e w61 ⟨rfl, hb⟩
                                refine ⟨_, rfl, ?_⟩
                                have n0_ := Aside0.mk (Kd.R_below (by (with_reducible repeat (first | apply Kd.R_alloc | apply Kd.R_drewN | apply Kd.R_drew)); exact HO437.out) hb)
                                have n1_ := Aside0.mk (Kd.R_below (by (with_reducible repeat (first | apply Kd.R_alloc | apply Kd.R_drewN | apply Kd.R_drew)); exact HO440.out) hb)
                                have n2_ := Aside0.mk (Kd.R_below (by (with_reducible repeat (first | apply Kd.R_alloc | apply Kd.R_drewN | apply Kd.R_drew)); exact HO447.out) hb)
                                have n3_ := Aside0.mk (Kd.R_below (by (with_reducible repeat (first | apply Kd.R_alloc | apply Kd.R_drewN | apply Kd.R_drew)); exact HO450.out) hb)
                                have n4_ := Aside0.mk (blk_below (g := gb431) (o := .cells #[.bool ((rd_T31 l2 x45_3).f0), .string ((rd_T31 l2 x45_3).f1), .int .i64 ((rd_T31 l2 x45_3).f2)] 31 (0, 0)) (by (with_reducible repeat (first | refine blk_drewN ?_ _ | refine blk_drew ?_ | refine blk_alloc ?_ _)); exact BK431.out) hb)
                                have n5_ := Aside0.mk (below_step (by repeat (first | (with_reducible first | exact HB.out | apply below_alloc | apply pw_below_drewN | apply below_drew1 | refine below_set ?_ GE431.out) | exact HB.out)) hb)
                                clear HO437
                                clear HO440
                                clear HO447
                                clear HO450
                                clear BK431
                                clear HB
                                have HO437 := n0_
                                have HO440 := n1_
                                have HO447 := n2_
                                have HO450 := n3_
                                have BK431 := n4_
                                have HB := n5_
                                clear n0_ n1_ n2_ n3_ n4_ n5_
                                (try clear hb)
                                (try clear hb2)
                                (try clear hk)
                                (try clear hi)
                                refine hK.out _ _ ⟨(blk_cell BK431.out 0).trans rfl, (blk_cell BK431.out 1).trans rfl, (blk_cell BK431.out 2).trans rfl⟩ (fun hHeld => ?_)
                                clear hK K
                                refine norm_ (a' := ?_) ?_ ?_
                                rotate_left
                                · show Act.put _ (some 64) _ = _
                                  simp only [Act.put, List.setIfInBounds_toArray, List.set_cons_zero, List.set_cons_succ, i64_w, i32_w]
                                  rfl
                                refine pure_ (i := 16) (N := some 65) (v := ?_) (a' := ?_) #[true, true, true, true, true, true, true, true, true, true, true, true, true, true, true, true, true, false] rfl rfl (any_of HT_.out (by kernel_rfl)) (fun _ _ _ h => h) (Or.inl ⟨by rfl, ?_⟩) ?_ ?_
                                rotate_left
                                · intro w'
                                  go_simp
                                  with_reducible rfl
                                rotate_left
                                · simp only [Act.put, List.setIfInBounds_toArray, List.set_cons_zero, List.set_cons_succ, i64_w, i32_w]
                                  rfl
                                refine pure_ (i := 17) (N := some 66) (v := ?_) (a' := ?_) #[true, true, true, true, true, true, true, true, true, true, true, true, true, true, true, true, true, true] rfl rfl (any_of HT_.out (by kernel_rfl)) (fun _ _ _ h => h) (Or.inl ⟨by rfl, ?_⟩) ?_ ?_
                                rotate_left
                                · intro w'
                                  go_simp
                                  with_reducible rfl
                                rotate_left
                                · simp only [Act.put, List.setIfInBounds_toArray, List.set_cons_zero, List.set_cons_succ, i64_w, i32_w]
                                  rfl
                                refine done_ (done_of HT_.out (by kernel_rfl)) ?_
                                try go_wp2
                                go_roundg k3
                                case measure => have := HJ3.out; have := HJ18.out; have := HK3.out; omega
                                case rel => exact ⟨(wrap64 (x45_3 + 1)), (by first | rfl | (simp; done) | (simp [*]; done)), H', ⟨by have := HJ3.out; have := HJ18.out; have := HK3.out; omega⟩, ⟨by repeat (first | (with_reducible first | exact HB.out | apply below_alloc | apply pw_below_drewN | apply below_drew1 | refine below_set ?_ GE431.out) | exact HB.out)⟩⟩
                              · rw [if_neg c42] at H
                                have c42b0 : (t451 == 1) = false := beq_eq_false_iff_ne.mpr c42
                                have c42b1 : (t451 != 1) = true := bne_iff_ne.mpr c42
                                obtain rfl := Option.some.inj H
                                have p430 : 0 ≤ (x45_3 : Int) := of_decide_eq_true (by first | (with_reducible assumption) | assumption)
                                have q430 : x45_3 < (l2.length : Int) := of_decide_eq_true (by first | (with_reducible assumption) | assumption)
                                obtain ⟨ad430, e430, hx430_0, hx430_1, hx430_2⟩ := at_T31 HR2.out x45_3 p430 q430
                                cases e430
                                replace hx430_0 := (HB.out.cell (World.block_lt_of_cell? w _ hx430_0)).trans hx430_0
                                replace hx430_1 := (HB.out.cell (World.block_lt_of_cell? w _ hx430_1)).trans hx430_1
                                replace hx430_2 := (HB.out.cell (World.block_lt_of_cell? w _ hx430_2)).trans hx430_2
                                replace p430 := eq_true p430
                                replace q430 := eq_true q430
                                try go_wp2_with (first | ((with_reducible refine gate_dst (N := 8) rfl ?_); (try (refine gate_guard (by rfl) ?_; dsimp only)); refine box_event ?hg (N := 8) ?hd (cs := #[.bool false, .string (⟨#[]⟩ : ByteArray), .int .i64 0]) (t := 31) ?hr ?_; (case hd => rfl); (case hg => rfl); (case hr => first | (go_simp; done) | (go_simp; rfl)); intro gb431 hg w62 hbox hb; have n0_ := Aside0.mk (below_step (by repeat (first | (with_reducible first | exact HB.out | apply below_alloc | apply pw_below_drewN | apply below_drew1) | exact HB.out)) hb); have n1_ := Aside0.mk (hbox); have n2_ := Aside0.mk ((by rw [hg]; exact (below_size (by repeat (first | (with_reducible first | exact HB.out | apply below_alloc | apply pw_below_drewN | apply below_drew1) | exact HB.out))) : w.heap.size ≤ gb431)); have n3_ := Aside0.mk ((by rw [hg]; exact (below_size (by repeat (first | (with_reducible first | exact HB.out | apply below_alloc | apply pw_below_drewN | apply below_drew1) | exact HB.out))) : w.heap.size ≤ gb431)); clear HB; have HB := n0_; have BK431 := n1_; have GW431 := n2_; have GE431 := n3_; clear n0_ n1_ n2_ n3_; clear hb hbox hg; have hcz63_0 : w62.cell? ⟨gb431, 0, none⟩ = some (.bool false) := (blk_cell BK431.out 0).trans rfl; have hcz63_1 : w62.cell? ⟨gb431, 1, none⟩ = some (.string (⟨#[]⟩ : ByteArray)) := (blk_cell BK431.out 1).trans rfl; have hcz63_2 : w62.cell? ⟨gb431, 2, none⟩ = some (.int .i64 0) := (blk_cell BK431.out 2).trans rfl; have hfz63_0 := blk_frozen BK431.out 0; have hfz63_1 := blk_frozen BK431.out 1; have hfz63_2 := blk_frozen BK431.out 2))
                                have n0_ : Aside0 ((((w62.setCell ⟨gb431, 0, none⟩ (.bool ((rd_T31 l2 x45_3).f0))).setCell ⟨gb431, 1, none⟩ (.string ((rd_T31 l2 x45_3).f1))).setCell ⟨gb431, 2, none⟩ (.int .i64 ((rd_T31 l2 x45_3).f2))).heap[gb431]? = some (.cells #[.bool ((rd_T31 l2 x45_3).f0), .string ((rd_T31 l2 x45_3).f1), .int .i64 ((rd_T31 l2 x45_3).f2)] 31 (0, 0))) := ⟨by (with_reducible repeat (first | refine blk_drewN ?_ _ | refine blk_drew ?_ | refine blk_alloc ?_ _)); refine blk_put (cs := #[.bool ((rd_T31 l2 x45_3).f0), .string ((rd_T31 l2 x45_3).f1), .int .i64 0]) ?_ 2 _ rfl; (with_reducible repeat (first | refine blk_drewN ?_ _ | refine blk_drew ?_ | refine blk_alloc ?_ _)); refine blk_put (cs := #[.bool ((rd_T31 l2 x45_3).f0), .string (⟨#[]⟩ : ByteArray), .int .i64 0]) ?_ 1 _ rfl; (with_reducible repeat (first | refine blk_drewN ?_ _ | refine blk_drew ?_ | refine blk_alloc ?_ _)); refine blk_put (cs := #[.bool false, .string (⟨#[]⟩ : ByteArray), .int .i64 0]) ?_ 0 _ rfl; (with_reducible repeat (first | refine blk_drewN ?_ _ | refine blk_drew ?_ | refine blk_alloc ?_ _)); exact BK431.out⟩
                                have n1_ : Aside0 (Below w.heap.size w (((w62.setCell ⟨gb431, 0, none⟩ (.bool ((rd_T31 l2 x45_3).f0))).setCell ⟨gb431, 1, none⟩ (.string ((rd_T31 l2 x45_3).f1))).setCell ⟨gb431, 2, none⟩ (.int .i64 ((rd_T31 l2 x45_3).f2)))) := ⟨by repeat (first | (with_reducible first | exact HB.out | apply below_alloc | apply pw_below_drewN | apply below_drew1 | refine below_set ?_ GE431.out) | exact HB.out)⟩
                                (try clear BK431)
                                (try clear HB)
                                generalize (((w62.setCell ⟨gb431, 0, none⟩ (.bool ((rd_T31 l2 x45_3).f0))).setCell ⟨gb431, 1, none⟩ (.string ((rd_T31 l2 x45_3).f1))).setCell ⟨gb431, 2, none⟩ (.int .i64 ((rd_T31 l2 x45_3).f2))) = w64 at n0_ n1_ ⊢
                                have BK431 := n0_
                                have HB := n1_
                                clear n0_ n1_
                                have n0_ := Aside0.mk (blk_drew BK431.out)
                                have n1_ := Aside0.mk (below_drew1 HB.out)
                                clear BK431
                                clear HB
                                have BK431 := n0_
                                have HB := n1_
                                clear n0_ n1_
                                refine start_ (n := 18) (S := fun w' => w'.cell? ⟨gb431, 0, none⟩ = some (.bool ((rd_T31 l2 x45_3).f0)) ∧ w'.cell? ⟨gb431, 1, none⟩ = some (.string ((rd_T31 l2 x45_3).f1)) ∧ w'.cell? ⟨gb431, 2, none⟩ = some (.int .i64 ((rd_T31 l2 x45_3).f2))) (ds := []) #[false, false, false, false, false, false, false, false, false, false, false, false, false, false, false, false, false, false] (by kernel_rfl) rfl rfl ⟨(blk_cell BK431.out 0).trans rfl, (blk_cell BK431.out 1).trans rfl, (blk_cell BK431.out 2).trans rfl⟩ (fun hHeld => ?_); refine with_tabW rhizomelaw01_KeyThree.tab8 rhizomelaw01_KeyThree.bits8 (fun HT_ HW_ => ?_)
                                generalize w64.drew = w65 at BK431 HB hHeld ⊢
                                refine pure_ (i := 0) (N := some 49) (v := ?_) (a' := ?_) #[true, false, false, false, false, false, false, false, false, false, false, false, false, false, false, false, false, false] rfl rfl (any_of HT_.out (by kernel_rfl)) (fun _ _ _ h => h) (Or.inl ⟨by rfl, ?_⟩) ?_ ?_
                                rotate_left
                                · intro w'
                                  go_simp
                                  with_reducible rfl
                                rotate_left
                                · simp only [Act.put, List.setIfInBounds_toArray, List.set_cons_zero, List.set_cons_succ, i64_w, i32_w]
                                  rfl
                                refine pure_ (i := 1) (N := some 50) (v := ?_) (a' := ?_) #[true, true, false, false, false, false, false, false, false, false, false, false, false, false, false, false, false, false] rfl rfl (any_of HT_.out (by kernel_rfl)) (fun _ _ _ h => h) (Or.inl ⟨by rfl, ?_⟩) ?_ ?_
                                rotate_left
                                · intro w'
                                  go_simp
                                  with_reducible rfl
                                rotate_left
                                · simp only [Act.put, List.setIfInBounds_toArray, List.set_cons_zero, List.set_cons_succ, i64_w, i32_w]
                                  rfl
                                refine take_ (i := 3) (N := some 52) (v := ?_) (a' := ?_) #[true, true, false, true, false, false, false, false, false, false, false, false, false, false, false, false, false, false] rfl rfl (take_ofW HT_.out HW_.out (by kernel_rfl)) (fun _ _ _ h => h) (Or.inl ⟨by rfl, ?_⟩) hHeld ?_ ?_
                                rotate_left
                                · rintro w' ⟨s0, s1, s2⟩
                                  go_simp
                                  with_reducible rfl
                                rotate_left
                                · simp only [Act.put, List.setIfInBounds_toArray, List.set_cons_zero, List.set_cons_succ, i64_w, i32_w]
                                  rfl
                                refine join_ (σ := Value × Value × Value × Value × Value) 4 #[true, true, true, true, true, true, true, true, true, true, true, true, true, false, true, false, false, false] (fun s_ => [(51, s_.1), (53, s_.2.1), (54, s_.2.2.1), (55, .int .i64 t441), (59, s_.2.2.2.1), (61, s_.2.2.2.2), (56, .bool false), (57, .bool false), (58, .slice A0 l0.length c0), (60, .agg #[.bool ((rd_T31 l2 x45_3).f0), .string ((rd_T31 l2 x45_3).f1), .int .i64 ((rd_T31 l2 x45_3).f2)]), (63, .slice A0 l0.length c0)]) (fun s_ w' => (w'.cell? ⟨gb431, 0, none⟩ = some (.bool ((rd_T31 l2 x45_3).f0)) ∧ w'.cell? ⟨gb431, 1, none⟩ = some (.string ((rd_T31 l2 x45_3).f1)) ∧ w'.cell? ⟨gb431, 2, none⟩ = some (.int .i64 ((rd_T31 l2 x45_3).f2))) ∧ (Kd.R k31 31 w' w.heap.size (fun k_ => some k_ ≠ (s_.2.2.1 : Value).ownBlock ∧ some k_ ≠ (s_.2.2.2.1 : Value).ownBlock ∧ some k_ ≠ (s_.2.2.2.2 : Value).ownBlock ∧ k_ ≠ gb431) s_.2.1 y435) ∧ (Kd.R k31 31 w' w.heap.size (fun k_ => some k_ ≠ (s_.2.1 : Value).ownBlock ∧ some k_ ≠ (s_.2.2.2.1 : Value).ownBlock ∧ some k_ ≠ (s_.2.2.2.2 : Value).ownBlock ∧ k_ ≠ gb431) s_.2.2.1 y438) ∧ (Kd.R k31 31 w' w.heap.size (fun k_ => some k_ ≠ (s_.2.1 : Value).ownBlock ∧ some k_ ≠ (s_.2.2.1 : Value).ownBlock ∧ some k_ ≠ (s_.2.2.2.2 : Value).ownBlock ∧ k_ ≠ gb431) s_.2.2.2.1 t442) ∧ (Kd.R k31 31 w' w.heap.size (fun k_ => some k_ ≠ (s_.2.1 : Value).ownBlock ∧ some k_ ≠ (s_.2.2.1 : Value).ownBlock ∧ some k_ ≠ (s_.2.2.2.1 : Value).ownBlock ∧ k_ ≠ gb431) s_.2.2.2.2 y445) ∧ (w'.heap[gb431]? = some (.cells #[.bool ((rd_T31 l2 x45_3).f0), .string ((rd_T31 l2 x45_3).f1), .int .i64 ((rd_T31 l2 x45_3).f2)] 31 (0, 0))) ∧ (Below w.heap.size w w')) ?_ ?_
                                rotate_left
                                · intro hCont
                                  refine two_ (i := 2) (j := 4) (Ni := some 51) (Nj := some 53) #[true, true, true, true, false, false, false, false, false, false, false, false, false, false, false, false, false, false] #[true, true, false, true, true, false, false, false, false, false, false, false, false, false, false, false, false, false] rfl rfl rfl rfl (two_of HT_.out (by kernel_rfl)) (by decide) (by decide) (fun K hK => ?_) (fun K hK => ?_)
                                  · skip
                                    refine goes_ Tryd.func16 (by kernel_rfl) rfl #[.slice A0 l0.length c0] (by rfl) rfl rfl (by (try simp only [List.map_toArray, List.map_cons, List.map_nil]); first | done | rfl | (simp only [List.length_drop, List.length_take]; rfl)) ?_
                                    with_reducible refine (rhizomelaw01_own.calls _ _ l0 t432 _ ?side1 ?side2 A35.out).mono ?_
                                    (case side1 => repeat (first | exact (Kd.C_below HR0.out HB.out) | (with_reducible refine Kd.C_alloc ?_ _) | (with_reducible refine Kd.C_drewN ?_ _) | (with_reducible refine Kd.C_drew ?_)))
                                    (case side2 => exact HC0.out)
                                    rintro e w66 ⟨v433, rfl, ho0, hb⟩
                                    refine ⟨_, rfl, ?_⟩
                                    have n0_ := Aside0.mk (Kd.R_lower (Kd.R_newB ho0 (g := gb431) (o := .cells #[.bool ((rd_T31 l2 x45_3).f0), .string ((rd_T31 l2 x45_3).f1), .int .i64 ((rd_T31 l2 x45_3).f2)] 31 (0, 0)) (by (with_reducible repeat (first | refine blk_drewN ?_ _ | refine blk_drew ?_ | refine blk_alloc ?_ _)); exact BK431.out)) (below_size (by repeat (first | (with_reducible first | exact HB.out | apply below_alloc | apply pw_below_drewN | apply below_drew1 | refine below_set ?_ GE431.out) | exact HB.out))))
                                    have n1_ := Aside0.mk (blk_below (g := gb431) (o := .cells #[.bool ((rd_T31 l2 x45_3).f0), .string ((rd_T31 l2 x45_3).f1), .int .i64 ((rd_T31 l2 x45_3).f2)] 31 (0, 0)) (by (with_reducible repeat (first | refine blk_drewN ?_ _ | refine blk_drew ?_ | refine blk_alloc ?_ _)); exact BK431.out) hb)
                                    have n2_ := Aside0.mk (below_step (by repeat (first | (with_reducible first | exact HB.out | apply below_alloc | apply pw_below_drewN | apply below_drew1 | refine below_set ?_ GE431.out) | exact HB.out)) hb)
                                    clear BK431
                                    clear HB
                                    have HO434 := n0_
                                    have BK431 := n1_
                                    have HB := n2_
                                    clear n0_ n1_ n2_
                                    (try clear hb)
                                    (try clear hb2)
                                    (try clear hk)
                                    (try clear hi)
                                    (try clear ho0)
                                    refine hK.out _ _ ⟨(blk_cell BK431.out 0).trans rfl, (blk_cell BK431.out 1).trans rfl, (blk_cell BK431.out 2).trans rfl⟩ (fun hHeld => ?_)
                                    clear hK K
                                    refine norm_ (a' := ?_) ?_ ?_
                                    rotate_left
                                    · show Act.put _ (some 51) _ = _
                                      simp only [Act.put, List.setIfInBounds_toArray, List.set_cons_zero, List.set_cons_succ, i64_w, i32_w]
                                      rfl
                                    refine one_ (i := 4) (N := some 53) #[true, true, true, true, true, false, false, false, false, false, false, false, false, false, false, false, false, false] rfl rfl (one_of HT_.out (by kernel_rfl)) (by decide) (fun K hK => ?_)
                                    refine Kd.R_lit_step k31 _ 31 ?hg (N := 53) ?hd (xs := ([(⟨(rd_T31 l2 x45_3).f0, (rd_T31 l2 x45_3).f1, (rd_T31 l2 x45_3).f2⟩ : S31)] : List (S31))) (inner := [.bool ((rd_T31 l2 x45_3).f0), .string ((rd_T31 l2 x45_3).f1), .int .i64 ((rd_T31 l2 x45_3).f2)]) (ok := fun _ => True) (okp := fun _ => True) ?hr ?hp (fun _ hk => hk) trivial (Below.refl _ _) (Nat.le_refl _) (by simp) ?_; (case hd => rfl); (case hg => rfl); (case hr => first | (go_simp; done) | (go_simp; rfl)); (case hp => exact (Reps.c3 (show Kd.M k31 _ _ _ (⟨(rd_T31 l2 x45_3).f0, (rd_T31 l2 x45_3).f1, (rd_T31 l2 x45_3).f2⟩ : S31) [.bool ((rd_T31 l2 x45_3).f0), .string ((rd_T31 l2 x45_3).f1), .int .i64 ((rd_T31 l2 x45_3).f2)] from (k31_mkM _ _ _ (⟨(rd_T31 l2 x45_3).f0, (rd_T31 l2 x45_3).f1, (rd_T31 l2 x45_3).f2⟩ : S31) )) (Reps.none _ _)))
                                    intro v436 w67 ho68 hb hg_ hnew_
                                    clear hg_ hnew_
                                    (first | rw [← Ny435.out] at ho68 | (simp only [Int.reduceToNat] at ho68; rw [← Ny435.out] at ho68))
                                    have n0_ := Aside0.mk (Kd.R_elder' (by (with_reducible repeat (first | apply Kd.R_alloc | apply Kd.R_drewN | apply Kd.R_drew)); exact HO434.out) (Kd.R_base ho68) hb)
                                    have n1_ := Aside0.mk (Kd.R_lower (Kd.R_newB (Kd.R_new' ho68 (Kd.R_lt (by (with_reducible repeat (first | apply Kd.R_alloc | apply Kd.R_drewN | apply Kd.R_drew)); exact HO434.out))) (g := gb431) (o := .cells #[.bool ((rd_T31 l2 x45_3).f0), .string ((rd_T31 l2 x45_3).f1), .int .i64 ((rd_T31 l2 x45_3).f2)] 31 (0, 0)) (by (with_reducible repeat (first | refine blk_drewN ?_ _ | refine blk_drew ?_ | refine blk_alloc ?_ _)); exact BK431.out)) (below_size (by repeat (first | (with_reducible first | exact HB.out | apply below_alloc | apply pw_below_drewN | apply below_drew1 | refine below_set ?_ GE431.out) | exact HB.out))))
                                    have n2_ := Aside0.mk (blk_below (g := gb431) (o := .cells #[.bool ((rd_T31 l2 x45_3).f0), .string ((rd_T31 l2 x45_3).f1), .int .i64 ((rd_T31 l2 x45_3).f2)] 31 (0, 0)) (by (with_reducible repeat (first | refine blk_drewN ?_ _ | refine blk_drew ?_ | refine blk_alloc ?_ _)); exact BK431.out) hb)
                                    have n3_ := Aside0.mk (below_step (by repeat (first | (with_reducible first | exact HB.out | apply below_alloc | apply pw_below_drewN | apply below_drew1 | refine below_set ?_ GE431.out) | exact HB.out)) hb)
                                    clear HO434
                                    clear BK431
                                    clear HB
                                    have HO434 := n0_
                                    have HO437 := n1_
                                    have BK431 := n2_
                                    have HB := n3_
                                    clear n0_ n1_ n2_ n3_
                                    clear hb ho68
                                    obtain ⟨Ao70, co70, eo70⟩ := Kd.R_slice HO437.out
                                    (first | subst eo70 | (injection eo70 with f1_ f2_ f3_; have f4_ := f1_.symm; have f5_ := f3_.symm; clear f1_ f2_ f3_; subst f4_; subst f5_))
                                    refine hK.out _ _ ⟨(blk_cell BK431.out 0).trans rfl, (blk_cell BK431.out 1).trans rfl, (blk_cell BK431.out 2).trans rfl⟩ (fun hHeld => ?_)
                                    clear hK K
                                    refine norm_ (a' := ?_) ?_ ?_
                                    rotate_left
                                    · show Act.put _ (some 53) _ = _
                                      simp only [Act.put, List.setIfInBounds_toArray, List.set_cons_zero, List.set_cons_succ, i64_w, i32_w]
                                      rfl
                                    refine one_ (i := 5) (N := some 54) #[true, true, true, true, true, true, false, false, false, false, false, false, false, false, false, false, false, false] rfl rfl (one_of HT_.out (by kernel_rfl)) (by decide) (fun K hK => ?_)
                                    refine Kd.R_append_rows_step k31 (w0 := w) w.heap.size (by rfl) (.tmp 51) (.tmp 53) 26 31 (.agg #[(.bool false), (.string ⟨#[]⟩), (.int .i64 0)]) 32 rfl Tryd.underlying26 info31 rfl (by decide) (by omega) v433 t432 y435 _ _ _ (fun k_ => some k_ ≠ (.slice Ao70 y435.length co70 : Value).ownBlock ∧ k_ ≠ gb431) (fun _ => False) rfl rfl ?aO ?aR (fun _ _ h => h) (fun _ h => h.elim) ?aF ?aB ?aS ?aL ?_
                                    (case aR => repeat (first | exact (Kd.R_reads' HO437.out).2.2 | (with_reducible refine Kd.C_alloc ?_ _) | (with_reducible refine Kd.C_drewN ?_ _) | (with_reducible refine Kd.C_drew ?_)))
                                    (case aB => exact (by repeat (first | (with_reducible first | exact HB.out | apply below_alloc | apply pw_below_drewN | apply below_drew1 | refine below_set ?_ GE431.out) | exact HB.out)))
                                    (case aF => exact (fun k_ hk => ⟨Kd.fresh' (Kd.R_lt (by (with_reducible repeat (first | apply Kd.R_alloc | apply Kd.R_drewN | apply Kd.R_drew)); exact HO437.out)) k_ hk, Kd.freshB (g := gb431) (o := .cells #[.bool ((rd_T31 l2 x45_3).f0), .string ((rd_T31 l2 x45_3).f1), .int .i64 ((rd_T31 l2 x45_3).f2)] 31 (0, 0)) (by (with_reducible repeat (first | refine blk_drewN ?_ _ | refine blk_drew ?_ | refine blk_alloc ?_ _)); exact BK431.out) k_ hk⟩))
                                    (case aO => exact (by (with_reducible repeat (first | apply Kd.R_alloc | apply Kd.R_drewN | apply Kd.R_drew)); exact Kd.R_mono HO434.out (fun _ hk => ⟨hk.2, hk.1.2⟩)))
                                    (case aS => exact (below_size (by repeat (first | (with_reducible first | exact HB.out | apply below_alloc | apply pw_below_drewN | apply below_drew1 | refine below_set ?_ GE431.out) | exact HB.out))))
                                    (case aL => have := LMc36.out; omega)
                                    intro v439 w69 ho hb hg hat
                                    rw [← Ny438.out] at ho
                                    have n0_ := Aside0.mk (blk_grown (g := gb431) (o := .cells #[.bool ((rd_T31 l2 x45_3).f0), .string ((rd_T31 l2 x45_3).f1), .int .i64 ((rd_T31 l2 x45_3).f2)] 31 (0, 0)) (by (with_reducible repeat (first | refine blk_drewN ?_ _ | refine blk_drew ?_ | refine blk_alloc ?_ _)); exact BK431.out) hg (Kd.R_away HO434.out (fun _ hk => hk.1.2)))
                                    have n1_ := Aside0.mk (Kd.R_after (ok := (fun k_ => k_ ≠ gb431)) (by (with_reducible repeat (first | apply Kd.R_alloc | apply Kd.R_drewN | apply Kd.R_drew)); exact Kd.R_mono HO437.out (fun _ hk => ⟨hk.2, hk.1.2⟩)) hg hat)
                                    have n2_ := Aside0.mk (hb)
                                    have n3_ := Aside0.mk (ho)
                                    clear BK431
                                    clear HO437
                                    clear HB
                                    clear HO434
                                    have BK431 := n0_
                                    have HO437 := n1_
                                    have HB := n2_
                                    have HO440 := n3_
                                    clear n0_ n1_ n2_ n3_
                                    clear ho hb hg hat
                                    obtain ⟨Ao71, co71, eo71⟩ := Kd.R_slice HO440.out
                                    (first | subst eo71 | (injection eo71 with f1_ f2_ f3_; have f4_ := f1_.symm; have f5_ := f3_.symm; clear f1_ f2_ f3_; subst f4_; subst f5_))
                                    refine hK.out _ _ ⟨(blk_cell BK431.out 0).trans rfl, (blk_cell BK431.out 1).trans rfl, (blk_cell BK431.out 2).trans rfl⟩ (fun hHeld => ?_)
                                    clear hK K
                                    refine norm_ (a' := ?_) ?_ ?_
                                    rotate_left
                                    · show Act.put _ (some 54) _ = _
                                      simp only [Act.put, List.setIfInBounds_toArray, List.set_cons_zero, List.set_cons_succ, i64_w, i32_w]
                                      rfl
                                    refine one_ (i := 6) (N := some 55) #[true, true, true, true, true, true, true, false, false, false, false, false, false, false, false, false, false, false] rfl rfl (one_of HT_.out (by kernel_rfl)) (by decide) (fun K hK => ?_)
                                    refine goes_ Tryd.func25 (by kernel_rfl) rfl #[.slice A0 l0.length c0, .slice Ao71 y438.length co71] (by rfl) rfl rfl (by (try simp only [List.map_toArray, List.map_cons, List.map_nil]); first | done | rfl | (simp only [List.length_drop, List.length_take]; rfl)) ?_
                                    with_reducible refine (key_Cmp.calls _ _ l0 _ _ y438 t441 _ ?side1 ?side2 ?side3 ?side4 A37.out).mono ?_
                                    (case side1 => repeat (first | exact (Kd.C_below HR0.out HB.out) | (with_reducible refine Kd.C_alloc ?_ _) | (with_reducible refine Kd.C_drewN ?_ _) | (with_reducible refine Kd.C_drew ?_)))
                                    (case side2 => exact HC0.out)
                                    (case side3 => repeat (first | exact (Kd.R_reads' HO440.out).2.2 | (with_reducible refine Kd.C_alloc ?_ _) | (with_reducible refine Kd.C_drewN ?_ _) | (with_reducible refine Kd.C_drew ?_)))
                                    (case side4 => exact (Kd.R_reads' HO440.out).2.1)
                                    rintro e w72 ⟨rfl, hb⟩
                                    refine ⟨_, rfl, ?_⟩
                                    have n0_ := Aside0.mk (Kd.R_below (by (with_reducible repeat (first | apply Kd.R_alloc | apply Kd.R_drewN | apply Kd.R_drew)); exact HO437.out) hb)
                                    have n1_ := Aside0.mk (Kd.R_below (by (with_reducible repeat (first | apply Kd.R_alloc | apply Kd.R_drewN | apply Kd.R_drew)); exact HO440.out) hb)
                                    have n2_ := Aside0.mk (blk_below (g := gb431) (o := .cells #[.bool ((rd_T31 l2 x45_3).f0), .string ((rd_T31 l2 x45_3).f1), .int .i64 ((rd_T31 l2 x45_3).f2)] 31 (0, 0)) (by (with_reducible repeat (first | refine blk_drewN ?_ _ | refine blk_drew ?_ | refine blk_alloc ?_ _)); exact BK431.out) hb)
                                    have n3_ := Aside0.mk (below_step (by repeat (first | (with_reducible first | exact HB.out | apply below_alloc | apply pw_below_drewN | apply below_drew1 | refine below_set ?_ GE431.out) | exact HB.out)) hb)
                                    clear HO437
                                    clear HO440
                                    clear BK431
                                    clear HB
                                    have HO437 := n0_
                                    have HO440 := n1_
                                    have BK431 := n2_
                                    have HB := n3_
                                    clear n0_ n1_ n2_ n3_
                                    (try clear hb)
                                    (try clear hb2)
                                    (try clear hk)
                                    (try clear hi)
                                    refine hK.out _ _ ⟨(blk_cell BK431.out 0).trans rfl, (blk_cell BK431.out 1).trans rfl, (blk_cell BK431.out 2).trans rfl⟩ (fun hHeld => ?_)
                                    clear hK K
                                    refine norm_ (a' := ?_) ?_ ?_
                                    rotate_left
                                    · show Act.put _ (some 55) _ = _
                                      simp only [Act.put, List.setIfInBounds_toArray, List.set_cons_zero, List.set_cons_succ, i64_w, i32_w]
                                      rfl
                                    refine pure_ (i := 7) (N := some 56) (v := ?_) (a' := ?_) #[true, true, true, true, true, true, true, true, false, false, false, false, false, false, false, false, false, false] rfl rfl (any_of HT_.out (by kernel_rfl)) (fun _ _ _ h => h) (Or.inl ⟨by rfl, ?_⟩) ?_ ?_
                                    rotate_left
                                    · intro w'
                                      go_simp
                                      with_reducible rfl
                                    rotate_left
                                    · simp only [Act.put, List.setIfInBounds_toArray, List.set_cons_zero, List.set_cons_succ, i64_w, i32_w]
                                      rfl
                                    refine pure_ (i := 8) (N := some 57) (v := ?_) (a' := ?_) #[true, true, true, true, true, true, true, true, true, false, false, false, false, false, false, false, false, false] rfl rfl (any_of HT_.out (by kernel_rfl)) (fun _ _ _ h => h) (Or.inl ⟨by rfl, ?_⟩) ?_ ?_
                                    rotate_left
                                    · intro w'
                                      go_simp
                                      with_reducible rfl
                                    rotate_left
                                    · simp only [Act.put, List.setIfInBounds_toArray, List.set_cons_zero, List.set_cons_succ, i64_w, i32_w]
                                      rfl
                                    refine pure_ (i := 9) (N := some 58) (v := ?_) (a' := ?_) #[true, true, true, true, true, true, true, true, true, true, false, false, false, false, false, false, false, false] rfl rfl (any_of HT_.out (by kernel_rfl)) (fun _ _ _ h => h) (Or.inl ⟨by rfl, ?_⟩) ?_ ?_
                                    rotate_left
                                    · intro w'
                                      go_simp
                                      with_reducible rfl
                                    rotate_left
                                    · simp only [Act.put, List.setIfInBounds_toArray, List.set_cons_zero, List.set_cons_succ, i64_w, i32_w]
                                      rfl
                                    refine take_ (i := 11) (N := some 60) (v := ?_) (a' := ?_) #[true, true, true, true, true, true, true, true, true, true, false, true, false, false, false, false, false, false] rfl rfl (take_ofW HT_.out HW_.out (by kernel_rfl)) (fun _ _ _ h => h) (Or.inl ⟨by rfl, ?_⟩) hHeld ?_ ?_
                                    rotate_left
                                    · rintro w' ⟨s0, s1, s2⟩
                                      go_simp
                                      with_reducible rfl
                                    rotate_left
                                    · simp only [Act.put, List.setIfInBounds_toArray, List.set_cons_zero, List.set_cons_succ, i64_w, i32_w]
                                      rfl
                                    refine pure_ (i := 14) (N := some 63) (v := ?_) (a' := ?_) #[true, true, true, true, true, true, true, true, true, true, false, true, false, false, true, false, false, false] rfl rfl (any_of HT_.out (by kernel_rfl)) (fun _ _ _ h => h) (Or.inl ⟨by rfl, ?_⟩) ?_ ?_
                                    rotate_left
                                    · intro w'
                                      go_simp
                                      with_reducible rfl
                                    rotate_left
                                    · simp only [Act.put, List.setIfInBounds_toArray, List.set_cons_zero, List.set_cons_succ, i64_w, i32_w]
                                      rfl
                                    refine two_ (i := 10) (j := 12) (Ni := some 59) (Nj := some 61) #[true, true, true, true, true, true, true, true, true, true, true, true, false, false, true, false, false, false] #[true, true, true, true, true, true, true, true, true, true, false, true, true, false, true, false, false, false] rfl rfl rfl rfl (two_of HT_.out (by kernel_rfl)) (by decide) (by decide) (fun K hK => ?_) (fun K hK => ?_)
                                    · skip
                                      refine goes_ Tryd.func16 (by kernel_rfl) rfl #[.slice A0 l0.length c0] (by rfl) rfl rfl (by (try simp only [List.map_toArray, List.map_cons, List.map_nil]); first | done | rfl | (simp only [List.length_drop, List.length_take]; rfl)) ?_
                                      with_reducible refine (rhizomelaw01_own.calls _ _ l0 t442 _ ?side1 ?side2 A39.out).mono ?_
                                      (case side1 => repeat (first | exact (Kd.C_below HR0.out HB.out) | (with_reducible refine Kd.C_alloc ?_ _) | (with_reducible refine Kd.C_drewN ?_ _) | (with_reducible refine Kd.C_drew ?_)))
                                      (case side2 => exact HC0.out)
                                      rintro e w73 ⟨v443, rfl, ho0, hb⟩
                                      refine ⟨_, rfl, ?_⟩
                                      have n0_ := Aside0.mk (Kd.R_elder' (by (with_reducible repeat (first | apply Kd.R_alloc | apply Kd.R_drewN | apply Kd.R_drew)); exact HO437.out) (Kd.R_base ho0) hb)
                                      have n1_ := Aside0.mk (Kd.R_elder' (by (with_reducible repeat (first | apply Kd.R_alloc | apply Kd.R_drewN | apply Kd.R_drew)); exact HO440.out) (Kd.R_base ho0) hb)
                                      have n2_ := Aside0.mk (Kd.R_lower (Kd.R_newB (Kd.R_new' (Kd.R_new' ho0 (Kd.R_lt (by (with_reducible repeat (first | apply Kd.R_alloc | apply Kd.R_drewN | apply Kd.R_drew)); exact HO437.out))) (Kd.R_lt (by (with_reducible repeat (first | apply Kd.R_alloc | apply Kd.R_drewN | apply Kd.R_drew)); exact HO440.out))) (g := gb431) (o := .cells #[.bool ((rd_T31 l2 x45_3).f0), .string ((rd_T31 l2 x45_3).f1), .int .i64 ((rd_T31 l2 x45_3).f2)] 31 (0, 0)) (by (with_reducible repeat (first | refine blk_drewN ?_ _ | refine blk_drew ?_ | refine blk_alloc ?_ _)); exact BK431.out)) (below_size (by repeat (first | (with_reducible first | exact HB.out | apply below_alloc | apply pw_below_drewN | apply below_drew1 | refine below_set ?_ GE431.out) | exact HB.out))))
                                      have n3_ := Aside0.mk (blk_below (g := gb431) (o := .cells #[.bool ((rd_T31 l2 x45_3).f0), .string ((rd_T31 l2 x45_3).f1), .int .i64 ((rd_T31 l2 x45_3).f2)] 31 (0, 0)) (by (with_reducible repeat (first | refine blk_drewN ?_ _ | refine blk_drew ?_ | refine blk_alloc ?_ _)); exact BK431.out) hb)
                                      have n4_ := Aside0.mk (below_step (by repeat (first | (with_reducible first | exact HB.out | apply below_alloc | apply pw_below_drewN | apply below_drew1 | refine below_set ?_ GE431.out) | exact HB.out)) hb)
                                      clear HO437
                                      clear HO440
                                      clear BK431
                                      clear HB
                                      have HO437 := n0_
                                      have HO440 := n1_
                                      have HO444 := n2_
                                      have BK431 := n3_
                                      have HB := n4_
                                      clear n0_ n1_ n2_ n3_ n4_
                                      (try clear hb)
                                      (try clear hb2)
                                      (try clear hk)
                                      (try clear hi)
                                      (try clear ho0)
                                      refine hK.out _ _ ⟨(blk_cell BK431.out 0).trans rfl, (blk_cell BK431.out 1).trans rfl, (blk_cell BK431.out 2).trans rfl⟩ (fun hHeld => ?_)
                                      clear hK K
                                      refine norm_ (a' := ?_) ?_ ?_
                                      rotate_left
                                      · show Act.put _ (some 59) _ = _
                                        simp only [Act.put, List.setIfInBounds_toArray, List.set_cons_zero, List.set_cons_succ, i64_w, i32_w]
                                        rfl
                                      refine one_ (i := 12) (N := some 61) #[true, true, true, true, true, true, true, true, true, true, true, true, true, false, true, false, false, false] rfl rfl (one_of HT_.out (by kernel_rfl)) (by decide) (fun K hK => ?_)
                                      refine Kd.R_lit_step k31 _ 31 ?hg (N := 61) ?hd (xs := ([(⟨(rd_T31 l2 x45_3).f0, (rd_T31 l2 x45_3).f1, (rd_T31 l2 x45_3).f2⟩ : S31)] : List (S31))) (inner := [.bool ((rd_T31 l2 x45_3).f0), .string ((rd_T31 l2 x45_3).f1), .int .i64 ((rd_T31 l2 x45_3).f2)]) (ok := fun _ => True) (okp := fun _ => True) ?hr ?hp (fun _ hk => hk) trivial (Below.refl _ _) (Nat.le_refl _) (by simp) ?_; (case hd => rfl); (case hg => rfl); (case hr => first | (go_simp; done) | (go_simp; rfl)); (case hp => exact (Reps.c3 (show Kd.M k31 _ _ _ (⟨(rd_T31 l2 x45_3).f0, (rd_T31 l2 x45_3).f1, (rd_T31 l2 x45_3).f2⟩ : S31) [.bool ((rd_T31 l2 x45_3).f0), .string ((rd_T31 l2 x45_3).f1), .int .i64 ((rd_T31 l2 x45_3).f2)] from (k31_mkM _ _ _ (⟨(rd_T31 l2 x45_3).f0, (rd_T31 l2 x45_3).f1, (rd_T31 l2 x45_3).f2⟩ : S31) )) (Reps.none _ _)))
                                      intro v446 w74 ho75 hb hg_ hnew_
                                      clear hg_ hnew_
                                      (first | rw [← Ny445.out] at ho75 | (simp only [Int.reduceToNat] at ho75; rw [← Ny445.out] at ho75))
                                      have n0_ := Aside0.mk (Kd.R_elder' (by (with_reducible repeat (first | apply Kd.R_alloc | apply Kd.R_drewN | apply Kd.R_drew)); exact HO437.out) (Kd.R_base ho75) hb)
                                      have n1_ := Aside0.mk (Kd.R_elder' (by (with_reducible repeat (first | apply Kd.R_alloc | apply Kd.R_drewN | apply Kd.R_drew)); exact HO440.out) (Kd.R_base ho75) hb)
                                      have n2_ := Aside0.mk (Kd.R_elder' (by (with_reducible repeat (first | apply Kd.R_alloc | apply Kd.R_drewN | apply Kd.R_drew)); exact HO444.out) (Kd.R_base ho75) hb)
                                      have n3_ := Aside0.mk (Kd.R_lower (Kd.R_newB (Kd.R_new' (Kd.R_new' (Kd.R_new' ho75 (Kd.R_lt (by (with_reducible repeat (first | apply Kd.R_alloc | apply Kd.R_drewN | apply Kd.R_drew)); exact HO437.out))) (Kd.R_lt (by (with_reducible repeat (first | apply Kd.R_alloc | apply Kd.R_drewN | apply Kd.R_drew)); exact HO440.out))) (Kd.R_lt (by (with_reducible repeat (first | apply Kd.R_alloc | apply Kd.R_drewN | apply Kd.R_drew)); exact HO444.out))) (g := gb431) (o := .cells #[.bool ((rd_T31 l2 x45_3).f0), .string ((rd_T31 l2 x45_3).f1), .int .i64 ((rd_T31 l2 x45_3).f2)] 31 (0, 0)) (by (with_reducible repeat (first | refine blk_drewN ?_ _ | refine blk_drew ?_ | refine blk_alloc ?_ _)); exact BK431.out)) (below_size (by repeat (first | (with_reducible first | exact HB.out | apply below_alloc | apply pw_below_drewN | apply below_drew1 | refine below_set ?_ GE431.out) | exact HB.out))))
                                      have n4_ := Aside0.mk (blk_below (g := gb431) (o := .cells #[.bool ((rd_T31 l2 x45_3).f0), .string ((rd_T31 l2 x45_3).f1), .int .i64 ((rd_T31 l2 x45_3).f2)] 31 (0, 0)) (by (with_reducible repeat (first | refine blk_drewN ?_ _ | refine blk_drew ?_ | refine blk_alloc ?_ _)); exact BK431.out) hb)
                                      have n5_ := Aside0.mk (below_step (by repeat (first | (with_reducible first | exact HB.out | apply below_alloc | apply pw_below_drewN | apply below_drew1 | refine below_set ?_ GE431.out) | exact HB.out)) hb)
                                      clear HO437
                                      clear HO440
                                      clear HO444
                                      clear BK431
                                      clear HB
                                      have HO437 := n0_
                                      have HO440 := n1_
                                      have HO444 := n2_
                                      have HO447 := n3_
                                      have BK431 := n4_
                                      have HB := n5_
                                      clear n0_ n1_ n2_ n3_ n4_ n5_
                                      clear hb ho75
                                      refine hK.out _ _ ⟨(blk_cell BK431.out 0).trans rfl, (blk_cell BK431.out 1).trans rfl, (blk_cell BK431.out 2).trans rfl⟩ (fun hHeld => ?_)
                                      clear hK K
                                      refine norm_ (a' := ?_) ?_ ?_
                                      rotate_left
                                      · show Act.put _ (some 61) _ = _
                                        simp only [Act.put, List.setIfInBounds_toArray, List.set_cons_zero, List.set_cons_succ, i64_w, i32_w]
                                        rfl
                                      exact norm_ (by first | (simp only [putAll, Act.put, List.setIfInBounds_toArray, List.set_cons_zero, List.set_cons_succ]; done) | (simp only [putAll, Act.put, List.setIfInBounds_toArray, List.set_cons_zero, List.set_cons_succ]; rfl)) (hCont (v433, .slice Ao70 y435.length co70, .slice Ao71 y438.length co71, v443, v446) _ ⟨hHeld, (by (with_reducible repeat (first | apply Kd.R_alloc | apply Kd.R_drewN | apply Kd.R_drew)); exact Kd.R_mono HO437.out (fun _ hk => ⟨hk.1.1.2, ⟨hk.1.2, ⟨hk.2, hk.1.1.1⟩⟩⟩)), (by (with_reducible repeat (first | apply Kd.R_alloc | apply Kd.R_drewN | apply Kd.R_drew)); exact Kd.R_mono HO440.out (fun _ hk => ⟨hk.1.1.1, ⟨hk.1.2, ⟨hk.2, hk.1.1.2⟩⟩⟩)), (by (with_reducible repeat (first | apply Kd.R_alloc | apply Kd.R_drewN | apply Kd.R_drew)); exact Kd.R_mono HO444.out (fun _ hk => ⟨hk.1.1.1.2, ⟨hk.1.1.2, ⟨hk.2, hk.1.2⟩⟩⟩)), (by (with_reducible repeat (first | apply Kd.R_alloc | apply Kd.R_drewN | apply Kd.R_drew)); exact Kd.R_mono HO447.out (fun _ hk => ⟨hk.1.1.1.2, ⟨hk.1.1.2, ⟨hk.1.2, hk.2⟩⟩⟩)), (by (with_reducible repeat (first | refine blk_drewN ?_ _ | refine blk_drew ?_ | refine blk_alloc ?_ _)); exact BK431.out), (by repeat (first | (with_reducible first | exact HB.out | apply below_alloc | apply pw_below_drewN | apply below_drew1 | refine below_set ?_ GE431.out) | exact HB.out))⟩)
                                    · skip
                                      refine Kd.R_lit_step k31 _ 31 ?hg (N := 61) ?hd (xs := ([(⟨(rd_T31 l2 x45_3).f0, (rd_T31 l2 x45_3).f1, (rd_T31 l2 x45_3).f2⟩ : S31)] : List (S31))) (inner := [.bool ((rd_T31 l2 x45_3).f0), .string ((rd_T31 l2 x45_3).f1), .int .i64 ((rd_T31 l2 x45_3).f2)]) (ok := fun _ => True) (okp := fun _ => True) ?hr ?hp (fun _ hk => hk) trivial (Below.refl _ _) (Nat.le_refl _) (by simp) ?_; (case hd => rfl); (case hg => rfl); (case hr => first | (go_simp; done) | (go_simp; rfl)); (case hp => exact (Reps.c3 (show Kd.M k31 _ _ _ (⟨(rd_T31 l2 x45_3).f0, (rd_T31 l2 x45_3).f1, (rd_T31 l2 x45_3).f2⟩ : S31) [.bool ((rd_T31 l2 x45_3).f0), .string ((rd_T31 l2 x45_3).f1), .int .i64 ((rd_T31 l2 x45_3).f2)] from (k31_mkM _ _ _ (⟨(rd_T31 l2 x45_3).f0, (rd_T31 l2 x45_3).f1, (rd_T31 l2 x45_3).f2⟩ : S31) )) (Reps.none _ _)))
                                      intro v446 w73 ho74 hb hg_ hnew_
                                      clear hg_ hnew_
                                      (first | rw [← Ny445.out] at ho74 | (simp only [Int.reduceToNat] at ho74; rw [← Ny445.out] at ho74))
                                      have n0_ := Aside0.mk (Kd.R_elder' (by (with_reducible repeat (first | apply Kd.R_alloc | apply Kd.R_drewN | apply Kd.R_drew)); exact HO437.out) (Kd.R_base ho74) hb)
                                      have n1_ := Aside0.mk (Kd.R_elder' (by (with_reducible repeat (first | apply Kd.R_alloc | apply Kd.R_drewN | apply Kd.R_drew)); exact HO440.out) (Kd.R_base ho74) hb)
                                      have n2_ := Aside0.mk (Kd.R_lower (Kd.R_newB (Kd.R_new' (Kd.R_new' ho74 (Kd.R_lt (by (with_reducible repeat (first | apply Kd.R_alloc | apply Kd.R_drewN | apply Kd.R_drew)); exact HO437.out))) (Kd.R_lt (by (with_reducible repeat (first | apply Kd.R_alloc | apply Kd.R_drewN | apply Kd.R_drew)); exact HO440.out))) (g := gb431) (o := .cells #[.bool ((rd_T31 l2 x45_3).f0), .string ((rd_T31 l2 x45_3).f1), .int .i64 ((rd_T31 l2 x45_3).f2)] 31 (0, 0)) (by (with_reducible repeat (first | refine blk_drewN ?_ _ | refine blk_drew ?_ | refine blk_alloc ?_ _)); exact BK431.out)) (below_size (by repeat (first | (with_reducible first | exact HB.out | apply below_alloc | apply pw_below_drewN | apply below_drew1 | refine below_set ?_ GE431.out) | exact HB.out))))
                                      have n3_ := Aside0.mk (blk_below (g := gb431) (o := .cells #[.bool ((rd_T31 l2 x45_3).f0), .string ((rd_T31 l2 x45_3).f1), .int .i64 ((rd_T31 l2 x45_3).f2)] 31 (0, 0)) (by (with_reducible repeat (first | refine blk_drewN ?_ _ | refine blk_drew ?_ | refine blk_alloc ?_ _)); exact BK431.out) hb)
                                      have n4_ := Aside0.mk (below_step (by repeat (first | (with_reducible first | exact HB.out | apply below_alloc | apply pw_below_drewN | apply below_drew1 | refine below_set ?_ GE431.out) | exact HB.out)) hb)
                                      clear HO437
                                      clear HO440
                                      clear BK431
                                      clear HB
                                      have HO437 := n0_
                                      have HO440 := n1_
                                      have HO447 := n2_
                                      have BK431 := n3_
                                      have HB := n4_
                                      clear n0_ n1_ n2_ n3_ n4_
                                      clear hb ho74
                                      refine hK.out _ _ ⟨(blk_cell BK431.out 0).trans rfl, (blk_cell BK431.out 1).trans rfl, (blk_cell BK431.out 2).trans rfl⟩ (fun hHeld => ?_)
                                      clear hK K
                                      refine norm_ (a' := ?_) ?_ ?_
                                      rotate_left
                                      · show Act.put _ (some 61) _ = _
                                        simp only [Act.put, List.setIfInBounds_toArray, List.set_cons_zero, List.set_cons_succ, i64_w, i32_w]
                                        rfl
                                      refine one_ (i := 10) (N := some 59) #[true, true, true, true, true, true, true, true, true, true, true, true, true, false, true, false, false, false] rfl rfl (one_of HT_.out (by kernel_rfl)) (by decide) (fun K hK => ?_)
                                      refine goes_ Tryd.func16 (by kernel_rfl) rfl #[.slice A0 l0.length c0] (by rfl) rfl rfl (by (try simp only [List.map_toArray, List.map_cons, List.map_nil]); first | done | rfl | (simp only [List.length_drop, List.length_take]; rfl)) ?_
                                      with_reducible refine (rhizomelaw01_own.calls _ _ l0 t442 _ ?side1 ?side2 A39.out).mono ?_
                                      (case side1 => repeat (first | exact (Kd.C_below HR0.out HB.out) | (with_reducible refine Kd.C_alloc ?_ _) | (with_reducible refine Kd.C_drewN ?_ _) | (with_reducible refine Kd.C_drew ?_)))
                                      (case side2 => exact HC0.out)
                                      rintro e w75 ⟨v443, rfl, ho0, hb⟩
                                      refine ⟨_, rfl, ?_⟩
                                      have n0_ := Aside0.mk (Kd.R_elder' (by (with_reducible repeat (first | apply Kd.R_alloc | apply Kd.R_drewN | apply Kd.R_drew)); exact HO437.out) (Kd.R_base ho0) hb)
                                      have n1_ := Aside0.mk (Kd.R_elder' (by (with_reducible repeat (first | apply Kd.R_alloc | apply Kd.R_drewN | apply Kd.R_drew)); exact HO440.out) (Kd.R_base ho0) hb)
                                      have n2_ := Aside0.mk (Kd.R_elder' (by (with_reducible repeat (first | apply Kd.R_alloc | apply Kd.R_drewN | apply Kd.R_drew)); exact HO447.out) (Kd.R_base ho0) hb)
                                      have n3_ := Aside0.mk (Kd.R_lower (Kd.R_newB (Kd.R_new' (Kd.R_new' (Kd.R_new' ho0 (Kd.R_lt (by (with_reducible repeat (first | apply Kd.R_alloc | apply Kd.R_drewN | apply Kd.R_drew)); exact HO437.out))) (Kd.R_lt (by (with_reducible repeat (first | apply Kd.R_alloc | apply Kd.R_drewN | apply Kd.R_drew)); exact HO440.out))) (Kd.R_lt (by (with_reducible repeat (first | apply Kd.R_alloc | apply Kd.R_drewN | apply Kd.R_drew)); exact HO447.out))) (g := gb431) (o := .cells #[.bool ((rd_T31 l2 x45_3).f0), .string ((rd_T31 l2 x45_3).f1), .int .i64 ((rd_T31 l2 x45_3).f2)] 31 (0, 0)) (by (with_reducible repeat (first | refine blk_drewN ?_ _ | refine blk_drew ?_ | refine blk_alloc ?_ _)); exact BK431.out)) (below_size (by repeat (first | (with_reducible first | exact HB.out | apply below_alloc | apply pw_below_drewN | apply below_drew1 | refine below_set ?_ GE431.out) | exact HB.out))))
                                      have n4_ := Aside0.mk (blk_below (g := gb431) (o := .cells #[.bool ((rd_T31 l2 x45_3).f0), .string ((rd_T31 l2 x45_3).f1), .int .i64 ((rd_T31 l2 x45_3).f2)] 31 (0, 0)) (by (with_reducible repeat (first | refine blk_drewN ?_ _ | refine blk_drew ?_ | refine blk_alloc ?_ _)); exact BK431.out) hb)
                                      have n5_ := Aside0.mk (below_step (by repeat (first | (with_reducible first | exact HB.out | apply below_alloc | apply pw_below_drewN | apply below_drew1 | refine below_set ?_ GE431.out) | exact HB.out)) hb)
                                      clear HO437
                                      clear HO440
                                      clear HO447
                                      clear BK431
                                      clear HB
                                      have HO437 := n0_
                                      have HO440 := n1_
                                      have HO447 := n2_
                                      have HO444 := n3_
                                      have BK431 := n4_
                                      have HB := n5_
                                      clear n0_ n1_ n2_ n3_ n4_ n5_
                                      (try clear hb)
                                      (try clear hb2)
                                      (try clear hk)
                                      (try clear hi)
                                      (try clear ho0)
                                      refine hK.out _ _ ⟨(blk_cell BK431.out 0).trans rfl, (blk_cell BK431.out 1).trans rfl, (blk_cell BK431.out 2).trans rfl⟩ (fun hHeld => ?_)
                                      clear hK K
                                      refine norm_ (a' := ?_) ?_ ?_
                                      rotate_left
                                      · show Act.put _ (some 59) _ = _
                                        simp only [Act.put, List.setIfInBounds_toArray, List.set_cons_zero, List.set_cons_succ, i64_w, i32_w]
                                        rfl
                                      exact norm_ (by first | (simp only [putAll, Act.put, List.setIfInBounds_toArray, List.set_cons_zero, List.set_cons_succ]; done) | (simp only [putAll, Act.put, List.setIfInBounds_toArray, List.set_cons_zero, List.set_cons_succ]; rfl)) (hCont (v433, .slice Ao70 y435.length co70, .slice Ao71 y438.length co71, v443, v446) _ ⟨hHeld, (by (with_reducible repeat (first | apply Kd.R_alloc | apply Kd.R_drewN | apply Kd.R_drew)); exact Kd.R_mono HO437.out (fun _ hk => ⟨hk.1.1.2, ⟨hk.2, ⟨hk.1.2, hk.1.1.1⟩⟩⟩)), (by (with_reducible repeat (first | apply Kd.R_alloc | apply Kd.R_drewN | apply Kd.R_drew)); exact Kd.R_mono HO440.out (fun _ hk => ⟨hk.1.1.1, ⟨hk.2, ⟨hk.1.2, hk.1.1.2⟩⟩⟩)), (by (with_reducible repeat (first | apply Kd.R_alloc | apply Kd.R_drewN | apply Kd.R_drew)); exact Kd.R_mono HO444.out (fun _ hk => ⟨hk.1.1.1.2, ⟨hk.1.1.2, ⟨hk.1.2, hk.2⟩⟩⟩)), (by (with_reducible repeat (first | apply Kd.R_alloc | apply Kd.R_drewN | apply Kd.R_drew)); exact Kd.R_mono HO447.out (fun _ hk => ⟨hk.1.1.1.2, ⟨hk.1.1.2, ⟨hk.2, hk.1.2⟩⟩⟩)), (by (with_reducible repeat (first | refine blk_drewN ?_ _ | refine blk_drew ?_ | refine blk_alloc ?_ _)); exact BK431.out), (by repeat (first | (with_reducible first | exact HB.out | apply below_alloc | apply pw_below_drewN | apply below_drew1 | refine below_set ?_ GE431.out) | exact HB.out))⟩)
                                  · skip
                                    refine Kd.R_lit_step k31 _ 31 ?hg (N := 53) ?hd (xs := ([(⟨(rd_T31 l2 x45_3).f0, (rd_T31 l2 x45_3).f1, (rd_T31 l2 x45_3).f2⟩ : S31)] : List (S31))) (inner := [.bool ((rd_T31 l2 x45_3).f0), .string ((rd_T31 l2 x45_3).f1), .int .i64 ((rd_T31 l2 x45_3).f2)]) (ok := fun _ => True) (okp := fun _ => True) ?hr ?hp (fun _ hk => hk) trivial (Below.refl _ _) (Nat.le_refl _) (by simp) ?_; (case hd => rfl); (case hg => rfl); (case hr => first | (go_simp; done) | (go_simp; rfl)); (case hp => exact (Reps.c3 (show Kd.M k31 _ _ _ (⟨(rd_T31 l2 x45_3).f0, (rd_T31 l2 x45_3).f1, (rd_T31 l2 x45_3).f2⟩ : S31) [.bool ((rd_T31 l2 x45_3).f0), .string ((rd_T31 l2 x45_3).f1), .int .i64 ((rd_T31 l2 x45_3).f2)] from (k31_mkM _ _ _ (⟨(rd_T31 l2 x45_3).f0, (rd_T31 l2 x45_3).f1, (rd_T31 l2 x45_3).f2⟩ : S31) )) (Reps.none _ _)))
                                    intro v436 w66 ho67 hb hg_ hnew_
                                    clear hg_ hnew_
                                    (first | rw [← Ny435.out] at ho67 | (simp only [Int.reduceToNat] at ho67; rw [← Ny435.out] at ho67))
                                    have n0_ := Aside0.mk (Kd.R_lower (Kd.R_newB ho67 (g := gb431) (o := .cells #[.bool ((rd_T31 l2 x45_3).f0), .string ((rd_T31 l2 x45_3).f1), .int .i64 ((rd_T31 l2 x45_3).f2)] 31 (0, 0)) (by (with_reducible repeat (first | refine blk_drewN ?_ _ | refine blk_drew ?_ | refine blk_alloc ?_ _)); exact BK431.out)) (below_size (by repeat (first | (with_reducible first | exact HB.out | apply below_alloc | apply pw_below_drewN | apply below_drew1 | refine below_set ?_ GE431.out) | exact HB.out))))
                                    have n1_ := Aside0.mk (blk_below (g := gb431) (o := .cells #[.bool ((rd_T31 l2 x45_3).f0), .string ((rd_T31 l2 x45_3).f1), .int .i64 ((rd_T31 l2 x45_3).f2)] 31 (0, 0)) (by (with_reducible repeat (first | refine blk_drewN ?_ _ | refine blk_drew ?_ | refine blk_alloc ?_ _)); exact BK431.out) hb)
                                    have n2_ := Aside0.mk (below_step (by repeat (first | (with_reducible first | exact HB.out | apply below_alloc | apply pw_below_drewN | apply below_drew1 | refine below_set ?_ GE431.out) | exact HB.out)) hb)
                                    clear BK431
                                    clear HB
                                    have HO437 := n0_
                                    have BK431 := n1_
                                    have HB := n2_
                                    clear n0_ n1_ n2_
                                    clear hb ho67
                                    refine hK.out _ _ ⟨(blk_cell BK431.out 0).trans rfl, (blk_cell BK431.out 1).trans rfl, (blk_cell BK431.out 2).trans rfl⟩ (fun hHeld => ?_)
                                    clear hK K
                                    refine norm_ (a' := ?_) ?_ ?_
                                    rotate_left
                                    · show Act.put _ (some 53) _ = _
                                      simp only [Act.put, List.setIfInBounds_toArray, List.set_cons_zero, List.set_cons_succ, i64_w, i32_w]
                                      rfl
                                    refine one_ (i := 2) (N := some 51) #[true, true, true, true, true, false, false, false, false, false, false, false, false, false, false, false, false, false] rfl rfl (one_of HT_.out (by kernel_rfl)) (by decide) (fun K hK => ?_)
                                    refine goes_ Tryd.func16 (by kernel_rfl) rfl #[.slice A0 l0.length c0] (by rfl) rfl rfl (by (try simp only [List.map_toArray, List.map_cons, List.map_nil]); first | done | rfl | (simp only [List.length_drop, List.length_take]; rfl)) ?_
                                    with_reducible refine (rhizomelaw01_own.calls _ _ l0 t432 _ ?side1 ?side2 A35.out).mono ?_
                                    (case side1 => repeat (first | exact (Kd.C_below HR0.out HB.out) | (with_reducible refine Kd.C_alloc ?_ _) | (with_reducible refine Kd.C_drewN ?_ _) | (with_reducible refine Kd.C_drew ?_)))
                                    (case side2 => exact HC0.out)
                                    rintro e w68 ⟨v433, rfl, ho0, hb⟩
                                    refine ⟨_, rfl, ?_⟩
                                    have n0_ := Aside0.mk (Kd.R_elder' (by (with_reducible repeat (first | apply Kd.R_alloc | apply Kd.R_drewN | apply Kd.R_drew)); exact HO437.out) (Kd.R_base ho0) hb)
                                    have n1_ := Aside0.mk (Kd.R_lower (Kd.R_newB (Kd.R_new' ho0 (Kd.R_lt (by (with_reducible repeat (first | apply Kd.R_alloc | apply Kd.R_drewN | apply Kd.R_drew)); exact HO437.out))) (g := gb431) (o := .cells #[.bool ((rd_T31 l2 x45_3).f0), .string ((rd_T31 l2 x45_3).f1), .int .i64 ((rd_T31 l2 x45_3).f2)] 31 (0, 0)) (by (with_reducible repeat (first | refine blk_drewN ?_ _ | refine blk_drew ?_ | refine blk_alloc ?_ _)); exact BK431.out)) (below_size (by repeat (first | (with_reducible first | exact HB.out | apply below_alloc | apply pw_below_drewN | apply below_drew1 | refine below_set ?_ GE431.out) | exact HB.out))))
                                    have n2_ := Aside0.mk (blk_below (g := gb431) (o := .cells #[.bool ((rd_T31 l2 x45_3).f0), .string ((rd_T31 l2 x45_3).f1), .int .i64 ((rd_T31 l2 x45_3).f2)] 31 (0, 0)) (by (with_reducible repeat (first | refine blk_drewN ?_ _ | refine blk_drew ?_ | refine blk_alloc ?_ _)); exact BK431.out) hb)
                                    have n3_ := Aside0.mk (below_step (by repeat (first | (with_reducible first | exact HB.out | apply below_alloc | apply pw_below_drewN | apply below_drew1 | refine below_set ?_ GE431.out) | exact HB.out)) hb)
                                    clear HO437
                                    clear BK431
                                    clear HB
                                    have HO437 := n0_
                                    have HO434 := n1_
                                    have BK431 := n2_
                                    have HB := n3_
                                    clear n0_ n1_ n2_ n3_
                                    (try clear hb)
                                    (try clear hb2)
                                    (try clear hk)
                                    (try clear hi)
                                    (try clear ho0)
                                    obtain ⟨Ao70, co70, eo70⟩ := Kd.R_slice HO437.out
                                    (first | subst eo70 | (injection eo70 with f1_ f2_ f3_; have f4_ := f1_.symm; have f5_ := f3_.symm; clear f1_ f2_ f3_; subst f4_; subst f5_))
                                    refine hK.out _ _ ⟨(blk_cell BK431.out 0).trans rfl, (blk_cell BK431.out 1).trans rfl, (blk_cell BK431.out 2).trans rfl⟩ (fun hHeld => ?_)
                                    clear hK K
                                    refine norm_ (a' := ?_) ?_ ?_
                                    rotate_left
                                    · show Act.put _ (some 51) _ = _
                                      simp only [Act.put, List.setIfInBounds_toArray, List.set_cons_zero, List.set_cons_succ, i64_w, i32_w]
                                      rfl
                                    refine one_ (i := 5) (N := some 54) #[true, true, true, true, true, true, false, false, false, false, false, false, false, false, false, false, false, false] rfl rfl (one_of HT_.out (by kernel_rfl)) (by decide) (fun K hK => ?_)
                                    refine Kd.R_append_rows_step k31 (w0 := w) w.heap.size (by rfl) (.tmp 51) (.tmp 53) 26 31 (.agg #[(.bool false), (.string ⟨#[]⟩), (.int .i64 0)]) 32 rfl Tryd.underlying26 info31 rfl (by decide) (by omega) v433 t432 y435 _ _ _ (fun k_ => some k_ ≠ (.slice Ao70 y435.length co70 : Value).ownBlock ∧ k_ ≠ gb431) (fun _ => False) rfl rfl ?aO ?aR (fun _ _ h => h) (fun _ h => h.elim) ?aF ?aB ?aS ?aL ?_
                                    (case aR => repeat (first | exact (Kd.R_reads' HO437.out).2.2 | (with_reducible refine Kd.C_alloc ?_ _) | (with_reducible refine Kd.C_drewN ?_ _) | (with_reducible refine Kd.C_drew ?_)))
                                    (case aB => exact (by repeat (first | (with_reducible first | exact HB.out | apply below_alloc | apply pw_below_drewN | apply below_drew1 | refine below_set ?_ GE431.out) | exact HB.out)))
                                    (case aF => exact (fun k_ hk => ⟨Kd.fresh' (Kd.R_lt (by (with_reducible repeat (first | apply Kd.R_alloc | apply Kd.R_drewN | apply Kd.R_drew)); exact HO437.out)) k_ hk, Kd.freshB (g := gb431) (o := .cells #[.bool ((rd_T31 l2 x45_3).f0), .string ((rd_T31 l2 x45_3).f1), .int .i64 ((rd_T31 l2 x45_3).f2)] 31 (0, 0)) (by (with_reducible repeat (first | refine blk_drewN ?_ _ | refine blk_drew ?_ | refine blk_alloc ?_ _)); exact BK431.out) k_ hk⟩))
                                    (case aO => exact (by (with_reducible repeat (first | apply Kd.R_alloc | apply Kd.R_drewN | apply Kd.R_drew)); exact Kd.R_mono HO434.out (fun _ hk => ⟨hk.1.2, hk.2⟩)))
                                    (case aS => exact (below_size (by repeat (first | (with_reducible first | exact HB.out | apply below_alloc | apply pw_below_drewN | apply below_drew1 | refine below_set ?_ GE431.out) | exact HB.out))))
                                    (case aL => have := LMc36.out; omega)
                                    intro v439 w69 ho hb hg hat
                                    rw [← Ny438.out] at ho
                                    have n0_ := Aside0.mk (blk_grown (g := gb431) (o := .cells #[.bool ((rd_T31 l2 x45_3).f0), .string ((rd_T31 l2 x45_3).f1), .int .i64 ((rd_T31 l2 x45_3).f2)] 31 (0, 0)) (by (with_reducible repeat (first | refine blk_drewN ?_ _ | refine blk_drew ?_ | refine blk_alloc ?_ _)); exact BK431.out) hg (Kd.R_away HO434.out (fun _ hk => hk.2)))
                                    have n1_ := Aside0.mk (Kd.R_after (ok := (fun k_ => k_ ≠ gb431)) (by (with_reducible repeat (first | apply Kd.R_alloc | apply Kd.R_drewN | apply Kd.R_drew)); exact Kd.R_mono HO437.out (fun _ hk => ⟨hk.1.2, hk.2⟩)) hg hat)
                                    have n2_ := Aside0.mk (hb)
                                    have n3_ := Aside0.mk (ho)
                                    clear BK431
                                    clear HO437
                                    clear HB
                                    clear HO434
                                    have BK431 := n0_
                                    have HO437 := n1_
                                    have HB := n2_
                                    have HO440 := n3_
                                    clear n0_ n1_ n2_ n3_
                                    clear ho hb hg hat
                                    obtain ⟨Ao71, co71, eo71⟩ := Kd.R_slice HO440.out
                                    (first | subst eo71 | (injection eo71 with f1_ f2_ f3_; have f4_ := f1_.symm; have f5_ := f3_.symm; clear f1_ f2_ f3_; subst f4_; subst f5_))
                                    refine hK.out _ _ ⟨(blk_cell BK431.out 0).trans rfl, (blk_cell BK431.out 1).trans rfl, (blk_cell BK431.out 2).trans rfl⟩ (fun hHeld => ?_)
                                    clear hK K
                                    refine norm_ (a' := ?_) ?_ ?_
                                    rotate_left
                                    · show Act.put _ (some 54) _ = _
                                      simp only [Act.put, List.setIfInBounds_toArray, List.set_cons_zero, List.set_cons_succ, i64_w, i32_w]
                                      rfl
                                    refine one_ (i := 6) (N := some 55) #[true, true, true, true, true, true, true, false, false, false, false, false, false, false, false, false, false, false] rfl rfl (one_of HT_.out (by kernel_rfl)) (by decide) (fun K hK => ?_)
                                    refine goes_ Tryd.func25 (by kernel_rfl) rfl #[.slice A0 l0.length c0, .slice Ao71 y438.length co71] (by rfl) rfl rfl (by (try simp only [List.map_toArray, List.map_cons, List.map_nil]); first | done | rfl | (simp only [List.length_drop, List.length_take]; rfl)) ?_
                                    with_reducible refine (key_Cmp.calls _ _ l0 _ _ y438 t441 _ ?side1 ?side2 ?side3 ?side4 A37.out).mono ?_
                                    (case side1 => repeat (first | exact (Kd.C_below HR0.out HB.out) | (with_reducible refine Kd.C_alloc ?_ _) | (with_reducible refine Kd.C_drewN ?_ _) | (with_reducible refine Kd.C_drew ?_)))
                                    (case side2 => exact HC0.out)
                                    (case side3 => repeat (first | exact (Kd.R_reads' HO440.out).2.2 | (with_reducible refine Kd.C_alloc ?_ _) | (with_reducible refine Kd.C_drewN ?_ _) | (with_reducible refine Kd.C_drew ?_)))
                                    (case side4 => exact (Kd.R_reads' HO440.out).2.1)
                                    rintro e w72 ⟨rfl, hb⟩
                                    refine ⟨_, rfl, ?_⟩
                                    have n0_ := Aside0.mk (Kd.R_below (by (with_reducible repeat (first | apply Kd.R_alloc | apply Kd.R_drewN | apply Kd.R_drew)); exact HO437.out) hb)
                                    have n1_ := Aside0.mk (Kd.R_below (by (with_reducible repeat (first | apply Kd.R_alloc | apply Kd.R_drewN | apply Kd.R_drew)); exact HO440.out) hb)
                                    have n2_ := Aside0.mk (blk_below (g := gb431) (o := .cells #[.bool ((rd_T31 l2 x45_3).f0), .string ((rd_T31 l2 x45_3).f1), .int .i64 ((rd_T31 l2 x45_3).f2)] 31 (0, 0)) (by (with_reducible repeat (first | refine blk_drewN ?_ _ | refine blk_drew ?_ | refine blk_alloc ?_ _)); exact BK431.out) hb)
                                    have n3_ := Aside0.mk (below_step (by repeat (first | (with_reducible first | exact HB.out | apply below_alloc | apply pw_below_drewN | apply below_drew1 | refine below_set ?_ GE431.out) | exact HB.out)) hb)
                                    clear HO437
                                    clear HO440
                                    clear BK431
                                    clear HB
                                    have HO437 := n0_
                                    have HO440 := n1_
                                    have BK431 := n2_
                                    have HB := n3_
                                    clear n0_ n1_ n2_ n3_
                                    (try clear hb)
                                    (try clear hb2)
                                    (try clear hk)
                                    (try clear hi)
                                    refine hK.out _ _ ⟨(blk_cell BK431.out 0).trans rfl, (blk_cell BK431.out 1).trans rfl, (blk_cell BK431.out 2).trans rfl⟩ (fun hHeld => ?_)
                                    clear hK K
                                    refine norm_ (a' := ?_) ?_ ?_
                                    rotate_left
                                    · show Act.put _ (some 55) _ = _
                                      simp only [Act.put, List.setIfInBounds_toArray, List.set_cons_zero, List.set_cons_succ, i64_w, i32_w]
                                      rfl
                                    refine pure_ (i := 7) (N := some 56) (v := ?_) (a' := ?_) #[true, true, true, true, true, true, true, true, false, false, false, false, false, false, false, false, false, false] rfl rfl (any_of HT_.out (by kernel_rfl)) (fun _ _ _ h => h) (Or.inl ⟨by rfl, ?_⟩) ?_ ?_
                                    rotate_left
                                    · intro w'
                                      go_simp
                                      with_reducible rfl
                                    rotate_left
                                    · simp only [Act.put, List.setIfInBounds_toArray, List.set_cons_zero, List.set_cons_succ, i64_w, i32_w]
                                      rfl
                                    refine pure_ (i := 8) (N := some 57) (v := ?_) (a' := ?_) #[true, true, true, true, true, true, true, true, true, false, false, false, false, false, false, false, false, false] rfl rfl (any_of HT_.out (by kernel_rfl)) (fun _ _ _ h => h) (Or.inl ⟨by rfl, ?_⟩) ?_ ?_
                                    rotate_left
                                    · intro w'
                                      go_simp
                                      with_reducible rfl
                                    rotate_left
                                    · simp only [Act.put, List.setIfInBounds_toArray, List.set_cons_zero, List.set_cons_succ, i64_w, i32_w]
                                      rfl
                                    refine pure_ (i := 9) (N := some 58) (v := ?_) (a' := ?_) #[true, true, true, true, true, true, true, true, true, true, false, false, false, false, false, false, false, false] rfl rfl (any_of HT_.out (by kernel_rfl)) (fun _ _ _ h => h) (Or.inl ⟨by rfl, ?_⟩) ?_ ?_
                                    rotate_left
                                    · intro w'
                                      go_simp
                                      with_reducible rfl
                                    rotate_left
                                    · simp only [Act.put, List.setIfInBounds_toArray, List.set_cons_zero, List.set_cons_succ, i64_w, i32_w]
                                      rfl
                                    refine take_ (i := 11) (N := some 60) (v := ?_) (a' := ?_) #[true, true, true, true, true, true, true, true, true, true, false, true, false, false, false, false, false, false] rfl rfl (take_ofW HT_.out HW_.out (by kernel_rfl)) (fun _ _ _ h => h) (Or.inl ⟨by rfl, ?_⟩) hHeld ?_ ?_
                                    rotate_left
                                    · rintro w' ⟨s0, s1, s2⟩
                                      go_simp
                                      with_reducible rfl
                                    rotate_left
                                    · simp only [Act.put, List.setIfInBounds_toArray, List.set_cons_zero, List.set_cons_succ, i64_w, i32_w]
                                      rfl
                                    refine pure_ (i := 14) (N := some 63) (v := ?_) (a' := ?_) #[true, true, true, true, true, true, true, true, true, true, false, true, false, false, true, false, false, false] rfl rfl (any_of HT_.out (by kernel_rfl)) (fun _ _ _ h => h) (Or.inl ⟨by rfl, ?_⟩) ?_ ?_
                                    rotate_left
                                    · intro w'
                                      go_simp
                                      with_reducible rfl
                                    rotate_left
                                    · simp only [Act.put, List.setIfInBounds_toArray, List.set_cons_zero, List.set_cons_succ, i64_w, i32_w]
                                      rfl
                                    refine two_ (i := 10) (j := 12) (Ni := some 59) (Nj := some 61) #[true, true, true, true, true, true, true, true, true, true, true, true, false, false, true, false, false, false] #[true, true, true, true, true, true, true, true, true, true, false, true, true, false, true, false, false, false] rfl rfl rfl rfl (two_of HT_.out (by kernel_rfl)) (by decide) (by decide) (fun K hK => ?_) (fun K hK => ?_)
                                    · skip
                                      refine goes_ Tryd.func16 (by kernel_rfl) rfl #[.slice A0 l0.length c0] (by rfl) rfl rfl (by (try simp only [List.map_toArray, List.map_cons, List.map_nil]); first | done | rfl | (simp only [List.length_drop, List.length_take]; rfl)) ?_
                                      with_reducible refine (rhizomelaw01_own.calls _ _ l0 t442 _ ?side1 ?side2 A39.out).mono ?_
                                      (case side1 => repeat (first | exact (Kd.C_below HR0.out HB.out) | (with_reducible refine Kd.C_alloc ?_ _) | (with_reducible refine Kd.C_drewN ?_ _) | (with_reducible refine Kd.C_drew ?_)))
                                      (case side2 => exact HC0.out)
                                      rintro e w73 ⟨v443, rfl, ho0, hb⟩
                                      refine ⟨_, rfl, ?_⟩
                                      have n0_ := Aside0.mk (Kd.R_elder' (by (with_reducible repeat (first | apply Kd.R_alloc | apply Kd.R_drewN | apply Kd.R_drew)); exact HO437.out) (Kd.R_base ho0) hb)
                                      have n1_ := Aside0.mk (Kd.R_elder' (by (with_reducible repeat (first | apply Kd.R_alloc | apply Kd.R_drewN | apply Kd.R_drew)); exact HO440.out) (Kd.R_base ho0) hb)
                                      have n2_ := Aside0.mk (Kd.R_lower (Kd.R_newB (Kd.R_new' (Kd.R_new' ho0 (Kd.R_lt (by (with_reducible repeat (first | apply Kd.R_alloc | apply Kd.R_drewN | apply Kd.R_drew)); exact HO437.out))) (Kd.R_lt (by (with_reducible repeat (first | apply Kd.R_alloc | apply Kd.R_drewN | apply Kd.R_drew)); exact HO440.out))) (g := gb431) (o := .cells #[.bool ((rd_T31 l2 x45_3).f0), .string ((rd_T31 l2 x45_3).f1), .int .i64 ((rd_T31 l2 x45_3).f2)] 31 (0, 0)) (by (with_reducible repeat (first | refine blk_drewN ?_ _ | refine blk_drew ?_ | refine blk_alloc ?_ _)); exact BK431.out)) (below_size (by repeat (first | (with_reducible first | exact HB.out | apply below_alloc | apply pw_below_drewN | apply below_drew1 | refine below_set ?_ GE431.out) | exact HB.out))))
                                      have n3_ := Aside0.mk (blk_below (g := gb431) (o := .cells #[.bool ((rd_T31 l2 x45_3).f0), .string ((rd_T31 l2 x45_3).f1), .int .i64 ((rd_T31 l2 x45_3).f2)] 31 (0, 0)) (by (with_reducible repeat (first | refine blk_drewN ?_ _ | refine blk_drew ?_ | refine blk_alloc ?_ _)); exact BK431.out) hb)
                                      have n4_ := Aside0.mk (below_step (by repeat (first | (with_reducible first | exact HB.out | apply below_alloc | apply pw_below_drewN | apply below_drew1 | refine below_set ?_ GE431.out) | exact HB.out)) hb)
                                      clear HO437
                                      clear HO440
                                      clear BK431
                                      clear HB
                                      have HO437 := n0_
                                      have HO440 := n1_
                                      have HO444 := n2_
                                      have BK431 := n3_
                                      have HB := n4_
                                      clear n0_ n1_ n2_ n3_ n4_
                                      (try clear hb)
                                      (try clear hb2)
                                      (try clear hk)
                                      (try clear hi)
                                      (try clear ho0)
                                      refine hK.out _ _ ⟨(blk_cell BK431.out 0).trans rfl, (blk_cell BK431.out 1).trans rfl, (blk_cell BK431.out 2).trans rfl⟩ (fun hHeld => ?_)
                                      clear hK K
                                      refine norm_ (a' := ?_) ?_ ?_
                                      rotate_left
                                      · show Act.put _ (some 59) _ = _
                                        simp only [Act.put, List.setIfInBounds_toArray, List.set_cons_zero, List.set_cons_succ, i64_w, i32_w]
                                        rfl
                                      refine one_ (i := 12) (N := some 61) #[true, true, true, true, true, true, true, true, true, true, true, true, true, false, true, false, false, false] rfl rfl (one_of HT_.out (by kernel_rfl)) (by decide) (fun K hK => ?_)
                                      refine Kd.R_lit_step k31 _ 31 ?hg (N := 61) ?hd (xs := ([(⟨(rd_T31 l2 x45_3).f0, (rd_T31 l2 x45_3).f1, (rd_T31 l2 x45_3).f2⟩ : S31)] : List (S31))) (inner := [.bool ((rd_T31 l2 x45_3).f0), .string ((rd_T31 l2 x45_3).f1), .int .i64 ((rd_T31 l2 x45_3).f2)]) (ok := fun _ => True) (okp := fun _ => True) ?hr ?hp (fun _ hk => hk) trivial (Below.refl _ _) (Nat.le_refl _) (by simp) ?_; (case hd => rfl); (case hg => rfl); (case hr => first | (go_simp; done) | (go_simp; rfl)); (case hp => exact (Reps.c3 (show Kd.M k31 _ _ _ (⟨(rd_T31 l2 x45_3).f0, (rd_T31 l2 x45_3).f1, (rd_T31 l2 x45_3).f2⟩ : S31) [.bool ((rd_T31 l2 x45_3).f0), .string ((rd_T31 l2 x45_3).f1), .int .i64 ((rd_T31 l2 x45_3).f2)] from (k31_mkM _ _ _ (⟨(rd_T31 l2 x45_3).f0, (rd_T31 l2 x45_3).f1, (rd_T31 l2 x45_3).f2⟩ : S31) )) (Reps.none _ _)))
                                      intro v446 w74 ho75 hb hg_ hnew_
                                      clear hg_ hnew_
                                      (first | rw [← Ny445.out] at ho75 | (simp only [Int.reduceToNat] at ho75; rw [← Ny445.out] at ho75))
                                      have n0_ := Aside0.mk (Kd.R_elder' (by (with_reducible repeat (first | apply Kd.R_alloc | apply Kd.R_drewN | apply Kd.R_drew)); exact HO437.out) (Kd.R_base ho75) hb)
                                      have n1_ := Aside0.mk (Kd.R_elder' (by (with_reducible repeat (first | apply Kd.R_alloc | apply Kd.R_drewN | apply Kd.R_drew)); exact HO440.out) (Kd.R_base ho75) hb)
                                      have n2_ := Aside0.mk (Kd.R_elder' (by (with_reducible repeat (first | apply Kd.R_alloc | apply Kd.R_drewN | apply Kd.R_drew)); exact HO444.out) (Kd.R_base ho75) hb)
                                      have n3_ := Aside0.mk (Kd.R_lower (Kd.R_newB (Kd.R_new' (Kd.R_new' (Kd.R_new' ho75 (Kd.R_lt (by (with_reducible repeat (first | apply Kd.R_alloc | apply Kd.R_drewN | apply Kd.R_drew)); exact HO437.out))) (Kd.R_lt (by (with_reducible repeat (first | apply Kd.R_alloc | apply Kd.R_drewN | apply Kd.R_drew)); exact HO440.out))) (Kd.R_lt (by (with_reducible repeat (first | apply Kd.R_alloc | apply Kd.R_drewN | apply Kd.R_drew)); exact HO444.out))) (g := gb431) (o := .cells #[.bool ((rd_T31 l2 x45_3).f0), .string ((rd_T31 l2 x45_3).f1), .int .i64 ((rd_T31 l2 x45_3).f2)] 31 (0, 0)) (by (with_reducible repeat (first | refine blk_drewN ?_ _ | refine blk_drew ?_ | refine blk_alloc ?_ _)); exact BK431.out)) (below_size (by repeat (first | (with_reducible first | exact HB.out | apply below_alloc | apply pw_below_drewN | apply below_drew1 | refine below_set ?_ GE431.out) | exact HB.out))))
                                      have n4_ := Aside0.mk (blk_below (g := gb431) (o := .cells #[.bool ((rd_T31 l2 x45_3).f0), .string ((rd_T31 l2 x45_3).f1), .int .i64 ((rd_T31 l2 x45_3).f2)] 31 (0, 0)) (by (with_reducible repeat (first | refine blk_drewN ?_ _ | refine blk_drew ?_ | refine blk_alloc ?_ _)); exact BK431.out) hb)
                                      have n5_ := Aside0.mk (below_step (by repeat (first | (with_reducible first | exact HB.out | apply below_alloc | apply pw_below_drewN | apply below_drew1 | refine below_set ?_ GE431.out) | exact HB.out)) hb)
                                      clear HO437
                                      clear HO440
                                      clear HO444
                                      clear BK431
                                      clear HB
                                      have HO437 := n0_
                                      have HO440 := n1_
                                      have HO444 := n2_
                                      have HO447 := n3_
                                      have BK431 := n4_
                                      have HB := n5_
                                      clear n0_ n1_ n2_ n3_ n4_ n5_
                                      clear hb ho75
                                      refine hK.out _ _ ⟨(blk_cell BK431.out 0).trans rfl, (blk_cell BK431.out 1).trans rfl, (blk_cell BK431.out 2).trans rfl⟩ (fun hHeld => ?_)
                                      clear hK K
                                      refine norm_ (a' := ?_) ?_ ?_
                                      rotate_left
                                      · show Act.put _ (some 61) _ = _
                                        simp only [Act.put, List.setIfInBounds_toArray, List.set_cons_zero, List.set_cons_succ, i64_w, i32_w]
                                        rfl
                                      exact norm_ (by first | (simp only [putAll, Act.put, List.setIfInBounds_toArray, List.set_cons_zero, List.set_cons_succ]; done) | (simp only [putAll, Act.put, List.setIfInBounds_toArray, List.set_cons_zero, List.set_cons_succ]; rfl)) (hCont (v433, .slice Ao70 y435.length co70, .slice Ao71 y438.length co71, v443, v446) _ ⟨hHeld, (by (with_reducible repeat (first | apply Kd.R_alloc | apply Kd.R_drewN | apply Kd.R_drew)); exact Kd.R_mono HO437.out (fun _ hk => ⟨hk.1.1.2, ⟨hk.1.2, ⟨hk.2, hk.1.1.1⟩⟩⟩)), (by (with_reducible repeat (first | apply Kd.R_alloc | apply Kd.R_drewN | apply Kd.R_drew)); exact Kd.R_mono HO440.out (fun _ hk => ⟨hk.1.1.1, ⟨hk.1.2, ⟨hk.2, hk.1.1.2⟩⟩⟩)), (by (with_reducible repeat (first | apply Kd.R_alloc | apply Kd.R_drewN | apply Kd.R_drew)); exact Kd.R_mono HO444.out (fun _ hk => ⟨hk.1.1.1.2, ⟨hk.1.1.2, ⟨hk.2, hk.1.2⟩⟩⟩)), (by (with_reducible repeat (first | apply Kd.R_alloc | apply Kd.R_drewN | apply Kd.R_drew)); exact Kd.R_mono HO447.out (fun _ hk => ⟨hk.1.1.1.2, ⟨hk.1.1.2, ⟨hk.1.2, hk.2⟩⟩⟩)), (by (with_reducible repeat (first | refine blk_drewN ?_ _ | refine blk_drew ?_ | refine blk_alloc ?_ _)); exact BK431.out), (by repeat (first | (with_reducible first | exact HB.out | apply below_alloc | apply pw_below_drewN | apply below_drew1 | refine below_set ?_ GE431.out) | exact HB.out))⟩)
                                    · skip
                                      refine Kd.R_lit_step k31 _ 31 ?hg (N := 61) ?hd (xs := ([(⟨(rd_T31 l2 x45_3).f0, (rd_T31 l2 x45_3).f1, (rd_T31 l2 x45_3).f2⟩ : S31)] : List (S31))) (inner := [.bool ((rd_T31 l2 x45_3).f0), .string ((rd_T31 l2 x45_3).f1), .int .i64 ((rd_T31 l2 x45_3).f2)]) (ok := fun _ => True) (okp := fun _ => True) ?hr ?hp (fun _ hk => hk) trivial (Below.refl _ _) (Nat.le_refl _) (by simp) ?_; (case hd => rfl); (case hg => rfl); (case hr => first | (go_simp; done) | (go_simp; rfl)); (case hp => exact (Reps.c3 (show Kd.M k31 _ _ _ (⟨(rd_T31 l2 x45_3).f0, (rd_T31 l2 x45_3).f1, (rd_T31 l2 x45_3).f2⟩ : S31) [.bool ((rd_T31 l2 x45_3).f0), .string ((rd_T31 l2 x45_3).f1), .int .i64 ((rd_T31 l2 x45_3).f2)] from (k31_mkM _ _ _ (⟨(rd_T31 l2 x45_3).f0, (rd_T31 l2 x45_3).f1, (rd_T31 l2 x45_3).f2⟩ : S31) )) (Reps.none _ _)))
                                      intro v446 w73 ho74 hb hg_ hnew_
                                      clear hg_ hnew_
                                      (first | rw [← Ny445.out] at ho74 | (simp only [Int.reduceToNat] at ho74; rw [← Ny445.out] at ho74))
                                      have n0_ := Aside0.mk (Kd.R_elder' (by (with_reducible repeat (first | apply Kd.R_alloc | apply Kd.R_drewN | apply Kd.R_drew)); exact HO437.out) (Kd.R_base ho74) hb)
                                      have n1_ := Aside0.mk (Kd.R_elder' (by (with_reducible repeat (first | apply Kd.R_alloc | apply Kd.R_drewN | apply Kd.R_drew)); exact HO440.out) (Kd.R_base ho74) hb)
                                      have n2_ := Aside0.mk (Kd.R_lower (Kd.R_newB (Kd.R_new' (Kd.R_new' ho74 (Kd.R_lt (by (with_reducible repeat (first | apply Kd.R_alloc | apply Kd.R_drewN | apply Kd.R_drew)); exact HO437.out))) (Kd.R_lt (by (with_reducible repeat (first | apply Kd.R_alloc | apply Kd.R_drewN | apply Kd.R_drew)); exact HO440.out))) (g := gb431) (o := .cells #[.bool ((rd_T31 l2 x45_3).f0), .string ((rd_T31 l2 x45_3).f1), .int .i64 ((rd_T31 l2 x45_3).f2)] 31 (0, 0)) (by (with_reducible repeat (first | refine blk_drewN ?_ _ | refine blk_drew ?_ | refine blk_alloc ?_ _)); exact BK431.out)) (below_size (by repeat (first | (with_reducible first | exact HB.out | apply below_alloc | apply pw_below_drewN | apply below_drew1 | refine below_set ?_ GE431.out) | exact HB.out))))
                                      have n3_ := Aside0.mk (blk_below (g := gb431) (o := .cells #[.bool ((rd_T31 l2 x45_3).f0), .string ((rd_T31 l2 x45_3).f1), .int .i64 ((rd_T31 l2 x45_3).f2)] 31 (0, 0)) (by (with_reducible repeat (first | refine blk_drewN ?_ _ | refine blk_drew ?_ | refine blk_alloc ?_ _)); exact BK431.out) hb)
                                      have n4_ := Aside0.mk (below_step (by repeat (first | (with_reducible first | exact HB.out | apply below_alloc | apply pw_below_drewN | apply below_drew1 | refine below_set ?_ GE431.out) | exact HB.out)) hb)
                                      clear HO437
                                      clear HO440
                                      clear BK431
                                      clear HB
                                      have HO437 := n0_
                                      have HO440 := n1_
                                      have HO447 := n2_
                                      have BK431 := n3_
                                      have HB := n4_
                                      clear n0_ n1_ n2_ n3_ n4_
                                      clear hb ho74
                                      refine hK.out _ _ ⟨(blk_cell BK431.out 0).trans rfl, (blk_cell BK431.out 1).trans rfl, (blk_cell BK431.out 2).trans rfl⟩ (fun hHeld => ?_)
                                      clear hK K
                                      refine norm_ (a' := ?_) ?_ ?_
                                      rotate_left
                                      · show Act.put _ (some 61) _ = _
                                        simp only [Act.put, List.setIfInBounds_toArray, List.set_cons_zero, List.set_cons_succ, i64_w, i32_w]
                                        rfl
                                      refine one_ (i := 10) (N := some 59) #[true, true, true, true, true, true, true, true, true, true, true, true, true, false, true, false, false, false] rfl rfl (one_of HT_.out (by kernel_rfl)) (by decide) (fun K hK => ?_)
                                      refine goes_ Tryd.func16 (by kernel_rfl) rfl #[.slice A0 l0.length c0] (by rfl) rfl rfl (by (try simp only [List.map_toArray, List.map_cons, List.map_nil]); first | done | rfl | (simp only [List.length_drop, List.length_take]; rfl)) ?_
                                      with_reducible refine (rhizomelaw01_own.calls _ _ l0 t442 _ ?side1 ?side2 A39.out).mono ?_
                                      (case side1 => repeat (first | exact (Kd.C_below HR0.out HB.out) | (with_reducible refine Kd.C_alloc ?_ _) | (with_reducible refine Kd.C_drewN ?_ _) | (with_reducible refine Kd.C_drew ?_)))
                                      (case side2 => exact HC0.out)
                                      rintro e w75 ⟨v443, rfl, ho0, hb⟩
                                      refine ⟨_, rfl, ?_⟩
                                      have n0_ := Aside0.mk (Kd.R_elder' (by (with_reducible repeat (first | apply Kd.R_alloc | apply Kd.R_drewN | apply Kd.R_drew)); exact HO437.out) (Kd.R_base ho0) hb)
                                      have n1_ := Aside0.mk (Kd.R_elder' (by (with_reducible repeat (first | apply Kd.R_alloc | apply Kd.R_drewN | apply Kd.R_drew)); exact HO440.out) (Kd.R_base ho0) hb)
                                      have n2_ := Aside0.mk (Kd.R_elder' (by (with_reducible repeat (first | apply Kd.R_alloc | apply Kd.R_drewN | apply Kd.R_drew)); exact HO447.out) (Kd.R_base ho0) hb)
                                      have n3_ := Aside0.mk (Kd.R_lower (Kd.R_newB (Kd.R_new' (Kd.R_new' (Kd.R_new' ho0 (Kd.R_lt (by (with_reducible repeat (first | apply Kd.R_alloc | apply Kd.R_drewN | apply Kd.R_drew)); exact HO437.out))) (Kd.R_lt (by (with_reducible repeat (first | apply Kd.R_alloc | apply Kd.R_drewN | apply Kd.R_drew)); exact HO440.out))) (Kd.R_lt (by (with_reducible repeat (first | apply Kd.R_alloc | apply Kd.R_drewN | apply Kd.R_drew)); exact HO447.out))) (g := gb431) (o := .cells #[.bool ((rd_T31 l2 x45_3).f0), .string ((rd_T31 l2 x45_3).f1), .int .i64 ((rd_T31 l2 x45_3).f2)] 31 (0, 0)) (by (with_reducible repeat (first | refine blk_drewN ?_ _ | refine blk_drew ?_ | refine blk_alloc ?_ _)); exact BK431.out)) (below_size (by repeat (first | (with_reducible first | exact HB.out | apply below_alloc | apply pw_below_drewN | apply below_drew1 | refine below_set ?_ GE431.out) | exact HB.out))))
                                      have n4_ := Aside0.mk (blk_below (g := gb431) (o := .cells #[.bool ((rd_T31 l2 x45_3).f0), .string ((rd_T31 l2 x45_3).f1), .int .i64 ((rd_T31 l2 x45_3).f2)] 31 (0, 0)) (by (with_reducible repeat (first | refine blk_drewN ?_ _ | refine blk_drew ?_ | refine blk_alloc ?_ _)); exact BK431.out) hb)
                                      have n5_ := Aside0.mk (below_step (by repeat (first | (with_reducible first | exact HB.out | apply below_alloc | apply pw_below_drewN | apply below_drew1 | refine below_set ?_ GE431.out) | exact HB.out)) hb)
                                      clear HO437
                                      clear HO440
                                      clear HO447
                                      clear BK431
                                      clear HB
                                      have HO437 := n0_
                                      have HO440 := n1_
                                      have HO447 := n2_
                                      have HO444 := n3_
                                      have BK431 := n4_
                                      have HB := n5_
                                      clear n0_ n1_ n2_ n3_ n4_ n5_
                                      (try clear hb)
                                      (try clear hb2)
                                      (try clear hk)
                                      (try clear hi)
                                      (try clear ho0)
                                      refine hK.out _ _ ⟨(blk_cell BK431.out 0).trans rfl, (blk_cell BK431.out 1).trans rfl, (blk_cell BK431.out 2).trans rfl⟩ (fun hHeld => ?_)
                                      clear hK K
                                      refine norm_ (a' := ?_) ?_ ?_
                                      rotate_left
                                      · show Act.put _ (some 59) _ = _
                                        simp only [Act.put, List.setIfInBounds_toArray, List.set_cons_zero, List.set_cons_succ, i64_w, i32_w]
                                        rfl
                                      exact norm_ (by first | (simp only [putAll, Act.put, List.setIfInBounds_toArray, List.set_cons_zero, List.set_cons_succ]; done) | (simp only [putAll, Act.put, List.setIfInBounds_toArray, List.set_cons_zero, List.set_cons_succ]; rfl)) (hCont (v433, .slice Ao70 y435.length co70, .slice Ao71 y438.length co71, v443, v446) _ ⟨hHeld, (by (with_reducible repeat (first | apply Kd.R_alloc | apply Kd.R_drewN | apply Kd.R_drew)); exact Kd.R_mono HO437.out (fun _ hk => ⟨hk.1.1.2, ⟨hk.2, ⟨hk.1.2, hk.1.1.1⟩⟩⟩)), (by (with_reducible repeat (first | apply Kd.R_alloc | apply Kd.R_drewN | apply Kd.R_drew)); exact Kd.R_mono HO440.out (fun _ hk => ⟨hk.1.1.1, ⟨hk.2, ⟨hk.1.2, hk.1.1.2⟩⟩⟩)), (by (with_reducible repeat (first | apply Kd.R_alloc | apply Kd.R_drewN | apply Kd.R_drew)); exact Kd.R_mono HO444.out (fun _ hk => ⟨hk.1.1.1.2, ⟨hk.1.1.2, ⟨hk.1.2, hk.2⟩⟩⟩)), (by (with_reducible repeat (first | apply Kd.R_alloc | apply Kd.R_drewN | apply Kd.R_drew)); exact Kd.R_mono HO447.out (fun _ hk => ⟨hk.1.1.1.2, ⟨hk.1.1.2, ⟨hk.2, hk.1.2⟩⟩⟩)), (by (with_reducible repeat (first | refine blk_drewN ?_ _ | refine blk_drew ?_ | refine blk_alloc ?_ _)); exact BK431.out), (by repeat (first | (with_reducible first | exact HB.out | apply below_alloc | apply pw_below_drewN | apply below_drew1 | refine below_set ?_ GE431.out) | exact HB.out))⟩)
                                rintro ⟨v433, v436, v439, v443, v446⟩ w76 ⟨hS_, h0_, h1_, h2_, h3_, h4_, h5_⟩
                                have n0_ : Aside0 (Kd.R k31 31 w76 w.heap.size (fun k_ => some k_ ≠ (v439 : Value).ownBlock ∧ some k_ ≠ (v443 : Value).ownBlock ∧ some k_ ≠ (v446 : Value).ownBlock ∧ k_ ≠ gb431) v436 y435) := ⟨h0_⟩
                                have n1_ : Aside0 (Kd.R k31 31 w76 w.heap.size (fun k_ => some k_ ≠ (v436 : Value).ownBlock ∧ some k_ ≠ (v443 : Value).ownBlock ∧ some k_ ≠ (v446 : Value).ownBlock ∧ k_ ≠ gb431) v439 y438) := ⟨h1_⟩
                                have n2_ : Aside0 (Kd.R k31 31 w76 w.heap.size (fun k_ => some k_ ≠ (v436 : Value).ownBlock ∧ some k_ ≠ (v439 : Value).ownBlock ∧ some k_ ≠ (v446 : Value).ownBlock ∧ k_ ≠ gb431) v443 t442) := ⟨h2_⟩
                                have n3_ : Aside0 (Kd.R k31 31 w76 w.heap.size (fun k_ => some k_ ≠ (v436 : Value).ownBlock ∧ some k_ ≠ (v439 : Value).ownBlock ∧ some k_ ≠ (v443 : Value).ownBlock ∧ k_ ≠ gb431) v446 y445) := ⟨h3_⟩
                                have n4_ : Aside0 (w76.heap[gb431]? = some (.cells #[.bool ((rd_T31 l2 x45_3).f0), .string ((rd_T31 l2 x45_3).f1), .int .i64 ((rd_T31 l2 x45_3).f2)] 31 (0, 0))) := ⟨h4_⟩
                                have n5_ : Aside0 (Below w.heap.size w w76) := ⟨h5_⟩
                                clear BK431
                                clear HB
                                clear h0_ h1_ h2_ h3_ h4_ h5_
                                have HO437 := n0_
                                have HO440 := n1_
                                have HO444 := n2_
                                have HO447 := n3_
                                have BK431 := n4_
                                have HB := n5_
                                clear n0_ n1_ n2_ n3_ n4_ n5_
                                have hHeld : w76.cell? ⟨gb431, 0, none⟩ = some (.bool ((rd_T31 l2 x45_3).f0)) ∧ w76.cell? ⟨gb431, 1, none⟩ = some (.string ((rd_T31 l2 x45_3).f1)) ∧ w76.cell? ⟨gb431, 2, none⟩ = some (.int .i64 ((rd_T31 l2 x45_3).f2)) := hS_
                                obtain ⟨Ao78, co78, eo78⟩ := Kd.R_slice HO447.out
                                (first | subst eo78 | (injection eo78 with f1_ f2_ f3_; have f4_ := f1_.symm; have f5_ := f3_.symm; clear f1_ f2_ f3_; subst f4_; subst f5_))
                                refine norm_ (a' := ?_) ?_ ?_
                                rotate_left
                                · simp only [putAll, Act.put, List.setIfInBounds_toArray, List.set_cons_zero, List.set_cons_succ]
                                  rfl
                                refine one_ (i := 13) (N := some 62) #[true, true, true, true, true, true, true, true, true, true, true, true, true, true, true, false, false, false] rfl rfl (one_of HT_.out (by kernel_rfl)) (by decide) (fun K hK => ?_)
                                refine Kd.R_append_rows_step k31 (w0 := w) w.heap.size (by rfl) (.tmp 59) (.tmp 61) 26 31 (.agg #[(.bool false), (.string ⟨#[]⟩), (.int .i64 0)]) 32 rfl Tryd.underlying26 info31 rfl (by decide) (by omega) v443 t442 y445 _ _ _ (fun k_ => some k_ ≠ (v436 : Value).ownBlock ∧ some k_ ≠ (v439 : Value).ownBlock ∧ some k_ ≠ (.slice Ao78 y445.length co78 : Value).ownBlock ∧ k_ ≠ gb431) (fun _ => False) rfl rfl ?aO ?aR (fun _ _ h => h) (fun _ h => h.elim) ?aF ?aB ?aS ?aL ?_
                                (case aR => repeat (first | exact (Kd.R_reads' HO447.out).2.2 | (with_reducible refine Kd.C_alloc ?_ _) | (with_reducible refine Kd.C_drewN ?_ _) | (with_reducible refine Kd.C_drew ?_)))
                                (case aB => exact (by repeat (first | (with_reducible first | exact HB.out | apply below_alloc | apply pw_below_drewN | apply below_drew1 | refine below_set ?_ GE431.out) | exact HB.out)))
                                (case aF => exact (fun k_ hk => ⟨Kd.fresh' (Kd.R_lt (by (with_reducible repeat (first | apply Kd.R_alloc | apply Kd.R_drewN | apply Kd.R_drew)); exact HO437.out)) k_ hk, Kd.fresh' (Kd.R_lt (by (with_reducible repeat (first | apply Kd.R_alloc | apply Kd.R_drewN | apply Kd.R_drew)); exact HO440.out)) k_ hk, Kd.fresh' (Kd.R_lt (by (with_reducible repeat (first | apply Kd.R_alloc | apply Kd.R_drewN | apply Kd.R_drew)); exact HO447.out)) k_ hk, Kd.freshB (g := gb431) (o := .cells #[.bool ((rd_T31 l2 x45_3).f0), .string ((rd_T31 l2 x45_3).f1), .int .i64 ((rd_T31 l2 x45_3).f2)] 31 (0, 0)) (by (with_reducible repeat (first | refine blk_drewN ?_ _ | refine blk_drew ?_ | refine blk_alloc ?_ _)); exact BK431.out) k_ hk⟩))
                                (case aO => exact (by (with_reducible repeat (first | apply Kd.R_alloc | apply Kd.R_drewN | apply Kd.R_drew)); exact HO444.out))
                                (case aS => exact (below_size (by repeat (first | (with_reducible first | exact HB.out | apply below_alloc | apply pw_below_drewN | apply below_drew1 | refine below_set ?_ GE431.out) | exact HB.out))))
                                (case aL => have := LMc40.out; omega)
                                intro v449 w77 ho hb hg hat
                                rw [← Ny448.out] at ho
                                have n0_ := Aside0.mk (blk_grown (g := gb431) (o := .cells #[.bool ((rd_T31 l2 x45_3).f0), .string ((rd_T31 l2 x45_3).f1), .int .i64 ((rd_T31 l2 x45_3).f2)] 31 (0, 0)) (by (with_reducible repeat (first | refine blk_drewN ?_ _ | refine blk_drew ?_ | refine blk_alloc ?_ _)); exact BK431.out) hg (Kd.R_away HO444.out (fun _ hk => hk.2.2.2)))
                                have n1_ := Aside0.mk (Kd.R_after (ok := (fun k_ => some k_ ≠ (v439 : Value).ownBlock ∧ some k_ ≠ (.slice Ao78 y445.length co78 : Value).ownBlock ∧ k_ ≠ gb431)) (by (with_reducible repeat (first | apply Kd.R_alloc | apply Kd.R_drewN | apply Kd.R_drew)); exact Kd.R_mono HO437.out (fun _ hk => ⟨⟨hk.1, ⟨hk.2.2.1, hk.2.2.2⟩⟩, hk.2.1⟩)) hg hat)
                                have n2_ := Aside0.mk (Kd.R_after (ok := (fun k_ => some k_ ≠ (v436 : Value).ownBlock ∧ some k_ ≠ (.slice Ao78 y445.length co78 : Value).ownBlock ∧ k_ ≠ gb431)) (by (with_reducible repeat (first | apply Kd.R_alloc | apply Kd.R_drewN | apply Kd.R_drew)); exact Kd.R_mono HO440.out (fun _ hk => ⟨⟨hk.1, ⟨hk.2.2.1, hk.2.2.2⟩⟩, hk.2.1⟩)) hg hat)
                                have n3_ := Aside0.mk (Kd.R_after (ok := (fun k_ => some k_ ≠ (v436 : Value).ownBlock ∧ some k_ ≠ (v439 : Value).ownBlock ∧ k_ ≠ gb431)) (by (with_reducible repeat (first | apply Kd.R_alloc | apply Kd.R_drewN | apply Kd.R_drew)); exact Kd.R_mono HO447.out (fun _ hk => ⟨⟨hk.1, ⟨hk.2.1, hk.2.2.2⟩⟩, hk.2.2.1⟩)) hg hat)
                                have n4_ := Aside0.mk (hb)
                                have n5_ := Aside0.mk (ho)
                                clear BK431
                                clear HO437
                                clear HO440
                                clear HO447
                                clear HB
                                clear HO444
                                have BK431 := n0_
                                have HO437 := n1_
                                have HO440 := n2_
                                have HO447 := n3_
                                have HB := n4_
                                have HO450 := n5_
                                clear n0_ n1_ n2_ n3_ n4_ n5_
                                clear ho hb hg hat
                                obtain ⟨Ao79, co79, eo79⟩ := Kd.R_slice HO450.out
                                (first | subst eo79 | (injection eo79 with f1_ f2_ f3_; have f4_ := f1_.symm; have f5_ := f3_.symm; clear f1_ f2_ f3_; subst f4_; subst f5_))
                                refine hK.out _ _ ⟨(blk_cell BK431.out 0).trans rfl, (blk_cell BK431.out 1).trans rfl, (blk_cell BK431.out 2).trans rfl⟩ (fun hHeld => ?_)
                                clear hK K
                                refine norm_ (a' := ?_) ?_ ?_
                                rotate_left
                                · show Act.put _ (some 62) _ = _
                                  simp only [Act.put, List.setIfInBounds_toArray, List.set_cons_zero, List.set_cons_succ, i64_w, i32_w]
                                  rfl
                                refine one_ (i := 15) (N := some 64) #[true, true, true, true, true, true, true, true, true, true, true, true, true, true, true, true, false, false] rfl rfl (one_of HT_.out (by kernel_rfl)) (by decide) (fun K hK => ?_)
                                refine goes_ Tryd.func25 (by kernel_rfl) rfl #[.slice Ao79 y448.length co79, .slice A0 l0.length c0] (by rfl) rfl rfl (by (try simp only [List.map_toArray, List.map_cons, List.map_nil]); first | done | rfl | (simp only [List.length_drop, List.length_take]; rfl)) ?_
                                with_reducible refine (key_Cmp.calls _ _ y448 _ _ l0 t451 _ ?side1 ?side2 ?side3 ?side4 A41.out).mono ?_
                                (case side1 => repeat (first | exact (Kd.R_reads' HO450.out).2.2 | (with_reducible refine Kd.C_alloc ?_ _) | (with_reducible refine Kd.C_drewN ?_ _) | (with_reducible refine Kd.C_drew ?_)))
                                (case side2 => exact (Kd.R_reads' HO450.out).2.1)
                                (case side3 => repeat (first | exact (Kd.C_below HR0.out HB.out) | (with_reducible refine Kd.C_alloc ?_ _) | (with_reducible refine Kd.C_drewN ?_ _) | (with_reducible refine Kd.C_drew ?_)))
                                (case side4 => exact HC0.out)
                                rintro e w80 ⟨rfl, hb⟩
                                refine ⟨_, rfl, ?_⟩
                                have n0_ := Aside0.mk (Kd.R_below (by (with_reducible repeat (first | apply Kd.R_alloc | apply Kd.R_drewN | apply Kd.R_drew)); exact HO437.out) hb)
                                have n1_ := Aside0.mk (Kd.R_below (by (with_reducible repeat (first | apply Kd.R_alloc | apply Kd.R_drewN | apply Kd.R_drew)); exact HO440.out) hb)
                                have n2_ := Aside0.mk (Kd.R_below (by (with_reducible repeat (first | apply Kd.R_alloc | apply Kd.R_drewN | apply Kd.R_drew)); exact HO447.out) hb)
                                have n3_ := Aside0.mk (Kd.R_below (by (with_reducible repeat (first | apply Kd.R_alloc | apply Kd.R_drewN | apply Kd.R_drew)); exact HO450.out) hb)
                                have n4_ := Aside0.mk (blk_below (g := gb431) (o := .cells #[.bool ((rd_T31 l2 x45_3).f0), .string ((rd_T31 l2 x45_3).f1), .int .i64 ((rd_T31 l2 x45_3).f2)] 31 (0, 0)) (by (with_reducible repeat (first | refine blk_drewN ?_ _ | refine blk_drew ?_ | refine blk_alloc ?_ _)); exact BK431.out) hb)
                                have n5_ := Aside0.mk (below_step (by repeat (first | (with_reducible first | exact HB.out | apply below_alloc | apply pw_below_drewN | apply below_drew1 | refine below_set ?_ GE431.out) | exact HB.out)) hb)
                                clear HO437
                                clear HO440
                                clear HO447
                                clear HO450
                                clear BK431
                                clear HB
                                have HO437 := n0_
                                have HO440 := n1_
                                have HO447 := n2_
                                have HO450 := n3_
                                have BK431 := n4_
                                have HB := n5_
                                clear n0_ n1_ n2_ n3_ n4_ n5_
                                (try clear hb)
                                (try clear hb2)
                                (try clear hk)
                                (try clear hi)
                                refine hK.out _ _ ⟨(blk_cell BK431.out 0).trans rfl, (blk_cell BK431.out 1).trans rfl, (blk_cell BK431.out 2).trans rfl⟩ (fun hHeld => ?_)
                                clear hK K
                                refine norm_ (a' := ?_) ?_ ?_
                                rotate_left
                                · show Act.put _ (some 64) _ = _
                                  simp only [Act.put, List.setIfInBounds_toArray, List.set_cons_zero, List.set_cons_succ, i64_w, i32_w]
                                  rfl
                                refine pure_ (i := 16) (N := some 65) (v := ?_) (a' := ?_) #[true, true, true, true, true, true, true, true, true, true, true, true, true, true, true, true, true, false] rfl rfl (any_of HT_.out (by kernel_rfl)) (fun _ _ _ h => h) (Or.inl ⟨by rfl, ?_⟩) ?_ ?_
                                rotate_left
                                · intro w'
                                  go_simp
                                  with_reducible rfl
                                rotate_left
                                · simp only [Act.put, List.setIfInBounds_toArray, List.set_cons_zero, List.set_cons_succ, i64_w, i32_w]
                                  rfl
                                refine pure_ (i := 17) (N := some 66) (v := ?_) (a' := ?_) #[true, true, true, true, true, true, true, true, true, true, true, true, true, true, true, true, true, true] rfl rfl (any_of HT_.out (by kernel_rfl)) (fun _ _ _ h => h) (Or.inl ⟨by rfl, ?_⟩) ?_ ?_
                                rotate_left
                                · intro w'
                                  go_simp
                                  with_reducible rfl
                                rotate_left
                                · simp only [Act.put, List.setIfInBounds_toArray, List.set_cons_zero, List.set_cons_succ, i64_w, i32_w]
                                  rfl
                                refine done_ (done_of HT_.out (by kernel_rfl)) ?_
                                try go_wp2
                                go_ret
                                exact ⟨by first | rfl | (simp [errW_none, errW_some] <;> rfl) | (simp [*, errW_none, errW_some] <;> rfl), by repeat (first | (with_reducible first | exact HB.out | apply below_alloc | apply pw_below_drewN | apply below_drew1 | refine below_set ?_ GE431.out) | exact HB.out)⟩
                            · rw [if_neg c40] at H
                              exact absurd H (by simp)
                          · rw [if_neg c38] at H
                            have c38b0 : (t441 == (-1)) = false := beq_eq_false_iff_ne.mpr c38
                            have c38b1 : (t441 != (-1)) = true := bne_iff_ne.mpr c38
                            obtain rfl := Option.some.inj H
                            have p430 : 0 ≤ (x45_3 : Int) := of_decide_eq_true (by first | (with_reducible assumption) | assumption)
                            have q430 : x45_3 < (l2.length : Int) := of_decide_eq_true (by first | (with_reducible assumption) | assumption)
                            obtain ⟨ad430, e430, hx430_0, hx430_1, hx430_2⟩ := at_T31 HR2.out x45_3 p430 q430
                            cases e430
                            replace hx430_0 := (HB.out.cell (World.block_lt_of_cell? w _ hx430_0)).trans hx430_0
                            replace hx430_1 := (HB.out.cell (World.block_lt_of_cell? w _ hx430_1)).trans hx430_1
                            replace hx430_2 := (HB.out.cell (World.block_lt_of_cell? w _ hx430_2)).trans hx430_2
                            replace p430 := eq_true p430
                            replace q430 := eq_true q430
                            try go_wp2_with (first | ((with_reducible refine gate_dst (N := 8) rfl ?_); (try (refine gate_guard (by rfl) ?_; dsimp only)); refine box_event ?hg (N := 8) ?hd (cs := #[.bool false, .string (⟨#[]⟩ : ByteArray), .int .i64 0]) (t := 31) ?hr ?_; (case hd => rfl); (case hg => rfl); (case hr => first | (go_simp; done) | (go_simp; rfl)); intro gb431 hg w81 hbox hb; have n0_ := Aside0.mk (below_step (by repeat (first | (with_reducible first | exact HB.out | apply below_alloc | apply pw_below_drewN | apply below_drew1) | exact HB.out)) hb); have n1_ := Aside0.mk (hbox); have n2_ := Aside0.mk ((by rw [hg]; exact (below_size (by repeat (first | (with_reducible first | exact HB.out | apply below_alloc | apply pw_below_drewN | apply below_drew1) | exact HB.out))) : w.heap.size ≤ gb431)); have n3_ := Aside0.mk ((by rw [hg]; exact (below_size (by repeat (first | (with_reducible first | exact HB.out | apply below_alloc | apply pw_below_drewN | apply below_drew1) | exact HB.out))) : w.heap.size ≤ gb431)); clear HB; have HB := n0_; have BK431 := n1_; have GW431 := n2_; have GE431 := n3_; clear n0_ n1_ n2_ n3_; clear hb hbox hg; have hcz82_0 : w81.cell? ⟨gb431, 0, none⟩ = some (.bool false) := (blk_cell BK431.out 0).trans rfl; have hcz82_1 : w81.cell? ⟨gb431, 1, none⟩ = some (.string (⟨#[]⟩ : ByteArray)) := (blk_cell BK431.out 1).trans rfl; have hcz82_2 : w81.cell? ⟨gb431, 2, none⟩ = some (.int .i64 0) := (blk_cell BK431.out 2).trans rfl; have hfz82_0 := blk_frozen BK431.out 0; have hfz82_1 := blk_frozen BK431.out 1; have hfz82_2 := blk_frozen BK431.out 2))
                            have n0_ : Aside0 ((((w81.setCell ⟨gb431, 0, none⟩ (.bool ((rd_T31 l2 x45_3).f0))).setCell ⟨gb431, 1, none⟩ (.string ((rd_T31 l2 x45_3).f1))).setCell ⟨gb431, 2, none⟩ (.int .i64 ((rd_T31 l2 x45_3).f2))).heap[gb431]? = some (.cells #[.bool ((rd_T31 l2 x45_3).f0), .string ((rd_T31 l2 x45_3).f1), .int .i64 ((rd_T31 l2 x45_3).f2)] 31 (0, 0))) := ⟨by (with_reducible repeat (first | refine blk_drewN ?_ _ | refine blk_drew ?_ | refine blk_alloc ?_ _)); refine blk_put (cs := #[.bool ((rd_T31 l2 x45_3).f0), .string ((rd_T31 l2 x45_3).f1), .int .i64 0]) ?_ 2 _ rfl; (with_reducible repeat (first | refine blk_drewN ?_ _ | refine blk_drew ?_ | refine blk_alloc ?_ _)); refine blk_put (cs := #[.bool ((rd_T31 l2 x45_3).f0), .string (⟨#[]⟩ : ByteArray), .int .i64 0]) ?_ 1 _ rfl; (with_reducible repeat (first | refine blk_drewN ?_ _ | refine blk_drew ?_ | refine blk_alloc ?_ _)); refine blk_put (cs := #[.bool false, .string (⟨#[]⟩ : ByteArray), .int .i64 0]) ?_ 0 _ rfl; (with_reducible repeat (first | refine blk_drewN ?_ _ | refine blk_drew ?_ | refine blk_alloc ?_ _)); exact BK431.out⟩
                            have n1_ : Aside0 (Below w.heap.size w (((w81.setCell ⟨gb431, 0, none⟩ (.bool ((rd_T31 l2 x45_3).f0))).setCell ⟨gb431, 1, none⟩ (.string ((rd_T31 l2 x45_3).f1))).setCell ⟨gb431, 2, none⟩ (.int .i64 ((rd_T31 l2 x45_3).f2)))) := ⟨by repeat (first | (with_reducible first | exact HB.out | apply below_alloc | apply pw_below_drewN | apply below_drew1 | refine below_set ?_ GE431.out) | exact HB.out)⟩
                            (try clear BK431)
                            (try clear HB)
                            generalize (((w81.setCell ⟨gb431, 0, none⟩ (.bool ((rd_T31 l2 x45_3).f0))).setCell ⟨gb431, 1, none⟩ (.string ((rd_T31 l2 x45_3).f1))).setCell ⟨gb431, 2, none⟩ (.int .i64 ((rd_T31 l2 x45_3).f2))) = w83 at n0_ n1_ ⊢
                            have BK431 := n0_
                            have HB := n1_
                            clear n0_ n1_
                            have n0_ := Aside0.mk (blk_drew BK431.out)
                            have n1_ := Aside0.mk (below_drew1 HB.out)
                            clear BK431
                            clear HB
                            have BK431 := n0_
                            have HB := n1_
                            clear n0_ n1_
                            refine start_ (n := 18) (S := fun w' => w'.cell? ⟨gb431, 0, none⟩ = some (.bool ((rd_T31 l2 x45_3).f0)) ∧ w'.cell? ⟨gb431, 1, none⟩ = some (.string ((rd_T31 l2 x45_3).f1)) ∧ w'.cell? ⟨gb431, 2, none⟩ = some (.int .i64 ((rd_T31 l2 x45_3).f2))) (ds := []) #[false, false, false, false, false, false, false, false, false, false, false, false, false, false, false, false, false, false] (by kernel_rfl) rfl rfl ⟨(blk_cell BK431.out 0).trans rfl, (blk_cell BK431.out 1).trans rfl, (blk_cell BK431.out 2).trans rfl⟩ (fun hHeld => ?_); refine with_tabW rhizomelaw01_KeyThree.tab8 rhizomelaw01_KeyThree.bits8 (fun HT_ HW_ => ?_)
                            generalize w83.drew = w84 at BK431 HB hHeld ⊢
                            refine pure_ (i := 0) (N := some 49) (v := ?_) (a' := ?_) #[true, false, false, false, false, false, false, false, false, false, false, false, false, false, false, false, false, false] rfl rfl (any_of HT_.out (by kernel_rfl)) (fun _ _ _ h => h) (Or.inl ⟨by rfl, ?_⟩) ?_ ?_
                            rotate_left
                            · intro w'
                              go_simp
                              with_reducible rfl
                            rotate_left
                            · simp only [Act.put, List.setIfInBounds_toArray, List.set_cons_zero, List.set_cons_succ, i64_w, i32_w]
                              rfl
                            refine pure_ (i := 1) (N := some 50) (v := ?_) (a' := ?_) #[true, true, false, false, false, false, false, false, false, false, false, false, false, false, false, false, false, false] rfl rfl (any_of HT_.out (by kernel_rfl)) (fun _ _ _ h => h) (Or.inl ⟨by rfl, ?_⟩) ?_ ?_
                            rotate_left
                            · intro w'
                              go_simp
                              with_reducible rfl
                            rotate_left
                            · simp only [Act.put, List.setIfInBounds_toArray, List.set_cons_zero, List.set_cons_succ, i64_w, i32_w]
                              rfl
                            refine take_ (i := 3) (N := some 52) (v := ?_) (a' := ?_) #[true, true, false, true, false, false, false, false, false, false, false, false, false, false, false, false, false, false] rfl rfl (take_ofW HT_.out HW_.out (by kernel_rfl)) (fun _ _ _ h => h) (Or.inl ⟨by rfl, ?_⟩) hHeld ?_ ?_
                            rotate_left
                            · rintro w' ⟨s0, s1, s2⟩
                              go_simp
                              with_reducible rfl
                            rotate_left
                            · simp only [Act.put, List.setIfInBounds_toArray, List.set_cons_zero, List.set_cons_succ, i64_w, i32_w]
                              rfl
                            refine join_ (σ := Value × Value) 13 #[true, true, true, true, true, false, false, false, false, false, false, false, false, false, false, false, false, false] (fun s_ => [(51, s_.1), (53, s_.2)]) (fun s_ w' => (w'.cell? ⟨gb431, 0, none⟩ = some (.bool ((rd_T31 l2 x45_3).f0)) ∧ w'.cell? ⟨gb431, 1, none⟩ = some (.string ((rd_T31 l2 x45_3).f1)) ∧ w'.cell? ⟨gb431, 2, none⟩ = some (.int .i64 ((rd_T31 l2 x45_3).f2))) ∧ (Kd.R k31 31 w' w.heap.size (fun k_ => some k_ ≠ (s_.2 : Value).ownBlock ∧ k_ ≠ gb431) s_.1 t432) ∧ (Kd.R k31 31 w' w.heap.size (fun k_ => some k_ ≠ (s_.1 : Value).ownBlock ∧ k_ ≠ gb431) s_.2 y435) ∧ (w'.heap[gb431]? = some (.cells #[.bool ((rd_T31 l2 x45_3).f0), .string ((rd_T31 l2 x45_3).f1), .int .i64 ((rd_T31 l2 x45_3).f2)] 31 (0, 0))) ∧ (Below w.heap.size w w')) ?_ ?_
                            rotate_left
                            · intro hCont
                              refine two_ (i := 2) (j := 4) (Ni := some 51) (Nj := some 53) #[true, true, true, true, false, false, false, false, false, false, false, false, false, false, false, false, false, false] #[true, true, false, true, true, false, false, false, false, false, false, false, false, false, false, false, false, false] rfl rfl rfl rfl (two_of HT_.out (by kernel_rfl)) (by decide) (by decide) (fun K hK => ?_) (fun K hK => ?_)
                              · skip
                                refine goes_ Tryd.func16 (by kernel_rfl) rfl #[.slice A0 l0.length c0] (by rfl) rfl rfl (by (try simp only [List.map_toArray, List.map_cons, List.map_nil]); first | done | rfl | (simp only [List.length_drop, List.length_take]; rfl)) ?_
                                with_reducible refine (rhizomelaw01_own.calls _ _ l0 t432 _ ?side1 ?side2 A35.out).mono ?_
                                (case side1 => repeat (first | exact (Kd.C_below HR0.out HB.out) | (with_reducible refine Kd.C_alloc ?_ _) | (with_reducible refine Kd.C_drewN ?_ _) | (with_reducible refine Kd.C_drew ?_)))
                                (case side2 => exact HC0.out)
                                rintro e w85 ⟨v433, rfl, ho0, hb⟩
                                refine ⟨_, rfl, ?_⟩
                                have n0_ := Aside0.mk (Kd.R_lower (Kd.R_newB ho0 (g := gb431) (o := .cells #[.bool ((rd_T31 l2 x45_3).f0), .string ((rd_T31 l2 x45_3).f1), .int .i64 ((rd_T31 l2 x45_3).f2)] 31 (0, 0)) (by (with_reducible repeat (first | refine blk_drewN ?_ _ | refine blk_drew ?_ | refine blk_alloc ?_ _)); exact BK431.out)) (below_size (by repeat (first | (with_reducible first | exact HB.out | apply below_alloc | apply pw_below_drewN | apply below_drew1 | refine below_set ?_ GE431.out) | exact HB.out))))
                                have n1_ := Aside0.mk (blk_below (g := gb431) (o := .cells #[.bool ((rd_T31 l2 x45_3).f0), .string ((rd_T31 l2 x45_3).f1), .int .i64 ((rd_T31 l2 x45_3).f2)] 31 (0, 0)) (by (with_reducible repeat (first | refine blk_drewN ?_ _ | refine blk_drew ?_ | refine blk_alloc ?_ _)); exact BK431.out) hb)
                                have n2_ := Aside0.mk (below_step (by repeat (first | (with_reducible first | exact HB.out | apply below_alloc | apply pw_below_drewN | apply below_drew1 | refine below_set ?_ GE431.out) | exact HB.out)) hb)
                                clear BK431
                                clear HB
                                have HO434 := n0_
                                have BK431 := n1_
                                have HB := n2_
                                clear n0_ n1_ n2_
                                (try clear hb)
                                (try clear hb2)
                                (try clear hk)
                                (try clear hi)
                                (try clear ho0)
                                refine hK.out _ _ ⟨(blk_cell BK431.out 0).trans rfl, (blk_cell BK431.out 1).trans rfl, (blk_cell BK431.out 2).trans rfl⟩ (fun hHeld => ?_)
                                clear hK K
                                refine norm_ (a' := ?_) ?_ ?_
                                rotate_left
                                · show Act.put _ (some 51) _ = _
                                  simp only [Act.put, List.setIfInBounds_toArray, List.set_cons_zero, List.set_cons_succ, i64_w, i32_w]
                                  rfl
                                refine one_ (i := 4) (N := some 53) #[true, true, true, true, true, false, false, false, false, false, false, false, false, false, false, false, false, false] rfl rfl (one_of HT_.out (by kernel_rfl)) (by decide) (fun K hK => ?_)
                                refine Kd.R_lit_step k31 _ 31 ?hg (N := 53) ?hd (xs := ([(⟨(rd_T31 l2 x45_3).f0, (rd_T31 l2 x45_3).f1, (rd_T31 l2 x45_3).f2⟩ : S31)] : List (S31))) (inner := [.bool ((rd_T31 l2 x45_3).f0), .string ((rd_T31 l2 x45_3).f1), .int .i64 ((rd_T31 l2 x45_3).f2)]) (ok := fun _ => True) (okp := fun _ => True) ?hr ?hp (fun _ hk => hk) trivial (Below.refl _ _) (Nat.le_refl _) (by simp) ?_; (case hd => rfl); (case hg => rfl); (case hr => first | (go_simp; done) | (go_simp; rfl)); (case hp => exact (Reps.c3 (show Kd.M k31 _ _ _ (⟨(rd_T31 l2 x45_3).f0, (rd_T31 l2 x45_3).f1, (rd_T31 l2 x45_3).f2⟩ : S31) [.bool ((rd_T31 l2 x45_3).f0), .string ((rd_T31 l2 x45_3).f1), .int .i64 ((rd_T31 l2 x45_3).f2)] from (k31_mkM _ _ _ (⟨(rd_T31 l2 x45_3).f0, (rd_T31 l2 x45_3).f1, (rd_T31 l2 x45_3).f2⟩ : S31) )) (Reps.none _ _)))
                                intro v436 w86 ho87 hb hg_ hnew_
                                clear hg_ hnew_
                                (first | rw [← Ny435.out] at ho87 | (simp only [Int.reduceToNat] at ho87; rw [← Ny435.out] at ho87))
                                have n0_ := Aside0.mk (Kd.R_elder' (by (with_reducible repeat (first | apply Kd.R_alloc | apply Kd.R_drewN | apply Kd.R_drew)); exact HO434.out) (Kd.R_base ho87) hb)
                                have n1_ := Aside0.mk (Kd.R_lower (Kd.R_newB (Kd.R_new' ho87 (Kd.R_lt (by (with_reducible repeat (first | apply Kd.R_alloc | apply Kd.R_drewN | apply Kd.R_drew)); exact HO434.out))) (g := gb431) (o := .cells #[.bool ((rd_T31 l2 x45_3).f0), .string ((rd_T31 l2 x45_3).f1), .int .i64 ((rd_T31 l2 x45_3).f2)] 31 (0, 0)) (by (with_reducible repeat (first | refine blk_drewN ?_ _ | refine blk_drew ?_ | refine blk_alloc ?_ _)); exact BK431.out)) (below_size (by repeat (first | (with_reducible first | exact HB.out | apply below_alloc | apply pw_below_drewN | apply below_drew1 | refine below_set ?_ GE431.out) | exact HB.out))))
                                have n2_ := Aside0.mk (blk_below (g := gb431) (o := .cells #[.bool ((rd_T31 l2 x45_3).f0), .string ((rd_T31 l2 x45_3).f1), .int .i64 ((rd_T31 l2 x45_3).f2)] 31 (0, 0)) (by (with_reducible repeat (first | refine blk_drewN ?_ _ | refine blk_drew ?_ | refine blk_alloc ?_ _)); exact BK431.out) hb)
                                have n3_ := Aside0.mk (below_step (by repeat (first | (with_reducible first | exact HB.out | apply below_alloc | apply pw_below_drewN | apply below_drew1 | refine below_set ?_ GE431.out) | exact HB.out)) hb)
                                clear HO434
                                clear BK431
                                clear HB
                                have HO434 := n0_
                                have HO437 := n1_
                                have BK431 := n2_
                                have HB := n3_
                                clear n0_ n1_ n2_ n3_
                                clear hb ho87
                                refine hK.out _ _ ⟨(blk_cell BK431.out 0).trans rfl, (blk_cell BK431.out 1).trans rfl, (blk_cell BK431.out 2).trans rfl⟩ (fun hHeld => ?_)
                                clear hK K
                                refine norm_ (a' := ?_) ?_ ?_
                                rotate_left
                                · show Act.put _ (some 53) _ = _
                                  simp only [Act.put, List.setIfInBounds_toArray, List.set_cons_zero, List.set_cons_succ, i64_w, i32_w]
                                  rfl
                                exact norm_ (by first | (simp only [putAll, Act.put, List.setIfInBounds_toArray, List.set_cons_zero, List.set_cons_succ]; done) | (simp only [putAll, Act.put, List.setIfInBounds_toArray, List.set_cons_zero, List.set_cons_succ]; rfl)) (hCont (v433, v436) _ ⟨hHeld, (by (with_reducible repeat (first | apply Kd.R_alloc | apply Kd.R_drewN | apply Kd.R_drew)); exact Kd.R_mono HO434.out (fun _ hk => ⟨hk.2, hk.1.2⟩)), (by (with_reducible repeat (first | apply Kd.R_alloc | apply Kd.R_drewN | apply Kd.R_drew)); exact Kd.R_mono HO437.out (fun _ hk => ⟨hk.1.2, hk.2⟩)), (by (with_reducible repeat (first | refine blk_drewN ?_ _ | refine blk_drew ?_ | refine blk_alloc ?_ _)); exact BK431.out), (by repeat (first | (with_reducible first | exact HB.out | apply below_alloc | apply pw_below_drewN | apply below_drew1 | refine below_set ?_ GE431.out) | exact HB.out))⟩)
                              · skip
                                refine Kd.R_lit_step k31 _ 31 ?hg (N := 53) ?hd (xs := ([(⟨(rd_T31 l2 x45_3).f0, (rd_T31 l2 x45_3).f1, (rd_T31 l2 x45_3).f2⟩ : S31)] : List (S31))) (inner := [.bool ((rd_T31 l2 x45_3).f0), .string ((rd_T31 l2 x45_3).f1), .int .i64 ((rd_T31 l2 x45_3).f2)]) (ok := fun _ => True) (okp := fun _ => True) ?hr ?hp (fun _ hk => hk) trivial (Below.refl _ _) (Nat.le_refl _) (by simp) ?_; (case hd => rfl); (case hg => rfl); (case hr => first | (go_simp; done) | (go_simp; rfl)); (case hp => exact (Reps.c3 (show Kd.M k31 _ _ _ (⟨(rd_T31 l2 x45_3).f0, (rd_T31 l2 x45_3).f1, (rd_T31 l2 x45_3).f2⟩ : S31) [.bool ((rd_T31 l2 x45_3).f0), .string ((rd_T31 l2 x45_3).f1), .int .i64 ((rd_T31 l2 x45_3).f2)] from (k31_mkM _ _ _ (⟨(rd_T31 l2 x45_3).f0, (rd_T31 l2 x45_3).f1, (rd_T31 l2 x45_3).f2⟩ : S31) )) (Reps.none _ _)))
                                intro v436 w85 ho86 hb hg_ hnew_
                                clear hg_ hnew_
                                (first | rw [← Ny435.out] at ho86 | (simp only [Int.reduceToNat] at ho86; rw [← Ny435.out] at ho86))
                                have n0_ := Aside0.mk (Kd.R_lower (Kd.R_newB ho86 (g := gb431) (o := .cells #[.bool ((rd_T31 l2 x45_3).f0), .string ((rd_T31 l2 x45_3).f1), .int .i64 ((rd_T31 l2 x45_3).f2)] 31 (0, 0)) (by (with_reducible repeat (first | refine blk_drewN ?_ _ | refine blk_drew ?_ | refine blk_alloc ?_ _)); exact BK431.out)) (below_size (by repeat (first | (with_reducible first | exact HB.out | apply below_alloc | apply pw_below_drewN | apply below_drew1 | refine below_set ?_ GE431.out) | exact HB.out))))
                                have n1_ := Aside0.mk (blk_below (g := gb431) (o := .cells #[.bool ((rd_T31 l2 x45_3).f0), .string ((rd_T31 l2 x45_3).f1), .int .i64 ((rd_T31 l2 x45_3).f2)] 31 (0, 0)) (by (with_reducible repeat (first | refine blk_drewN ?_ _ | refine blk_drew ?_ | refine blk_alloc ?_ _)); exact BK431.out) hb)
                                have n2_ := Aside0.mk (below_step (by repeat (first | (with_reducible first | exact HB.out | apply below_alloc | apply pw_below_drewN | apply below_drew1 | refine below_set ?_ GE431.out) | exact HB.out)) hb)
                                clear BK431
                                clear HB
                                have HO437 := n0_
                                have BK431 := n1_
                                have HB := n2_
                                clear n0_ n1_ n2_
                                clear hb ho86
                                refine hK.out _ _ ⟨(blk_cell BK431.out 0).trans rfl, (blk_cell BK431.out 1).trans rfl, (blk_cell BK431.out 2).trans rfl⟩ (fun hHeld => ?_)
                                clear hK K
                                refine norm_ (a' := ?_) ?_ ?_
                                rotate_left
                                · show Act.put _ (some 53) _ = _
                                  simp only [Act.put, List.setIfInBounds_toArray, List.set_cons_zero, List.set_cons_succ, i64_w, i32_w]
                                  rfl
                                refine one_ (i := 2) (N := some 51) #[true, true, true, true, true, false, false, false, false, false, false, false, false, false, false, false, false, false] rfl rfl (one_of HT_.out (by kernel_rfl)) (by decide) (fun K hK => ?_)
                                refine goes_ Tryd.func16 (by kernel_rfl) rfl #[.slice A0 l0.length c0] (by rfl) rfl rfl (by (try simp only [List.map_toArray, List.map_cons, List.map_nil]); first | done | rfl | (simp only [List.length_drop, List.length_take]; rfl)) ?_
                                with_reducible refine (rhizomelaw01_own.calls _ _ l0 t432 _ ?side1 ?side2 A35.out).mono ?_
                                (case side1 => repeat (first | exact (Kd.C_below HR0.out HB.out) | (with_reducible refine Kd.C_alloc ?_ _) | (with_reducible refine Kd.C_drewN ?_ _) | (with_reducible refine Kd.C_drew ?_)))
                                (case side2 => exact HC0.out)
                                rintro e w87 ⟨v433, rfl, ho0, hb⟩
                                refine ⟨_, rfl, ?_⟩
                                have n0_ := Aside0.mk (Kd.R_elder' (by (with_reducible repeat (first | apply Kd.R_alloc | apply Kd.R_drewN | apply Kd.R_drew)); exact HO437.out) (Kd.R_base ho0) hb)
                                have n1_ := Aside0.mk (Kd.R_lower (Kd.R_newB (Kd.R_new' ho0 (Kd.R_lt (by (with_reducible repeat (first | apply Kd.R_alloc | apply Kd.R_drewN | apply Kd.R_drew)); exact HO437.out))) (g := gb431) (o := .cells #[.bool ((rd_T31 l2 x45_3).f0), .string ((rd_T31 l2 x45_3).f1), .int .i64 ((rd_T31 l2 x45_3).f2)] 31 (0, 0)) (by (with_reducible repeat (first | refine blk_drewN ?_ _ | refine blk_drew ?_ | refine blk_alloc ?_ _)); exact BK431.out)) (below_size (by repeat (first | (with_reducible first | exact HB.out | apply below_alloc | apply pw_below_drewN | apply below_drew1 | refine below_set ?_ GE431.out) | exact HB.out))))
                                have n2_ := Aside0.mk (blk_below (g := gb431) (o := .cells #[.bool ((rd_T31 l2 x45_3).f0), .string ((rd_T31 l2 x45_3).f1), .int .i64 ((rd_T31 l2 x45_3).f2)] 31 (0, 0)) (by (with_reducible repeat (first | refine blk_drewN ?_ _ | refine blk_drew ?_ | refine blk_alloc ?_ _)); exact BK431.out) hb)
                                have n3_ := Aside0.mk (below_step (by repeat (first | (with_reducible first | exact HB.out | apply below_alloc | apply pw_below_drewN | apply below_drew1 | refine below_set ?_ GE431.out) | exact HB.out)) hb)
                                clear HO437
                                clear BK431
                                clear HB
                                have HO437 := n0_
                                have HO434 := n1_
                                have BK431 := n2_
                                have HB := n3_
                                clear n0_ n1_ n2_ n3_
                                (try clear hb)
                                (try clear hb2)
                                (try clear hk)
                                (try clear hi)
                                (try clear ho0)
                                refine hK.out _ _ ⟨(blk_cell BK431.out 0).trans rfl, (blk_cell BK431.out 1).trans rfl, (blk_cell BK431.out 2).trans rfl⟩ (fun hHeld => ?_)
                                clear hK K
                                refine norm_ (a' := ?_) ?_ ?_
                                rotate_left
                                · show Act.put _ (some 51) _ = _
                                  simp only [Act.put, List.setIfInBounds_toArray, List.set_cons_zero, List.set_cons_succ, i64_w, i32_w]
                                  rfl
                                exact norm_ (by first | (simp only [putAll, Act.put, List.setIfInBounds_toArray, List.set_cons_zero, List.set_cons_succ]; done) | (simp only [putAll, Act.put, List.setIfInBounds_toArray, List.set_cons_zero, List.set_cons_succ]; rfl)) (hCont (v433, v436) _ ⟨hHeld, (by (with_reducible repeat (first | apply Kd.R_alloc | apply Kd.R_drewN | apply Kd.R_drew)); exact Kd.R_mono HO434.out (fun _ hk => ⟨hk.1.2, hk.2⟩)), (by (with_reducible repeat (first | apply Kd.R_alloc | apply Kd.R_drewN | apply Kd.R_drew)); exact Kd.R_mono HO437.out (fun _ hk => ⟨hk.2, hk.1.2⟩)), (by (with_reducible repeat (first | refine blk_drewN ?_ _ | refine blk_drew ?_ | refine blk_alloc ?_ _)); exact BK431.out), (by repeat (first | (with_reducible first | exact HB.out | apply below_alloc | apply pw_below_drewN | apply below_drew1 | refine below_set ?_ GE431.out) | exact HB.out))⟩)
                            rintro ⟨v433, v436⟩ w88 ⟨hS_, h0_, h1_, h2_, h3_⟩
                            have n0_ : Aside0 (Kd.R k31 31 w88 w.heap.size (fun k_ => some k_ ≠ (v436 : Value).ownBlock ∧ k_ ≠ gb431) v433 t432) := ⟨h0_⟩
                            have n1_ : Aside0 (Kd.R k31 31 w88 w.heap.size (fun k_ => some k_ ≠ (v433 : Value).ownBlock ∧ k_ ≠ gb431) v436 y435) := ⟨h1_⟩
                            have n2_ : Aside0 (w88.heap[gb431]? = some (.cells #[.bool ((rd_T31 l2 x45_3).f0), .string ((rd_T31 l2 x45_3).f1), .int .i64 ((rd_T31 l2 x45_3).f2)] 31 (0, 0))) := ⟨h2_⟩
                            have n3_ : Aside0 (Below w.heap.size w w88) := ⟨h3_⟩
                            clear BK431
                            clear HB
                            clear h0_ h1_ h2_ h3_
                            have HO434 := n0_
                            have HO437 := n1_
                            have BK431 := n2_
                            have HB := n3_
                            clear n0_ n1_ n2_ n3_
                            have hHeld : w88.cell? ⟨gb431, 0, none⟩ = some (.bool ((rd_T31 l2 x45_3).f0)) ∧ w88.cell? ⟨gb431, 1, none⟩ = some (.string ((rd_T31 l2 x45_3).f1)) ∧ w88.cell? ⟨gb431, 2, none⟩ = some (.int .i64 ((rd_T31 l2 x45_3).f2)) := hS_
                            obtain ⟨Ao90, co90, eo90⟩ := Kd.R_slice HO437.out
                            (first | subst eo90 | (injection eo90 with f1_ f2_ f3_; have f4_ := f1_.symm; have f5_ := f3_.symm; clear f1_ f2_ f3_; subst f4_; subst f5_))
                            refine norm_ (a' := ?_) ?_ ?_
                            rotate_left
                            · simp only [putAll, Act.put, List.setIfInBounds_toArray, List.set_cons_zero, List.set_cons_succ]
                              rfl
                            refine one_ (i := 5) (N := some 54) #[true, true, true, true, true, true, false, false, false, false, false, false, false, false, false, false, false, false] rfl rfl (one_of HT_.out (by kernel_rfl)) (by decide) (fun K hK => ?_)
                            refine Kd.R_append_rows_step k31 (w0 := w) w.heap.size (by rfl) (.tmp 51) (.tmp 53) 26 31 (.agg #[(.bool false), (.string ⟨#[]⟩), (.int .i64 0)]) 32 rfl Tryd.underlying26 info31 rfl (by decide) (by omega) v433 t432 y435 _ _ _ (fun k_ => some k_ ≠ (.slice Ao90 y435.length co90 : Value).ownBlock ∧ k_ ≠ gb431) (fun _ => False) rfl rfl ?aO ?aR (fun _ _ h => h) (fun _ h => h.elim) ?aF ?aB ?aS ?aL ?_
                            (case aR => repeat (first | exact (Kd.R_reads' HO437.out).2.2 | (with_reducible refine Kd.C_alloc ?_ _) | (with_reducible refine Kd.C_drewN ?_ _) | (with_reducible refine Kd.C_drew ?_)))
                            (case aB => exact (by repeat (first | (with_reducible first | exact HB.out | apply below_alloc | apply pw_below_drewN | apply below_drew1 | refine below_set ?_ GE431.out) | exact HB.out)))
                            (case aF => exact (fun k_ hk => ⟨Kd.fresh' (Kd.R_lt (by (with_reducible repeat (first | apply Kd.R_alloc | apply Kd.R_drewN | apply Kd.R_drew)); exact HO437.out)) k_ hk, Kd.freshB (g := gb431) (o := .cells #[.bool ((rd_T31 l2 x45_3).f0), .string ((rd_T31 l2 x45_3).f1), .int .i64 ((rd_T31 l2 x45_3).f2)] 31 (0, 0)) (by (with_reducible repeat (first | refine blk_drewN ?_ _ | refine blk_drew ?_ | refine blk_alloc ?_ _)); exact BK431.out) k_ hk⟩))
                            (case aO => exact (by (with_reducible repeat (first | apply Kd.R_alloc | apply Kd.R_drewN | apply Kd.R_drew)); exact HO434.out))
                            (case aS => exact (below_size (by repeat (first | (with_reducible first | exact HB.out | apply below_alloc | apply pw_below_drewN | apply below_drew1 | refine below_set ?_ GE431.out) | exact HB.out))))
                            (case aL => have := LMc36.out; omega)
                            intro v439 w89 ho hb hg hat
                            rw [← Ny438.out] at ho
                            have n0_ := Aside0.mk (blk_grown (g := gb431) (o := .cells #[.bool ((rd_T31 l2 x45_3).f0), .string ((rd_T31 l2 x45_3).f1), .int .i64 ((rd_T31 l2 x45_3).f2)] 31 (0, 0)) (by (with_reducible repeat (first | refine blk_drewN ?_ _ | refine blk_drew ?_ | refine blk_alloc ?_ _)); exact BK431.out) hg (Kd.R_away HO434.out (fun _ hk => hk.2)))
                            have n1_ := Aside0.mk (Kd.R_after (ok := (fun k_ => k_ ≠ gb431)) (by (with_reducible repeat (first | apply Kd.R_alloc | apply Kd.R_drewN | apply Kd.R_drew)); exact Kd.R_mono HO437.out (fun _ hk => ⟨hk.2, hk.1⟩)) hg hat)
                            have n2_ := Aside0.mk (hb)
                            have n3_ := Aside0.mk (ho)
                            clear BK431
                            clear HO437
                            clear HB
                            clear HO434
                            have BK431 := n0_
                            have HO437 := n1_
                            have HB := n2_
                            have HO440 := n3_
                            clear n0_ n1_ n2_ n3_
                            clear ho hb hg hat
                            obtain ⟨Ao91, co91, eo91⟩ := Kd.R_slice HO440.out
                            (first | subst eo91 | (injection eo91 with f1_ f2_ f3_; have f4_ := f1_.symm; have f5_ := f3_.symm; clear f1_ f2_ f3_; subst f4_; subst f5_))
                            refine hK.out _ _ ⟨(blk_cell BK431.out 0).trans rfl, (blk_cell BK431.out 1).trans rfl, (blk_cell BK431.out 2).trans rfl⟩ (fun hHeld => ?_)
                            clear hK K
                            refine norm_ (a' := ?_) ?_ ?_
                            rotate_left
                            · show Act.put _ (some 54) _ = _
                              simp only [Act.put, List.setIfInBounds_toArray, List.set_cons_zero, List.set_cons_succ, i64_w, i32_w]
                              rfl
                            refine one_ (i := 6) (N := some 55) #[true, true, true, true, true, true, true, false, false, false, false, false, false, false, false, false, false, false] rfl rfl (one_of HT_.out (by kernel_rfl)) (by decide) (fun K hK => ?_)
                            refine goes_ Tryd.func25 (by kernel_rfl) rfl #[.slice A0 l0.length c0, .slice Ao91 y438.length co91] (by rfl) rfl rfl (by (try simp only [List.map_toArray, List.map_cons, List.map_nil]); first | done | rfl | (simp only [List.length_drop, List.length_take]; rfl)) ?_
                            with_reducible refine (key_Cmp.calls _ _ l0 _ _ y438 t441 _ ?side1 ?side2 ?side3 ?side4 A37.out).mono ?_
                            (case side1 => repeat (first | exact (Kd.C_below HR0.out HB.out) | (with_reducible refine Kd.C_alloc ?_ _) | (with_reducible refine Kd.C_drewN ?_ _) | (with_reducible refine Kd.C_drew ?_)))
                            (case side2 => exact HC0.out)
                            (case side3 => repeat (first | exact (Kd.R_reads' HO440.out).2.2 | (with_reducible refine Kd.C_alloc ?_ _) | (with_reducible refine Kd.C_drewN ?_ _) | (with_reducible refine Kd.C_drew ?_)))
                            (case side4 => exact (Kd.R_reads' HO440.out).2.1)
                            rintro e w92 ⟨rfl, hb⟩
                            refine ⟨_, rfl, ?_⟩
                            have n0_ := Aside0.mk (Kd.R_below (by (with_reducible repeat (first | apply Kd.R_alloc | apply Kd.R_drewN | apply Kd.R_drew)); exact HO437.out) hb)
                            have n1_ := Aside0.mk (Kd.R_below (by (with_reducible repeat (first | apply Kd.R_alloc | apply Kd.R_drewN | apply Kd.R_drew)); exact HO440.out) hb)
                            have n2_ := Aside0.mk (blk_below (g := gb431) (o := .cells #[.bool ((rd_T31 l2 x45_3).f0), .string ((rd_T31 l2 x45_3).f1), .int .i64 ((rd_T31 l2 x45_3).f2)] 31 (0, 0)) (by (with_reducible repeat (first | refine blk_drewN ?_ _ | refine blk_drew ?_ | refine blk_alloc ?_ _)); exact BK431.out) hb)
                            have n3_ := Aside0.mk (below_step (by repeat (first | (with_reducible first | exact HB.out | apply below_alloc | apply pw_below_drewN | apply below_drew1 | refine below_set ?_ GE431.out) | exact HB.out)) hb)
                            clear HO437
                            clear HO440
                            clear BK431
                            clear HB
                            have HO437 := n0_
                            have HO440 := n1_
                            have BK431 := n2_
                            have HB := n3_
                            clear n0_ n1_ n2_ n3_
                            (try clear hb)
                            (try clear hb2)
                            (try clear hk)
                            (try clear hi)
                            refine hK.out _ _ ⟨(blk_cell BK431.out 0).trans rfl, (blk_cell BK431.out 1).trans rfl, (blk_cell BK431.out 2).trans rfl⟩ (fun hHeld => ?_)
                            clear hK K
                            refine norm_ (a' := ?_) ?_ ?_
                            rotate_left
                            · show Act.put _ (some 55) _ = _
                              simp only [Act.put, List.setIfInBounds_toArray, List.set_cons_zero, List.set_cons_succ, i64_w, i32_w]
                              rfl
                            refine pure_ (i := 7) (N := some 56) (v := ?_) (a' := ?_) #[true, true, true, true, true, true, true, true, false, false, false, false, false, false, false, false, false, false] rfl rfl (any_of HT_.out (by kernel_rfl)) (fun _ _ _ h => h) (Or.inl ⟨by rfl, ?_⟩) ?_ ?_
                            rotate_left
                            · intro w'
                              go_simp
                              with_reducible rfl
                            rotate_left
                            · simp only [Act.put, List.setIfInBounds_toArray, List.set_cons_zero, List.set_cons_succ, i64_w, i32_w]
                              rfl
                            refine pure_ (i := 8) (N := some 57) (v := ?_) (a' := ?_) #[true, true, true, true, true, true, true, true, true, false, false, false, false, false, false, false, false, false] rfl rfl (any_of HT_.out (by kernel_rfl)) (fun _ _ _ h => h) (Or.inl ⟨by rfl, ?_⟩) ?_ ?_
                            rotate_left
                            · intro w'
                              go_simp
                              with_reducible rfl
                            rotate_left
                            · simp only [Act.put, List.setIfInBounds_toArray, List.set_cons_zero, List.set_cons_succ, i64_w, i32_w]
                              rfl
                            refine pure_ (i := 9) (N := some 58) (v := undef) (a' := ?_) #[true, true, true, true, true, true, true, true, true, true, false, false, false, false, false, false, false, false] rfl rfl (any_of HT_.out (by kernel_rfl)) (fun _ _ _ h => h) (Or.inr ⟨by rfl, rfl⟩) ?_ ?_
                            rotate_left
                            · simp only [Act.put, List.setIfInBounds_toArray, List.set_cons_zero, List.set_cons_succ, i64_w, i32_w]
                              rfl
                            refine pure_ (i := 10) (N := some 59) (v := undef) (a' := ?_) #[true, true, true, true, true, true, true, true, true, true, true, false, false, false, false, false, false, false] rfl rfl (any_of HT_.out (by kernel_rfl)) (fun _ _ _ h => h) (Or.inr ⟨by rfl, rfl⟩) ?_ ?_
                            rotate_left
                            · simp only [Act.put, List.setIfInBounds_toArray, List.set_cons_zero, List.set_cons_succ, i64_w, i32_w]
                              rfl
                            refine pure_ (i := 11) (N := some 60) (v := undef) (a' := ?_) #[true, true, true, true, true, true, true, true, true, true, true, true, false, false, false, false, false, false] rfl rfl (any_of HT_.out (by kernel_rfl)) (fun _ _ _ h => h) (Or.inr ⟨by rfl, rfl⟩) ?_ ?_
                            rotate_left
                            · simp only [Act.put, List.setIfInBounds_toArray, List.set_cons_zero, List.set_cons_succ, i64_w, i32_w]
                              rfl
                            refine pure_ (i := 12) (N := some 61) (v := undef) (a' := ?_) #[true, true, true, true, true, true, true, true, true, true, true, true, true, false, false, false, false, false] rfl rfl (any_of HT_.out (by kernel_rfl)) (fun _ _ _ h => h) (Or.inr ⟨by rfl, rfl⟩) ?_ ?_
                            rotate_left
                            · simp only [Act.put, List.setIfInBounds_toArray, List.set_cons_zero, List.set_cons_succ, i64_w, i32_w]
                              rfl
                            refine pure_ (i := 13) (N := some 62) (v := undef) (a' := ?_) #[true, true, true, true, true, true, true, true, true, true, true, true, true, true, false, false, false, false] rfl rfl (any_of HT_.out (by kernel_rfl)) (fun _ _ _ h => h) (Or.inr ⟨by rfl, rfl⟩) ?_ ?_
                            rotate_left
                            · simp only [Act.put, List.setIfInBounds_toArray, List.set_cons_zero, List.set_cons_succ, i64_w, i32_w]
                              rfl
                            refine pure_ (i := 14) (N := some 63) (v := undef) (a' := ?_) #[true, true, true, true, true, true, true, true, true, true, true, true, true, true, true, false, false, false] rfl rfl (any_of HT_.out (by kernel_rfl)) (fun _ _ _ h => h) (Or.inr ⟨by rfl, rfl⟩) ?_ ?_
                            rotate_left
                            · simp only [Act.put, List.setIfInBounds_toArray, List.set_cons_zero, List.set_cons_succ, i64_w, i32_w]
                              rfl
                            refine pure_ (i := 15) (N := some 64) (v := undef) (a' := ?_) #[true, true, true, true, true, true, true, true, true, true, true, true, true, true, true, true, false, false] rfl rfl (any_of HT_.out (by kernel_rfl)) (fun _ _ _ h => h) (Or.inr ⟨by rfl, rfl⟩) ?_ ?_
                            rotate_left
                            · simp only [Act.put, List.setIfInBounds_toArray, List.set_cons_zero, List.set_cons_succ, i64_w, i32_w]
                              rfl
                            refine pure_ (i := 16) (N := some 65) (v := undef) (a' := ?_) #[true, true, true, true, true, true, true, true, true, true, true, true, true, true, true, true, true, false] rfl rfl (any_of HT_.out (by kernel_rfl)) (fun _ _ _ h => h) (Or.inr ⟨by rfl, rfl⟩) ?_ ?_
                            rotate_left
                            · simp only [Act.put, List.setIfInBounds_toArray, List.set_cons_zero, List.set_cons_succ, i64_w, i32_w]
                              rfl
                            refine pure_ (i := 17) (N := some 66) (v := ?_) (a' := ?_) #[true, true, true, true, true, true, true, true, true, true, true, true, true, true, true, true, true, true] rfl rfl (any_of HT_.out (by kernel_rfl)) (fun _ _ _ h => h) (Or.inl ⟨by rfl, ?_⟩) ?_ ?_
                            rotate_left
                            · intro w'
                              go_simp
                              with_reducible rfl
                            rotate_left
                            · simp only [Act.put, List.setIfInBounds_toArray, List.set_cons_zero, List.set_cons_succ, i64_w, i32_w]
                              rfl
                            refine done_ (done_of HT_.out (by kernel_rfl)) ?_
                            try go_wp2
                            go_ret
                            exact ⟨by first | rfl | (simp [errW_none, errW_some] <;> rfl) | (simp [*, errW_none, errW_some] <;> rfl), by repeat (first | (with_reducible first | exact HB.out | apply below_alloc | apply pw_below_drewN | apply below_drew1 | refine below_set ?_ GE431.out) | exact HB.out)⟩
                        · rw [if_neg c36] at H
                          exact absurd H (by simp)
                      · rw [if_neg c34] at H
                        exact absurd H (by simp)
                    · rw [if_neg c33] at H
                      exact absurd H (by simp)
                  · rw [if_neg c32] at H
                    have c32b0 : decide (x45_3 < (l2.length : Int)) = false := decide_eq_false c32
                    clear c32
                    replace H := Option.bind_eq_some_iff.mp H
                    obtain ⟨t429, A930, H⟩ := H
                    replace H : (some (t429 == 0)) = some r := H
                    have A93 := Aside0.mk A930
                    clear A930
                    obtain rfl := Option.some.inj H
                    go_wp2_with (first | ((with_reducible refine gate_callee (f := 25) rfl ?_); refine goesL_ (some 70) rfl rfl Tryd.func25 (by kernel_rfl) rfl #[.slice A0 l0.length c0, .slice A0 l0.length c0] rfl (by (try simp only [List.map_toArray, List.map_cons, List.map_nil]); first | done | rfl | (simp only [List.length_drop, List.length_take]; rfl)) ?_; (with_reducible refine (key_Cmp.calls _ _ l0 _ _ l0 t429 _ ?side1 ?side2 ?side3 ?side4 A93.out).mono ?_); (case side1 => repeat (first | exact (Kd.C_below HR0.out HB.out) | (with_reducible refine Kd.C_alloc ?_ _) | (with_reducible refine Kd.C_drewN ?_ _) | (with_reducible refine Kd.C_drew ?_))); (case side2 => exact HC0.out); (case side3 => repeat (first | exact (Kd.C_below HR0.out HB.out) | (with_reducible refine Kd.C_alloc ?_ _) | (with_reducible refine Kd.C_drewN ?_ _) | (with_reducible refine Kd.C_drew ?_))); (case side4 => exact HC0.out); rintro e w94 ⟨rfl, hb⟩; refine ⟨_, rfl, ?_⟩; have n0_ := Aside0.mk (below_step (by repeat (first | (with_reducible first | exact HB.out | apply below_alloc | apply pw_below_drewN | apply below_drew1) | exact HB.out)) hb); clear HB; have HB := n0_; clear n0_; (try clear hb); (try clear hb2); (try clear hk); (try clear hi)))
                    go_ret
                    exact ⟨by first | rfl | (simp [errW_none, errW_some] <;> rfl) | (simp [*, errW_none, errW_some] <;> rfl), by repeat (first | (with_reducible first | exact HB.out | apply below_alloc | apply pw_below_drewN | apply below_drew1) | exact HB.out)⟩

end Go.Proofs.YtamaoileeipgeaaDoor.XKey
