-- Written by xprint.py (a program of this session's repo) over the kit's print; Lean checks it.
import Derived.Test.YtamaoileeipgeaaDoorXKey0
import Derived.Test.YtamaoileeipgeaaDoorXKey2
import Derived.Test.YtamaoileeipgeaaDoorXKey6
namespace Go.Proofs.YtamaoileeipgeaaDoor.XKey
open Go.RowKit Go.Proofs.YtamaoileeipgeaaDoorW.PrintWords Go.Proofs.YtamaoileeipgeaaDoorW.PrintLast Go.Proofs.YtamaoileeipgeaaDoorW.PrintMore
attribute [local go_sem] max2_int min2_int max_two min_two max_three min_three max_four min_four   -- for this text's walks alone
set_option linter.unusedVariables false
set_option linter.unusedSimpArgs false

/-! ### key_take: function 31 -/
mutual
def key_take.j0 : Nat → List Int → Bool → Option (Bool × ByteArray × Int × List Int × Bool)
  | 0, _, _ => none
  | k + 1, x0, x19 => if x19 = true then (if 1 ≤ 9 then (if 9 ≤ (x0.length : Int) then ((some ((x0.take 9).drop 1 : List Int)).bind fun y215 => (key_take.l0 k x0 0 y215 (y215.length : Int) 0)) else (none)) else (none)) else (if 0 < (x0.length : Int) then (if (rd x0 0) = 2 then (if 1 ≤ (x0.length : Int) then (key_take.l1 k ([] : List Int) (x0.drop 1)) else (none)) else (some (false, (⟨#[]⟩ : ByteArray), 0, ([] : List Int), false))) else (none))
def key_take.l0 : Nat → List Int → Int → List Int → Int → Int → Option (Bool × ByteArray × Int × List Int × Bool)
  | 0, _, _, _, _, _ => none
  | k + 1, x0, x5, x21, x22, x23 => if x23 < x22 then (if 0 ≤ x23 then (if x23 < (x21.length : Int) then (key_take.l0 k x0 (Go.bits .or .u64 (IntKind.u64.wrap (x5 * 256)) (IntKind.u64.wrap (rd x21 x23))) x21 x22 (wrap64 (x23 + 1))) else (none)) else (none)) else ((key_Num.f (wrap64 (Go.bits .xor .u64 x5 9223372036854775808))).bind fun bt221 => (if 9 ≤ (x0.length : Int) then (some (bt221.1, bt221.2.1, bt221.2.2, (x0.drop 9), true)) else (none)))
def key_take.l1 : Nat → List Int → List Int → Option (Bool × ByteArray × Int × List Int × Bool)
  | 0, _, _ => none
  | k + 1, x8, x9 => (bytes_IndexByte.f x9 0).bind fun t235 => (if t235 < 0 then (key_take.j3 k x8 x9 t235 true) else (if (wrap64 (t235 + 1)) = (x9.length : Int) then (key_take.j3 k x8 x9 t235 true) else (if 0 ≤ (wrap64 (t235 + 1)) then (if (wrap64 (t235 + 1)) < (x9.length : Int) then (if (rd x9 (wrap64 (t235 + 1))) = 1 then (key_take.j3 k x8 x9 t235 false) else (key_take.j3 k x8 x9 t235 ((rd x9 (wrap64 (t235 + 1))) != 255))) else (none)) else (none))))
def key_take.j3 : Nat → List Int → List Int → Int → Bool → Option (Bool × ByteArray × Int × List Int × Bool)
  | 0, _, _, _, _ => none
  | k + 1, x8, x9, x10, x72 => if x72 = true then (some (false, (⟨#[]⟩ : ByteArray), 0, ([] : List Int), false)) else (if 0 ≤ x10 then (if x10 ≤ (x9.length : Int) then ((some (x9.take (x10 : Int).toNat : List Int)).bind fun y238 => (if x8.length + y238.length < 140737488355328 then ((some (x8 ++ y238 : List Int)).bind fun y243 => (if 0 ≤ (wrap64 (x10 + 1)) then (if (wrap64 (x10 + 1)) < (x9.length : Int) then (if (rd x9 (wrap64 (x10 + 1))) = 1 then ((key_Str.f (strOfNums y243)).bind fun bt247 => (if 0 ≤ (wrap64 (x10 + 2)) then (if (wrap64 (x10 + 2)) ≤ (x9.length : Int) then (some (bt247.1, bt247.2.1, bt247.2.2, (x9.drop ((wrap64 (x10 + 2)) : Int).toNat), true)) else (none)) else (none))) else (if y243.length < 140737488355328 then (if 0 ≤ (wrap64 (x10 + 2)) then (if (wrap64 (x10 + 2)) ≤ (x9.length : Int) then (key_take.l1 k (y243 ++ [0]) (x9.drop ((wrap64 (x10 + 2)) : Int).toNat)) else (none)) else (none)) else (none))) else (none)) else (none))) else (none))) else (none)) else (none))
end
def key_take.f (k : Nat) (l0 : List Int) : Option (Bool × ByteArray × Int × List Int × Bool) := if 0 < (l0.length : Int) then (if (rd l0 0) = 1 then (key_take.j0 k l0 (decide ((l0.length : Int) ≥ 9))) else (key_take.j0 k l0 false)) else (none)
theorem key_take.mono_l : ∀ k, (∀ y0 y1, LeO (key_take.j0 k y0 y1) (key_take.j0 (k + 1) y0 y1)) ∧ (∀ y0 y1 y2 y3 y4, LeO (key_take.l0 k y0 y1 y2 y3 y4) (key_take.l0 (k + 1) y0 y1 y2 y3 y4)) ∧ (∀ y0 y1, LeO (key_take.l1 k y0 y1) (key_take.l1 (k + 1) y0 y1)) ∧ (∀ y0 y1 y2 y3, LeO (key_take.j3 k y0 y1 y2 y3) (key_take.j3 (k + 1) y0 y1 y2 y3))
  | 0 => ⟨fun _ _ r h => by simp [key_take.j0] at h, fun _ _ _ _ _ r h => by simp [key_take.l0] at h, fun _ _ r h => by simp [key_take.l1] at h, fun _ _ _ _ r h => by simp [key_take.j3] at h⟩
  | k + 1 => by
    obtain ⟨ih0, ih1, ih2, ih3⟩ := key_take.mono_l k
    refine ⟨?_, ?_, ?_, ?_⟩
    · intro y0 y1
      unfold key_take.j0
      repeat' first
      | (with_reducible exact ih0 _ _)
      | (with_reducible exact ih1 _ _ _ _ _)
      | (with_reducible exact ih2 _ _)
      | (with_reducible exact ih3 _ _ _ _)
      | (with_reducible exact LeO.refl _)
      | (with_reducible exact LeO.none _)
      | (with_reducible refine LeO.ite ?_ ?_)
      | (with_reducible refine LeO.bind ?_ (fun _ => ?_))
      | exact ih0 _ _
      | exact ih1 _ _ _ _ _
      | exact ih2 _ _
      | exact ih3 _ _ _ _
      | exact LeO.none _
      | refine LeO.ite ?_ ?_
      | refine LeO.bind ?_ (fun _ => ?_)
    · intro y0 y1 y2 y3 y4
      unfold key_take.l0
      repeat' first
      | (with_reducible exact ih0 _ _)
      | (with_reducible exact ih1 _ _ _ _ _)
      | (with_reducible exact ih2 _ _)
      | (with_reducible exact ih3 _ _ _ _)
      | (with_reducible exact LeO.refl _)
      | (with_reducible exact LeO.none _)
      | (with_reducible refine LeO.ite ?_ ?_)
      | (with_reducible refine LeO.bind ?_ (fun _ => ?_))
      | exact ih0 _ _
      | exact ih1 _ _ _ _ _
      | exact ih2 _ _
      | exact ih3 _ _ _ _
      | exact LeO.none _
      | refine LeO.ite ?_ ?_
      | refine LeO.bind ?_ (fun _ => ?_)
    · intro y0 y1
      unfold key_take.l1
      repeat' first
      | (with_reducible exact ih0 _ _)
      | (with_reducible exact ih1 _ _ _ _ _)
      | (with_reducible exact ih2 _ _)
      | (with_reducible exact ih3 _ _ _ _)
      | (with_reducible exact LeO.refl _)
      | (with_reducible exact LeO.none _)
      | (with_reducible refine LeO.ite ?_ ?_)
      | (with_reducible refine LeO.bind ?_ (fun _ => ?_))
      | exact ih0 _ _
      | exact ih1 _ _ _ _ _
      | exact ih2 _ _
      | exact ih3 _ _ _ _
      | exact LeO.none _
      | refine LeO.ite ?_ ?_
      | refine LeO.bind ?_ (fun _ => ?_)
    · intro y0 y1 y2 y3
      unfold key_take.j3
      repeat' first
      | (with_reducible exact ih0 _ _)
      | (with_reducible exact ih1 _ _ _ _ _)
      | (with_reducible exact ih2 _ _)
      | (with_reducible exact ih3 _ _ _ _)
      | (with_reducible exact LeO.refl _)
      | (with_reducible exact LeO.none _)
      | (with_reducible refine LeO.ite ?_ ?_)
      | (with_reducible refine LeO.bind ?_ (fun _ => ?_))
      | exact ih0 _ _
      | exact ih1 _ _ _ _ _
      | exact ih2 _ _
      | exact ih3 _ _ _ _
      | exact LeO.none _
      | refine LeO.ite ?_ ?_
      | refine LeO.bind ?_ (fun _ => ?_)
theorem key_take.mono : ∀ a0 k, LeO (key_take.f k a0) (key_take.f (k + 1) a0) := by
  intro a0 k
  obtain ⟨ih0, ih1, ih2, ih3⟩ := key_take.mono_l k
  unfold key_take.f
  repeat' first
      | (with_reducible exact ih0 _ _)
      | (with_reducible exact ih1 _ _ _ _ _)
      | (with_reducible exact ih2 _ _)
      | (with_reducible exact ih3 _ _ _ _)
      | (with_reducible exact LeO.refl _)
      | (with_reducible exact LeO.none _)
      | (with_reducible refine LeO.ite ?_ ?_)
      | (with_reducible refine LeO.bind ?_ (fun _ => ?_))
      | exact ih0 _ _
      | exact ih1 _ _ _ _ _
      | exact ih2 _ _
      | exact ih3 _ _ _ _
      | exact LeO.none _
      | refine LeO.ite ?_ ?_
      | refine LeO.bind ?_ (fun _ => ?_)
def key_take.T8 : Bool × List (List Nat × List Nat) := (true, [([], []), ([0], [0]), ([1], [1]), ([2], [2]), ([], []), ([4], [4]), ([3, 3, 0, 1, 2, 3], [3]), ([5, 6, 0, 1, 2, 3, 4, 5, 6], [5]), ([7, 0, 1, 2, 3, 4, 5, 6, 7], [])])
def key_take.B8 : List Nat := [0, 1, 3, 7, 0, 16, 15, 127, 255]
theorem key_take.tab8 : rtab .any (opsOf Tryd.f31 8) = key_take.T8 := by kernel_rfl
theorem key_take.bits8 : waitsOk key_take.T8.2 key_take.B8 = true := by kernel_rfl
def key_take.T18 : Bool × List (List Nat × List Nat) := (true, [([], []), ([0], [0]), ([1], [1]), ([], []), ([], []), ([4], [4]), ([3, 5], [3, 5]), ([2, 2, 0, 1, 2], [2]), ([6, 7, 0, 1, 2, 3, 4, 5, 6, 7], [6]), ([8, 0, 1, 2, 3, 4, 5, 6, 7, 8], [])])
def key_take.B18 : List Nat := [0, 1, 3, 0, 0, 16, 56, 7, 255, 511]
theorem key_take.tab18 : rtab .any (opsOf Tryd.f31 18) = key_take.T18 := by kernel_rfl
theorem key_take.bits18 : waitsOk key_take.T18.2 key_take.B18 = true := by kernel_rfl
set_option maxHeartbeats 8000000 in
set_option maxRecDepth 100000 in
theorem key_take.calls (k : Nat) (P0_ : Nat → Prop) (A0 : Option Addr) (c0 : Nat) (l0 : List Int) (r1 : Bool) (r2 : ByteArray) (r3 : Int) (r4 : List Int) (r5 : Bool) (w : World) (hs0 : Kd.V (Kd.int .u8) 5 w w.heap.size (fun k_ => P0_ k_) (.slice A0 l0.length c0) l0) (h : key_take.f k l0 = some (r1, r2, r3, r4, r5)) :
    Calls Tryd.prog 31 #[.slice A0 l0.length c0] w fun e w' => ∃ v3_ : Value, e = .returned (.tuple #[.agg #[.bool r1, .string r2, .int .i64 r3], v3_, .bool r5]) ∧ Kd.V (Kd.int .u8) 5 w' w.heap.size (fun k_ => (P0_ k_ ∨ w.heap.size ≤ k_)) v3_ r4 ∧ Below w.heap.size w w' := by
  have hu31 := Tryd.underlying31
  have HO0 := Aside0.mk (show Kd.V (Kd.int .u8) 5 w w.heap.size (fun k_ => (P0_ k_ ∨ w.heap.size ≤ k_)) (.slice A0 l0.length c0) l0 from Kd.V_mono hs0 (fun k_ hk => .inl hk))
  have HB := Aside0.mk (Below.refl w.heap.size w)
  have H : (if 0 < (l0.length : Int) then (if (rd l0 0) = 1 then (key_take.j0 k l0 (decide ((l0.length : Int) ≥ 9))) else (key_take.j0 k l0 false)) else (none)) = some (r1, r2, r3, r4, r5) := h
  clear h
  have HC2 := Aside0.mk H
  clear H
  go_enter Tryd.func31, Tryd.ntmps31
  go_upto_region 1 with (first | ((with_reducible refine gate_dst (N := 2) rfl ?_); (try (refine gate_guard (by rfl) ?_; dsimp only)); refine box_event ?hg (N := 2) ?hd (cs := #[.bool false, .string (⟨#[]⟩ : ByteArray), .int .i64 0]) (t := 31) ?hr ?_; (case hd => rfl); (case hg => rfl); (case hr => first | (go_simp; done) | (go_simp; rfl)); intro gb213 hg w3 hbox hb; have n0_ := Aside0.mk (Kd.V_below (Kd.V_elderB (by (with_reducible repeat (first | apply Kd.V_alloc | apply Kd.V_drewN | apply Kd.V_drew)); exact HO0.out) gb213 (Nat.le_of_eq hg.symm)) hb); have n1_ := Aside0.mk (below_step (by repeat (first | (with_reducible first | exact HB.out | apply below_alloc | apply pw_below_drewN | apply below_drew1) | exact HB.out)) hb); have n2_ := Aside0.mk (hbox); have n3_ := Aside0.mk ((by rw [hg]; exact (below_size (by repeat (first | (with_reducible first | exact HB.out | apply below_alloc | apply pw_below_drewN | apply below_drew1) | exact HB.out))) : w.heap.size ≤ gb213)); have n4_ := Aside0.mk ((by rw [hg]; exact (below_size (by repeat (first | (with_reducible first | exact HB.out | apply below_alloc | apply pw_below_drewN | apply below_drew1) | exact HB.out))) : w.heap.size ≤ gb213)); clear HO0; clear HB; have HO0 := n0_; have HB := n1_; have BK213 := n2_; have GW213 := n3_; have GE213 := n4_; clear n0_ n1_ n2_ n3_ n4_; clear hb hbox hg))
  (try simp only [Act.put, List.setIfInBounds_toArray, List.set_cons_zero, List.set_cons_succ])
  go_cut [19] (fun v19 wc => ∃ (kq : Nat) (x19_1 : Bool), v19 = .bool x19_1 ∧ Aside0 (key_take.j0 kq l0 x19_1 = some (r1, r2, r3, r4, r5)) ∧ Aside0 (kq ≤ k) ∧ Aside0 (Kd.V (Kd.int .u8) 5 wc w.heap.size (fun k_ => (P0_ k_ ∨ w.heap.size ≤ k_) ∧ k_ ≠ gb213) (.slice A0 l0.length c0) l0) ∧ Aside0 (wc.heap[gb213]? = some (.cells #[.bool false, .string (⟨#[]⟩ : ByteArray), .int .i64 0] 31 (0, 0))) ∧ Aside0 (Below w.heap.size w wc))
  case first =>
    have H := HC2.out
    clear HC2
    by_cases c4 : 0 < (l0.length : Int)
    · rw [if_pos c4] at H
      have c4b0 : decide (0 < (l0.length : Int)) = true := decide_eq_true c4
      have c4b1 : decide (0 < l0.length) = true := decide_eq_true (by omega)
      clear c4
      (first | rw [c4b0] | (simp only [i64_w, i32_w]; rw [c4b0]) | skip)
      by_cases c5 : (rd l0 0) = 1
      · rw [if_pos c5] at H
        have c5b0 : ((rd l0 0) == 1) = true := beq_iff_eq.mpr c5
        have c5b1 : ((rd l0 0) != 1) = false := bne_eq_false_iff_eq.mpr c5
        clear c5
        have H' := Aside0.mk H
        clear H
        have p214 : 0 ≤ (0 : Int) := (by omega)
        have q214 : 0 < (l0.length : Int) := of_decide_eq_true (by first | (with_reducible assumption) | assumption)
        obtain ⟨ad214, e214, hx214_0⟩ := Kd.at_int (Kd.V_reads' HO0.out).2.2 0 p214 q214
        cases e214
        have qi214 : (0 < l0.length) = True := eq_true (by omega)
        (try rw [show ((0 : Int)).toNat = 0 from rfl] at hx214_0)
        (try rw [Addr.add_zero'] at hx214_0)
        replace p214 := eq_true p214
        replace q214 := eq_true q214
        go_wp2
        go_meet
        case rel => exact ⟨_, (decide ((l0.length : Int) ≥ 9)), (by first | rfl | (simp; done) | (simp [*]; done)), H', ⟨by first | omega | exact Nat.le_refl _⟩, ⟨by (with_reducible repeat (first | apply Kd.V_alloc | apply Kd.V_drewN | apply Kd.V_drew)); exact HO0.out⟩, ⟨by (with_reducible repeat (first | refine blk_drewN ?_ _ | refine blk_drew ?_ | refine blk_alloc ?_ _)); exact BK213.out⟩, ⟨by repeat (first | (with_reducible first | exact HB.out | apply below_alloc | apply pw_below_drewN | apply below_drew1 | refine below_set ?_ GE213.out) | exact HB.out)⟩⟩
      · rw [if_neg c5] at H
        have c5b0 : ((rd l0 0) == 1) = false := beq_eq_false_iff_ne.mpr c5
        have c5b1 : ((rd l0 0) != 1) = true := bne_iff_ne.mpr c5
        have H' := Aside0.mk H
        clear H
        have p214 : 0 ≤ (0 : Int) := (by omega)
        have q214 : 0 < (l0.length : Int) := of_decide_eq_true (by first | (with_reducible assumption) | assumption)
        obtain ⟨ad214, e214, hx214_0⟩ := Kd.at_int (Kd.V_reads' HO0.out).2.2 0 p214 q214
        cases e214
        have qi214 : (0 < l0.length) = True := eq_true (by omega)
        (try rw [show ((0 : Int)).toNat = 0 from rfl] at hx214_0)
        (try rw [Addr.add_zero'] at hx214_0)
        replace p214 := eq_true p214
        replace q214 := eq_true q214
        go_wp2
        go_meet
        case rel => exact ⟨_, (false), (by first | rfl | (simp; done) | (simp [*]; done)), H', ⟨by first | omega | exact Nat.le_refl _⟩, ⟨by (with_reducible repeat (first | apply Kd.V_alloc | apply Kd.V_drewN | apply Kd.V_drew)); exact HO0.out⟩, ⟨by (with_reducible repeat (first | refine blk_drewN ?_ _ | refine blk_drew ?_ | refine blk_alloc ?_ _)); exact BK213.out⟩, ⟨by repeat (first | (with_reducible first | exact HB.out | apply below_alloc | apply pw_below_drewN | apply below_drew1 | refine below_set ?_ GE213.out) | exact HB.out)⟩⟩
    · rw [if_neg c4] at H
      exact absurd H (by simp)
  case rest =>
    clear HC2
    try clear p2
    try clear q2
    try clear hx2
    try clear qi2
    try clear c3
    try clear c4
    try clear c4b0
    try clear c4b1
    try clear c5
    try clear c5b0
    try clear c5b1
    try clear hx214_0
    try clear p214
    try clear q214
    obtain ⟨kq, x19_1, rfl, HA, HJ1, HO_0, BK213, HB⟩ := hcut
    cases kq with
    | zero => exact absurd HA.out (by simp [key_take.j0])
    | succ kj1 =>
      have H := HA.out
      clear HA
      simp only [key_take.j0] at H
      by_cases c6 : x19_1 = true
      · subst c6
        have H1 : (if 1 ≤ 9 then (if 9 ≤ (l0.length : Int) then ((some ((l0.take 9).drop 1 : List Int)).bind fun y215 => (key_take.l0 kj1 l0 0 y215 (y215.length : Int) 0)) else (none)) else (none)) = some (r1, r2, r3, r4, r5) := by rw [if_pos rfl] at H; exact H
        clear H
        have H := H1
        clear H1
        by_cases c7 : 1 ≤ 9
        · rw [if_pos c7] at H
          have c7b0 := eq_true c7
          have c7b1 : decide (1 ≤ 9) = true := decide_eq_true c7
          clear c7
          by_cases c8 : 9 ≤ (l0.length : Int)
          · rw [if_pos c8] at H
            have c8b0 := eq_true c8
            have c8b1 : decide (9 ≤ (l0.length : Int)) = true := decide_eq_true c8
            clear c8
            obtain ⟨y215, hy215⟩ : ∃ y_ : List Int, y_ = ((l0.take 9).drop 1) := ⟨_, rfl⟩
            replace H : (key_take.l0 kj1 l0 0 y215 (y215.length : Int) 0) = some (r1, r2, r3, r4, r5) := by first | (rw [hy215]; with_reducible exact H) | (have H2_ := (Option.bind_some _ _).symm.trans H; rw [hy215]; with_reducible exact H2_) | (have H2_ := (Option.bind_some _ _).symm.trans H; with_reducible exact H2_) | with_reducible exact H | (rw [hy215]; exact H) | exact H
            have Ny215 := Aside0.mk hy215
            clear hy215
            have H' := Aside0.mk H
            clear H
            have q9 : (9 : Int) ≤ ((l0.length : Int) : Int) := of_decide_eq_true (by first | (with_reducible assumption) | assumption)
            obtain ⟨i09, hi09, _, hsz9, _⟩ := info_parts info5
            have hroom9 : l0.length ≤ c0 := (Kd.V_reads' HO_0.out).2.1
            have hC9 : Kd.F (Kd.int .u8) _ _ A0 l0.length l0 := (Kd.V_at (base := w.heap.size) HO_0.out).2.2
            have ql9 : (1 : Int) ≤ (9 : Int) := (by omega)
            have hcut9 := cut_mid (P := Tryd.prog) 22 5 .i64 .i64 Tryd.underlying22 hi09 1 hsz9 A0 l0.length c0 1 9 (by omega) ql9 q9 hroom9
            have hr9 := Kd.F_mid (lo := (1 : Int).toNat) (hi := (9 : Int).toNat) (c := c0) hC9 (by omega) (by omega) hroom9
            obtain ⟨A9, hA9⟩ : ∃ A1, A1 = (if c0 = (1 : Int).toNat then A0 else (A0 : Option Addr).map (·.add ((1 : Int).toNat * 1))) := ⟨_, rfl⟩
            obtain ⟨c9, hc9⟩ : ∃ c1, c1 = c0 - (1 : Int).toNat := ⟨_, rfl⟩
            have hy9 : y215.length = (9 : Int).toNat - (1 : Int).toNat := (by rw [Ny215.out, List.length_drop, List.length_take] <;> omega)
            rw [show ((l0).take (9 : Int).toNat).drop (1 : Int).toNat = y215 from Ny215.out.symm] at hr9
            replace hr9 : Kd.F (Kd.int .u8) _ _ A9 y215.length y215 := (by rw [hA9]; exact hr9)
            rw [← hy9, ← hA9, ← hc9] at hcut9
            have HO219 := Aside0.mk (show Kd.V (Kd.int .u8) 5 _ w.heap.size _ (.slice A9 y215.length c9) y215 from Kd.V_mk (by rw [hy9, hc9]; exact Nat.sub_le_sub_right (Nat.le_trans (by omega) hroom9) _) hr9)
            have HC219 := Aside0.mk (show y215.length ≤ c9 from by rw [hy9, hc9]; exact Nat.sub_le_sub_right (Nat.le_trans (by omega) hroom9) _)
            clear hr9 hC9 hroom9 hi09 hsz9 hc9
            have KY9 := Aside0.mk hy9
            have KA9 := Aside0.mk hA9
            clear hy9 hA9
            replace q9 := eq_true q9
            go_wp2
            go_loopg [5, 23] kj1 (fun kq v5 v23 w' => ∃ (x5_2 : Int) (x23_2 : Int), v5 = .int .u64 x5_2 ∧ v23 = .int .i64 x23_2 ∧ Aside0 (key_take.l0 kq l0 x5_2 y215 (y215.length : Int) x23_2 = some (r1, r2, r3, r4, r5)) ∧ Aside0 (kq ≤ kj1) ∧ Aside0 (Kd.V (Kd.int .u8) 5 w' w.heap.size (fun k_ => (P0_ k_ ∨ w.heap.size ≤ k_) ∧ k_ ≠ gb213) (.slice A0 l0.length c0) l0) ∧ Aside0 (Kd.V (Kd.int .u8) 5 w' w.heap.size (fun k_ => (P0_ k_ ∨ w.heap.size ≤ k_) ∧ k_ ≠ gb213) (.slice A9 y215.length c9) y215) ∧ Aside0 (w'.heap[gb213]? = some (.cells #[.bool false, .string (⟨#[]⟩ : ByteArray), .int .i64 0] 31 (0, 0))) ∧ Aside0 (Below w.heap.size w w'))
            case atStart => exact ⟨(0), (0), (by first | rfl | (simp; done) | (simp [*]; done)), (by first | rfl | (simp; done) | (simp [*]; done)), H', ⟨Nat.le_refl _⟩, ⟨by (with_reducible repeat (first | apply Kd.V_alloc | apply Kd.V_drewN | apply Kd.V_drew)); exact HO_0.out⟩, ⟨by (with_reducible repeat (first | apply Kd.V_alloc | apply Kd.V_drewN | apply Kd.V_drew)); exact HO219.out⟩, ⟨by (with_reducible repeat (first | refine blk_drewN ?_ _ | refine blk_drew ?_ | refine blk_alloc ?_ _)); exact BK213.out⟩, ⟨by repeat (first | (with_reducible first | exact HB.out | apply below_alloc | apply pw_below_drewN | apply below_drew1 | refine below_set ?_ GE213.out) | exact HB.out)⟩⟩
            case round =>
              clear H'
              try clear c1
              try clear p2
              try clear q2
              try clear hx2
              try clear qi2
              try clear c3
              try clear c4
              try clear c4b0
              try clear c4b1
              try clear c5
              try clear c5b0
              try clear c5b1
              try clear c6
              try clear c7
              try clear c7b0
              try clear c7b1
              try clear c8
              try clear c8b0
              try clear c8b1
              try clear c9
              try clear q9
              try clear hx214_0
              try clear p2
              try clear p214
              try clear q2
              try clear q214
              try clear q9
              obtain ⟨x5_2, x23_2, rfl, rfl, HA, HK2, HO_0, HO_21, BK213, HB⟩ := hrel
              cases gk with
              | zero => exact absurd HA.out (by simp [key_take.l0])
              | succ k2 =>
                have H := HA.out
                clear HA
                simp only [key_take.l0] at H
                by_cases c10 : x23_2 < (y215.length : Int)
                · rw [if_pos c10] at H
                  have c10b0 : decide (x23_2 < (y215.length : Int)) = true := decide_eq_true c10
                  clear c10
                  by_cases c11 : 0 ≤ x23_2
                  · rw [if_pos c11] at H
                    have c11b0 : decide (0 ≤ x23_2) = true := decide_eq_true c11
                    clear c11
                    by_cases c12 : x23_2 < (y215.length : Int)
                    · rw [if_pos c12] at H
                      have c12b0 : decide (x23_2 < (y215.length : Int)) = true := decide_eq_true c12
                      clear c12
                      have H' := Aside0.mk H
                      clear H
                      have p220 : 0 ≤ (x23_2 : Int) := of_decide_eq_true (by first | (with_reducible assumption) | assumption)
                      have q220 : x23_2 < (y215.length : Int) := of_decide_eq_true (by first | (with_reducible assumption) | assumption)
                      obtain ⟨ad220, e220, hx220_0⟩ := Kd.at_int (Kd.V_reads' HO_21.out).2.2 x23_2 p220 q220
                      cases e220
                      replace p220 := eq_true p220
                      replace q220 := eq_true q220
                      go_wp2
                      go_roundg k2
                      case measure => have := HJ1.out; have := HK2.out; omega
                      case rel => exact ⟨(Go.bits .or .u64 (IntKind.u64.wrap (x5_2 * 256)) (IntKind.u64.wrap (rd y215 x23_2))), (wrap64 (x23_2 + 1)), (by first | rfl | (simp; done) | (simp [*]; done)), (by first | rfl | (simp; done) | (simp [*]; done)), H', ⟨by have := HJ1.out; have := HK2.out; omega⟩, ⟨by (with_reducible repeat (first | apply Kd.V_alloc | apply Kd.V_drewN | apply Kd.V_drew)); exact HO_0.out⟩, ⟨by (with_reducible repeat (first | apply Kd.V_alloc | apply Kd.V_drewN | apply Kd.V_drew)); exact HO_21.out⟩, ⟨by (with_reducible repeat (first | refine blk_drewN ?_ _ | refine blk_drew ?_ | refine blk_alloc ?_ _)); exact BK213.out⟩, ⟨by repeat (first | (with_reducible first | exact HB.out | apply below_alloc | apply pw_below_drewN | apply below_drew1 | refine below_set ?_ GE213.out) | exact HB.out)⟩⟩
                    · rw [if_neg c12] at H
                      exact absurd H (by simp)
                  · rw [if_neg c11] at H
                    exact absurd H (by simp)
                · rw [if_neg c10] at H
                  have c10b0 : decide (x23_2 < (y215.length : Int)) = false := decide_eq_false c10
                  clear c10
                  replace H := Option.bind_eq_some_iff.mp H
                  obtain ⟨⟨t221, t222, t223⟩, A130, H⟩ := H
                  replace H : (if 9 ≤ (l0.length : Int) then (some (t221, t222, t223, (l0.drop 9), true)) else (none)) = some (r1, r2, r3, r4, r5) := H
                  have A13 := Aside0.mk A130
                  clear A130
                  by_cases c14 : 9 ≤ (l0.length : Int)
                  · rw [if_pos c14] at H
                    have c14b0 := eq_true c14
                    have c14b1 : decide (9 ≤ (l0.length : Int)) = true := decide_eq_true c14
                    clear c14
                    obtain ⟨y224, hy224⟩ : ∃ y_ : List Int, y_ = (l0.drop 9) := ⟨_, rfl⟩
                    replace H : (some (t221, t222, t223, y224, true)) = some (r1, r2, r3, r4, r5) := by first | (rw [hy224]; with_reducible exact H) | (have H2_ := (Option.bind_some _ _).symm.trans H; rw [hy224]; with_reducible exact H2_) | (have H2_ := (Option.bind_some _ _).symm.trans H; with_reducible exact H2_) | with_reducible exact H | (rw [hy224]; exact H) | exact H
                    have Ny224 := Aside0.mk hy224
                    clear hy224
                    simp only [Option.some.injEq, Prod.mk.injEq] at H
                    obtain ⟨rfl, rfl, rfl, rfl, rfl⟩ := H
                    try go_wp2
                    have n0_ := Aside0.mk (Kd.V_drew HO_0.out)
                    have n1_ := Aside0.mk (Kd.V_drew HO_21.out)
                    have n2_ := Aside0.mk (blk_drew BK213.out)
                    have n3_ := Aside0.mk (below_drew1 HB.out)
                    clear HO_0
                    clear HO_21
                    clear BK213
                    clear HB
                    have HO_0 := n0_
                    have HO_21 := n1_
                    have BK213 := n2_
                    have HB := n3_
                    clear n0_ n1_ n2_ n3_
                    have q16 : (9 : Int) ≤ ((l0.length : Int) : Int) := of_decide_eq_true (by first | (with_reducible assumption) | assumption)
                    obtain ⟨i016, hi016, _, hsz16, _⟩ := info_parts info5
                    have hroom16 : l0.length ≤ c0 := (Kd.V_reads' HO_0.out).2.1
                    have hC16 : Kd.F (Kd.int .u8) _ _ A0 l0.length l0 := (Kd.V_at (base := w.heap.size) HO_0.out).2.2
                    have hcut16 := cut_from (P := Tryd.prog) 22 5 .i64 Tryd.underlying22 hi016 1 hsz16 A0 l0.length c0 9 (by omega) q16
                    have hr16 := Kd.F_cut (m := (9 : Int).toNat) (c := c0) hC16 (by omega) hroom16
                    obtain ⟨A16, hA16⟩ : ∃ A1, A1 = (if c0 = (9 : Int).toNat then A0 else (A0 : Option Addr).map (·.add ((9 : Int).toNat * 1))) := ⟨_, rfl⟩
                    obtain ⟨c16, hc16⟩ : ∃ c1, c1 = c0 - (9 : Int).toNat := ⟨_, rfl⟩
                    have hy16 : y224.length = l0.length - (9 : Int).toNat := (by rw [Ny224.out, List.length_drop] <;> omega)
                    rw [show (l0).drop (9 : Int).toNat = y224 from Ny224.out.symm] at hr16
                    replace hr16 : Kd.F (Kd.int .u8) _ _ A16 y224.length y224 := (by rw [hA16]; exact hr16)
                    rw [← hy16, ← hA16, ← hc16] at hcut16
                    have HO228 := Aside0.mk (show Kd.V (Kd.int .u8) 5 _ w.heap.size _ (.slice A16 y224.length c16) y224 from Kd.V_mk (by rw [hy16, hc16]; exact Nat.sub_le_sub_right hroom16 _) hr16)
                    have HC228 := Aside0.mk (show y224.length ≤ c16 from by rw [hy16, hc16]; exact Nat.sub_le_sub_right hroom16 _)
                    clear hr16 hC16 hroom16 hi016 hsz16 hc16
                    have KY16 := Aside0.mk hy16
                    have KA16 := Aside0.mk hA16
                    clear hy16 hA16
                    replace q16 := eq_true q16
                    refine start_ (n := 9) (S := fun w' => True) (ds := []) #[false, false, false, false, false, false, false, false, false] (by kernel_rfl) rfl rfl trivial (fun hHeld => ?_); refine with_tabW key_take.tab8 key_take.bits8 (fun HT_ HW_ => ?_)
                    generalize wr.drew = w15 at HO_0 HO_21 BK213 HB HO228 hHeld ⊢
                    refine pure_ (i := 0) (N := some 33) (v := ?_) (a' := ?_) #[true, false, false, false, false, false, false, false, false] rfl rfl (any_of HT_.out (by kernel_rfl)) (fun _ _ _ h => h) (Or.inl ⟨by rfl, ?_⟩) ?_ ?_
                    rotate_left
                    · intro w'
                      go_simp
                      with_reducible rfl
                    rotate_left
                    · simp only [Act.put, List.setIfInBounds_toArray, List.set_cons_zero, List.set_cons_succ, i64_w, i32_w]
                      rfl
                    refine pure_ (i := 1) (N := some 34) (v := ?_) (a' := ?_) #[true, true, false, false, false, false, false, false, false] rfl rfl (any_of HT_.out (by kernel_rfl)) (fun _ _ _ h => h) (Or.inl ⟨by rfl, ?_⟩) ?_ ?_
                    rotate_left
                    · intro w'
                      go_simp
                      with_reducible rfl
                    rotate_left
                    · simp only [Act.put, List.setIfInBounds_toArray, List.set_cons_zero, List.set_cons_succ, i64_w, i32_w]
                      rfl
                    refine pure_ (i := 2) (N := some 35) (v := ?_) (a' := ?_) #[true, true, true, false, false, false, false, false, false] rfl rfl (any_of HT_.out (by kernel_rfl)) (fun _ _ _ h => h) (Or.inl ⟨by rfl, ?_⟩) ?_ ?_
                    rotate_left
                    · intro w'
                      go_simp
                      with_reducible rfl
                    rotate_left
                    · simp only [Act.put, List.setIfInBounds_toArray, List.set_cons_zero, List.set_cons_succ, i64_w, i32_w]
                      rfl
                    refine pure_ (i := 4) (N := some 37) (v := ?_) (a' := ?_) #[true, true, true, false, true, false, false, false, false] rfl rfl (any_of HT_.out (by kernel_rfl)) (fun _ _ _ h => h) (Or.inl ⟨by rfl, ?_⟩) ?_ ?_
                    rotate_left
                    · intro w'
                      go_simp
                      with_reducible rfl
                    rotate_left
                    · simp only [Act.put, List.setIfInBounds_toArray, List.set_cons_zero, List.set_cons_succ, i64_w, i32_w]
                      rfl
                    refine pure_ (i := 5) (N := some 38) (v := ?_) (a' := ?_) #[true, true, true, false, true, true, false, false, false] rfl rfl (any_of HT_.out (by kernel_rfl)) (fun _ _ _ h => h) (Or.inl ⟨by rfl, ?_⟩) ?_ ?_
                    rotate_left
                    · intro w'
                      go_simp
                      with_reducible rfl
                    rotate_left
                    · simp only [Act.put, List.setIfInBounds_toArray, List.set_cons_zero, List.set_cons_succ, i64_w, i32_w]
                      rfl
                    refine one_ (i := 3) (N := some 36) #[true, true, true, true, true, true, false, false, false] rfl rfl (one_of HT_.out (by kernel_rfl)) (by decide) (fun K hK => ?_)
                    refine goes_ Tryd.func17 (by kernel_rfl) rfl #[.int .i64 (wrap64 (Go.bits .xor .u64 x5_2 9223372036854775808))] (by rfl) rfl rfl (by (try simp only [List.map_toArray, List.map_cons, List.map_nil]); first | done | rfl | (simp only [List.length_drop, List.length_take]; rfl)) ?_
                    with_reducible refine (key_Num.calls (wrap64 (Go.bits .xor .u64 x5_2 9223372036854775808)) t221 t222 t223 _ A13.out).mono ?_
                    rintro e w17 ⟨rfl, hb⟩
                    refine ⟨_, rfl, ?_⟩
                    have n0_ := Aside0.mk (Kd.V_below (by (with_reducible repeat (first | apply Kd.V_alloc | apply Kd.V_drewN | apply Kd.V_drew)); exact HO_0.out) hb)
                    have n1_ := Aside0.mk (Kd.V_below (by (with_reducible repeat (first | apply Kd.V_alloc | apply Kd.V_drewN | apply Kd.V_drew)); exact HO_21.out) hb)
                    have n2_ := Aside0.mk (Kd.V_below (by (with_reducible repeat (first | apply Kd.V_alloc | apply Kd.V_drewN | apply Kd.V_drew)); exact HO228.out) hb)
                    have n3_ := Aside0.mk (blk_below (g := gb213) (o := .cells #[.bool false, .string (⟨#[]⟩ : ByteArray), .int .i64 0] 31 (0, 0)) (by (with_reducible repeat (first | refine blk_drewN ?_ _ | refine blk_drew ?_ | refine blk_alloc ?_ _)); exact BK213.out) hb)
                    have n4_ := Aside0.mk (below_step (by repeat (first | (with_reducible first | exact HB.out | apply below_alloc | apply pw_below_drewN | apply below_drew1 | refine below_set ?_ GE213.out) | exact HB.out)) hb)
                    clear HO_0
                    clear HO_21
                    clear HO228
                    clear BK213
                    clear HB
                    have HO_0 := n0_
                    have HO_21 := n1_
                    have HO228 := n2_
                    have BK213 := n3_
                    have HB := n4_
                    clear n0_ n1_ n2_ n3_ n4_
                    (try clear hb)
                    (try clear hb2)
                    (try clear hk)
                    (try clear hi)
                    refine hK.out _ _ trivial (fun hHeld => ?_)
                    clear hK K
                    refine norm_ (a' := ?_) ?_ ?_
                    rotate_left
                    · show Act.put _ (some 36) _ = _
                      simp only [Act.put, List.setIfInBounds_toArray, List.set_cons_zero, List.set_cons_succ, i64_w, i32_w]
                      rfl
                    refine one_ (i := 6) (N := none) #[true, true, true, true, true, true, true, false, false] rfl rfl (one_of HT_.out (by kernel_rfl)) (by decide) (fun K hK => ?_)
                    have hs18 : w17.cell? ⟨gb213, 0, none⟩ = some (.bool false) := (blk_cell BK213.out 0).trans rfl
                    have hfs18 := blk_frozen BK213.out 0
                    have hs19 : w17.cell? ⟨gb213, 1, none⟩ = some (.string (⟨#[]⟩ : ByteArray)) := (blk_cell BK213.out 1).trans rfl
                    have hfs19 := blk_frozen BK213.out 1
                    have hs20 : w17.cell? ⟨gb213, 2, none⟩ = some (.int .i64 0) := (blk_cell BK213.out 2).trans rfl
                    have hfs20 := blk_frozen BK213.out 2
                    refine skip_ (w1 := ?_) (by rfl) rfl ?_ ?_
                    rotate_left
                    · go_simp
                      rfl
                    refine hK.out _ _ trivial (fun hHeld => ?_)
                    clear hK K
                    refine pure_ (i := 7) (N := some 3) (v := ?_) (a' := ?_) #[true, true, true, true, true, true, true, true, false] rfl rfl (any_of HT_.out (by kernel_rfl)) (fun _ _ _ h => h) (Or.inl ⟨by rfl, ?_⟩) ?_ ?_
                    rotate_left
                    · intro w'
                      go_simp
                      with_reducible rfl
                    rotate_left
                    · simp only [Act.put, List.setIfInBounds_toArray, List.set_cons_zero, List.set_cons_succ, i64_w, i32_w]
                      rfl
                    refine pure_ (i := 8) (N := some 4) (v := ?_) (a' := ?_) #[true, true, true, true, true, true, true, true, true] rfl rfl (any_of HT_.out (by kernel_rfl)) (fun _ _ _ h => h) (Or.inl ⟨by rfl, ?_⟩) ?_ ?_
                    rotate_left
                    · intro w'
                      go_simp
                      with_reducible rfl
                    rotate_left
                    · simp only [Act.put, List.setIfInBounds_toArray, List.set_cons_zero, List.set_cons_succ, i64_w, i32_w]
                      rfl
                    refine done_ (done_of HT_.out (by kernel_rfl)) ?_
                    try go_wp2
                    refine bodyPost_ret (results_ctt rfl _ _ gb213 31 #[.bool t221, .string t222, .int .i64 t223] (0, 0) _ rfl (by (with_reducible repeat (first | refine blk_drewN ?_ _ | refine blk_drew ?_ | refine blk_alloc ?_ _)); refine blk_put (cs := #[.bool t221, .string t222, .int .i64 0]) ?_ 2 _ rfl; (with_reducible repeat (first | refine blk_drewN ?_ _ | refine blk_drew ?_ | refine blk_alloc ?_ _)); refine blk_put (cs := #[.bool t221, .string (⟨#[]⟩ : ByteArray), .int .i64 0]) ?_ 1 _ rfl; (with_reducible repeat (first | refine blk_drewN ?_ _ | refine blk_drew ?_ | refine blk_alloc ?_ _)); refine blk_put (cs := #[.bool false, .string (⟨#[]⟩ : ByteArray), .int .i64 0]) ?_ 0 _ rfl; (with_reducible repeat (first | refine blk_drewN ?_ _ | refine blk_drew ?_ | refine blk_alloc ?_ _)); exact BK213.out) Tryd.underlying31 rfl (by kernel_rfl)) rfl ?_
                    exact ⟨_, by first | rfl | (simp [errW_none, errW_some] <;> rfl) | (simp [*, errW_none, errW_some] <;> rfl), by (with_reducible repeat (first | apply Kd.V_alloc | apply Kd.V_drewN | apply Kd.V_drew)); exact Kd.V_mono (Kd.V_far (p := ⟨gb213, 2, none⟩) (Kd.V_far (p := ⟨gb213, 1, none⟩) (Kd.V_far (p := ⟨gb213, 0, none⟩) (Kd.V_mono HO228.out (fun k_ hk => (⟨hk, hk.2⟩ : _ ∧ k_ ≠ gb213))) (fun _ hk => hk.2) (.bool t221)) (fun _ hk => hk.2) (.string t222)) (fun _ hk => hk.2) (.int .i64 t223)) (fun _ hk => hk.1.1), by repeat (first | (with_reducible first | exact HB.out | apply below_alloc | apply pw_below_drewN | apply below_drew1 | refine below_set ?_ GE213.out) | exact HB.out)⟩
                  · rw [if_neg c14] at H
                    exact absurd H (by simp)
          · rw [if_neg c8] at H
            exact absurd H (by simp)
        · rw [if_neg c7] at H
          exact absurd H (by simp)
      · replace c6 := Bool.eq_false_iff.mpr c6
        subst c6
        have H1 : (if 0 < (l0.length : Int) then (if (rd l0 0) = 2 then (if 1 ≤ (l0.length : Int) then (key_take.l1 kj1 ([] : List Int) (l0.drop 1)) else (none)) else (some (false, (⟨#[]⟩ : ByteArray), 0, ([] : List Int), false))) else (none)) = some (r1, r2, r3, r4, r5) := by rw [if_neg (show ¬ (false = true) by decide)] at H; exact H
        clear H
        have H := H1
        clear H1
        by_cases c21 : 0 < (l0.length : Int)
        · rw [if_pos c21] at H
          have c21b0 : decide (0 < (l0.length : Int)) = true := decide_eq_true c21
          have c21b1 : decide (0 < l0.length) = true := decide_eq_true (by omega)
          clear c21
          by_cases c22 : (rd l0 0) = 2
          · rw [if_pos c22] at H
            have c22b0 : ((rd l0 0) == 2) = true := beq_iff_eq.mpr c22
            have c22b1 : ((rd l0 0) != 2) = false := bne_eq_false_iff_eq.mpr c22
            clear c22
            by_cases c23 : 1 ≤ (l0.length : Int)
            · rw [if_pos c23] at H
              have c23b0 := eq_true c23
              have c23b1 : decide (1 ≤ (l0.length : Int)) = true := decide_eq_true c23
              clear c23
              obtain ⟨y230, hy230⟩ : ∃ y_ : List Int, y_ = (l0.drop 1) := ⟨_, rfl⟩
              replace H : (key_take.l1 kj1 ([] : List Int) y230) = some (r1, r2, r3, r4, r5) := by first | (rw [hy230]; with_reducible exact H) | (have H2_ := (Option.bind_some _ _).symm.trans H; rw [hy230]; with_reducible exact H2_) | (have H2_ := (Option.bind_some _ _).symm.trans H; with_reducible exact H2_) | with_reducible exact H | (rw [hy230]; exact H) | exact H
              have Ny230 := Aside0.mk hy230
              clear hy230
              have H' := Aside0.mk H
              clear H
              have p229 : 0 ≤ (0 : Int) := (by omega)
              have q229 : 0 < (l0.length : Int) := of_decide_eq_true (by first | (with_reducible assumption) | assumption)
              obtain ⟨ad229, e229, hx229_0⟩ := Kd.at_int (Kd.V_reads' HO_0.out).2.2 0 p229 q229
              cases e229
              have qi229 : (0 < l0.length) = True := eq_true (by omega)
              (try rw [show ((0 : Int)).toNat = 0 from rfl] at hx229_0)
              (try rw [Addr.add_zero'] at hx229_0)
              replace p229 := eq_true p229
              replace q229 := eq_true q229
              have q24 : (1 : Int) ≤ ((l0.length : Int) : Int) := of_decide_eq_true (by first | (with_reducible assumption) | assumption)
              obtain ⟨i024, hi024, _, hsz24, _⟩ := info_parts info5
              have hroom24 : l0.length ≤ c0 := (Kd.V_reads' HO_0.out).2.1
              have hC24 : Kd.F (Kd.int .u8) _ _ (some ad229) l0.length l0 := (Kd.V_at (base := w.heap.size) HO_0.out).2.2
              have hcut24 := cut_from (P := Tryd.prog) 22 5 .i64 Tryd.underlying22 hi024 1 hsz24 (some ad229) l0.length c0 1 (by omega) q24
              have hr24 := Kd.F_cut (m := (1 : Int).toNat) (c := c0) hC24 (by omega) hroom24
              obtain ⟨A24, hA24⟩ : ∃ A1, A1 = (if c0 = (1 : Int).toNat then (some ad229) else ((some ad229) : Option Addr).map (·.add ((1 : Int).toNat * 1))) := ⟨_, rfl⟩
              obtain ⟨c24, hc24⟩ : ∃ c1, c1 = c0 - (1 : Int).toNat := ⟨_, rfl⟩
              have hy24 : y230.length = l0.length - (1 : Int).toNat := (by rw [Ny230.out, List.length_drop] <;> omega)
              rw [show (l0).drop (1 : Int).toNat = y230 from Ny230.out.symm] at hr24
              replace hr24 : Kd.F (Kd.int .u8) _ _ A24 y230.length y230 := (by rw [hA24]; exact hr24)
              rw [← hy24, ← hA24, ← hc24] at hcut24
              have HO234 := Aside0.mk (show Kd.V (Kd.int .u8) 5 _ w.heap.size _ (.slice A24 y230.length c24) y230 from Kd.V_mk (by rw [hy24, hc24]; exact Nat.sub_le_sub_right hroom24 _) hr24)
              have HC234 := Aside0.mk (show y230.length ≤ c24 from by rw [hy24, hc24]; exact Nat.sub_le_sub_right hroom24 _)
              clear hr24 hC24 hroom24 hi024 hsz24 hc24
              have KY24 := Aside0.mk hy24
              have KA24 := Aside0.mk hA24
              clear hy24 hA24
              replace q24 := eq_true q24
              go_wp2
              go_loopg [8, 9] kj1 (fun kq v8 v9 w' => ∃ (x8_2 : List Int) (x9_2 : List Int) (x214000_2 : Bool) (x214001_2 : ByteArray) (x214002_2 : Int), Aside0 (key_take.l1 kq x8_2 x9_2 = some (r1, r2, r3, r4, r5)) ∧ Aside0 (kq ≤ kj1) ∧ Aside0 (Kd.R (Kd.int .u8) 5 w' w.heap.size (fun k_ => (w.heap.size ≤ k_)) v8 x8_2) ∧ Aside0 (Kd.V (Kd.int .u8) 5 w' w.heap.size (fun k_ => (P0_ k_ ∨ w.heap.size ≤ k_) ∧ some k_ ≠ (v8 : Value).ownBlock ∧ k_ ≠ gb213) v9 x9_2) ∧ Aside0 (w'.heap[gb213]? = some (.cells #[.bool x214000_2, .string x214001_2, .int .i64 x214002_2] 31 (0, 0))) ∧ Aside0 (Below w.heap.size w w'))
              case atStart => exact ⟨(([] : List Int)), (y230), (false), ((⟨#[]⟩ : ByteArray)), (0), H', ⟨Nat.le_refl _⟩, ⟨by first | exact Kd.R_nil _ _ _ _ _ | exact Kd.N_nil _ _ _ _ _ | exact Kd.V_nil _ _ _ _ _ | exact Kd.Q_nil _ _ _ _ _ | exact Kd.S_nil _ _ _ _ _⟩, ⟨by (with_reducible repeat (first | apply Kd.V_alloc | apply Kd.V_drewN | apply Kd.V_drew)); exact Kd.V_mono HO234.out (fun _ hk => ⟨hk.1, ⟨(by simp [Value.ownBlock]), hk.2⟩⟩)⟩, ⟨by (with_reducible repeat (first | refine blk_drewN ?_ _ | refine blk_drew ?_ | refine blk_alloc ?_ _)); exact BK213.out⟩, ⟨by repeat (first | (with_reducible first | exact HB.out | apply below_alloc | apply pw_below_drewN | apply below_drew1 | refine below_set ?_ GE213.out) | exact HB.out)⟩⟩
              case round =>
                clear H'
                try clear c1
                try clear q1
                try clear c2
                try clear p2
                try clear q2
                try clear hx2
                try clear qi2
                try clear c3
                try clear c4
                try clear c4b0
                try clear c4b1
                try clear c5
                try clear c5b0
                try clear c5b1
                try clear c6
                try clear p6
                try clear c7
                try clear c7b0
                try clear c7b1
                try clear c8
                try clear c8b0
                try clear c8b1
                try clear c9
                try clear q9
                try clear c10
                try clear c10b0
                try clear c11
                try clear c11b0
                try clear c12
                try clear c12b0
                try clear c14
                try clear c14b0
                try clear c14b1
                try clear c16
                try clear q16
                try clear c17
                try clear c21
                try clear c21b0
                try clear c21b1
                try clear p21
                try clear q21
                try clear hx21
                try clear qi21
                try clear c22
                try clear c22b0
                try clear c22b1
                try clear p22
                try clear q22
                try clear hx22
                try clear qi22
                try clear c23
                try clear c23b0
                try clear c23b1
                try clear c24
                try clear q24
                try clear hx214_0
                try clear hx220_0
                try clear hx229_0
                try clear p2
                try clear p214
                try clear p220
                try clear p229
                try clear q16
                try clear q2
                try clear q214
                try clear q220
                try clear q229
                try clear q24
                try clear q9
                obtain ⟨x8_2, x9_2, x214000_2, x214001_2, x214002_2, HA, HK2, HO_8, HO_9, BK213, HB⟩ := hrel
                cases gk with
                | zero => exact absurd HA.out (by simp [key_take.l1])
                | succ k2 =>
                  have H := HA.out
                  clear HA
                  simp only [key_take.l1] at H
                  replace H := Option.bind_eq_some_iff.mp H
                  obtain ⟨t235, A250, H⟩ := H
                  replace H : (if t235 < 0 then (key_take.j3 k2 x8_2 x9_2 t235 true) else (if (wrap64 (t235 + 1)) = (x9_2.length : Int) then (key_take.j3 k2 x8_2 x9_2 t235 true) else (if 0 ≤ (wrap64 (t235 + 1)) then (if (wrap64 (t235 + 1)) < (x9_2.length : Int) then (if (rd x9_2 (wrap64 (t235 + 1))) = 1 then (key_take.j3 k2 x8_2 x9_2 t235 false) else (key_take.j3 k2 x8_2 x9_2 t235 ((rd x9_2 (wrap64 (t235 + 1))) != 255))) else (none)) else (none)))) = some (r1, r2, r3, r4, r5) := H
                  have A25 := Aside0.mk A250
                  clear A250
                  have HC26 := Aside0.mk H
                  clear H
                  obtain ⟨Ao27, co27, eo27⟩ := Kd.V_slice HO_9.out
                  subst eo27
                  go_upto_region 14 with (first | ((with_reducible refine gate_callee (f := 40) rfl ?_); refine goesL_ (some 47) rfl rfl Tryd.func40 (by kernel_rfl) rfl #[.slice Ao27 x9_2.length co27, .int .u8 0] rfl (by (try simp only [List.map_toArray, List.map_cons, List.map_nil]); first | done | rfl | (simp only [List.length_drop, List.length_take]; rfl)) ?_; (with_reducible refine (bytes_IndexByte.calls _ _ x9_2 0 t235 _ ?side1 ?side2 A25.out).mono ?_); (case side1 => repeat (first | exact (Kd.V_reads' HO_9.out).2.2 | (with_reducible refine Kd.C_alloc ?_ _) | (with_reducible refine Kd.C_drewN ?_ _) | (with_reducible refine Kd.C_drew ?_))); (case side2 => exact (Kd.V_reads' HO_9.out).2.1); rintro e w' ⟨rfl, ⟨nd, rfl⟩⟩; refine ⟨_, rfl, ?_⟩))
                  (try simp only [Act.put, List.setIfInBounds_toArray, List.set_cons_zero, List.set_cons_succ])
                  go_cut [72] (fun v72 wc => ∃ (kq : Nat) (x72_25 : Bool), v72 = .bool x72_25 ∧ Aside0 (key_take.j3 kq x8_2 x9_2 t235 x72_25 = some (r1, r2, r3, r4, r5)) ∧ Aside0 (kq ≤ k2) ∧ Aside0 (Kd.R (Kd.int .u8) 5 wc w.heap.size (fun k_ => (w.heap.size ≤ k_)) u8 x8_2) ∧ Aside0 (Kd.V (Kd.int .u8) 5 wc w.heap.size (fun k_ => (P0_ k_ ∨ w.heap.size ≤ k_) ∧ some k_ ≠ (u8 : Value).ownBlock ∧ k_ ≠ gb213) (.slice Ao27 x9_2.length co27) x9_2) ∧ Aside0 (wc.heap[gb213]? = some (.cells #[.bool x214000_2, .string x214001_2, .int .i64 x214002_2] 31 (0, 0))) ∧ Aside0 (Below w.heap.size w wc))
                  case first =>
                    have H := HC26.out
                    clear HC26
                    by_cases c28 : t235 < 0
                    · rw [if_pos c28] at H
                      have c28b0 : decide (t235 < 0) = true := decide_eq_true c28
                      clear c28
                      (first | rw [c28b0] | (simp only [i64_w, i32_w]; rw [c28b0]) | skip)
                      have H' := Aside0.mk H
                      clear H
                      go_wp2
                      go_meet
                      case rel => exact ⟨_, (true), (by first | rfl | (simp; done) | (simp [*]; done)), H', ⟨by have := HJ1.out; have := HK2.out; first | omega | exact Nat.le_refl _⟩, ⟨by (with_reducible repeat (first | apply Kd.R_alloc | apply Kd.R_drewN | apply Kd.R_drew)); exact HO_8.out⟩, ⟨by (with_reducible repeat (first | apply Kd.V_alloc | apply Kd.V_drewN | apply Kd.V_drew)); exact HO_9.out⟩, ⟨by (with_reducible repeat (first | refine blk_drewN ?_ _ | refine blk_drew ?_ | refine blk_alloc ?_ _)); exact BK213.out⟩, ⟨by repeat (first | (with_reducible first | exact HB.out | apply below_alloc | apply pw_below_drewN | apply below_drew1 | refine below_set ?_ GE213.out) | exact HB.out)⟩⟩
                    · rw [if_neg c28] at H
                      have c28b0 : decide (t235 < 0) = false := decide_eq_false c28
                      clear c28
                      (first | rw [c28b0] | (simp only [i64_w, i32_w]; rw [c28b0]) | skip)
                      by_cases c29 : (wrap64 (t235 + 1)) = (x9_2.length : Int)
                      · rw [if_pos c29] at H
                        have c29b0 : ((wrap64 (t235 + 1)) == (x9_2.length : Int)) = true := beq_iff_eq.mpr c29
                        have c29b1 : ((wrap64 (t235 + 1)) != (x9_2.length : Int)) = false := bne_eq_false_iff_eq.mpr c29
                        clear c29
                        have H' := Aside0.mk H
                        clear H
                        go_wp2
                        go_meet
                        case rel => exact ⟨_, (true), (by first | rfl | (simp; done) | (simp [*]; done)), H', ⟨by have := HJ1.out; have := HK2.out; first | omega | exact Nat.le_refl _⟩, ⟨by (with_reducible repeat (first | apply Kd.R_alloc | apply Kd.R_drewN | apply Kd.R_drew)); exact HO_8.out⟩, ⟨by (with_reducible repeat (first | apply Kd.V_alloc | apply Kd.V_drewN | apply Kd.V_drew)); exact HO_9.out⟩, ⟨by (with_reducible repeat (first | refine blk_drewN ?_ _ | refine blk_drew ?_ | refine blk_alloc ?_ _)); exact BK213.out⟩, ⟨by repeat (first | (with_reducible first | exact HB.out | apply below_alloc | apply pw_below_drewN | apply below_drew1 | refine below_set ?_ GE213.out) | exact HB.out)⟩⟩
                      · rw [if_neg c29] at H
                        have c29b0 : ((wrap64 (t235 + 1)) == (x9_2.length : Int)) = false := beq_eq_false_iff_ne.mpr c29
                        have c29b1 : ((wrap64 (t235 + 1)) != (x9_2.length : Int)) = true := bne_iff_ne.mpr c29
                        obtain ⟨ji30, hji30⟩ : ∃ j_ : Int, (wrap64 (t235 + 1)) = j_ := ⟨_, rfl⟩
                        replace H : (if 0 ≤ (ji30) then (if (ji30) < (x9_2.length : Int) then (if (rd x9_2 (ji30)) = 1 then (key_take.j3 k2 x8_2 x9_2 t235 false) else (key_take.j3 k2 x8_2 x9_2 t235 ((rd x9_2 (ji30)) != 255))) else (none)) else (none)) = some (r1, r2, r3, r4, r5) := by first | (rw [hji30] at H; exact H) | (simp only [hji30] at H ⊢; exact H)
                        (try rw [hji30] at c29b0)
                        (try rw [hji30] at c29b1)
                        have hji30w : (IntKind.i64.wrap (t235 + 1)) = ji30 := (i64_w _).trans hji30
                        by_cases c31 : 0 ≤ (ji30)
                        · rw [if_pos c31] at H
                          have c31b0 : decide (0 ≤ (ji30)) = true := decide_eq_true c31
                          clear c31
                          by_cases c32 : (ji30) < (x9_2.length : Int)
                          · rw [if_pos c32] at H
                            have c32b0 : decide ((ji30) < (x9_2.length : Int)) = true := decide_eq_true c32
                            clear c32
                            by_cases c33 : (rd x9_2 (ji30)) = 1
                            · rw [if_pos c33] at H
                              have c33b0 : ((rd x9_2 (ji30)) == 1) = true := beq_iff_eq.mpr c33
                              have c33b1 : ((rd x9_2 (ji30)) != 1) = false := bne_eq_false_iff_eq.mpr c33
                              clear c33
                              have H' := Aside0.mk H
                              clear H
                              have p236 : 0 ≤ ((ji30) : Int) := of_decide_eq_true (by first | (with_reducible assumption) | assumption)
                              have q236 : (ji30) < (x9_2.length : Int) := of_decide_eq_true (by first | (with_reducible assumption) | assumption)
                              obtain ⟨ad236, e236, hx236_0⟩ := Kd.at_int (Kd.V_reads' HO_9.out).2.2 (ji30) p236 q236
                              cases e236
                              replace p236 := eq_true p236
                              replace q236 := eq_true q236
                              go_wp2
                              go_meet
                              case rel => exact ⟨_, (false), (by first | rfl | (simp; done) | (simp [*]; done)), H', ⟨by have := HJ1.out; have := HK2.out; first | omega | exact Nat.le_refl _⟩, ⟨by (with_reducible repeat (first | apply Kd.R_alloc | apply Kd.R_drewN | apply Kd.R_drew)); exact HO_8.out⟩, ⟨by (with_reducible repeat (first | apply Kd.V_alloc | apply Kd.V_drewN | apply Kd.V_drew)); exact HO_9.out⟩, ⟨by (with_reducible repeat (first | refine blk_drewN ?_ _ | refine blk_drew ?_ | refine blk_alloc ?_ _)); exact BK213.out⟩, ⟨by repeat (first | (with_reducible first | exact HB.out | apply below_alloc | apply pw_below_drewN | apply below_drew1 | refine below_set ?_ GE213.out) | exact HB.out)⟩⟩
                            · rw [if_neg c33] at H
                              have c33b0 : ((rd x9_2 (ji30)) == 1) = false := beq_eq_false_iff_ne.mpr c33
                              have c33b1 : ((rd x9_2 (ji30)) != 1) = true := bne_iff_ne.mpr c33
                              have H' := Aside0.mk H
                              clear H
                              have p236 : 0 ≤ ((ji30) : Int) := of_decide_eq_true (by first | (with_reducible assumption) | assumption)
                              have q236 : (ji30) < (x9_2.length : Int) := of_decide_eq_true (by first | (with_reducible assumption) | assumption)
                              obtain ⟨ad236, e236, hx236_0⟩ := Kd.at_int (Kd.V_reads' HO_9.out).2.2 (ji30) p236 q236
                              cases e236
                              replace p236 := eq_true p236
                              replace q236 := eq_true q236
                              have p237 : 0 ≤ ((ji30) : Int) := of_decide_eq_true (by first | (with_reducible assumption) | assumption)
                              have q237 : (ji30) < (x9_2.length : Int) := of_decide_eq_true (by first | (with_reducible assumption) | assumption)
                              obtain ⟨ad237, e237, hx237_0⟩ := Kd.at_int (Kd.V_reads' HO_9.out).2.2 (ji30) p237 q237
                              obtain rfl : ad236 = ad237 := (by injection e237)
                              replace p237 := eq_true p237
                              replace q237 := eq_true q237
                              go_wp2
                              go_meet
                              case rel => exact ⟨_, (((rd x9_2 (ji30)) != 255)), (by first | rfl | (simp; done) | (simp only [← hji30] <;> (first | rfl | simp)) | (simp [*]; done)), H', ⟨by have := HJ1.out; have := HK2.out; first | omega | exact Nat.le_refl _⟩, ⟨by (with_reducible repeat (first | apply Kd.R_alloc | apply Kd.R_drewN | apply Kd.R_drew)); exact HO_8.out⟩, ⟨by (with_reducible repeat (first | apply Kd.V_alloc | apply Kd.V_drewN | apply Kd.V_drew)); exact HO_9.out⟩, ⟨by (with_reducible repeat (first | refine blk_drewN ?_ _ | refine blk_drew ?_ | refine blk_alloc ?_ _)); exact BK213.out⟩, ⟨by repeat (first | (with_reducible first | exact HB.out | apply below_alloc | apply pw_below_drewN | apply below_drew1 | refine below_set ?_ GE213.out) | exact HB.out)⟩⟩
                          · rw [if_neg c32] at H
                            exact absurd H (by simp)
                        · rw [if_neg c31] at H
                          exact absurd H (by simp)
                  case rest =>
                    clear HC26
                    try clear c1
                    try clear q1
                    try clear c2
                    try clear p2
                    try clear q2
                    try clear hx2
                    try clear qi2
                    try clear c3
                    try clear c4
                    try clear c4b0
                    try clear c4b1
                    try clear c5
                    try clear c5b0
                    try clear c5b1
                    try clear c6
                    try clear p6
                    try clear c7
                    try clear c7b0
                    try clear c7b1
                    try clear c8
                    try clear c8b0
                    try clear c8b1
                    try clear c9
                    try clear q9
                    try clear c10
                    try clear c10b0
                    try clear c11
                    try clear c11b0
                    try clear c12
                    try clear c12b0
                    try clear c14
                    try clear c14b0
                    try clear c14b1
                    try clear c16
                    try clear q16
                    try clear c17
                    try clear c21
                    try clear c21b0
                    try clear c21b1
                    try clear p21
                    try clear q21
                    try clear hx21
                    try clear qi21
                    try clear c22
                    try clear c22b0
                    try clear c22b1
                    try clear p22
                    try clear q22
                    try clear hx22
                    try clear qi22
                    try clear c23
                    try clear c23b0
                    try clear c23b1
                    try clear p23
                    try clear q23
                    try clear hx23
                    try clear c24
                    try clear q24
                    try clear c28
                    try clear c28b0
                    try clear c29
                    try clear c29b0
                    try clear c29b1
                    try clear c31
                    try clear c31b0
                    try clear c32
                    try clear c32b0
                    try clear c33
                    try clear c33b0
                    try clear c33b1
                    try clear hx214_0
                    try clear hx220_0
                    try clear hx229_0
                    try clear hx236_0
                    try clear hx237_0
                    try clear p2
                    try clear p21
                    try clear p214
                    try clear p22
                    try clear p220
                    try clear p229
                    try clear p236
                    try clear p237
                    try clear p6
                    try clear q1
                    try clear q16
                    try clear q2
                    try clear q21
                    try clear q214
                    try clear q22
                    try clear q220
                    try clear q229
                    try clear q236
                    try clear q237
                    try clear q24
                    try clear q9
                    obtain ⟨kq, x72_25, rfl, HA, HJ25, HO_8, HO_9, BK213, HB⟩ := hcut
                    cases kq with
                    | zero => exact absurd HA.out (by simp [key_take.j3])
                    | succ kj25 =>
                      have H := HA.out
                      clear HA
                      simp only [key_take.j3] at H
                      by_cases c34 : x72_25 = true
                      · subst c34
                        have H1 : (some (false, (⟨#[]⟩ : ByteArray), 0, ([] : List Int), false)) = some (r1, r2, r3, r4, r5) := by rw [if_pos rfl] at H; exact H
                        clear H
                        have H := H1
                        clear H1
                        simp only [Option.some.injEq, Prod.mk.injEq] at H
                        obtain ⟨rfl, rfl, rfl, rfl, rfl⟩ := H
                        have hcz35_0 : wc.cell? ⟨gb213, 0, none⟩ = some (.bool x214000_2) := (blk_cell BK213.out 0).trans rfl
                        have hcz35_1 : wc.cell? ⟨gb213, 1, none⟩ = some (.string x214001_2) := (blk_cell BK213.out 1).trans rfl
                        have hcz35_2 : wc.cell? ⟨gb213, 2, none⟩ = some (.int .i64 x214002_2) := (blk_cell BK213.out 2).trans rfl
                        have hfz35_0 := blk_frozen BK213.out 0
                        have hfz35_1 := blk_frozen BK213.out 1
                        have hfz35_2 := blk_frozen BK213.out 2
                        go_wp2
                        refine bodyPost_ret (results_ctt rfl _ _ gb213 31 #[.bool false, .string (⟨#[]⟩ : ByteArray), .int .i64 0] (0, 0) _ rfl (by (with_reducible repeat (first | refine blk_drewN ?_ _ | refine blk_drew ?_ | refine blk_alloc ?_ _)); refine blk_put (cs := #[.bool false, .string (⟨#[]⟩ : ByteArray), .int .i64 x214002_2]) ?_ 2 _ rfl; (with_reducible repeat (first | refine blk_drewN ?_ _ | refine blk_drew ?_ | refine blk_alloc ?_ _)); refine blk_put (cs := #[.bool false, .string x214001_2, .int .i64 x214002_2]) ?_ 1 _ rfl; (with_reducible repeat (first | refine blk_drewN ?_ _ | refine blk_drew ?_ | refine blk_alloc ?_ _)); refine blk_put (cs := #[.bool x214000_2, .string x214001_2, .int .i64 x214002_2]) ?_ 0 _ rfl; (with_reducible repeat (first | refine blk_drewN ?_ _ | refine blk_drew ?_ | refine blk_alloc ?_ _)); exact BK213.out) Tryd.underlying31 rfl (by kernel_rfl)) rfl ?_
                        exact ⟨_, by first | rfl | (simp [errW_none, errW_some] <;> rfl) | (simp [*, errW_none, errW_some] <;> rfl), Kd.V_mono (Kd.V_nil _ _ _ _ _) (fun k_ hk => by first | exact ⟨(.inr (hk.1)), hk.2⟩ | exact (.inr (hk))), by repeat (first | (with_reducible first | exact HB.out | apply below_alloc | apply pw_below_drewN | apply below_drew1 | refine below_set ?_ GE213.out) | exact HB.out)⟩
                      · replace c34 := Bool.eq_false_iff.mpr c34
                        subst c34
                        have H1 : (if 0 ≤ t235 then (if t235 ≤ (x9_2.length : Int) then ((some (x9_2.take (t235 : Int).toNat : List Int)).bind fun y238 => (if x8_2.length + y238.length < 140737488355328 then ((some (x8_2 ++ y238 : List Int)).bind fun y243 => (if 0 ≤ (wrap64 (t235 + 1)) then (if (wrap64 (t235 + 1)) < (x9_2.length : Int) then (if (rd x9_2 (wrap64 (t235 + 1))) = 1 then ((key_Str.f (strOfNums y243)).bind fun bt247 => (if 0 ≤ (wrap64 (t235 + 2)) then (if (wrap64 (t235 + 2)) ≤ (x9_2.length : Int) then (some (bt247.1, bt247.2.1, bt247.2.2, (x9_2.drop ((wrap64 (t235 + 2)) : Int).toNat), true)) else (none)) else (none))) else (if y243.length < 140737488355328 then (if 0 ≤ (wrap64 (t235 + 2)) then (if (wrap64 (t235 + 2)) ≤ (x9_2.length : Int) then (key_take.l1 kj25 (y243 ++ [0]) (x9_2.drop ((wrap64 (t235 + 2)) : Int).toNat)) else (none)) else (none)) else (none))) else (none)) else (none))) else (none))) else (none)) else (none)) = some (r1, r2, r3, r4, r5) := by rw [if_neg (show ¬ (false = true) by decide)] at H; exact H
                        clear H
                        have H := H1
                        clear H1
                        by_cases c36 : 0 ≤ t235
                        · rw [if_pos c36] at H
                          have c36b0 := eq_true c36
                          have c36b1 : decide (0 ≤ t235) = true := decide_eq_true c36
                          clear c36
                          by_cases c37 : t235 ≤ (x9_2.length : Int)
                          · rw [if_pos c37] at H
                            have c37b0 := eq_true c37
                            have c37b1 : decide (t235 ≤ (x9_2.length : Int)) = true := decide_eq_true c37
                            clear c37
                            obtain ⟨y238, hy238⟩ : ∃ y_ : List Int, y_ = (x9_2.take (t235 : Int).toNat) := ⟨_, rfl⟩
                            replace H : (if x8_2.length + y238.length < 140737488355328 then ((some (x8_2 ++ y238 : List Int)).bind fun y243 => (if 0 ≤ (wrap64 (t235 + 1)) then (if (wrap64 (t235 + 1)) < (x9_2.length : Int) then (if (rd x9_2 (wrap64 (t235 + 1))) = 1 then ((key_Str.f (strOfNums y243)).bind fun bt247 => (if 0 ≤ (wrap64 (t235 + 2)) then (if (wrap64 (t235 + 2)) ≤ (x9_2.length : Int) then (some (bt247.1, bt247.2.1, bt247.2.2, (x9_2.drop ((wrap64 (t235 + 2)) : Int).toNat), true)) else (none)) else (none))) else (if y243.length < 140737488355328 then (if 0 ≤ (wrap64 (t235 + 2)) then (if (wrap64 (t235 + 2)) ≤ (x9_2.length : Int) then (key_take.l1 kj25 (y243 ++ [0]) (x9_2.drop ((wrap64 (t235 + 2)) : Int).toNat)) else (none)) else (none)) else (none))) else (none)) else (none))) else (none)) = some (r1, r2, r3, r4, r5) := by first | (rw [hy238]; with_reducible exact H) | (have H2_ := (Option.bind_some _ _).symm.trans H; rw [hy238]; with_reducible exact H2_) | (have H2_ := (Option.bind_some _ _).symm.trans H; with_reducible exact H2_) | with_reducible exact H | (rw [hy238]; exact H) | exact H
                            have Ny238 := Aside0.mk hy238
                            clear hy238
                            by_cases c38 : x8_2.length + y238.length < 140737488355328
                            · rw [if_pos c38] at H
                              have LMc38 := Aside0.mk c38
                              clear c38
                              obtain ⟨y243, hy243⟩ : ∃ y_ : List Int, y_ = (x8_2 ++ y238) := ⟨_, rfl⟩
                              replace H : (if 0 ≤ (wrap64 (t235 + 1)) then (if (wrap64 (t235 + 1)) < (x9_2.length : Int) then (if (rd x9_2 (wrap64 (t235 + 1))) = 1 then ((key_Str.f (strOfNums y243)).bind fun bt247 => (if 0 ≤ (wrap64 (t235 + 2)) then (if (wrap64 (t235 + 2)) ≤ (x9_2.length : Int) then (some (bt247.1, bt247.2.1, bt247.2.2, (x9_2.drop ((wrap64 (t235 + 2)) : Int).toNat), true)) else (none)) else (none))) else (if y243.length < 140737488355328 then (if 0 ≤ (wrap64 (t235 + 2)) then (if (wrap64 (t235 + 2)) ≤ (x9_2.length : Int) then (key_take.l1 kj25 (y243 ++ [0]) (x9_2.drop ((wrap64 (t235 + 2)) : Int).toNat)) else (none)) else (none)) else (none))) else (none)) else (none)) = some (r1, r2, r3, r4, r5) := by first | (rw [hy243]; with_reducible exact H) | (have H2_ := (Option.bind_some _ _).symm.trans H; rw [hy243]; with_reducible exact H2_) | (have H2_ := (Option.bind_some _ _).symm.trans H; with_reducible exact H2_) | with_reducible exact H | (rw [hy243]; exact H) | exact H
                              have Ny243 := Aside0.mk hy243
                              clear hy243
                              obtain ⟨ji39, hji39⟩ : ∃ j_ : Int, (wrap64 (t235 + 1)) = j_ := ⟨_, rfl⟩
                              replace H : (if 0 ≤ (ji39) then (if (ji39) < (x9_2.length : Int) then (if (rd x9_2 (ji39)) = 1 then ((key_Str.f (strOfNums y243)).bind fun bt247 => (if 0 ≤ (wrap64 (t235 + 2)) then (if (wrap64 (t235 + 2)) ≤ (x9_2.length : Int) then (some (bt247.1, bt247.2.1, bt247.2.2, (x9_2.drop ((wrap64 (t235 + 2)) : Int).toNat), true)) else (none)) else (none))) else (if y243.length < 140737488355328 then (if 0 ≤ (wrap64 (t235 + 2)) then (if (wrap64 (t235 + 2)) ≤ (x9_2.length : Int) then (key_take.l1 kj25 (y243 ++ [0]) (x9_2.drop ((wrap64 (t235 + 2)) : Int).toNat)) else (none)) else (none)) else (none))) else (none)) else (none)) = some (r1, r2, r3, r4, r5) := by first | (rw [hji39] at H; exact H) | (simp only [hji39] at H ⊢; exact H)
                              have hji39w : (IntKind.i64.wrap (t235 + 1)) = ji39 := (i64_w _).trans hji39
                              by_cases c40 : 0 ≤ (ji39)
                              · rw [if_pos c40] at H
                                have c40b0 : decide (0 ≤ (ji39)) = true := decide_eq_true c40
                                clear c40
                                by_cases c41 : (ji39) < (x9_2.length : Int)
                                · rw [if_pos c41] at H
                                  have c41b0 : decide ((ji39) < (x9_2.length : Int)) = true := decide_eq_true c41
                                  clear c41
                                  by_cases c42 : (rd x9_2 (ji39)) = 1
                                  · rw [if_pos c42] at H
                                    have c42b0 : ((rd x9_2 (ji39)) == 1) = true := beq_iff_eq.mpr c42
                                    have c42b1 : ((rd x9_2 (ji39)) != 1) = false := bne_eq_false_iff_eq.mpr c42
                                    clear c42
                                    replace H := Option.bind_eq_some_iff.mp H
                                    obtain ⟨⟨t247, t248, t249⟩, A430, H⟩ := H
                                    replace H : (if 0 ≤ (wrap64 (t235 + 2)) then (if (wrap64 (t235 + 2)) ≤ (x9_2.length : Int) then (some (t247, t248, t249, (x9_2.drop ((wrap64 (t235 + 2)) : Int).toNat), true)) else (none)) else (none)) = some (r1, r2, r3, r4, r5) := H
                                    have A43 := Aside0.mk A430
                                    clear A430
                                    obtain ⟨ji44, hji44⟩ : ∃ j_ : Int, (wrap64 (t235 + 2)) = j_ := ⟨_, rfl⟩
                                    replace H : (if 0 ≤ (ji44) then (if (ji44) ≤ (x9_2.length : Int) then (some (t247, t248, t249, (x9_2.drop ((ji44) : Int).toNat), true)) else (none)) else (none)) = some (r1, r2, r3, r4, r5) := by first | (rw [hji44] at H; exact H) | (simp only [hji44] at H ⊢; exact H)
                                    (try rw [hji44] at A43)
                                    have hji44w : (IntKind.i64.wrap (t235 + 2)) = ji44 := (i64_w _).trans hji44
                                    by_cases c45 : 0 ≤ (ji44)
                                    · rw [if_pos c45] at H
                                      have c45b0 := eq_true c45
                                      have c45b1 : decide (0 ≤ (ji44)) = true := decide_eq_true c45
                                      clear c45
                                      by_cases c46 : (ji44) ≤ (x9_2.length : Int)
                                      · rw [if_pos c46] at H
                                        have c46b0 := eq_true c46
                                        have c46b1 : decide ((ji44) ≤ (x9_2.length : Int)) = true := decide_eq_true c46
                                        clear c46
                                        obtain ⟨y250, hy250⟩ : ∃ y_ : List Int, y_ = (x9_2.drop ((ji44) : Int).toNat) := ⟨_, rfl⟩
                                        replace H : (some (t247, t248, t249, y250, true)) = some (r1, r2, r3, r4, r5) := by first | (rw [hy250]; with_reducible exact H) | (have H2_ := (Option.bind_some _ _).symm.trans H; rw [hy250]; with_reducible exact H2_) | (have H2_ := (Option.bind_some _ _).symm.trans H; with_reducible exact H2_) | with_reducible exact H | (rw [hy250]; exact H) | exact H
                                        have Ny250 := Aside0.mk hy250
                                        clear hy250
                                        simp only [Option.some.injEq, Prod.mk.injEq] at H
                                        obtain ⟨rfl, rfl, rfl, rfl, rfl⟩ := H
                                        have q47 : (t235 : Int) ≤ ((x9_2.length : Int) : Int) := of_decide_eq_true (by first | (with_reducible assumption) | assumption)
                                        obtain ⟨i047, hi047, _, hsz47, _⟩ := info_parts info5
                                        have hroom47 : x9_2.length ≤ co27 := (Kd.V_reads' HO_9.out).2.1
                                        have hC47 : Kd.F (Kd.int .u8) _ _ Ao27 x9_2.length x9_2 := (Kd.V_at (base := w.heap.size) HO_9.out).2.2
                                        have hcut47 := cut_to (P := Tryd.prog) 22 5 .i64 Tryd.underlying22 hi047 Ao27 x9_2.length co27 t235 (of_decide_eq_true (by first | (with_reducible assumption) | assumption)) q47 hroom47
                                        have hr47 := Kd.F_take (m := (t235 : Int).toNat) hC47 (by omega)
                                        have hy47 : y238.length = (t235 : Int).toNat := (by rw [Ny238.out, List.length_take]; omega)
                                        rw [← Ny238.out] at hr47
                                        rw [← hy47] at hcut47
                                        have HO242 := Aside0.mk (show Kd.V (Kd.int .u8) 5 _ w.heap.size _ (.slice Ao27 y238.length co27) y238 from Kd.V_mk (by omega) hr47)
                                        have HC242 := Aside0.mk (show y238.length ≤ co27 from by omega)
                                        clear hr47 hC47 hroom47 hi047 hsz47
                                        have KY47 := Aside0.mk hy47
                                        clear hy47
                                        replace q47 := eq_true q47
                                        try go_wp2_with (first | ((with_reducible refine gate_builtin (b := .append) (xs := #[.tmp 74, .tmp 77]) rfl ?_); (try (refine gate_guard (by rfl) ?_; dsimp only)); at_builtin; refine Kd.R_append_rows (Kd.int .u8) (w0 := w) w.heap.size rfl (.tmp 74) (.tmp 77) 22 5 (.int .u8 0) 1 rfl Tryd.underlying22 info5 rfl (by decide) (by omega) u8 x8_2 y238 _ _ _ (fun k_ => (w.heap.size ≤ k_)) (fun _ => False) rfl rfl ?aO ?aR (fun _ _ h => h) (fun _ h => h.elim) ?aF ?aB ?aS ?aL ?_; (case aR => repeat (first | exact (Kd.V_reads' HO242.out).2.2 | (with_reducible refine Kd.C_alloc ?_ _) | (with_reducible refine Kd.C_drewN ?_ _) | (with_reducible refine Kd.C_drew ?_))); (case aB => exact (by repeat (first | (with_reducible first | exact HB.out | apply below_alloc | apply pw_below_drewN | apply below_drew1 | refine below_set ?_ GE213.out) | exact HB.out))); (case aF => exact (fun k_ hk => (Nat.le_trans (below_size (by repeat (first | (with_reducible first | exact HB.out | apply below_alloc | apply pw_below_drewN | apply below_drew1 | refine below_set ?_ GE213.out) | exact HB.out))) hk))); (case aO => exact (by (with_reducible repeat (first | apply Kd.R_alloc | apply Kd.R_drewN | apply Kd.R_drew)); exact HO_8.out)); (case aS => exact (below_size (by repeat (first | (with_reducible first | exact HB.out | apply below_alloc | apply pw_below_drewN | apply below_drew1 | refine below_set ?_ GE213.out) | exact HB.out)))); (case aL => have := LMc38.out; omega); intro v244 w48 ho hb hg hat; rw [← Ny243.out] at ho; have n0_ := Aside0.mk (Kd.V_afterv (ok := (fun k_ => (P0_ k_ ∨ w.heap.size ≤ k_) ∧ k_ ≠ gb213)) (by (with_reducible repeat (first | apply Kd.V_alloc | apply Kd.V_drewN | apply Kd.V_drew)); exact Kd.V_mono HO_9.out (fun _ hk => ⟨⟨hk.1, hk.2.2⟩, hk.2.1⟩)) hg hat); have n1_ := Aside0.mk (blk_grown (g := gb213) (o := .cells #[.bool x214000_2, .string x214001_2, .int .i64 x214002_2] 31 (0, 0)) (by (with_reducible repeat (first | refine blk_drewN ?_ _ | refine blk_drew ?_ | refine blk_alloc ?_ _)); exact BK213.out) hg (Kd.R_ne HO_8.out BK213.out (by decide))); have n2_ := Aside0.mk (Kd.V_afterv (ok := (fun k_ => (P0_ k_ ∨ w.heap.size ≤ k_) ∧ k_ ≠ gb213)) (by (with_reducible repeat (first | apply Kd.V_alloc | apply Kd.V_drewN | apply Kd.V_drew)); exact Kd.V_mono HO242.out (fun _ hk => ⟨⟨hk.1, hk.2.2⟩, hk.2.1⟩)) hg hat); have n3_ := Aside0.mk (hb); have n4_ := Aside0.mk (ho); clear HO_9; clear BK213; clear HO242; clear HB; clear HO_8; have HO_9 := n0_; have BK213 := n1_; have HO242 := n2_; have HB := n3_; have HO245 := n4_; clear n0_ n1_ n2_ n3_ n4_; clear ho hb hg hat; have p246 : 0 ≤ ((ji39) : Int) := of_decide_eq_true (by first | (with_reducible assumption) | assumption); have q246 : (ji39) < (x9_2.length : Int) := of_decide_eq_true (by first | (with_reducible assumption) | assumption); obtain ⟨ad246, e246, hx246_0⟩ := Kd.at_int (Kd.V_reads' HO_9.out).2.2 (ji39) p246 q246; cases e246; replace p246 := eq_true p246; replace q246 := eq_true q246))
                                        have n0_ := Aside0.mk (Kd.V_drew HO_9.out)
                                        have n1_ := Aside0.mk (Kd.V_drew HO242.out)
                                        have n2_ := Aside0.mk (Kd.R_drew HO245.out)
                                        have n3_ := Aside0.mk (blk_drew BK213.out)
                                        have n4_ := Aside0.mk (below_drew1 HB.out)
                                        clear HO_9
                                        clear HO242
                                        clear HO245
                                        clear BK213
                                        clear HB
                                        have HO_9 := n0_
                                        have HO242 := n1_
                                        have HO245 := n2_
                                        have BK213 := n3_
                                        have HB := n4_
                                        clear n0_ n1_ n2_ n3_ n4_
                                        have q50 : ((ji44) : Int) ≤ ((x9_2.length : Int) : Int) := of_decide_eq_true (by first | (with_reducible assumption) | assumption)
                                        obtain ⟨i050, hi050, _, hsz50, _⟩ := info_parts info5
                                        have hroom50 : x9_2.length ≤ co27 := (Kd.V_reads' HO_9.out).2.1
                                        have hC50 : Kd.F (Kd.int .u8) _ _ (some ad246) x9_2.length x9_2 := (Kd.V_at (base := w.heap.size) HO_9.out).2.2
                                        have q050 : (0 : Int) ≤ ((ji44) : Int) := of_decide_eq_true (by first | (with_reducible assumption) | assumption)
                                        have hcut50 := cut_from (P := Tryd.prog) 22 5 .i64 Tryd.underlying22 hi050 1 hsz50 (some ad246) x9_2.length co27 (ji44) q050 q50
                                        have hr50 := Kd.F_cut (m := ((ji44) : Int).toNat) (c := co27) hC50 (by omega) hroom50
                                        obtain ⟨A50, hA50⟩ : ∃ A1, A1 = (if co27 = ((ji44) : Int).toNat then (some ad246) else ((some ad246) : Option Addr).map (·.add (((ji44) : Int).toNat * 1))) := ⟨_, rfl⟩
                                        obtain ⟨c50, hc50⟩ : ∃ c1, c1 = co27 - ((ji44) : Int).toNat := ⟨_, rfl⟩
                                        have hy50 : y250.length = x9_2.length - ((ji44) : Int).toNat := (by rw [Ny250.out, List.length_drop] <;> omega)
                                        rw [show (x9_2).drop ((ji44) : Int).toNat = y250 from Ny250.out.symm] at hr50
                                        replace hr50 : Kd.F (Kd.int .u8) _ _ A50 y250.length y250 := (by rw [hA50]; exact hr50)
                                        rw [← hy50, ← hA50, ← hc50] at hcut50
                                        have HO254 := Aside0.mk (show Kd.V (Kd.int .u8) 5 _ w.heap.size _ (.slice A50 y250.length c50) y250 from Kd.V_mk (by rw [hy50, hc50]; exact Nat.sub_le_sub_right hroom50 _) hr50)
                                        have HC254 := Aside0.mk (show y250.length ≤ c50 from by rw [hy50, hc50]; exact Nat.sub_le_sub_right hroom50 _)
                                        clear hr50 hC50 hroom50 hi050 hsz50 hc50
                                        have KY50 := Aside0.mk hy50
                                        have KA50 := Aside0.mk hA50
                                        clear hy50 hA50
                                        replace q50 := eq_true q50
                                        refine start_ (n := 10) (S := fun w' => (convert 22 9 (v244)).run Tryd.prog w' = .ok (.string (strOfNums y243)) w') (ds := [7]) #[false, false, false, false, false, false, false, false, false, false] (by kernel_rfl) rfl rfl ((own_string (P := Tryd.prog) Tryd.underlying22 Tryd.underlying5 Tryd.underlying9 (Kd.own_of_R HO245.out))) (fun hHeld => ?_); refine with_tabW key_take.tab18 key_take.bits18 (fun HT_ HW_ => ?_)
                                        generalize w48.drew = w49 at HO_9 HO242 HO245 BK213 HB HO254 hHeld ⊢
                                        refine pure_ (i := 0) (N := some 85) (v := ?_) (a' := ?_) #[true, false, false, false, false, false, false, false, false, false] rfl rfl (any_of HT_.out (by kernel_rfl)) (fun _ _ _ h => h) (Or.inl ⟨by rfl, ?_⟩) ?_ ?_
                                        rotate_left
                                        · intro w'
                                          go_simp
                                          with_reducible rfl
                                        rotate_left
                                        · simp only [Act.put, List.setIfInBounds_toArray, List.set_cons_zero, List.set_cons_succ, i64_w, i32_w]
                                          rfl
                                        refine pure_ (i := 3) (N := some 88) (v := ?_) (a' := ?_) #[true, false, false, true, false, false, false, false, false, false] rfl rfl (any_of HT_.out (by kernel_rfl)) (fun _ _ _ h => h) (Or.inl ⟨by rfl, ?_⟩) ?_ ?_
                                        rotate_left
                                        · intro w'
                                          go_simp
                                          with_reducible rfl
                                        rotate_left
                                        · simp only [Act.put, List.setIfInBounds_toArray, List.set_cons_zero, List.set_cons_succ, i64_w, i32_w]
                                          rfl
                                        refine pure_ (i := 4) (N := some 89) (v := ?_) (a' := ?_) #[true, false, false, true, true, false, false, false, false, false] rfl rfl (any_of HT_.out (by kernel_rfl)) (fun _ _ _ h => h) (Or.inl ⟨by rfl, ?_⟩) ?_ ?_
                                        rotate_left
                                        · intro w'
                                          go_simp
                                          with_reducible rfl
                                        rotate_left
                                        · simp only [Act.put, List.setIfInBounds_toArray, List.set_cons_zero, List.set_cons_succ, i64_w, i32_w]
                                          rfl
                                        refine pure_ (i := 5) (N := some 90) (v := ?_) (a' := ?_) #[true, false, false, true, true, true, false, false, false, false] rfl rfl (any_of HT_.out (by kernel_rfl)) (fun _ _ _ h => h) (Or.inl ⟨by rfl, ?_⟩) ?_ ?_
                                        rotate_left
                                        · intro w'
                                          go_simp
                                          with_reducible rfl
                                        rotate_left
                                        · simp only [Act.put, List.setIfInBounds_toArray, List.set_cons_zero, List.set_cons_succ, i64_w, i32_w]
                                          rfl
                                        refine pure_ (i := 6) (N := some 91) (v := ?_) (a' := ?_) #[true, false, false, true, true, true, true, false, false, false] rfl rfl (any_of HT_.out (by kernel_rfl)) (fun _ _ _ h => h) (Or.inl ⟨by rfl, ?_⟩) ?_ ?_
                                        rotate_left
                                        · intro w'
                                          go_simp
                                          with_reducible rfl
                                        rotate_left
                                        · simp only [Act.put, List.setIfInBounds_toArray, List.set_cons_zero, List.set_cons_succ, i64_w, i32_w]
                                          rfl
                                        refine take_ (i := 1) (N := some 86) (v := ?_) (a' := ?_) #[true, true, false, true, true, true, true, false, false, false] rfl rfl (take_ofW HT_.out HW_.out (by kernel_rfl)) (fun _ _ _ h => h) (Or.inl ⟨by rfl, ?_⟩) hHeld ?_ ?_
                                        rotate_left
                                        · intro w' s0
                                          go_simp
                                          with_reducible rfl
                                        rotate_left
                                        · simp only [Act.put, List.setIfInBounds_toArray, List.set_cons_zero, List.set_cons_succ, i64_w, i32_w]
                                          rfl
                                        refine one_ (i := 2) (N := some 87) #[true, true, true, true, true, true, true, false, false, false] rfl rfl (one_of HT_.out (by kernel_rfl)) (by decide) (fun K hK => ?_)
                                        refine goes_ Tryd.func18 (by kernel_rfl) rfl #[.string (strOfNums y243)] (by rfl) rfl rfl (by (try simp only [List.map_toArray, List.map_cons, List.map_nil]); first | done | rfl | (simp only [List.length_drop, List.length_take]; rfl)) ?_
                                        with_reducible refine (key_Str.calls (strOfNums y243) t247 t248 t249 _ A43.out).mono ?_
                                        rintro e w51 ⟨rfl, hb⟩
                                        refine ⟨_, rfl, ?_⟩
                                        have n0_ := Aside0.mk (Kd.V_below (by (with_reducible repeat (first | apply Kd.V_alloc | apply Kd.V_drewN | apply Kd.V_drew)); exact HO_9.out) hb)
                                        have n1_ := Aside0.mk (Kd.V_below (by (with_reducible repeat (first | apply Kd.V_alloc | apply Kd.V_drewN | apply Kd.V_drew)); exact HO242.out) hb)
                                        have n2_ := Aside0.mk (Kd.R_below (by (with_reducible repeat (first | apply Kd.R_alloc | apply Kd.R_drewN | apply Kd.R_drew)); exact HO245.out) hb)
                                        have n3_ := Aside0.mk (Kd.V_below (by (with_reducible repeat (first | apply Kd.V_alloc | apply Kd.V_drewN | apply Kd.V_drew)); exact HO254.out) hb)
                                        have n4_ := Aside0.mk (blk_below (g := gb213) (o := .cells #[.bool x214000_2, .string x214001_2, .int .i64 x214002_2] 31 (0, 0)) (by (with_reducible repeat (first | refine blk_drewN ?_ _ | refine blk_drew ?_ | refine blk_alloc ?_ _)); exact BK213.out) hb)
                                        have n5_ := Aside0.mk (below_step (by repeat (first | (with_reducible first | exact HB.out | apply below_alloc | apply pw_below_drewN | apply below_drew1 | refine below_set ?_ GE213.out) | exact HB.out)) hb)
                                        clear HO_9
                                        clear HO242
                                        clear HO245
                                        clear HO254
                                        clear BK213
                                        clear HB
                                        have HO_9 := n0_
                                        have HO242 := n1_
                                        have HO245 := n2_
                                        have HO254 := n3_
                                        have BK213 := n4_
                                        have HB := n5_
                                        clear n0_ n1_ n2_ n3_ n4_ n5_
                                        (try clear hb)
                                        (try clear hb2)
                                        (try clear hk)
                                        (try clear hi)
                                        refine hK.out _ _ ((own_string (P := Tryd.prog) Tryd.underlying22 Tryd.underlying5 Tryd.underlying9 (Kd.own_of_R HO245.out))) (fun hHeld => ?_)
                                        clear hK K
                                        refine norm_ (a' := ?_) ?_ ?_
                                        rotate_left
                                        · show Act.put _ (some 87) _ = _
                                          simp only [Act.put, List.setIfInBounds_toArray, List.set_cons_zero, List.set_cons_succ, i64_w, i32_w]
                                          rfl
                                        refine last_ (i := 7) (N := none) #[true, true, true, true, true, true, true, true, false, false] rfl rfl (one_of HT_.out (by kernel_rfl)) (by decide) (fun K hK => ?_)
                                        have hs52 : w51.cell? ⟨gb213, 0, none⟩ = some (.bool x214000_2) := (blk_cell BK213.out 0).trans rfl
                                        have hfs52 := blk_frozen BK213.out 0
                                        have hs53 : w51.cell? ⟨gb213, 1, none⟩ = some (.string x214001_2) := (blk_cell BK213.out 1).trans rfl
                                        have hfs53 := blk_frozen BK213.out 1
                                        have hs54 : w51.cell? ⟨gb213, 2, none⟩ = some (.int .i64 x214002_2) := (blk_cell BK213.out 2).trans rfl
                                        have hfs54 := blk_frozen BK213.out 2
                                        refine skip_ (w1 := ?_) (by rfl) rfl ?_ ?_
                                        rotate_left
                                        · go_simp
                                          rfl
                                        refine hK.out _ _ ?_
                                        clear hK K
                                        refine pure_ (i := 8) (N := some 3) (v := ?_) (a' := ?_) #[true, true, true, true, true, true, true, true, true, false] rfl rfl (any_of HT_.out (by kernel_rfl)) (fun _ _ _ h => h) (Or.inl ⟨by rfl, ?_⟩) ?_ ?_
                                        rotate_left
                                        · intro w'
                                          go_simp
                                          with_reducible rfl
                                        rotate_left
                                        · simp only [Act.put, List.setIfInBounds_toArray, List.set_cons_zero, List.set_cons_succ, i64_w, i32_w]
                                          rfl
                                        refine pure_ (i := 9) (N := some 4) (v := ?_) (a' := ?_) #[true, true, true, true, true, true, true, true, true, true] rfl rfl (any_of HT_.out (by kernel_rfl)) (fun _ _ _ h => h) (Or.inl ⟨by rfl, ?_⟩) ?_ ?_
                                        rotate_left
                                        · intro w'
                                          go_simp
                                          with_reducible rfl
                                        rotate_left
                                        · simp only [Act.put, List.setIfInBounds_toArray, List.set_cons_zero, List.set_cons_succ, i64_w, i32_w]
                                          rfl
                                        refine done_ (done_of HT_.out (by kernel_rfl)) ?_
                                        try go_wp2
                                        refine bodyPost_ret (results_ctt rfl _ _ gb213 31 #[.bool t247, .string t248, .int .i64 t249] (0, 0) _ rfl (by (with_reducible repeat (first | refine blk_drewN ?_ _ | refine blk_drew ?_ | refine blk_alloc ?_ _)); refine blk_put (cs := #[.bool t247, .string t248, .int .i64 x214002_2]) ?_ 2 _ rfl; (with_reducible repeat (first | refine blk_drewN ?_ _ | refine blk_drew ?_ | refine blk_alloc ?_ _)); refine blk_put (cs := #[.bool t247, .string x214001_2, .int .i64 x214002_2]) ?_ 1 _ rfl; (with_reducible repeat (first | refine blk_drewN ?_ _ | refine blk_drew ?_ | refine blk_alloc ?_ _)); refine blk_put (cs := #[.bool x214000_2, .string x214001_2, .int .i64 x214002_2]) ?_ 0 _ rfl; (with_reducible repeat (first | refine blk_drewN ?_ _ | refine blk_drew ?_ | refine blk_alloc ?_ _)); exact BK213.out) Tryd.underlying31 rfl (by kernel_rfl)) rfl ?_
                                        exact ⟨_, by first | rfl | (simp [errW_none, errW_some] <;> rfl) | (simp only [← hji39, ← hji44]; first | rfl | (simp [errW_none, errW_some] <;> rfl)) | (simp [*, errW_none, errW_some] <;> rfl), by (with_reducible repeat (first | apply Kd.V_alloc | apply Kd.V_drewN | apply Kd.V_drew)); exact Kd.V_mono (Kd.V_far (p := ⟨gb213, 2, none⟩) (Kd.V_far (p := ⟨gb213, 1, none⟩) (Kd.V_far (p := ⟨gb213, 0, none⟩) (Kd.V_mono HO254.out (fun k_ hk => (⟨hk, hk.1.2⟩ : _ ∧ k_ ≠ gb213))) (fun _ hk => hk.2) (.bool t247)) (fun _ hk => hk.2) (.string t248)) (fun _ hk => hk.2) (.int .i64 t249)) (fun _ hk => hk.1.1.1), by repeat (first | (with_reducible first | exact HB.out | apply below_alloc | apply pw_below_drewN | apply below_drew1 | refine below_set ?_ GE213.out) | exact HB.out)⟩
                                      · rw [if_neg c46] at H
                                        exact absurd H (by simp)
                                    · rw [if_neg c45] at H
                                      exact absurd H (by simp)
                                  · rw [if_neg c42] at H
                                    have c42b0 : ((rd x9_2 (ji39)) == 1) = false := beq_eq_false_iff_ne.mpr c42
                                    have c42b1 : ((rd x9_2 (ji39)) != 1) = true := bne_iff_ne.mpr c42
                                    by_cases c55 : y243.length < 140737488355328
                                    · rw [if_pos c55] at H
                                      have LMc55 := Aside0.mk c55
                                      clear c55
                                      obtain ⟨y255, hy255⟩ : ∃ y_ : List Int, y_ = (y243 ++ [0]) := ⟨_, rfl⟩
                                      replace H : (if 0 ≤ (wrap64 (t235 + 2)) then (if (wrap64 (t235 + 2)) ≤ (x9_2.length : Int) then (key_take.l1 kj25 y255 (x9_2.drop ((wrap64 (t235 + 2)) : Int).toNat)) else (none)) else (none)) = some (r1, r2, r3, r4, r5) := by first | (rw [hy255]; with_reducible exact H) | (have H2_ := (Option.bind_some _ _).symm.trans H; rw [hy255]; with_reducible exact H2_) | (have H2_ := (Option.bind_some _ _).symm.trans H; with_reducible exact H2_) | with_reducible exact H | (rw [hy255]; exact H) | exact H
                                      have Ny255 := Aside0.mk hy255
                                      clear hy255
                                      obtain ⟨ji56, hji56⟩ : ∃ j_ : Int, (wrap64 (t235 + 2)) = j_ := ⟨_, rfl⟩
                                      replace H : (if 0 ≤ (ji56) then (if (ji56) ≤ (x9_2.length : Int) then (key_take.l1 kj25 y255 (x9_2.drop ((ji56) : Int).toNat)) else (none)) else (none)) = some (r1, r2, r3, r4, r5) := by first | (rw [hji56] at H; exact H) | (simp only [hji56] at H ⊢; exact H)
                                      have hji56w : (IntKind.i64.wrap (t235 + 2)) = ji56 := (i64_w _).trans hji56
                                      by_cases c57 : 0 ≤ (ji56)
                                      · rw [if_pos c57] at H
                                        have c57b0 := eq_true c57
                                        have c57b1 : decide (0 ≤ (ji56)) = true := decide_eq_true c57
                                        clear c57
                                        by_cases c58 : (ji56) ≤ (x9_2.length : Int)
                                        · rw [if_pos c58] at H
                                          have c58b0 := eq_true c58
                                          have c58b1 : decide ((ji56) ≤ (x9_2.length : Int)) = true := decide_eq_true c58
                                          clear c58
                                          obtain ⟨y258, hy258⟩ : ∃ y_ : List Int, y_ = (x9_2.drop ((ji56) : Int).toNat) := ⟨_, rfl⟩
                                          replace H : (key_take.l1 kj25 y255 y258) = some (r1, r2, r3, r4, r5) := by first | (rw [hy258]; with_reducible exact H) | (have H2_ := (Option.bind_some _ _).symm.trans H; rw [hy258]; with_reducible exact H2_) | (have H2_ := (Option.bind_some _ _).symm.trans H; with_reducible exact H2_) | with_reducible exact H | (rw [hy258]; exact H) | exact H
                                          have Ny258 := Aside0.mk hy258
                                          clear hy258
                                          have H' := Aside0.mk H
                                          clear H
                                          have q59 : (t235 : Int) ≤ ((x9_2.length : Int) : Int) := of_decide_eq_true (by first | (with_reducible assumption) | assumption)
                                          obtain ⟨i059, hi059, _, hsz59, _⟩ := info_parts info5
                                          have hroom59 : x9_2.length ≤ co27 := (Kd.V_reads' HO_9.out).2.1
                                          have hC59 : Kd.F (Kd.int .u8) _ _ Ao27 x9_2.length x9_2 := (Kd.V_at (base := w.heap.size) HO_9.out).2.2
                                          have hcut59 := cut_to (P := Tryd.prog) 22 5 .i64 Tryd.underlying22 hi059 Ao27 x9_2.length co27 t235 (of_decide_eq_true (by first | (with_reducible assumption) | assumption)) q59 hroom59
                                          have hr59 := Kd.F_take (m := (t235 : Int).toNat) hC59 (by omega)
                                          have hy59 : y238.length = (t235 : Int).toNat := (by rw [Ny238.out, List.length_take]; omega)
                                          rw [← Ny238.out] at hr59
                                          rw [← hy59] at hcut59
                                          have HO242 := Aside0.mk (show Kd.V (Kd.int .u8) 5 _ w.heap.size _ (.slice Ao27 y238.length co27) y238 from Kd.V_mk (by omega) hr59)
                                          have HC242 := Aside0.mk (show y238.length ≤ co27 from by omega)
                                          clear hr59 hC59 hroom59 hi059 hsz59
                                          have KY59 := Aside0.mk hy59
                                          clear hy59
                                          replace q59 := eq_true q59
                                          go_wp2_with (first | ((with_reducible refine gate_builtin (b := .append) (xs := #[.tmp 74, .tmp 77]) rfl ?_); (try (refine gate_guard (by rfl) ?_; dsimp only)); at_builtin; refine Kd.R_append_rows (Kd.int .u8) (w0 := w) w.heap.size rfl (.tmp 74) (.tmp 77) 22 5 (.int .u8 0) 1 rfl Tryd.underlying22 info5 rfl (by decide) (by omega) u8 x8_2 y238 _ _ _ (fun k_ => (w.heap.size ≤ k_)) (fun _ => False) rfl rfl ?aO ?aR (fun _ _ h => h) (fun _ h => h.elim) ?aF ?aB ?aS ?aL ?_; (case aR => repeat (first | exact (Kd.V_reads' HO242.out).2.2 | (with_reducible refine Kd.C_alloc ?_ _) | (with_reducible refine Kd.C_drewN ?_ _) | (with_reducible refine Kd.C_drew ?_))); (case aB => exact (by repeat (first | (with_reducible first | exact HB.out | apply below_alloc | apply pw_below_drewN | apply below_drew1 | refine below_set ?_ GE213.out) | exact HB.out))); (case aF => exact (fun k_ hk => (Nat.le_trans (below_size (by repeat (first | (with_reducible first | exact HB.out | apply below_alloc | apply pw_below_drewN | apply below_drew1 | refine below_set ?_ GE213.out) | exact HB.out))) hk))); (case aO => exact (by (with_reducible repeat (first | apply Kd.R_alloc | apply Kd.R_drewN | apply Kd.R_drew)); exact HO_8.out)); (case aS => exact (below_size (by repeat (first | (with_reducible first | exact HB.out | apply below_alloc | apply pw_below_drewN | apply below_drew1 | refine below_set ?_ GE213.out) | exact HB.out)))); (case aL => have := LMc38.out; omega); intro v244 w60 ho hb hg hat; rw [← Ny243.out] at ho; have n0_ := Aside0.mk (Kd.V_afterv (ok := (fun k_ => (P0_ k_ ∨ w.heap.size ≤ k_) ∧ k_ ≠ gb213)) (by (with_reducible repeat (first | apply Kd.V_alloc | apply Kd.V_drewN | apply Kd.V_drew)); exact Kd.V_mono HO_9.out (fun _ hk => ⟨⟨hk.1, hk.2.2⟩, hk.2.1⟩)) hg hat); have n1_ := Aside0.mk (blk_grown (g := gb213) (o := .cells #[.bool x214000_2, .string x214001_2, .int .i64 x214002_2] 31 (0, 0)) (by (with_reducible repeat (first | refine blk_drewN ?_ _ | refine blk_drew ?_ | refine blk_alloc ?_ _)); exact BK213.out) hg (Kd.R_ne HO_8.out BK213.out (by decide))); have n2_ := Aside0.mk (Kd.V_afterv (ok := (fun k_ => (P0_ k_ ∨ w.heap.size ≤ k_) ∧ k_ ≠ gb213)) (by (with_reducible repeat (first | apply Kd.V_alloc | apply Kd.V_drewN | apply Kd.V_drew)); exact Kd.V_mono HO242.out (fun _ hk => ⟨⟨hk.1, hk.2.2⟩, hk.2.1⟩)) hg hat); have n3_ := Aside0.mk (hb); have n4_ := Aside0.mk (ho); clear HO_9; clear BK213; clear HO242; clear HB; clear HO_8; have HO_9 := n0_; have BK213 := n1_; have HO242 := n2_; have HB := n3_; have HO245 := n4_; clear n0_ n1_ n2_ n3_ n4_; clear ho hb hg hat; have p246 : 0 ≤ ((ji39) : Int) := of_decide_eq_true (by first | (with_reducible assumption) | assumption); have q246 : (ji39) < (x9_2.length : Int) := of_decide_eq_true (by first | (with_reducible assumption) | assumption); obtain ⟨ad246, e246, hx246_0⟩ := Kd.at_int (Kd.V_reads' HO_9.out).2.2 (ji39) p246 q246; cases e246; replace p246 := eq_true p246; replace q246 := eq_true q246) | ((with_reducible refine gate_builtin (b := .append) (xs := #[.tmp 92, .tmp 93]) rfl ?_); (try (refine gate_guard (by rfl) ?_; dsimp only)); at_builtin; refine Kd.R_append (Kd.int .u8) (w0 := w) w.heap.size rfl (.tmp 92) (.tmp 93) 22 5 (.int .u8 0) 1 rfl Tryd.underlying22 info5 rfl (by decide) (by omega) v244 y243 0 [.int .u8 0] (fun k_ => (w.heap.size ≤ k_)) (fun _ => False) rfl rfl ?aP (fun _ hk => hk.elim) ?aF ?aO ?aB ?aS ?aL ?_; (case aP => exact rfl); (case aB => exact (by repeat (first | (with_reducible first | exact HB.out | apply below_alloc | apply pw_below_drewN | apply below_drew1 | refine below_set ?_ GE213.out) | exact HB.out))); (case aF => exact (fun k_ hk => (Nat.le_trans (below_size (by repeat (first | (with_reducible first | exact HB.out | apply below_alloc | apply pw_below_drewN | apply below_drew1 | refine below_set ?_ GE213.out) | exact HB.out))) hk))); (case aO => exact (by (with_reducible repeat (first | apply Kd.R_alloc | apply Kd.R_drewN | apply Kd.R_drew)); exact HO245.out)); (case aS => exact (below_size (by repeat (first | (with_reducible first | exact HB.out | apply below_alloc | apply pw_below_drewN | apply below_drew1 | refine below_set ?_ GE213.out) | exact HB.out)))); (case aL => have := LMc55.out; omega); intro v256 w61 ho hb hg hat; rw [← Ny255.out] at ho; have n0_ := Aside0.mk (Kd.V_afterv (ok := (fun k_ => (P0_ k_ ∨ w.heap.size ≤ k_) ∧ k_ ≠ gb213)) (by (with_reducible repeat (first | apply Kd.V_alloc | apply Kd.V_drewN | apply Kd.V_drew)); exact HO_9.out) hg hat); have n1_ := Aside0.mk (blk_grown (g := gb213) (o := .cells #[.bool x214000_2, .string x214001_2, .int .i64 x214002_2] 31 (0, 0)) (by (with_reducible repeat (first | refine blk_drewN ?_ _ | refine blk_drew ?_ | refine blk_alloc ?_ _)); exact BK213.out) hg (Kd.R_ne HO245.out BK213.out (by decide))); have n2_ := Aside0.mk (Kd.V_afterv (ok := (fun k_ => (P0_ k_ ∨ w.heap.size ≤ k_) ∧ k_ ≠ gb213)) (by (with_reducible repeat (first | apply Kd.V_alloc | apply Kd.V_drewN | apply Kd.V_drew)); exact HO242.out) hg hat); have n3_ := Aside0.mk (hb); have n4_ := Aside0.mk (ho); clear HO_9; clear BK213; clear HO242; clear HB; clear HO245; have HO_9 := n0_; have BK213 := n1_; have HO242 := n2_; have HB := n3_; have HO257 := n4_; clear n0_ n1_ n2_ n3_ n4_; clear ho hb hg hat; have q62 : ((ji56) : Int) ≤ ((x9_2.length : Int) : Int) := of_decide_eq_true (by first | (with_reducible assumption) | assumption); obtain ⟨i062, hi062, _, hsz62, _⟩ := info_parts info5; have hroom62 : x9_2.length ≤ co27 := (Kd.V_reads' HO_9.out).2.1; have hC62 : Kd.F (Kd.int .u8) _ _ (some ad246) x9_2.length x9_2 := (Kd.V_at (base := w.heap.size) HO_9.out).2.2; have q062 : (0 : Int) ≤ ((ji56) : Int) := of_decide_eq_true (by first | (with_reducible assumption) | assumption); have hcut62 := cut_from (P := Tryd.prog) 22 5 .i64 Tryd.underlying22 hi062 1 hsz62 (some ad246) x9_2.length co27 (ji56) q062 q62; have hr62 := Kd.F_cut (m := ((ji56) : Int).toNat) (c := co27) hC62 (by omega) hroom62; obtain ⟨A62, hA62⟩ : ∃ A1, A1 = (if co27 = ((ji56) : Int).toNat then (some ad246) else ((some ad246) : Option Addr).map (·.add (((ji56) : Int).toNat * 1))) := ⟨_, rfl⟩; obtain ⟨c62, hc62⟩ : ∃ c1, c1 = co27 - ((ji56) : Int).toNat := ⟨_, rfl⟩; have hy62 : y258.length = x9_2.length - ((ji56) : Int).toNat := (by rw [Ny258.out, List.length_drop] <;> omega); rw [show (x9_2).drop ((ji56) : Int).toNat = y258 from Ny258.out.symm] at hr62; replace hr62 : Kd.F (Kd.int .u8) _ _ A62 y258.length y258 := (by rw [hA62]; exact hr62); rw [← hy62, ← hA62, ← hc62] at hcut62; have HO262 := Aside0.mk (show Kd.V (Kd.int .u8) 5 _ w.heap.size _ (.slice A62 y258.length c62) y258 from Kd.V_mk (by rw [hy62, hc62]; exact Nat.sub_le_sub_right hroom62 _) hr62); have HC262 := Aside0.mk (show y258.length ≤ c62 from by rw [hy62, hc62]; exact Nat.sub_le_sub_right hroom62 _); clear hr62 hC62 hroom62 hi062 hsz62 hc62; have KY62 := Aside0.mk hy62; have KA62 := Aside0.mk hA62; clear hy62 hA62; replace q62 := eq_true q62))
                                          go_roundg kj25
                                          case measure => have := HJ1.out; have := HK2.out; have := HJ25.out; omega
                                          case rel => exact ⟨(y255), (y258), (x214000_2), (x214001_2), (x214002_2), H', ⟨by have := HJ1.out; have := HK2.out; have := HJ25.out; omega⟩, ⟨by (with_reducible repeat (first | apply Kd.R_alloc | apply Kd.R_drewN | apply Kd.R_drew)); exact HO257.out⟩, ⟨by (with_reducible repeat (first | apply Kd.V_alloc | apply Kd.V_drewN | apply Kd.V_drew)); exact Kd.V_mono HO262.out (fun _ hk => ⟨hk.1.1, ⟨hk.2, hk.1.2⟩⟩)⟩, ⟨by (with_reducible repeat (first | refine blk_drewN ?_ _ | refine blk_drew ?_ | refine blk_alloc ?_ _)); exact BK213.out⟩, ⟨by repeat (first | (with_reducible first | exact HB.out | apply below_alloc | apply pw_below_drewN | apply below_drew1 | refine below_set ?_ GE213.out) | exact HB.out)⟩⟩
                                        · rw [if_neg c58] at H
                                          exact absurd H (by simp)
                                      · rw [if_neg c57] at H
                                        exact absurd H (by simp)
                                    · rw [if_neg c55] at H
                                      exact absurd H (by simp)
                                · rw [if_neg c41] at H
                                  exact absurd H (by simp)
                              · rw [if_neg c40] at H
                                exact absurd H (by simp)
                            · rw [if_neg c38] at H
                              exact absurd H (by simp)
                          · rw [if_neg c37] at H
                            exact absurd H (by simp)
                        · rw [if_neg c36] at H
                          exact absurd H (by simp)
            · rw [if_neg c23] at H
              exact absurd H (by simp)
          · rw [if_neg c22] at H
            have c22b0 : ((rd l0 0) == 2) = false := beq_eq_false_iff_ne.mpr c22
            have c22b1 : ((rd l0 0) != 2) = true := bne_iff_ne.mpr c22
            simp only [Option.some.injEq, Prod.mk.injEq] at H
            obtain ⟨rfl, rfl, rfl, rfl, rfl⟩ := H
            have p229 : 0 ≤ (0 : Int) := (by omega)
            have q229 : 0 < (l0.length : Int) := of_decide_eq_true (by first | (with_reducible assumption) | assumption)
            obtain ⟨ad229, e229, hx229_0⟩ := Kd.at_int (Kd.V_reads' HO_0.out).2.2 0 p229 q229
            cases e229
            have qi229 : (0 < l0.length) = True := eq_true (by omega)
            (try rw [show ((0 : Int)).toNat = 0 from rfl] at hx229_0)
            (try rw [Addr.add_zero'] at hx229_0)
            replace p229 := eq_true p229
            replace q229 := eq_true q229
            have hcz63_0 : wc.cell? ⟨gb213, 0, none⟩ = some (.bool false) := (blk_cell BK213.out 0).trans rfl
            have hcz63_1 : wc.cell? ⟨gb213, 1, none⟩ = some (.string (⟨#[]⟩ : ByteArray)) := (blk_cell BK213.out 1).trans rfl
            have hcz63_2 : wc.cell? ⟨gb213, 2, none⟩ = some (.int .i64 0) := (blk_cell BK213.out 2).trans rfl
            have hfz63_0 := blk_frozen BK213.out 0
            have hfz63_1 := blk_frozen BK213.out 1
            have hfz63_2 := blk_frozen BK213.out 2
            go_wp2
            refine bodyPost_ret (results_ctt rfl _ _ gb213 31 #[.bool false, .string (⟨#[]⟩ : ByteArray), .int .i64 0] (0, 0) _ rfl (by (with_reducible repeat (first | refine blk_drewN ?_ _ | refine blk_drew ?_ | refine blk_alloc ?_ _)); refine blk_put (cs := #[.bool false, .string (⟨#[]⟩ : ByteArray), .int .i64 0]) ?_ 2 _ rfl; (with_reducible repeat (first | refine blk_drewN ?_ _ | refine blk_drew ?_ | refine blk_alloc ?_ _)); refine blk_put (cs := #[.bool false, .string (⟨#[]⟩ : ByteArray), .int .i64 0]) ?_ 1 _ rfl; (with_reducible repeat (first | refine blk_drewN ?_ _ | refine blk_drew ?_ | refine blk_alloc ?_ _)); refine blk_put (cs := #[.bool false, .string (⟨#[]⟩ : ByteArray), .int .i64 0]) ?_ 0 _ rfl; (with_reducible repeat (first | refine blk_drewN ?_ _ | refine blk_drew ?_ | refine blk_alloc ?_ _)); exact BK213.out) Tryd.underlying31 rfl (by kernel_rfl)) rfl ?_
            exact ⟨_, by first | rfl | (simp [errW_none, errW_some] <;> rfl) | (simp [*, errW_none, errW_some] <;> rfl), Kd.V_mono (Kd.V_nil _ _ _ _ _) (fun k_ hk => by first | exact ⟨(.inr (hk.1)), hk.2⟩ | exact (.inr (hk))), by repeat (first | (with_reducible first | exact HB.out | apply below_alloc | apply pw_below_drewN | apply below_drew1 | refine below_set ?_ GE213.out) | exact HB.out)⟩
        · rw [if_neg c21] at H
          exact absurd H (by simp)

end Go.Proofs.YtamaoileeipgeaaDoor.XKey
