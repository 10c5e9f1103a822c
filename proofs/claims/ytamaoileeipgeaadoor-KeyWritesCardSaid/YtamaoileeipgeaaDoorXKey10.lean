-- Written by xprint.py (a program of this session's repo) over the kit's print; Lean checks it.
import Derived.Test.YtamaoileeipgeaaDoorXKey0
import Derived.Test.YtamaoileeipgeaaDoorXKey5
namespace Go.Proofs.YtamaoileeipgeaaDoor.XKey
open Go.RowKit Go.Proofs.YtamaoileeipgeaaDoorW.PrintWords Go.Proofs.YtamaoileeipgeaaDoorW.PrintLast Go.Proofs.YtamaoileeipgeaaDoorW.PrintMore
attribute [local go_sem] max2_int min2_int max_two min_two max_three min_three max_four min_four   -- for this text's walks alone
set_option linter.unusedVariables false
set_option linter.unusedSimpArgs false

/-! ### rhizomeref01_Decode: function 24 -/
mutual
def rhizomeref01_Decode.l0 : Nat → List Int → List (S56) → Int → Option ((List (S56)) × Int)
  | 0, _, _, _ => none
  | k + 1, x0, x4, x5 => if x5 < (x0.length : Int) then (if 0 ≤ x5 then (if (rd x0 x5) = 1 then (rhizomeref01_Decode.j1 k x0 x4 x5 (decide ((wrap64 (x5 + 9)) ≤ (x0.length : Int))) false (⟨#[]⟩ : ByteArray) 0) else (rhizomeref01_Decode.j1 k x0 x4 x5 false false (⟨#[]⟩ : ByteArray) 0)) else (none)) else (some (x4, 0))
def rhizomeref01_Decode.j1 : Nat → List Int → List (S56) → Int → Bool → Bool → ByteArray → Int → Option ((List (S56)) × Int)
  | 0, _, _, _, _, _, _, _ => none
  | k + 1, x0, x4, x5, x29, x313000, x313001, x313002 => if x29 = true then (rhizomeref01_Decode.l1 k x0 x4 x5 0 1 x313000 x313001 x313002) else (if 0 ≤ x5 then (if x5 < (x0.length : Int) then (if (rd x0 x5) = 2 then (rhizomeref01_Decode.l2 k x0 x4 x5 (wrap64 (x5 + 1)) true x313001 x313002) else (some (([] : List (S56)), 6))) else (none)) else (none))
def rhizomeref01_Decode.l1 : Nat → List Int → List (S56) → Int → Int → Int → Bool → ByteArray → Int → Option ((List (S56)) × Int)
  | 0, _, _, _, _, _, _, _, _ => none
  | k + 1, x0, x4, x5, x7, x8, x313000, x313001, x313002 => if x8 < 9 then (if 0 ≤ (wrap64 (x5 + x8)) then (if (wrap64 (x5 + x8)) < (x0.length : Int) then (rhizomeref01_Decode.l1 k x0 x4 x5 (IntKind.u64.wrap ((IntKind.u64.wrap (x7 * 256)) + (IntKind.u64.wrap (rd x0 (wrap64 (x5 + x8)))))) (wrap64 (x8 + 1)) x313000 x313001 x313002) else (none)) else (none)) else (if x4.length < 4398046511104 then ((rhizomeref01_Bytes.f k x313000 x313001 (wrap64 (IntKind.u64.wrap (x7 + 9223372036854775808)))).bind fun t318 => (rhizomeref01_Decode.l0 k x0 (x4 ++ [(⟨x313000, x313001, wrap64 (IntKind.u64.wrap (x7 + 9223372036854775808))⟩ : S56)]) (wrap64 (x5 + (t318.length : Int))))) else (none))
def rhizomeref01_Decode.l2 : Nat → List Int → List (S56) → Int → Int → Bool → ByteArray → Int → Option ((List (S56)) × Int)
  | 0, _, _, _, _, _, _, _ => none
  | k + 1, x0, x4, x5, x9, x313000, x313001, x313002 => if x9 < (x0.length : Int) then (if 0 ≤ x9 then (if (rd x0 x9) = 0 then (if (wrap64 (x9 + 1)) < (x0.length : Int) then (if 0 ≤ (wrap64 (x9 + 1)) then (rhizomeref01_Decode.j4 k x0 x4 x5 x9 ((rd x0 (wrap64 (x9 + 1))) == 255) x313000 x313001 x313002) else (none)) else (rhizomeref01_Decode.j4 k x0 x4 x5 x9 false x313000 x313001 x313002)) else (rhizomeref01_Decode.j4 k x0 x4 x5 x9 true x313000 x313001 x313002)) else (none)) else (rhizomeref01_Decode.j4 k x0 x4 x5 x9 false x313000 x313001 x313002)
def rhizomeref01_Decode.j4 : Nat → List Int → List (S56) → Int → Int → Bool → Bool → ByteArray → Int → Option ((List (S56)) × Int)
  | 0, _, _, _, _, _, _, _, _ => none
  | k + 1, x0, x4, x5, x9, x81, x313000, x313001, x313002 => if x81 = true then (if 0 ≤ x9 then (if x9 ≤ (wrap64 (x9 + 1)) then (if (wrap64 (x9 + 1)) ≤ (x0.length : Int) then (if x313001.size + (strOfNums ((x0.take ((wrap64 (x9 + 1)) : Int).toNat).drop (x9 : Int).toNat)).size ≤ 9223372036854775807 then (if x9 < (x0.length : Int) then (if (rd x0 x9) = 0 then (rhizomeref01_Decode.l2 k x0 x4 x5 (wrap64 ((wrap64 (x9 + 1)) + 1)) x313000 (x313001 ++ (strOfNums ((x0.take ((wrap64 (x9 + 1)) : Int).toNat).drop (x9 : Int).toNat))) x313002) else (rhizomeref01_Decode.l2 k x0 x4 x5 (wrap64 (x9 + 1)) x313000 (x313001 ++ (strOfNums ((x0.take ((wrap64 (x9 + 1)) : Int).toNat).drop (x9 : Int).toNat))) x313002)) else (none)) else (none)) else (none)) else (none)) else (none)) else (if (wrap64 (x9 + 1)) ≥ (x0.length : Int) then (some (([] : List (S56)), 6)) else (if 0 ≤ (wrap64 (x9 + 1)) then (if (wrap64 (x9 + 1)) < (x0.length : Int) then (if (rd x0 (wrap64 (x9 + 1))) = 1 then (if x4.length < 4398046511104 then ((rhizomeref01_Bytes.f k x313000 x313001 x313002).bind fun t330 => (rhizomeref01_Decode.l0 k x0 (x4 ++ [(⟨x313000, x313001, x313002⟩ : S56)]) (wrap64 (x5 + (t330.length : Int))))) else (none)) else (some (([] : List (S56)), 6))) else (none)) else (none)))
end
def rhizomeref01_Decode.f (k : Nat) (l0 : List Int) : Option ((List (S56)) × Int) := if (l0.length : Int) > 200 then (some (([] : List (S56)), 3)) else (rhizomeref01_Decode.l0 k l0 ([] : List (S56)) 0)
theorem rhizomeref01_Decode.mono_l : ∀ k, (∀ y0 y1 y2, LeO (rhizomeref01_Decode.l0 k y0 y1 y2) (rhizomeref01_Decode.l0 (k + 1) y0 y1 y2)) ∧ (∀ y0 y1 y2 y3 y4 y5 y6, LeO (rhizomeref01_Decode.j1 k y0 y1 y2 y3 y4 y5 y6) (rhizomeref01_Decode.j1 (k + 1) y0 y1 y2 y3 y4 y5 y6)) ∧ (∀ y0 y1 y2 y3 y4 y5 y6 y7, LeO (rhizomeref01_Decode.l1 k y0 y1 y2 y3 y4 y5 y6 y7) (rhizomeref01_Decode.l1 (k + 1) y0 y1 y2 y3 y4 y5 y6 y7)) ∧ (∀ y0 y1 y2 y3 y4 y5 y6, LeO (rhizomeref01_Decode.l2 k y0 y1 y2 y3 y4 y5 y6) (rhizomeref01_Decode.l2 (k + 1) y0 y1 y2 y3 y4 y5 y6)) ∧ (∀ y0 y1 y2 y3 y4 y5 y6 y7, LeO (rhizomeref01_Decode.j4 k y0 y1 y2 y3 y4 y5 y6 y7) (rhizomeref01_Decode.j4 (k + 1) y0 y1 y2 y3 y4 y5 y6 y7))
  | 0 => ⟨fun _ _ _ r h => by simp [rhizomeref01_Decode.l0] at h, fun _ _ _ _ _ _ _ r h => by simp [rhizomeref01_Decode.j1] at h, fun _ _ _ _ _ _ _ _ r h => by simp [rhizomeref01_Decode.l1] at h, fun _ _ _ _ _ _ _ r h => by simp [rhizomeref01_Decode.l2] at h, fun _ _ _ _ _ _ _ _ r h => by simp [rhizomeref01_Decode.j4] at h⟩
  | k + 1 => by
    obtain ⟨ih0, ih1, ih2, ih3, ih4⟩ := rhizomeref01_Decode.mono_l k
    refine ⟨?_, ?_, ?_, ?_, ?_⟩
    · intro y0 y1 y2
      unfold rhizomeref01_Decode.l0
      repeat' first
      | (with_reducible exact ih0 _ _ _)
      | (with_reducible exact ih1 _ _ _ _ _ _ _)
      | (with_reducible exact ih2 _ _ _ _ _ _ _ _)
      | (with_reducible exact ih3 _ _ _ _ _ _ _)
      | (with_reducible exact ih4 _ _ _ _ _ _ _ _)
      | (with_reducible exact rhizomeref01_Bytes.mono _ _ _ _)
      | (with_reducible exact LeO.refl _)
      | (with_reducible exact LeO.none _)
      | (with_reducible refine LeO.ite ?_ ?_)
      | (with_reducible refine LeO.bind ?_ (fun _ => ?_))
      | exact ih0 _ _ _
      | exact ih1 _ _ _ _ _ _ _
      | exact ih2 _ _ _ _ _ _ _ _
      | exact ih3 _ _ _ _ _ _ _
      | exact ih4 _ _ _ _ _ _ _ _
      | exact rhizomeref01_Bytes.mono _ _ _ _
      | exact LeO.none _
      | refine LeO.ite ?_ ?_
      | refine LeO.bind ?_ (fun _ => ?_)
    · intro y0 y1 y2 y3 y4 y5 y6
      unfold rhizomeref01_Decode.j1
      repeat' first
      | (with_reducible exact ih0 _ _ _)
      | (with_reducible exact ih1 _ _ _ _ _ _ _)
      | (with_reducible exact ih2 _ _ _ _ _ _ _ _)
      | (with_reducible exact ih3 _ _ _ _ _ _ _)
      | (with_reducible exact ih4 _ _ _ _ _ _ _ _)
      | (with_reducible exact rhizomeref01_Bytes.mono _ _ _ _)
      | (with_reducible exact LeO.refl _)
      | (with_reducible exact LeO.none _)
      | (with_reducible refine LeO.ite ?_ ?_)
      | (with_reducible refine LeO.bind ?_ (fun _ => ?_))
      | exact ih0 _ _ _
      | exact ih1 _ _ _ _ _ _ _
      | exact ih2 _ _ _ _ _ _ _ _
      | exact ih3 _ _ _ _ _ _ _
      | exact ih4 _ _ _ _ _ _ _ _
      | exact rhizomeref01_Bytes.mono _ _ _ _
      | exact LeO.none _
      | refine LeO.ite ?_ ?_
      | refine LeO.bind ?_ (fun _ => ?_)
    · intro y0 y1 y2 y3 y4 y5 y6 y7
      unfold rhizomeref01_Decode.l1
      repeat' first
      | (with_reducible exact ih0 _ _ _)
      | (with_reducible exact ih1 _ _ _ _ _ _ _)
      | (with_reducible exact ih2 _ _ _ _ _ _ _ _)
      | (with_reducible exact ih3 _ _ _ _ _ _ _)
      | (with_reducible exact ih4 _ _ _ _ _ _ _ _)
      | (with_reducible exact rhizomeref01_Bytes.mono _ _ _ _)
      | (with_reducible exact LeO.refl _)
      | (with_reducible exact LeO.none _)
      | (with_reducible refine LeO.ite ?_ ?_)
      | (with_reducible refine LeO.bind ?_ (fun _ => ?_))
      | exact ih0 _ _ _
      | exact ih1 _ _ _ _ _ _ _
      | exact ih2 _ _ _ _ _ _ _ _
      | exact ih3 _ _ _ _ _ _ _
      | exact ih4 _ _ _ _ _ _ _ _
      | exact rhizomeref01_Bytes.mono _ _ _ _
      | exact LeO.none _
      | refine LeO.ite ?_ ?_
      | refine LeO.bind ?_ (fun _ => ?_)
    · intro y0 y1 y2 y3 y4 y5 y6
      unfold rhizomeref01_Decode.l2
      repeat' first
      | (with_reducible exact ih0 _ _ _)
      | (with_reducible exact ih1 _ _ _ _ _ _ _)
      | (with_reducible exact ih2 _ _ _ _ _ _ _ _)
      | (with_reducible exact ih3 _ _ _ _ _ _ _)
      | (with_reducible exact ih4 _ _ _ _ _ _ _ _)
      | (with_reducible exact rhizomeref01_Bytes.mono _ _ _ _)
      | (with_reducible exact LeO.refl _)
      | (with_reducible exact LeO.none _)
      | (with_reducible refine LeO.ite ?_ ?_)
      | (with_reducible refine LeO.bind ?_ (fun _ => ?_))
      | exact ih0 _ _ _
      | exact ih1 _ _ _ _ _ _ _
      | exact ih2 _ _ _ _ _ _ _ _
      | exact ih3 _ _ _ _ _ _ _
      | exact ih4 _ _ _ _ _ _ _ _
      | exact rhizomeref01_Bytes.mono _ _ _ _
      | exact LeO.none _
      | refine LeO.ite ?_ ?_
      | refine LeO.bind ?_ (fun _ => ?_)
    · intro y0 y1 y2 y3 y4 y5 y6 y7
      unfold rhizomeref01_Decode.j4
      repeat' first
      | (with_reducible exact ih0 _ _ _)
      | (with_reducible exact ih1 _ _ _ _ _ _ _)
      | (with_reducible exact ih2 _ _ _ _ _ _ _ _)
      | (with_reducible exact ih3 _ _ _ _ _ _ _)
      | (with_reducible exact ih4 _ _ _ _ _ _ _ _)
      | (with_reducible exact rhizomeref01_Bytes.mono _ _ _ _)
      | (with_reducible exact LeO.refl _)
      | (with_reducible exact LeO.none _)
      | (with_reducible refine LeO.ite ?_ ?_)
      | (with_reducible refine LeO.bind ?_ (fun _ => ?_))
      | exact ih0 _ _ _
      | exact ih1 _ _ _ _ _ _ _
      | exact ih2 _ _ _ _ _ _ _ _
      | exact ih3 _ _ _ _ _ _ _
      | exact ih4 _ _ _ _ _ _ _ _
      | exact rhizomeref01_Bytes.mono _ _ _ _
      | exact LeO.none _
      | refine LeO.ite ?_ ?_
      | refine LeO.bind ?_ (fun _ => ?_)
theorem rhizomeref01_Decode.mono : ∀ a0 k, LeO (rhizomeref01_Decode.f k a0) (rhizomeref01_Decode.f (k + 1) a0) := by
  intro a0 k
  obtain ⟨ih0, ih1, ih2, ih3, ih4⟩ := rhizomeref01_Decode.mono_l k
  unfold rhizomeref01_Decode.f
  repeat' first
      | (with_reducible exact ih0 _ _ _)
      | (with_reducible exact ih1 _ _ _ _ _ _ _)
      | (with_reducible exact ih2 _ _ _ _ _ _ _ _)
      | (with_reducible exact ih3 _ _ _ _ _ _ _)
      | (with_reducible exact ih4 _ _ _ _ _ _ _ _)
      | (with_reducible exact rhizomeref01_Bytes.mono _ _ _ _)
      | (with_reducible exact LeO.refl _)
      | (with_reducible exact LeO.none _)
      | (with_reducible refine LeO.ite ?_ ?_)
      | (with_reducible refine LeO.bind ?_ (fun _ => ?_))
      | exact ih0 _ _ _
      | exact ih1 _ _ _ _ _ _ _
      | exact ih2 _ _ _ _ _ _ _ _
      | exact ih3 _ _ _ _ _ _ _
      | exact ih4 _ _ _ _ _ _ _ _
      | exact rhizomeref01_Bytes.mono _ _ _ _
      | exact LeO.none _
      | refine LeO.ite ?_ ?_
      | refine LeO.bind ?_ (fun _ => ?_)
def rhizomeref01_Decode.T18 : Bool × List (List Nat × List Nat) := (true, [([], []), ([0], [0]), ([], []), ([], []), ([], []), ([4], [4]), ([2, 3, 5], [2, 3, 5]), ([6], [6]), ([1, 7], [1, 7]), ([0, 1, 2, 3, 4, 5, 6, 7, 8], []), ([9, 8, 0, 1, 2, 3, 4, 5, 6, 7, 8], [8, 9])])
def rhizomeref01_Decode.B18 : List Nat := [0, 1, 0, 0, 0, 16, 60, 124, 255, 511, 1023]
theorem rhizomeref01_Decode.tab18 : rtab .any (opsOf Tryd.f24 18) = rhizomeref01_Decode.T18 := by kernel_rfl
theorem rhizomeref01_Decode.bits18 : waitsOk rhizomeref01_Decode.T18.2 rhizomeref01_Decode.B18 = true := by kernel_rfl
set_option maxHeartbeats 8000000 in
set_option maxRecDepth 100000 in
theorem rhizomeref01_Decode.calls (k : Nat) (A0 : Option Addr) (c0 : Nat) (l0 : List Int) (r1 : List (S56)) (r2 : Int) (w : World) (hr0 : Kd.C (Kd.int .u8) w A0 l0.length l0) (hc0 : l0.length ≤ c0) (h : rhizomeref01_Decode.f k l0 = some (r1, r2)) :
    Calls Tryd.prog 24 #[.slice A0 l0.length c0] w fun e w' => ∃ v0_ : Value, e = .returned (.tuple #[v0_, .int .i64 r2]) ∧ Kd.R k56 56 w' w.heap.size (fun _ => True) v0_ r1 ∧ Below w.heap.size w w' := by
  have hu56 := Tryd.underlying56
  have HR0 := Aside0.mk hr0
  have HC0 := Aside0.mk hc0
  clear hr0 hc0
  have HB := Aside0.mk (Below.refl w.heap.size w)
  have H : (if (l0.length : Int) > 200 then (some (([] : List (S56)), 3)) else (rhizomeref01_Decode.l0 k l0 ([] : List (S56)) 0)) = some (r1, r2) := h
  clear h
  by_cases c2 : (l0.length : Int) > 200
  · rw [if_pos c2] at H
    have c2b0 : decide (200 < (l0.length : Int)) = true := decide_eq_true c2
    have c2b1 : decide (200 < l0.length) = true := decide_eq_true (by omega)
    clear c2
    simp only [Option.some.injEq, Prod.mk.injEq] at H
    obtain ⟨rfl, rfl⟩ := H
    go_enter Tryd.func24, Tryd.ntmps24
    go_wp2
    go_ret2
    exact ⟨_, by first | rfl | (simp [errW_none, errW_some] <;> rfl) | (simp [*, errW_none, errW_some] <;> rfl), by first | exact Kd.R_nil _ _ _ _ _ | exact Kd.N_nil _ _ _ _ _ | exact Kd.V_nil _ _ _ _ _ | exact Kd.Q_nil _ _ _ _ _ | exact Kd.S_nil _ _ _ _ _, by repeat (first | (with_reducible first | exact HB.out | apply below_alloc | apply pw_below_drewN | apply below_drew1) | exact HB.out)⟩
  · rw [if_neg c2] at H
    have c2b0 : decide (200 < (l0.length : Int)) = false := decide_eq_false c2
    have c2b1 : decide (200 < l0.length) = false := decide_eq_false (by omega)
    clear c2
    have H' := Aside0.mk H
    clear H
    go_enter Tryd.func24, Tryd.ntmps24
    go_wp2
    go_loopg [4, 5] k (fun kq v4 v5 w' => ∃ (x4_1 : List (S56)) (x5_1 : Int), v5 = .int .i64 x5_1 ∧ Aside0 (rhizomeref01_Decode.l0 kq l0 x4_1 x5_1 = some (r1, r2)) ∧ Aside0 (kq ≤ k) ∧ Aside0 (Kd.R k56 56 w' w.heap.size (fun _ => True) v4 x4_1) ∧ Aside0 (Below w.heap.size w w'))
    case atStart => exact ⟨(([] : List (S56))), (0), (by first | rfl | (simp; done) | (simp [*]; done)), H', ⟨Nat.le_refl _⟩, ⟨by first | exact Kd.R_nil _ _ _ _ _ | exact Kd.N_nil _ _ _ _ _ | exact Kd.V_nil _ _ _ _ _ | exact Kd.Q_nil _ _ _ _ _ | exact Kd.S_nil _ _ _ _ _⟩, ⟨by repeat (first | (with_reducible first | exact HB.out | apply below_alloc | apply pw_below_drewN | apply below_drew1) | exact HB.out)⟩⟩
    case round =>
      clear H'
      try clear c2
      try clear c2b0
      try clear c2b1
      try clear p2
      obtain ⟨x4_1, x5_1, rfl, HA, HK1, HO_4, HB⟩ := hrel
      cases gk with
      | zero => exact absurd HA.out (by simp [rhizomeref01_Decode.l0])
      | succ k1 =>
        have H := HA.out
        clear HA
        simp only [rhizomeref01_Decode.l0] at H
        by_cases c3 : x5_1 < (l0.length : Int)
        · rw [if_pos c3] at H
          have c3b0 : decide (x5_1 < (l0.length : Int)) = true := decide_eq_true c3
          clear c3
          have HC4 := Aside0.mk H
          clear H
          go_upto_region 7 with (first | ((with_reducible refine gate_dst (N := 6) rfl ?_); (try (refine gate_guard (by rfl) ?_; dsimp only)); refine box_event ?hg (N := 6) ?hd (cs := #[.bool false, .string (⟨#[]⟩ : ByteArray), .int .i64 0]) (t := 56) ?hr ?_; (case hd => rfl); (case hg => rfl); (case hr => first | (go_simp; done) | (go_simp; rfl)); intro gb312 hg w5 hbox hb; have n0_ := Aside0.mk (Kd.R_below (Kd.R_elderB (by (with_reducible repeat (first | apply Kd.R_alloc | apply Kd.R_drewN | apply Kd.R_drew)); exact HO_4.out) gb312 (Nat.le_of_eq hg.symm)) hb); have n1_ := Aside0.mk (below_step (by repeat (first | (with_reducible first | exact HB.out | apply below_alloc | apply pw_below_drewN | apply below_drew1) | exact HB.out)) hb); have n2_ := Aside0.mk (hbox); have n3_ := Aside0.mk ((by rw [hg]; exact (below_size (by repeat (first | (with_reducible first | exact HB.out | apply below_alloc | apply pw_below_drewN | apply below_drew1) | exact HB.out))) : w.heap.size ≤ gb312)); have n4_ := Aside0.mk ((by rw [hg]; exact (below_size (by repeat (first | (with_reducible first | exact HB.out | apply below_alloc | apply pw_below_drewN | apply below_drew1) | exact HB.out))) : w.heap.size ≤ gb312)); clear HO_4; clear HB; have HO_4 := n0_; have HB := n1_; have BK312 := n2_; have GW312 := n3_; have GE312 := n4_; clear n0_ n1_ n2_ n3_ n4_; clear hb hbox hg; have hcz6_0 : w5.cell? ⟨gb312, 0, none⟩ = some (.bool false) := (blk_cell BK312.out 0).trans rfl; have hcz6_1 : w5.cell? ⟨gb312, 1, none⟩ = some (.string (⟨#[]⟩ : ByteArray)) := (blk_cell BK312.out 1).trans rfl; have hcz6_2 : w5.cell? ⟨gb312, 2, none⟩ = some (.int .i64 0) := (blk_cell BK312.out 2).trans rfl; have hfz6_0 := blk_frozen BK312.out 0; have hfz6_1 := blk_frozen BK312.out 1; have hfz6_2 := blk_frozen BK312.out 2))
          (try simp only [Act.put, List.setIfInBounds_toArray, List.set_cons_zero, List.set_cons_succ])
          go_cut [29] (fun v29 wc => ∃ (kq : Nat) (x29_3 : Bool), v29 = .bool x29_3 ∧ Aside0 (rhizomeref01_Decode.j1 kq l0 x4_1 x5_1 x29_3 false (⟨#[]⟩ : ByteArray) 0 = some (r1, r2)) ∧ Aside0 (kq ≤ k1) ∧ Aside0 (Kd.R k56 56 wc w.heap.size (fun k_ => k_ ≠ gb312) u4 x4_1) ∧ Aside0 (wc.heap[gb312]? = some (.cells #[.bool false, .string (⟨#[]⟩ : ByteArray), .int .i64 0] 56 (0, 0))) ∧ Aside0 (Below w.heap.size w wc))
          case first =>
            have H := HC4.out
            clear HC4
            by_cases c7 : 0 ≤ x5_1
            · rw [if_pos c7] at H
              have c7b0 : decide (0 ≤ x5_1) = true := decide_eq_true c7
              clear c7
              (first | rw [c7b0] | (simp only [i64_w, i32_w]; rw [c7b0]) | skip)
              by_cases c8 : (rd l0 x5_1) = 1
              · rw [if_pos c8] at H
                have c8b0 : ((rd l0 x5_1) == 1) = true := beq_iff_eq.mpr c8
                have c8b1 : ((rd l0 x5_1) != 1) = false := bne_eq_false_iff_eq.mpr c8
                clear c8
                have H' := Aside0.mk H
                clear H
                have p313 : 0 ≤ (x5_1 : Int) := of_decide_eq_true (by first | (with_reducible assumption) | assumption)
                have q313 : x5_1 < (l0.length : Int) := of_decide_eq_true (by first | (with_reducible assumption) | assumption)
                obtain ⟨ad313, e313, hx313_0⟩ := Kd.at_int HR0.out x5_1 p313 q313
                cases e313
                have hn313_0 : ad313.block ≠ gb312 := Nat.ne_of_lt (Nat.lt_of_lt_of_le (by have := World.block_lt_of_cell? _ _ hx313_0; first | rwa [add_block] at this | exact this) GW312.out)
                have hn313_1 : ad313.block ≠ gb312 := Nat.ne_of_lt (Nat.lt_of_lt_of_le (by have := World.block_lt_of_cell? _ _ hx313_0; first | rwa [add_block] at this | exact this) GW312.out)
                have hn313_2 : ad313.block ≠ gb312 := Nat.ne_of_lt (Nat.lt_of_lt_of_le (by have := World.block_lt_of_cell? _ _ hx313_0; first | rwa [add_block] at this | exact this) GW312.out)
                replace hx313_0 := (HB.out.cell (World.block_lt_of_cell? w _ hx313_0)).trans hx313_0
                replace hx313_0 := (cell_far (p := ⟨gb312, 0, none⟩) (by first | (rw [add_block]; exact hn313_0) | (show (Addr.add _ _).block ≠ _; rw [add_block]; exact hn313_0) | exact hn313_0) (.bool false)).trans hx313_0
                replace hx313_0 := (cell_far (p := ⟨gb312, 1, none⟩) (by first | (rw [add_block]; exact hn313_1) | (show (Addr.add _ _).block ≠ _; rw [add_block]; exact hn313_1) | exact hn313_1) (.string (⟨#[]⟩ : ByteArray))).trans hx313_0
                replace hx313_0 := (cell_far (p := ⟨gb312, 2, none⟩) (by first | (rw [add_block]; exact hn313_2) | (show (Addr.add _ _).block ≠ _; rw [add_block]; exact hn313_2) | exact hn313_2) (.int .i64 0)).trans hx313_0
                clear hn313_0
                clear hn313_1
                clear hn313_2
                replace p313 := eq_true p313
                replace q313 := eq_true q313
                go_wp2
                go_meet
                case rel => exact ⟨_, (decide ((wrap64 (x5_1 + 9)) ≤ (l0.length : Int))), (by first | rfl | (simp; done) | (simp [*]; done)), H', ⟨by have := HK1.out; first | omega | exact Nat.le_refl _⟩, ⟨by (with_reducible repeat (first | apply Kd.R_alloc | apply Kd.R_drewN | apply Kd.R_drew)); exact Kd.R_mono (Kd.R_far (p := ⟨gb312, 2, none⟩) (Kd.R_far (p := ⟨gb312, 1, none⟩) (Kd.R_far (p := ⟨gb312, 0, none⟩) (Kd.R_mono HO_4.out (fun k_ hk => (⟨hk, hk.2⟩ : _ ∧ k_ ≠ gb312))) (fun _ hk => hk.2) (.bool false)) (fun _ hk => hk.2) (.string (⟨#[]⟩ : ByteArray))) (fun _ hk => hk.2) (.int .i64 0)) (fun _ hk => hk.1.2)⟩, ⟨by (with_reducible repeat (first | refine blk_drewN ?_ _ | refine blk_drew ?_ | refine blk_alloc ?_ _)); refine blk_put (cs := #[.bool false, .string (⟨#[]⟩ : ByteArray), .int .i64 0]) ?_ 2 _ rfl; (with_reducible repeat (first | refine blk_drewN ?_ _ | refine blk_drew ?_ | refine blk_alloc ?_ _)); refine blk_put (cs := #[.bool false, .string (⟨#[]⟩ : ByteArray), .int .i64 0]) ?_ 1 _ rfl; (with_reducible repeat (first | refine blk_drewN ?_ _ | refine blk_drew ?_ | refine blk_alloc ?_ _)); refine blk_put (cs := #[.bool false, .string (⟨#[]⟩ : ByteArray), .int .i64 0]) ?_ 0 _ rfl; (with_reducible repeat (first | refine blk_drewN ?_ _ | refine blk_drew ?_ | refine blk_alloc ?_ _)); exact BK312.out⟩, ⟨by repeat (first | (with_reducible first | exact HB.out | apply below_alloc | apply pw_below_drewN | apply below_drew1 | refine below_set ?_ GE312.out) | exact HB.out)⟩⟩
              · rw [if_neg c8] at H
                have c8b0 : ((rd l0 x5_1) == 1) = false := beq_eq_false_iff_ne.mpr c8
                have c8b1 : ((rd l0 x5_1) != 1) = true := bne_iff_ne.mpr c8
                have H' := Aside0.mk H
                clear H
                have p313 : 0 ≤ (x5_1 : Int) := of_decide_eq_true (by first | (with_reducible assumption) | assumption)
                have q313 : x5_1 < (l0.length : Int) := of_decide_eq_true (by first | (with_reducible assumption) | assumption)
                obtain ⟨ad313, e313, hx313_0⟩ := Kd.at_int HR0.out x5_1 p313 q313
                cases e313
                have hn313_0 : ad313.block ≠ gb312 := Nat.ne_of_lt (Nat.lt_of_lt_of_le (by have := World.block_lt_of_cell? _ _ hx313_0; first | rwa [add_block] at this | exact this) GW312.out)
                have hn313_1 : ad313.block ≠ gb312 := Nat.ne_of_lt (Nat.lt_of_lt_of_le (by have := World.block_lt_of_cell? _ _ hx313_0; first | rwa [add_block] at this | exact this) GW312.out)
                have hn313_2 : ad313.block ≠ gb312 := Nat.ne_of_lt (Nat.lt_of_lt_of_le (by have := World.block_lt_of_cell? _ _ hx313_0; first | rwa [add_block] at this | exact this) GW312.out)
                replace hx313_0 := (HB.out.cell (World.block_lt_of_cell? w _ hx313_0)).trans hx313_0
                replace hx313_0 := (cell_far (p := ⟨gb312, 0, none⟩) (by first | (rw [add_block]; exact hn313_0) | (show (Addr.add _ _).block ≠ _; rw [add_block]; exact hn313_0) | exact hn313_0) (.bool false)).trans hx313_0
                replace hx313_0 := (cell_far (p := ⟨gb312, 1, none⟩) (by first | (rw [add_block]; exact hn313_1) | (show (Addr.add _ _).block ≠ _; rw [add_block]; exact hn313_1) | exact hn313_1) (.string (⟨#[]⟩ : ByteArray))).trans hx313_0
                replace hx313_0 := (cell_far (p := ⟨gb312, 2, none⟩) (by first | (rw [add_block]; exact hn313_2) | (show (Addr.add _ _).block ≠ _; rw [add_block]; exact hn313_2) | exact hn313_2) (.int .i64 0)).trans hx313_0
                clear hn313_0
                clear hn313_1
                clear hn313_2
                replace p313 := eq_true p313
                replace q313 := eq_true q313
                go_wp2
                go_meet
                case rel => exact ⟨_, (false), (by first | rfl | (simp; done) | (simp [*]; done)), H', ⟨by have := HK1.out; first | omega | exact Nat.le_refl _⟩, ⟨by (with_reducible repeat (first | apply Kd.R_alloc | apply Kd.R_drewN | apply Kd.R_drew)); exact Kd.R_mono (Kd.R_far (p := ⟨gb312, 2, none⟩) (Kd.R_far (p := ⟨gb312, 1, none⟩) (Kd.R_far (p := ⟨gb312, 0, none⟩) (Kd.R_mono HO_4.out (fun k_ hk => (⟨hk, hk.2⟩ : _ ∧ k_ ≠ gb312))) (fun _ hk => hk.2) (.bool false)) (fun _ hk => hk.2) (.string (⟨#[]⟩ : ByteArray))) (fun _ hk => hk.2) (.int .i64 0)) (fun _ hk => hk.1.2)⟩, ⟨by (with_reducible repeat (first | refine blk_drewN ?_ _ | refine blk_drew ?_ | refine blk_alloc ?_ _)); refine blk_put (cs := #[.bool false, .string (⟨#[]⟩ : ByteArray), .int .i64 0]) ?_ 2 _ rfl; (with_reducible repeat (first | refine blk_drewN ?_ _ | refine blk_drew ?_ | refine blk_alloc ?_ _)); refine blk_put (cs := #[.bool false, .string (⟨#[]⟩ : ByteArray), .int .i64 0]) ?_ 1 _ rfl; (with_reducible repeat (first | refine blk_drewN ?_ _ | refine blk_drew ?_ | refine blk_alloc ?_ _)); refine blk_put (cs := #[.bool false, .string (⟨#[]⟩ : ByteArray), .int .i64 0]) ?_ 0 _ rfl; (with_reducible repeat (first | refine blk_drewN ?_ _ | refine blk_drew ?_ | refine blk_alloc ?_ _)); exact BK312.out⟩, ⟨by repeat (first | (with_reducible first | exact HB.out | apply below_alloc | apply pw_below_drewN | apply below_drew1 | refine below_set ?_ GE312.out) | exact HB.out)⟩⟩
            · rw [if_neg c7] at H
              exact absurd H (by simp)
          case rest =>
            clear HC4
            try clear c2
            try clear c2b0
            try clear c2b1
            try clear p2
            try clear c3
            try clear c3b0
            try clear p3
            try clear q3
            try clear hx3
            try clear p6
            try clear c7
            try clear c7b0
            try clear c8
            try clear c8b0
            try clear c8b1
            try clear hcz6_0
            try clear hcz6_1
            try clear hcz6_2
            try clear hfz6_0
            try clear hfz6_1
            try clear hfz6_2
            try clear hx313_0
            try clear p2
            try clear p313
            try clear q313
            obtain ⟨kq, x29_3, rfl, HA, HJ3, HO_4, BK312, HB⟩ := hcut
            cases kq with
            | zero => exact absurd HA.out (by simp [rhizomeref01_Decode.j1])
            | succ kj3 =>
              have H := HA.out
              clear HA
              simp only [rhizomeref01_Decode.j1] at H
              by_cases c9 : x29_3 = true
              · subst c9
                have H1 : (rhizomeref01_Decode.l1 kj3 l0 x4_1 x5_1 0 1 false (⟨#[]⟩ : ByteArray) 0) = some (r1, r2) := by rw [if_pos rfl] at H; exact H
                clear H
                have H := H1
                clear H1
                have H' := Aside0.mk H
                clear H
                go_wp2
                go_loopg [7, 8] kj3 (fun kq v7 v8 w' => ∃ (x7_3 : Int) (x8_3 : Int), v7 = .int .u64 x7_3 ∧ v8 = .int .i64 x8_3 ∧ Aside0 (rhizomeref01_Decode.l1 kq l0 x4_1 x5_1 x7_3 x8_3 false (⟨#[]⟩ : ByteArray) 0 = some (r1, r2)) ∧ Aside0 (kq ≤ kj3) ∧ Aside0 (Kd.R k56 56 w' w.heap.size (fun k_ => k_ ≠ gb312) u4 x4_1) ∧ Aside0 (w'.heap[gb312]? = some (.cells #[.bool false, .string (⟨#[]⟩ : ByteArray), .int .i64 0] 56 (0, 0))) ∧ Aside0 (Below w.heap.size w w'))
                case atStart => exact ⟨(0), (1), (by first | rfl | (simp; done) | (simp [*]; done)), (by first | rfl | (simp; done) | (simp [*]; done)), H', ⟨Nat.le_refl _⟩, ⟨by (with_reducible repeat (first | apply Kd.R_alloc | apply Kd.R_drewN | apply Kd.R_drew)); exact HO_4.out⟩, ⟨by (with_reducible repeat (first | refine blk_drewN ?_ _ | refine blk_drew ?_ | refine blk_alloc ?_ _)); exact BK312.out⟩, ⟨by repeat (first | (with_reducible first | exact HB.out | apply below_alloc | apply pw_below_drewN | apply below_drew1 | refine below_set ?_ GE312.out) | exact HB.out)⟩⟩
                case round =>
                  clear H'
                  try clear c2
                  try clear c2b0
                  try clear c2b1
                  try clear p2
                  try clear c3
                  try clear c3b0
                  try clear p3
                  try clear q3
                  try clear hx3
                  try clear p6
                  try clear c7
                  try clear c7b0
                  try clear c8
                  try clear c8b0
                  try clear c8b1
                  try clear c9
                  try clear hcz6_0
                  try clear hcz6_1
                  try clear hcz6_2
                  try clear hfz6_0
                  try clear hfz6_1
                  try clear hfz6_2
                  try clear hx313_0
                  try clear p2
                  try clear p3
                  try clear p313
                  try clear p6
                  try clear q3
                  try clear q313
                  obtain ⟨x7_3, x8_3, rfl, rfl, HA, HK3, HO_4, BK312, HB⟩ := hrel
                  cases gk with
                  | zero => exact absurd HA.out (by simp [rhizomeref01_Decode.l1])
                  | succ k3 =>
                    have H := HA.out
                    clear HA
                    simp only [rhizomeref01_Decode.l1] at H
                    by_cases c10 : x8_3 < 9
                    · rw [if_pos c10] at H
                      have c10b0 : decide (x8_3 < 9) = true := decide_eq_true c10
                      clear c10
                      obtain ⟨ji11, hji11⟩ : ∃ j_ : Int, (wrap64 (x5_1 + x8_3)) = j_ := ⟨_, rfl⟩
                      replace H : (if 0 ≤ (ji11) then (if (ji11) < (l0.length : Int) then (rhizomeref01_Decode.l1 k3 l0 x4_1 x5_1 (IntKind.u64.wrap ((IntKind.u64.wrap (x7_3 * 256)) + (IntKind.u64.wrap (rd l0 (ji11))))) (wrap64 (x8_3 + 1)) false (⟨#[]⟩ : ByteArray) 0) else (none)) else (none)) = some (r1, r2) := by first | (rw [hji11] at H; exact H) | (simp only [hji11] at H ⊢; exact H)
                      have hji11w : (IntKind.i64.wrap (x5_1 + x8_3)) = ji11 := (i64_w _).trans hji11
                      by_cases c12 : 0 ≤ (ji11)
                      · rw [if_pos c12] at H
                        have c12b0 : decide (0 ≤ (ji11)) = true := decide_eq_true c12
                        clear c12
                        by_cases c13 : (ji11) < (l0.length : Int)
                        · rw [if_pos c13] at H
                          have c13b0 : decide ((ji11) < (l0.length : Int)) = true := decide_eq_true c13
                          clear c13
                          have H' := Aside0.mk H
                          clear H
                          have p314 : 0 ≤ ((ji11) : Int) := of_decide_eq_true (by first | (with_reducible assumption) | assumption)
                          have q314 : (ji11) < (l0.length : Int) := of_decide_eq_true (by first | (with_reducible assumption) | assumption)
                          obtain ⟨ad314, e314, hx314_0⟩ := Kd.at_int HR0.out (ji11) p314 q314
                          cases e314
                          replace hx314_0 := (HB.out.cell (World.block_lt_of_cell? w _ hx314_0)).trans hx314_0
                          replace p314 := eq_true p314
                          replace q314 := eq_true q314
                          go_wp2
                          go_roundg k3
                          case measure => have := HK1.out; have := HJ3.out; have := HK3.out; omega
                          case rel => exact ⟨(IntKind.u64.wrap ((IntKind.u64.wrap (x7_3 * 256)) + (IntKind.u64.wrap (rd l0 (ji11))))), (wrap64 (x8_3 + 1)), (by first | rfl | (simp; done) | (simp only [← hji11] <;> (first | rfl | simp)) | (simp [*]; done)), (by first | rfl | (simp; done) | (simp [*]; done)), H', ⟨by have := HK1.out; have := HJ3.out; have := HK3.out; omega⟩, ⟨by (with_reducible repeat (first | apply Kd.R_alloc | apply Kd.R_drewN | apply Kd.R_drew)); exact HO_4.out⟩, ⟨by (with_reducible repeat (first | refine blk_drewN ?_ _ | refine blk_drew ?_ | refine blk_alloc ?_ _)); exact BK312.out⟩, ⟨by repeat (first | (with_reducible first | exact HB.out | apply below_alloc | apply pw_below_drewN | apply below_drew1 | refine below_set ?_ GE312.out) | exact HB.out)⟩⟩
                        · rw [if_neg c13] at H
                          exact absurd H (by simp)
                      · rw [if_neg c12] at H
                        exact absurd H (by simp)
                    · rw [if_neg c10] at H
                      have c10b0 : decide (x8_3 < 9) = false := decide_eq_false c10
                      clear c10
                      by_cases c14 : x4_1.length < 4398046511104
                      · rw [if_pos c14] at H
                        have LMc14 := Aside0.mk c14
                        clear c14
                        obtain ⟨y315, hy315⟩ : ∃ y_ : List (S56), y_ = (x4_1 ++ [(⟨false, (⟨#[]⟩ : ByteArray), wrap64 (IntKind.u64.wrap (x7_3 + 9223372036854775808))⟩ : S56)]) := ⟨_, rfl⟩
                        replace H : ((rhizomeref01_Bytes.f k3 false (⟨#[]⟩ : ByteArray) (wrap64 (IntKind.u64.wrap (x7_3 + 9223372036854775808)))).bind fun t318 => (rhizomeref01_Decode.l0 k3 l0 y315 (wrap64 (x5_1 + (t318.length : Int))))) = some (r1, r2) := by first | (rw [hy315]; with_reducible exact H) | (have H2_ := (Option.bind_some _ _).symm.trans H; rw [hy315]; with_reducible exact H2_) | (have H2_ := (Option.bind_some _ _).symm.trans H; with_reducible exact H2_) | with_reducible exact H | (rw [hy315]; exact H) | exact H
                        have Ny315 := Aside0.mk hy315
                        clear hy315
                        replace H := Option.bind_eq_some_iff.mp H
                        obtain ⟨t318, A150, H⟩ := H
                        replace H : (rhizomeref01_Decode.l0 k3 l0 y315 (wrap64 (x5_1 + (t318.length : Int)))) = some (r1, r2) := H
                        have A15 := Aside0.mk A150
                        clear A150
                        have H' := Aside0.mk H
                        clear H
                        have hcz16_0 : wr.cell? ⟨gb312, 0, none⟩ = some (.bool false) := (blk_cell BK312.out 0).trans rfl
                        have hcz16_1 : wr.cell? ⟨gb312, 1, none⟩ = some (.string (⟨#[]⟩ : ByteArray)) := (blk_cell BK312.out 1).trans rfl
                        have hcz16_2 : wr.cell? ⟨gb312, 2, none⟩ = some (.int .i64 0) := (blk_cell BK312.out 2).trans rfl
                        have hfz16_0 := blk_frozen BK312.out 0
                        have hfz16_1 := blk_frozen BK312.out 1
                        have hfz16_2 := blk_frozen BK312.out 2
                        go_wp2_with (first | ((with_reducible refine gate_builtin (b := .append) (xs := #[.tmp 114, .tmp 116]) rfl ?_); (try (refine gate_guard (by rfl) ?_; dsimp only)); at_builtin; refine Kd.R_append k56 (w0 := w) w.heap.size rfl (.tmp 114) (.tmp 116) 42 56 (.agg #[(.bool false), (.string ⟨#[]⟩), (.int .i64 0)]) 32 rfl Tryd.underlying42 info56 rfl (by decide) (by omega) u4 x4_1 (⟨false, (⟨#[]⟩ : ByteArray), wrap64 (IntKind.u64.wrap (x7_3 + 9223372036854775808))⟩ : S56) [.bool false, .string (⟨#[]⟩ : ByteArray), .int .i64 (wrap64 (IntKind.u64.wrap (x7_3 + 9223372036854775808)))] (fun k_ => k_ ≠ gb312) (fun _ => False) rfl (by first | (go_simp; done) | (go_simp; rfl)) ?aP (fun _ hk => hk.elim) ?aF ?aO ?aB ?aS ?aL ?_; (case aP => exact k56_mkM _ _ _ (⟨false, (⟨#[]⟩ : ByteArray), wrap64 (IntKind.u64.wrap (x7_3 + 9223372036854775808))⟩ : S56)); (case aB => exact (by repeat (first | (with_reducible first | exact HB.out | apply below_alloc | apply pw_below_drewN | apply below_drew1 | refine below_set ?_ GE312.out) | exact HB.out))); (case aF => exact (fun k_ hk => Kd.freshB (g := gb312) (o := .cells #[.bool false, .string (⟨#[]⟩ : ByteArray), .int .i64 (wrap64 (IntKind.u64.wrap (x7_3 + 9223372036854775808)))] 56 (0, 0)) (by (with_reducible repeat (first | refine blk_drewN ?_ _ | refine blk_drew ?_ | refine blk_alloc ?_ _)); refine blk_put (cs := #[.bool false, .string (⟨#[]⟩ : ByteArray), .int .i64 0]) ?_ 2 _ rfl; (with_reducible repeat (first | refine blk_drewN ?_ _ | refine blk_drew ?_ | refine blk_alloc ?_ _)); exact BK312.out) k_ hk)); (case aO => exact (by (with_reducible repeat (first | apply Kd.R_alloc | apply Kd.R_drewN | apply Kd.R_drew)); exact Kd.R_mono (Kd.R_far (p := ⟨gb312, 2, none⟩) (Kd.R_mono HO_4.out (fun k_ hk => (⟨hk, hk⟩ : _ ∧ k_ ≠ gb312))) (fun _ hk => hk.2) (.int .i64 (wrap64 (IntKind.u64.wrap (x7_3 + 9223372036854775808))))) (fun _ hk => hk.1))); (case aS => exact (below_size (by repeat (first | (with_reducible first | exact HB.out | apply below_alloc | apply pw_below_drewN | apply below_drew1 | refine below_set ?_ GE312.out) | exact HB.out)))); (case aL => have := LMc14.out; omega); intro v316 w17 ho hb hg hat; rw [← Ny315.out] at ho; have n0_ := Aside0.mk (blk_grown (g := gb312) (o := .cells #[.bool false, .string (⟨#[]⟩ : ByteArray), .int .i64 (wrap64 (IntKind.u64.wrap (x7_3 + 9223372036854775808)))] 56 (0, 0)) (by (with_reducible repeat (first | refine blk_drewN ?_ _ | refine blk_drew ?_ | refine blk_alloc ?_ _)); refine blk_put (cs := #[.bool false, .string (⟨#[]⟩ : ByteArray), .int .i64 0]) ?_ 2 _ rfl; (with_reducible repeat (first | refine blk_drewN ?_ _ | refine blk_drew ?_ | refine blk_alloc ?_ _)); exact BK312.out) hg (Kd.R_away HO_4.out (fun _ hk => hk))); have n1_ := Aside0.mk (hb); have n2_ := Aside0.mk (ho); clear BK312; clear HB; clear HO_4; have BK312 := n0_; have HB := n1_; have HO317 := n2_; clear n0_ n1_ n2_; clear ho hb hg hat; have hcz18_0 : w17.cell? ⟨gb312, 0, none⟩ = some (.bool false) := (blk_cell BK312.out 0).trans rfl; have hcz18_1 : w17.cell? ⟨gb312, 1, none⟩ = some (.string (⟨#[]⟩ : ByteArray)) := (blk_cell BK312.out 1).trans rfl; have hcz18_2 : w17.cell? ⟨gb312, 2, none⟩ = some (.int .i64 (wrap64 (IntKind.u64.wrap (x7_3 + 9223372036854775808)))) := (blk_cell BK312.out 2).trans rfl; have hfz18_0 := blk_frozen BK312.out 0; have hfz18_1 := blk_frozen BK312.out 1; have hfz18_2 := blk_frozen BK312.out 2) | ((with_reducible refine gate_callee (f := 30) rfl ?_); refine goesL_ (some 120) rfl rfl Tryd.func30 (by kernel_rfl) rfl #[.agg #[.bool false, .string (⟨#[]⟩ : ByteArray), .int .i64 (wrap64 (IntKind.u64.wrap (x7_3 + 9223372036854775808)))]] rfl (by (try simp only [List.map_toArray, List.map_cons, List.map_nil]); first | done | rfl | (simp only [List.length_drop, List.length_take]; rfl)) ?_; (with_reducible refine (rhizomeref01_Bytes.calls k3 false (⟨#[]⟩ : ByteArray) (wrap64 (IntKind.u64.wrap (x7_3 + 9223372036854775808))) t318 _ A15.out).mono ?_); rintro e w19 ⟨v319, rfl, ho0, hb⟩; refine ⟨_, rfl, ?_⟩; have n0_ := Aside0.mk (Kd.R_below (by (with_reducible repeat (first | apply Kd.R_alloc | apply Kd.R_drewN | apply Kd.R_drew)); exact HO317.out) hb); have n1_ := Aside0.mk (Kd.R_lower ho0 (below_size (by repeat (first | (with_reducible first | exact HB.out | apply below_alloc | apply pw_below_drewN | apply below_drew1 | refine below_set ?_ GE312.out) | exact HB.out)))); have n2_ := Aside0.mk (blk_below (g := gb312) (o := .cells #[.bool false, .string (⟨#[]⟩ : ByteArray), .int .i64 (wrap64 (IntKind.u64.wrap (x7_3 + 9223372036854775808)))] 56 (0, 0)) (by (with_reducible repeat (first | refine blk_drewN ?_ _ | refine blk_drew ?_ | refine blk_alloc ?_ _)); exact BK312.out) hb); have n3_ := Aside0.mk (below_step (by repeat (first | (with_reducible first | exact HB.out | apply below_alloc | apply pw_below_drewN | apply below_drew1 | refine below_set ?_ GE312.out) | exact HB.out)) hb); clear HO317; clear BK312; clear HB; have HO317 := n0_; have HO320 := n1_; have BK312 := n2_; have HB := n3_; clear n0_ n1_ n2_ n3_; (try clear hb); (try clear hb2); (try clear hk); (try clear hi); (try clear ho0); obtain ⟨Ao20, co20, eo20⟩ := Kd.R_slice HO320.out; subst eo20))
                        go_roundg k3
                        case measure => have := HK1.out; have := HJ3.out; have := HK3.out; omega
                        case rel => exact ⟨(y315), (wrap64 (x5_1 + (t318.length : Int))), (by first | rfl | (simp; done) | (simp [*]; done)), H', ⟨by have := HK1.out; have := HJ3.out; have := HK3.out; omega⟩, ⟨by (with_reducible repeat (first | apply Kd.R_alloc | apply Kd.R_drewN | apply Kd.R_drew)); exact Kd.R_mono HO317.out (fun _ hk => trivial)⟩, ⟨by repeat (first | (with_reducible first | exact HB.out | apply below_alloc | apply pw_below_drewN | apply below_drew1 | refine below_set ?_ GE312.out) | exact HB.out)⟩⟩
                      · rw [if_neg c14] at H
                        exact absurd H (by simp)
              · replace c9 := Bool.eq_false_iff.mpr c9
                subst c9
                have H1 : (if 0 ≤ x5_1 then (if x5_1 < (l0.length : Int) then (if (rd l0 x5_1) = 2 then (rhizomeref01_Decode.l2 kj3 l0 x4_1 x5_1 (wrap64 (x5_1 + 1)) true (⟨#[]⟩ : ByteArray) 0) else (some (([] : List (S56)), 6))) else (none)) else (none)) = some (r1, r2) := by rw [if_neg (show ¬ (false = true) by decide)] at H; exact H
                clear H
                have H := H1
                clear H1
                by_cases c21 : 0 ≤ x5_1
                · rw [if_pos c21] at H
                  have c21b0 : decide (0 ≤ x5_1) = true := decide_eq_true c21
                  clear c21
                  by_cases c22 : x5_1 < (l0.length : Int)
                  · rw [if_pos c22] at H
                    have c22b0 : decide (x5_1 < (l0.length : Int)) = true := decide_eq_true c22
                    clear c22
                    by_cases c23 : (rd l0 x5_1) = 2
                    · rw [if_pos c23] at H
                      have c23b0 : ((rd l0 x5_1) == 2) = true := beq_iff_eq.mpr c23
                      have c23b1 : ((rd l0 x5_1) != 2) = false := bne_eq_false_iff_eq.mpr c23
                      clear c23
                      have H' := Aside0.mk H
                      clear H
                      have p321 : 0 ≤ (x5_1 : Int) := of_decide_eq_true (by first | (with_reducible assumption) | assumption)
                      have q321 : x5_1 < (l0.length : Int) := of_decide_eq_true (by first | (with_reducible assumption) | assumption)
                      obtain ⟨ad321, e321, hx321_0⟩ := Kd.at_int HR0.out x5_1 p321 q321
                      cases e321
                      replace hx321_0 := (HB.out.cell (World.block_lt_of_cell? w _ hx321_0)).trans hx321_0
                      replace p321 := eq_true p321
                      replace q321 := eq_true q321
                      have hcz24_0 : wc.cell? ⟨gb312, 0, none⟩ = some (.bool false) := (blk_cell BK312.out 0).trans rfl
                      have hcz24_1 : wc.cell? ⟨gb312, 1, none⟩ = some (.string (⟨#[]⟩ : ByteArray)) := (blk_cell BK312.out 1).trans rfl
                      have hcz24_2 : wc.cell? ⟨gb312, 2, none⟩ = some (.int .i64 0) := (blk_cell BK312.out 2).trans rfl
                      have hfz24_0 := blk_frozen BK312.out 0
                      have hfz24_1 := blk_frozen BK312.out 1
                      have hfz24_2 := blk_frozen BK312.out 2
                      go_wp2
                      go_loopg [9] kj3 (fun kq v9 w' => ∃ (x9_3 : Int) (x313001_3 : ByteArray), v9 = .int .i64 x9_3 ∧ Aside0 (rhizomeref01_Decode.l2 kq l0 x4_1 x5_1 x9_3 true x313001_3 0 = some (r1, r2)) ∧ Aside0 (kq ≤ kj3) ∧ Aside0 (Kd.R k56 56 w' w.heap.size (fun k_ => k_ ≠ gb312) u4 x4_1) ∧ Aside0 (w'.heap[gb312]? = some (.cells #[.bool true, .string x313001_3, .int .i64 0] 56 (0, 0))) ∧ Aside0 (Below w.heap.size w w'))
                      case atStart => exact ⟨(wrap64 (x5_1 + 1)), ((⟨#[]⟩ : ByteArray)), (by first | rfl | (simp; done) | (simp [*]; done)), H', ⟨Nat.le_refl _⟩, ⟨by (with_reducible repeat (first | apply Kd.R_alloc | apply Kd.R_drewN | apply Kd.R_drew)); exact Kd.R_mono (Kd.R_far (p := ⟨gb312, 0, none⟩) (Kd.R_mono HO_4.out (fun k_ hk => (⟨hk, hk⟩ : _ ∧ k_ ≠ gb312))) (fun _ hk => hk.2) (.bool true)) (fun _ hk => hk.1)⟩, ⟨by (with_reducible repeat (first | refine blk_drewN ?_ _ | refine blk_drew ?_ | refine blk_alloc ?_ _)); refine blk_put (cs := #[.bool false, .string (⟨#[]⟩ : ByteArray), .int .i64 0]) ?_ 0 _ rfl; (with_reducible repeat (first | refine blk_drewN ?_ _ | refine blk_drew ?_ | refine blk_alloc ?_ _)); exact BK312.out⟩, ⟨by repeat (first | (with_reducible first | exact HB.out | apply below_alloc | apply pw_below_drewN | apply below_drew1 | refine below_set ?_ GE312.out) | exact HB.out)⟩⟩
                      case round =>
                        clear H'
                        try clear c1
                        try clear c2
                        try clear c2b0
                        try clear c2b1
                        try clear p2
                        try clear c3
                        try clear c3b0
                        try clear p3
                        try clear q3
                        try clear hx3
                        try clear p6
                        try clear c7
                        try clear c7b0
                        try clear c8
                        try clear c8b0
                        try clear c8b1
                        try clear c9
                        try clear c10
                        try clear c10b0
                        try clear c12
                        try clear c12b0
                        try clear c13
                        try clear c13b0
                        try clear c14
                        try clear c21
                        try clear c21b0
                        try clear c22
                        try clear c22b0
                        try clear c23
                        try clear c23b0
                        try clear c23b1
                        try clear c24
                        try clear hcz16_0
                        try clear hcz16_1
                        try clear hcz16_2
                        try clear hcz18_0
                        try clear hcz18_1
                        try clear hcz18_2
                        try clear hcz24_0
                        try clear hcz24_1
                        try clear hcz24_2
                        try clear hcz6_0
                        try clear hcz6_1
                        try clear hcz6_2
                        try clear hfz16_0
                        try clear hfz16_1
                        try clear hfz16_2
                        try clear hfz18_0
                        try clear hfz18_1
                        try clear hfz18_2
                        try clear hfz24_0
                        try clear hfz24_1
                        try clear hfz24_2
                        try clear hfz6_0
                        try clear hfz6_1
                        try clear hfz6_2
                        try clear hx313_0
                        try clear hx314_0
                        try clear hx321_0
                        try clear p2
                        try clear p3
                        try clear p313
                        try clear p314
                        try clear p321
                        try clear p6
                        try clear q3
                        try clear q313
                        try clear q314
                        try clear q321
                        obtain ⟨x9_3, x313001_3, rfl, HA, HK3, HO_4, BK312, HB⟩ := hrel
                        cases gk with
                        | zero => exact absurd HA.out (by simp [rhizomeref01_Decode.l2])
                        | succ k3 =>
                          have H := HA.out
                          clear HA
                          simp only [rhizomeref01_Decode.l2] at H
                          have HC25 := Aside0.mk H
                          clear H
                          go_upto_region 17 with (fail)
                          go_cut [81] (fun v81 wc => ∃ (kq : Nat) (x81_24 : Bool), v81 = .bool x81_24 ∧ Aside0 (rhizomeref01_Decode.j4 kq l0 x4_1 x5_1 x9_3 x81_24 true x313001_3 0 = some (r1, r2)) ∧ Aside0 (kq ≤ k3) ∧ Aside0 (Kd.R k56 56 wc w.heap.size (fun k_ => k_ ≠ gb312) u4 x4_1) ∧ Aside0 (wc.heap[gb312]? = some (.cells #[.bool true, .string x313001_3, .int .i64 0] 56 (0, 0))) ∧ Aside0 (Below w.heap.size w wc))
                          case first =>
                            have H := HC25.out
                            clear HC25
                            by_cases c26 : x9_3 < (l0.length : Int)
                            · rw [if_pos c26] at H
                              have c26b0 : decide (x9_3 < (l0.length : Int)) = true := decide_eq_true c26
                              clear c26
                              (first | rw [c26b0] | (simp only [i64_w, i32_w]; rw [c26b0]) | skip)
                              by_cases c27 : 0 ≤ x9_3
                              · rw [if_pos c27] at H
                                have c27b0 : decide (0 ≤ x9_3) = true := decide_eq_true c27
                                clear c27
                                by_cases c28 : (rd l0 x9_3) = 0
                                · rw [if_pos c28] at H
                                  have c28b0 : ((rd l0 x9_3) == 0) = true := beq_iff_eq.mpr c28
                                  have c28b1 : ((rd l0 x9_3) != 0) = false := bne_eq_false_iff_eq.mpr c28
                                  clear c28
                                  by_cases c29 : (wrap64 (x9_3 + 1)) < (l0.length : Int)
                                  · rw [if_pos c29] at H
                                    have c29b0 : decide ((wrap64 (x9_3 + 1)) < (l0.length : Int)) = true := decide_eq_true c29
                                    clear c29
                                    obtain ⟨ji30, hji30⟩ : ∃ j_ : Int, (wrap64 (x9_3 + 1)) = j_ := ⟨_, rfl⟩
                                    replace H : (if 0 ≤ (ji30) then (rhizomeref01_Decode.j4 k3 l0 x4_1 x5_1 x9_3 ((rd l0 (ji30)) == 255) true x313001_3 0) else (none)) = some (r1, r2) := by first | (rw [hji30] at H; exact H) | (simp only [hji30] at H ⊢; exact H)
                                    (try rw [hji30] at c29b0)
                                    have hji30w : (IntKind.i64.wrap (x9_3 + 1)) = ji30 := (i64_w _).trans hji30
                                    by_cases c31 : 0 ≤ (ji30)
                                    · rw [if_pos c31] at H
                                      have c31b0 : decide (0 ≤ (ji30)) = true := decide_eq_true c31
                                      clear c31
                                      have H' := Aside0.mk H
                                      clear H
                                      have p322 : 0 ≤ (x9_3 : Int) := of_decide_eq_true (by first | (with_reducible assumption) | assumption)
                                      have q322 : x9_3 < (l0.length : Int) := of_decide_eq_true (by first | (with_reducible assumption) | assumption)
                                      obtain ⟨ad322, e322, hx322_0⟩ := Kd.at_int HR0.out x9_3 p322 q322
                                      obtain rfl : ad321 = ad322 := (by injection e322)
                                      replace hx322_0 := (HB.out.cell (World.block_lt_of_cell? w _ hx322_0)).trans hx322_0
                                      replace p322 := eq_true p322
                                      replace q322 := eq_true q322
                                      have p323 : 0 ≤ ((ji30) : Int) := of_decide_eq_true (by first | (with_reducible assumption) | assumption)
                                      have q323 : (ji30) < (l0.length : Int) := of_decide_eq_true (by first | (with_reducible assumption) | assumption)
                                      obtain ⟨ad323, e323, hx323_0⟩ := Kd.at_int HR0.out (ji30) p323 q323
                                      obtain rfl : ad321 = ad323 := (by injection e323)
                                      replace hx323_0 := (HB.out.cell (World.block_lt_of_cell? w _ hx323_0)).trans hx323_0
                                      replace p323 := eq_true p323
                                      replace q323 := eq_true q323
                                      go_wp2
                                      go_meet
                                      case rel => exact ⟨_, (((rd l0 (ji30)) == 255)), (by first | rfl | (simp; done) | (simp only [← hji30] <;> (first | rfl | simp)) | (simp [*]; done)), H', ⟨by have := HK1.out; have := HJ3.out; have := HK3.out; first | omega | exact Nat.le_refl _⟩, ⟨by (with_reducible repeat (first | apply Kd.R_alloc | apply Kd.R_drewN | apply Kd.R_drew)); exact HO_4.out⟩, ⟨by (with_reducible repeat (first | refine blk_drewN ?_ _ | refine blk_drew ?_ | refine blk_alloc ?_ _)); exact BK312.out⟩, ⟨by repeat (first | (with_reducible first | exact HB.out | apply below_alloc | apply pw_below_drewN | apply below_drew1 | refine below_set ?_ GE312.out) | exact HB.out)⟩⟩
                                    · rw [if_neg c31] at H
                                      exact absurd H (by simp)
                                  · rw [if_neg c29] at H
                                    have c29b0 : decide ((wrap64 (x9_3 + 1)) < (l0.length : Int)) = false := decide_eq_false c29
                                    clear c29
                                    have H' := Aside0.mk H
                                    clear H
                                    have p322 : 0 ≤ (x9_3 : Int) := of_decide_eq_true (by first | (with_reducible assumption) | assumption)
                                    have q322 : x9_3 < (l0.length : Int) := of_decide_eq_true (by first | (with_reducible assumption) | assumption)
                                    obtain ⟨ad322, e322, hx322_0⟩ := Kd.at_int HR0.out x9_3 p322 q322
                                    obtain rfl : ad321 = ad322 := (by injection e322)
                                    replace hx322_0 := (HB.out.cell (World.block_lt_of_cell? w _ hx322_0)).trans hx322_0
                                    replace p322 := eq_true p322
                                    replace q322 := eq_true q322
                                    go_wp2
                                    go_meet
                                    case rel => exact ⟨_, (false), (by first | rfl | (simp; done) | (simp [*]; done)), H', ⟨by have := HK1.out; have := HJ3.out; have := HK3.out; first | omega | exact Nat.le_refl _⟩, ⟨by (with_reducible repeat (first | apply Kd.R_alloc | apply Kd.R_drewN | apply Kd.R_drew)); exact HO_4.out⟩, ⟨by (with_reducible repeat (first | refine blk_drewN ?_ _ | refine blk_drew ?_ | refine blk_alloc ?_ _)); exact BK312.out⟩, ⟨by repeat (first | (with_reducible first | exact HB.out | apply below_alloc | apply pw_below_drewN | apply below_drew1 | refine below_set ?_ GE312.out) | exact HB.out)⟩⟩
                                · rw [if_neg c28] at H
                                  have c28b0 : ((rd l0 x9_3) == 0) = false := beq_eq_false_iff_ne.mpr c28
                                  have c28b1 : ((rd l0 x9_3) != 0) = true := bne_iff_ne.mpr c28
                                  have H' := Aside0.mk H
                                  clear H
                                  have p322 : 0 ≤ (x9_3 : Int) := of_decide_eq_true (by first | (with_reducible assumption) | assumption)
                                  have q322 : x9_3 < (l0.length : Int) := of_decide_eq_true (by first | (with_reducible assumption) | assumption)
                                  obtain ⟨ad322, e322, hx322_0⟩ := Kd.at_int HR0.out x9_3 p322 q322
                                  obtain rfl : ad321 = ad322 := (by injection e322)
                                  replace hx322_0 := (HB.out.cell (World.block_lt_of_cell? w _ hx322_0)).trans hx322_0
                                  replace p322 := eq_true p322
                                  replace q322 := eq_true q322
                                  go_wp2
                                  go_meet
                                  case rel => exact ⟨_, (true), (by first | rfl | (simp; done) | (simp [*]; done)), H', ⟨by have := HK1.out; have := HJ3.out; have := HK3.out; first | omega | exact Nat.le_refl _⟩, ⟨by (with_reducible repeat (first | apply Kd.R_alloc | apply Kd.R_drewN | apply Kd.R_drew)); exact HO_4.out⟩, ⟨by (with_reducible repeat (first | refine blk_drewN ?_ _ | refine blk_drew ?_ | refine blk_alloc ?_ _)); exact BK312.out⟩, ⟨by repeat (first | (with_reducible first | exact HB.out | apply below_alloc | apply pw_below_drewN | apply below_drew1 | refine below_set ?_ GE312.out) | exact HB.out)⟩⟩
                              · rw [if_neg c27] at H
                                exact absurd H (by simp)
                            · rw [if_neg c26] at H
                              have c26b0 : decide (x9_3 < (l0.length : Int)) = false := decide_eq_false c26
                              clear c26
                              (first | rw [c26b0] | (simp only [i64_w, i32_w]; rw [c26b0]) | skip)
                              have H' := Aside0.mk H
                              clear H
                              go_wp2
                              go_meet
                              case rel => exact ⟨_, (false), (by first | rfl | (simp; done) | (simp [*]; done)), H', ⟨by have := HK1.out; have := HJ3.out; have := HK3.out; first | omega | exact Nat.le_refl _⟩, ⟨by (with_reducible repeat (first | apply Kd.R_alloc | apply Kd.R_drewN | apply Kd.R_drew)); exact HO_4.out⟩, ⟨by (with_reducible repeat (first | refine blk_drewN ?_ _ | refine blk_drew ?_ | refine blk_alloc ?_ _)); exact BK312.out⟩, ⟨by repeat (first | (with_reducible first | exact HB.out | apply below_alloc | apply pw_below_drewN | apply below_drew1 | refine below_set ?_ GE312.out) | exact HB.out)⟩⟩
                          case rest =>
                            clear HC25
                            try clear c1
                            try clear c2
                            try clear c2b0
                            try clear c2b1
                            try clear p2
                            try clear c3
                            try clear c3b0
                            try clear p3
                            try clear q3
                            try clear hx3
                            try clear p6
                            try clear c7
                            try clear c7b0
                            try clear c8
                            try clear c8b0
                            try clear c8b1
                            try clear c9
                            try clear c10
                            try clear c10b0
                            try clear c12
                            try clear c12b0
                            try clear c13
                            try clear c13b0
                            try clear c14
                            try clear c21
                            try clear c21b0
                            try clear c22
                            try clear c22b0
                            try clear c23
                            try clear c23b0
                            try clear c23b1
                            try clear c24
                            try clear c26
                            try clear c26b0
                            try clear c27
                            try clear c27b0
                            try clear c28
                            try clear c28b0
                            try clear c28b1
                            try clear c29
                            try clear c29b0
                            try clear c30
                            try clear c31
                            try clear c31b0
                            try clear p31
                            try clear q31
                            try clear hx31
                            try clear hcz16_0
                            try clear hcz16_1
                            try clear hcz16_2
                            try clear hcz18_0
                            try clear hcz18_1
                            try clear hcz18_2
                            try clear hcz24_0
                            try clear hcz24_1
                            try clear hcz24_2
                            try clear hcz6_0
                            try clear hcz6_1
                            try clear hcz6_2
                            try clear hfz16_0
                            try clear hfz16_1
                            try clear hfz16_2
                            try clear hfz18_0
                            try clear hfz18_1
                            try clear hfz18_2
                            try clear hfz24_0
                            try clear hfz24_1
                            try clear hfz24_2
                            try clear hfz6_0
                            try clear hfz6_1
                            try clear hfz6_2
                            try clear hx313_0
                            try clear hx314_0
                            try clear hx321_0
                            try clear hx322_0
                            try clear hx323_0
                            try clear p2
                            try clear p3
                            try clear p313
                            try clear p314
                            try clear p321
                            try clear p322
                            try clear p323
                            try clear p6
                            try clear q3
                            try clear q313
                            try clear q314
                            try clear q321
                            try clear q322
                            try clear q323
                            obtain ⟨kq, x81_24, rfl, HA, HJ24, HO_4, BK312, HB⟩ := hcut
                            cases kq with
                            | zero => exact absurd HA.out (by simp [rhizomeref01_Decode.j4])
                            | succ kj24 =>
                              have H := HA.out
                              clear HA
                              simp only [rhizomeref01_Decode.j4] at H
                              by_cases c32 : x81_24 = true
                              · subst c32
                                have H1 : (if 0 ≤ x9_3 then (if x9_3 ≤ (wrap64 (x9_3 + 1)) then (if (wrap64 (x9_3 + 1)) ≤ (l0.length : Int) then (if x313001_3.size + (strOfNums ((l0.take ((wrap64 (x9_3 + 1)) : Int).toNat).drop (x9_3 : Int).toNat)).size ≤ 9223372036854775807 then (if x9_3 < (l0.length : Int) then (if (rd l0 x9_3) = 0 then (rhizomeref01_Decode.l2 kj24 l0 x4_1 x5_1 (wrap64 ((wrap64 (x9_3 + 1)) + 1)) true (x313001_3 ++ (strOfNums ((l0.take ((wrap64 (x9_3 + 1)) : Int).toNat).drop (x9_3 : Int).toNat))) 0) else (rhizomeref01_Decode.l2 kj24 l0 x4_1 x5_1 (wrap64 (x9_3 + 1)) true (x313001_3 ++ (strOfNums ((l0.take ((wrap64 (x9_3 + 1)) : Int).toNat).drop (x9_3 : Int).toNat))) 0)) else (none)) else (none)) else (none)) else (none)) else (none)) = some (r1, r2) := by rw [if_pos rfl] at H; exact H
                                clear H
                                have H := H1
                                clear H1
                                by_cases c33 : 0 ≤ x9_3
                                · rw [if_pos c33] at H
                                  have c33b0 := eq_true c33
                                  have c33b1 : decide (0 ≤ x9_3) = true := decide_eq_true c33
                                  clear c33
                                  by_cases c34 : x9_3 ≤ (wrap64 (x9_3 + 1))
                                  · rw [if_pos c34] at H
                                    have c34b0 := eq_true c34
                                    have c34b1 : decide (x9_3 ≤ (wrap64 (x9_3 + 1))) = true := decide_eq_true c34
                                    by_cases c35 : (wrap64 (x9_3 + 1)) ≤ (l0.length : Int)
                                    · rw [if_pos c35] at H
                                      have c35b0 := eq_true c35
                                      have c35b1 : decide ((wrap64 (x9_3 + 1)) ≤ (l0.length : Int)) = true := decide_eq_true c35
                                      by_cases c36 : x313001_3.size + (strOfNums ((l0.take ((wrap64 (x9_3 + 1)) : Int).toNat).drop (x9_3 : Int).toNat)).size ≤ 9223372036854775807
                                      · rw [if_pos c36] at H
                                        have c36b0 := eq_true c36
                                        have c36b1 : decide (x313001_3.size + (strOfNums ((l0.take ((wrap64 (x9_3 + 1)) : Int).toNat).drop (x9_3 : Int).toNat)).size ≤ 9223372036854775807) = true := decide_eq_true c36
                                        try have c36b2 : (9223372036854775807 < x313001_3.size + (strOfNums ((l0.take ((wrap64 (x9_3 + 1)) : Int).toNat).drop (x9_3 : Int).toNat)).size) = False := eq_false (Nat.not_lt.2 c36)
                                        by_cases c37 : x9_3 < (l0.length : Int)
                                        · rw [if_pos c37] at H
                                          have c37b0 : decide (x9_3 < (l0.length : Int)) = true := decide_eq_true c37
                                          clear c37
                                          by_cases c38 : (rd l0 x9_3) = 0
                                          · rw [if_pos c38] at H
                                            have c38b0 : ((rd l0 x9_3) == 0) = true := beq_iff_eq.mpr c38
                                            have c38b1 : ((rd l0 x9_3) != 0) = false := bne_eq_false_iff_eq.mpr c38
                                            clear c38
                                            have H' := Aside0.mk H
                                            clear H
                                            try go_wp2
                                            have n0_ := Aside0.mk (Kd.R_drew HO_4.out)
                                            have n1_ := Aside0.mk (blk_drew BK312.out)
                                            have n2_ := Aside0.mk (below_drew1 HB.out)
                                            clear HO_4
                                            clear BK312
                                            clear HB
                                            have HO_4 := n0_
                                            have BK312 := n1_
                                            have HB := n2_
                                            clear n0_ n1_ n2_
                                            obtain ⟨i040, hi040, _, hsz40, _⟩ := info_parts info5
                                            obtain ⟨A40, hcut40, hA40, hC40⟩ := print_mid_of (P := Tryd.prog) (Value.int .u8) 0 22 5 .i64 .i64 Tryd.underlying22 hi040 hsz40 (some ad321) c0 l0 x9_3 (wrap64 (x9_3 + 1)) (of_decide_eq_true (by first | (with_reducible assumption) | assumption)) (by first | omega | exact of_decide_eq_true (by first | (with_reducible assumption) | assumption)) (of_decide_eq_true (by first | (with_reducible assumption) | assumption)) HC0.out
                                            have HR324 := Aside0.mk (Kd.C_of_reads (h1 := fun _ => rfl) (hA40 _ (Kd.reads_of_C HR0.out)))
                                            have HC324 := Aside0.mk hC40
                                            clear hA40 hC40 hi040 hsz40
                                            obtain ⟨nq41, hnq41⟩ : ∃ n_ : Nat, ((l0.take ((wrap64 (x9_3 + 1)) : Int).toNat).drop (x9_3 : Int).toNat).length = n_ := ⟨_, rfl⟩
                                            rw [hnq41] at hcut40
                                            have Knq41 := Aside0.mk hnq41
                                            clear hnq41
                                            refine start_ (n := 11) (S := fun w' => w'.cell? ⟨gb312, 0, none⟩ = some (.bool true) ∧ w'.cell? ⟨gb312, 1, none⟩ = some (.string x313001_3) ∧ w'.cell? ⟨gb312, 2, none⟩ = some (.int .i64 0) ∧ (convert 22 9 (.slice A40 nq41 (c0 - x9_3.toNat))).run Tryd.prog w' = .ok (.string (strOfNums ((l0.take ((wrap64 (x9_3 + 1)) : Int).toNat).drop (x9_3 : Int).toNat))) w') (ds := [10]) #[false, false, false, false, false, false, false, false, false, false, false] (by kernel_rfl) rfl rfl ⟨(blk_cell BK312.out 0).trans rfl, (blk_cell BK312.out 1).trans rfl, (blk_cell BK312.out 2).trans rfl, (by have hz_ := (Kd.C_string (P := Tryd.prog) (A := A40) (c := (c0 - x9_3.toNat)) Tryd.underlying22 Tryd.underlying5 Tryd.underlying9 (Kd.C_below HR324.out HB.out)); rw [Knq41.out] at hz_; exact hz_)⟩ (fun hHeld => ?_); refine with_tabW rhizomeref01_Decode.tab18 rhizomeref01_Decode.bits18 (fun HT_ HW_ => ?_)
                                            generalize wc.drew = w39 at HO_4 BK312 HB HR324 hHeld ⊢
                                            refine pure_ (i := 0) (N := some 82) (v := ?_) (a' := ?_) #[true, false, false, false, false, false, false, false, false, false, false] rfl rfl (any_of HT_.out (by kernel_rfl)) (fun _ _ _ h => h) (Or.inl ⟨by rfl, ?_⟩) ?_ ?_
                                            rotate_left
                                            · intro w'
                                              go_simp
                                              with_reducible rfl
                                            rotate_left
                                            · simp only [Act.put, List.setIfInBounds_toArray, List.set_cons_zero, List.set_cons_succ, i64_w, i32_w]
                                              rfl
                                            refine pure_ (i := 2) (N := some 84) (v := ?_) (a' := ?_) #[true, false, true, false, false, false, false, false, false, false, false] rfl rfl (any_of HT_.out (by kernel_rfl)) (fun _ _ _ h => h) (Or.inl ⟨by rfl, ?_⟩) ?_ ?_
                                            rotate_left
                                            · intro w'
                                              go_simp
                                              with_reducible rfl
                                            rotate_left
                                            · simp only [Act.put, List.setIfInBounds_toArray, List.set_cons_zero, List.set_cons_succ, i64_w, i32_w]
                                              rfl
                                            refine pure_ (i := 3) (N := some 85) (v := ?_) (a' := ?_) #[true, false, true, true, false, false, false, false, false, false, false] rfl rfl (any_of HT_.out (by kernel_rfl)) (fun _ _ _ h => h) (Or.inl ⟨by rfl, ?_⟩) ?_ ?_
                                            rotate_left
                                            · intro w'
                                              go_simp
                                              with_reducible rfl
                                            rotate_left
                                            · simp only [Act.put, List.setIfInBounds_toArray, List.set_cons_zero, List.set_cons_succ, i64_w, i32_w]
                                              rfl
                                            refine pure_ (i := 4) (N := some 86) (v := ?_) (a' := ?_) #[true, false, true, true, true, false, false, false, false, false, false] rfl rfl (any_of HT_.out (by kernel_rfl)) (fun _ _ _ h => h) (Or.inl ⟨by rfl, ?_⟩) ?_ ?_
                                            rotate_left
                                            · intro w'
                                              go_simp
                                              with_reducible rfl
                                            rotate_left
                                            · simp only [Act.put, List.setIfInBounds_toArray, List.set_cons_zero, List.set_cons_succ, i64_w, i32_w]
                                              rfl
                                            refine pure_ (i := 5) (N := some 87) (v := ?_) (a' := ?_) #[true, false, true, true, true, true, false, false, false, false, false] rfl rfl (any_of HT_.out (by kernel_rfl)) (fun _ _ _ h => h) (Or.inl ⟨by rfl, ?_⟩) ?_ ?_
                                            rotate_left
                                            · intro w'
                                              go_simp
                                              with_reducible rfl
                                            rotate_left
                                            · simp only [Act.put, List.setIfInBounds_toArray, List.set_cons_zero, List.set_cons_succ, i64_w, i32_w]
                                              rfl
                                            refine pure_ (i := 6) (N := some 88) (v := ?_) (a' := ?_) #[true, false, true, true, true, true, true, false, false, false, false] rfl rfl (any_of HT_.out (by kernel_rfl)) (fun _ _ _ h => h) (Or.inl ⟨by rfl, ?_⟩) ?_ ?_
                                            rotate_left
                                            · intro w'
                                              go_simp
                                              with_reducible rfl
                                            rotate_left
                                            · simp only [Act.put, List.setIfInBounds_toArray, List.set_cons_zero, List.set_cons_succ, i64_w, i32_w]
                                              rfl
                                            refine take_ (i := 1) (N := some 83) (v := ?_) (a' := ?_) #[true, true, true, true, true, true, true, false, false, false, false] rfl rfl (take_ofW HT_.out HW_.out (by kernel_rfl)) (fun _ _ _ h => h) (Or.inl ⟨by rfl, ?_⟩) hHeld ?_ ?_
                                            rotate_left
                                            · rintro w' ⟨s0, s1, s2, s3⟩
                                              go_simp
                                              with_reducible rfl
                                            rotate_left
                                            · simp only [Act.put, List.setIfInBounds_toArray, List.set_cons_zero, List.set_cons_succ, i64_w, i32_w]
                                              rfl
                                            refine take_ (i := 7) (N := some 89) (v := ?_) (a' := ?_) #[true, true, true, true, true, true, true, true, false, false, false] rfl rfl (take_ofW HT_.out HW_.out (by kernel_rfl)) (fun _ _ _ h => h) (Or.inl ⟨by rfl, ?_⟩) hHeld ?_ ?_
                                            rotate_left
                                            · rintro w' ⟨s0, s1, s2, s3⟩
                                              go_simp
                                              with_reducible rfl
                                            rotate_left
                                            · simp only [Act.put, List.setIfInBounds_toArray, List.set_cons_zero, List.set_cons_succ, i64_w, i32_w]
                                              rfl
                                            refine pure_ (i := 8) (N := some 90) (v := ?_) (a' := ?_) #[true, true, true, true, true, true, true, true, true, false, false] rfl rfl (any_of HT_.out (by kernel_rfl)) (fun _ _ _ h => h) (Or.inl ⟨by rfl, ?_⟩) ?_ ?_
                                            rotate_left
                                            · intro w'
                                              go_simp
                                              with_reducible rfl
                                            rotate_left
                                            · simp only [Act.put, List.setIfInBounds_toArray, List.set_cons_zero, List.set_cons_succ, i64_w, i32_w]
                                              rfl
                                            refine pure_ (i := 9) (N := some 91) (v := ?_) (a' := ?_) #[true, true, true, true, true, true, true, true, true, true, false] rfl rfl (any_of HT_.out (by kernel_rfl)) (fun _ _ _ h => h) (Or.inl ⟨by rfl, ?_⟩) ?_ ?_
                                            rotate_left
                                            · intro w'
                                              go_simp
                                              with_reducible rfl
                                            rotate_left
                                            · simp only [Act.put, List.setIfInBounds_toArray, List.set_cons_zero, List.set_cons_succ, i64_w, i32_w]
                                              rfl
                                            refine last_ (i := 10) (N := none) #[true, true, true, true, true, true, true, true, true, true, true] rfl rfl (one_of HT_.out (by kernel_rfl)) (by decide) (fun K hK => ?_)
                                            have hs42 : w39.cell? ⟨gb312, 1, none⟩ = some (.string x313001_3) := (blk_cell BK312.out 1).trans rfl
                                            have hfs42 := blk_frozen BK312.out 1
                                            refine skip_ (w1 := ?_) (by rfl) rfl ?_ ?_
                                            rotate_left
                                            · go_simp
                                              rfl
                                            refine hK.out _ _ ?_
                                            clear hK K
                                            refine done_ (done_of HT_.out (by kernel_rfl)) ?_
                                            have p325 : 0 ≤ (x9_3 : Int) := of_decide_eq_true (by first | (with_reducible assumption) | assumption)
                                            have q325 : x9_3 < (l0.length : Int) := of_decide_eq_true (by first | (with_reducible assumption) | assumption)
                                            obtain ⟨ad325, e325, hx325_0⟩ := Kd.at_int HR0.out x9_3 p325 q325
                                            obtain rfl : ad321 = ad325 := (by injection e325)
                                            have hn325_0 : ad321.block ≠ gb312 := Nat.ne_of_lt (Nat.lt_of_lt_of_le (by have := World.block_lt_of_cell? _ _ hx325_0; first | rwa [add_block] at this | exact this) GW312.out)
                                            replace hx325_0 := (HB.out.cell (World.block_lt_of_cell? w _ hx325_0)).trans hx325_0
                                            replace hx325_0 := (cell_far (p := ⟨gb312, 1, none⟩) (by first | (rw [add_block]; exact hn325_0) | (show (Addr.add _ _).block ≠ _; rw [add_block]; exact hn325_0) | exact hn325_0) (.string (x313001_3 ++ (strOfNums ((l0.take ((wrap64 (x9_3 + 1)) : Int).toNat).drop (x9_3 : Int).toNat))))).trans hx325_0
                                            clear hn325_0
                                            replace p325 := eq_true p325
                                            replace q325 := eq_true q325
                                            try go_wp2
                                            go_roundg kj24
                                            case measure => have := HK1.out; have := HJ3.out; have := HK3.out; have := HJ24.out; omega
                                            case rel => exact ⟨(wrap64 ((wrap64 (x9_3 + 1)) + 1)), (x313001_3 ++ (strOfNums ((l0.take ((wrap64 (x9_3 + 1)) : Int).toNat).drop (x9_3 : Int).toNat))), (by first | rfl | (simp; done) | (simp [*]; done)), H', ⟨by have := HK1.out; have := HJ3.out; have := HK3.out; have := HJ24.out; omega⟩, ⟨by (with_reducible repeat (first | apply Kd.R_alloc | apply Kd.R_drewN | apply Kd.R_drew)); exact Kd.R_mono (Kd.R_far (p := ⟨gb312, 1, none⟩) (Kd.R_mono HO_4.out (fun k_ hk => (⟨hk, hk⟩ : _ ∧ k_ ≠ gb312))) (fun _ hk => hk.2) (.string (x313001_3 ++ (strOfNums ((l0.take ((wrap64 (x9_3 + 1)) : Int).toNat).drop (x9_3 : Int).toNat))))) (fun _ hk => hk.1)⟩, ⟨by (with_reducible repeat (first | refine blk_drewN ?_ _ | refine blk_drew ?_ | refine blk_alloc ?_ _)); refine blk_put (cs := #[.bool true, .string x313001_3, .int .i64 0]) ?_ 1 _ rfl; (with_reducible repeat (first | refine blk_drewN ?_ _ | refine blk_drew ?_ | refine blk_alloc ?_ _)); exact BK312.out⟩, ⟨by repeat (first | (with_reducible first | exact HB.out | apply below_alloc | apply pw_below_drewN | apply below_drew1 | refine below_set ?_ GE312.out) | exact HB.out)⟩⟩
                                          · rw [if_neg c38] at H
                                            have c38b0 : ((rd l0 x9_3) == 0) = false := beq_eq_false_iff_ne.mpr c38
                                            have c38b1 : ((rd l0 x9_3) != 0) = true := bne_iff_ne.mpr c38
                                            have H' := Aside0.mk H
                                            clear H
                                            try go_wp2
                                            have n0_ := Aside0.mk (Kd.R_drew HO_4.out)
                                            have n1_ := Aside0.mk (blk_drew BK312.out)
                                            have n2_ := Aside0.mk (below_drew1 HB.out)
                                            clear HO_4
                                            clear BK312
                                            clear HB
                                            have HO_4 := n0_
                                            have BK312 := n1_
                                            have HB := n2_
                                            clear n0_ n1_ n2_
                                            obtain ⟨i044, hi044, _, hsz44, _⟩ := info_parts info5
                                            obtain ⟨A44, hcut44, hA44, hC44⟩ := print_mid_of (P := Tryd.prog) (Value.int .u8) 0 22 5 .i64 .i64 Tryd.underlying22 hi044 hsz44 (some ad321) c0 l0 x9_3 (wrap64 (x9_3 + 1)) (of_decide_eq_true (by first | (with_reducible assumption) | assumption)) (by first | omega | exact of_decide_eq_true (by first | (with_reducible assumption) | assumption)) (of_decide_eq_true (by first | (with_reducible assumption) | assumption)) HC0.out
                                            have HR324 := Aside0.mk (Kd.C_of_reads (h1 := fun _ => rfl) (hA44 _ (Kd.reads_of_C HR0.out)))
                                            have HC324 := Aside0.mk hC44
                                            clear hA44 hC44 hi044 hsz44
                                            obtain ⟨nq45, hnq45⟩ : ∃ n_ : Nat, ((l0.take ((wrap64 (x9_3 + 1)) : Int).toNat).drop (x9_3 : Int).toNat).length = n_ := ⟨_, rfl⟩
                                            rw [hnq45] at hcut44
                                            have Knq45 := Aside0.mk hnq45
                                            clear hnq45
                                            refine start_ (n := 11) (S := fun w' => w'.cell? ⟨gb312, 0, none⟩ = some (.bool true) ∧ w'.cell? ⟨gb312, 1, none⟩ = some (.string x313001_3) ∧ w'.cell? ⟨gb312, 2, none⟩ = some (.int .i64 0) ∧ (convert 22 9 (.slice A44 nq45 (c0 - x9_3.toNat))).run Tryd.prog w' = .ok (.string (strOfNums ((l0.take ((wrap64 (x9_3 + 1)) : Int).toNat).drop (x9_3 : Int).toNat))) w') (ds := [10]) #[false, false, false, false, false, false, false, false, false, false, false] (by kernel_rfl) rfl rfl ⟨(blk_cell BK312.out 0).trans rfl, (blk_cell BK312.out 1).trans rfl, (blk_cell BK312.out 2).trans rfl, (by have hz_ := (Kd.C_string (P := Tryd.prog) (A := A44) (c := (c0 - x9_3.toNat)) Tryd.underlying22 Tryd.underlying5 Tryd.underlying9 (Kd.C_below HR324.out HB.out)); rw [Knq45.out] at hz_; exact hz_)⟩ (fun hHeld => ?_); refine with_tabW rhizomeref01_Decode.tab18 rhizomeref01_Decode.bits18 (fun HT_ HW_ => ?_)
                                            generalize wc.drew = w43 at HO_4 BK312 HB HR324 hHeld ⊢
                                            refine pure_ (i := 0) (N := some 82) (v := ?_) (a' := ?_) #[true, false, false, false, false, false, false, false, false, false, false] rfl rfl (any_of HT_.out (by kernel_rfl)) (fun _ _ _ h => h) (Or.inl ⟨by rfl, ?_⟩) ?_ ?_
                                            rotate_left
                                            · intro w'
                                              go_simp
                                              with_reducible rfl
                                            rotate_left
                                            · simp only [Act.put, List.setIfInBounds_toArray, List.set_cons_zero, List.set_cons_succ, i64_w, i32_w]
                                              rfl
                                            refine pure_ (i := 2) (N := some 84) (v := ?_) (a' := ?_) #[true, false, true, false, false, false, false, false, false, false, false] rfl rfl (any_of HT_.out (by kernel_rfl)) (fun _ _ _ h => h) (Or.inl ⟨by rfl, ?_⟩) ?_ ?_
                                            rotate_left
                                            · intro w'
                                              go_simp
                                              with_reducible rfl
                                            rotate_left
                                            · simp only [Act.put, List.setIfInBounds_toArray, List.set_cons_zero, List.set_cons_succ, i64_w, i32_w]
                                              rfl
                                            refine pure_ (i := 3) (N := some 85) (v := ?_) (a' := ?_) #[true, false, true, true, false, false, false, false, false, false, false] rfl rfl (any_of HT_.out (by kernel_rfl)) (fun _ _ _ h => h) (Or.inl ⟨by rfl, ?_⟩) ?_ ?_
                                            rotate_left
                                            · intro w'
                                              go_simp
                                              with_reducible rfl
                                            rotate_left
                                            · simp only [Act.put, List.setIfInBounds_toArray, List.set_cons_zero, List.set_cons_succ, i64_w, i32_w]
                                              rfl
                                            refine pure_ (i := 4) (N := some 86) (v := ?_) (a' := ?_) #[true, false, true, true, true, false, false, false, false, false, false] rfl rfl (any_of HT_.out (by kernel_rfl)) (fun _ _ _ h => h) (Or.inl ⟨by rfl, ?_⟩) ?_ ?_
                                            rotate_left
                                            · intro w'
                                              go_simp
                                              with_reducible rfl
                                            rotate_left
                                            · simp only [Act.put, List.setIfInBounds_toArray, List.set_cons_zero, List.set_cons_succ, i64_w, i32_w]
                                              rfl
                                            refine pure_ (i := 5) (N := some 87) (v := ?_) (a' := ?_) #[true, false, true, true, true, true, false, false, false, false, false] rfl rfl (any_of HT_.out (by kernel_rfl)) (fun _ _ _ h => h) (Or.inl ⟨by rfl, ?_⟩) ?_ ?_
                                            rotate_left
                                            · intro w'
                                              go_simp
                                              with_reducible rfl
                                            rotate_left
                                            · simp only [Act.put, List.setIfInBounds_toArray, List.set_cons_zero, List.set_cons_succ, i64_w, i32_w]
                                              rfl
                                            refine pure_ (i := 6) (N := some 88) (v := ?_) (a' := ?_) #[true, false, true, true, true, true, true, false, false, false, false] rfl rfl (any_of HT_.out (by kernel_rfl)) (fun _ _ _ h => h) (Or.inl ⟨by rfl, ?_⟩) ?_ ?_
                                            rotate_left
                                            · intro w'
                                              go_simp
                                              with_reducible rfl
                                            rotate_left
                                            · simp only [Act.put, List.setIfInBounds_toArray, List.set_cons_zero, List.set_cons_succ, i64_w, i32_w]
                                              rfl
                                            refine take_ (i := 1) (N := some 83) (v := ?_) (a' := ?_) #[true, true, true, true, true, true, true, false, false, false, false] rfl rfl (take_ofW HT_.out HW_.out (by kernel_rfl)) (fun _ _ _ h => h) (Or.inl ⟨by rfl, ?_⟩) hHeld ?_ ?_
                                            rotate_left
                                            · rintro w' ⟨s0, s1, s2, s3⟩
                                              go_simp
                                              with_reducible rfl
                                            rotate_left
                                            · simp only [Act.put, List.setIfInBounds_toArray, List.set_cons_zero, List.set_cons_succ, i64_w, i32_w]
                                              rfl
                                            refine take_ (i := 7) (N := some 89) (v := ?_) (a' := ?_) #[true, true, true, true, true, true, true, true, false, false, false] rfl rfl (take_ofW HT_.out HW_.out (by kernel_rfl)) (fun _ _ _ h => h) (Or.inl ⟨by rfl, ?_⟩) hHeld ?_ ?_
                                            rotate_left
                                            · rintro w' ⟨s0, s1, s2, s3⟩
                                              go_simp
                                              with_reducible rfl
                                            rotate_left
                                            · simp only [Act.put, List.setIfInBounds_toArray, List.set_cons_zero, List.set_cons_succ, i64_w, i32_w]
                                              rfl
                                            refine pure_ (i := 8) (N := some 90) (v := ?_) (a' := ?_) #[true, true, true, true, true, true, true, true, true, false, false] rfl rfl (any_of HT_.out (by kernel_rfl)) (fun _ _ _ h => h) (Or.inl ⟨by rfl, ?_⟩) ?_ ?_
                                            rotate_left
                                            · intro w'
                                              go_simp
                                              with_reducible rfl
                                            rotate_left
                                            · simp only [Act.put, List.setIfInBounds_toArray, List.set_cons_zero, List.set_cons_succ, i64_w, i32_w]
                                              rfl
                                            refine pure_ (i := 9) (N := some 91) (v := ?_) (a' := ?_) #[true, true, true, true, true, true, true, true, true, true, false] rfl rfl (any_of HT_.out (by kernel_rfl)) (fun _ _ _ h => h) (Or.inl ⟨by rfl, ?_⟩) ?_ ?_
                                            rotate_left
                                            · intro w'
                                              go_simp
                                              with_reducible rfl
                                            rotate_left
                                            · simp only [Act.put, List.setIfInBounds_toArray, List.set_cons_zero, List.set_cons_succ, i64_w, i32_w]
                                              rfl
                                            refine last_ (i := 10) (N := none) #[true, true, true, true, true, true, true, true, true, true, true] rfl rfl (one_of HT_.out (by kernel_rfl)) (by decide) (fun K hK => ?_)
                                            have hs46 : w43.cell? ⟨gb312, 1, none⟩ = some (.string x313001_3) := (blk_cell BK312.out 1).trans rfl
                                            have hfs46 := blk_frozen BK312.out 1
                                            refine skip_ (w1 := ?_) (by rfl) rfl ?_ ?_
                                            rotate_left
                                            · go_simp
                                              rfl
                                            refine hK.out _ _ ?_
                                            clear hK K
                                            refine done_ (done_of HT_.out (by kernel_rfl)) ?_
                                            have p325 : 0 ≤ (x9_3 : Int) := of_decide_eq_true (by first | (with_reducible assumption) | assumption)
                                            have q325 : x9_3 < (l0.length : Int) := of_decide_eq_true (by first | (with_reducible assumption) | assumption)
                                            obtain ⟨ad325, e325, hx325_0⟩ := Kd.at_int HR0.out x9_3 p325 q325
                                            obtain rfl : ad321 = ad325 := (by injection e325)
                                            have hn325_0 : ad321.block ≠ gb312 := Nat.ne_of_lt (Nat.lt_of_lt_of_le (by have := World.block_lt_of_cell? _ _ hx325_0; first | rwa [add_block] at this | exact this) GW312.out)
                                            replace hx325_0 := (HB.out.cell (World.block_lt_of_cell? w _ hx325_0)).trans hx325_0
                                            replace hx325_0 := (cell_far (p := ⟨gb312, 1, none⟩) (by first | (rw [add_block]; exact hn325_0) | (show (Addr.add _ _).block ≠ _; rw [add_block]; exact hn325_0) | exact hn325_0) (.string (x313001_3 ++ (strOfNums ((l0.take ((wrap64 (x9_3 + 1)) : Int).toNat).drop (x9_3 : Int).toNat))))).trans hx325_0
                                            clear hn325_0
                                            replace p325 := eq_true p325
                                            replace q325 := eq_true q325
                                            try go_wp2
                                            go_roundg kj24
                                            case measure => have := HK1.out; have := HJ3.out; have := HK3.out; have := HJ24.out; omega
                                            case rel => exact ⟨(wrap64 (x9_3 + 1)), (x313001_3 ++ (strOfNums ((l0.take ((wrap64 (x9_3 + 1)) : Int).toNat).drop (x9_3 : Int).toNat))), (by first | rfl | (simp; done) | (simp [*]; done)), H', ⟨by have := HK1.out; have := HJ3.out; have := HK3.out; have := HJ24.out; omega⟩, ⟨by (with_reducible repeat (first | apply Kd.R_alloc | apply Kd.R_drewN | apply Kd.R_drew)); exact Kd.R_mono (Kd.R_far (p := ⟨gb312, 1, none⟩) (Kd.R_mono HO_4.out (fun k_ hk => (⟨hk, hk⟩ : _ ∧ k_ ≠ gb312))) (fun _ hk => hk.2) (.string (x313001_3 ++ (strOfNums ((l0.take ((wrap64 (x9_3 + 1)) : Int).toNat).drop (x9_3 : Int).toNat))))) (fun _ hk => hk.1)⟩, ⟨by (with_reducible repeat (first | refine blk_drewN ?_ _ | refine blk_drew ?_ | refine blk_alloc ?_ _)); refine blk_put (cs := #[.bool true, .string x313001_3, .int .i64 0]) ?_ 1 _ rfl; (with_reducible repeat (first | refine blk_drewN ?_ _ | refine blk_drew ?_ | refine blk_alloc ?_ _)); exact BK312.out⟩, ⟨by repeat (first | (with_reducible first | exact HB.out | apply below_alloc | apply pw_below_drewN | apply below_drew1 | refine below_set ?_ GE312.out) | exact HB.out)⟩⟩
                                        · rw [if_neg c37] at H
                                          exact absurd H (by simp)
                                      · rw [if_neg c36] at H
                                        exact absurd H (by simp)
                                    · rw [if_neg c35] at H
                                      exact absurd H (by simp)
                                  · rw [if_neg c34] at H
                                    exact absurd H (by simp)
                                · rw [if_neg c33] at H
                                  exact absurd H (by simp)
                              · replace c32 := Bool.eq_false_iff.mpr c32
                                subst c32
                                have H1 : (if (wrap64 (x9_3 + 1)) ≥ (l0.length : Int) then (some (([] : List (S56)), 6)) else (if 0 ≤ (wrap64 (x9_3 + 1)) then (if (wrap64 (x9_3 + 1)) < (l0.length : Int) then (if (rd l0 (wrap64 (x9_3 + 1))) = 1 then (if x4_1.length < 4398046511104 then ((rhizomeref01_Bytes.f kj24 true x313001_3 0).bind fun t330 => (rhizomeref01_Decode.l0 kj24 l0 (x4_1 ++ [(⟨true, x313001_3, 0⟩ : S56)]) (wrap64 (x5_1 + (t330.length : Int))))) else (none)) else (some (([] : List (S56)), 6))) else (none)) else (none))) = some (r1, r2) := by rw [if_neg (show ¬ (false = true) by decide)] at H; exact H
                                clear H
                                have H := H1
                                clear H1
                                by_cases c47 : (wrap64 (x9_3 + 1)) ≥ (l0.length : Int)
                                · rw [if_pos c47] at H
                                  have c47b0 : decide ((l0.length : Int) ≤ (wrap64 (x9_3 + 1))) = true := decide_eq_true c47
                                  clear c47
                                  simp only [Option.some.injEq, Prod.mk.injEq] at H
                                  obtain ⟨rfl, rfl⟩ := H
                                  go_wp2
                                  go_ret2
                                  exact ⟨_, by first | rfl | (simp [errW_none, errW_some] <;> rfl) | (simp [*, errW_none, errW_some] <;> rfl), by first | exact Kd.R_nil _ _ _ _ _ | exact Kd.N_nil _ _ _ _ _ | exact Kd.V_nil _ _ _ _ _ | exact Kd.Q_nil _ _ _ _ _ | exact Kd.S_nil _ _ _ _ _, by repeat (first | (with_reducible first | exact HB.out | apply below_alloc | apply pw_below_drewN | apply below_drew1 | refine below_set ?_ GE312.out) | exact HB.out)⟩
                                · rw [if_neg c47] at H
                                  have c47b0 : decide ((l0.length : Int) ≤ (wrap64 (x9_3 + 1))) = false := decide_eq_false c47
                                  clear c47
                                  obtain ⟨ji48, hji48⟩ : ∃ j_ : Int, (wrap64 (x9_3 + 1)) = j_ := ⟨_, rfl⟩
                                  replace H : (if 0 ≤ (ji48) then (if (ji48) < (l0.length : Int) then (if (rd l0 (ji48)) = 1 then (if x4_1.length < 4398046511104 then ((rhizomeref01_Bytes.f kj24 true x313001_3 0).bind fun t330 => (rhizomeref01_Decode.l0 kj24 l0 (x4_1 ++ [(⟨true, x313001_3, 0⟩ : S56)]) (wrap64 (x5_1 + (t330.length : Int))))) else (none)) else (some (([] : List (S56)), 6))) else (none)) else (none)) = some (r1, r2) := by first | (rw [hji48] at H; exact H) | (simp only [hji48] at H ⊢; exact H)
                                  (try rw [hji48] at c47b0)
                                  have hji48w : (IntKind.i64.wrap (x9_3 + 1)) = ji48 := (i64_w _).trans hji48
                                  by_cases c49 : 0 ≤ (ji48)
                                  · rw [if_pos c49] at H
                                    have c49b0 : decide (0 ≤ (ji48)) = true := decide_eq_true c49
                                    clear c49
                                    by_cases c50 : (ji48) < (l0.length : Int)
                                    · rw [if_pos c50] at H
                                      have c50b0 : decide ((ji48) < (l0.length : Int)) = true := decide_eq_true c50
                                      clear c50
                                      by_cases c51 : (rd l0 (ji48)) = 1
                                      · rw [if_pos c51] at H
                                        have c51b0 : ((rd l0 (ji48)) == 1) = true := beq_iff_eq.mpr c51
                                        have c51b1 : ((rd l0 (ji48)) != 1) = false := bne_eq_false_iff_eq.mpr c51
                                        clear c51
                                        by_cases c52 : x4_1.length < 4398046511104
                                        · rw [if_pos c52] at H
                                          have LMc52 := Aside0.mk c52
                                          clear c52
                                          obtain ⟨y327, hy327⟩ : ∃ y_ : List (S56), y_ = (x4_1 ++ [(⟨true, x313001_3, 0⟩ : S56)]) := ⟨_, rfl⟩
                                          replace H : ((rhizomeref01_Bytes.f kj24 true x313001_3 0).bind fun t330 => (rhizomeref01_Decode.l0 kj24 l0 y327 (wrap64 (x5_1 + (t330.length : Int))))) = some (r1, r2) := by first | (rw [hy327]; with_reducible exact H) | (have H2_ := (Option.bind_some _ _).symm.trans H; rw [hy327]; with_reducible exact H2_) | (have H2_ := (Option.bind_some _ _).symm.trans H; with_reducible exact H2_) | with_reducible exact H | (rw [hy327]; exact H) | exact H
                                          have Ny327 := Aside0.mk hy327
                                          clear hy327
                                          replace H := Option.bind_eq_some_iff.mp H
                                          obtain ⟨t330, A530, H⟩ := H
                                          replace H : (rhizomeref01_Decode.l0 kj24 l0 y327 (wrap64 (x5_1 + (t330.length : Int)))) = some (r1, r2) := H
                                          have A53 := Aside0.mk A530
                                          clear A530
                                          have H' := Aside0.mk H
                                          clear H
                                          have p326 : 0 ≤ ((ji48) : Int) := of_decide_eq_true (by first | (with_reducible assumption) | assumption)
                                          have q326 : (ji48) < (l0.length : Int) := of_decide_eq_true (by first | (with_reducible assumption) | assumption)
                                          obtain ⟨ad326, e326, hx326_0⟩ := Kd.at_int HR0.out (ji48) p326 q326
                                          obtain rfl : ad321 = ad326 := (by injection e326)
                                          replace hx326_0 := (HB.out.cell (World.block_lt_of_cell? w _ hx326_0)).trans hx326_0
                                          replace p326 := eq_true p326
                                          replace q326 := eq_true q326
                                          have hcz54_0 : wc.cell? ⟨gb312, 0, none⟩ = some (.bool true) := (blk_cell BK312.out 0).trans rfl
                                          have hcz54_1 : wc.cell? ⟨gb312, 1, none⟩ = some (.string x313001_3) := (blk_cell BK312.out 1).trans rfl
                                          have hcz54_2 : wc.cell? ⟨gb312, 2, none⟩ = some (.int .i64 0) := (blk_cell BK312.out 2).trans rfl
                                          have hfz54_0 := blk_frozen BK312.out 0
                                          have hfz54_1 := blk_frozen BK312.out 1
                                          have hfz54_2 := blk_frozen BK312.out 2
                                          go_wp2_with (first | ((with_reducible refine gate_builtin (b := .append) (xs := #[.tmp 114, .tmp 116]) rfl ?_); (try (refine gate_guard (by rfl) ?_; dsimp only)); at_builtin; refine Kd.R_append k56 (w0 := w) w.heap.size rfl (.tmp 114) (.tmp 116) 42 56 (.agg #[(.bool false), (.string ⟨#[]⟩), (.int .i64 0)]) 32 rfl Tryd.underlying42 info56 rfl (by decide) (by omega) u4 x4_1 (⟨true, x313001_3, 0⟩ : S56) [.bool true, .string x313001_3, .int .i64 0] (fun k_ => k_ ≠ gb312) (fun _ => False) rfl rfl ?aP (fun _ hk => hk.elim) ?aF ?aO ?aB ?aS ?aL ?_; (case aP => exact k56_mkM _ _ _ (⟨true, x313001_3, 0⟩ : S56)); (case aB => exact (by repeat (first | (with_reducible first | exact HB.out | apply below_alloc | apply pw_below_drewN | apply below_drew1 | refine below_set ?_ GE312.out) | exact HB.out))); (case aF => exact (fun k_ hk => Kd.freshB (g := gb312) (o := .cells #[.bool true, .string x313001_3, .int .i64 0] 56 (0, 0)) (by (with_reducible repeat (first | refine blk_drewN ?_ _ | refine blk_drew ?_ | refine blk_alloc ?_ _)); exact BK312.out) k_ hk)); (case aO => exact (by (with_reducible repeat (first | apply Kd.R_alloc | apply Kd.R_drewN | apply Kd.R_drew)); exact HO_4.out)); (case aS => exact (below_size (by repeat (first | (with_reducible first | exact HB.out | apply below_alloc | apply pw_below_drewN | apply below_drew1 | refine below_set ?_ GE312.out) | exact HB.out)))); (case aL => have := LMc52.out; omega); intro v328 w55 ho hb hg hat; rw [← Ny327.out] at ho; have n0_ := Aside0.mk (blk_grown (g := gb312) (o := .cells #[.bool true, .string x313001_3, .int .i64 0] 56 (0, 0)) (by (with_reducible repeat (first | refine blk_drewN ?_ _ | refine blk_drew ?_ | refine blk_alloc ?_ _)); exact BK312.out) hg (Kd.R_away HO_4.out (fun _ hk => hk))); have n1_ := Aside0.mk (hb); have n2_ := Aside0.mk (ho); clear BK312; clear HB; clear HO_4; have BK312 := n0_; have HB := n1_; have HO329 := n2_; clear n0_ n1_ n2_; clear ho hb hg hat; have hcz56_0 : w55.cell? ⟨gb312, 0, none⟩ = some (.bool true) := (blk_cell BK312.out 0).trans rfl; have hcz56_1 : w55.cell? ⟨gb312, 1, none⟩ = some (.string x313001_3) := (blk_cell BK312.out 1).trans rfl; have hcz56_2 : w55.cell? ⟨gb312, 2, none⟩ = some (.int .i64 0) := (blk_cell BK312.out 2).trans rfl; have hfz56_0 := blk_frozen BK312.out 0; have hfz56_1 := blk_frozen BK312.out 1; have hfz56_2 := blk_frozen BK312.out 2) | ((with_reducible refine gate_callee (f := 30) rfl ?_); refine goesL_ (some 120) rfl rfl Tryd.func30 (by kernel_rfl) rfl #[.agg #[.bool true, .string x313001_3, .int .i64 0]] rfl (by (try simp only [List.map_toArray, List.map_cons, List.map_nil]); first | done | rfl | (simp only [List.length_drop, List.length_take]; rfl)) ?_; (with_reducible refine (rhizomeref01_Bytes.calls kj24 true x313001_3 0 t330 _ A53.out).mono ?_); rintro e w57 ⟨v331, rfl, ho0, hb⟩; refine ⟨_, rfl, ?_⟩; have n0_ := Aside0.mk (Kd.R_below (by (with_reducible repeat (first | apply Kd.R_alloc | apply Kd.R_drewN | apply Kd.R_drew)); exact HO329.out) hb); have n1_ := Aside0.mk (Kd.R_lower ho0 (below_size (by repeat (first | (with_reducible first | exact HB.out | apply below_alloc | apply pw_below_drewN | apply below_drew1 | refine below_set ?_ GE312.out) | exact HB.out)))); have n2_ := Aside0.mk (blk_below (g := gb312) (o := .cells #[.bool true, .string x313001_3, .int .i64 0] 56 (0, 0)) (by (with_reducible repeat (first | refine blk_drewN ?_ _ | refine blk_drew ?_ | refine blk_alloc ?_ _)); exact BK312.out) hb); have n3_ := Aside0.mk (below_step (by repeat (first | (with_reducible first | exact HB.out | apply below_alloc | apply pw_below_drewN | apply below_drew1 | refine below_set ?_ GE312.out) | exact HB.out)) hb); clear HO329; clear BK312; clear HB; have HO329 := n0_; have HO332 := n1_; have BK312 := n2_; have HB := n3_; clear n0_ n1_ n2_ n3_; (try clear hb); (try clear hb2); (try clear hk); (try clear hi); (try clear ho0); obtain ⟨Ao58, co58, eo58⟩ := Kd.R_slice HO332.out; subst eo58))
                                          go_roundg kj24
                                          case measure => have := HK1.out; have := HJ3.out; have := HK3.out; have := HJ24.out; omega
                                          case rel => exact ⟨(y327), (wrap64 (x5_1 + (t330.length : Int))), (by first | rfl | (simp; done) | (simp [*]; done)), H', ⟨by have := HK1.out; have := HJ3.out; have := HK3.out; have := HJ24.out; omega⟩, ⟨by (with_reducible repeat (first | apply Kd.R_alloc | apply Kd.R_drewN | apply Kd.R_drew)); exact Kd.R_mono HO329.out (fun _ hk => trivial)⟩, ⟨by repeat (first | (with_reducible first | exact HB.out | apply below_alloc | apply pw_below_drewN | apply below_drew1 | refine below_set ?_ GE312.out) | exact HB.out)⟩⟩
                                        · rw [if_neg c52] at H
                                          exact absurd H (by simp)
                                      · rw [if_neg c51] at H
                                        have c51b0 : ((rd l0 (ji48)) == 1) = false := beq_eq_false_iff_ne.mpr c51
                                        have c51b1 : ((rd l0 (ji48)) != 1) = true := bne_iff_ne.mpr c51
                                        simp only [Option.some.injEq, Prod.mk.injEq] at H
                                        obtain ⟨rfl, rfl⟩ := H
                                        have p326 : 0 ≤ ((ji48) : Int) := of_decide_eq_true (by first | (with_reducible assumption) | assumption)
                                        have q326 : (ji48) < (l0.length : Int) := of_decide_eq_true (by first | (with_reducible assumption) | assumption)
                                        obtain ⟨ad326, e326, hx326_0⟩ := Kd.at_int HR0.out (ji48) p326 q326
                                        obtain rfl : ad321 = ad326 := (by injection e326)
                                        replace hx326_0 := (HB.out.cell (World.block_lt_of_cell? w _ hx326_0)).trans hx326_0
                                        replace p326 := eq_true p326
                                        replace q326 := eq_true q326
                                        go_wp2
                                        go_ret2
                                        exact ⟨_, by first | rfl | (simp [errW_none, errW_some] <;> rfl) | (simp only [← hji48]; first | rfl | (simp [errW_none, errW_some] <;> rfl)) | (simp [*, errW_none, errW_some] <;> rfl), by first | exact Kd.R_nil _ _ _ _ _ | exact Kd.N_nil _ _ _ _ _ | exact Kd.V_nil _ _ _ _ _ | exact Kd.Q_nil _ _ _ _ _ | exact Kd.S_nil _ _ _ _ _, by repeat (first | (with_reducible first | exact HB.out | apply below_alloc | apply pw_below_drewN | apply below_drew1 | refine below_set ?_ GE312.out) | exact HB.out)⟩
                                    · rw [if_neg c50] at H
                                      exact absurd H (by simp)
                                  · rw [if_neg c49] at H
                                    exact absurd H (by simp)
                    · rw [if_neg c23] at H
                      have c23b0 : ((rd l0 x5_1) == 2) = false := beq_eq_false_iff_ne.mpr c23
                      have c23b1 : ((rd l0 x5_1) != 2) = true := bne_iff_ne.mpr c23
                      simp only [Option.some.injEq, Prod.mk.injEq] at H
                      obtain ⟨rfl, rfl⟩ := H
                      have p321 : 0 ≤ (x5_1 : Int) := of_decide_eq_true (by first | (with_reducible assumption) | assumption)
                      have q321 : x5_1 < (l0.length : Int) := of_decide_eq_true (by first | (with_reducible assumption) | assumption)
                      obtain ⟨ad321, e321, hx321_0⟩ := Kd.at_int HR0.out x5_1 p321 q321
                      cases e321
                      replace hx321_0 := (HB.out.cell (World.block_lt_of_cell? w _ hx321_0)).trans hx321_0
                      replace p321 := eq_true p321
                      replace q321 := eq_true q321
                      go_wp2
                      go_ret2
                      exact ⟨_, by first | rfl | (simp [errW_none, errW_some] <;> rfl) | (simp [*, errW_none, errW_some] <;> rfl), by first | exact Kd.R_nil _ _ _ _ _ | exact Kd.N_nil _ _ _ _ _ | exact Kd.V_nil _ _ _ _ _ | exact Kd.Q_nil _ _ _ _ _ | exact Kd.S_nil _ _ _ _ _, by repeat (first | (with_reducible first | exact HB.out | apply below_alloc | apply pw_below_drewN | apply below_drew1 | refine below_set ?_ GE312.out) | exact HB.out)⟩
                  · rw [if_neg c22] at H
                    exact absurd H (by simp)
                · rw [if_neg c21] at H
                  exact absurd H (by simp)
        · rw [if_neg c3] at H
          have c3b0 : decide (x5_1 < (l0.length : Int)) = false := decide_eq_false c3
          clear c3
          simp only [Option.some.injEq, Prod.mk.injEq] at H
          obtain ⟨rfl, rfl⟩ := H
          go_wp2
          go_ret2
          exact ⟨_, by first | rfl | (simp [errW_none, errW_some] <;> rfl) | (simp [*, errW_none, errW_some] <;> rfl), by (with_reducible repeat (first | apply Kd.R_alloc | apply Kd.R_drewN | apply Kd.R_drew)); exact HO_4.out, by repeat (first | (with_reducible first | exact HB.out | apply below_alloc | apply pw_below_drewN | apply below_drew1) | exact HB.out)⟩

end Go.Proofs.YtamaoileeipgeaaDoor.XKey
