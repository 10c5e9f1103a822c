-- Written by xprint.py (a program of this session's repo) over the kit's print; Lean checks it.
import Derived.Test.YtamaoileeipgeaaDoorXKey0
namespace Go.Proofs.YtamaoileeipgeaaDoor.XKey
open Go.RowKit Go.Proofs.YtamaoileeipgeaaDoorW.PrintWords Go.Proofs.YtamaoileeipgeaaDoorW.PrintLast Go.Proofs.YtamaoileeipgeaaDoorW.PrintMore
attribute [local go_sem] max2_int min2_int max_two min_two max_three min_three max_four min_four   -- for this text's walks alone
set_option linter.unusedVariables false
set_option linter.unusedSimpArgs false

/-! ### rhizomelaw01_few: function 13 -/
def rhizomelaw01_few.l0 : Nat → List (S31) → Int → Int → Int → Option (Bool)
  | 0, _, _, _, _ => none
  | k + 1, x0, x3, x6, x7 => if x7 < x6 then (if 0 ≤ x7 then (if x7 < (x0.length : Int) then (rhizomelaw01_few.l0 k x0 (wrap64 (x3 + ((((rd_T31 x0 x7).f1).size : Int) % 100000))) x6 (wrap64 (x7 + 1))) else (none)) else (none)) else (if (x0.length : Int) ≤ 60 then (some (decide (x3 ≤ 5000))) else (some false))
def rhizomelaw01_few.f (k : Nat) (l0 : List (S31)) : Option (Bool) := rhizomelaw01_few.l0 k l0 0 (l0.length : Int) 0
theorem rhizomelaw01_few.mono_l : ∀ k, (∀ y0 y1 y2 y3, LeO (rhizomelaw01_few.l0 k y0 y1 y2 y3) (rhizomelaw01_few.l0 (k + 1) y0 y1 y2 y3))
  | 0 => fun _ _ _ _ r h => by simp [rhizomelaw01_few.l0] at h
  | k + 1 => by
    have ih0 := rhizomelaw01_few.mono_l k
    · intro y0 y1 y2 y3
      unfold rhizomelaw01_few.l0
      repeat' first
      | (with_reducible exact ih0 _ _ _ _)
      | (with_reducible exact LeO.refl _)
      | (with_reducible exact LeO.none _)
      | (with_reducible refine LeO.ite ?_ ?_)
      | (with_reducible refine LeO.bind ?_ (fun _ => ?_))
      | exact ih0 _ _ _ _
      | exact LeO.none _
      | refine LeO.ite ?_ ?_
      | refine LeO.bind ?_ (fun _ => ?_)
theorem rhizomelaw01_few.mono : ∀ a0 k, LeO (rhizomelaw01_few.f k a0) (rhizomelaw01_few.f (k + 1) a0) := by
  intro a0 k
  have ih0 := rhizomelaw01_few.mono_l k
  unfold rhizomelaw01_few.f
  repeat' first
      | (with_reducible exact ih0 _ _ _ _)
      | (with_reducible exact LeO.refl _)
      | (with_reducible exact LeO.none _)
      | (with_reducible refine LeO.ite ?_ ?_)
      | (with_reducible refine LeO.bind ?_ (fun _ => ?_))
      | exact ih0 _ _ _ _
      | exact LeO.none _
      | refine LeO.ite ?_ ?_
      | refine LeO.bind ?_ (fun _ => ?_)
set_option maxHeartbeats 8000000 in
set_option maxRecDepth 100000 in
theorem rhizomelaw01_few.calls (k : Nat) (A0 : Option Addr) (c0 : Nat) (l0 : List (S31)) (r : Bool) (w : World) (hr0 : Kd.C k31 w A0 l0.length l0) (hc0 : l0.length ≤ c0) (h : rhizomelaw01_few.f k l0 = some r) :
    Calls Tryd.prog 13 #[.slice A0 l0.length c0] w fun e w' => e = .returned (.bool r) ∧ Drawn0 w w' := by
  have HR0 := Aside0.mk hr0
  have HC0 := Aside0.mk hc0
  clear hr0 hc0
  have H : (rhizomelaw01_few.l0 k l0 0 (l0.length : Int) 0) = some r := h
  clear h
  have H' := Aside0.mk H
  clear H
  go_enter Tryd.func13, Tryd.ntmps13
  go_wp2
  go_loopg [3, 7] k (fun kq v3 v7 w' => ∃ (x3_1 : Int) (x7_1 : Int), v3 = .int .i64 x3_1 ∧ v7 = .int .i64 x7_1 ∧ Aside0 (rhizomelaw01_few.l0 kq l0 x3_1 (l0.length : Int) x7_1 = some r) ∧ Aside0 (kq ≤ k) ∧ Drawn0 w w')
  case atStart => exact ⟨(0), (0), (by first | rfl | (simp; done) | (simp [*]; done)), (by first | rfl | (simp; done) | (simp [*]; done)), H', ⟨Nat.le_refl _⟩, by repeat (first | exact Drawn0.refl _ | apply Drawn0.step)⟩
  case round =>
    clear H'
    try clear c1
    obtain ⟨x3_1, x7_1, rfl, rfl, HA, HK1, ⟨m1, rfl⟩⟩ := hrel
    cases gk with
    | zero => exact absurd HA.out (by simp [rhizomelaw01_few.l0])
    | succ k1 =>
      have H := HA.out
      clear HA
      simp only [rhizomelaw01_few.l0] at H
      by_cases c2 : x7_1 < (l0.length : Int)
      · rw [if_pos c2] at H
        have c2b0 : decide (x7_1 < (l0.length : Int)) = true := decide_eq_true c2
        clear c2
        by_cases c3 : 0 ≤ x7_1
        · rw [if_pos c3] at H
          have c3b0 : decide (0 ≤ x7_1) = true := decide_eq_true c3
          clear c3
          by_cases c4 : x7_1 < (l0.length : Int)
          · rw [if_pos c4] at H
            have c4b0 : decide (x7_1 < (l0.length : Int)) = true := decide_eq_true c4
            clear c4
            have H' := Aside0.mk H
            clear H
            have p173 : 0 ≤ (x7_1 : Int) := of_decide_eq_true (by first | (with_reducible assumption) | assumption)
            have q173 : x7_1 < (l0.length : Int) := of_decide_eq_true (by first | (with_reducible assumption) | assumption)
            obtain ⟨ad173, e173, hx173_0, hx173_1, hx173_2⟩ := at_T31 HR0.out x7_1 p173 q173
            cases e173
            replace p173 := eq_true p173
            replace q173 := eq_true q173
            go_wp2
            go_roundg k1
            case measure => have := HK1.out; omega
            case rel => exact ⟨(wrap64 (x3_1 + ((((rd_T31 l0 x7_1).f1).size : Int) % 100000))), (wrap64 (x7_1 + 1)), (by first | rfl | (simp; done) | (simp [*]; done)), (by first | rfl | (simp; done) | (simp [*]; done)), H', ⟨by have := HK1.out; omega⟩, by repeat (first | exact Drawn0.refl _ | apply Drawn0.step)⟩
          · rw [if_neg c4] at H
            exact absurd H (by simp)
        · rw [if_neg c3] at H
          exact absurd H (by simp)
      · rw [if_neg c2] at H
        have c2b0 : decide (x7_1 < (l0.length : Int)) = false := decide_eq_false c2
        clear c2
        by_cases c5 : (l0.length : Int) ≤ 60
        · rw [if_pos c5] at H
          have c5b0 : decide ((l0.length : Int) ≤ 60) = true := decide_eq_true c5
          have c5b1 : decide (l0.length ≤ 60) = true := decide_eq_true (by omega)
          clear c5
          obtain rfl := Option.some.inj H
          go_wp2
          go_ret
          exact ⟨by first | rfl | (simp; done) | (simp [*]; done), by repeat (first | exact Drawn0.refl _ | apply Drawn0.step)⟩
        · rw [if_neg c5] at H
          have c5b0 : decide ((l0.length : Int) ≤ 60) = false := decide_eq_false c5
          have c5b1 : decide (l0.length ≤ 60) = false := decide_eq_false (by omega)
          clear c5
          obtain rfl := Option.some.inj H
          go_wp2
          go_ret
          exact ⟨by first | rfl | (simp; done) | (simp [*]; done), by repeat (first | exact Drawn0.refl _ | apply Drawn0.step)⟩

/-! ### rhizomelaw01_own: function 16 -/
def rhizomelaw01_own.f (l0 : List (S31)) : Option ((List (S31))) := (some (([] : List (S31)) : List (S31))).bind fun y174 => (if y174.length + l0.length < 4398046511104 then (some (y174 ++ l0)) else (none))
set_option maxHeartbeats 8000000 in
set_option maxRecDepth 100000 in
theorem rhizomelaw01_own.calls (A0 : Option Addr) (c0 : Nat) (l0 : List (S31)) (r : List (S31)) (w : World) (hr0 : Kd.C k31 w A0 l0.length l0) (hc0 : l0.length ≤ c0) (h : rhizomelaw01_own.f l0 = some r) :
    Calls Tryd.prog 16 #[.slice A0 l0.length c0] w fun e w' => ∃ v0_ : Value, e = .returned (v0_) ∧ Kd.R k31 31 w' w.heap.size (fun _ => True) v0_ r ∧ Below w.heap.size w w' := by
  have HR0 := Aside0.mk hr0
  have HC0 := Aside0.mk hc0
  clear hr0 hc0
  have HB := Aside0.mk (Below.refl w.heap.size w)
  have H : ((some (([] : List (S31)) : List (S31))).bind fun y174 => (if y174.length + l0.length < 4398046511104 then (some (y174 ++ l0)) else (none))) = some r := h
  clear h
  obtain ⟨y174, hy174⟩ : ∃ y_ : List (S31), y_ = (([] : List (S31))) := ⟨_, rfl⟩
  replace H : (if y174.length + l0.length < 4398046511104 then (some (y174 ++ l0)) else (none)) = some r := by first | (rw [hy174]; with_reducible exact H) | (have H2_ := (Option.bind_some _ _).symm.trans H; rw [hy174]; with_reducible exact H2_) | (have H2_ := (Option.bind_some _ _).symm.trans H; with_reducible exact H2_) | with_reducible exact H | (rw [hy174]; exact H) | exact H
  have Ny174 := Aside0.mk hy174
  clear hy174
  by_cases c2 : y174.length + l0.length < 4398046511104
  · rw [if_pos c2] at H
    have LMc2 := Aside0.mk c2
    clear c2
    obtain ⟨y177, hy177⟩ : ∃ y_ : List (S31), y_ = (y174 ++ l0) := ⟨_, rfl⟩
    replace H : (some y177) = some r := by first | (rw [hy177]; with_reducible exact H) | (have H2_ := (Option.bind_some _ _).symm.trans H; rw [hy177]; with_reducible exact H2_) | (have H2_ := (Option.bind_some _ _).symm.trans H; with_reducible exact H2_) | with_reducible exact H | (rw [hy177]; exact H) | exact H
    have Ny177 := Aside0.mk hy177
    clear hy177
    obtain rfl := Option.some.inj H
    go_enter Tryd.func16, Tryd.ntmps16
    go_wp2_with (first | ((with_reducible refine gate_dst (N := 3) rfl ?_); refine Kd.R_lit k31 _ 31 ?hg (N := 3) ?hd (xs := ([] : List (S31))) (inner := []) (ok := fun _ => True) (okp := fun _ => True) ?hr ?hp (fun _ hk => hk) trivial (Below.refl _ _) (Nat.le_refl _) (by simp) ?_; (case hd => rfl); (case hg => rfl); (case hr => first | (go_simp; done) | (go_simp; rfl)); (case hp => exact (Reps.none _ _)); intro v175 w3 ho4 hb hg_ hnew_; clear hg_ hnew_; (first | rw [← Ny174.out] at ho4 | (simp only [Int.reduceToNat] at ho4; rw [← Ny174.out] at ho4)); have n0_ := Aside0.mk (Kd.R_lower ho4 (below_size (by repeat (first | (with_reducible first | exact HB.out | apply below_alloc | apply pw_below_drewN | apply below_drew1) | exact HB.out)))); have n1_ := Aside0.mk (below_step (by repeat (first | (with_reducible first | exact HB.out | apply below_alloc | apply pw_below_drewN | apply below_drew1) | exact HB.out)) hb); clear HB; have HO176 := n0_; have HB := n1_; clear n0_ n1_; clear hb ho4) | ((with_reducible refine gate_builtin (b := .append) (xs := #[.tmp 3, .tmp 4]) rfl ?_); at_builtin; refine Kd.R_append_rows k31 (w0 := w) w.heap.size rfl (.tmp 3) (.tmp 4) 26 31 (.agg #[(.bool false), (.string ⟨#[]⟩), (.int .i64 0)]) 32 rfl Tryd.underlying26 info31 rfl (by decide) (by omega) v175 y174 l0 _ _ _ (fun _ => True) (fun _ => False) rfl rfl ?aO ?aR (fun _ _ h => h) (fun _ h => h.elim) ?aF ?aB ?aS ?aL ?_; (case aR => repeat (first | exact (Kd.C_below HR0.out HB.out) | (with_reducible refine Kd.C_alloc ?_ _) | (with_reducible refine Kd.C_drewN ?_ _) | (with_reducible refine Kd.C_drew ?_))); (case aB => exact (by repeat (first | (with_reducible first | exact HB.out | apply below_alloc | apply pw_below_drewN | apply below_drew1) | exact HB.out))); (case aF => exact (fun _ _ => trivial)); (case aO => exact (by (with_reducible repeat (first | apply Kd.R_alloc | apply Kd.R_drewN | apply Kd.R_drew)); exact HO176.out)); (case aS => exact (below_size (by repeat (first | (with_reducible first | exact HB.out | apply below_alloc | apply pw_below_drewN | apply below_drew1) | exact HB.out)))); (case aL => have := LMc2.out; omega); intro v178 w5 ho hb hg hat; rw [← Ny177.out] at ho; have n0_ := Aside0.mk (hb); have n1_ := Aside0.mk (ho); clear HB; clear HO176; have HB := n0_; have HO179 := n1_; clear n0_ n1_; clear ho hb hg hat))
    go_ret
    exact ⟨_, by first | rfl | (simp [errW_none, errW_some] <;> rfl) | (simp [*, errW_none, errW_some] <;> rfl), by (with_reducible repeat (first | apply Kd.R_alloc | apply Kd.R_drewN | apply Kd.R_drew)); exact HO179.out, by repeat (first | (with_reducible first | exact HB.out | apply below_alloc | apply pw_below_drewN | apply below_drew1) | exact HB.out)⟩
  · rw [if_neg c2] at H
    exact absurd H (by simp)

/-! ### rhizomeref01_Bytes: function 30 -/
mutual
def rhizomeref01_Bytes.l1 : Nat → List Int → Int → Bool → ByteArray → Int → Option (List Int)
  | 0, _, _, _, _, _ => none
  | k + 1, x6, x7, x181000, x181001, x181002 => if x7 < (x181001.size : Int) then (if 0 ≤ x7 then (if x6.length < 140737488355328 then ((some (x6 ++ [bt x181001 x7] : List Int)).bind fun y190 => (if (bt x181001 x7) = 0 then (if y190.length < 140737488355328 then (rhizomeref01_Bytes.l1 k (y190 ++ [255]) (wrap64 (x7 + 1)) x181000 x181001 x181002) else (none)) else (rhizomeref01_Bytes.l1 k y190 (wrap64 (x7 + 1)) x181000 x181001 x181002))) else (none)) else (none)) else ((some (([0, 1] : List Int) : List Int)).bind fun y196 => (if x6.length + y196.length < 140737488355328 then (some (x6 ++ y196)) else (none)))
def rhizomeref01_Bytes.l0 : Nat → List Int → Int → Int → Option (List Int)
  | 0, _, _, _ => none
  | k + 1, x3, x4, x5 => if x5 < 8 then (if x3.length < 140737488355328 then (rhizomeref01_Bytes.l0 k (x3 ++ [(IntKind.u64.wrap (Int.tdiv x4 72057594037927936)) % 256]) (IntKind.u64.wrap (x4 * 256)) (wrap64 (x5 + 1))) else (none)) else (some x3)
end
def rhizomeref01_Bytes.f (k : Nat) (a0_0 : Bool) (a0_1 : ByteArray) (a0_2 : Int) : Option (List Int) := if a0_0 = true then (rhizomeref01_Bytes.l1 k (([2] : List Int)) 0 a0_0 a0_1 a0_2) else (rhizomeref01_Bytes.l0 k (([1] : List Int)) (IntKind.u64.wrap ((IntKind.u64.wrap (a0_2)) + 9223372036854775808)) 0)
theorem rhizomeref01_Bytes.mono_l : ∀ k, (∀ y0 y1 y2 y3 y4, LeO (rhizomeref01_Bytes.l1 k y0 y1 y2 y3 y4) (rhizomeref01_Bytes.l1 (k + 1) y0 y1 y2 y3 y4)) ∧ (∀ y0 y1 y2, LeO (rhizomeref01_Bytes.l0 k y0 y1 y2) (rhizomeref01_Bytes.l0 (k + 1) y0 y1 y2))
  | 0 => ⟨fun _ _ _ _ _ r h => by simp [rhizomeref01_Bytes.l1] at h, fun _ _ _ r h => by simp [rhizomeref01_Bytes.l0] at h⟩
  | k + 1 => by
    obtain ⟨ih0, ih1⟩ := rhizomeref01_Bytes.mono_l k
    refine ⟨?_, ?_⟩
    · intro y0 y1 y2 y3 y4
      unfold rhizomeref01_Bytes.l1
      repeat' first
      | (with_reducible exact ih0 _ _ _ _ _)
      | (with_reducible exact ih1 _ _ _)
      | (with_reducible exact LeO.refl _)
      | (with_reducible exact LeO.none _)
      | (with_reducible refine LeO.ite ?_ ?_)
      | (with_reducible refine LeO.bind ?_ (fun _ => ?_))
      | exact ih0 _ _ _ _ _
      | exact ih1 _ _ _
      | exact LeO.none _
      | refine LeO.ite ?_ ?_
      | refine LeO.bind ?_ (fun _ => ?_)
    · intro y0 y1 y2
      unfold rhizomeref01_Bytes.l0
      repeat' first
      | (with_reducible exact ih0 _ _ _ _ _)
      | (with_reducible exact ih1 _ _ _)
      | (with_reducible exact LeO.refl _)
      | (with_reducible exact LeO.none _)
      | (with_reducible refine LeO.ite ?_ ?_)
      | (with_reducible refine LeO.bind ?_ (fun _ => ?_))
      | exact ih0 _ _ _ _ _
      | exact ih1 _ _ _
      | exact LeO.none _
      | refine LeO.ite ?_ ?_
      | refine LeO.bind ?_ (fun _ => ?_)
theorem rhizomeref01_Bytes.mono : ∀ a0 a1 a2 k, LeO (rhizomeref01_Bytes.f k a0 a1 a2) (rhizomeref01_Bytes.f (k + 1) a0 a1 a2) := by
  intro a0 a1 a2 k
  obtain ⟨ih0, ih1⟩ := rhizomeref01_Bytes.mono_l k
  unfold rhizomeref01_Bytes.f
  repeat' first
      | (with_reducible exact ih0 _ _ _ _ _)
      | (with_reducible exact ih1 _ _ _)
      | (with_reducible exact LeO.refl _)
      | (with_reducible exact LeO.none _)
      | (with_reducible refine LeO.ite ?_ ?_)
      | (with_reducible refine LeO.bind ?_ (fun _ => ?_))
      | exact ih0 _ _ _ _ _
      | exact ih1 _ _ _
      | exact LeO.none _
      | refine LeO.ite ?_ ?_
      | refine LeO.bind ?_ (fun _ => ?_)
set_option maxHeartbeats 8000000 in
set_option maxRecDepth 100000 in
theorem rhizomeref01_Bytes.calls (k : Nat) (a0_0 : Bool) (a0_1 : ByteArray) (a0_2 : Int) (r : List Int) (w : World) (h : rhizomeref01_Bytes.f k a0_0 a0_1 a0_2 = some r) :
    Calls Tryd.prog 30 #[.agg #[.bool a0_0, .string a0_1, .int .i64 a0_2]] w fun e w' => ∃ v0_ : Value, e = .returned (v0_) ∧ Kd.R (Kd.int .u8) 5 w' w.heap.size (fun _ => True) v0_ r ∧ Below w.heap.size w w' := by
  have hu56 := Tryd.underlying56
  have HB := Aside0.mk (Below.refl w.heap.size w)
  have H : (if a0_0 = true then (rhizomeref01_Bytes.l1 k (([2] : List Int)) 0 a0_0 a0_1 a0_2) else (rhizomeref01_Bytes.l0 k (([1] : List Int)) (IntKind.u64.wrap ((IntKind.u64.wrap (a0_2)) + 9223372036854775808)) 0)) = some r := h
  clear h
  by_cases c2 : a0_0 = true
  · subst c2
    have H1 : (rhizomeref01_Bytes.l1 k (([2] : List Int)) 0 true a0_1 a0_2) = some r := by rw [if_pos rfl] at H; exact H
    clear H
    have H := H1
    clear H1
    obtain ⟨y187, hy187⟩ : ∃ y_ : List Int, y_ = (([2] : List Int)) := ⟨_, rfl⟩
    replace H : (rhizomeref01_Bytes.l1 k y187 0 true a0_1 a0_2) = some r := by first | (rw [hy187]; with_reducible exact H) | (have H2_ := (Option.bind_some _ _).symm.trans H; rw [hy187]; with_reducible exact H2_) | (have H2_ := (Option.bind_some _ _).symm.trans H; with_reducible exact H2_) | with_reducible exact H | (rw [hy187]; exact H) | exact H
    have Ny187 := Aside0.mk hy187
    clear hy187
    have H' := Aside0.mk H
    clear H
    go_enter Tryd.func30, Tryd.ntmps30
    go_wp2_with (first | ((with_reducible refine gate_dst (N := 1) rfl ?_); refine box_event ?hg (N := 1) ?hd (cs := #[.bool true, .string a0_1, .int .i64 a0_2]) (t := 56) ?hr ?_; (case hd => rfl); (case hg => rfl); (case hr => first | (go_simp; done) | (go_simp; rfl)); intro gb180 hg w3 hbox hb; have n0_ := Aside0.mk (below_step (by repeat (first | (with_reducible first | exact HB.out | apply below_alloc | apply pw_below_drewN | apply below_drew1) | exact HB.out)) hb); have n1_ := Aside0.mk (hbox); have n2_ := Aside0.mk ((by rw [hg]; exact (below_size (by repeat (first | (with_reducible first | exact HB.out | apply below_alloc | apply pw_below_drewN | apply below_drew1) | exact HB.out))) : w.heap.size ≤ gb180)); have n3_ := Aside0.mk ((by rw [hg]; exact (below_size (by repeat (first | (with_reducible first | exact HB.out | apply below_alloc | apply pw_below_drewN | apply below_drew1) | exact HB.out))) : w.heap.size ≤ gb180)); clear HB; have HB := n0_; have BK180 := n1_; have GW180 := n2_; have GE180 := n3_; clear n0_ n1_ n2_ n3_; clear hb hbox hg; have hcz4_0 : w3.cell? ⟨gb180, 0, none⟩ = some (.bool true) := (blk_cell BK180.out 0).trans rfl; have hcz4_1 : w3.cell? ⟨gb180, 1, none⟩ = some (.string a0_1) := (blk_cell BK180.out 1).trans rfl; have hcz4_2 : w3.cell? ⟨gb180, 2, none⟩ = some (.int .i64 a0_2) := (blk_cell BK180.out 2).trans rfl; have hfz4_0 := blk_frozen BK180.out 0; have hfz4_1 := blk_frozen BK180.out 1; have hfz4_2 := blk_frozen BK180.out 2) | ((with_reducible refine gate_dst (N := 29) rfl ?_); refine Kd.R_lit (Kd.int .u8) _ 5 ?hg (N := 29) ?hd (xs := ([2] : List Int)) (inner := [.int .u8 2]) (ok := fun _ => True) (okp := fun _ => True) ?hr ?hp (fun _ hk => hk) trivial (Below.refl _ _) (Nat.le_refl _) (by simp) ?_; (case hd => rfl); (case hg => rfl); (case hr => first | (go_simp; done) | (go_simp; rfl)); (case hp => exact (Reps.one (show Kd.M (Kd.int .u8) _ _ _ 2 [.int .u8 2] from rfl) (Reps.none _ _))); intro v188 w5 ho6 hb hg_ hnew_; clear hg_ hnew_; (first | rw [← Ny187.out] at ho6 | (simp only [Int.reduceToNat] at ho6; rw [← Ny187.out] at ho6)); have n0_ := Aside0.mk (Kd.R_lower ho6 (below_size (by repeat (first | (with_reducible first | exact HB.out | apply below_alloc | apply pw_below_drewN | apply below_drew1 | refine below_set ?_ GE180.out) | exact HB.out)))); have n1_ := Aside0.mk (blk_below (g := gb180) (o := .cells #[.bool true, .string a0_1, .int .i64 a0_2] 56 (0, 0)) (by (with_reducible repeat (first | refine blk_drewN ?_ _ | refine blk_drew ?_ | refine blk_alloc ?_ _)); exact BK180.out) hb); have n2_ := Aside0.mk (below_step (by repeat (first | (with_reducible first | exact HB.out | apply below_alloc | apply pw_below_drewN | apply below_drew1 | refine below_set ?_ GE180.out) | exact HB.out)) hb); clear BK180; clear HB; have HO189 := n0_; have BK180 := n1_; have HB := n2_; clear n0_ n1_ n2_; clear hb ho6))
    go_loopg [6, 7] k (fun kq v6 v7 w' => ∃ (x6_1 : List Int) (x7_1 : Int), v7 = .int .i64 x7_1 ∧ Aside0 (rhizomeref01_Bytes.l1 kq x6_1 x7_1 true a0_1 a0_2 = some r) ∧ Aside0 (kq ≤ k) ∧ Aside0 (Kd.R (Kd.int .u8) 5 w' w.heap.size (fun _ => True) v6 x6_1) ∧ Aside0 (w'.heap[gb180]? = some (.cells #[.bool true, .string a0_1, .int .i64 a0_2] 56 (0, 0))) ∧ Aside0 (Below w.heap.size w w'))
    case atStart => exact ⟨(y187), (0), (by first | rfl | (simp; done) | (simp [*]; done)), H', ⟨Nat.le_refl _⟩, ⟨by (with_reducible repeat (first | apply Kd.R_alloc | apply Kd.R_drewN | apply Kd.R_drew)); exact HO189.out⟩, ⟨by (with_reducible repeat (first | refine blk_drewN ?_ _ | refine blk_drew ?_ | refine blk_alloc ?_ _)); exact BK180.out⟩, ⟨by repeat (first | (with_reducible first | exact HB.out | apply below_alloc | apply pw_below_drewN | apply below_drew1 | refine below_set ?_ GE180.out) | exact HB.out)⟩⟩
    case round =>
      clear H'
      try clear c2
      try clear p2
      try clear c3
      try clear hcz4_0
      try clear hcz4_1
      try clear hcz4_2
      try clear hfz4_0
      try clear hfz4_1
      try clear hfz4_2
      obtain ⟨x6_1, x7_1, rfl, HA, HK1, HO_6, BK180, HB⟩ := hrel
      cases gk with
      | zero => exact absurd HA.out (by simp [rhizomeref01_Bytes.l1])
      | succ k1 =>
        have H := HA.out
        clear HA
        simp only [rhizomeref01_Bytes.l1] at H
        by_cases c7 : x7_1 < (a0_1.size : Int)
        · rw [if_pos c7] at H
          have c7b0 : decide (x7_1 < (a0_1.size : Int)) = true := decide_eq_true c7
          clear c7
          by_cases c8 : 0 ≤ x7_1
          · rw [if_pos c8] at H
            have c8b0 : decide (0 ≤ x7_1) = true := decide_eq_true c8
            clear c8
            by_cases c10 : x6_1.length < 140737488355328
            · rw [if_pos c10] at H
              have LMc10 := Aside0.mk c10
              clear c10
              obtain ⟨y190, hy190⟩ : ∃ y_ : List Int, y_ = (x6_1 ++ [bt a0_1 x7_1]) := ⟨_, rfl⟩
              replace H : (if (bt a0_1 x7_1) = 0 then (if y190.length < 140737488355328 then (rhizomeref01_Bytes.l1 k1 (y190 ++ [255]) (wrap64 (x7_1 + 1)) true a0_1 a0_2) else (none)) else (rhizomeref01_Bytes.l1 k1 y190 (wrap64 (x7_1 + 1)) true a0_1 a0_2)) = some r := by first | (rw [hy190]; with_reducible exact H) | (have H2_ := (Option.bind_some _ _).symm.trans H; rw [hy190]; with_reducible exact H2_) | (have H2_ := (Option.bind_some _ _).symm.trans H; with_reducible exact H2_) | with_reducible exact H | (rw [hy190]; exact H) | exact H
              have Ny190 := Aside0.mk hy190
              clear hy190
              by_cases c12 : (bt a0_1 x7_1) = 0
              · rw [if_pos c12] at H
                have c12b0 : ((bt a0_1 x7_1) == 0) = true := beq_iff_eq.mpr c12
                have c12b1 : ((bt a0_1 x7_1) != 0) = false := bne_eq_false_iff_eq.mpr c12
                clear c12
                by_cases c13 : y190.length < 140737488355328
                · rw [if_pos c13] at H
                  have LMc13 := Aside0.mk c13
                  clear c13
                  obtain ⟨y193, hy193⟩ : ∃ y_ : List Int, y_ = (y190 ++ [255]) := ⟨_, rfl⟩
                  replace H : (rhizomeref01_Bytes.l1 k1 y193 (wrap64 (x7_1 + 1)) true a0_1 a0_2) = some r := by first | (rw [hy193]; with_reducible exact H) | (have H2_ := (Option.bind_some _ _).symm.trans H; rw [hy193]; with_reducible exact H2_) | (have H2_ := (Option.bind_some _ _).symm.trans H; with_reducible exact H2_) | with_reducible exact H | (rw [hy193]; exact H) | exact H
                  have Ny193 := Aside0.mk hy193
                  clear hy193
                  have H' := Aside0.mk H
                  clear H
                  have hcz14_0 : wr.cell? ⟨gb180, 0, none⟩ = some (.bool true) := (blk_cell BK180.out 0).trans rfl
                  have hcz14_1 : wr.cell? ⟨gb180, 1, none⟩ = some (.string a0_1) := (blk_cell BK180.out 1).trans rfl
                  have hcz14_2 : wr.cell? ⟨gb180, 2, none⟩ = some (.int .i64 a0_2) := (blk_cell BK180.out 2).trans rfl
                  have hfz14_0 := blk_frozen BK180.out 0
                  have hfz14_1 := blk_frozen BK180.out 1
                  have hfz14_2 := blk_frozen BK180.out 2
                  have p9 : 0 ≤ (x7_1 : Int) := of_decide_eq_true (by first | (with_reducible assumption) | assumption)
                  have q9 : x7_1 < (a0_1.size : Int) := of_decide_eq_true (by first | (with_reducible assumption) | assumption)
                  have hx9 := bt_at a0_1 x7_1
                  replace p9 := eq_true p9
                  replace q9 := eq_true q9
                  go_wp2_with (first | ((with_reducible refine gate_builtin (b := .append) (xs := #[.tmp 37, .tmp 42]) rfl ?_); at_builtin; refine Kd.R_append (Kd.int .u8) (w0 := w) w.heap.size rfl (.tmp 37) (.tmp 42) 22 5 (.int .u8 0) 1 rfl Tryd.underlying22 info5 rfl (by decide) (by omega) u6 x6_1 (bt a0_1 x7_1) [.int .u8 (bt a0_1 x7_1)] (fun _ => True) (fun _ => False) rfl rfl ?aP (fun _ hk => hk.elim) ?aF ?aO ?aB ?aS ?aL ?_; (case aP => exact rfl); (case aB => exact (by repeat (first | (with_reducible first | exact HB.out | apply below_alloc | apply pw_below_drewN | apply below_drew1 | refine below_set ?_ GE180.out) | exact HB.out))); (case aF => exact (fun _ _ => trivial)); (case aO => exact (by (with_reducible repeat (first | apply Kd.R_alloc | apply Kd.R_drewN | apply Kd.R_drew)); exact HO_6.out)); (case aS => exact (below_size (by repeat (first | (with_reducible first | exact HB.out | apply below_alloc | apply pw_below_drewN | apply below_drew1 | refine below_set ?_ GE180.out) | exact HB.out)))); (case aL => have := LMc10.out; omega); intro v191 w15 ho hb hg hat; rw [← Ny190.out] at ho; have n0_ := Aside0.mk (blk_grown (g := gb180) (o := .cells #[.bool true, .string a0_1, .int .i64 a0_2] 56 (0, 0)) (by (with_reducible repeat (first | refine blk_drewN ?_ _ | refine blk_drew ?_ | refine blk_alloc ?_ _)); exact BK180.out) hg (Kd.R_ne HO_6.out BK180.out (by decide))); have n1_ := Aside0.mk (hb); have n2_ := Aside0.mk (ho); clear BK180; clear HB; clear HO_6; have BK180 := n0_; have HB := n1_; have HO192 := n2_; clear n0_ n1_ n2_; clear ho hb hg hat; have hcz16_0 : w15.cell? ⟨gb180, 0, none⟩ = some (.bool true) := (blk_cell BK180.out 0).trans rfl; have hcz16_1 : w15.cell? ⟨gb180, 1, none⟩ = some (.string a0_1) := (blk_cell BK180.out 1).trans rfl; have hcz16_2 : w15.cell? ⟨gb180, 2, none⟩ = some (.int .i64 a0_2) := (blk_cell BK180.out 2).trans rfl; have hfz16_0 := blk_frozen BK180.out 0; have hfz16_1 := blk_frozen BK180.out 1; have hfz16_2 := blk_frozen BK180.out 2; have p11 : 0 ≤ (x7_1 : Int) := of_decide_eq_true (by first | (with_reducible assumption) | assumption); have q11 : x7_1 < (a0_1.size : Int) := of_decide_eq_true (by first | (with_reducible assumption) | assumption); have hx11 := bt_at a0_1 x7_1; replace p11 := eq_true p11; replace q11 := eq_true q11) | ((with_reducible refine gate_builtin (b := .append) (xs := #[.tmp 49, .tmp 50]) rfl ?_); at_builtin; refine Kd.R_append (Kd.int .u8) (w0 := w) w.heap.size rfl (.tmp 49) (.tmp 50) 22 5 (.int .u8 0) 1 rfl Tryd.underlying22 info5 rfl (by decide) (by omega) v191 y190 255 [.int .u8 255] (fun _ => True) (fun _ => False) rfl rfl ?aP (fun _ hk => hk.elim) ?aF ?aO ?aB ?aS ?aL ?_; (case aP => exact rfl); (case aB => exact (by repeat (first | (with_reducible first | exact HB.out | apply below_alloc | apply pw_below_drewN | apply below_drew1 | refine below_set ?_ GE180.out) | exact HB.out))); (case aF => exact (fun _ _ => trivial)); (case aO => exact (by (with_reducible repeat (first | apply Kd.R_alloc | apply Kd.R_drewN | apply Kd.R_drew)); exact HO192.out)); (case aS => exact (below_size (by repeat (first | (with_reducible first | exact HB.out | apply below_alloc | apply pw_below_drewN | apply below_drew1 | refine below_set ?_ GE180.out) | exact HB.out)))); (case aL => have := LMc13.out; omega); intro v194 w17 ho hb hg hat; rw [← Ny193.out] at ho; have n0_ := Aside0.mk (blk_grown (g := gb180) (o := .cells #[.bool true, .string a0_1, .int .i64 a0_2] 56 (0, 0)) (by (with_reducible repeat (first | refine blk_drewN ?_ _ | refine blk_drew ?_ | refine blk_alloc ?_ _)); exact BK180.out) hg (Kd.R_ne HO192.out BK180.out (by decide))); have n1_ := Aside0.mk (hb); have n2_ := Aside0.mk (ho); clear BK180; clear HB; clear HO192; have BK180 := n0_; have HB := n1_; have HO195 := n2_; clear n0_ n1_ n2_; clear ho hb hg hat))
                  go_roundg k1
                  case measure => have := HK1.out; omega
                  case rel => exact ⟨(y193), (wrap64 (x7_1 + 1)), (by first | rfl | (simp; done) | (simp [*]; done)), H', ⟨by have := HK1.out; omega⟩, ⟨by (with_reducible repeat (first | apply Kd.R_alloc | apply Kd.R_drewN | apply Kd.R_drew)); exact HO195.out⟩, ⟨by (with_reducible repeat (first | refine blk_drewN ?_ _ | refine blk_drew ?_ | refine blk_alloc ?_ _)); exact BK180.out⟩, ⟨by repeat (first | (with_reducible first | exact HB.out | apply below_alloc | apply pw_below_drewN | apply below_drew1 | refine below_set ?_ GE180.out) | exact HB.out)⟩⟩
                · rw [if_neg c13] at H
                  exact absurd H (by simp)
              · rw [if_neg c12] at H
                have c12b0 : ((bt a0_1 x7_1) == 0) = false := beq_eq_false_iff_ne.mpr c12
                have c12b1 : ((bt a0_1 x7_1) != 0) = true := bne_iff_ne.mpr c12
                have H' := Aside0.mk H
                clear H
                have hcz18_0 : wr.cell? ⟨gb180, 0, none⟩ = some (.bool true) := (blk_cell BK180.out 0).trans rfl
                have hcz18_1 : wr.cell? ⟨gb180, 1, none⟩ = some (.string a0_1) := (blk_cell BK180.out 1).trans rfl
                have hcz18_2 : wr.cell? ⟨gb180, 2, none⟩ = some (.int .i64 a0_2) := (blk_cell BK180.out 2).trans rfl
                have hfz18_0 := blk_frozen BK180.out 0
                have hfz18_1 := blk_frozen BK180.out 1
                have hfz18_2 := blk_frozen BK180.out 2
                have p9 : 0 ≤ (x7_1 : Int) := of_decide_eq_true (by first | (with_reducible assumption) | assumption)
                have q9 : x7_1 < (a0_1.size : Int) := of_decide_eq_true (by first | (with_reducible assumption) | assumption)
                have hx9 := bt_at a0_1 x7_1
                replace p9 := eq_true p9
                replace q9 := eq_true q9
                go_wp2_with (first | ((with_reducible refine gate_builtin (b := .append) (xs := #[.tmp 37, .tmp 42]) rfl ?_); at_builtin; refine Kd.R_append (Kd.int .u8) (w0 := w) w.heap.size rfl (.tmp 37) (.tmp 42) 22 5 (.int .u8 0) 1 rfl Tryd.underlying22 info5 rfl (by decide) (by omega) u6 x6_1 (bt a0_1 x7_1) [.int .u8 (bt a0_1 x7_1)] (fun _ => True) (fun _ => False) rfl rfl ?aP (fun _ hk => hk.elim) ?aF ?aO ?aB ?aS ?aL ?_; (case aP => exact rfl); (case aB => exact (by repeat (first | (with_reducible first | exact HB.out | apply below_alloc | apply pw_below_drewN | apply below_drew1 | refine below_set ?_ GE180.out) | exact HB.out))); (case aF => exact (fun _ _ => trivial)); (case aO => exact (by (with_reducible repeat (first | apply Kd.R_alloc | apply Kd.R_drewN | apply Kd.R_drew)); exact HO_6.out)); (case aS => exact (below_size (by repeat (first | (with_reducible first | exact HB.out | apply below_alloc | apply pw_below_drewN | apply below_drew1 | refine below_set ?_ GE180.out) | exact HB.out)))); (case aL => have := LMc10.out; omega); intro v191 w19 ho hb hg hat; rw [← Ny190.out] at ho; have n0_ := Aside0.mk (blk_grown (g := gb180) (o := .cells #[.bool true, .string a0_1, .int .i64 a0_2] 56 (0, 0)) (by (with_reducible repeat (first | refine blk_drewN ?_ _ | refine blk_drew ?_ | refine blk_alloc ?_ _)); exact BK180.out) hg (Kd.R_ne HO_6.out BK180.out (by decide))); have n1_ := Aside0.mk (hb); have n2_ := Aside0.mk (ho); clear BK180; clear HB; clear HO_6; have BK180 := n0_; have HB := n1_; have HO192 := n2_; clear n0_ n1_ n2_; clear ho hb hg hat; have hcz20_0 : w19.cell? ⟨gb180, 0, none⟩ = some (.bool true) := (blk_cell BK180.out 0).trans rfl; have hcz20_1 : w19.cell? ⟨gb180, 1, none⟩ = some (.string a0_1) := (blk_cell BK180.out 1).trans rfl; have hcz20_2 : w19.cell? ⟨gb180, 2, none⟩ = some (.int .i64 a0_2) := (blk_cell BK180.out 2).trans rfl; have hfz20_0 := blk_frozen BK180.out 0; have hfz20_1 := blk_frozen BK180.out 1; have hfz20_2 := blk_frozen BK180.out 2; have p11 : 0 ≤ (x7_1 : Int) := of_decide_eq_true (by first | (with_reducible assumption) | assumption); have q11 : x7_1 < (a0_1.size : Int) := of_decide_eq_true (by first | (with_reducible assumption) | assumption); have hx11 := bt_at a0_1 x7_1; replace p11 := eq_true p11; replace q11 := eq_true q11))
                go_roundg k1
                case measure => have := HK1.out; omega
                case rel => exact ⟨(y190), (wrap64 (x7_1 + 1)), (by first | rfl | (simp; done) | (simp [*]; done)), H', ⟨by have := HK1.out; omega⟩, ⟨by (with_reducible repeat (first | apply Kd.R_alloc | apply Kd.R_drewN | apply Kd.R_drew)); exact HO192.out⟩, ⟨by (with_reducible repeat (first | refine blk_drewN ?_ _ | refine blk_drew ?_ | refine blk_alloc ?_ _)); exact BK180.out⟩, ⟨by repeat (first | (with_reducible first | exact HB.out | apply below_alloc | apply pw_below_drewN | apply below_drew1 | refine below_set ?_ GE180.out) | exact HB.out)⟩⟩
            · rw [if_neg c10] at H
              exact absurd H (by simp)
          · rw [if_neg c8] at H
            exact absurd H (by simp)
        · rw [if_neg c7] at H
          have c7b0 : decide (x7_1 < (a0_1.size : Int)) = false := decide_eq_false c7
          clear c7
          obtain ⟨y196, hy196⟩ : ∃ y_ : List Int, y_ = (([0, 1] : List Int)) := ⟨_, rfl⟩
          replace H : (if x6_1.length + y196.length < 140737488355328 then (some (x6_1 ++ y196)) else (none)) = some r := by first | (rw [hy196]; with_reducible exact H) | (have H2_ := (Option.bind_some _ _).symm.trans H; rw [hy196]; with_reducible exact H2_) | (have H2_ := (Option.bind_some _ _).symm.trans H; with_reducible exact H2_) | with_reducible exact H | (rw [hy196]; exact H) | exact H
          have Ny196 := Aside0.mk hy196
          clear hy196
          by_cases c21 : x6_1.length + y196.length < 140737488355328
          · rw [if_pos c21] at H
            have LMc21 := Aside0.mk c21
            clear c21
            obtain ⟨y199, hy199⟩ : ∃ y_ : List Int, y_ = (x6_1 ++ y196) := ⟨_, rfl⟩
            replace H : (some y199) = some r := by first | (rw [hy199]; with_reducible exact H) | (have H2_ := (Option.bind_some _ _).symm.trans H; rw [hy199]; with_reducible exact H2_) | (have H2_ := (Option.bind_some _ _).symm.trans H; with_reducible exact H2_) | with_reducible exact H | (rw [hy199]; exact H) | exact H
            have Ny199 := Aside0.mk hy199
            clear hy199
            obtain rfl := Option.some.inj H
            have hcz22_0 : wr.cell? ⟨gb180, 0, none⟩ = some (.bool true) := (blk_cell BK180.out 0).trans rfl
            have hcz22_1 : wr.cell? ⟨gb180, 1, none⟩ = some (.string a0_1) := (blk_cell BK180.out 1).trans rfl
            have hcz22_2 : wr.cell? ⟨gb180, 2, none⟩ = some (.int .i64 a0_2) := (blk_cell BK180.out 2).trans rfl
            have hfz22_0 := blk_frozen BK180.out 0
            have hfz22_1 := blk_frozen BK180.out 1
            have hfz22_2 := blk_frozen BK180.out 2
            go_wp2_with (first | ((with_reducible refine gate_dst (N := 53) rfl ?_); refine Kd.R_lit (Kd.int .u8) _ 5 ?hg (N := 53) ?hd (xs := ([0, 1] : List Int)) (inner := [.int .u8 0, .int .u8 1]) (ok := fun _ => True) (okp := fun _ => True) ?hr ?hp (fun _ hk => hk) trivial (Below.refl _ _) (Nat.le_refl _) (by simp) ?_; (case hd => rfl); (case hg => rfl); (case hr => first | (go_simp; done) | (go_simp; rfl)); (case hp => exact (Reps.one (show Kd.M (Kd.int .u8) _ _ _ 0 [.int .u8 0] from rfl) (Reps.one (show Kd.M (Kd.int .u8) _ _ _ 1 [.int .u8 1] from rfl) (Reps.none _ _)))); intro v197 w23 ho24 hb hg_ hnew_; clear hg_ hnew_; (first | rw [← Ny196.out] at ho24 | (simp only [Int.reduceToNat] at ho24; rw [← Ny196.out] at ho24)); have n0_ := Aside0.mk (Kd.R_elder' (by (with_reducible repeat (first | apply Kd.R_alloc | apply Kd.R_drewN | apply Kd.R_drew)); exact HO_6.out) (Kd.R_base ho24) hb); have n1_ := Aside0.mk (Kd.R_lower (Kd.R_new' ho24 (Kd.R_lt (by (with_reducible repeat (first | apply Kd.R_alloc | apply Kd.R_drewN | apply Kd.R_drew)); exact HO_6.out))) (below_size (by repeat (first | (with_reducible first | exact HB.out | apply below_alloc | apply pw_below_drewN | apply below_drew1 | refine below_set ?_ GE180.out) | exact HB.out)))); have n2_ := Aside0.mk (blk_below (g := gb180) (o := .cells #[.bool true, .string a0_1, .int .i64 a0_2] 56 (0, 0)) (by (with_reducible repeat (first | refine blk_drewN ?_ _ | refine blk_drew ?_ | refine blk_alloc ?_ _)); exact BK180.out) hb); have n3_ := Aside0.mk (below_step (by repeat (first | (with_reducible first | exact HB.out | apply below_alloc | apply pw_below_drewN | apply below_drew1 | refine below_set ?_ GE180.out) | exact HB.out)) hb); clear HO_6; clear BK180; clear HB; have HO_6 := n0_; have HO198 := n1_; have BK180 := n2_; have HB := n3_; clear n0_ n1_ n2_ n3_; clear hb ho24; obtain ⟨Ao26, co26, eo26⟩ := Kd.R_slice HO198.out; subst eo26) | ((with_reducible refine gate_builtin (b := .append) (xs := #[.tmp 52, .tmp 53]) rfl ?_); at_builtin; refine Kd.R_append_rows (Kd.int .u8) (w0 := w) w.heap.size rfl (.tmp 52) (.tmp 53) 22 5 (.int .u8 0) 1 rfl Tryd.underlying22 info5 rfl (by decide) (by omega) u6 x6_1 y196 _ _ _ (fun k_ => some k_ ≠ (.slice Ao26 y196.length co26 : Value).ownBlock) (fun _ => False) rfl rfl ?aO ?aR (fun _ _ h => h) (fun _ h => h.elim) ?aF ?aB ?aS ?aL ?_; (case aR => repeat (first | exact (Kd.R_reads' HO198.out).2.2 | (with_reducible refine Kd.C_alloc ?_ _) | (with_reducible refine Kd.C_drewN ?_ _) | (with_reducible refine Kd.C_drew ?_))); (case aB => exact (by repeat (first | (with_reducible first | exact HB.out | apply below_alloc | apply pw_below_drewN | apply below_drew1 | refine below_set ?_ GE180.out) | exact HB.out))); (case aF => exact (fun k_ hk => Kd.fresh' (Kd.R_lt (by (with_reducible repeat (first | apply Kd.R_alloc | apply Kd.R_drewN | apply Kd.R_drew)); exact HO198.out)) k_ hk)); (case aO => exact (by (with_reducible repeat (first | apply Kd.R_alloc | apply Kd.R_drewN | apply Kd.R_drew)); exact Kd.R_mono HO_6.out (fun _ hk => hk.2))); (case aS => exact (below_size (by repeat (first | (with_reducible first | exact HB.out | apply below_alloc | apply pw_below_drewN | apply below_drew1 | refine below_set ?_ GE180.out) | exact HB.out)))); (case aL => have := LMc21.out; omega); intro v200 w25 ho hb hg hat; rw [← Ny199.out] at ho; have n0_ := Aside0.mk (blk_grown (g := gb180) (o := .cells #[.bool true, .string a0_1, .int .i64 a0_2] 56 (0, 0)) (by (with_reducible repeat (first | refine blk_drewN ?_ _ | refine blk_drew ?_ | refine blk_alloc ?_ _)); exact BK180.out) hg (Kd.R_ne HO_6.out BK180.out (by decide))); have n1_ := Aside0.mk (Kd.R_after (ok := (fun _ => True)) (by (with_reducible repeat (first | apply Kd.R_alloc | apply Kd.R_drewN | apply Kd.R_drew)); exact HO198.out) hg hat); have n2_ := Aside0.mk (hb); have n3_ := Aside0.mk (ho); clear BK180; clear HO198; clear HB; clear HO_6; have BK180 := n0_; have HO198 := n1_; have HB := n2_; have HO201 := n3_; clear n0_ n1_ n2_ n3_; clear ho hb hg hat))
            go_ret
            exact ⟨_, by first | rfl | (simp [errW_none, errW_some] <;> rfl) | (simp [*, errW_none, errW_some] <;> rfl), by (with_reducible repeat (first | apply Kd.R_alloc | apply Kd.R_drewN | apply Kd.R_drew)); exact Kd.R_mono HO201.out (fun _ hk => trivial), by repeat (first | (with_reducible first | exact HB.out | apply below_alloc | apply pw_below_drewN | apply below_drew1 | refine below_set ?_ GE180.out) | exact HB.out)⟩
          · rw [if_neg c21] at H
            exact absurd H (by simp)
  · replace c2 := Bool.eq_false_iff.mpr c2
    subst c2
    have H1 : (rhizomeref01_Bytes.l0 k (([1] : List Int)) (IntKind.u64.wrap ((IntKind.u64.wrap (a0_2)) + 9223372036854775808)) 0) = some r := by rw [if_neg (show ¬ (false = true) by decide)] at H; exact H
    clear H
    have H := H1
    clear H1
    obtain ⟨y181, hy181⟩ : ∃ y_ : List Int, y_ = (([1] : List Int)) := ⟨_, rfl⟩
    replace H : (rhizomeref01_Bytes.l0 k y181 (IntKind.u64.wrap ((IntKind.u64.wrap (a0_2)) + 9223372036854775808)) 0) = some r := by first | (rw [hy181]; with_reducible exact H) | (have H2_ := (Option.bind_some _ _).symm.trans H; rw [hy181]; with_reducible exact H2_) | (have H2_ := (Option.bind_some _ _).symm.trans H; with_reducible exact H2_) | with_reducible exact H | (rw [hy181]; exact H) | exact H
    have Ny181 := Aside0.mk hy181
    clear hy181
    have H' := Aside0.mk H
    clear H
    go_enter Tryd.func30, Tryd.ntmps30
    go_wp2_with (first | ((with_reducible refine gate_dst (N := 1) rfl ?_); refine box_event ?hg (N := 1) ?hd (cs := #[.bool false, .string a0_1, .int .i64 a0_2]) (t := 56) ?hr ?_; (case hd => rfl); (case hg => rfl); (case hr => first | (go_simp; done) | (go_simp; rfl)); intro gb180 hg w27 hbox hb; have n0_ := Aside0.mk (below_step (by repeat (first | (with_reducible first | exact HB.out | apply below_alloc | apply pw_below_drewN | apply below_drew1) | exact HB.out)) hb); have n1_ := Aside0.mk (hbox); have n2_ := Aside0.mk ((by rw [hg]; exact (below_size (by repeat (first | (with_reducible first | exact HB.out | apply below_alloc | apply pw_below_drewN | apply below_drew1) | exact HB.out))) : w.heap.size ≤ gb180)); have n3_ := Aside0.mk ((by rw [hg]; exact (below_size (by repeat (first | (with_reducible first | exact HB.out | apply below_alloc | apply pw_below_drewN | apply below_drew1) | exact HB.out))) : w.heap.size ≤ gb180)); clear HB; have HB := n0_; have BK180 := n1_; have GW180 := n2_; have GE180 := n3_; clear n0_ n1_ n2_ n3_; clear hb hbox hg; have hcz28_0 : w27.cell? ⟨gb180, 0, none⟩ = some (.bool false) := (blk_cell BK180.out 0).trans rfl; have hcz28_1 : w27.cell? ⟨gb180, 1, none⟩ = some (.string a0_1) := (blk_cell BK180.out 1).trans rfl; have hcz28_2 : w27.cell? ⟨gb180, 2, none⟩ = some (.int .i64 a0_2) := (blk_cell BK180.out 2).trans rfl; have hfz28_0 := blk_frozen BK180.out 0; have hfz28_1 := blk_frozen BK180.out 1; have hfz28_2 := blk_frozen BK180.out 2) | ((with_reducible refine gate_dst (N := 11) rfl ?_); refine Kd.R_lit (Kd.int .u8) _ 5 ?hg (N := 11) ?hd (xs := ([1] : List Int)) (inner := [.int .u8 1]) (ok := fun _ => True) (okp := fun _ => True) ?hr ?hp (fun _ hk => hk) trivial (Below.refl _ _) (Nat.le_refl _) (by simp) ?_; (case hd => rfl); (case hg => rfl); (case hr => first | (go_simp; done) | (go_simp; rfl)); (case hp => exact (Reps.one (show Kd.M (Kd.int .u8) _ _ _ 1 [.int .u8 1] from rfl) (Reps.none _ _))); intro v182 w29 ho30 hb hg_ hnew_; clear hg_ hnew_; (first | rw [← Ny181.out] at ho30 | (simp only [Int.reduceToNat] at ho30; rw [← Ny181.out] at ho30)); have n0_ := Aside0.mk (Kd.R_lower ho30 (below_size (by repeat (first | (with_reducible first | exact HB.out | apply below_alloc | apply pw_below_drewN | apply below_drew1 | refine below_set ?_ GE180.out) | exact HB.out)))); have n1_ := Aside0.mk (blk_below (g := gb180) (o := .cells #[.bool false, .string a0_1, .int .i64 a0_2] 56 (0, 0)) (by (with_reducible repeat (first | refine blk_drewN ?_ _ | refine blk_drew ?_ | refine blk_alloc ?_ _)); exact BK180.out) hb); have n2_ := Aside0.mk (below_step (by repeat (first | (with_reducible first | exact HB.out | apply below_alloc | apply pw_below_drewN | apply below_drew1 | refine below_set ?_ GE180.out) | exact HB.out)) hb); clear BK180; clear HB; have HO183 := n0_; have BK180 := n1_; have HB := n2_; clear n0_ n1_ n2_; clear hb ho30; have hcz31_0 : w29.cell? ⟨gb180, 0, none⟩ = some (.bool false) := (blk_cell BK180.out 0).trans rfl; have hcz31_1 : w29.cell? ⟨gb180, 1, none⟩ = some (.string a0_1) := (blk_cell BK180.out 1).trans rfl; have hcz31_2 : w29.cell? ⟨gb180, 2, none⟩ = some (.int .i64 a0_2) := (blk_cell BK180.out 2).trans rfl; have hfz31_0 := blk_frozen BK180.out 0; have hfz31_1 := blk_frozen BK180.out 1; have hfz31_2 := blk_frozen BK180.out 2))
    go_loopg [3, 4, 5] k (fun kq v3 v4 v5 w' => ∃ (x3_1 : List Int) (x4_1 : Int) (x5_1 : Int), v4 = .int .u64 x4_1 ∧ v5 = .int .i64 x5_1 ∧ Aside0 (rhizomeref01_Bytes.l0 kq x3_1 x4_1 x5_1 = some r) ∧ Aside0 (kq ≤ k) ∧ Aside0 (Kd.R (Kd.int .u8) 5 w' w.heap.size (fun _ => True) v3 x3_1) ∧ Aside0 (w'.heap[gb180]? = some (.cells #[.bool false, .string a0_1, .int .i64 a0_2] 56 (0, 0))) ∧ Aside0 (Below w.heap.size w w'))
    case atStart => exact ⟨(y181), (IntKind.u64.wrap ((IntKind.u64.wrap (a0_2)) + 9223372036854775808)), (0), (by first | rfl | (simp; done) | (simp [*]; done)), (by first | rfl | (simp; done) | (simp [*]; done)), H', ⟨Nat.le_refl _⟩, ⟨by (with_reducible repeat (first | apply Kd.R_alloc | apply Kd.R_drewN | apply Kd.R_drew)); exact HO183.out⟩, ⟨by (with_reducible repeat (first | refine blk_drewN ?_ _ | refine blk_drew ?_ | refine blk_alloc ?_ _)); exact BK180.out⟩, ⟨by repeat (first | (with_reducible first | exact HB.out | apply below_alloc | apply pw_below_drewN | apply below_drew1 | refine below_set ?_ GE180.out) | exact HB.out)⟩⟩
    case round =>
      clear H'
      try clear c1
      try clear p1
      try clear q1
      try clear hx1
      try clear c2
      try clear p2
      try clear c3
      try clear p6
      try clear c7
      try clear c7b0
      try clear c8
      try clear c8b0
      try clear p9
      try clear q9
      try clear hx9
      try clear c10
      try clear p11
      try clear q11
      try clear hx11
      try clear c12
      try clear c12b0
      try clear c12b1
      try clear c13
      try clear c21
      try clear c30
      try clear hcz14_0
      try clear hcz14_1
      try clear hcz14_2
      try clear hcz16_0
      try clear hcz16_1
      try clear hcz16_2
      try clear hcz18_0
      try clear hcz18_1
      try clear hcz18_2
      try clear hcz20_0
      try clear hcz20_1
      try clear hcz20_2
      try clear hcz22_0
      try clear hcz22_1
      try clear hcz22_2
      try clear hcz28_0
      try clear hcz28_1
      try clear hcz28_2
      try clear hcz31_0
      try clear hcz31_1
      try clear hcz31_2
      try clear hcz4_0
      try clear hcz4_1
      try clear hcz4_2
      try clear hfz14_0
      try clear hfz14_1
      try clear hfz14_2
      try clear hfz16_0
      try clear hfz16_1
      try clear hfz16_2
      try clear hfz18_0
      try clear hfz18_1
      try clear hfz18_2
      try clear hfz20_0
      try clear hfz20_1
      try clear hfz20_2
      try clear hfz22_0
      try clear hfz22_1
      try clear hfz22_2
      try clear hfz28_0
      try clear hfz28_1
      try clear hfz28_2
      try clear hfz31_0
      try clear hfz31_1
      try clear hfz31_2
      try clear hfz4_0
      try clear hfz4_1
      try clear hfz4_2
      try clear p11
      try clear p2
      try clear p9
      try clear q11
      try clear q9
      obtain ⟨x3_1, x4_1, x5_1, rfl, rfl, HA, HK1, HO_3, BK180, HB⟩ := hrel
      cases gk with
      | zero => exact absurd HA.out (by simp [rhizomeref01_Bytes.l0])
      | succ k1 =>
        have H := HA.out
        clear HA
        simp only [rhizomeref01_Bytes.l0] at H
        by_cases c32 : x5_1 < 8
        · rw [if_pos c32] at H
          have c32b0 : decide (x5_1 < 8) = true := decide_eq_true c32
          clear c32
          by_cases c33 : x3_1.length < 140737488355328
          · rw [if_pos c33] at H
            have LMc33 := Aside0.mk c33
            clear c33
            obtain ⟨y184, hy184⟩ : ∃ y_ : List Int, y_ = (x3_1 ++ [(IntKind.u64.wrap (Int.tdiv x4_1 72057594037927936)) % 256]) := ⟨_, rfl⟩
            replace H : (rhizomeref01_Bytes.l0 k1 y184 (IntKind.u64.wrap (x4_1 * 256)) (wrap64 (x5_1 + 1))) = some r := by first | (rw [hy184]; with_reducible exact H) | (have H2_ := (Option.bind_some _ _).symm.trans H; rw [hy184]; with_reducible exact H2_) | (have H2_ := (Option.bind_some _ _).symm.trans H; with_reducible exact H2_) | with_reducible exact H | (rw [hy184]; exact H) | exact H
            have Ny184 := Aside0.mk hy184
            clear hy184
            have H' := Aside0.mk H
            clear H
            go_wp2_with (first | ((with_reducible refine gate_builtin (b := .append) (xs := #[.tmp 20, .tmp 24]) rfl ?_); at_builtin; refine Kd.R_append (Kd.int .u8) (w0 := w) w.heap.size rfl (.tmp 20) (.tmp 24) 22 5 (.int .u8 0) 1 rfl Tryd.underlying22 info5 rfl (by decide) (by omega) u3 x3_1 ((IntKind.u64.wrap (Int.tdiv x4_1 72057594037927936)) % 256) [.int .u8 ((IntKind.u64.wrap (Int.tdiv x4_1 72057594037927936)) % 256)] (fun _ => True) (fun _ => False) rfl rfl ?aP (fun _ hk => hk.elim) ?aF ?aO ?aB ?aS ?aL ?_; (case aP => exact rfl); (case aB => exact (by repeat (first | (with_reducible first | exact HB.out | apply below_alloc | apply pw_below_drewN | apply below_drew1 | refine below_set ?_ GE180.out) | exact HB.out))); (case aF => exact (fun _ _ => trivial)); (case aO => exact (by (with_reducible repeat (first | apply Kd.R_alloc | apply Kd.R_drewN | apply Kd.R_drew)); exact HO_3.out)); (case aS => exact (below_size (by repeat (first | (with_reducible first | exact HB.out | apply below_alloc | apply pw_below_drewN | apply below_drew1 | refine below_set ?_ GE180.out) | exact HB.out)))); (case aL => have := LMc33.out; omega); intro v185 w34 ho hb hg hat; rw [← Ny184.out] at ho; have n0_ := Aside0.mk (blk_grown (g := gb180) (o := .cells #[.bool false, .string a0_1, .int .i64 a0_2] 56 (0, 0)) (by (with_reducible repeat (first | refine blk_drewN ?_ _ | refine blk_drew ?_ | refine blk_alloc ?_ _)); exact BK180.out) hg (Kd.R_ne HO_3.out BK180.out (by decide))); have n1_ := Aside0.mk (hb); have n2_ := Aside0.mk (ho); clear BK180; clear HB; clear HO_3; have BK180 := n0_; have HB := n1_; have HO186 := n2_; clear n0_ n1_ n2_; clear ho hb hg hat))
            go_roundg k1
            case measure => have := HK1.out; omega
            case rel => exact ⟨(y184), (IntKind.u64.wrap (x4_1 * 256)), (wrap64 (x5_1 + 1)), (by first | rfl | (simp; done) | (simp [*]; done)), (by first | rfl | (simp; done) | (simp [*]; done)), H', ⟨by have := HK1.out; omega⟩, ⟨by (with_reducible repeat (first | apply Kd.R_alloc | apply Kd.R_drewN | apply Kd.R_drew)); exact HO186.out⟩, ⟨by (with_reducible repeat (first | refine blk_drewN ?_ _ | refine blk_drew ?_ | refine blk_alloc ?_ _)); exact BK180.out⟩, ⟨by repeat (first | (with_reducible first | exact HB.out | apply below_alloc | apply pw_below_drewN | apply below_drew1 | refine below_set ?_ GE180.out) | exact HB.out)⟩⟩
          · rw [if_neg c33] at H
            exact absurd H (by simp)
        · rw [if_neg c32] at H
          have c32b0 : decide (x5_1 < 8) = false := decide_eq_false c32
          clear c32
          obtain rfl := Option.some.inj H
          go_wp2
          go_ret
          exact ⟨_, by first | rfl | (simp [errW_none, errW_some] <;> rfl) | (simp [*, errW_none, errW_some] <;> rfl), by (with_reducible repeat (first | apply Kd.R_alloc | apply Kd.R_drewN | apply Kd.R_drew)); exact HO_3.out, by repeat (first | (with_reducible first | exact HB.out | apply below_alloc | apply pw_below_drewN | apply below_drew1 | refine below_set ?_ GE180.out) | exact HB.out)⟩

/-! ### rhizomeref01_Encode: function 19 -/
mutual
def rhizomeref01_Encode.l0 : Nat → List (S56) → List Int → Int → Int → Option (List Int × Int)
  | 0, _, _, _, _ => none
  | k + 1, x0, x4, x7, x8 => if x8 < x7 then (if 0 ≤ x8 then (if x8 < (x0.length : Int) then (if (rd_T56 x0 x8).f0 = true then (rhizomeref01_Encode.j1 k x0 x4 x8 x7 x8 (decide ((((rd_T56 x0 x8).f1).size : Int) > 200))) else (rhizomeref01_Encode.j1 k x0 x4 x8 x7 x8 false)) else (none)) else (none)) else (some (x4, 0))
def rhizomeref01_Encode.j1 : Nat → List (S56) → List Int → Int → Int → Int → Bool → Option (List Int × Int)
  | 0, _, _, _, _, _, _ => none
  | k + 1, x0, x4, x5, x7, x8, x24 => if x24 = true then (some (([] : List Int), 3)) else (if 0 ≤ x5 then (if x5 < (x0.length : Int) then ((rhizomeref01_Bytes.f k ((rd_T56 x0 x5).f0) ((rd_T56 x0 x5).f1) ((rd_T56 x0 x5).f2)).bind fun t205 => (if x4.length + t205.length < 140737488355328 then ((some (x4 ++ t205 : List Int)).bind fun y208 => (if (y208.length : Int) > 200 then (some (([] : List Int), 3)) else (rhizomeref01_Encode.l0 k x0 y208 x7 (wrap64 (x8 + 1))))) else (none))) else (none)) else (none))
end
def rhizomeref01_Encode.f (k : Nat) (l0 : List (S56)) : Option (List Int × Int) := rhizomeref01_Encode.l0 k l0 ([] : List Int) (l0.length : Int) 0
theorem rhizomeref01_Encode.mono_l : ∀ k, (∀ y0 y1 y2 y3, LeO (rhizomeref01_Encode.l0 k y0 y1 y2 y3) (rhizomeref01_Encode.l0 (k + 1) y0 y1 y2 y3)) ∧ (∀ y0 y1 y2 y3 y4 y5, LeO (rhizomeref01_Encode.j1 k y0 y1 y2 y3 y4 y5) (rhizomeref01_Encode.j1 (k + 1) y0 y1 y2 y3 y4 y5))
  | 0 => ⟨fun _ _ _ _ r h => by simp [rhizomeref01_Encode.l0] at h, fun _ _ _ _ _ _ r h => by simp [rhizomeref01_Encode.j1] at h⟩
  | k + 1 => by
    obtain ⟨ih0, ih1⟩ := rhizomeref01_Encode.mono_l k
    refine ⟨?_, ?_⟩
    · intro y0 y1 y2 y3
      unfold rhizomeref01_Encode.l0
      repeat' first
      | (with_reducible exact ih0 _ _ _ _)
      | (with_reducible exact ih1 _ _ _ _ _ _)
      | (with_reducible exact rhizomeref01_Bytes.mono _ _ _ _)
      | (with_reducible exact LeO.refl _)
      | (with_reducible exact LeO.none _)
      | (with_reducible refine LeO.ite ?_ ?_)
      | (with_reducible refine LeO.bind ?_ (fun _ => ?_))
      | exact ih0 _ _ _ _
      | exact ih1 _ _ _ _ _ _
      | exact rhizomeref01_Bytes.mono _ _ _ _
      | exact LeO.none _
      | refine LeO.ite ?_ ?_
      | refine LeO.bind ?_ (fun _ => ?_)
    · intro y0 y1 y2 y3 y4 y5
      unfold rhizomeref01_Encode.j1
      repeat' first
      | (with_reducible exact ih0 _ _ _ _)
      | (with_reducible exact ih1 _ _ _ _ _ _)
      | (with_reducible exact rhizomeref01_Bytes.mono _ _ _ _)
      | (with_reducible exact LeO.refl _)
      | (with_reducible exact LeO.none _)
      | (with_reducible refine LeO.ite ?_ ?_)
      | (with_reducible refine LeO.bind ?_ (fun _ => ?_))
      | exact ih0 _ _ _ _
      | exact ih1 _ _ _ _ _ _
      | exact rhizomeref01_Bytes.mono _ _ _ _
      | exact LeO.none _
      | refine LeO.ite ?_ ?_
      | refine LeO.bind ?_ (fun _ => ?_)
theorem rhizomeref01_Encode.mono : ∀ a0 k, LeO (rhizomeref01_Encode.f k a0) (rhizomeref01_Encode.f (k + 1) a0) := by
  intro a0 k
  obtain ⟨ih0, ih1⟩ := rhizomeref01_Encode.mono_l k
  unfold rhizomeref01_Encode.f
  repeat' first
      | (with_reducible exact ih0 _ _ _ _)
      | (with_reducible exact ih1 _ _ _ _ _ _)
      | (with_reducible exact rhizomeref01_Bytes.mono _ _ _ _)
      | (with_reducible exact LeO.refl _)
      | (with_reducible exact LeO.none _)
      | (with_reducible refine LeO.ite ?_ ?_)
      | (with_reducible refine LeO.bind ?_ (fun _ => ?_))
      | exact ih0 _ _ _ _
      | exact ih1 _ _ _ _ _ _
      | exact rhizomeref01_Bytes.mono _ _ _ _
      | exact LeO.none _
      | refine LeO.ite ?_ ?_
      | refine LeO.bind ?_ (fun _ => ?_)
set_option maxHeartbeats 8000000 in
set_option maxRecDepth 100000 in
theorem rhizomeref01_Encode.calls (k : Nat) (A0 : Option Addr) (c0 : Nat) (l0 : List (S56)) (r1 : List Int) (r2 : Int) (w : World) (hr0 : Kd.C k56 w A0 l0.length l0) (hc0 : l0.length ≤ c0) (h : rhizomeref01_Encode.f k l0 = some (r1, r2)) :
    Calls Tryd.prog 19 #[.slice A0 l0.length c0] w fun e w' => ∃ v0_ : Value, e = .returned (.tuple #[v0_, .int .i64 r2]) ∧ Kd.R (Kd.int .u8) 5 w' w.heap.size (fun _ => True) v0_ r1 ∧ Below w.heap.size w w' := by
  have hu56 := Tryd.underlying56
  have HR0 := Aside0.mk hr0
  have HC0 := Aside0.mk hc0
  clear hr0 hc0
  have HB := Aside0.mk (Below.refl w.heap.size w)
  have H : (rhizomeref01_Encode.l0 k l0 ([] : List Int) (l0.length : Int) 0) = some (r1, r2) := h
  clear h
  have H' := Aside0.mk H
  clear H
  go_enter Tryd.func19, Tryd.ntmps19
  go_wp2
  go_loopg [4, 8] k (fun kq v4 v8 w' => ∃ (x4_1 : List Int) (x8_1 : Int), v8 = .int .i64 x8_1 ∧ Aside0 (rhizomeref01_Encode.l0 kq l0 x4_1 (l0.length : Int) x8_1 = some (r1, r2)) ∧ Aside0 (kq ≤ k) ∧ Aside0 (Kd.R (Kd.int .u8) 5 w' w.heap.size (fun _ => True) v4 x4_1) ∧ Aside0 (Below w.heap.size w w'))
  case atStart => exact ⟨(([] : List Int)), (0), (by first | rfl | (simp; done) | (simp [*]; done)), H', ⟨Nat.le_refl _⟩, ⟨by first | exact Kd.R_nil _ _ _ _ _ | exact Kd.N_nil _ _ _ _ _ | exact Kd.V_nil _ _ _ _ _ | exact Kd.Q_nil _ _ _ _ _ | exact Kd.S_nil _ _ _ _ _⟩, ⟨by repeat (first | (with_reducible first | exact HB.out | apply below_alloc | apply pw_below_drewN | apply below_drew1) | exact HB.out)⟩⟩
  case round =>
    clear H'
    try clear c1
    obtain ⟨x4_1, x8_1, rfl, HA, HK1, HO_4, HB⟩ := hrel
    cases gk with
    | zero => exact absurd HA.out (by simp [rhizomeref01_Encode.l0])
    | succ k1 =>
      have H := HA.out
      clear HA
      simp only [rhizomeref01_Encode.l0] at H
      by_cases c2 : x8_1 < (l0.length : Int)
      · rw [if_pos c2] at H
        have c2b0 : decide (x8_1 < (l0.length : Int)) = true := decide_eq_true c2
        clear c2
        have HC3 := Aside0.mk H
        clear H
        go_upto_region 5 with (fail)
        go_cut [24] (fun v24 wc => ∃ (kq : Nat) (x24_2 : Bool), v24 = .bool x24_2 ∧ Aside0 (rhizomeref01_Encode.j1 kq l0 x4_1 x8_1 (l0.length : Int) x8_1 x24_2 = some (r1, r2)) ∧ Aside0 (kq ≤ k1) ∧ Aside0 (Kd.R (Kd.int .u8) 5 wc w.heap.size (fun _ => True) u4 x4_1) ∧ Aside0 (Below w.heap.size w wc))
        case first =>
          have H := HC3.out
          clear HC3
          by_cases c4 : 0 ≤ x8_1
          · rw [if_pos c4] at H
            have c4b0 : decide (0 ≤ x8_1) = true := decide_eq_true c4
            clear c4
            (first | rw [c4b0] | (simp only [i64_w, i32_w]; rw [c4b0]) | skip)
            by_cases c5 : x8_1 < (l0.length : Int)
            · rw [if_pos c5] at H
              have c5b0 : decide (x8_1 < (l0.length : Int)) = true := decide_eq_true c5
              clear c5
              obtain ⟨bq6, hbq6⟩ : ∃ b_ : Bool, b_ = ((rd_T56 l0 x8_1).f0) := ⟨_, rfl⟩
              replace H : (if bq6 = true then (rhizomeref01_Encode.j1 k1 l0 x4_1 x8_1 (l0.length : Int) x8_1 (decide ((((rd_T56 l0 x8_1).f1).size : Int) > 200))) else (rhizomeref01_Encode.j1 k1 l0 x4_1 x8_1 (l0.length : Int) x8_1 false)) = some (r1, r2) := by rw [← hbq6] at H; exact H
              have Nbq6 := Aside0.mk hbq6
              clear hbq6
              by_cases c7 : bq6 = true
              · subst c7
                have H1 : (rhizomeref01_Encode.j1 k1 l0 x4_1 x8_1 (l0.length : Int) x8_1 (decide ((((rd_T56 l0 x8_1).f1).size : Int) > 200))) = some (r1, r2) := by rw [if_pos rfl] at H; exact H
                clear H
                have H := H1
                clear H1
                have H' := Aside0.mk H
                clear H
                have p202 : 0 ≤ (x8_1 : Int) := of_decide_eq_true (by first | (with_reducible assumption) | assumption)
                have q202 : x8_1 < (l0.length : Int) := of_decide_eq_true (by first | (with_reducible assumption) | assumption)
                obtain ⟨ad202, e202, hx202_0, hx202_1, hx202_2⟩ := at_T56 HR0.out x8_1 p202 q202
                (try rw [← Nbq6.out] at hx202_0)
                cases e202
                replace hx202_0 := (HB.out.cell (World.block_lt_of_cell? w _ hx202_0)).trans hx202_0
                replace hx202_1 := (HB.out.cell (World.block_lt_of_cell? w _ hx202_1)).trans hx202_1
                replace hx202_2 := (HB.out.cell (World.block_lt_of_cell? w _ hx202_2)).trans hx202_2
                replace p202 := eq_true p202
                replace q202 := eq_true q202
                have p203 : 0 ≤ (x8_1 : Int) := of_decide_eq_true (by first | (with_reducible assumption) | assumption)
                have q203 : x8_1 < (l0.length : Int) := of_decide_eq_true (by first | (with_reducible assumption) | assumption)
                obtain ⟨ad203, e203, hx203_0, hx203_1, hx203_2⟩ := at_T56 HR0.out x8_1 p203 q203
                (try rw [← Nbq6.out] at hx203_0)
                obtain rfl : ad202 = ad203 := (by injection e203)
                replace hx203_0 := (HB.out.cell (World.block_lt_of_cell? w _ hx203_0)).trans hx203_0
                replace hx203_1 := (HB.out.cell (World.block_lt_of_cell? w _ hx203_1)).trans hx203_1
                replace hx203_2 := (HB.out.cell (World.block_lt_of_cell? w _ hx203_2)).trans hx203_2
                replace p203 := eq_true p203
                replace q203 := eq_true q203
                go_wp2
                go_meet
                case rel => exact ⟨_, (decide ((((rd_T56 l0 x8_1).f1).size : Int) > 200)), (by first | rfl | (simp; done) | (simp [*]; done)), H', ⟨by have := HK1.out; first | omega | exact Nat.le_refl _⟩, ⟨by (with_reducible repeat (first | apply Kd.R_alloc | apply Kd.R_drewN | apply Kd.R_drew)); exact HO_4.out⟩, ⟨by repeat (first | (with_reducible first | exact HB.out | apply below_alloc | apply pw_below_drewN | apply below_drew1) | exact HB.out)⟩⟩
              · replace c7 := Bool.eq_false_iff.mpr c7
                subst c7
                have H1 : (rhizomeref01_Encode.j1 k1 l0 x4_1 x8_1 (l0.length : Int) x8_1 false) = some (r1, r2) := by rw [if_neg (show ¬ (false = true) by decide)] at H; exact H
                clear H
                have H := H1
                clear H1
                have H' := Aside0.mk H
                clear H
                have p202 : 0 ≤ (x8_1 : Int) := of_decide_eq_true (by first | (with_reducible assumption) | assumption)
                have q202 : x8_1 < (l0.length : Int) := of_decide_eq_true (by first | (with_reducible assumption) | assumption)
                obtain ⟨ad202, e202, hx202_0, hx202_1, hx202_2⟩ := at_T56 HR0.out x8_1 p202 q202
                (try rw [← Nbq6.out] at hx202_0)
                cases e202
                replace hx202_0 := (HB.out.cell (World.block_lt_of_cell? w _ hx202_0)).trans hx202_0
                replace hx202_1 := (HB.out.cell (World.block_lt_of_cell? w _ hx202_1)).trans hx202_1
                replace hx202_2 := (HB.out.cell (World.block_lt_of_cell? w _ hx202_2)).trans hx202_2
                replace p202 := eq_true p202
                replace q202 := eq_true q202
                go_wp2
                go_meet
                case rel => exact ⟨_, (false), (by first | rfl | (simp; done) | (simp [*]; done)), H', ⟨by have := HK1.out; first | omega | exact Nat.le_refl _⟩, ⟨by (with_reducible repeat (first | apply Kd.R_alloc | apply Kd.R_drewN | apply Kd.R_drew)); exact HO_4.out⟩, ⟨by repeat (first | (with_reducible first | exact HB.out | apply below_alloc | apply pw_below_drewN | apply below_drew1) | exact HB.out)⟩⟩
            · rw [if_neg c5] at H
              exact absurd H (by simp)
          · rw [if_neg c4] at H
            exact absurd H (by simp)
        case rest =>
          clear HC3
          try clear c1
          try clear c2
          try clear c2b0
          try clear p2
          try clear q2
          try clear hx2
          try clear c4
          try clear c4b0
          try clear c5
          try clear c5b0
          try clear q6
          try clear c7
          try clear hx202_0
          try clear hx202_1
          try clear hx202_2
          try clear hx203_0
          try clear hx203_1
          try clear hx203_2
          try clear p202
          try clear p203
          try clear q202
          try clear q203
          obtain ⟨kq, x24_2, rfl, HA, HJ2, HO_4, HB⟩ := hcut
          cases kq with
          | zero => exact absurd HA.out (by simp [rhizomeref01_Encode.j1])
          | succ kj2 =>
            have H := HA.out
            clear HA
            simp only [rhizomeref01_Encode.j1] at H
            by_cases c8 : x24_2 = true
            · subst c8
              have H1 : (some (([] : List Int), 3)) = some (r1, r2) := by rw [if_pos rfl] at H; exact H
              clear H
              have H := H1
              clear H1
              simp only [Option.some.injEq, Prod.mk.injEq] at H
              obtain ⟨rfl, rfl⟩ := H
              go_wp2
              go_ret2
              exact ⟨_, by first | rfl | (simp [errW_none, errW_some] <;> rfl) | (simp [*, errW_none, errW_some] <;> rfl), by first | exact Kd.R_nil _ _ _ _ _ | exact Kd.N_nil _ _ _ _ _ | exact Kd.V_nil _ _ _ _ _ | exact Kd.Q_nil _ _ _ _ _ | exact Kd.S_nil _ _ _ _ _, by repeat (first | (with_reducible first | exact HB.out | apply below_alloc | apply pw_below_drewN | apply below_drew1) | exact HB.out)⟩
            · replace c8 := Bool.eq_false_iff.mpr c8
              subst c8
              have H1 : (if 0 ≤ x8_1 then (if x8_1 < (l0.length : Int) then ((rhizomeref01_Bytes.f kj2 ((rd_T56 l0 x8_1).f0) ((rd_T56 l0 x8_1).f1) ((rd_T56 l0 x8_1).f2)).bind fun t205 => (if x4_1.length + t205.length < 140737488355328 then ((some (x4_1 ++ t205 : List Int)).bind fun y208 => (if (y208.length : Int) > 200 then (some (([] : List Int), 3)) else (rhizomeref01_Encode.l0 kj2 l0 y208 (l0.length : Int) (wrap64 (x8_1 + 1))))) else (none))) else (none)) else (none)) = some (r1, r2) := by rw [if_neg (show ¬ (false = true) by decide)] at H; exact H
              clear H
              have H := H1
              clear H1
              by_cases c9 : 0 ≤ x8_1
              · rw [if_pos c9] at H
                have c9b0 : decide (0 ≤ x8_1) = true := decide_eq_true c9
                clear c9
                by_cases c10 : x8_1 < (l0.length : Int)
                · rw [if_pos c10] at H
                  have c10b0 : decide (x8_1 < (l0.length : Int)) = true := decide_eq_true c10
                  clear c10
                  replace H := Option.bind_eq_some_iff.mp H
                  obtain ⟨t205, A110, H⟩ := H
                  replace H : (if x4_1.length + t205.length < 140737488355328 then ((some (x4_1 ++ t205 : List Int)).bind fun y208 => (if (y208.length : Int) > 200 then (some (([] : List Int), 3)) else (rhizomeref01_Encode.l0 kj2 l0 y208 (l0.length : Int) (wrap64 (x8_1 + 1))))) else (none)) = some (r1, r2) := H
                  have A11 := Aside0.mk A110
                  clear A110
                  by_cases c12 : x4_1.length + t205.length < 140737488355328
                  · rw [if_pos c12] at H
                    have LMc12 := Aside0.mk c12
                    clear c12
                    obtain ⟨y208, hy208⟩ : ∃ y_ : List Int, y_ = (x4_1 ++ t205) := ⟨_, rfl⟩
                    replace H : (if (y208.length : Int) > 200 then (some (([] : List Int), 3)) else (rhizomeref01_Encode.l0 kj2 l0 y208 (l0.length : Int) (wrap64 (x8_1 + 1)))) = some (r1, r2) := by first | (rw [hy208]; with_reducible exact H) | (have H2_ := (Option.bind_some _ _).symm.trans H; rw [hy208]; with_reducible exact H2_) | (have H2_ := (Option.bind_some _ _).symm.trans H; with_reducible exact H2_) | with_reducible exact H | (rw [hy208]; exact H) | exact H
                    have Ny208 := Aside0.mk hy208
                    clear hy208
                    by_cases c13 : (y208.length : Int) > 200
                    · rw [if_pos c13] at H
                      have c13b0 : decide (200 < (y208.length : Int)) = true := decide_eq_true c13
                      have c13b1 : decide (200 < y208.length) = true := decide_eq_true (by omega)
                      clear c13
                      simp only [Option.some.injEq, Prod.mk.injEq] at H
                      obtain ⟨rfl, rfl⟩ := H
                      have p204 : 0 ≤ (x8_1 : Int) := of_decide_eq_true (by first | (with_reducible assumption) | assumption)
                      have q204 : x8_1 < (l0.length : Int) := of_decide_eq_true (by first | (with_reducible assumption) | assumption)
                      obtain ⟨ad204, e204, hx204_0, hx204_1, hx204_2⟩ := at_T56 HR0.out x8_1 p204 q204
                      cases e204
                      replace hx204_0 := (HB.out.cell (World.block_lt_of_cell? w _ hx204_0)).trans hx204_0
                      replace hx204_1 := (HB.out.cell (World.block_lt_of_cell? w _ hx204_1)).trans hx204_1
                      replace hx204_2 := (HB.out.cell (World.block_lt_of_cell? w _ hx204_2)).trans hx204_2
                      replace p204 := eq_true p204
                      replace q204 := eq_true q204
                      go_wp2_with (first | ((with_reducible refine gate_callee (f := 30) rfl ?_); refine goesL_ (some 30) rfl rfl Tryd.func30 (by kernel_rfl) rfl #[.agg #[.bool ((rd_T56 l0 x8_1).f0), .string ((rd_T56 l0 x8_1).f1), .int .i64 ((rd_T56 l0 x8_1).f2)]] rfl (by (try simp only [List.map_toArray, List.map_cons, List.map_nil]); first | done | rfl | (simp only [List.length_drop, List.length_take]; rfl)) ?_; (with_reducible refine (rhizomeref01_Bytes.calls kj2 ((rd_T56 l0 x8_1).f0) ((rd_T56 l0 x8_1).f1) ((rd_T56 l0 x8_1).f2) t205 _ A11.out).mono ?_); rintro e w14 ⟨v206, rfl, ho0, hb⟩; refine ⟨_, rfl, ?_⟩; have n0_ := Aside0.mk (Kd.R_elder' (by (with_reducible repeat (first | apply Kd.R_alloc | apply Kd.R_drewN | apply Kd.R_drew)); exact HO_4.out) (Kd.R_base ho0) hb); have n1_ := Aside0.mk (Kd.R_lower (Kd.R_new' ho0 (Kd.R_lt (by (with_reducible repeat (first | apply Kd.R_alloc | apply Kd.R_drewN | apply Kd.R_drew)); exact HO_4.out))) (below_size (by repeat (first | (with_reducible first | exact HB.out | apply below_alloc | apply pw_below_drewN | apply below_drew1) | exact HB.out)))); have n2_ := Aside0.mk (below_step (by repeat (first | (with_reducible first | exact HB.out | apply below_alloc | apply pw_below_drewN | apply below_drew1) | exact HB.out)) hb); clear HO_4; clear HB; have HO_4 := n0_; have HO207 := n1_; have HB := n2_; clear n0_ n1_ n2_; (try clear hb); (try clear hb2); (try clear hk); (try clear hi); (try clear ho0); obtain ⟨Ao16, co16, eo16⟩ := Kd.R_slice HO207.out; subst eo16) | ((with_reducible refine gate_builtin (b := .append) (xs := #[.tmp 25, .tmp 30]) rfl ?_); (try (refine gate_guard (by rfl) ?_; dsimp only)); at_builtin; refine Kd.R_append_rows (Kd.int .u8) (w0 := w) w.heap.size rfl (.tmp 25) (.tmp 30) 22 5 (.int .u8 0) 1 rfl Tryd.underlying22 info5 rfl (by decide) (by omega) u4 x4_1 t205 _ _ _ (fun k_ => some k_ ≠ (.slice Ao16 t205.length co16 : Value).ownBlock) (fun _ => False) rfl rfl ?aO ?aR (fun _ _ h => h) (fun _ h => h.elim) ?aF ?aB ?aS ?aL ?_; (case aR => repeat (first | exact (Kd.R_reads' HO207.out).2.2 | (with_reducible refine Kd.C_alloc ?_ _) | (with_reducible refine Kd.C_drewN ?_ _) | (with_reducible refine Kd.C_drew ?_))); (case aB => exact (by repeat (first | (with_reducible first | exact HB.out | apply below_alloc | apply pw_below_drewN | apply below_drew1) | exact HB.out))); (case aF => exact (fun k_ hk => Kd.fresh' (Kd.R_lt (by (with_reducible repeat (first | apply Kd.R_alloc | apply Kd.R_drewN | apply Kd.R_drew)); exact HO207.out)) k_ hk)); (case aO => exact (by (with_reducible repeat (first | apply Kd.R_alloc | apply Kd.R_drewN | apply Kd.R_drew)); exact Kd.R_mono HO_4.out (fun _ hk => hk.2))); (case aS => exact (below_size (by repeat (first | (with_reducible first | exact HB.out | apply below_alloc | apply pw_below_drewN | apply below_drew1) | exact HB.out)))); (case aL => have := LMc12.out; omega); intro v209 w15 ho hb hg hat; rw [← Ny208.out] at ho; have n0_ := Aside0.mk (Kd.R_after (ok := (fun _ => True)) (by (with_reducible repeat (first | apply Kd.R_alloc | apply Kd.R_drewN | apply Kd.R_drew)); exact HO207.out) hg hat); have n1_ := Aside0.mk (hb); have n2_ := Aside0.mk (ho); clear HO207; clear HB; clear HO_4; have HO207 := n0_; have HB := n1_; have HO210 := n2_; clear n0_ n1_ n2_; clear ho hb hg hat; obtain ⟨Ao17, co17, eo17⟩ := Kd.R_slice HO210.out; subst eo17))
                      go_ret2
                      exact ⟨_, by first | rfl | (simp [errW_none, errW_some] <;> rfl) | (simp [*, errW_none, errW_some] <;> rfl), by first | exact Kd.R_nil _ _ _ _ _ | exact Kd.N_nil _ _ _ _ _ | exact Kd.V_nil _ _ _ _ _ | exact Kd.Q_nil _ _ _ _ _ | exact Kd.S_nil _ _ _ _ _, by repeat (first | (with_reducible first | exact HB.out | apply below_alloc | apply pw_below_drewN | apply below_drew1) | exact HB.out)⟩
                    · rw [if_neg c13] at H
                      have c13b0 : decide (200 < (y208.length : Int)) = false := decide_eq_false c13
                      have c13b1 : decide (200 < y208.length) = false := decide_eq_false (by omega)
                      clear c13
                      have H' := Aside0.mk H
                      clear H
                      have p204 : 0 ≤ (x8_1 : Int) := of_decide_eq_true (by first | (with_reducible assumption) | assumption)
                      have q204 : x8_1 < (l0.length : Int) := of_decide_eq_true (by first | (with_reducible assumption) | assumption)
                      obtain ⟨ad204, e204, hx204_0, hx204_1, hx204_2⟩ := at_T56 HR0.out x8_1 p204 q204
                      cases e204
                      replace hx204_0 := (HB.out.cell (World.block_lt_of_cell? w _ hx204_0)).trans hx204_0
                      replace hx204_1 := (HB.out.cell (World.block_lt_of_cell? w _ hx204_1)).trans hx204_1
                      replace hx204_2 := (HB.out.cell (World.block_lt_of_cell? w _ hx204_2)).trans hx204_2
                      replace p204 := eq_true p204
                      replace q204 := eq_true q204
                      go_wp2_with (first | ((with_reducible refine gate_callee (f := 30) rfl ?_); refine goesL_ (some 30) rfl rfl Tryd.func30 (by kernel_rfl) rfl #[.agg #[.bool ((rd_T56 l0 x8_1).f0), .string ((rd_T56 l0 x8_1).f1), .int .i64 ((rd_T56 l0 x8_1).f2)]] rfl (by (try simp only [List.map_toArray, List.map_cons, List.map_nil]); first | done | rfl | (simp only [List.length_drop, List.length_take]; rfl)) ?_; (with_reducible refine (rhizomeref01_Bytes.calls kj2 ((rd_T56 l0 x8_1).f0) ((rd_T56 l0 x8_1).f1) ((rd_T56 l0 x8_1).f2) t205 _ A11.out).mono ?_); rintro e w18 ⟨v206, rfl, ho0, hb⟩; refine ⟨_, rfl, ?_⟩; have n0_ := Aside0.mk (Kd.R_elder' (by (with_reducible repeat (first | apply Kd.R_alloc | apply Kd.R_drewN | apply Kd.R_drew)); exact HO_4.out) (Kd.R_base ho0) hb); have n1_ := Aside0.mk (Kd.R_lower (Kd.R_new' ho0 (Kd.R_lt (by (with_reducible repeat (first | apply Kd.R_alloc | apply Kd.R_drewN | apply Kd.R_drew)); exact HO_4.out))) (below_size (by repeat (first | (with_reducible first | exact HB.out | apply below_alloc | apply pw_below_drewN | apply below_drew1) | exact HB.out)))); have n2_ := Aside0.mk (below_step (by repeat (first | (with_reducible first | exact HB.out | apply below_alloc | apply pw_below_drewN | apply below_drew1) | exact HB.out)) hb); clear HO_4; clear HB; have HO_4 := n0_; have HO207 := n1_; have HB := n2_; clear n0_ n1_ n2_; (try clear hb); (try clear hb2); (try clear hk); (try clear hi); (try clear ho0); obtain ⟨Ao20, co20, eo20⟩ := Kd.R_slice HO207.out; subst eo20) | ((with_reducible refine gate_builtin (b := .append) (xs := #[.tmp 25, .tmp 30]) rfl ?_); (try (refine gate_guard (by rfl) ?_; dsimp only)); at_builtin; refine Kd.R_append_rows (Kd.int .u8) (w0 := w) w.heap.size rfl (.tmp 25) (.tmp 30) 22 5 (.int .u8 0) 1 rfl Tryd.underlying22 info5 rfl (by decide) (by omega) u4 x4_1 t205 _ _ _ (fun k_ => some k_ ≠ (.slice Ao20 t205.length co20 : Value).ownBlock) (fun _ => False) rfl rfl ?aO ?aR (fun _ _ h => h) (fun _ h => h.elim) ?aF ?aB ?aS ?aL ?_; (case aR => repeat (first | exact (Kd.R_reads' HO207.out).2.2 | (with_reducible refine Kd.C_alloc ?_ _) | (with_reducible refine Kd.C_drewN ?_ _) | (with_reducible refine Kd.C_drew ?_))); (case aB => exact (by repeat (first | (with_reducible first | exact HB.out | apply below_alloc | apply pw_below_drewN | apply below_drew1) | exact HB.out))); (case aF => exact (fun k_ hk => Kd.fresh' (Kd.R_lt (by (with_reducible repeat (first | apply Kd.R_alloc | apply Kd.R_drewN | apply Kd.R_drew)); exact HO207.out)) k_ hk)); (case aO => exact (by (with_reducible repeat (first | apply Kd.R_alloc | apply Kd.R_drewN | apply Kd.R_drew)); exact Kd.R_mono HO_4.out (fun _ hk => hk.2))); (case aS => exact (below_size (by repeat (first | (with_reducible first | exact HB.out | apply below_alloc | apply pw_below_drewN | apply below_drew1) | exact HB.out)))); (case aL => have := LMc12.out; omega); intro v209 w19 ho hb hg hat; rw [← Ny208.out] at ho; have n0_ := Aside0.mk (Kd.R_after (ok := (fun _ => True)) (by (with_reducible repeat (first | apply Kd.R_alloc | apply Kd.R_drewN | apply Kd.R_drew)); exact HO207.out) hg hat); have n1_ := Aside0.mk (hb); have n2_ := Aside0.mk (ho); clear HO207; clear HB; clear HO_4; have HO207 := n0_; have HB := n1_; have HO210 := n2_; clear n0_ n1_ n2_; clear ho hb hg hat; obtain ⟨Ao21, co21, eo21⟩ := Kd.R_slice HO210.out; subst eo21))
                      go_roundg kj2
                      case measure => have := HK1.out; have := HJ2.out; omega
                      case rel => exact ⟨(y208), (wrap64 (x8_1 + 1)), (by first | rfl | (simp; done) | (simp [*]; done)), H', ⟨by have := HK1.out; have := HJ2.out; omega⟩, ⟨by (with_reducible repeat (first | apply Kd.R_alloc | apply Kd.R_drewN | apply Kd.R_drew)); exact Kd.R_mono HO210.out (fun _ hk => trivial)⟩, ⟨by repeat (first | (with_reducible first | exact HB.out | apply below_alloc | apply pw_below_drewN | apply below_drew1) | exact HB.out)⟩⟩
                  · rw [if_neg c12] at H
                    exact absurd H (by simp)
                · rw [if_neg c10] at H
                  exact absurd H (by simp)
              · rw [if_neg c9] at H
                exact absurd H (by simp)
      · rw [if_neg c2] at H
        have c2b0 : decide (x8_1 < (l0.length : Int)) = false := decide_eq_false c2
        clear c2
        simp only [Option.some.injEq, Prod.mk.injEq] at H
        obtain ⟨rfl, rfl⟩ := H
        go_wp2
        go_ret2
        exact ⟨_, by first | rfl | (simp [errW_none, errW_some] <;> rfl) | (simp [*, errW_none, errW_some] <;> rfl), by (with_reducible repeat (first | apply Kd.R_alloc | apply Kd.R_drewN | apply Kd.R_drew)); exact HO_4.out, by repeat (first | (with_reducible first | exact HB.out | apply below_alloc | apply pw_below_drewN | apply below_drew1) | exact HB.out)⟩

/-! ### rhizomelaw01_Ref: function 20 (by hand) -/
/-- A part as the document has it: nothing but what it uses. -/
def toRef (p : S31) : S56 := if p.f0 = true then ⟨true, p.f1, 0⟩ else ⟨false, ⟨#[]⟩, p.f2⟩
def rhizomelaw01_Ref.f (l0 : List S31) : Option (List S56) := if l0.length ≤ 1000000 then some (l0.map toRef) else none
theorem take_map_snoc (l0 : List S31) (j : Nat) (h : j < l0.length) : (l0.take (j + 1)).map toRef = (l0.take j).map toRef ++ [toRef (rd_T31 l0 (j : Int))] := by
  rw [List.take_succ_eq_append_getElem h, List.map_append]
  simp [rd_T31, h]
set_option maxHeartbeats 4000000 in
set_option maxRecDepth 100000 in
theorem rhizomelaw01_Ref.calls (A0 : Option Addr) (c0 : Nat) (l0 : List (S31)) (r : List (S56)) (w : World) (hr0 : Kd.C k31 w A0 l0.length l0) (hc0 : l0.length ≤ c0) (h : rhizomelaw01_Ref.f l0 = some r) :
    Calls Tryd.prog 20 #[.slice A0 l0.length c0] w fun e w' => ∃ v0_ : Value, e = .returned (v0_) ∧ Kd.R k56 56 w' w.heap.size (fun _ => True) v0_ r ∧ Below w.heap.size w w' := by
  have HL := Aside0.mk (show l0.length ≤ 1000000 by by_cases c : l0.length ≤ 1000000 <;> simp_all [rhizomelaw01_Ref.f])
  obtain rfl : l0.map toRef = r := by by_cases c : l0.length ≤ 1000000 <;> simp_all [rhizomelaw01_Ref.f]
  clear h
  have HR0 := Aside0.mk hr0
  have HC0 := Aside0.mk hc0
  clear hr0 hc0
  have hl := HL.out
  go_enter Tryd.func20, Tryd.ntmps20
  go_wp2
  go_loopw [3, 8] (fun v3 v8 wr => ∃ j : Nat, v8 = .int .i64 j ∧ j ≤ l0.length ∧ Aside0 (Kd.R k56 56 wr w.heap.size (fun _ => True) v3 ((l0.take j).map toRef)) ∧ Aside0 (Below w.heap.size w wr)) (fun _ v8 _ => l0.length - (intOf v8).toNat)
  case atStart => exact ⟨0, rfl, by omega, ⟨Kd.R_nil _ _ _ _ _⟩, ⟨Below.refl _ _⟩⟩
  case round =>
    obtain ⟨j, rfl, hj, HO, HB⟩ := hrel
    by_cases c : j < l0.length
    · have cb : decide ((j : Int) < (l0.length : Int)) = true := decide_eq_true (by omega)
      obtain ⟨ad, e, hx0, hx1, hx2⟩ := at_T31 HR0.out (j : Int) (by omega) (by omega)
      subst e
      replace hx0 := (HB.out.cell (World.block_lt_of_cell? w _ hx0)).trans hx0
      replace hx1 := (HB.out.cell (World.block_lt_of_cell? w _ hx1)).trans hx1
      replace hx2 := (HB.out.cell (World.block_lt_of_cell? w _ hx2)).trans hx2
      have HS := Aside0.mk (take_map_snoc l0 j c)
      obtain ⟨p, hp⟩ : ∃ p, rd_T31 l0 (j : Int) = p := ⟨_, rfl⟩
      rw [hp] at hx0 hx1 hx2 HS
      clear hp
      obtain ⟨t, s, n⟩ := p
      simp only [Int.toNat_natCast] at hx0 hx1 hx2
      have hlt := World.block_lt_of_cell? _ _ hx0
      have hne : (ad.add (j * 3)).block ≠ wr.heap.size := by omega
      cases t with
      | true =>
        go_wp2_with ((with_reducible refine gate_builtin (b := .append) (xs := #[.tmp 31, .tmp 33]) rfl ?_); at_builtin; (refine Kd.R_append k56 (w0 := w) w.heap.size rfl (.tmp 31) (.tmp 33) 42 56 (.agg #[(.bool false), (.string ⟨#[]⟩), (.int .i64 0)]) 32 rfl Tryd.underlying42 info56 rfl (by decide) (by omega) u3 ((l0.take j).map toRef) (⟨true, s, 0⟩ : S56) [.bool true, .string s, .int .i64 0] (fun _ => True) (fun _ => False) rfl ?aX (k56_mkM _ _ _ _) (fun _ h => h.elim) (fun _ _ => trivial) (Kd.R_alloc HO.out _) (HB.out.alloc HB.out.size _) ?aS ?aL ?_); (case aX => first | (go_simp; done) | (go_simp; rfl)); (case aS => have := HB.out.size; simp; omega); (case aL => rw [List.length_map, List.length_take]; omega); intro v1 w1 ho1 hb1 hg1 hat1; have HO1 := Aside0.mk ho1; have HB1 := Aside0.mk hb1; clear ho1 hb1 hg1 hat1)
        go_roundw
        case rel => exact ⟨j + 1, by go_num, by omega, ⟨by rw [HS.out]; exact HO1.out⟩, HB1⟩
        case measure => simp [intOf]; omega
      | false =>
        go_wp2_with ((with_reducible refine gate_builtin (b := .append) (xs := #[.tmp 31, .tmp 33]) rfl ?_); at_builtin; (refine Kd.R_append k56 (w0 := w) w.heap.size rfl (.tmp 31) (.tmp 33) 42 56 (.agg #[(.bool false), (.string ⟨#[]⟩), (.int .i64 0)]) 32 rfl Tryd.underlying42 info56 rfl (by decide) (by omega) u3 ((l0.take j).map toRef) (⟨false, ⟨#[]⟩, n⟩ : S56) [.bool false, .string ⟨#[]⟩, .int .i64 n] (fun _ => True) (fun _ => False) rfl ?aX (k56_mkM _ _ _ _) (fun _ h => h.elim) (fun _ _ => trivial) (Kd.R_alloc HO.out _) (HB.out.alloc HB.out.size _) ?aS ?aL ?_); (case aX => first | (go_simp; done) | (go_simp; rfl)); (case aS => have := HB.out.size; simp; omega); (case aL => rw [List.length_map, List.length_take]; omega); intro v1 w1 ho1 hb1 hg1 hat1; have HO1 := Aside0.mk ho1; have HB1 := Aside0.mk hb1; clear ho1 hb1 hg1 hat1)
        go_roundw
        case rel => exact ⟨j + 1, by go_num, by omega, ⟨by rw [HS.out]; exact HO1.out⟩, HB1⟩
        case measure => simp [intOf]; omega
    · have cb : decide ((j : Int) < (l0.length : Int)) = false := decide_eq_false (by omega)
      obtain rfl : j = l0.length := by omega
      go_wp2
      go_ret
      exact ⟨_, rfl, by have := HO.out; rwa [List.take_length] at this, HB.out⟩

end Go.Proofs.YtamaoileeipgeaaDoor.XKey
