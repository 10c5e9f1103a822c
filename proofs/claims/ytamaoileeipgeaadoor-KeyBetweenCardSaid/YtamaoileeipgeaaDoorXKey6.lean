-- Written by xprint.py (a program of this session's repo) over the kit's print; Lean checks it.
import Derived.Test.YtamaoileeipgeaaDoorXKey0
import Derived.Test.YtamaoileeipgeaaDoorXKey1
namespace Go.Proofs.YtamaoileeipgeaaDoor.XKey
open Go.RowKit Go.Proofs.YtamaoileeipgeaaDoorW.PrintWords Go.Proofs.YtamaoileeipgeaaDoorW.PrintLast Go.Proofs.YtamaoileeipgeaaDoorW.PrintMore
attribute [local go_sem] max2_int min2_int max_two min_two max_three min_three max_four min_four   -- for this text's walks alone
set_option linter.unusedVariables false
set_option linter.unusedSimpArgs false

attribute [local go_sem high] eqA31
/-! ### rhizomelaw01_same: function 21 -/
def rhizomelaw01_same.l0 : Nat → List (S31) → List (S31) → Int → Int → Option (Bool)
  | 0, _, _, _, _ => none
  | k + 1, x0, x1, x7, x8 => if x8 < x7 then (if 0 ≤ x8 then (if x8 < (x0.length : Int) then (if x8 < (x1.length : Int) then (if (!(((rd_T31 x0 x8).f0) == ((rd_T31 x1 x8).f0)) || (!((((rd_T31 x0 x8).f1).toList) == (((rd_T31 x1 x8).f1).toList)) || (!(((rd_T31 x0 x8).f2) == ((rd_T31 x1 x8).f2))))) = true then (some false) else (rhizomelaw01_same.l0 k x0 x1 x7 (wrap64 (x8 + 1)))) else (none)) else (none)) else (none)) else (some ((x0.length : Int) == (x1.length : Int)))
def rhizomelaw01_same.f (k : Nat) (l0 : List (S31)) (l1 : List (S31)) : Option (Bool) := rhizomelaw01_same.l0 k l0 l1 (l0.length : Int) 0
theorem rhizomelaw01_same.mono_l : ∀ k, (∀ y0 y1 y2 y3, LeO (rhizomelaw01_same.l0 k y0 y1 y2 y3) (rhizomelaw01_same.l0 (k + 1) y0 y1 y2 y3))
  | 0 => fun _ _ _ _ r h => by simp [rhizomelaw01_same.l0] at h
  | k + 1 => by
    have ih0 := rhizomelaw01_same.mono_l k
    · intro y0 y1 y2 y3
      unfold rhizomelaw01_same.l0
      repeat' first
      | (with_reducible exact ih0 _ _ _ _)
      | (with_reducible exact LeO.refl _)
      | (with_reducible exact LeO.none _)
      | (with_reducible refine LeO.ite ?_ ?_)
      | (with_reducible refine LeO.bind ?_ (fun _ => ?_))
      | exact ih0 _ _ _ _
      | exact LeO.none _
      | refine LeO.ite ?_ ?_
      | refine LeO.bind ?_ (fun _ => ?_)
theorem rhizomelaw01_same.mono : ∀ a0 a1 k, LeO (rhizomelaw01_same.f k a0 a1) (rhizomelaw01_same.f (k + 1) a0 a1) := by
  intro a0 a1 k
  have ih0 := rhizomelaw01_same.mono_l k
  unfold rhizomelaw01_same.f
  repeat' first
      | (with_reducible exact ih0 _ _ _ _)
      | (with_reducible exact LeO.refl _)
      | (with_reducible exact LeO.none _)
      | (with_reducible refine LeO.ite ?_ ?_)
      | (with_reducible refine LeO.bind ?_ (fun _ => ?_))
      | exact ih0 _ _ _ _
      | exact LeO.none _
      | refine LeO.ite ?_ ?_
      | refine LeO.bind ?_ (fun _ => ?_)
set_option maxHeartbeats 8000000 in
set_option maxRecDepth 100000 in
theorem rhizomelaw01_same.calls (k : Nat) (A0 : Option Addr) (c0 : Nat) (l0 : List (S31)) (A1 : Option Addr) (c1 : Nat) (l1 : List (S31)) (r : Bool) (w : World) (hr0 : Kd.C k31 w A0 l0.length l0) (hc0 : l0.length ≤ c0) (hr1 : Kd.C k31 w A1 l1.length l1) (hc1 : l1.length ≤ c1) (h : rhizomelaw01_same.f k l0 l1 = some r) :
    Calls Tryd.prog 21 #[.slice A0 l0.length c0, .slice A1 l1.length c1] w fun e w' => e = .returned (.bool r) ∧ Drawn0 w w' := by
  have hu31 := Tryd.underlying31
  have HR0 := Aside0.mk hr0
  have HC0 := Aside0.mk hc0
  clear hr0 hc0
  have HR1 := Aside0.mk hr1
  have HC1 := Aside0.mk hc1
  clear hr1 hc1
  have H : (rhizomelaw01_same.l0 k l0 l1 (l0.length : Int) 0) = some r := h
  clear h
  have H' := Aside0.mk H
  clear H
  go_enter Tryd.func21, Tryd.ntmps21
  go_wp2
  repeat (go_quiet (fail); try go_wp2)
  go_loopg [8] k (fun kq v8 w' => ∃ (x8_1 : Int), v8 = .int .i64 x8_1 ∧ Aside0 (rhizomelaw01_same.l0 kq l0 l1 (l0.length : Int) x8_1 = some r) ∧ Aside0 (kq ≤ k) ∧ Drawn0 w w')
  case atStart => exact ⟨(0), (by first | rfl | (simp; done) | (simp [*]; done)), H', ⟨Nat.le_refl _⟩, by repeat (first | exact Drawn0.refl _ | apply Drawn0.step)⟩
  case round =>
    clear H'
    try clear c1
    try clear c2
    try clear p2
    obtain ⟨x8_1, rfl, HA, HK1, ⟨m1, rfl⟩⟩ := hrel
    cases gk with
    | zero => exact absurd HA.out (by simp [rhizomelaw01_same.l0])
    | succ k1 =>
      have H := HA.out
      clear HA
      simp only [rhizomelaw01_same.l0] at H
      by_cases c3 : x8_1 < (l0.length : Int)
      · rw [if_pos c3] at H
        have c3b0 : decide (x8_1 < (l0.length : Int)) = true := decide_eq_true c3
        clear c3
        by_cases c4 : 0 ≤ x8_1
        · rw [if_pos c4] at H
          have c4b0 : decide (0 ≤ x8_1) = true := decide_eq_true c4
          clear c4
          by_cases c5 : x8_1 < (l0.length : Int)
          · rw [if_pos c5] at H
            have c5b0 : decide (x8_1 < (l0.length : Int)) = true := decide_eq_true c5
            clear c5
            by_cases c6 : x8_1 < (l1.length : Int)
            · rw [if_pos c6] at H
              have c6b0 : decide (x8_1 < (l1.length : Int)) = true := decide_eq_true c6
              clear c6
              by_cases c7 : (!(((rd_T31 l0 x8_1).f0) == ((rd_T31 l1 x8_1).f0)) || (!((((rd_T31 l0 x8_1).f1).toList) == (((rd_T31 l1 x8_1).f1).toList)) || (!(((rd_T31 l0 x8_1).f2) == ((rd_T31 l1 x8_1).f2))))) = true
              · rw [if_pos c7] at H
                have c7b0 : (!(((rd_T31 l0 x8_1).f0) == ((rd_T31 l1 x8_1).f0)) || (!((((rd_T31 l0 x8_1).f1).toList) == (((rd_T31 l1 x8_1).f1).toList)) || (!(((rd_T31 l0 x8_1).f2) == ((rd_T31 l1 x8_1).f2))))) = true := c7
                clear c7
                obtain rfl := Option.some.inj H
                have p211 : 0 ≤ (x8_1 : Int) := of_decide_eq_true (by first | (with_reducible assumption) | assumption)
                have q211 : x8_1 < (l0.length : Int) := of_decide_eq_true (by first | (with_reducible assumption) | assumption)
                obtain ⟨ad211, e211, hx211_0, hx211_1, hx211_2⟩ := at_T31 HR0.out x8_1 p211 q211
                cases e211
                replace p211 := eq_true p211
                replace q211 := eq_true q211
                have p212 : 0 ≤ (x8_1 : Int) := of_decide_eq_true (by first | (with_reducible assumption) | assumption)
                have q212 : x8_1 < (l1.length : Int) := of_decide_eq_true (by first | (with_reducible assumption) | assumption)
                obtain ⟨ad212, e212, hx212_0, hx212_1, hx212_2⟩ := at_T31 HR1.out x8_1 p212 q212
                cases e212
                replace p212 := eq_true p212
                replace q212 := eq_true q212
                go_wp2
                repeat (go_quiet (fail); try go_wp2)
                go_ret
                exact ⟨by first | rfl | (simp; done) | (simp [*]; done), by repeat (first | exact Drawn0.refl _ | apply Drawn0.step)⟩
              · rw [if_neg c7] at H
                have c7b0 : (!(((rd_T31 l0 x8_1).f0) == ((rd_T31 l1 x8_1).f0)) || (!((((rd_T31 l0 x8_1).f1).toList) == (((rd_T31 l1 x8_1).f1).toList)) || (!(((rd_T31 l0 x8_1).f2) == ((rd_T31 l1 x8_1).f2))))) = false := by simpa using c7
                clear c7
                have H' := Aside0.mk H
                clear H
                have p211 : 0 ≤ (x8_1 : Int) := of_decide_eq_true (by first | (with_reducible assumption) | assumption)
                have q211 : x8_1 < (l0.length : Int) := of_decide_eq_true (by first | (with_reducible assumption) | assumption)
                obtain ⟨ad211, e211, hx211_0, hx211_1, hx211_2⟩ := at_T31 HR0.out x8_1 p211 q211
                cases e211
                replace p211 := eq_true p211
                replace q211 := eq_true q211
                have p212 : 0 ≤ (x8_1 : Int) := of_decide_eq_true (by first | (with_reducible assumption) | assumption)
                have q212 : x8_1 < (l1.length : Int) := of_decide_eq_true (by first | (with_reducible assumption) | assumption)
                obtain ⟨ad212, e212, hx212_0, hx212_1, hx212_2⟩ := at_T31 HR1.out x8_1 p212 q212
                cases e212
                replace p212 := eq_true p212
                replace q212 := eq_true q212
                go_wp2
                repeat (go_quiet (fail); try go_wp2)
                go_roundg k1
                case measure => have := HK1.out; omega
                case rel => exact ⟨(wrap64 (x8_1 + 1)), (by first | rfl | (simp; done) | (simp [*]; done)), H', ⟨by have := HK1.out; omega⟩, by repeat (first | exact Drawn0.refl _ | apply Drawn0.step)⟩
            · rw [if_neg c6] at H
              exact absurd H (by simp)
          · rw [if_neg c5] at H
            exact absurd H (by simp)
        · rw [if_neg c4] at H
          exact absurd H (by simp)
      · rw [if_neg c3] at H
        have c3b0 : decide (x8_1 < (l0.length : Int)) = false := decide_eq_false c3
        clear c3
        obtain rfl := Option.some.inj H
        go_wp2
        repeat (go_quiet (fail); try go_wp2)
        go_ret
        exact ⟨by first | rfl | (simp; done) | (simp [*]; done), by repeat (first | exact Drawn0.refl _ | apply Drawn0.step)⟩

/-! ### bytes_IndexByte: function 40 (by hand) -/
def bytes_IndexByte.f (l0 : List Int) (a1 : Int) : Option (Int) := some (Lib.indexByte (Lib.bytesOf l0) a1.toNat.toUInt8)
set_option maxRecDepth 100000 in
theorem bytes_IndexByte.calls (A0 : Option Addr) (c0 : Nat) (l0 : List Int) (a1 : Int) (r : Int) (w : World) (hr0 : Kd.C (Kd.int .u8) w A0 l0.length l0) (hc0 : l0.length ≤ c0) (h : bytes_IndexByte.f l0 a1 = some r) :
    Calls Tryd.prog 40 #[.slice A0 l0.length c0, .int .u8 a1] w fun e w' => e = .returned (.int .i64 r) ∧ Drawn0 w w' := by
  obtain rfl : Lib.indexByte (Lib.bytesOf l0) a1.toNat.toUInt8 = r := by simpa [bytes_IndexByte.f] using h
  cases A0 with
  | some ad =>
    refine (Any.bytes_IndexByte_at Tryd.lays187 ad l0.length c0 l0 a1 w rfl ?_).mono ?_
    · intro i hi
      obtain ⟨ad', e, hx⟩ := Kd.at_int hr0 i (by omega) (by omega)
      injection e with e
      subst e
      simpa [rd] using hx
    · rintro e w' ⟨rfl, rfl⟩
      exact ⟨rfl, ⟨0, rfl⟩⟩
  | none =>
    obtain rfl : l0 = [] := by
      rcases Nat.eq_zero_or_pos l0.length with h0 | h0
      · exact List.eq_nil_of_length_eq_zero h0
      · obtain ⟨ad, e, _⟩ := hr0.2.2 h0
        cases e
    clear hr0 hc0 h
    go_enter Tryd.func40, Tryd.ntmps40
    go_wp2
    rw [run_callFunc_extern Tryd.func44 (by kernel_rfl) (by kernel_rfl) (by kernel_rfl) (e := Extern.BytealgIndexByte.indexByte) (by kernel_rfl), Lib.run_indexByteNil w]
    simp only [Result.andThen]
    rw [Oper.upon_value]
    go_wp2
    go_ret
    exact ⟨rfl, ⟨0, rfl⟩⟩


end Go.Proofs.YtamaoileeipgeaaDoor.XKey
