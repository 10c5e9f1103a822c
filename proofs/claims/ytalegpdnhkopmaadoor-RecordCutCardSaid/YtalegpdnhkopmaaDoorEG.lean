/- Values: Check, Encode. -/
import Derived.Test.YtalegpdnhkopmaaDoorEE
import Derived.Test.YtalegpdnhkopmaaDoorM6
import Derived.Test.YtalegpdnhkopmaaDoorM7
import Derived.Lib.LaidU8T
namespace Go.Proofs.YtalegpdnhkopmaaDoor.Vl
open Go Go.V Go.RowKit
open Go.Proofs.YtalegpdnhkopmaaDoor.VC Go.Proofs.YtalegpdnhkopmaaDoor.By Go.Proofs.YtalegpdnhkopmaaDoor.Tree Go.Proofs.YtalegpdnhkopmaaDoor.Ky
open Go.Proofs.Tryd (prog)
set_option linter.unusedVariables false
set_option linter.unusedSimpArgs false

/-- A value. -/
structure VL where
  k : Int
  n : Int
  s : ByteArray
instance : DecidableEq VL := fun a b => decidable_of_iff (a.k = b.k ∧ a.n = b.n ∧ a.s = b.s) (by cases a; cases b; simp)
abbrev vcell (v : VL) : List Value := [.int .i64 v.k, .int .i64 v.n, .string v.s]
def plainV (v : VL) : VL := if v.k = 2 then ⟨v.k, 0, v.s⟩ else ⟨v.k, v.n, ByteArray.empty⟩
/-- What is wrong with a value. -/
def chk (v : VL) : Int := if v.k = 1 then 0 else if v.k = 3 then (if v.n = 0 ∨ v.n = 1 then 0 else 1) else if v.k = 2 then (if 64 < v.s.size then 3 else if Lib.validD v.s.data.toList = true then 0 else 7) else 1
/-- The two tables of unicode/utf8. -/
def Tabs (w : World) : Prop := Lib.Utf8Tabs (Go.Proofs.Tryd.valid_ren.g 3) (Go.Proofs.Tryd.valid_ren.g 4) w
theorem Tabs.fr {F : List Nat} {v w : World} (h : Tabs v) (f : Fr F v w) (hF : ∀ x ∈ F, x ≠ Go.Proofs.Tryd.valid_ren.g 3 ∧ x ≠ Go.Proofs.Tryd.valid_ren.g 4) : Tabs w :=
  ⟨fun c hc => cell_fr f (h.1 c hc) fun hx => (hF _ hx).1 rfl, fun i hi => ⟨cell_fr f (h.2 i hi).1 fun hx => (hF _ hx).2 rfl, cell_fr f (h.2 i hi).2 fun hx => (hF _ hx).2 rfl⟩⟩
theorem Tabs.old {v w : World} (h : Tabs v) (f : Fr [] v w) : Tabs w := h.fr f fun x hx => by cases hx
theorem Tabs.lt {w : World} (h : Tabs w) : Go.Proofs.Tryd.valid_ren.g 3 < w.heap.size ∧ Go.Proofs.Tryd.valid_ren.g 4 < w.heap.size := ⟨cell_blk_lt (h.1 0 (by decide)), cell_blk_lt (h.2 0 (by decide)).1⟩
theorem valid_c {w : World} (s : ByteArray) (hT : Tabs w) (hs : s.size ≤ 1000000) : Calls prog 141 #[.string s] w fun e w' => e = .returned (.bool (Lib.validD s.data.toList)) ∧ Fr [] w w' := by
  refine (Any.utf8_ValidString Go.Proofs.Tryd.valid s w (by omega) hT).mono ?_
  rintro e w' ⟨rfl, hb⟩
  exact ⟨rfl, Fr.of_below hb⟩
theorem check_c {w : World} (v : VL) (hT : Tabs w) : Calls prog 94 #[.agg #[.int .i64 v.k, .int .i64 v.n, .string v.s]] w fun e w' => e = .returned (.int .i64 (chk v)) ∧ Fr [] w w' := by
  refine val_Check.link fun k1 y2 h2 => ?_
  have ok : ∀ w3, Fr [] w w3 → chk v = 0 → y2 w3 := fun w3 f e => h2 _ ⟨by rw [e], f⟩
  refine bc' (fun h1 w6 s6 => ok _ s6.fr (by unfold chk; rw [if_pos (of_decide_eq_true h1)])) fun h1 => ?_
  have h1 : ¬ v.k = 1 := of_decide_eq_false h1
  refine bc' (fun h3 y8 h8 => ?_) fun h3 => ?_
  · have h3 : v.k = 3 := of_decide_eq_true h3
    have e : chk v = if v.n = 0 ∨ v.n = 1 then 0 else 1 := by unfold chk; rw [if_neg h1, if_pos h3]
    have go : ∀ (b : Bool) w10, Fr [] w w10 → (b = true ↔ ¬ (v.n = 0 ∨ v.n = 1)) → y8 b w10 := fun b w10 f hb => h8 _ _ (bc' (fun h => ⟨by rw [e, if_neg (hb.1 h)], f⟩) fun h => ok _ f (by
      rw [e, if_pos]
      rcases Classical.em (v.n = 0 ∨ v.n = 1) with z | z
      · exact z
      · rw [hb.2 z] at h; cases h))
    refine bc' (fun h0 w13 s13 => go _ _ s13.fr ?_) fun h0 w15 s15 => go _ _ s15.fr ?_
    · have h0 : ¬ v.n = 0 := by simpa using h0
      simp [h0]
    · have h0 : v.n = 0 := by simpa using h0
      simp [h0]
  · have h3 : ¬ v.k = 3 := of_decide_eq_false h3
    refine bc' (fun h4 => ?_) fun h4 w24 s24 => ⟨by unfold chk; rw [if_neg h1, if_neg h3, if_neg (of_decide_eq_false h4)], s24.fr⟩
    have h4 : v.k = 2 := of_decide_eq_true h4
    have e : chk v = if 64 < v.s.size then 3 else if Lib.validD v.s.data.toList = true then 0 else 7 := by unfold chk; rw [if_neg h1, if_neg h3, if_pos h4]
    refine bc' (fun h5 w17 s17 => ⟨by rw [e, if_pos (by have := of_decide_eq_true h5; omega)], s17.fr⟩) fun h5 w19 s19 => ?_
    have h5 : ¬ 64 < v.s.size := by have := of_decide_eq_false h5; omega
    have n19 := g_new1 s19
    refine (valid_c v.s (hT.old s19.fr) (by omega)).mono ?_
    rintro e' w22 ⟨rfl, f22⟩
    have F := s19.fr.trans' f22
    refine ⟨_, rfl, keepF f22 (by simpa using n19.2), bc' (fun hv => ⟨?_, F⟩) fun hv => ok _ F ?_⟩
    · rw [e, if_neg h5, if_neg (by simpa using hv)]
    · rw [e, if_neg h5, if_pos (by simpa using hv)]
theorem plain_c (v : VL) (w : World) : Calls prog 165 #[.agg #[.int .i64 v.k, .int .i64 v.n, .string v.s]] w fun e w' => e = .returned (.agg #[.int .i64 (plainV v).k, .int .i64 (plainV v).n, .string (plainV v).s]) ∧ Fr [] w w' := by
  refine val_plain.link fun k1 k2 y3 h3 => ?_
  have go : ∀ (n4 n5 : Int) (s6 : ByteArray) (w7 : World), Step w w7 [] [k2, k1] → plainV v = ⟨n4, n5, s6⟩ → y3 n4 n5 s6 w7 := fun n4 n5 s6 w7 s7 e => h3 _ _ _ _ fun w8 s8 => by
    have n7 := g_new2 s7
    exact ⟨by rw [e]; rfl, s7.fr.trans s8.fr fun x hx => by rw [List.mem_singleton.1 hx]; exact .inr n7.1⟩
  refine bc' (fun h w12 s12 => go _ _ _ _ s12 ?_) fun h w14 s14 => go _ _ _ _ s14 ?_
  · unfold plainV; rw [if_pos (of_decide_eq_true h)]
  · unfold plainV; rw [if_neg (of_decide_eq_false h)]; rfl
theorem vsame_c (a b : VL) (w : World) : Calls prog 148 #[.agg #[.int .i64 a.k, .int .i64 a.n, .string a.s], .agg #[.int .i64 b.k, .int .i64 b.n, .string b.s]] w fun e w' => e = .returned (.bool (decide (plainV a = plainV b))) ∧ Fr [] w w' := by
  refine val_Same.link fun k1 k2 w3 s3 => ?_
  have n3 := g_new2 s3
  refine (plain_c a w3).mono ?_
  rintro e w6 ⟨rfl, f6⟩
  have z6 := f6.size
  refine ⟨_, _, _, rfl, keepF f6 (by simp; omega), (plain_c b w6).mono ?_⟩
  rintro e w11 ⟨rfl, f11⟩
  have z11 := f11.size
  refine ⟨_, _, _, rfl, keepF f11 (by simp; omega), ?_, (s3.fr.trans' f6).trans' f11⟩
  generalize plainV a = x
  generalize plainV b = y
  congr 2
  obtain ⟨x1, x2, x3⟩ := x
  obtain ⟨y1, y2, y3⟩ := y
  simp [conj]

/-! ### the bytes of a number -/
/-- Zigzag. -/
def zig (n : Int) : Nat := if 0 ≤ n then (2 * n).toNat else (-2 * n - 1).toNat
def vint : Nat → Nat → Bs
  | 0, n => [UInt8.ofNat n]
  | m + 1, n => if 128 ≤ n then UInt8.ofNat (n % 128 + 128) :: vint m (n / 128) else [UInt8.ofNat n]
theorem xor_ones (x : Nat) (h : x < 18446744073709551616) : x ^^^ 18446744073709551615 = 18446744073709551615 - x := by
  have e1 : (18446744073709551615 : Nat) = 2 ^ 64 - 1 := rfl
  have e2 : (18446744073709551616 : Nat) = 2 ^ 64 := rfl
  rw [e2] at h
  rw [e1]
  apply Nat.eq_of_testBit_eq
  intro i
  rw [Nat.testBit_xor, Nat.testBit_two_pow_sub_one]
  have e3 : 2 ^ 64 - 1 - x = 2 ^ 64 - (x + 1) := by omega
  rw [e3, Nat.testBit_two_pow_sub_succ h]
  by_cases c : i < 64
  · simp [c]
  · have : x < 2 ^ i := Nat.lt_of_lt_of_le h (Nat.pow_le_pow_right (by omega) (by omega))
    simp [c, Nat.testBit_lt_two_pow this]
theorem zig_eq {n : Int} (h : IsI n) : Go.bits .xor .u64 (IntKind.u64.wrap (IntKind.u64.wrap n * (2 : Int) ^ 1)) (IntKind.u64.wrap (Int.fdiv n ((2 : Int) ^ 63))) = (zig n : Int) := by
  have e63 : ((2 : Int) ^ 63) = 9223372036854775808 := by decide
  have e1 : ((2 : Int) ^ 1) = 2 := by decide
  unfold IsI at h
  rw [e63, e1]
  by_cases c : 0 ≤ n
  · have hd : Int.fdiv n 9223372036854775808 = 0 := by rw [Int.fdiv_eq_ediv_of_nonneg _ (by decide)]; omega
    have hw : IntKind.u64.wrap (IntKind.u64.wrap n * 2) = (((2 * n).toNat : Nat) : Int) := by rw [IntKind.wrap_u64, IntKind.wrap_u64]; omega
    rw [hd, hw, show IntKind.u64.wrap 0 = ((0 : Nat) : Int) by decide, bits_xor_u64_nat _ _ (by omega) (by decide), Nat.xor_zero]
    unfold zig; rw [if_pos c]
  · have hd : Int.fdiv n 9223372036854775808 = -1 := by rw [Int.fdiv_eq_ediv_of_nonneg _ (by decide)]; omega
    have hw : IntKind.u64.wrap (IntKind.u64.wrap n * 2) = (((18446744073709551616 + 2 * n).toNat : Nat) : Int) := by rw [IntKind.wrap_u64, IntKind.wrap_u64]; omega
    rw [hd, hw, show IntKind.u64.wrap (-1) = ((18446744073709551615 : Nat) : Int) by decide, bits_xor_u64_nat _ _ (by omega) (by decide), xor_ones _ (by omega)]
    unfold zig; rw [if_neg c]; omega
theorem zig_lt {n : Int} (h : IsI n) : zig n < 18446744073709551616 := by
  unfold zig IsI at *; split <;> omega
/-- A good value's bytes. -/
def vbytes (v : VL) : Bs := if v.k = 3 then [3, UInt8.ofNat v.n.toNat] else if v.k = 2 then 2 :: UInt8.ofNat v.s.size :: v.s.data.toList else 1 :: vint 10 (zig v.n)
def vb (v : VL) : Bs := if chk v = 0 then vbytes v else []
theorem vint_step (m n : Nat) (h : 128 ≤ n) : vint (m + 1) n = UInt8.ofNat (n % 128 + 128) :: vint m (n / 128) := by rw [vint, if_pos h]
theorem vint_last (m n : Nat) (h : ¬ 128 ≤ n) : vint m n = [UInt8.ofNat n] := by
  cases m with
  | zero => rfl
  | succ m => rw [vint, if_neg h]
theorem vint_len : ∀ m n : Nat, (vint m n).length ≤ m + 1
  | 0, n => by simp [vint]
  | m + 1, n => by
    rw [vint]
    split
    · have := vint_len m (n / 128); simp; omega
    · simp
end Go.Proofs.YtalegpdnhkopmaaDoor.Vl
