/- Values: Decode. -/
import Derived.Test.YtalegpdnhkopmaaDoorEH
namespace Go.Proofs.YtalegpdnhkopmaaDoor.Vl
open Go Go.V Go.RowKit
open Go.Proofs.YtalegpdnhkopmaaDoor.VC Go.Proofs.YtalegpdnhkopmaaDoor.By Go.Proofs.YtalegpdnhkopmaaDoor.Tree Go.Proofs.YtalegpdnhkopmaaDoor.Ky
open Go.Proofs.Tryd (prog)
set_option linter.unusedVariables false
set_option linter.unusedSimpArgs false
set_option maxRecDepth 20000

/-- A number's bytes read: the number, how many they are. -/
def numR : Nat → Nat → Bs → Option (Nat × Nat)
  | _, _, [] => none
  | i, acc, x :: r => if (i = 9 ∧ 1 < x.toNat) ∨ (0 < i ∧ x.toNat = 0) then none else if x.toNat < 128 then some (acc + x.toNat * 2 ^ (7 * i), i + 1) else numR (i + 1) (acc + x.toNat % 128 * 2 ^ (7 * i)) r
def unzig (N : Nat) : Int := if N % 2 = 0 then ((N / 2 : Nat) : Int) else -((N / 2 : Nat) : Int) - 1
set_option maxRecDepth 100000 in
theorem and127f : ∀ X : Fin 256, Go.bits .and .u8 ((X.val : Nat) : Int) 127 = ((X.val % 128 : Nat) : Int) := by decide
theorem and127 (x : UInt8) : Go.bits .and .u8 (x.toNat : Int) 127 = ((x.toNat % 128 : Nat) : Int) := and127f ⟨x.toNat, x.toNat_lt⟩
theorem or_add {a c i : Nat} (ha : a < 2 ^ i) (hi : i < 64) (hc : c * 2 ^ i < 18446744073709551616) : Go.bits .or .u64 (a : Int) (((c * 2 ^ i : Nat)) : Int) = ((a + c * 2 ^ i : Nat) : Int) := by
  have h1 : 2 ^ i ≤ 2 ^ 63 := Nat.pow_le_pow_right (by decide) (by omega)
  have h2 : (2 ^ 63 : Nat) = 9223372036854775808 := by decide
  rw [bits_or_u64_nat _ _ (by omega) hc, Nat.or_comm, Nat.mul_comm c, ← Nat.two_pow_add_eq_or_of_lt ha, Nat.add_comm]
theorem xor_i64_0 {a : Nat} (h : a < 9223372036854775808) : Go.bits .xor .i64 (a : Int) 0 = (a : Int) := by
  show IntKind.i64.wrap ((BitVec.ofInt 64 (a : Int) ^^^ BitVec.ofInt 64 0).toNat : Int) = _
  have h1 : (BitVec.ofInt 64 (a : Int)).toNat = a := by
    rw [BitVec.ofInt_natCast, BitVec.toNat_ofNat]; exact Nat.mod_eq_of_lt (by omega)
  have h2 : BitVec.ofInt 64 0 = 0#64 := by decide
  rw [h2, BitVec.xor_zero, h1, wrapi (by omega) (by omega)]
theorem xor_i64_1 {a : Nat} (h : a < 9223372036854775808) : Go.bits .xor .i64 (a : Int) (-1) = -(a : Int) - 1 := by
  show IntKind.i64.wrap ((BitVec.ofInt 64 (a : Int) ^^^ BitVec.ofInt 64 (-1)).toNat : Int) = _
  have h1 : (BitVec.ofInt 64 (a : Int)).toNat = a := by
    rw [BitVec.ofInt_natCast, BitVec.toNat_ofNat]; exact Nat.mod_eq_of_lt (by omega)
  have h2 : (BitVec.ofInt 64 (-1)).toNat = 18446744073709551615 := by decide
  rw [BitVec.toNat_xor, h1, h2, xor_ones _ (by omega), IntKind.wrap_i64]
  omega
theorem and1 (N : Nat) (h : N < 18446744073709551616) : Go.bits .and .u64 (N : Int) 1 = ((N % 2 : Nat) : Int) := by
  have := bits_and_u64_nat N 1 h (by decide)
  rw [Nat.and_one_is_mod] at this
  exact this
theorem unzig_eq (N : Nat) (h : N < 18446744073709551616) : Go.bits .xor .i64 (IntKind.wrap .i64 (Int.fdiv (N : Int) ((2 : Int) ^ 1))) (IntKind.wrap .i64 (0 - IntKind.wrap .i64 (Go.bits .and .u64 (N : Int) 1))) = unzig N := by
  have e1 : ((2 : Int) ^ 1) = 2 := by decide
  have e2 : Int.fdiv (N : Int) 2 = ((N / 2 : Nat) : Int) := by rw [Int.fdiv_eq_ediv_of_nonneg _ (by decide)]; omega
  rw [e1, e2, and1 N h, wrapi (n := ((N / 2 : Nat) : Int)) (by omega) (by omega), wrapi (n := ((N % 2 : Nat) : Int)) (by omega) (by omega), wrapi (by omega) (by omega)]
  unfold unzig
  by_cases c : N % 2 = 0
  · rw [if_pos c, c]
    exact xor_i64_0 (by omega)
  · rw [if_neg c, show N % 2 = 1 by omega]
    exact xor_i64_1 (by omega)
theorem unzig_zig {n : Int} (h : IsI n) : unzig (zig n) = n := by
  unfold unzig zig
  split <;> split <;> omega
theorem numR_vint : ∀ (m i acc N : Nat) (r : Bs), i + m = 10 → N < 128 ^ (m + 1) → (0 < i → 0 < N) → N * 2 ^ (7 * i) < 18446744073709551616 → i ≤ 9 → numR i acc (vint m N ++ r) = some (acc + N * 2 ^ (7 * i), i + (vint m N).length)
  | 0, i, acc, N, r, h, hN, hp, hb, hi => by omega
  | m + 1, i, acc, N, r, h, hN, hp, hb, hi => by
    by_cases c : 128 ≤ N
    · rw [vint_step _ _ c, List.cons_append, numR]
      have hx : (UInt8.ofNat (N % 128 + 128)).toNat = N % 128 + 128 := by simp; omega
      have hi9 : i ≠ 9 := fun e => by
        subst e
        have : (2 ^ (7 * 9) : Nat) = 9223372036854775808 := by decide
        rw [this] at hb; omega
      rw [hx, if_neg (by omega), if_neg (by omega)]
      have hdm : N = N / 128 * 128 + N % 128 := by omega
      have hpow : (2 ^ (7 * (i + 1)) : Nat) = 128 * 2 ^ (7 * i) := by rw [show 7 * (i + 1) = 7 + 7 * i by omega, Nat.pow_add]
      have e1 : N * 2 ^ (7 * i) = N / 128 * (128 * 2 ^ (7 * i)) + N % 128 * 2 ^ (7 * i) := by
        conv => lhs; rw [hdm, Nat.add_mul, Nat.mul_assoc]
      have ih := numR_vint m (i + 1) (acc + (N % 128 + 128) % 128 * 2 ^ (7 * i)) (N / 128) r (by omega) (Nat.div_lt_of_lt_mul (by rw [Nat.pow_succ, Nat.mul_comm] at hN; exact hN)) (fun _ => by omega) (by rw [hpow]; omega) (by omega)
      rw [ih, hpow]
      have e2 : (N % 128 + 128) % 128 = N % 128 := by omega
      rw [e2, e1]
      congr 2
      · omega
      · rw [List.length_cons]; omega
    · rw [vint_last _ _ c, List.cons_append, List.nil_append, numR]
      have hx : (UInt8.ofNat N).toNat = N := by simp; omega
      have hi9 : i = 9 → N < 2 := fun e => by
        subst e
        have : (2 ^ (7 * 9) : Nat) = 9223372036854775808 := by decide
        rw [this] at hb; omega
      rw [hx, if_neg (by omega), if_pos (by omega)]
      rfl
theorem number_c {w : World} {A : Option Addr} {C : Nat} {l : Bs} (h : Row w A (l.map U8)) (hl : l.length ≤ 1000000) :
    Calls prog 155 #[.slice A l.length C] w fun e w' => (∃ n k : Int, e = .returned (.tuple #[.int .i64 n, .int .i64 k]) ∧ match numR 0 0 l with
      | none => n = 0 ∧ k = 0
      | some (N, q) => n = unzig N ∧ k = (q : Int) ∧ 1 ≤ q ∧ q ≤ l.length) ∧ w' = w := by
  refine val_number.link ⟨fun m a n w' => ∃ (i acc : Nat), n = (i : Int) ∧ a = (acc : Int) ∧ i ≤ l.length ∧ m = l.length - i ∧ i ≤ 10 ∧ (i ≤ 9 → acc < 2 ^ (7 * i)) ∧ (i = 10 → False) ∧ w' = w ∧ numR 0 0 l = numR i acc (l.drop i), l.length, ⟨0, 0, rfl, rfl, by omega, rfl, by omega, fun _ => by decide, fun h => (by cases h), rfl, rfl⟩, ?_⟩
  rintro m n4 n5 w' ⟨i, acc, rfl, rfl, hi, rfl, _, hacc, h10, rfl, hR⟩
  refine bc' (fun hlt => ?_) fun hge => ?_
  · have hlt : (i : Int) < (l.length : Int) := of_decide_eq_true hlt
    have hlt' : i < l.length := by omega
    have hi9 : i ≤ 9 := by
      rcases Nat.lt_or_ge i 10 with z | z
      · omega
      · exact (h10 (by omega)).elim
    have hacc := hacc hi9
    rw [List.drop_eq_getElem_cons hlt', numR] at hR
    generalize hx : l[i] = x at hR
    have hx256 := x.toNat_lt
    obtain ⟨ad, hp, hb, hcell⟩ := rdv h (n := (i : Int)) (L := (l.length : Int)) rfl (u := U8 x) (by rw [List.getElem?_map, List.getElem?_eq_getElem hlt', hx]; rfl) hlt
    refine ⟨ad, hp, hb, _, hcell, fun y10 h10' => ?_⟩
    have hpow : (2 ^ (7 * i) : Nat) ≤ 2 ^ 63 := Nat.pow_le_pow_right (by decide) (by omega)
    have h63 : (2 ^ 63 : Nat) = 9223372036854775808 := by decide
    have go : ∀ b : Bool, (b = true ↔ ((i = 9 ∧ 1 < x.toNat) ∨ (0 < i ∧ x.toNat = 0))) → y10 b w' := by
      intro b hb
      refine h10' _ _ (bc' (fun hbt => ?_) fun hbf => ?_)
      · rw [if_pos (hb.1 hbt)] at hR
        exact ⟨⟨0, 0, rfl, by rw [hR]; exact ⟨rfl, rfl⟩⟩, rfl⟩
      have hn : ¬ ((i = 9 ∧ 1 < x.toNat) ∨ (0 < i ∧ x.toNat = 0)) := fun z => by rw [hb.2 z] at hbf; cases hbf
      rw [if_neg hn] at hR
      have e7 : IntKind.wrap .i64 (7 * (i : Int)) = ((7 * i : Nat) : Int) := by rw [wrapi (by omega) (by omega)]; omega
      have hsm : x.toNat % 128 * 2 ^ (7 * i) < 18446744073709551616 := by
        by_cases c9 : i = 9
        · subst c9
          have e9 : (2 ^ (7 * 9) : Nat) = 9223372036854775808 := by decide
          rw [e9]; omega
        · have h56 : (2 ^ (7 * i) : Nat) ≤ 2 ^ 56 := Nat.pow_le_pow_right (by decide) (by omega)
          have h56' : (2 ^ 56 : Nat) = 72057594037927936 := by decide
          have : x.toNat % 128 * 2 ^ (7 * i) ≤ 127 * 2 ^ (7 * i) := Nat.mul_le_mul_right _ (by omega)
          omega
      have hsh : IntKind.wrap .u64 (IntKind.wrap .u64 (Go.bits .and .u8 (x.toNat : Int) 127) * (2 : Int) ^ Min.min (Int.toNat (IntKind.wrap .i64 (7 * (i : Int)))) 64) = ((x.toNat % 128 * 2 ^ (7 * i) : Nat) : Int) := by
        rw [and127, e7, Int.toNat_natCast, Nat.min_eq_left (by omega)]
        have e1 : IntKind.wrap .u64 ((x.toNat % 128 : Nat) : Int) = ((x.toNat % 128 : Nat) : Int) := by rw [IntKind.wrap_u64]; omega
        have e2 : (2 : Int) ^ (7 * i) = ((2 ^ (7 * i) : Nat) : Int) := by rw [Int.natCast_pow]; rfl
        rw [e1, e2, ← Int.natCast_mul, IntKind.wrap_u64]
        omega
      have hor : Go.bits .or .u64 (acc : Int) (IntKind.wrap .u64 (IntKind.wrap .u64 (Go.bits .and .u8 (x.toNat : Int) 127) * (2 : Int) ^ Min.min (Int.toNat (IntKind.wrap .i64 (7 * (i : Int)))) 64)) = ((acc + x.toNat % 128 * 2 ^ (7 * i) : Nat) : Int) := by
        rw [hsh]; exact or_add hacc (by omega) hsm
      rw [hor]
      refine ⟨by rw [e7]; omega, bc' (fun hs => ⟨by decide, ?_⟩) fun hs => ?_⟩
      · have hs : x.toNat < 128 := by have := of_decide_eq_true hs; omega
        rw [if_pos hs] at hR
        have hm : x.toNat % 128 = x.toNat := Nat.mod_eq_of_lt hs
        rw [hm] at hsm ⊢
        have hlt64 : acc + x.toNat * 2 ^ (7 * i) < 18446744073709551616 := by
          by_cases c9 : i = 9
          · subst c9
            have e9 : (2 ^ (7 * 9) : Nat) = 9223372036854775808 := by decide
            have hx1 : x.toNat ≤ 1 := by omega
            rw [e9] at hacc ⊢
            have : x.toNat * 9223372036854775808 ≤ 1 * 9223372036854775808 := Nat.mul_le_mul_right _ hx1
            omega
          · have h56 : (2 ^ (7 * i) : Nat) ≤ 2 ^ 56 := Nat.pow_le_pow_right (by decide) (by omega)
            have h56' : (2 ^ 56 : Nat) = 72057594037927936 := by decide
            have : x.toNat * 2 ^ (7 * i) ≤ 127 * 2 ^ (7 * i) := Nat.mul_le_mul_right _ (by omega)
            omega
        refine ⟨⟨_, _, rfl, ?_⟩, rfl⟩
        rw [hR]
        exact ⟨unzig_eq _ hlt64, by rw [wrapi (by omega) (by omega)]; simp, by omega, by omega⟩
      · have hs : ¬ x.toNat < 128 := by have := of_decide_eq_false hs; omega
        rw [if_neg hs] at hR
        have hi8 : i ≤ 8 := by omega
        refine ⟨l.length - (i + 1), by omega, i + 1, _, by rw [wrapi (by omega) (by omega)]; simp, rfl, by omega, rfl, by omega, fun _ => ?_, by omega, rfl, hR⟩
        rw [show 7 * (i + 1) = 7 * i + 7 by omega, Nat.pow_add]
        have : x.toNat % 128 * 2 ^ (7 * i) ≤ 127 * 2 ^ (7 * i) := Nat.mul_le_mul_right _ (by omega)
        omega
    have hx0 : ((x.toNat : Nat) : Int) = 0 ↔ x.toNat = 0 := by omega
    refine bc' (fun h9 => bc' (fun h1 => go _ ⟨fun _ => .inl ⟨by have := of_decide_eq_true h9; omega, by have := of_decide_eq_true h1; omega⟩, fun _ => rfl⟩) fun h1 => bc' (fun h0 => go _ ?_) fun h0 => go _ ⟨fun z => (by cases z), fun z => ?_⟩) fun h9 => bc' (fun h0 => go _ ?_) fun h0 => go _ ⟨fun z => (by cases z), fun z => ?_⟩
    · have h9 := of_decide_eq_true h9; have h1 := of_decide_eq_false h1; have h0 := of_decide_eq_true h0
      rw [decide_eq_true_eq]; omega
    · have h9 := of_decide_eq_true h9; have h0 := of_decide_eq_false h0; omega
    · have h9 := of_decide_eq_false h9; have h0 := of_decide_eq_true h0
      rw [decide_eq_true_eq]; omega
    · have h9 := of_decide_eq_false h9; have h0 := of_decide_eq_false h0; omega
  · have : i = l.length := by have := of_decide_eq_false hge; omega
    subst this
    rw [List.drop_length] at hR
    exact ⟨⟨0, 0, rfl, by rw [hR]; exact ⟨rfl, rfl⟩⟩, rfl⟩
/-- A value that bytes begin with, and how many they are. -/
def vdec0 (l : Bs) : Option (VL × Nat) := match l with
  | a :: b :: r => if a = 3 then some (⟨3, (b.toNat : Int), ByteArray.empty⟩, 2) else if a = 2 then (if r.length < b.toNat then none else some (⟨2, 0, ⟨⟨r.take b.toNat⟩⟩⟩, 2 + b.toNat)) else match numR 0 0 (b :: r) with
    | none => none
    | some (N, q) => some (⟨(a.toNat : Int), unzig N, ByteArray.empty⟩, q + 1)
  | _ => none
def vdec (l : Bs) : Option (VL × Nat) := match vdec0 l with
  | none => none
  | some (v, n) => if chk v = 0 then some (v, n) else none
def v0 : VL := ⟨0, 0, ByteArray.empty⟩
def vres (l : Bs) : VL × Nat × Int := match vdec l with
  | none => (v0, 0, 6)
  | some (v, n) => (v, n, 0)
theorem vdec_le {l : Bs} {v : VL} {n : Nat} (h : vdec l = some (v, n)) (hq : ∀ N q, numR 0 0 (l.drop 1) = some (N, q) → q ≤ l.length - 1) : n ≤ l.length := by
  unfold vdec at h
  split at h
  · cases h
  · rename_i v' n' h0
    split at h
    · injection h with h; injection h with h1 h2
      subst h1; subst h2
      unfold vdec0 at h0
      split at h0
      · rename_i a b r
        split at h0
        · injection h0 with h0; injection h0 with _ h0; subst h0; simp
        · split at h0
          · split at h0
            · cases h0
            · injection h0 with h0; injection h0 with _ h0; subst h0; simp; omega
          · split at h0
            · cases h0
            · rename_i N q hn
              injection h0 with h0; injection h0 with _ h0; subst h0
              have := hq N q hn
              simp at this ⊢; omega
      · cases h0
    · cases h
theorem plain_chk (v : VL) : chk (plainV v) = chk v := by
  unfold plainV
  by_cases h2 : v.k = 2
  · rw [if_pos h2]; unfold chk; simp [h2]
  · rw [if_neg h2]; unfold chk; simp [h2]
theorem bytes_eta (s : ByteArray) : (⟨⟨s.data.toList⟩⟩ : ByteArray) = s := rfl
theorem vdec_vb {v : VL} (hc : chk v = 0) (hn : IsI v.n) (r : Bs) : vdec (vb v ++ r) = some (plainV v, (vb v).length) := by
  have e : vb v = vbytes v := by unfold vb; rw [if_pos hc]
  have hk : v.k = 1 ∨ v.k = 3 ∨ v.k = 2 := by
    unfold chk at hc
    by_cases h1 : v.k = 1
    · exact .inl h1
    · by_cases h3 : v.k = 3
      · exact .inr (.inl h3)
      · by_cases h2 : v.k = 2
        · exact .inr (.inr h2)
        · rw [if_neg h1, if_neg h3, if_neg h2] at hc; cases hc
  have h0 : vdec0 (vb v ++ r) = some (plainV v, (vb v).length) := by
    rw [e]
    rcases hk with h1 | h3 | h2
    · have ev : vbytes v = 1 :: vint 10 (zig v.n) := by unfold vbytes; rw [if_neg (by omega), if_neg (by omega)]
      have hl := numR_vint 10 0 0 (zig v.n) r rfl (Nat.lt_of_lt_of_le (zig_lt hn) (by decide)) (fun h => by omega) (by rw [Nat.mul_zero, Nat.pow_zero, Nat.mul_one]; exact zig_lt hn) (by decide)
      rw [Nat.mul_zero, Nat.pow_zero, Nat.mul_one, Nat.zero_add, Nat.zero_add] at hl
      rw [ev, List.cons_append]
      cases hv : vint 10 (zig v.n) ++ r with
      | nil => rw [hv] at hl; cases hl
      | cons b t =>
        rw [hv] at hl
        unfold vdec0
        simp only
        rw [if_neg (by decide), if_neg (by decide), hl]
        simp only
        rw [unzig_zig hn]
        unfold plainV
        rw [if_neg (by omega), h1]
        rfl
    · have hv : v.n = 0 ∨ v.n = 1 := by
        unfold chk at hc
        rw [if_neg (by omega), if_pos h3] at hc
        rcases Classical.em (v.n = 0 ∨ v.n = 1) with z | z
        · exact z
        · rw [if_neg z] at hc; cases hc
      have ev : vbytes v = [3, UInt8.ofNat v.n.toNat] := by unfold vbytes; rw [if_pos h3]
      rw [ev]
      show vdec0 (3 :: UInt8.ofNat v.n.toNat :: r) = _
      unfold vdec0
      simp only
      rw [if_pos trivial]
      unfold plainV
      rw [if_neg (by omega), h3]
      congr 2
      congr 1
      simp; omega
    · have hsz : v.s.size ≤ 64 := by
        unfold chk at hc
        rw [if_neg (by omega), if_neg (by omega), if_pos h2] at hc
        by_cases z : 64 < v.s.size
        · rw [if_pos z] at hc; cases hc
        · omega
      have hl : v.s.data.toList.length = v.s.size := rfl
      have ev : vbytes v = 2 :: UInt8.ofNat v.s.size :: v.s.data.toList := by unfold vbytes; rw [if_neg (by omega), if_pos h2]
      rw [ev]
      show vdec0 (2 :: UInt8.ofNat v.s.size :: (v.s.data.toList ++ r)) = _
      have hb : (UInt8.ofNat v.s.size).toNat = v.s.size := by simp; omega
      unfold vdec0
      simp only
      rw [if_neg (by decide), if_pos trivial, hb, if_neg (by rw [List.length_append]; omega), List.take_append_of_le_length (by omega), List.take_of_length_le (by omega)]
      unfold plainV
      rw [if_pos h2, h2]
      simp only [List.length_cons, hl]
      congr 2
      omega
  unfold vdec
  rw [h0]
  simp only
  rw [if_pos (by rw [plain_chk]; exact hc)]
theorem numR_le : ∀ (l : Bs) (i acc N q : Nat), numR i acc l = some (N, q) → q ≤ i + l.length
  | [], i, acc, N, q, h => by cases h
  | x :: r, i, acc, N, q, h => by
    rw [numR] at h
    split at h
    · cases h
    · split at h
      · injection h with h; injection h with _ h; subst h; simp
      · have := numR_le r (i + 1) _ N q h
        rw [List.length_cons]; omega
end Go.Proofs.YtalegpdnhkopmaaDoor.Vl
