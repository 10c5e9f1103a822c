/- The code of a key's parts: what 'put' and the document's 'Bytes' write is one row of bytes. -/
import Derived.Test.YtamaoileeipgeaaDoorBase
import Derived.Test.YtamaoileeipgeaaDoorXKey5
import Derived.Test.YtamaoileeipgeaaDoorXKey6
import Derived.Laws.Bits64b
namespace Go.Proofs.YtamaoileeipgeaaDoor.XKey
open Go.RowKit Go.Proofs.YtamaoileeipgeaaDoorW.PrintWords Go.Proofs.YtamaoileeipgeaaDoorW.PrintLast Go.Proofs.YtamaoileeipgeaaDoorW.PrintMore
set_option linter.unusedVariables false
set_option linter.unusedSimpArgs false

/-- A number's bytes, the greatest first. -/
def be8 (N : Int) : List Int := [N / 72057594037927936 % 256, N / 281474976710656 % 256, N / 1099511627776 % 256, N / 4294967296 % 256, N / 16777216 % 256, N / 65536 % 256, N / 256 % 256, N % 256]
def topN (n : Int) : Int := (n + 9223372036854775808) % 18446744073709551616
def escI (l : List UInt8) : List Int := l.flatMap fun b => if b = 0 then [0, 255] else [(b.toNat : Int)]
/-- A part's bytes. -/
def kb (t : Bool) (s : ByteArray) (n : Int) : List Int := if t = true then 2 :: (escI s.data.toList ++ [0, 1]) else 1 :: be8 (topN n)

theorem xor_top (x : Nat) (h : x < 18446744073709551616) : x ^^^ 9223372036854775808 = (x + 9223372036854775808) % 18446744073709551616 := by
  have e63 : (9223372036854775808 : Nat) = 2 ^ 63 := rfl
  have e64 : (18446744073709551616 : Nat) = 2 ^ 64 := rfl
  rw [e64] at h
  rw [e63, e64, Nat.add_comm]
  apply Nat.eq_of_testBit_eq
  intro i
  rw [Nat.testBit_xor, Nat.testBit_mod_two_pow, Nat.testBit_two_pow]
  rcases Nat.lt_trichotomy i 63 with c | c | c
  · rw [Nat.testBit_two_pow_add_gt c, decide_eq_true (by omega : i < 64), decide_eq_false (by omega : ¬ 63 = i)]
    simp
  · subst c
    rw [Nat.testBit_two_pow_add_eq]
    simp
  · rw [decide_eq_false (by omega : ¬ 63 = i), decide_eq_false (by omega : ¬ i < 64)]
    have : x < 2 ^ i := Nat.lt_of_lt_of_le h (Nat.pow_le_pow_right (by omega) (by omega))
    rw [Nat.testBit_lt_two_pow this]
    simp
theorem xor_topN (n : Int) : Go.bits .xor .u64 (IntKind.u64.wrap n) 9223372036854775808 = topN n := by
  rw [IntKind.wrap_u64]
  obtain ⟨x, hx⟩ := Int.eq_ofNat_of_zero_le (Int.emod_nonneg n (by decide : (18446744073709551616 : Int) ≠ 0))
  have hl : x < 18446744073709551616 := by omega
  rw [hx, show (9223372036854775808 : Int) = ((9223372036854775808 : Nat) : Int) from rfl, bits_xor_u64_nat _ _ hl (by decide), xor_top x hl]
  unfold topN
  omega

theorem put_num (l0 : List Int) (s : ByteArray) (n : Int) (hl : l0.length < 140737488355000) : key_put.f 12 l0 false s n = some (l0 ++ kb false s n) := by
  unfold key_put.f
  rw [if_neg (by decide), if_pos (by omega)]
  have w1 : wrap64 (56 - 8) = 48 := by unfold wrap64; rfl
  have w2 : wrap64 (48 - 8) = 40 := by unfold wrap64; rfl
  have w3 : wrap64 (40 - 8) = 32 := by unfold wrap64; rfl
  have w4 : wrap64 (32 - 8) = 24 := by unfold wrap64; rfl
  have w5 : wrap64 (24 - 8) = 16 := by unfold wrap64; rfl
  have w6 : wrap64 (16 - 8) = 8 := by unfold wrap64; rfl
  have w7 : wrap64 (8 - 8) = 0 := by unfold wrap64; rfl
  have w8 : wrap64 (0 - 8) = -8 := by unfold wrap64; rfl
  simp only [key_put.l0, xor_topN, w1, w2, w3, w4, w5, w6, w7, w8, List.length_append, List.length_cons, List.length_nil]
  simp only [ge_iff_le, show (0 : Int) ≤ 56 from by decide, show (0 : Int) ≤ 48 from by decide, show (0 : Int) ≤ 40 from by decide, show (0 : Int) ≤ 32 from by decide, show (0 : Int) ≤ 24 from by decide, show (0 : Int) ≤ 16 from by decide, show (0 : Int) ≤ 8 from by decide, show (0 : Int) ≤ 0 from by decide, show ¬ (0 : Int) ≤ -8 from by decide, if_true, if_false]
  repeat rw [if_pos (by omega)]
  simp only [shr, IntKind.bits]
  have e1 : min (56 : Int).toNat 64 = 56 := by decide
  have e2 : min (48 : Int).toNat 64 = 48 := by decide
  have e3 : min (40 : Int).toNat 64 = 40 := by decide
  have e4 : min (32 : Int).toNat 64 = 32 := by decide
  have e5 : min (24 : Int).toNat 64 = 24 := by decide
  have e6 : min (16 : Int).toNat 64 = 16 := by decide
  have e7 : min (8 : Int).toNat 64 = 8 := by decide
  have e8 : min (0 : Int).toNat 64 = 0 := by decide
  rw [e1, e2, e3, e4, e5, e6, e7, e8]
  simp [kb, be8]
theorem nx0 (N : Int) (h0 : 0 ≤ N) (h1 : N < 18446744073709551616) : (N % 18446744073709551616 * 1 * 256) % 18446744073709551616 = N % 72057594037927936 * 256 := by omega
theorem dg0 (N : Int) (h0 : 0 ≤ N) (h1 : N < 18446744073709551616) : ((N % 18446744073709551616 * 1) / 72057594037927936) % 18446744073709551616 % 256 = N / 72057594037927936 % 256 := by omega
theorem nx1 (N : Int) (h0 : 0 ≤ N) (h1 : N < 18446744073709551616) : (N % 72057594037927936 * 256 * 256) % 18446744073709551616 = N % 281474976710656 * 65536 := by omega
theorem dg1 (N : Int) (h0 : 0 ≤ N) (h1 : N < 18446744073709551616) : ((N % 72057594037927936 * 256) / 72057594037927936) % 18446744073709551616 % 256 = N / 281474976710656 % 256 := by omega
theorem nx2 (N : Int) (h0 : 0 ≤ N) (h1 : N < 18446744073709551616) : (N % 281474976710656 * 65536 * 256) % 18446744073709551616 = N % 1099511627776 * 16777216 := by omega
theorem dg2 (N : Int) (h0 : 0 ≤ N) (h1 : N < 18446744073709551616) : ((N % 281474976710656 * 65536) / 72057594037927936) % 18446744073709551616 % 256 = N / 1099511627776 % 256 := by omega
theorem nx3 (N : Int) (h0 : 0 ≤ N) (h1 : N < 18446744073709551616) : (N % 1099511627776 * 16777216 * 256) % 18446744073709551616 = N % 4294967296 * 4294967296 := by omega
theorem dg3 (N : Int) (h0 : 0 ≤ N) (h1 : N < 18446744073709551616) : ((N % 1099511627776 * 16777216) / 72057594037927936) % 18446744073709551616 % 256 = N / 4294967296 % 256 := by omega
theorem nx4 (N : Int) (h0 : 0 ≤ N) (h1 : N < 18446744073709551616) : (N % 4294967296 * 4294967296 * 256) % 18446744073709551616 = N % 16777216 * 1099511627776 := by omega
theorem dg4 (N : Int) (h0 : 0 ≤ N) (h1 : N < 18446744073709551616) : ((N % 4294967296 * 4294967296) / 72057594037927936) % 18446744073709551616 % 256 = N / 16777216 % 256 := by omega
theorem nx5 (N : Int) (h0 : 0 ≤ N) (h1 : N < 18446744073709551616) : (N % 16777216 * 1099511627776 * 256) % 18446744073709551616 = N % 65536 * 281474976710656 := by omega
theorem dg5 (N : Int) (h0 : 0 ≤ N) (h1 : N < 18446744073709551616) : ((N % 16777216 * 1099511627776) / 72057594037927936) % 18446744073709551616 % 256 = N / 65536 % 256 := by omega
theorem nx6 (N : Int) (h0 : 0 ≤ N) (h1 : N < 18446744073709551616) : (N % 65536 * 281474976710656 * 256) % 18446744073709551616 = N % 256 * 72057594037927936 := by omega
theorem dg6 (N : Int) (h0 : 0 ≤ N) (h1 : N < 18446744073709551616) : ((N % 65536 * 281474976710656) / 72057594037927936) % 18446744073709551616 % 256 = N / 256 % 256 := by omega
theorem dg7 (N : Int) (h0 : 0 ≤ N) (h1 : N < 18446744073709551616) : ((N % 256 * 72057594037927936) / 72057594037927936) % 18446744073709551616 % 256 = N / 1 % 256 := by omega
theorem topN_pos (n : Int) : 0 ≤ topN n := by unfold topN; omega
theorem topN_lt (n : Int) : topN n < 18446744073709551616 := by unfold topN; omega
theorem refBytes_num (s : ByteArray) (n : Int) : rhizomeref01_Bytes.f 12 false s n = some (kb false s n) := by
  unfold rhizomeref01_Bytes.f
  rw [if_neg (by decide)]
  have e0 : IntKind.u64.wrap (IntKind.u64.wrap n + 9223372036854775808) = topN n % 18446744073709551616 * 1 := by
    simp only [IntKind.wrap_u64, topN]; omega
  rw [e0]
  have h0 := topN_pos n
  have h1 := topN_lt n
  have td : ∀ A B : Int, 0 < A → 0 < B → (topN n % A * B).tdiv 72057594037927936 = (topN n % A * B) / 72057594037927936 := fun A B hA hB =>
    Int.tdiv_eq_ediv_of_nonneg (Int.mul_nonneg (Int.emod_nonneg _ (by omega)) (by omega))
  have v0 : wrap64 (0 + 1) = 1 := by unfold wrap64; rfl
  have v1 : wrap64 (1 + 1) = 2 := by unfold wrap64; rfl
  have v2 : wrap64 (2 + 1) = 3 := by unfold wrap64; rfl
  have v3 : wrap64 (3 + 1) = 4 := by unfold wrap64; rfl
  have v4 : wrap64 (4 + 1) = 5 := by unfold wrap64; rfl
  have v5 : wrap64 (5 + 1) = 6 := by unfold wrap64; rfl
  have v6 : wrap64 (6 + 1) = 7 := by unfold wrap64; rfl
  have v7 : wrap64 (7 + 1) = 8 := by unfold wrap64; rfl
  simp only [rhizomeref01_Bytes.l0, v0, v1, v2, v3, v4, v5, v6, v7, IntKind.wrap_u64, nx0 _ h0 h1, nx1 _ h0 h1, nx2 _ h0 h1, nx3 _ h0 h1, nx4 _ h0 h1, nx5 _ h0 h1, nx6 _ h0 h1]
  rw [td 18446744073709551616 1 (by decide) (by decide), dg0 _ h0 h1]
  rw [td 72057594037927936 256 (by decide) (by decide), dg1 _ h0 h1]
  rw [td 281474976710656 65536 (by decide) (by decide), dg2 _ h0 h1]
  rw [td 1099511627776 16777216 (by decide) (by decide), dg3 _ h0 h1]
  rw [td 4294967296 4294967296 (by decide) (by decide), dg4 _ h0 h1]
  rw [td 16777216 1099511627776 (by decide) (by decide), dg5 _ h0 h1]
  rw [td 65536 281474976710656 (by decide) (by decide), dg6 _ h0 h1]
  rw [td 256 72057594037927936 (by decide) (by decide), dg7 _ h0 h1]
  simp [kb, be8]

theorem escI_length (l : List UInt8) : (escI l).length ≤ 2 * l.length := by
  induction l with
  | nil => simp [escI]
  | cons b l ih =>
    have : escI (b :: l) = (if b = 0 then [0, 255] else [(b.toNat : Int)]) ++ escI l := by simp [escI]
    rw [this, List.length_append, List.length_cons]
    split <;> simp only [List.length_cons, List.length_nil] <;> omega
theorem bytesOf_escs (l : List UInt8) : bytesOf ⟨(escs l).toArray⟩ = escI l := by
  simp only [bytesOf, List.toList_toArray]
  induction l with
  | nil => rfl
  | cons b l ih =>
    have e1 : escs (b :: l) = (if b = 0 then [0, 255] else [b]) ++ escs l := by simp [escs]
    have e2 : escI (b :: l) = (if b = 0 then [0, 255] else [(b.toNat : Int)]) ++ escI l := by simp [escI]
    rw [e1, e2, List.map_append, ih]
    split <;> simp
theorem put_txt (l0 : List Int) (s : ByteArray) (n : Int) (hs : s.size ≤ 1000000) (hl : l0.length + 2 * s.size < 140737488355000) (k : Nat) : key_put.f k l0 true s n = some (l0 ++ kb true s n) := by
  unfold key_put.f strings_ReplaceAll.f
  have hsz : (⟨(escs s.data.toList).toArray⟩ : ByteArray).size = (escI s.data.toList).length := by rw [← bytesOf_escs, bytesOf_length]
  have := escI_length s.data.toList
  have hd : s.data.toList.length = s.size := by rw [Array.length_toList]; rfl
  rw [if_pos rfl, if_pos (by omega), if_pos ⟨rfl, rfl, hs⟩]
  simp only [Option.bind_some, List.length_append, List.length_cons, List.length_nil, hsz, bytesOf_escs]
  rw [if_pos (by omega), if_pos (by omega)]
  simp [kb]
theorem put_ev (l0 : List Int) (t : Bool) (s : ByteArray) (n : Int) (hs : t = true → s.size ≤ 1000000) (hl : l0.length < 140737480000000) : Ev (fun k => key_put.f k l0 t s n) (l0 ++ kb t s n) := by
  cases t with
  | false => exact Ev.of (fun k => key_put.mono _ _ _ _ k) (put_num l0 s n (by omega))
  | true =>
    have h := hs rfl
    exact Ev.congr (fun k => put_txt l0 s n h (by omega) k) (Ev.now _)

theorem bt_at (s : ByteArray) (i : Nat) (h : i < s.size) : ∃ b, s.data.toList.drop i = b :: s.data.toList.drop (i + 1) ∧ bt s (i : Int) = (b.toNat : Int) := by
  have hd : i < s.data.toList.length := by rw [Array.length_toList]; exact h
  refine ⟨s.data.toList[i], List.drop_eq_getElem_cons hd, ?_⟩
  unfold bt
  rw [dif_pos (by simpa using h)]
  simp
  rfl
theorem refBytes_l1 (t : Bool) (s : ByteArray) (n : Int) (hs : s.size < 70000000000000) : ∀ (m i : Nat) (x : List Int), s.size - i = m → i ≤ s.size → x.length + 2 * m < 140737488355000 →
    Ev (fun k => rhizomeref01_Bytes.l1 k x (i : Int) t s n) (x ++ escI (s.data.toList.drop i) ++ [0, 1])
  | 0, i, x, hm, hi, hx => by
    have hd : s.data.toList.drop i = [] := List.drop_eq_nil_of_le (by rw [Array.length_toList]; exact (by omega : s.size ≤ i))
    refine Ev.step (f := fun _ => some (x ++ [0, 1])) (fun k => ?_) ?_
    · simp only [rhizomeref01_Bytes.l1, Option.bind_some, List.length_cons, List.length_nil]
      rw [if_neg (by omega), if_pos (by omega)]
    · rw [hd]
      simp only [escI, List.flatMap_nil, List.append_nil]
      exact Ev.now _
  | m + 1, i, x, hm, hi, hx => by
    obtain ⟨b, hd, hb⟩ := bt_at s i (by omega)
    have hw : wrap64 ((i : Int) + 1) = ((i + 1 : Nat) : Int) := by unfold wrap64; omega
    have e2 : escI (b :: s.data.toList.drop (i + 1)) = (if b = 0 then [0, 255] else [(b.toNat : Int)]) ++ escI (s.data.toList.drop (i + 1)) := by simp [escI]
    rw [hd, e2]
    by_cases c : b = 0
    · subst c
      refine Ev.step (f := fun k => rhizomeref01_Bytes.l1 k (x ++ [0, 255]) ((i + 1 : Nat) : Int) t s n) (fun k => ?_) ?_
      · simp only [rhizomeref01_Bytes.l1, Option.bind_some, hb, hw, List.length_append, List.length_cons, List.length_nil]
        rw [if_pos (by omega), if_pos (by omega), if_pos (by omega), if_pos (by rfl), if_pos (by omega)]
        simp
      · have := refBytes_l1 t s n hs m (i + 1) (x ++ [0, 255]) (by omega) (by omega) (by simp only [List.length_append, List.length_cons, List.length_nil]; omega)
        rw [List.append_assoc x] at this
        exact this
    · have hb0 : ¬ ((b.toNat : Int) = 0) := fun z => c (UInt8.toNat_inj.mp (by simpa using z))
      refine Ev.step (f := fun k => rhizomeref01_Bytes.l1 k (x ++ [(b.toNat : Int)]) ((i + 1 : Nat) : Int) t s n) (fun k => ?_) ?_
      · simp only [rhizomeref01_Bytes.l1, Option.bind_some, hb, hw, List.length_append, List.length_cons, List.length_nil]
        rw [if_pos (by omega), if_pos (by omega), if_pos (by omega), if_neg hb0]
      · have := refBytes_l1 t s n hs m (i + 1) (x ++ [(b.toNat : Int)]) (by omega) (by omega) (by simp only [List.length_append, List.length_cons, List.length_nil]; omega)
        rw [if_neg c]
        rw [List.append_assoc x] at this
        exact this
theorem refBytes_ev (t : Bool) (s : ByteArray) (n : Int) (hs : t = true → s.size < 70000000000000) : Ev (fun k => rhizomeref01_Bytes.f k t s n) (kb t s n) := by
  cases t with
  | false => exact Ev.of (fun k => rhizomeref01_Bytes.mono _ _ _ k) (refBytes_num s n)
  | true =>
    have h := hs rfl
    refine Ev.congr (f := fun k => rhizomeref01_Bytes.l1 k [2] ((0 : Nat) : Int) true s n) (fun k => by unfold rhizomeref01_Bytes.f; rw [if_pos rfl]; rfl) ?_
    have := refBytes_l1 true s n h s.size 0 [2] (by omega) (by omega) (by simp only [List.length_cons, List.length_nil]; omega)
    simpa [kb] using this
end Go.Proofs.YtamaoileeipgeaaDoor.XKey
