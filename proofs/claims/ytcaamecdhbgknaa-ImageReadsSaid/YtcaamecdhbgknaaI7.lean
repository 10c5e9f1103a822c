/- The reference of the image. -/
import Derived.Test.YtcaamecdhbgknaaI5
import Derived.Test.YtcaamecdhbgknaaRA
import Derived.Test.YtcaamecdhbgknaaC10
namespace Go.Proofs.Ytcaamecdhbgknaa.Image
open Go Go.V
open Go.Proofs.Ytcaamecdhbgknaa.VC
open Go.Proofs.Ytcaamecdhbgknaa.Disk
open Go.Proofs.Ytcaamecdhbgknaa.Log
open Go.Proofs.Try (prog)
set_option linter.unusedVariables false
set_option linter.unusedSimpArgs false
set_option maxRecDepth 20000

theorem shr_step (n t : Nat) : IntKind.wrap .u8 (Int.tmod ((n / 256 ^ t : Nat) : Int) 256) = ((shr (n : Int) (8 * t)).toNat : Int) := by
  rw [shr_nat, Nat.pow_mul, show (2 : Nat) ^ 8 = 256 from rfl, wrap8]
  generalize n / 256 ^ t = a
  rw [Int.tmod_eq_emod_of_nonneg (by omega)]; omega
theorem div_step (n t : Nat) (hn : n < 9223372036854775808) : IntKind.wrap .i64 (Int.tdiv ((n / 256 ^ t : Nat) : Int) 256) = ((n / 256 ^ (t + 1) : Nat) : Int) := by
  have : n / 256 ^ t ≤ n := Nat.div_le_self _ _
  rw [Nat.pow_succ, ← Nat.div_div_eq_div_mul]
  generalize n / 256 ^ t = a at this ⊢
  rw [Int.tdiv_eq_ediv_of_nonneg (by omega), wrapi (by omega) (by omega)]; omega
theorem ba_append (l : List UInt8) (s : ByteArray) : (⟨l.toArray⟩ : ByteArray) ++ s = ⟨(l ++ s.data.toList).toArray⟩ := by
  apply ByteArray.ext
  rw [ByteArray.data_append]
  simp
theorem ba_extract (l : List UInt8) (n : Nat) : (⟨l.toArray⟩ : ByteArray).extract 0 n = ⟨(l.take n).toArray⟩ := by
  apply ByteArray.ext
  rw [ByteArray.data_extract]
  simp
theorem beN_more (h : ByteArray) (off j d : Nat) : beN (bytesAt h off j) * 256 ^ d ≤ beN (bytesAt h off (j + d)) := by
  induction d with
  | zero => simp
  | succ d ih =>
    rw [← Nat.add_assoc, bytesAt_succ, beN_succ, Nat.pow_succ, ← Nat.mul_assoc]
    have := Nat.mul_le_mul_right 256 ih
    omega

set_option maxHeartbeats 1000000 in
theorem rihead_c (w : World) {seq size : Nat} (hs : seq < 9223372036854775808) (hz : size < 4294967296) : Calls prog 52 #[I64 (seq : Int), I64 (size : Int)] w fun e w' => e = .returned (.string (imgHead seq size)) ∧ Fr [] w w' := by
  refine rhizomeref05_Head.link ⟨by decide, fun w1 k2 st1 b1 => ?_⟩
  have n1 := g_new1 st1
  have e1 : reps [Value.int .u8 0] 64 = cellsF (fun _ => 0) := by
    rw [reps_one]; simp [cellsF, List.map_const']
  rw [e1] at b1
  refine blk_store b1 0 (by rw [cellsF_len]; omega) (by decide) fun w7 u7 => ?_
  have b7 : Blk w7 k2 (cellsF fun j => if j = 0 then 73 else 0) := by
    rw [← cellsF_set (fun _ => 0) (by omega) 73]; exact u7.blk
  refine blk_store b7 63 (by rw [cellsF_len]; omega) (by decide) fun w11 u11 => ?_
  have b11 : Blk w11 k2 (cellsF fun j => if j = 63 then 90 else if j = 0 then 73 else 0) := by
    rw [← cellsF_set (fun j => if j = 0 then 73 else 0) (by omega) 90]; exact u11.blk
  have f11 : Fr [k2] w1 w11 := (u7.fr).trans u11.fr (fun x hx => .inl hx)
  refine ⟨fun m s q w' => ∃ t : Nat, s = ((seq / 256 ^ t : Nat) : Int) ∧ q = ((8 - t : Nat) : Int) ∧ t ≤ 8 ∧ m = 8 - t ∧ Fr [k2] w1 w' ∧ Blk w' k2 (cellsF fun j => if 8 - t < j ∧ j ≤ 8 then shr seq (64 - 8 * j) else if j = 0 then 73 else if j = 63 then 90 else 0), 8, ⟨0, by simp, rfl, by omega, rfl, f11, ?_⟩, ?_⟩
  · rw [cellsF_congr (g := fun j => if j = 63 then 90 else if j = 0 then 73 else 0)]
    · exact b11
    · intro j hj
      show (if 8 - 0 < j ∧ j ≤ 8 then shr seq (64 - 8 * j) else if j = 0 then (73 : UInt8) else if j = 63 then 90 else 0) = if j = 63 then 90 else if j = 0 then 73 else 0
      rw [if_neg (by omega)]
      by_cases h1 : j = 0
      · subst h1; rfl
      · rw [if_neg h1, if_neg h1]
  rintro m s q w18 ⟨t, rfl, rfl, ht, rfl, f18, b18⟩
  refine bc (fun hlt => ⟨by decide, ?_⟩) fun hge => ?_
  · have hlt : (0 : Int) < ((8 - t : Nat) : Int) := of_decide_eq_true hlt
    have e6 : Int.toNat ((8 - t : Nat) : Int) * 1 = 8 - t := by omega
    rw [e6, shr_step]
    refine blk_store b18 (8 - t) (by rw [cellsF_len]; omega) ⟨by omega, by omega⟩ fun w22 u22 => ⟨by decide, 8 - (t + 1), by omega, t + 1, div_step seq t hs, ?_, by omega, rfl, f18.trans u22.fr (fun x hx => .inl hx), ?_⟩
    · rw [wrapi (by omega) (by omega)]; omega
    · have b22 := u22.blk
      rw [cellsF_set _ (by omega)] at b22
      rw [cellsF_congr (g := fun j => if j = 8 - t then shr seq (8 * t) else if 8 - t < j ∧ j ≤ 8 then shr seq (64 - 8 * j) else if j = 0 then 73 else if j = 63 then 90 else 0)]
      · exact b22
      · intro j hj
        show (if 8 - (t + 1) < j ∧ j ≤ 8 then shr seq (64 - 8 * j) else if j = 0 then (73 : UInt8) else if j = 63 then 90 else 0) = if j = 8 - t then shr seq (8 * t) else if 8 - t < j ∧ j ≤ 8 then shr seq (64 - 8 * j) else if j = 0 then 73 else if j = 63 then 90 else 0
        by_cases h1 : j = 8 - t
        · subst h1
          rw [if_pos (by omega), if_pos rfl, show 64 - 8 * (8 - t) = 8 * t by omega]
        · rw [if_neg h1]
          by_cases h2 : 8 - t < j ∧ j ≤ 8
          · rw [if_pos (by omega), if_pos h2]
          · rw [if_neg (by omega), if_neg h2]
  have hge : ¬ (0 : Int) < ((8 - t : Nat) : Int) := of_decide_eq_false hge
  have ht8 : t = 8 := by omega
  subst ht8
  refine ⟨fun m s q w' => ∃ t : Nat, s = ((size / 256 ^ t : Nat) : Int) ∧ q = ((12 - t : Nat) : Int) ∧ t ≤ 4 ∧ m = 4 - t ∧ Fr [k2] w1 w' ∧ Blk w' k2 (cellsF fun j => if 12 - t < j ∧ j ≤ 12 then shr size (96 - 8 * j) else if 1 ≤ j ∧ j ≤ 8 then shr seq (64 - 8 * j) else if j = 0 then 73 else if j = 63 then 90 else 0), 4, ⟨0, by simp, rfl, by omega, rfl, f18, ?_⟩, ?_⟩
  · rw [cellsF_congr (g := fun j => if 8 - 8 < j ∧ j ≤ 8 then shr seq (64 - 8 * j) else if j = 0 then (73 : UInt8) else if j = 63 then 90 else 0)]
    · exact b18
    · intro j hj
      show (if 12 - 0 < j ∧ j ≤ 12 then shr size (96 - 8 * j) else _) = _
      rw [if_neg (by omega)]
      by_cases h1 : 1 ≤ j ∧ j ≤ 8
      · rw [if_pos h1, if_pos (by omega)]
      · rw [if_neg h1, if_neg (show ¬ (8 - 8 < j ∧ j ≤ 8) by omega)]
  clear b18 b11 b7 b1
  rintro m s q w30 ⟨t, rfl, rfl, ht, rfl, f30, b30⟩
  refine bc (fun hlt => ⟨by decide, ?_⟩) fun hge => ?_
  · have hlt : (8 : Int) < ((12 - t : Nat) : Int) := of_decide_eq_true hlt
    have e6 : Int.toNat ((12 - t : Nat) : Int) * 1 = 12 - t := by omega
    rw [e6, shr_step]
    refine blk_store b30 (12 - t) (by rw [cellsF_len]; omega) ⟨by omega, by omega⟩ fun w34 u34 => ⟨by decide, 4 - (t + 1), by omega, t + 1, div_step size t (by omega), ?_, by omega, rfl, f30.trans u34.fr (fun x hx => .inl hx), ?_⟩
    · rw [wrapi (by omega) (by omega)]; omega
    · have b34 := u34.blk
      rw [cellsF_set _ (by omega)] at b34
      rw [cellsF_congr (g := fun j => if j = 12 - t then shr size (8 * t) else if 12 - t < j ∧ j ≤ 12 then shr size (96 - 8 * j) else if 1 ≤ j ∧ j ≤ 8 then shr seq (64 - 8 * j) else if j = 0 then 73 else if j = 63 then 90 else 0)]
      · exact b34
      · intro j hj
        show (if 12 - (t + 1) < j ∧ j ≤ 12 then shr size (96 - 8 * j) else _) = if j = 12 - t then shr size (8 * t) else if 12 - t < j ∧ j ≤ 12 then shr size (96 - 8 * j) else _
        by_cases h1 : j = 12 - t
        · subst h1
          rw [if_pos (by omega), if_pos rfl, show 96 - 8 * (12 - t) = 8 * t by omega]
        · rw [if_neg h1]
          by_cases h2 : 12 - t < j ∧ j ≤ 12
          · rw [if_pos (by omega), if_pos h2]
          · rw [if_neg (by omega), if_neg h2]
  · have hge : ¬ (8 : Int) < ((12 - t : Nat) : Int) := of_decide_eq_false hge
    have ht4 : t = 4 := by omega
    subst ht4
    have hb : Blk w30 k2 (byteCells (imgHead seq size)) := by
      rw [imgHead_cells, cellsF_congr (f := ihByte seq size)]
      · exact b30
      · intro j hj
        unfold ihByte
        show _ = if 12 - 4 < j ∧ j ≤ 12 then shr size (96 - 8 * j) else if 1 ≤ j ∧ j ≤ 8 then shr seq (64 - 8 * j) else if j = 0 then (73 : UInt8) else if j = 63 then 90 else 0
        by_cases h0 : j = 0
        · subst h0; rfl
        by_cases h63 : j = 63
        · subst h63; rfl
        rw [if_neg h0, if_neg h63]
        by_cases h18 : 1 ≤ j ∧ j ≤ 8
        · rw [if_pos h18, if_neg (by omega), if_pos h18]
        rw [if_neg h18, if_neg h18]
        by_cases h9 : 9 ≤ j ∧ j ≤ 12
        · rw [if_pos h9, if_pos (by omega)]
        rw [if_neg h9, if_neg (by omega), if_neg h0, if_neg h63]
    obtain ⟨s1, s2⟩ := str_of hb (imgHead_size _ _)
    refine ⟨(imgHead seq size).data.toList, s1, s2, by rw [mk_str], ?_⟩
    exact st1.fr.trans f30 (fun x hx => .inr (by simp at hx; omega))

set_option maxHeartbeats 1000000 in
theorem riarea_c {w : World} {v : Value} {F : List Nat} {M : DM} (h : RefAt w v F M) {a count : Nat} (ha : a < M.sure.length) (hc : 1 ≤ count) (hc2 : count ≤ 4096) :
    Calls prog 91 #[v, I64 (a : Nat), I64 (count : Nat)] w fun e w' => Fr [] w w' ∧ e = .returned (.tuple #[I64 ((iareaAt M.now a count).1 : Nat), I64 ((iareaAt M.now a count).2 : Nat)]) := by
  obtain ⟨hok, sA, sC, nA, nC, fA, fC, rfl, h1, h2, h3, h4⟩ := h
  have hhi := hok.hi
  have hnl : M.now.length = M.sure.length := hok.now
  obtain ⟨hnow, h64⟩ := hok.nowAt ha
  have hnA : M.now.getD a zsec = M.nowAt a := rfl
  obtain ⟨ad, had⟩ := h2.has (by rw [List.length_map]; omega)
  have harea : iareaAt M.now a count = if 1 ≤ beN (bytesAt (M.nowAt a) 1 8) ∧ beN (bytesAt (M.nowAt a) 1 8) ≤ 4611686018427387904 ∧ beN (bytesAt (M.nowAt a) 9 4) ≤ 64 * (count - 1) ∧ M.nowAt a = imgHead (beN (bytesAt (M.nowAt a) 1 8) : Nat) (beN (bytesAt (M.nowAt a) 9 4) : Nat) then (beN (bytesAt (M.nowAt a) 1 8), beN (bytesAt (M.nowAt a) 9 4)) else (0, 0) := rfl
  generalize hh : M.nowAt a = hd at *
  have hb : ∀ j : Nat, byteAt hd (j : Int) = ((hd.data.getD j 0).toNat : Int) := fun j => by
    unfold byteAt
    simp [Array.getD_eq_getD_getElem?, List.getD_eq_getElem?_getD]
  have hx : ∀ j : Nat, (hd.data.getD j 0).toNat < 256 := fun j => (hd.data.getD j 0).toNat_lt
  have hwx : ∀ j : Nat, IntKind.wrap .i64 (byteAt hd (j : Int)) = ((hd.data.getD j 0).toNat : Int) := fun j => by
    rw [hb j]; have := hx j; exact wrapi (by omega) (by omega)
  have hs64 : ((hd.size : Nat) : Int) = 64 := by rw [h64]; rfl
  refine rhizomeref05_area.link fun k1 => ⟨ad, had, ⟨by omega, by show (a : Int) < (M.sure.length : Int); omega⟩, hd, ?_, ?_⟩
  · rw [show Int.toNat (a : Int) * 1 = a by omega]
    exact h2.get had (j := a) (u := .string hd) (by rw [List.getElem?_map, hnow]; rfl)
  have none_ : ∀ w', Fr [] w w' → iareaAt M.now a count = (0, 0) → Fr [] w w' ∧ Ending.returned (.tuple #[I64 0, I64 0]) = .returned (.tuple #[I64 ((iareaAt M.now a count).1 : Nat), I64 ((iareaAt M.now a count).2 : Nat)]) := fun w' f hn => ⟨f, by rw [hn]; rfl⟩
  refine ⟨fun m q n w' => ∃ i : Nat, q = (beN (bytesAt hd 1 i) : Nat) ∧ n = ((i + 1 : Nat) : Int) ∧ i ≤ 8 ∧ m = 8 - i ∧ beN (bytesAt hd 1 i) ≤ 4611686018427388159 ∧ Fr [] w w', 8, fun w6 st => ⟨0, rfl, rfl, by omega, rfl, by show 0 ≤ _; omega, st.fr⟩, ?_⟩
  rintro m q n w11 ⟨i, rfl, rfl, hi, rfl, hbd, f11⟩
  refine bc (fun hlt => ?_) fun hge => ?_
  · have hlt : ((i + 1 : Nat) : Int) < 9 := of_decide_eq_true hlt
    refine bc (fun hbig => ?_) fun hle => ⟨⟨by omega, by omega⟩, 8 - (i + 1), by omega, i + 1, ?_, ?_, by omega, rfl, ?_, f11⟩
    · have hbig : (18014398509481984 : Int) < _ := of_decide_eq_true hbig
      refine none_ _ f11 ?_
      rw [harea, if_neg]
      rintro ⟨_, hm, _⟩
      have h1 := beN_more hd 1 (i + 1) (8 - (i + 1))
      rw [show i + 1 + (8 - (i + 1)) = 8 by omega, bytesAt_succ, beN_succ] at h1
      have h2 : 1 ≤ 256 ^ (8 - (i + 1)) := Nat.pos_of_ne_zero (by simp)
      have h3 := Nat.mul_le_mul_left (beN (bytesAt hd 1 i) * 256 + (hd.data.getD (1 + i) 0).toNat) h2
      omega
    · have hle : ¬ (18014398509481984 : Int) < _ := of_decide_eq_false hle
      have x := hx (1 + i)
      rw [hwx (i + 1), show i + 1 = 1 + i by omega, wrapi (n := ((beN (bytesAt hd 1 i) : Nat) : Int) * 256) (by omega) (by omega), wrapi (by omega) (by omega), show 1 + i = i + 1 by omega, bytesAt_succ, beN_succ, show 1 + i = i + 1 by omega]
      omega
    · rw [wrapi (by omega) (by omega)]; omega
    · have hle : ¬ (18014398509481984 : Int) < _ := of_decide_eq_false hle
      have x := hx (1 + i)
      rw [bytesAt_succ, beN_succ]; omega
  have hge : ¬ ((i + 1 : Nat) : Int) < 9 := of_decide_eq_false hge
  have hi8 : i = 8 := by omega
  subst hi8
  generalize hsq : beN (bytesAt hd 1 8) = seq at *
  refine ⟨fun m q n w' => ∃ i : Nat, q = (beN (bytesAt hd 9 i) : Nat) ∧ n = ((i + 9 : Nat) : Int) ∧ i ≤ 4 ∧ m = 4 - i ∧ Fr [] w w', 4, ⟨0, rfl, rfl, by omega, rfl, f11⟩, ?_⟩
  rintro m q n w19 ⟨i, rfl, rfl, hi, rfl, f19⟩
  refine bc (fun hlt => ?_) fun hge => ?_
  · have hlt : ((i + 9 : Nat) : Int) < 13 := of_decide_eq_true hlt
    have hl := beN_lt (bytesAt hd 9 i)
    have hll : (bytesAt hd 9 i).length = i := by simp [bytesAt]
    rw [hll] at hl
    have hpow : 256 ^ i ≤ 256 ^ 4 := Nat.pow_le_pow_right (by omega) hi
    have x := hx (9 + i)
    refine ⟨⟨by omega, by omega⟩, 4 - (i + 1), by omega, i + 1, ?_, ?_, by omega, rfl, f19⟩
    · rw [hwx (i + 9), show i + 9 = 9 + i by omega, wrapi (n := ((beN (bytesAt hd 9 i) : Nat) : Int) * 256) (by omega) (by omega), wrapi (by omega) (by omega), bytesAt_succ, beN_succ]
      omega
    · rw [wrapi (by omega) (by omega)]; omega
  have hge : ¬ ((i + 9 : Nat) : Int) < 13 := of_decide_eq_false hge
  have hi4 : i = 4 := by omega
  subst hi4
  have hS := beN_lt (bytesAt hd 9 4)
  have hSl : (bytesAt hd 9 4).length = 4 := by simp [bytesAt]
  rw [hSl] at hS
  generalize hsz : beN (bytesAt hd 9 4) = size at *
  intro y22 hy22
  have bad : ∀ w', Fr [] w w' → iareaAt M.now a count = (0, 0) → y22 true w' := fun w' f hn => hy22 _ _ (bT rfl (none_ w' f hn))
  have x1 : IntKind.wrap .i64 (64 * IntKind.wrap .i64 ((count : Int) - 1)) = ((64 * (count - 1) : Nat) : Int) := by
    rw [wrapi (n := (count : Int) - 1) (by omega) (by omega), wrapi (by omega) (by omega)]; omega
  rw [x1]
  refine bc (fun hc => bad _ f19 ?_) fun hc1 => bc (fun hc => bad _ f19 ?_) fun hc2 => bc (fun hc => bad _ f19 ?_) fun hc3 => ?_
  · have hc := of_decide_eq_true hc
    rw [harea, if_neg (by omega)]
  · have hc := of_decide_eq_true hc
    rw [harea, if_neg (by omega)]
  · have hc := of_decide_eq_true hc
    rw [harea, if_neg (by omega)]
  have hc1 := of_decide_eq_false hc1
  have hc2 := of_decide_eq_false hc2
  have hc3 := of_decide_eq_false hc3
  refine (rihead_c w19 (seq := seq) (size := size) (by omega) (by omega)).mono ?_
  rintro e w28 ⟨rfl, f28⟩
  refine ⟨_, rfl, ?_⟩
  by_cases hh : hd = imgHead seq size
  · rw [decide_eq_true hh]
    refine hy22 _ _ (bF rfl ⟨f19.trans' f28, ?_⟩)
    rw [harea, if_pos ⟨by omega, by omega, by omega, hh⟩]
  · rw [decide_eq_false hh]
    refine bad _ (f19.trans' f28) ?_
    rw [harea, if_neg (fun hx => hh hx.2.2.2)]

theorem iarea_zero2 {now : List ByteArray} {a count : Nat} (h : (iareaAt now a count).1 = 0) : iareaAt now a count = (0, 0) := by
  unfold iareaAt at h ⊢
  simp only at h ⊢
  split at h
  · rename_i hp
    exfalso
    have h : beN (bytesAt (now.getD a zsec) 1 8) = 0 := h
    omega
  · rename_i hn; rw [if_neg hn]
theorem ricounts_c {w : World} {v : Value} {F : List Nat} {M : DM} (h : RefAt w v F M) {first count : Nat} (hc : 2 ≤ count) (hhi : first + 2 * count ≤ M.sure.length) :
    Calls prog 82 #[v, I64 (first : Nat), I64 (count : Nat)] w fun e w' => Fr [] w w' ∧ ∃ at0 : Int, ((icounts M.now first count).2.1 ≠ 0 → at0 = ((first + (icounts M.now first count).1 * count : Nat) : Int)) ∧
      e = .returned (.tuple #[I64 at0, I64 ((icounts M.now first count).2.1 : Nat), I64 ((icounts M.now first count).2.2 : Nat)]) := by
  have hok := h.1
  have hn4 := hok.hi
  have hv := h
  obtain ⟨_, sA, sC, nA, nC, fA, fC, rfl, _⟩ := h
  refine rhizomeref05_Counts.link fun k1 w2 st2 => ?_
  have n2 := g_new1 st2
  have hv2 := hv.fr (F := F) (G := []) st2.fr (by simp)
  refine (riarea_c hv2 (a := first) (count := count) (by omega) (by omega) (by omega)).mono ?_
  rintro e w5 ⟨f5, rfl⟩
  have z5 := f5.size
  refine ⟨_, _, rfl, g_keep f5 (fun x hx => by simp at hx; subst hx; exact ⟨by omega, by simp⟩), ?_⟩
  have x1 : IntKind.wrap .i64 ((first : Int) + (count : Int)) = ((first + count : Nat) : Int) := by rw [wrapi (by omega) (by omega)]; omega
  rw [x1]
  refine (riarea_c (hv2.fr f5 (by simp)) (a := first + count) (count := count) (by omega) (by omega) (by omega)).mono ?_
  rintro e w9 ⟨f9, rfl⟩
  have F9 : Fr [] w w9 := (st2.fr.trans' f5).trans' f9
  refine ⟨_, _, rfl, g_keep f9 (fun x hx => by simp at hx; subst hx; exact ⟨by omega, by simp⟩), fun y12 hy12 => ?_⟩
  simp only [icounts_cnt] at hy12
  have za := @iarea_zero2 M.now first count
  have zb := @iarea_zero2 M.now (first + count) count
  generalize iareaAt M.now first count = A at *
  generalize iareaAt M.now (first + count) count = B at *
  have key : ∀ bb : Bool, (bb = true ↔ A.1 = 0 ∧ B.1 = 0) → y12 bb w9 := fun bb hbb => by
    refine hy12 _ _ (bc (fun hb => ?_) fun hb => bc (fun hle => ?_) fun hle => ?_)
    · obtain ⟨h1, h2⟩ := hbb.1 hb
      rw [za h1, zb h2]
      exact ⟨F9, 0, fun hn => absurd rfl hn, rfl⟩
    · have hle := of_decide_eq_true hle
      have hn : ¬ (A.1 = 0 ∧ B.1 = 0) := fun hx => by rw [hbb.2 hx] at hb; cases hb
      have e : cnt A B = (0, A) := by unfold cnt; rw [if_pos ⟨by omega, by omega⟩]
      rw [e]
      exact ⟨F9, _, fun _ => by simp, rfl⟩
    · have hle := of_decide_eq_false hle
      have e : cnt A B = (1, B) := by unfold cnt; rw [if_neg (by omega)]
      rw [e]
      exact ⟨F9, _, fun _ => by simp, rfl⟩
  refine bc (fun h0 => key _ ?_) fun h0 => key _ ?_
  · have h0 := of_decide_eq_true h0
    rw [decide_eq_true_iff]; omega
  · have h0 := of_decide_eq_false h0
    constructor
    · intro h; cases h
    · rintro ⟨h, _⟩; omega

theorem riload_c {w : World} {v : Value} {F : List Nat} {M : DM} (h : RefAt w v F M) {first count : Nat} (hc : 2 ≤ count) (hhi : first + 2 * count ≤ M.sure.length) :
    Calls prog 54 #[v, I64 (first : Nat), I64 (count : Nat)] w fun e w' => Fr [] w w' ∧ e = .returned (.tuple #[I64 ((iload M.now first count).1 : Nat), .string (iload M.now first count).2.1, .bool (iload M.now first count).2.2]) := by
  have hok := h.1
  have hn4 := hok.hi
  have hnl : M.now.length = M.sure.length := hok.now
  have hv := h
  obtain ⟨_, sA, sC, nA, nC, fA, fC, rfl, _, h2, _⟩ := h
  refine rhizomeref05_Load.link fun k1 w2 st2 => ?_
  have n2 := g_new1 st2
  have hv2 := hv.fr (F := F) (G := []) st2.fr (by simp)
  refine (ricounts_c hv2 hc hhi).mono ?_
  rintro e w5 ⟨f5, at0, hat0, rfl⟩
  have z5 := f5.size
  have F5 : Fr [] w w5 := st2.fr.trans' f5
  refine ⟨_, _, _, rfl, g_keep f5 (fun x hx => by simp at hx; subst hx; exact ⟨by omega, by simp⟩), ?_⟩
  obtain ⟨l1, l2, l3⟩ := icounts_le M.now first count
  have spec : iload M.now first count = if (icounts M.now first count).2.1 = 0 then (0, ⟨#[]⟩, false) else ((icounts M.now first count).2.1, idata M.now (first + (icounts M.now first count).1 * count) (icounts M.now first count).2.2, true) := rfl
  rw [spec]
  clear spec
  generalize (icounts M.now first count).1 = K at *
  generalize (icounts M.now first count).2.1 = B at *
  generalize (icounts M.now first count).2.2 = S at *
  have hkc : K * count ≤ count := by
    have := Nat.mul_le_mul_right count l1
    omega
  refine bc (fun hz => ?_) fun hz => ?_
  · have hz : B = 0 := by have := of_decide_eq_true hz; omega
    rw [if_pos hz]
    exact ⟨F5, rfl⟩
  have hz : ¬ B = 0 := by have := of_decide_eq_false hz; omega
  rw [if_neg hz, hat0 hz]
  have hsS : secs S = (S + 63) / 64 := rfl
  have hba : first + K * count + 1 + secs S ≤ M.sure.length := by
    have : secs S ≤ count - 1 := by omega
    omega
  generalize first + K * count = a at *
  have h64s : S64 M.now := S64_of fun i s hs => hok.w64 _ _ hs
  refine ⟨fun m q s w' => ∃ i : Nat, q = ((a + i : Nat) : Int) ∧ s = ⟨(catL M.now (a + 1) i).toArray⟩ ∧ i ≤ secs S ∧ m = secs S - i ∧ Fr [] w w', secs S, ⟨0, rfl, rfl, by omega, rfl, F5⟩, ?_⟩
  rintro m q s w14 ⟨i, rfl, rfl, hi, rfl, f14⟩
  have hlen := catL_len h64s (a + 1) i
  have hsz : (⟨(catL M.now (a + 1) i).toArray⟩ : ByteArray).size = 64 * i := by
    show (catL M.now (a + 1) i).toArray.size = 64 * i
    rw [List.size_toArray, hlen]
  rw [hsz]
  refine bc (fun hlt => ?_) fun hge => ?_
  · have hlt := of_decide_eq_true hlt
    have x1 : IntKind.wrap .i64 (((a + i : Nat) : Int) + 1) = ((a + 1 + i : Nat) : Int) := by rw [wrapi (by omega) (by omega)]; omega
    rw [x1]
    have hR := g_row f14 h2 (fun ad _ _ => by simp)
    obtain ⟨ad, had⟩ := hR.has (by rw [List.length_map]; omega)
    have hin : a + 1 + i < M.now.length := by omega
    have hs : M.now[a + 1 + i]? = some M.now[a + 1 + i] := List.getElem?_eq_getElem hin
    have hs64 := hok.w64 _ _ hs
    refine ⟨ad, had, ⟨by omega, by show ((a + 1 + i : Nat) : Int) < (M.sure.length : Int); omega⟩, M.now[a + 1 + i], ?_, by omega, secs S - (i + 1), by omega, i + 1, by omega, ?_, by omega, rfl, f14⟩
    · rw [show Int.toNat ((a + 1 + i : Nat) : Int) * 1 = a + 1 + i by omega]
      exact hR.get had (j := a + 1 + i) (u := .string M.now[a + 1 + i]) (by rw [List.getElem?_map, hs]; rfl)
    · rw [ba_append, catL_succ]
      congr 2
      rw [List.getD_eq_getElem?_getD, hs]; rfl
  · have hge := of_decide_eq_false hge
    have hi' : i = secs S := by omega
    subst hi'
    refine ⟨⟨by omega, by omega, by omega⟩, fun w19 st19 => ⟨f14.trans' st19.fr, ?_⟩⟩
    rw [show ((S : Nat) : Int).toNat = S by omega, ba_extract]
    rfl

theorem rifits_c (w : World) {size first count : Int} (h1 : 1 ≤ size) (h2 : size ≤ 4096) (hf1 : -9223372036854775808 ≤ first) (hc2 : count < 9223372036854775808) :
    Calls prog 53 #[I64 size, I64 first, I64 count] w fun e w' => w' = w ∧ e = .returned (.bool (!decide (first < 0 ∨ count < 2 ∨ size < first ∨ (size - first) / 2 < count))) := by
  refine rhizomeref05_Fits.link fun y1 hy1 => ?_
  have key : ∀ bb : Bool, (bb = true ↔ ¬ (first < 0 ∨ count < 2 ∨ size < first ∨ (size - first) / 2 < count)) → y1 bb w := fun bb hbb => by
    refine hy1 _ _ ⟨rfl, ?_⟩
    congr 2
    by_cases hx : first < 0 ∨ count < 2 ∨ size < first ∨ (size - first) / 2 < count
    · rw [decide_eq_true hx]
      cases bb with
      | true => exact absurd hx (hbb.1 rfl)
      | false => rfl
    · rw [decide_eq_false hx]
      exact hbb.2 hx
  refine bc (fun c1 => bc (fun c2 => bc (fun c3 => ⟨by decide, ?_⟩) fun c3 => ?_) fun c2 => ?_) fun c1 => ?_
  · have c1 := of_decide_eq_true c1
    have c2 := of_decide_eq_true c2
    have c3 := of_decide_eq_true c3
    rw [wrapi (n := size - first) (by omega) (by omega), Int.tdiv_eq_ediv_of_nonneg (by omega), wrapi (by omega) (by omega)]
    refine key _ ?_
    rw [decide_eq_true_iff]; omega
  · have c3 := of_decide_eq_false c3
    exact key false ⟨(fun h => by cases h), fun h => absurd (.inr (.inr (.inl (by omega)))) h⟩
  · have c2 := of_decide_eq_false c2
    exact key false ⟨(fun h => by cases h), fun h => absurd (.inr (.inl (by omega))) h⟩
  · have c1 := of_decide_eq_false c1
    exact key false ⟨(fun h => by cases h), fun h => absurd (.inl (by omega)) h⟩
end Go.Proofs.Ytcaamecdhbgknaa.Image
