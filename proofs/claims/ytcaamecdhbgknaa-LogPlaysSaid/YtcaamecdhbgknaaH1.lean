/- The reference of the log: heads, sectors, ends. -/
import Derived.Test.YtcaamecdhbgknaaGP
import Derived.Test.YtcaamecdhbgknaaC7
namespace Go.Proofs.Ytcaamecdhbgknaa.Log
open Go Go.V
open Go.Proofs.Ytcaamecdhbgknaa.VC
open Go.Proofs.Ytcaamecdhbgknaa.Disk
open Go.Proofs.Try (prog)
set_option linter.unusedVariables false
set_option linter.unusedSimpArgs false
set_option maxRecDepth 20000

theorem rsectors_c (w : World) {n : Int} (h0 : 0 ≤ n) (h1 : n ≤ 4611686018427387904) : Calls prog 75 #[I64 n] w fun e w' => w' = w ∧ e = .returned (I64 (secs n.toNat : Nat)) := by
  refine rhizomeref04_Sectors.link ⟨fun m q w' => ∃ i : Nat, q = i ∧ i ≤ secs n.toNat ∧ m = secs n.toNat - i ∧ w' = w, secs n.toNat, ⟨0, rfl, by omega, rfl, rfl⟩, ?_⟩
  rintro m q w5 ⟨i, rfl, hi, rfl, rfl⟩
  have hs : secs n.toNat = (n.toNat + 63) / 64 := rfl
  have e : IntKind.wrap .i64 ((i : Int) * 64) = (i : Int) * 64 := wrapi (by omega) (by omega)
  rw [e]
  refine ⟨fun hlt => ?_, fun hge => ?_⟩
  · have hlt := of_decide_eq_true hlt
    exact ⟨secs n.toNat - (i + 1), by omega, i + 1, by rw [wrapi (by omega) (by omega)]; simp, by omega, rfl, rfl⟩
  · have hge := of_decide_eq_false hge
    have : i = secs n.toNat := by omega
    exact ⟨rfl, by rw [this]⟩

theorem shr_step (n t : Nat) : IntKind.wrap .u8 (Int.tmod ((n / 256 ^ t : Nat) : Int) 256) = ((shr (n : Int) (8 * t)).toNat : Int) := by
  rw [shr_nat, Nat.pow_mul, show (2 : Nat) ^ 8 = 256 from rfl, wrap8]
  generalize n / 256 ^ t = a
  rw [Int.tmod_eq_emod_of_nonneg (by omega)]; omega

set_option maxHeartbeats 1000000 in
theorem rhead_c (w : World) {seq size : Nat} (hs : seq < 9223372036854775808) (hz : size < 65536) : Calls prog 39 #[I64 (seq : Int), I64 (size : Int)] w fun e w' => e = .returned (.string (logHead seq size)) ∧ Fr [] w w' := by
  refine rhizomeref04_Head.link ⟨by decide, fun w1 k2 st1 b1 => ?_⟩
  have n1 := g_new1 st1
  have e1 : reps [Value.int .u8 0] 64 = cellsF (fun _ => 0) := by
    rw [reps_one]; simp [cellsF, List.map_const']
  rw [e1] at b1
  refine blk_store b1 0 (by rw [cellsF_len]; omega) (by decide) fun w7 u7 => ?_
  have b7 : Blk w7 k2 (cellsF fun j => if j = 0 then 82 else 0) := by
    rw [← cellsF_set (fun _ => 0) (by omega) 82]; exact u7.blk
  refine blk_store b7 63 (by rw [cellsF_len]; omega) (by decide) fun w11 u11 => ?_
  have b11 : Blk w11 k2 (cellsF fun j => if j = 63 then 165 else if j = 0 then 82 else 0) := by
    rw [← cellsF_set (fun j => if j = 0 then 82 else 0) (by omega) 165]; exact u11.blk
  have f11 : Fr [k2] w1 w11 := (u7.fr).trans u11.fr (fun x hx => .inl hx)
  refine ⟨fun m s q w' => ∃ t : Nat, s = ((seq / 256 ^ t : Nat) : Int) ∧ q = ((8 - t : Nat) : Int) ∧ t ≤ 8 ∧ m = 8 - t ∧ Fr [k2] w1 w' ∧ Blk w' k2 (cellsF fun j => if 8 - t < j ∧ j ≤ 8 then shr seq (64 - 8 * j) else if j = 0 then 82 else if j = 63 then 165 else 0), 8, ⟨0, by simp, rfl, by omega, rfl, f11, ?_⟩, ?_⟩
  · rw [cellsF_congr (g := fun j => if j = 63 then 165 else if j = 0 then 82 else 0)]
    · exact b11
    · intro j hj
      show (if 8 - 0 < j ∧ j ≤ 8 then shr seq (64 - 8 * j) else if j = 0 then (82 : UInt8) else if j = 63 then 165 else 0) = if j = 63 then 165 else if j = 0 then 82 else 0
      rw [if_neg (by omega)]
      by_cases h1 : j = 0
      · subst h1; rfl
      · rw [if_neg h1, if_neg h1]
  rintro m s q w18 ⟨t, rfl, rfl, ht, rfl, f18, b18⟩
  refine ⟨fun hlt => ⟨by decide, ?_⟩, fun hge => ⟨by decide, ?_⟩⟩
  · have hlt : (0 : Int) < ((8 - t : Nat) : Int) := of_decide_eq_true hlt
    have e6 : Int.toNat ((8 - t : Nat) : Int) * 1 = 8 - t := by omega
    rw [e6, shr_step]
    refine blk_store b18 (8 - t) (by rw [cellsF_len]; omega) ⟨by omega, by omega⟩ fun w22 u22 => ⟨by decide, 8 - (t + 1), by omega, t + 1, ?_, ?_, by omega, rfl, f18.trans u22.fr (fun x hx => .inl hx), ?_⟩
    · have : seq / 256 ^ t ≤ seq := Nat.div_le_self _ _
      rw [Nat.pow_succ, ← Nat.div_div_eq_div_mul]
      generalize seq / 256 ^ t = a at this ⊢
      rw [Int.tdiv_eq_ediv_of_nonneg (by omega), wrapi (by omega) (by omega)]; omega
    · rw [wrapi (by omega) (by omega)]; omega
    · have b22 := u22.blk
      rw [cellsF_set _ (by omega)] at b22
      rw [cellsF_congr (g := fun j => if j = 8 - t then shr seq (8 * t) else if 8 - t < j ∧ j ≤ 8 then shr seq (64 - 8 * j) else if j = 0 then 82 else if j = 63 then 165 else 0)]
      · exact b22
      · intro j hj
        show (if 8 - (t + 1) < j ∧ j ≤ 8 then shr seq (64 - 8 * j) else if j = 0 then (82 : UInt8) else if j = 63 then 165 else 0) = if j = 8 - t then shr seq (8 * t) else if 8 - t < j ∧ j ≤ 8 then shr seq (64 - 8 * j) else if j = 0 then 82 else if j = 63 then 165 else 0
        by_cases h1 : j = 8 - t
        · subst h1
          rw [if_pos (by omega), if_pos rfl, show 64 - 8 * (8 - t) = 8 * t by omega]
        · rw [if_neg h1]
          by_cases h2 : 8 - t < j ∧ j ≤ 8
          · rw [if_pos (by omega), if_pos h2]
          · rw [if_neg (by omega), if_neg h2]
  · have hge : ¬ (0 : Int) < ((8 - t : Nat) : Int) := of_decide_eq_false hge
    have ht8 : t = 8 := by omega
    subst ht8
    have e9 : IntKind.wrap .u8 (IntKind.wrap .i64 (Int.tdiv (size : Int) 256)) = ((shr (size : Int) 8).toNat : Int) := by
      rw [shr_nat, Int.tdiv_eq_ediv_of_nonneg (by omega), wrapi (by omega) (by omega), wrap8]; omega
    have e10 : IntKind.wrap .u8 (Int.tmod (size : Int) 256) = ((shr (size : Int) 0).toNat : Int) := by
      rw [shr_nat, Int.tmod_eq_emod_of_nonneg (by omega), wrap8]; omega
    rw [e9, e10]
    refine blk_store b18 9 (by rw [cellsF_len]; omega) (by decide) fun w27 u27 => ?_
    have b27 := u27.blk
    rw [cellsF_set _ (by omega)] at b27
    refine ⟨by decide, blk_store b27 10 (by rw [cellsF_len]; omega) (by decide) fun w31 u31 => ?_⟩
    have b31 := u31.blk
    rw [cellsF_set _ (by omega)] at b31
    have hb : Blk w31 k2 (byteCells (logHead seq size)) := by
      rw [logHead_cells, cellsF_congr (f := hdByte 82 165 seq size)]
      · exact b31
      · intro j hj
        unfold hdByte
        show _ = if j = 10 then shr size 0 else if j = 9 then shr size 8 else if 8 - 8 < j ∧ j ≤ 8 then shr seq (64 - 8 * j) else if j = 0 then (82 : UInt8) else if j = 63 then 165 else 0
        by_cases h0 : j = 0
        · subst h0; rfl
        by_cases h63 : j = 63
        · subst h63; rfl
        by_cases h18 : 1 ≤ j ∧ j ≤ 8
        · rw [if_neg h0, if_neg h63, if_pos h18, if_neg (by omega), if_neg (by omega), if_pos (by omega)]
        by_cases h9 : j = 9
        · subst h9; rfl
        by_cases h10 : j = 10
        · subst h10; rfl
        rw [if_neg h0, if_neg h63, if_neg h18, if_neg h9, if_neg h10, if_neg h10, if_neg h9, if_neg (by omega), if_neg h0, if_neg h63]
    obtain ⟨s1, s2⟩ := str_of hb (logHead_size _ _)
    refine ⟨(logHead seq size).data.toList, s1, s2, by rw [mk_str], ?_⟩
    exact st1.fr.trans ((f18.trans u27.fr (fun x hx => .inl hx)).trans u31.fr (fun x hx => .inl hx)) (fun x hx => .inr (by simp at hx; omega))

/-! ### The reference's records -/
abbrev RR := List (Nat × ByteArray)
def rrcells (rs : RR) : List Value := rs.flatMap fun r => [I64 (r.1 : Nat), .string r.2]
theorem rrcells_len (rs : RR) : (rrcells rs).length = rs.length * 2 := by
  induction rs with
  | nil => rfl
  | cons r rs ih =>
    show (I64 (r.1 : Nat) :: .string r.2 :: rrcells rs).length = _
    rw [List.length_cons, List.length_cons, ih, List.length_cons]; omega
theorem rrcells_get (rs : RR) (i : Nat) (hi : i < rs.length) : (rrcells rs)[i * 2]? = some (I64 (rs[i].1 : Nat)) ∧ (rrcells rs)[i * 2 + 1]? = some (.string rs[i].2) := by
  induction rs generalizing i with
  | nil => simp at hi
  | cons r rs ih =>
    have e : rrcells (r :: rs) = I64 (r.1 : Nat) :: .string r.2 :: rrcells rs := rfl
    rw [e]
    cases i with
    | zero => exact ⟨rfl, rfl⟩
    | succ i =>
      have := ih i (by simpa using hi)
      rw [show (i + 1) * 2 = i * 2 + 1 + 1 by omega]
      simpa using this
theorem rrcells_one (rs : RR) : ∀ u ∈ rrcells rs, u.oneCell' = true := fun u hu => by
  obtain ⟨r, _, h⟩ := List.mem_flatMap.1 hu
  simp at h
  rcases h with rfl | rfl <;> rfl
def rend (first : Nat) (rs : RR) : Nat := rs.foldl (fun a r => a + 1 + secs r.2.size) first
theorem rend_snoc (first : Nat) (rs : RR) (r : Nat × ByteArray) : rend first (rs ++ [r]) = rend first rs + 1 + secs r.2.size := by simp [rend]
theorem rend_take (first : Nat) (rs : RR) (i : Nat) (hi : i < rs.length) : rend first (rs.take (i + 1)) = rend first (rs.take i) + 1 + secs rs[i].2.size := by
  rw [List.take_succ_eq_append_getElem hi, rend_snoc]
theorem rend_mono (rs : RR) : ∀ first, first ≤ rend first rs := by
  induction rs with
  | nil => intro f; exact Nat.le_refl _
  | cons r rs ih =>
    intro f
    have := ih (f + 1 + secs r.2.size)
    show f ≤ rend (f + 1 + secs r.2.size) rs
    omega
theorem rend_le (first : Nat) (rs : RR) (i : Nat) : rend first (rs.take i) ≤ rend first rs := by
  have : rend first rs = rend (rend first (rs.take i)) (rs.drop i) := by
    unfold rend
    rw [← List.foldl_append, List.take_append_drop]
  rw [this]; exact rend_mono _ _
/-- The value of a log of the reference. -/
def rlog (first count : Int) (p : Option Addr) (c : Nat) (rs : RR) (next : Int) : Value := .agg #[I64 first, I64 count, .slice p rs.length c, I64 next]

theorem rend_c {w : World} {first : Nat} {count : Int} {p : Option Addr} {c : Nat} {rs : RR} {next : Int} (hr : Row w p (rrcells rs)) (hb : rend first rs ≤ 4611686018427387904) (hsz : ∀ r ∈ rs, r.2.size ≤ 4611686018427387904) (hln : rs.length ≤ 4611686018427387904) :
    Calls prog 73 #[rlog first count p c rs next] w fun e w' => e = .returned (I64 (rend first rs : Nat)) ∧ Fr [] w w' := by
  refine rhizomeref04_End.link fun k1 => ?_
  refine ⟨fun m q n w' => ∃ i : Nat, n = i ∧ i ≤ rs.length ∧ m = rs.length - i ∧ q = (rend first (rs.take i) : Nat) ∧ Fr [] w w' ∧ k1 < w'.heap.size, rs.length, fun w4 st => ⟨0, rfl, by omega, rfl, rfl, st.fr, (g_new1 st).2⟩, ?_⟩
  rintro m q n w9 ⟨i, rfl, hi, rfl, rfl, f9, hk1⟩
  refine ⟨fun hlt => ?_, fun hge => ?_⟩
  · have hlt : (i : Int) < (rs.length : Int) := of_decide_eq_true hlt
    have hi' : i < rs.length := by omega
    have hr9 := g_row f9 hr (fun ad _ _ => by simp)
    obtain ⟨ad, had⟩ := hr9.has (by rw [rrcells_len]; omega)
    have e0 : (i : Int).toNat * 2 = i * 2 := by omega
    have hle := rend_le first rs (i + 1)
    rw [rend_take _ _ _ hi'] at hle
    refine ⟨ad, had, ⟨by omega, hlt⟩, rs[i].2, ?_, (rsectors_c w9 (n := (rs[i].2.size : Int)) (by omega) (by have := hsz _ (List.getElem_mem hi'); omega)).mono ?_⟩
    · rw [e0]
      have h1 := hr9.get had (rrcells_get rs i hi').2
      rw [← h1]
      congr 1
      unfold Addr.add
      by_cases h0 : i = 0
      · simp [h0]
      · have h0' : ¬ i * 2 = 0 := by omega
        simp [h0, h0', Nat.add_assoc]
    rintro e w14 ⟨rfl, rfl⟩
    refine ⟨_, rfl, fun b hb => rfl, rs.length - (i + 1), by omega, i + 1, by rw [wrapi (by omega) (by omega)]; simp, by omega, rfl, ?_, f9, hk1⟩
    rw [rend_take _ _ _ hi', show ((rs[i].2.size : Int)).toNat = rs[i].2.size by omega, wrapi (n := ((rend first (rs.take i) : Nat) : Int) + 1) (by omega) (by omega), wrapi (by omega) (by omega)]
    simp
  · have hge : ¬ (i : Int) < (rs.length : Int) := of_decide_eq_false hge
    have : i = rs.length := by omega
    subst this
    exact ⟨by rw [List.take_length], f9⟩

end Go.Proofs.Ytcaamecdhbgknaa.Log
