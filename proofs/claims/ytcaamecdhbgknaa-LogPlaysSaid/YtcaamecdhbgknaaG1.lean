/- The log: its small functions. -/
import Derived.Test.YtcaamecdhbgknaaDA
import Derived.Test.YtcaamecdhbgknaaUA
import Derived.Test.YtcaamecdhbgknaaC4
import Derived.Laws.Bits64b
namespace Go.Proofs.Ytcaamecdhbgknaa.Log
open Go Go.V
open Go.Proofs.Ytcaamecdhbgknaa.VC
open Go.Proofs.Ytcaamecdhbgknaa.Disk
open Go.Proofs.Try (prog)
set_option linter.unusedVariables false
set_option linter.unusedSimpArgs false
set_option maxRecDepth 20000

theorem wrap8 (n : Int) : IntKind.wrap .u8 n = n % 256 := by simp [IntKind.wrap, IntKind.bits, IntKind.signed]
theorem wrap64m (n : Int) : IntKind.wrap .i64 n = if n % 18446744073709551616 ≥ 9223372036854775808 then n % 18446744073709551616 - 18446744073709551616 else n % 18446744073709551616 := by
  simp [IntKind.wrap, IntKind.bits, IntKind.signed]
theorem ofInt_wrap (n : Int) : BitVec.ofInt 64 (IntKind.wrap .i64 n) = BitVec.ofInt 64 n := by
  apply BitVec.eq_of_toNat_eq
  rw [BitVec.toNat_ofInt, BitVec.toNat_ofInt, wrap64m]
  split <;> omega
/-- A byte behind. -/
theorem or_byte (p : Int) {q : Int} (h0 : 0 ≤ q) (h1 : q < 256) : bits .or .i64 (IntKind.wrap .i64 (p * 2 ^ 8)) q = IntKind.wrap .i64 (p * 256 + q) := by
  show IntKind.i64.wrap ((BitVec.ofInt 64 (IntKind.wrap .i64 (p * 2 ^ 8)) ||| BitVec.ofInt 64 q).toNat : Int) = _
  rw [ofInt_wrap, BitVec.toNat_or, BitVec.toNat_ofInt, BitVec.toNat_ofInt]
  have e2 : (q % ((2 ^ 64 : Nat) : Int)).toNat = q.toNat := by omega
  obtain ⟨c, hc⟩ : ∃ c : Nat, (p * 2 ^ 8 % ((2 ^ 64 : Nat) : Int)).toNat = 2 ^ 8 * c := ⟨(p % 72057594037927936).toNat, by omega⟩
  rw [e2, hc, ← Nat.two_pow_add_eq_or_of_lt (by omega)]
  rw [wrap64m, wrap64m]
  have : ((2 ^ 8 * c + q.toNat : Nat) : Int) % 18446744073709551616 = (p * 256 + q) % 18446744073709551616 := by omega
  rw [this]

def secs (n : Nat) : Nat := (n + 63) / 64
theorem sectors_c (w : World) {n : Int} (h0 : 0 ≤ n) (h1 : n ≤ 4611686018427387904) : Calls prog 66 #[I64 n] w fun e w' => w' = w ∧ e = .returned (I64 (secs n.toNat : Nat)) := by
  refine log_sectors.link ⟨by decide, rfl, ?_⟩
  have e1 : IntKind.wrap .i64 (IntKind.wrap .i64 (IntKind.wrap .i64 (n + 64) - 1)) = n + 63 := by
    rw [wrapi (n := n + 64) (by omega) (by omega), wrapi (n := n + 64 - 1) (by omega) (by omega), wrapi (by omega) (by omega)]; omega
  have e3 : IntKind.wrap .i64 (n + 64) = n + 64 := wrapi (by omega) (by omega)
  have e4 : IntKind.wrap .i64 (n + 64 - 1) = n + 63 := by rw [wrapi (by omega) (by omega)]; omega
  rw [e3, e4]
  have e2 : Int.tdiv (n + 63) 64 = (n + 63) / 64 := Int.tdiv_eq_ediv_of_nonneg (by omega)
  rw [e2, wrapi (by omega) (by omega)]
  unfold secs I64
  congr 2
  omega

theorem equal_c {w : World} {aA bA : Option Addr} {aC bC : Nat} {x y : ByteArray} (ha : Row w aA (byteCells x)) (hb : Row w bA (byteCells y)) : Calls prog 67 #[.slice aA x.size aC, .slice bA y.size bC] w fun e w' => w' = w ∧ e = .returned (.bool (decide (x = y))) := by
  refine bytes_Equal.link (row_str ha rfl (row_str hb rfl ⟨rfl, ?_⟩))
  rw [str_eta, str_eta]

theorem size0 {w : World} {x : ByteArray} (h : Row w none (byteCells x)) : x.size = 0 := by
  rcases Nat.eq_zero_or_pos x.size with h0 | h0
  · exact h0
  · obtain ⟨ad, e⟩ := h.has (by rw [byteCells_length]; exact h0)
    cases e
theorem byteCells_empty {s : ByteArray} (h : s.size = 0) : byteCells s = [] := List.length_eq_zero_iff.1 (by rw [byteCells_length]; exact h)
theorem clone_b {w : World} {sA : Option Addr} {sC : Nat} {s : ByteArray} (h : Row w sA (byteCells s)) (hz : s.size ≤ 140737488351232) : Calls prog 69 #[.slice sA s.size sC] w fun e w' => ∃ p c, e = .returned (.slice p s.size c) ∧ Fr [] w w' ∧ OwnZ w' w.heap.size 1 p s.size c (byteCells s) := by
  refine slices_Clone_g.link ⟨fun hn => ?_, fun hn k1 w2 st b2 => ⟨byteCells s, by rw [byteCells_length, Nat.mul_one], g_row st.fr h fun ad _ _ => by simp, ?_⟩⟩
  · have : sA = none := by simpa using hn
    subst this
    have h0 := size0 h
    rw [h0, byteCells_empty h0]
    exact ⟨none, 0, rfl, Fr.refl _ _, OwnZ.nil _ _ _⟩
  · have n1 := g_new1 st
    have o2 : OwnZ w2 w.heap.size 1 (some ⟨k1, 0, none⟩) 0 0 [] := OwnZ.blk (b := k1) (n := 0) b2 (by simp) (fun u hu => by cases hu) n1.1
    refine append_z o2 (by rw [byteCells_length, Nat.mul_one]) (byteCells_one _) (by omega) rfl (fun _ => rfl) (fun ad _ => by simp) (fun ad _ hm => by cases hm) (by omega) (by omega) fun w6 p c f6 _ o6 d6 => ?_
    rw [Nat.zero_add, List.nil_append] at o6
    rw [Nat.zero_add]
    refine ⟨p, c, rfl, ?_, o6⟩
    clear h
    (refine mkFr ?_ ?_ ?_ <;> grind (splits := 40) [→ g_size, → g_sys, g_get, → g_step, → g_upd, → g_updb, → g_updz, → g_mupd, → g_mupdm, → g_istep, → g_new1, → g_new2, → g_new3, → g_new4, → g_blk, → g_blk_lt, → g_own, → g_own_lt, → g_row, → g_map, → g_map_lt, → g_ownz, → g_ownz_lt, → g_news1, → g_news2, → g_news3, = g_mem_pb, = g_pb_none, = g_pb_some])

/-- A store into a block. -/
theorem blk_store {w : World} {k : Nat} {cs : List Value} {x : Value} {K : World → Prop} {p : Prop} (h : Blk w k cs) (m : Nat) (hm : m < cs.length) (hp : p) (hK : ∀ w', Upd w w' k (cs.set m x) → K w') :
    ∃ ad, some (⟨k, 0, none⟩ : Addr) = some ad ∧ p ∧ ∃ l6 : List Value, Blk w (Addr.block (ad.add m)) l6 ∧ Addr.spot (ad.add m) = none ∧ Addr.off (ad.add m) + 1 ≤ l6.length ∧ ∀ w', Upd w w' (Addr.block (ad.add m)) (sets l6 (Addr.off (ad.add m)) [x]) → K w' := by
  refine ⟨_, rfl, hp, cs, ?_⟩
  rw [add_mk, Nat.zero_add]
  exact ⟨h, rfl, hm, fun w' hu => hK w' hu⟩

/-- Cells by a function. -/
def cellsF (f : Nat → UInt8) : List Value := (List.range 64).map fun j => Value.int .u8 ((f j).toNat : Int)
theorem cellsF_len (f : Nat → UInt8) : (cellsF f).length = 64 := by simp [cellsF]
theorem cellsF_set (f : Nat → UInt8) {i : Nat} (hi : i < 64) (x : UInt8) : (cellsF f).set i (Value.int .u8 (x.toNat : Int)) = cellsF (fun j => if j = i then x else f j) := by
  apply List.ext_getElem?
  intro j
  rw [List.getElem?_set]
  by_cases hj : j < 64
  · unfold cellsF
    rw [List.getElem?_map, List.getElem?_map, List.getElem?_range hj]
    by_cases e : i = j
    · subst e; simp [hi]
    · have e' : ¬ j = i := fun h => e h.symm
      simp [e, e']
  · rw [if_neg (by omega), List.getElem?_eq_none (by rw [cellsF_len]; omega), List.getElem?_eq_none (by rw [cellsF_len]; omega)]
theorem cellsF_congr {f g : Nat → UInt8} (h : ∀ j, j < 64 → f j = g j) : cellsF f = cellsF g := List.map_congr_left fun j hj => by rw [h j (List.mem_range.1 hj)]

def shr (n : Int) (k : Nat) : UInt8 := UInt8.ofNat ((n.fdiv (2 ^ k)) % 256).toNat
theorem shr_wrap (n : Int) (k : Nat) : IntKind.wrap .u8 (n.fdiv (2 ^ k)) = ((shr n k).toNat : Int) := by
  rw [wrap8]
  unfold shr
  rw [UInt8.toNat_ofNat']
  omega
def hdByte (a b : UInt8) (seq size : Int) (j : Nat) : UInt8 := if j = 0 then a else if j = 63 then b else if 1 ≤ j ∧ j ≤ 8 then shr seq (64 - 8 * j) else if j = 9 then shr size 8 else if j = 10 then shr size 0 else 0
def logHead (seq size : Int) : ByteArray := ⟨((List.range 64).map (hdByte 82 165 seq size)).toArray⟩
theorem logHead_size (seq size : Int) : (logHead seq size).size = 64 := by simp [logHead, ByteArray.size]
theorem logHead_cells (seq size : Int) : byteCells (logHead seq size) = cellsF (hdByte 82 165 seq size) := by simp [byteCells, logHead, cellsF]

theorem head_c (w : World) (seq size : Int) : Calls prog 70 #[I64 seq, I64 size] w fun e w' => ∃ k, e = .returned (.slice (some ⟨k, 0, none⟩) 64 64) ∧ w.heap.size ≤ k ∧ Fr [] w w' ∧ Blk w' k (byteCells (logHead seq size)) := by
  refine log_head.link ⟨by decide, fun w1 k2 st1 b1 => ?_⟩
  have n1 := g_new1 st1
  have e1 : reps [Value.int .u8 0] 64 = cellsF (fun _ => 0) := by
    rw [reps_one]; simp [cellsF, List.map_const']
  rw [e1] at b1
  refine blk_store b1 0 (by rw [cellsF_len]; omega) (by decide) fun w7 u7 => ?_
  have b7 : Blk w7 k2 (cellsF fun j => if j = 0 then 82 else 0) := by
    rw [← cellsF_set (fun _ => 0) (by omega) 82]; exact u7.blk
  refine blk_store b7 63 (by rw [cellsF_len]; omega) (by decide) fun w11 u11 => ?_
  have b11 : Blk w11 k2 (cellsF fun j => if j = 63 then 165 else if j = 0 then 82 else 0) := by
    rw [← cellsF_set (fun j => if j = 0 then 82 else 0) (by omega) 165]; exact u11.blk
  refine ⟨fun m q w' => ∃ i : Nat, q = i ∧ i ≤ 8 ∧ m = 8 - i ∧ Fr [k2] w1 w' ∧ Blk w' k2 (cellsF fun j => if 1 ≤ j ∧ j ≤ i then shr seq (64 - 8 * j) else if j = 0 then 82 else if j = 63 then 165 else 0), 8, ⟨0, rfl, by omega, rfl, ?_, ?_⟩, ?_⟩
  · (refine mkFr ?_ ?_ ?_ <;> grind (splits := 40) [→ g_size, → g_sys, g_get, → g_step, → g_upd, → g_updb, → g_updz, → g_mupd, → g_mupdm, → g_istep, → g_new1, → g_new2, → g_new3, → g_new4, → g_blk, → g_blk_lt, → g_own, → g_own_lt, → g_row, → g_map, → g_map_lt, → g_ownz, → g_ownz_lt, → g_news1, → g_news2, → g_news3, = g_mem_pb, = g_pb_none, = g_pb_some])
  · rw [cellsF_congr (g := fun j => if j = 63 then 165 else if j = 0 then 82 else 0)]
    · exact b11
    · intro j hj
      show (if 1 ≤ j ∧ j ≤ 0 then shr seq (64 - 8 * j) else if j = 0 then (82 : UInt8) else if j = 63 then 165 else 0) = if j = 63 then 165 else if j = 0 then 82 else 0
      rw [if_neg (by omega)]
      by_cases h1 : j = 0
      · subst h1; rfl
      · rw [if_neg h1, if_neg h1]
  rintro m q w17 ⟨i, rfl, hi, rfl, f17, b17⟩
  refine ⟨fun hlt => ?_, fun hge => ⟨by decide, ?_⟩⟩
  · have hlt : (i : Int) < 8 := of_decide_eq_true hlt
    have e2 : IntKind.wrap .i64 (8 * (i : Int)) = 8 * (i : Int) := wrapi (by omega) (by omega)
    have e3 : IntKind.wrap .i64 (56 - 8 * (i : Int)) = 56 - 8 * (i : Int) := wrapi (by omega) (by omega)
    have e4 : IntKind.wrap .i64 (1 + (i : Int)) = ((1 + i : Nat) : Int) := by rw [wrapi (by omega) (by omega)]; omega
    have e5 : Min.min (Int.toNat (56 - 8 * (i : Int))) 64 = 64 - 8 * (1 + i) := by omega
    have e6 : Int.toNat ((1 + i : Nat) : Int) * 1 = 1 + i := by omega
    rw [e2, e3, e4, e5, e6, shr_wrap]
    refine ⟨by omega, blk_store b17 (1 + i) (by rw [cellsF_len]; omega) ⟨by omega, by omega⟩ fun w21 u21 => ⟨8 - (i + 1), by omega, i + 1, by rw [wrapi (by omega) (by omega)]; simp, by omega, rfl, ?_, ?_⟩⟩
    · clear b17 b11 b7 b1
      (refine mkFr ?_ ?_ ?_ <;> grind (splits := 40) [→ g_size, → g_sys, g_get, → g_step, → g_upd, → g_updb, → g_updz, → g_mupd, → g_mupdm, → g_istep, → g_new1, → g_new2, → g_new3, → g_new4, → g_blk, → g_blk_lt, → g_own, → g_own_lt, → g_row, → g_map, → g_map_lt, → g_ownz, → g_ownz_lt, → g_news1, → g_news2, → g_news3, = g_mem_pb, = g_pb_none, = g_pb_some])
    · have b21 := u21.blk
      rw [cellsF_set _ (by omega)] at b21
      rw [cellsF_congr (g := fun j => if j = 1 + i then shr seq (64 - 8 * (1 + i)) else if 1 ≤ j ∧ j ≤ i then shr seq (64 - 8 * j) else if j = 0 then 82 else if j = 63 then 165 else 0)]
      · exact b21
      · intro j hj
        show (if 1 ≤ j ∧ j ≤ i + 1 then shr seq (64 - 8 * j) else if j = 0 then (82 : UInt8) else if j = 63 then 165 else 0) = if j = 1 + i then shr seq (64 - 8 * (1 + i)) else if 1 ≤ j ∧ j ≤ i then shr seq (64 - 8 * j) else if j = 0 then 82 else if j = 63 then 165 else 0
        by_cases h1 : j = 1 + i
        · subst h1; rw [if_pos (by omega), if_pos rfl]
        · rw [if_neg h1]
          by_cases h2 : 1 ≤ j ∧ j ≤ i
          · rw [if_pos (by omega), if_pos h2]
          · rw [if_neg (by omega), if_neg h2]
  · have hge : ¬ (i : Int) < 8 := of_decide_eq_false hge
    have hi8 : i = 8 := by omega
    subst hi8
    have e9 : IntKind.wrap .u8 (Int.fdiv size (2 ^ 8)) = ((shr size 8).toNat : Int) := shr_wrap size 8
    have e10 : IntKind.wrap .u8 size = ((shr size 0).toNat : Int) := by
      have := shr_wrap size 0
      rw [← this]; congr 1
      show size = size.fdiv 1
      rw [Int.fdiv_one]
    rw [e9, e10]
    refine blk_store b17 9 (by rw [cellsF_len]; omega) (by decide) fun w26 u26 => ?_
    have b26 := u26.blk
    rw [cellsF_set _ (by omega)] at b26
    refine blk_store b26 10 (by rw [cellsF_len]; omega) (by decide) fun w30 u30 => ?_
    have b30 := u30.blk
    rw [cellsF_set _ (by omega)] at b30
    refine ⟨k2, rfl, n1.1, ?_, ?_⟩
    · clear b17 b11 b7 b1 b26 b30
      (refine mkFr ?_ ?_ ?_ <;> grind (splits := 40) [→ g_size, → g_sys, g_get, → g_step, → g_upd, → g_updb, → g_updz, → g_mupd, → g_mupdm, → g_istep, → g_new1, → g_new2, → g_new3, → g_new4, → g_blk, → g_blk_lt, → g_own, → g_own_lt, → g_row, → g_map, → g_map_lt, → g_ownz, → g_ownz_lt, → g_news1, → g_news2, → g_news3, = g_mem_pb, = g_pb_none, = g_pb_some])
    · rw [logHead_cells, cellsF_congr (f := hdByte 82 165 seq size)]
      · exact b30
      · intro j hj
        unfold hdByte
        show _ = if j = 10 then shr size 0 else if j = 9 then shr size 8 else if 1 ≤ j ∧ j ≤ 8 then shr seq (64 - 8 * j) else if j = 0 then (82 : UInt8) else if j = 63 then 165 else 0
        by_cases h0 : j = 0
        · subst h0; rfl
        by_cases h63 : j = 63
        · subst h63; rfl
        by_cases h18 : 1 ≤ j ∧ j ≤ 8
        · rw [if_neg h0, if_neg h63, if_pos h18, if_neg (by omega), if_neg (by omega), if_pos h18]
        by_cases h9 : j = 9
        · subst h9; rfl
        by_cases h10 : j = 10
        · subst h10; rfl
        rw [if_neg h0, if_neg h63, if_neg h18, if_neg h9, if_neg h10, if_neg h10, if_neg h9, if_neg h18, if_neg h0, if_neg h63]

theorem index_c {w : World} {sA : Option Addr} {sC : Nat} {l : List Int} (h : Row w sA (l.map I64)) (hl : l.length < 9223372036854775807) (v : Int) : Calls prog 88 #[.slice sA l.length sC, I64 v] w fun e w' => w' = w ∧ ∃ n : Int, e = .returned (I64 n) ∧ (0 ≤ n ↔ v ∈ l) := by
  refine slices_Index_g.link ⟨fun m q w' => w' = w ∧ ∃ i : Nat, q = i ∧ i ≤ l.length ∧ m = l.length - i ∧ v ∉ l.take i, l.length, ⟨rfl, 0, rfl, by omega, rfl, by simp⟩, ?_⟩
  rintro m q w5 ⟨rfl, i, rfl, hi, rfl, hn⟩
  refine ⟨fun hlt => ?_, fun hge => ⟨rfl, _, rfl, ?_⟩⟩
  · have hlt : (i : Int) < (l.length : Int) := of_decide_eq_true hlt
    have hil : i < l.length := by omega
    refine rd I64 h rfl hil hlt ⟨fun he => ⟨rfl, _, rfl, ?_⟩, fun he => ⟨l.length - (i + 1), by omega, rfl, i + 1, by rw [wrapi (by omega) (by omega)]; simp, by omega, rfl, ?_⟩⟩
    · have he : v = l[i] := of_decide_eq_true he
      exact ⟨fun _ => by rw [he]; exact List.getElem_mem hil, fun _ => by omega⟩
    · have he : ¬ v = l[i] := of_decide_eq_false he
      rw [List.take_add_one, List.getElem?_eq_getElem hil, List.mem_append]
      rintro (h1 | h1)
      · exact hn h1
      · exact he (by simpa using h1)
  · have hge : ¬ (i : Int) < (l.length : Int) := of_decide_eq_false hge
    have : l.take i = l := List.take_of_length_le (by omega)
    rw [this] at hn
    exact ⟨fun h => by omega, fun h => absurd h hn⟩
theorem contains_c {w : World} {sA : Option Addr} {sC : Nat} {l : List Int} (h : Row w sA (l.map I64)) (hl : l.length < 9223372036854775807) (v : Int) : Calls prog 76 #[.slice sA l.length sC, I64 v] w fun e w' => w' = w ∧ e = .returned (.bool (decide (v ∈ l))) := by
  refine slices_Contains_g.link ((index_c h hl v).mono ?_)
  rintro e w' ⟨rfl, n, rfl, hn⟩
  refine ⟨n, rfl, rfl, ?_⟩
  simp only [hn]

end Go.Proofs.Ytcaamecdhbgknaa.Log
