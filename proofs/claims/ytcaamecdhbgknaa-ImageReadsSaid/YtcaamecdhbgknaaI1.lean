/- The image: its numbers, its heads. -/
import Derived.Test.YtcaamecdhbgknaaGA
import Derived.Test.YtcaamecdhbgknaaC5
import Derived.Test.YtcaamecdhbgknaaC9
namespace Go.Proofs.Ytcaamecdhbgknaa.Image
open Go Go.V
open Go.Proofs.Ytcaamecdhbgknaa.VC
open Go.Proofs.Ytcaamecdhbgknaa.Disk
open Go.Proofs.Ytcaamecdhbgknaa.Log
open Go.Proofs.Try (prog)
set_option linter.unusedVariables false
set_option linter.unusedSimpArgs false
set_option maxRecDepth 20000

theorem number_c {w : World} {ad : Addr} {C n : Nat} {x : Nat → UInt8} (hn : n ≤ 8) (h : ∀ i, i < n → w.cell? (ad.add i) = some (.int .u8 ((x i).toNat : Int))) :
    Calls prog 95 #[.slice (some ad) n C] w fun e w' => w' = w ∧ e = .returned (I64 (IntKind.wrap .i64 ((beN ((List.range n).map x) : Nat) : Int))) := by
  refine image_number.link ⟨fun m q r w' => ∃ i : Nat, r = i ∧ i ≤ n ∧ m = n - i ∧ q = IntKind.wrap .i64 ((beN ((List.range i).map x) : Nat) : Int) ∧ w = w', n, ⟨0, rfl, by omega, rfl, by show (0 : Int) = IntKind.wrap .i64 0; decide, rfl⟩, ?_⟩
  rintro m q r w6 ⟨i, rfl, hi, rfl, rfl, rfl⟩
  refine ⟨fun hlt => ?_, fun hge => ?_⟩
  · have hlt : (i : Int) < (n : Int) := of_decide_eq_true hlt
    have ex := (x i).toNat_lt
    refine ⟨ad, rfl, ⟨by omega, hlt⟩, ((x i).toNat : Int), ?_, by omega, n - (i + 1), by omega, i + 1, by rw [wrapi (by omega) (by omega)]; simp, by omega, rfl, ?_, rfl⟩
    · have e1 : Int.toNat (i : Int) * 1 = i := by omega
      rw [e1]; exact h i (by omega)
    · rw [wrapi (n := ((x i).toNat : Int)) (by omega) (by omega), or_byte _ (by omega) (by omega), List.range_succ, List.map_append]
      rw [show (List.map x [i]) = [x i] from rfl, beN_succ, wrap_be _ _ ex]
  · have hge : ¬ (i : Int) < (n : Int) := of_decide_eq_false hge
    have hi8 : i = n := by omega
    subst hi8
    exact ⟨rfl, rfl⟩

def ihByte (seq size : Int) (j : Nat) : UInt8 := if j = 0 then 73 else if j = 63 then 90 else if 1 ≤ j ∧ j ≤ 8 then shr seq (64 - 8 * j) else if 9 ≤ j ∧ j ≤ 12 then shr size (96 - 8 * j) else 0
def imgHead (seq size : Int) : ByteArray := ⟨((List.range 64).map (ihByte seq size)).toArray⟩
theorem imgHead_size (seq size : Int) : (imgHead seq size).size = 64 := by simp [imgHead, ByteArray.size]
theorem imgHead_cells (seq size : Int) : byteCells (imgHead seq size) = cellsF (ihByte seq size) := by simp [byteCells, imgHead, cellsF]
theorem blk_store2 {w : World} {k : Nat} {cs : List Value} {x : Value} {K : World → Prop} {p : Prop} (h : Blk w k cs) (m : Nat) (hm : m < cs.length) (hp : p) (hK : ∀ w', Upd w w' k (cs.set m x) → K w') :
    p ∧ ∃ l6 : List Value, Blk w (Addr.block ((⟨k, 0, none⟩ : Addr).add m)) l6 ∧ Addr.spot ((⟨k, 0, none⟩ : Addr).add m) = none ∧ Addr.off ((⟨k, 0, none⟩ : Addr).add m) + 1 ≤ l6.length ∧
      ∀ w', Upd w w' (Addr.block ((⟨k, 0, none⟩ : Addr).add m)) (sets l6 (Addr.off ((⟨k, 0, none⟩ : Addr).add m)) [x]) → K w' := by
  refine ⟨hp, cs, ?_⟩
  rw [add_mk, Nat.zero_add]
  exact ⟨h, rfl, hm, fun w' hu => hK w' hu⟩

theorem ihead_c (w : World) (seq size : Int) : Calls prog 81 #[I64 seq, I64 size] w fun e w' => ∃ k, e = .returned (.slice (some ⟨k, 0, none⟩) 64 64) ∧ w.heap.size ≤ k ∧ Fr [] w w' ∧ Blk w' k (byteCells (imgHead seq size)) := by
  refine image_head.link fun k2 w1 st1 b1 => ?_
  have n1 := g_new1 st1
  have e1 : reps [Value.int .u8 0] 64 = cellsF (fun _ => 0) := by
    rw [reps_one]; simp [cellsF, List.map_const']
  rw [e1] at b1
  refine blk_store2 b1 0 (by rw [cellsF_len]; omega) (by decide) fun w7 u7 => ?_
  have b7 : Blk w7 k2 (cellsF fun j => if j = 0 then 73 else 0) := by
    rw [← cellsF_set (fun _ => 0) (by omega) 73]; exact u7.blk
  refine blk_store2 b7 63 (by rw [cellsF_len]; omega) (by decide) fun w11 u11 => ?_
  have b11 : Blk w11 k2 (cellsF fun j => if j = 63 then 90 else if j = 0 then 73 else 0) := by
    rw [← cellsF_set (fun j => if j = 0 then 73 else 0) (by omega) 90]; exact u11.blk
  refine ⟨fun m q w' => ∃ i : Nat, q = i ∧ i ≤ 8 ∧ m = 8 - i ∧ Fr [k2] w1 w' ∧ Blk w' k2 (cellsF fun j => if 9 - i ≤ j ∧ j ≤ 8 then shr seq (64 - 8 * j) else if j = 0 then 73 else if j = 63 then 90 else 0), 8, ⟨0, rfl, by omega, rfl, ?_, ?_⟩, ?_⟩
  · (refine mkFr ?_ ?_ ?_ <;> grind (splits := 40) [→ g_size, → g_sys, g_get, → g_step, → g_upd, → g_updb, → g_updz, → g_mupd, → g_mupdm, → g_istep, → g_new1, → g_new2, → g_new3, → g_new4, → g_blk, → g_blk_lt, → g_own, → g_own_lt, → g_row, → g_map, → g_map_lt, → g_ownz, → g_ownz_lt, → g_news1, → g_news2, → g_news3, = g_mem_pb, = g_pb_none, = g_pb_some])
  · rw [cellsF_congr (g := fun j => if j = 63 then 90 else if j = 0 then 73 else 0)]
    · exact b11
    · intro j hj
      show (if 9 - 0 ≤ j ∧ j ≤ 8 then shr seq (64 - 8 * j) else if j = 0 then (73 : UInt8) else if j = 63 then 90 else 0) = if j = 63 then 90 else if j = 0 then 73 else 0
      rw [if_neg (by omega)]
      by_cases h1 : j = 0
      · subst h1; rfl
      · rw [if_neg h1, if_neg h1]
  rintro m q w17 ⟨i, rfl, hi, rfl, f17, b17⟩
  refine ⟨fun hlt => ?_, fun hge => ?_⟩
  · have hlt : (i : Int) < 8 := of_decide_eq_true hlt
    have e2 : IntKind.wrap .i64 (8 * (i : Int)) = 8 * (i : Int) := wrapi (by omega) (by omega)
    have e3 : IntKind.wrap .i64 (8 - (i : Int)) = ((8 - i : Nat) : Int) := by rw [wrapi (by omega) (by omega)]; omega
    have e5 : Min.min (Int.toNat (8 * (i : Int))) 64 = 8 * i := by omega
    have e6 : Int.toNat ((8 - i : Nat) : Int) * 1 = 8 - i := by omega
    rw [e2, e3, e5, e6, shr_wrap]
    refine ⟨by omega, blk_store2 b17 (8 - i) (by rw [cellsF_len]; omega) ⟨by omega, by omega⟩ fun w21 u21 => ⟨8 - (i + 1), by omega, i + 1, by rw [wrapi (by omega) (by omega)]; simp, by omega, rfl, ?_, ?_⟩⟩
    · clear b17 b11 b7 b1
      (refine mkFr ?_ ?_ ?_ <;> grind (splits := 40) [→ g_size, → g_sys, g_get, → g_step, → g_upd, → g_updb, → g_updz, → g_mupd, → g_mupdm, → g_istep, → g_new1, → g_new2, → g_new3, → g_new4, → g_blk, → g_blk_lt, → g_own, → g_own_lt, → g_row, → g_map, → g_map_lt, → g_ownz, → g_ownz_lt, → g_news1, → g_news2, → g_news3, = g_mem_pb, = g_pb_none, = g_pb_some])
    · have b21 := u21.blk
      rw [cellsF_set _ (by omega)] at b21
      rw [cellsF_congr (g := fun j => if j = 8 - i then shr seq (8 * i) else if 9 - i ≤ j ∧ j ≤ 8 then shr seq (64 - 8 * j) else if j = 0 then 73 else if j = 63 then 90 else 0)]
      · exact b21
      · intro j hj
        show (if 9 - (i + 1) ≤ j ∧ j ≤ 8 then shr seq (64 - 8 * j) else if j = 0 then (73 : UInt8) else if j = 63 then 90 else 0) = if j = 8 - i then shr seq (8 * i) else if 9 - i ≤ j ∧ j ≤ 8 then shr seq (64 - 8 * j) else if j = 0 then 73 else if j = 63 then 90 else 0
        by_cases h1 : j = 8 - i
        · subst h1; rw [if_pos (by omega), if_pos rfl]; congr 1; omega
        · rw [if_neg h1]
          by_cases h2 : 9 - i ≤ j ∧ j ≤ 8
          · rw [if_pos (by omega), if_pos h2]
          · rw [if_neg (by omega), if_neg h2]
  · have hge : ¬ (i : Int) < 8 := of_decide_eq_false hge
    have hi8 : i = 8 := by omega
    subst hi8
    refine ⟨fun m q w' => ∃ i : Nat, q = i ∧ i ≤ 4 ∧ m = 4 - i ∧ Fr [k2] w1 w' ∧ Blk w' k2 (cellsF fun j => if 13 - i ≤ j ∧ j ≤ 12 then shr size (96 - 8 * j) else if 1 ≤ j ∧ j ≤ 8 then shr seq (64 - 8 * j) else if j = 0 then 73 else if j = 63 then 90 else 0), 4, ⟨0, rfl, by omega, rfl, f17, ?_⟩, ?_⟩
    · rw [cellsF_congr (g := fun j => if 9 - 8 ≤ j ∧ j ≤ 8 then shr seq (64 - 8 * j) else if j = 0 then (73 : UInt8) else if j = 63 then 90 else 0)]
      · exact b17
      · intro j hj
        show (if 13 - 0 ≤ j ∧ j ≤ 12 then shr size (96 - 8 * j) else _) = _
        rw [if_neg (by omega)]
    clear b17 b11 b7 b1
    rintro m q w25 ⟨i, rfl, hi, rfl, f25, b25⟩
    refine ⟨fun hlt => ?_, fun hge => ⟨by decide, ?_⟩⟩
    · have hlt : (i : Int) < 4 := of_decide_eq_true hlt
      have e2 : IntKind.wrap .i64 (8 * (i : Int)) = 8 * (i : Int) := wrapi (by omega) (by omega)
      have e3 : IntKind.wrap .i64 (12 - (i : Int)) = ((12 - i : Nat) : Int) := by rw [wrapi (by omega) (by omega)]; omega
      have e5 : Min.min (Int.toNat (8 * (i : Int))) 64 = 8 * i := by omega
      have e6 : Int.toNat ((12 - i : Nat) : Int) * 1 = 12 - i := by omega
      rw [e2, e3, e5, e6, shr_wrap]
      refine ⟨by omega, blk_store2 b25 (12 - i) (by rw [cellsF_len]; omega) ⟨by omega, by omega⟩ fun w28 u28 => ⟨4 - (i + 1), by omega, i + 1, by rw [wrapi (by omega) (by omega)]; simp, by omega, rfl, ?_, ?_⟩⟩
      · clear b25
        (refine mkFr ?_ ?_ ?_ <;> grind (splits := 40) [→ g_size, → g_sys, g_get, → g_step, → g_upd, → g_updb, → g_updz, → g_mupd, → g_mupdm, → g_istep, → g_new1, → g_new2, → g_new3, → g_new4, → g_blk, → g_blk_lt, → g_own, → g_own_lt, → g_row, → g_map, → g_map_lt, → g_ownz, → g_ownz_lt, → g_news1, → g_news2, → g_news3, = g_mem_pb, = g_pb_none, = g_pb_some])
      · have b28 := u28.blk
        rw [cellsF_set _ (by omega)] at b28
        rw [cellsF_congr (g := fun j => if j = 12 - i then shr size (8 * i) else if 13 - i ≤ j ∧ j ≤ 12 then shr size (96 - 8 * j) else if 1 ≤ j ∧ j ≤ 8 then shr seq (64 - 8 * j) else if j = 0 then 73 else if j = 63 then 90 else 0)]
        · exact b28
        · intro j hj
          show (if 13 - (i + 1) ≤ j ∧ j ≤ 12 then shr size (96 - 8 * j) else _) = if j = 12 - i then shr size (8 * i) else if 13 - i ≤ j ∧ j ≤ 12 then shr size (96 - 8 * j) else _
          by_cases h1 : j = 12 - i
          · subst h1; rw [if_pos (by omega), if_pos rfl]; congr 1; omega
          · rw [if_neg h1]
            by_cases h2 : 13 - i ≤ j ∧ j ≤ 12
            · rw [if_pos (by omega), if_pos h2]
            · rw [if_neg (by omega), if_neg h2]
    · have hge : ¬ (i : Int) < 4 := of_decide_eq_false hge
      have hi4 : i = 4 := by omega
      subst hi4
      refine ⟨k2, rfl, by omega, ?_, ?_⟩
      · clear b25
        (refine mkFr ?_ ?_ ?_ <;> grind (splits := 40) [→ g_size, → g_sys, g_get, → g_step, → g_upd, → g_updb, → g_updz, → g_mupd, → g_mupdm, → g_istep, → g_new1, → g_new2, → g_new3, → g_new4, → g_blk, → g_blk_lt, → g_own, → g_own_lt, → g_row, → g_map, → g_map_lt, → g_ownz, → g_ownz_lt, → g_news1, → g_news2, → g_news3, = g_mem_pb, = g_pb_none, = g_pb_some])
      · rw [imgHead_cells, cellsF_congr (g := fun j => if 13 - 4 ≤ j ∧ j ≤ 12 then shr size (96 - 8 * j) else if 1 ≤ j ∧ j ≤ 8 then shr seq (64 - 8 * j) else if j = 0 then 73 else if j = 63 then 90 else 0)]
        · exact b25
        · intro j hj
          unfold ihByte
          by_cases h0 : j = 0
          · subst h0; rfl
          · rw [if_neg h0]
            by_cases h63 : j = 63
            · subst h63; rfl
            · rw [if_neg h63]
              show _ = if 9 ≤ j ∧ j ≤ 12 then _ else _
              by_cases h1 : 1 ≤ j ∧ j ≤ 8
              · rw [if_pos h1, if_neg (by omega), if_pos h1]
              · rw [if_neg h1, if_neg h1]
                by_cases h2 : 9 ≤ j ∧ j ≤ 12
                · rw [if_pos h2, if_pos h2]
                · rw [if_neg h2, if_neg h2, if_neg h0, if_neg h63]

end Go.Proofs.Ytcaamecdhbgknaa.Image
