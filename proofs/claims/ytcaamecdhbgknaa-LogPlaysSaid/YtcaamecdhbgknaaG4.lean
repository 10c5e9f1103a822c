/- The log: what stands on a sector. -/
import Derived.Test.YtcaamecdhbgknaaG3
namespace Go.Proofs.Ytcaamecdhbgknaa.Log
open Go Go.V
open Go.Proofs.Ytcaamecdhbgknaa.VC
open Go.Proofs.Ytcaamecdhbgknaa.Disk
open Go.Proofs.Try (prog)
set_option linter.unusedVariables false
set_option linter.unusedSimpArgs false
set_option maxRecDepth 20000

def beN (l : List UInt8) : Nat := l.foldl (fun a x => a * 256 + x.toNat) 0
def bytesAt (h : ByteArray) (off n : Nat) : List UInt8 := (List.range n).map fun i => h.data.getD (off + i) 0
theorem bytesAt_succ (h : ByteArray) (off n : Nat) : bytesAt h off (n + 1) = bytesAt h off n ++ [h.data.getD (off + n) 0] := by
  unfold bytesAt
  rw [List.range_succ, List.map_append]; rfl
theorem beN_succ (l : List UInt8) (x : UInt8) : beN (l ++ [x]) = beN l * 256 + x.toNat := by simp [beN]
theorem beN_lt (l : List UInt8) : beN l < 256 ^ l.length := by
  have key : ∀ (l : List UInt8) (a k : Nat), a < 256 ^ k → l.foldl (fun a x => a * 256 + x.toNat) a < 256 ^ (k + l.length) := by
    intro l
    induction l with
    | nil => intro a k h; simpa using h
    | cons x l ih =>
      intro a k h
      have hx := x.toNat_lt
      have := ih (a * 256 + x.toNat) (k + 1) (by rw [Nat.pow_succ]; omega)
      rw [List.length_cons]
      have e : k + (l.length + 1) = k + 1 + l.length := by omega
      rw [e]; exact this
  simpa [beN] using key l 0 0 (by simp)
def catL (now : List ByteArray) (a k : Nat) : List UInt8 := (List.range k).flatMap fun i => (now.getD (a + i) zsec).data.toList
theorem catL_succ (now : List ByteArray) (a k : Nat) : catL now a (k + 1) = catL now a k ++ (now.getD (a + k) zsec).data.toList := by
  unfold catL
  rw [List.range_succ, List.flatMap_append]; simp
def cells8 (l : List UInt8) : List Value := l.map fun b => Value.int .u8 (b.toNat : Int)
theorem cells8_bytes (s : ByteArray) : cells8 s.data.toList = byteCells s := rfl
theorem cells8_mk (l : List UInt8) : byteCells ⟨l.toArray⟩ = cells8 l := by simp [byteCells, cells8]
theorem cells8_one (l : List UInt8) : ∀ u ∈ cells8 l, u.oneCell' = true := fun u hu => by
  obtain ⟨x, _, rfl⟩ := List.mem_map.1 hu; rfl

/-- The record whose head a sector is. -/
def recAt (now : List ByteArray) (a behind : Nat) : Option (Nat × ByteArray) :=
  let h := now.getD a zsec
  let seq := beN (bytesAt h 1 8)
  let size := beN (bytesAt h 9 2)
  if 1 ≤ seq ∧ seq ≤ 4611686018427387904 ∧ size ≤ 4000 ∧ h = logHead seq size ∧ a + 1 + secs size ≤ behind then some (seq, ⟨((catL now (a + 1) (secs size)).take size).toArray⟩) else none

theorem subA0 (p : Option Addr) (c : Nat) : subA p 0 c 1 = p := by
  unfold subA
  split
  · rfl
  · cases p with
    | none => rfl
    | some ad => simp [add0]
theorem Row.take {w : World} {p : Option Addr} {xs : List Value} (h : Row w p xs) (n : Nat) : Row w p (xs.take n) :=
  ⟨fun j u hj => (by
    rw [List.getElem?_take] at hj
    split at hj
    · exact h.1 j u hj
    · cases hj), fun u hu => h.2 u (List.mem_of_mem_take hu)⟩
theorem wrap_be (B x : Nat) (hx : x < 256) : IntKind.wrap .i64 (IntKind.wrap .i64 (B : Int) * 256 + (x : Int)) = IntKind.wrap .i64 ((B * 256 + x : Nat) : Int) := by
  rw [wrap64m, wrap64m, wrap64m]
  have e : ((if (B : Int) % 18446744073709551616 ≥ 9223372036854775808 then (B : Int) % 18446744073709551616 - 18446744073709551616 else (B : Int) % 18446744073709551616) * 256 + (x : Int)) % 18446744073709551616 = ((B * 256 + x : Nat) : Int) % 18446744073709551616 := by
    split <;> omega
  rw [e]

set_option maxHeartbeats 1000000 in
theorem lread_c {w : World} {lb b ms mf : Nat} {M : DM} {behind : Int} {f0 e0 : Value} {cs : List Value} (hb : Blk w lb (D b :: f0 :: e0 :: I64 behind :: cs)) (hD : DiskAt w b ms mf M) (a : Nat) (ha : a < M.sure.length) (hbn : behind ≤ M.n) :
    Calls prog 65 #[D lb, I64 (a : Int)] w fun e w' => Fr [] w w' ∧ (recAt M.now a behind.toNat = none → e = .returned (.tuple #[.agg #[I64 0, .slice none 0 0], .bool false])) ∧
      ∀ seq data, recAt M.now a behind.toNat = some (seq, data) → ∃ p c, e = .returned (.tuple #[.agg #[I64 (seq : Nat), .slice p data.size c], .bool true]) ∧ OwnZ w' w.heap.size 1 p data.size c (byteCells data) := by
  have hok := hD.ok
  have hhi := hok.hi
  have hMn : M.n = (M.sure.length : Int) := rfl
  refine log_Log_read.link fun k1 => ⟨_, hb.cell 0, fun w3 st3 => (read_in (hD.fr st3.fr (by simp)) ha).mono ?_⟩
  have n1 := g_new1 st3
  rintro e w6 ⟨k, h, hs, h64, rfl, hk, f6, b6⟩
  have z3 := st3.size
  have z6 := f6.size
  have f06 : Fr [] w w6 := st3.fr.trans' f6
  have h64' : h.data.size = 64 := h64
  have hget : M.now.getD a zsec = h := by rw [List.getD_eq_getElem?_getD, hs]; rfl
  have hc : ∀ j, j < 64 → (byteCells h)[j]? = some (.int .u8 ((h.data.getD j 0).toNat : Int)) := fun j hj => by
    rw [byteCells_get, Array.getElem?_eq_getElem (by omega)]
    simp [Array.getD, show j < h.data.size by omega, h64, hj]
  have hcell : ∀ j, j < 64 → w6.cell? ((⟨k, 0, none⟩ : Addr).add j) = some (.int .u8 ((h.data.getD j 0).toNat : Int)) := fun j hj => by
    rw [add_mk, b6.cell, Nat.zero_add]; exact hc j hj
  refine ⟨_, _, _, _, rfl, g_keep f6 (fun x hx => by simp at hx; subst hx; exact ⟨by omega, by simp⟩), ⟨by omega, by omega, by omega⟩, fun m q r w16 => ∃ i : Nat, r = i ∧ i ≤ 8 ∧ m = 8 - i ∧ q = IntKind.wrap .i64 ((beN (bytesAt h 1 i) : Nat) : Int) ∧ w6 = w16, 8, ⟨0, rfl, by omega, rfl, by show (0 : Int) = IntKind.wrap .i64 0; decide, rfl⟩, ?_⟩
  rintro m q r w16 ⟨i, rfl, hi, rfl, rfl, rfl⟩
  refine ⟨fun hlt => ?_, fun hge => ?_⟩
  · have hlt : (i : Int) < ((8 : Nat) : Int) := of_decide_eq_true hlt
    have es : subA (some ⟨k, 0, none⟩) 1 64 1 = some (⟨k, 1, none⟩ : Addr) := rfl
    have ex := (h.data.getD (1 + i) 0).toNat_lt
    refine ⟨_, es, ⟨by omega, hlt⟩, ((h.data.getD (1 + i) 0).toNat : Int), ?_, by omega, 8 - (i + 1), by omega, i + 1, by rw [wrapi (by omega) (by omega)]; simp, by omega, rfl, ?_, rfl⟩
    · have e1 : (⟨k, 1, none⟩ : Addr).add (Int.toNat (i : Int) * 1) = (⟨k, 0, none⟩ : Addr).add (1 + i) := by
        rw [add_mk, add_mk]; congr 1; omega
      rw [e1]; exact hcell (1 + i) (by omega)
    · rw [wrapi (n := ((h.data.getD (1 + i) 0).toNat : Int)) (by omega) (by omega), or_byte _ (by omega) (by omega), bytesAt_succ, beN_succ, wrap_be _ _ ex]
  have hge : ¬ (i : Int) < ((8 : Nat) : Int) := of_decide_eq_false hge
  have hi8 : i = 8 := by omega
  subst hi8
  have hB := beN_lt (bytesAt h 1 8)
  have hBl : (bytesAt h 1 8).length = 8 := by simp [bytesAt]
  rw [hBl] at hB
  have hS := beN_lt (bytesAt h 9 2)
  have hSl : (bytesAt h 9 2).length = 2 := by simp [bytesAt]
  rw [hSl] at hS
  have x9 := (h.data.getD 9 0).toNat_lt
  have x10 := (h.data.getD 10 0).toNat_lt
  have hSe : beN (bytesAt h 9 2) = (h.data.getD 9 0).toNat * 256 + (h.data.getD 10 0).toNat := by simp [bytesAt, beN, List.range, List.range.loop]
  have hsize : bits .or .i64 (IntKind.wrap .i64 (IntKind.wrap .i64 ((h.data.getD 9 0).toNat : Int) * 2 ^ 8)) (IntKind.wrap .i64 ((h.data.getD 10 0).toNat : Int)) = ((beN (bytesAt h 9 2) : Nat) : Int) := by
    rw [wrapi (n := ((h.data.getD 9 0).toNat : Int)) (by omega) (by omega), wrapi (n := ((h.data.getD 10 0).toNat : Int)) (by omega) (by omega), or_byte _ (by omega) (by omega), wrapi (by omega) (by omega), hSe]
    omega
  generalize hBg : beN (bytesAt h 1 8) = B at *
  generalize hSg : beN (bytesAt h 9 2) = S at *
  refine ⟨_, rfl, ⟨by omega, by omega⟩, _, hcell 9 (by omega), by omega, _, rfl, ⟨by omega, by omega⟩, _, hcell 10 (by omega), fun y25 hy25 => ?_⟩
  rw [hsize] at hy25 ⊢
  have spec : recAt M.now a behind.toNat = if 1 ≤ B ∧ B ≤ 4611686018427387904 ∧ S ≤ 4000 ∧ h = logHead B S ∧ a + 1 + secs S ≤ behind.toNat then some (B, ⟨((catL M.now (a + 1) (secs S)).take S).toArray⟩) else none := by
    unfold recAt
    simp only [hget, hBg, hSg]
  -- none
  have bad : ∀ w27, Fr [] w6 w27 → ¬ (1 ≤ B ∧ B ≤ 4611686018427387904 ∧ S ≤ 4000 ∧ h = logHead B S ∧ a + 1 + secs S ≤ behind.toNat) → y25 true w27 := fun w27 f27 hn => by
    refine hy25 _ _ (bT rfl fun w28 st28 => ⟨?_, fun _ => rfl, fun seq data hd => ?_⟩)
    · exact (f06.trans' f27).trans st28.fr (fun x hx => by simp at hx; subst hx; exact .inr n1.1)
    · rw [spec, if_neg hn] at hd; cases hd
  have good : ∀ w27, Fr [] w6 w27 → (1 ≤ B ∧ B ≤ 4611686018427387904 ∧ S ≤ 4000 ∧ h = logHead B S ∧ a + 1 + secs S ≤ behind.toNat) → y25 false w27 := fun w27 f27 hg => by
    obtain ⟨g1, g2, g3, g4, g5⟩ := hg
    have hrec : recAt M.now a behind.toNat = some (B, ⟨((catL M.now (a + 1) (secs S)).take S).toArray⟩) := by rw [spec, if_pos ⟨g1, g2, g3, g4, g5⟩]
    refine hy25 _ _ (bF rfl ((sectors_c w27 (n := (S : Int)) (by omega) (by omega)).mono ?_))
    clear hy25 bad
    rintro e w31 ⟨rfl, rfl⟩
    have eS : ((S : Int)).toNat = S := by omega
    rw [eS]
    have hsS : secs S = (S + 63) / 64 := rfl
    have z27 := f27.size
    have f027 : Fr [] w w31 := f06.trans' f27
    refine ⟨_, rfl, fun x hx => rfl, fun m p l c q w' => ∃ i : Nat, q = i ∧ i ≤ secs S ∧ m = secs S - i ∧ l = 64 * i ∧ OwnZ w' w31.heap.size 1 p l c (cells8 (catL M.now (a + 1) i)) ∧ Fr [] w31 w', secs S, ⟨0, rfl, by omega, rfl, rfl, OwnZ.nil _ _ _, Fr.refl _ _⟩, ?_⟩
    rintro m p l c q w40 ⟨i, rfl, hi, rfl, rfl, o40, f40⟩
    have hb40 : Blk w40 lb (D b :: f0 :: e0 :: I64 behind :: cs) := hb.fr (f027.trans' f40) (by simp)
    have hD40 : DiskAt w40 b ms mf M := hD.fr (f027.trans' f40) (by simp)
    have z40 := f40.size
    refine ⟨fun hlt => ?_, fun hge => ?_⟩
    · have hlt : (i : Int) < ((secs S : Nat) : Int) := of_decide_eq_true hlt
      have x1 : IntKind.wrap .i64 ((a : Int) + 1) = (a : Int) + 1 := wrapi (by omega) (by omega)
      have x2 : IntKind.wrap .i64 ((a : Int) + 1 + (i : Int)) = ((a + 1 + i : Nat) : Int) := by rw [wrapi (by omega) (by omega)]; omega
      have hin : a + 1 + i < M.sure.length := by omega
      rw [x1, x2]
      refine ⟨_, hb40.cell 0, (read_in hD40 hin).mono ?_⟩
      rintro e w44 ⟨k2, s, hs2, s64, rfl, hk2, f44, b44⟩
      have z44 := f44.size
      have hget2 : M.now.getD (a + 1 + i) zsec = s := by rw [List.getD_eq_getElem?_getD, hs2]; rfl
      have o44 := o40.fr f44 (fun ad _ => by simp)
      refine ⟨_, _, _, _, rfl, g_keep f44 (fun x hx => by simp at hx; subst hx; exact ⟨by omega, by simp⟩), byteCells s, by rw [byteCells_length, s64], Row.all b44 (byteCells_one s), append_z o44 (by rw [byteCells_length, s64]) (byteCells_one s) (by omega) rfl (fun _ => rfl) (fun ad _ => by simp) (fun ad hp hm => ?_) (by omega) (by omega) fun w50 p51 c53 f50 _ o50 d50 => ⟨secs S - (i + 1), by omega, i + 1, by rw [wrapi (by omega) (by omega)]; simp, by omega, rfl, by omega, ?_, ?_⟩⟩
      · have := (o44.lt hp).1
        simp at hm; omega
      · have e1 : cells8 (catL M.now (a + 1) (i + 1)) = cells8 (catL M.now (a + 1) i) ++ byteCells s := by
          rw [catL_succ, hget2]; unfold cells8; rw [List.map_append]; rfl
        rw [e1]
        exact o50
      · refine (f40.trans' f44).trans f50 fun x hx => ?_
        rw [List.nil_append, g_mem_pb] at hx
        obtain ⟨ad, hp, rfl⟩ := hx
        exact .inr (o44.lt hp).1
    · have hge : ¬ (i : Int) < ((secs S : Nat) : Int) := of_decide_eq_false hge
      have hi' : i = secs S := by omega
      subst hi'
      have hlen : (catL M.now (a + 1) (secs S)).length = 64 * secs S := by
        have := o40.len
        simp [cells8] at this; omega
      have hcap : 64 * secs S ≤ c := o40.2.1
      have eS2 : S - 0 = S := by omega
      rw [subA0, eS2]
      have hrow : Row w40 p (byteCells ⟨((catL M.now (a + 1) (secs S)).take S).toArray⟩) := by
        rw [cells8_mk]
        unfold cells8
        rw [List.map_take]
        exact Row.take o40.row S
      have hds : (⟨((catL M.now (a + 1) (secs S)).take S).toArray⟩ : ByteArray).size = S := by
        show ((catL M.now (a + 1) (secs S)).take S).toArray.size = S
        rw [List.size_toArray, List.length_take]; omega
      have hcl := clone_b (sC := c - 0) hrow (by rw [hds]; omega)
      rw [hds] at hcl
      refine ⟨⟨by omega, by omega, by omega⟩, hcl.mono ?_⟩
      rintro e w56 ⟨p57, c59, rfl, f56, o56⟩
      refine ⟨_, _, _, rfl, g_keep f56 (fun x hx => by simp at hx; subst hx; exact ⟨by omega, by simp⟩), fun w60 st60 => ⟨?_, (fun hn => by rw [hrec] at hn; cases hn), fun seq data hd => ?_⟩⟩
      · exact ((f027.trans' f40).trans' f56).trans st60.fr (fun x hx => by simp at hx; subst hx; exact .inr n1.1)
      · rw [hrec] at hd
        injection hd with hd
        injection hd with hd1 hd2
        subst hd1; subst hd2
        have hw : IntKind.wrap .i64 (B : Int) = (B : Int) := wrapi (by omega) (by omega)
        refine ⟨p57, c59, ?_, ?_⟩
        · rw [hds]
          show Ending.returned (.tuple #[.agg #[.int .i64 (IntKind.wrap .i64 (B : Int)), .slice p57 S c59], .bool true]) = _
          rw [hw]
        · rw [hds]
          refine (o56.mono (by omega)).fr st60.fr (fun ad hp hm => ?_)
          have := (o56.lt hp).1
          simp at hm; omega
  clear hy25
  have hBw : IntKind.wrap .i64 (B : Int) = if B < 9223372036854775808 then (B : Int) else (B : Int) - 18446744073709551616 := by
    rw [wrap64m]; split <;> split <;> omega
  refine ⟨fun hc => fun w64 st64 => bad w64 st64.fr (fun hg => ?_), fun hc => ⟨fun hc2 => fun w66 st66 => bad w66 st66.fr (fun hg => ?_), fun hc2 => ⟨fun hc3 => fun w68 st68 => bad w68 st68.fr (fun hg => ?_), fun hc3 w70 st70 => ?_⟩⟩⟩
  · have hc := of_decide_eq_true hc
    rw [hBw] at hc
    have := hg.1
    have := hg.2.1
    rw [if_pos (by omega)] at hc
    omega
  · have hc2 := of_decide_eq_true hc2
    rw [hBw] at hc2
    have := hg.1
    have := hg.2.1
    rw [if_pos (by omega)] at hc2
    omega
  · have hc3 := of_decide_eq_true hc3
    have := hg.2.2.1
    omega
  · have hc := of_decide_eq_false hc
    have hc2 := of_decide_eq_false hc2
    have hc3 := of_decide_eq_false hc3
    have hB1 : 1 ≤ B ∧ B ≤ 4611686018427387904 := by
      rw [hBw] at hc hc2
      split at hc
      · rename_i hlt
        rw [if_pos hlt] at hc2
        omega
      · omega
    have hw : IntKind.wrap .i64 (B : Int) = (B : Int) := wrapi (by omega) (by omega)
    rw [hw]
    refine (head_c w70 (B : Int) (S : Int)).mono ?_
    rintro e w73 ⟨k74, rfl, hk74, f73, b73⟩
    have z70 := st70.size
    have f673 : Fr [] w6 w73 := st70.fr.trans' f73
    refine ⟨_, _, _, rfl, g_keep f73 (fun x hx => by simp at hx; subst hx; exact ⟨by omega, by simp⟩), ?_⟩
    have heq := equal_c (w := w73) (aC := 64) (bC := 64) (x := h) (y := logHead B S) (g_row f673 (Row.all b6 (byteCells_one h)) fun ad _ _ => by simp) (Row.all b73 (byteCells_one _))
    rw [h64, logHead_size] at heq
    refine heq.mono ?_
    rintro e w78 ⟨rfl, rfl⟩
    refine ⟨_, rfl, fun x hx => rfl, ?_⟩
    by_cases hh : h = logHead B S
    · rw [decide_eq_true hh]
      have hb78 : Blk w78 lb (D b :: f0 :: e0 :: I64 behind :: cs) := hb.fr (f06.trans' f673) (by simp)
      have hsS : secs S = (S + 63) / 64 := rfl
      have hlast : y25 (decide (behind < IntKind.wrap .i64 (IntKind.wrap .i64 ((a : Int) + 1) + ((secs S : Nat) : Int)))) w78 := by
        rw [wrapi (n := (a : Int) + 1) (by omega) (by omega), wrapi (by omega) (by omega)]
        by_cases hf : behind < (a : Int) + 1 + ((secs S : Nat) : Int)
        · rw [decide_eq_true hf]
          exact bad w78 f673 (fun hg => by have := hg.2.2.2.2; omega)
        · rw [decide_eq_false hf]
          exact good w78 f673 ⟨hB1.1, hB1.2, by omega, hh, by omega⟩
      have eS : ((S : Int)).toNat = S := by omega
      refine bF rfl ⟨(sectors_c w78 (n := (S : Int)) (by omega) (by omega)).mono ?_, _, hb78.cell 3, (sectors_c w78 (n := (S : Int)) (by omega) (by omega)).mono ?_⟩
      · rintro e w81 ⟨rfl, rfl⟩
        rw [eS]
        exact ⟨_, rfl, fun x hx => rfl, _, hb78.cell 3, hlast⟩
      · rintro e w81 ⟨rfl, rfl⟩
        rw [eS]
        exact ⟨_, rfl, fun x hx => rfl, hlast⟩
    · rw [decide_eq_false hh]
      exact bT rfl (bad w78 f673 (fun hg => hh hg.2.2.2.1))

end Go.Proofs.Ytcaamecdhbgknaa.Log
