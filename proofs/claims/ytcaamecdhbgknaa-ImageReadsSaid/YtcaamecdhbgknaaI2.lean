/- The image: what is read of it. -/
import Derived.Test.YtcaamecdhbgknaaI1
namespace Go.Proofs.Ytcaamecdhbgknaa.Image
open Go Go.V
open Go.Proofs.Ytcaamecdhbgknaa.VC
open Go.Proofs.Ytcaamecdhbgknaa.Disk
open Go.Proofs.Ytcaamecdhbgknaa.Log
open Go.Proofs.Try (prog)
set_option linter.unusedVariables false
set_option linter.unusedSimpArgs false
set_option maxRecDepth 20000

structure ImgAt (w : World) (ib b ms mf : Nat) (M : DM) (first count : Nat) : Prop where
  disk : DiskAt w b ms mf M
  ne : ib ∉ [b, ms, mf]
  blk : Blk w ib [D b, I64 (first : Int), I64 (count : Int)]
  c2 : 2 ≤ count
  hi : first + 2 * count ≤ M.sure.length
theorem ImgAt.fr {F : List Nat} {v w : World} {ib b ms mf : Nat} {M : DM} {first count : Nat} (h : ImgAt v ib b ms mf M first count) (hf : Fr F v w) (hn : ∀ x ∈ [ib, b, ms, mf], x ∉ F) : ImgAt w ib b ms mf M first count :=
  ⟨h.disk.fr hf fun x hx => hn x (List.mem_cons_of_mem _ hx), h.ne, h.blk.fr hf (hn _ (by simp)), h.c2, h.hi⟩
theorem ImgAt.setD {v w : World} {ib b ms mf : Nat} {M M' : DM} {first count : Nat} (h : ImgAt v ib b ms mf M first count) (hf : Fr [b, ms, mf] v w) (hD : DiskAt w b ms mf M') (hn : M'.n = M.n) : ImgAt w ib b ms mf M' first count :=
  ⟨hD, h.ne, h.blk.fr hf h.ne, h.c2, by have := h.hi; have e1 : M'.n = (M'.sure.length : Int) := rfl; have e2 : M.n = (M.sure.length : Int) := rfl; omega⟩

/-- What stands in an area: the Seq and how many bytes; 0: nothing. -/
def iareaAt (now : List ByteArray) (a count : Nat) : Nat × Nat :=
  let h := now.getD a zsec
  let seq := beN (bytesAt h 1 8)
  let size := beN (bytesAt h 9 4)
  if 1 ≤ seq ∧ seq ≤ 4611686018427387904 ∧ size ≤ 64 * (count - 1) ∧ h = imgHead seq size then (seq, size) else (0, 0)
def icounts (now : List ByteArray) (first count : Nat) : Nat × Nat × Nat :=
  let a := iareaAt now first count
  let b := iareaAt now (first + count) count
  if b.1 ≤ a.1 ∧ 0 < a.1 then (0, a) else (1, b)
def idata (now : List ByteArray) (at0 size : Nat) : ByteArray := ⟨((catL now (at0 + 1) (secs size)).take size).toArray⟩
def iload (now : List ByteArray) (first count : Nat) : Nat × ByteArray × Bool :=
  let c := icounts now first count
  if c.2.1 = 0 then (0, ⟨#[]⟩, false) else (c.2.1, idata now (first + c.1 * count) c.2.2, true)
theorem iarea_le (now : List ByteArray) (a count : Nat) : (iareaAt now a count).1 ≤ 4611686018427387904 ∧ (iareaAt now a count).2 ≤ 64 * (count - 1) := by
  unfold iareaAt
  simp only
  split
  · rename_i h; exact ⟨h.2.1, h.2.2.1⟩
  · exact ⟨by omega, by omega⟩
theorem icounts_le (now : List ByteArray) (first count : Nat) : (icounts now first count).1 ≤ 1 ∧ (icounts now first count).2.1 ≤ 4611686018427387904 ∧ (icounts now first count).2.2 ≤ 64 * (count - 1) := by
  unfold icounts
  simp only
  split
  · exact ⟨by omega, iarea_le _ _ _⟩
  · exact ⟨by omega, iarea_le _ _ _⟩

theorem room_ci {w : World} {ib b ms mf : Nat} {M : DM} {first count : Nat} (h : ImgAt w ib b ms mf M first count) : Calls prog 78 #[D ib] w fun e w' => w' = w ∧ e = .returned (I64 ((64 * (count - 1) : Nat) : Int)) := by
  have h1 := h.hi
  have h2 := h.disk.ok.hi
  have h3 := h.c2
  refine image_Image_room.link ⟨_, h.blk.cell 2, rfl, ?_⟩
  rw [wrapi (n := (count : Int) - 1) (by omega) (by omega), wrapi (by omega) (by omega)]
  congr 3
  omega

theorem area_c {w : World} {ib b ms mf : Nat} {M : DM} {first count : Nat} (h : ImgAt w ib b ms mf M first count) {k : Nat} (hk : k ≤ 1) :
    Calls prog 89 #[D ib, I64 (k : Int)] w fun e w' => Fr [] w w' ∧ e = .returned (.tuple #[I64 ((iareaAt M.now (first + k * count) count).1 : Nat), I64 ((iareaAt M.now (first + k * count) count).2 : Nat)]) := by
  have hhi := h.hi
  have h4 := h.disk.ok.hi
  have h2 := h.c2
  have ekc : (k : Int) * (count : Int) = ((k * count : Nat) : Int) := by simp
  have hkc : k * count ≤ count := by
    have := Nat.mul_le_mul_right count hk
    omega
  have ha : first + k * count < M.sure.length := by omega
  refine image_Image_area.link ⟨_, h.blk.cell 0, _, h.blk.cell 1, _, h.blk.cell 2, fun w4 st4 => ?_⟩
  have x1 : IntKind.wrap .i64 ((first : Int) + IntKind.wrap .i64 ((k : Int) * (count : Int))) = ((first + k * count : Nat) : Int) := by
    rw [ekc, wrapi (n := ((k * count : Nat) : Int)) (by omega) (by omega), wrapi (by omega) (by omega)]; omega
  rw [x1]
  refine (read_in (h.disk.fr st4.fr (by simp)) ha).mono ?_
  generalize first + k * count = a at *
  rintro e w7 ⟨kb, s, hs, h64, rfl, hkb, f7, b7⟩
  have h64' : s.data.size = 64 := h64
  have z4 := st4.size
  have hget : M.now.getD a zsec = s := by rw [List.getD_eq_getElem?_getD, hs]; rfl
  refine ⟨_, _, _, _, rfl, ⟨by omega, by omega, by omega⟩, ⟨by omega, by omega, by omega⟩, fun w12 st12 => ?_⟩
  have b12 : Blk w12 kb (byteCells s) := b7.fr st12.fr (by simp)
  have f12 : Fr [] w w12 := (st4.fr.trans' f7).trans' st12.fr
  have hcell : ∀ j, j < 64 → w12.cell? ⟨kb, j, none⟩ = some (.int .u8 ((s.data.getD j 0).toNat : Int)) := fun j hj => by
    rw [b12.cell, byteCells_get, Array.getElem?_eq_getElem (by omega)]
    simp [Array.getD, show j < s.data.size by omega, h64, hj]
  have es1 : subA (some ⟨kb, 0, none⟩) 1 64 1 = some (⟨kb, 1, none⟩ : Addr) := rfl
  have es9 : subA (some ⟨kb, 0, none⟩) 9 64 1 = some (⟨kb, 9, none⟩ : Addr) := rfl
  rw [es1, es9]
  refine (number_c (x := fun i => s.data.getD (1 + i) 0) (n := 8) (by omega) (fun i hi => by rw [add_mk]; exact hcell (1 + i) (by omega))).mono ?_
  rintro e w15 ⟨rfl, rfl⟩
  refine ⟨_, rfl, (number_c (x := fun i => s.data.getD (9 + i) 0) (n := 4) (by omega) (fun i hi => by rw [add_mk]; exact hcell (9 + i) (by omega))).mono ?_⟩
  rintro e w18 ⟨rfl, rfl⟩
  refine ⟨_, rfl, fun y20 hy20 => ?_⟩
  have hB := beN_lt (bytesAt s 1 8)
  have hBl : (bytesAt s 1 8).length = 8 := by simp [bytesAt]
  rw [hBl] at hB
  have hS := beN_lt (bytesAt s 9 4)
  have hSl : (bytesAt s 9 4).length = 4 := by simp [bytesAt]
  rw [hSl] at hS
  have eB : beN ((List.range 8).map fun i => s.data.getD (1 + i) 0) = beN (bytesAt s 1 8) := rfl
  have eS : beN ((List.range 4).map fun i => s.data.getD (9 + i) 0) = beN (bytesAt s 9 4) := rfl
  rw [eB, eS] at hy20 ⊢
  have spec : iareaAt M.now a count = if 1 ≤ beN (bytesAt s 1 8) ∧ beN (bytesAt s 1 8) ≤ 4611686018427387904 ∧ beN (bytesAt s 9 4) ≤ 64 * (count - 1) ∧ s = imgHead (beN (bytesAt s 1 8) : Nat) (beN (bytesAt s 9 4) : Nat) then (beN (bytesAt s 1 8), beN (bytesAt s 9 4)) else (0, 0) := by
    unfold iareaAt
    simp only [hget]
  generalize beN (bytesAt s 1 8) = B at *
  generalize beN (bytesAt s 9 4) = S at *
  have hSw : IntKind.wrap .i64 (S : Int) = (S : Int) := wrapi (by omega) (by omega)
  rw [hSw] at hy20 ⊢
  have bad : ∀ w27, Fr [] w w27 → ¬ (1 ≤ B ∧ B ≤ 4611686018427387904 ∧ S ≤ 64 * (count - 1) ∧ s = imgHead (B : Nat) (S : Nat)) → y20 true w27 := fun w27 f27 hn => by
    refine hy20 _ _ (bT rfl ⟨f27, ?_⟩)
    rw [spec, if_neg hn]; rfl
  have good : ∀ w27, Fr [] w w27 → (1 ≤ B ∧ B ≤ 4611686018427387904 ∧ S ≤ 64 * (count - 1) ∧ s = imgHead (B : Nat) (S : Nat)) → y20 false w27 := fun w27 f27 hg => by
    refine hy20 _ _ (bF rfl ⟨f27, ?_⟩)
    rw [spec, if_pos hg, wrapi (n := (B : Int)) (by omega) (by omega)]
  clear hy20
  have hBw : IntKind.wrap .i64 (B : Int) = if B < 9223372036854775808 then (B : Int) else (B : Int) - 18446744073709551616 := by
    rw [wrap64m]; split <;> split <;> omega
  refine bc (fun hc => bad _ f12 fun hg => ?_) fun hc => bc (fun hc2 => bad _ f12 fun hg => ?_) fun hc2 => ?_
  · have hc := of_decide_eq_true hc
    rw [hBw] at hc
    have := hg.1
    have := hg.2.1
    rw [if_pos (by omega)] at hc
    omega
  · have hc2 := of_decide_eq_true hc2
    rw [hBw] at hc2
    have := hg.1
    have := hg.2.1
    rw [if_pos (by omega)] at hc2
    omega
  have hc := of_decide_eq_false hc
  have hc2 := of_decide_eq_false hc2
  have hB1 : 1 ≤ B ∧ B ≤ 4611686018427387904 := by
    rw [hBw] at hc hc2
    split at hc
    · rename_i hlt
      rw [if_pos hlt] at hc2
      omega
    · omega
  have hw : IntKind.wrap .i64 (B : Int) = (B : Int) := wrapi (by omega) (by omega)
  rw [hw]
  refine (room_ci (h.fr f12 (by simp))).mono ?_
  rintro e w26 ⟨rfl, rfl⟩
  refine ⟨_, rfl, bc (fun hc3 => bad _ f12 fun hg => ?_) fun hc3 => ?_⟩
  · have hc3 := of_decide_eq_true hc3
    have := hg.2.2.1
    omega
  have hc3 := of_decide_eq_false hc3
  refine (ihead_c _ (B : Int) (S : Int)).mono ?_
  rintro e w29 ⟨k29, rfl, hk29, f29, b29⟩
  refine ⟨_, _, _, rfl, ?_⟩
  have heq := equal_c (w := w29) (aC := 64) (bC := 64) (x := s) (y := imgHead B S) (g_row f29 (Row.all b12 (byteCells_one s)) fun ad _ _ => by simp) (Row.all b29 (byteCells_one _))
  rw [h64, imgHead_size] at heq
  refine heq.mono ?_
  rintro e w34 ⟨rfl, rfl⟩
  refine ⟨_, rfl, ?_⟩
  by_cases hh : s = imgHead B S
  · rw [decide_eq_true hh]
    exact good _ (f12.trans' f29) ⟨hB1.1, hB1.2, by omega, hh⟩
  · rw [decide_eq_false hh]
    exact bad _ (f12.trans' f29) fun hg => hh hg.2.2.2

theorem counts_c {w : World} {ib b ms mf : Nat} {M : DM} {first count : Nat} (h : ImgAt w ib b ms mf M first count) :
    Calls prog 77 #[D ib] w fun e w' => Fr [] w w' ∧ e = .returned (.tuple #[I64 ((icounts M.now first count).1 : Nat), I64 ((icounts M.now first count).2.1 : Nat), I64 ((icounts M.now first count).2.2 : Nat)]) := by
  refine image_Image_counts.link ((area_c h (k := 0) (by omega)).mono ?_)
  rintro e w2 ⟨f2, rfl⟩
  refine ⟨_, _, rfl, (area_c (h.fr f2 (by simp)) (k := 1) (by omega)).mono ?_⟩
  rintro e w6 ⟨f6, rfl⟩
  have f06 := f2.trans' f6
  rw [Nat.zero_mul, Nat.one_mul, Nat.add_zero]
  refine ⟨_, _, rfl, fun y9 hy => ?_⟩
  have yes : ∀ b, (b = true ↔ ((iareaAt M.now (first + count) count).1 ≤ (iareaAt M.now first count).1 ∧ 0 < (iareaAt M.now first count).1)) → y9 b w6 := fun b hb => by
    refine hy b w6 (bc (fun e => ⟨f06, ?_⟩) fun e => ⟨f06, ?_⟩)
    · have e2 : icounts M.now first count = (0, iareaAt M.now first count) := by unfold icounts; simp only; rw [if_pos (hb.1 e)]
      rw [e2]; rfl
    · have e2 : icounts M.now first count = (1, iareaAt M.now (first + count) count) := by unfold icounts; simp only; rw [if_neg (fun hc => by rw [hb.2 hc] at e; cases e)]
      rw [e2]; rfl
  refine bc (fun h1 => yes _ ?_) fun h1 => yes _ ?_
  · have h1 := of_decide_eq_true h1
    rw [decide_eq_true_iff]
    omega
  · have h1 := of_decide_eq_false h1
    constructor
    · intro h; cases h
    · rintro ⟨h2, _⟩; omega

theorem cat_append (now : List ByteArray) (a i : Nat) {s : ByteArray} (hs : now.getD (a + i) zsec = s) : cells8 (catL now a (i + 1)) = cells8 (catL now a i) ++ byteCells s := by
  rw [catL_succ, hs]; unfold cells8; rw [List.map_append]; rfl

theorem iload_c {w : World} {ib b ms mf : Nat} {M : DM} {first count : Nat} (h : ImgAt w ib b ms mf M first count) :
    Calls prog 51 #[D ib] w fun e w' => ∃ p c, e = .returned (.tuple #[I64 ((iload M.now first count).1 : Nat), .slice p (iload M.now first count).2.1.size c, .bool (iload M.now first count).2.2]) ∧ Fr [] w w' ∧ OwnZ w' w.heap.size 1 p (iload M.now first count).2.1.size c (byteCells (iload M.now first count).2.1) := by
  have hhi := h.hi
  have h4 := h.disk.ok.hi
  have h2 := h.c2
  refine image_Image_Load.link ((counts_c h).mono ?_)
  rintro e w2 ⟨f2, rfl⟩
  refine ⟨_, _, _, rfl, ?_⟩
  obtain ⟨l1, l2, l3⟩ := icounts_le M.now first count
  have z2 := f2.size
  have spec : iload M.now first count = if (icounts M.now first count).2.1 = 0 then (0, ⟨#[]⟩, false) else ((icounts M.now first count).2.1, idata M.now (first + (icounts M.now first count).1 * count) (icounts M.now first count).2.2, true) := rfl
  rw [spec]
  clear spec
  generalize icounts M.now first count = cc at *
  obtain ⟨K, B, S⟩ := cc
  simp only at l1 l2 l3 ⊢
  have h2i : ImgAt w2 ib b ms mf M first count := h.fr f2 (by simp)
  have hkc : K * count ≤ count := by
    have := Nat.mul_le_mul_right count l1
    omega
  refine bc (fun hz => ?_) fun hz => ?_
  · have hz : B = 0 := by have := of_decide_eq_true hz; omega
    rw [if_pos hz]
    exact ⟨none, 0, rfl, f2, OwnZ.nil _ _ _⟩
  have hz : ¬ B = 0 := by have := of_decide_eq_false hz; omega
  rw [if_neg hz]
  have ekc : (K : Int) * (count : Int) = ((K * count : Nat) : Int) := by simp
  have x1 : IntKind.wrap .i64 (IntKind.wrap .i64 ((first : Int) + IntKind.wrap .i64 ((K : Int) * (count : Int))) + 1) = ((first + K * count + 1 : Nat) : Int) := by
    rw [ekc, wrapi (n := ((K * count : Nat) : Int)) (by omega) (by omega), wrapi (n := (first : Int) + _) (by omega) (by omega), wrapi (by omega) (by omega)]; omega
  refine ⟨_, h2i.blk.cell 1, _, h2i.blk.cell 2, ?_⟩
  rw [x1]
  have hsS : secs S = (S + 63) / 64 := rfl
  have hsc : secs S ≤ count - 1 := by omega
  have hbase : first + K * count + 1 + secs S ≤ M.sure.length := by omega
  generalize ha : first + K * count = a at *
  clear x1 ekc
  refine ⟨fun m p l c q w' => ∃ i : Nat, q = ((a + 1 + i : Nat) : Int) ∧ i ≤ secs S ∧ m = secs S - i ∧ l = 64 * i ∧ OwnZ w' w2.heap.size 1 p l c (cells8 (catL M.now (a + 1) i)) ∧ Fr [] w2 w', secs S, fun w10 st10 => ⟨0, by simp, by omega, rfl, rfl, OwnZ.nil _ _ _, st10.fr⟩, ?_⟩
  rintro m p l c q w17 ⟨i, rfl, hi, rfl, rfl, o17, f17⟩
  have h17 : ImgAt w17 ib b ms mf M first count := h2i.fr f17 (by simp)
  have z17 := f17.size
  refine bc (fun hlt => ?_) fun hge => ?_
  · have hlt := of_decide_eq_true hlt
    have hin : a + 1 + i < M.sure.length := by omega
    refine ⟨_, h17.blk.cell 0, (read_in h17.disk hin).mono ?_⟩
    rintro e w21 ⟨kb, s, hs, s64, rfl, hkb, f21, b21⟩
    have z21 := f21.size
    have hget : M.now.getD (a + 1 + i) zsec = s := by rw [List.getD_eq_getElem?_getD, hs]; rfl
    have o21 := o17.fr f21 (fun ad _ => by simp)
    refine ⟨_, _, _, _, rfl, byteCells s, by rw [byteCells_length, s64], Row.all b21 (byteCells_one s), append_z o21 (by rw [byteCells_length, s64]) (byteCells_one s) (by omega) rfl (fun _ => rfl) (fun ad _ => by simp) (fun ad hp hm => by simp at hm) (by omega) (by omega) fun w50 p51 c53 f50 _ o50 d50 => ⟨secs S - (i + 1), by omega, i + 1, ?_, by omega, rfl, by omega, ?_, ?_⟩⟩
    · rw [wrapi (by omega) (by omega)]; omega
    · rw [cat_append _ _ _ hget]
      exact o50
    · refine (f17.trans' f21).trans f50 fun x hx => ?_
      rw [List.nil_append, g_mem_pb] at hx
      obtain ⟨ad, hp, rfl⟩ := hx
      exact .inr (o21.lt hp).1
  · have hge := of_decide_eq_false hge
    have hi' : i = secs S := by omega
    subst hi'
    have hcap : 64 * secs S ≤ c := o17.2.1
    have hlen : (catL M.now (a + 1) (secs S)).length = 64 * secs S := by
      have := o17.len
      simp [cells8] at this; omega
    have eS2 : ((S : Int)).toNat - 0 = S := by omega
    rw [subA0, eS2]
    have hrow : Row w17 p (byteCells (idata M.now a S)) := by
      unfold idata
      rw [cells8_mk]
      unfold cells8
      rw [List.map_take]
      exact Row.take o17.row S
    have hds : (idata M.now a S).size = S := by
      show ((catL M.now (a + 1) (secs S)).take S).toArray.size = S
      rw [List.size_toArray, List.length_take]; omega
    have hcl := clone_b (sC := c - 0) hrow (by rw [hds]; omega)
    rw [hds] at hcl
    refine ⟨⟨by omega, by omega, by omega⟩, hcl.mono ?_⟩
    rintro e w33 ⟨p34, c36, rfl, f33, o33⟩
    refine ⟨_, _, _, rfl, ?_⟩
    show ∃ p' c', _ = Ending.returned (.tuple #[I64 (B : Int), .slice p' (idata M.now a S).size c', .bool true]) ∧ _
    rw [hds]
    exact ⟨p34, c36, rfl, (f2.trans' f17).trans' f33, o33.mono (by omega)⟩

theorem iopen_c {w : World} {b ms mf : Nat} {M : DM} (hD : DiskAt w b ms mf M) {first count : Int} (hf1 : -9223372036854775808 ≤ first) (hc2 : count < 9223372036854775808) :
    Calls prog 49 #[D b, I64 first, I64 count] w fun e w' =>
      ((first < 0 ∨ count < 2 ∨ M.n < first ∨ (M.n - first) / 2 < count) → w' = w ∧ e = .returned (.tuple #[.pointer none, I64 1])) ∧
      (¬ (first < 0 ∨ count < 2 ∨ M.n < first ∨ (M.n - first) / 2 < count) → ∃ k, e = .returned (.tuple #[D k, I64 0]) ∧ w.heap.size ≤ k ∧ Fr [] w w' ∧ ImgAt w' k b ms mf M first.toNat count.toNat) := by
  have hhi := hD.ok.hi
  have hMn : M.n = (M.sure.length : Int) := rfl
  refine image_Open.link fun y1 hy => ?_
  have bad : (first < 0 ∨ count < 2 ∨ M.n < first ∨ (M.n - first) / 2 < count) → y1 true w := fun hb => hy _ _ (bT rfl ⟨fun _ => ⟨rfl, rfl⟩, fun hn => absurd hb hn⟩)
  refine bc (fun h1 => bad (.inl (of_decide_eq_true h1))) fun h1 => bc (fun h2 => bad (.inr (.inl (of_decide_eq_true h2)))) fun h2 => (size_c hD).mono ?_
  have h1 := of_decide_eq_false h1
  have h2 := of_decide_eq_false h2
  rintro e w11 ⟨rfl, rfl⟩
  refine ⟨_, rfl, bc (fun h3 => bad (.inr (.inr (.inl (of_decide_eq_true h3))))) fun h3 => (size_c hD).mono ?_⟩
  have h3 := of_decide_eq_false h3
  rintro e w14 ⟨rfl, rfl⟩
  refine ⟨_, rfl, by decide, ?_⟩
  have x1 : IntKind.wrap .i64 (Int.tdiv (IntKind.wrap .i64 (M.n - first)) 2) = (M.n - first) / 2 := by
    rw [wrapi (n := M.n - first) (by omega) (by omega), Int.tdiv_eq_ediv_of_nonneg (by omega), wrapi (by omega) (by omega)]
  rw [x1]
  by_cases h4 : (M.n - first) / 2 < count
  · rw [decide_eq_true h4]
    exact bad (.inr (.inr (.inr h4)))
  · rw [decide_eq_false h4]
    refine hy _ _ (bF rfl fun k4 w5 st5 b5 => ⟨fun hb => ?_, fun _ => ⟨k4, rfl, (g_new1 st5).1, st5.fr.mono (fun x hx => by cases hx), hD.fr st5.fr (by simp), ?_, ?_, by omega, by omega⟩⟩)
    · rcases hb with h | h | h | h <;> omega
    · have := hD.bs
      have n5 := (g_new1 st5).1
      simp; omega
    · have e1 : ((first.toNat : Nat) : Int) = first := by omega
      have e2 : ((count.toNat : Nat) : Int) = count := by omega
      rw [e1, e2]
      exact b5
end Go.Proofs.Ytcaamecdhbgknaa.Image
