/- ImageSizes: the law's own walk. -/
import Derived.Test.YtcaamecdhbgknaaI6
import Derived.Test.YtcaamecdhbgknaaL16
namespace Go.Proofs.Ytcaamecdhbgknaa.Image
open Go Go.V
open Go.Proofs.Ytcaamecdhbgknaa.VC
open Go.Proofs.Ytcaamecdhbgknaa.Disk
open Go.Proofs.Ytcaamecdhbgknaa.Log
open Go.Proofs.Try (prog)
set_option linter.unusedVariables false
set_option linter.unusedSimpArgs false
set_option maxRecDepth 20000

theorem fresh_now (n i : Nat) : (DM.fresh0 n).now.getD i zsec = zsec := by
  show (List.replicate n zsec).getD i zsec = zsec
  rw [List.getD_eq_getElem?_getD, List.getElem?_replicate]
  split <;> rfl
theorem fresh_counts (n first count : Nat) : icounts (DM.fresh0 n).now first count = (1, 0, 0) := by
  rw [icounts_cnt, iarea_zero (fresh_now n first), iarea_zero (fresh_now n _)]
  rfl
theorem fresh_n (n : Nat) : (DM.fresh0 n).n = (n : Int) := by
  show ((List.replicate n zsec).length : Int) = n
  rw [List.length_replicate]
theorem bytes_set (s : ByteArray) (i : Nat) (x : UInt8) : (byteCells s).set i (.int .u8 (x.toNat : Int)) = byteCells ⟨(s.data.toList.set i x).toArray⟩ := by
  rw [cells8_mk]
  unfold cells8 byteCells
  rw [List.map_set]

set_option maxHeartbeats 1000000 in
theorem sizes_walk (w : World) (count less : Int) {a : Option Addr} {cap : Nat} {fill : ByteArray} (hf : Row w a (byteCells fill)) (hfz : fill.size ≤ 140737488351232) :
    Calls prog 16 #[I64 count, I64 less, .slice a fill.size cap] w fun e w' => e = .returned (.bool true) ∧ RowKit.Below w.heap.size w w' := by
  refine rhizomelaw05_ImageSizes.link ((iawake_c w).mono ?_)
  rintro e w2 ⟨rfl, f2⟩
  have below : ∀ w', Fr [] w w' → RowKit.Below w.heap.size w w' := fun w' f => f.below (Nat.le_refl _) (fun x hx => by cases hx)
  have m8 := modN (n := count) (m := 8) (by omega) (by omega)
  have m130 := modN (n := less) (m := 130) (by omega) (by omega)
  refine ⟨_, rfl, bF rfl ⟨by decide, ?_⟩⟩
  generalize IntKind.wrap .i64 (Int.tmod (IntKind.wrap .u64 count) 8) = q at *
  generalize IntKind.wrap .i64 (Int.tmod (IntKind.wrap .u64 less) 130) = r at *
  obtain ⟨c, hc⟩ : ∃ c : Nat, (c : Int) = q + 2 := ⟨(q + 2).toNat, by omega⟩
  have x1 : IntKind.wrap .i64 (q + 2) = (c : Int) := by rw [wrapi (by omega) (by omega)]; exact hc.symm
  have x2 : IntKind.wrap .i64 (2 * (c : Int)) = ((2 * c : Nat) : Int) := by rw [wrapi (by omega) (by omega)]; omega
  have x3 : IntKind.wrap .i64 (64 * IntKind.wrap .i64 ((c : Int) - 1)) = ((64 * (c - 1) : Nat) : Int) := by
    rw [wrapi (n := (c : Int) - 1) (by omega) (by omega), wrapi (by omega) (by omega)]; omega
  have x4 : (if IntKind.wrap .i64 (((64 * (c - 1) : Nat) : Int) - r) > 0 then IntKind.wrap .i64 (((64 * (c - 1) : Nat) : Int) - r) else 0) = ((64 * (c - 1) - r.toNat : Nat) : Int) := by
    rw [wrapi (by omega) (by omega)]; split <;> omega
  have x5 : IntKind.wrap .i64 (((64 * (c - 1) : Nat) : Int) + 1) = ((64 * (c - 1) + 1 : Nat) : Int) := by
    rw [wrapi (by omega) (by omega)]; omega
  have x6 : IntKind.wrap .i64 ((c : Int) + 1) = ((c + 1 : Nat) : Int) := by rw [wrapi (by omega) (by omega)]; omega
  have x7 : ∀ n : Nat, Int.toNat (n : Int) = n := fun n => by omega
  simp only [x1, x2, x3, x4, x5, x6, x7]
  clear x1 x2 x3 x4 x5 x6
  refine (new_c w2 ((2 * c : Nat) : Int)).mono ?_
  rintro e w5 ⟨_, hgood⟩
  obtain ⟨b, ms, mf, rfl, hnew, f5, hD⟩ := hgood (by omega)
  rw [x7] at hD
  have z2 := f2.size
  have z5 := f5.size
  have hn1 := hnew b (by simp)
  have hn2 := hnew ms (by simp)
  have hn3 := hnew mf (by simp)
  have hMn := fresh_n (2 * c)
  have hcnt := fresh_counts (2 * c) 0 c
  refine ⟨_, _, rfl, fun y8 hy8 => bF rfl (hy8 _ _ (bF rfl ((iopen_c hD (first := 0) (count := (c : Int)) (by omega) (by omega)).mono ?_)))⟩
  clear hy8
  rintro e w12 ⟨_, h12⟩
  obtain ⟨ib, rfl, hib, f12, hI⟩ := h12 (by rw [hMn]; omega)
  rw [show (0 : Int).toNat = 0 from rfl, x7] at hI
  have F12 : Fr [] w w12 := (f2.trans' f5).trans' f12
  have z12 := f12.size
  refine ⟨_, _, rfl, fun y15 hy15 => bF rfl (hy15 _ _ (bF rfl ⟨by decide, ⟨by omega, by omega, by omega, by omega⟩, fun w18 k19 st18 b18 => ?_⟩))⟩
  clear hy15
  have n18 := g_new1 st18
  generalize hm : 64 * (c - 1) - r.toNat = m at *
  have hz0 : byteCells (zeroB m) = reps [Value.int .u8 0] m := by rw [reps_one]; simp [byteCells, zeroB]
  refine ⟨fun mm q w' => ∃ (i : Nat) (s : ByteArray), q = i ∧ i ≤ m ∧ mm = m - i ∧ s.size = m ∧ Blk w' k19 (byteCells s) ∧ Fr [k19] w18 w', m, ⟨0, zeroB m, rfl, by omega, rfl, zeroB_size m, by rw [hz0]; exact b18, Fr.refl _ _⟩, ?_⟩
  rintro mm q' w26 ⟨i, s, rfl, hi, rfl, hs, b26, f26⟩
  have z26 := f26.size
  have z18 := st18.size
  have bs12 := hI.disk.bs
  have hibl := hI.blk.lt
  have F26 : Fr [] w w26 := (F12.trans' st18.fr).trans f26 (fun x hx => .inr (by simp at hx; omega))
  have hI26 : ImgAt w26 ib b ms mf (DM.fresh0 (2 * c)) 0 c := (hI.fr st18.fr (fun x _ => by simp)).fr f26 (fun x hx hm => by simp at hx hm; omega)
  have e0 : Int.toNat (i : Int) * 1 = i := by omega
  refine bc (fun hlt => ?_) fun hge => ?_
  · have hlt := of_decide_eq_true hlt
    intro y28 hy28
    have next : ∀ (s' : ByteArray) (w' : World), s'.size = m → Blk w' k19 (byteCells s') → Fr [k19] w26 w' → y28 w' := fun s' w' h1 h2 h3 => hy28 w' ⟨m - (i + 1), by omega, i + 1, s', by rw [wrapi (by omega) (by omega)]; simp, by omega, rfl, h1, h2, f26.trans' h3⟩
    clear hy28
    refine bc (fun hfl => ?_) fun _ => next s w26 hs b26 (Fr.refl _ _)
    have hfl := of_decide_eq_true hfl
    have et : Int.tmod (i : Int) (fill.size : Int) = ((i % fill.size : Nat) : Int) := by rw [Int.tmod_eq_emod_of_nonneg (by omega)]; omega
    have hmod : i % fill.size < fill.size := Nat.mod_lt _ (by omega)
    rw [et]
    have R26 : Row w26 a (byteCells fill) := g_row F26 hf fun ad _ _ => by simp
    obtain ⟨ad, had⟩ := R26.has (by rw [byteCells_length]; omega)
    have hmod' : i % fill.size < fill.data.size := hmod
    have hb := R26.get had (j := i % fill.size) (u := .int .u8 ((fill.data[i % fill.size]).toNat : Int)) (by rw [byteCells_get, Array.getElem?_eq_getElem hmod']; rfl)
    refine ⟨by omega, ad, had, ⟨by omega, by omega⟩, ((fill.data[i % fill.size]).toNat : Int), by rw [x7, Nat.mul_one]; exact hb, ?_⟩
    rw [e0]
    refine blk_store b26 i (by rw [byteCells_length]; omega) ⟨by omega, by omega⟩ fun w37 u37 => ?_
    have b37 := u37.blk
    rw [bytes_set] at b37
    refine next _ w37 ?_ b37 u37.fr
    show (s.data.toList.set i _).toArray.size = m
    rw [List.size_toArray, List.length_set, Array.length_toList]
    exact hs
  · intro y39 hy39
    refine ⟨⟨by omega, by omega, by omega, by omega⟩, fun w68 k69 st68 b68 => ?_⟩
    have n68 := g_new1 st68
    have hI68 := hI26.fr st68.fr (fun x _ => by simp)
    have h1 : ¬ ((1 : Int) < 1 ∨ MOST < (1 : Int)) := by decide
    have bs26 := hI26.disk.bs
    have z68 := st68.size
    have hsv := isave_c hI68 (seq := 1) (dC := 64 * (c - 1) + 1) (Row.all (zeroB_blk b68) (byteCells_one _)) (fun ad hp _ => by injection hp with hp; subst hp; simp; omega) (by rw [zeroB_size]; omega)
    rw [zeroB_size, isave_long h1 (by rw [hcnt]; decide) (by rw [zeroB_size]; omega)] at hsv
    refine hsv.mono ?_
    rintro e w73 ⟨rfl, f73, hI73⟩
    have hI73 : ImgAt w73 ib b ms mf (DM.fresh0 (2 * c)) 0 c := hI73
    have z73 := f73.size
    have hk19 : k19 ∉ [b, ms, mf] := by simp; omega
    have b73 : Blk w73 k19 (byteCells s) := (b26.fr st68.fr (by simp)).fr f73 hk19
    obtain ⟨S, alive⟩ := isave_all (first := 0) (count := c) (seq := 1) (data := s) hI73.disk.ok (fun j => rfl) (by omega) hI73.hi (by rw [hcnt]; decide) (by omega) (by omega)
    obtain ⟨code, lft⟩ := alive (show ((-1 : Int)) < 0 by decide)
    have hsv2 := isave_c hI73 (seq := ((1 : Nat) : Int)) (dC := m) (Row.all b73 (byteCells_one _)) (fun ad hp _ => by injection hp with hp; subst hp; exact hk19) (by omega)
    rw [hs] at hsv2
    refine ⟨_, rfl, bF rfl (hsv2.mono ?_)⟩
    rintro e w76 ⟨rfl, f76, hI76⟩
    rw [code]
    obtain ⟨_, _, hload, _⟩ := S.good code
    have hn' := S.n
    generalize (isave (DM.fresh0 (2 * c)) 0 c ((1 : Nat) : Int) s).1 = M' at *
    refine ⟨_, rfl, hy39 _ _ (bF rfl ((iload_c hI76).mono ?_))⟩
    clear hy39
    rintro e w43 ⟨p45, c47, rfl, f43, o43⟩
    rw [hload] at o43 ⊢
    have hI43 := hI76.fr f43 (fun x _ => by simp)
    refine ⟨_, _, _, _, _, rfl, (iopen_c hI43.disk (first := 0) (count := ((c + 1 : Nat) : Int)) (by omega) (by omega)).mono ?_⟩
    rintro e w50 ⟨h50, _⟩
    obtain ⟨rfl, rfl⟩ := h50 (by rw [hn', hMn]; omega)
    have b50 : Blk w50 k19 (byteCells s) := (b73.fr f76 hk19).fr f43 (by simp)
    refine ⟨_, _, rfl, fun y53 hy53 => bT rfl (bT rfl (row_str o43.row rfl (row_str (Row.all b50 (byteCells_one _)) hs (bT (by simp) (bT rfl (hy53 _ _ ⟨rfl, below _ ?_⟩))))))⟩
    have new3 : ∀ x ∈ [b, ms, mf], w.heap.size ≤ x := fun x hx => by have := hnew x hx; omega
    exact (((F26.trans' st68.fr).trans f73 (fun x hx => .inr (new3 x hx))).trans f76 (fun x hx => .inr (new3 x hx))).trans' f43
end Go.Proofs.Ytcaamecdhbgknaa.Image
