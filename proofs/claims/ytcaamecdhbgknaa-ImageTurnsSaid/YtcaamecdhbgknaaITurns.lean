/- ImageTurns: the law's own walk. -/
import Derived.Test.YtcaamecdhbgknaaI6
import Derived.Test.YtcaamecdhbgknaaL15
namespace Go.Proofs.Ytcaamecdhbgknaa.Image
open Go Go.V
open Go.Proofs.Ytcaamecdhbgknaa.VC
open Go.Proofs.Ytcaamecdhbgknaa.Disk
open Go.Proofs.Ytcaamecdhbgknaa.Log
open Go.Proofs.Try (prog)
set_option linter.unusedVariables false
set_option linter.unusedSimpArgs false
set_option maxRecDepth 20000

/-- Where the law has come to. -/
structure TurnsAt (w0 w : World) (ib b ms mf i : Nat) (M : DM) : Prop where
  img : ImgAt w ib b ms mf M 0 6
  fr : Fr [] w0 w
  new : ∀ x ∈ [ib, b, ms, mf], w0.heap.size ≤ x
  quiet : Quiet M
  alive : M.left < 0
  k : (icounts M.now 0 6).1 = (i + 1) % 2
  seq : (icounts M.now 0 6).2.1 = if i = 0 then 0 else 3 * i - 2

set_option maxHeartbeats 1000000 in
theorem turns_walk (w : World) {a : Option Addr} {cap : Nat} {z : List ByteArray} (hz : RowsC w a z.length z) :
    Calls prog 15 #[.slice a z.length cap] w fun e w' => e = .returned (.bool true) ∧ RowKit.Below w.heap.size w w' := by
  refine rhizomelaw05_ImageTurns.link ((iawake_c w).mono ?_)
  rintro e w2 ⟨rfl, f2⟩
  have below : ∀ w', Fr [] w w' → RowKit.Below w.heap.size w w' := fun w' f => f.below (Nat.le_refl _) (fun x hx => by cases hx)
  refine ⟨_, rfl, bF rfl ((new_c w2 12).mono ?_)⟩
  rintro e w5 ⟨_, hgood⟩
  obtain ⟨b, ms, mf, rfl, hnew, f5, hD⟩ := hgood (by omega)
  have z2 := f2.size
  have z5 := f5.size
  have hn1 := hnew b (by simp)
  have hn2 := hnew ms (by simp)
  have hn3 := hnew mf (by simp)
  refine ⟨_, _, rfl, fun y8 hy8 => bF rfl (hy8 _ _ (bF rfl ((iopen_c hD (first := 0) (count := 6) (by omega) (by omega)).mono ?_)))⟩
  clear hy8
  rintro e w12 ⟨_, h12⟩
  have hMn : (DM.fresh0 (12 : Int).toNat).n = 12 := by decide +kernel
  obtain ⟨ib, rfl, hib, f12, hI⟩ := h12 (by rw [hMn]; omega)
  rw [show (12 : Int).toNat = 12 from rfl, show (0 : Int).toNat = 0 from rfl, show (6 : Int).toNat = 6 from rfl] at hI
  have F12 : Fr [] w w12 := (f2.trans' f5).trans' f12
  have hc0 : icounts (DM.fresh0 12).now 0 6 = (1, 0, 0) := by decide +kernel
  refine ⟨_, _, rfl, fun y15 hy15 => bF rfl (hy15 _ _ (bF rfl ⟨fun m q w' => ∃ (i : Nat) (M : DM), q = i ∧ i ≤ 12 ∧ m = 12 - i ∧ TurnsAt w w' ib b ms mf i M, 12, ⟨0, DM.fresh0 12, rfl, by omega, rfl, hI, F12, (fun x hx => by simp at hx; omega), fun j => rfl, by decide, by rw [hc0], by rw [hc0]; rfl⟩, ?_⟩))⟩
  clear hy15
  rintro m q w22 ⟨i, M, rfl, hi, rfl, hT⟩ y24 hy24
  have done : y24 false w22 := hy24 _ _ (bF rfl ⟨rfl, below _ hT.fr⟩)
  refine bc (fun hlt => ?_) fun hge => done
  have hlt := of_decide_eq_true hlt
  by_cases h12 : (i : Int) < 12
  case neg => rw [decide_eq_false h12]; exact done
  rw [decide_eq_true h12]
  clear done
  have hil : i < z.length := by omega
  have hok := hT.img.disk.ok
  have hhi := hT.img.hi
  have h4 := hok.hi
  have x0 : IntKind.wrap .i64 ((i : Int) + 1) = ((i + 1 : Nat) : Int) := by rw [wrapi (by omega) (by omega)]; omega
  have x1 : IntKind.wrap .i64 (Int.tmod (IntKind.wrap .i64 ((i : Int) + 1)) 2 * 6) = (((i + 1) % 2 * 6 : Nat) : Int) := by
    rw [x0, Int.tmod_eq_emod_of_nonneg (by omega), wrapi (by omega) (by omega)]; omega
  have x2 : IntKind.wrap .i64 ((((i + 1) % 2 * 6 : Nat) : Int) + 1) = (((i + 1) % 2 * 6 + 1 : Nat) : Int) := by
    rw [wrapi (by omega) (by omega)]; omega
  refine hy24 _ _ (bT rfl ⟨by decide, ?_⟩)
  rw [x1]
  refine (read_in hT.img.disk (i := (i + 1) % 2 * 6) (by omega)).mono ?_
  rintro e w28 ⟨kx, sx, hsx, sx64, rfl, hkx, f28, bx⟩
  have hI28 := hT.img.fr f28 (fun x _ => by simp)
  refine ⟨_, _, _, _, rfl, by decide, ?_⟩
  rw [x2]
  refine (read_in hI28.disk (i := (i + 1) % 2 * 6 + 1) (by omega)).mono ?_
  rintro e w34 ⟨ky, sy, hsy, sy64, rfl, hky, f34, by34⟩
  have hI34 := hI28.fr f34 (fun x _ => by simp)
  have F34 : Fr [] w w34 := (hT.fr.trans' f28).trans' f34
  obtain ⟨s, ad, A, C, hs, ha, hcell, _, hrow, hsz1, hsz2⟩ := hz.get F34 hil
  have hps := pre_size s 320
  have et : Int.toNat (i : Int) * 1 = i := by omega
  have x3 : (if (320 : Int) < (s.size : Int) then (320 : Int) else (s.size : Int)) = (((pre s 320).size : Nat) : Int) := by
    rw [hps]; split <;> omega
  have x4 : IntKind.wrap .i64 (IntKind.wrap .i64 (3 * (i : Int)) + 1) = ((3 * i + 1 : Nat) : Int) := by
    rw [wrapi (n := 3 * (i : Int)) (by omega) (by omega), wrapi (by omega) (by omega)]; omega
  have x5 : Int.toNat (((pre s 320).size : Nat) : Int) - 0 = (pre s 320).size := by omega
  refine ⟨_, _, _, _, rfl, ad, ha, ⟨by omega, hlt⟩, A, s.size, C, by rw [et]; exact hcell, ad, ha, ⟨by omega, hlt⟩, A, s.size, C, by rw [et]; exact hcell, ?_⟩
  rw [x3, x4, x5, subA0]
  have hpz : (pre s 320).size ≤ 320 ∧ (pre s 320).size ≤ s.size := by omega
  have hprow : Row w A (byteCells (pre s 320)) := by rw [pre_cells]; exact Row.take hrow 320
  refine ⟨⟨by omega, by omega, by omega⟩, fun y47 hy47 w101 st101 => ?_⟩
  have F101 := F34.trans' st101.fr
  have hI101 := hI34.fr st101.fr (fun x _ => by simp)
  have notin : ∀ (u : World) (x : ByteArray) (p : Option Addr), Row w p (byteCells x) → ∀ ad, p = some ad → 0 < x.size → ad.block ∉ [b, ms, mf] := fun u x p hr ad hp h0 hm => by
    have hl0 : 0 < (byteCells x).length := by rw [byteCells_length]; omega
    obtain ⟨ad', hp', hc⟩ := hr.1 0 _ (List.getElem?_eq_getElem hl0)
    rw [hp] at hp'; injection hp' with hp'; subst hp'
    have h1 := World.block_lt_of_cell? w _ hc
    rw [add_block] at h1
    have h2 := hT.new ad.block (by simp at hm ⊢; simp [hm])
    omega
  generalize hdat : pre s 320 = data at *
  have hseq : (icounts M.now 0 6).2.1 < 3 * i + 1 := by rw [hT.seq]; split <;> omega
  obtain ⟨S, alive⟩ := isave_all (first := 0) (count := 6) (seq := 3 * i + 1) (data := data) hok hT.quiet (by omega) hhi hseq (by omega) (by omega)
  obtain ⟨code, lft⟩ := alive hT.alive
  refine (isave_c hI101 (seq := ((3 * i + 1 : Nat) : Int)) (dC := C - 0) (g_row F101 hprow fun ad _ _ => by simp) (notin w data A hprow) (by omega)).mono ?_
  rintro e w104 ⟨rfl, f104, hI104⟩
  rw [code]
  obtain ⟨q', c', l', o'⟩ := S.good code
  have hM' : isave (isave M 0 6 ((3 * i + 1 : Nat) : Int) data).1 0 6 ((3 * i + 1 : Nat) : Int) data = ((isave M 0 6 ((3 * i + 1 : Nat) : Int) data).1, 2) :=
    isave_twice (by show ¬ (((3 * i + 1 : Nat) : Int) < 1 ∨ (4611686018427387904 : Int) < _); omega) (by rw [c']; exact Int.le_refl _)
  have hn' := S.n
  generalize hMs : (isave M 0 6 ((3 * i + 1 : Nat) : Int) data).1 = M' at *
  have hlen' : M'.sure.length = M.sure.length := by
    have e1 : M'.n = (M'.sure.length : Int) := rfl
    have e2 : M.n = (M.sure.length : Int) := rfl
    omega
  have sub3 : ∀ x ∈ [b, ms, mf], w.heap.size ≤ x := fun x hx => hT.new x (by simp at hx ⊢; simp [hx])
  have F104 : Fr [] w w104 := F101.trans f104 (fun x hx => .inr (sub3 x hx))
  refine ⟨_, rfl, bF rfl ((isave_c hI104 (seq := ((3 * i + 1 : Nat) : Int)) (dC := C - 0) (g_row F104 hprow fun ad _ _ => by simp) (notin w data A hprow) (by omega)).mono ?_)⟩
  rintro e w107 ⟨rfl, f107, hI107⟩
  rw [hM'] at hI107 ⊢
  have hI107 : ImgAt w107 ib b ms mf M' 0 6 := hI107
  have F107 : Fr [] w w107 := F104.trans f107 (fun x hx => .inr (sub3 x hx))
  refine ⟨_, rfl, hy47 _ _ (bF rfl ((iload_c hI107).mono ?_))⟩
  clear hy47
  rintro e w51 ⟨p53, c55, rfl, f51, o51⟩
  rw [l'] at o51 ⊢
  have hI51 := hI107.fr f51 (fun x _ => by simp)
  have F51 := F107.trans' f51
  refine ⟨_, _, _, _, _, rfl, by decide, ?_⟩
  refine (read_in hI51.disk (i := (i + 1) % 2 * 6) (by omega)).mono ?_
  rintro e w58 ⟨kx2, sx2, hsx2, sx264, rfl, hkx2, f58, bx2⟩
  have hI58 := hI51.fr f58 (fun x _ => by simp)
  refine ⟨_, _, _, _, rfl, by decide, ?_⟩
  refine (read_in hI58.disk (i := (i + 1) % 2 * 6 + 1) (by omega)).mono ?_
  rintro e w64 ⟨ky2, sy2, hsy2, sy264, rfl, hky2, f64, by64⟩
  have F64 := (F51.trans' f58).trans' f64
  -- the other area's sectors are as they were
  have hk := hT.k
  have same : ∀ j, (i + 1) % 2 * 6 ≤ j → j < (i + 1) % 2 * 6 + 6 → M'.now.getD j zsec = M.now.getD j zsec := fun j g1 g2 => by
    refine o' j ?_
    rw [hk]
    rcases Nat.mod_two_eq_zero_or_one (i + 1) with e | e <;> rw [e] at g1 g2 ⊢ <;> simp at g1 g2 ⊢ <;> omega
  have get : ∀ {l : List ByteArray} {j : Nat} {t : ByteArray}, l[j]? = some t → l.getD j zsec = t := fun h => by rw [List.getD_eq_getElem?_getD, h]; rfl
  have ex : sx2 = sx := by
    rw [← get hsx2, ← get hsx]; exact same _ (by omega) (by omega)
  have ey : sy2 = sy := by
    rw [← get hsy2, ← get hsy]; exact same _ (by omega) (by omega)
  subst ex; subst ey
  have fr64 : ∀ {u : World}, Fr [b, ms, mf] u w64 → True := fun _ => trivial
  have z34 := f34.size
  have z28 := f28.size
  have Fx : Fr [b, ms, mf] w28 w64 := ((((((f34.mono (G := [b, ms, mf]) fun x hx => by cases hx).trans st101.fr (fun x hx => by cases hx)).trans' f104).trans' f107).trans f51 (fun x hx => by cases hx)).trans f58 (fun x hx => by cases hx)).trans f64 (fun x hx => by cases hx)
  have Fy : Fr [b, ms, mf] w34 w64 := (((((st101.fr.mono (G := [b, ms, mf]) fun x hx => by cases hx).trans' f104).trans' f107).trans f51 (fun x hx => by cases hx)).trans f58 (fun x hx => by cases hx)).trans f64 (fun x hx => by cases hx)
  have bs := hT.img.disk.bs
  have rx : Row w64 (some ⟨kx, 0, none⟩) (byteCells sx2) := Row.all (bx.fr Fx (by simp; omega)) (byteCells_one _)
  have ry : Row w64 (some ⟨ky, 0, none⟩) (byteCells sy2) := Row.all (by34.fr Fy (by simp; omega)) (byteCells_one _)
  have rx2 : Row w64 (some ⟨kx2, 0, none⟩) (byteCells sx2) := g_row f64 (Row.all bx2 (byteCells_one _)) fun ad _ _ => by simp
  have ry2 : Row w64 (some ⟨ky2, 0, none⟩) (byteCells sy2) := Row.all by64 (byteCells_one _)
  have rd : Row w64 p53 (byteCells data) := g_row (f58.trans' f64) o51.row fun ad _ _ => by simp
  have rA : Row w64 A (byteCells data) := g_row F64 hprow fun ad _ _ => by simp
  have hx64 : sx2.size = 64 := sx264
  have hy64 : sy2.size = 64 := sy264
  refine ⟨_, _, _, _, rfl, fun y69 hy69 => bF rfl (bF (by simp) (row_str rd rfl (row_str rA ?_ (bF (by simp) (row_str rx2 hx64 (row_str rx hx64 (bF (by simp) (row_str ry2 hy64 (row_str ry hy64 (hy69 _ _ (bF (by simp) ⟨12 - (i + 1), by omega, i + 1, M', by rw [x0], by omega, rfl, ?_⟩))))))))))) ⟩
  · rfl
  · refine ⟨(hI58.fr f64 (fun x _ => by simp)), F64, hT.new, q', by rw [lft]; exact hT.alive, ?_, ?_⟩
    · rw [c', hk]
      show 1 - (i + 1) % 2 = (i + 1 + 1) % 2
      omega
    · rw [c', if_neg (by omega)]
      show 3 * i + 1 = 3 * (i + 1) - 2
      omega
end Go.Proofs.Ytcaamecdhbgknaa.Image
