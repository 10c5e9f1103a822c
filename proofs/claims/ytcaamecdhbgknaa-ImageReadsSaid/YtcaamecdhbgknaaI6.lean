/- The image: the document's examples. -/
import Derived.Test.YtcaamecdhbgknaaI5
import Derived.Test.YtcaamecdhbgknaaC6
namespace Go.Proofs.Ytcaamecdhbgknaa.Image
open Go Go.V
open Go.Proofs.Ytcaamecdhbgknaa.VC
open Go.Proofs.Ytcaamecdhbgknaa.Disk
open Go.Proofs.Ytcaamecdhbgknaa.Log
open Go.Proofs.Try (prog)
set_option linter.unusedVariables false
set_option linter.unusedSimpArgs false
set_option maxRecDepth 20000

def nob : ByteArray := ⟨#[]⟩
theorem isave_twice {M : DM} {first count : Nat} {seq : Int} {data : ByteArray} (h0 : ¬ (seq < 1 ∨ MOST < seq)) (h : seq ≤ ((icounts M.now first count).2.1 : Nat)) : isave M first count seq data = (M, 2) := by
  unfold isave
  simp only
  rw [if_neg h0, if_pos h]
theorem isave_long {M : DM} {first count : Nat} {seq : Int} {data : ByteArray} (h0 : ¬ (seq < 1 ∨ MOST < seq)) (h1 : ¬ seq ≤ ((icounts M.now first count).2.1 : Nat)) (h2 : 64 * (count - 1) < data.size) : isave M first count seq data = (M, 3) := by
  unfold isave
  simp only
  rw [if_neg h0, if_neg h1, if_pos h2]
theorem zeroB_blk {w : World} {k n : Nat} (h : Blk w k (reps [Value.int .u8 0] n)) : Blk w k (byteCells (zeroB n)) := by
  have e : byteCells (zeroB n) = reps [Value.int .u8 0] n := by rw [reps_one]; simp [byteCells, zeroB]
  rw [e]; exact h

theorem iawake_c (w : World) : Calls prog 48 #[] w fun e w' => e = .returned (.bool true) ∧ Fr [] w w' := by
  refine rhizomelaw05_awake.link (_u := ()) ((new_c w 8).mono ?_)
  rintro e w2 ⟨_, hgood⟩
  obtain ⟨b, ms, mf, rfl, hnew, f2, hD⟩ := hgood (by omega)
  have hn1 := hnew b (by simp)
  have hn2 := hnew ms (by simp)
  have hn3 := hnew mf (by simp)
  refine ⟨_, _, rfl, fun y5 hy5 => bF rfl (hy5 _ _ (bF rfl ((iopen_c hD (first := 0) (count := 4) (by omega) (by omega)).mono ?_)))⟩
  clear hy5
  rintro e w9 ⟨_, h9⟩
  have hMn : (DM.fresh0 (8 : Int).toNat).n = 8 := by decide +kernel
  obtain ⟨ib, rfl, hib, f9, hI⟩ := h9 (by rw [hMn]; omega)
  have z2 := f2.size
  have z9 := f9.size
  rw [show (8 : Int).toNat = 8 from rfl, show (0 : Int).toNat = 0 from rfl, show (4 : Int).toNat = 4 from rfl] at hI
  have m1 : (isave (DM.fresh0 8) 0 4 1 five).2 = 0 ∧ (isave (DM.fresh0 8) 0 4 1 five).1.steps = 6 ∧ (isave (isave (DM.fresh0 8) 0 4 1 five).1 0 4 1 nob).2 = 2 ∧ (isave (isave (isave (DM.fresh0 8) 0 4 1 five).1 0 4 1 nob).1 0 4 2 (zeroB 193)).2 = 3 ∧
      iload (isave (isave (isave (DM.fresh0 8) 0 4 1 five).1 0 4 1 nob).1 0 4 2 (zeroB 193)).1.now 0 4 = (1, five, true) := by decide +kernel
  obtain ⟨e1, e2, e3, e4, e5⟩ := m1
  refine ⟨_, _, rfl, fun y12 hy12 => bF rfl (bF rfl fun k33 w34 st34 w36 u36 => ?_)⟩
  have n34 := g_new1 st34
  have hI36 : ImgAt w36 ib b ms mf (DM.fresh0 8) 0 4 := (hI.fr st34.fr (fun x _ => by simp)).fr u36.fr (fun x hx hm => by
    have := hI.blk.lt
    have := hI.disk.bs
    simp at hx hm; omega)
  have r36 : Row w36 (some ⟨k33, 0, none⟩) (byteCells five) := Row.all u36.blk (byteCells_one _)
  have bs9 := hI.disk.bs
  refine (isave_c hI36 (seq := 1) (dC := 5) r36 (fun ad hp _ => by injection hp with hp; subst hp; simp; omega) (by decide)).mono ?_
  rintro e w39 ⟨rfl, f39, hI39⟩
  rw [e1]
  have z36 := u36.size
  have z34 := st34.size
  have z39 := f39.size
  refine ⟨_, rfl, bF rfl ((steps_c hI39.disk).mono ?_)⟩
  rintro e w42 ⟨rfl, rfl⟩
  rw [e2]
  refine ⟨_, rfl, bF rfl ((isave_c hI39 (seq := 1) (dA := none) (dC := 0) (data := nob) (Row.nil _ _) (fun ad hp => by cases hp) (by decide)).mono ?_)⟩
  rintro e w45 ⟨rfl, f45, hI45⟩
  rw [e3]
  refine ⟨_, rfl, bF rfl ⟨by decide, fun w47 k48 st47 b47 => ?_⟩⟩
  have n47 := g_new1 st47
  have z45 := f45.size
  have bz := zeroB_blk b47
  have hs3 := isave_c (hI45.fr st47.fr (fun x _ => by simp)) (seq := 2) (dC := 193) (Row.all bz (byteCells_one _)) (fun ad hp _ => by
    injection hp with hp; subst hp
    have := hI45.disk.bs
    simp; omega) (by rw [zeroB_size]; omega)
  rw [zeroB_size] at hs3
  refine hs3.mono ?_
  rintro e w52 ⟨rfl, f52, hI52⟩
  rw [e4]
  refine ⟨_, rfl, hy12 _ _ (bF rfl ((iload_c hI52).mono ?_))⟩
  rintro e w16 ⟨p, c, rfl, f16, o16⟩
  rw [e5] at o16 ⊢
  refine ⟨_, _, _, _, _, rfl, fun y22 hy22 => bT rfl (bT rfl (row_str o16.row rfl (hy22 _ _ ⟨?_, ?_⟩)))⟩
  · rfl
  · have hfin : ∀ x ∈ [b, ms, mf], w.heap.size ≤ x := hnew
    exact ((((((f2.trans' f9).trans' st34.fr).trans u36.fr (fun x hx => .inr (by simp at hx; omega))).trans f39 (fun x hx => .inr (hfin x hx))).trans f45 (fun x hx => .inr (hfin x hx))).trans' st47.fr).trans (f52) (fun x hx => .inr (hfin x hx)) |>.trans' f16
end Go.Proofs.Ytcaamecdhbgknaa.Image
