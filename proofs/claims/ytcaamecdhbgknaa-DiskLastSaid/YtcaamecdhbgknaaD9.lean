/- The laws' fixed fact holds. -/
import Derived.Test.YtcaamecdhbgknaaD8
namespace Go.Proofs.Ytcaamecdhbgknaa.Disk
open Go Go.V
open Go.Proofs.Ytcaamecdhbgknaa.VC
open Go.Proofs.Try (prog)
set_option linter.unusedVariables false
set_option linter.unusedSimpArgs false
set_option maxRecDepth 20000

theorem bF {b : Bool} {p q : Prop} (h : b = false) (hq : q) : bcase b p q := ⟨fun h' => by (rw [h] at h'; cases h'), fun _ => hq⟩
theorem bT {b : Bool} {p q : Prop} (h : b = true) (hp : p) : bcase b p q := ⟨fun _ => hp, fun h' => by (rw [h] at h'; cases h')⟩

/-- A write of a block's bytes. -/
theorem write_b {w : World} {b ms mf : Nat} {M : DM} (h : DiskAt w b ms mf M) (i : Int) {k bC n : Nat} {s : ByteArray} (hb : Blk w k (byteCells s)) (hn : n = s.size) (hd : k ∉ [b, ms, mf]) :
    Calls prog 23 #[D b, I64 i, .slice (some ⟨k, 0, none⟩) n bC] w fun e w' => e = .returned (I64 (M.write i s).2) ∧ Fr [b, ms, mf] w w' ∧ DiskAt w' b ms mf (M.write i s).1 := by
  subst hn
  exact write_c h i (Row.all hb (byteCells_one s)) (fun ad hp => by injection hp with hp; subst hp; exact hd)

def one1 : ByteArray := ⟨#[1]⟩
def am1 : DM := ((DM.fresh0 2).write 1 (round one1)).1
def am2 : DM := (am1.write 0 (round one1)).1
def am3 : DM := am2.crash [false, true] 0 2

theorem awake_c (w : World) : Calls prog 19 #[] w fun e w' => e = .returned (.bool true) ∧ Fr [] w w' := by
  refine rhizomelaw03_awake.link (_u := ()) ((new_c w 2).mono ?_)
  rintro e w2 ⟨_, h⟩
  obtain ⟨b, ms, mf, rfl, hge, f2, hD⟩ := h (by decide)
  have z2 := f2.size
  obtain ⟨_, _, q1, q2, q3⟩ := hD.bs
  have one : ∀ u ∈ byteCells one1, u.oneCell' = true := byteCells_one _
  have hb := hge b (by simp)
  have hms := hge ms (by simp)
  have hmf := hge mf (by simp)
  have hW : ∀ x ∈ [b, ms, mf], x ∈ ([] : List Nat) ∨ w.heap.size ≤ x := fun x hx => .inr (hge x hx)
  refine ⟨_, _, rfl, fun y5 hy5 => bF rfl (bF rfl fun k40 w41 st41 b41 => (bytes_c w41 (bs := one1) (Row.all b41 one)).mono ?_)⟩
  rintro e w45 ⟨k, rfl, zk, f45, bk⟩
  have z41 := st41.size
  have D45 := (hD.fr st41.fr (by simp)).fr f45 (by simp)
  refine ⟨_, _, _, rfl, (write_b D45 1 bk (round_size _).symm (by simp; omega)).mono ?_⟩
  rintro e w50 ⟨rfl, f50, D50⟩
  have f050 : Fr [] w w50 := ((f2.trans' st41.fr).trans' f45).trans f50 hW
  refine ⟨_, rfl, bF (by decide +kernel) fun k52 w53 st53 b53 => (bytes_c w53 (bs := one1) (Row.all b53 one)).mono ?_⟩
  rintro e w57 ⟨k', rfl, zk', f57, bk'⟩
  have z45 := f45.size
  have z50 := f50.size
  have z53 := st53.size
  have D57 := (D50.fr st53.fr (by simp)).fr f57 (by simp)
  refine ⟨_, _, _, rfl, (write_b D57 0 bk' (round_size _).symm (by simp; omega)).mono ?_⟩
  rintro e w62 ⟨rfl, f62, D62⟩
  have f062 : Fr [] w w62 := ((f050.trans' st53.fr).trans' f57).trans f62 hW
  refine ⟨_, rfl, hy5 _ _ (bF (by decide +kernel) fun k8 w9 st9 b9 => ?_)⟩
  have D9 := D62.fr st9.fr (by simp)
  refine (crash_c D9 (keep := [false, true]) (Row.all b9 (by decide)) 0 2).mono ?_
  rintro e w13 ⟨b', ms', mf', rfl, hge', f13, D13⟩
  refine ⟨_, rfl, bF rfl ((read_c D13 0).mono ?_)⟩
  rintro e w16 ⟨_, h⟩
  obtain ⟨ka, sa, hsa, rfl, za, f16, ba⟩ := h (by decide +kernel)
  refine ⟨_, _, _, _, rfl, (read_c (D13.fr f16 (by simp)) 1).mono ?_⟩
  rintro e w22 ⟨_, h⟩
  obtain ⟨kb, sb, hsb, rfl, zb, f22, bb⟩ := h (by decide +kernel)
  have ba22 := ba.fr f22 (by simp)
  have e1 : (am3.now[0]?).map (fun s => (s.data[1]?, s.data[2]?)) = some (some 1, some 0) := by decide +kernel
  have e2 : (am3.now[1]?).map (fun s => s.data[63]?) = some (some 1) := by decide +kernel
  have hsa : am3.now[0]? = some sa := hsa
  have hsb : am3.now[1]? = some sb := hsb
  rw [hsa] at e1
  rw [hsb] at e2
  have e1 : (sa.data[1]?, sa.data[2]?) = (some 1, some 0) := by simpa using e1
  have e2 : sb.data[63]? = some 1 := by simpa using e2
  injection e1 with e11 e12
  have c1 : World.cell? w22 ⟨ka, 1, none⟩ = some (.int .u8 1) := by rw [ba22.cell, byteCells_get, e11]; rfl
  have c2 : World.cell? w22 ⟨ka, 2, none⟩ = some (.int .u8 0) := by rw [ba22.cell, byteCells_get, e12]; rfl
  have c3 : World.cell? w22 ⟨kb, 63, none⟩ = some (.int .u8 1) := by rw [bb.cell, byteCells_get, e2]; rfl
  refine ⟨_, _, _, _, rfl, fun y27 hy27 => bT (by decide) (bT (by decide) ⟨_, rfl, by decide, 1, c1, bT (by decide) ⟨_, rfl, by decide, 0, c2, bT (by decide) ⟨_, rfl, by decide, 1, c3, hy27 _ _ ⟨rfl, ?_⟩⟩⟩⟩)⟩
  exact (((f062.trans' st9.fr).trans' f13).trans' f16).trans' f22

end Go.Proofs.Ytcaamecdhbgknaa.Disk
