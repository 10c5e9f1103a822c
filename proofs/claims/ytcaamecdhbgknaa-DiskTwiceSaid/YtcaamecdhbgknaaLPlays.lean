/- DiskPlays: the law's own walk. -/
import Derived.Test.YtcaamecdhbgknaaRA
import Derived.Test.YtcaamecdhbgknaaL7
namespace Go.Proofs.Ytcaamecdhbgknaa.Disk
open Go Go.V
open Go.Proofs.Ytcaamecdhbgknaa.VC
open Go.Proofs.Try (prog)
set_option linter.unusedVariables false
set_option linter.unusedSimpArgs false
set_option maxRecDepth 20000

/-- A row of calls. -/
def IsOps (w : World) (a : Option Addr) (len cap : Nat) (z : List POp) : Prop :=
  z.length = len ∧ ∀ r o, z[r]? = some o → ∃ ad A C A2 C2, a = some ad ∧ w.cell? ((ad.add (r * 6)).add 0) = some (I64 o.kind) ∧ w.cell? ((ad.add (r * 6)).add 1) = some (I64 o.n) ∧ w.cell? ((ad.add (r * 6)).add 2) = some (I64 o.cut) ∧
    w.cell? ((ad.add (r * 6)).add 3) = some (.slice A o.b.size C) ∧ w.cell? ((ad.add (r * 6)).add 4) = some (.bool o.raw) ∧ w.cell? ((ad.add (r * 6)).add 5) = some (.slice A2 o.keep.length C2) ∧
    Row w A (byteCells o.b) ∧ Row w A2 (o.keep.map .bool) ∧ o.b.size ≤ 140737488351232 ∧ o.keep.length ≤ 140737488351232 ∧ o.n < 9223372036854775808
theorem cell_old {v w : World} (hf : Fr [] v w) {ad : Addr} {x : Value} (h : v.cell? ad = some x) : w.cell? ad = some x := cell_fr hf h (by simp)
/-- A call of the script, wherever the world has gone. -/
theorem IsOps.get {v w : World} {a : Option Addr} {len cap : Nat} {z : List POp} (h : IsOps v a len cap z) (hf : Fr [] v w) {i : Nat} (hi : i < len) : ∃ o ad A C A2 C2, z[i]? = some o ∧ a = some ad ∧ w.cell? ((ad.add (i * 6)).add 0) = some (I64 o.kind) ∧ w.cell? ((ad.add (i * 6)).add 1) = some (I64 o.n) ∧ w.cell? ((ad.add (i * 6)).add 2) = some (I64 o.cut) ∧
    w.cell? ((ad.add (i * 6)).add 3) = some (.slice A o.b.size C) ∧ w.cell? ((ad.add (i * 6)).add 4) = some (.bool o.raw) ∧ w.cell? ((ad.add (i * 6)).add 5) = some (.slice A2 o.keep.length C2) ∧
    Row w A (byteCells o.b) ∧ Row w A2 (o.keep.map .bool) ∧ (Row v A (byteCells o.b) ∧ Row v A2 (o.keep.map .bool)) ∧ o.b.size ≤ 140737488351232 ∧ o.keep.length ≤ 140737488351232 ∧ o.n < 9223372036854775808 := by
  obtain ⟨hl, hz⟩ := h
  have hi' : i < z.length := by omega
  obtain ⟨ad, A, C, A2, C2, e, c0, c1, c2, c3, c4, c5, r1, r2, b1, b2, b3⟩ := hz i z[i] (List.getElem?_eq_getElem hi')
  exact ⟨z[i], ad, A, C, A2, C2, List.getElem?_eq_getElem hi', e, cell_old hf c0, cell_old hf c1, cell_old hf c2, cell_old hf c3, cell_old hf c4, cell_old hf c5, g_row hf r1 (fun ad _ _ => by simp), g_row hf r2 (fun ad _ _ => by simp), ⟨r1, r2⟩, b1, b2, b3⟩
/-- A row that was there when the law began lies in no block that was made since, or is empty; then it may be said to lie nowhere. -/
theorem row_nowhere {v w : World} {A : Option Addr} {xs : List Value} (h : Row v A xs) (hw : Row w A xs) {G : List Nat} (hG : ∀ x ∈ G, v.heap.size ≤ x) : (∀ ad, A = some ad → ad.block ∉ G) ∨ xs = [] := by
  by_cases h0 : 0 < xs.length
  · left
    intro ad hp hm
    rw [hp] at h
    have := Row.lt h h0
    have := hG _ hm
    omega
  · right
    exact List.length_eq_zero_iff.1 (by omega)

theorem byteCells_nil {s : ByteArray} (h : byteCells s = []) : s.size = 0 := by rw [← byteCells_length, h]; rfl

theorem plays_walk (w : World) (n : Int) {a : Option Addr} {len cap : Nat} {z : List POp} (hz : IsOps w a len cap z) : Calls prog 7 #[I64 n, .slice a len cap] w fun e w' => e = .returned (.bool true) ∧ RowKit.Below w.heap.size w w' := by
  refine rhizomelaw03_DiskPlays.link ((awake_c w).mono ?_)
  rintro e w2 ⟨rfl, f2⟩
  refine ⟨_, rfl, bF rfl fun y4 hy4 => ?_⟩
  have core : ∀ n5, y4 n5 w2 := fun n5 => by
    refine hy4 _ _ ((new_c w2 n5).mono ?_)
    clear hy4
    rintro e w8 ⟨hbad, hgood⟩
    by_cases hn : n5 < 1 ∨ 4096 < n5
    · obtain ⟨rfl, rfl⟩ := hbad hn
      refine ⟨_, _, rfl, (rnew_c (F := []) (fun x hx => by cases hx) n5).mono ?_⟩
      rintro e w12 ⟨f12, he, _⟩
      obtain rfl := he hn
      refine ⟨_, _, _, _, _, _, _, _, _, _, _, _, rfl, fun k25 y26 hy26 => bF (by simp) fun w97 st97 => hy26 _ _ (bF (by decide) ?_)⟩
      clear hy26
      refine ⟨fun m p q p1 l1 c1 p2 l2 c2 p3 l3 c3 s4 s5 w' => p = none ∧ Fr [] w w', 0, ⟨rfl, ?_⟩, ?_⟩
      · (refine mkFr ?_ ?_ ?_ <;> grind (splits := 40) [→ g_size, → g_sys, g_get, → g_step, → g_upd, → g_updb, → g_updz, → g_mupd, → g_mupdm, → g_istep, → g_new1, → g_new2, → g_new3, → g_new4, → g_blk, → g_blk_lt, → g_own, → g_own_lt, → g_row, → g_map, → g_map_lt, → g_ownz, → g_ownz_lt, → g_news1, → g_news2, → g_news3, = g_mem_pb, = g_pb_none, = g_pb_some])
      rintro m p q p1 l1 c1 p2 l2 c2 p3 l3 c3 s4 s5 w45 ⟨rfl, f45⟩ y47 hy47
      exact bF rfl (hy47 _ _ (bF rfl ⟨rfl, f45.below (Nat.le_refl _) (fun x hx => by cases hx)⟩))
    · obtain ⟨b, ms, mf, rfl, hnew, f8, hD⟩ := hgood hn
      have hbs := hD.bs
      have z2 := f2.size
      have hn1 := hnew b (by simp)
      have hn2 := hnew ms (by simp)
      have hn3 := hnew mf (by simp)
      refine ⟨_, _, rfl, (rnew_c (w := w8) (F := [b, ms, mf]) (fun x hx => by simp at hx; omega) n5).mono ?_⟩
      rintro e w12 ⟨f12, _, he⟩
      obtain ⟨v, rfl, hR⟩ := he hn
      have hR0 := hR
      obtain ⟨_, sA, sC, nA, nC, fA, fC, rfl, -, -, -, -⟩ := hR
      refine ⟨_, _, _, _, _, _, _, _, _, _, _, _, rfl, fun k25 y26 hy26 => bF (by simp) fun w97 st97 => hy26 _ _ (bF (by simp) ?_)⟩
      clear hy26
      have k25n := g_new1 st97
      refine ⟨fun m p q p1 l1 c1 p2 l2 c2 p3 l3 c3 s4 s5 w' => ∃ (i b ms mf : Nat) (M : DM) (v : Value), v = .agg #[.slice p1 l1 c1, .slice p2 l2 c2, .slice p3 l3 c3, I64 s4, I64 s5] ∧ p = some ⟨b, 0, none⟩ ∧ q = i ∧ i ≤ 80 ∧ m = 80 - i ∧ DiskAt w' b ms mf M ∧ RefAt w' v [b, ms, mf, k25] M ∧ Fr [] w w' ∧ (∀ x ∈ [b, ms, mf, k25], w.heap.size ≤ x ∧ x < w'.heap.size) ∧ k25 ∉ [b, ms, mf], 80,
        ⟨0, b, ms, mf, DM.fresh0 n5.toNat, _, rfl, rfl, rfl, by omega, rfl, ?_, ?_, ?_, ?_, ?_⟩, ?_⟩
      · grind (splits := 40) [→ g_size, → g_sys, g_get, → g_step, → g_upd, → g_updb, → g_updz, → g_mupd, → g_mupdm, → g_istep, → g_new1, → g_new2, → g_new3, → g_new4, → g_blk, → g_blk_lt, → g_own, → g_own_lt, → g_row, → g_map, → g_map_lt, → g_ownz, → g_ownz_lt, → g_news1, → g_news2, → g_news3, = g_mem_pb, = g_pb_none, = g_pb_some, → g_disk, → g_disk_lt, → g_ref]
      · exact ((hR0.more (G := [k25]) (fun x hx => by simp at hx; omega)).fr st97.fr (by simp))
      · (refine mkFr ?_ ?_ ?_ <;> grind (splits := 40) [→ g_size, → g_sys, g_get, → g_step, → g_upd, → g_updb, → g_updz, → g_mupd, → g_mupdm, → g_istep, → g_new1, → g_new2, → g_new3, → g_new4, → g_blk, → g_blk_lt, → g_own, → g_own_lt, → g_row, → g_map, → g_map_lt, → g_ownz, → g_ownz_lt, → g_news1, → g_news2, → g_news3, = g_mem_pb, = g_pb_none, = g_pb_some, → g_disk, → g_disk_lt, → g_ref])
      · have := f12.size
        have := st97.size
        intro x hx
        simp at hx; omega
      · have := f12.size
        simp; omega
      clear hR0 hD
      rintro m p q p1 l1 c1 p2 l2 c2 p3 l3 c3 s4 s5 w45 ⟨i, b, ms, mf, M, v, hv, rfl, rfl, hi, rfl, hD, hR, f45, hb45, hk⟩ y47 hy47
      have done : y47 false w45 := hy47 _ _ (bF rfl ⟨rfl, f45.below (Nat.le_refl _) (fun x hx => by cases hx)⟩)
      refine bT rfl ⟨fun hlt => ?_, fun _ => done⟩
      by_cases h80 : ¬ (i : Int) < 80
      · rw [decide_eq_false h80]; exact done
      clear done
      have h80 : (i : Int) < 80 := by omega
      rw [decide_eq_true h80]
      refine hy47 _ _ (bT rfl ?_)
      clear hy47
      have hlt : (i : Int) < (len : Int) := of_decide_eq_true hlt
      obtain ⟨o, ad, A, C, A2, C2, ho, rfl, c0, c1', c2', c3', c4, c5, r1, r2, ⟨r1', r2'⟩, b1, b2, b3⟩ := hz.get f45 (i := i) (by omega)
      have e0 : (i : Int).toNat * 6 = i * 6 := by omega
      refine ⟨ad, rfl, ⟨by omega, hlt⟩, _, _, _, _, _, _, _, _, _, _, ⟨by rw [e0]; exact c0, by rw [e0]; exact c1', by rw [e0]; exact c2', by rw [e0]; exact c3', by rw [e0]; exact c4, by rw [e0]; exact c5, trivial⟩, fun w61 st61 => ?_⟩
      have hbG : ∀ x ∈ [b, ms, mf], w.heap.size ≤ x := fun x hx => (hb45 x (by simp at hx ⊢; omega)).1
      have hD61 : DiskAt w61 b ms mf M := hD.fr st61.fr (by simp)
      have hR61 : RefAt w61 v [b, ms, mf, k25] M := hR.fr st61.fr (by simp)
      have z61 := st61.size
      subst hv
      refine (play_c (v := .agg #[.slice p1 l1 c1, .slice p2 l2 c2, .slice p3 l3 c3, I64 s4, I64 s5]) hD61 hR61 (fun x hx => by have := (hb45 x hx).2; omega) (fun x hx => by simp at hx ⊢; omega) o (oBA := A) (oKA := A2) (oBC := C) (oKC := C2)
        (g_row st61.fr r1 fun ad _ _ => by simp) b1 ((row_nowhere r1' r1 hbG).imp id fun h => byteCells_nil h) (g_row st61.fr r2 fun ad _ _ => by simp) b2 ((row_nowhere r2' r2 hbG).imp id fun h => List.map_eq_nil_iff.1 h) b3).mono ?_
      rintro e w64 ⟨b', ms', mf', v', rfl, f64, hD64, hR64, hx⟩
      have hR64' := hR64
      obtain ⟨_, sA, sC, nA, nC, fA, fC, rfl, -, -, -, -⟩ := hR64
      have z64 := f64.size
      have h1 := hb45 b (by simp)
      have h2 := hb45 ms (by simp)
      have h3 := hb45 mf (by simp)
      have h4 := hb45 k25 (by simp)
      have hbs' := hD64.bs
      have hk0 : k25 ∉ [b, ms, mf] := hk
      refine ⟨_, _, _, _, _, _, _, _, _, _, _, _, _, rfl, g_keep f64 (fun x hx => by simp at hx; subst hx; exact ⟨by omega, hk⟩), fun y78 hy78 => bF rfl fun w86 st86 => ?_⟩
      have hk' : k25 ∉ [b', ms', mf'] := fun hm => by
        rcases hx k25 hm with h | h
        · exact hk h
        · omega
      have hD86 : DiskAt w86 b' ms' mf' (M.play o) := hD64.fr st86.fr (fun x hx hm => by simp at hm; subst hm; exact hk' hx)
      have hR86 : RefAt w86 (rv sA sC nA nC fA fC (M.play o)) [b', ms', mf', k25] (M.play o) := (hR64'.fr st86.fr (by simp)).less (fun x hx => by simp at hx ⊢; omega)
      have z86 := st86.size
      refine (tells_c hD86 hR86).mono ?_
      rintro e w89 ⟨rfl, f89⟩
      have z89 := f89.size
      refine ⟨_, rfl, g_keep f89 (fun x hx => by simp at hx; subst hx; exact ⟨by omega, by simp⟩), hy78 _ _ (bF rfl ⟨80 - (i + 1), by omega, i + 1, b', ms', mf', M.play o, _, rfl, rfl, by rw [wrapi (by omega) (by omega)]; simp, by omega, rfl, hD86.fr f89 (by simp), hR86.fr f89 (by simp), ?_, ?_, hk'⟩)⟩
      · have fa : Fr [] w w64 := (f45.trans st61.fr (by simp)).trans f64 (fun x hx => .inr (hbG x hx))
        exact (fa.trans st86.fr (fun x hx => .inr (by simp at hx; subst hx; exact h4.1))).trans f89 (by simp)
      · intro x hxx
        have hc : x ∈ [b', ms', mf'] ∨ x = k25 := by simp at hxx ⊢; omega
        rcases hc with hc | rfl
        · refine ⟨?_, ?_⟩
          · rcases hx x hc with h | h
            · exact hbG x h
            · have := f45.size; omega
          · simp at hc; omega
        · omega
  refine fun y101 hy101 => ?_
  have c1 : y101 true w2 := hy101 _ _ (bT rfl (core 40))
  have c2 : y101 false w2 := hy101 _ _ (bF rfl (core n))
  refine ⟨fun _ => ?_, fun _ => c2⟩
  by_cases h : n ≤ 4096
  · rw [decide_eq_true h]; exact c1
  · rw [decide_eq_false h]; exact c2

end Go.Proofs.Ytcaamecdhbgknaa.Disk
