/- Readers of arguments: changes; the tables of unicode/utf8. -/
import Derived.Test.YtalegpdnhkopmaaDoorEL
import Derived.Test.YtalegpdnhkopmaaDoorEF
import Derived.Test.YtalegpdnhkopmaaDoorRows
import Derived.LaidMore
namespace Go.Proofs.YtalegpdnhkopmaaDoor.Rc
open Go Go.V Go.RowKit
open Go.Proofs.YtalegpdnhkopmaaDoor.By Go.Proofs.YtalegpdnhkopmaaDoor.Ky Go.Proofs.YtalegpdnhkopmaaDoor.Vl
open Go.Proofs.Tryd (prog)
set_option linter.unusedVariables false
set_option linter.unusedSimpArgs false

theorem tabs_of {W : World} (h : laidMetH prog [("unicode/utf8.acceptRanges", Rows.laid_unicode_utf8_acceptRanges), ("unicode/utf8.first", Rows.laid_unicode_utf8_first)] W) : Tabs W := by
  rw [MakeChecks.laidMetH_plain _ _ _ (by kernel_rfl)] at h
  have h1 := Go.Lib.laidMet.reads h (.head _)
  have h2 := Go.Lib.laidMet.reads h (.tail _ (.head _))
  rw [show Rows.laid_unicode_utf8_acceptRanges (H := Unit) = Go.Lib.acceptData by kernel_rfl] at h1
  rw [show Rows.laid_unicode_utf8_first = Go.Lib.firstData by kernel_rfl] at h2
  exact Go.Proofs.utf8Tabs_of_readsT (U8Types.of196 Go.Proofs.Tryd.valid) ⟨by kernel_rfl, by kernel_rfl, by kernel_rfl, by kernel_rfl, by kernel_rfl, by kernel_rfl, by kernel_rfl⟩ h2 h1

def Small (s : ByteArray) : Prop := s.size ≤ 140737488351232
theorem int_of {w : World} {cs : List Value} {d : Dt} (h : Rd prog w 3 cs d) : ∃ n : Int, cs = [.int .i64 n] ∧ IsI n := by
  obtain ⟨n, e, _, f⟩ := h.int' Go.Proofs.Tryd.underlying3
  refine ⟨n, e, ?_⟩
  have := wf64 f
  unfold IsI
  show -9223372036854775808 ≤ n ∧ n ≤ 9223372036854775807
  omega
theorem str_of {w : World} {cs : List Value} {d : Dt} (h : Rd prog w 9 cs d) : ∃ s : ByteArray, cs = [.string s] ∧ Small s := by
  obtain ⟨s, e, _, f⟩ := h.str' Go.Proofs.Tryd.underlying9
  have hR : reachBytes = 140737488351232 := by kernel_rfl
  rw [hR] at f
  exact ⟨s, e, f⟩
theorem edge_of {w : World} {cs : List Value} {d : Dt} (h : Rd prog w 41 cs d) : ∃ (f : Int) (l : ByteArray) (t : Int), cs = [.int .i64 f, .string l, .int .i64 t] ∧ IsI f ∧ Small l ∧ IsI t := by
  obtain ⟨z, rfl, hl, hz, hr⟩ := h.st' Go.Proofs.Tryd.underlying41
  have hC : prog.cellsOf 41 = 3 := by kernel_rfl
  have c3 : prog.cellsOf 3 = 1 := by kernel_rfl
  have c9 : prog.cellsOf 9 = 1 := by kernel_rfl
  rw [hC] at hl
  match cs, hl, z, hz with
  | [v0, v1, v2], _, [d0, d1, d2], _ =>
    have r0 : Rd prog w 3 (([v0, v1, v2].drop 0).take (prog.cellsOf 3)) d0 := hr 0 _ d0 rfl rfl
    have r1 : Rd prog w 9 (([v0, v1, v2].drop 1).take (prog.cellsOf 9)) d1 := hr 1 _ d1 rfl rfl
    have r2 : Rd prog w 3 (([v0, v1, v2].drop 2).take (prog.cellsOf 3)) d2 := hr 2 _ d2 rfl rfl
    simp only [c3, c9] at r0 r1 r2
    obtain ⟨n0, e0, f0⟩ := int_of r0
    obtain ⟨x1, e1, f1⟩ := str_of r1
    obtain ⟨n2, e2, f2⟩ := int_of r2
    refine ⟨n0, x1, n2, ?_, f0, f1, f2⟩
    simp at e0 e1 e2
    simp [e0, e1, e2]
theorem value_of {w : World} {cs : List Value} {d : Dt} (h : Rd prog w 43 cs d) : ∃ v : VL, cs = vcell v ∧ IsI v.k ∧ IsI v.n ∧ Small v.s := by
  obtain ⟨z, rfl, hl, hz, hr⟩ := h.st' Go.Proofs.Tryd.underlying43
  have hC : prog.cellsOf 43 = 3 := by kernel_rfl
  have c3 : prog.cellsOf 3 = 1 := by kernel_rfl
  have c9 : prog.cellsOf 9 = 1 := by kernel_rfl
  rw [hC] at hl
  match cs, hl, z, hz with
  | [v0, v1, v2], _, [d0, d1, d2], _ =>
    have r0 : Rd prog w 3 (([v0, v1, v2].drop 0).take (prog.cellsOf 3)) d0 := hr 0 _ d0 rfl rfl
    have r1 : Rd prog w 3 (([v0, v1, v2].drop 1).take (prog.cellsOf 3)) d1 := hr 1 _ d1 rfl rfl
    have r2 : Rd prog w 9 (([v0, v1, v2].drop 2).take (prog.cellsOf 9)) d2 := hr 2 _ d2 rfl rfl
    simp only [c3, c9] at r0 r1 r2
    obtain ⟨n0, e0, f0⟩ := int_of r0
    obtain ⟨n1, e1, f1⟩ := int_of r1
    obtain ⟨x2, e2, f2⟩ := str_of r2
    refine ⟨⟨n0, n1, x2⟩, ?_, f0, f1, f2⟩
    simp at e0 e1 e2
    simp [e0, e1, e2]
def SmallC (c : CH) : Prop := Small c.l ∧ Small c.key ∧ Small c.v.s
theorem change_of {w : World} {cs : List Value} {d : Dt} (h : Rd prog w 45 cs d) : ∃ c : CH, cs = ccell c ∧ InC c ∧ SmallC c := by
  obtain ⟨z, rfl, hl, hz, hr⟩ := h.st' Go.Proofs.Tryd.underlying45
  have hC : prog.cellsOf 45 = 9 := by kernel_rfl
  have c3 : prog.cellsOf 3 = 1 := by kernel_rfl
  have c9 : prog.cellsOf 9 = 1 := by kernel_rfl
  have cE : prog.cellsOf 41 = 3 := by kernel_rfl
  have cV : prog.cellsOf 43 = 3 := by kernel_rfl
  rw [hC] at hl
  match cs, hl, z, hz with
  | [v0, v1, v2, v3, v4, v5, v6, v7, v8], _, [d0, d1, d2, d3, d4], _ =>
    have r0 : Rd prog w 3 (([v0, v1, v2, v3, v4, v5, v6, v7, v8].drop 0).take (prog.cellsOf 3)) d0 := hr 0 _ d0 rfl rfl
    have r1 : Rd prog w 3 (([v0, v1, v2, v3, v4, v5, v6, v7, v8].drop 1).take (prog.cellsOf 3)) d1 := hr 1 _ d1 rfl rfl
    have r2 : Rd prog w 41 (([v0, v1, v2, v3, v4, v5, v6, v7, v8].drop 2).take (prog.cellsOf 41)) d2 := hr 2 _ d2 rfl rfl
    have r3 : Rd prog w 9 (([v0, v1, v2, v3, v4, v5, v6, v7, v8].drop 5).take (prog.cellsOf 9)) d3 := hr 3 _ d3 rfl rfl
    have r4 : Rd prog w 43 (([v0, v1, v2, v3, v4, v5, v6, v7, v8].drop 6).take (prog.cellsOf 43)) d4 := hr 4 _ d4 rfl rfl
    simp only [c3, c9, cE, cV] at r0 r1 r2 r3 r4
    obtain ⟨n0, e0, f0⟩ := int_of r0
    obtain ⟨n1, e1, f1⟩ := int_of r1
    obtain ⟨ef, el, et, e2, g1, g2, g3⟩ := edge_of r2
    obtain ⟨x3, e3, f3⟩ := str_of r3
    obtain ⟨v, e4, h1, h2, h3⟩ := value_of r4
    refine ⟨⟨n0, n1, ef, el, et, x3, v⟩, ?_, ⟨f0, f1, g1, g3, h1, h2⟩, g2, f3, h3⟩
    simp at e0 e1 e2 e3 e4
    obtain ⟨rfl, rfl, rfl⟩ := e2
    obtain ⟨rfl, rfl, rfl⟩ := e4
    simp [e0, e1, e3]
theorem changes_of {w : World} {a : Option Addr} {len cap : Nat} {d : Dt} (h : Rd prog w 50 [.slice a len cap] d) : ∃ E : List CH, E.length = len ∧ Row w a (E.flatMap ccell) ∧ (∀ e ∈ E, InC e ∧ SmallC e) ∧ len ≤ 140737488351232 ∧ len ≤ cap := by
  obtain ⟨a', len', cap', z, e, rfl, hz, hl, hw, hr⟩ := h.sl' Go.Proofs.Tryd.underlying50
  simp at e
  obtain ⟨rfl, rfl, rfl⟩ := e
  have hC : prog.cellsOf 45 = 9 := by kernel_rfl
  have hb : prog.bytesOf 45 = 96 := by kernel_rfl
  have hR : reachBytes = 140737488351232 := by kernel_rfl
  rw [hC] at hr
  rw [hb, hR] at hw
  have hall : ∀ i, i < len → ∃ o : CH, (InC o ∧ SmallC o) ∧ ∃ ad, a = some ad ∧ ∀ j u, (ccell o)[j]? = some u → w.cell? ((ad.add (i * 9)).add j) = some u := fun i hi => by
    obtain ⟨ad, C, ha, h1, h2, h3⟩ := hr i z[i] (List.getElem?_eq_getElem (by omega))
    obtain ⟨o, e, g⟩ := change_of h3
    subst e
    refine ⟨o, g, ad, ha, fun j u hj => ?_⟩
    have hj3 : j < 9 := (List.getElem?_eq_some_iff.1 hj).1
    have := h2 j (by omega)
    rw [this]
    exact hj
  obtain ⟨l, h1, h2⟩ := choose_list hall
  refine ⟨l, h1, Row.ofF flatC (by omega) fun i e he => (h2 i e he).2, fun e he => ?_, by omega, hl⟩
  obtain ⟨i, hi, rfl⟩ := List.mem_iff_getElem.1 he
  exact (h2 i _ (List.getElem?_eq_getElem hi)).1
end Go.Proofs.YtalegpdnhkopmaaDoor.Rc
