/- LogPlays: the walk over what the reader tells. -/
import Derived.Test.YtcaamecdhbgknaaB5
import Derived.Test.YtcaamecdhbgknaaLLPlays
namespace Go.Proofs.Ytcaamecdhbgknaa.JLPlays
open Go Go.V
open Go.Proofs.Try (prog)
set_option linter.unusedVariables false
set_option maxRecDepth 20000
open Log Disk

theorem lop_of {w : World} {cs : List Value} {d : Dt} (h : Rd prog w 86 cs d) : ∃ (o : LOp) (A : Option Addr) (C : Nat) (A2 : Option Addr) (C2 : Nat), cs = [I64 o.kind, I64 o.n, I64 o.cut, .slice A o.data.size C, .slice A2 o.keep.length C2] ∧
    Row w A (byteCells o.data) ∧ Row w A2 (o.keep.map .bool) ∧ o.data.size ≤ 140737488351232 ∧ o.keep.length ≤ 140737488351232 ∧ o.n < 9223372036854775808 := by
  obtain ⟨z, rfl, hl, hz, hr⟩ := h.st' Go.Proofs.Try.underlying86
  have hC : prog.cellsOf 86 = 5 := by kernel_rfl
  have c3 : prog.cellsOf 3 = 1 := by kernel_rfl
  have c22 : prog.cellsOf 22 = 1 := by kernel_rfl
  have c38 : prog.cellsOf 38 = 1 := by kernel_rfl
  rw [hC] at hl
  match cs, hl, z, hz with
  | [v0, v1, v2, v3, v5], _, [d0, d1, d2, d3, d5], _ =>
    have r0 : Rd prog w 3 (([v0, v1, v2, v3, v5].drop 0).take (prog.cellsOf 3)) d0 := hr 0 _ d0 rfl rfl
    have r1 : Rd prog w 3 (([v0, v1, v2, v3, v5].drop 1).take (prog.cellsOf 3)) d1 := hr 1 _ d1 rfl rfl
    have r2 : Rd prog w 3 (([v0, v1, v2, v3, v5].drop 2).take (prog.cellsOf 3)) d2 := hr 2 _ d2 rfl rfl
    have r3 : Rd prog w 22 (([v0, v1, v2, v3, v5].drop 3).take (prog.cellsOf 22)) d3 := hr 3 _ d3 rfl rfl
    have r5 : Rd prog w 38 (([v0, v1, v2, v3, v5].drop 4).take (prog.cellsOf 38)) d5 := hr 4 _ d5 rfl rfl
    simp only [c3, c22, c38] at r0 r1 r2 r3 r5
    obtain ⟨n0, e0, _, _⟩ := r0.int' Go.Proofs.Try.underlying3
    obtain ⟨n1, e1, _, f1⟩ := r1.int' Go.Proofs.Try.underlying3
    obtain ⟨n2, e2, _, _⟩ := r2.int' Go.Proofs.Try.underlying3
    obtain ⟨A, s, C, e3, g1, g2⟩ := r3.bytes' Go.Proofs.Try.underlying22 Go.Proofs.Try.underlying5 (by kernel_rfl) (by kernel_rfl)
    obtain ⟨A2, l, C2, e5, g3, g4⟩ := r5.bools' Go.Proofs.Try.underlying38 Go.Proofs.Try.underlying4 (by kernel_rfl) (by kernel_rfl)
    refine ⟨⟨n0, n1, n2, s, l⟩, A, C, A2, C2, ?_, g1, g3, g2, g4, (wf64 f1).2⟩
    simp at e0 e1 e2 e3 e5
    simp [e0, e1, e2, e3, e5]

theorem lops_of {w : World} {a : Option Addr} {len cap : Nat} {d : Dt} (h : Rd prog w 84 [.slice a len cap] d) : ∃ z, IsLOps w a len cap z := by
  obtain ⟨a', len', cap', z, e, rfl, hz, hl, hw, hr⟩ := h.sl' Go.Proofs.Try.underlying84
  simp at e
  obtain ⟨rfl, rfl, rfl⟩ := e
  have hC : prog.cellsOf 86 = 5 := by kernel_rfl
  rw [hC] at hr
  have hall : ∀ i, i < len → ∃ o : LOp, ∃ ad A C A2 C2, a = some ad ∧ w.cell? ((ad.add (i * 5)).add 0) = some (I64 o.kind) ∧ w.cell? ((ad.add (i * 5)).add 1) = some (I64 o.n) ∧ w.cell? ((ad.add (i * 5)).add 2) = some (I64 o.cut) ∧
    w.cell? ((ad.add (i * 5)).add 3) = some (.slice A o.data.size C) ∧ w.cell? ((ad.add (i * 5)).add 4) = some (.slice A2 o.keep.length C2) ∧
    Row w A (byteCells o.data) ∧ Row w A2 (o.keep.map .bool) ∧ o.data.size ≤ 140737488351232 ∧ o.keep.length ≤ 140737488351232 ∧ o.n < 9223372036854775808 := fun i hi => by
    obtain ⟨ad, C, ha, h1, h2, h3⟩ := hr i z[i] (List.getElem?_eq_getElem (by omega))
    obtain ⟨o, A, C1, A2, C2, e, g⟩ := lop_of h3
    subst e
    exact ⟨o, ad, A, C1, A2, C2, ha, h2 0 (by omega), h2 1 (by omega), h2 2 (by omega), h2 3 (by omega), h2 4 (by omega), g⟩
  obtain ⟨l, h1, h2⟩ := choose_list hall
  exact ⟨l, h1, h2⟩

theorem walk (cs : Array Value) (d : Dt) (a : Option Addr) (len cap : Nat) (d2 : Dt) (w : World) (w0 : Rd prog w 61 cs.toList d) (w1 : Rd prog w 84 [.slice a len cap] d2) :
    Calls prog 13 #[.agg cs, .slice a len cap] w fun e w' => e = .returned (.bool true) ∧ RowKit.Below w.heap.size w w' := by
  obtain ⟨x, y, z, rfl, _, h1, h2⟩ := Open.area_of w0
  obtain ⟨l, hl⟩ := lops_of w1
  exact Log.lplays_walk w x y z (wf64 h1).1 (wf64 h1).2 (wf64 h2).2 hl
end Go.Proofs.Ytcaamecdhbgknaa.JLPlays
