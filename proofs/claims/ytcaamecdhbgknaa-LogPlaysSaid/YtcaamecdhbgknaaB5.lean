/- The laws' arguments: areas, rows of rows. -/
import Derived.Test.YtcaamecdhbgknaaUA
import Derived.Test.YtcaamecdhbgknaaProg
namespace Go.Proofs.Ytcaamecdhbgknaa.Open
open Go Go.V
open Go.Proofs.Try (prog)
set_option linter.unusedVariables false
set_option linter.unusedSimpArgs false
set_option maxRecDepth 20000
theorem area_of {w : World} {cs : Array Value} {d : Dt} (h : Rd prog w 61 cs.toList d) : ∃ x y z : Int, cs = #[.int .i64 x, .int .i64 y, .int .i64 z] ∧ (Lit.int .i64 x).wf = true ∧ (Lit.int .i64 y).wf = true ∧ (Lit.int .i64 z).wf = true := by
  obtain ⟨z, rfl, hl, hz, hr⟩ := h.st' Go.Proofs.Try.underlying61
  have hC : prog.cellsOf 61 = 3 := by kernel_rfl
  have c3 : prog.cellsOf 3 = 1 := by kernel_rfl
  rw [hC] at hl
  obtain ⟨cs⟩ := cs
  match cs, hl, z, hz with
  | [v0, v1, v2], _, [d0, d1, d2], _ =>
    have r0 : Rd prog w 3 (([v0, v1, v2].drop 0).take (prog.cellsOf 3)) d0 := hr 0 _ d0 rfl rfl
    have r1 : Rd prog w 3 (([v0, v1, v2].drop 1).take (prog.cellsOf 3)) d1 := hr 1 _ d1 rfl rfl
    have r2 : Rd prog w 3 (([v0, v1, v2].drop 2).take (prog.cellsOf 3)) d2 := hr 2 _ d2 rfl rfl
    simp only [c3] at r0 r1 r2
    obtain ⟨n0, e0, _, f0⟩ := r0.int' Go.Proofs.Try.underlying3
    obtain ⟨n1, e1, _, f1⟩ := r1.int' Go.Proofs.Try.underlying3
    obtain ⟨n2, e2, _, f2⟩ := r2.int' Go.Proofs.Try.underlying3
    refine ⟨n0, n1, n2, ?_, f0, f1, f2⟩
    simp at e0 e1 e2
    simp [e0, e1, e2]
theorem rows_of {w : World} {a : Option Addr} {len cap : Nat} {d : Dt} (h : Rd prog w 37 [.slice a len cap] d) : ∃ z : List ByteArray, z.length = len ∧ RowsC w a z.length z := by
  obtain ⟨a', z, cap', e, hz⟩ := h.rows' Go.Proofs.Try.underlying37 (by kernel_rfl) Go.Proofs.Try.underlying22 Go.Proofs.Try.underlying5 (by kernel_rfl) (by kernel_rfl)
  simp at e
  obtain ⟨rfl, rfl, rfl⟩ := e
  exact ⟨z, rfl, hz⟩
theorem bools2 {w : World} {a : Option Addr} {len cap : Nat} {d : Dt} (h : Rd prog w 38 [.slice a len cap] d) : ∃ z : List Bool, z.length = len ∧ Row w a (z.map .bool) ∧ z.length ≤ 140737488351232 := by
  obtain ⟨a', z, cap', e, hz, hl⟩ := h.bools' Go.Proofs.Try.underlying38 Go.Proofs.Try.underlying4 (by kernel_rfl) (by kernel_rfl)
  simp at e
  obtain ⟨rfl, rfl, rfl⟩ := e
  exact ⟨z, rfl, hz, hl⟩
end Go.Proofs.Ytcaamecdhbgknaa.Open
