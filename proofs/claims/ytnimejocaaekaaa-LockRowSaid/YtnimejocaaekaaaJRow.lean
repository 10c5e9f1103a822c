/- LockRow: the walk over what the reader tells. -/
import Derived.Test.YtnimejocaaekaaaQV
namespace Go.Proofs.Ytnimejocaaekaaa.JRow
open Go Go.V
open Go.Proofs.Try (prog)
set_option linter.unusedVariables false
set_option maxRecDepth 20000
open Lock
theorem walk (n : Int) (a : Option Addr) (len cap : Nat) (d : Dt) (w : World) (w0 : (Lit.int .i64 n).wf = true) (w1 : Rd prog w 22 [.slice a len cap] d) :
    Calls prog 3 #[I64 n, .slice a len cap] w fun e w' => e = .returned (.bool true) ∧ RowKit.Below w.heap.size w w' := by
  have hb := wf64 w0
  obtain ⟨a', len', cap', z, e0, _, _, hcap, _⟩ := w1.sl' Go.Proofs.Try.underlying22
  simp at e0
  obtain ⟨rfl, rfl, rfl⟩ := e0
  obtain ⟨A2, l, C2, e, h1, h2⟩ := w1.bools' Go.Proofs.Try.underlying22 Go.Proofs.Try.underlying4 (by kernel_rfl) (by kernel_rfl)
  simp at e
  obtain ⟨rfl, rfl, rfl⟩ := e
  exact Lock.row_walk w (by unfold inR; show -9223372036854775808 ≤ n ∧ n ≤ 9223372036854775807; omega) h1 hcap (by omega)
end Go.Proofs.Ytnimejocaaekaaa.JRow
