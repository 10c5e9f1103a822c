/- DredRing: the walk, as the row wants it. -/
import Derived.Test.YtnplopiconabiaaTG
namespace Go.Proofs.Ytnplopiconabiaa.JDRing
open Go Go.V
open Go.Proofs.Try (prog)
set_option linter.unusedVariables false
theorem walk (n at0 : Int) (w : World) (w0 : (Lit.int .i64 n).wf = true) (w1 : (Lit.int .i64 at0).wf = true) : Calls prog 12 #[.int .i64 n, .int .i64 at0] w fun e w' => e = .returned (.bool true) ∧ RowKit.Below w.heap.size w w' := Dred.ring_walk w n at0
end Go.Proofs.Ytnplopiconabiaa.JDRing
