/- DredGreat: the walk, as the row wants it. -/
import Derived.Test.YtnplopiconabiaaTF
namespace Go.Proofs.Ytnplopiconabiaa.JDGreat
open Go Go.V
open Go.Proofs.Try (prog)
set_option linter.unusedVariables false
theorem walk (n : Int) (w : World) (w0 : (Lit.int .i64 n).wf = true) : Calls prog 10 #[.int .i64 n] w fun e w' => e = .returned (.bool true) ∧ RowKit.Below w.heap.size w w' := Dred.dgreat_walk w n
end Go.Proofs.Ytnplopiconabiaa.JDGreat
