/- LockUp: the walk over what the reader tells. -/
import Derived.Test.YtnimejocaaekaaaQW
namespace Go.Proofs.Ytnimejocaaekaaa.JUp
open Go Go.V
open Go.Proofs.Try (prog)
set_option linter.unusedVariables false
set_option maxRecDepth 20000
open Lock
theorem walk (n m : Int) (w : World) (w0 : (Lit.int .i64 n).wf = true) (w1 : (Lit.int .i64 m).wf = true) :
    Calls prog 8 #[I64 n, I64 m] w fun e w' => e = .returned (.bool true) ∧ RowKit.Below w.heap.size w w' := Lock.up_walk w n m
end Go.Proofs.Ytnimejocaaekaaa.JUp
