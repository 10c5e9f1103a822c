/- LogRoom: the walk over what the reader tells. -/
import Derived.Test.YtcaamecdhbgknaaB5
import Derived.Test.YtcaamecdhbgknaaLRoom
namespace Go.Proofs.Ytcaamecdhbgknaa.JRoom
open Go Go.V
open Go.Proofs.Try (prog)
set_option linter.unusedVariables false
theorem walk (cs : Array Value) (d : Dt) (a : Option Addr) (len cap : Nat) (d2 : Dt) (w : World) (w0 : Rd prog w 61 cs.toList d) (w1 : Rd prog w 37 [.slice a len cap] d2) :
    Calls prog 9 #[.agg cs, .slice a len cap] w fun e w' => e = .returned (.bool true) ∧ RowKit.Below w.heap.size w w' := by
  obtain ⟨x, y, z, rfl, _, h1, h2⟩ := Open.area_of w0
  obtain ⟨l, rfl, hl⟩ := Open.rows_of w1
  exact Log.logroom_walk w x y z (wf64 h1).1 (wf64 h2).2 hl
end Go.Proofs.Ytcaamecdhbgknaa.JRoom
