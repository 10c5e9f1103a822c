/- ImageTurns: the walk over what the reader tells. -/
import Derived.Test.YtcaamecdhbgknaaB5
import Derived.Test.YtcaamecdhbgknaaITurns
namespace Go.Proofs.Ytcaamecdhbgknaa.JTurns
open Go Go.V
open Go.Proofs.Try (prog)
set_option linter.unusedVariables false
theorem walk (a : Option Addr) (len cap : Nat) (d : Dt) (w : World) (w0 : Rd prog w 37 [.slice a len cap] d) :
    Calls prog 15 #[.slice a len cap] w fun e w' => e = .returned (.bool true) ∧ RowKit.Below w.heap.size w w' := by
  obtain ⟨l, rfl, hl⟩ := Open.rows_of w0
  exact Image.turns_walk w hl
end Go.Proofs.Ytcaamecdhbgknaa.JTurns
