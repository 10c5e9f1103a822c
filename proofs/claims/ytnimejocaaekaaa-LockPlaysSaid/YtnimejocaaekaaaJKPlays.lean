/- LockPlays: the walk over what the reader tells. -/
import Derived.Test.YtnimejocaaekaaaQJ
import Derived.Test.YtnimejocaaekaaaJShares
namespace Go.Proofs.Ytnimejocaaekaaa.JKPlays
open Go Go.V
open Go.Proofs.Try (prog)
set_option linter.unusedVariables false
set_option maxRecDepth 20000
open Lock
theorem walk (a : Option Addr) (len cap : Nat) (d : Dt) (w : World) (w0 : Rd prog w 33 [.slice a len cap] d) :
    Calls prog 6 #[.slice a len cap] w fun e w' => e = .returned (.bool true) ∧ RowKit.Below w.heap.size w w' := by
  obtain ⟨l, hl⟩ := JShares.kops_of w0
  exact Lock.plays_walk w hl
end Go.Proofs.Ytnimejocaaekaaa.JKPlays
