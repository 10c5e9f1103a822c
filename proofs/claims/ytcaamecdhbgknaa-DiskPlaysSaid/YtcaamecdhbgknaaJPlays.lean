/- DiskPlays: the walk over what the reader tells. -/
import Derived.Test.YtcaamecdhbgknaaB4
namespace Go.Proofs.Ytcaamecdhbgknaa.JPlays
open Go Go.V
set_option linter.unusedVariables false
theorem walk (n : Int) (a : Option Addr) (len cap : Nat) (d : Dt) (w : World) (w0 : (Lit.int .i64 n).wf = true) (w1 : Rd Go.Proofs.Try.prog w 47 [.slice a len cap] d) :
    Calls Go.Proofs.Try.prog 7 #[.int .i64 n, .slice a len cap] w fun e w' => e = .returned (.bool true) ∧ RowKit.Below w.heap.size w w' := by
  obtain ⟨z, hz⟩ := Disk.ops_of w1
  exact Disk.plays_walk w n hz
end Go.Proofs.Ytcaamecdhbgknaa.JPlays
