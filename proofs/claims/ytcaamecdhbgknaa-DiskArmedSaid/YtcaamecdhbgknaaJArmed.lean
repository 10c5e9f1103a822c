/- DiskArmed: the walk over what the reader tells. -/
import Derived.Test.YtcaamecdhbgknaaLArmed
import Derived.Test.YtcaamecdhbgknaaB2
namespace Go.Proofs.Ytcaamecdhbgknaa.JArmed
open Go Go.V
set_option linter.unusedVariables false
abbrev IsBools := Go.V.IsBools
theorem walk (n : Int) (a : Option Addr) (len cap : Nat) (z : List Bool) (w : World) (w0 : (Lit.int .i64 n).wf = true) (w1 : IsBools w a len cap z) :
    Calls Go.Proofs.Try.prog 6 #[.int .i64 n, .slice a len cap] w fun e w' => e = .returned (.bool true) ∧ RowKit.Below w.heap.size w w' := by
  obtain ⟨bs, rfl, hr⟩ := bools_of w1
  exact Disk.armed_walk w n hr
end Go.Proofs.Ytcaamecdhbgknaa.JArmed
