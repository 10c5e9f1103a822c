/- DiskReads: the walk over what the reader tells. -/
import Derived.Test.YtcaamecdhbgknaaLReads
import Derived.Test.YtcaamecdhbgknaaB1
namespace Go.Proofs.Ytcaamecdhbgknaa.JReads
open Go Go.V
set_option linter.unusedVariables false
abbrev IsRow := Go.V.IsRow
theorem walk (n i : Int) (a : Option Addr) (len cap : Nat) (z : List Int) (w : World) (w0 : (Lit.int .i64 n).wf = true) (w1 : (Lit.int .i64 i).wf = true) (w2 : IsRow .u8 w a len cap z) :
    Calls Go.Proofs.Try.prog 3 #[.int .i64 n, .int .i64 i, .slice a len cap] w fun e w' => e = .returned (.bool true) ∧ RowKit.Below w.heap.size w w' := by
  obtain ⟨bs, rfl, hr⟩ := bytes_of w2
  exact Disk.reads_walk w n i hr
end Go.Proofs.Ytcaamecdhbgknaa.JReads
