/- DiskLast: the walk over what the reader tells. -/
import Derived.Test.YtcaamecdhbgknaaLLast
namespace Go.Proofs.Ytcaamecdhbgknaa.JLast
open Go Go.V
set_option linter.unusedVariables false
theorem walk (n : Int) (a1 : Option Addr) (len1 cap1 : Nat) (z1 : List ByteArray) (a2 : Option Addr) (len2 cap2 : Nat) (z2 : List Bool) (w : World) (w0 : (Lit.int .i64 n).wf = true) (w1 : IsRows w a1 len1 cap1 z1) (w2 : IsBools w a2 len2 cap2 z2) :
    Calls Go.Proofs.Try.prog 4 #[.int .i64 n, .slice a1 len1 cap1, .slice a2 len2 cap2] w fun e w' => e = .returned (.bool true) ∧ RowKit.Below w.heap.size w w' := by
  obtain ⟨bs, rfl, hr⟩ := bools_of w2
  exact Disk.last_walk w n w1 hr
end Go.Proofs.Ytcaamecdhbgknaa.JLast
