/- ImageSizes: the walk over what the reader tells. -/
import Derived.Test.YtcaamecdhbgknaaUA
import Derived.Test.YtcaamecdhbgknaaISizes
namespace Go.Proofs.Ytcaamecdhbgknaa.JISizes
open Go Go.V
open Go.Proofs.Try (prog)
set_option linter.unusedVariables false
theorem walk (n i : Int) (a : Option Addr) (len cap : Nat) (d : Dt) (w : World) (w0 : (Lit.int .i64 n).wf = true) (w1 : (Lit.int .i64 i).wf = true) (w2 : Rd prog w 22 [.slice a len cap] d) :
    Calls prog 16 #[.int .i64 n, .int .i64 i, .slice a len cap] w fun e w' => e = .returned (.bool true) ∧ RowKit.Below w.heap.size w w' := by
  obtain ⟨a', s, cap', e, hr, hz⟩ := w2.bytes' Go.Proofs.Try.underlying22 Go.Proofs.Try.underlying5 (by kernel_rfl) (by kernel_rfl)
  simp at e
  obtain ⟨rfl, rfl, rfl⟩ := e
  exact Image.sizes_walk w n i hr hz
end Go.Proofs.Ytcaamecdhbgknaa.JISizes
