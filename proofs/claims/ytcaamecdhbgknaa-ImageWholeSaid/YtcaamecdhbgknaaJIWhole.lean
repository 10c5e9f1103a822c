/- ImageWhole: the walk over what the reader tells. -/
import Derived.Test.YtcaamecdhbgknaaB5
import Derived.Test.YtcaamecdhbgknaaIWhole
namespace Go.Proofs.Ytcaamecdhbgknaa.JIWhole
open Go Go.V
open Go.Proofs.Try (prog)
set_option linter.unusedVariables false
theorem walk (a : Option Addr) (len cap : Nat) (d : Dt) (a2 : Option Addr) (len2 cap2 : Nat) (d2 : Dt) (a3 : Option Addr) (len3 cap3 : Nat) (d3 : Dt) (w : World) (w0 : Rd prog w 37 [.slice a len cap] d) (w1 : Rd prog w 38 [.slice a2 len2 cap2] d2) (w2 : Rd prog w 34 [.slice a3 len3 cap3] d3) :
    Calls prog 18 #[.slice a len cap, .slice a2 len2 cap2, .slice a3 len3 cap3] w fun e w' => e = .returned (.bool true) ∧ RowKit.Below w.heap.size w w' := by
  obtain ⟨l, rfl, hl⟩ := Open.rows_of w0
  obtain ⟨k, rfl, hk, _⟩ := Open.bools2 w1
  obtain ⟨a', l3, cap', e, h3, _, _⟩ := w2.ints' Go.Proofs.Try.underlying34 Go.Proofs.Try.underlying3 (by kernel_rfl) (by kernel_rfl)
  simp at e
  obtain ⟨rfl, rfl, rfl⟩ := e
  exact Image.iwhole_walk w hl hk h3
end Go.Proofs.Ytcaamecdhbgknaa.JIWhole
