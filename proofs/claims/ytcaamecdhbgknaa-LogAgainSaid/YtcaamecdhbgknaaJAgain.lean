/- LogAgain: the walk over what the reader tells. -/
import Derived.Test.YtcaamecdhbgknaaB5
import Derived.Test.YtcaamecdhbgknaaLAgain
namespace Go.Proofs.Ytcaamecdhbgknaa.JAgain
open Go Go.V
open Go.Proofs.Try (prog)
set_option linter.unusedVariables false
theorem walk (a : Option Addr) (len cap : Nat) (d : Dt) (a2 : Option Addr) (len2 cap2 : Nat) (d2 : Dt) (cs : Array Value) (d3 : Dt) (w : World) (w0 : Rd prog w 37 [.slice a len cap] d) (w1 : Rd prog w 38 [.slice a2 len2 cap2] d2) (w2 : Rd prog w 82 cs.toList d3) :
    Calls prog 12 #[.slice a len cap, .slice a2 len2 cap2, .agg cs] w fun e w' => e = .returned (.bool true) ∧ RowKit.Below w.heap.size w w' := by
  obtain ⟨l, rfl, hl⟩ := Open.rows_of w0
  obtain ⟨k, rfl, hk, _⟩ := Open.bools2 w1
  obtain ⟨l3, h3, e3, _⟩ := w2.arrInts' Go.Proofs.Try.underlying82 Go.Proofs.Try.underlying3 (by kernel_rfl) (by kernel_rfl)
  match l3, h3 with
  | [x, y, z, v], _ =>
    have : cs = #[.int .i64 x, .int .i64 y, .int .i64 z, .int .i64 v] := by
      apply Array.toList_inj.1
      rw [e3]; rfl
    subst this
    exact Log.again_walk w hl hk x y z v
end Go.Proofs.Ytcaamecdhbgknaa.JAgain
