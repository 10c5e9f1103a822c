/- DiskSure: the walk over what the reader tells. -/
import Derived.Test.YtcaamecdhbgknaaB5
import Derived.Test.YtcaamecdhbgknaaLSure
namespace Go.Proofs.Ytcaamecdhbgknaa.JSure
open Go Go.V
open Go.Proofs.Try (prog)
set_option linter.unusedVariables false
theorem walk (a : Option Addr) (len cap : Nat) (d : Dt) (a2 : Option Addr) (len2 cap2 : Nat) (d2 : Dt) (cs : Array Value) (d3 : Dt) (w : World) (w0 : Rd prog w 37 [.slice a len cap] d) (w1 : Rd prog w 38 [.slice a2 len2 cap2] d2) (w2 : Rd prog w 42 cs.toList d3) :
    Calls prog 5 #[.slice a len cap, .slice a2 len2 cap2, .agg cs] w fun e w' => e = .returned (.bool true) ∧ RowKit.Below w.heap.size w w' := by
  obtain ⟨z, rfl, hz⟩ := Open.rows_of w0
  obtain ⟨keep, rfl, hk, _⟩ := Open.bools2 w1
  obtain ⟨l, hl, e3, _⟩ := w2.arrInts' Go.Proofs.Try.underlying42 Go.Proofs.Try.underlying3 (by kernel_rfl) (by kernel_rfl)
  match l, hl with
  | [x, y], _ =>
    have : cs = #[.int .i64 x, .int .i64 y] := by
      apply Array.toList_inj.1
      rw [e3]; rfl
    subst this
    exact Disk.sure_walk w hz hk x y
end Go.Proofs.Ytcaamecdhbgknaa.JSure
