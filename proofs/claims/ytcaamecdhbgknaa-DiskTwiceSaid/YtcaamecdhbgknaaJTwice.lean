/- DiskTwice: the walk over what the reader tells. -/
import Derived.Test.YtcaamecdhbgknaaB4
import Derived.Test.YtcaamecdhbgknaaLTwice
namespace Go.Proofs.Ytcaamecdhbgknaa.JTwice
open Go Go.V
open Go.Proofs.Try (prog)
set_option linter.unusedVariables false
theorem walk (a : Option Addr) (len cap : Nat) (d : Dt) (a2 : Option Addr) (len2 cap2 : Nat) (d2 : Dt) (cs : Array Value) (d3 : Dt) (w : World) (w0 : Rd prog w 47 [.slice a len cap] d) (w1 : Rd prog w 38 [.slice a2 len2 cap2] d2) (w2 : Rd prog w 42 cs.toList d3) :
    Calls prog 8 #[.slice a len cap, .slice a2 len2 cap2, .agg cs] w fun e w' => e = .returned (.bool true) ∧ RowKit.Below w.heap.size w w' := by
  obtain ⟨z, hz⟩ := Disk.ops_of w0
  obtain ⟨a2', keep, cap2', e2, hk, _⟩ := w1.bools' Go.Proofs.Try.underlying38 Go.Proofs.Try.underlying4 (by kernel_rfl) (by kernel_rfl)
  simp at e2
  obtain ⟨rfl, rfl, rfl⟩ := e2
  obtain ⟨l, hl, e3, _⟩ := w2.arrInts' Go.Proofs.Try.underlying42 Go.Proofs.Try.underlying3 (by kernel_rfl) (by kernel_rfl)
  match l, hl with
  | [x, y], _ =>
    have : cs = #[.int .i64 x, .int .i64 y] := by
      apply Array.toList_inj.1
      rw [e3]; rfl
    subst this
    exact Disk.twice_walk w hz hk x y
end Go.Proofs.Ytcaamecdhbgknaa.JTwice
