/- DredDeltas: the walk, as the row wants it. -/
import Derived.Test.YtnplopiconabiaaTK
import Derived.Test.YtnplopiconabiaaJOthers
namespace Go.Proofs.Ytnplopiconabiaa.JDeltas
open Go Go.V
open Go.Proofs.Try (prog)
set_option linter.unusedVariables false
set_option maxRecDepth 20000
open Span Dred

theorem walk (a : Option Addr) (len cap : Nat) (d : Dt) (a2 : Option Addr) (len2 cap2 : Nat) (d2 : Dt) (w : World) (w0 : Rd prog w 22 [.slice a len cap] d) (w1 : Rd prog w 57 [.slice a2 len2 cap2] d2) :
    Calls prog 13 #[.slice a len cap, .slice a2 len2 cap2] w fun e w' => e = .returned (.bool true) ∧ RowKit.Below w.heap.size w w' := by
  have l1 := JOthers.edges_len w0
  obtain ⟨E, rfl, hE, hR⟩ := edges_of w0
  obtain ⟨Z, rfl, hZ⟩ := JOthers.script_of w1
  refine (Dred.deltas_walk hE hZ hR l1).mono ?_
  rintro e w' ⟨rfl, f⟩
  exact ⟨rfl, f.below (Nat.le_refl _) (by simp)⟩
end Go.Proofs.Ytnplopiconabiaa.JDeltas
