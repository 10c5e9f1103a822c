/- SpanRings: the walk, as the row wants it. -/
import Derived.Test.YtnplopiconabiaaST
namespace Go.Proofs.Ytnplopiconabiaa.JRings
open Go Go.V
open Go.Proofs.Try (prog)
set_option linter.unusedVariables false
open Span

theorem walk (lab : ByteArray) (a : Option Addr) (len cap : Nat) (d : Dt) (w : World) (w0 : lab.size ≤ 140737488351232) (w1 : Rd prog w 22 [.slice a len cap] d) :
    Calls prog 5 #[.string lab, .slice a len cap] w fun e w' => e = .returned (.bool true) ∧ RowKit.Below w.heap.size w w' := by
  obtain ⟨E, rfl, hE, hR⟩ := edges_of w1
  refine (rings_walk (lab := lab) hE hR).mono ?_
  rintro e w' ⟨rfl, f⟩
  exact ⟨rfl, f.below (Nat.le_refl _) (by simp)⟩
end Go.Proofs.Ytnplopiconabiaa.JRings
