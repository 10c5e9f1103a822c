/- SpanPairs: the walk, as the row wants it. -/
import Derived.Test.YtnplopiconabiaaSV
namespace Go.Proofs.Ytnplopiconabiaa.JPairs
open Go Go.V
open Go.Proofs.Try (prog)
set_option linter.unusedVariables false
open Span

theorem walk (lab : ByteArray) (a : Option Addr) (len cap : Nat) (d : Dt) (w : World) (w0 : lab.size ≤ 140737488351232) (w1 : Rd prog w 22 [.slice a len cap] d) :
    Calls prog 3 #[.string lab, .slice a len cap] w fun e w' => e = .returned (.bool true) ∧ RowKit.Below w.heap.size w w' := by
  obtain ⟨E, rfl, hE, hR⟩ := edges_of w1
  refine (pairs_walk (lab := lab) hE hR).mono ?_
  rintro e w' ⟨rfl, f⟩
  exact ⟨rfl, f.below (Nat.le_refl _) (by simp)⟩
end Go.Proofs.Ytnplopiconabiaa.JPairs
