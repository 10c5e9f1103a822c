/- SpanMore: the walk, as the row wants it. -/
import Derived.Test.YtnplopiconabiaaSJ
namespace Go.Proofs.Ytnplopiconabiaa.JMore
open Go Go.V
open Go.Proofs.Try (prog)
set_option linter.unusedVariables false
open Span

theorem walk (a : Option Addr) (len cap : Nat) (d : Dt) (cs : Array Value) (d2 : Dt) (w : World) (w0 : Rd prog w 22 [.slice a len cap] d) (w1 : Rd prog w 48 cs.toList d2) :
    Calls prog 7 #[.slice a len cap, .agg cs] w fun e w' => e = .returned (.bool true) ∧ RowKit.Below w.heap.size w w' := by
  obtain ⟨E, rfl, hE, hR⟩ := edges_of w0
  obtain ⟨o, h0, h1, h2⟩ := edge_of w1
  obtain rfl : cs = (gcell o).toArray := by rw [← h0]
  refine (more_walk hE hR o.f o.t o.l h1 h2).mono ?_
  rintro e w' ⟨rfl, f⟩
  exact ⟨rfl, f.below (Nat.le_refl _) (by simp)⟩
end Go.Proofs.Ytnplopiconabiaa.JMore
