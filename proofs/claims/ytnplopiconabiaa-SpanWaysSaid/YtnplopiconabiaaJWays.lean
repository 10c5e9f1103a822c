/- SpanWays: the walk, as the row wants it. -/
import Derived.Test.YtnplopiconabiaaST
namespace Go.Proofs.Ytnplopiconabiaa.JWays
open Go Go.V
open Go.Proofs.Try (prog)
set_option linter.unusedVariables false
open Span

theorem walk (lab : ByteArray) (a : Option Addr) (len cap : Nat) (d : Dt) (cs : Array Value) (d2 : Dt) (w : World) (w0 : lab.size ≤ 140737488351232) (w1 : Rd prog w 22 [.slice a len cap] d) (w2 : Rd prog w 35 cs.toList d2) :
    Calls prog 4 #[.string lab, .slice a len cap, .agg cs] w fun e w' => e = .returned (.bool true) ∧ RowKit.Below w.heap.size w w' := by
  obtain ⟨E, rfl, hE, hR⟩ := edges_of w1
  obtain ⟨l, hl, e3, _⟩ := w2.arrInts' Go.Proofs.Try.underlying35 Go.Proofs.Try.underlying3 (by kernel_rfl) (by kernel_rfl)
  match l, hl with
  | [x, y], _ =>
  obtain rfl : cs = #[I64 x, I64 y] := by rw [← Array.toList_inj, e3]; rfl
  refine (ways_walk (lab := lab) hE x y).mono ?_
  rintro e w' ⟨rfl, f⟩
  exact ⟨rfl, f.below (Nat.le_refl _) (by simp)⟩
end Go.Proofs.Ytnplopiconabiaa.JWays
