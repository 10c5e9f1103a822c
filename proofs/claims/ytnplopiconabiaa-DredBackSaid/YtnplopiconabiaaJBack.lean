/- DredBack: the walk, as the row wants it. -/
import Derived.Test.YtnplopiconabiaaTD
import Derived.Test.YtnplopiconabiaaXB
namespace Go.Proofs.Ytnplopiconabiaa.JBack
open Go Go.V
open Go.Proofs.Try (prog)
set_option linter.unusedVariables false
open Span

theorem edges_len {w : World} {a : Option Addr} {len cap : Nat} {d : Dt} (h : Rd prog w 22 [.slice a len cap] d) : len ≤ 140737488355328 := by
  obtain ⟨a', len', cap', z, e, rfl, hz, hl, hw, hr⟩ := h.sl' Go.Proofs.Try.underlying22
  simp at e
  obtain ⟨rfl, rfl, rfl⟩ := e
  have hb : 1 ≤ prog.bytesOf 48 := by decide +kernel
  have h1 : len * 1 ≤ len * prog.bytesOf 48 := Nat.mul_le_mul_left _ hb
  have h2 : reachBytes ≤ 140737488355328 := by decide
  omega
theorem walk (a : Option Addr) (len cap : Nat) (d : Dt) (a2 : Option Addr) (len2 cap2 : Nat) (d2 : Dt) (w : World) (w0 : Rd prog w 22 [.slice a len cap] d) (w1 : Rd prog w 22 [.slice a2 len2 cap2] d2) :
    Calls prog 9 #[.slice a len cap, .slice a2 len2 cap2] w fun e w' => e = .returned (.bool true) ∧ RowKit.Below w.heap.size w w' := by
  have l1 := edges_len w0
  have l2 := edges_len w1
  obtain ⟨E, rfl, hE, hR⟩ := edges_of w0
  obtain ⟨M, rfl, hM, hRM⟩ := edges_of w1
  refine (Dred.back_walk hE hM hR hRM l1 l2).mono ?_
  rintro e w' ⟨rfl, f⟩
  exact ⟨rfl, f.below (Nat.le_refl _) (by simp)⟩
end Go.Proofs.Ytnplopiconabiaa.JBack
