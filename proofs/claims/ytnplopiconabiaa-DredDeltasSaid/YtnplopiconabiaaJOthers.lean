/- DredOthers: the walk, as the row wants it. -/
import Derived.Test.YtnplopiconabiaaTE
import Derived.Test.YtnplopiconabiaaXB
namespace Go.Proofs.Ytnplopiconabiaa.JOthers
open Go Go.V
open Go.Proofs.Try (prog)
set_option linter.unusedVariables false
set_option maxRecDepth 20000
open Span Dred

theorem edges_len {w : World} {a : Option Addr} {len cap : Nat} {d : Dt} (h : Rd prog w 22 [.slice a len cap] d) : len ≤ 140737488355328 := by
  obtain ⟨a', len', cap', z, e, rfl, hz, hl, hw, hr⟩ := h.sl' Go.Proofs.Try.underlying22
  simp at e
  obtain ⟨rfl, rfl, rfl⟩ := e
  have hb : 1 ≤ prog.bytesOf 48 := by decide +kernel
  have h1 : len * 1 ≤ len * prog.bytesOf 48 := Nat.mul_le_mul_left _ hb
  have h2 : reachBytes ≤ 140737488355328 := by decide
  omega
theorem op_of {w : World} {cs : List Value} {d : Dt} (h : Rd prog w 56 cs d) : ∃ o : OpM, cs = ocell o ∧ Row w o.1 (o.2.2.1.flatMap gcell) ∧ (∀ x ∈ o.2.2.1, inR x.f ∧ inR x.t) ∧ o.2.2.1.length ≤ 140737488355328 := by
  obtain ⟨z, rfl, hl, hz, hr⟩ := h.st' Go.Proofs.Try.underlying56
  have hC : prog.cellsOf 56 = 2 := by kernel_rfl
  have c22 : prog.cellsOf 22 = 1 := by kernel_rfl
  have c4 : prog.cellsOf 4 = 1 := by kernel_rfl
  rw [hC] at hl
  match cs, hl, z, hz with
  | [v0, v1], _, [d0, d1], _ =>
    have r0 : Rd prog w 22 (([v0, v1].drop 0).take (prog.cellsOf 22)) d0 := hr 0 _ d0 rfl rfl
    have r1 : Rd prog w 4 (([v0, v1].drop 1).take (prog.cellsOf 4)) d1 := hr 1 _ d1 rfl rfl
    simp only [c22, c4] at r0 r1
    obtain ⟨a, len, cap, z, e0, _⟩ := r0.sl' Go.Proofs.Try.underlying22
    obtain ⟨b, e1, _⟩ := r1.bool' Go.Proofs.Try.underlying4
    have g0 : v0 = .slice a len cap := by simpa using e0
    have g1 : v1 = .bool b := by simpa using e1
    subst g0; subst g1
    have r0 : Rd prog w 22 [.slice a len cap] d0 := r0
    have hl := edges_len r0
    obtain ⟨E, rfl, hE, hR⟩ := edges_of r0
    exact ⟨(a, cap, E, b), rfl, hE, hR, hl⟩
theorem script_of {w : World} {a : Option Addr} {len cap : Nat} {d : Dt} (h : Rd prog w 57 [.slice a len cap] d) : ∃ Z : List OpM, Z.length = len ∧ ScriptAt w a Z := by
  obtain ⟨a', len', cap', z, e, rfl, hz, hl, hw, hr⟩ := h.sl' Go.Proofs.Try.underlying57
  simp at e
  obtain ⟨rfl, rfl, rfl⟩ := e
  have hb : 1 ≤ prog.bytesOf 56 := by decide +kernel
  have hlen : len ≤ 140737488355328 := by
    have h1 : len * 1 ≤ len * prog.bytesOf 56 := Nat.mul_le_mul_left _ hb
    have h2 : reachBytes ≤ 140737488355328 := by decide
    omega
  have hC : prog.cellsOf 56 = 2 := by kernel_rfl
  rw [hC] at hr
  have hall : ∀ i, i < len → ∃ o : OpM, (Row w o.1 (o.2.2.1.flatMap gcell) ∧ (∀ x ∈ o.2.2.1, inR x.f ∧ inR x.t) ∧ o.2.2.1.length ≤ 140737488355328) ∧ ∃ ad, a = some ad ∧ ∀ j u, (ocell o)[j]? = some u → w.cell? ((ad.add (i * 2)).add j) = some u := fun i hi => by
    obtain ⟨ad, C, ha, h1, h2, h3⟩ := hr i z[i] (List.getElem?_eq_getElem (by omega))
    obtain ⟨o, e, g⟩ := op_of h3
    subst e
    refine ⟨o, g, ad, ha, fun j u hj => ?_⟩
    have hj3 : j < 2 := (List.getElem?_eq_some_iff.1 hj).1
    have := h2 j (by omega)
    rw [this]
    exact hj
  obtain ⟨l, h1, h2⟩ := choose_list hall
  have key : ∀ o ∈ l, (Row w o.1 (o.2.2.1.flatMap gcell) ∧ (∀ x ∈ o.2.2.1, inR x.f ∧ inR x.t) ∧ o.2.2.1.length ≤ 140737488355328) := fun o ho => by
    obtain ⟨i, hi, rfl⟩ := List.mem_iff_getElem.1 ho
    exact (h2 i _ (List.getElem?_eq_getElem hi)).1
  exact ⟨l, h1, Row.ofF flatO (by omega) fun i e he => (h2 i e he).2, fun o ho => (key o ho).1, fun o ho => (key o ho).2.1, fun o ho => (key o ho).2.2, by omega⟩
theorem walk (a : Option Addr) (len cap : Nat) (d : Dt) (a2 : Option Addr) (len2 cap2 : Nat) (d2 : Dt) (w : World) (w0 : Rd prog w 22 [.slice a len cap] d) (w1 : Rd prog w 57 [.slice a2 len2 cap2] d2) :
    Calls prog 11 #[.slice a len cap, .slice a2 len2 cap2] w fun e w' => e = .returned (.bool true) ∧ RowKit.Below w.heap.size w w' := by
  have l1 := edges_len w0
  obtain ⟨E, rfl, hE, hR⟩ := edges_of w0
  obtain ⟨Z, rfl, hZ⟩ := script_of w1
  refine (Dred.others_walk hE hZ hR l1).mono ?_
  rintro e w' ⟨rfl, f⟩
  exact ⟨rfl, f.below (Nat.le_refl _) (by simp)⟩
end Go.Proofs.Ytnplopiconabiaa.JOthers
