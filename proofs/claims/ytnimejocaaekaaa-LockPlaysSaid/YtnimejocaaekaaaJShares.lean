/- LockShares: the walk over what the reader tells. -/
import Derived.Test.YtnimejocaaekaaaQS
namespace Go.Proofs.Ytnimejocaaekaaa.JShares
open Go Go.V
open Go.Proofs.Try (prog)
set_option linter.unusedVariables false
set_option maxRecDepth 20000
open Lock

theorem kop_of {w : World} {cs : List Value} {d : Dt} (h : Rd prog w 35 cs d) : ∃ o : KOp, cs = [.bool o.give, I64 o.s, I64 o.item, .bool o.alone] ∧ inR o.item := by
  obtain ⟨z, rfl, hl, hz, hr⟩ := h.st' Go.Proofs.Try.underlying35
  have hC : prog.cellsOf 35 = 4 := by kernel_rfl
  have c3 : prog.cellsOf 3 = 1 := by kernel_rfl
  have c4 : prog.cellsOf 4 = 1 := by kernel_rfl
  rw [hC] at hl
  match cs, hl, z, hz with
  | [v0, v1, v2, v3], _, [d0, d1, d2, d3], _ =>
    have r0 : Rd prog w 4 (([v0, v1, v2, v3].drop 0).take (prog.cellsOf 4)) d0 := hr 0 _ d0 rfl rfl
    have r1 : Rd prog w 3 (([v0, v1, v2, v3].drop 1).take (prog.cellsOf 3)) d1 := hr 1 _ d1 rfl rfl
    have r2 : Rd prog w 3 (([v0, v1, v2, v3].drop 2).take (prog.cellsOf 3)) d2 := hr 2 _ d2 rfl rfl
    have r3 : Rd prog w 4 (([v0, v1, v2, v3].drop 3).take (prog.cellsOf 4)) d3 := hr 3 _ d3 rfl rfl
    simp only [c3, c4] at r0 r1 r2 r3
    obtain ⟨x0, e0, _⟩ := r0.bool' Go.Proofs.Try.underlying4
    obtain ⟨n1, e1, _, _⟩ := r1.int' Go.Proofs.Try.underlying3
    obtain ⟨n2, e2, _, f2⟩ := r2.int' Go.Proofs.Try.underlying3
    obtain ⟨x3, e3, _⟩ := r3.bool' Go.Proofs.Try.underlying4
    refine ⟨⟨x0, n1, n2, x3⟩, ?_, ?_⟩
    · simp at e0 e1 e2 e3
      simp [e0, e1, e2, e3]
    · have := wf64 f2
      unfold inR
      show -9223372036854775808 ≤ n2 ∧ n2 ≤ 9223372036854775807
      omega

theorem kops_of {w : World} {a : Option Addr} {len cap : Nat} {d : Dt} (h : Rd prog w 33 [.slice a len cap] d) : ∃ z, IsKOps w a len z := by
  obtain ⟨a', len', cap', z, e, rfl, hz, hl, hw, hr⟩ := h.sl' Go.Proofs.Try.underlying33
  simp at e
  obtain ⟨rfl, rfl, rfl⟩ := e
  have hC : prog.cellsOf 35 = 4 := by kernel_rfl
  rw [hC] at hr
  have hall : ∀ i, i < len → ∃ o : KOp, inR o.item ∧ ∃ ad, a = some ad ∧ w.cell? ((ad.add (i * 4)).add 0) = some (.bool o.give) ∧ w.cell? ((ad.add (i * 4)).add 1) = some (I64 o.s) ∧ w.cell? ((ad.add (i * 4)).add 2) = some (I64 o.item) ∧ w.cell? ((ad.add (i * 4)).add 3) = some (.bool o.alone) := fun i hi => by
    obtain ⟨ad, C, ha, h1, h2, h3⟩ := hr i z[i] (List.getElem?_eq_getElem (by omega))
    obtain ⟨o, e, g⟩ := kop_of h3
    subst e
    exact ⟨o, g, ad, ha, h2 0 (by omega), h2 1 (by omega), h2 2 (by omega), h2 3 (by omega)⟩
  obtain ⟨l, h1, h2⟩ := choose_list hall
  exact ⟨l, h1, h2⟩

theorem walk (a : Option Addr) (len cap : Nat) (d : Dt) (n : Int) (w : World) (w0 : Rd prog w 33 [.slice a len cap] d) (w1 : (Lit.int .i64 n).wf = true) :
    Calls prog 4 #[.slice a len cap, I64 n] w fun e w' => e = .returned (.bool true) ∧ RowKit.Below w.heap.size w w' := by
  obtain ⟨l, hl⟩ := kops_of w0
  exact Lock.shares_walk w hl n
end Go.Proofs.Ytnimejocaaekaaa.JShares
