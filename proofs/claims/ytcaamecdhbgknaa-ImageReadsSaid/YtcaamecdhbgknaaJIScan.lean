/- ImageReads: the walk over what the reader tells. -/
import Derived.Test.YtcaamecdhbgknaaB5
import Derived.Test.YtcaamecdhbgknaaIScan
namespace Go.Proofs.Ytcaamecdhbgknaa.JIScan
open Go Go.V
open Go.Proofs.Try (prog)
set_option linter.unusedVariables false
set_option maxRecDepth 20000
open Image Log Disk in
theorem triples_of {w : World} {a : Option Addr} {len cap : Nat} {d : Dt} (h : Rd prog w 68 [.slice a len cap] d) : ∃ l : List T3, l.length = len ∧ Row w a (tcells l) := by
  obtain ⟨a', len', cap', z, e, rfl, hz, hl, hw, hr⟩ := h.sl' Go.Proofs.Try.underlying68
  simp at e
  obtain ⟨rfl, rfl, rfl⟩ := e
  have c71 : prog.cellsOf 71 = 3 := by kernel_rfl
  rw [c71] at hr
  have hall : ∀ i, i < len → ∃ t : T3, ∃ ad, a = some ad ∧ w.cell? (ad.add (i * 3 + 0)) = some (I64 t.1) ∧ w.cell? (ad.add (i * 3 + 1)) = some (I64 t.2.1) ∧ w.cell? (ad.add (i * 3 + 2)) = some (I64 t.2.2) := fun i hi => by
    obtain ⟨ad, C, ha, h1, h2, h3⟩ := hr i z[i] (List.getElem?_eq_getElem (by omega))
    obtain ⟨l3, g3, e3, _⟩ := h3.arrInts' Go.Proofs.Try.underlying71 Go.Proofs.Try.underlying3 (by kernel_rfl) (by kernel_rfl)
    match l3, g3 with
    | [x, y, t], _ =>
      have q0 := h2 0 (by omega)
      have q1 := h2 1 (by omega)
      have q2 := h2 2 (by omega)
      rw [add2, e3] at q0 q1 q2
      exact ⟨(x, y, t), ad, ha, q0, q1, q2⟩
  obtain ⟨l, h1, h2⟩ := choose_list hall
  refine ⟨l, h1, fun j u hj => ?_, fun u hu => ?_⟩
  · have hjl : j < (tcells l).length := (List.getElem?_eq_some_iff.1 hj).1
    rw [tcells_len] at hjl
    have hi : j / 3 < l.length := by omega
    obtain ⟨ad, ha, c0, c1, c2⟩ := h2 (j / 3) l[j / 3] (List.getElem?_eq_getElem hi)
    obtain ⟨t0, t1, t2⟩ := tcells_get l (j / 3) hi
    refine ⟨ad, ha, ?_⟩
    have hc : j = j / 3 * 3 + 0 ∨ j = j / 3 * 3 + 1 ∨ j = j / 3 * 3 + 2 := by omega
    rcases hc with hc | hc | hc
    · rw [← hc] at c0 t0; rw [hj] at t0; rw [c0, t0]
    · rw [← hc] at c1 t1; rw [hj] at t1; rw [c1, t1]
    · rw [← hc] at c2 t2; rw [hj] at t2; rw [c2, t2]
  · obtain ⟨t, _, ht⟩ := List.mem_flatMap.1 hu
    simp at ht
    rcases ht with rfl | rfl | rfl <;> rfl
theorem walk (cs : Array Value) (d : Dt) (a : Option Addr) (len cap : Nat) (d2 : Dt) (a3 : Option Addr) (len3 cap3 : Nat) (d3 : Dt) (w : World) (w0 : Rd prog w 61 cs.toList d) (w1 : Rd prog w 37 [.slice a len cap] d2) (w2 : Rd prog w 68 [.slice a3 len3 cap3] d3) :
    Calls prog 17 #[.agg cs, .slice a len cap, .slice a3 len3 cap3] w fun e w' => e = .returned (.bool true) ∧ RowKit.Below w.heap.size w w' := by
  obtain ⟨x, y, z, rfl, _, h1, h2⟩ := Open.area_of w0
  obtain ⟨l, rfl, hl⟩ := Open.rows_of w1
  obtain ⟨hs, rfl, hh⟩ := triples_of w2
  exact Image.iscan_walk w x y z (wf64 h1).1 (wf64 h1).2 (wf64 h2).2 hl hh
end Go.Proofs.Ytcaamecdhbgknaa.JIScan
