/- Readers of arguments: parts. -/
import Derived.Test.YtalegpdnhkopmaaDoorEE
namespace Go.V
open Go.RowKit
theorem Row.ofF {α : Type} {f : α → List Value} {sz : Nat} {w : World} {p : Option Addr} {l : List α} (F : Flat f sz) (hs : 0 < sz)
    (h : ∀ i e, l[i]? = some e → ∃ ad, p = some ad ∧ ∀ j u, (f e)[j]? = some u → w.cell? ((ad.add (i * sz)).add j) = some u) : Row w p (l.flatMap f) := by
  refine ⟨fun j u hj => ?_, F.one l⟩
  have hlt := (List.getElem?_eq_some_iff.1 hj).1
  rw [F.len] at hlt
  have hi : j / sz < l.length := Nat.div_lt_of_lt_mul (by rw [Nat.mul_comm]; exact hlt)
  have hm : j % sz < sz := Nat.mod_lt _ hs
  have ej : j / sz * sz + j % sz = j := by rw [Nat.mul_comm]; exact Nat.div_add_mod j sz
  obtain ⟨ad, hp, hc⟩ := h (j / sz) _ (List.getElem?_eq_getElem hi)
  refine ⟨ad, hp, ?_⟩
  have := F.get l (j / sz) hi (j % sz) hm
  rw [ej, hj] at this
  have h2 := hc (j % sz) u this.symm
  rw [Go.Deep.add_add, ej] at h2
  exact h2
end Go.V
namespace Go.Proofs.YtalegpdnhkopmaaDoor.Ky
open Go Go.V Go.RowKit
open Go.Proofs.YtalegpdnhkopmaaDoor.By
open Go.Proofs.Tryd (prog)
set_option linter.unusedVariables false
set_option linter.unusedSimpArgs false

theorem part_of {w : World} {cs : List Value} {d : Dt} (h : Rd prog w 32 cs d) : ∃ q : Pt, cs = pcell q ∧ IsI q.n := by
  obtain ⟨z, rfl, hl, hz, hr⟩ := h.st' Go.Proofs.Tryd.underlying32
  have hC : prog.cellsOf 32 = 3 := by kernel_rfl
  have c3 : prog.cellsOf 3 = 1 := by kernel_rfl
  have c4 : prog.cellsOf 4 = 1 := by kernel_rfl
  have c9 : prog.cellsOf 9 = 1 := by kernel_rfl
  rw [hC] at hl
  match cs, hl, z, hz with
  | [v0, v1, v2], _, [d0, d1, d2], _ =>
    have r0 : Rd prog w 4 (([v0, v1, v2].drop 0).take (prog.cellsOf 4)) d0 := hr 0 _ d0 rfl rfl
    have r1 : Rd prog w 9 (([v0, v1, v2].drop 1).take (prog.cellsOf 9)) d1 := hr 1 _ d1 rfl rfl
    have r2 : Rd prog w 3 (([v0, v1, v2].drop 2).take (prog.cellsOf 3)) d2 := hr 2 _ d2 rfl rfl
    simp only [c3, c9, c4] at r0 r1 r2
    obtain ⟨x0, e0, _⟩ := r0.bool' Go.Proofs.Tryd.underlying4
    obtain ⟨x1, e1, _, _⟩ := r1.str' Go.Proofs.Tryd.underlying9
    obtain ⟨n2, e2, _, f2⟩ := r2.int' Go.Proofs.Tryd.underlying3
    refine ⟨⟨x0, x1, n2⟩, ?_, ?_⟩
    · simp at e0 e1 e2
      simp [pcell, e0, e1, e2]
    · have := wf64 f2
      unfold IsI
      show -9223372036854775808 ≤ n2 ∧ n2 ≤ 9223372036854775807
      omega
theorem parts_of {w : World} {a : Option Addr} {len cap : Nat} {d : Dt} (h : Rd prog w 22 [.slice a len cap] d) : ∃ E : List Pt, E.length = len ∧ Row w a (E.flatMap pcell) ∧ (∀ e ∈ E, IsI e.n) ∧ len * 32 ≤ 140737488351232 := by
  obtain ⟨a', len', cap', z, e, rfl, hz, hl, hw, hr⟩ := h.sl' Go.Proofs.Tryd.underlying22
  simp at e
  obtain ⟨rfl, rfl, rfl⟩ := e
  have hC : prog.cellsOf 32 = 3 := by kernel_rfl
  have hb : prog.bytesOf 32 = 32 := by kernel_rfl
  have hR : reachBytes = 140737488351232 := by kernel_rfl
  rw [hC] at hr
  rw [hb, hR] at hw
  have hall : ∀ i, i < len → ∃ o : Pt, IsI o.n ∧ ∃ ad, a = some ad ∧ ∀ j u, (pcell o)[j]? = some u → w.cell? ((ad.add (i * 3)).add j) = some u := fun i hi => by
    obtain ⟨ad, C, ha, h1, h2, h3⟩ := hr i z[i] (List.getElem?_eq_getElem (by omega))
    obtain ⟨o, e, g⟩ := part_of h3
    subst e
    refine ⟨o, g, ad, ha, fun j u hj => ?_⟩
    have hj3 : j < 3 := (List.getElem?_eq_some_iff.1 hj).1
    have := h2 j (by omega)
    rw [this]
    exact hj
  obtain ⟨l, h1, h2⟩ := choose_list hall
  refine ⟨l, h1, Row.ofF flatP (by omega) fun i e he => (h2 i e he).2, fun e he => ?_, hw⟩
  obtain ⟨i, hi, rfl⟩ := List.mem_iff_getElem.1 he
  exact (h2 i _ (List.getElem?_eq_getElem hi)).1
theorem bytes_of {w : World} {a : Option Addr} {len cap : Nat} {d : Dt} (h : Rd prog w 23 [.slice a len cap] d) : ∃ s : Bs, s.length = len ∧ Row w a (s.map U8) ∧ len ≤ 140737488351232 ∧ len ≤ cap := by
  obtain ⟨a', s, cap', e, hr, h1, h2⟩ := h.bytes2 Go.Proofs.Tryd.underlying23 Go.Proofs.Tryd.underlying5 (by kernel_rfl) (by kernel_rfl)
  simp at e
  obtain ⟨rfl, rfl, rfl⟩ := e
  exact ⟨s.data.toList, rfl, hr, h1, h2⟩
end Go.Proofs.YtalegpdnhkopmaaDoor.Ky
