/- KeyBetween: the walk, as the row wants it. -/
import Derived.Test.YtamaoileeipgeaaDoorKD
import Derived.Test.YtamaoileeipgeaaDoorParts
namespace Go.Proofs.YtamaoileeipgeaaDoor.JBetween
open Go Go.V Go.RowKit
open Go.Proofs.YtamaoileeipgeaaDoor.KeyV Go.Proofs.YtamaoileeipgeaaDoor.JParts Go.Proofs.YtamaoileeipgeaaDoor.XKey
open Go.Proofs.Tryd (prog)
set_option linter.unusedVariables false
theorem two_int {w : World} {cs : List Value} {d : Dt} (h : Rd prog w 27 cs d) : ∃ n0 n1 : Int, cs = [.int .i64 n0, .int .i64 n1] ∧ (-9223372036854775808 ≤ n0 ∧ n0 ≤ 9223372036854775807) ∧ (-9223372036854775808 ≤ n1 ∧ n1 ≤ 9223372036854775807) := by
  obtain ⟨z, rfl, hl, hz, hr⟩ := h.ar' Go.Proofs.Tryd.underlying27
  have hC : prog.cellsOf 27 = 2 := by kernel_rfl
  have c3 : prog.cellsOf 3 = 1 := by kernel_rfl
  rw [hC] at hl
  match cs, hl, z, hz with
  | [v0, v1], _, [d0, d1], _ =>
    have r0 := hr 0 d0 rfl
    have r1 := hr 1 d1 rfl
    rw [c3] at r0 r1
    obtain ⟨n0, e0, _, b0⟩ := r0.int' Go.Proofs.Tryd.underlying3
    obtain ⟨n1, e1, _, b1⟩ := r1.int' Go.Proofs.Tryd.underlying3
    have g0 : v0 = .int .i64 n0 := by simpa using e0
    have g1 : v1 = .int .i64 n1 := by simpa using e1
    have m1 : IntKind.i64.min = -9223372036854775808 := by kernel_rfl
    simp [Lit.wf] at b0 b1
    rw [m1] at b0 b1
    exact ⟨n0, n1, by rw [g0, g1], by omega, by omega⟩
theorem two_str {w : World} {cs : List Value} {d : Dt} (h : Rd prog w 28 cs d) : ∃ s0 s1 : ByteArray, cs = [.string s0, .string s1] := by
  obtain ⟨z, rfl, hl, hz, hr⟩ := h.ar' Go.Proofs.Tryd.underlying28
  have hC : prog.cellsOf 28 = 2 := by kernel_rfl
  have c9 : prog.cellsOf 9 = 1 := by kernel_rfl
  rw [hC] at hl
  match cs, hl, z, hz with
  | [v0, v1], _, [d0, d1], _ =>
    have r0 := hr 0 d0 rfl
    have r1 := hr 1 d1 rfl
    rw [c9] at r0 r1
    obtain ⟨s0, e0, _⟩ := r0.str' Go.Proofs.Tryd.underlying9
    obtain ⟨s1, e1, _⟩ := r1.str' Go.Proofs.Tryd.underlying9
    have g0 : v0 = .string s0 := by simpa using e0
    have g1 : v1 = .string s1 := by simpa using e1
    exact ⟨s0, s1, by rw [g0, g1]⟩
theorem walk (a : Option Addr) (len cap : Nat) (z : List S31) (a1 : Array Value) (z1 : Dt) (a2 : Array Value) (z2 : Dt) (w : World) (w0 : IsParts w a len cap z) (y0 : len ≤ 140737488351232) (w1 : Rd prog w 27 a1.toList z1) (w2 : Rd prog w 28 a2.toList z2) :
    Calls prog 4 #[.slice a len cap, .agg a1, .agg a2] w fun e w' => e = .returned (.bool true) ∧ Below w.heap.size w w' := by
  obtain ⟨hC, rfl, hc, _, _⟩ := w0
  obtain ⟨n0, n1, e1, b0, b1⟩ := two_int w1
  obtain ⟨s0, s1, e2⟩ := two_str w2
  obtain rfl : a1 = #[.int .i64 n0, .int .i64 n1] := Array.toList_inj.1 e1
  obtain rfl : a2 = #[.string s0, .string s1] := Array.toList_inj.1 e2
  refine (between_walk (C_row hC) (by omega) hc b0 b1 s0 s1).mono ?_
  rintro e w' ⟨rfl, f⟩
  exact ⟨rfl, f.below (Nat.le_refl _) (by simp)⟩
end Go.Proofs.YtamaoileeipgeaaDoor.JBetween
