/- Rows of truth values, rows of rows of bytes, as the reader tells them. -/
import Derived.Test.YtcaamecdhbgknaaB1
import Derived.Test.YtcaamecdhbgknaaProg
import Derived.Deep.Grids
import Derived.Deep.Matrix
namespace Go.V
open Go.RowKit
set_option linter.unusedVariables false
set_option linter.unusedSimpArgs false
def IsBools (w : World) (a : Option Addr) (len cap : Nat) (z : List Bool) : Prop := z.length = len ∧ Row w a (z.map .bool)
theorem bools_of {w : World} {a : Option Addr} {len cap : Nat} {z : List Bool} (h : IsBools w a len cap z) : ∃ bs : List Bool, bs.length = len ∧ Row w a (bs.map .bool) := ⟨z, h⟩
/-- A row of rows of bytes. -/
def IsRows (w : World) (a : Option Addr) (len cap : Nat) (z : List ByteArray) : Prop :=
  z.length = len ∧ ∀ r s, z[r]? = some s → ∃ ad A C, a = some ad ∧ w.cell? (ad.add r) = some (.slice A s.size C) ∧ Row w A (byteCells s)
theorem rowZ {w : World} {A : Option Addr} {L C : Nat} {Z : List Int} (h1 : L ≤ C) (h2 : C ≤ maxLen) (h3 : Z.length = C) (h4 : ∀ n ∈ Z, (Lit.int .u8 n).wf = true) (h5 : A = none → C = 0) (h6 : ∀ a', A = some a' → ∀ c, c < C → w.cell? (a'.add c) = some (.int .u8 (Z.getD c 0))) : IsRow .u8 w A L C Z := by
  cases A with
  | none =>
    have := h5 rfl
    subst this
    exact .inl ⟨rfl, by omega, rfl, List.length_eq_zero_iff.1 h3⟩
  | some a => exact .inr ⟨a, rfl, h1, h2, h3, fun i hi => h6 a rfl i (by omega), h4⟩
end Go.V
namespace Go.Proofs.Ytcaamecdhbgknaa.Open
open Go Go.V
theorem bools {H : Type} {enc : TypeId × Value → H} {w : World} {base : Nat} {held : Bool} {fuel : Nat} {a : Option Addr} {len cap : Nat} {x : DataW H × List MemPlace} (h : DataW.trod enc Go.Proofs.Try.prog w base (fun _ => true) held fuel 38 (Value.slice a len cap).cells.toList = some x) :
    ∃ z, IsBools w a len cap z := by
  rcases Deep.open_bools Go.Proofs.Try.underlying38 Go.Proofs.Try.underlying4 (by kernel_rfl) h with ⟨hcs, _⟩ | ⟨a', l, c, B, hcs, _, hl, hm, _, hcell⟩
  · simp [Value.cells] at hcs
    obtain ⟨rfl, rfl, rfl⟩ := hcs
    exact ⟨[], rfl, Row.nil _ _⟩
  · simp [Value.cells] at hcs
    obtain ⟨rfl, rfl, rfl⟩ := hcs
    refine ⟨(List.range len).map B, by simp, fun j u hj => ⟨a', rfl, ?_⟩, fun u hu => by obtain ⟨z, _, rfl⟩ := List.mem_map.1 hu; rfl⟩
    have hj' : j < len := by
      have := (List.getElem?_eq_some_iff.1 hj).1
      simpa using this
    rw [List.getElem?_map, List.getElem?_map, List.getElem?_range hj'] at hj
    injection hj with hj
    rw [hcell j (by omega), ← hj]
theorem rows {H : Type} {enc : TypeId × Value → H} {w : World} {base : Nat} {held : Bool} {fuel : Nat} {a : Option Addr} {len cap : Nat} {x : DataW H × List MemPlace} (h : DataW.trod enc Go.Proofs.Try.prog w base (fun _ => true) held fuel 37 (Value.slice a len cap).cells.toList = some x) :
    ∃ z, IsRows w a len cap z := by
  rcases Deep.open_int_rows (k := .u8) Go.Proofs.Try.underlying37 Go.Proofs.Try.underlying22 Go.Proofs.Try.underlying5 (by kernel_rfl) (by kernel_rfl) h with ⟨hcs, _⟩ | ⟨a', l, c, A, L, C, Z, hcs, _, hl, hm, _, hcell⟩
  · simp [Value.cells] at hcs
    obtain ⟨rfl, rfl, rfl⟩ := hcs
    exact ⟨[], rfl, fun r s hs => by simp at hs⟩
  · simp [Value.cells] at hcs
    obtain ⟨rfl, rfl, rfl⟩ := hcs
    have hex : ∀ r, r < len → ∃ s : ByteArray, s.size = L r ∧ Row w (A r) (byteCells s) := fun r hr => by
      obtain ⟨h1, h2, h3, h4, h5, h6, h7⟩ := hcell r (by omega)
      exact bytes_of (rowZ h2 h3 h4 h5 h6 fun a' ha c hc => (h7 a' ha).2 c hc)
    refine ⟨(List.range len).map fun r => if hr : r < len then (hex r hr).choose else ⟨#[]⟩, by simp, fun r s hs => ?_⟩
    have hr : r < len := by
      have := (List.getElem?_eq_some_iff.1 hs).1
      simpa using this
    rw [List.getElem?_map, List.getElem?_range hr] at hs
    simp only [Option.map_some, dif_pos hr, Option.some.injEq] at hs
    obtain ⟨p1, p2⟩ := (hex r hr).choose_spec
    rw [hs] at p1 p2
    exact ⟨a', A r, C r, rfl, by rw [p1]; exact (hcell r (by omega)).1, p2⟩
end Go.Proofs.Ytcaamecdhbgknaa.Open
