/- Rows of bytes as the reader tells them. -/
import Derived.Test.YtcaamecdhbgknaaUA
import Derived.KernelRfl
namespace Go.V
open Go.RowKit
set_option linter.unusedVariables false
def IsRow (k : IntKind) (w : World) (a : Option Addr) (len cap : Nat) (zs : List Int) : Prop :=
  (a = none ∧ len = 0 ∧ cap = 0 ∧ zs = []) ∨
  ∃ x, a = some x ∧ len ≤ cap ∧ cap ≤ maxLen ∧ zs.length = cap ∧ (∀ i, i < zs.length → w.cell? (x.add i) = some (.int k (zs.getD i 0))) ∧ ∀ n ∈ zs, (Lit.int k n).wf = true
theorem bytes_of {w : World} {a : Option Addr} {len cap : Nat} {zs : List Int} (h : IsRow .u8 w a len cap zs) : ∃ bs : ByteArray, bs.size = len ∧ Row w a (byteCells bs) := by
  rcases h with ⟨rfl, rfl, rfl, rfl⟩ | ⟨x, rfl, hl, hm, hz, hc, hw⟩
  · exact ⟨⟨#[]⟩, rfl, Row.nil _ _⟩
  · have hw' : ∀ z ∈ zs, 0 ≤ z ∧ z < 256 := fun z hz => by
      have := hw z hz
      have e1 : IntKind.u8.min = 0 := by kernel_rfl
      have e2 : IntKind.u8.max = 255 := by kernel_rfl
      simp [Lit.wf, e1, e2] at this
      omega
    refine ⟨⟨((zs.take len).map fun z => UInt8.ofNat z.toNat).toArray⟩, by simp [ByteArray.size]; omega, ?_⟩
    have e : byteCells ⟨((zs.take len).map fun z => UInt8.ofNat z.toNat).toArray⟩ = (zs.take len).map (Value.int .u8) := by
      unfold byteCells
      show List.map _ ((zs.take len).map fun z => UInt8.ofNat z.toNat) = _
      rw [List.map_map]
      apply List.map_congr_left
      intro z hz
      have := hw' z (List.mem_of_mem_take hz)
      simp only [Function.comp_apply, UInt8.toNat_ofNat']
      congr 1
      omega
    rw [e]
    refine ⟨fun j u hj => ⟨x, rfl, ?_⟩, fun u hu => by obtain ⟨z, _, rfl⟩ := List.mem_map.1 hu; rfl⟩
    rw [List.getElem?_map, List.getElem?_take] at hj
    split at hj
    · have hjz : j < zs.length := by omega
      rw [List.getElem?_eq_getElem hjz] at hj
      injection hj with hj
      rw [hc j hjz, ← hj, List.getD_eq_getElem?_getD, List.getElem?_eq_getElem hjz]; rfl
    · cases hj
end Go.V
