/- Words of the key layer's plain laws: the examples hold; bytes as numbers. -/
import Derived.Test.YtamaoileeipgeaaDoorXKey2
import Derived.Lib.Bytes
import Derived.KernelRfl
namespace Go.Proofs.YtamaoileeipgeaaDoor.XKey
open Go.RowKit Go.Proofs.YtamaoileeipgeaaDoorW.PrintWords Go.Proofs.YtamaoileeipgeaaDoorW.PrintLast
set_option linter.unusedVariables false
set_option linter.unusedSimpArgs false

theorem awake_ev : Ev (fun k => rhizomelaw01_awake.f k) true := Ev.of (fun k => rhizomelaw01_awake.mono k) (k := 40) (by kernel_rfl)

/-- Bytes: numbers from 0 to 255. -/
def IsB (l : List Int) : Prop := ∀ x ∈ l, 0 ≤ x ∧ x < 256
theorem IsB.at_ {l : List Int} (h : IsB l) (i : Nat) (hi : i < l.length) : 0 ≤ rd l (i : Int) ∧ rd l (i : Int) < 256 := by
  have e : rd l (i : Int) = l[i] := by simp [rd, hi]
  rw [e]
  exact h _ (List.getElem_mem hi)
def b8 (x : Int) : UInt8 := UInt8.ofNat x.toNat
theorem bytesOf_eq (l : List Int) : Lib.bytesOf l = l.map b8 := rfl
end Go.Proofs.YtamaoileeipgeaaDoor.XKey
