/- KeyOwn: the walk, as the row wants it. -/
import Derived.Test.YtalegpdnhkopmaaDoorEF
namespace Go.Proofs.YtalegpdnhkopmaaDoor.JOwn
open Go Go.V Go.RowKit
open Go.Proofs.YtalegpdnhkopmaaDoor.Ky Go.Proofs.YtalegpdnhkopmaaDoor.By
open Go.Proofs.Tryd (prog)
set_option linter.unusedVariables false
theorem walk (a0 : Option Addr) (len0 cap0 : Nat) (z0 : Dt) (a1 : Option Addr) (len1 cap1 : Nat) (z1 : Dt) (w : World) (w0 : Rd prog w 22 [.slice a0 len0 cap0] z0) (w1 : Rd prog w 23 [.slice a1 len1 cap1] z1) :
    Calls prog 3 #[.slice a0 len0 cap0, .slice a1 len1 cap1] w fun e w' => e = .returned (.bool true) ∧ Below w.heap.size w w' := by
  obtain ⟨l, rfl, hr, _, hl⟩ := parts_of w0
  obtain ⟨b, rfl, hb, h1, h2⟩ := bytes_of w1
  refine (keyown_walk hr (by omega) hb (by omega) h2).mono ?_
  rintro e w' ⟨rfl, f⟩
  exact ⟨rfl, f.below (Nat.le_refl _) (by simp)⟩
end Go.Proofs.YtalegpdnhkopmaaDoor.JOwn
