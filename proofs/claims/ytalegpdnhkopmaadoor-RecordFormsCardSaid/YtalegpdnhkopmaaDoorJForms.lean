/- RecordForms: the walk, as the row wants it. -/
import Derived.Test.YtalegpdnhkopmaaDoorEM
namespace Go.Proofs.YtalegpdnhkopmaaDoor.JForms
open Go Go.V Go.RowKit
open Go.Proofs.YtalegpdnhkopmaaDoor.Ky Go.Proofs.YtalegpdnhkopmaaDoor.By Go.Proofs.YtalegpdnhkopmaaDoor.Vl Go.Proofs.YtalegpdnhkopmaaDoor.Rc
open Go.Proofs.Tryd (prog)
set_option linter.unusedVariables false
theorem walk (a0 : Array Value) (z0 : Dt) (w : World) (tabs : laidMetH prog [("unicode/utf8.acceptRanges", Rows.laid_unicode_utf8_acceptRanges), ("unicode/utf8.first", Rows.laid_unicode_utf8_first)] w) (w0 : Rd prog w 45 a0.toList z0) :
    Calls prog 12 #[.agg a0] w fun e w' => e = .returned (.bool true) ∧ Below w.heap.size w w' := by
  obtain ⟨c, e, hI, h1, h2, h3⟩ := change_of w0
  obtain rfl : a0 = (ccell c).toArray := Array.toList_inj.1 e
  unfold Small at h1 h2 h3
  refine (forms_walk c (tabs_of tabs) (by omega) (by omega) (by omega)).mono ?_
  rintro e w' ⟨rfl, f⟩
  exact ⟨rfl, f.below (Nat.le_refl _) (by simp)⟩
end Go.Proofs.YtalegpdnhkopmaaDoor.JForms
