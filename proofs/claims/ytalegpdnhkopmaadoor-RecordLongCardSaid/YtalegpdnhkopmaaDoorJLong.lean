/- RecordLong: the walk, as the row wants it. -/
import Derived.Test.YtalegpdnhkopmaaDoorEM
import Derived.Test.YtalegpdnhkopmaaDoorEN
namespace Go.Proofs.YtalegpdnhkopmaaDoor.JLong
open Go Go.V Go.RowKit
open Go.Proofs.YtalegpdnhkopmaaDoor.Ky Go.Proofs.YtalegpdnhkopmaaDoor.By Go.Proofs.YtalegpdnhkopmaaDoor.Vl Go.Proofs.YtalegpdnhkopmaaDoor.Rc
open Go.Proofs.Tryd (prog)
set_option linter.unusedVariables false
theorem walk (a0 : Int) (w : World) (tabs : laidMetH prog [("unicode/utf8.acceptRanges", Rows.laid_unicode_utf8_acceptRanges), ("unicode/utf8.first", Rows.laid_unicode_utf8_first)] w) (w0 : (Lit.int .i64 a0).wf = true) :
    Calls prog 13 #[.int .i64 a0] w fun e w' => e = .returned (.bool true) ∧ Below w.heap.size w w' := by
  refine (long_walk a0 (tabs_of tabs)).mono ?_
  rintro e w' ⟨rfl, f⟩
  exact ⟨rfl, f.below (Nat.le_refl _) (by simp)⟩
end Go.Proofs.YtalegpdnhkopmaaDoor.JLong
