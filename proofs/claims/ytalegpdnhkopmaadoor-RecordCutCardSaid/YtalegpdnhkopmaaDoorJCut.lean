/- RecordCut: the walk, as the row wants it. -/
import Derived.Test.YtalegpdnhkopmaaDoorEM
import Derived.Test.YtalegpdnhkopmaaDoorET
namespace Go.Proofs.YtalegpdnhkopmaaDoor.JCut
open Go Go.V Go.RowKit
open Go.Proofs.YtalegpdnhkopmaaDoor.Ky Go.Proofs.YtalegpdnhkopmaaDoor.By Go.Proofs.YtalegpdnhkopmaaDoor.Vl Go.Proofs.YtalegpdnhkopmaaDoor.Rc
open Go.Proofs.Tryd (prog)
set_option linter.unusedVariables false
theorem walk (a0 : Option Addr) (len0 cap0 : Nat) (z0 : Dt) (a1 : Int) (a2 : Option Addr) (len2 cap2 : Nat) (z2 : Dt) (w : World) (tabs : laidMetH prog [("unicode/utf8.acceptRanges", Rows.laid_unicode_utf8_acceptRanges), ("unicode/utf8.first", Rows.laid_unicode_utf8_first)] w) (w0 : Rd prog w 50 [.slice a0 len0 cap0] z0) (w1 : (Lit.int .i64 a1).wf = true) (w2 : Rd prog w 23 [.slice a2 len2 cap2] z2) :
    Calls prog 14 #[.slice a0 len0 cap0, .int .i64 a1, .slice a2 len2 cap2] w fun e w' => e = .returned (.bool true) ∧ Below w.heap.size w w' := by
  obtain ⟨L, rfl, hr, hI, h1, h2⟩ := changes_of w0
  obtain ⟨b, rfl, hb, h3, h4⟩ := bytes_of w2
  refine (cut_walk a1 hr (tabs_of tabs) (fun c hc => (hI c hc).1) (by omega) hb (by omega)).mono ?_
  rintro e w' ⟨rfl, f⟩
  exact ⟨rfl, f.below (Nat.le_refl _) (by simp)⟩
end Go.Proofs.YtalegpdnhkopmaaDoor.JCut
