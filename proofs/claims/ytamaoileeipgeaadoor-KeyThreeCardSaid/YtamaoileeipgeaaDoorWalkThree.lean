/- KeyThree: the walk and the plain law joined. -/
import Derived.Test.YtamaoileeipgeaaDoorCode10
import Derived.Test.YtamaoileeipgeaaDoorParts
namespace Go.Proofs.YtamaoileeipgeaaDoor.JThree
open Go.RowKit Go.ChangeShapes Go.WideShapes Go.Proofs.YtamaoileeipgeaaDoorW.PrintWords Go.Proofs.YtamaoileeipgeaaDoorW.PrintLast Go.Proofs.YtamaoileeipgeaaDoor.XKey Go.Proofs.YtamaoileeipgeaaDoor.JParts
theorem walk (a0 : Option Addr) (len0 cap0 : Nat) (z0 : List S31) (a1 : Option Addr) (len1 cap1 : Nat) (z1 : List S31) (a2 : Option Addr) (len2 cap2 : Nat) (z2 : List S31) (w : World) (w0 : IsParts w a0 len0 cap0 z0) (y0 : len0 ≤ 140737488351232) (w1 : IsParts w a1 len1 cap1 z1) (y1 : len1 ≤ 140737488351232) (w2 : IsParts w a2 len2 cap2 z2) (y2 : len2 ≤ 140737488351232) :
    Calls Tryd.prog 9 #[.slice a0 len0 cap0, .slice a1 len1 cap1, .slice a2 len2 cap2] w fun e w' => e = .returned (.bool true) ∧ Below w.heap.size w w' := by
  obtain ⟨hC, rfl, hc, hm, hp⟩ := w0
  obtain ⟨hC1, rfl, hc1, hm1, hp1⟩ := w1
  obtain ⟨hC2, rfl, hc2, hm2, hp2⟩ := w2
  obtain ⟨k, h⟩ := (three_pure z0 z1 z2 (by omega) (by omega) (by omega) hp hp1 hp2).rounds
  refine (rhizomelaw01_KeyThree.calls k _ _ z0 _ _ z1 _ _ z2 true w hC hc hC1 hc1 hC2 hc2 h).mono ?_
  rintro e w' ⟨rfl, hd⟩
  exact ⟨rfl, hd⟩
end Go.Proofs.YtamaoileeipgeaaDoor.JThree
