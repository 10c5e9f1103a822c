/- KeyWrites: the walk and the plain law joined. -/
import Derived.Test.YtamaoileeipgeaaDoorCode7
import Derived.Test.YtamaoileeipgeaaDoorParts
namespace Go.Proofs.YtamaoileeipgeaaDoor.JWrites
open Go.RowKit Go.ChangeShapes Go.WideShapes Go.Proofs.YtamaoileeipgeaaDoorW.PrintWords Go.Proofs.YtamaoileeipgeaaDoorW.PrintLast Go.Proofs.YtamaoileeipgeaaDoor.XKey Go.Proofs.YtamaoileeipgeaaDoor.JParts
theorem open_parts {H : Type} {enc : TypeId × Value → H} {w : World} {base : Nat} {spare : Nat → Bool} {held : Bool} {a : Option Addr} {len cap : Nat} {d : DataW H} {p : List MemPlace} (h : DataW.Trod enc Tryd.prog w base spare held 26 (.slice a len cap) d p) : ∃ zs, IsParts w a len cap zs := JParts.open_parts h
theorem walk (a0 : Option Addr) (len0 cap0 : Nat) (z0 : List S31) (w : World) (w0 : IsParts w a0 len0 cap0 z0) (y0 : len0 ≤ 140737488351232) :
    Calls Tryd.prog 5 #[.slice a0 len0 cap0] w fun e w' => e = .returned (.bool true) ∧ Below w.heap.size w w' := by
  obtain ⟨hC, rfl, hc, hm, hp⟩ := w0
  obtain ⟨k, h⟩ := (writes_pure z0 (by omega) hp).rounds
  refine (rhizomelaw01_KeyWrites.calls k _ _ z0 true w hC hc h).mono ?_
  rintro e w' ⟨rfl, hd⟩
  exact ⟨rfl, hd⟩
end Go.Proofs.YtamaoileeipgeaaDoor.JWrites
