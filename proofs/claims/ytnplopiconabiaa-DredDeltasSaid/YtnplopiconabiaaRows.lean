/-
  No cell of these rows narrows 'for every input' (looked for: loops, veiled, ifaces, maps, wideKeys, modest, calm, conditions, laid).
  DERIVED. THE GIVEN ROWS OF THIS SEAT. 11 by the template 'for every input the law returns true; each argument reads behind the call as it read before'; 0 by the template 'total and deterministic' (their statements: YtnplopiconabiaaTotals.lean).
  GIVEN WITH THE SEED: the statements are not yours to turn. If you find one false, say at which input.
  Laid BY PROGRAM, IN A SANDBOX (cutbox-rows.mjs): the forced cells as the released guide's own fill.sh prints them over the translation 378d9ea19f6f38d3… (all of the seat's roots in one cut). By AI agents, Wed Nov 11 2026. No macro, syntax, notation, axiom, sorry.
-/
import Derived.Test.YtnplopiconabiaaChecked
import GoSem.Claim
import GoSem.ClaimJoined
import GoSem.ClaimMapViews
import Derived.JoinedTies
import Derived.KernelRfl
namespace Go.Proofs.Ytnplopiconabiaa
/- THE CELL 'sum', in the pinned program and in every row, IS THE sha256 OF THE DUMP (.gsa) THAT YtnplopiconabiaaProg.lean LOADS. Nothing in Lean hashes anything: it is a label: what it is worth is what the hold of that sum in a sandbox is worth. -/
noncomputable def Try.pinned : Pinned := { name := "ytnplopiconabiaa", sum := "378d9ea19f6f38d30c1a30f4906b8602fe2e9847eae0446b85f929a5ce0bc054", checked := Try.checked }
namespace Rows
def none {H : Type} : Left H := { results := [], args := [] }

/-- 'rhizomelaw13.SpanPairs': WHATEVER THE INPUT: true; the input reads as it did. -/
def spanPairsSpec : ChangeSpec := { name := "spanPairs", fn := fun _ => fun
  | [d1, d2] => { results := [.lit (.bool true)], args := [d1, d2] }
  | _ => none }
def spanPairsRow : OpenClaim := { program := "ytnplopiconabiaa", sum := "378d9ea19f6f38d30c1a30f4906b8602fe2e9847eae0446b85f929a5ce0bc054", func := "rhizome/rhizomelaw13.SpanPairs", spec := "spanPairs", unfollowed := true, recurses := true, apart := false }
def SpanPairsSaid : Prop := spanPairsRow.holds Try.pinned (OpenSpec.ofChange spanPairsSpec)

/-- ITS FALSE NEIGHBOUR: 'it returns false'. Refute it at one input. -/
def spanPairsWrong : ChangeSpec := { name := "spanPairs", fn := fun _ => fun
  | [d1, d2] => { results := [.lit (.bool false)], args := [d1, d2] }
  | _ => none }
def SpanPairsWrongFalsely : Prop := spanPairsRow.holds Try.pinned (OpenSpec.ofChange spanPairsWrong)

/-- 'rhizomelaw13.SpanWays': WHATEVER THE INPUT: true; the input reads as it did. -/
def spanWaysSpec : ChangeSpec := { name := "spanWays", fn := fun _ => fun
  | [d1, d2, d3] => { results := [.lit (.bool true)], args := [d1, d2, d3] }
  | _ => none }
def spanWaysRow : OpenClaim := { program := "ytnplopiconabiaa", sum := "378d9ea19f6f38d30c1a30f4906b8602fe2e9847eae0446b85f929a5ce0bc054", func := "rhizome/rhizomelaw13.SpanWays", spec := "spanWays", unfollowed := true, recurses := true, apart := false }
def SpanWaysSaid : Prop := spanWaysRow.holds Try.pinned (OpenSpec.ofChange spanWaysSpec)

/-- ITS FALSE NEIGHBOUR: 'it returns false'. Refute it at one input. -/
def spanWaysWrong : ChangeSpec := { name := "spanWays", fn := fun _ => fun
  | [d1, d2, d3] => { results := [.lit (.bool false)], args := [d1, d2, d3] }
  | _ => none }
def SpanWaysWrongFalsely : Prop := spanWaysRow.holds Try.pinned (OpenSpec.ofChange spanWaysWrong)

/-- 'rhizomelaw13.SpanRings': WHATEVER THE INPUT: true; the input reads as it did. -/
def spanRingsSpec : ChangeSpec := { name := "spanRings", fn := fun _ => fun
  | [d1, d2] => { results := [.lit (.bool true)], args := [d1, d2] }
  | _ => none }
def spanRingsRow : OpenClaim := { program := "ytnplopiconabiaa", sum := "378d9ea19f6f38d30c1a30f4906b8602fe2e9847eae0446b85f929a5ce0bc054", func := "rhizome/rhizomelaw13.SpanRings", spec := "spanRings", unfollowed := true, recurses := true, apart := false }
def SpanRingsSaid : Prop := spanRingsRow.holds Try.pinned (OpenSpec.ofChange spanRingsSpec)

/-- ITS FALSE NEIGHBOUR: 'it returns false'. Refute it at one input. -/
def spanRingsWrong : ChangeSpec := { name := "spanRings", fn := fun _ => fun
  | [d1, d2] => { results := [.lit (.bool false)], args := [d1, d2] }
  | _ => none }
def SpanRingsWrongFalsely : Prop := spanRingsRow.holds Try.pinned (OpenSpec.ofChange spanRingsWrong)

/-- 'rhizomelaw13.SpanWalks': WHATEVER THE INPUT: true; the input reads as it did. -/
def spanWalksSpec : ChangeSpec := { name := "spanWalks", fn := fun _ => fun
  | [d1, d2] => { results := [.lit (.bool true)], args := [d1, d2] }
  | _ => none }
def spanWalksRow : OpenClaim := { program := "ytnplopiconabiaa", sum := "378d9ea19f6f38d30c1a30f4906b8602fe2e9847eae0446b85f929a5ce0bc054", func := "rhizome/rhizomelaw13.SpanWalks", spec := "spanWalks", unfollowed := true, recurses := true, apart := false }
def SpanWalksSaid : Prop := spanWalksRow.holds Try.pinned (OpenSpec.ofChange spanWalksSpec)

/-- ITS FALSE NEIGHBOUR: 'it returns false'. Refute it at one input. -/
def spanWalksWrong : ChangeSpec := { name := "spanWalks", fn := fun _ => fun
  | [d1, d2] => { results := [.lit (.bool false)], args := [d1, d2] }
  | _ => none }
def SpanWalksWrongFalsely : Prop := spanWalksRow.holds Try.pinned (OpenSpec.ofChange spanWalksWrong)

/-- 'rhizomelaw13.SpanMore': WHATEVER THE INPUT: true; the input reads as it did. -/
def spanMoreSpec : ChangeSpec := { name := "spanMore", fn := fun _ => fun
  | [d1, d2] => { results := [.lit (.bool true)], args := [d1, d2] }
  | _ => none }
def spanMoreRow : OpenClaim := { program := "ytnplopiconabiaa", sum := "378d9ea19f6f38d30c1a30f4906b8602fe2e9847eae0446b85f929a5ce0bc054", func := "rhizome/rhizomelaw13.SpanMore", spec := "spanMore", unfollowed := true, recurses := true, apart := false }
def SpanMoreSaid : Prop := spanMoreRow.holds Try.pinned (OpenSpec.ofChange spanMoreSpec)

/-- ITS FALSE NEIGHBOUR: 'it returns false'. Refute it at one input. -/
def spanMoreWrong : ChangeSpec := { name := "spanMore", fn := fun _ => fun
  | [d1, d2] => { results := [.lit (.bool false)], args := [d1, d2] }
  | _ => none }
def SpanMoreWrongFalsely : Prop := spanMoreRow.holds Try.pinned (OpenSpec.ofChange spanMoreWrong)

/-- 'rhizomelaw13.SpanGreat': WHATEVER THE INPUT: true; the input reads as it did. -/
def spanGreatSpec : ChangeSpec := { name := "spanGreat", fn := fun _ => fun
  | [d] => { results := [.lit (.bool true)], args := [d] }
  | _ => none }
def spanGreatRow : OpenClaim := { program := "ytnplopiconabiaa", sum := "378d9ea19f6f38d30c1a30f4906b8602fe2e9847eae0446b85f929a5ce0bc054", func := "rhizome/rhizomelaw13.SpanGreat", spec := "spanGreat", unfollowed := true, recurses := true, apart := false }
def SpanGreatSaid : Prop := spanGreatRow.holds Try.pinned (OpenSpec.ofChange spanGreatSpec)

/-- ITS FALSE NEIGHBOUR: 'it returns false'. Refute it at one input. -/
def spanGreatWrong : ChangeSpec := { name := "spanGreat", fn := fun _ => fun
  | [d] => { results := [.lit (.bool false)], args := [d] }
  | _ => none }
def SpanGreatWrongFalsely : Prop := spanGreatRow.holds Try.pinned (OpenSpec.ofChange spanGreatWrong)

/-- 'rhizomelaw14.DredBack': WHATEVER THE INPUT: true; the input reads as it did. -/
def dredBackSpec : ChangeSpec := { name := "dredBack", fn := fun _ => fun
  | [d1, d2] => { results := [.lit (.bool true)], args := [d1, d2] }
  | _ => none }
def dredBackRow : OpenClaim := { program := "ytnplopiconabiaa", sum := "378d9ea19f6f38d30c1a30f4906b8602fe2e9847eae0446b85f929a5ce0bc054", func := "rhizome/rhizomelaw14.DredBack", spec := "dredBack", unfollowed := true, recurses := true, apart := false }
def DredBackSaid : Prop := dredBackRow.holds Try.pinned (OpenSpec.ofChange dredBackSpec)

/-- ITS FALSE NEIGHBOUR: 'it returns false'. Refute it at one input. -/
def dredBackWrong : ChangeSpec := { name := "dredBack", fn := fun _ => fun
  | [d1, d2] => { results := [.lit (.bool false)], args := [d1, d2] }
  | _ => none }
def DredBackWrongFalsely : Prop := dredBackRow.holds Try.pinned (OpenSpec.ofChange dredBackWrong)

/-- 'rhizomelaw14.DredGreat': WHATEVER THE INPUT: true; the input reads as it did. -/
def dredGreatSpec : ChangeSpec := { name := "dredGreat", fn := fun _ => fun
  | [d] => { results := [.lit (.bool true)], args := [d] }
  | _ => none }
def dredGreatRow : OpenClaim := { program := "ytnplopiconabiaa", sum := "378d9ea19f6f38d30c1a30f4906b8602fe2e9847eae0446b85f929a5ce0bc054", func := "rhizome/rhizomelaw14.DredGreat", spec := "dredGreat", unfollowed := true, recurses := true, apart := false }
def DredGreatSaid : Prop := dredGreatRow.holds Try.pinned (OpenSpec.ofChange dredGreatSpec)

/-- ITS FALSE NEIGHBOUR: 'it returns false'. Refute it at one input. -/
def dredGreatWrong : ChangeSpec := { name := "dredGreat", fn := fun _ => fun
  | [d] => { results := [.lit (.bool false)], args := [d] }
  | _ => none }
def DredGreatWrongFalsely : Prop := dredGreatRow.holds Try.pinned (OpenSpec.ofChange dredGreatWrong)

/-- 'rhizomelaw14.DredOthers': WHATEVER THE INPUT: true; the input reads as it did. -/
def dredOthersSpec : ChangeSpec := { name := "dredOthers", fn := fun _ => fun
  | [d1, d2] => { results := [.lit (.bool true)], args := [d1, d2] }
  | _ => none }
def dredOthersRow : OpenClaim := { program := "ytnplopiconabiaa", sum := "378d9ea19f6f38d30c1a30f4906b8602fe2e9847eae0446b85f929a5ce0bc054", func := "rhizome/rhizomelaw14.DredOthers", spec := "dredOthers", unfollowed := true, recurses := true, apart := false }
def DredOthersSaid : Prop := dredOthersRow.holds Try.pinned (OpenSpec.ofChange dredOthersSpec)

/-- ITS FALSE NEIGHBOUR: 'it returns false'. Refute it at one input. -/
def dredOthersWrong : ChangeSpec := { name := "dredOthers", fn := fun _ => fun
  | [d1, d2] => { results := [.lit (.bool false)], args := [d1, d2] }
  | _ => none }
def DredOthersWrongFalsely : Prop := dredOthersRow.holds Try.pinned (OpenSpec.ofChange dredOthersWrong)

/-- 'rhizomelaw14.DredRing': WHATEVER THE INPUT: true; the input reads as it did. -/
def dredRingSpec : ChangeSpec := { name := "dredRing", fn := fun _ => fun
  | [d1, d2] => { results := [.lit (.bool true)], args := [d1, d2] }
  | _ => none }
def dredRingRow : OpenClaim := { program := "ytnplopiconabiaa", sum := "378d9ea19f6f38d30c1a30f4906b8602fe2e9847eae0446b85f929a5ce0bc054", func := "rhizome/rhizomelaw14.DredRing", spec := "dredRing", unfollowed := true, recurses := true, apart := false }
def DredRingSaid : Prop := dredRingRow.holds Try.pinned (OpenSpec.ofChange dredRingSpec)

/-- ITS FALSE NEIGHBOUR: 'it returns false'. Refute it at one input. -/
def dredRingWrong : ChangeSpec := { name := "dredRing", fn := fun _ => fun
  | [d1, d2] => { results := [.lit (.bool false)], args := [d1, d2] }
  | _ => none }
def DredRingWrongFalsely : Prop := dredRingRow.holds Try.pinned (OpenSpec.ofChange dredRingWrong)

/-- 'rhizomelaw14.DredDeltas': WHATEVER THE INPUT: true; the input reads as it did. -/
def dredDeltasSpec : ChangeSpec := { name := "dredDeltas", fn := fun _ => fun
  | [d1, d2] => { results := [.lit (.bool true)], args := [d1, d2] }
  | _ => none }
def dredDeltasRow : OpenClaim := { program := "ytnplopiconabiaa", sum := "378d9ea19f6f38d30c1a30f4906b8602fe2e9847eae0446b85f929a5ce0bc054", func := "rhizome/rhizomelaw14.DredDeltas", spec := "dredDeltas", unfollowed := true, recurses := true, apart := false }
def DredDeltasSaid : Prop := dredDeltasRow.holds Try.pinned (OpenSpec.ofChange dredDeltasSpec)

/-- ITS FALSE NEIGHBOUR: 'it returns false'. Refute it at one input. -/
def dredDeltasWrong : ChangeSpec := { name := "dredDeltas", fn := fun _ => fun
  | [d1, d2] => { results := [.lit (.bool false)], args := [d1, d2] }
  | _ => none }
def DredDeltasWrongFalsely : Prop := dredDeltasRow.holds Try.pinned (OpenSpec.ofChange dredDeltasWrong)

/- THE SECOND FORM. 'bulk': how many values and letters a reading holds, each counted each time it is reached (what is shared counts as often as it is met; a slice's spare places count too). A statement '..UptoSaid' is the law's where the arguments, and the package variables that the reading takes, are together of bulk at most 1048576: NARROWER than '..Said'. Prove '..Said' where nothing that the law and all that it calls make is longer than what came in: it says more and counts as full. Else prove '..UptoSaid'. A law counts once. -/
mutual
def uptoBulk {H : Type} : DataW H → Nat
  | .lit (.string bytes) => bytes.length + 1
  | .lit _ => 1
  | .nil => 1
  | .ptr d => uptoBulk d + 1
  | .slice elems spare => uptoBulkAll elems + uptoBulkAll spare + 1
  | .agg parts => uptoBulkAll parts + 1
  | .iface _ d => uptoBulk d + 1
  | .map entries => uptoBulkEntries entries + 1
  | .held _ => 1
def uptoBulkAll {H : Type} : List (DataW H) → Nat
  | [] => 0
  | d :: r => uptoBulk d + uptoBulkAll r
def uptoBulkEntries {H : Type} : List (Lit × DataW H) → Nat
  | [] => 0
  | x :: r => uptoBulkEntry x + uptoBulkEntries r
def uptoBulkEntry {H : Type} : Lit × DataW H → Nat
  | (.string bytes, d) => bytes.length + uptoBulk d + 1
  | (_, d) => uptoBulk d + 1
 end
def uptoSmall : (H : Type) → List (DataW H) → Bool := fun _ ds => decide (uptoBulkAll ds ≤ 1048576)
def OpenSpec.upto (s : _root_.Go.ChangeSpec) : _root_.Go.OpenSpec := { _root_.Go.OpenSpec.ofChange s with cond := some uptoSmall }

/-- 'rhizomelaw13.SpanPairs', WHERE WHAT IT READS IS OF BULK AT MOST 1048576: true; the input reads as it did. -/
def spanPairsUptoRow : OpenClaim := { program := "ytnplopiconabiaa", sum := "378d9ea19f6f38d30c1a30f4906b8602fe2e9847eae0446b85f929a5ce0bc054", func := "rhizome/rhizomelaw13.SpanPairs", spec := "spanPairs", unfollowed := true, recurses := true, apart := false, narrowed := true }
def SpanPairsUptoSaid : Prop := spanPairsUptoRow.holds Try.pinned (OpenSpec.upto spanPairsSpec)

/-- 'rhizomelaw13.SpanWays', WHERE WHAT IT READS IS OF BULK AT MOST 1048576: true; the input reads as it did. -/
def spanWaysUptoRow : OpenClaim := { program := "ytnplopiconabiaa", sum := "378d9ea19f6f38d30c1a30f4906b8602fe2e9847eae0446b85f929a5ce0bc054", func := "rhizome/rhizomelaw13.SpanWays", spec := "spanWays", unfollowed := true, recurses := true, apart := false, narrowed := true }
def SpanWaysUptoSaid : Prop := spanWaysUptoRow.holds Try.pinned (OpenSpec.upto spanWaysSpec)

/-- 'rhizomelaw13.SpanRings', WHERE WHAT IT READS IS OF BULK AT MOST 1048576: true; the input reads as it did. -/
def spanRingsUptoRow : OpenClaim := { program := "ytnplopiconabiaa", sum := "378d9ea19f6f38d30c1a30f4906b8602fe2e9847eae0446b85f929a5ce0bc054", func := "rhizome/rhizomelaw13.SpanRings", spec := "spanRings", unfollowed := true, recurses := true, apart := false, narrowed := true }
def SpanRingsUptoSaid : Prop := spanRingsUptoRow.holds Try.pinned (OpenSpec.upto spanRingsSpec)

/-- 'rhizomelaw13.SpanWalks', WHERE WHAT IT READS IS OF BULK AT MOST 1048576: true; the input reads as it did. -/
def spanWalksUptoRow : OpenClaim := { program := "ytnplopiconabiaa", sum := "378d9ea19f6f38d30c1a30f4906b8602fe2e9847eae0446b85f929a5ce0bc054", func := "rhizome/rhizomelaw13.SpanWalks", spec := "spanWalks", unfollowed := true, recurses := true, apart := false, narrowed := true }
def SpanWalksUptoSaid : Prop := spanWalksUptoRow.holds Try.pinned (OpenSpec.upto spanWalksSpec)

/-- 'rhizomelaw13.SpanMore', WHERE WHAT IT READS IS OF BULK AT MOST 1048576: true; the input reads as it did. -/
def spanMoreUptoRow : OpenClaim := { program := "ytnplopiconabiaa", sum := "378d9ea19f6f38d30c1a30f4906b8602fe2e9847eae0446b85f929a5ce0bc054", func := "rhizome/rhizomelaw13.SpanMore", spec := "spanMore", unfollowed := true, recurses := true, apart := false, narrowed := true }
def SpanMoreUptoSaid : Prop := spanMoreUptoRow.holds Try.pinned (OpenSpec.upto spanMoreSpec)

/-- 'rhizomelaw13.SpanGreat', WHERE WHAT IT READS IS OF BULK AT MOST 1048576: true; the input reads as it did. -/
def spanGreatUptoRow : OpenClaim := { program := "ytnplopiconabiaa", sum := "378d9ea19f6f38d30c1a30f4906b8602fe2e9847eae0446b85f929a5ce0bc054", func := "rhizome/rhizomelaw13.SpanGreat", spec := "spanGreat", unfollowed := true, recurses := true, apart := false, narrowed := true }
def SpanGreatUptoSaid : Prop := spanGreatUptoRow.holds Try.pinned (OpenSpec.upto spanGreatSpec)

/-- 'rhizomelaw14.DredBack', WHERE WHAT IT READS IS OF BULK AT MOST 1048576: true; the input reads as it did. -/
def dredBackUptoRow : OpenClaim := { program := "ytnplopiconabiaa", sum := "378d9ea19f6f38d30c1a30f4906b8602fe2e9847eae0446b85f929a5ce0bc054", func := "rhizome/rhizomelaw14.DredBack", spec := "dredBack", unfollowed := true, recurses := true, apart := false, narrowed := true }
def DredBackUptoSaid : Prop := dredBackUptoRow.holds Try.pinned (OpenSpec.upto dredBackSpec)

/-- 'rhizomelaw14.DredGreat', WHERE WHAT IT READS IS OF BULK AT MOST 1048576: true; the input reads as it did. -/
def dredGreatUptoRow : OpenClaim := { program := "ytnplopiconabiaa", sum := "378d9ea19f6f38d30c1a30f4906b8602fe2e9847eae0446b85f929a5ce0bc054", func := "rhizome/rhizomelaw14.DredGreat", spec := "dredGreat", unfollowed := true, recurses := true, apart := false, narrowed := true }
def DredGreatUptoSaid : Prop := dredGreatUptoRow.holds Try.pinned (OpenSpec.upto dredGreatSpec)

/-- 'rhizomelaw14.DredOthers', WHERE WHAT IT READS IS OF BULK AT MOST 1048576: true; the input reads as it did. -/
def dredOthersUptoRow : OpenClaim := { program := "ytnplopiconabiaa", sum := "378d9ea19f6f38d30c1a30f4906b8602fe2e9847eae0446b85f929a5ce0bc054", func := "rhizome/rhizomelaw14.DredOthers", spec := "dredOthers", unfollowed := true, recurses := true, apart := false, narrowed := true }
def DredOthersUptoSaid : Prop := dredOthersUptoRow.holds Try.pinned (OpenSpec.upto dredOthersSpec)

/-- 'rhizomelaw14.DredRing', WHERE WHAT IT READS IS OF BULK AT MOST 1048576: true; the input reads as it did. -/
def dredRingUptoRow : OpenClaim := { program := "ytnplopiconabiaa", sum := "378d9ea19f6f38d30c1a30f4906b8602fe2e9847eae0446b85f929a5ce0bc054", func := "rhizome/rhizomelaw14.DredRing", spec := "dredRing", unfollowed := true, recurses := true, apart := false, narrowed := true }
def DredRingUptoSaid : Prop := dredRingUptoRow.holds Try.pinned (OpenSpec.upto dredRingSpec)

/-- 'rhizomelaw14.DredDeltas', WHERE WHAT IT READS IS OF BULK AT MOST 1048576: true; the input reads as it did. -/
def dredDeltasUptoRow : OpenClaim := { program := "ytnplopiconabiaa", sum := "378d9ea19f6f38d30c1a30f4906b8602fe2e9847eae0446b85f929a5ce0bc054", func := "rhizome/rhizomelaw14.DredDeltas", spec := "dredDeltas", unfollowed := true, recurses := true, apart := false, narrowed := true }
def DredDeltasUptoSaid : Prop := dredDeltasUptoRow.holds Try.pinned (OpenSpec.upto dredDeltasSpec)

end Rows
end Go.Proofs.Ytnplopiconabiaa
