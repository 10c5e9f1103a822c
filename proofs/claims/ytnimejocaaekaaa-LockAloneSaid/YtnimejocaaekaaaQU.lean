/- LockUp: the model, reckoned with. -/
import Derived.Test.YtnimejocaaekaaaQA
namespace Go.Proofs.Ytnimejocaaekaaa.Lock
open Go Go.V
set_option linter.unusedVariables false
set_option linter.unusedSimpArgs false
set_option maxRecDepth 100000

def relIB (M : Int → IM) (s i : Int) : IM × List Int := if (((M i).H s).isSome || (M i).Q.any fun a => decide (a.1 = s)) = true then relB s (M i) else (M i, [])
/-- The one item's state, in plain rows. -/
abbrev UD := List (Option Bool) × List AskM
def dH (d : UD) : Holders := fun s => if 1 ≤ s ∧ s ≤ 16 then (d.1.getD (s - 1).toNat none) else none
def dIM (d : UD) : IM := ⟨dH d, d.2⟩
/-- The same item, its holders written out. -/
def norm (I : IM) : UD := ((List.range 16).map fun (n : Nat) => I.H ((n : Int) + 1), I.Q)
def askD (d : UD) (s : Int) (al : Bool) : UD × Int :=
  let I := dIM d
  if (d.2.any fun a => decide (a.1 = s)) = true then (d, 171) else
  if ((I.H s).isSome && ((I.H s).getD false || !al)) = true then (d, 0) else
  if (fitsB I.H (s, al) && ((I.H s).isSome || I.Q.isEmpty)) = true then (norm ⟨hold I.H (s, al), I.Q⟩, 0) else (norm ⟨I.H, putQ I.H I.Q (s, al)⟩, 160)
def relD (d : UD) (s : Int) : UD × List Int :=
  let r := if (((dIM d).H s).isSome || (dIM d).Q.any fun a => decide (a.1 = s)) = true then relB s (dIM d) else (dIM d, [])
  (norm r.1, r.2)
def d0 : UD := norm IM.none
def d1 : Nat → UD
  | 0 => d0
  | s + 1 => (askD (d1 s) ((s : Int) + 1) false).1
def d2 (n : Nat) : Nat → UD
  | 0 => d1 n
  | j + 1 => (askD (d2 n j) ((n + j : Nat) + 1 : Int) true).1
def d3 (n m : Nat) : UD := (askD (d2 n m) 1 true).1
def d4 (n m : Nat) : Nat → UD
  | 0 => d3 n m
  | j + 1 => (relD (d4 n m j) ((j : Int) + 2)).1
def lastU (n : Nat) : Nat → Int
  | 0 => 1
  | j + 1 => ((n + j : Nat) : Int) + 1
def d6 (n m : Nat) : Nat → UD
  | 0 => d4 n m (n - 1)
  | j + 1 => (relD (d6 n m j) (lastU n j)).1
def chk (n m : Nat) : Bool :=
  (List.range n).all (fun j => decide ((askD (d1 j) ((j : Int) + 1) false).2 = 0)) &&
  (List.range m).all (fun j => decide ((askD (d2 n j) ((n + j : Nat) + 1 : Int) true).2 = 160)) &&
  decide ((askD (d2 n m) 1 true).2 = if n = 1 then 0 else 160) &&
  (List.range (n - 1)).all (fun j => decide ((relD (d4 n m j) ((j : Int) + 2)).2 = if j + 2 = n then [1] else [])) &&
  decide ((dIM (d4 n m (n - 1))).H 1 = some true) &&
  (List.range m).all (fun j => decide ((relD (d6 n m j) (lastU n j)).2 = [((n + j : Nat) : Int) + 1])) &&
  decide ((relD (d6 n m m) (lastU n m)).2 = []) && (relD (d6 n m m) (lastU n m)).1.2.isEmpty
theorem chk_all : ((List.range 6).all fun a => (List.range 6).all fun m => chk (a + 1) m) = true := by kernel_rfl
end Go.Proofs.Ytnimejocaaekaaa.Lock
