/- What is to be shown of functions' texts, printed by a program of this session's repo; that it gives the functions' contracts is checked by the kernel. -/
import Derived.Test.YtnplopiconabiaaProg
import Derived.Test.YtnplopiconabiaaPf
namespace Go.Proofs.Ytnplopiconabiaa.VC
open Go Go.V
set_option maxRecDepth 1000000
set_option linter.unusedVariables false

/-! ### slices.Reverse[[]int,int]: function 47 -/
def slices_Reverse_g47.vc (sA : Option Addr) (sL sC : Nat) (R : Ending → World → Prop) (w : World) : Prop := ∃ (y1 : Nat → Int → Int → World
  → Prop), ∃ (k2 : Nat), y1 k2 (0 : Int) (IntKind.wrap IntKind.i64 ((sL : Int) - (1 : Int))) w ∧ ∀ (k3 : Nat) (n4 n5 : Int) (w6 : World), y1
  k3 n4 n5 w6 → bcase (decide (n4 < n5)) (∃ (ad8 : Addr), sA = some ad8 ∧ ((0 : Int) ≤ n5 ∧ n5 < (sL : Int)) ∧ ∃ (n9 : Int), World.cell? w6
  (Addr.add ad8 (Int.toNat n5 * 1)) = some (Value.int IntKind.i64 n9) ∧ ∃ (ad10 : Addr), sA = some ad10 ∧ ((0 : Int) ≤ n4 ∧ n4 < (sL : Int))
  ∧ ∃ (n11 : Int), World.cell? w6 (Addr.add ad10 (Int.toNat n4 * 1)) = some (Value.int IntKind.i64 n11) ∧ ∃ (ad12 : Addr), sA = some ad12 ∧
  ((0 : Int) ≤ n4 ∧ n4 < (sL : Int)) ∧ ∀ (w13 : World), Step w6 w13 [] [] → ∃ (l15 : List Value), Blk w13 (Addr.block (Addr.add ad12
  (Int.toNat n4 * 1))) l15 ∧ Addr.spot (Addr.add ad12 (Int.toNat n4 * 1)) = none ∧ Addr.off (Addr.add ad12 (Int.toNat n4 * 1)) + List.length
  [Value.int IntKind.i64 n9] ≤ List.length l15 ∧ ∀ (w16 : World), Upd w13 w16 (Addr.block (Addr.add ad12 (Int.toNat n4 * 1))) (sets l15
  (Addr.off (Addr.add ad12 (Int.toNat n4 * 1))) [Value.int IntKind.i64 n9]) → ∃ (ad18 : Addr), sA = some ad18 ∧ ((0 : Int) ≤ n5 ∧ n5 < (sL :
  Int)) ∧ ∃ (l19 : List Value), Blk w16 (Addr.block (Addr.add ad18 (Int.toNat n5 * 1))) l19 ∧ Addr.spot (Addr.add ad18 (Int.toNat n5 * 1)) =
  none ∧ Addr.off (Addr.add ad18 (Int.toNat n5 * 1)) + List.length [Value.int IntKind.i64 n11] ≤ List.length l19 ∧ ∀ (w20 : World), Upd w16
  w20 (Addr.block (Addr.add ad18 (Int.toNat n5 * 1))) (sets l19 (Addr.off (Addr.add ad18 (Int.toNat n5 * 1))) [Value.int IntKind.i64 n11]) →
  ∃ (k22 : Nat), k22 < k3 ∧ y1 k22 (IntKind.wrap IntKind.i64 (n4 + (1 : Int))) (IntKind.wrap IntKind.i64 (n5 - (1 : Int))) w20) (R
  (Ending.returned (Value.tuple { toList := [] })) w6)

theorem slices_Reverse_g47.link {sA : Option Addr} {sL sC : Nat} {R : Ending → World → Prop} {w : World} (h : slices_Reverse_g47.vc sA sL sC R w) : Calls Go.Proofs.Try.prog 47 #[.slice sA sL sC] w R :=
  calls_of pf (fn := Go.Proofs.Try.f47) (ann := .s (.n) (.b (.l ⟨[], [], [], [(2, .l (.i .i64)), (3, .l (.i .i64))], []⟩ (.s (.s (.n) (.c (.n) (.n))) (.s (.b (.n)) (.n)))))) (mp := false) (args := [.v (.slice sA sL sC)]) Go.Proofs.Try.func47 (c := Go.Proofs.Try.f47.body.getD .skip) (by kernel_rfl) (by kernel_rfl) (Eq.mp (by kernel_rfl) h)
theorem slices_Reverse_g47.body : BodyOk Go.Proofs.Try.prog 47 := ⟨Go.Proofs.Try.f47, Go.Proofs.Try.func47, by kernel_rfl, pf.ng _ _ Go.Proofs.Try.func47⟩

end Go.Proofs.Ytnplopiconabiaa.VC
