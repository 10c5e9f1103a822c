/- What is to be shown of functions' texts, printed by a program of this session's repo; that it gives the functions' contracts is checked by the kernel. -/
import Derived.Test.YtnimejocaaekaaaProg
import Derived.Test.YtnimejocaaekaaaPf
namespace Go.Proofs.Ytnimejocaaekaaa.VC
open Go Go.V
set_option maxRecDepth 1000000
set_option linter.unusedVariables false

/-! ### rhizome/rhizomeref01.Ints: function 18 -/
def rhizomeref01_Ints.vc (aA : Option Addr) (aL aC : Nat) (bA : Option Addr) (bL bC : Nat) (R : Ending → World → Prop) (w : World) : Prop :=
  bcase (!decide ((aL : Int) = (bL : Int))) (R (Ending.returned (Value.bool false)) w) (∃ (y1 : Nat → Int → World → Prop), ∃ (k2 : Nat), y1
  k2 (0 : Int) w ∧ ∀ (k3 : Nat) (n4 : Int) (w5 : World), y1 k3 n4 w5 → bcase (decide (n4 < (aL : Int))) (∃ (ad7 : Addr), aA = some ad7 ∧ ((0
  : Int) ≤ n4 ∧ n4 < (aL : Int)) ∧ ∃ (n8 : Int), World.cell? w5 (Addr.add ad7 (Int.toNat n4 * 1)) = some (Value.int IntKind.i64 n8) ∧ ∃ (ad9
  : Addr), bA = some ad9 ∧ ((0 : Int) ≤ n4 ∧ n4 < (bL : Int)) ∧ ∃ (n10 : Int), World.cell? w5 (Addr.add ad9 (Int.toNat n4 * 1)) = some
  (Value.int IntKind.i64 n10) ∧ bcase (!decide (n8 = n10)) (∀ (w11 : World), Step w5 w11 [] [] → R (Ending.returned (Value.bool false)) w11)
  (∃ (k13 : Nat), k13 < k3 ∧ ∀ (w14 : World), Step w5 w14 [] [] → y1 k13 (IntKind.wrap IntKind.i64 (n4 + (1 : Int))) w14)) (R
  (Ending.returned (Value.bool true)) w5))

theorem rhizomeref01_Ints.link {aA : Option Addr} {aL aC : Nat} {bA : Option Addr} {bL bC : Nat} {R : Ending → World → Prop} {w : World} (h : rhizomeref01_Ints.vc aA aL aC bA bL bC R w) : Calls Go.Proofs.Try.prog 18 #[.slice aA aL aC, .slice bA bL bC] w R :=
  calls_of pf (fn := Go.Proofs.Try.f18) (ann := .s (.n) (.s (.s (.n) (.c (.s (.n) (.n)) (.n))) (.s (.s (.n) (.b (.l ⟨[], [], [], [(13, .l (.i .i64))], []⟩ (.s (.n) (.s (.c (.n) (.n)) (.s (.b (.s (.n) (.s (.n) (.c (.s (.n) (.n)) (.n))))) (.n))))))) (.s (.n) (.n))))) (mp := false) (args := [.v (.slice aA aL aC), .v (.slice bA bL bC)]) Go.Proofs.Try.func18 (c := Go.Proofs.Try.f18.body.getD .skip) (by kernel_rfl) (by kernel_rfl) (Eq.mp (by kernel_rfl) h)
theorem rhizomeref01_Ints.body : BodyOk Go.Proofs.Try.prog 18 := ⟨Go.Proofs.Try.f18, Go.Proofs.Try.func18, by kernel_rfl, pf.ng _ _ Go.Proofs.Try.func18⟩

end Go.Proofs.Ytnimejocaaekaaa.VC
