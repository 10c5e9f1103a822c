/- What is to be shown of functions' texts, printed by a program of this session's repo; that it gives the functions' contracts is checked by the kernel. -/
import Derived.Test.YtalegpdnhkopmaaDoorProg
import Derived.Test.YtalegpdnhkopmaaDoorPf
namespace Go.Proofs.YtalegpdnhkopmaaDoor.VC
open Go Go.V
set_option maxRecDepth 1000000
set_option linter.unusedVariables false

/-! ### slices.Grow[[]byte,byte]: function 152 -/
def slices_Grow_g_byte.vc (sA : Option Addr) (sL sC : Nat) (n : Int) (R : Ending → World → Prop) (w : World) : Prop := ∀ (y1 : World →
  Prop), (∀ (w2 : World), (∀ (y3 : Option Addr → Nat → Nat → World → Prop), (∀ (p4 : Option Addr) (k5 k6 : Nat) (w7 : World), R
  (Ending.returned (Value.slice p4 k5 k6)) w7 → y3 p4 k5 k6 w7) → bcase (decide ((0 : Int) < IntKind.wrap IntKind.i64 (n - IntKind.wrap
  IntKind.i64 ((sC : Int) - (sL : Int))))) (((0 : Int) ≤ (0 : Int) ∧ (0 : Int) ≤ (sC : Int) ∧ (sC : Int) ≤ (sC : Int)) ∧ ((0 : Int) ≤
  IntKind.wrap IntKind.i64 (n - IntKind.wrap IntKind.i64 ((sC : Int) - (sL : Int))) ∧ IntKind.wrap IntKind.i64 (n - IntKind.wrap IntKind.i64
  ((sC : Int) - (sL : Int))) * ((1 : Nat) : Int) ≤ (281474976710656 : Int) ∧ IntKind.wrap IntKind.i64 (n - IntKind.wrap IntKind.i64 ((sC :
  Int) - (sL : Int))) ≤ (9223372036854775807 : Int)) ∧ appendP true [] [] [] w2 (subA sA 0 sC 1) (Int.toNat (sC : Int) - 0) (sC - 0)
  (Int.toNat (IntKind.wrap IntKind.i64 (n - IntKind.wrap IntKind.i64 ((sC : Int) - (sL : Int))))) (reps [Value.int IntKind.u8 (0 : Int)]
  (Int.toNat (IntKind.wrap IntKind.i64 (n - IntKind.wrap IntKind.i64 ((sC : Int) - (sL : Int)))))) 1 1 [Value.int IntKind.u8 (0 : Int)] fun
  (w10 : World) (p11 : Option Addr) (k12 k13 : Nat) => ((0 : Int) ≤ (0 : Int) ∧ (0 : Int) ≤ (sL : Int) ∧ (sL : Int) ≤ (k13 : Int)) ∧ y3
  (subA p11 0 k13 1) (Int.toNat (sL : Int) - 0) (k13 - 0) w10) (y3 sA sL sC w2)) → y1 w2) → bcase (decide (n < (0 : Int))) False (y1 w)

theorem slices_Grow_g_byte.link {sA : Option Addr} {sL sC : Nat} {n : Int} {R : Ending → World → Prop} {w : World} (h : slices_Grow_g_byte.vc sA sL sC n R w) : Calls Go.Proofs.Tryd.prog 152 #[.slice sA sL sC, .int .i64 n] w R :=
  calls_of pf (fn := Go.Proofs.Tryd.f152) (ann := .s (.n) (.j ⟨[], [], [], [], []⟩ (.s (.n) (.c (.n) (.n))) (.j ⟨[], [], [], [(0, .l (.sl))], []⟩ (.s (.n) (.s (.n) (.c (.n) (.n)))) (.s (.n) (.n))))) (mp := false) (args := [.v (.slice sA sL sC), .v (.int .i64 n)]) Go.Proofs.Tryd.func152 (c := Go.Proofs.Tryd.f152.body.getD .skip) (by kernel_rfl) (by kernel_rfl) (Eq.mp (by kernel_rfl) h)
theorem slices_Grow_g_byte.body : BodyOk Go.Proofs.Tryd.prog 152 := ⟨Go.Proofs.Tryd.f152, Go.Proofs.Tryd.func152, by kernel_rfl, pf.ng _ _ Go.Proofs.Tryd.func152⟩

end Go.Proofs.YtalegpdnhkopmaaDoor.VC
