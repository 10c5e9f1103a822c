/- What is to be shown of functions' texts, printed by a program of this session's repo; that it gives the functions' contracts is checked by the kernel. -/
import Derived.Test.YtnplopiconabiaaProg
import Derived.Test.YtnplopiconabiaaPf
namespace Go.Proofs.Ytnplopiconabiaa.VC
open Go Go.V
set_option maxRecDepth 1000000
set_option linter.unusedVariables false

/-! ### slices.ContainsFunc[[][]rhizome/api.Tuple,[]rhizome/api.Tuple]: function 87 -/
def slices_ContainsFunc_g87.vc (sA : Option Addr) (sL sC : Nat) (f : Nat) (fcap : Array Value) (R : Ending → World → Prop) (w : World) :
  Prop := Calls Proofs.Try.prog (99 : Nat) { toList := [Value.slice sA sL sC, Value.func (Fn.func f) { toList := [] } fcap] } w fun (e1 :
  Ending) (w2 : World) => ∃ (n3 : Int), e1 = Ending.returned (Value.int IntKind.i64 n3) ∧ R (Ending.returned (Value.bool (decide ((0 : Int)
  ≤ n3)))) w2

theorem slices_ContainsFunc_g87.link {sA : Option Addr} {sL sC : Nat} {f : Nat} {fcap : Array Value} {R : Ending → World → Prop} {w : World} (h : slices_ContainsFunc_g87.vc sA sL sC f fcap R w) : Calls Go.Proofs.Try.prog 87 #[.slice sA sL sC, .func (.func f) #[] fcap] w R :=
  calls_of pf (fn := Go.Proofs.Try.f87) (ann := .s (.n) (.s (.n) (.n))) (mp := false) (args := [.v (.slice sA sL sC), .v (.func (.func f) #[] fcap)]) Go.Proofs.Try.func87 (c := Go.Proofs.Try.f87.body.getD .skip) (by kernel_rfl) (by kernel_rfl) (Eq.mp (by kernel_rfl) h)
theorem slices_ContainsFunc_g87.body : BodyOk Go.Proofs.Try.prog 87 := ⟨Go.Proofs.Try.f87, Go.Proofs.Try.func87, by kernel_rfl, pf.ng _ _ Go.Proofs.Try.func87⟩

/-! ### slices.IndexFunc[[][]rhizome/api.Tuple,[]rhizome/api.Tuple]: function 99 -/
def slices_IndexFunc_g99.vc (sA : Option Addr) (sL sC : Nat) (f : Nat) (fcap : Array Value) (R : Ending → World → Prop) (w : World) : Prop
  := ∃ (y1 : Nat → Int → World → Prop), ∃ (k2 : Nat), y1 k2 (0 : Int) w ∧ ∀ (k3 : Nat) (n4 : Int) (w5 : World), y1 k3 n4 w5 → bcase (decide
  (n4 < (sL : Int))) (∃ (ad7 : Addr), sA = some ad7 ∧ ((0 : Int) ≤ n4 ∧ n4 < (sL : Int)) ∧ ∃ (p8 : Option Addr), ∃ (k9 : Nat), ∃ (k10 :
  Nat), World.cell? w5 (Addr.add ad7 (Int.toNat n4 * 1)) = some (Value.slice p8 k9 k10) ∧ BodyOk Proofs.Try.prog f ∧ Calls Proofs.Try.prog f
  { toList := Value.slice p8 k9 k10 :: List.append [] (Array.toList fcap) } w5 fun (e11 : Ending) (w12 : World) => ∃ (b13 : Bool), e11 =
  Ending.returned (Value.bool b13) ∧ bcase b13 (R (Ending.returned (Value.int IntKind.i64 n4)) w12) (∃ (k14 : Nat), k14 < k3 ∧ y1 k14
  (IntKind.wrap IntKind.i64 (n4 + (1 : Int))) w12)) (R (Ending.returned (Value.int IntKind.i64 (-1 : Int))) w5)

theorem slices_IndexFunc_g99.link {sA : Option Addr} {sL sC : Nat} {f : Nat} {fcap : Array Value} {R : Ending → World → Prop} {w : World} (h : slices_IndexFunc_g99.vc sA sL sC f fcap R w) : Calls Go.Proofs.Try.prog 99 #[.slice sA sL sC, .func (.func f) #[] fcap] w R :=
  calls_of pf (fn := Go.Proofs.Try.f99) (ann := .s (.n) (.s (.s (.n) (.b (.l ⟨[], [], [], [(8, .l (.i .i64))], []⟩ (.s (.n) (.s (.c (.n) (.n)) (.s (.b (.s (.n) (.s (.n) (.c (.s (.n) (.n)) (.n))))) (.n))))))) (.s (.n) (.n)))) (mp := false) (args := [.v (.slice sA sL sC), .v (.func (.func f) #[] fcap)]) Go.Proofs.Try.func99 (c := Go.Proofs.Try.f99.body.getD .skip) (by kernel_rfl) (by kernel_rfl) (Eq.mp (by kernel_rfl) h)
theorem slices_IndexFunc_g99.body : BodyOk Go.Proofs.Try.prog 99 := ⟨Go.Proofs.Try.f99, Go.Proofs.Try.func99, by kernel_rfl, pf.ng _ _ Go.Proofs.Try.func99⟩

/-! ### slices.Concat[[]rhizome/api.Tuple,rhizome/api.Tuple]: function 90 -/
def slices_Concat_g90.vc (slicesA : Option Addr) (slicesL slicesC : Nat) (R : Ending → World → Prop) (w : World) : Prop := ∃ (y1 : Nat → Int
  → Int → World → Prop), ∃ (k2 : Nat), y1 k2 (0 : Int) (0 : Int) w ∧ ∀ (k3 : Nat) (n4 n5 : Int) (w6 : World), y1 k3 n4 n5 w6 → bcase (decide
  (n5 < (slicesL : Int))) (∀ (y8 : Int → World → Prop), (∀ (n9 : Int) (w10 : World), (∃ (k11 : Nat), k11 < k3 ∧ y1 k11 n9 (IntKind.wrap
  IntKind.i64 (n5 + (1 : Int))) w10) → y8 n9 w10) → ∃ (ad14 : Addr), slicesA = some ad14 ∧ ((0 : Int) ≤ n5 ∧ n5 < (slicesL : Int)) ∧ ∃ (p15
  : Option Addr), ∃ (k16 : Nat), ∃ (k17 : Nat), World.cell? w6 (Addr.add ad14 (Int.toNat n5 * 1)) = some (Value.slice p15 k16 k17) ∧ bcase
  (decide (IntKind.wrap IntKind.i64 (n4 + (k16 : Int)) < (0 : Int))) False (y8 (IntKind.wrap IntKind.i64 (n4 + (k16 : Int))) w6)) (Calls
  Proofs.Try.prog (100 : Nat) { toList := [Value.slice none 0 0, Value.int IntKind.i64 n4] } w6 fun (e18 : Ending) (w19 : World) => ∃ (p20 :
  Option Addr), ∃ (k21 : Nat), ∃ (k22 : Nat), e18 = Ending.returned (Value.slice p20 k21 k22) ∧ ∃ (y23 : Nat → Option Addr → Nat → Nat → Int
  → World → Prop), ∃ (k24 : Nat), y23 k24 p20 k21 k22 (0 : Int) w19 ∧ ∀ (k25 : Nat) (p26 : Option Addr) (k27 k28 : Nat) (n29 : Int) (w30 :
  World), y23 k25 p26 k27 k28 n29 w30 → bcase (decide (n29 < (slicesL : Int))) (∃ (ad32 : Addr), slicesA = some ad32 ∧ ((0 : Int) ≤ n29 ∧
  n29 < (slicesL : Int)) ∧ ∃ (p33 : Option Addr), ∃ (k34 : Nat), ∃ (k35 : Nat), World.cell? w30 (Addr.add ad32 (Int.toNat n29 * 1)) = some
  (Value.slice p33 k34 k35) ∧ ∃ (l36 : List Value), List.length l36 = k34 * 1 ∧ Row w30 p33 l36 ∧ appendP true [] [] [] w30 p26 k27 k28 k34
  l36 1 24 [Value.slice none 0 0] fun (w37 : World) (p38 : Option Addr) (k39 k40 : Nat) => ∃ (k41 : Nat), k41 < k25 ∧ y23 k41 p38 k39 k40
  (IntKind.wrap IntKind.i64 (n29 + (1 : Int))) w37) (R (Ending.returned (Value.slice p26 k27 k28)) w30))

theorem slices_Concat_g90.link {slicesA : Option Addr} {slicesL slicesC : Nat} {R : Ending → World → Prop} {w : World} (h : slices_Concat_g90.vc slicesA slicesL slicesC R w) : Calls Go.Proofs.Try.prog 90 #[.slice slicesA slicesL slicesC] w R :=
  calls_of pf (fn := Go.Proofs.Try.f90) (ann := .s (.n) (.s (.n) (.s (.s (.n) (.b (.l ⟨[], [], [], [(3, .l (.i .i64)), (11, .l (.i .i64))], []⟩ (.s (.n) (.s (.c (.n) (.n)) (.j ⟨[], [], [], [(3, .l (.i .i64))], []⟩ (.b (.s (.n) (.s (.n) (.s (.n) (.c (.n) (.n)))))) (.n))))))) (.s (.n) (.s (.s (.n) (.b (.l ⟨[], [], [], [(6, .l (.sl)), (27, .l (.i .i64))], []⟩ (.s (.n) (.s (.c (.n) (.n)) (.s (.b (.s (.n) (.n))) (.n))))))) (.s (.n) (.n))))))) (mp := false) (args := [.v (.slice slicesA slicesL slicesC)]) Go.Proofs.Try.func90 (c := Go.Proofs.Try.f90.body.getD .skip) (by kernel_rfl) (by kernel_rfl) (Eq.mp (by kernel_rfl) h)
theorem slices_Concat_g90.body : BodyOk Go.Proofs.Try.prog 90 := ⟨Go.Proofs.Try.f90, Go.Proofs.Try.func90, by kernel_rfl, pf.ng _ _ Go.Proofs.Try.func90⟩

/-! ### slices.Grow[[]rhizome/api.Tuple,rhizome/api.Tuple]: function 100 -/
def slices_Grow_g100.vc (sA : Option Addr) (sL sC : Nat) (n : Int) (R : Ending → World → Prop) (w : World) : Prop := ∀ (y1 : World → Prop),
  (∀ (w2 : World), (∀ (y3 : Option Addr → Nat → Nat → World → Prop), (∀ (p4 : Option Addr) (k5 k6 : Nat) (w7 : World), R (Ending.returned
  (Value.slice p4 k5 k6)) w7 → y3 p4 k5 k6 w7) → bcase (decide ((0 : Int) < IntKind.wrap IntKind.i64 (n - IntKind.wrap IntKind.i64 ((sC :
  Int) - (sL : Int))))) (((0 : Int) ≤ (0 : Int) ∧ (0 : Int) ≤ (sC : Int) ∧ (sC : Int) ≤ (sC : Int)) ∧ ((0 : Int) ≤ IntKind.wrap IntKind.i64
  (n - IntKind.wrap IntKind.i64 ((sC : Int) - (sL : Int))) ∧ IntKind.wrap IntKind.i64 (n - IntKind.wrap IntKind.i64 ((sC : Int) - (sL :
  Int))) * ((24 : Nat) : Int) ≤ (281474976710656 : Int) ∧ IntKind.wrap IntKind.i64 (n - IntKind.wrap IntKind.i64 ((sC : Int) - (sL : Int)))
  ≤ (9223372036854775807 : Int)) ∧ appendP true [] [] [] w2 (subA sA 0 sC 1) (Int.toNat (sC : Int) - 0) (sC - 0) (Int.toNat (IntKind.wrap
  IntKind.i64 (n - IntKind.wrap IntKind.i64 ((sC : Int) - (sL : Int))))) (reps [Value.slice none 0 0] (Int.toNat (IntKind.wrap IntKind.i64
  (n - IntKind.wrap IntKind.i64 ((sC : Int) - (sL : Int)))))) 1 24 [Value.slice none 0 0] fun (w10 : World) (p11 : Option Addr) (k12 k13 :
  Nat) => ((0 : Int) ≤ (0 : Int) ∧ (0 : Int) ≤ (sL : Int) ∧ (sL : Int) ≤ (k13 : Int)) ∧ y3 (subA p11 0 k13 1) (Int.toNat (sL : Int) - 0)
  (k13 - 0) w10) (y3 sA sL sC w2)) → y1 w2) → bcase (decide (n < (0 : Int))) False (y1 w)

theorem slices_Grow_g100.link {sA : Option Addr} {sL sC : Nat} {n : Int} {R : Ending → World → Prop} {w : World} (h : slices_Grow_g100.vc sA sL sC n R w) : Calls Go.Proofs.Try.prog 100 #[.slice sA sL sC, .int .i64 n] w R :=
  calls_of pf (fn := Go.Proofs.Try.f100) (ann := .s (.n) (.j ⟨[], [], [], [], []⟩ (.s (.n) (.c (.n) (.n))) (.j ⟨[], [], [], [(0, .l (.sl))], []⟩ (.s (.n) (.s (.n) (.c (.n) (.n)))) (.s (.n) (.n))))) (mp := false) (args := [.v (.slice sA sL sC), .v (.int .i64 n)]) Go.Proofs.Try.func100 (c := Go.Proofs.Try.f100.body.getD .skip) (by kernel_rfl) (by kernel_rfl) (Eq.mp (by kernel_rfl) h)
theorem slices_Grow_g100.body : BodyOk Go.Proofs.Try.prog 100 := ⟨Go.Proofs.Try.f100, Go.Proofs.Try.func100, by kernel_rfl, pf.ng _ _ Go.Proofs.Try.func100⟩

end Go.Proofs.Ytnplopiconabiaa.VC
