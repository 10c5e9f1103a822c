/- What is to be shown of functions' texts, printed by a program of this session's repo; that it gives the functions' contracts is checked by the kernel. -/
import Derived.Test.YtnimejocaaekaaaProg
import Derived.Test.YtnimejocaaekaaaPf
namespace Go.Proofs.Ytnimejocaaekaaa.VC
open Go Go.V
set_option maxRecDepth 1000000
set_option linter.unusedVariables false

/-! ### rhizome/rhizomelaw16.LockUp: function 8 -/
def rhizomelaw16_LockUp.vc (n : Int) (more : Int) (R : Ending → World → Prop) (w : World) : Prop := Calls Proofs.Try.prog (9 : Nat) { toList := [] }
  w fun (e1 : Ending) (w2 : World) => ∃ (p3 : Option Addr), e1 = Ending.returned (Value.pointer p3) ∧ ∀ (y4 : Bool → World → Prop), (∀ (b5 :
  Bool) (w6 : World), bcase b5 (R (Ending.returned (Value.bool false)) w6) ((6 : Int) ≠ (0 : Int) ∧ (6 : Int) ≠ (0 : Int) ∧ ∃ (y7 : Nat →
  Int → World → Prop), ∃ (k8 : Nat), y7 k8 (1 : Int) w6 ∧ ∀ (k9 : Nat) (n10 : Int) (w11 : World), y7 k9 n10 w11 → bcase (decide (n10 ≤
  IntKind.wrap IntKind.i64 (IntKind.wrap IntKind.i64 (Int.tmod (IntKind.wrap IntKind.u64 n) (6 : Int)) + (1 : Int)))) (Calls Proofs.Try.prog
  (12 : Nat) { toList := [Value.pointer p3, Value.int IntKind.i64 n10, Value.int IntKind.i64 (3 : Int), Value.bool false] } w11 fun (e13 :
  Ending) (w14 : World) => ∃ (n15 : Int), e13 = Ending.returned (Value.int IntKind.i64 n15) ∧ bcase (!decide (n15 = (0 : Int))) (R
  (Ending.returned (Value.bool false)) w14) (∃ (k16 : Nat), k16 < k9 ∧ y7 k16 (IntKind.wrap IntKind.i64 (n10 + (1 : Int))) w14)) (∃ (y17 :
  Nat → Int → World → Prop), ∃ (k18 : Nat), y17 k18 (IntKind.wrap IntKind.i64 (IntKind.wrap IntKind.i64 (IntKind.wrap IntKind.i64 (Int.tmod
  (IntKind.wrap IntKind.u64 n) (6 : Int)) + (1 : Int)) + (1 : Int))) w11 ∧ ∀ (k19 : Nat) (n20 : Int) (w21 : World), y17 k19 n20 w21 → bcase
  (decide (n20 ≤ IntKind.wrap IntKind.i64 (IntKind.wrap IntKind.i64 (IntKind.wrap IntKind.i64 (Int.tmod (IntKind.wrap IntKind.u64 n) (6 :
  Int)) + (1 : Int)) + IntKind.wrap IntKind.i64 (Int.tmod (IntKind.wrap IntKind.u64 more) (6 : Int))))) (Calls Proofs.Try.prog (12 : Nat) { toList := [Value.pointer p3, Value.int IntKind.i64 n20, Value.int IntKind.i64 (3 : Int), Value.bool true] }
  w21 fun (e23 : Ending) (w24 : World) => ∃ (n25 : Int), e23 = Ending.returned (Value.int IntKind.i64 n25) ∧ bcase (!decide (n25 = (160 :
  Int))) (R (Ending.returned (Value.bool false)) w24) (∃ (k26 : Nat), k26 < k19 ∧ y17 k26 (IntKind.wrap IntKind.i64 (n20 + (1 : Int))) w24))
  (Calls Proofs.Try.prog (12 : Nat) { toList := [Value.pointer p3, Value.int IntKind.i64 (1 : Int), Value.int IntKind.i64 (3 : Int), Value.bool true] }
  w21 fun (e27 : Ending) (w28 : World) => ∃ (n29 : Int), e27 = Ending.returned (Value.int IntKind.i64 n29) ∧ ∀ (y30 : World → Prop), (∀ (w31
  : World), (∃ (y32 : Nat → Int → World → Prop), ∃ (k33 : Nat), y32 k33 (2 : Int) w31 ∧ ∀ (k34 : Nat) (n35 : Int) (w36 : World), y32 k34 n35
  w36 → bcase (decide (n35 ≤ IntKind.wrap IntKind.i64 (IntKind.wrap IntKind.i64 (Int.tmod (IntKind.wrap IntKind.u64 n) (6 : Int)) + (1 :
  Int)))) (Calls Proofs.Try.prog (13 : Nat) { toList := [Value.pointer p3, Value.int IntKind.i64 n35] } w36 fun (e38 : Ending) (w39 : World)
  => ∃ (p40 : Option Addr), ∃ (k41 : Nat), ∃ (k42 : Nat), ∃ (n43 : Int), e38 = Ending.returned (Value.tuple { toList := [Value.slice p40 k41 k42, Value.int IntKind.i64 n43] })
  ∧ ∀ (y44 : Bool → World → Prop), (∀ (b45 : Bool) (w46 : World), bcase b45 (R (Ending.returned (Value.bool false)) w46) (∃ (k47 : Nat), k47
  < k34 ∧ y32 k47 (IntKind.wrap IntKind.i64 (n35 + (1 : Int))) w46) → y44 b45 w46) → bcase (!decide (n43 = (0 : Int))) (y44 true w39) (bcase
  (decide ((k41 : Int) = (1 : Int))) (∃ (ad50 : Addr), p40 = some ad50 ∧ ((0 : Int) ≤ (0 : Int) ∧ (0 : Int) < (k41 : Int)) ∧ ∃ (n51 : Int),
  World.cell? w39 (Addr.add ad50 0) = some (Value.int IntKind.i64 n51) ∧ bcase (!decide (n51 = (1 : Int)) == decide (n35 = IntKind.wrap
  IntKind.i64 (IntKind.wrap IntKind.i64 (Int.tmod (IntKind.wrap IntKind.u64 n) (6 : Int)) + (1 : Int)))) (y44 true w39) (y44 (decide ((1 :
  Int) < (k41 : Int))) w39)) (bcase (!false == decide (n35 = IntKind.wrap IntKind.i64 (IntKind.wrap IntKind.i64 (Int.tmod (IntKind.wrap
  IntKind.u64 n) (6 : Int)) + (1 : Int)))) (y44 true w39) (y44 (decide ((1 : Int) < (k41 : Int))) w39)))) (Calls Proofs.Try.prog (15 : Nat)
  { toList := [Value.pointer p3, Value.int IntKind.i64 (1 : Int), Value.int IntKind.i64 (3 : Int)] } w36 fun (e52 : Ending) (w53 : World) =>
  ∃ (b54 : Bool), ∃ (b55 : Bool), e52 = Ending.returned (Value.tuple { toList := [Value.bool b54, Value.bool b55] }) ∧ ∀ (y56 : Bool → World
  → Prop), (∀ (b57 : Bool) (w58 : World), bcase b57 (R (Ending.returned (Value.bool false)) w58) (∃ (y59 : Nat → Int → Int → World → Prop),
  ∃ (k60 : Nat), y59 k60 (1 : Int) (IntKind.wrap IntKind.i64 (IntKind.wrap IntKind.i64 (IntKind.wrap IntKind.i64 (Int.tmod (IntKind.wrap
  IntKind.u64 n) (6 : Int)) + (1 : Int)) + (1 : Int))) w58 ∧ ∀ (k61 : Nat) (n62 n63 : Int) (w64 : World), y59 k61 n62 n63 w64 → bcase
  (decide (n63 ≤ IntKind.wrap IntKind.i64 (IntKind.wrap IntKind.i64 (IntKind.wrap IntKind.i64 (Int.tmod (IntKind.wrap IntKind.u64 n) (6 :
  Int)) + (1 : Int)) + IntKind.wrap IntKind.i64 (Int.tmod (IntKind.wrap IntKind.u64 more) (6 : Int))))) (Calls Proofs.Try.prog (13 : Nat) { toList := [Value.pointer p3, Value.int IntKind.i64 n62] }
  w64 fun (e66 : Ending) (w67 : World) => ∃ (p68 : Option Addr), ∃ (k69 : Nat), ∃ (k70 : Nat), ∃ (n71 : Int), e66 = Ending.returned
  (Value.tuple { toList := [Value.slice p68 k69 k70, Value.int IntKind.i64 n71] }) ∧ ∀ (y72 : Bool → World → Prop), (∀ (b73 : Bool) (w74 :
  World), bcase b73 (R (Ending.returned (Value.bool false)) w74) (∃ (k75 : Nat), k75 < k61 ∧ y59 k75 n63 (IntKind.wrap IntKind.i64 (n63 + (1
  : Int))) w74) → y72 b73 w74) → bcase (!decide (n71 = (0 : Int))) (y72 true w67) (bcase (!decide ((k69 : Int) = (1 : Int))) (y72 true w67)
  (∃ (ad78 : Addr), p68 = some ad78 ∧ ((0 : Int) ≤ (0 : Int) ∧ (0 : Int) < (k69 : Int)) ∧ ∃ (n79 : Int), World.cell? w67 (Addr.add ad78 0) =
  some (Value.int IntKind.i64 n79) ∧ y72 (!decide (n79 = n63)) w67))) (Calls Proofs.Try.prog (13 : Nat) { toList := [Value.pointer p3, Value.int IntKind.i64 n62] }
  w64 fun (e80 : Ending) (w81 : World) => ∃ (p82 : Option Addr), ∃ (k83 : Nat), ∃ (k84 : Nat), ∃ (n85 : Int), e80 = Ending.returned
  (Value.tuple { toList := [Value.slice p82 k83 k84, Value.int IntKind.i64 n85] }) ∧ ∀ (y86 : Bool → World → Prop), (∀ (b87 : Bool) (w88 :
  World), R (Ending.returned (Value.bool b87)) w88 → y86 b87 w88) → bcase (decide (n85 = (0 : Int))) (bcase (decide ((k83 : Int) = (0 :
  Int))) (Calls Proofs.Try.prog (21 : Nat) { toList := [Value.pointer p3] } w81 fun (e91 : Ending) (w92 : World) => ∃ (p93 : Option Addr), ∃
  (k94 : Nat), ∃ (k95 : Nat), e91 = Ending.returned (Value.slice p93 k94 k95) ∧ y86 (decide ((k94 : Int) = (0 : Int))) w92) (y86 false w81))
  (y86 false w81))) → y56 b57 w58) → bcase (!b54) (y56 true w53) (y56 (!b55) w53))) → y30 w31) → bcase (decide (IntKind.wrap IntKind.i64
  (IntKind.wrap IntKind.i64 (Int.tmod (IntKind.wrap IntKind.u64 n) (6 : Int)) + (1 : Int)) = (1 : Int))) (bcase (!decide (n29 = (0 : Int)))
  (R (Ending.returned (Value.bool false)) w28) (y30 w28)) (bcase (!decide (n29 = (160 : Int))) (R (Ending.returned (Value.bool false)) w28)
  (y30 w28))))) → y4 b5 w6) → Calls Proofs.Try.prog (10 : Nat) { toList := [] } w2 fun (e102 : Ending) (w103 : World) => ∃ (b104 : Bool),
  e102 = Ending.returned (Value.bool b104) ∧ bcase (!b104) (y4 true w103) (y4 (Option.isNone p3) w103)

theorem rhizomelaw16_LockUp.link {n : Int} {more : Int} {R : Ending → World → Prop} {w : World} (h : rhizomelaw16_LockUp.vc n more R w) : Calls Go.Proofs.Try.prog 8 #[.int .i64 n, .int .i64 more] w R :=
  calls_of pf (fn := Go.Proofs.Try.f8) (ann := .s (.n) (.s (.n) (.s (.j ⟨[], [], [], [(25, .l (.b))], []⟩ (.n) (.c (.s (.n) (.n)) (.n))) (.s (.n) (.s (.s (.n) (.b (.l ⟨[], [], [], [(6, .l (.i .i64))], []⟩ (.s (.s (.n) (.c (.n) (.n))) (.s (.b (.s (.n) (.c (.s (.n) (.n)) (.n)))) (.n)))))) (.s (.s (.n) (.b (.l ⟨[], [], [], [(7, .l (.i .i64))], []⟩ (.s (.s (.n) (.c (.n) (.n))) (.s (.b (.s (.n) (.c (.s (.n) (.n)) (.n)))) (.n)))))) (.s (.n) (.j ⟨[], [], [], [], []⟩ (.s (.n) (.c (.s (.n) (.c (.s (.n) (.n)) (.n))) (.s (.n) (.c (.s (.n) (.n)) (.n))))) (.s (.s (.n) (.b (.l ⟨[], [], [], [(9, .l (.i .i64))], []⟩ (.s (.s (.n) (.c (.n) (.n))) (.s (.b (.s (.n) (.j ⟨[], [], [], [(97, .l (.b))], []⟩ (.n) (.c (.s (.n) (.n)) (.n))))) (.n)))))) (.s (.s (.n) (.j ⟨[], [], [], [(108, .l (.b))], []⟩ (.n) (.c (.s (.n) (.n)) (.n)))) (.s (.n) (.s (.s (.n) (.b (.l ⟨[], [], [], [(14, .l (.i .i64)), (15, .l (.i .i64))], []⟩ (.s (.s (.n) (.c (.n) (.n))) (.s (.b (.s (.n) (.s (.j ⟨[], [], [], [(137, .l (.b))], []⟩ (.n) (.c (.s (.n) (.n)) (.n))) (.n)))) (.n)))))) (.s (.n) (.j ⟨[], [], [], [(4, .l (.b))], []⟩ (.n) (.n))))))))))))))) (mp := false) (args := [.v (.int .i64 n), .v (.int .i64 more)]) Go.Proofs.Try.func8 (c := Go.Proofs.Try.f8.body.getD .skip) (by kernel_rfl) (by kernel_rfl) (Eq.mp (by kernel_rfl) h)
theorem rhizomelaw16_LockUp.body : BodyOk Go.Proofs.Try.prog 8 := ⟨Go.Proofs.Try.f8, Go.Proofs.Try.func8, by kernel_rfl, pf.ng _ _ Go.Proofs.Try.func8⟩

end Go.Proofs.Ytnimejocaaekaaa.VC
