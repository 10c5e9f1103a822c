/- What is to be shown of functions' texts, printed by a program of this session's repo; that it gives the functions' contracts is checked by the kernel. -/
import Derived.Test.YtnimejocaaekaaaProg
import Derived.Test.YtnimejocaaekaaaPf
namespace Go.Proofs.Ytnimejocaaekaaa.VC
open Go Go.V
set_option maxRecDepth 1000000
set_option linter.unusedVariables false

/-! ### rhizome/rhizomelaw16.LockAlone: function 5 -/
def rhizomelaw16_LockAlone.vc (scriptA : Option Addr) (scriptL scriptC : Nat) (R : Ending → World → Prop) (w : World) : Prop := Calls
  Proofs.Try.prog (9 : Nat) { toList := [] } w fun (e1 : Ending) (w2 : World) => ∃ (p3 : Option Addr), e1 = Ending.returned (Value.pointer
  p3) ∧ ∀ (y4 : Bool → World → Prop), (∀ (b5 : Bool) (w6 : World), bcase b5 (R (Ending.returned (Value.bool false)) w6) (∃ (y7 : Nat → Int →
  World → Prop), ∃ (k8 : Nat), y7 k8 (0 : Int) w6 ∧ ∀ (k9 : Nat) (n10 : Int) (w11 : World), y7 k9 n10 w11 → ∀ (y13 : Bool → World → Prop),
  (∀ (b14 : Bool) (w15 : World), bcase b14 (∃ (ad16 : Addr), scriptA = some ad16 ∧ ((0 : Int) ≤ n10 ∧ n10 < (scriptL : Int)) ∧ ∃ (b17 :
  Bool), ∃ (n18 : Int), ∃ (n19 : Int), ∃ (b20 : Bool), (World.cell? w15 (Addr.add (Addr.add ad16 (Int.toNat n10 * 4)) 0) = some (Value.bool
  b17) ∧ World.cell? w15 (Addr.add (Addr.add ad16 (Int.toNat n10 * 4)) 1) = some (Value.int IntKind.i64 n18) ∧ World.cell? w15 (Addr.add
  (Addr.add ad16 (Int.toNat n10 * 4)) 2) = some (Value.int IntKind.i64 n19) ∧ World.cell? w15 (Addr.add (Addr.add ad16 (Int.toNat n10 * 4))
  3) = some (Value.bool b20) ∧ True) ∧ ∀ (k21 : Nat), (16 : Int) ≠ (0 : Int) ∧ (6 : Int) ≠ (0 : Int) ∧ ∀ (y22 : World → Prop), (∀ (w23 :
  World), (∃ (y24 : Nat → Int → World → Prop), ∃ (k25 : Nat), y24 k25 (0 : Int) w23 ∧ ∀ (k26 : Nat) (n27 : Int) (w28 : World), y24 k26 n27
  w28 → bcase (decide (n27 < (6 : Int))) (∃ (y30 : Nat → Int → Bool → Int → World → Prop), ∃ (k31 : Nat), y30 k31 (0 : Int) false (1 : Int)
  w28 ∧ ∀ (k32 : Nat) (n33 : Int) (b34 : Bool) (n35 : Int) (w36 : World), y30 k32 n33 b34 n35 w36 → bcase (decide (n35 ≤ (16 : Int))) (∀
  (y38 : Int → Bool → World → Prop), (∀ (n39 : Int) (b40 : Bool) (w41 : World), (∃ (k42 : Nat), k42 < k32 ∧ y30 k42 n39 b40 (IntKind.wrap
  IntKind.i64 (n35 + (1 : Int))) w41) → y38 n39 b40 w41) → Calls Proofs.Try.prog (15 : Nat) { toList := [Value.pointer p3, Value.int IntKind.i64 n35, Value.int IntKind.i64 n27] }
  w36 fun (e45 : Ending) (w46 : World) => ∃ (b47 : Bool), ∃ (b48 : Bool), e45 = Ending.returned (Value.tuple { toList := [Value.bool b47, Value.bool b48] })
  ∧ ∀ (y49 : Int → World → Prop), (∀ (n50 : Int) (w51 : World), bcase b34 (y38 n50 true w51) (y38 n50 b48 w51) → y49 n50 w51) → bcase b47
  (y49 (IntKind.wrap IntKind.i64 (n33 + (1 : Int))) w46) (y49 n33 w46)) (∀ (y54 : Bool → World → Prop), (∀ (b55 : Bool) (w56 : World), bcase
  b55 (R (Ending.returned (Value.bool false)) w56) (∃ (k57 : Nat), k57 < k26 ∧ y24 k57 (IntKind.wrap IntKind.i64 (n27 + (1 : Int))) w56) →
  y54 b55 w56) → bcase b34 (y54 (!decide (n33 = (1 : Int))) w36) (y54 false w36))) (∃ (y60 : Nat → Int → World → Prop), ∃ (k61 : Nat), y60
  k61 (1 : Int) w28 ∧ ∀ (k62 : Nat) (n63 : Int) (w64 : World), y60 k62 n63 w64 → bcase (decide (n63 ≤ (16 : Int))) (Calls Proofs.Try.prog
  (14 : Nat) { toList := [Value.pointer p3, Value.int IntKind.i64 n63] } w64 fun (e66 : Ending) (w67 : World) => ∃ (n68 : Int), ∃ (b69 :
  Bool), ∃ (b70 : Bool), e66 = Ending.returned (Value.tuple { toList := [Value.int IntKind.i64 n68, Value.bool b69, Value.bool b70] }) ∧
  Calls Proofs.Try.prog (16 : Nat) { toList := [Value.pointer p3, Value.int IntKind.i64 n63] } w67 fun (e71 : Ending) (w72 : World) => ∃
  (p73 : Option Addr), ∃ (k74 : Nat), ∃ (k75 : Nat), e71 = Ending.returned (Value.slice p73 k74 k75) ∧ bcase (!b70 == decide ((0 : Int) <
  (k74 : Int))) (R (Ending.returned (Value.bool false)) w72) (Calls Proofs.Try.prog (16 : Nat) { toList := [Value.pointer p3, Value.int IntKind.i64 n63] }
  w72 fun (e76 : Ending) (w77 : World) => ∃ (p78 : Option Addr), ∃ (k79 : Nat), ∃ (k80 : Nat), e76 = Ending.returned (Value.slice p78 k79
  k80) ∧ ∃ (y81 : Nat → Int → World → Prop), ∃ (k82 : Nat), y81 k82 (0 : Int) w77 ∧ ∀ (k83 : Nat) (n84 : Int) (w85 : World), y81 k83 n84 w85
  → bcase (decide (n84 < (k79 : Int))) (∃ (ad87 : Addr), p78 = some ad87 ∧ ((0 : Int) ≤ n84 ∧ n84 < (k79 : Int)) ∧ ∃ (n88 : Int),
  World.cell? w85 (Addr.add ad87 (Int.toNat n84 * 1)) = some (Value.int IntKind.i64 n88) ∧ bcase (decide (n88 = n63)) (R (Ending.returned
  (Value.bool false)) w85) (∃ (k89 : Nat), k89 < k83 ∧ y81 k89 (IntKind.wrap IntKind.i64 (n84 + (1 : Int))) w85)) (∃ (k90 : Nat), k90 < k62
  ∧ y60 k90 (IntKind.wrap IntKind.i64 (n63 + (1 : Int))) w85))) (∃ (k91 : Nat), k91 < k9 ∧ y7 k91 (IntKind.wrap IntKind.i64 (n10 + (1 :
  Int))) w64))) → y22 w23) → bcase b17 (∀ (w94 : World), Step w15 w94 [] [k21] → Calls Proofs.Try.prog (13 : Nat) { toList := [Value.pointer p3, Value.int IntKind.i64 (IntKind.wrap IntKind.i64 (IntKind.wrap IntKind.i64 (Int.tmod (IntKind.wrap IntKind.u64 n18) (16 : Int)) + (1 : Int)))] }
  w94 fun (e96 : Ending) (w97 : World) => ∃ (p98 : Option Addr), ∃ (k99 : Nat), ∃ (k100 : Nat), ∃ (n101 : Int), e96 = Ending.returned
  (Value.tuple { toList := [Value.slice p98 k99 k100, Value.int IntKind.i64 n101] }) ∧ Keep [k21] w94 w97 ∧ bcase (!decide (n101 = (0 :
  Int))) (R (Ending.returned (Value.bool false)) w97) (y22 w97)) (∀ (w102 : World), Step w15 w102 [] [k21] → Calls Proofs.Try.prog (12 :
  Nat) { toList := [Value.pointer p3, Value.int IntKind.i64 (IntKind.wrap IntKind.i64 (IntKind.wrap IntKind.i64 (Int.tmod (IntKind.wrap IntKind.u64 n18) (16 : Int)) + (1 : Int))), Value.int IntKind.i64 (IntKind.wrap IntKind.i64 (Int.tmod (IntKind.wrap IntKind.u64 n19) (6 : Int))), Value.bool b20] }
  w102 fun (e104 : Ending) (w105 : World) => ∃ (n106 : Int), e104 = Ending.returned (Value.int IntKind.i64 n106) ∧ Keep [k21] w102 w105 ∧
  bcase (decide (n106 = (0 : Int))) (Calls Proofs.Try.prog (15 : Nat) { toList := [Value.pointer p3, Value.int IntKind.i64 (IntKind.wrap IntKind.i64 (IntKind.wrap IntKind.i64 (Int.tmod (IntKind.wrap IntKind.u64 n18) (16 : Int)) + (1 : Int))), Value.int IntKind.i64 (IntKind.wrap IntKind.i64 (Int.tmod (IntKind.wrap IntKind.u64 n19) (6 : Int)))] }
  w105 fun (e107 : Ending) (w108 : World) => ∃ (b109 : Bool), ∃ (b110 : Bool), e107 = Ending.returned (Value.tuple { toList := [Value.bool b109, Value.bool b110] })
  ∧ Keep [k21] w105 w108 ∧ ∀ (y111 : Bool → World → Prop), (∀ (b112 : Bool) (w113 : World), bcase b112 (R (Ending.returned (Value.bool
  false)) w113) (y22 w113) → y111 b112 w113) → bcase (!b109) (y111 true w108) (bcase b20 (y111 (!b110) w108) (y111 false w108))) (y22
  w105))) (R (Ending.returned (Value.bool true)) w15) → y13 b14 w15) → bcase (decide (n10 < (scriptL : Int))) (y13 (decide (n10 < (80 :
  Int))) w11) (y13 false w11)) → y4 b5 w6) → Calls Proofs.Try.prog (10 : Nat) { toList := [] } w2 fun (e120 : Ending) (w121 : World) => ∃
  (b122 : Bool), e120 = Ending.returned (Value.bool b122) ∧ bcase (!b122) (y4 true w121) (y4 (Option.isNone p3) w121)

theorem rhizomelaw16_LockAlone.link {scriptA : Option Addr} {scriptL scriptC : Nat} {R : Ending → World → Prop} {w : World} (h : rhizomelaw16_LockAlone.vc scriptA scriptL scriptC R w) : Calls Go.Proofs.Try.prog 5 #[.slice scriptA scriptL scriptC] w R :=
  calls_of pf (fn := Go.Proofs.Try.f5) (ann := .s (.n) (.s (.n) (.s (.j ⟨[], [], [], [(31, .l (.b))], []⟩ (.n) (.c (.s (.n) (.n)) (.n))) (.s (.s (.n) (.b (.l ⟨[], [], [], [(4, .l (.i .i64))], []⟩ (.s (.j ⟨[], [], [], [(39, .l (.b))], []⟩ (.n) (.c (.n) (.n))) (.s (.b (.s (.n) (.s (.n) (.s (.n) (.j ⟨[], [], [], [], []⟩ (.s (.n) (.c (.s (.n) (.s (.n) (.c (.s (.n) (.n)) (.n)))) (.s (.n) (.s (.n) (.c (.s (.n) (.j ⟨[], [], [], [(91, .l (.b))], []⟩ (.n) (.c (.s (.n) (.n)) (.n)))) (.n)))))) (.s (.s (.n) (.b (.l ⟨[], [], [], [(13, .l (.i .i64))], []⟩ (.s (.s (.n) (.c (.n) (.n))) (.s (.b (.s (.n) (.s (.s (.n) (.b (.l ⟨[], [], [], [(14, .l (.i .i64)), (15, .l (.b)), (16, .l (.i .i64))], []⟩ (.s (.s (.n) (.c (.n) (.n))) (.j ⟨[], [], [], [(14, .l (.i .i64)), (15, .l (.b))], []⟩ (.b (.s (.n) (.j ⟨[], [], [], [(14, .l (.i .i64))], []⟩ (.s (.n) (.c (.n) (.n))) (.n)))) (.n)))))) (.j ⟨[], [], [], [(118, .l (.b))], []⟩ (.n) (.c (.s (.n) (.n)) (.n)))))) (.n)))))) (.s (.n) (.b (.l ⟨[], [], [], [(19, .l (.i .i64))], []⟩ (.s (.s (.n) (.c (.n) (.n))) (.s (.b (.s (.n) (.s (.s (.n) (.c (.s (.n) (.n)) (.n))) (.s (.n) (.b (.l ⟨[], [], [], [(141, .l (.i .i64))], []⟩ (.s (.n) (.s (.c (.n) (.n)) (.s (.b (.s (.n) (.s (.n) (.c (.s (.n) (.n)) (.n))))) (.n)))))))))) (.n)))))))))))) (.n)))))) (.s (.n) (.n)))))) (mp := false) (args := [.v (.slice scriptA scriptL scriptC)]) Go.Proofs.Try.func5 (c := Go.Proofs.Try.f5.body.getD .skip) (by kernel_rfl) (by kernel_rfl) (Eq.mp (by kernel_rfl) h)
theorem rhizomelaw16_LockAlone.body : BodyOk Go.Proofs.Try.prog 5 := ⟨Go.Proofs.Try.f5, Go.Proofs.Try.func5, by kernel_rfl, pf.ng _ _ Go.Proofs.Try.func5⟩

end Go.Proofs.Ytnimejocaaekaaa.VC
