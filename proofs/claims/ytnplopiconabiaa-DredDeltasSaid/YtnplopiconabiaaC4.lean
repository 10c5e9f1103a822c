/- What is to be shown of functions' texts, printed by a program of this session's repo; that it gives the functions' contracts is checked by the kernel. -/
import Derived.Test.YtnplopiconabiaaProg
import Derived.Test.YtnplopiconabiaaPf
namespace Go.Proofs.Ytnplopiconabiaa.VC
open Go Go.V
set_option maxRecDepth 1000000
set_option linter.unusedVariables false

/-! ### rhizome/span.Way: function 19 -/
def span_Way.vc (label : ByteArray) (edgesA : Option Addr) (edgesL edgesC : Nat) (a : Int) (b : Int) (R : Ending → World → Prop) (w : World)
  : Prop := Calls Proofs.Try.prog (36 : Nat) { toList := [Value.string label] } w fun (e1 : Ending) (w2 : World) => ∃ (b3 : Bool), e1 =
  Ending.returned (Value.bool b3) ∧ bcase b3 (R (Ending.returned (Value.tuple { toList := [Value.slice none 0 0, Value.int IntKind.i64 (1 : Int)] }))
  w2) (Calls Proofs.Try.prog (37 : Nat) { toList := [Value.string label, Value.slice edgesA edgesL edgesC] } w2 fun (e4 : Ending) (w5 :
  World) => ∃ (p6 : Option Nat), e4 = Ending.returned (Value.map p6) ∧ ∀ (w7 : World) (k8 : Nat), Step w5 w7 [] [k8] → (World.heap w7)[k8]?
  = some (Obj.map { toList := [] } 0) → ∀ (k11 : Nat) (w12 : World), Step w7 w12 [] [k11] → Blk w12 k11 (spl (reps [Value.int IntKind.i64 (0
  : Int)] 1) 0 [Value.int IntKind.i64 a]) → ∃ (y15 : Nat → Option Addr → Nat → Nat → World → Prop), ∃ (k16 : Nat), y15 k16 (some
  { block := k11, off := 0 }) 1 1 w12 ∧ ∀ (k17 : Nat) (p18 : Option Addr) (k19 k20 : Nat) (w21 : World), y15 k17 p18 k19 k20 w21 → bcase
  (decide ((0 : Int) < (k19 : Int))) (∃ (ad23 : Addr), p18 = some ad23 ∧ ((0 : Int) ≤ (0 : Int) ∧ (0 : Int) < (k19 : Int)) ∧ ∃ (n24 : Int),
  World.cell? w21 (Addr.add ad23 0) = some (Value.int IntKind.i64 n24) ∧ ∃ (l25 : List (Int × Value)), MapO (Value.int IntKind.i64) w21 p6
  l25 ∧ ∃ (p26 : Option Addr), ∃ (k27 : Nat), ∃ (k28 : Nat), (∃ (b29 : Bool), LookRel l25 n24 (Value.slice none 0 0) (Value.slice p26 k27
  k28) b29) ∧ ∃ (y30 : Nat → Option Addr → Nat → Nat → Int → World → Prop), ∃ (k31 : Nat), y30 k31 p18 k19 k20 (0 : Int) w21 ∧ ∀ (k32 : Nat)
  (p33 : Option Addr) (k34 k35 : Nat) (n36 : Int) (w37 : World), y30 k32 p33 k34 k35 n36 w37 → bcase (decide (n36 < (k27 : Int))) (∀ (y39 :
  Option Addr → Nat → Nat → World → Prop), (∀ (p40 : Option Addr) (k41 k42 : Nat) (w43 : World), (∃ (k44 : Nat), k44 < k32 ∧ y30 k44 p40 k41
  k42 (IntKind.wrap IntKind.i64 (n36 + (1 : Int))) w43) → y39 p40 k41 k42 w43) → ∃ (ad47 : Addr), p26 = some ad47 ∧ ((0 : Int) ≤ n36 ∧ n36 <
  (k27 : Int)) ∧ ∃ (n48 : Int), World.cell? w37 (Addr.add ad47 (Int.toNat n36 * 1)) = some (Value.int IntKind.i64 n48) ∧ ∃ (l49 : List (Int
  × Value)), MapO (Value.int IntKind.i64) w37 (some k8) l49 ∧ ∃ (n50 : Int), ∃ (b51 : Bool), LookRel l49 n48 (Value.int IntKind.i64 (0 :
  Int)) (Value.int IntKind.i64 n50) b51 ∧ bcase b51 (y39 p33 k34 k35 w37) (∃ (k52 : Nat), ∃ (l53 : List (Int × Value)), some k8 = some k52 ∧
  MapG (Value.int IntKind.i64) w37 k52 l53 ∧ ∀ (w54 : World), MUpd (Value.int IntKind.i64) w37 w54 k52 (updM l53 n48 (Value.int IntKind.i64
  n24)) → ∀ (k56 : Nat), appendP false [] [k56] [k56] w54 p33 k34 k35 1 (spl (reps [Value.int IntKind.i64 (0 : Int)] 1) 0 [Value.int
  IntKind.i64 n48]) 1 8 [Value.int IntKind.i64 (0 : Int)] fun (w57 : World) (p58 : Option Addr) (k59 k60 : Nat) => bcase (!decide (n48 = b))
  (y39 p58 k59 k60 w57) (∀ (k61 : Nat) (w62 : World), Step w57 w62 [] [k61] → Blk w62 k61 (spl (reps [Value.int IntKind.i64 (0 : Int)] 1) 0
  [Value.int IntKind.i64 b]) → ∃ (y65 : Nat → Int → Option Addr → Nat → Nat → World → Prop), ∃ (k66 : Nat), y65 k66 n24 (some
  { block := k61, off := 0 }) 1 1 w62 ∧ ∀ (k67 : Nat) (n68 : Int) (p69 : Option Addr) (k70 k71 : Nat) (w72 : World), y65 k67 n68 p69 k70 k71
  w72 → bcase (!decide (n68 = a)) (∀ (k74 : Nat), appendP false [] [k74] [k74] w72 p69 k70 k71 1 (spl (reps [Value.int IntKind.i64 (0 :
  Int)] 1) 0 [Value.int IntKind.i64 n68]) 1 8 [Value.int IntKind.i64 (0 : Int)] fun (w75 : World) (p76 : Option Addr) (k77 k78 : Nat) => ∃
  (l79 : List (Int × Value)), MapO (Value.int IntKind.i64) w75 (some k8) l79 ∧ ∃ (n80 : Int), (∃ (b81 : Bool), LookRel l79 n68 (Value.int
  IntKind.i64 (0 : Int)) (Value.int IntKind.i64 n80) b81) ∧ ∃ (k82 : Nat), k82 < k67 ∧ y65 k82 n80 p76 k77 k78 w75) (∀ (k83 : Nat), appendP
  false [] [k83] [k83] w72 p69 k70 k71 1 (spl (reps [Value.int IntKind.i64 (0 : Int)] 1) 0 [Value.int IntKind.i64 a]) 1 8 [Value.int
  IntKind.i64 (0 : Int)] fun (w84 : World) (p85 : Option Addr) (k86 k87 : Nat) => Calls Proofs.Try.prog (47 : Nat) { toList := [Value.slice p85 k86 k87] }
  w84 fun (e88 : Ending) (w89 : World) => e88 = Ending.returned (Value.tuple { toList := [] }) ∧ Keep [k83] w84 w89 ∧ R (Ending.returned
  (Value.tuple { toList := [Value.slice p85 k86 k87, Value.int IntKind.i64 (0 : Int)] })) w89)))) (((0 : Int) ≤ (1 : Int) ∧ (1 : Int) ≤ (k34
  : Int) ∧ (k34 : Int) ≤ (k35 : Int)) ∧ ∃ (k90 : Nat), k90 < k17 ∧ y15 k90 (subA p33 1 k35 1) (Int.toNat (k34 : Int) - 1) (k35 - 1) w37)) (R
  (Ending.returned (Value.tuple { toList := [Value.slice none 0 0, Value.int IntKind.i64 (4 : Int)] })) w21))

theorem span_Way.link {label : ByteArray} {edgesA : Option Addr} {edgesL edgesC : Nat} {a : Int} {b : Int} {R : Ending → World → Prop} {w : World} (h : span_Way.vc label edgesA edgesL edgesC a b R w) : Calls Go.Proofs.Try.prog 19 #[.string label, .slice edgesA edgesL edgesC, .int .i64 a, .int .i64 b] w R :=
  calls_of pf (fn := Go.Proofs.Try.f19) (ann := .s (.n) (.s (.s (.n) (.c (.s (.n) (.n)) (.n))) (.s (.n) (.s (.n) (.s (.s (.n) (.b (.l ⟨[], [0], [], [(12, .l (.sl))], []⟩ (.s (.s (.n) (.c (.n) (.n))) (.s (.b (.s (.n) (.s (.n) (.b (.l ⟨[], [], [], [(12, .l (.sl)), (39, .l (.i .i64))], []⟩ (.s (.n) (.s (.c (.n) (.n)) (.j ⟨[], [], [], [(12, .l (.sl))], []⟩ (.b (.s (.n) (.s (.s (.n) (.s (.n) (.c (.n) (.n)))) (.s (.n) (.s (.n) (.s (.s (.n) (.c (.n) (.n))) (.s (.n) (.s (.s (.n) (.b (.l ⟨[], [2], [], [(15, .l (.i .i64)), (18, .l (.sl))], []⟩ (.s (.s (.n) (.c (.n) (.n))) (.s (.b (.n)) (.n)))))) (.s (.n) (.s (.n) (.s (.n) (.n)))))))))))) (.n))))))))) (.n)))))) (.s (.n) (.n))))))) (mp := false) (args := [.v (.string label), .v (.slice edgesA edgesL edgesC), .v (.int .i64 a), .v (.int .i64 b)]) Go.Proofs.Try.func19 (c := Go.Proofs.Try.f19.body.getD .skip) (by kernel_rfl) (by kernel_rfl) (Eq.mp (by kernel_rfl) h)
theorem span_Way.body : BodyOk Go.Proofs.Try.prog 19 := ⟨Go.Proofs.Try.f19, Go.Proofs.Try.func19, by kernel_rfl, pf.ng _ _ Go.Proofs.Try.func19⟩

end Go.Proofs.Ytnplopiconabiaa.VC
