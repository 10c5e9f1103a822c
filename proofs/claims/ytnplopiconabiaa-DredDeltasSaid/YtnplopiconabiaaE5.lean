/- What is to be shown of functions' texts, printed by a program of this session's repo; that it gives the functions' contracts is checked by the kernel. -/
import Derived.Test.YtnplopiconabiaaProg
import Derived.Test.YtnplopiconabiaaPf
namespace Go.Proofs.Ytnplopiconabiaa.VC
open Go Go.V
set_option maxRecDepth 1000000
set_option linter.unusedVariables false

/-! ### rhizome/tuple.Back: function 32 -/
def tuple_Back.vc (dAddA : Option Addr) (dAddL dAddC : Nat) (dDelA : Option Addr) (dDelL dDelC : Nat) (R : Ending → World → Prop) (w :
  World) : Prop := ∀ (k1 k2 : Nat) (w3 : World), Step w w3 [] [k2, k1] → Calls Proofs.Try.prog (61 : Nat) { toList := [Value.slice dDelA dDelL dDelC] }
  w3 fun (e5 : Ending) (w6 : World) => ∃ (p7 : Option Addr), ∃ (k8 : Nat), ∃ (k9 : Nat), e5 = Ending.returned (Value.slice p7 k8 k9) ∧ Keep
  [k1, k2] w3 w6 ∧ Calls Proofs.Try.prog (61 : Nat) { toList := [Value.slice dAddA dAddL dAddC] } w6 fun (e10 : Ending) (w11 : World) => ∃
  (p12 : Option Addr), ∃ (k13 : Nat), ∃ (k14 : Nat), e10 = Ending.returned (Value.slice p12 k13 k14) ∧ Keep [k1, k2] w6 w11 ∧ ∀ (w15 :
  World), Step w11 w15 [k2] [] → R (Ending.returned (Value.agg { toList := List.take 2 (List.drop 0 (sets [Value.slice none 0 0, Value.slice none 0 0] 0 (spl (spl [Value.slice none 0 0, Value.slice none 0 0] 0 [Value.slice p7 k8 k9]) 1 [Value.slice p12 k13 k14]))) }))
  w15

theorem tuple_Back.link {dAddA : Option Addr} {dAddL dAddC : Nat} {dDelA : Option Addr} {dDelL dDelC : Nat} {R : Ending → World → Prop} {w : World} (h : tuple_Back.vc dAddA dAddL dAddC dDelA dDelL dDelC R w) : Calls Go.Proofs.Try.prog 32 #[(.agg #[.slice dAddA dAddL dAddC, .slice dDelA dDelL dDelC] : Value)] w R :=
  calls_of pf (fn := Go.Proofs.Try.f32) (ann := .s (.n) (.s (.d [0]) (.n))) (mp := false) (args := [.v (.agg #[.slice dAddA dAddL dAddC, .slice dDelA dDelL dDelC])]) Go.Proofs.Try.func32 (c := Go.Proofs.Try.f32.body.getD .skip) (by kernel_rfl) (by kernel_rfl) (Eq.mp (by kernel_rfl) h)
theorem tuple_Back.body : BodyOk Go.Proofs.Try.prog 32 := ⟨Go.Proofs.Try.f32, Go.Proofs.Try.func32, by kernel_rfl, pf.ng _ _ Go.Proofs.Try.func32⟩

/-! ### rhizome/tuple.Empty: function 33 -/
def tuple_Empty.vc (dAddA : Option Addr) (dAddL dAddC : Nat) (dDelA : Option Addr) (dDelL dDelC : Nat) (R : Ending → World → Prop) (w :
  World) : Prop := ∀ (k1 : Nat) (w2 : World), Step w w2 [] [k1] → R (Ending.returned (Value.bool (decide (IntKind.wrap IntKind.i64 ((dAddL :
  Int) + (dDelL : Int)) = (0 : Int))))) w2

theorem tuple_Empty.link {dAddA : Option Addr} {dAddL dAddC : Nat} {dDelA : Option Addr} {dDelL dDelC : Nat} {R : Ending → World → Prop} {w : World} (h : tuple_Empty.vc dAddA dAddL dAddC dDelA dDelL dDelC R w) : Calls Go.Proofs.Try.prog 33 #[(.agg #[.slice dAddA dAddL dAddC, .slice dDelA dDelL dDelC] : Value)] w R :=
  calls_of pf (fn := Go.Proofs.Try.f33) (ann := .s (.n) (.s (.n) (.n))) (mp := false) (args := [.v (.agg #[.slice dAddA dAddL dAddC, .slice dDelA dDelL dDelC])]) Go.Proofs.Try.func33 (c := Go.Proofs.Try.f33.body.getD .skip) (by kernel_rfl) (by kernel_rfl) (Eq.mp (by kernel_rfl) h)
theorem tuple_Empty.body : BodyOk Go.Proofs.Try.prog 33 := ⟨Go.Proofs.Try.f33, Go.Proofs.Try.func33, by kernel_rfl, pf.ng _ _ Go.Proofs.Try.func33⟩

/-! ### rhizome/tuple.Apply: function 35 -/
def tuple_Apply.vc (sA : Option Addr) (sL sC : Nat) (dAddA : Option Addr) (dAddL dAddC : Nat) (dDelA : Option Addr) (dDelL dDelC : Nat) (R :
  Ending → World → Prop) (w : World) : Prop := ∀ (k1 k2 : Nat) (w3 : World), Step w w3 [] [k2, k1] → Blk w3 k2 (spl (spl (spl (reps
  [Value.slice none 0 0] 3) 0 [Value.slice sA sL sC]) 1 [Value.slice dAddA dAddL dAddC]) 2 [Value.slice dDelA dDelL dDelC]) → Calls
  Proofs.Try.prog (62 : Nat) { toList := [Value.slice (some { block := k2, off := 0 }) 3 3] } w3 fun (e6 : Ending) (w7 : World) => ∃ (b8 :
  Bool), e6 = Ending.returned (Value.bool b8) ∧ Keep [k1] w3 w7 ∧ bcase (!b8) (R (Ending.returned (Value.tuple { toList := [Value.slice none 0 0, Value.int IntKind.i64 (1 : Int)] }))
  w7) (Calls Proofs.Try.prog (63 : Nat) { toList := [Value.slice sA sL sC, Value.slice dAddA dAddL dAddC] } w7 fun (e9 : Ending) (w10 :
  World) => ∃ (p11 : Option Addr), ∃ (k12 : Nat), ∃ (k13 : Nat), ∃ (p14 : Option Addr), ∃ (k15 : Nat), ∃ (k16 : Nat), ∃ (p17 : Option Addr),
  ∃ (k18 : Nat), ∃ (k19 : Nat), e9 = Ending.returned (Value.tuple { toList := [Value.slice p11 k12 k13, Value.slice p14 k15 k16, Value.slice p17 k18 k19] })
  ∧ Keep [k1] w7 w10 ∧ bcase (decide ((0 : Int) < (k15 : Int))) (R (Ending.returned (Value.tuple { toList := [Value.slice none 0 0, Value.int IntKind.i64 (2 : Int)] }))
  w10) (Calls Proofs.Try.prog (63 : Nat) { toList := [Value.slice sA sL sC, Value.slice dDelA dDelL dDelC] } w10 fun (e20 : Ending) (w21 :
  World) => ∃ (p22 : Option Addr), ∃ (k23 : Nat), ∃ (k24 : Nat), ∃ (p25 : Option Addr), ∃ (k26 : Nat), ∃ (k27 : Nat), ∃ (p28 : Option Addr),
  ∃ (k29 : Nat), ∃ (k30 : Nat), e20 = Ending.returned (Value.tuple { toList := [Value.slice p22 k23 k24, Value.slice p25 k26 k27, Value.slice p28 k29 k30] })
  ∧ Keep [k1] w10 w21 ∧ bcase (decide ((0 : Int) < (k29 : Int))) (R (Ending.returned (Value.tuple { toList := [Value.slice none 0 0, Value.int IntKind.i64 (4 : Int)] }))
  w21) (Calls Proofs.Try.prog (64 : Nat) { toList := [Value.slice p22 k23 k24, Value.slice dAddA dAddL dAddC] } w21 fun (e31 : Ending) (w32
  : World) => ∃ (p33 : Option Addr), ∃ (k34 : Nat), ∃ (k35 : Nat), e31 = Ending.returned (Value.slice p33 k34 k35) ∧ Keep [k1] w21 w32 ∧ R
  (Ending.returned (Value.tuple { toList := [Value.slice p33 k34 k35, Value.int IntKind.i64 (0 : Int)] })) w32)))

theorem tuple_Apply.link {sA : Option Addr} {sL sC : Nat} {dAddA : Option Addr} {dAddL dAddC : Nat} {dDelA : Option Addr} {dDelL dDelC : Nat} {R : Ending → World → Prop} {w : World} (h : tuple_Apply.vc sA sL sC dAddA dAddL dAddC dDelA dDelL dDelC R w) : Calls Go.Proofs.Try.prog 35 #[.slice sA sL sC, (.agg #[.slice dAddA dAddL dAddC, .slice dDelA dDelL dDelC] : Value)] w R :=
  calls_of pf (fn := Go.Proofs.Try.f35) (ann := .s (.n) (.s (.s (.n) (.c (.s (.n) (.n)) (.n))) (.s (.s (.n) (.s (.n) (.c (.s (.n) (.n)) (.n)))) (.s (.n) (.s (.s (.n) (.c (.s (.n) (.n)) (.n))) (.s (.n) (.n))))))) (mp := false) (args := [.v (.slice sA sL sC), .v (.agg #[.slice dAddA dAddL dAddC, .slice dDelA dDelL dDelC])]) Go.Proofs.Try.func35 (c := Go.Proofs.Try.f35.body.getD .skip) (by kernel_rfl) (by kernel_rfl) (Eq.mp (by kernel_rfl) h)
theorem tuple_Apply.body : BodyOk Go.Proofs.Try.prog 35 := ⟨Go.Proofs.Try.f35, Go.Proofs.Try.func35, by kernel_rfl, pf.ng _ _ Go.Proofs.Try.func35⟩

/-! ### rhizome/tuple.sets: function 62 -/
def tuple_sets.vc (lA : Option Addr) (lL lC : Nat) (R : Ending → World → Prop) (w : World) : Prop := Calls Proofs.Try.prog (87 : Nat) { toList := [Value.slice lA lL lC, Value.func (Fn.func 88) { toList := [] } { toList := [] }] }
  w fun (e1 : Ending) (w2 : World) => ∃ (b3 : Bool), e1 = Ending.returned (Value.bool b3) ∧ R (Ending.returned (Value.bool !b3)) w2

theorem tuple_sets.link {lA : Option Addr} {lL lC : Nat} {R : Ending → World → Prop} {w : World} (h : tuple_sets.vc lA lL lC R w) : Calls Go.Proofs.Try.prog 62 #[.slice lA lL lC] w R :=
  calls_of pf (fn := Go.Proofs.Try.f62) (ann := .s (.n) (.s (.n) (.n))) (mp := false) (args := [.v (.slice lA lL lC)]) Go.Proofs.Try.func62 (c := Go.Proofs.Try.f62.body.getD .skip) (by kernel_rfl) (by kernel_rfl) (Eq.mp (by kernel_rfl) h)
theorem tuple_sets.body : BodyOk Go.Proofs.Try.prog 62 := ⟨Go.Proofs.Try.f62, Go.Proofs.Try.func62, by kernel_rfl, pf.ng _ _ Go.Proofs.Try.func62⟩

/-! ### rhizome/tuple.walk: function 63 -/
def tuple_walk.vc (aA : Option Addr) (aL aC : Nat) (bA : Option Addr) (bL bC : Nat) (R : Ending → World → Prop) (w : World) : Prop := ∃ (y1
  : Nat → Option Addr → Nat → Nat → Option Addr → Nat → Nat → Option Addr → Nat → Nat → Option Addr → Nat → Nat → Option Addr → Nat → Nat →
  World → Prop), ∃ (k2 : Nat), y1 k2 aA aL aC bA bL bC none 0 0 none 0 0 none 0 0 w ∧ ∀ (k3 : Nat) (p4 : Option Addr) (k5 k6 : Nat) (p7 :
  Option Addr) (k8 k9 : Nat) (p10 : Option Addr) (k11 k12 : Nat) (p13 : Option Addr) (k14 k15 : Nat) (p16 : Option Addr) (k17 k18 : Nat)
  (w19 : World), y1 k3 p4 k5 k6 p7 k8 k9 p10 k11 k12 p13 k14 k15 p16 k17 k18 w19 → ∀ (y21 : Bool → World → Prop), (∀ (b22 : Bool) (w23 :
  World), bcase b22 (∀ (y24 : Int → World → Prop), (∀ (n25 : Int) (w26 : World), bcase (decide (n25 < (0 : Int))) (∃ (ad27 : Addr), p4 =
  some ad27 ∧ ((0 : Int) ≤ (0 : Int) ∧ (0 : Int) < (k5 : Int)) ∧ ∃ (p28 : Option Addr), ∃ (k29 : Nat), ∃ (k30 : Nat), World.cell? w26
  (Addr.add ad27 0) = some (Value.slice p28 k29 k30) ∧ ((0 : Int) ≤ (1 : Int) ∧ (1 : Int) ≤ (k5 : Int) ∧ (k5 : Int) ≤ (k6 : Int)) ∧ ∀ (k31 :
  Nat), appendP false [] [k31] [k31] w26 p10 k11 k12 1 (spl (reps [Value.slice none 0 0] 1) 0 [Value.slice p28 k29 k30]) 1 24 [Value.slice
  none 0 0] fun (w32 : World) (p33 : Option Addr) (k34 k35 : Nat) => ∃ (k36 : Nat), k36 < k3 ∧ y1 k36 (subA p4 1 k6 1) (Int.toNat (k5 : Int)
  - 1) (k6 - 1) p7 k8 k9 p33 k34 k35 p13 k14 k15 p16 k17 k18 w32) (bcase (decide ((0 : Int) < n25)) (∃ (ad37 : Addr), p7 = some ad37 ∧ ((0 :
  Int) ≤ (0 : Int) ∧ (0 : Int) < (k8 : Int)) ∧ ∃ (p38 : Option Addr), ∃ (k39 : Nat), ∃ (k40 : Nat), World.cell? w26 (Addr.add ad37 0) = some
  (Value.slice p38 k39 k40) ∧ ((0 : Int) ≤ (1 : Int) ∧ (1 : Int) ≤ (k8 : Int) ∧ (k8 : Int) ≤ (k9 : Int)) ∧ ∀ (k41 : Nat), appendP false []
  [k41] [k41] w26 p16 k17 k18 1 (spl (reps [Value.slice none 0 0] 1) 0 [Value.slice p38 k39 k40]) 1 24 [Value.slice none 0 0] fun (w42 :
  World) (p43 : Option Addr) (k44 k45 : Nat) => ∃ (k46 : Nat), k46 < k3 ∧ y1 k46 p4 k5 k6 (subA p7 1 k9 1) (Int.toNat (k8 : Int) - 1) (k9 -
  1) p10 k11 k12 p13 k14 k15 p43 k44 k45 w42) (∃ (ad47 : Addr), p4 = some ad47 ∧ ((0 : Int) ≤ (0 : Int) ∧ (0 : Int) < (k5 : Int)) ∧ ∃ (p48 :
  Option Addr), ∃ (k49 : Nat), ∃ (k50 : Nat), World.cell? w26 (Addr.add ad47 0) = some (Value.slice p48 k49 k50) ∧ ((0 : Int) ≤ (1 : Int) ∧
  (1 : Int) ≤ (k5 : Int) ∧ (k5 : Int) ≤ (k6 : Int)) ∧ ((0 : Int) ≤ (1 : Int) ∧ (1 : Int) ≤ (k8 : Int) ∧ (k8 : Int) ≤ (k9 : Int)) ∧ ∀ (k51 :
  Nat), appendP false [] [k51] [k51] w26 p13 k14 k15 1 (spl (reps [Value.slice none 0 0] 1) 0 [Value.slice p48 k49 k50]) 1 24 [Value.slice
  none 0 0] fun (w52 : World) (p53 : Option Addr) (k54 k55 : Nat) => ∃ (k56 : Nat), k56 < k3 ∧ y1 k56 (subA p4 1 k6 1) (Int.toNat (k5 : Int)
  - 1) (k6 - 1) (subA p7 1 k9 1) (Int.toNat (k8 : Int) - 1) (k9 - 1) p10 k11 k12 p53 k54 k55 p16 k17 k18 w52)) → y24 n25 w26) → bcase
  (decide ((k5 : Int) = (0 : Int))) (y24 (1 : Int) w23) (bcase (decide ((k8 : Int) = (0 : Int))) (y24 (-1 : Int) w23) (∃ (ad59 : Addr), p4 =
  some ad59 ∧ ((0 : Int) ≤ (0 : Int) ∧ (0 : Int) < (k5 : Int)) ∧ ∃ (p60 : Option Addr), ∃ (k61 : Nat), ∃ (k62 : Nat), World.cell? w23
  (Addr.add ad59 0) = some (Value.slice p60 k61 k62) ∧ ∃ (ad63 : Addr), p7 = some ad63 ∧ ((0 : Int) ≤ (0 : Int) ∧ (0 : Int) < (k8 : Int)) ∧
  ∃ (p64 : Option Addr), ∃ (k65 : Nat), ∃ (k66 : Nat), World.cell? w23 (Addr.add ad63 0) = some (Value.slice p64 k65 k66) ∧ ∀ (w67 : World),
  Step w23 w67 [] [] → Calls Proofs.Try.prog (73 : Nat) { toList := [Value.slice p60 k61 k62, Value.slice p64 k65 k66] } w67 fun (e69 :
  Ending) (w70 : World) => ∃ (n71 : Int), e69 = Ending.returned (Value.int IntKind.i64 n71) ∧ y24 n71 w70))) (R (Ending.returned
  (Value.tuple { toList := [Value.slice p10 k11 k12, Value.slice p13 k14 k15, Value.slice p16 k17 k18] })) w23) → y21 b22 w23) → bcase
  (decide ((0 : Int) < (k5 : Int))) (y21 true w19) (y21 (decide ((0 : Int) < (k8 : Int))) w19)

theorem tuple_walk.link {aA : Option Addr} {aL aC : Nat} {bA : Option Addr} {bL bC : Nat} {R : Ending → World → Prop} {w : World} (h : tuple_walk.vc aA aL aC bA bL bC R w) : Calls Go.Proofs.Try.prog 63 #[.slice aA aL aC, .slice bA bL bC] w R :=
  calls_of pf (fn := Go.Proofs.Try.f63) (ann := .s (.n) (.s (.b (.l ⟨[], [], [], [(0, .l (.sl)), (1, .l (.sl)), (4, .l (.sl)), (5, .l (.sl)), (6, .l (.sl))], []⟩ (.s (.j ⟨[], [], [], [(15, .l (.b))], []⟩ (.n) (.c (.n) (.n))) (.b (.s (.n) (.j ⟨[], [], [], [(7, .l (.i .i64))], []⟩ (.b (.s (.n) (.c (.n) (.s (.n) (.c (.n) (.n)))))) (.b (.s (.n) (.c (.n) (.s (.n) (.c (.n) (.n)))))))))))) (.s (.n) (.n)))) (mp := false) (args := [.v (.slice aA aL aC), .v (.slice bA bL bC)]) Go.Proofs.Try.func63 (c := Go.Proofs.Try.f63.body.getD .skip) (by kernel_rfl) (by kernel_rfl) (Eq.mp (by kernel_rfl) h)
theorem tuple_walk.body : BodyOk Go.Proofs.Try.prog 63 := ⟨Go.Proofs.Try.f63, Go.Proofs.Try.func63, by kernel_rfl, pf.ng _ _ Go.Proofs.Try.func63⟩

/-! ### rhizome/tuple.union: function 64 -/
def tuple_union.vc (aA : Option Addr) (aL aC : Nat) (bA : Option Addr) (bL bC : Nat) (R : Ending → World → Prop) (w : World) : Prop := ∀ (k1
  : Nat) (w2 : World), Step w w2 [] [k1] → Blk w2 k1 (spl (spl (reps [Value.slice none 0 0] 2) 0 [Value.slice aA aL aC]) 1 [Value.slice bA
  bL bC]) → Calls Proofs.Try.prog (90 : Nat) { toList := [Value.slice (some { block := k1, off := 0 }) 2 2] } w2 fun (e5 : Ending) (w6 :
  World) => ∃ (p7 : Option Addr), ∃ (k8 : Nat), ∃ (k9 : Nat), e5 = Ending.returned (Value.slice p7 k8 k9) ∧ Calls Proofs.Try.prog (41 : Nat)
  { toList := [Value.slice p7 k8 k9] } w6 fun (e10 : Ending) (w11 : World) => ∃ (p12 : Option Addr), ∃ (k13 : Nat), ∃ (k14 : Nat), e10 =
  Ending.returned (Value.slice p12 k13 k14) ∧ R (Ending.returned (Value.slice p12 k13 k14)) w11

theorem tuple_union.link {aA : Option Addr} {aL aC : Nat} {bA : Option Addr} {bL bC : Nat} {R : Ending → World → Prop} {w : World} (h : tuple_union.vc aA aL aC bA bL bC R w) : Calls Go.Proofs.Try.prog 64 #[.slice aA aL aC, .slice bA bL bC] w R :=
  calls_of pf (fn := Go.Proofs.Try.f64) (ann := .s (.n) (.s (.n) (.n))) (mp := false) (args := [.v (.slice aA aL aC), .v (.slice bA bL bC)]) Go.Proofs.Try.func64 (c := Go.Proofs.Try.f64.body.getD .skip) (by kernel_rfl) (by kernel_rfl) (Eq.mp (by kernel_rfl) h)
theorem tuple_union.body : BodyOk Go.Proofs.Try.prog 64 := ⟨Go.Proofs.Try.f64, Go.Proofs.Try.func64, by kernel_rfl, pf.ng _ _ Go.Proofs.Try.func64⟩

/-! ### rhizome/tuple.sets_1: function 88 -/
def tuple_sets_1.vc (sA : Option Addr) (sL sC : Nat) (R : Ending → World → Prop) (w : World) : Prop := Calls Proofs.Try.prog (89 : Nat) { toList := [Value.slice sA sL sC] }
  w fun (e1 : Ending) (w2 : World) => ∃ (b3 : Bool), e1 = Ending.returned (Value.bool b3) ∧ R (Ending.returned (Value.bool !b3)) w2

theorem tuple_sets_1.link {sA : Option Addr} {sL sC : Nat} {R : Ending → World → Prop} {w : World} (h : tuple_sets_1.vc sA sL sC R w) : Calls Go.Proofs.Try.prog 88 #[.slice sA sL sC] w R :=
  calls_of pf (fn := Go.Proofs.Try.f88) (ann := .s (.n) (.s (.n) (.n))) (mp := false) (args := [.v (.slice sA sL sC)]) Go.Proofs.Try.func88 (c := Go.Proofs.Try.f88.body.getD .skip) (by kernel_rfl) (by kernel_rfl) (Eq.mp (by kernel_rfl) h)
theorem tuple_sets_1.body : BodyOk Go.Proofs.Try.prog 88 := ⟨Go.Proofs.Try.f88, Go.Proofs.Try.func88, by kernel_rfl, pf.ng _ _ Go.Proofs.Try.func88⟩

/-! ### rhizome/tuple.Rises: function 89 -/
def tuple_Rises.vc (lA : Option Addr) (lL lC : Nat) (R : Ending → World → Prop) (w : World) : Prop := ∃ (y1 : Nat → Int → World → Prop), ∃
  (k2 : Nat), y1 k2 (1 : Int) w ∧ ∀ (k3 : Nat) (n4 : Int) (w5 : World), y1 k3 n4 w5 → bcase (decide (n4 < (lL : Int))) (∃ (ad7 : Addr), lA =
  some ad7 ∧ ((0 : Int) ≤ IntKind.wrap IntKind.i64 (n4 - (1 : Int)) ∧ IntKind.wrap IntKind.i64 (n4 - (1 : Int)) < (lL : Int)) ∧ ∃ (p8 :
  Option Addr), ∃ (k9 : Nat), ∃ (k10 : Nat), World.cell? w5 (Addr.add ad7 (Int.toNat (IntKind.wrap IntKind.i64 (n4 - (1 : Int))) * 1)) =
  some (Value.slice p8 k9 k10) ∧ ∃ (ad11 : Addr), lA = some ad11 ∧ ((0 : Int) ≤ n4 ∧ n4 < (lL : Int)) ∧ ∃ (p12 : Option Addr), ∃ (k13 :
  Nat), ∃ (k14 : Nat), World.cell? w5 (Addr.add ad11 (Int.toNat n4 * 1)) = some (Value.slice p12 k13 k14) ∧ ∀ (w15 : World), Step w5 w15 []
  [] → Calls Proofs.Try.prog (73 : Nat) { toList := [Value.slice p8 k9 k10, Value.slice p12 k13 k14] } w15 fun (e17 : Ending) (w18 : World)
  => ∃ (n19 : Int), e17 = Ending.returned (Value.int IntKind.i64 n19) ∧ bcase (decide ((0 : Int) ≤ n19)) (R (Ending.returned (Value.bool
  false)) w18) (∃ (k20 : Nat), k20 < k3 ∧ y1 k20 (IntKind.wrap IntKind.i64 (n4 + (1 : Int))) w18)) (R (Ending.returned (Value.bool true))
  w5)

theorem tuple_Rises.link {lA : Option Addr} {lL lC : Nat} {R : Ending → World → Prop} {w : World} (h : tuple_Rises.vc lA lL lC R w) : Calls Go.Proofs.Try.prog 89 #[.slice lA lL lC] w R :=
  calls_of pf (fn := Go.Proofs.Try.f89) (ann := .s (.n) (.s (.s (.n) (.b (.l ⟨[], [], [], [(3, .l (.i .i64))], []⟩ (.s (.s (.n) (.c (.n) (.n))) (.s (.b (.s (.n) (.c (.s (.n) (.n)) (.n)))) (.n)))))) (.s (.n) (.n)))) (mp := false) (args := [.v (.slice lA lL lC)]) Go.Proofs.Try.func89 (c := Go.Proofs.Try.f89.body.getD .skip) (by kernel_rfl) (by kernel_rfl) (Eq.mp (by kernel_rfl) h)
theorem tuple_Rises.body : BodyOk Go.Proofs.Try.prog 89 := ⟨Go.Proofs.Try.f89, Go.Proofs.Try.func89, by kernel_rfl, pf.ng _ _ Go.Proofs.Try.func89⟩

/-! ### rhizome/rhizomeref10.SameDelta: function 31 -/
def rhizomeref10_SameDelta.vc (aAddA : Option Addr) (aAddL aAddC : Nat) (aDelA : Option Addr) (aDelL aDelC : Nat) (bAddA : Option Addr)
  (bAddL bAddC : Nat) (bDelA : Option Addr) (bDelL bDelC : Nat) (R : Ending → World → Prop) (w : World) : Prop := ∀ (k1 k2 : Nat) (y3 : Bool
  → World → Prop), (∀ (b4 : Bool) (w5 : World), R (Ending.returned (Value.bool b4)) w5 → y3 b4 w5) → ∀ (w8 : World), Step w w8 [] [k2, k1] →
  Calls Proofs.Try.prog (17 : Nat) { toList := [Value.slice aAddA aAddL aAddC, Value.slice bAddA bAddL bAddC] } w8 fun (e10 : Ending) (w11 :
  World) => ∃ (b12 : Bool), e10 = Ending.returned (Value.bool b12) ∧ Keep [k1, k2] w8 w11 ∧ bcase b12 (Calls Proofs.Try.prog (17 : Nat) { toList := [Value.slice aDelA aDelL aDelC, Value.slice bDelA bDelL bDelC] }
  w11 fun (e13 : Ending) (w14 : World) => ∃ (b15 : Bool), e13 = Ending.returned (Value.bool b15) ∧ Keep [k1, k2] w11 w14 ∧ y3 b15 w14) (y3
  false w11)

theorem rhizomeref10_SameDelta.link {aAddA : Option Addr} {aAddL aAddC : Nat} {aDelA : Option Addr} {aDelL aDelC : Nat} {bAddA : Option Addr} {bAddL bAddC : Nat} {bDelA : Option Addr} {bDelL bDelC : Nat} {R : Ending → World → Prop} {w : World} (h : rhizomeref10_SameDelta.vc aAddA aAddL aAddC aDelA aDelL aDelC bAddA bAddL bAddC bDelA bDelL bDelC R w) : Calls Go.Proofs.Try.prog 31 #[(.agg #[.slice aAddA aAddL aAddC, .slice aDelA aDelL aDelC] : Value), (.agg #[.slice bAddA bAddL bAddC, .slice bDelA bDelL bDelC] : Value)] w R :=
  calls_of pf (fn := Go.Proofs.Try.f31) (ann := .s (.n) (.j ⟨[], [], [], [(4, .l (.b))], []⟩ (.n) (.n))) (mp := false) (args := [.v (.agg #[.slice aAddA aAddL aAddC, .slice aDelA aDelL aDelC]), .v (.agg #[.slice bAddA bAddL bAddC, .slice bDelA bDelL bDelC])]) Go.Proofs.Try.func31 (c := Go.Proofs.Try.f31.body.getD .skip) (by kernel_rfl) (by kernel_rfl) (Eq.mp (by kernel_rfl) h)
theorem rhizomeref10_SameDelta.body : BodyOk Go.Proofs.Try.prog 31 := ⟨Go.Proofs.Try.f31, Go.Proofs.Try.func31, by kernel_rfl, pf.ng _ _ Go.Proofs.Try.func31⟩

end Go.Proofs.Ytnplopiconabiaa.VC
