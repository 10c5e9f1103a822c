/- What is to be shown of functions' texts, printed by a program of this session's repo; that it gives the functions' contracts is checked by the kernel. -/
import Derived.Test.YtnplopiconabiaaProg
import Derived.Test.YtnplopiconabiaaPf
namespace Go.Proofs.Ytnplopiconabiaa.VC
open Go Go.V
set_option maxRecDepth 1000000
set_option linter.unusedVariables false

/-! ### rhizome/dred.newRelation: function 53 -/
def dred_newRelation.vc (R : Ending → World → Prop) (w : World) : Prop := ∀ (w1 : World) (k2 : Nat), Step w w1 [] [k2] → (World.heap
  w1)[k2]? = some (Obj.map { toList := [] } 0) → ∀ (w5 : World) (k6 : Nat), Step w1 w5 [] [k6] → (World.heap w5)[k6]? = some (Obj.map { toList := [] }
  0) → ∀ (k9 : Nat) (w10 : World), Step w5 w10 [] [k9] → Blk w10 k9 (spl (spl [Value.map none, Value.map none, Value.int IntKind.i64 (0 :
  Int)] 0 [Value.map (some k2)]) 1 [Value.map (some k6)]) → R (Ending.returned (Value.pointer (some { block := k9, off := 0 }))) w10

theorem dred_newRelation.link {_u : Unit} {R : Ending → World → Prop} {w : World} (h : dred_newRelation.vc  R w) : Calls Go.Proofs.Try.prog 53 #[] w R :=
  calls_of pf (fn := Go.Proofs.Try.f53) (ann := .s (.n) (.s (.n) (.n))) (mp := false) (args := []) Go.Proofs.Try.func53 (c := Go.Proofs.Try.f53.body.getD .skip) (by kernel_rfl) (by kernel_rfl) (Eq.mp (by kernel_rfl) h)
theorem dred_newRelation.body : BodyOk Go.Proofs.Try.prog 53 := ⟨Go.Proofs.Try.f53, Go.Proofs.Try.func53, by kernel_rfl, pf.ng _ _ Go.Proofs.Try.func53⟩

/-! ### (*rhizome/dred.relation).put: function 54 -/
def dred_relation_put.vc (r : Addr) (p0 : Int) (p1 : Int) (R : Ending → World → Prop) (w : World) : Prop := ∀ (k1 : Nat) (w2 : World), Step
  w w2 [] [k1] → Calls Proofs.Try.prog (55 : Nat) { toList := [Value.pointer (some r), Value.agg { toList := [Value.int IntKind.i64 p0, Value.int IntKind.i64 p1] }] }
  w2 fun (e4 : Ending) (w5 : World) => ∃ (b6 : Bool), e4 = Ending.returned (Value.bool b6) ∧ Keep [k1] w2 w5 ∧ bcase b6 (R (Ending.returned
  (Value.bool false)) w5) (∃ (p7 : Option Nat), World.cell? w5 (Addr.add r 0) = some (Value.map p7) ∧ ((0 : Int) ≤ (0 : Int) ∧ (0 : Int) <
  ((2 : Nat) : Int)) ∧ ((0 : Int) ≤ (1 : Int) ∧ (1 : Int) < ((2 : Nat) : Int)) ∧ ∃ (p8 : Option Nat), World.cell? w5 (Addr.add r 1) = some
  (Value.map p8) ∧ ((0 : Int) ≤ (1 : Int) ∧ (1 : Int) < ((2 : Nat) : Int)) ∧ ((0 : Int) ≤ (0 : Int) ∧ (0 : Int) < ((2 : Nat) : Int)) ∧ ∀ (k9
  : Nat) (w10 : World), Step w5 w10 [] [k9] → Blk w10 k9 (spl (spl (reps [Value.map none, Value.int IntKind.i64 (0 : Int), Value.int
  IntKind.i64 (0 : Int)] 2) 0 (spl (spl (spl [Value.map none, Value.int IntKind.i64 (0 : Int), Value.int IntKind.i64 (0 : Int)] 0 [Value.map
  p7]) 1 [Value.int IntKind.i64 p0]) 2 [Value.int IntKind.i64 p1])) 3 (spl (spl (spl [Value.map none, Value.int IntKind.i64 (0 : Int),
  Value.int IntKind.i64 (0 : Int)] 0 [Value.map p8]) 1 [Value.int IntKind.i64 p1]) 2 [Value.int IntKind.i64 p0])) → ∃ (y13 : Nat → Int →
  World → Prop), ∃ (k14 : Nat), y13 k14 (0 : Int) w10 ∧ ∀ (k15 : Nat) (n16 : Int) (w17 : World), y13 k15 n16 w17 → bcase (decide (n16 < ((2
  : Nat) : Int))) (∃ (ad19 : Addr), some { block := k9, off := 0 } = some ad19 ∧ ((0 : Int) ≤ n16 ∧ n16 < ((2 : Nat) : Int)) ∧ ∃ (p20 :
  Option Nat), ∃ (n21 : Int), ∃ (n22 : Int), (World.cell? w17 (Addr.add (Addr.add ad19 (Int.toNat n16 * 3)) 0) = some (Value.map p20) ∧
  World.cell? w17 (Addr.add (Addr.add ad19 (Int.toNat n16 * 3)) 1) = some (Value.int IntKind.i64 n21) ∧ World.cell? w17 (Addr.add (Addr.add
  ad19 (Int.toNat n16 * 3)) 2) = some (Value.int IntKind.i64 n22) ∧ True) ∧ ∀ (k23 : Nat) (y24 : World → Prop), (∀ (w25 : World), (∃ (l26 :
  List (Int × Value)), MapO (Value.int IntKind.i64) w25 p20 l26 ∧ ∃ (p27 : Option Nat), (∃ (b28 : Bool), LookRel l26 n21 (Value.map none)
  (Value.map p27) b28) ∧ ∃ (k29 : Nat), ∃ (l30 : List (Int × Value)), p27 = some k29 ∧ MapG (Value.int IntKind.i64) w25 k29 l30 ∧ ∀ (w31 :
  World), MUpd (Value.int IntKind.i64) w25 w31 k29 (updM l30 n22 (Value.bool true)) → ∃ (k33 : Nat), k33 < k15 ∧ y13 k33 (IntKind.wrap
  IntKind.i64 (n16 + (1 : Int))) w31) → y24 w25) → ∃ (l36 : List (Int × Value)), MapO (Value.int IntKind.i64) w17 p20 l36 ∧ ∃ (p37 : Option
  Nat), (∃ (b38 : Bool), LookRel l36 n21 (Value.map none) (Value.map p37) b38) ∧ bcase (Option.isNone p37) (∀ (w39 : World) (k40 : Nat),
  Step w17 w39 [] [k40, k23] → (World.heap w39)[k40]? = some (Obj.map { toList := [] } 0) → ∃ (k43 : Nat), ∃ (l44 : List (Int × Value)), p20
  = some k43 ∧ MapG (Value.int IntKind.i64) w39 k43 l44 ∧ ∀ (w45 : World), MUpd (Value.int IntKind.i64) w39 w45 k43 (updM l44 n21 (Value.map
  (some k40))) → y24 w45) (∀ (w47 : World), Step w17 w47 [] [k23] → y24 w47)) (∃ (n49 : Int), World.cell? w17 (Addr.add r 2) = some
  (Value.int IntKind.i64 n49) ∧ ∃ (l50 : List Value), Blk w17 (Addr.block (Addr.add r 2)) l50 ∧ Addr.spot (Addr.add r 2) = none ∧ Addr.off
  (Addr.add r 2) + List.length [Value.int IntKind.i64 (IntKind.wrap IntKind.i64 (n49 + (1 : Int)))] ≤ List.length l50 ∧ ∀ (w51 : World), Upd
  w17 w51 (Addr.block (Addr.add r 2)) (sets l50 (Addr.off (Addr.add r 2)) [Value.int IntKind.i64 (IntKind.wrap IntKind.i64 (n49 + (1 :
  Int)))]) → R (Ending.returned (Value.bool true)) w51))

theorem dred_relation_put.link {r : Addr} {p0 : Int} {p1 : Int} {R : Ending → World → Prop} {w : World} (h : dred_relation_put.vc r p0 p1 R w) : Calls Go.Proofs.Try.prog 54 #[.pointer (some r), (.agg #[.int .i64 p0, .int .i64 p1] : Value)] w R :=
  calls_of pf (fn := Go.Proofs.Try.f54) (ann := .s (.n) (.s (.s (.n) (.c (.s (.n) (.n)) (.n))) (.s (.s (.d [0]) (.b (.l ⟨[], [1], [], [(30, .l (.i .i64))], []⟩ (.s (.n) (.s (.c (.n) (.n)) (.s (.b (.s (.n) (.j ⟨[], [], [2], [], []⟩ (.s (.n) (.c (.n) (.n))) (.n)))) (.n))))))) (.s (.n) (.s (.n) (.n)))))) (mp := false) (args := [.a r, .v (.agg #[.int .i64 p0, .int .i64 p1])]) Go.Proofs.Try.func54 (c := Go.Proofs.Try.f54.body.getD .skip) (by kernel_rfl) (by kernel_rfl) (Eq.mp (by kernel_rfl) h)
theorem dred_relation_put.body : BodyOk Go.Proofs.Try.prog 54 := ⟨Go.Proofs.Try.f54, Go.Proofs.Try.func54, by kernel_rfl, pf.ng _ _ Go.Proofs.Try.func54⟩

/-! ### (*rhizome/dred.relation).has: function 55 -/
def dred_relation_has.vc (r : Addr) (p0 : Int) (p1 : Int) (R : Ending → World → Prop) (w : World) : Prop := ∀ (k1 : Nat), ∃ (p2 : Option
  Nat), World.cell? w (Addr.add r 0) = some (Value.map p2) ∧ ((0 : Int) ≤ (0 : Int) ∧ (0 : Int) < ((2 : Nat) : Int)) ∧ ∃ (l3 : List (Int ×
  Value)), MapO (Value.int IntKind.i64) w p2 l3 ∧ ∃ (p4 : Option Nat), (∃ (b5 : Bool), LookRel l3 p0 (Value.map none) (Value.map p4) b5) ∧
  ((0 : Int) ≤ (1 : Int) ∧ (1 : Int) < ((2 : Nat) : Int)) ∧ ∃ (l6 : List (Int × Value)), MapO (Value.int IntKind.i64) w p4 l6 ∧ ∃ (b7 :
  Bool), (∃ (b8 : Bool), LookRel l6 p1 (Value.bool false) (Value.bool b7) b8) ∧ ∀ (w9 : World), Step w w9 [] [k1] → R (Ending.returned
  (Value.bool b7)) w9

theorem dred_relation_has.link {r : Addr} {p0 : Int} {p1 : Int} {R : Ending → World → Prop} {w : World} (h : dred_relation_has.vc r p0 p1 R w) : Calls Go.Proofs.Try.prog 55 #[.pointer (some r), (.agg #[.int .i64 p0, .int .i64 p1] : Value)] w R :=
  calls_of pf (fn := Go.Proofs.Try.f55) (ann := .s (.n) (.s (.d [0]) (.n))) (mp := false) (args := [.a r, .v (.agg #[.int .i64 p0, .int .i64 p1])]) Go.Proofs.Try.func55 (c := Go.Proofs.Try.f55.body.getD .skip) (by kernel_rfl) (by kernel_rfl) (Eq.mp (by kernel_rfl) h)
theorem dred_relation_has.body : BodyOk Go.Proofs.Try.prog 55 := ⟨Go.Proofs.Try.f55, Go.Proofs.Try.func55, by kernel_rfl, pf.ng _ _ Go.Proofs.Try.func55⟩

/-! ### (*rhizome/dred.relation).drop: function 60 -/
def dred_relation_drop.vc (r : Addr) (p0 : Int) (p1 : Int) (R : Ending → World → Prop) (w : World) : Prop := ∀ (k1 : Nat) (w2 : World), Step
  w w2 [] [k1] → Calls Proofs.Try.prog (55 : Nat) { toList := [Value.pointer (some r), Value.agg { toList := [Value.int IntKind.i64 p0, Value.int IntKind.i64 p1] }] }
  w2 fun (e4 : Ending) (w5 : World) => ∃ (b6 : Bool), e4 = Ending.returned (Value.bool b6) ∧ Keep [k1] w2 w5 ∧ bcase (!b6) (R
  (Ending.returned (Value.bool false)) w5) (∃ (p7 : Option Nat), World.cell? w5 (Addr.add r 0) = some (Value.map p7) ∧ ((0 : Int) ≤ (0 :
  Int) ∧ (0 : Int) < ((2 : Nat) : Int)) ∧ ∃ (l8 : List (Int × Value)), MapO (Value.int IntKind.i64) w5 p7 l8 ∧ ∃ (p9 : Option Nat), (∃ (b10
  : Bool), LookRel l8 p0 (Value.map none) (Value.map p9) b10) ∧ ((0 : Int) ≤ (1 : Int) ∧ (1 : Int) < ((2 : Nat) : Int)) ∧ ∀ (w11 : World),
  Step w5 w11 [] [] → ∃ (k13 : Nat), ∃ (l14 : List (Int × Value)), p9 = some k13 ∧ MapG (Value.int IntKind.i64) w11 k13 l14 ∧ ∀ (w15 :
  World), MUpd (Value.int IntKind.i64) w11 w15 k13 (delM l14 p1) → ∃ (p17 : Option Nat), World.cell? w15 (Addr.add r 1) = some (Value.map
  p17) ∧ ((0 : Int) ≤ (1 : Int) ∧ (1 : Int) < ((2 : Nat) : Int)) ∧ ∃ (l18 : List (Int × Value)), MapO (Value.int IntKind.i64) w15 p17 l18 ∧
  ∃ (p19 : Option Nat), (∃ (b20 : Bool), LookRel l18 p1 (Value.map none) (Value.map p19) b20) ∧ ((0 : Int) ≤ (0 : Int) ∧ (0 : Int) < ((2 :
  Nat) : Int)) ∧ ∀ (w21 : World), Step w15 w21 [] [] → ∃ (k23 : Nat), ∃ (l24 : List (Int × Value)), p19 = some k23 ∧ MapG (Value.int
  IntKind.i64) w21 k23 l24 ∧ ∀ (w25 : World), MUpd (Value.int IntKind.i64) w21 w25 k23 (delM l24 p0) → ∃ (n27 : Int), World.cell? w25
  (Addr.add r 2) = some (Value.int IntKind.i64 n27) ∧ ∃ (l28 : List Value), Blk w25 (Addr.block (Addr.add r 2)) l28 ∧ Addr.spot (Addr.add r
  2) = none ∧ Addr.off (Addr.add r 2) + List.length [Value.int IntKind.i64 (IntKind.wrap IntKind.i64 (n27 - (1 : Int)))] ≤ List.length l28 ∧
  ¬Addr.block (Addr.add r 2) ∈ [k1] ∧ ∀ (w29 : World), Upd w25 w29 (Addr.block (Addr.add r 2)) (sets l28 (Addr.off (Addr.add r 2))
  [Value.int IntKind.i64 (IntKind.wrap IntKind.i64 (n27 - (1 : Int)))]) → R (Ending.returned (Value.bool true)) w29)

theorem dred_relation_drop.link {r : Addr} {p0 : Int} {p1 : Int} {R : Ending → World → Prop} {w : World} (h : dred_relation_drop.vc r p0 p1 R w) : Calls Go.Proofs.Try.prog 60 #[.pointer (some r), (.agg #[.int .i64 p0, .int .i64 p1] : Value)] w R :=
  calls_of pf (fn := Go.Proofs.Try.f60) (ann := .s (.n) (.s (.s (.n) (.c (.s (.n) (.n)) (.n))) (.s (.d [0]) (.s (.d [0]) (.s (.n) (.s (.n) (.n))))))) (mp := false) (args := [.a r, .v (.agg #[.int .i64 p0, .int .i64 p1])]) Go.Proofs.Try.func60 (c := Go.Proofs.Try.f60.body.getD .skip) (by kernel_rfl) (by kernel_rfl) (Eq.mp (by kernel_rfl) h)
theorem dred_relation_drop.body : BodyOk Go.Proofs.Try.prog 60 := ⟨Go.Proofs.Try.f60, Go.Proofs.Try.func60, by kernel_rfl, pf.ng _ _ Go.Proofs.Try.func60⟩

/-! ### rhizome/dred.around: function 79 -/
def dred_around.vc (n : Int) (m : Option Nat) (R : Ending → World → Prop) (w : World) : Prop := ∃ (l1 : List (Int × Value)), MapO (Value.int
  IntKind.i64) w m l1 ∧ ∃ (p2 : Option Nat), (∃ (b3 : Bool), LookRel l1 n (Value.map none) (Value.map p2) b3) ∧ Calls Proofs.Try.prog (97 :
  Nat) { toList := [Value.map p2] } w fun (e4 : Ending) (w5 : World) => ∃ (x6 : Value), e4 = Ending.returned x6 ∧ Calls Proofs.Try.prog (69
  : Nat) { toList := [x6] } w5 fun (e7 : Ending) (w8 : World) => ∃ (p9 : Option Addr), ∃ (k10 : Nat), ∃ (k11 : Nat), e7 = Ending.returned
  (Value.slice p9 k10 k11) ∧ ∀ (k12 : Nat), appendP false [] [k12] [k12] w8 p9 k10 k11 1 (spl (reps [Value.int IntKind.i64 (0 : Int)] 1) 0
  [Value.int IntKind.i64 n]) 1 8 [Value.int IntKind.i64 (0 : Int)] fun (w13 : World) (p14 : Option Addr) (k15 k16 : Nat) => R
  (Ending.returned (Value.slice p14 k15 k16)) w13

theorem dred_around.link {n : Int} {m : Option Nat} {R : Ending → World → Prop} {w : World} (h : dred_around.vc n m R w) : Calls Go.Proofs.Try.prog 79 #[.int .i64 n, .map m] w R :=
  calls_of pf (fn := Go.Proofs.Try.f79) (ann := .s (.n) (.s (.n) (.n))) (mp := false) (args := [.v (.int .i64 n), .v (.map m)]) Go.Proofs.Try.func79 (c := Go.Proofs.Try.f79.body.getD .skip) (by kernel_rfl) (by kernel_rfl) (Eq.mp (by kernel_rfl) h)
theorem dred_around.body : BodyOk Go.Proofs.Try.prog 79 := ⟨Go.Proofs.Try.f79, Go.Proofs.Try.func79, by kernel_rfl, pf.ng _ _ Go.Proofs.Try.func79⟩

/-! ### (*rhizome/dred.Dred).derived: function 82 -/
def dred_Dred_derived.vc (d : Addr) (q0 : Int) (q1 : Int) (R : Ending → World → Prop) (w : World) : Prop := ∀ (k1 : Nat), ∃ (p2 : Option
  Addr), World.cell? w (Addr.add d 1) = some (Value.pointer p2) ∧ ∀ (w3 : World), Step w w3 [] [k1] → Calls Proofs.Try.prog (55 : Nat) { toList := [Value.pointer p2, Value.agg { toList := [Value.int IntKind.i64 q0, Value.int IntKind.i64 q1] }] }
  w3 fun (e5 : Ending) (w6 : World) => ∃ (b7 : Bool), e5 = Ending.returned (Value.bool b7) ∧ Keep [k1] w3 w6 ∧ bcase b7 (R (Ending.returned
  (Value.bool true)) w6) (∃ (p8 : Option Addr), World.cell? w6 (Addr.add d 1) = some (Value.pointer p8) ∧ ∃ (ad9 : Addr), Value.pointer p8 =
  Value.pointer (some ad9) ∧ ∃ (p10 : Option Nat), World.cell? w6 (Addr.add ad9 0) = some (Value.map p10) ∧ ((0 : Int) ≤ (0 : Int) ∧ (0 :
  Int) < ((2 : Nat) : Int)) ∧ ∃ (l11 : List (Int × Value)), MapO (Value.int IntKind.i64) w6 p10 l11 ∧ ∃ (p12 : Option Nat), (∃ (b13 : Bool),
  LookRel l11 q0 (Value.map none) (Value.map p12) b13) ∧ ∃ (l14 : List (Int × Value)), MapO (Value.int IntKind.i64) w6 p12 l14 ∧ ∀ (w15 :
  World) (k16 : Nat), Step w6 w15 [] [k16] → IterO (Value.int IntKind.i64) w15 k16 p12 l14 [] → ∃ (y19 : Nat → World → Prop), ∃ (k20 : Nat),
  y19 k20 w15 ∧ ∀ (k21 : Nat) (w22 : World), y19 k21 w22 → ∃ (p24 : Option Nat), ∃ (l25 : List (Int × Value)), ∃ (l26 : List Int), IterO
  (Value.int IntKind.i64) w22 k16 p24 l25 l26 ∧ (∀ (y27 : Int × Value), y27 ∈ l25 → IsT Proofs.Try.prog 4 (Prod.snd y27)) ∧ (∀ (n29 : Int)
  (b30 : Bool), (n29, Value.bool b30) ∈ l25 → ¬n29 ∈ l26 → ∀ (w33 : World), IStep w22 w33 k16 → IterO (Value.int IntKind.i64) w33 k16 p24
  l25 (n29 :: l26) → Cur Proofs.Try.prog w33 k16 (Value.int IntKind.i64 n29) (Value.bool b30) → bcase true (∃ (n37 : Int), ∃ (b38 : Bool),
  Cur Proofs.Try.prog w33 k16 (Value.int IntKind.i64 n37) (Value.bool b38) ∧ ∃ (p39 : Option Addr), World.cell? w33 (Addr.add d 2) = some
  (Value.pointer p39) ∧ ((0 : Int) ≤ (1 : Int) ∧ (1 : Int) < ((2 : Nat) : Int)) ∧ ∀ (w40 : World), Step w33 w40 [] [] → Calls
  Proofs.Try.prog (55 : Nat) { toList := [Value.pointer p39, Value.agg { toList := spl (spl [Value.int IntKind.i64 (0 : Int), Value.int IntKind.i64 (0 : Int)] 0 [Value.int IntKind.i64 n37]) 1 [Value.int IntKind.i64 q1] }] }
  w40 fun (e42 : Ending) (w43 : World) => ∃ (b44 : Bool), e42 = Ending.returned (Value.bool b44) ∧ Keep [k1] w40 w43 ∧ bcase b44 (R
  (Ending.returned (Value.bool true)) w43) (∃ (k45 : Nat), k45 < k21 ∧ y19 k45 w43)) (R (Ending.returned (Value.bool false)) w33)) ∧ ((∀
  (y46 : Int × Value), y46 ∈ l25 → Prod.fst y46 ∈ l26) → ∀ (w49 : World), IStep w22 w49 k16 → IterO (Value.int IntKind.i64) w49 k16 p24 l25
  l26 → bcase false (∃ (n52 : Int), ∃ (b53 : Bool), Cur Proofs.Try.prog w49 k16 (Value.int IntKind.i64 n52) (Value.bool b53) ∧ ∃ (p54 :
  Option Addr), World.cell? w49 (Addr.add d 2) = some (Value.pointer p54) ∧ ((0 : Int) ≤ (1 : Int) ∧ (1 : Int) < ((2 : Nat) : Int)) ∧ ∀ (w55
  : World), Step w49 w55 [] [] → Calls Proofs.Try.prog (55 : Nat) { toList := [Value.pointer p54, Value.agg { toList := spl (spl [Value.int IntKind.i64 (0 : Int), Value.int IntKind.i64 (0 : Int)] 0 [Value.int IntKind.i64 n52]) 1 [Value.int IntKind.i64 q1] }] }
  w55 fun (e57 : Ending) (w58 : World) => ∃ (b59 : Bool), e57 = Ending.returned (Value.bool b59) ∧ Keep [k1] w55 w58 ∧ bcase b59 (R
  (Ending.returned (Value.bool true)) w58) (∃ (k60 : Nat), k60 < k21 ∧ y19 k60 w58)) (R (Ending.returned (Value.bool false)) w49)))

theorem dred_Dred_derived.link {d : Addr} {q0 : Int} {q1 : Int} {R : Ending → World → Prop} {w : World} (h : dred_Dred_derived.vc d q0 q1 R w) : Calls Go.Proofs.Try.prog 82 #[.pointer (some d), (.agg #[.int .i64 q0, .int .i64 q1] : Value)] w R :=
  calls_of pf (fn := Go.Proofs.Try.f82) (ann := .s (.n) (.s (.s (.d [0]) (.c (.s (.n) (.n)) (.n))) (.s (.s (.d [0]) (.b (.l ⟨[], [], [0], [], []⟩ (.s (.n) (.s (.c (.n) (.n)) (.b (.s (.n) (.s (.d [0]) (.c (.s (.n) (.n)) (.n)))))))))) (.s (.n) (.n))))) (mp := false) (args := [.a d, .v (.agg #[.int .i64 q0, .int .i64 q1])]) Go.Proofs.Try.func82 (c := Go.Proofs.Try.f82.body.getD .skip) (by kernel_rfl) (by kernel_rfl) (Eq.mp (by kernel_rfl) h)
theorem dred_Dred_derived.body : BodyOk Go.Proofs.Try.prog 82 := ⟨Go.Proofs.Try.f82, Go.Proofs.Try.func82, by kernel_rfl, pf.ng _ _ Go.Proofs.Try.func82⟩

/-! ### (*rhizome/dred.Dred).remove_1: function 81 -/
def dred_Dred_remove_1.vc (q0 : Int) (q1 : Int) (f0P : Addr) (R : Ending → World → Prop) (w : World) : Prop := ∀ (k1 : Nat), ∃ (p2 : Option
  Addr), World.cell? w f0P = some (Value.pointer p2) ∧ ∃ (ad3 : Addr), Value.pointer p2 = Value.pointer (some ad3) ∧ ∃ (p4 : Option Addr),
  World.cell? w (Addr.add ad3 2) = some (Value.pointer p4) ∧ ∀ (w5 : World), Step w w5 [] [k1] → Calls Proofs.Try.prog (60 : Nat) { toList := [Value.pointer p4, Value.agg { toList := [Value.int IntKind.i64 q0, Value.int IntKind.i64 q1] }] }
  w5 fun (e7 : Ending) (w8 : World) => ∃ (b9 : Bool), e7 = Ending.returned (Value.bool b9) ∧ Keep [k1] w5 w8 ∧ R (Ending.returned
  (Value.bool !b9)) w8

theorem dred_Dred_remove_1.link {q0 : Int} {q1 : Int} {f0P : Addr} {R : Ending → World → Prop} {w : World} (h : dred_Dred_remove_1.vc q0 q1 f0P R w) : Calls Go.Proofs.Try.prog 81 #[(.agg #[.int .i64 q0, .int .i64 q1] : Value), .pointer (some f0P)] w R :=
  calls_of pf (fn := Go.Proofs.Try.f81) (ann := .s (.n) (.s (.d [0]) (.n))) (mp := false) (args := [.v (.agg #[.int .i64 q0, .int .i64 q1]), .a f0P]) Go.Proofs.Try.func81 (c := Go.Proofs.Try.f81.body.getD .skip) (by kernel_rfl) (by kernel_rfl) (Eq.mp (by kernel_rfl) h)
theorem dred_Dred_remove_1.body : BodyOk Go.Proofs.Try.prog 81 := ⟨Go.Proofs.Try.f81, Go.Proofs.Try.func81, by kernel_rfl, pf.ng _ _ Go.Proofs.Try.func81⟩

/-! ### (*rhizome/dred.Dred).insert_1: function 84 -/
def dred_Dred_insert_1.vc (q0 : Int) (q1 : Int) (f0P : Addr) (R : Ending → World → Prop) (w : World) : Prop := ∀ (k1 : Nat), ∃ (p2 : Option
  Addr), World.cell? w f0P = some (Value.pointer p2) ∧ ∃ (ad3 : Addr), Value.pointer p2 = Value.pointer (some ad3) ∧ ∃ (p4 : Option Addr),
  World.cell? w (Addr.add ad3 2) = some (Value.pointer p4) ∧ ∀ (w5 : World), Step w w5 [] [k1] → Calls Proofs.Try.prog (54 : Nat) { toList := [Value.pointer p4, Value.agg { toList := [Value.int IntKind.i64 q0, Value.int IntKind.i64 q1] }] }
  w5 fun (e7 : Ending) (w8 : World) => ∃ (b9 : Bool), e7 = Ending.returned (Value.bool b9) ∧ Keep [k1] w5 w8 ∧ R (Ending.returned
  (Value.bool !b9)) w8

theorem dred_Dred_insert_1.link {q0 : Int} {q1 : Int} {f0P : Addr} {R : Ending → World → Prop} {w : World} (h : dred_Dred_insert_1.vc q0 q1 f0P R w) : Calls Go.Proofs.Try.prog 84 #[(.agg #[.int .i64 q0, .int .i64 q1] : Value), .pointer (some f0P)] w R :=
  calls_of pf (fn := Go.Proofs.Try.f84) (ann := .s (.n) (.s (.d [0]) (.n))) (mp := false) (args := [.v (.agg #[.int .i64 q0, .int .i64 q1]), .a f0P]) Go.Proofs.Try.func84 (c := Go.Proofs.Try.f84.body.getD .skip) (by kernel_rfl) (by kernel_rfl) (Eq.mp (by kernel_rfl) h)
theorem dred_Dred_insert_1.body : BodyOk Go.Proofs.Try.prog 84 := ⟨Go.Proofs.Try.f84, Go.Proofs.Try.func84, by kernel_rfl, pf.ng _ _ Go.Proofs.Try.func84⟩

end Go.Proofs.Ytnplopiconabiaa.VC
