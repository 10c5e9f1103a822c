/- What is to be shown of functions' texts, printed by a program of this session's repo; that it gives the functions' contracts is checked by the kernel. -/
import Derived.Test.YtnimejocaaekaaaProg
import Derived.Test.YtnimejocaaekaaaPf
namespace Go.Proofs.Ytnimejocaaekaaa.VC
open Go Go.V
set_option maxRecDepth 1000000
set_option linter.unusedVariables false

/-! ### rhizome/rhizomeref16.rising: function 34 -/
def rhizomeref16_rising.vc (lA : Option Addr) (lL lC : Nat) (n : Int) (R : Ending → World → Prop) (w : World) : Prop := ∃ (y1 : Nat → Option
  Addr → Nat → Nat → Bool → Int → World → Prop), ∃ (k2 : Nat), y1 k2 none 0 0 false (0 : Int) w ∧ ∀ (k3 : Nat) (p4 : Option Addr) (k5 k6 :
  Nat) (b7 : Bool) (n8 : Int) (w9 : World), y1 k3 p4 k5 k6 b7 n8 w9 → bcase (decide (n8 < (lL : Int))) (∃ (ad11 : Addr), lA = some ad11 ∧
  ((0 : Int) ≤ n8 ∧ n8 < (lL : Int)) ∧ ∃ (n12 : Int), World.cell? w9 (Addr.add ad11 (Int.toNat n8 * 1)) = some (Value.int IntKind.i64 n12) ∧
  bcase (decide (n12 = n)) (R (Ending.returned (Value.slice lA lL lC)) w9) (∀ (y13 : Option Addr → Nat → Nat → Bool → World → Prop), (∀ (p14
  : Option Addr) (k15 k16 : Nat) (b17 : Bool) (w18 : World), (∃ (ad19 : Addr), lA = some ad19 ∧ ((0 : Int) ≤ n8 ∧ n8 < (lL : Int)) ∧ ∃ (n20
  : Int), World.cell? w18 (Addr.add ad19 (Int.toNat n8 * 1)) = some (Value.int IntKind.i64 n20) ∧ ∀ (k21 : Nat), appendP false [] [k21]
  [k21] w18 p14 k15 k16 1 (spl (reps [Value.int IntKind.i64 (0 : Int)] 1) 0 [Value.int IntKind.i64 n20]) 1 8 [Value.int IntKind.i64 (0 :
  Int)] fun (w22 : World) (p23 : Option Addr) (k24 k25 : Nat) => ∃ (k26 : Nat), k26 < k3 ∧ y1 k26 p23 k24 k25 b17 (IntKind.wrap IntKind.i64
  (n8 + (1 : Int))) w22) → y13 p14 k15 k16 b17 w18) → ∀ (y29 : Bool → World → Prop), (∀ (b30 : Bool) (w31 : World), bcase b30 (∀ (k32 :
  Nat), appendP false [] [k32] [k32] w31 p4 k5 k6 1 (spl (reps [Value.int IntKind.i64 (0 : Int)] 1) 0 [Value.int IntKind.i64 n]) 1 8
  [Value.int IntKind.i64 (0 : Int)] fun (w33 : World) (p34 : Option Addr) (k35 k36 : Nat) => y13 p34 k35 k36 true w33) (y13 p4 k5 k6 b7 w31)
  → y29 b30 w31) → bcase (!b7) (∃ (ad39 : Addr), lA = some ad39 ∧ ((0 : Int) ≤ n8 ∧ n8 < (lL : Int)) ∧ ∃ (n40 : Int), World.cell? w9
  (Addr.add ad39 (Int.toNat n8 * 1)) = some (Value.int IntKind.i64 n40) ∧ y29 (decide (n < n40)) w9) (y29 false w9))) (∀ (y41 : Option Addr
  → Nat → Nat → World → Prop), (∀ (p42 : Option Addr) (k43 k44 : Nat) (w45 : World), R (Ending.returned (Value.slice p42 k43 k44)) w45 → y41
  p42 k43 k44 w45) → bcase (!b7) (∀ (k48 : Nat), appendP false [] [k48] [k48] w9 p4 k5 k6 1 (spl (reps [Value.int IntKind.i64 (0 : Int)] 1)
  0 [Value.int IntKind.i64 n]) 1 8 [Value.int IntKind.i64 (0 : Int)] fun (w49 : World) (p50 : Option Addr) (k51 k52 : Nat) => y41 p50 k51
  k52 w49) (y41 p4 k5 k6 w9))

theorem rhizomeref16_rising.link {lA : Option Addr} {lL lC : Nat} {n : Int} {R : Ending → World → Prop} {w : World} (h : rhizomeref16_rising.vc lA lL lC n R w) : Calls Go.Proofs.Try.prog 34 #[.slice lA lL lC, .int .i64 n] w R :=
  calls_of pf (fn := Go.Proofs.Try.f34) (ann := .s (.n) (.s (.n) (.s (.n) (.s (.s (.n) (.b (.l ⟨[], [], [], [(5, .l (.sl)), (6, .l (.b)), (10, .l (.i .i64))], []⟩ (.s (.n) (.s (.c (.n) (.n)) (.s (.b (.s (.n) (.s (.s (.n) (.c (.s (.n) (.n)) (.n))) (.j ⟨[], [], [], [(5, .l (.sl)), (6, .l (.b))], []⟩ (.j ⟨[], [], [], [(29, .l (.b))], []⟩ (.n) (.c (.s (.n) (.n)) (.n))) (.n))))) (.n))))))) (.j ⟨[], [], [], [(5, .l (.sl))], []⟩ (.s (.n) (.c (.n) (.n))) (.s (.n) (.n))))))) (mp := false) (args := [.v (.slice lA lL lC), .v (.int .i64 n)]) Go.Proofs.Try.func34 (c := Go.Proofs.Try.f34.body.getD .skip) (by kernel_rfl) (by kernel_rfl) (Eq.mp (by kernel_rfl) h)
theorem rhizomeref16_rising.body : BodyOk Go.Proofs.Try.prog 34 := ⟨Go.Proofs.Try.f34, Go.Proofs.Try.func34, by kernel_rfl, pf.ng _ _ Go.Proofs.Try.func34⟩

/-! ### rhizome/rhizomeref16.At: function 36 -/
def rhizomeref16_At.vc (tHeldA : Option Addr) (tHeldL tHeldC : Nat) (tQueueA : Option Addr) (tQueueL tQueueC : Nat) (s : Int) (R : Ending →
  World → Prop) (w : World) : Prop := ∀ (k1 : Nat), ∃ (y2 : Nat → Int → World → Prop), ∃ (k3 : Nat), (∀ (w4 : World), Step w w4 [] [k1] → y2
  k3 (0 : Int) w4) ∧ ∀ (k6 : Nat) (n7 : Int) (w8 : World), y2 k6 n7 w8 → bcase (decide (n7 < (tQueueL : Int))) (∃ (ad10 : Addr), tQueueA =
  some ad10 ∧ ((0 : Int) ≤ n7 ∧ n7 < (tQueueL : Int)) ∧ ∃ (n11 : Int), World.cell? w8 (Addr.add (Addr.add ad10 (Int.toNat n7 * 3)) 0) = some
  (Value.int IntKind.i64 n11) ∧ bcase (decide (n11 = s)) (R (Ending.returned (Value.int IntKind.i64 n7)) w8) (∃ (k12 : Nat), k12 < k6 ∧ y2
  k12 (IntKind.wrap IntKind.i64 (n7 + (1 : Int))) w8)) (R (Ending.returned (Value.int IntKind.i64 (-1 : Int))) w8)

theorem rhizomeref16_At.link {tHeldA : Option Addr} {tHeldL tHeldC : Nat} {tQueueA : Option Addr} {tQueueL tQueueC : Nat} {s : Int} {R : Ending → World → Prop} {w : World} (h : rhizomeref16_At.vc tHeldA tHeldL tHeldC tQueueA tQueueL tQueueC s R w) : Calls Go.Proofs.Try.prog 36 #[(.agg #[.slice tHeldA tHeldL tHeldC, .slice tQueueA tQueueL tQueueC] : Value), .int .i64 s] w R :=
  calls_of pf (fn := Go.Proofs.Try.f36) (ann := .s (.n) (.s (.s (.n) (.b (.l ⟨[], [], [0], [(9, .l (.i .i64))], []⟩ (.s (.n) (.s (.c (.n) (.n)) (.s (.b (.s (.n) (.s (.n) (.c (.s (.n) (.n)) (.n))))) (.n))))))) (.s (.n) (.n)))) (mp := false) (args := [.v (.agg #[.slice tHeldA tHeldL tHeldC, .slice tQueueA tQueueL tQueueC]), .v (.int .i64 s)]) Go.Proofs.Try.func36 (c := Go.Proofs.Try.f36.body.getD .skip) (by kernel_rfl) (by kernel_rfl) (Eq.mp (by kernel_rfl) h)
theorem rhizomeref16_At.body : BodyOk Go.Proofs.Try.prog 36 := ⟨Go.Proofs.Try.f36, Go.Proofs.Try.func36, by kernel_rfl, pf.ng _ _ Go.Proofs.Try.func36⟩

/-! ### rhizome/rhizomeref16.Holds: function 37 -/
def rhizomeref16_Holds.vc (tHeldA : Option Addr) (tHeldL tHeldC : Nat) (tQueueA : Option Addr) (tQueueL tQueueC : Nat) (s : Int) (item :
  Int) (R : Ending → World → Prop) (w : World) : Prop := ∀ (k1 : Nat), ∃ (y2 : Nat → Int → World → Prop), ∃ (k3 : Nat), (∀ (w4 : World),
  Step w w4 [] [k1] → y2 k3 (0 : Int) w4) ∧ ∀ (k6 : Nat) (n7 : Int) (w8 : World), y2 k6 n7 w8 → bcase (decide (n7 < (tHeldL : Int))) (∀ (y10
  : Bool → World → Prop), (∀ (b11 : Bool) (w12 : World), bcase b11 (∃ (ad13 : Addr), tHeldA = some ad13 ∧ ((0 : Int) ≤ n7 ∧ n7 < (tHeldL :
  Int)) ∧ ∃ (b14 : Bool), World.cell? w12 (Addr.add (Addr.add ad13 (Int.toNat n7 * 3)) 2) = some (Value.bool b14) ∧ ∀ (w15 : World), Step
  w12 w15 [] [] → R (Ending.returned (Value.tuple { toList := [Value.bool true, Value.bool b14] })) w15) (∃ (k17 : Nat), k17 < k6 ∧ y2 k17
  (IntKind.wrap IntKind.i64 (n7 + (1 : Int))) w12) → y10 b11 w12) → ∃ (ad20 : Addr), tHeldA = some ad20 ∧ ((0 : Int) ≤ n7 ∧ n7 < (tHeldL :
  Int)) ∧ ∃ (n21 : Int), World.cell? w8 (Addr.add (Addr.add ad20 (Int.toNat n7 * 3)) 0) = some (Value.int IntKind.i64 n21) ∧ bcase (decide
  (n21 = s)) (∃ (ad22 : Addr), tHeldA = some ad22 ∧ ((0 : Int) ≤ n7 ∧ n7 < (tHeldL : Int)) ∧ ∃ (n23 : Int), World.cell? w8 (Addr.add
  (Addr.add ad22 (Int.toNat n7 * 3)) 1) = some (Value.int IntKind.i64 n23) ∧ y10 (decide (n23 = item)) w8) (y10 false w8)) (R
  (Ending.returned (Value.tuple { toList := [Value.bool false, Value.bool false] })) w8)

theorem rhizomeref16_Holds.link {tHeldA : Option Addr} {tHeldL tHeldC : Nat} {tQueueA : Option Addr} {tQueueL tQueueC : Nat} {s : Int} {item : Int} {R : Ending → World → Prop} {w : World} (h : rhizomeref16_Holds.vc tHeldA tHeldL tHeldC tQueueA tQueueL tQueueC s item R w) : Calls Go.Proofs.Try.prog 37 #[(.agg #[.slice tHeldA tHeldL tHeldC, .slice tQueueA tQueueL tQueueC] : Value), .int .i64 s, .int .i64 item] w R :=
  calls_of pf (fn := Go.Proofs.Try.f37) (ann := .s (.n) (.s (.s (.n) (.b (.l ⟨[], [], [0], [(12, .l (.i .i64))], []⟩ (.s (.n) (.s (.c (.n) (.n)) (.s (.b (.s (.n) (.j ⟨[], [], [0], [(32, .l (.b))], []⟩ (.n) (.c (.s (.d [0]) (.n)) (.n))))) (.n))))))) (.s (.n) (.n)))) (mp := false) (args := [.v (.agg #[.slice tHeldA tHeldL tHeldC, .slice tQueueA tQueueL tQueueC]), .v (.int .i64 s), .v (.int .i64 item)]) Go.Proofs.Try.func37 (c := Go.Proofs.Try.f37.body.getD .skip) (by kernel_rfl) (by kernel_rfl) (Eq.mp (by kernel_rfl) h)
theorem rhizomeref16_Holds.body : BodyOk Go.Proofs.Try.prog 37 := ⟨Go.Proofs.Try.f37, Go.Proofs.Try.func37, by kernel_rfl, pf.ng _ _ Go.Proofs.Try.func37⟩

/-! ### rhizome/rhizomeref16.Fit: function 38 -/
def rhizomeref16_Fit.vc (tHeldA : Option Addr) (tHeldL tHeldC : Nat) (tQueueA : Option Addr) (tQueueL tQueueC : Nat) (lS : Int) (lItem :
  Int) (lAlone : Bool) (R : Ending → World → Prop) (w : World) : Prop := ∀ (k1 k2 : Nat), ∃ (y3 : Nat → Int → World → Prop), ∃ (k4 : Nat),
  (∀ (w5 : World), Step w w5 [] [k2, k1] → y3 k4 (0 : Int) w5) ∧ ∀ (k7 : Nat) (n8 : Int) (w9 : World), y3 k7 n8 w9 → bcase (decide (n8 <
  (tHeldL : Int))) (∃ (ad11 : Addr), tHeldA = some ad11 ∧ ((0 : Int) ≤ n8 ∧ n8 < (tHeldL : Int)) ∧ ∃ (n12 : Int), ∃ (n13 : Int), ∃ (b14 :
  Bool), (World.cell? w9 (Addr.add (Addr.add ad11 (Int.toNat n8 * 3)) 0) = some (Value.int IntKind.i64 n12) ∧ World.cell? w9 (Addr.add
  (Addr.add ad11 (Int.toNat n8 * 3)) 1) = some (Value.int IntKind.i64 n13) ∧ World.cell? w9 (Addr.add (Addr.add ad11 (Int.toNat n8 * 3)) 2)
  = some (Value.bool b14) ∧ True) ∧ ∀ (k15 : Nat) (y16 : Bool → World → Prop), (∀ (b17 : Bool) (w18 : World), bcase b17 (R (Ending.returned
  (Value.bool false)) w18) (∃ (k19 : Nat), k19 < k7 ∧ y3 k19 (IntKind.wrap IntKind.i64 (n8 + (1 : Int))) w18) → y16 b17 w18) → bcase (decide
  (n13 = lItem)) (bcase (!decide (n12 = lS)) (bcase b14 (∀ (w22 : World), Step w9 w22 [] [k15] → y16 true w22) (∀ (w24 : World), Step w9 w24
  [] [k15] → y16 lAlone w24)) (∀ (w26 : World), Step w9 w26 [] [k15] → y16 false w26)) (∀ (w28 : World), Step w9 w28 [] [k15] → y16 false
  w28)) (R (Ending.returned (Value.bool true)) w9)

theorem rhizomeref16_Fit.link {tHeldA : Option Addr} {tHeldL tHeldC : Nat} {tQueueA : Option Addr} {tQueueL tQueueC : Nat} {lS : Int} {lItem : Int} {lAlone : Bool} {R : Ending → World → Prop} {w : World} (h : rhizomeref16_Fit.vc tHeldA tHeldL tHeldC tQueueA tQueueL tQueueC lS lItem lAlone R w) : Calls Go.Proofs.Try.prog 38 #[(.agg #[.slice tHeldA tHeldL tHeldC, .slice tQueueA tQueueL tQueueC] : Value), (.agg #[.int .i64 lS, .int .i64 lItem, .bool lAlone] : Value)] w R :=
  calls_of pf (fn := Go.Proofs.Try.f38) (ann := .s (.n) (.s (.s (.n) (.b (.l ⟨[], [], [0, 1], [(10, .l (.i .i64))], []⟩ (.s (.n) (.s (.c (.n) (.n)) (.s (.b (.s (.n) (.s (.n) (.j ⟨[], [], [0, 1], [(37, .l (.b))], []⟩ (.n) (.c (.s (.n) (.n)) (.n)))))) (.n))))))) (.s (.n) (.n)))) (mp := false) (args := [.v (.agg #[.slice tHeldA tHeldL tHeldC, .slice tQueueA tQueueL tQueueC]), .v (.agg #[.int .i64 lS, .int .i64 lItem, .bool lAlone])]) Go.Proofs.Try.func38 (c := Go.Proofs.Try.f38.body.getD .skip) (by kernel_rfl) (by kernel_rfl) (Eq.mp (by kernel_rfl) h)
theorem rhizomeref16_Fit.body : BodyOk Go.Proofs.Try.prog 38 := ⟨Go.Proofs.Try.f38, Go.Proofs.Try.func38, by kernel_rfl, pf.ng _ _ Go.Proofs.Try.func38⟩

/-! ### rhizome/rhizomeref16.hold: function 39 -/
def rhizomeref16_hold.vc (tHeldA : Option Addr) (tHeldL tHeldC : Nat) (tQueueA : Option Addr) (tQueueL tQueueC : Nat) (lS : Int) (lItem :
  Int) (lAlone : Bool) (R : Ending → World → Prop) (w : World) : Prop := ∀ (k1 k2 k3 : Nat), ∃ (y4 : Nat → Option Addr → Nat → Nat → Int →
  Int → Int → Bool → World → Prop), ∃ (k5 : Nat), (∀ (w6 : World), Step w w6 [] [k3, k2, k1] → y4 k5 none 0 0 (0 : Int) lS lItem lAlone w6)
  ∧ ∀ (k8 : Nat) (p9 : Option Addr) (k10 k11 : Nat) (n12 n13 n14 : Int) (b15 : Bool) (w16 : World), y4 k8 p9 k10 k11 n12 n13 n14 b15 w16 →
  bcase (decide (n12 < (tHeldL : Int))) (∀ (y18 : Option Addr → Nat → Nat → Int → Int → Bool → World → Prop), (∀ (p19 : Option Addr) (k20
  k21 : Nat) (n22 n23 : Int) (b24 : Bool) (w25 : World), (∃ (k26 : Nat), k26 < k8 ∧ y4 k26 p19 k20 k21 (IntKind.wrap IntKind.i64 (n12 + (1 :
  Int))) n22 n23 b24 w25) → y18 p19 k20 k21 n22 n23 b24 w25) → ∃ (ad29 : Addr), tHeldA = some ad29 ∧ ((0 : Int) ≤ n12 ∧ n12 < (tHeldL :
  Int)) ∧ ∃ (n30 : Int), ∃ (n31 : Int), ∃ (b32 : Bool), (World.cell? w16 (Addr.add (Addr.add ad29 (Int.toNat n12 * 3)) 0) = some (Value.int
  IntKind.i64 n30) ∧ World.cell? w16 (Addr.add (Addr.add ad29 (Int.toNat n12 * 3)) 1) = some (Value.int IntKind.i64 n31) ∧ World.cell? w16
  (Addr.add (Addr.add ad29 (Int.toNat n12 * 3)) 2) = some (Value.bool b32) ∧ True) ∧ ∀ (k33 : Nat) (y34 : Bool → World → Prop), (∀ (b35 :
  Bool) (w36 : World), bcase b35 (∀ (y37 : Int → Int → Bool → World → Prop), (∀ (n38 n39 : Int) (b40 : Bool) (w41 : World), y18 p9 k10 k11
  n38 n39 b40 w41 → y37 n38 n39 b40 w41) → bcase b15 (∀ (w44 : World), Step w36 w44 [k2] [] → y37 n13 n14 true w44) (∀ (w46 : World), Step
  w36 w46 [k2] [] → y37 n13 n14 b32 w46)) (∀ (k48 : Nat), appendP false [] [k48] [k1, k2, k3, k33, k48] w36 p9 k10 k11 1 (spl (reps
  [Value.int IntKind.i64 (0 : Int), Value.int IntKind.i64 (0 : Int), Value.bool false] 1) 0 (List.take 3 (List.drop 0 (sets [Value.int
  IntKind.i64 (0 : Int), Value.int IntKind.i64 (0 : Int), Value.bool false] 0 [Value.int IntKind.i64 n30, Value.int IntKind.i64 n31,
  Value.bool b32])))) 3 24 [Value.int IntKind.i64 (0 : Int), Value.int IntKind.i64 (0 : Int), Value.bool false] fun (w49 : World) (p50 :
  Option Addr) (k51 k52 : Nat) => y18 p50 k51 k52 n13 n14 b15 w49) → y34 b35 w36) → bcase (decide (n30 = n13)) (∀ (w55 : World), Step w16
  w55 [] [k33] → y34 (decide (n31 = n14)) w55) (∀ (w57 : World), Step w16 w57 [] [k33] → y34 false w57)) (∀ (k59 : Nat), appendP false []
  [k59] [k1, k2, k3, k59] w16 p9 k10 k11 1 (spl (reps [Value.int IntKind.i64 (0 : Int), Value.int IntKind.i64 (0 : Int), Value.bool false]
  1) 0 [Value.int IntKind.i64 n13, Value.int IntKind.i64 n14, Value.bool b15]) 3 24 [Value.int IntKind.i64 (0 : Int), Value.int IntKind.i64
  (0 : Int), Value.bool false] fun (w60 : World) (p61 : Option Addr) (k62 k63 : Nat) => ∀ (w64 : World), Step w60 w64 [k3, k1] [] → R
  (Ending.returned (Value.agg { toList := List.take 2 (List.drop 0 (sets [Value.slice none 0 0, Value.slice none 0 0] 0 (List.take 2 (List.drop 0 (sets [Value.slice tHeldA tHeldL tHeldC, Value.slice tQueueA tQueueL tQueueC] 0 [Value.slice p61 k62 k63]))))) }))
  w64)

theorem rhizomeref16_hold.link {tHeldA : Option Addr} {tHeldL tHeldC : Nat} {tQueueA : Option Addr} {tQueueL tQueueC : Nat} {lS : Int} {lItem : Int} {lAlone : Bool} {R : Ending → World → Prop} {w : World} (h : rhizomeref16_hold.vc tHeldA tHeldL tHeldC tQueueA tQueueL tQueueC lS lItem lAlone R w) : Calls Go.Proofs.Try.prog 39 #[(.agg #[.slice tHeldA tHeldL tHeldC, .slice tQueueA tQueueL tQueueC] : Value), (.agg #[.int .i64 lS, .int .i64 lItem, .bool lAlone] : Value)] w R :=
  calls_of pf (fn := Go.Proofs.Try.f39) (ann := .s (.n) (.s (.n) (.s (.s (.n) (.b (.l ⟨[], [], [0, 2], [(5, .l (.sl)), (11, .l (.i .i64))], [(1, [.i .i64, .i .i64, .b])]⟩ (.s (.n) (.s (.c (.n) (.n)) (.j ⟨[], [], [0, 2], [(5, .l (.sl))], [(1, [.i .i64, .i .i64, .b])]⟩ (.b (.s (.n) (.s (.n) (.s (.j ⟨[], [], [0, 1, 2, 3], [(30, .l (.b))], []⟩ (.n) (.c (.j ⟨[], [], [0, 2], [], [(1, [.i .i64, .i .i64, .b])]⟩ (.n) (.n)) (.n))) (.n))))) (.n))))))) (.s (.n) (.s (.n) (.n)))))) (mp := false) (args := [.v (.agg #[.slice tHeldA tHeldL tHeldC, .slice tQueueA tQueueL tQueueC]), .v (.agg #[.int .i64 lS, .int .i64 lItem, .bool lAlone])]) Go.Proofs.Try.func39 (c := Go.Proofs.Try.f39.body.getD .skip) (by kernel_rfl) (by kernel_rfl) (Eq.mp (by kernel_rfl) h)
theorem rhizomeref16_hold.body : BodyOk Go.Proofs.Try.prog 39 := ⟨Go.Proofs.Try.f39, Go.Proofs.Try.func39, by kernel_rfl, pf.ng _ _ Go.Proofs.Try.func39⟩

end Go.Proofs.Ytnimejocaaekaaa.VC
