/- What is to be shown of functions' texts, printed by a program of this session's repo; that it gives the functions' contracts is checked by the kernel. -/
import Derived.Test.YtnplopiconabiaaProg
import Derived.Test.YtnplopiconabiaaPf
namespace Go.Proofs.Ytnplopiconabiaa.VC
open Go Go.V
set_option maxRecDepth 1000000
set_option linter.unusedVariables false

/-! ### rhizome/rhizomeref13.Pairs: function 16 -/
def rhizomeref13_Pairs.vc (label : ByteArray) (edgesA : Option Addr) (edgesL edgesC : Nat) (R : Ending → World → Prop) (w : World) : Prop :=
  Calls Proofs.Try.prog (42 : Nat) { toList := [Value.string label] } w fun (e1 : Ending) (w2 : World) => ∃ (b3 : Bool), e1 =
  Ending.returned (Value.bool b3) ∧ bcase (!b3) (R (Ending.returned (Value.tuple { toList := [Value.slice none 0 0, Value.int IntKind.i64 (1 : Int)] }))
  w2) (Calls Proofs.Try.prog (44 : Nat) { toList := [Value.string label, Value.slice edgesA edgesL edgesC] } w2 fun (e4 : Ending) (w5 :
  World) => ∃ (p6 : Option Addr), ∃ (k7 : Nat), ∃ (k8 : Nat), e4 = Ending.returned (Value.slice p6 k7 k8) ∧ Calls Proofs.Try.prog (43 : Nat)
  { toList := [Value.slice p6 k7 k8] } w5 fun (e9 : Ending) (w10 : World) => ∃ (p11 : Option Addr), ∃ (k12 : Nat), ∃ (k13 : Nat), e9 =
  Ending.returned (Value.slice p11 k12 k13) ∧ bcase (decide ((4000 : Int) < (k12 : Int))) (R (Ending.returned (Value.tuple { toList := [Value.slice none 0 0, Value.int IntKind.i64 (5 : Int)] }))
  w10) (∃ (y14 : Nat → Option Addr → Nat → Nat → Int → World → Prop), ∃ (k15 : Nat), y14 k15 none 0 0 (0 : Int) w10 ∧ ∀ (k16 : Nat) (p17 :
  Option Addr) (k18 k19 : Nat) (n20 : Int) (w21 : World), y14 k16 p17 k18 k19 n20 w21 → bcase (decide (n20 < (k12 : Int))) (∃ (ad23 : Addr),
  p11 = some ad23 ∧ ((0 : Int) ≤ n20 ∧ n20 < (k12 : Int)) ∧ ∃ (n24 : Int), World.cell? w21 (Addr.add (Addr.add ad23 (Int.toNat n20 * 2)) 0)
  = some (Value.int IntKind.i64 n24) ∧ ∃ (ad25 : Addr), p11 = some ad25 ∧ ((0 : Int) ≤ n20 ∧ n20 < (k12 : Int)) ∧ ∃ (n26 : Int), World.cell?
  w21 (Addr.add (Addr.add ad25 (Int.toNat n20 * 2)) 1) = some (Value.int IntKind.i64 n26) ∧ ∀ (k27 : Nat) (w28 : World), Step w21 w28 []
  [k27] → Blk w28 k27 (spl (spl (reps [Value.int IntKind.i64 (0 : Int)] 2) 0 [Value.int IntKind.i64 n24]) 1 [Value.int IntKind.i64 n26]) → ∀
  (k31 : Nat), appendP false [] [k31] [k31] w28 p17 k18 k19 1 (spl (reps [Value.slice none 0 0] 1) 0 [Value.slice (some
  { block := k27, off := 0 }) 2 2]) 1 24 [Value.slice none 0 0] fun (w32 : World) (p33 : Option Addr) (k34 k35 : Nat) => ∃ (k36 : Nat), k36
  < k16 ∧ y14 k36 p33 k34 k35 (IntKind.wrap IntKind.i64 (n20 + (1 : Int))) w32) (Calls Proofs.Try.prog (45 : Nat) { toList := [Value.slice p17 k18 k19] }
  w21 fun (e37 : Ending) (w38 : World) => ∃ (p39 : Option Addr), ∃ (k40 : Nat), ∃ (k41 : Nat), e37 = Ending.returned (Value.slice p39 k40
  k41) ∧ R (Ending.returned (Value.tuple { toList := [Value.slice p39 k40 k41, Value.int IntKind.i64 (0 : Int)] })) w38)))

theorem rhizomeref13_Pairs.link {label : ByteArray} {edgesA : Option Addr} {edgesL edgesC : Nat} {R : Ending → World → Prop} {w : World} (h : rhizomeref13_Pairs.vc label edgesA edgesL edgesC R w) : Calls Go.Proofs.Try.prog 16 #[.string label, .slice edgesA edgesL edgesC] w R :=
  calls_of pf (fn := Go.Proofs.Try.f16) (ann := .s (.n) (.s (.s (.n) (.c (.s (.n) (.n)) (.n))) (.s (.n) (.s (.s (.n) (.c (.s (.n) (.n)) (.n))) (.s (.n) (.s (.s (.n) (.b (.l ⟨[], [], [], [(7, .l (.sl)), (21, .l (.i .i64))], []⟩ (.s (.n) (.s (.c (.n) (.n)) (.s (.b (.s (.n) (.n))) (.n))))))) (.s (.n) (.n)))))))) (mp := false) (args := [.v (.string label), .v (.slice edgesA edgesL edgesC)]) Go.Proofs.Try.func16 (c := Go.Proofs.Try.f16.body.getD .skip) (by kernel_rfl) (by kernel_rfl) (Eq.mp (by kernel_rfl) h)
theorem rhizomeref13_Pairs.body : BodyOk Go.Proofs.Try.prog 16 := ⟨Go.Proofs.Try.f16, Go.Proofs.Try.func16, by kernel_rfl, pf.ng _ _ Go.Proofs.Try.func16⟩

/-! ### rhizome/rhizomeref13.Span: function 43 -/
def rhizomeref13_Span.vc (edgesA : Option Addr) (edgesL edgesC : Nat) (R : Ending → World → Prop) (w : World) : Prop := ∀ (k1 : Nat) (w2 :
  World), Step w w2 [] [k1] → Blk w2 k1 (reps [Value.int IntKind.i64 (0 : Int), Value.int IntKind.i64 (0 : Int)] 0) → ∃ (l5 : List Value),
  List.length l5 = edgesL * 2 ∧ Row w2 edgesA l5 ∧ appendP true [] [] [] w2 (some { block := k1, off := 0 }) 0 0 edgesL l5 2 16 [Value.int
  IntKind.i64 (0 : Int), Value.int IntKind.i64 (0 : Int)] fun (w6 : World) (p7 : Option Addr) (k8 k9 : Nat) => ∃ (y10 : Nat → Option Addr →
  Nat → Nat → Int → World → Prop), ∃ (k11 : Nat), y10 k11 p7 k8 k9 (0 : Int) w6 ∧ ∀ (k12 : Nat) (p13 : Option Addr) (k14 k15 : Nat) (n16 :
  Int) (w17 : World), y10 k12 p13 k14 k15 n16 w17 → bcase (decide (n16 < (k14 : Int))) (∃ (y19 : Nat → Option Addr → Nat → Nat → Int → World
  → Prop), ∃ (k20 : Nat), y19 k20 p13 k14 k15 (0 : Int) w17 ∧ ∀ (k21 : Nat) (p22 : Option Addr) (k23 k24 : Nat) (n25 : Int) (w26 : World),
  y19 k21 p22 k23 k24 n25 w26 → bcase (decide (n25 < (edgesL : Int))) (∀ (y28 : Option Addr → Nat → Nat → World → Prop), (∀ (p29 : Option
  Addr) (k30 k31 : Nat) (w32 : World), (∃ (k33 : Nat), k33 < k21 ∧ y19 k33 p29 k30 k31 (IntKind.wrap IntKind.i64 (n25 + (1 : Int))) w32) →
  y28 p29 k30 k31 w32) → ∃ (ad36 : Addr), edgesA = some ad36 ∧ ((0 : Int) ≤ n25 ∧ n25 < (edgesL : Int)) ∧ ∃ (n37 : Int), World.cell? w26
  (Addr.add (Addr.add ad36 (Int.toNat n25 * 2)) 0) = some (Value.int IntKind.i64 n37) ∧ ∃ (ad38 : Addr), p22 = some ad38 ∧ ((0 : Int) ≤ n16
  ∧ n16 < (k23 : Int)) ∧ ∃ (n39 : Int), World.cell? w26 (Addr.add (Addr.add ad38 (Int.toNat n16 * 2)) 1) = some (Value.int IntKind.i64 n39)
  ∧ ∀ (k40 : Nat) (y41 : Bool → World → Prop), (∀ (b42 : Bool) (w43 : World), bcase b42 (∀ (k44 : Nat), appendP false [] [k44] [k40, k44]
  w43 p22 k23 k24 1 (spl (reps [Value.int IntKind.i64 (0 : Int), Value.int IntKind.i64 (0 : Int)] 1) 0 (List.take 2 (List.drop 0 (sets
  [Value.int IntKind.i64 (0 : Int), Value.int IntKind.i64 (0 : Int)] 0 (spl (spl [Value.int IntKind.i64 (0 : Int), Value.int IntKind.i64 (0
  : Int)] 0 [Value.int IntKind.i64 n37]) 1 [Value.int IntKind.i64 n39]))))) 2 16 [Value.int IntKind.i64 (0 : Int), Value.int IntKind.i64 (0
  : Int)] fun (w45 : World) (p46 : Option Addr) (k47 k48 : Nat) => y28 p46 k47 k48 w45) (y28 p22 k23 k24 w43) → y41 b42 w43) → ∃ (ad51 :
  Addr), edgesA = some ad51 ∧ ((0 : Int) ≤ n25 ∧ n25 < (edgesL : Int)) ∧ ∃ (n52 : Int), World.cell? w26 (Addr.add (Addr.add ad51 (Int.toNat
  n25 * 2)) 1) = some (Value.int IntKind.i64 n52) ∧ ∃ (ad53 : Addr), p22 = some ad53 ∧ ((0 : Int) ≤ n16 ∧ n16 < (k23 : Int)) ∧ ∃ (n54 :
  Int), World.cell? w26 (Addr.add (Addr.add ad53 (Int.toNat n16 * 2)) 0) = some (Value.int IntKind.i64 n54) ∧ bcase (decide (n52 = n54)) (∀
  (w55 : World), Step w26 w55 [] [k40] → Calls Proofs.Try.prog (52 : Nat) { toList := [Value.slice p22 k23 k24, Value.agg { toList := List.take 2 (List.drop 0 (sets [Value.int IntKind.i64 (0 : Int), Value.int IntKind.i64 (0 : Int)] 0 (spl (spl [Value.int IntKind.i64 (0 : Int), Value.int IntKind.i64 (0 : Int)] 0 [Value.int IntKind.i64 n37]) 1 [Value.int IntKind.i64 n39]))) }] }
  w55 fun (e57 : Ending) (w58 : World) => ∃ (b59 : Bool), e57 = Ending.returned (Value.bool b59) ∧ Keep [k40] w55 w58 ∧ y41 (!b59) w58) (∀
  (w60 : World), Step w26 w60 [] [k40] → y41 false w60)) (∃ (k62 : Nat), k62 < k12 ∧ y10 k62 p22 k23 k24 (IntKind.wrap IntKind.i64 (n16 + (1
  : Int))) w26)) (R (Ending.returned (Value.slice p13 k14 k15)) w17)

theorem rhizomeref13_Span.link {edgesA : Option Addr} {edgesL edgesC : Nat} {R : Ending → World → Prop} {w : World} (h : rhizomeref13_Span.vc edgesA edgesL edgesC R w) : Calls Go.Proofs.Try.prog 43 #[.slice edgesA edgesL edgesC] w R :=
  calls_of pf (fn := Go.Proofs.Try.f43) (ann := .s (.n) (.s (.n) (.s (.s (.n) (.b (.l ⟨[], [], [], [(3, .l (.sl)), (4, .l (.i .i64))], []⟩ (.s (.s (.n) (.c (.n) (.n))) (.s (.b (.s (.n) (.b (.l ⟨[], [], [], [(3, .l (.sl)), (18, .l (.i .i64))], []⟩ (.s (.n) (.s (.c (.n) (.n)) (.j ⟨[], [], [], [(3, .l (.sl))], []⟩ (.b (.s (.n) (.s (.n) (.j ⟨[], [], [1], [(48, .l (.b))], []⟩ (.d [1]) (.c (.n) (.n)))))) (.n)))))))) (.n)))))) (.s (.n) (.n))))) (mp := false) (args := [.v (.slice edgesA edgesL edgesC)]) Go.Proofs.Try.func43 (c := Go.Proofs.Try.f43.body.getD .skip) (by kernel_rfl) (by kernel_rfl) (Eq.mp (by kernel_rfl) h)
theorem rhizomeref13_Span.body : BodyOk Go.Proofs.Try.prog 43 := ⟨Go.Proofs.Try.f43, Go.Proofs.Try.func43, by kernel_rfl, pf.ng _ _ Go.Proofs.Try.func43⟩

/-! ### rhizome/rhizomeref13.Edges: function 44 -/
def rhizomeref13_Edges.vc (label : ByteArray) (edgesA : Option Addr) (edgesL edgesC : Nat) (R : Ending → World → Prop) (w : World) : Prop :=
  ∃ (y1 : Nat → Option Addr → Nat → Nat → Int → World → Prop), ∃ (k2 : Nat), y1 k2 none 0 0 (0 : Int) w ∧ ∀ (k3 : Nat) (p4 : Option Addr)
  (k5 k6 : Nat) (n7 : Int) (w8 : World), y1 k3 p4 k5 k6 n7 w8 → bcase (decide (n7 < (edgesL : Int))) (∀ (y10 : Option Addr → Nat → Nat →
  World → Prop), (∀ (p11 : Option Addr) (k12 k13 : Nat) (w14 : World), (∃ (k15 : Nat), k15 < k3 ∧ y1 k15 p11 k12 k13 (IntKind.wrap
  IntKind.i64 (n7 + (1 : Int))) w14) → y10 p11 k12 k13 w14) → ∃ (ad18 : Addr), edgesA = some ad18 ∧ ((0 : Int) ≤ n7 ∧ n7 < (edgesL : Int)) ∧
  ∃ (n19 : Int), World.cell? w8 (Addr.add (Addr.add ad18 (Int.toNat n7 * 3)) 0) = some (Value.int IntKind.i64 n19) ∧ ∃ (ad20 : Addr), edgesA
  = some ad20 ∧ ((0 : Int) ≤ n7 ∧ n7 < (edgesL : Int)) ∧ ∃ (n21 : Int), World.cell? w8 (Addr.add (Addr.add ad20 (Int.toNat n7 * 3)) 2) =
  some (Value.int IntKind.i64 n21) ∧ ∀ (k22 : Nat) (y23 : Bool → World → Prop), (∀ (b24 : Bool) (w25 : World), bcase b24 (∀ (k26 : Nat),
  appendP false [] [k26] [k22, k26] w25 p4 k5 k6 1 (spl (reps [Value.int IntKind.i64 (0 : Int), Value.int IntKind.i64 (0 : Int)] 1) 0
  (List.take 2 (List.drop 0 (sets [Value.int IntKind.i64 (0 : Int), Value.int IntKind.i64 (0 : Int)] 0 (spl (spl [Value.int IntKind.i64 (0 :
  Int), Value.int IntKind.i64 (0 : Int)] 0 [Value.int IntKind.i64 n19]) 1 [Value.int IntKind.i64 n21]))))) 2 16 [Value.int IntKind.i64 (0 :
  Int), Value.int IntKind.i64 (0 : Int)] fun (w27 : World) (p28 : Option Addr) (k29 k30 : Nat) => y10 p28 k29 k30 w27) (y10 p4 k5 k6 w25) →
  y23 b24 w25) → ∃ (ad33 : Addr), edgesA = some ad33 ∧ ((0 : Int) ≤ n7 ∧ n7 < (edgesL : Int)) ∧ ∃ (s34 : ByteArray), World.cell? w8
  (Addr.add (Addr.add ad33 (Int.toNat n7 * 3)) 1) = some (Value.string s34) ∧ bcase (decide (s34 = label)) (∀ (w35 : World), Step w8 w35 []
  [k22] → Calls Proofs.Try.prog (52 : Nat) { toList := [Value.slice p4 k5 k6, Value.agg { toList := List.take 2 (List.drop 0 (sets [Value.int IntKind.i64 (0 : Int), Value.int IntKind.i64 (0 : Int)] 0 (spl (spl [Value.int IntKind.i64 (0 : Int), Value.int IntKind.i64 (0 : Int)] 0 [Value.int IntKind.i64 n19]) 1 [Value.int IntKind.i64 n21]))) }] }
  w35 fun (e37 : Ending) (w38 : World) => ∃ (b39 : Bool), e37 = Ending.returned (Value.bool b39) ∧ Keep [k22] w35 w38 ∧ y23 (!b39) w38) (∀
  (w40 : World), Step w8 w40 [] [k22] → y23 false w40)) (R (Ending.returned (Value.slice p4 k5 k6)) w8)

theorem rhizomeref13_Edges.link {label : ByteArray} {edgesA : Option Addr} {edgesL edgesC : Nat} {R : Ending → World → Prop} {w : World} (h : rhizomeref13_Edges.vc label edgesA edgesL edgesC R w) : Calls Go.Proofs.Try.prog 44 #[.string label, .slice edgesA edgesL edgesC] w R :=
  calls_of pf (fn := Go.Proofs.Try.f44) (ann := .s (.n) (.s (.n) (.s (.s (.n) (.b (.l ⟨[], [], [], [(5, .l (.sl)), (10, .l (.i .i64))], []⟩ (.s (.n) (.s (.c (.n) (.n)) (.j ⟨[], [], [], [(5, .l (.sl))], []⟩ (.b (.s (.n) (.s (.n) (.j ⟨[], [], [0], [(36, .l (.b))], []⟩ (.n) (.c (.n) (.n)))))) (.n))))))) (.s (.n) (.n))))) (mp := false) (args := [.v (.string label), .v (.slice edgesA edgesL edgesC)]) Go.Proofs.Try.func44 (c := Go.Proofs.Try.f44.body.getD .skip) (by kernel_rfl) (by kernel_rfl) (Eq.mp (by kernel_rfl) h)
theorem rhizomeref13_Edges.body : BodyOk Go.Proofs.Try.prog 44 := ⟨Go.Proofs.Try.f44, Go.Proofs.Try.func44, by kernel_rfl, pf.ng _ _ Go.Proofs.Try.func44⟩

/-! ### rhizome/rhizomeref13.has: function 52 -/
def rhizomeref13_has.vc (lA : Option Addr) (lL lC : Nat) (pA : Int) (pB : Int) (R : Ending → World → Prop) (w : World) : Prop := ∀ (k1 :
  Nat), ∃ (y2 : Nat → Int → World → Prop), ∃ (k3 : Nat), (∀ (w4 : World), Step w w4 [] [k1] → y2 k3 (0 : Int) w4) ∧ ∀ (k6 : Nat) (n7 : Int)
  (w8 : World), y2 k6 n7 w8 → bcase (decide (n7 < (lL : Int))) (∃ (ad10 : Addr), lA = some ad10 ∧ ((0 : Int) ≤ n7 ∧ n7 < (lL : Int)) ∧ ∃
  (n11 : Int), ∃ (n12 : Int), (World.cell? w8 (Addr.add (Addr.add ad10 (Int.toNat n7 * 2)) 0) = some (Value.int IntKind.i64 n11) ∧
  World.cell? w8 (Addr.add (Addr.add ad10 (Int.toNat n7 * 2)) 1) = some (Value.int IntKind.i64 n12) ∧ True) ∧ bcase (conj [decide (n11 =
  pA), decide (n12 = pB)]) (∀ (w13 : World), Step w8 w13 [] [] → R (Ending.returned (Value.bool true)) w13) (∃ (k15 : Nat), k15 < k6 ∧ ∀
  (w16 : World), Step w8 w16 [] [] → y2 k15 (IntKind.wrap IntKind.i64 (n7 + (1 : Int))) w16)) (R (Ending.returned (Value.bool false)) w8)

theorem rhizomeref13_has.link {lA : Option Addr} {lL lC : Nat} {pA : Int} {pB : Int} {R : Ending → World → Prop} {w : World} (h : rhizomeref13_has.vc lA lL lC pA pB R w) : Calls Go.Proofs.Try.prog 52 #[.slice lA lL lC, (.agg #[.int .i64 pA, .int .i64 pB] : Value)] w R :=
  calls_of pf (fn := Go.Proofs.Try.f52) (ann := .s (.n) (.s (.s (.n) (.b (.l ⟨[], [], [0], [(8, .l (.i .i64))], []⟩ (.s (.n) (.s (.c (.n) (.n)) (.s (.b (.s (.n) (.s (.d [0]) (.c (.s (.n) (.n)) (.n))))) (.n))))))) (.s (.n) (.n)))) (mp := false) (args := [.v (.slice lA lL lC), .v (.agg #[.int .i64 pA, .int .i64 pB])]) Go.Proofs.Try.func52 (c := Go.Proofs.Try.f52.body.getD .skip) (by kernel_rfl) (by kernel_rfl) (Eq.mp (by kernel_rfl) h)
theorem rhizomeref13_has.body : BodyOk Go.Proofs.Try.prog 52 := ⟨Go.Proofs.Try.f52, Go.Proofs.Try.func52, by kernel_rfl, pf.ng _ _ Go.Proofs.Try.func52⟩

/-! ### rhizome/rhizomeref10.Cmp: function 46 -/
def rhizomeref10_Cmp.vc (aA : Option Addr) (aL aC : Nat) (bA : Option Addr) (bL bC : Nat) (R : Ending → World → Prop) (w : World) : Prop :=
  ∃ (y1 : Nat → Int → World → Prop), ∃ (k2 : Nat), y1 k2 (0 : Int) w ∧ ∀ (k3 : Nat) (n4 : Int) (w5 : World), y1 k3 n4 w5 → ∀ (y7 : Bool →
  World → Prop), (∀ (b8 : Bool) (w9 : World), bcase b8 (∃ (ad10 : Addr), aA = some ad10 ∧ ((0 : Int) ≤ n4 ∧ n4 < (aL : Int)) ∧ ∃ (n11 :
  Int), World.cell? w9 (Addr.add ad10 (Int.toNat n4 * 1)) = some (Value.int IntKind.i64 n11) ∧ ∃ (ad12 : Addr), bA = some ad12 ∧ ((0 : Int)
  ≤ n4 ∧ n4 < (bL : Int)) ∧ ∃ (n13 : Int), World.cell? w9 (Addr.add ad12 (Int.toNat n4 * 1)) = some (Value.int IntKind.i64 n13) ∧ bcase
  (decide (n11 < n13)) (∀ (w14 : World), Step w9 w14 [] [] → R (Ending.returned (Value.int IntKind.i64 (-1 : Int))) w14) (∃ (ad16 : Addr),
  aA = some ad16 ∧ ((0 : Int) ≤ n4 ∧ n4 < (aL : Int)) ∧ ∃ (n17 : Int), World.cell? w9 (Addr.add ad16 (Int.toNat n4 * 1)) = some (Value.int
  IntKind.i64 n17) ∧ ∃ (ad18 : Addr), bA = some ad18 ∧ ((0 : Int) ≤ n4 ∧ n4 < (bL : Int)) ∧ ∃ (n19 : Int), World.cell? w9 (Addr.add ad18
  (Int.toNat n4 * 1)) = some (Value.int IntKind.i64 n19) ∧ bcase (decide (n19 < n17)) (∀ (w20 : World), Step w9 w20 [] [] → R
  (Ending.returned (Value.int IntKind.i64 (1 : Int))) w20) (∃ (k22 : Nat), k22 < k3 ∧ ∀ (w23 : World), Step w9 w23 [] [] → y1 k22
  (IntKind.wrap IntKind.i64 (n4 + (1 : Int))) w23))) (bcase (decide ((aL : Int) < (bL : Int))) (R (Ending.returned (Value.int IntKind.i64
  (-1 : Int))) w9) (bcase (decide ((bL : Int) < (aL : Int))) (R (Ending.returned (Value.int IntKind.i64 (1 : Int))) w9) (R (Ending.returned
  (Value.int IntKind.i64 (0 : Int))) w9))) → y7 b8 w9) → bcase (decide (n4 < (aL : Int))) (y7 (decide (n4 < (bL : Int))) w5) (y7 false w5)

theorem rhizomeref10_Cmp.link {aA : Option Addr} {aL aC : Nat} {bA : Option Addr} {bL bC : Nat} {R : Ending → World → Prop} {w : World} (h : rhizomeref10_Cmp.vc aA aL aC bA bL bC R w) : Calls Go.Proofs.Try.prog 46 #[.slice aA aL aC, .slice bA bL bC] w R :=
  calls_of pf (fn := Go.Proofs.Try.f46) (ann := .s (.n) (.s (.s (.n) (.b (.l ⟨[], [], [], [(5, .l (.i .i64))], []⟩ (.s (.j ⟨[], [], [], [(15, .l (.b))], []⟩ (.n) (.c (.n) (.n))) (.s (.b (.s (.s (.n) (.c (.s (.n) (.n)) (.n))) (.s (.n) (.c (.s (.n) (.n)) (.n))))) (.n)))))) (.s (.s (.n) (.c (.s (.n) (.n)) (.n))) (.s (.s (.n) (.c (.s (.n) (.n)) (.n))) (.s (.n) (.n)))))) (mp := false) (args := [.v (.slice aA aL aC), .v (.slice bA bL bC)]) Go.Proofs.Try.func46 (c := Go.Proofs.Try.f46.body.getD .skip) (by kernel_rfl) (by kernel_rfl) (Eq.mp (by kernel_rfl) h)
theorem rhizomeref10_Cmp.body : BodyOk Go.Proofs.Try.prog 46 := ⟨Go.Proofs.Try.f46, Go.Proofs.Try.func46, by kernel_rfl, pf.ng _ _ Go.Proofs.Try.func46⟩

/-! ### rhizome/rhizomeref10.Same: function 17 -/
def rhizomeref10_Same.vc (aA : Option Addr) (aL aC : Nat) (bA : Option Addr) (bL bC : Nat) (R : Ending → World → Prop) (w : World) : Prop :=
  bcase (!decide ((aL : Int) = (bL : Int))) (R (Ending.returned (Value.bool false)) w) (∃ (y1 : Nat → Int → World → Prop), ∃ (k2 : Nat), y1
  k2 (0 : Int) w ∧ ∀ (k3 : Nat) (n4 : Int) (w5 : World), y1 k3 n4 w5 → bcase (decide (n4 < (aL : Int))) (∃ (ad7 : Addr), aA = some ad7 ∧ ((0
  : Int) ≤ n4 ∧ n4 < (aL : Int)) ∧ ∃ (p8 : Option Addr), ∃ (k9 : Nat), ∃ (k10 : Nat), World.cell? w5 (Addr.add ad7 (Int.toNat n4 * 1)) =
  some (Value.slice p8 k9 k10) ∧ ∃ (ad11 : Addr), bA = some ad11 ∧ ((0 : Int) ≤ n4 ∧ n4 < (bL : Int)) ∧ ∃ (p12 : Option Addr), ∃ (k13 :
  Nat), ∃ (k14 : Nat), World.cell? w5 (Addr.add ad11 (Int.toNat n4 * 1)) = some (Value.slice p12 k13 k14) ∧ ∀ (w15 : World), Step w5 w15 []
  [] → Calls Proofs.Try.prog (46 : Nat) { toList := [Value.slice p8 k9 k10, Value.slice p12 k13 k14] } w15 fun (e17 : Ending) (w18 : World)
  => ∃ (n19 : Int), e17 = Ending.returned (Value.int IntKind.i64 n19) ∧ bcase (!decide (n19 = (0 : Int))) (R (Ending.returned (Value.bool
  false)) w18) (∃ (k20 : Nat), k20 < k3 ∧ y1 k20 (IntKind.wrap IntKind.i64 (n4 + (1 : Int))) w18)) (R (Ending.returned (Value.bool true))
  w5))

theorem rhizomeref10_Same.link {aA : Option Addr} {aL aC : Nat} {bA : Option Addr} {bL bC : Nat} {R : Ending → World → Prop} {w : World} (h : rhizomeref10_Same.vc aA aL aC bA bL bC R w) : Calls Go.Proofs.Try.prog 17 #[.slice aA aL aC, .slice bA bL bC] w R :=
  calls_of pf (fn := Go.Proofs.Try.f17) (ann := .s (.n) (.s (.s (.n) (.c (.s (.n) (.n)) (.n))) (.s (.s (.n) (.b (.l ⟨[], [], [], [(13, .l (.i .i64))], []⟩ (.s (.n) (.s (.c (.n) (.n)) (.s (.b (.s (.n) (.s (.n) (.c (.s (.n) (.n)) (.n))))) (.n))))))) (.s (.n) (.n))))) (mp := false) (args := [.v (.slice aA aL aC), .v (.slice bA bL bC)]) Go.Proofs.Try.func17 (c := Go.Proofs.Try.f17.body.getD .skip) (by kernel_rfl) (by kernel_rfl) (Eq.mp (by kernel_rfl) h)
theorem rhizomeref10_Same.body : BodyOk Go.Proofs.Try.prog 17 := ⟨Go.Proofs.Try.f17, Go.Proofs.Try.func17, by kernel_rfl, pf.ng _ _ Go.Proofs.Try.func17⟩

end Go.Proofs.Ytnplopiconabiaa.VC
