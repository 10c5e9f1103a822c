/- What is to be shown of functions' texts, printed by a program of this session's repo; that it gives the functions' contracts is checked by the kernel. -/
import Derived.Test.YtalegpdnhkopmaaDoorProg
import Derived.Test.YtalegpdnhkopmaaDoorPf
namespace Go.Proofs.YtalegpdnhkopmaaDoor.VC
open Go Go.V
set_option maxRecDepth 1000000
set_option linter.unusedVariables false

/-! ### rhizome/val.plain: function 165 -/
def val_plain.vc (vKind : Int) (vInt : Int) (vText : ByteArray) (R : Ending → World → Prop) (w : World) : Prop := ∀ (k1 k2 : Nat) (y3 : Int
  → Int → ByteArray → World → Prop), (∀ (n4 n5 : Int) (s6 : ByteArray) (w7 : World), (∀ (w8 : World), Step w7 w8 [k2] [] → R
  (Ending.returned (Value.agg { toList := List.take 3 (List.drop 0 (sets [Value.int IntKind.i64 (0 : Int), Value.int IntKind.i64 (0 : Int), Value.string { data := { toList := [] } }] 0 [Value.int IntKind.i64 n4, Value.int IntKind.i64 n5, Value.string s6])) }))
  w8) → y3 n4 n5 s6 w7) → bcase (decide (vKind = (2 : Int))) (∀ (w12 : World), Step w w12 [] [k2, k1] → y3 vKind (0 : Int) vText w12) (∀
  (w14 : World), Step w w14 [] [k2, k1] → y3 vKind vInt { data := { toList := [] } } w14)

theorem val_plain.link {vKind : Int} {vInt : Int} {vText : ByteArray} {R : Ending → World → Prop} {w : World} (h : val_plain.vc vKind vInt vText R w) : Calls Go.Proofs.Tryd.prog 165 #[(.agg #[.int .i64 vKind, .int .i64 vInt, .string vText] : Value)] w R :=
  calls_of pf (fn := Go.Proofs.Tryd.f165) (ann := .s (.n) (.j ⟨[], [], [1], [], [(0, [.i .i64, .i .i64, .s])]⟩ (.s (.n) (.c (.n) (.n))) (.s (.n) (.n)))) (mp := false) (args := [.v (.agg #[.int .i64 vKind, .int .i64 vInt, .string vText])]) Go.Proofs.Tryd.func165 (c := Go.Proofs.Tryd.f165.body.getD .skip) (by kernel_rfl) (by kernel_rfl) (Eq.mp (by kernel_rfl) h)
theorem val_plain.body : BodyOk Go.Proofs.Tryd.prog 165 := ⟨Go.Proofs.Tryd.f165, Go.Proofs.Tryd.func165, by kernel_rfl, pf.ng _ _ Go.Proofs.Tryd.func165⟩

/-! ### rhizome/val.Check: function 94 -/
def val_Check.vc (vKind : Int) (vInt : Int) (vText : ByteArray) (R : Ending → World → Prop) (w : World) : Prop := ∀ (k1 : Nat) (y2 : World →
  Prop), (∀ (w3 : World), R (Ending.returned (Value.int IntKind.i64 (0 : Int))) w3 → y2 w3) → bcase (decide (vKind = (1 : Int))) (∀ (w6 :
  World), Step w w6 [] [k1] → y2 w6) (bcase (decide (vKind = (3 : Int))) (∀ (y8 : Bool → World → Prop), (∀ (b9 : Bool) (w10 : World), bcase
  b9 (R (Ending.returned (Value.int IntKind.i64 (1 : Int))) w10) (y2 w10) → y8 b9 w10) → bcase (!decide (vInt = (0 : Int))) (∀ (w13 :
  World), Step w w13 [] [k1] → y8 (!decide (vInt = (1 : Int))) w13) (∀ (w15 : World), Step w w15 [] [k1] → y8 false w15)) (bcase (decide
  (vKind = (2 : Int))) (bcase (decide ((64 : Int) < ((ByteArray.size vText) : Int))) (∀ (w17 : World), Step w w17 [] [k1] → R
  (Ending.returned (Value.int IntKind.i64 (3 : Int))) w17) (∀ (w19 : World), Step w w19 [] [k1] → Calls Proofs.Tryd.prog (141 : Nat) { toList := [Value.string vText] }
  w19 fun (e21 : Ending) (w22 : World) => ∃ (b23 : Bool), e21 = Ending.returned (Value.bool b23) ∧ Keep [k1] w19 w22 ∧ bcase (!b23) (R
  (Ending.returned (Value.int IntKind.i64 (7 : Int))) w22) (y2 w22))) (∀ (w24 : World), Step w w24 [] [k1] → R (Ending.returned (Value.int
  IntKind.i64 (1 : Int))) w24)))

theorem val_Check.link {vKind : Int} {vInt : Int} {vText : ByteArray} {R : Ending → World → Prop} {w : World} (h : val_Check.vc vKind vInt vText R w) : Calls Go.Proofs.Tryd.prog 94 #[(.agg #[.int .i64 vKind, .int .i64 vInt, .string vText] : Value)] w R :=
  calls_of pf (fn := Go.Proofs.Tryd.f94) (ann := .s (.n) (.j ⟨[], [], [], [], []⟩ (.s (.n) (.b (.s (.n) (.c (.n) (.s (.n) (.c (.j ⟨[], [], [], [(16, .l (.b))], []⟩ (.n) (.c (.s (.n) (.n)) (.n))) (.s (.n) (.c (.s (.s (.n) (.c (.s (.n) (.n)) (.n))) (.s (.n) (.c (.s (.n) (.n)) (.n)))) (.s (.n) (.n)))))))))) (.s (.n) (.n)))) (mp := false) (args := [.v (.agg #[.int .i64 vKind, .int .i64 vInt, .string vText])]) Go.Proofs.Tryd.func94 (c := Go.Proofs.Tryd.f94.body.getD .skip) (by kernel_rfl) (by kernel_rfl) (Eq.mp (by kernel_rfl) h)
theorem val_Check.body : BodyOk Go.Proofs.Tryd.prog 94 := ⟨Go.Proofs.Tryd.f94, Go.Proofs.Tryd.func94, by kernel_rfl, pf.ng _ _ Go.Proofs.Tryd.func94⟩

/-! ### rhizome/val.Encode: function 66 -/
def val_Encode.vc (vKind : Int) (vInt : Int) (vText : ByteArray) (R : Ending → World → Prop) (w : World) : Prop := ∀ (k1 : Nat) (w2 :
  World), Step w w2 [] [k1] → Calls Proofs.Tryd.prog (94 : Nat) { toList := [Value.agg { toList := [Value.int IntKind.i64 vKind, Value.int IntKind.i64 vInt, Value.string vText] }] }
  w2 fun (e4 : Ending) (w5 : World) => ∃ (n6 : Int), e4 = Ending.returned (Value.int IntKind.i64 n6) ∧ Keep [k1] w2 w5 ∧ bcase (!decide (n6
  = (0 : Int))) (R (Ending.returned (Value.tuple { toList := [Value.slice none 0 0, Value.int IntKind.i64 n6] })) w5) (∀ (k7 : Nat), bcase
  (decide (vKind = (3 : Int))) (∀ (k8 : Nat) (w9 : World), Step w5 w9 [] [k8, k7] → Blk w9 k7 (spl (reps [Value.int IntKind.u8 (0 : Int)] 1)
  0 [Value.int IntKind.u8 (IntKind.wrap IntKind.u8 vKind)]) → appendP true [] [] [k1, k8] w9 (some { block := k7, off := 0 }) 1 1 1 (spl
  (reps [Value.int IntKind.u8 (0 : Int)] 1) 0 [Value.int IntKind.u8 (IntKind.wrap IntKind.u8 vInt)]) 1 1 [Value.int IntKind.u8 (0 : Int)]
  fun (w12 : World) (p13 : Option Addr) (k14 k15 : Nat) => R (Ending.returned (Value.tuple { toList := [Value.slice p13 k14 k15, Value.int IntKind.i64 (0 : Int)] }))
  w12) (bcase (decide (vKind = (2 : Int))) (∀ (k16 : Nat) (w17 : World) (k18 k19 : Nat), Step w5 w17 [] [k18, k16, k7] → ByteArray.size
  vText ≤ k19 → Blk w17 k18 (byteCells vText ++ List.replicate (k19 - ByteArray.size vText) (Value.int IntKind.u8 (0 : Int))) → Blk w17 k7
  (spl (reps [Value.int IntKind.u8 (0 : Int)] 1) 0 [Value.int IntKind.u8 (IntKind.wrap IntKind.u8 vKind)]) → Blk w17 k16 (spl (reps
  [Value.int IntKind.u8 (0 : Int)] 1) 0 [Value.int IntKind.u8 (IntKind.wrap IntKind.u8 ((ByteArray.size vText) : Int))]) → ∀ (k25 : Nat)
  (w26 : World), Step w17 w26 [] [k25] → Blk w26 k25 (spl (spl (spl (reps [Value.slice none 0 0] 3) 0 [Value.slice (some
  { block := k7, off := 0 }) 1 1]) 1 [Value.slice (some { block := k16, off := 0 }) 1 1]) 2 [Value.slice (some { block := k18, off := 0 })
  (ByteArray.size vText) k19]) → Calls Proofs.Tryd.prog (113 : Nat) { toList := [Value.slice (some { block := k25, off := 0 }) 3 3] } w26
  fun (e29 : Ending) (w30 : World) => ∃ (p31 : Option Addr), ∃ (k32 : Nat), ∃ (k33 : Nat), e29 = Ending.returned (Value.slice p31 k32 k33) ∧
  Keep [k1] w26 w30 ∧ R (Ending.returned (Value.tuple { toList := [Value.slice p31 k32 k33, Value.int IntKind.i64 (0 : Int)] })) w30) ((0 :
  Int) ≤ (1 : Int) ∧ (0 : Int) ≤ (63 : Int) ∧ ∀ (w34 : World), Step w5 w34 [] [k7] → Blk w34 k7 (spl (reps [Value.int IntKind.u8 (0 : Int)]
  1) 0 [Value.int IntKind.u8 (IntKind.wrap IntKind.u8 vKind)]) → ∃ (y37 : Nat → Option Addr → Nat → Nat → Int → World → Prop), ∃ (k38 :
  Nat), y37 k38 (some { block := k7, off := 0 }) 1 1 (bits BinOp.xor IntKind.u64 (IntKind.wrap IntKind.u64 (IntKind.wrap IntKind.u64 vInt *
  (2 : Int) ^ 1)) (IntKind.wrap IntKind.u64 (Int.fdiv vInt ((2 : Int) ^ 63)))) w34 ∧ ∀ (k39 : Nat) (p40 : Option Addr) (k41 k42 : Nat) (n43
  : Int) (w44 : World), y37 k39 p40 k41 k42 n43 w44 → bcase (decide ((128 : Int) ≤ n43)) (∀ (k46 : Nat), appendP false [] [k46] [k46] w44
  p40 k41 k42 1 (spl (reps [Value.int IntKind.u8 (0 : Int)] 1) 0 [Value.int IntKind.u8 (bits BinOp.or IntKind.u8 (IntKind.wrap IntKind.u8
  n43) (128 : Int))]) 1 1 [Value.int IntKind.u8 (0 : Int)] fun (w47 : World) (p48 : Option Addr) (k49 k50 : Nat) => (0 : Int) ≤ (7 : Int) ∧
  ∃ (k51 : Nat), k51 < k39 ∧ y37 k51 p48 k49 k50 (Int.fdiv n43 ((2 : Int) ^ 7)) w47) (∀ (k52 : Nat), appendP false [] [k52] [k52] w44 p40
  k41 k42 1 (spl (reps [Value.int IntKind.u8 (0 : Int)] 1) 0 [Value.int IntKind.u8 (IntKind.wrap IntKind.u8 n43)]) 1 1 [Value.int IntKind.u8
  (0 : Int)] fun (w53 : World) (p54 : Option Addr) (k55 k56 : Nat) => R (Ending.returned (Value.tuple { toList := [Value.slice p54 k55 k56, Value.int IntKind.i64 (0 : Int)] }))
  w53))))

theorem val_Encode.link {vKind : Int} {vInt : Int} {vText : ByteArray} {R : Ending → World → Prop} {w : World} (h : val_Encode.vc vKind vInt vText R w) : Calls Go.Proofs.Tryd.prog 66 #[(.agg #[.int .i64 vKind, .int .i64 vInt, .string vText] : Value)] w R :=
  calls_of pf (fn := Go.Proofs.Tryd.f66) (ann := .s (.n) (.s (.s (.n) (.s (.n) (.c (.s (.n) (.n)) (.n)))) (.s (.n) (.s (.s (.n) (.b (.s (.n) (.c (.s (.n) (.n)) (.s (.n) (.c (.s (.n) (.n)) (.n))))))) (.s (.n) (.s (.b (.l ⟨[], [1], [], [(5, .l (.sl)), (6, .l (.i .u64))], []⟩ (.s (.s (.n) (.c (.n) (.n))) (.s (.b (.n)) (.n))))) (.s (.n) (.n)))))))) (mp := false) (args := [.v (.agg #[.int .i64 vKind, .int .i64 vInt, .string vText])]) Go.Proofs.Tryd.func66 (c := Go.Proofs.Tryd.f66.body.getD .skip) (by kernel_rfl) (by kernel_rfl) (Eq.mp (by kernel_rfl) h)
theorem val_Encode.body : BodyOk Go.Proofs.Tryd.prog 66 := ⟨Go.Proofs.Tryd.f66, Go.Proofs.Tryd.func66, by kernel_rfl, pf.ng _ _ Go.Proofs.Tryd.func66⟩

/-! ### rhizome/val.number: function 155 -/
def val_number.vc (bA : Option Addr) (bL bC : Nat) (R : Ending → World → Prop) (w : World) : Prop := ∃ (y1 : Nat → Int → Int → World →
  Prop), ∃ (k2 : Nat), y1 k2 (0 : Int) (0 : Int) w ∧ ∀ (k3 : Nat) (n4 n5 : Int) (w6 : World), y1 k3 n4 n5 w6 → bcase (decide (n5 < (bL :
  Int))) (∃ (ad8 : Addr), bA = some ad8 ∧ ((0 : Int) ≤ n5 ∧ n5 < (bL : Int)) ∧ ∃ (n9 : Int), World.cell? w6 (Addr.add ad8 (Int.toNat n5 *
  1)) = some (Value.int IntKind.u8 n9) ∧ ∀ (y10 : Bool → World → Prop), (∀ (b11 : Bool) (w12 : World), bcase b11 (R (Ending.returned
  (Value.tuple { toList := [Value.int IntKind.i64 (0 : Int), Value.int IntKind.i64 (0 : Int)] })) w12) ((0 : Int) ≤ IntKind.wrap IntKind.i64
  ((7 : Int) * n5) ∧ bcase (decide (n9 < (128 : Int))) ((0 : Int) ≤ (1 : Int) ∧ R (Ending.returned (Value.tuple { toList := [Value.int IntKind.i64 (bits BinOp.xor IntKind.i64 (IntKind.wrap IntKind.i64 (Int.fdiv (bits BinOp.or IntKind.u64 n4 (IntKind.wrap IntKind.u64 (IntKind.wrap IntKind.u64 (bits BinOp.and IntKind.u8 n9 (127 : Int)) * (2 : Int) ^ Min.min (Int.toNat (IntKind.wrap IntKind.i64 ((7 : Int) * n5))) 64))) ((2 : Int) ^ 1))) (IntKind.wrap IntKind.i64 ((0 : Int) - IntKind.wrap IntKind.i64 (bits BinOp.and IntKind.u64 (bits BinOp.or IntKind.u64 n4 (IntKind.wrap IntKind.u64 (IntKind.wrap IntKind.u64 (bits BinOp.and IntKind.u8 n9 (127 : Int)) * (2 : Int) ^ Min.min (Int.toNat (IntKind.wrap IntKind.i64 ((7 : Int) * n5))) 64))) (1 : Int))))), Value.int IntKind.i64 (IntKind.wrap IntKind.i64 (n5 + (1 : Int)))] }))
  w12) (∃ (k13 : Nat), k13 < k3 ∧ y1 k13 (bits BinOp.or IntKind.u64 n4 (IntKind.wrap IntKind.u64 (IntKind.wrap IntKind.u64 (bits BinOp.and
  IntKind.u8 n9 (127 : Int)) * (2 : Int) ^ Min.min (Int.toNat (IntKind.wrap IntKind.i64 ((7 : Int) * n5))) 64))) (IntKind.wrap IntKind.i64
  (n5 + (1 : Int))) w12)) → y10 b11 w12) → bcase (decide (n5 = (9 : Int))) (bcase (decide ((1 : Int) < n9)) (y10 true w6) (bcase (decide ((0
  : Int) < n5)) (y10 (decide (n9 = (0 : Int))) w6) (y10 false w6))) (bcase (decide ((0 : Int) < n5)) (y10 (decide (n9 = (0 : Int))) w6) (y10
  false w6))) (R (Ending.returned (Value.tuple { toList := [Value.int IntKind.i64 (0 : Int), Value.int IntKind.i64 (0 : Int)] })) w6)

theorem val_number.link {bA : Option Addr} {bL bC : Nat} {R : Ending → World → Prop} {w : World} (h : val_number.vc bA bL bC R w) : Calls Go.Proofs.Tryd.prog 155 #[.slice bA bL bC] w R :=
  calls_of pf (fn := Go.Proofs.Tryd.f155) (ann := .s (.n) (.s (.n) (.s (.s (.n) (.b (.l ⟨[], [], [], [(4, .l (.i .u64)), (9, .l (.i .i64))], []⟩ (.s (.n) (.s (.c (.n) (.n)) (.s (.b (.s (.n) (.s (.j ⟨[], [], [], [(27, .l (.b))], []⟩ (.n) (.c (.s (.n) (.n)) (.n))) (.s (.n) (.s (.n) (.c (.s (.n) (.n)) (.n))))))) (.n))))))) (.s (.n) (.n))))) (mp := false) (args := [.v (.slice bA bL bC)]) Go.Proofs.Tryd.func155 (c := Go.Proofs.Tryd.f155.body.getD .skip) (by kernel_rfl) (by kernel_rfl) (Eq.mp (by kernel_rfl) h)
theorem val_number.body : BodyOk Go.Proofs.Tryd.prog 155 := ⟨Go.Proofs.Tryd.f155, Go.Proofs.Tryd.func155, by kernel_rfl, pf.ng _ _ Go.Proofs.Tryd.func155⟩

/-! ### rhizome/val.Decode: function 117 -/
def val_Decode.vc (bA : Option Addr) (bL bC : Nat) (R : Ending → World → Prop) (w : World) : Prop := ∀ (k1 : Nat), bcase (decide ((bL : Int)
  < (2 : Int))) (∀ (w2 : World), Step w w2 [] [k1] → R (Ending.returned (Value.tuple { toList := [Value.agg { toList := List.take 3 (List.drop 0 (sets [Value.int IntKind.i64 (0 : Int), Value.int IntKind.i64 (0 : Int), Value.string { data := { toList := [] } }] 0 [Value.int IntKind.i64 (0 : Int), Value.int IntKind.i64 (0 : Int), Value.string { data := { toList := [] } }])) }, Value.int IntKind.i64 (0 : Int), Value.int IntKind.i64 (6 : Int)] }))
  w2) (∃ (ad4 : Addr), bA = some ad4 ∧ ((0 : Int) ≤ (0 : Int) ∧ (0 : Int) < (bL : Int)) ∧ ∃ (n5 : Int), World.cell? w (Addr.add ad4 0) =
  some (Value.int IntKind.u8 n5) ∧ ∀ (k6 : Nat) (y7 : Int → Int → Int → ByteArray → World → Prop), (∀ (n8 n9 n10 : Int) (s11 : ByteArray)
  (w12 : World), (Calls Proofs.Tryd.prog (94 : Nat) { toList := [Value.agg { toList := [Value.int IntKind.i64 n9, Value.int IntKind.i64 n10, Value.string s11] }] }
  w12 fun (e13 : Ending) (w14 : World) => ∃ (n15 : Int), e13 = Ending.returned (Value.int IntKind.i64 n15) ∧ Keep [k1, k6] w12 w14 ∧ bcase
  (!decide (n15 = (0 : Int))) (∀ (w16 : World), Step w14 w16 [k1] [] → R (Ending.returned (Value.tuple { toList := [Value.agg { toList := List.take 3 (List.drop 0 (sets [Value.int IntKind.i64 (0 : Int), Value.int IntKind.i64 (0 : Int), Value.string { data := { toList := [] } }] 0 [Value.int IntKind.i64 (0 : Int), Value.int IntKind.i64 (0 : Int), Value.string { data := { toList := [] } }])) }, Value.int IntKind.i64 (0 : Int), Value.int IntKind.i64 (6 : Int)] }))
  w16) (∀ (w18 : World), Step w14 w18 [k1] [] → R (Ending.returned (Value.tuple { toList := [Value.agg { toList := List.take 3 (List.drop 0 (sets [Value.int IntKind.i64 (0 : Int), Value.int IntKind.i64 (0 : Int), Value.string { data := { toList := [] } }] 0 [Value.int IntKind.i64 n9, Value.int IntKind.i64 n10, Value.string s11])) }, Value.int IntKind.i64 n8, Value.int IntKind.i64 (0 : Int)] }))
  w18)) → y7 n8 n9 n10 s11 w12) → bcase (decide (IntKind.wrap IntKind.i64 n5 = (3 : Int))) (∃ (ad22 : Addr), bA = some ad22 ∧ ((0 : Int) ≤
  (1 : Int) ∧ (1 : Int) < (bL : Int)) ∧ ∃ (n23 : Int), World.cell? w (Addr.add ad22 1) = some (Value.int IntKind.u8 n23) ∧ ∀ (w24 : World),
  Step w w24 [] [k6, k1] → y7 (2 : Int) (IntKind.wrap IntKind.i64 n5) (IntKind.wrap IntKind.i64 n23) { data := { toList := [] } } w24)
  (bcase (decide (IntKind.wrap IntKind.i64 n5 = (2 : Int))) (∃ (ad26 : Addr), bA = some ad26 ∧ ((0 : Int) ≤ (1 : Int) ∧ (1 : Int) < (bL :
  Int)) ∧ ∃ (n27 : Int), World.cell? w (Addr.add ad26 1) = some (Value.int IntKind.u8 n27) ∧ bcase (decide ((bL : Int) < IntKind.wrap
  IntKind.i64 ((2 : Int) + IntKind.wrap IntKind.i64 n27))) (∀ (w28 : World), Step w w28 [] [k6, k1] → R (Ending.returned (Value.tuple { toList := [Value.agg { toList := List.take 3 (List.drop 0 (sets [Value.int IntKind.i64 (0 : Int), Value.int IntKind.i64 (0 : Int), Value.string { data := { toList := [] } }] 0 [Value.int IntKind.i64 (0 : Int), Value.int IntKind.i64 (0 : Int), Value.string { data := { toList := [] } }])) }, Value.int IntKind.i64 (0 : Int), Value.int IntKind.i64 (6 : Int)] }))
  w28) (((0 : Int) ≤ (2 : Int) ∧ (2 : Int) ≤ IntKind.wrap IntKind.i64 ((2 : Int) + IntKind.wrap IntKind.i64 n27) ∧ IntKind.wrap IntKind.i64
  ((2 : Int) + IntKind.wrap IntKind.i64 n27) ≤ (bC : Int)) ∧ ∃ (l30 : List UInt8), List.length l30 = Int.toNat (IntKind.wrap IntKind.i64 ((2
  : Int) + IntKind.wrap IntKind.i64 n27)) - 2 ∧ (∀ (k31 : Nat), k31 < Int.toNat (IntKind.wrap IntKind.i64 ((2 : Int) + IntKind.wrap
  IntKind.i64 n27)) - 2 → ∃ (ad33 : Addr), subA bA 2 bC 1 = some ad33 ∧ World.cell? w (Addr.add ad33 k31) = some (Value.int IntKind.u8
  ((UInt8.toNat (List.getD l30 k31 (0 : UInt8))) : Int))) ∧ ∀ (w34 : World), Step w w34 [] [k6, k1] → y7 (IntKind.wrap IntKind.i64 ((2 :
  Int) + IntKind.wrap IntKind.i64 n27)) (IntKind.wrap IntKind.i64 n5) (0 : Int) (ByteArray.mk (Array.mk l30)) w34)) (((0 : Int) ≤ (1 : Int)
  ∧ (1 : Int) ≤ (bL : Int) ∧ (bL : Int) ≤ (bC : Int)) ∧ ∀ (w36 : World), Step w w36 [] [k6, k1] → Calls Proofs.Tryd.prog (155 : Nat) { toList := [Value.slice (subA bA 1 bC 1) (Int.toNat (bL : Int) - 1) (bC - 1)] }
  w36 fun (e38 : Ending) (w39 : World) => ∃ (n40 : Int), ∃ (n41 : Int), e38 = Ending.returned (Value.tuple { toList := [Value.int IntKind.i64 n40, Value.int IntKind.i64 n41] })
  ∧ Keep [k1, k6] w36 w39 ∧ bcase (decide (n41 = (0 : Int))) (∀ (w42 : World), Step w39 w42 [k1, k6] [] → R (Ending.returned (Value.tuple { toList := [Value.agg { toList := List.take 3 (List.drop 0 (sets [Value.int IntKind.i64 (0 : Int), Value.int IntKind.i64 (0 : Int), Value.string { data := { toList := [] } }] 0 [Value.int IntKind.i64 (0 : Int), Value.int IntKind.i64 (0 : Int), Value.string { data := { toList := [] } }])) }, Value.int IntKind.i64 (0 : Int), Value.int IntKind.i64 (6 : Int)] }))
  w42) (∀ (w44 : World), Step w39 w44 [k6] [] → y7 (IntKind.wrap IntKind.i64 (n41 + (1 : Int))) (IntKind.wrap IntKind.i64 n5) n40
  { data := { toList := [] } } w44))))

theorem val_Decode.link {bA : Option Addr} {bL bC : Nat} {R : Ending → World → Prop} {w : World} (h : val_Decode.vc bA bL bC R w) : Calls Go.Proofs.Tryd.prog 117 #[.slice bA bL bC] w R :=
  calls_of pf (fn := Go.Proofs.Tryd.f117) (ann := .s (.n) (.s (.s (.n) (.c (.s (.n) (.n)) (.n))) (.s (.n) (.s (.n) (.j ⟨[], [], [0], [(6, .l (.i .i64))], [(1, [.i .i64, .i .i64, .s])]⟩ (.s (.n) (.b (.s (.n) (.c (.n) (.s (.n) (.c (.s (.n) (.s (.s (.n) (.c (.s (.n) (.n)) (.n))) (.n))) (.s (.n) (.s (.n) (.s (.n) (.c (.s (.n) (.n)) (.n))))))))))) (.s (.s (.n) (.c (.s (.n) (.n)) (.n))) (.s (.n) (.n)))))))) (mp := false) (args := [.v (.slice bA bL bC)]) Go.Proofs.Tryd.func117 (c := Go.Proofs.Tryd.f117.body.getD .skip) (by kernel_rfl) (by kernel_rfl) (Eq.mp (by kernel_rfl) h)
theorem val_Decode.body : BodyOk Go.Proofs.Tryd.prog 117 := ⟨Go.Proofs.Tryd.f117, Go.Proofs.Tryd.func117, by kernel_rfl, pf.ng _ _ Go.Proofs.Tryd.func117⟩

/-! ### rhizome/val.Same: function 148 -/
def val_Same.vc (aKind : Int) (aInt : Int) (aText : ByteArray) (bKind : Int) (bInt : Int) (bText : ByteArray) (R : Ending → World → Prop) (w
  : World) : Prop := ∀ (k1 k2 : Nat) (w3 : World), Step w w3 [] [k2, k1] → Calls Proofs.Tryd.prog (165 : Nat) { toList := [Value.agg { toList := [Value.int IntKind.i64 aKind, Value.int IntKind.i64 aInt, Value.string aText] }] }
  w3 fun (e5 : Ending) (w6 : World) => ∃ (n7 : Int), ∃ (n8 : Int), ∃ (s9 : ByteArray), e5 = Ending.returned (Value.agg { toList := [Value.int IntKind.i64 n7, Value.int IntKind.i64 n8, Value.string s9] })
  ∧ Keep [k1, k2] w3 w6 ∧ Calls Proofs.Tryd.prog (165 : Nat) { toList := [Value.agg { toList := [Value.int IntKind.i64 bKind, Value.int IntKind.i64 bInt, Value.string bText] }] }
  w6 fun (e10 : Ending) (w11 : World) => ∃ (n12 : Int), ∃ (n13 : Int), ∃ (s14 : ByteArray), e10 = Ending.returned (Value.agg { toList := [Value.int IntKind.i64 n12, Value.int IntKind.i64 n13, Value.string s14] })
  ∧ Keep [k1, k2] w6 w11 ∧ R (Ending.returned (Value.bool (conj [decide (n7 = n12), decide (n8 = n13), decide (s9 = s14)]))) w11

theorem val_Same.link {aKind : Int} {aInt : Int} {aText : ByteArray} {bKind : Int} {bInt : Int} {bText : ByteArray} {R : Ending → World → Prop} {w : World} (h : val_Same.vc aKind aInt aText bKind bInt bText R w) : Calls Go.Proofs.Tryd.prog 148 #[(.agg #[.int .i64 aKind, .int .i64 aInt, .string aText] : Value), (.agg #[.int .i64 bKind, .int .i64 bInt, .string bText] : Value)] w R :=
  calls_of pf (fn := Go.Proofs.Tryd.f148) (ann := .s (.n) (.s (.d [0, 1]) (.n))) (mp := false) (args := [.v (.agg #[.int .i64 aKind, .int .i64 aInt, .string aText]), .v (.agg #[.int .i64 bKind, .int .i64 bInt, .string bText])]) Go.Proofs.Tryd.func148 (c := Go.Proofs.Tryd.f148.body.getD .skip) (by kernel_rfl) (by kernel_rfl) (Eq.mp (by kernel_rfl) h)
theorem val_Same.body : BodyOk Go.Proofs.Tryd.prog 148 := ⟨Go.Proofs.Tryd.f148, Go.Proofs.Tryd.func148, by kernel_rfl, pf.ng _ _ Go.Proofs.Tryd.func148⟩

/-! ### slices.Concat[[]byte,byte]: function 113 -/
def slices_Concat_g_byte.vc (slicesA : Option Addr) (slicesL slicesC : Nat) (R : Ending → World → Prop) (w : World) : Prop := ∃ (y1 : Nat →
  Int → Int → World → Prop), ∃ (k2 : Nat), y1 k2 (0 : Int) (0 : Int) w ∧ ∀ (k3 : Nat) (n4 n5 : Int) (w6 : World), y1 k3 n4 n5 w6 → bcase
  (decide (n5 < (slicesL : Int))) (∀ (y8 : Int → World → Prop), (∀ (n9 : Int) (w10 : World), (∃ (k11 : Nat), k11 < k3 ∧ y1 k11 n9
  (IntKind.wrap IntKind.i64 (n5 + (1 : Int))) w10) → y8 n9 w10) → ∃ (ad14 : Addr), slicesA = some ad14 ∧ ((0 : Int) ≤ n5 ∧ n5 < (slicesL :
  Int)) ∧ ∃ (p15 : Option Addr), ∃ (k16 : Nat), ∃ (k17 : Nat), World.cell? w6 (Addr.add ad14 (Int.toNat n5 * 1)) = some (Value.slice p15 k16
  k17) ∧ bcase (decide (IntKind.wrap IntKind.i64 (n4 + (k16 : Int)) < (0 : Int))) False (y8 (IntKind.wrap IntKind.i64 (n4 + (k16 : Int)))
  w6)) (Calls Proofs.Tryd.prog (152 : Nat) { toList := [Value.slice none 0 0, Value.int IntKind.i64 n4] } w6 fun (e18 : Ending) (w19 :
  World) => ∃ (p20 : Option Addr), ∃ (k21 : Nat), ∃ (k22 : Nat), e18 = Ending.returned (Value.slice p20 k21 k22) ∧ ∃ (y23 : Nat → Option
  Addr → Nat → Nat → Int → World → Prop), ∃ (k24 : Nat), y23 k24 p20 k21 k22 (0 : Int) w19 ∧ ∀ (k25 : Nat) (p26 : Option Addr) (k27 k28 :
  Nat) (n29 : Int) (w30 : World), y23 k25 p26 k27 k28 n29 w30 → bcase (decide (n29 < (slicesL : Int))) (∃ (ad32 : Addr), slicesA = some ad32
  ∧ ((0 : Int) ≤ n29 ∧ n29 < (slicesL : Int)) ∧ ∃ (p33 : Option Addr), ∃ (k34 : Nat), ∃ (k35 : Nat), World.cell? w30 (Addr.add ad32
  (Int.toNat n29 * 1)) = some (Value.slice p33 k34 k35) ∧ ∃ (l36 : List Value), List.length l36 = k34 * 1 ∧ Row w30 p33 l36 ∧ appendP true
  [] [] [] w30 p26 k27 k28 k34 l36 1 1 [Value.int IntKind.u8 (0 : Int)] fun (w37 : World) (p38 : Option Addr) (k39 k40 : Nat) => ∃ (k41 :
  Nat), k41 < k25 ∧ y23 k41 p38 k39 k40 (IntKind.wrap IntKind.i64 (n29 + (1 : Int))) w37) (R (Ending.returned (Value.slice p26 k27 k28))
  w30))

theorem slices_Concat_g_byte.link {slicesA : Option Addr} {slicesL slicesC : Nat} {R : Ending → World → Prop} {w : World} (h : slices_Concat_g_byte.vc slicesA slicesL slicesC R w) : Calls Go.Proofs.Tryd.prog 113 #[.slice slicesA slicesL slicesC] w R :=
  calls_of pf (fn := Go.Proofs.Tryd.f113) (ann := .s (.n) (.s (.n) (.s (.s (.n) (.b (.l ⟨[], [], [], [(3, .l (.i .i64)), (11, .l (.i .i64))], []⟩ (.s (.n) (.s (.c (.n) (.n)) (.j ⟨[], [], [], [(3, .l (.i .i64))], []⟩ (.b (.s (.n) (.s (.n) (.s (.n) (.c (.n) (.n)))))) (.n))))))) (.s (.n) (.s (.s (.n) (.b (.l ⟨[], [], [], [(6, .l (.sl)), (27, .l (.i .i64))], []⟩ (.s (.n) (.s (.c (.n) (.n)) (.s (.b (.s (.n) (.n))) (.n))))))) (.s (.n) (.n))))))) (mp := false) (args := [.v (.slice slicesA slicesL slicesC)]) Go.Proofs.Tryd.func113 (c := Go.Proofs.Tryd.f113.body.getD .skip) (by kernel_rfl) (by kernel_rfl) (Eq.mp (by kernel_rfl) h)
theorem slices_Concat_g_byte.body : BodyOk Go.Proofs.Tryd.prog 113 := ⟨Go.Proofs.Tryd.f113, Go.Proofs.Tryd.func113, by kernel_rfl, pf.ng _ _ Go.Proofs.Tryd.func113⟩

end Go.Proofs.YtalegpdnhkopmaaDoor.VC
