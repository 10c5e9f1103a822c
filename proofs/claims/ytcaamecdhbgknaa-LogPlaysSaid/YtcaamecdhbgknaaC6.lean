/- What is to be shown of functions' texts, printed by a program of this session's repo; that it gives the functions' contracts is checked by the kernel. -/
import Derived.Test.YtcaamecdhbgknaaProg
import Derived.Test.YtcaamecdhbgknaaPf
namespace Go.Proofs.Ytcaamecdhbgknaa.VC
open Go Go.V
set_option maxRecDepth 1000000
set_option linter.unusedVariables false

/-! ### rhizome/rhizomelaw04.awake: function 33 -/
def rhizomelaw04_awake.vc (R : Ending → World → Prop) (w : World) : Prop := Calls Proofs.Try.prog (20 : Nat) { toList := [Value.int IntKind.i64 (4 : Int)] }
  w fun (e1 : Ending) (w2 : World) => ∃ (p3 : Option Addr), ∃ (n4 : Int), e1 = Ending.returned (Value.tuple { toList := [Value.pointer p3, Value.int IntKind.i64 n4] })
  ∧ ∀ (y5 : Bool → World → Prop), (∀ (b6 : Bool) (w7 : World), bcase b6 (R (Ending.returned (Value.bool false)) w7) (Calls Proofs.Try.prog
  (34 : Nat) { toList := [Value.pointer p3, Value.int IntKind.i64 (0 : Int), Value.int IntKind.i64 (4 : Int)] } w7 fun (e8 : Ending) (w9 :
  World) => ∃ (p10 : Option Addr), ∃ (p11 : Option Addr), ∃ (k12 : Nat), ∃ (k13 : Nat), ∃ (n14 : Int), e8 = Ending.returned (Value.tuple { toList := [Value.pointer p10, Value.slice p11 k12 k13, Value.int IntKind.i64 n14] })
  ∧ ∀ (y15 : Bool → World → Prop), (∀ (b16 : Bool) (w17 : World), R (Ending.returned (Value.bool b16)) w17 → y15 b16 w17) → bcase (decide
  (n14 = (0 : Int))) (bcase (!Option.isNone p10) (bcase (decide ((k12 : Int) = (0 : Int))) (∀ (k20 : Nat) (w21 : World), Step w9 w21 []
  [k20] → ∀ (w23 : World), Upd w21 w23 k20 (spl (spl (spl (spl (spl (reps [Value.int IntKind.u8 (0 : Int)] 5) 0 [Value.int IntKind.u8 (102 :
  Int)]) 1 [Value.int IntKind.u8 (105 : Int)]) 2 [Value.int IntKind.u8 (118 : Int)]) 3 [Value.int IntKind.u8 (101 : Int)]) 4 [Value.int
  IntKind.u8 (33 : Int)]) → Calls Proofs.Try.prog (35 : Nat) { toList := [Value.pointer p10, Value.slice (some { block := k20, off := 0 }) 5 5] }
  w23 fun (e25 : Ending) (w26 : World) => ∃ (n27 : Int), e25 = Ending.returned (Value.int IntKind.i64 n27) ∧ bcase (decide (n27 = (0 :
  Int))) (Calls Proofs.Try.prog (25 : Nat) { toList := [Value.pointer p3] } w26 fun (e28 : Ending) (w29 : World) => ∃ (n30 : Int), e28 =
  Ending.returned (Value.int IntKind.i64 n30) ∧ bcase (decide (n30 = (4 : Int))) (((0 : Int) ≤ (65 : Int) ∧ (65 : Int) ≤ (65 : Int) ∧ ((1 :
  Nat) : Int) * (65 : Int) ≤ (281474976710656 : Int) ∧ (65 : Int) ≤ (281474976710656 : Int)) ∧ ∀ (w31 : World) (k32 : Nat), Step w29 w31 []
  [k32] → Blk w31 k32 (reps [Value.int IntKind.u8 (0 : Int)] 65) → Calls Proofs.Try.prog (35 : Nat) { toList := [Value.pointer p10, Value.slice (some { block := k32, off := 0 }) 65 65] }
  w31 fun (e35 : Ending) (w36 : World) => ∃ (n37 : Int), e35 = Ending.returned (Value.int IntKind.i64 n37) ∧ bcase (decide (n37 = (5 :
  Int))) (Calls Proofs.Try.prog (36 : Nat) { toList := [Value.pointer p10] } w36 fun (e38 : Ending) (w39 : World) => ∃ (n40 : Int), e38 =
  Ending.returned (Value.int IntKind.i64 n40) ∧ bcase (decide (n40 = (64 : Int))) (Calls Proofs.Try.prog (37 : Nat) { toList := [Value.pointer p10] }
  w39 fun (e41 : Ending) (w42 : World) => ∃ (n43 : Int), e41 = Ending.returned (Value.int IntKind.i64 n43) ∧ y15 (decide (n43 = (2 : Int)))
  w42) (y15 false w39)) (y15 false w36)) (y15 false w29)) (y15 false w26)) (y15 false w9)) (y15 false w9)) (y15 false w9)) → y5 b6 w7) →
  bcase (!decide (n4 = (0 : Int))) (y5 true w2) (y5 (Option.isNone p3) w2)

theorem rhizomelaw04_awake.link {_u : Unit} {R : Ending → World → Prop} {w : World} (h : rhizomelaw04_awake.vc  R w) : Calls Go.Proofs.Try.prog 33 #[] w R :=
  calls_of pf (fn := Go.Proofs.Try.f33) (ann := .s (.n) (.s (.n) (.s (.j ⟨[], [], [], [(14, .l (.b))], []⟩ (.n) (.c (.s (.n) (.n)) (.n))) (.s (.n) (.j ⟨[], [], [], [(0, .l (.b))], []⟩ (.n) (.n)))))) (mp := false) (args := []) Go.Proofs.Try.func33 (c := Go.Proofs.Try.f33.body.getD .skip) (by kernel_rfl) (by kernel_rfl) (Eq.mp (by kernel_rfl) h)
theorem rhizomelaw04_awake.body : BodyOk Go.Proofs.Try.prog 33 := ⟨Go.Proofs.Try.f33, Go.Proofs.Try.func33, by kernel_rfl, pf.ng _ _ Go.Proofs.Try.func33⟩

/-! ### rhizome/rhizomelaw05.awake: function 48 -/
def rhizomelaw05_awake.vc (R : Ending → World → Prop) (w : World) : Prop := Calls Proofs.Try.prog (20 : Nat) { toList := [Value.int IntKind.i64 (8 : Int)] }
  w fun (e1 : Ending) (w2 : World) => ∃ (p3 : Option Addr), ∃ (n4 : Int), e1 = Ending.returned (Value.tuple { toList := [Value.pointer p3, Value.int IntKind.i64 n4] })
  ∧ ∀ (y5 : Bool → World → Prop), (∀ (b6 : Bool) (w7 : World), bcase b6 (R (Ending.returned (Value.bool false)) w7) (Calls Proofs.Try.prog
  (49 : Nat) { toList := [Value.pointer p3, Value.int IntKind.i64 (0 : Int), Value.int IntKind.i64 (4 : Int)] } w7 fun (e8 : Ending) (w9 :
  World) => ∃ (p10 : Option Addr), ∃ (n11 : Int), e8 = Ending.returned (Value.tuple { toList := [Value.pointer p10, Value.int IntKind.i64 n11] })
  ∧ ∀ (y12 : Bool → World → Prop), (∀ (b13 : Bool) (w14 : World), bcase b13 (R (Ending.returned (Value.bool false)) w14) (Calls
  Proofs.Try.prog (51 : Nat) { toList := [Value.pointer p10] } w14 fun (e15 : Ending) (w16 : World) => ∃ (n17 : Int), ∃ (p18 : Option Addr),
  ∃ (k19 : Nat), ∃ (k20 : Nat), ∃ (b21 : Bool), e15 = Ending.returned (Value.tuple { toList := [Value.int IntKind.i64 n17, Value.slice p18 k19 k20, Value.bool b21] })
  ∧ ∀ (y22 : Bool → World → Prop), (∀ (b23 : Bool) (w24 : World), R (Ending.returned (Value.bool b23)) w24 → y22 b23 w24) → bcase b21 (bcase
  (decide (n17 = (1 : Int))) (∃ (l27 : List UInt8), List.length l27 = k19 ∧ (∀ (k28 : Nat), k28 < k19 → ∃ (ad30 : Addr), p18 = some ad30 ∧
  World.cell? w16 (Addr.add ad30 k28) = some (Value.int IntKind.u8 ((UInt8.toNat (List.getD l27 k28 (0 : UInt8))) : Int))) ∧ y22 (decide
  ((ByteArray.mk (Array.mk l27)) = { data := #[(102 : UInt8), (105 : UInt8), (118 : UInt8), (101 : UInt8), (33 : UInt8)] })) w16) (y22 false
  w16)) (y22 false w16)) → y12 b13 w14) → bcase (!decide (n11 = (0 : Int))) (y12 true w9) (bcase (Option.isNone p10) (y12 true w9) (∀ (k33 :
  Nat) (w34 : World), Step w9 w34 [] [k33] → ∀ (w36 : World), Upd w34 w36 k33 (spl (spl (spl (spl (spl (reps [Value.int IntKind.u8 (0 :
  Int)] 5) 0 [Value.int IntKind.u8 (102 : Int)]) 1 [Value.int IntKind.u8 (105 : Int)]) 2 [Value.int IntKind.u8 (118 : Int)]) 3 [Value.int
  IntKind.u8 (101 : Int)]) 4 [Value.int IntKind.u8 (33 : Int)]) → Calls Proofs.Try.prog (50 : Nat) { toList := [Value.pointer p10, Value.int IntKind.i64 (1 : Int), Value.slice (some { block := k33, off := 0 }) 5 5] }
  w36 fun (e38 : Ending) (w39 : World) => ∃ (n40 : Int), e38 = Ending.returned (Value.int IntKind.i64 n40) ∧ bcase (!decide (n40 = (0 :
  Int))) (y12 true w39) (Calls Proofs.Try.prog (25 : Nat) { toList := [Value.pointer p3] } w39 fun (e41 : Ending) (w42 : World) => ∃ (n43 :
  Int), e41 = Ending.returned (Value.int IntKind.i64 n43) ∧ bcase (!decide (n43 = (6 : Int))) (y12 true w42) (Calls Proofs.Try.prog (50 :
  Nat) { toList := [Value.pointer p10, Value.int IntKind.i64 (1 : Int), Value.slice none 0 0] } w42 fun (e44 : Ending) (w45 : World) => ∃
  (n46 : Int), e44 = Ending.returned (Value.int IntKind.i64 n46) ∧ bcase (!decide (n46 = (2 : Int))) (y12 true w45) (((0 : Int) ≤ (193 :
  Int) ∧ (193 : Int) ≤ (193 : Int) ∧ ((1 : Nat) : Int) * (193 : Int) ≤ (281474976710656 : Int) ∧ (193 : Int) ≤ (281474976710656 : Int)) ∧ ∀
  (w47 : World) (k48 : Nat), Step w45 w47 [] [k48] → Blk w47 k48 (reps [Value.int IntKind.u8 (0 : Int)] 193) → Calls Proofs.Try.prog (50 :
  Nat) { toList := [Value.pointer p10, Value.int IntKind.i64 (2 : Int), Value.slice (some { block := k48, off := 0 }) 193 193] } w47 fun
  (e51 : Ending) (w52 : World) => ∃ (n53 : Int), e51 = Ending.returned (Value.int IntKind.i64 n53) ∧ y12 (!decide (n53 = (3 : Int)))
  w52)))))) → y5 b6 w7) → bcase (!decide (n4 = (0 : Int))) (y5 true w2) (y5 (Option.isNone p3) w2)

theorem rhizomelaw05_awake.link {_u : Unit} {R : Ending → World → Prop} {w : World} (h : rhizomelaw05_awake.vc  R w) : Calls Go.Proofs.Try.prog 48 #[] w R :=
  calls_of pf (fn := Go.Proofs.Try.f48) (ann := .s (.n) (.s (.n) (.s (.j ⟨[], [], [], [(16, .l (.b))], []⟩ (.n) (.c (.s (.n) (.n)) (.n))) (.s (.n) (.s (.j ⟨[], [], [], [(50, .l (.b))], []⟩ (.n) (.c (.s (.n) (.n)) (.n))) (.s (.n) (.j ⟨[], [], [], [(0, .l (.b))], []⟩ (.n) (.n)))))))) (mp := false) (args := []) Go.Proofs.Try.func48 (c := Go.Proofs.Try.f48.body.getD .skip) (by kernel_rfl) (by kernel_rfl) (Eq.mp (by kernel_rfl) h)
theorem rhizomelaw05_awake.body : BodyOk Go.Proofs.Try.prog 48 := ⟨Go.Proofs.Try.f48, Go.Proofs.Try.func48, by kernel_rfl, pf.ng _ _ Go.Proofs.Try.func48⟩

end Go.Proofs.Ytcaamecdhbgknaa.VC
