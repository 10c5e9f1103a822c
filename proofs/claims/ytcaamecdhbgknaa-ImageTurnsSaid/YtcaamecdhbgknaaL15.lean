/- What is to be shown of functions' texts, printed by a program of this session's repo; that it gives the functions' contracts is checked by the kernel. -/
import Derived.Test.YtcaamecdhbgknaaProg
import Derived.Test.YtcaamecdhbgknaaPf
namespace Go.Proofs.Ytcaamecdhbgknaa.VC
open Go Go.V
set_option maxRecDepth 1000000
set_option linter.unusedVariables false

/-! ### rhizome/rhizomelaw05.ImageTurns: function 15 -/
def rhizomelaw05_ImageTurns.vc (listsA : Option Addr) (listsL listsC : Nat) (R : Ending → World → Prop) (w : World) : Prop := Calls
  Proofs.Try.prog (48 : Nat) { toList := [] } w fun (e1 : Ending) (w2 : World) => ∃ (b3 : Bool), e1 = Ending.returned (Value.bool b3) ∧
  bcase (!b3) (R (Ending.returned (Value.bool false)) w2) (Calls Proofs.Try.prog (20 : Nat) { toList := [Value.int IntKind.i64 (12 : Int)] }
  w2 fun (e4 : Ending) (w5 : World) => ∃ (p6 : Option Addr), ∃ (n7 : Int), e4 = Ending.returned (Value.tuple { toList := [Value.pointer p6, Value.int IntKind.i64 n7] })
  ∧ ∀ (y8 : Bool → World → Prop), (∀ (b9 : Bool) (w10 : World), bcase b9 (R (Ending.returned (Value.bool false)) w10) (Calls Proofs.Try.prog
  (49 : Nat) { toList := [Value.pointer p6, Value.int IntKind.i64 (0 : Int), Value.int IntKind.i64 (6 : Int)] } w10 fun (e11 : Ending) (w12
  : World) => ∃ (p13 : Option Addr), ∃ (n14 : Int), e11 = Ending.returned (Value.tuple { toList := [Value.pointer p13, Value.int IntKind.i64 n14] })
  ∧ ∀ (y15 : Bool → World → Prop), (∀ (b16 : Bool) (w17 : World), bcase b16 (R (Ending.returned (Value.bool false)) w17) (∃ (y18 : Nat → Int
  → World → Prop), ∃ (k19 : Nat), y18 k19 (0 : Int) w17 ∧ ∀ (k20 : Nat) (n21 : Int) (w22 : World), y18 k20 n21 w22 → ∀ (y24 : Bool → World →
  Prop), (∀ (b25 : Bool) (w26 : World), bcase b25 ((2 : Int) ≠ (0 : Int) ∧ Calls Proofs.Try.prog (22 : Nat) { toList := [Value.pointer p6, Value.int IntKind.i64 (IntKind.wrap IntKind.i64 (Int.tmod (IntKind.wrap IntKind.i64 (n21 + (1 : Int))) (2 : Int) * (6 : Int)))] }
  w26 fun (e27 : Ending) (w28 : World) => ∃ (p29 : Option Addr), ∃ (k30 : Nat), ∃ (k31 : Nat), ∃ (n32 : Int), e27 = Ending.returned
  (Value.tuple { toList := [Value.slice p29 k30 k31, Value.int IntKind.i64 n32] }) ∧ (2 : Int) ≠ (0 : Int) ∧ Calls Proofs.Try.prog (22 :
  Nat) { toList := [Value.pointer p6, Value.int IntKind.i64 (IntKind.wrap IntKind.i64 (IntKind.wrap IntKind.i64 (Int.tmod (IntKind.wrap IntKind.i64 (n21 + (1 : Int))) (2 : Int) * (6 : Int)) + (1 : Int)))] }
  w28 fun (e33 : Ending) (w34 : World) => ∃ (p35 : Option Addr), ∃ (k36 : Nat), ∃ (k37 : Nat), ∃ (n38 : Int), e33 = Ending.returned
  (Value.tuple { toList := [Value.slice p35 k36 k37, Value.int IntKind.i64 n38] }) ∧ ∃ (ad39 : Addr), listsA = some ad39 ∧ ((0 : Int) ≤ n21
  ∧ n21 < (listsL : Int)) ∧ ∃ (p40 : Option Addr), ∃ (k41 : Nat), ∃ (k42 : Nat), World.cell? w34 (Addr.add ad39 (Int.toNat n21 * 1)) = some
  (Value.slice p40 k41 k42) ∧ ∃ (ad43 : Addr), listsA = some ad43 ∧ ((0 : Int) ≤ n21 ∧ n21 < (listsL : Int)) ∧ ∃ (p44 : Option Addr), ∃ (k45
  : Nat), ∃ (k46 : Nat), World.cell? w34 (Addr.add ad43 (Int.toNat n21 * 1)) = some (Value.slice p44 k45 k46) ∧ ((0 : Int) ≤ (0 : Int) ∧ ((0
  : Int) ≤ if (320 : Int) < (k45 : Int) then (320 : Int) else (k45 : Int)) ∧ (if (320 : Int) < (k45 : Int) then (320 : Int) else (k45 :
  Int)) ≤ (k42 : Int)) ∧ ∀ (y47 : Bool → World → Prop), (∀ (b48 : Bool) (w49 : World), bcase b48 (R (Ending.returned (Value.bool false))
  w49) (Calls Proofs.Try.prog (51 : Nat) { toList := [Value.pointer p13] } w49 fun (e50 : Ending) (w51 : World) => ∃ (n52 : Int), ∃ (p53 :
  Option Addr), ∃ (k54 : Nat), ∃ (k55 : Nat), ∃ (b56 : Bool), e50 = Ending.returned (Value.tuple { toList := [Value.int IntKind.i64 n52, Value.slice p53 k54 k55, Value.bool b56] })
  ∧ (2 : Int) ≠ (0 : Int) ∧ Calls Proofs.Try.prog (22 : Nat) { toList := [Value.pointer p6, Value.int IntKind.i64 (IntKind.wrap IntKind.i64 (Int.tmod (IntKind.wrap IntKind.i64 (n21 + (1 : Int))) (2 : Int) * (6 : Int)))] }
  w51 fun (e57 : Ending) (w58 : World) => ∃ (p59 : Option Addr), ∃ (k60 : Nat), ∃ (k61 : Nat), ∃ (n62 : Int), e57 = Ending.returned
  (Value.tuple { toList := [Value.slice p59 k60 k61, Value.int IntKind.i64 n62] }) ∧ (2 : Int) ≠ (0 : Int) ∧ Calls Proofs.Try.prog (22 :
  Nat) { toList := [Value.pointer p6, Value.int IntKind.i64 (IntKind.wrap IntKind.i64 (IntKind.wrap IntKind.i64 (Int.tmod (IntKind.wrap IntKind.i64 (n21 + (1 : Int))) (2 : Int) * (6 : Int)) + (1 : Int)))] }
  w58 fun (e63 : Ending) (w64 : World) => ∃ (p65 : Option Addr), ∃ (k66 : Nat), ∃ (k67 : Nat), ∃ (n68 : Int), e63 = Ending.returned
  (Value.tuple { toList := [Value.slice p65 k66 k67, Value.int IntKind.i64 n68] }) ∧ ∀ (y69 : Bool → World → Prop), (∀ (b70 : Bool) (w71 :
  World), bcase b70 (R (Ending.returned (Value.bool false)) w71) (∃ (k72 : Nat), k72 < k20 ∧ y18 k72 (IntKind.wrap IntKind.i64 (n21 + (1 :
  Int))) w71) → y69 b70 w71) → bcase (!b56) (y69 true w64) (bcase (!decide (n52 = IntKind.wrap IntKind.i64 (IntKind.wrap IntKind.i64 ((3 :
  Int) * n21) + (1 : Int)))) (y69 true w64) (∃ (l75 : List UInt8), List.length l75 = k54 ∧ (∀ (k76 : Nat), k76 < k54 → ∃ (ad78 : Addr), p53
  = some ad78 ∧ World.cell? w64 (Addr.add ad78 k76) = some (Value.int IntKind.u8 ((UInt8.toNat (List.getD l75 k76 (0 : UInt8))) : Int))) ∧ ∃
  (l79 : List UInt8), List.length l79 = Int.toNat (if (320 : Int) < (k45 : Int) then (320 : Int) else (k45 : Int)) - nat_lit 0 ∧ (∀ (k80 :
  Nat), k80 < Int.toNat (if (320 : Int) < (k45 : Int) then (320 : Int) else (k45 : Int)) - nat_lit 0 → ∃ (ad82 : Addr), subA p40 (nat_lit 0)
  k42 (nat_lit 1) = some ad82 ∧ World.cell? w64 (Addr.add ad82 k80) = some (Value.int IntKind.u8 ((UInt8.toNat (List.getD l79 k80 (0 :
  UInt8))) : Int))) ∧ bcase (!decide ((ByteArray.mk (Array.mk l75)) = (ByteArray.mk (Array.mk l79)))) (y69 true w64) (∃ (l83 : List UInt8),
  List.length l83 = k60 ∧ (∀ (k84 : Nat), k84 < k60 → ∃ (ad86 : Addr), p59 = some ad86 ∧ World.cell? w64 (Addr.add ad86 k84) = some
  (Value.int IntKind.u8 ((UInt8.toNat (List.getD l83 k84 (0 : UInt8))) : Int))) ∧ ∃ (l87 : List UInt8), List.length l87 = k30 ∧ (∀ (k88 :
  Nat), k88 < k30 → ∃ (ad90 : Addr), p29 = some ad90 ∧ World.cell? w64 (Addr.add ad90 k88) = some (Value.int IntKind.u8 ((UInt8.toNat
  (List.getD l87 k88 (0 : UInt8))) : Int))) ∧ bcase (!decide ((ByteArray.mk (Array.mk l83)) = (ByteArray.mk (Array.mk l87)))) (y69 true w64)
  (∃ (l91 : List UInt8), List.length l91 = k66 ∧ (∀ (k92 : Nat), k92 < k66 → ∃ (ad94 : Addr), p65 = some ad94 ∧ World.cell? w64 (Addr.add
  ad94 k92) = some (Value.int IntKind.u8 ((UInt8.toNat (List.getD l91 k92 (0 : UInt8))) : Int))) ∧ ∃ (l95 : List UInt8), List.length l95 =
  k36 ∧ (∀ (k96 : Nat), k96 < k36 → ∃ (ad98 : Addr), p35 = some ad98 ∧ World.cell? w64 (Addr.add ad98 k96) = some (Value.int IntKind.u8
  ((UInt8.toNat (List.getD l95 k96 (0 : UInt8))) : Int))) ∧ y69 (!decide ((ByteArray.mk (Array.mk l91)) = (ByteArray.mk (Array.mk l95))))
  w64))))) → y47 b48 w49) → ∀ (w101 : World), Step w34 w101 [] [] → Calls Proofs.Try.prog (50 : Nat) { toList := [Value.pointer p13, Value.int IntKind.i64 (IntKind.wrap IntKind.i64 (IntKind.wrap IntKind.i64 ((3 : Int) * n21) + (1 : Int))), Value.slice (subA p40 0 k42 1) (Int.toNat (if (320 : Int) < (k45 : Int) then (320 : Int) else (k45 : Int)) - 0) (k42 - 0)] }
  w101 fun (e103 : Ending) (w104 : World) => ∃ (n105 : Int), e103 = Ending.returned (Value.int IntKind.i64 n105) ∧ bcase (!decide (n105 = (0
  : Int))) (y47 true w104) (Calls Proofs.Try.prog (50 : Nat) { toList := [Value.pointer p13, Value.int IntKind.i64 (IntKind.wrap IntKind.i64 (IntKind.wrap IntKind.i64 ((3 : Int) * n21) + (1 : Int))), Value.slice (subA p40 0 k42 1) (Int.toNat (if (320 : Int) < (k45 : Int) then (320 : Int) else (k45 : Int)) - 0) (k42 - 0)] }
  w104 fun (e106 : Ending) (w107 : World) => ∃ (n108 : Int), e106 = Ending.returned (Value.int IntKind.i64 n108) ∧ y47 (!decide (n108 = (2 :
  Int))) w107)) (R (Ending.returned (Value.bool true)) w26) → y24 b25 w26) → bcase (decide (n21 < (listsL : Int))) (y24 (decide (n21 < (12 :
  Int))) w22) (y24 false w22)) → y15 b16 w17) → bcase (!decide (n14 = (0 : Int))) (y15 true w12) (y15 (Option.isNone p13) w12)) → y8 b9 w10)
  → bcase (!decide (n7 = (0 : Int))) (y8 true w5) (y8 (Option.isNone p6) w5))

theorem rhizomelaw05_ImageTurns.link {listsA : Option Addr} {listsL listsC : Nat} {R : Ending → World → Prop} {w : World} (h : rhizomelaw05_ImageTurns.vc listsA listsL listsC R w) : Calls Go.Proofs.Try.prog 15 #[.slice listsA listsL listsC] w R :=
  calls_of pf (fn := Go.Proofs.Try.f15) (ann := .s (.n) (.s (.s (.n) (.c (.s (.n) (.n)) (.n))) (.s (.n) (.s (.j ⟨[], [], [], [(30, .l (.b))], []⟩ (.n) (.c (.s (.n) (.n)) (.n))) (.s (.n) (.s (.j ⟨[], [], [], [(41, .l (.b))], []⟩ (.n) (.c (.s (.n) (.n)) (.n))) (.s (.s (.n) (.b (.l ⟨[], [], [], [(6, .l (.i .i64))], []⟩ (.s (.j ⟨[], [], [], [(49, .l (.b))], []⟩ (.n) (.c (.n) (.n))) (.s (.b (.s (.n) (.s (.n) (.s (.n) (.s (.j ⟨[], [], [], [(97, .l (.b))], []⟩ (.n) (.c (.s (.n) (.n)) (.n))) (.s (.n) (.s (.n) (.s (.n) (.j ⟨[], [], [], [(152, .l (.b))], []⟩ (.n) (.c (.s (.n) (.n)) (.n))))))))))) (.n)))))) (.s (.n) (.n))))))))) (mp := false) (args := [.v (.slice listsA listsL listsC)]) Go.Proofs.Try.func15 (c := Go.Proofs.Try.f15.body.getD .skip) (by kernel_rfl) (by kernel_rfl) (Eq.mp (by kernel_rfl) h)
theorem rhizomelaw05_ImageTurns.body : BodyOk Go.Proofs.Try.prog 15 := ⟨Go.Proofs.Try.f15, Go.Proofs.Try.func15, by kernel_rfl, pf.ng _ _ Go.Proofs.Try.func15⟩

end Go.Proofs.Ytcaamecdhbgknaa.VC
