/- What is to be shown of functions' texts, printed by a program of this session's repo; that it gives the functions' contracts is checked by the kernel. -/
import Derived.Test.YtcaamecdhbgknaaProg
import Derived.Test.YtcaamecdhbgknaaPf
namespace Go.Proofs.Ytcaamecdhbgknaa.VC
open Go Go.V
set_option maxRecDepth 1000000
set_option linter.unusedVariables false

/-! ### rhizome/rhizomelaw05.ImageWhole: function 18 -/
def rhizomelaw05_ImageWhole.vc (listsA : Option Addr) (listsL listsC : Nat) (keepA : Option Addr) (keepL keepC : Nat) (cutsA : Option Addr)
  (cutsL cutsC : Nat) (R : Ending → World → Prop) (w : World) : Prop := Calls Proofs.Try.prog (48 : Nat) { toList := [] } w fun (e1 :
  Ending) (w2 : World) => ∃ (b3 : Bool), e1 = Ending.returned (Value.bool b3) ∧ bcase (!b3) (R (Ending.returned (Value.bool false)) w2)
  (Calls Proofs.Try.prog (20 : Nat) { toList := [Value.int IntKind.i64 (20 : Int)] } w2 fun (e4 : Ending) (w5 : World) => ∃ (p6 : Option
  Addr), ∃ (n7 : Int), e4 = Ending.returned (Value.tuple { toList := [Value.pointer p6, Value.int IntKind.i64 n7] }) ∧ ∀ (y8 : Bool → World
  → Prop), (∀ (b9 : Bool) (w10 : World), bcase b9 (R (Ending.returned (Value.bool false)) w10) (∃ (y11 : Nat → Option Addr → Option Addr →
  Nat → Nat → Int → Int → World → Prop), ∃ (k12 : Nat), y11 k12 p6 none 0 0 (0 : Int) (0 : Int) w10 ∧ ∀ (k13 : Nat) (p14 p15 : Option Addr)
  (k16 k17 : Nat) (n18 n19 : Int) (w20 : World), y11 k13 p14 p15 k16 k17 n18 n19 w20 → ∀ (y22 : Bool → World → Prop), (∀ (b23 : Bool) (w24 :
  World), bcase b23 (∀ (y25 : Option Addr → Option Addr → Nat → Nat → Int → World → Prop), (∀ (p26 p27 : Option Addr) (k28 k29 : Nat) (n30 :
  Int) (w31 : World), (∃ (k32 : Nat), k32 < k13 ∧ y11 k32 p26 p27 k28 k29 n30 (IntKind.wrap IntKind.i64 (n19 + (1 : Int))) w31) → y25 p26
  p27 k28 k29 n30 w31) → Calls Proofs.Try.prog (49 : Nat) { toList := [Value.pointer p14, Value.int IntKind.i64 (1 : Int), Value.int IntKind.i64 (9 : Int)] }
  w24 fun (e35 : Ending) (w36 : World) => ∃ (p37 : Option Addr), ∃ (n38 : Int), e35 = Ending.returned (Value.tuple { toList := [Value.pointer p37, Value.int IntKind.i64 n38] })
  ∧ ∀ (y39 : Bool → World → Prop), (∀ (b40 : Bool) (w41 : World), bcase b40 (R (Ending.returned (Value.bool false)) w41) (∀ (y42 : Int →
  World → Prop), (∀ (n43 : Int) (w44 : World), ((16 : Int) ≠ (0 : Int) ∧ Calls Proofs.Try.prog (29 : Nat) { toList := [Value.pointer p14, Value.int IntKind.i64 (IntKind.wrap IntKind.i64 (Int.tmod (IntKind.wrap IntKind.u64 n43) (16 : Int)))] }
  w44 fun (e45 : Ending) (w46 : World) => ∃ (n47 : Int), e45 = Ending.returned (Value.int IntKind.i64 n47) ∧ bcase (!decide (n47 = (0 :
  Int))) (R (Ending.returned (Value.bool false)) w46) (∃ (ad48 : Addr), listsA = some ad48 ∧ ((0 : Int) ≤ n19 ∧ n19 < (listsL : Int)) ∧ ∃
  (p49 : Option Addr), ∃ (k50 : Nat), ∃ (k51 : Nat), World.cell? w46 (Addr.add ad48 (Int.toNat n19 * 1)) = some (Value.slice p49 k50 k51) ∧
  ∃ (ad52 : Addr), listsA = some ad52 ∧ ((0 : Int) ≤ n19 ∧ n19 < (listsL : Int)) ∧ ∃ (p53 : Option Addr), ∃ (k54 : Nat), ∃ (k55 : Nat),
  World.cell? w46 (Addr.add ad52 (Int.toNat n19 * 1)) = some (Value.slice p53 k54 k55) ∧ ((0 : Int) ≤ (0 : Int) ∧ ((0 : Int) ≤ if (500 :
  Int) < (k54 : Int) then (500 : Int) else (k54 : Int)) ∧ (if (500 : Int) < (k54 : Int) then (500 : Int) else (k54 : Int)) ≤ (k51 : Int)) ∧
  ∀ (w56 : World), Step w46 w56 [] [] → Calls Proofs.Try.prog (50 : Nat) { toList := [Value.pointer p37, Value.int IntKind.i64 (IntKind.wrap IntKind.i64 (n18 + (1 : Int))), Value.slice (subA p49 0 k51 1) (Int.toNat (if (500 : Int) < (k54 : Int) then (500 : Int) else (k54 : Int)) - 0) (k51 - 0)] }
  w56 fun (e58 : Ending) (w59 : World) => ∃ (n60 : Int), e58 = Ending.returned (Value.int IntKind.i64 n60) ∧ ∀ (y61 : Bool → World → Prop),
  (∀ (b62 : Bool) (w63 : World), bcase b62 (R (Ending.returned (Value.bool false)) w63) ((7 : Int) ≠ (0 : Int) ∧ (65 : Int) ≠ (0 : Int) ∧
  Calls Proofs.Try.prog (28 : Nat) { toList := [Value.pointer p14, Value.slice keepA keepL keepC, Value.int IntKind.i64 (IntKind.wrap IntKind.i64 (Int.tmod n43 (7 : Int) - (1 : Int))), Value.int IntKind.i64 (Int.tmod n43 (65 : Int))] }
  w63 fun (e64 : Ending) (w65 : World) => ∃ (p66 : Option Addr), e64 = Ending.returned (Value.pointer p66) ∧ bcase (Option.isNone p66) (R
  (Ending.returned (Value.bool false)) w65) (Calls Proofs.Try.prog (49 : Nat) { toList := [Value.pointer p66, Value.int IntKind.i64 (1 : Int), Value.int IntKind.i64 (9 : Int)] }
  w65 fun (e67 : Ending) (w68 : World) => ∃ (p69 : Option Addr), ∃ (n70 : Int), e67 = Ending.returned (Value.tuple { toList := [Value.pointer p69, Value.int IntKind.i64 n70] })
  ∧ ∀ (y71 : Bool → World → Prop), (∀ (b72 : Bool) (w73 : World), bcase b72 (R (Ending.returned (Value.bool false)) w73) (Calls
  Proofs.Try.prog (51 : Nat) { toList := [Value.pointer p69] } w73 fun (e74 : Ending) (w75 : World) => ∃ (n76 : Int), ∃ (p77 : Option Addr),
  ∃ (k78 : Nat), ∃ (k79 : Nat), ∃ (b80 : Bool), e74 = Ending.returned (Value.tuple { toList := [Value.int IntKind.i64 n76, Value.slice p77 k78 k79, Value.bool b80] })
  ∧ ∀ (y81 : Bool → World → Prop), (∀ (b82 : Bool) (w83 : World), bcase b82 (y25 p66 (subA p49 (nat_lit 0) k51 (nat_lit 1)) (Int.toNat (if
  (500 : Int) < (k54 : Int) then (500 : Int) else (k54 : Int)) - nat_lit 0) (k51 - nat_lit 0) n76 w83) (∀ (y84 : Bool → World → Prop), (∀
  (b85 : Bool) (w86 : World), bcase b85 (R (Ending.returned (Value.bool false)) w86) (y25 p66 p15 k16 k17 n18 w86) → y84 b85 w86) → bcase
  (decide (n60 = (0 : Int))) (y84 true w83) (bcase (!b80 == decide ((0 : Int) < n18)) (y84 true w83) (bcase (!decide (n76 = n18)) (y84 true
  w83) (∃ (l89 : List UInt8), List.length l89 = k78 ∧ (∀ (k90 : Nat), k90 < k78 → ∃ (ad92 : Addr), p77 = some ad92 ∧ World.cell? w83
  (Addr.add ad92 k90) = some (Value.int IntKind.u8 ((UInt8.toNat (List.getD l89 k90 (0 : UInt8))) : Int))) ∧ ∃ (l93 : List UInt8),
  List.length l93 = k16 ∧ (∀ (k94 : Nat), k94 < k16 → ∃ (ad96 : Addr), p15 = some ad96 ∧ World.cell? w83 (Addr.add ad96 k94) = some
  (Value.int IntKind.u8 ((UInt8.toNat (List.getD l93 k94 (0 : UInt8))) : Int))) ∧ y84 (!decide ((ByteArray.mk (Array.mk l89)) =
  (ByteArray.mk (Array.mk l93)))) w83)))) → y81 b82 w83) → bcase b80 (bcase (decide (n76 = IntKind.wrap IntKind.i64 (n18 + (1 : Int)))) (∃
  (l99 : List UInt8), List.length l99 = k78 ∧ (∀ (k100 : Nat), k100 < k78 → ∃ (ad102 : Addr), p77 = some ad102 ∧ World.cell? w75 (Addr.add
  ad102 k100) = some (Value.int IntKind.u8 ((UInt8.toNat (List.getD l99 k100 (0 : UInt8))) : Int))) ∧ ∃ (l103 : List UInt8), List.length
  l103 = Int.toNat (if (500 : Int) < (k54 : Int) then (500 : Int) else (k54 : Int)) - nat_lit 0 ∧ (∀ (k104 : Nat), k104 < Int.toNat (if (500
  : Int) < (k54 : Int) then (500 : Int) else (k54 : Int)) - nat_lit 0 → ∃ (ad106 : Addr), subA p49 (nat_lit 0) k51 (nat_lit 1) = some ad106
  ∧ World.cell? w75 (Addr.add ad106 k104) = some (Value.int IntKind.u8 ((UInt8.toNat (List.getD l103 k104 (0 : UInt8))) : Int))) ∧ y81
  (decide ((ByteArray.mk (Array.mk l99)) = (ByteArray.mk (Array.mk l103)))) w75) (y81 false w75)) (y81 false w75)) → y71 b72 w73) → bcase
  (!decide (n70 = (0 : Int))) (y71 true w68) (y71 (Option.isNone p69) w68))) → y61 b62 w63) → bcase (!decide (n60 = (0 : Int))) (y61
  (!decide (n60 = (30 : Int))) w59) (y61 false w59))) → y42 n43 w44) → bcase (decide (n19 < (cutsL : Int))) (∃ (ad113 : Addr), cutsA = some
  ad113 ∧ ((0 : Int) ≤ n19 ∧ n19 < (cutsL : Int)) ∧ ∃ (n114 : Int), World.cell? w41 (Addr.add ad113 (Int.toNat n19 * 1)) = some (Value.int
  IntKind.i64 n114) ∧ y42 n114 w41) (y42 (0 : Int) w41)) → y39 b40 w41) → bcase (!decide (n38 = (0 : Int))) (y39 true w36) (y39
  (Option.isNone p37) w36)) (R (Ending.returned (Value.bool true)) w24) → y22 b23 w24) → bcase (decide (n19 < (listsL : Int))) (y22 (decide
  (n19 < (8 : Int))) w20) (y22 false w20)) → y8 b9 w10) → bcase (!decide (n7 = (0 : Int))) (y8 true w5) (y8 (Option.isNone p6) w5))

theorem rhizomelaw05_ImageWhole.link {listsA : Option Addr} {listsL listsC : Nat} {keepA : Option Addr} {keepL keepC : Nat} {cutsA : Option Addr} {cutsL cutsC : Nat} {R : Ending → World → Prop} {w : World} (h : rhizomelaw05_ImageWhole.vc listsA listsL listsC keepA keepL keepC cutsA cutsL cutsC R w) : Calls Go.Proofs.Try.prog 18 #[.slice listsA listsL listsC, .slice keepA keepL keepC, .slice cutsA cutsL cutsC] w R :=
  calls_of pf (fn := Go.Proofs.Try.f18) (ann := .s (.n) (.s (.s (.n) (.c (.s (.n) (.n)) (.n))) (.s (.n) (.s (.j ⟨[], [], [], [(32, .l (.b))], []⟩ (.n) (.c (.s (.n) (.n)) (.n))) (.s (.n) (.s (.s (.n) (.b (.l ⟨[], [], [], [(7, .l (.p)), (9, .l (.sl)), (10, .l (.i .i64)), (11, .l (.i .i64))], []⟩ (.s (.j ⟨[], [], [], [(40, .l (.b))], []⟩ (.n) (.c (.n) (.n))) (.j ⟨[], [], [], [(7, .l (.p)), (9, .l (.sl)), (10, .l (.i .i64))], []⟩ (.b (.s (.n) (.s (.j ⟨[], [], [], [(53, .l (.b))], []⟩ (.n) (.c (.s (.n) (.n)) (.n))) (.s (.n) (.j ⟨[], [], [], [(14, .l (.i .i64))], []⟩ (.s (.n) (.c (.n) (.n))) (.s (.s (.n) (.c (.s (.n) (.n)) (.n))) (.s (.n) (.s (.n) (.s (.j ⟨[], [], [], [(90, .l (.b))], []⟩ (.n) (.c (.s (.n) (.n)) (.n))) (.s (.n) (.s (.s (.n) (.c (.s (.n) (.n)) (.n))) (.s (.n) (.s (.j ⟨[], [], [], [(111, .l (.b))], []⟩ (.n) (.c (.s (.n) (.n)) (.n))) (.s (.n) (.b (.j ⟨[], [], [], [(118, .l (.b))], []⟩ (.n) (.c (.n) (.j ⟨[], [], [], [(135, .l (.b))], []⟩ (.n) (.c (.s (.n) (.n)) (.n)))))))))))))))))))) (.n)))))) (.s (.n) (.n)))))))) (mp := false) (args := [.v (.slice listsA listsL listsC), .v (.slice keepA keepL keepC), .v (.slice cutsA cutsL cutsC)]) Go.Proofs.Try.func18 (c := Go.Proofs.Try.f18.body.getD .skip) (by kernel_rfl) (by kernel_rfl) (Eq.mp (by kernel_rfl) h)
theorem rhizomelaw05_ImageWhole.body : BodyOk Go.Proofs.Try.prog 18 := ⟨Go.Proofs.Try.f18, Go.Proofs.Try.func18, by kernel_rfl, pf.ng _ _ Go.Proofs.Try.func18⟩

end Go.Proofs.Ytcaamecdhbgknaa.VC
