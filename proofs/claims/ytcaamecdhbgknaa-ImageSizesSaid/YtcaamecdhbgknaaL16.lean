/- What is to be shown of functions' texts, printed by a program of this session's repo; that it gives the functions' contracts is checked by the kernel. -/
import Derived.Test.YtcaamecdhbgknaaProg
import Derived.Test.YtcaamecdhbgknaaPf
namespace Go.Proofs.Ytcaamecdhbgknaa.VC
open Go Go.V
set_option maxRecDepth 1000000
set_option linter.unusedVariables false

/-! ### rhizome/rhizomelaw05.ImageSizes: function 16 -/
def rhizomelaw05_ImageSizes.vc (count : Int) (less : Int) (fillA : Option Addr) (fillL fillC : Nat) (R : Ending → World → Prop) (w : World)
  : Prop := Calls Proofs.Try.prog (48 : Nat) { toList := [] } w fun (e1 : Ending) (w2 : World) => ∃ (b3 : Bool), e1 = Ending.returned
  (Value.bool b3) ∧ bcase (!b3) (R (Ending.returned (Value.bool false)) w2) ((8 : Int) ≠ (0 : Int) ∧ Calls Proofs.Try.prog (20 : Nat) { toList := [Value.int IntKind.i64 (IntKind.wrap IntKind.i64 ((2 : Int) * IntKind.wrap IntKind.i64 (IntKind.wrap IntKind.i64 (Int.tmod (IntKind.wrap IntKind.u64 count) (8 : Int)) + (2 : Int))))] }
  w2 fun (e4 : Ending) (w5 : World) => ∃ (p6 : Option Addr), ∃ (n7 : Int), e4 = Ending.returned (Value.tuple { toList := [Value.pointer p6, Value.int IntKind.i64 n7] })
  ∧ ∀ (y8 : Bool → World → Prop), (∀ (b9 : Bool) (w10 : World), bcase b9 (R (Ending.returned (Value.bool false)) w10) (Calls Proofs.Try.prog
  (49 : Nat) { toList := [Value.pointer p6, Value.int IntKind.i64 (0 : Int), Value.int IntKind.i64 (IntKind.wrap IntKind.i64 (IntKind.wrap IntKind.i64 (Int.tmod (IntKind.wrap IntKind.u64 count) (8 : Int)) + (2 : Int)))] }
  w10 fun (e11 : Ending) (w12 : World) => ∃ (p13 : Option Addr), ∃ (n14 : Int), e11 = Ending.returned (Value.tuple { toList := [Value.pointer p13, Value.int IntKind.i64 n14] })
  ∧ ∀ (y15 : Bool → World → Prop), (∀ (b16 : Bool) (w17 : World), bcase b16 (R (Ending.returned (Value.bool false)) w17) ((130 : Int) ≠ (0 :
  Int) ∧ (((0 : Int) ≤ if IntKind.wrap IntKind.i64 (IntKind.wrap IntKind.i64 ((64 : Int) * IntKind.wrap IntKind.i64 (IntKind.wrap
  IntKind.i64 (IntKind.wrap IntKind.i64 (Int.tmod (IntKind.wrap IntKind.u64 count) (8 : Int)) + (2 : Int)) - (1 : Int))) - IntKind.wrap
  IntKind.i64 (Int.tmod (IntKind.wrap IntKind.u64 less) (130 : Int))) > (0 : Int) then IntKind.wrap IntKind.i64 (IntKind.wrap IntKind.i64
  ((64 : Int) * IntKind.wrap IntKind.i64 (IntKind.wrap IntKind.i64 (IntKind.wrap IntKind.i64 (Int.tmod (IntKind.wrap IntKind.u64 count) (8 :
  Int)) + (2 : Int)) - (1 : Int))) - IntKind.wrap IntKind.i64 (Int.tmod (IntKind.wrap IntKind.u64 less) (130 : Int))) else (0 : Int)) ∧ ((if
  IntKind.wrap IntKind.i64 (IntKind.wrap IntKind.i64 ((64 : Int) * IntKind.wrap IntKind.i64 (IntKind.wrap IntKind.i64 (IntKind.wrap
  IntKind.i64 (Int.tmod (IntKind.wrap IntKind.u64 count) (8 : Int)) + (2 : Int)) - (1 : Int))) - IntKind.wrap IntKind.i64 (Int.tmod
  (IntKind.wrap IntKind.u64 less) (130 : Int))) > (0 : Int) then IntKind.wrap IntKind.i64 (IntKind.wrap IntKind.i64 ((64 : Int) *
  IntKind.wrap IntKind.i64 (IntKind.wrap IntKind.i64 (IntKind.wrap IntKind.i64 (Int.tmod (IntKind.wrap IntKind.u64 count) (8 : Int)) + (2 :
  Int)) - (1 : Int))) - IntKind.wrap IntKind.i64 (Int.tmod (IntKind.wrap IntKind.u64 less) (130 : Int))) else (0 : Int)) ≤ if IntKind.wrap
  IntKind.i64 (IntKind.wrap IntKind.i64 ((64 : Int) * IntKind.wrap IntKind.i64 (IntKind.wrap IntKind.i64 (IntKind.wrap IntKind.i64 (Int.tmod
  (IntKind.wrap IntKind.u64 count) (8 : Int)) + (2 : Int)) - (1 : Int))) - IntKind.wrap IntKind.i64 (Int.tmod (IntKind.wrap IntKind.u64
  less) (130 : Int))) > (0 : Int) then IntKind.wrap IntKind.i64 (IntKind.wrap IntKind.i64 ((64 : Int) * IntKind.wrap IntKind.i64
  (IntKind.wrap IntKind.i64 (IntKind.wrap IntKind.i64 (Int.tmod (IntKind.wrap IntKind.u64 count) (8 : Int)) + (2 : Int)) - (1 : Int))) -
  IntKind.wrap IntKind.i64 (Int.tmod (IntKind.wrap IntKind.u64 less) (130 : Int))) else (0 : Int)) ∧ (((1 : Nat) : Int) * if IntKind.wrap
  IntKind.i64 (IntKind.wrap IntKind.i64 ((64 : Int) * IntKind.wrap IntKind.i64 (IntKind.wrap IntKind.i64 (IntKind.wrap IntKind.i64 (Int.tmod
  (IntKind.wrap IntKind.u64 count) (8 : Int)) + (2 : Int)) - (1 : Int))) - IntKind.wrap IntKind.i64 (Int.tmod (IntKind.wrap IntKind.u64
  less) (130 : Int))) > (0 : Int) then IntKind.wrap IntKind.i64 (IntKind.wrap IntKind.i64 ((64 : Int) * IntKind.wrap IntKind.i64
  (IntKind.wrap IntKind.i64 (IntKind.wrap IntKind.i64 (Int.tmod (IntKind.wrap IntKind.u64 count) (8 : Int)) + (2 : Int)) - (1 : Int))) -
  IntKind.wrap IntKind.i64 (Int.tmod (IntKind.wrap IntKind.u64 less) (130 : Int))) else (0 : Int)) ≤ (281474976710656 : Int) ∧ (if
  IntKind.wrap IntKind.i64 (IntKind.wrap IntKind.i64 ((64 : Int) * IntKind.wrap IntKind.i64 (IntKind.wrap IntKind.i64 (IntKind.wrap
  IntKind.i64 (Int.tmod (IntKind.wrap IntKind.u64 count) (8 : Int)) + (2 : Int)) - (1 : Int))) - IntKind.wrap IntKind.i64 (Int.tmod
  (IntKind.wrap IntKind.u64 less) (130 : Int))) > (0 : Int) then IntKind.wrap IntKind.i64 (IntKind.wrap IntKind.i64 ((64 : Int) *
  IntKind.wrap IntKind.i64 (IntKind.wrap IntKind.i64 (IntKind.wrap IntKind.i64 (Int.tmod (IntKind.wrap IntKind.u64 count) (8 : Int)) + (2 :
  Int)) - (1 : Int))) - IntKind.wrap IntKind.i64 (Int.tmod (IntKind.wrap IntKind.u64 less) (130 : Int))) else (0 : Int)) ≤ (281474976710656
  : Int)) ∧ ∀ (w18 : World) (k19 : Nat), Step w17 w18 [] [k19] → Blk w18 k19 (reps [Value.int IntKind.u8 (0 : Int)] (Int.toNat (if
  IntKind.wrap IntKind.i64 (IntKind.wrap IntKind.i64 ((64 : Int) * IntKind.wrap IntKind.i64 (IntKind.wrap IntKind.i64 (IntKind.wrap
  IntKind.i64 (Int.tmod (IntKind.wrap IntKind.u64 count) (8 : Int)) + (2 : Int)) - (1 : Int))) - IntKind.wrap IntKind.i64 (Int.tmod
  (IntKind.wrap IntKind.u64 less) (130 : Int))) > (0 : Int) then IntKind.wrap IntKind.i64 (IntKind.wrap IntKind.i64 ((64 : Int) *
  IntKind.wrap IntKind.i64 (IntKind.wrap IntKind.i64 (IntKind.wrap IntKind.i64 (Int.tmod (IntKind.wrap IntKind.u64 count) (8 : Int)) + (2 :
  Int)) - (1 : Int))) - IntKind.wrap IntKind.i64 (Int.tmod (IntKind.wrap IntKind.u64 less) (130 : Int))) else (0 : Int)))) → ∃ (y22 : Nat →
  Int → World → Prop), ∃ (k23 : Nat), y22 k23 (0 : Int) w18 ∧ ∀ (k24 : Nat) (n25 : Int) (w26 : World), y22 k24 n25 w26 → bcase (decide (n25
  < ((Int.toNat (if IntKind.wrap IntKind.i64 (IntKind.wrap IntKind.i64 ((64 : Int) * IntKind.wrap IntKind.i64 (IntKind.wrap IntKind.i64
  (IntKind.wrap IntKind.i64 (Int.tmod (IntKind.wrap IntKind.u64 count) (8 : Int)) + (2 : Int)) - (1 : Int))) - IntKind.wrap IntKind.i64
  (Int.tmod (IntKind.wrap IntKind.u64 less) (130 : Int))) > (0 : Int) then IntKind.wrap IntKind.i64 (IntKind.wrap IntKind.i64 ((64 : Int) *
  IntKind.wrap IntKind.i64 (IntKind.wrap IntKind.i64 (IntKind.wrap IntKind.i64 (Int.tmod (IntKind.wrap IntKind.u64 count) (8 : Int)) + (2 :
  Int)) - (1 : Int))) - IntKind.wrap IntKind.i64 (Int.tmod (IntKind.wrap IntKind.u64 less) (130 : Int))) else (0 : Int)) : Nat) : Int))) (∀
  (y28 : World → Prop), (∀ (w29 : World), (∃ (k30 : Nat), k30 < k24 ∧ y22 k30 (IntKind.wrap IntKind.i64 (n25 + (1 : Int))) w29) → y28 w29) →
  bcase (decide ((0 : Int) < (fillL : Int))) ((fillL : Int) ≠ (0 : Int) ∧ ∃ (ad33 : Addr), fillA = some ad33 ∧ ((0 : Int) ≤ Int.tmod n25
  (fillL : Int) ∧ Int.tmod n25 (fillL : Int) < (fillL : Int)) ∧ ∃ (n34 : Int), World.cell? w26 (Addr.add ad33 (Int.toNat (Int.tmod n25
  (fillL : Int)) * 1)) = some (Value.int IntKind.u8 n34) ∧ ∃ (ad35 : Addr), some { block := k19, off := 0 } = some ad35 ∧ ((0 : Int) ≤ n25 ∧
  n25 < ((Int.toNat (if IntKind.wrap IntKind.i64 (IntKind.wrap IntKind.i64 ((64 : Int) * IntKind.wrap IntKind.i64 (IntKind.wrap IntKind.i64
  (IntKind.wrap IntKind.i64 (Int.tmod (IntKind.wrap IntKind.u64 count) (8 : Int)) + (2 : Int)) - (1 : Int))) - IntKind.wrap IntKind.i64
  (Int.tmod (IntKind.wrap IntKind.u64 less) (130 : Int))) > (0 : Int) then IntKind.wrap IntKind.i64 (IntKind.wrap IntKind.i64 ((64 : Int) *
  IntKind.wrap IntKind.i64 (IntKind.wrap IntKind.i64 (IntKind.wrap IntKind.i64 (Int.tmod (IntKind.wrap IntKind.u64 count) (8 : Int)) + (2 :
  Int)) - (1 : Int))) - IntKind.wrap IntKind.i64 (Int.tmod (IntKind.wrap IntKind.u64 less) (130 : Int))) else (0 : Int))) : Int)) ∧ ∃ (l36 :
  List Value), Blk w26 (Addr.block (Addr.add ad35 (Int.toNat n25 * 1))) l36 ∧ Addr.spot (Addr.add ad35 (Int.toNat n25 * 1)) = none ∧
  Addr.off (Addr.add ad35 (Int.toNat n25 * 1)) + List.length [Value.int IntKind.u8 n34] ≤ List.length l36 ∧ ∀ (w37 : World), Upd w26 w37
  (Addr.block (Addr.add ad35 (Int.toNat n25 * 1))) (sets l36 (Addr.off (Addr.add ad35 (Int.toNat n25 * 1))) [Value.int IntKind.u8 n34]) →
  y28 w37) (y28 w26)) (∀ (y39 : Bool → World → Prop), (∀ (b40 : Bool) (w41 : World), bcase b40 (R (Ending.returned (Value.bool false)) w41)
  (Calls Proofs.Try.prog (51 : Nat) { toList := [Value.pointer p13] } w41 fun (e42 : Ending) (w43 : World) => ∃ (n44 : Int), ∃ (p45 : Option
  Addr), ∃ (k46 : Nat), ∃ (k47 : Nat), ∃ (b48 : Bool), e42 = Ending.returned (Value.tuple { toList := [Value.int IntKind.i64 n44, Value.slice p45 k46 k47, Value.bool b48] })
  ∧ Calls Proofs.Try.prog (49 : Nat) { toList := [Value.pointer p6, Value.int IntKind.i64 (0 : Int), Value.int IntKind.i64 (IntKind.wrap IntKind.i64 (IntKind.wrap IntKind.i64 (IntKind.wrap IntKind.i64 (Int.tmod (IntKind.wrap IntKind.u64 count) (8 : Int)) + (2 : Int)) + (1 : Int)))] }
  w43 fun (e49 : Ending) (w50 : World) => ∃ (p51 : Option Addr), ∃ (n52 : Int), e49 = Ending.returned (Value.tuple { toList := [Value.pointer p51, Value.int IntKind.i64 n52] })
  ∧ ∀ (y53 : Bool → World → Prop), (∀ (b54 : Bool) (w55 : World), R (Ending.returned (Value.bool b54)) w55 → y53 b54 w55) → bcase b48 (bcase
  (decide (n44 = (1 : Int))) (∃ (l58 : List UInt8), List.length l58 = k46 ∧ (∀ (k59 : Nat), k59 < k46 → ∃ (ad61 : Addr), p45 = some ad61 ∧
  World.cell? w50 (Addr.add ad61 k59) = some (Value.int IntKind.u8 ((UInt8.toNat (List.getD l58 k59 (0 : UInt8))) : Int))) ∧ ∃ (l62 : List
  UInt8), List.length l62 = Int.toNat (if IntKind.wrap IntKind.i64 (IntKind.wrap IntKind.i64 ((64 : Int) * IntKind.wrap IntKind.i64
  (IntKind.wrap IntKind.i64 (IntKind.wrap IntKind.i64 (Int.tmod (IntKind.wrap IntKind.u64 count) (8 : Int)) + (2 : Int)) - (1 : Int))) -
  IntKind.wrap IntKind.i64 (Int.tmod (IntKind.wrap IntKind.u64 less) (130 : Int))) > (0 : Int) then IntKind.wrap IntKind.i64 (IntKind.wrap
  IntKind.i64 ((64 : Int) * IntKind.wrap IntKind.i64 (IntKind.wrap IntKind.i64 (IntKind.wrap IntKind.i64 (Int.tmod (IntKind.wrap IntKind.u64
  count) (8 : Int)) + (2 : Int)) - (1 : Int))) - IntKind.wrap IntKind.i64 (Int.tmod (IntKind.wrap IntKind.u64 less) (130 : Int))) else (0 :
  Int)) ∧ (∀ (k63 : Nat), k63 < Int.toNat (if IntKind.wrap IntKind.i64 (IntKind.wrap IntKind.i64 ((64 : Int) * IntKind.wrap IntKind.i64
  (IntKind.wrap IntKind.i64 (IntKind.wrap IntKind.i64 (Int.tmod (IntKind.wrap IntKind.u64 count) (8 : Int)) + (2 : Int)) - (1 : Int))) -
  IntKind.wrap IntKind.i64 (Int.tmod (IntKind.wrap IntKind.u64 less) (130 : Int))) > (0 : Int) then IntKind.wrap IntKind.i64 (IntKind.wrap
  IntKind.i64 ((64 : Int) * IntKind.wrap IntKind.i64 (IntKind.wrap IntKind.i64 (IntKind.wrap IntKind.i64 (Int.tmod (IntKind.wrap IntKind.u64
  count) (8 : Int)) + (2 : Int)) - (1 : Int))) - IntKind.wrap IntKind.i64 (Int.tmod (IntKind.wrap IntKind.u64 less) (130 : Int))) else (0 :
  Int)) → ∃ (ad65 : Addr), some { block := k19, off := 0 } = some ad65 ∧ World.cell? w50 (Addr.add ad65 k63) = some (Value.int IntKind.u8
  ((UInt8.toNat (List.getD l62 k63 (0 : UInt8))) : Int))) ∧ bcase (decide ((ByteArray.mk (Array.mk l58)) = (ByteArray.mk (Array.mk l62))))
  (bcase (decide (n52 = (1 : Int))) (y53 (Option.isNone p51) w50) (y53 false w50)) (y53 false w50)) (y53 false w50)) (y53 false w50)) → y39
  b40 w41) → ((0 : Int) ≤ IntKind.wrap IntKind.i64 (IntKind.wrap IntKind.i64 ((64 : Int) * IntKind.wrap IntKind.i64 (IntKind.wrap
  IntKind.i64 (IntKind.wrap IntKind.i64 (Int.tmod (IntKind.wrap IntKind.u64 count) (8 : Int)) + (2 : Int)) - (1 : Int))) + (1 : Int)) ∧
  IntKind.wrap IntKind.i64 (IntKind.wrap IntKind.i64 ((64 : Int) * IntKind.wrap IntKind.i64 (IntKind.wrap IntKind.i64 (IntKind.wrap
  IntKind.i64 (Int.tmod (IntKind.wrap IntKind.u64 count) (8 : Int)) + (2 : Int)) - (1 : Int))) + (1 : Int)) ≤ IntKind.wrap IntKind.i64
  (IntKind.wrap IntKind.i64 ((64 : Int) * IntKind.wrap IntKind.i64 (IntKind.wrap IntKind.i64 (IntKind.wrap IntKind.i64 (Int.tmod
  (IntKind.wrap IntKind.u64 count) (8 : Int)) + (2 : Int)) - (1 : Int))) + (1 : Int)) ∧ ((1 : Nat) : Int) * IntKind.wrap IntKind.i64
  (IntKind.wrap IntKind.i64 ((64 : Int) * IntKind.wrap IntKind.i64 (IntKind.wrap IntKind.i64 (IntKind.wrap IntKind.i64 (Int.tmod
  (IntKind.wrap IntKind.u64 count) (8 : Int)) + (2 : Int)) - (1 : Int))) + (1 : Int)) ≤ (281474976710656 : Int) ∧ IntKind.wrap IntKind.i64
  (IntKind.wrap IntKind.i64 ((64 : Int) * IntKind.wrap IntKind.i64 (IntKind.wrap IntKind.i64 (IntKind.wrap IntKind.i64 (Int.tmod
  (IntKind.wrap IntKind.u64 count) (8 : Int)) + (2 : Int)) - (1 : Int))) + (1 : Int)) ≤ (281474976710656 : Int)) ∧ ∀ (w68 : World) (k69 :
  Nat), Step w26 w68 [] [k69] → Blk w68 k69 (reps [Value.int IntKind.u8 (0 : Int)] (Int.toNat (IntKind.wrap IntKind.i64 (IntKind.wrap
  IntKind.i64 ((64 : Int) * IntKind.wrap IntKind.i64 (IntKind.wrap IntKind.i64 (IntKind.wrap IntKind.i64 (Int.tmod (IntKind.wrap IntKind.u64
  count) (8 : Int)) + (2 : Int)) - (1 : Int))) + (1 : Int))))) → Calls Proofs.Try.prog (50 : Nat) { toList := [Value.pointer p13, Value.int IntKind.i64 (1 : Int), Value.slice (some { block := k69, off := 0 }) (Int.toNat (IntKind.wrap IntKind.i64 (IntKind.wrap IntKind.i64 ((64 : Int) * IntKind.wrap IntKind.i64 (IntKind.wrap IntKind.i64 (IntKind.wrap IntKind.i64 (Int.tmod (IntKind.wrap IntKind.u64 count) (8 : Int)) + (2 : Int)) - (1 : Int))) + (1 : Int)))) (Int.toNat (IntKind.wrap IntKind.i64 (IntKind.wrap IntKind.i64 ((64 : Int) * IntKind.wrap IntKind.i64 (IntKind.wrap IntKind.i64 (IntKind.wrap IntKind.i64 (Int.tmod (IntKind.wrap IntKind.u64 count) (8 : Int)) + (2 : Int)) - (1 : Int))) + (1 : Int))))] }
  w68 fun (e72 : Ending) (w73 : World) => ∃ (n74 : Int), e72 = Ending.returned (Value.int IntKind.i64 n74) ∧ bcase (!decide (n74 = (3 :
  Int))) (y39 true w73) (Calls Proofs.Try.prog (50 : Nat) { toList := [Value.pointer p13, Value.int IntKind.i64 (1 : Int), Value.slice (some { block := k19, off := 0 }) (Int.toNat (if IntKind.wrap IntKind.i64 (IntKind.wrap IntKind.i64 ((64 : Int) * IntKind.wrap IntKind.i64 (IntKind.wrap IntKind.i64 (IntKind.wrap IntKind.i64 (Int.tmod (IntKind.wrap IntKind.u64 count) (8 : Int)) + (2 : Int)) - (1 : Int))) - IntKind.wrap IntKind.i64 (Int.tmod (IntKind.wrap IntKind.u64 less) (130 : Int))) > (0 : Int) then IntKind.wrap IntKind.i64 (IntKind.wrap IntKind.i64 ((64 : Int) * IntKind.wrap IntKind.i64 (IntKind.wrap IntKind.i64 (IntKind.wrap IntKind.i64 (Int.tmod (IntKind.wrap IntKind.u64 count) (8 : Int)) + (2 : Int)) - (1 : Int))) - IntKind.wrap IntKind.i64 (Int.tmod (IntKind.wrap IntKind.u64 less) (130 : Int))) else (0 : Int))) (Int.toNat (if IntKind.wrap IntKind.i64 (IntKind.wrap IntKind.i64 ((64 : Int) * IntKind.wrap IntKind.i64 (IntKind.wrap IntKind.i64 (IntKind.wrap IntKind.i64 (Int.tmod (IntKind.wrap IntKind.u64 count) (8 : Int)) + (2 : Int)) - (1 : Int))) - IntKind.wrap IntKind.i64 (Int.tmod (IntKind.wrap IntKind.u64 less) (130 : Int))) > (0 : Int) then IntKind.wrap IntKind.i64 (IntKind.wrap IntKind.i64 ((64 : Int) * IntKind.wrap IntKind.i64 (IntKind.wrap IntKind.i64 (IntKind.wrap IntKind.i64 (Int.tmod (IntKind.wrap IntKind.u64 count) (8 : Int)) + (2 : Int)) - (1 : Int))) - IntKind.wrap IntKind.i64 (Int.tmod (IntKind.wrap IntKind.u64 less) (130 : Int))) else (0 : Int)))] }
  w73 fun (e75 : Ending) (w76 : World) => ∃ (n77 : Int), e75 = Ending.returned (Value.int IntKind.i64 n77) ∧ y39 (!decide (n77 = (0 : Int)))
  w76))) → y15 b16 w17) → bcase (!decide (n14 = (0 : Int))) (y15 true w12) (y15 (Option.isNone p13) w12)) → y8 b9 w10) → bcase (!decide (n7
  = (0 : Int))) (y8 true w5) (y8 (Option.isNone p6) w5))

theorem rhizomelaw05_ImageSizes.link {count : Int} {less : Int} {fillA : Option Addr} {fillL fillC : Nat} {R : Ending → World → Prop} {w : World} (h : rhizomelaw05_ImageSizes.vc count less fillA fillL fillC R w) : Calls Go.Proofs.Try.prog 16 #[.int .i64 count, .int .i64 less, .slice fillA fillL fillC] w R :=
  calls_of pf (fn := Go.Proofs.Try.f16) (ann := .s (.n) (.s (.s (.n) (.c (.s (.n) (.n)) (.n))) (.s (.n) (.s (.n) (.s (.j ⟨[], [], [], [(35, .l (.b))], []⟩ (.n) (.c (.s (.n) (.n)) (.n))) (.s (.n) (.s (.j ⟨[], [], [], [(47, .l (.b))], []⟩ (.n) (.c (.s (.n) (.n)) (.n))) (.s (.n) (.s (.n) (.s (.s (.n) (.b (.l ⟨[], [], [], [(61, .l (.i .i64))], []⟩ (.s (.n) (.s (.c (.n) (.n)) (.j ⟨[], [], [], [], []⟩ (.b (.s (.n) (.s (.n) (.c (.n) (.n))))) (.n))))))) (.s (.j ⟨[], [], [], [(91, .l (.b))], []⟩ (.n) (.c (.s (.n) (.n)) (.n))) (.s (.n) (.s (.n) (.j ⟨[], [], [], [(6, .l (.b))], []⟩ (.n) (.n))))))))))))))) (mp := false) (args := [.v (.int .i64 count), .v (.int .i64 less), .v (.slice fillA fillL fillC)]) Go.Proofs.Try.func16 (c := Go.Proofs.Try.f16.body.getD .skip) (by kernel_rfl) (by kernel_rfl) (Eq.mp (by kernel_rfl) h)
theorem rhizomelaw05_ImageSizes.body : BodyOk Go.Proofs.Try.prog 16 := ⟨Go.Proofs.Try.f16, Go.Proofs.Try.func16, by kernel_rfl, pf.ng _ _ Go.Proofs.Try.func16⟩

end Go.Proofs.Ytcaamecdhbgknaa.VC
