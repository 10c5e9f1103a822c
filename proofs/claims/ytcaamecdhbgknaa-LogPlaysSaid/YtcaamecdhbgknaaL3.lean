/- What is to be shown of functions' texts, printed by a program of this session's repo; that it gives the functions' contracts is checked by the kernel. -/
import Derived.Test.YtcaamecdhbgknaaProg
import Derived.Test.YtcaamecdhbgknaaPf
namespace Go.Proofs.Ytcaamecdhbgknaa.VC
open Go Go.V
set_option maxRecDepth 1000000
set_option linter.unusedVariables false

/-! ### rhizome/rhizomelaw03.DiskReads: function 3 -/
def rhizomelaw03_DiskReads.vc (n : Int) (i : Int) (bA : Option Addr) (bL bC : Nat) (R : Ending → World → Prop) (w : World) : Prop := Calls
  Proofs.Try.prog (19 : Nat) { toList := [] } w fun (e1 : Ending) (w2 : World) => ∃ (b3 : Bool), e1 = Ending.returned (Value.bool b3) ∧
  bcase (!b3) (R (Ending.returned (Value.bool false)) w2) ((4096 : Int) ≠ (0 : Int) ∧ Calls Proofs.Try.prog (20 : Nat) { toList := [Value.int IntKind.i64 (IntKind.wrap IntKind.i64 (IntKind.wrap IntKind.i64 (Int.tmod (IntKind.wrap IntKind.u64 n) (4096 : Int)) + (1 : Int)))] }
  w2 fun (e4 : Ending) (w5 : World) => ∃ (p6 : Option Addr), ∃ (n7 : Int), e4 = Ending.returned (Value.tuple { toList := [Value.pointer p6, Value.int IntKind.i64 n7] })
  ∧ ∀ (y8 : Bool → World → Prop), (∀ (b9 : Bool) (w10 : World), bcase b9 (R (Ending.returned (Value.bool false)) w10) (Calls Proofs.Try.prog
  (22 : Nat) { toList := [Value.pointer p6, Value.int IntKind.i64 i] } w10 fun (e11 : Ending) (w12 : World) => ∃ (p13 : Option Addr), ∃ (k14
  : Nat), ∃ (k15 : Nat), ∃ (n16 : Int), e11 = Ending.returned (Value.tuple { toList := [Value.slice p13 k14 k15, Value.int IntKind.i64 n16] })
  ∧ ∀ (y17 : Bool → World → Prop), (∀ (b18 : Bool) (w19 : World), (Calls Proofs.Try.prog (24 : Nat) { toList := [Value.slice bA bL bC] } w19
  fun (e20 : Ending) (w21 : World) => ∃ (p22 : Option Addr), ∃ (k23 : Nat), ∃ (k24 : Nat), e20 = Ending.returned (Value.slice p22 k23 k24) ∧
  Calls Proofs.Try.prog (23 : Nat) { toList := [Value.pointer p6, Value.int IntKind.i64 i, Value.slice p22 k23 k24] } w21 fun (e25 : Ending)
  (w26 : World) => ∃ (n27 : Int), e25 = Ending.returned (Value.int IntKind.i64 n27) ∧ bcase b18 (∀ (y28 : Bool → World → Prop), (∀ (b29 :
  Bool) (w30 : World), R (Ending.returned (Value.bool b29)) w30 → y28 b29 w30) → bcase (decide (n16 = (1 : Int))) (bcase (decide (n27 = (1 :
  Int))) (bcase (decide ((k14 : Int) = (0 : Int))) (Calls Proofs.Try.prog (25 : Nat) { toList := [Value.pointer p6] } w26 fun (e33 : Ending)
  (w34 : World) => ∃ (n35 : Int), e33 = Ending.returned (Value.int IntKind.i64 n35) ∧ y28 (decide (n35 = (0 : Int))) w34) (y28 false w26))
  (y28 false w26)) (y28 false w26)) (∀ (y36 : Bool → World → Prop), (∀ (b37 : Bool) (w38 : World), bcase b37 (R (Ending.returned (Value.bool
  false)) w38) (Calls Proofs.Try.prog (22 : Nat) { toList := [Value.pointer p6, Value.int IntKind.i64 i] } w38 fun (e39 : Ending) (w40 :
  World) => ∃ (p41 : Option Addr), ∃ (k42 : Nat), ∃ (k43 : Nat), ∃ (n44 : Int), e39 = Ending.returned (Value.tuple { toList := [Value.slice p41 k42 k43, Value.int IntKind.i64 n44] })
  ∧ ∃ (y45 : Nat → Int → World → Prop), ∃ (k46 : Nat), y45 k46 (0 : Int) w40 ∧ ∀ (k47 : Nat) (n48 : Int) (w49 : World), y45 k47 n48 w49 →
  bcase (decide (n48 < (k42 : Int))) (∃ (ad51 : Addr), p41 = some ad51 ∧ ((0 : Int) ≤ n48 ∧ n48 < (k42 : Int)) ∧ ∃ (n52 : Int), World.cell?
  w49 (Addr.add ad51 (Int.toNat n48 * 1)) = some (Value.int IntKind.u8 n52) ∧ ∃ (ad53 : Addr), p41 = some ad53 ∧ ((0 : Int) ≤ n48 ∧ n48 <
  (k42 : Int)) ∧ ∃ (l54 : List Value), Blk w49 (Addr.block (Addr.add ad53 (Int.toNat n48 * 1))) l54 ∧ Addr.spot (Addr.add ad53 (Int.toNat
  n48 * 1)) = none ∧ Addr.off (Addr.add ad53 (Int.toNat n48 * 1)) + List.length [Value.int IntKind.u8 (IntKind.wrap IntKind.u8 (n52 + (1 :
  Int)))] ≤ List.length l54 ∧ ∀ (w55 : World), Upd w49 w55 (Addr.block (Addr.add ad53 (Int.toNat n48 * 1))) (sets l54 (Addr.off (Addr.add
  ad53 (Int.toNat n48 * 1))) [Value.int IntKind.u8 (IntKind.wrap IntKind.u8 (n52 + (1 : Int)))]) → ∃ (k57 : Nat), k57 < k47 ∧ y45 k57
  (IntKind.wrap IntKind.i64 (n48 + (1 : Int))) w55) (Calls Proofs.Try.prog (22 : Nat) { toList := [Value.pointer p6, Value.int IntKind.i64 i] }
  w49 fun (e58 : Ending) (w59 : World) => ∃ (p60 : Option Addr), ∃ (k61 : Nat), ∃ (k62 : Nat), ∃ (n63 : Int), e58 = Ending.returned
  (Value.tuple { toList := [Value.slice p60 k61 k62, Value.int IntKind.i64 n63] }) ∧ ∀ (y64 : Bool → World → Prop), (∀ (b65 : Bool) (w66 :
  World), R (Ending.returned (Value.bool b65)) w66 → y64 b65 w66) → bcase (decide (n63 = (0 : Int))) ((∃ (l69 : List UInt8), List.length l69
  = k61 ∧ (∀ (k70 : Nat), k70 < k61 → ∃ (ad72 : Addr), p60 = some ad72 ∧ World.cell? w59 (Addr.add ad72 k70) = some (Value.int IntKind.u8
  ((UInt8.toNat (List.getD l69 k70 (0 : UInt8))) : Int))) ∧ ∀ (w73 : World), Step w59 w73 [] [] → Calls Proofs.Try.prog (24 : Nat) { toList := [Value.slice bA bL bC] }
  w73 fun (e75 : Ending) (w76 : World) => ∃ (p77 : Option Addr), ∃ (k78 : Nat), ∃ (k79 : Nat), e75 = Ending.returned (Value.slice p77 k78
  k79) ∧ ∃ (l80 : List UInt8), List.length l80 = k78 ∧ (∀ (k81 : Nat), k81 < k78 → ∃ (ad83 : Addr), p77 = some ad83 ∧ World.cell? w76
  (Addr.add ad83 k81) = some (Value.int IntKind.u8 ((UInt8.toNat (List.getD l80 k81 (0 : UInt8))) : Int))) ∧ bcase (decide ((ByteArray.mk
  (Array.mk l69)) = (ByteArray.mk (Array.mk l80)))) (Calls Proofs.Try.prog (26 : Nat) { toList := [Value.pointer p6] } w76 fun (e84 :
  Ending) (w85 : World) => ∃ (p86 : Option Addr), ∃ (k87 : Nat), ∃ (k88 : Nat), e84 = Ending.returned (Value.slice p86 k87 k88) ∧ y64
  (decide ((k87 : Int) = (1 : Int))) w85) (y64 false w76)) ∧ ∀ (w89 : World), Step w59 w89 [] [] → Calls Proofs.Try.prog (24 : Nat) { toList := [Value.slice bA bL bC] }
  w89 fun (e91 : Ending) (w92 : World) => ∃ (p93 : Option Addr), ∃ (k94 : Nat), ∃ (k95 : Nat), e91 = Ending.returned (Value.slice p93 k94
  k95) ∧ ∃ (l96 : List UInt8), List.length l96 = k61 ∧ (∀ (k97 : Nat), k97 < k61 → ∃ (ad99 : Addr), p60 = some ad99 ∧ World.cell? w92
  (Addr.add ad99 k97) = some (Value.int IntKind.u8 ((UInt8.toNat (List.getD l96 k97 (0 : UInt8))) : Int))) ∧ ∃ (l100 : List UInt8),
  List.length l100 = k94 ∧ (∀ (k101 : Nat), k101 < k94 → ∃ (ad103 : Addr), p93 = some ad103 ∧ World.cell? w92 (Addr.add ad103 k101) = some
  (Value.int IntKind.u8 ((UInt8.toNat (List.getD l100 k101 (0 : UInt8))) : Int))) ∧ bcase (decide ((ByteArray.mk (Array.mk l96)) =
  (ByteArray.mk (Array.mk l100)))) (Calls Proofs.Try.prog (26 : Nat) { toList := [Value.pointer p6] } w92 fun (e104 : Ending) (w105 : World)
  => ∃ (p106 : Option Addr), ∃ (k107 : Nat), ∃ (k108 : Nat), e104 = Ending.returned (Value.slice p106 k107 k108) ∧ y64 (decide ((k107 : Int)
  = (1 : Int))) w105) (y64 false w92)) (∀ (w109 : World), Step w59 w109 [] [] → y64 false w109))) → y36 b37 w38) → bcase (!decide (n16 = (0
  : Int))) (∀ (w113 : World), Step w26 w113 [] [] → y36 true w113) (bcase (!decide (n27 = (0 : Int))) (∀ (w115 : World), Step w26 w115 [] []
  → y36 true w115) (∃ (l117 : List UInt8), List.length l117 = k14 ∧ (∀ (k118 : Nat), k118 < k14 → ∃ (ad120 : Addr), p13 = some ad120 ∧
  World.cell? w26 (Addr.add ad120 k118) = some (Value.int IntKind.u8 ((UInt8.toNat (List.getD l117 k118 (0 : UInt8))) : Int))) ∧ ((0 : Int)
  ≤ (64 : Int) ∧ (64 : Int) ≤ (64 : Int) ∧ ((1 : Nat) : Int) * (64 : Int) ≤ (281474976710656 : Int) ∧ (64 : Int) ≤ (281474976710656 : Int))
  ∧ ∀ (w121 : World) (k122 : Nat), Step w26 w121 [] [k122] → Blk w121 k122 (reps [Value.int IntKind.u8 (0 : Int)] 64) → ∃ (l125 : List
  UInt8), List.length l125 = 64 ∧ (∀ (k126 : Nat), k126 < 64 → ∃ (ad128 : Addr), some { block := k122, off := 0 } = some ad128 ∧ World.cell?
  w121 (Addr.add ad128 k126) = some (Value.int IntKind.u8 ((UInt8.toNat (List.getD l125 k126 (0 : UInt8))) : Int))) ∧ y36 (!decide
  ((ByteArray.mk (Array.mk l117)) = (ByteArray.mk (Array.mk l125)))) w121)))) → y17 b18 w19) → bcase (decide (i < (0 : Int))) (y17 true w12)
  (y17 (decide (IntKind.wrap IntKind.i64 (IntKind.wrap IntKind.i64 (Int.tmod (IntKind.wrap IntKind.u64 n) (4096 : Int)) + (1 : Int)) ≤ i))
  w12)) → y8 b9 w10) → bcase (!decide (n7 = (0 : Int))) (y8 true w5) (bcase (Option.isNone p6) (y8 true w5) (Calls Proofs.Try.prog (21 :
  Nat) { toList := [Value.pointer p6] } w5 fun (e133 : Ending) (w134 : World) => ∃ (n135 : Int), e133 = Ending.returned (Value.int
  IntKind.i64 n135) ∧ y8 (!decide (n135 = IntKind.wrap IntKind.i64 (IntKind.wrap IntKind.i64 (Int.tmod (IntKind.wrap IntKind.u64 n) (4096 :
  Int)) + (1 : Int)))) w134)))

theorem rhizomelaw03_DiskReads.link {n : Int} {i : Int} {bA : Option Addr} {bL bC : Nat} {R : Ending → World → Prop} {w : World} (h : rhizomelaw03_DiskReads.vc n i bA bL bC R w) : Calls Go.Proofs.Try.prog 3 #[.int .i64 n, .int .i64 i, .slice bA bL bC] w R :=
  calls_of pf (fn := Go.Proofs.Try.f3) (ann := .s (.n) (.s (.s (.n) (.c (.s (.n) (.n)) (.n))) (.s (.n) (.s (.n) (.s (.j ⟨[], [], [], [(39, .l (.b))], []⟩ (.n) (.c (.s (.n) (.n)) (.n))) (.s (.n) (.j ⟨[], [], [], [(10, .l (.b))], []⟩ (.n) (.s (.n) (.s (.s (.n) (.c (.j ⟨[], [], [], [(6, .l (.b))], []⟩ (.n) (.n)) (.n))) (.s (.j ⟨[], [], [], [(87, .l (.b))], []⟩ (.n) (.c (.s (.n) (.n)) (.n))) (.s (.n) (.s (.s (.n) (.b (.l ⟨[], [], [], [(96, .l (.i .i64))], []⟩ (.s (.n) (.s (.c (.n) (.n)) (.s (.b (.s (.n) (.n))) (.n))))))) (.s (.n) (.j ⟨[], [], [], [(6, .l (.b))], []⟩ (.n) (.n))))))))))))))) (mp := false) (args := [.v (.int .i64 n), .v (.int .i64 i), .v (.slice bA bL bC)]) Go.Proofs.Try.func3 (c := Go.Proofs.Try.f3.body.getD .skip) (by kernel_rfl) (by kernel_rfl) (Eq.mp (by kernel_rfl) h)
theorem rhizomelaw03_DiskReads.body : BodyOk Go.Proofs.Try.prog 3 := ⟨Go.Proofs.Try.f3, Go.Proofs.Try.func3, by kernel_rfl, pf.ng _ _ Go.Proofs.Try.func3⟩

end Go.Proofs.Ytcaamecdhbgknaa.VC
