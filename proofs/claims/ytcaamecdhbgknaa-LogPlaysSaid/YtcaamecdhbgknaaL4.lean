/- What is to be shown of functions' texts, printed by a program of this session's repo; that it gives the functions' contracts is checked by the kernel. -/
import Derived.Test.YtcaamecdhbgknaaProg
import Derived.Test.YtcaamecdhbgknaaPf
namespace Go.Proofs.Ytcaamecdhbgknaa.VC
open Go Go.V
set_option maxRecDepth 1000000
set_option linter.unusedVariables false

/-! ### rhizome/rhizomelaw03.DiskLast: function 4 -/
def rhizomelaw03_DiskLast.vc (i : Int) (writesA : Option Addr) (writesL writesC : Nat) (flushA : Option Addr) (flushL flushC : Nat) (R :
  Ending → World → Prop) (w : World) : Prop := Calls Proofs.Try.prog (19 : Nat) { toList := [] } w fun (e1 : Ending) (w2 : World) => ∃ (b3 :
  Bool), e1 = Ending.returned (Value.bool b3) ∧ bcase (!b3) (R (Ending.returned (Value.bool false)) w2) (Calls Proofs.Try.prog (20 : Nat) { toList := [Value.int IntKind.i64 (8 : Int)] }
  w2 fun (e4 : Ending) (w5 : World) => ∃ (p6 : Option Addr), ∃ (n7 : Int), e4 = Ending.returned (Value.tuple { toList := [Value.pointer p6, Value.int IntKind.i64 n7] })
  ∧ ∀ (y8 : Bool → World → Prop), (∀ (b9 : Bool) (w10 : World), bcase b9 (R (Ending.returned (Value.bool false)) w10) ((8 : Int) ≠ (0 : Int)
  ∧ ∀ (y11 : Option Addr → Nat → Nat → World → Prop), (∀ (p12 : Option Addr) (k13 k14 : Nat) (w15 : World), (∃ (y16 : Nat → Option Addr →
  Nat → Nat → Int → World → Prop), ∃ (k17 : Nat), y16 k17 p12 k13 k14 (0 : Int) w15 ∧ ∀ (k18 : Nat) (p19 : Option Addr) (k20 k21 : Nat) (n22
  : Int) (w23 : World), y16 k18 p19 k20 k21 n22 w23 → ∀ (y25 : Bool → World → Prop), (∀ (b26 : Bool) (w27 : World), bcase b26 (∃ (ad28 :
  Addr), writesA = some ad28 ∧ ((0 : Int) ≤ n22 ∧ n22 < (writesL : Int)) ∧ ∃ (p29 : Option Addr), ∃ (k30 : Nat), ∃ (k31 : Nat), World.cell?
  w27 (Addr.add ad28 (Int.toNat n22 * 1)) = some (Value.slice p29 k30 k31) ∧ Calls Proofs.Try.prog (24 : Nat) { toList := [Value.slice p29 k30 k31] }
  w27 fun (e32 : Ending) (w33 : World) => ∃ (p34 : Option Addr), ∃ (k35 : Nat), ∃ (k36 : Nat), e32 = Ending.returned (Value.slice p34 k35
  k36) ∧ Calls Proofs.Try.prog (23 : Nat) { toList := [Value.pointer p6, Value.int IntKind.i64 (IntKind.wrap IntKind.i64 (Int.tmod (IntKind.wrap IntKind.u64 i) (8 : Int))), Value.slice p34 k35 k36] }
  w33 fun (e37 : Ending) (w38 : World) => ∃ (n39 : Int), e37 = Ending.returned (Value.int IntKind.i64 n39) ∧ bcase (!decide (n39 = (0 :
  Int))) (R (Ending.returned (Value.bool false)) w38) (∀ (y40 : Option Addr → Nat → Nat → Int → World → Prop), (∀ (p41 : Option Addr) (k42
  k43 : Nat) (n44 : Int) (w45 : World), (Calls Proofs.Try.prog (22 : Nat) { toList := [Value.pointer p6, Value.int IntKind.i64 (IntKind.wrap IntKind.i64 (Int.tmod (IntKind.wrap IntKind.u64 i) (8 : Int)))] }
  w45 fun (e46 : Ending) (w47 : World) => ∃ (p48 : Option Addr), ∃ (k49 : Nat), ∃ (k50 : Nat), ∃ (n51 : Int), e46 = Ending.returned
  (Value.tuple { toList := [Value.slice p48 k49 k50, Value.int IntKind.i64 n51] }) ∧ Calls Proofs.Try.prog (28 : Nat) { toList := [Value.pointer p6, Value.slice none 0 0, Value.int IntKind.i64 (-1 : Int), Value.int IntKind.i64 (0 : Int)] }
  w47 fun (e52 : Ending) (w53 : World) => ∃ (p54 : Option Addr), e52 = Ending.returned (Value.pointer p54) ∧ ∀ (y55 : Bool → World → Prop),
  (∀ (b56 : Bool) (w57 : World), bcase b56 (R (Ending.returned (Value.bool false)) w57) (Calls Proofs.Try.prog (22 : Nat) { toList := [Value.pointer p54, Value.int IntKind.i64 (IntKind.wrap IntKind.i64 (Int.tmod (IntKind.wrap IntKind.u64 i) (8 : Int)))] }
  w57 fun (e58 : Ending) (w59 : World) => ∃ (p60 : Option Addr), ∃ (k61 : Nat), ∃ (k62 : Nat), ∃ (n63 : Int), e58 = Ending.returned
  (Value.tuple { toList := [Value.slice p60 k61 k62, Value.int IntKind.i64 n63] }) ∧ ∀ (y64 : Bool → World → Prop), (∀ (b65 : Bool) (w66 :
  World), bcase b65 (R (Ending.returned (Value.bool false)) w66) (∃ (k67 : Nat), k67 < k18 ∧ y16 k67 p41 k42 k43 (IntKind.wrap IntKind.i64
  (n22 + (1 : Int))) w66) → y64 b65 w66) → bcase (!decide (n63 = (0 : Int))) (y64 true w59) (∃ (l70 : List UInt8), List.length l70 = k61 ∧
  (∀ (k71 : Nat), k71 < k61 → ∃ (ad73 : Addr), p60 = some ad73 ∧ World.cell? w59 (Addr.add ad73 k71) = some (Value.int IntKind.u8
  ((UInt8.toNat (List.getD l70 k71 (0 : UInt8))) : Int))) ∧ ∃ (l74 : List UInt8), List.length l74 = k42 ∧ (∀ (k75 : Nat), k75 < k42 → ∃
  (ad77 : Addr), p41 = some ad77 ∧ World.cell? w59 (Addr.add ad77 k75) = some (Value.int IntKind.u8 ((UInt8.toNat (List.getD l74 k75 (0 :
  UInt8))) : Int))) ∧ y64 (!decide ((ByteArray.mk (Array.mk l70)) = (ByteArray.mk (Array.mk l74)))) w59)) → y55 b56 w57) → bcase (!decide
  (n51 = (0 : Int))) (y55 true w53) (∃ (l80 : List UInt8), List.length l80 = k49 ∧ (∀ (k81 : Nat), k81 < k49 → ∃ (ad83 : Addr), p48 = some
  ad83 ∧ World.cell? w53 (Addr.add ad83 k81) = some (Value.int IntKind.u8 ((UInt8.toNat (List.getD l80 k81 (0 : UInt8))) : Int))) ∧ ∃ (l84 :
  List UInt8), List.length l84 = k35 ∧ (∀ (k85 : Nat), k85 < k35 → ∃ (ad87 : Addr), p34 = some ad87 ∧ World.cell? w53 (Addr.add ad87 k85) =
  some (Value.int IntKind.u8 ((UInt8.toNat (List.getD l84 k85 (0 : UInt8))) : Int))) ∧ bcase (!decide ((ByteArray.mk (Array.mk l80)) =
  (ByteArray.mk (Array.mk l84)))) (y55 true w53) (Calls Proofs.Try.prog (26 : Nat) { toList := [Value.pointer p6] } w53 fun (e88 : Ending)
  (w89 : World) => ∃ (p90 : Option Addr), ∃ (k91 : Nat), ∃ (k92 : Nat), e88 = Ending.returned (Value.slice p90 k91 k92) ∧ bcase (!decide
  ((k91 : Int) = n44)) (y55 true w89) (y55 (Option.isNone p54) w89)))) → y40 p41 k42 k43 n44 w45) → ∀ (y95 : Bool → World → Prop), (∀ (b96 :
  Bool) (w97 : World), bcase b96 (Calls Proofs.Try.prog (27 : Nat) { toList := [Value.pointer p6] } w97 fun (e98 : Ending) (w99 : World) =>
  ∃ (n100 : Int), e98 = Ending.returned (Value.int IntKind.i64 n100) ∧ bcase (!decide (n100 = (0 : Int))) (R (Ending.returned (Value.bool
  false)) w99) (y40 p34 k35 k36 (0 : Int) w99)) (y40 p19 k20 k21 (1 : Int) w97) → y95 b96 w97) → bcase (decide (n22 < (flushL : Int))) (∃
  (ad103 : Addr), flushA = some ad103 ∧ ((0 : Int) ≤ n22 ∧ n22 < (flushL : Int)) ∧ ∃ (b104 : Bool), World.cell? w38 (Addr.add ad103
  (Int.toNat n22 * 1)) = some (Value.bool b104) ∧ y95 b104 w38) (y95 false w38))) (R (Ending.returned (Value.bool true)) w27) → y25 b26 w27)
  → bcase (decide (n22 < (writesL : Int))) (y25 (decide (n22 < (30 : Int))) w23) (y25 false w23)) → y11 p12 k13 k14 w15) → (((0 : Int) ≤ (64
  : Int) ∧ (64 : Int) ≤ (64 : Int) ∧ ((1 : Nat) : Int) * (64 : Int) ≤ (281474976710656 : Int) ∧ (64 : Int) ≤ (281474976710656 : Int)) ∧ ∀
  (w109 : World) (k110 : Nat), Step w10 w109 [] [k110] → Blk w109 k110 (reps [Value.int IntKind.u8 (0 : Int)] 64) → ((0 : Int) ≤ (64 : Int)
  ∧ (64 : Int) ≤ (64 : Int) ∧ ((1 : Nat) : Int) * (64 : Int) ≤ (281474976710656 : Int) ∧ (64 : Int) ≤ (281474976710656 : Int)) ∧ ∀ (w113 :
  World) (k114 : Nat), Step w109 w113 [] [k114] → Blk w113 k114 (reps [Value.int IntKind.u8 (0 : Int)] 64) → y11 (some
  { block := k114, off := 0 }) 64 64 w113) ∧ ((0 : Int) ≤ (64 : Int) ∧ (64 : Int) ≤ (64 : Int) ∧ ((1 : Nat) : Int) * (64 : Int) ≤
  (281474976710656 : Int) ∧ (64 : Int) ≤ (281474976710656 : Int)) ∧ ∀ (w117 : World) (k118 : Nat), Step w10 w117 [] [k118] → Blk w117 k118
  (reps [Value.int IntKind.u8 (0 : Int)] 64) → ((0 : Int) ≤ (64 : Int) ∧ (64 : Int) ≤ (64 : Int) ∧ ((1 : Nat) : Int) * (64 : Int) ≤
  (281474976710656 : Int) ∧ (64 : Int) ≤ (281474976710656 : Int)) ∧ ∀ (w121 : World) (k122 : Nat), Step w117 w121 [] [k122] → Blk w121 k122
  (reps [Value.int IntKind.u8 (0 : Int)] 64) → y11 (some { block := k118, off := 0 }) 64 64 w121) → y8 b9 w10) → bcase (!decide (n7 = (0 :
  Int))) (y8 true w5) (y8 (Option.isNone p6) w5))

theorem rhizomelaw03_DiskLast.link {i : Int} {writesA : Option Addr} {writesL writesC : Nat} {flushA : Option Addr} {flushL flushC : Nat} {R : Ending → World → Prop} {w : World} (h : rhizomelaw03_DiskLast.vc i writesA writesL writesC flushA flushL flushC R w) : Calls Go.Proofs.Try.prog 4 #[.int .i64 i, .slice writesA writesL writesC, .slice flushA flushL flushC] w R :=
  calls_of pf (fn := Go.Proofs.Try.f4) (ann := .s (.n) (.s (.s (.n) (.c (.s (.n) (.n)) (.n))) (.s (.n) (.s (.j ⟨[], [], [], [(29, .l (.b))], []⟩ (.n) (.c (.s (.n) (.n)) (.n))) (.s (.n) (.j ⟨[], [], [], [(10, .l (.sl))], []⟩ (.n) (.s (.s (.n) (.b (.l ⟨[], [], [], [(10, .l (.sl)), (12, .l (.i .i64))], []⟩ (.s (.j ⟨[], [], [], [(43, .l (.b))], []⟩ (.n) (.c (.n) (.n))) (.s (.b (.s (.n) (.s (.s (.n) (.c (.s (.n) (.n)) (.n))) (.j ⟨[], [], [], [(10, .l (.sl)), (11, .l (.i .i64))], []⟩ (.j ⟨[], [], [], [(65, .l (.b))], []⟩ (.n) (.c (.s (.s (.n) (.c (.s (.n) (.n)) (.n))) (.n)) (.n))) (.s (.n) (.s (.n) (.s (.j ⟨[], [], [], [(97, .l (.b))], []⟩ (.n) (.c (.s (.n) (.n)) (.n))) (.s (.n) (.j ⟨[], [], [], [(112, .l (.b))], []⟩ (.n) (.c (.s (.n) (.n)) (.n))))))))))) (.n)))))) (.s (.n) (.n))))))))) (mp := false) (args := [.v (.int .i64 i), .v (.slice writesA writesL writesC), .v (.slice flushA flushL flushC)]) Go.Proofs.Try.func4 (c := Go.Proofs.Try.f4.body.getD .skip) (by kernel_rfl) (by kernel_rfl) (Eq.mp (by kernel_rfl) h)
theorem rhizomelaw03_DiskLast.body : BodyOk Go.Proofs.Try.prog 4 := ⟨Go.Proofs.Try.f4, Go.Proofs.Try.func4, by kernel_rfl, pf.ng _ _ Go.Proofs.Try.func4⟩

end Go.Proofs.Ytcaamecdhbgknaa.VC
