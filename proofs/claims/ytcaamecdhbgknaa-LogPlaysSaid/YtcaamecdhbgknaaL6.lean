/- What is to be shown of functions' texts, printed by a program of this session's repo; that it gives the functions' contracts is checked by the kernel. -/
import Derived.Test.YtcaamecdhbgknaaProg
import Derived.Test.YtcaamecdhbgknaaPf
namespace Go.Proofs.Ytcaamecdhbgknaa.VC
open Go Go.V
set_option maxRecDepth 1000000
set_option linter.unusedVariables false

/-! ### rhizome/rhizomelaw03.DiskArmed: function 6 -/
def rhizomelaw03_DiskArmed.vc (n : Int) (flushA : Option Addr) (flushL flushC : Nat) (R : Ending → World → Prop) (w : World) : Prop := Calls
  Proofs.Try.prog (19 : Nat) { toList := [] } w fun (e1 : Ending) (w2 : World) => ∃ (b3 : Bool), e1 = Ending.returned (Value.bool b3) ∧
  bcase (!b3) (R (Ending.returned (Value.bool false)) w2) ((50 : Int) ≠ (0 : Int) ∧ Calls Proofs.Try.prog (20 : Nat) { toList := [Value.int IntKind.i64 (60 : Int)] }
  w2 fun (e4 : Ending) (w5 : World) => ∃ (p6 : Option Addr), ∃ (n7 : Int), e4 = Ending.returned (Value.tuple { toList := [Value.pointer p6, Value.int IntKind.i64 n7] })
  ∧ ∀ (y8 : Bool → World → Prop), (∀ (b9 : Bool) (w10 : World), bcase b9 (R (Ending.returned (Value.bool false)) w10) (∃ (y11 : Nat → Int →
  World → Prop), ∃ (k12 : Nat), y11 k12 (0 : Int) w10 ∧ ∀ (k13 : Nat) (n14 : Int) (w15 : World), y11 k13 n14 w15 → bcase (decide (n14 <
  IntKind.wrap IntKind.i64 (IntKind.wrap IntKind.i64 (Int.tmod (IntKind.wrap IntKind.u64 n) (50 : Int)) + (3 : Int)))) (∀ (y17 : Int → World
  → Prop), (∀ (n18 : Int) (w19 : World), (∀ (y20 : Bool → World → Prop), (∀ (b21 : Bool) (w22 : World), bcase b21 (R (Ending.returned
  (Value.bool false)) w22) (∃ (k23 : Nat), k23 < k13 ∧ y11 k23 (IntKind.wrap IntKind.i64 (n14 + (1 : Int))) w22) → y20 b21 w22) → bcase
  (!decide (n18 = (0 : Int)) == decide (n14 < IntKind.wrap IntKind.i64 (Int.tmod (IntKind.wrap IntKind.u64 n) (50 : Int)))) (y20 true w19)
  (bcase (!decide (n18 = (0 : Int))) (y20 (!decide (n18 = (30 : Int))) w19) (y20 false w19))) → y17 n18 w19) → ∀ (y28 : Bool → World →
  Prop), (∀ (b29 : Bool) (w30 : World), bcase b29 (Calls Proofs.Try.prog (27 : Nat) { toList := [Value.pointer p6] } w30 fun (e31 : Ending)
  (w32 : World) => ∃ (n33 : Int), e31 = Ending.returned (Value.int IntKind.i64 n33) ∧ y17 n33 w32) (∀ (k34 : Nat) (w35 : World), Step w30
  w35 [] [k34] → Blk w35 k34 (spl (reps [Value.int IntKind.u8 (0 : Int)] 1) 0 [Value.int IntKind.u8 (9 : Int)]) → Calls Proofs.Try.prog (24
  : Nat) { toList := [Value.slice (some { block := k34, off := 0 }) 1 1] } w35 fun (e38 : Ending) (w39 : World) => ∃ (p40 : Option Addr), ∃
  (k41 : Nat), ∃ (k42 : Nat), e38 = Ending.returned (Value.slice p40 k41 k42) ∧ Calls Proofs.Try.prog (23 : Nat) { toList := [Value.pointer p6, Value.int IntKind.i64 n14, Value.slice p40 k41 k42] }
  w39 fun (e43 : Ending) (w44 : World) => ∃ (n45 : Int), e43 = Ending.returned (Value.int IntKind.i64 n45) ∧ y17 n45 w44) → y28 b29 w30) →
  bcase (decide (n14 < (flushL : Int))) (∃ (ad48 : Addr), flushA = some ad48 ∧ ((0 : Int) ≤ n14 ∧ n14 < (flushL : Int)) ∧ ∃ (b49 : Bool),
  World.cell? w15 (Addr.add ad48 (Int.toNat n14 * 1)) = some (Value.bool b49) ∧ y28 b49 w15) (y28 false w15)) (Calls Proofs.Try.prog (22 :
  Nat) { toList := [Value.pointer p6, Value.int IntKind.i64 (59 : Int)] } w15 fun (e50 : Ending) (w51 : World) => ∃ (p52 : Option Addr), ∃
  (k53 : Nat), ∃ (k54 : Nat), ∃ (n55 : Int), e50 = Ending.returned (Value.tuple { toList := [Value.slice p52 k53 k54, Value.int IntKind.i64 n55] })
  ∧ ∀ (y56 : Bool → World → Prop), (∀ (b57 : Bool) (w58 : World), R (Ending.returned (Value.bool b57)) w58 → y56 b57 w58) → Calls
  Proofs.Try.prog (25 : Nat) { toList := [Value.pointer p6] } w51 fun (e61 : Ending) (w62 : World) => ∃ (n63 : Int), e61 = Ending.returned
  (Value.int IntKind.i64 n63) ∧ bcase (decide (n63 = IntKind.wrap IntKind.i64 (Int.tmod (IntKind.wrap IntKind.u64 n) (50 : Int)))) (bcase
  (decide (n55 = (0 : Int))) (bcase (decide ((k53 : Int) = (64 : Int))) (Calls Proofs.Try.prog (29 : Nat) { toList := [Value.pointer p6, Value.int IntKind.i64 (5 : Int)] }
  w62 fun (e64 : Ending) (w65 : World) => ∃ (n66 : Int), e64 = Ending.returned (Value.int IntKind.i64 n66) ∧ bcase (decide (n66 = (30 :
  Int))) (Calls Proofs.Try.prog (29 : Nat) { toList := [Value.pointer p6, Value.int IntKind.i64 (-1 : Int)] } w65 fun (e67 : Ending) (w68 :
  World) => ∃ (n69 : Int), e67 = Ending.returned (Value.int IntKind.i64 n69) ∧ y56 (decide (n69 = (1 : Int))) w68) (y56 false w65)) (y56
  false w62)) (y56 false w62)) (y56 false w62))) → y8 b9 w10) → bcase (!decide (n7 = (0 : Int))) (y8 true w5) (bcase (Option.isNone p6) (y8
  true w5) (Calls Proofs.Try.prog (29 : Nat) { toList := [Value.pointer p6, Value.int IntKind.i64 (IntKind.wrap IntKind.i64 (Int.tmod (IntKind.wrap IntKind.u64 n) (50 : Int)))] }
  w5 fun (e72 : Ending) (w73 : World) => ∃ (n74 : Int), e72 = Ending.returned (Value.int IntKind.i64 n74) ∧ y8 (!decide (n74 = (0 : Int)))
  w73)))

theorem rhizomelaw03_DiskArmed.link {n : Int} {flushA : Option Addr} {flushL flushC : Nat} {R : Ending → World → Prop} {w : World} (h : rhizomelaw03_DiskArmed.vc n flushA flushL flushC R w) : Calls Go.Proofs.Try.prog 6 #[.int .i64 n, .slice flushA flushL flushC] w R :=
  calls_of pf (fn := Go.Proofs.Try.f6) (ann := .s (.n) (.s (.s (.n) (.c (.s (.n) (.n)) (.n))) (.s (.n) (.s (.n) (.s (.j ⟨[], [], [], [(30, .l (.b))], []⟩ (.n) (.c (.s (.n) (.n)) (.n))) (.s (.s (.n) (.b (.l ⟨[], [], [], [(7, .l (.i .i64))], []⟩ (.s (.s (.n) (.c (.n) (.n))) (.s (.b (.s (.n) (.j ⟨[], [], [], [(6, .l (.i .i64))], []⟩ (.j ⟨[], [], [], [(46, .l (.b))], []⟩ (.n) (.c (.n) (.n))) (.j ⟨[], [], [], [(67, .l (.b))], []⟩ (.n) (.c (.s (.n) (.n)) (.n)))))) (.n)))))) (.s (.n) (.j ⟨[], [], [], [(4, .l (.b))], []⟩ (.n) (.n))))))))) (mp := false) (args := [.v (.int .i64 n), .v (.slice flushA flushL flushC)]) Go.Proofs.Try.func6 (c := Go.Proofs.Try.f6.body.getD .skip) (by kernel_rfl) (by kernel_rfl) (Eq.mp (by kernel_rfl) h)
theorem rhizomelaw03_DiskArmed.body : BodyOk Go.Proofs.Try.prog 6 := ⟨Go.Proofs.Try.f6, Go.Proofs.Try.func6, by kernel_rfl, pf.ng _ _ Go.Proofs.Try.func6⟩

end Go.Proofs.Ytcaamecdhbgknaa.VC
