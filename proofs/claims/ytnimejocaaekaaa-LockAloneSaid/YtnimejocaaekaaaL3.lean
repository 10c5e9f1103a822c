/- What is to be shown of functions' texts, printed by a program of this session's repo; that it gives the functions' contracts is checked by the kernel. -/
import Derived.Test.YtnimejocaaekaaaProg
import Derived.Test.YtnimejocaaekaaaPf
namespace Go.Proofs.Ytnimejocaaekaaa.VC
open Go Go.V
set_option maxRecDepth 1000000
set_option linter.unusedVariables false

/-! ### rhizome/rhizomelaw16.LockRow: function 3 -/
def rhizomelaw16_LockRow.vc (item : Int) (aloneA : Option Addr) (aloneL aloneC : Nat) (R : Ending → World → Prop) (w : World) : Prop :=
  Calls Proofs.Try.prog (9 : Nat) { toList := [] } w fun (e1 : Ending) (w2 : World) => ∃ (p3 : Option Addr), e1 = Ending.returned
  (Value.pointer p3) ∧ ∀ (y4 : Bool → World → Prop), (∀ (b5 : Bool) (w6 : World), bcase b5 (R (Ending.returned (Value.bool false)) w6) (∃
  (y7 : Nat → Int → Int → World → Prop), ∃ (k8 : Nat), y7 k8 (0 : Int) (0 : Int) w6 ∧ ∀ (k9 : Nat) (n10 n11 : Int) (w12 : World), y7 k9 n10
  n11 w12 → bcase (decide (n11 < if (16 : Int) < (aloneL : Int) then (16 : Int) else (aloneL : Int))) (∀ (y14 : Int → World → Prop), (∀ (n15
  : Int) (w16 : World), (∃ (k17 : Nat), k17 < k9 ∧ y7 k17 n15 (IntKind.wrap IntKind.i64 (n11 + (1 : Int))) w16) → y14 n15 w16) → ∀ (y20 :
  Bool → World → Prop), (∀ (b21 : Bool) (w22 : World), (∃ (ad23 : Addr), aloneA = some ad23 ∧ ((0 : Int) ≤ n11 ∧ n11 < (aloneL : Int)) ∧ ∃
  (b24 : Bool), World.cell? w22 (Addr.add ad23 (Int.toNat n11 * 1)) = some (Value.bool b24) ∧ Calls Proofs.Try.prog (12 : Nat) { toList := [Value.pointer p3, Value.int IntKind.i64 (IntKind.wrap IntKind.i64 (n11 + (1 : Int))), Value.int IntKind.i64 item, Value.bool b24] }
  w22 fun (e25 : Ending) (w26 : World) => ∃ (n27 : Int), e25 = Ending.returned (Value.int IntKind.i64 n27) ∧ ∀ (y28 : Bool → World → Prop),
  (∀ (b29 : Bool) (w30 : World), bcase b29 (R (Ending.returned (Value.bool false)) w30) (bcase b21 (y14 (IntKind.wrap IntKind.i64 (n10 + (1
  : Int))) w30) (y14 n10 w30)) → y28 b29 w30) → bcase (!decide (n27 = (0 : Int)) == b21) (y28 true w26) (bcase (!decide (n27 = (0 : Int)))
  (y28 (!decide (n27 = (160 : Int))) w26) (y28 false w26))) → y20 b21 w22) → bcase (decide (n11 = n10)) (bcase (decide (n11 = (0 : Int)))
  (y20 true w12) (∃ (ad35 : Addr), aloneA = some ad35 ∧ ((0 : Int) ≤ n11 ∧ n11 < (aloneL : Int)) ∧ ∃ (b36 : Bool), World.cell? w12 (Addr.add
  ad35 (Int.toNat n11 * 1)) = some (Value.bool b36) ∧ bcase (!b36) (((0 : Int) ≤ (0 : Int) ∧ (0 : Int) ≤ n11 ∧ n11 ≤ (aloneC : Int)) ∧ Calls
  Proofs.Try.prog (11 : Nat) { toList := [Value.slice (subA aloneA 0 aloneC 1) (Int.toNat n11 - 0) (aloneC - 0)] } w12 fun (e37 : Ending)
  (w38 : World) => ∃ (b39 : Bool), e37 = Ending.returned (Value.bool b39) ∧ y20 (!b39) w38) (y20 false w12))) (y20 false w12)) (∃ (y40 : Nat
  → Int → Int → World → Prop), ∃ (k41 : Nat), y40 k41 n10 (0 : Int) w12 ∧ ∀ (k42 : Nat) (n43 n44 : Int) (w45 : World), y40 k42 n43 n44 w45 →
  bcase (decide (n44 < if (16 : Int) < (aloneL : Int) then (16 : Int) else (aloneL : Int))) (Calls Proofs.Try.prog (13 : Nat) { toList := [Value.pointer p3, Value.int IntKind.i64 (IntKind.wrap IntKind.i64 (n44 + (1 : Int)))] }
  w45 fun (e47 : Ending) (w48 : World) => ∃ (p49 : Option Addr), ∃ (k50 : Nat), ∃ (k51 : Nat), ∃ (n52 : Int), e47 = Ending.returned
  (Value.tuple { toList := [Value.slice p49 k50 k51, Value.int IntKind.i64 n52] }) ∧ bcase (!decide (n52 = (0 : Int))) (R (Ending.returned
  (Value.bool false)) w48) (∃ (y53 : Nat → Int → Int → World → Prop), ∃ (k54 : Nat), y53 k54 n43 (0 : Int) w48 ∧ ∀ (k55 : Nat) (n56 n57 :
  Int) (w58 : World), y53 k55 n56 n57 w58 → bcase (decide (n57 < (k50 : Int))) (∃ (ad60 : Addr), p49 = some ad60 ∧ ((0 : Int) ≤ n57 ∧ n57 <
  (k50 : Int)) ∧ ∃ (n61 : Int), World.cell? w58 (Addr.add ad60 (Int.toNat n57 * 1)) = some (Value.int IntKind.i64 n61) ∧ bcase (!decide (n61
  = IntKind.wrap IntKind.i64 (n56 + (1 : Int)))) (R (Ending.returned (Value.bool false)) w58) (∃ (k62 : Nat), k62 < k55 ∧ y53 k62
  (IntKind.wrap IntKind.i64 (n56 + (1 : Int))) (IntKind.wrap IntKind.i64 (n57 + (1 : Int))) w58)) (∀ (y63 : Bool → World → Prop), (∀ (b64 :
  Bool) (w65 : World), bcase b64 (R (Ending.returned (Value.bool false)) w65) (∃ (k66 : Nat), k66 < k42 ∧ y40 k66 n56 (IntKind.wrap
  IntKind.i64 (n44 + (1 : Int))) w65) → y63 b64 w65) → bcase (decide (IntKind.wrap IntKind.i64 (n44 + (1 : Int)) < if (16 : Int) < (aloneL :
  Int) then (16 : Int) else (aloneL : Int))) (y63 (decide (n56 ≤ IntKind.wrap IntKind.i64 (n44 + (1 : Int)))) w58) (y63 false w58)))) (R
  (Ending.returned (Value.bool (decide (n43 = if (16 : Int) < (aloneL : Int) then (16 : Int) else (aloneL : Int))))) w45))) → y4 b5 w6) →
  Calls Proofs.Try.prog (10 : Nat) { toList := [] } w2 fun (e71 : Ending) (w72 : World) => ∃ (b73 : Bool), e71 = Ending.returned (Value.bool
  b73) ∧ bcase (!b73) (y4 true w72) (y4 (Option.isNone p3) w72)

theorem rhizomelaw16_LockRow.link {item : Int} {aloneA : Option Addr} {aloneL aloneC : Nat} {R : Ending → World → Prop} {w : World} (h : rhizomelaw16_LockRow.vc item aloneA aloneL aloneC R w) : Calls Go.Proofs.Try.prog 3 #[.int .i64 item, .slice aloneA aloneL aloneC] w R :=
  calls_of pf (fn := Go.Proofs.Try.f3) (ann := .s (.n) (.s (.n) (.s (.j ⟨[], [], [], [(23, .l (.b))], []⟩ (.n) (.c (.s (.n) (.n)) (.n))) (.s (.n) (.s (.n) (.s (.s (.n) (.b (.l ⟨[], [], [], [(7, .l (.i .i64)), (8, .l (.i .i64))], []⟩ (.s (.s (.n) (.c (.n) (.n))) (.j ⟨[], [], [], [(7, .l (.i .i64))], []⟩ (.b (.j ⟨[], [], [], [(9, .l (.b))], []⟩ (.n) (.s (.n) (.s (.j ⟨[], [], [], [(73, .l (.b))], []⟩ (.n) (.c (.s (.n) (.n)) (.n))) (.s (.n) (.c (.n) (.n))))))) (.n)))))) (.s (.n) (.s (.n) (.s (.b (.l ⟨[], [], [], [(11, .l (.i .i64)), (12, .l (.i .i64))], []⟩ (.s (.s (.n) (.c (.n) (.n))) (.b (.s (.n) (.s (.n) (.s (.s (.n) (.c (.s (.n) (.n)) (.n))) (.s (.s (.n) (.b (.l ⟨[], [], [], [(11, .l (.i .i64)), (94, .l (.i .i64))], []⟩ (.s (.n) (.s (.c (.n) (.n)) (.s (.b (.s (.n) (.s (.s (.n) (.c (.s (.n) (.n)) (.n))) (.n)))) (.n))))))) (.j ⟨[], [], [], [(112, .l (.b))], []⟩ (.n) (.c (.s (.n) (.n)) (.n))))))))))) (.s (.n) (.n))))))))))) (mp := false) (args := [.v (.int .i64 item), .v (.slice aloneA aloneL aloneC)]) Go.Proofs.Try.func3 (c := Go.Proofs.Try.f3.body.getD .skip) (by kernel_rfl) (by kernel_rfl) (Eq.mp (by kernel_rfl) h)
theorem rhizomelaw16_LockRow.body : BodyOk Go.Proofs.Try.prog 3 := ⟨Go.Proofs.Try.f3, Go.Proofs.Try.func3, by kernel_rfl, pf.ng _ _ Go.Proofs.Try.func3⟩

end Go.Proofs.Ytnimejocaaekaaa.VC
