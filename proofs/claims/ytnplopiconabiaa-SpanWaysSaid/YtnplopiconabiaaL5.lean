/- What is to be shown of functions' texts, printed by a program of this session's repo; that it gives the functions' contracts is checked by the kernel. -/
import Derived.Test.YtnplopiconabiaaProg
import Derived.Test.YtnplopiconabiaaPf
namespace Go.Proofs.Ytnplopiconabiaa.VC
open Go Go.V
set_option maxRecDepth 1000000
set_option linter.unusedVariables false

/-! ### rhizome/rhizomelaw13.SpanRings: function 5 -/
def rhizomelaw13_SpanRings.vc (label : ByteArray) (edgesA : Option Addr) (edgesL edgesC : Nat) (R : Ending → World → Prop) (w : World) :
  Prop := ∀ (y1 : Bool → World → Prop), (∀ (b2 : Bool) (w3 : World), bcase b2 (Calls Proofs.Try.prog (14 : Nat) { toList := [] } w3 fun (e4
  : Ending) (w5 : World) => ∃ (b6 : Bool), e4 = Ending.returned (Value.bool b6) ∧ R (Ending.returned (Value.bool b6)) w5) (Calls
  Proofs.Try.prog (22 : Nat) { toList := [Value.string label, Value.slice edgesA edgesL edgesC] } w3 fun (e7 : Ending) (w8 : World) => ∃ (p9
  : Option Addr), ∃ (k10 : Nat), ∃ (k11 : Nat), ∃ (n12 : Int), e7 = Ending.returned (Value.tuple { toList := [Value.slice p9 k10 k11, Value.int IntKind.i64 n12] })
  ∧ Calls Proofs.Try.prog (23 : Nat) { toList := [Value.string label, Value.slice edgesA edgesL edgesC] } w8 fun (e13 : Ending) (w14 :
  World) => ∃ (p15 : Option Addr), ∃ (k16 : Nat), ∃ (k17 : Nat), ∃ (n18 : Int), e13 = Ending.returned (Value.tuple { toList := [Value.slice p15 k16 k17, Value.int IntKind.i64 n18] })
  ∧ ∀ (y19 : Bool → World → Prop), (∀ (b20 : Bool) (w21 : World), bcase b20 (R (Ending.returned (Value.bool false)) w21) (∃ (y22 : Nat → Int
  → World → Prop), ∃ (k23 : Nat), y22 k23 (0 : Int) w21 ∧ ∀ (k24 : Nat) (n25 : Int) (w26 : World), y22 k24 n25 w26 → bcase (decide (n25 <
  (k10 : Int))) (∃ (ad28 : Addr), p9 = some ad28 ∧ ((0 : Int) ≤ n25 ∧ n25 < (k10 : Int)) ∧ ∃ (p29 : Option Addr), ∃ (k30 : Nat), ∃ (k31 :
  Nat), World.cell? w26 (Addr.add ad28 (Int.toNat n25 * 1)) = some (Value.slice p29 k30 k31) ∧ ∃ (ad32 : Addr), p15 = some ad32 ∧ ((0 : Int)
  ≤ n25 ∧ n25 < (k16 : Int)) ∧ ∃ (p33 : Option Addr), ∃ (k34 : Nat), ∃ (k35 : Nat), World.cell? w26 (Addr.add ad32 (Int.toNat n25 * 1)) =
  some (Value.slice p33 k34 k35) ∧ ∀ (w36 : World), Step w26 w36 [] [] → Calls Proofs.Try.prog (21 : Nat) { toList := [Value.slice p29 k30 k31, Value.slice p33 k34 k35] }
  w36 fun (e38 : Ending) (w39 : World) => ∃ (b40 : Bool), e38 = Ending.returned (Value.bool b40) ∧ bcase (!b40) (R (Ending.returned
  (Value.bool false)) w39) (∃ (k41 : Nat), k41 < k24 ∧ y22 k41 (IntKind.wrap IntKind.i64 (n25 + (1 : Int))) w39)) (R (Ending.returned
  (Value.bool true)) w26)) → y19 b20 w21) → bcase (!decide (n12 = n18)) (y19 true w14) (y19 (!decide ((k10 : Int) = (k16 : Int))) w14)) → y1
  b2 w3) → Calls Proofs.Try.prog (14 : Nat) { toList := [] } w fun (e46 : Ending) (w47 : World) => ∃ (b48 : Bool), e46 = Ending.returned
  (Value.bool b48) ∧ bcase (!b48) (y1 true w47) (bcase (decide ((20 : Int) < (edgesL : Int))) (y1 true w47) (y1 (decide ((300 : Int) <
  ((ByteArray.size label) : Int))) w47))

theorem rhizomelaw13_SpanRings.link {label : ByteArray} {edgesA : Option Addr} {edgesL edgesC : Nat} {R : Ending → World → Prop} {w : World} (h : rhizomelaw13_SpanRings.vc label edgesA edgesL edgesC R w) : Calls Go.Proofs.Try.prog 5 #[.string label, .slice edgesA edgesL edgesC] w R :=
  calls_of pf (fn := Go.Proofs.Try.f5) (ann := .s (.n) (.s (.j ⟨[], [], [], [(21, .l (.b))], []⟩ (.n) (.c (.s (.n) (.n)) (.n))) (.s (.n) (.s (.n) (.s (.j ⟨[], [], [], [(44, .l (.b))], []⟩ (.n) (.c (.s (.n) (.n)) (.n))) (.s (.s (.n) (.b (.l ⟨[], [], [], [(47, .l (.i .i64))], []⟩ (.s (.n) (.s (.c (.n) (.n)) (.s (.b (.s (.n) (.s (.n) (.c (.s (.n) (.n)) (.n))))) (.n))))))) (.s (.n) (.n)))))))) (mp := false) (args := [.v (.string label), .v (.slice edgesA edgesL edgesC)]) Go.Proofs.Try.func5 (c := Go.Proofs.Try.f5.body.getD .skip) (by kernel_rfl) (by kernel_rfl) (Eq.mp (by kernel_rfl) h)
theorem rhizomelaw13_SpanRings.body : BodyOk Go.Proofs.Try.prog 5 := ⟨Go.Proofs.Try.f5, Go.Proofs.Try.func5, by kernel_rfl, pf.ng _ _ Go.Proofs.Try.func5⟩

end Go.Proofs.Ytnplopiconabiaa.VC
