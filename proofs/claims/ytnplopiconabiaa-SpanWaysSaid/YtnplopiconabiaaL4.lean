/- What is to be shown of functions' texts, printed by a program of this session's repo; that it gives the functions' contracts is checked by the kernel. -/
import Derived.Test.YtnplopiconabiaaProg
import Derived.Test.YtnplopiconabiaaPf
namespace Go.Proofs.Ytnplopiconabiaa.VC
open Go Go.V
set_option maxRecDepth 1000000
set_option linter.unusedVariables false

/-! ### rhizome/rhizomelaw13.SpanWays: function 4 -/
def rhizomelaw13_SpanWays.vc (label : ByteArray) (edgesA : Option Addr) (edgesL edgesC : Nat) (ends0 : Int) (ends1 : Int) (R : Ending →
  World → Prop) (w : World) : Prop := ∀ (k1 : Nat) (y2 : Bool → World → Prop), (∀ (b3 : Bool) (w4 : World), bcase b3 (Calls Proofs.Try.prog
  (14 : Nat) { toList := [] } w4 fun (e5 : Ending) (w6 : World) => ∃ (b7 : Bool), e5 = Ending.returned (Value.bool b7) ∧ Keep [k1] w4 w6 ∧ R
  (Ending.returned (Value.bool b7)) w6) (((0 : Int) ≤ (0 : Int) ∧ (0 : Int) < ((2 : Nat) : Int)) ∧ ((0 : Int) ≤ (1 : Int) ∧ (1 : Int) < ((2
  : Nat) : Int)) ∧ Calls Proofs.Try.prog (19 : Nat) { toList := [Value.string label, Value.slice edgesA edgesL edgesC, Value.int IntKind.i64 ends0, Value.int IntKind.i64 ends1] }
  w4 fun (e8 : Ending) (w9 : World) => ∃ (p10 : Option Addr), ∃ (k11 : Nat), ∃ (k12 : Nat), ∃ (n13 : Int), e8 = Ending.returned (Value.tuple
  { toList := [Value.slice p10 k11 k12, Value.int IntKind.i64 n13] }) ∧ Keep [k1] w4 w9 ∧ ((0 : Int) ≤ (0 : Int) ∧ (0 : Int) < ((2 : Nat) :
  Int)) ∧ ((0 : Int) ≤ (1 : Int) ∧ (1 : Int) < ((2 : Nat) : Int)) ∧ Calls Proofs.Try.prog (20 : Nat) { toList := [Value.string label, Value.slice edgesA edgesL edgesC, Value.int IntKind.i64 ends0, Value.int IntKind.i64 ends1] }
  w9 fun (e14 : Ending) (w15 : World) => ∃ (p16 : Option Addr), ∃ (k17 : Nat), ∃ (k18 : Nat), ∃ (n19 : Int), e14 = Ending.returned
  (Value.tuple { toList := [Value.slice p16 k17 k18, Value.int IntKind.i64 n19] }) ∧ Keep [k1] w9 w15 ∧ ∀ (y20 : Bool → World → Prop), (∀
  (b21 : Bool) (w22 : World), R (Ending.returned (Value.bool b21)) w22 → y20 b21 w22) → bcase (decide (n13 = n19)) (Calls Proofs.Try.prog
  (21 : Nat) { toList := [Value.slice p10 k11 k12, Value.slice p16 k17 k18] } w15 fun (e25 : Ending) (w26 : World) => ∃ (b27 : Bool), e25 =
  Ending.returned (Value.bool b27) ∧ Keep [k1] w15 w26 ∧ y20 b27 w26) (y20 false w15)) → y2 b3 w4) → ∀ (w30 : World), Step w w30 [] [k1] →
  Calls Proofs.Try.prog (14 : Nat) { toList := [] } w30 fun (e32 : Ending) (w33 : World) => ∃ (b34 : Bool), e32 = Ending.returned
  (Value.bool b34) ∧ Keep [k1] w30 w33 ∧ bcase (!b34) (y2 true w33) (bcase (decide ((20 : Int) < (edgesL : Int))) (y2 true w33) (y2 (decide
  ((300 : Int) < ((ByteArray.size label) : Int))) w33))

theorem rhizomelaw13_SpanWays.link {label : ByteArray} {edgesA : Option Addr} {edgesL edgesC : Nat} {ends0 : Int} {ends1 : Int} {R : Ending → World → Prop} {w : World} (h : rhizomelaw13_SpanWays.vc label edgesA edgesL edgesC ends0 ends1 R w) : Calls Go.Proofs.Try.prog 4 #[.string label, .slice edgesA edgesL edgesC, (.agg #[.int .i64 ends0, .int .i64 ends1] : Value)] w R :=
  calls_of pf (fn := Go.Proofs.Try.f4) (ann := .s (.n) (.s (.j ⟨[], [], [0], [(22, .l (.b))], []⟩ (.n) (.c (.s (.n) (.n)) (.n))) (.s (.n) (.s (.n) (.j ⟨[], [], [], [(6, .l (.b))], []⟩ (.n) (.n)))))) (mp := false) (args := [.v (.string label), .v (.slice edgesA edgesL edgesC), .v (.agg #[.int .i64 ends0, .int .i64 ends1])]) Go.Proofs.Try.func4 (c := Go.Proofs.Try.f4.body.getD .skip) (by kernel_rfl) (by kernel_rfl) (Eq.mp (by kernel_rfl) h)
theorem rhizomelaw13_SpanWays.body : BodyOk Go.Proofs.Try.prog 4 := ⟨Go.Proofs.Try.f4, Go.Proofs.Try.func4, by kernel_rfl, pf.ng _ _ Go.Proofs.Try.func4⟩

end Go.Proofs.Ytnplopiconabiaa.VC
