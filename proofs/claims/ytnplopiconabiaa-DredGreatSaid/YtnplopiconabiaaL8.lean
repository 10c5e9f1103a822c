/- What is to be shown of functions' texts, printed by a program of this session's repo; that it gives the functions' contracts is checked by the kernel. -/
import Derived.Test.YtnplopiconabiaaProg
import Derived.Test.YtnplopiconabiaaPf
namespace Go.Proofs.Ytnplopiconabiaa.VC
open Go Go.V
set_option maxRecDepth 1000000
set_option linter.unusedVariables false

/-! ### rhizome/rhizomelaw13.SpanGreat: function 8 -/
def rhizomelaw13_SpanGreat.vc (more : Int) (R : Ending → World → Prop) (w : World) : Prop := Calls Proofs.Try.prog (14 : Nat) { toList := [] }
  w fun (e1 : Ending) (w2 : World) => ∃ (b3 : Bool), e1 = Ending.returned (Value.bool b3) ∧ bcase (!b3) (R (Ending.returned (Value.bool
  false)) w2) ((3 : Int) ≠ (0 : Int) ∧ ∃ (y4 : Nat → Option Addr → Nat → Nat → Int → World → Prop), ∃ (k5 : Nat), y4 k5 none 0 0 (1 : Int)
  w2 ∧ ∀ (k6 : Nat) (p7 : Option Addr) (k8 k9 : Nat) (n10 : Int) (w11 : World), y4 k6 p7 k8 k9 n10 w11 → bcase (decide (n10 < (89 : Int)))
  (∀ (k13 : Nat), appendP false [] [k13] [k13] w11 p7 k8 k9 1 (spl (reps [Value.int IntKind.i64 (0 : Int), Value.string
  { data := { toList := [] } }, Value.int IntKind.i64 (0 : Int)] 1) 0 (spl (spl (spl [Value.int IntKind.i64 (0 : Int), Value.string
  { data := { toList := [] } }, Value.int IntKind.i64 (0 : Int)] 0 [Value.int IntKind.i64 n10]) 1 [Value.string
  { data := { toList := [(97 : UInt8)] } }]) 2 [Value.int IntKind.i64 (IntKind.wrap IntKind.i64 (n10 + (1 : Int)))])) 3 32 [Value.int
  IntKind.i64 (0 : Int), Value.string { data := { toList := [] } }, Value.int IntKind.i64 (0 : Int)] fun (w14 : World) (p15 : Option Addr)
  (k16 k17 : Nat) => ∃ (k18 : Nat), k18 < k6 ∧ y4 k18 p15 k16 k17 (IntKind.wrap IntKind.i64 (n10 + (1 : Int))) w14) (∃ (y19 : Nat → Option
  Addr → Nat → Nat → Int → World → Prop), ∃ (k20 : Nat), y19 k20 p7 k8 k9 (0 : Int) w11 ∧ ∀ (k21 : Nat) (p22 : Option Addr) (k23 k24 : Nat)
  (n25 : Int) (w26 : World), y19 k21 p22 k23 k24 n25 w26 → bcase (decide (n25 < IntKind.wrap IntKind.i64 ((83 : Int) + IntKind.wrap
  IntKind.i64 (Int.tmod (IntKind.wrap IntKind.u64 more) (3 : Int))))) (∀ (k28 : Nat), appendP false [] [k28] [k28] w26 p22 k23 k24 1 (spl
  (reps [Value.int IntKind.i64 (0 : Int), Value.string { data := { toList := [] } }, Value.int IntKind.i64 (0 : Int)] 1) 0 (spl (spl (spl
  [Value.int IntKind.i64 (0 : Int), Value.string { data := { toList := [] } }, Value.int IntKind.i64 (0 : Int)] 0 [Value.int IntKind.i64
  (IntKind.wrap IntKind.i64 ((200 : Int) + IntKind.wrap IntKind.i64 ((2 : Int) * n25)))]) 1 [Value.string
  { data := { toList := [(97 : UInt8)] } }]) 2 [Value.int IntKind.i64 (IntKind.wrap IntKind.i64 ((201 : Int) + IntKind.wrap IntKind.i64 ((2
  : Int) * n25)))])) 3 32 [Value.int IntKind.i64 (0 : Int), Value.string { data := { toList := [] } }, Value.int IntKind.i64 (0 : Int)] fun
  (w29 : World) (p30 : Option Addr) (k31 k32 : Nat) => ∃ (k33 : Nat), k33 < k21 ∧ y19 k33 p30 k31 k32 (IntKind.wrap IntKind.i64 (n25 + (1 :
  Int))) w29) (Calls Proofs.Try.prog (15 : Nat) { toList := [Value.string { data := { toList := [(97 : UInt8)] } }, Value.slice p22 k23 k24] }
  w26 fun (e34 : Ending) (w35 : World) => ∃ (p36 : Option Addr), ∃ (k37 : Nat), ∃ (k38 : Nat), ∃ (n39 : Int), e34 = Ending.returned
  (Value.tuple { toList := [Value.slice p36 k37 k38, Value.int IntKind.i64 n39] }) ∧ bcase (decide ((1 : Int) < IntKind.wrap IntKind.i64
  (Int.tmod (IntKind.wrap IntKind.u64 more) (3 : Int)))) (∀ (y40 : Bool → World → Prop), (∀ (b41 : Bool) (w42 : World), R (Ending.returned
  (Value.bool b41)) w42 → y40 b41 w42) → bcase (decide (n39 = (5 : Int))) (y40 (decide ((k37 : Int) = (0 : Int))) w35) (y40 false w35)) (∀
  (y45 : Bool → World → Prop), (∀ (b46 : Bool) (w47 : World), R (Ending.returned (Value.bool b46)) w47 → y45 b46 w47) → bcase (decide (n39 =
  (0 : Int))) (y45 (decide ((k37 : Int) = IntKind.wrap IntKind.i64 ((3999 : Int) + IntKind.wrap IntKind.i64 (Int.tmod (IntKind.wrap
  IntKind.u64 more) (3 : Int))))) w35) (y45 false w35)))))

theorem rhizomelaw13_SpanGreat.link {more : Int} {R : Ending → World → Prop} {w : World} (h : rhizomelaw13_SpanGreat.vc more R w) : Calls Go.Proofs.Try.prog 8 #[.int .i64 more] w R :=
  calls_of pf (fn := Go.Proofs.Try.f8) (ann := .s (.n) (.s (.s (.n) (.c (.s (.n) (.n)) (.n))) (.s (.n) (.s (.n) (.s (.s (.n) (.b (.l ⟨[], [], [], [(3, .l (.sl)), (4, .l (.i .i64))], []⟩ (.s (.s (.n) (.c (.n) (.n))) (.s (.b (.n)) (.n)))))) (.s (.s (.n) (.b (.l ⟨[], [], [], [(3, .l (.sl)), (5, .l (.i .i64))], []⟩ (.s (.s (.n) (.c (.n) (.n))) (.s (.b (.n)) (.n)))))) (.s (.n) (.s (.s (.n) (.c (.j ⟨[], [], [], [(2, .l (.b))], []⟩ (.n) (.n)) (.n))) (.j ⟨[], [], [], [(2, .l (.b))], []⟩ (.n) (.n)))))))))) (mp := false) (args := [.v (.int .i64 more)]) Go.Proofs.Try.func8 (c := Go.Proofs.Try.f8.body.getD .skip) (by kernel_rfl) (by kernel_rfl) (Eq.mp (by kernel_rfl) h)
theorem rhizomelaw13_SpanGreat.body : BodyOk Go.Proofs.Try.prog 8 := ⟨Go.Proofs.Try.f8, Go.Proofs.Try.func8, by kernel_rfl, pf.ng _ _ Go.Proofs.Try.func8⟩

end Go.Proofs.Ytnplopiconabiaa.VC
