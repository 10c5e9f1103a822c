/- What is to be shown of functions' texts, printed by a program of this session's repo; that it gives the functions' contracts is checked by the kernel. -/
import Derived.Test.YtnplopiconabiaaProg
import Derived.Test.YtnplopiconabiaaPf
namespace Go.Proofs.Ytnplopiconabiaa.VC
open Go Go.V
set_option maxRecDepth 1000000
set_option linter.unusedVariables false

/-! ### rhizome/span.bad: function 36 -/
def span_bad.vc (label : ByteArray) (R : Ending → World → Prop) (w : World) : Prop := ∀ (y1 : Bool → World → Prop), (∀ (b2 : Bool) (w3 :
  World), R (Ending.returned (Value.bool b2)) w3 → y1 b2 w3) → bcase (decide (((ByteArray.size label) : Int) < (1 : Int))) (y1 true w)
  (bcase (decide ((16 : Int) < ((ByteArray.size label) : Int))) (y1 true w) (Calls Proofs.Try.prog (65 : Nat) { toList := [Value.string label, Value.func (Fn.func 66) { toList := [] } { toList := [] }] }
  w fun (e6 : Ending) (w7 : World) => ∃ (b8 : Bool), e6 = Ending.returned (Value.bool b8) ∧ y1 b8 w7))

theorem span_bad.link {label : ByteArray} {R : Ending → World → Prop} {w : World} (h : span_bad.vc label R w) : Calls Go.Proofs.Try.prog 36 #[.string label] w R :=
  calls_of pf (fn := Go.Proofs.Try.f36) (ann := .s (.n) (.j ⟨[], [], [], [(2, .l (.b))], []⟩ (.n) (.n))) (mp := false) (args := [.v (.string label)]) Go.Proofs.Try.func36 (c := Go.Proofs.Try.f36.body.getD .skip) (by kernel_rfl) (by kernel_rfl) (Eq.mp (by kernel_rfl) h)
theorem span_bad.body : BodyOk Go.Proofs.Try.prog 36 := ⟨Go.Proofs.Try.f36, Go.Proofs.Try.func36, by kernel_rfl, pf.ng _ _ Go.Proofs.Try.func36⟩

/-! ### rhizome/span.bad_1: function 66 -/
def span_bad_1.vc (c : Int) (R : Ending → World → Prop) (w : World) : Prop := ∀ (y1 : Bool → World → Prop), (∀ (b2 : Bool) (w3 : World), R
  (Ending.returned (Value.bool b2)) w3 → y1 b2 w3) → bcase (decide (c < (97 : Int))) (y1 true w) (y1 (decide ((122 : Int) < c)) w)

theorem span_bad_1.link {c : Int} {R : Ending → World → Prop} {w : World} (h : span_bad_1.vc c R w) : Calls Go.Proofs.Try.prog 66 #[.int .i32 c] w R :=
  calls_of pf (fn := Go.Proofs.Try.f66) (ann := .s (.n) (.j ⟨[], [], [], [(2, .l (.b))], []⟩ (.n) (.n))) (mp := false) (args := [.v (.int .i32 c)]) Go.Proofs.Try.func66 (c := Go.Proofs.Try.f66.body.getD .skip) (by kernel_rfl) (by kernel_rfl) (Eq.mp (by kernel_rfl) h)
theorem span_bad_1.body : BodyOk Go.Proofs.Try.prog 66 := ⟨Go.Proofs.Try.f66, Go.Proofs.Try.func66, by kernel_rfl, pf.ng _ _ Go.Proofs.Try.func66⟩

/-! ### rhizome/rhizomeref07.Name: function 42 -/
def rhizomeref07_Name.vc (s : ByteArray) (R : Ending → World → Prop) (w : World) : Prop := ∃ (y1 : Nat → Int → World → Prop), ∃ (k2 : Nat),
  y1 k2 (0 : Int) w ∧ ∀ (k3 : Nat) (n4 : Int) (w5 : World), y1 k3 n4 w5 → bcase (decide (n4 < ((ByteArray.size s) : Int))) (∀ (y7 : Bool →
  World → Prop), (∀ (b8 : Bool) (w9 : World), bcase b8 (R (Ending.returned (Value.bool false)) w9) (∃ (k10 : Nat), k10 < k3 ∧ y1 k10
  (IntKind.wrap IntKind.i64 (n4 + (1 : Int))) w9) → y7 b8 w9) → ((0 : Int) ≤ n4 ∧ n4 < ((ByteArray.size s) : Int)) ∧ bcase (decide (byteAt s
  n4 < (97 : Int))) (y7 true w5) (((0 : Int) ≤ n4 ∧ n4 < ((ByteArray.size s) : Int)) ∧ y7 (decide ((122 : Int) < byteAt s n4)) w5)) (∀ (y13
  : Bool → World → Prop), (∀ (b14 : Bool) (w15 : World), R (Ending.returned (Value.bool b14)) w15 → y13 b14 w15) → bcase (decide ((0 : Int)
  < ((ByteArray.size s) : Int))) (y13 (decide (((ByteArray.size s) : Int) ≤ (16 : Int))) w5) (y13 false w5))

theorem rhizomeref07_Name.link {s : ByteArray} {R : Ending → World → Prop} {w : World} (h : rhizomeref07_Name.vc s R w) : Calls Go.Proofs.Try.prog 42 #[.string s] w R :=
  calls_of pf (fn := Go.Proofs.Try.f42) (ann := .s (.n) (.s (.s (.n) (.b (.l ⟨[], [], [], [(3, .l (.i .i64))], []⟩ (.s (.s (.n) (.c (.n) (.n))) (.s (.b (.j ⟨[], [], [], [(19, .l (.b))], []⟩ (.n) (.c (.s (.n) (.n)) (.n)))) (.n)))))) (.j ⟨[], [], [], [(2, .l (.b))], []⟩ (.n) (.n)))) (mp := false) (args := [.v (.string s)]) Go.Proofs.Try.func42 (c := Go.Proofs.Try.f42.body.getD .skip) (by kernel_rfl) (by kernel_rfl) (Eq.mp (by kernel_rfl) h)
theorem rhizomeref07_Name.body : BodyOk Go.Proofs.Try.prog 42 := ⟨Go.Proofs.Try.f42, Go.Proofs.Try.func42, by kernel_rfl, pf.ng _ _ Go.Proofs.Try.func42⟩

end Go.Proofs.Ytnplopiconabiaa.VC
