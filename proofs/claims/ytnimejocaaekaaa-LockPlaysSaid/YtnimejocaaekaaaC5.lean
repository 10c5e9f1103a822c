/- What is to be shown of functions' texts, printed by a program of this session's repo; that it gives the functions' contracts is checked by the kernel. -/
import Derived.Test.YtnimejocaaekaaaProg
import Derived.Test.YtnimejocaaekaaaPf
namespace Go.Proofs.Ytnimejocaaekaaa.VC
open Go Go.V
set_option maxRecDepth 1000000
set_option linter.unusedVariables false

/-! ### rhizome/rhizomelaw16.some: function 11 -/
def rhizomelaw16_some.vc (lA : Option Addr) (lL lC : Nat) (R : Ending → World → Prop) (w : World) : Prop := ∃ (y1 : Nat → Int → World →
  Prop), ∃ (k2 : Nat), y1 k2 (0 : Int) w ∧ ∀ (k3 : Nat) (n4 : Int) (w5 : World), y1 k3 n4 w5 → bcase (decide (n4 < (lL : Int))) (∃ (ad7 :
  Addr), lA = some ad7 ∧ ((0 : Int) ≤ n4 ∧ n4 < (lL : Int)) ∧ ∃ (b8 : Bool), World.cell? w5 (Addr.add ad7 (Int.toNat n4 * 1)) = some
  (Value.bool b8) ∧ bcase b8 (R (Ending.returned (Value.bool true)) w5) (∃ (k9 : Nat), k9 < k3 ∧ y1 k9 (IntKind.wrap IntKind.i64 (n4 + (1 :
  Int))) w5)) (R (Ending.returned (Value.bool false)) w5)

theorem rhizomelaw16_some.link {lA : Option Addr} {lL lC : Nat} {R : Ending → World → Prop} {w : World} (h : rhizomelaw16_some.vc lA lL lC R w) : Calls Go.Proofs.Try.prog 11 #[.slice lA lL lC] w R :=
  calls_of pf (fn := Go.Proofs.Try.f11) (ann := .s (.n) (.s (.s (.n) (.b (.l ⟨[], [], [], [(7, .l (.i .i64))], []⟩ (.s (.n) (.s (.c (.n) (.n)) (.s (.b (.s (.n) (.s (.n) (.c (.s (.n) (.n)) (.n))))) (.n))))))) (.s (.n) (.n)))) (mp := false) (args := [.v (.slice lA lL lC)]) Go.Proofs.Try.func11 (c := Go.Proofs.Try.f11.body.getD .skip) (by kernel_rfl) (by kernel_rfl) (Eq.mp (by kernel_rfl) h)
theorem rhizomelaw16_some.body : BodyOk Go.Proofs.Try.prog 11 := ⟨Go.Proofs.Try.f11, Go.Proofs.Try.func11, by kernel_rfl, pf.ng _ _ Go.Proofs.Try.func11⟩

/-! ### rhizome/rhizomelaw16.awake: function 10 -/
def rhizomelaw16_awake.vc (R : Ending → World → Prop) (w : World) : Prop := Calls Proofs.Try.prog (9 : Nat) { toList := [] } w fun (e1 :
  Ending) (w2 : World) => ∃ (p3 : Option Addr), e1 = Ending.returned (Value.pointer p3) ∧ ∀ (y4 : Bool → World → Prop), (∀ (b5 : Bool) (w6 :
  World), bcase b5 (R (Ending.returned (Value.bool false)) w6) (Calls Proofs.Try.prog (13 : Nat) { toList := [Value.pointer p3, Value.int IntKind.i64 (2 : Int)] }
  w6 fun (e7 : Ending) (w8 : World) => ∃ (p9 : Option Addr), ∃ (k10 : Nat), ∃ (k11 : Nat), ∃ (n12 : Int), e7 = Ending.returned (Value.tuple
  { toList := [Value.slice p9 k10 k11, Value.int IntKind.i64 n12] }) ∧ ∀ (y13 : Bool → World → Prop), (∀ (b14 : Bool) (w15 : World), R
  (Ending.returned (Value.bool b14)) w15 → y13 b14 w15) → bcase (decide (n12 = (0 : Int))) (∀ (k18 : Nat) (w19 : World), Step w8 w19 []
  [k18] → Blk w19 k18 (spl (reps [Value.int IntKind.i64 (0 : Int)] 1) 0 [Value.int IntKind.i64 (1 : Int)]) → Calls Proofs.Try.prog (18 :
  Nat) { toList := [Value.slice p9 k10 k11, Value.slice (some { block := k18, off := 0 }) 1 1] } w19 fun (e22 : Ending) (w23 : World) => ∃
  (b24 : Bool), e22 = Ending.returned (Value.bool b24) ∧ y13 b24 w23) (y13 false w8)) → y4 b5 w6) → bcase (Option.isNone p3) (y4 true w2)
  (Calls Proofs.Try.prog (12 : Nat) { toList := [Value.pointer p3, Value.int IntKind.i64 (1 : Int), Value.int IntKind.i64 (5 : Int), Value.bool false] }
  w2 fun (e27 : Ending) (w28 : World) => ∃ (n29 : Int), e27 = Ending.returned (Value.int IntKind.i64 n29) ∧ bcase (!decide (n29 = (0 :
  Int))) (y4 true w28) (Calls Proofs.Try.prog (12 : Nat) { toList := [Value.pointer p3, Value.int IntKind.i64 (2 : Int), Value.int IntKind.i64 (5 : Int), Value.bool false] }
  w28 fun (e30 : Ending) (w31 : World) => ∃ (n32 : Int), e30 = Ending.returned (Value.int IntKind.i64 n32) ∧ bcase (!decide (n32 = (0 :
  Int))) (y4 true w31) (Calls Proofs.Try.prog (12 : Nat) { toList := [Value.pointer p3, Value.int IntKind.i64 (3 : Int), Value.int IntKind.i64 (5 : Int), Value.bool true] }
  w31 fun (e33 : Ending) (w34 : World) => ∃ (n35 : Int), e33 = Ending.returned (Value.int IntKind.i64 n35) ∧ bcase (!decide (n35 = (160 :
  Int))) (y4 true w34) (Calls Proofs.Try.prog (12 : Nat) { toList := [Value.pointer p3, Value.int IntKind.i64 (4 : Int), Value.int IntKind.i64 (5 : Int), Value.bool false] }
  w34 fun (e36 : Ending) (w37 : World) => ∃ (n38 : Int), e36 = Ending.returned (Value.int IntKind.i64 n38) ∧ bcase (!decide (n38 = (160 :
  Int))) (y4 true w37) (Calls Proofs.Try.prog (12 : Nat) { toList := [Value.pointer p3, Value.int IntKind.i64 (1 : Int), Value.int IntKind.i64 (5 : Int), Value.bool true] }
  w37 fun (e39 : Ending) (w40 : World) => ∃ (n41 : Int), e39 = Ending.returned (Value.int IntKind.i64 n41) ∧ y4 (!decide (n41 = (160 :
  Int))) w40)))))

theorem rhizomelaw16_awake.link {_u : Unit} {R : Ending → World → Prop} {w : World} (h : rhizomelaw16_awake.vc  R w) : Calls Go.Proofs.Try.prog 10 #[] w R :=
  calls_of pf (fn := Go.Proofs.Try.f10) (ann := .s (.n) (.s (.n) (.s (.j ⟨[], [], [], [(31, .l (.b))], []⟩ (.n) (.c (.s (.n) (.n)) (.n))) (.s (.n) (.j ⟨[], [], [], [(0, .l (.b))], []⟩ (.n) (.n)))))) (mp := false) (args := []) Go.Proofs.Try.func10 (c := Go.Proofs.Try.f10.body.getD .skip) (by kernel_rfl) (by kernel_rfl) (Eq.mp (by kernel_rfl) h)
theorem rhizomelaw16_awake.body : BodyOk Go.Proofs.Try.prog 10 := ⟨Go.Proofs.Try.f10, Go.Proofs.Try.func10, by kernel_rfl, pf.ng _ _ Go.Proofs.Try.func10⟩

end Go.Proofs.Ytnimejocaaekaaa.VC
