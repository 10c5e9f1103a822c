/- What is to be shown of functions' texts, printed by a program of this session's repo; that it gives the functions' contracts is checked by the kernel. -/
import Derived.Test.YtnimejocaaekaaaProg
import Derived.Test.YtnimejocaaekaaaPf
namespace Go.Proofs.Ytnimejocaaekaaa.VC
open Go Go.V
set_option maxRecDepth 1000000
set_option linter.unusedVariables false

/-! ### rhizome/rhizomelaw16.Tells: function 20 -/
def rhizomelaw16_Tells.vc (t : Addr) (mHeldA : Option Addr) (mHeldL mHeldC : Nat) (mQueueA : Option Addr) (mQueueL mQueueC : Nat) (itemsA :
  Option Addr) (itemsL itemsC : Nat) (R : Ending → World → Prop) (w : World) : Prop := ∀ (k1 : Nat), ∃ (y2 : Nat → Int → World → Prop), ∃
  (k3 : Nat), (∀ (w4 : World), Step w w4 [] [k1] → y2 k3 (0 : Int) w4) ∧ ∀ (k6 : Nat) (n7 : Int) (w8 : World), y2 k6 n7 w8 → bcase (decide
  (n7 ≤ (17 : Int))) (Calls Proofs.Try.prog (14 : Nat) { toList := [Value.pointer (some t), Value.int IntKind.i64 n7] } w8 fun (e10 :
  Ending) (w11 : World) => ∃ (n12 : Int), ∃ (b13 : Bool), ∃ (b14 : Bool), e10 = Ending.returned (Value.tuple { toList := [Value.int IntKind.i64 n12, Value.bool b13, Value.bool b14] })
  ∧ Keep [k1] w8 w11 ∧ Calls Proofs.Try.prog (36 : Nat) { toList := [Value.agg { toList := [Value.slice mHeldA mHeldL mHeldC, Value.slice mQueueA mQueueL mQueueC] }, Value.int IntKind.i64 n7] }
  w11 fun (e15 : Ending) (w16 : World) => ∃ (n17 : Int), e15 = Ending.returned (Value.int IntKind.i64 n17) ∧ Keep [k1] w11 w16 ∧ ∀ (y18 :
  Bool → World → Prop), (∀ (b19 : Bool) (w20 : World), bcase b19 (R (Ending.returned (Value.bool false)) w20) (∀ (w21 : World), Step w20 w21
  [] [] → Calls Proofs.Try.prog (16 : Nat) { toList := [Value.pointer (some t), Value.int IntKind.i64 n7] } w21 fun (e23 : Ending) (w24 :
  World) => ∃ (p25 : Option Addr), ∃ (k26 : Nat), ∃ (k27 : Nat), e23 = Ending.returned (Value.slice p25 k26 k27) ∧ Keep [k1] w21 w24 ∧ Calls
  Proofs.Try.prog (40 : Nat) { toList := [Value.agg { toList := [Value.slice mHeldA mHeldL mHeldC, Value.slice mQueueA mQueueL mQueueC] }, Value.int IntKind.i64 n7] }
  w24 fun (e28 : Ending) (w29 : World) => ∃ (p30 : Option Addr), ∃ (k31 : Nat), ∃ (k32 : Nat), e28 = Ending.returned (Value.slice p30 k31
  k32) ∧ Keep [k1] w24 w29 ∧ Calls Proofs.Try.prog (18 : Nat) { toList := [Value.slice p25 k26 k27, Value.slice p30 k31 k32] } w29 fun (e33
  : Ending) (w34 : World) => ∃ (b35 : Bool), e33 = Ending.returned (Value.bool b35) ∧ Keep [k1] w29 w34 ∧ bcase (!b35) (R (Ending.returned
  (Value.bool false)) w34) (∃ (y36 : Nat → Int → World → Prop), ∃ (k37 : Nat), y36 k37 (0 : Int) w34 ∧ ∀ (k38 : Nat) (n39 : Int) (w40 :
  World), y36 k38 n39 w40 → bcase (decide (n39 < (itemsL : Int))) (∃ (ad42 : Addr), itemsA = some ad42 ∧ ((0 : Int) ≤ n39 ∧ n39 < (itemsL :
  Int)) ∧ ∃ (n43 : Int), World.cell? w40 (Addr.add ad42 (Int.toNat n39 * 1)) = some (Value.int IntKind.i64 n43) ∧ Calls Proofs.Try.prog (15
  : Nat) { toList := [Value.pointer (some t), Value.int IntKind.i64 n7, Value.int IntKind.i64 n43] } w40 fun (e44 : Ending) (w45 : World) =>
  ∃ (b46 : Bool), ∃ (b47 : Bool), e44 = Ending.returned (Value.tuple { toList := [Value.bool b46, Value.bool b47] }) ∧ Keep [k1] w40 w45 ∧
  Calls Proofs.Try.prog (37 : Nat) { toList := [Value.agg { toList := [Value.slice mHeldA mHeldL mHeldC, Value.slice mQueueA mQueueL mQueueC] }, Value.int IntKind.i64 n7, Value.int IntKind.i64 n43] }
  w45 fun (e48 : Ending) (w49 : World) => ∃ (b50 : Bool), ∃ (b51 : Bool), e48 = Ending.returned (Value.tuple { toList := [Value.bool b50, Value.bool b51] })
  ∧ Keep [k1] w45 w49 ∧ ∀ (y52 : Bool → World → Prop), (∀ (b53 : Bool) (w54 : World), bcase b53 (R (Ending.returned (Value.bool false)) w54)
  (∃ (k55 : Nat), k55 < k38 ∧ y36 k55 (IntKind.wrap IntKind.i64 (n39 + (1 : Int))) w54) → y52 b53 w54) → bcase (!b46 == b50) (y52 true w49)
  (y52 (!b47 == b51) w49)) (∃ (k58 : Nat), k58 < k6 ∧ y2 k58 (IntKind.wrap IntKind.i64 (n7 + (1 : Int))) w40))) → y18 b19 w20) → bcase (!b14
  == decide ((0 : Int) ≤ n17)) (y18 true w16) (bcase (decide ((0 : Int) ≤ n17)) (∃ (ad61 : Addr), mQueueA = some ad61 ∧ ((0 : Int) ≤ n17 ∧
  n17 < (mQueueL : Int)) ∧ ∃ (n62 : Int), World.cell? w16 (Addr.add (Addr.add ad61 (Int.toNat n17 * 3)) 1) = some (Value.int IntKind.i64
  n62) ∧ bcase (!decide (n12 = n62)) (y18 true w16) (∃ (ad63 : Addr), mQueueA = some ad63 ∧ ((0 : Int) ≤ n17 ∧ n17 < (mQueueL : Int)) ∧ ∃
  (b64 : Bool), World.cell? w16 (Addr.add (Addr.add ad63 (Int.toNat n17 * 3)) 2) = some (Value.bool b64) ∧ bcase (!b13 == b64) (y18 true
  w16) (bcase (decide (n17 < (0 : Int))) (bcase (!decide (n12 = (0 : Int))) (y18 true w16) (y18 b13 w16)) (y18 false w16)))) (bcase (decide
  (n17 < (0 : Int))) (bcase (!decide (n12 = (0 : Int))) (y18 true w16) (y18 b13 w16)) (y18 false w16)))) (∀ (w65 : World), Step w8 w65 [] []
  → Calls Proofs.Try.prog (21 : Nat) { toList := [Value.pointer (some t)] } w65 fun (e67 : Ending) (w68 : World) => ∃ (p69 : Option Addr), ∃
  (k70 : Nat), ∃ (k71 : Nat), e67 = Ending.returned (Value.slice p69 k70 k71) ∧ Keep [k1] w65 w68 ∧ Calls Proofs.Try.prog (41 : Nat) { toList := [Value.agg { toList := [Value.slice mHeldA mHeldL mHeldC, Value.slice mQueueA mQueueL mQueueC] }] }
  w68 fun (e72 : Ending) (w73 : World) => ∃ (p74 : Option Addr), ∃ (k75 : Nat), ∃ (k76 : Nat), e72 = Ending.returned (Value.slice p74 k75
  k76) ∧ Keep [k1] w68 w73 ∧ bcase (!decide ((k70 : Int) = (k75 : Int))) (R (Ending.returned (Value.bool false)) w73) (∃ (y77 : Nat → Int →
  World → Prop), ∃ (k78 : Nat), y77 k78 (0 : Int) w73 ∧ ∀ (k79 : Nat) (n80 : Int) (w81 : World), y77 k79 n80 w81 → bcase (decide (n80 < (k70
  : Int))) (∃ (ad83 : Addr), p69 = some ad83 ∧ ((0 : Int) ≤ n80 ∧ n80 < (k70 : Int)) ∧ ∃ (n84 : Int), ∃ (n85 : Int), (World.cell? w81
  (Addr.add (Addr.add ad83 (Int.toNat n80 * 2)) 0) = some (Value.int IntKind.i64 n84) ∧ World.cell? w81 (Addr.add (Addr.add ad83 (Int.toNat
  n80 * 2)) 1) = some (Value.int IntKind.i64 n85) ∧ True) ∧ ∃ (ad86 : Addr), p74 = some ad86 ∧ ((0 : Int) ≤ n80 ∧ n80 < (k75 : Int)) ∧ ∃
  (n87 : Int), ∃ (n88 : Int), (World.cell? w81 (Addr.add (Addr.add ad86 (Int.toNat n80 * 2)) 0) = some (Value.int IntKind.i64 n87) ∧
  World.cell? w81 (Addr.add (Addr.add ad86 (Int.toNat n80 * 2)) 1) = some (Value.int IntKind.i64 n88) ∧ True) ∧ bcase (!conj [decide (n84 =
  n87), decide (n85 = n88)]) (∀ (w89 : World), Step w81 w89 [] [] → R (Ending.returned (Value.bool false)) w89) (∃ (k91 : Nat), k91 < k79 ∧
  ∀ (w92 : World), Step w81 w92 [] [] → y77 k91 (IntKind.wrap IntKind.i64 (n80 + (1 : Int))) w92)) (R (Ending.returned (Value.bool true))
  w81)))

theorem rhizomelaw16_Tells.link {t : Addr} {mHeldA : Option Addr} {mHeldL mHeldC : Nat} {mQueueA : Option Addr} {mQueueL mQueueC : Nat} {itemsA : Option Addr} {itemsL itemsC : Nat} {R : Ending → World → Prop} {w : World} (h : rhizomelaw16_Tells.vc t mHeldA mHeldL mHeldC mQueueA mQueueL mQueueC itemsA itemsL itemsC R w) : Calls Go.Proofs.Try.prog 20 #[.pointer (some t), (.agg #[.slice mHeldA mHeldL mHeldC, .slice mQueueA mQueueL mQueueC] : Value), .slice itemsA itemsL itemsC] w R :=
  calls_of pf (fn := Go.Proofs.Try.f20) (ann := .s (.n) (.s (.s (.n) (.b (.l ⟨[], [], [0], [(7, .l (.i .i64))], []⟩ (.s (.s (.n) (.c (.n) (.n))) (.s (.b (.s (.n) (.s (.n) (.s (.j ⟨[], [], [0], [(73, .l (.b))], []⟩ (.n) (.c (.s (.n) (.n)) (.n))) (.s (.s (.d [0]) (.c (.s (.n) (.n)) (.n))) (.s (.n) (.b (.l ⟨[], [], [0], [(84, .l (.i .i64))], []⟩ (.s (.n) (.s (.c (.n) (.n)) (.s (.b (.s (.n) (.s (.n) (.s (.n) (.j ⟨[], [], [0], [(109, .l (.b))], []⟩ (.n) (.c (.s (.n) (.n)) (.n))))))) (.n)))))))))))) (.n)))))) (.s (.d [0]) (.s (.s (.n) (.c (.s (.n) (.n)) (.n))) (.s (.s (.n) (.b (.l ⟨[], [], [], [(122, .l (.i .i64))], []⟩ (.s (.n) (.s (.c (.n) (.n)) (.s (.b (.s (.n) (.s (.n) (.c (.s (.n) (.n)) (.n))))) (.n))))))) (.s (.n) (.n))))))) (mp := false) (args := [.a t, .v (.agg #[.slice mHeldA mHeldL mHeldC, .slice mQueueA mQueueL mQueueC]), .v (.slice itemsA itemsL itemsC)]) Go.Proofs.Try.func20 (c := Go.Proofs.Try.f20.body.getD .skip) (by kernel_rfl) (by kernel_rfl) (Eq.mp (by kernel_rfl) h)
theorem rhizomelaw16_Tells.body : BodyOk Go.Proofs.Try.prog 20 := ⟨Go.Proofs.Try.f20, Go.Proofs.Try.func20, by kernel_rfl, pf.ng _ _ Go.Proofs.Try.func20⟩

end Go.Proofs.Ytnimejocaaekaaa.VC
