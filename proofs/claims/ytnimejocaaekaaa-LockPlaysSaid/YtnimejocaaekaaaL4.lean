/- What is to be shown of functions' texts, printed by a program of this session's repo; that it gives the functions' contracts is checked by the kernel. -/
import Derived.Test.YtnimejocaaekaaaProg
import Derived.Test.YtnimejocaaekaaaPf
namespace Go.Proofs.Ytnimejocaaekaaa.VC
open Go Go.V
set_option maxRecDepth 1000000
set_option linter.unusedVariables false

/-! ### rhizome/rhizomelaw16.LockShares: function 4 -/
def rhizomelaw16_LockShares.vc (scriptA : Option Addr) (scriptL scriptC : Nat) (item : Int) (R : Ending → World → Prop) (w : World) : Prop
  := Calls Proofs.Try.prog (9 : Nat) { toList := [] } w fun (e1 : Ending) (w2 : World) => ∃ (p3 : Option Addr), e1 = Ending.returned
  (Value.pointer p3) ∧ ∀ (y4 : Bool → World → Prop), (∀ (b5 : Bool) (w6 : World), bcase b5 (R (Ending.returned (Value.bool false)) w6) (∃
  (y7 : Nat → Int → World → Prop), ∃ (k8 : Nat), y7 k8 (0 : Int) w6 ∧ ∀ (k9 : Nat) (n10 : Int) (w11 : World), y7 k9 n10 w11 → ∀ (y13 : Bool
  → World → Prop), (∀ (b14 : Bool) (w15 : World), bcase b14 (∀ (y16 : World → Prop), (∀ (w17 : World), (∃ (k18 : Nat), k18 < k9 ∧ y7 k18
  (IntKind.wrap IntKind.i64 (n10 + (1 : Int))) w17) → y16 w17) → ∃ (ad21 : Addr), scriptA = some ad21 ∧ ((0 : Int) ≤ n10 ∧ n10 < (scriptL :
  Int)) ∧ ∃ (b22 : Bool), ∃ (n23 : Int), ∃ (n24 : Int), ∃ (b25 : Bool), (World.cell? w15 (Addr.add (Addr.add ad21 (Int.toNat n10 * 4)) 0) =
  some (Value.bool b22) ∧ World.cell? w15 (Addr.add (Addr.add ad21 (Int.toNat n10 * 4)) 1) = some (Value.int IntKind.i64 n23) ∧ World.cell?
  w15 (Addr.add (Addr.add ad21 (Int.toNat n10 * 4)) 2) = some (Value.int IntKind.i64 n24) ∧ World.cell? w15 (Addr.add (Addr.add ad21
  (Int.toNat n10 * 4)) 3) = some (Value.bool b25) ∧ True) ∧ ∀ (k26 : Nat), (16 : Int) ≠ (0 : Int) ∧ bcase b22 (∀ (w27 : World), Step w15 w27
  [] [k26] → Calls Proofs.Try.prog (13 : Nat) { toList := [Value.pointer p3, Value.int IntKind.i64 (IntKind.wrap IntKind.i64 (IntKind.wrap IntKind.i64 (Int.tmod (IntKind.wrap IntKind.u64 n23) (16 : Int)) + (1 : Int)))] }
  w27 fun (e29 : Ending) (w30 : World) => ∃ (p31 : Option Addr), ∃ (k32 : Nat), ∃ (k33 : Nat), ∃ (n34 : Int), e29 = Ending.returned
  (Value.tuple { toList := [Value.slice p31 k32 k33, Value.int IntKind.i64 n34] }) ∧ Keep [k26] w27 w30 ∧ y16 w30) (∀ (w35 : World), Step
  w15 w35 [] [k26] → Calls Proofs.Try.prog (14 : Nat) { toList := [Value.pointer p3, Value.int IntKind.i64 (IntKind.wrap IntKind.i64 (IntKind.wrap IntKind.i64 (Int.tmod (IntKind.wrap IntKind.u64 n23) (16 : Int)) + (1 : Int)))] }
  w35 fun (e37 : Ending) (w38 : World) => ∃ (n39 : Int), ∃ (b40 : Bool), ∃ (b41 : Bool), e37 = Ending.returned (Value.tuple { toList := [Value.int IntKind.i64 n39, Value.bool b40, Value.bool b41] })
  ∧ Keep [k26] w35 w38 ∧ ∀ (y42 : Bool → World → Prop), (∀ (b43 : Bool) (w44 : World), (Calls Proofs.Try.prog (12 : Nat) { toList := [Value.pointer p3, Value.int IntKind.i64 (IntKind.wrap IntKind.i64 (IntKind.wrap IntKind.i64 (Int.tmod (IntKind.wrap IntKind.u64 n23) (16 : Int)) + (1 : Int))), Value.int IntKind.i64 n24, Value.bool b43] }
  w44 fun (e45 : Ending) (w46 : World) => ∃ (n47 : Int), e45 = Ending.returned (Value.int IntKind.i64 n47) ∧ bcase (!b41 == decide (n47 =
  (171 : Int))) (R (Ending.returned (Value.bool false)) w46) (∀ (y48 : Bool → World → Prop), (∀ (b49 : Bool) (w50 : World), bcase b49 (Calls
  Proofs.Try.prog (15 : Nat) { toList := [Value.pointer p3, Value.int IntKind.i64 (IntKind.wrap IntKind.i64 (IntKind.wrap IntKind.i64 (Int.tmod (IntKind.wrap IntKind.u64 n23) (16 : Int)) + (1 : Int))), Value.int IntKind.i64 n24] }
  w50 fun (e51 : Ending) (w52 : World) => ∃ (b53 : Bool), ∃ (b54 : Bool), e51 = Ending.returned (Value.tuple { toList := [Value.bool b53, Value.bool b54] })
  ∧ ∀ (y55 : Bool → World → Prop), (∀ (b56 : Bool) (w57 : World), bcase b56 (R (Ending.returned (Value.bool false)) w57) (y16 w57) → y55 b56
  w57) → bcase (!decide (n47 = (0 : Int))) (y55 true w52) (bcase (!b53) (y55 true w52) (y55 b54 w52))) (y16 w50) → y48 b49 w50) → bcase
  (decide (n24 = item)) (y48 (!b41) w46) (y48 false w46))) → y42 b43 w44) → bcase (decide (n24 = item)) (∀ (w64 : World), Step w38 w64 [] []
  → y42 false w64) (∀ (w66 : World), Step w38 w66 [] [] → y42 b25 w66))) (R (Ending.returned (Value.bool true)) w15) → y13 b14 w15) → bcase
  (decide (n10 < (scriptL : Int))) (y13 (decide (n10 < (80 : Int))) w11) (y13 false w11)) → y4 b5 w6) → Calls Proofs.Try.prog (10 : Nat) { toList := [] }
  w2 fun (e72 : Ending) (w73 : World) => ∃ (b74 : Bool), e72 = Ending.returned (Value.bool b74) ∧ bcase (!b74) (y4 true w73) (y4
  (Option.isNone p3) w73)

theorem rhizomelaw16_LockShares.link {scriptA : Option Addr} {scriptL scriptC : Nat} {item : Int} {R : Ending → World → Prop} {w : World} (h : rhizomelaw16_LockShares.vc scriptA scriptL scriptC item R w) : Calls Go.Proofs.Try.prog 4 #[.slice scriptA scriptL scriptC, .int .i64 item] w R :=
  calls_of pf (fn := Go.Proofs.Try.f4) (ann := .s (.n) (.s (.n) (.s (.j ⟨[], [], [], [(23, .l (.b))], []⟩ (.n) (.c (.s (.n) (.n)) (.n))) (.s (.s (.n) (.b (.l ⟨[], [], [], [(6, .l (.i .i64))], []⟩ (.s (.j ⟨[], [], [], [(31, .l (.b))], []⟩ (.n) (.c (.n) (.n))) (.j ⟨[], [], [], [], []⟩ (.b (.s (.n) (.s (.n) (.s (.s (.n) (.c (.s (.n) (.n)) (.n))) (.s (.n) (.s (.d [0]) (.j ⟨[], [], [], [(13, .l (.b))], []⟩ (.s (.n) (.c (.n) (.n))) (.s (.n) (.s (.s (.n) (.c (.s (.n) (.n)) (.n))) (.j ⟨[], [], [], [(78, .l (.b))], []⟩ (.n) (.c (.s (.n) (.j ⟨[], [], [], [(94, .l (.b))], []⟩ (.n) (.c (.s (.n) (.n)) (.n)))) (.n)))))))))))) (.n)))))) (.s (.n) (.n)))))) (mp := false) (args := [.v (.slice scriptA scriptL scriptC), .v (.int .i64 item)]) Go.Proofs.Try.func4 (c := Go.Proofs.Try.f4.body.getD .skip) (by kernel_rfl) (by kernel_rfl) (Eq.mp (by kernel_rfl) h)
theorem rhizomelaw16_LockShares.body : BodyOk Go.Proofs.Try.prog 4 := ⟨Go.Proofs.Try.f4, Go.Proofs.Try.func4, by kernel_rfl, pf.ng _ _ Go.Proofs.Try.func4⟩

end Go.Proofs.Ytnimejocaaekaaa.VC
