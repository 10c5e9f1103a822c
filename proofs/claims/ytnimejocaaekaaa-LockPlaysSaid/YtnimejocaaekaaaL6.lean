/- What is to be shown of functions' texts, printed by a program of this session's repo; that it gives the functions' contracts is checked by the kernel. -/
import Derived.Test.YtnimejocaaekaaaProg
import Derived.Test.YtnimejocaaekaaaPf
namespace Go.Proofs.Ytnimejocaaekaaa.VC
open Go Go.V
set_option maxRecDepth 1000000
set_option linter.unusedVariables false

/-! ### rhizome/rhizomelaw16.LockPlays: function 6 -/
def rhizomelaw16_LockPlays.vc (scriptA : Option Addr) (scriptL scriptC : Nat) (R : Ending → World → Prop) (w : World) : Prop := Calls
  Proofs.Try.prog (9 : Nat) { toList := [] } w fun (e1 : Ending) (w2 : World) => ∃ (p3 : Option Addr), e1 = Ending.returned (Value.pointer
  p3) ∧ ∀ (y4 : Bool → World → Prop), (∀ (b5 : Bool) (w6 : World), bcase b5 (R (Ending.returned (Value.bool false)) w6) (∀ (k7 : Nat), ∃ (y8
  : Nat → Option Addr → Nat → Nat → Int → Option Addr → Nat → Nat → Option Addr → Nat → Nat → World → Prop), ∃ (k9 : Nat), (∀ (w10 : World),
  Step w6 w10 [] [k7] → y8 k9 none 0 0 (0 : Int) none 0 0 none 0 0 w10) ∧ ∀ (k12 : Nat) (p13 : Option Addr) (k14 k15 : Nat) (n16 : Int) (p17
  : Option Addr) (k18 k19 : Nat) (p20 : Option Addr) (k21 k22 : Nat) (w23 : World), y8 k12 p13 k14 k15 n16 p17 k18 k19 p20 k21 k22 w23 → ∀
  (y25 : Bool → World → Prop), (∀ (b26 : Bool) (w27 : World), bcase b26 (∃ (ad28 : Addr), scriptA = some ad28 ∧ ((0 : Int) ≤ n16 ∧ n16 <
  (scriptL : Int)) ∧ ∃ (b29 : Bool), ∃ (n30 : Int), ∃ (n31 : Int), ∃ (b32 : Bool), (World.cell? w27 (Addr.add (Addr.add ad28 (Int.toNat n16
  * 4)) 0) = some (Value.bool b29) ∧ World.cell? w27 (Addr.add (Addr.add ad28 (Int.toNat n16 * 4)) 1) = some (Value.int IntKind.i64 n30) ∧
  World.cell? w27 (Addr.add (Addr.add ad28 (Int.toNat n16 * 4)) 2) = some (Value.int IntKind.i64 n31) ∧ World.cell? w27 (Addr.add (Addr.add
  ad28 (Int.toNat n16 * 4)) 3) = some (Value.bool b32) ∧ True) ∧ ∀ (k33 : Nat) (y34 : Option Addr → Nat → Nat → World → Prop), (∀ (p35 :
  Option Addr) (k36 k37 : Nat) (w38 : World), (∀ (y39 : Option Addr → Nat → Nat → Option Addr → Nat → Nat → World → Prop), (∀ (p40 : Option
  Addr) (k41 k42 : Nat) (p43 : Option Addr) (k44 k45 : Nat) (w46 : World), (Calls Proofs.Try.prog (20 : Nat) { toList := [Value.pointer p3, Value.agg { toList := [Value.slice p40 k41 k42, Value.slice p43 k44 k45] }, Value.slice p35 k36 k37] }
  w46 fun (e47 : Ending) (w48 : World) => ∃ (b49 : Bool), e47 = Ending.returned (Value.bool b49) ∧ Keep [k7] w46 w48 ∧ bcase (!b49) (R
  (Ending.returned (Value.bool false)) w48) (∃ (k50 : Nat), k50 < k12 ∧ y8 k50 p35 k36 k37 (IntKind.wrap IntKind.i64 (n16 + (1 : Int))) p40
  k41 k42 p43 k44 k45 w48)) → y39 p40 k41 k42 p43 k44 k45 w46) → bcase b29 (Calls Proofs.Try.prog (13 : Nat) { toList := [Value.pointer p3, Value.int IntKind.i64 n30] }
  w38 fun (e53 : Ending) (w54 : World) => ∃ (p55 : Option Addr), ∃ (k56 : Nat), ∃ (k57 : Nat), ∃ (n58 : Int), e53 = Ending.returned
  (Value.tuple { toList := [Value.slice p55 k56 k57, Value.int IntKind.i64 n58] }) ∧ Keep [k7, k33] w38 w54 ∧ Calls Proofs.Try.prog (17 :
  Nat) { toList := [Value.agg { toList := [Value.slice p17 k18 k19, Value.slice p20 k21 k22] }, Value.int IntKind.i64 n30] } w54 fun (e59 :
  Ending) (w60 : World) => ∃ (p61 : Option Addr), ∃ (k62 : Nat), ∃ (k63 : Nat), ∃ (p64 : Option Addr), ∃ (k65 : Nat), ∃ (k66 : Nat), ∃ (p67
  : Option Addr), ∃ (k68 : Nat), ∃ (k69 : Nat), ∃ (n70 : Int), e59 = Ending.returned (Value.tuple { toList := [Value.agg { toList := [Value.slice p61 k62 k63, Value.slice p64 k65 k66] }, Value.slice p67 k68 k69, Value.int IntKind.i64 n70] })
  ∧ Keep [k7, k33] w54 w60 ∧ ∀ (y71 : Bool → World → Prop), (∀ (b72 : Bool) (w73 : World), bcase b72 (R (Ending.returned (Value.bool false))
  w73) (y39 p61 k62 k63 p64 k65 k66 w73) → y71 b72 w73) → bcase (!decide (n58 = n70)) (∀ (w76 : World), Step w60 w76 [k7] [] → y71 true w76)
  (∀ (w78 : World), Step w60 w78 [k7] [] → Calls Proofs.Try.prog (18 : Nat) { toList := [Value.slice p55 k56 k57, Value.slice p67 k68 k69] }
  w78 fun (e80 : Ending) (w81 : World) => ∃ (b82 : Bool), e80 = Ending.returned (Value.bool b82) ∧ Keep [k7, k33] w78 w81 ∧ y71 (!b82) w81))
  (Calls Proofs.Try.prog (12 : Nat) { toList := [Value.pointer p3, Value.int IntKind.i64 n30, Value.int IntKind.i64 n31, Value.bool b32] }
  w38 fun (e83 : Ending) (w84 : World) => ∃ (n85 : Int), e83 = Ending.returned (Value.int IntKind.i64 n85) ∧ Keep [k7, k33] w38 w84 ∧ Calls
  Proofs.Try.prog (19 : Nat) { toList := [Value.agg { toList := [Value.slice p17 k18 k19, Value.slice p20 k21 k22] }, Value.int IntKind.i64 n30, Value.int IntKind.i64 n31, Value.bool b32] }
  w84 fun (e86 : Ending) (w87 : World) => ∃ (p88 : Option Addr), ∃ (k89 : Nat), ∃ (k90 : Nat), ∃ (p91 : Option Addr), ∃ (k92 : Nat), ∃ (k93
  : Nat), ∃ (n94 : Int), e86 = Ending.returned (Value.tuple { toList := [Value.agg { toList := [Value.slice p88 k89 k90, Value.slice p91 k92 k93] }, Value.int IntKind.i64 n94] })
  ∧ Keep [k7, k33] w84 w87 ∧ bcase (!decide (n85 = n94)) (∀ (w95 : World), Step w87 w95 [k7] [] → R (Ending.returned (Value.bool false))
  w95) (∀ (w97 : World), Step w87 w97 [k7] [] → y39 p88 k89 k90 p91 k92 k93 w97))) → y34 p35 k36 k37 w38) → bcase (decide ((k14 : Int) < (20
  : Int))) (∀ (k101 : Nat), appendP false [] [k101, k33] [k7, k33, k101] w27 p13 k14 k15 1 (spl (reps [Value.int IntKind.i64 (0 : Int)] 1) 0
  [Value.int IntKind.i64 n31]) 1 8 [Value.int IntKind.i64 (0 : Int)] fun (w102 : World) (p103 : Option Addr) (k104 k105 : Nat) => y34 p103
  k104 k105 w102) (∀ (w106 : World), Step w27 w106 [] [k33] → y34 p13 k14 k15 w106)) (R (Ending.returned (Value.bool true)) w27) → y25 b26
  w27) → bcase (decide (n16 < (scriptL : Int))) (y25 (decide (n16 < (80 : Int))) w23) (y25 false w23)) → y4 b5 w6) → Calls Proofs.Try.prog
  (10 : Nat) { toList := [] } w2 fun (e112 : Ending) (w113 : World) => ∃ (b114 : Bool), e112 = Ending.returned (Value.bool b114) ∧ bcase
  (!b114) (y4 true w113) (y4 (Option.isNone p3) w113)

theorem rhizomelaw16_LockPlays.link {scriptA : Option Addr} {scriptL scriptC : Nat} {R : Ending → World → Prop} {w : World} (h : rhizomelaw16_LockPlays.vc scriptA scriptL scriptC R w) : Calls Go.Proofs.Try.prog 6 #[.slice scriptA scriptL scriptC] w R :=
  calls_of pf (fn := Go.Proofs.Try.f6) (ann := .s (.n) (.s (.n) (.s (.j ⟨[], [], [], [(19, .l (.b))], []⟩ (.n) (.c (.s (.n) (.n)) (.n))) (.s (.n) (.s (.n) (.s (.s (.n) (.b (.l ⟨[], [], [], [(5, .l (.sl)), (6, .l (.i .i64))], [(0, [.sl, .sl])]⟩ (.s (.j ⟨[], [], [0], [(28, .l (.b))], []⟩ (.n) (.c (.n) (.n))) (.s (.b (.s (.n) (.j ⟨[], [], [0, 1], [(5, .l (.sl))], []⟩ (.s (.n) (.c (.n) (.n))) (.s (.n) (.j ⟨[], [], [], [], [(0, [.sl, .sl])]⟩ (.s (.n) (.c (.s (.n) (.s (.n) (.s (.n) (.j ⟨[], [], [0], [(68, .l (.b))], []⟩ (.n) (.c (.s (.n) (.n)) (.n)))))) (.s (.n) (.s (.n) (.s (.n) (.c (.s (.n) (.n)) (.n))))))) (.s (.n) (.c (.s (.n) (.n)) (.n)))))))) (.n)))))) (.s (.n) (.n)))))))) (mp := false) (args := [.v (.slice scriptA scriptL scriptC)]) Go.Proofs.Try.func6 (c := Go.Proofs.Try.f6.body.getD .skip) (by kernel_rfl) (by kernel_rfl) (Eq.mp (by kernel_rfl) h)
theorem rhizomelaw16_LockPlays.body : BodyOk Go.Proofs.Try.prog 6 := ⟨Go.Proofs.Try.f6, Go.Proofs.Try.func6, by kernel_rfl, pf.ng _ _ Go.Proofs.Try.func6⟩

end Go.Proofs.Ytnimejocaaekaaa.VC
