/- What is to be shown of functions' texts, printed by a program of this session's repo; that it gives the functions' contracts is checked by the kernel. -/
import Derived.Test.YtnimejocaaekaaaProg
import Derived.Test.YtnimejocaaekaaaPf
namespace Go.Proofs.Ytnimejocaaekaaa.VC
open Go Go.V
set_option maxRecDepth 1000000
set_option linter.unusedVariables false

/-! ### slices.IndexFunc[[]rhizome/lock.ask,rhizome/lock.ask]: function 48 -/
def slices_IndexFunc_g.vc (sA : Option Addr) (sL sC : Nat) (f : Nat) (fcap : Array Value) (R : Ending → World → Prop) (w : World) : Prop :=
  ∃ (y1 : Nat → Int → World → Prop), ∃ (k2 : Nat), y1 k2 (0 : Int) w ∧ ∀ (k3 : Nat) (n4 : Int) (w5 : World), y1 k3 n4 w5 → bcase (decide (n4
  < (sL : Int))) (∃ (ad7 : Addr), sA = some ad7 ∧ ((0 : Int) ≤ n4 ∧ n4 < (sL : Int)) ∧ ∃ (n8 : Int), ∃ (b9 : Bool), (World.cell? w5
  (Addr.add (Addr.add ad7 (Int.toNat n4 * 2)) 0) = some (Value.int IntKind.i64 n8) ∧ World.cell? w5 (Addr.add (Addr.add ad7 (Int.toNat n4 *
  2)) 1) = some (Value.bool b9) ∧ True) ∧ BodyOk Proofs.Try.prog f ∧ Calls Proofs.Try.prog f { toList := Value.agg { toList := [Value.int IntKind.i64 n8, Value.bool b9] } :: List.append [] (Array.toList fcap) }
  w5 fun (e10 : Ending) (w11 : World) => ∃ (b12 : Bool), e10 = Ending.returned (Value.bool b12) ∧ bcase b12 (R (Ending.returned (Value.int
  IntKind.i64 n4)) w11) (∃ (k13 : Nat), k13 < k3 ∧ y1 k13 (IntKind.wrap IntKind.i64 (n4 + (1 : Int))) w11)) (R (Ending.returned (Value.int
  IntKind.i64 (-1 : Int))) w5)

theorem slices_IndexFunc_g.link {sA : Option Addr} {sL sC : Nat} {f : Nat} {fcap : Array Value} {R : Ending → World → Prop} {w : World} (h : slices_IndexFunc_g.vc sA sL sC f fcap R w) : Calls Go.Proofs.Try.prog 48 #[.slice sA sL sC, .func (.func f) #[] fcap] w R :=
  calls_of pf (fn := Go.Proofs.Try.f48) (ann := .s (.n) (.s (.s (.n) (.b (.l ⟨[], [], [], [(8, .l (.i .i64))], []⟩ (.s (.n) (.s (.c (.n) (.n)) (.s (.b (.s (.n) (.s (.n) (.c (.s (.n) (.n)) (.n))))) (.n))))))) (.s (.n) (.n)))) (mp := false) (args := [.v (.slice sA sL sC), .v (.func (.func f) #[] fcap)]) Go.Proofs.Try.func48 (c := Go.Proofs.Try.f48.body.getD .skip) (by kernel_rfl) (by kernel_rfl) (Eq.mp (by kernel_rfl) h)
theorem slices_IndexFunc_g.body : BodyOk Go.Proofs.Try.prog 48 := ⟨Go.Proofs.Try.f48, Go.Proofs.Try.func48, by kernel_rfl, pf.ng _ _ Go.Proofs.Try.func48⟩

/-! ### slices.ContainsFunc[[]rhizome/lock.ask,rhizome/lock.ask]: function 30 -/
def slices_ContainsFunc_g.vc (sA : Option Addr) (sL sC : Nat) (f : Nat) (fcap : Array Value) (R : Ending → World → Prop) (w : World) : Prop
  := Calls Proofs.Try.prog (48 : Nat) { toList := [Value.slice sA sL sC, Value.func (Fn.func f) { toList := [] } fcap] } w fun (e1 : Ending)
  (w2 : World) => ∃ (n3 : Int), e1 = Ending.returned (Value.int IntKind.i64 n3) ∧ R (Ending.returned (Value.bool (decide ((0 : Int) ≤ n3))))
  w2

theorem slices_ContainsFunc_g.link {sA : Option Addr} {sL sC : Nat} {f : Nat} {fcap : Array Value} {R : Ending → World → Prop} {w : World} (h : slices_ContainsFunc_g.vc sA sL sC f fcap R w) : Calls Go.Proofs.Try.prog 30 #[.slice sA sL sC, .func (.func f) #[] fcap] w R :=
  calls_of pf (fn := Go.Proofs.Try.f30) (ann := .s (.n) (.s (.n) (.n))) (mp := false) (args := [.v (.slice sA sL sC), .v (.func (.func f) #[] fcap)]) Go.Proofs.Try.func30 (c := Go.Proofs.Try.f30.body.getD .skip) (by kernel_rfl) (by kernel_rfl) (Eq.mp (by kernel_rfl) h)
theorem slices_ContainsFunc_g.body : BodyOk Go.Proofs.Try.prog 30 := ⟨Go.Proofs.Try.f30, Go.Proofs.Try.func30, by kernel_rfl, pf.ng _ _ Go.Proofs.Try.func30⟩

/-! ### slices.DeleteFunc[[]rhizome/lock.ask,rhizome/lock.ask]: function 31 -/
def slices_DeleteFunc_g.vc (sA : Option Addr) (sL sC : Nat) (del : Nat) (delcap : Array Value) (R : Ending → World → Prop) (w : World) :
  Prop := Calls Proofs.Try.prog (48 : Nat) { toList := [Value.slice sA sL sC, Value.func (Fn.func del) { toList := [] } delcap] } w fun (e1
  : Ending) (w2 : World) => ∃ (n3 : Int), e1 = Ending.returned (Value.int IntKind.i64 n3) ∧ bcase (decide (n3 = (-1 : Int))) (R
  (Ending.returned (Value.slice sA sL sC)) w2) (∃ (y4 : Nat → Int → Int → World → Prop), ∃ (k5 : Nat), y4 k5 n3 (IntKind.wrap IntKind.i64
  (n3 + (1 : Int))) w2 ∧ ∀ (k6 : Nat) (n7 n8 : Int) (w9 : World), y4 k6 n7 n8 w9 → bcase (decide (n8 < (sL : Int))) (∀ (y11 : Int → World →
  Prop), (∀ (n12 : Int) (w13 : World), (∃ (k14 : Nat), k14 < k6 ∧ y4 k14 n12 (IntKind.wrap IntKind.i64 (n8 + (1 : Int))) w13) → y11 n12 w13)
  → ∃ (ad17 : Addr), sA = some ad17 ∧ ((0 : Int) ≤ n8 ∧ n8 < (sL : Int)) ∧ ∃ (n18 : Int), ∃ (b19 : Bool), (World.cell? w9 (Addr.add
  (Addr.add ad17 (Int.toNat n8 * 2)) 0) = some (Value.int IntKind.i64 n18) ∧ World.cell? w9 (Addr.add (Addr.add ad17 (Int.toNat n8 * 2)) 1)
  = some (Value.bool b19) ∧ True) ∧ ∀ (k20 : Nat), BodyOk Proofs.Try.prog del ∧ ∀ (w21 : World), Step w9 w21 [] [k20] → Calls
  Proofs.Try.prog del { toList := Value.agg { toList := List.take 2 (List.drop 0 (sets [Value.int IntKind.i64 (0 : Int), Value.bool false] 0 [Value.int IntKind.i64 n18, Value.bool b19])) } :: List.append [] (Array.toList delcap) }
  w21 fun (e23 : Ending) (w24 : World) => ∃ (b25 : Bool), e23 = Ending.returned (Value.bool b25) ∧ Keep [k20] w21 w24 ∧ bcase (!b25) (∃
  (ad26 : Addr), sA = some ad26 ∧ ((0 : Int) ≤ n7 ∧ n7 < (sL : Int)) ∧ ∃ (l27 : List Value), Blk w24 (Addr.block (Addr.add ad26 (Int.toNat
  n7 * 2))) l27 ∧ Addr.spot (Addr.add ad26 (Int.toNat n7 * 2)) = none ∧ Addr.off (Addr.add ad26 (Int.toNat n7 * 2)) + List.length (List.take
  2 (List.drop 0 (sets [Value.int IntKind.i64 (0 : Int), Value.bool false] 0 [Value.int IntKind.i64 n18, Value.bool b19]))) ≤ List.length
  l27 ∧ ¬Addr.block (Addr.add ad26 (Int.toNat n7 * 2)) ∈ [k20] ∧ ∀ (w28 : World), Upd w24 w28 (Addr.block (Addr.add ad26 (Int.toNat n7 *
  2))) (sets l27 (Addr.off (Addr.add ad26 (Int.toNat n7 * 2))) (List.take 2 (List.drop 0 (sets [Value.int IntKind.i64 (0 : Int), Value.bool
  false] 0 [Value.int IntKind.i64 n18, Value.bool b19])))) → y11 (IntKind.wrap IntKind.i64 (n7 + (1 : Int))) w28) (y11 n7 w24)) (((0 : Int)
  ≤ n7 ∧ n7 ≤ (sL : Int) ∧ (sL : Int) ≤ (sC : Int)) ∧ (Int.toNat (sL : Int) - Int.toNat n7 = 0 ∧ ((0 : Int) ≤ (0 : Int) ∧ (0 : Int) ≤ n7 ∧
  n7 ≤ (sC : Int)) ∧ R (Ending.returned (Value.slice (subA sA 0 sC 2) (Int.toNat n7 - 0) (sC - 0))) w9 ∨ ∃ (ad30 : Addr), ∃ (l31 : List
  Value), subA sA (Int.toNat n7) sC 2 = some ad30 ∧ Addr.spot ad30 = none ∧ Blk w9 (Addr.block ad30) l31 ∧ Addr.off ad30 + (Int.toNat (sL :
  Int) - Int.toNat n7) * 2 ≤ List.length l31 ∧ ¬Addr.block ad30 ∈ [] ∧ ∀ (w32 : World), Upd w9 w32 (Addr.block ad30) (sets l31 (Addr.off
  ad30) (reps [Value.int IntKind.i64 (0 : Int), Value.bool false] (Int.toNat (sL : Int) - Int.toNat n7))) → ((0 : Int) ≤ (0 : Int) ∧ (0 :
  Int) ≤ n7 ∧ n7 ≤ (sC : Int)) ∧ R (Ending.returned (Value.slice (subA sA 0 sC 2) (Int.toNat n7 - 0) (sC - 0))) w32)))

theorem slices_DeleteFunc_g.link {sA : Option Addr} {sL sC : Nat} {del : Nat} {delcap : Array Value} {R : Ending → World → Prop} {w : World} (h : slices_DeleteFunc_g.vc sA sL sC del delcap R w) : Calls Go.Proofs.Try.prog 31 #[.slice sA sL sC, .func (.func del) #[] delcap] w R :=
  calls_of pf (fn := Go.Proofs.Try.f31) (ann := .s (.n) (.s (.n) (.s (.s (.n) (.c (.s (.n) (.n)) (.n))) (.s (.s (.n) (.b (.l ⟨[], [], [], [(5, .l (.i .i64)), (6, .l (.i .i64))], []⟩ (.s (.s (.n) (.c (.n) (.n))) (.j ⟨[], [], [], [(5, .l (.i .i64))], []⟩ (.b (.s (.n) (.s (.n) (.c (.s (.n) (.n)) (.n))))) (.n)))))) (.s (.n) (.s (.n) (.n))))))) (mp := false) (args := [.v (.slice sA sL sC), .v (.func (.func del) #[] delcap)]) Go.Proofs.Try.func31 (c := Go.Proofs.Try.f31.body.getD .skip) (by kernel_rfl) (by kernel_rfl) (Eq.mp (by kernel_rfl) h)
theorem slices_DeleteFunc_g.body : BodyOk Go.Proofs.Try.prog 31 := ⟨Go.Proofs.Try.f31, Go.Proofs.Try.func31, by kernel_rfl, pf.ng _ _ Go.Proofs.Try.func31⟩

/-! ### (*rhizome/lock.Table).Release_1: function 29 -/
def lock_Table_Release_1.vc (as0 : Int) (aalone : Bool) (f0P : Addr) (R : Ending → World → Prop) (w : World) : Prop := ∀ (k1 : Nat), ∃ (n2 :
  Int), World.cell? w f0P = some (Value.int IntKind.i64 n2) ∧ ∀ (w3 : World), Step w w3 [] [k1] → R (Ending.returned (Value.bool (decide
  (as0 = n2)))) w3

theorem lock_Table_Release_1.link {as0 : Int} {aalone : Bool} {f0P : Addr} {R : Ending → World → Prop} {w : World} (h : lock_Table_Release_1.vc as0 aalone f0P R w) : Calls Go.Proofs.Try.prog 29 #[(.agg #[.int .i64 as0, .bool aalone] : Value), .pointer (some f0P)] w R :=
  calls_of pf (fn := Go.Proofs.Try.f29) (ann := .s (.n) (.s (.n) (.n))) (mp := false) (args := [.v (.agg #[.int .i64 as0, .bool aalone]), .a f0P]) Go.Proofs.Try.func29 (c := Go.Proofs.Try.f29.body.getD .skip) (by kernel_rfl) (by kernel_rfl) (Eq.mp (by kernel_rfl) h)
theorem lock_Table_Release_1.body : BodyOk Go.Proofs.Try.prog 29 := ⟨Go.Proofs.Try.f29, Go.Proofs.Try.func29, by kernel_rfl, pf.ng _ _ Go.Proofs.Try.func29⟩

/-! ### slices.Insert[[]rhizome/lock.ask,rhizome/lock.ask]: function 26 -/
def slices_Insert_g.vc (sA : Option Addr) (sL sC : Nat) (i : Int) (vA : Option Addr) (vL vC : Nat) (R : Ending → World → Prop) (w : World) :
  Prop := ((0 : Int) ≤ i ∧ i ≤ (sL : Int) ∧ (sL : Int) ≤ (sC : Int)) ∧ bcase (decide ((vL : Int) = (0 : Int))) (R (Ending.returned
  (Value.slice sA sL sC)) w) (bcase (decide (i = (sL : Int))) (∃ (l1 : List Value), List.length l1 = vL * 2 ∧ Row w vA l1 ∧ appendP true []
  [] [] w sA sL sC vL l1 2 16 [Value.int IntKind.i64 (0 : Int), Value.bool false] fun (w2 : World) (p3 : Option Addr) (k4 k5 : Nat) => R
  (Ending.returned (Value.slice p3 k4 k5)) w2) (bcase (decide ((sC : Int) < IntKind.wrap IntKind.i64 ((sL : Int) + (vL : Int)))) (((0 : Int)
  ≤ (0 : Int) ∧ (0 : Int) ≤ i ∧ i ≤ (sC : Int)) ∧ ((0 : Int) ≤ IntKind.wrap IntKind.i64 (IntKind.wrap IntKind.i64 ((sL : Int) + (vL : Int))
  - i) ∧ IntKind.wrap IntKind.i64 (IntKind.wrap IntKind.i64 ((sL : Int) + (vL : Int)) - i) * ((16 : Nat) : Int) ≤ (281474976710656 : Int) ∧
  IntKind.wrap IntKind.i64 (IntKind.wrap IntKind.i64 ((sL : Int) + (vL : Int)) - i) ≤ (9223372036854775807 : Int)) ∧ appendP true [] [] [] w
  (subA sA 0 sC 2) (Int.toNat i - 0) (sC - 0) (Int.toNat (IntKind.wrap IntKind.i64 (IntKind.wrap IntKind.i64 ((sL : Int) + (vL : Int)) -
  i))) (reps [Value.int IntKind.i64 (0 : Int), Value.bool false] (Int.toNat (IntKind.wrap IntKind.i64 (IntKind.wrap IntKind.i64 ((sL : Int)
  + (vL : Int)) - i)))) 2 16 [Value.int IntKind.i64 (0 : Int), Value.bool false] fun (w6 : World) (p7 : Option Addr) (k8 k9 : Nat) => ((0 :
  Int) ≤ i ∧ i ≤ (k8 : Int) ∧ (k8 : Int) ≤ (k9 : Int)) ∧ copyP true [] [] [] w6 (subA p7 (Int.toNat i) k9 2) (Int.toNat (k8 : Int) -
  Int.toNat i) vA vL 2 fun (w10 : World) (k11 : Nat) => ((0 : Int) ≤ IntKind.wrap IntKind.i64 (i + (vL : Int)) ∧ IntKind.wrap IntKind.i64 (i
  + (vL : Int)) ≤ (k8 : Int) ∧ (k8 : Int) ≤ (k9 : Int)) ∧ ((0 : Int) ≤ i ∧ i ≤ (sL : Int) ∧ (sL : Int) ≤ (sC : Int)) ∧ copyP false [] [] []
  w10 (subA p7 (Int.toNat (IntKind.wrap IntKind.i64 (i + (vL : Int)))) k9 2) (Int.toNat (k8 : Int) - Int.toNat (IntKind.wrap IntKind.i64 (i
  + (vL : Int)))) (subA sA (Int.toNat i) sC 2) (Int.toNat (sL : Int) - Int.toNat i) 2 fun (w12 : World) (k13 : Nat) => R (Ending.returned
  (Value.slice p7 k8 k9)) w12) (((0 : Int) ≤ (0 : Int) ∧ (0 : Int) ≤ IntKind.wrap IntKind.i64 ((sL : Int) + (vL : Int)) ∧ IntKind.wrap
  IntKind.i64 ((sL : Int) + (vL : Int)) ≤ (sC : Int)) ∧ ((0 : Int) ≤ IntKind.wrap IntKind.i64 (i + (vL : Int)) ∧ IntKind.wrap IntKind.i64 (i
  + (vL : Int)) ≤ ((Int.toNat (IntKind.wrap IntKind.i64 ((sL : Int) + (vL : Int))) - 0 : Nat) : Int) ∧ ((Int.toNat (IntKind.wrap IntKind.i64
  ((sL : Int) + (vL : Int))) - 0 : Nat) : Int) ≤ ((sC - 0 : Nat) : Int)) ∧ ∃ (b14 : Bool), ∃ (w15 : World), Sem.run Proofs.Try.prog
  (callFunc 43 { toList := [Value.slice vA vL vC, Value.slice (subA (subA sA 0 sC 2) (Int.toNat (IntKind.wrap IntKind.i64 (i + (vL : Int)))) (sC - 0) 2) (Int.toNat ((Int.toNat (IntKind.wrap IntKind.i64 ((sL : Int) + (vL : Int))) - 0 : Nat) : Int) - Int.toNat (IntKind.wrap IntKind.i64 (i + (vL : Int)))) (sC - 0 - Int.toNat (IntKind.wrap IntKind.i64 (i + (vL : Int))))] })
  w = Result.ok (Next.value (Value.bool b14)) w15 ∧ bcase (!b14) (((0 : Int) ≤ IntKind.wrap IntKind.i64 (i + (vL : Int)) ∧ IntKind.wrap
  IntKind.i64 (i + (vL : Int)) ≤ ((Int.toNat (IntKind.wrap IntKind.i64 ((sL : Int) + (vL : Int))) - 0 : Nat) : Int) ∧ ((Int.toNat
  (IntKind.wrap IntKind.i64 ((sL : Int) + (vL : Int))) - 0 : Nat) : Int) ≤ ((sC - 0 : Nat) : Int)) ∧ ((0 : Int) ≤ i ∧ i ≤ ((Int.toNat
  (IntKind.wrap IntKind.i64 ((sL : Int) + (vL : Int))) - 0 : Nat) : Int) ∧ ((Int.toNat (IntKind.wrap IntKind.i64 ((sL : Int) + (vL : Int)))
  - 0 : Nat) : Int) ≤ ((sC - 0 : Nat) : Int)) ∧ copyP false [] [] [] w15 (subA (subA sA 0 sC 2) (Int.toNat (IntKind.wrap IntKind.i64 (i +
  (vL : Int)))) (sC - 0) 2) (Int.toNat ((Int.toNat (IntKind.wrap IntKind.i64 ((sL : Int) + (vL : Int))) - 0 : Nat) : Int) - Int.toNat
  (IntKind.wrap IntKind.i64 (i + (vL : Int)))) (subA (subA sA 0 sC 2) (Int.toNat i) (sC - 0) 2) (Int.toNat ((Int.toNat (IntKind.wrap
  IntKind.i64 ((sL : Int) + (vL : Int))) - 0 : Nat) : Int) - Int.toNat i) 2 fun (w16 : World) (k17 : Nat) => ((0 : Int) ≤ i ∧ i ≤
  ((Int.toNat (IntKind.wrap IntKind.i64 ((sL : Int) + (vL : Int))) - 0 : Nat) : Int) ∧ ((Int.toNat (IntKind.wrap IntKind.i64 ((sL : Int) +
  (vL : Int))) - 0 : Nat) : Int) ≤ ((sC - 0 : Nat) : Int)) ∧ copyP true [] [] [] w16 (subA (subA sA 0 sC 2) (Int.toNat i) (sC - 0) 2)
  (Int.toNat ((Int.toNat (IntKind.wrap IntKind.i64 ((sL : Int) + (vL : Int))) - 0 : Nat) : Int) - Int.toNat i) vA vL 2 fun (w18 : World)
  (k19 : Nat) => R (Ending.returned (Value.slice (subA sA 0 sC 2) (Int.toNat (IntKind.wrap IntKind.i64 ((sL : Int) + (vL : Int))) - 0) (sC -
  0))) w18) (((0 : Int) ≤ (sL : Int) ∧ (sL : Int) ≤ ((Int.toNat (IntKind.wrap IntKind.i64 ((sL : Int) + (vL : Int))) - 0 : Nat) : Int) ∧
  ((Int.toNat (IntKind.wrap IntKind.i64 ((sL : Int) + (vL : Int))) - 0 : Nat) : Int) ≤ ((sC - 0 : Nat) : Int)) ∧ copyP true [] [] [] w15
  (subA (subA sA 0 sC 2) (Int.toNat (sL : Int)) (sC - 0) 2) (Int.toNat ((Int.toNat (IntKind.wrap IntKind.i64 ((sL : Int) + (vL : Int))) - 0
  : Nat) : Int) - Int.toNat (sL : Int)) vA vL 2 fun (w20 : World) (k21 : Nat) => ((0 : Int) ≤ i ∧ i ≤ ((Int.toNat (IntKind.wrap IntKind.i64
  ((sL : Int) + (vL : Int))) - 0 : Nat) : Int) ∧ ((Int.toNat (IntKind.wrap IntKind.i64 ((sL : Int) + (vL : Int))) - 0 : Nat) : Int) ≤ ((sC -
  0 : Nat) : Int)) ∧ Calls Proofs.Try.prog (44 : Nat) { toList := [Value.slice (subA (subA sA 0 sC 2) (Int.toNat i) (sC - 0) 2) (Int.toNat ((Int.toNat (IntKind.wrap IntKind.i64 ((sL : Int) + (vL : Int))) - 0 : Nat) : Int) - Int.toNat i) (sC - 0 - Int.toNat i), Value.int IntKind.i64 (vL : Int)] }
  w20 fun (e22 : Ending) (w23 : World) => e22 = Ending.returned (Value.tuple { toList := [] }) ∧ R (Ending.returned (Value.slice (subA sA 0
  sC 2) (Int.toNat (IntKind.wrap IntKind.i64 ((sL : Int) + (vL : Int))) - 0) (sC - 0))) w23))))

theorem slices_Insert_g.link {sA : Option Addr} {sL sC : Nat} {i : Int} {vA : Option Addr} {vL vC : Nat} {R : Ending → World → Prop} {w : World} (h : slices_Insert_g.vc sA sL sC i vA vL vC R w) : Calls Go.Proofs.Try.prog 26 #[.slice sA sL sC, .int .i64 i, .slice vA vL vC] w R :=
  calls_of pf (fn := Go.Proofs.Try.f26) (ann := .s (.n) (.s (.n) (.s (.n) (.s (.s (.n) (.c (.s (.n) (.n)) (.n))) (.s (.n) (.s (.s (.n) (.c (.s (.n) (.n)) (.n))) (.s (.s (.n) (.c (.s (.n) (.s (.n) (.s (.n) (.s (.n) (.n))))) (.n))) (.s (.n) (.s (.s (.n) (.c (.s (.n) (.s (.n) (.s (.n) (.n)))) (.n))) (.s (.n) (.s (.n) (.s (.n) (.n))))))))))))) (mp := false) (args := [.v (.slice sA sL sC), .v (.int .i64 i), .v (.slice vA vL vC)]) Go.Proofs.Try.func26 (c := Go.Proofs.Try.f26.body.getD .skip) (by kernel_rfl) (by kernel_rfl) (Eq.mp (by kernel_rfl) h)
theorem slices_Insert_g.body : BodyOk Go.Proofs.Try.prog 26 := ⟨Go.Proofs.Try.f26, Go.Proofs.Try.func26, by kernel_rfl, pf.ng _ _ Go.Proofs.Try.func26⟩

end Go.Proofs.Ytnimejocaaekaaa.VC
