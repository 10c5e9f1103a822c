/- What is to be shown of functions' texts, printed by a program of this session's repo; that it gives the functions' contracts is checked by the kernel. -/
import Derived.Test.YtnplopiconabiaaProg
import Derived.Test.YtnplopiconabiaaPf
namespace Go.Proofs.Ytnplopiconabiaa.VC
open Go Go.V
set_option maxRecDepth 1000000
set_option linter.unusedVariables false

/-! ### slices.DeleteFunc[[]rhizome/dred.pair,rhizome/dred.pair]: function 80 -/
def slices_DeleteFunc_g80.vc (sA : Option Addr) (sL sC : Nat) (del : Nat) (delcap : Array Value) (R : Ending → World → Prop) (w : World) :
  Prop := Calls Proofs.Try.prog (98 : Nat) { toList := [Value.slice sA sL sC, Value.func (Fn.func del) { toList := [] } delcap] } w fun (e1
  : Ending) (w2 : World) => ∃ (n3 : Int), e1 = Ending.returned (Value.int IntKind.i64 n3) ∧ bcase (decide (n3 = (-1 : Int))) (R
  (Ending.returned (Value.slice sA sL sC)) w2) (∃ (y4 : Nat → Int → Int → World → Prop), ∃ (k5 : Nat), y4 k5 n3 (IntKind.wrap IntKind.i64
  (n3 + (1 : Int))) w2 ∧ ∀ (k6 : Nat) (n7 n8 : Int) (w9 : World), y4 k6 n7 n8 w9 → bcase (decide (n8 < (sL : Int))) (∀ (y11 : Int → World →
  Prop), (∀ (n12 : Int) (w13 : World), (∃ (k14 : Nat), k14 < k6 ∧ y4 k14 n12 (IntKind.wrap IntKind.i64 (n8 + (1 : Int))) w13) → y11 n12 w13)
  → ∃ (ad17 : Addr), sA = some ad17 ∧ ((0 : Int) ≤ n8 ∧ n8 < (sL : Int)) ∧ ∃ (n18 : Int), ∃ (n19 : Int), (World.cell? w9 (Addr.add (Addr.add
  ad17 (Int.toNat n8 * 2)) 0) = some (Value.int IntKind.i64 n18) ∧ World.cell? w9 (Addr.add (Addr.add ad17 (Int.toNat n8 * 2)) 1) = some
  (Value.int IntKind.i64 n19) ∧ True) ∧ ∀ (k20 : Nat), BodyOk Proofs.Try.prog del ∧ ∀ (w21 : World), Step w9 w21 [] [k20] → Calls
  Proofs.Try.prog del { toList := Value.agg { toList := List.take 2 (List.drop 0 (sets [Value.int IntKind.i64 (0 : Int), Value.int IntKind.i64 (0 : Int)] 0 [Value.int IntKind.i64 n18, Value.int IntKind.i64 n19])) } :: List.append [] (Array.toList delcap) }
  w21 fun (e23 : Ending) (w24 : World) => ∃ (b25 : Bool), e23 = Ending.returned (Value.bool b25) ∧ Keep [k20] w21 w24 ∧ bcase (!b25) (∃
  (ad26 : Addr), sA = some ad26 ∧ ((0 : Int) ≤ n7 ∧ n7 < (sL : Int)) ∧ ∃ (l27 : List Value), Blk w24 (Addr.block (Addr.add ad26 (Int.toNat
  n7 * 2))) l27 ∧ Addr.spot (Addr.add ad26 (Int.toNat n7 * 2)) = none ∧ Addr.off (Addr.add ad26 (Int.toNat n7 * 2)) + List.length (List.take
  2 (List.drop 0 (sets [Value.int IntKind.i64 (0 : Int), Value.int IntKind.i64 (0 : Int)] 0 [Value.int IntKind.i64 n18, Value.int
  IntKind.i64 n19]))) ≤ List.length l27 ∧ ¬Addr.block (Addr.add ad26 (Int.toNat n7 * 2)) ∈ [k20] ∧ ∀ (w28 : World), Upd w24 w28 (Addr.block
  (Addr.add ad26 (Int.toNat n7 * 2))) (sets l27 (Addr.off (Addr.add ad26 (Int.toNat n7 * 2))) (List.take 2 (List.drop 0 (sets [Value.int
  IntKind.i64 (0 : Int), Value.int IntKind.i64 (0 : Int)] 0 [Value.int IntKind.i64 n18, Value.int IntKind.i64 n19])))) → y11 (IntKind.wrap
  IntKind.i64 (n7 + (1 : Int))) w28) (y11 n7 w24)) (((0 : Int) ≤ n7 ∧ n7 ≤ (sL : Int) ∧ (sL : Int) ≤ (sC : Int)) ∧ (Int.toNat (sL : Int) -
  Int.toNat n7 = 0 ∧ ((0 : Int) ≤ (0 : Int) ∧ (0 : Int) ≤ n7 ∧ n7 ≤ (sC : Int)) ∧ R (Ending.returned (Value.slice (subA sA 0 sC 2)
  (Int.toNat n7 - 0) (sC - 0))) w9 ∨ ∃ (ad30 : Addr), ∃ (l31 : List Value), subA sA (Int.toNat n7) sC 2 = some ad30 ∧ Addr.spot ad30 = none
  ∧ Blk w9 (Addr.block ad30) l31 ∧ Addr.off ad30 + (Int.toNat (sL : Int) - Int.toNat n7) * 2 ≤ List.length l31 ∧ ¬Addr.block ad30 ∈ [] ∧ ∀
  (w32 : World), Upd w9 w32 (Addr.block ad30) (sets l31 (Addr.off ad30) (reps [Value.int IntKind.i64 (0 : Int), Value.int IntKind.i64 (0 :
  Int)] (Int.toNat (sL : Int) - Int.toNat n7))) → ((0 : Int) ≤ (0 : Int) ∧ (0 : Int) ≤ n7 ∧ n7 ≤ (sC : Int)) ∧ R (Ending.returned
  (Value.slice (subA sA 0 sC 2) (Int.toNat n7 - 0) (sC - 0))) w32)))

theorem slices_DeleteFunc_g80.link {sA : Option Addr} {sL sC : Nat} {del : Nat} {delcap : Array Value} {R : Ending → World → Prop} {w : World} (h : slices_DeleteFunc_g80.vc sA sL sC del delcap R w) : Calls Go.Proofs.Try.prog 80 #[.slice sA sL sC, .func (.func del) #[] delcap] w R :=
  calls_of pf (fn := Go.Proofs.Try.f80) (ann := .s (.n) (.s (.n) (.s (.s (.n) (.c (.s (.n) (.n)) (.n))) (.s (.s (.n) (.b (.l ⟨[], [], [], [(5, .l (.i .i64)), (6, .l (.i .i64))], []⟩ (.s (.s (.n) (.c (.n) (.n))) (.j ⟨[], [], [], [(5, .l (.i .i64))], []⟩ (.b (.s (.n) (.s (.n) (.c (.s (.n) (.n)) (.n))))) (.n)))))) (.s (.n) (.s (.n) (.n))))))) (mp := false) (args := [.v (.slice sA sL sC), .v (.func (.func del) #[] delcap)]) Go.Proofs.Try.func80 (c := Go.Proofs.Try.f80.body.getD .skip) (by kernel_rfl) (by kernel_rfl) (Eq.mp (by kernel_rfl) h)
theorem slices_DeleteFunc_g80.body : BodyOk Go.Proofs.Try.prog 80 := ⟨Go.Proofs.Try.f80, Go.Proofs.Try.func80, by kernel_rfl, pf.ng _ _ Go.Proofs.Try.func80⟩

/-! ### slices.IndexFunc[[]rhizome/dred.pair,rhizome/dred.pair]: function 98 -/
def slices_IndexFunc_g98.vc (sA : Option Addr) (sL sC : Nat) (f : Nat) (fcap : Array Value) (R : Ending → World → Prop) (w : World) : Prop
  := ∃ (y1 : Nat → Int → World → Prop), ∃ (k2 : Nat), y1 k2 (0 : Int) w ∧ ∀ (k3 : Nat) (n4 : Int) (w5 : World), y1 k3 n4 w5 → bcase (decide
  (n4 < (sL : Int))) (∃ (ad7 : Addr), sA = some ad7 ∧ ((0 : Int) ≤ n4 ∧ n4 < (sL : Int)) ∧ ∃ (n8 : Int), ∃ (n9 : Int), (World.cell? w5
  (Addr.add (Addr.add ad7 (Int.toNat n4 * 2)) 0) = some (Value.int IntKind.i64 n8) ∧ World.cell? w5 (Addr.add (Addr.add ad7 (Int.toNat n4 *
  2)) 1) = some (Value.int IntKind.i64 n9) ∧ True) ∧ BodyOk Proofs.Try.prog f ∧ Calls Proofs.Try.prog f { toList := Value.agg { toList := [Value.int IntKind.i64 n8, Value.int IntKind.i64 n9] } :: List.append [] (Array.toList fcap) }
  w5 fun (e10 : Ending) (w11 : World) => ∃ (b12 : Bool), e10 = Ending.returned (Value.bool b12) ∧ bcase b12 (R (Ending.returned (Value.int
  IntKind.i64 n4)) w11) (∃ (k13 : Nat), k13 < k3 ∧ y1 k13 (IntKind.wrap IntKind.i64 (n4 + (1 : Int))) w11)) (R (Ending.returned (Value.int
  IntKind.i64 (-1 : Int))) w5)

theorem slices_IndexFunc_g98.link {sA : Option Addr} {sL sC : Nat} {f : Nat} {fcap : Array Value} {R : Ending → World → Prop} {w : World} (h : slices_IndexFunc_g98.vc sA sL sC f fcap R w) : Calls Go.Proofs.Try.prog 98 #[.slice sA sL sC, .func (.func f) #[] fcap] w R :=
  calls_of pf (fn := Go.Proofs.Try.f98) (ann := .s (.n) (.s (.s (.n) (.b (.l ⟨[], [], [], [(8, .l (.i .i64))], []⟩ (.s (.n) (.s (.c (.n) (.n)) (.s (.b (.s (.n) (.s (.n) (.c (.s (.n) (.n)) (.n))))) (.n))))))) (.s (.n) (.n)))) (mp := false) (args := [.v (.slice sA sL sC), .v (.func (.func f) #[] fcap)]) Go.Proofs.Try.func98 (c := Go.Proofs.Try.f98.body.getD .skip) (by kernel_rfl) (by kernel_rfl) (Eq.mp (by kernel_rfl) h)
theorem slices_IndexFunc_g98.body : BodyOk Go.Proofs.Try.prog 98 := ⟨Go.Proofs.Try.f98, Go.Proofs.Try.func98, by kernel_rfl, pf.ng _ _ Go.Proofs.Try.func98⟩

/-! ### slices.Delete[[]rhizome/dred.pair,rhizome/dred.pair]: function 83 -/
def slices_Delete_g83.vc (sA : Option Addr) (sL sC : Nat) (i : Int) (j : Int) (R : Ending → World → Prop) (w : World) : Prop := ((0 : Int) ≤
  i ∧ i ≤ j ∧ j ≤ (sL : Int) ∧ (sL : Int) ≤ (sC : Int)) ∧ bcase (decide (i = j)) (R (Ending.returned (Value.slice sA sL sC)) w) (((0 : Int)
  ≤ (0 : Int) ∧ (0 : Int) ≤ i ∧ i ≤ (sC : Int)) ∧ ((0 : Int) ≤ j ∧ j ≤ (sL : Int) ∧ (sL : Int) ≤ (sC : Int)) ∧ ∃ (l1 : List Value),
  List.length l1 = (Int.toNat (sL : Int) - Int.toNat j) * 2 ∧ Row w (subA sA (Int.toNat j) sC 2) l1 ∧ appendP false [] [] [] w (subA sA 0 sC
  2) (Int.toNat i - 0) (sC - 0) (Int.toNat (sL : Int) - Int.toNat j) l1 2 16 [Value.int IntKind.i64 (0 : Int), Value.int IntKind.i64 (0 :
  Int)] fun (w2 : World) (p3 : Option Addr) (k4 k5 : Nat) => ((0 : Int) ≤ (k4 : Int) ∧ (k4 : Int) ≤ (sL : Int) ∧ (sL : Int) ≤ (k5 : Int)) ∧
  (Int.toNat (sL : Int) - Int.toNat (k4 : Int) = 0 ∧ R (Ending.returned (Value.slice p3 k4 k5)) w2 ∨ ∃ (ad6 : Addr), ∃ (l7 : List Value),
  subA p3 (Int.toNat (k4 : Int)) k5 2 = some ad6 ∧ Addr.spot ad6 = none ∧ Blk w2 (Addr.block ad6) l7 ∧ Addr.off ad6 + (Int.toNat (sL : Int)
  - Int.toNat (k4 : Int)) * 2 ≤ List.length l7 ∧ ¬Addr.block ad6 ∈ [] ∧ ∀ (w8 : World), Upd w2 w8 (Addr.block ad6) (sets l7 (Addr.off ad6)
  (reps [Value.int IntKind.i64 (0 : Int), Value.int IntKind.i64 (0 : Int)] (Int.toNat (sL : Int) - Int.toNat (k4 : Int)))) → R
  (Ending.returned (Value.slice p3 k4 k5)) w8))

theorem slices_Delete_g83.link {sA : Option Addr} {sL sC : Nat} {i : Int} {j : Int} {R : Ending → World → Prop} {w : World} (h : slices_Delete_g83.vc sA sL sC i j R w) : Calls Go.Proofs.Try.prog 83 #[.slice sA sL sC, .int .i64 i, .int .i64 j] w R :=
  calls_of pf (fn := Go.Proofs.Try.f83) (ann := .s (.n) (.s (.n) (.s (.s (.n) (.c (.s (.n) (.n)) (.n))) (.s (.n) (.s (.n) (.s (.n) (.s (.n) (.n)))))))) (mp := false) (args := [.v (.slice sA sL sC), .v (.int .i64 i), .v (.int .i64 j)]) Go.Proofs.Try.func83 (c := Go.Proofs.Try.f83.body.getD .skip) (by kernel_rfl) (by kernel_rfl) (Eq.mp (by kernel_rfl) h)
theorem slices_Delete_g83.body : BodyOk Go.Proofs.Try.prog 83 := ⟨Go.Proofs.Try.f83, Go.Proofs.Try.func83, by kernel_rfl, pf.ng _ _ Go.Proofs.Try.func83⟩

/-! ### slices.Index[[]rhizome/dred.pair,rhizome/dred.pair]: function 78 -/
def slices_Index_g78.vc (sA : Option Addr) (sL sC : Nat) (v0 : Int) (v1 : Int) (R : Ending → World → Prop) (w : World) : Prop := ∀ (k1 :
  Nat), ∃ (y2 : Nat → Int → World → Prop), ∃ (k3 : Nat), (∀ (w4 : World), Step w w4 [] [k1] → y2 k3 (0 : Int) w4) ∧ ∀ (k6 : Nat) (n7 : Int)
  (w8 : World), y2 k6 n7 w8 → bcase (decide (n7 < (sL : Int))) (∃ (ad10 : Addr), sA = some ad10 ∧ ((0 : Int) ≤ n7 ∧ n7 < (sL : Int)) ∧ ∃
  (n11 : Int), ∃ (n12 : Int), (World.cell? w8 (Addr.add (Addr.add ad10 (Int.toNat n7 * 2)) 0) = some (Value.int IntKind.i64 n11) ∧
  World.cell? w8 (Addr.add (Addr.add ad10 (Int.toNat n7 * 2)) 1) = some (Value.int IntKind.i64 n12) ∧ True) ∧ bcase (conj [decide (v0 =
  n11), decide (v1 = n12)]) (∀ (w13 : World), Step w8 w13 [] [] → R (Ending.returned (Value.int IntKind.i64 n7)) w13) (∃ (k15 : Nat), k15 <
  k6 ∧ ∀ (w16 : World), Step w8 w16 [] [] → y2 k15 (IntKind.wrap IntKind.i64 (n7 + (1 : Int))) w16)) (R (Ending.returned (Value.int
  IntKind.i64 (-1 : Int))) w8)

theorem slices_Index_g78.link {sA : Option Addr} {sL sC : Nat} {v0 : Int} {v1 : Int} {R : Ending → World → Prop} {w : World} (h : slices_Index_g78.vc sA sL sC v0 v1 R w) : Calls Go.Proofs.Try.prog 78 #[.slice sA sL sC, (.agg #[.int .i64 v0, .int .i64 v1] : Value)] w R :=
  calls_of pf (fn := Go.Proofs.Try.f78) (ann := .s (.n) (.s (.s (.n) (.b (.l ⟨[], [], [0], [(8, .l (.i .i64))], []⟩ (.s (.n) (.s (.c (.n) (.n)) (.s (.b (.s (.n) (.s (.d [0]) (.c (.s (.n) (.n)) (.n))))) (.n))))))) (.s (.n) (.n)))) (mp := false) (args := [.v (.slice sA sL sC), .v (.agg #[.int .i64 v0, .int .i64 v1])]) Go.Proofs.Try.func78 (c := Go.Proofs.Try.f78.body.getD .skip) (by kernel_rfl) (by kernel_rfl) (Eq.mp (by kernel_rfl) h)
theorem slices_Index_g78.body : BodyOk Go.Proofs.Try.prog 78 := ⟨Go.Proofs.Try.f78, Go.Proofs.Try.func78, by kernel_rfl, pf.ng _ _ Go.Proofs.Try.func78⟩

/-! ### slices.Contains[[]rhizome/dred.pair,rhizome/dred.pair]: function 56 -/
def slices_Contains_g56.vc (sA : Option Addr) (sL sC : Nat) (v0 : Int) (v1 : Int) (R : Ending → World → Prop) (w : World) : Prop := ∀ (k1 :
  Nat) (w2 : World), Step w w2 [] [k1] → Calls Proofs.Try.prog (78 : Nat) { toList := [Value.slice sA sL sC, Value.agg { toList := [Value.int IntKind.i64 v0, Value.int IntKind.i64 v1] }] }
  w2 fun (e4 : Ending) (w5 : World) => ∃ (n6 : Int), e4 = Ending.returned (Value.int IntKind.i64 n6) ∧ Keep [k1] w2 w5 ∧ R (Ending.returned
  (Value.bool (decide ((0 : Int) ≤ n6)))) w5

theorem slices_Contains_g56.link {sA : Option Addr} {sL sC : Nat} {v0 : Int} {v1 : Int} {R : Ending → World → Prop} {w : World} (h : slices_Contains_g56.vc sA sL sC v0 v1 R w) : Calls Go.Proofs.Try.prog 56 #[.slice sA sL sC, (.agg #[.int .i64 v0, .int .i64 v1] : Value)] w R :=
  calls_of pf (fn := Go.Proofs.Try.f56) (ann := .s (.n) (.s (.n) (.n))) (mp := false) (args := [.v (.slice sA sL sC), .v (.agg #[.int .i64 v0, .int .i64 v1])]) Go.Proofs.Try.func56 (c := Go.Proofs.Try.f56.body.getD .skip) (by kernel_rfl) (by kernel_rfl) (Eq.mp (by kernel_rfl) h)
theorem slices_Contains_g56.body : BodyOk Go.Proofs.Try.prog 56 := ⟨Go.Proofs.Try.f56, Go.Proofs.Try.func56, by kernel_rfl, pf.ng _ _ Go.Proofs.Try.func56⟩

end Go.Proofs.Ytnplopiconabiaa.VC
