/- What is to be shown of functions' texts, printed by a program of this session's repo; that it gives the functions' contracts is checked by the kernel. -/
import Derived.Test.YtnplopiconabiaaProg
import Derived.Test.YtnplopiconabiaaPf
namespace Go.Proofs.Ytnplopiconabiaa.VC
open Go Go.V
set_option maxRecDepth 1000000
set_option linter.unusedVariables false

/-! ### rhizome/tuple.own: function 61 -/
def tuple_own.vc (lA : Option Addr) (lL lC : Nat) (R : Ending → World → Prop) (w : World) : Prop := ((0 : Int) ≤ (0 : Int) ∧ (0 : Int) ≤ (lL
  : Int) ∧ ((24 : Nat) : Int) * (lL : Int) ≤ (281474976710656 : Int) ∧ (lL : Int) ≤ (281474976710656 : Int)) ∧ ∀ (w1 : World) (k2 : Nat),
  Step w w1 [] [k2] → (Blk w1 k2 (reps [Value.slice none 0 0] (Int.toNat (lL : Int))) ∧ ∀ (y4 : Array Value) (k5 k6 k7 : Nat), (World.heap
  w1)[k2]? = some (Obj.cells y4 k5 (k6, k7)) → k7 ≤ k6) → ∃ (y10 : Nat → Option Addr → Nat → Nat → Int → World → Prop), ∃ (k11 : Nat), y10
  k11 (some { block := k2, off := 0 }) 0 (Int.toNat (lL : Int)) (0 : Int) w1 ∧ ∀ (k12 : Nat) (p13 : Option Addr) (k14 k15 : Nat) (n16 : Int)
  (w17 : World), y10 k12 p13 k14 k15 n16 w17 → bcase (decide (n16 < (lL : Int))) (∃ (ad19 : Addr), lA = some ad19 ∧ ((0 : Int) ≤ n16 ∧ n16 <
  (lL : Int)) ∧ ∃ (p20 : Option Addr), ∃ (k21 : Nat), ∃ (k22 : Nat), World.cell? w17 (Addr.add ad19 (Int.toNat n16 * 1)) = some (Value.slice
  p20 k21 k22) ∧ Calls Proofs.Try.prog (86 : Nat) { toList := [Value.slice p20 k21 k22] } w17 fun (e23 : Ending) (w24 : World) => ∃ (p25 :
  Option Addr), ∃ (k26 : Nat), ∃ (k27 : Nat), e23 = Ending.returned (Value.slice p25 k26 k27) ∧ Calls Proofs.Try.prog (85 : Nat) { toList := [Value.slice p25 k26 k27] }
  w24 fun (e28 : Ending) (w29 : World) => ∃ (p30 : Option Addr), ∃ (k31 : Nat), ∃ (k32 : Nat), e28 = Ending.returned (Value.slice p30 k31
  k32) ∧ ∀ (k33 : Nat), appendP false [] [k33] [k33] w29 p13 k14 k15 1 (spl (reps [Value.slice none 0 0] 1) 0 [Value.slice p30 k31 k32]) 1
  24 [Value.slice none 0 0] fun (w34 : World) (p35 : Option Addr) (k36 k37 : Nat) => ∃ (k38 : Nat), k38 < k12 ∧ y10 k38 p35 k36 k37
  (IntKind.wrap IntKind.i64 (n16 + (1 : Int))) w34) (R (Ending.returned (Value.slice p13 k14 k15)) w17)

theorem tuple_own.link {lA : Option Addr} {lL lC : Nat} {R : Ending → World → Prop} {w : World} (h : tuple_own.vc lA lL lC R w) : Calls Go.Proofs.Try.prog 61 #[.slice lA lL lC] w R :=
  calls_of pf (fn := Go.Proofs.Try.f61) (ann := .s (.n) (.s (.n) (.s (.s (.n) (.b (.l ⟨[], [], [], [(3, .l (.sl)), (11, .l (.i .i64))], []⟩ (.s (.n) (.s (.c (.n) (.n)) (.s (.b (.s (.n) (.n))) (.n))))))) (.s (.n) (.n))))) (mp := false) (args := [.v (.slice lA lL lC)]) Go.Proofs.Try.func61 (c := Go.Proofs.Try.f61.body.getD .skip) (by kernel_rfl) (by kernel_rfl) (Eq.mp (by kernel_rfl) h)
theorem tuple_own.body : BodyOk Go.Proofs.Try.prog 61 := ⟨Go.Proofs.Try.f61, Go.Proofs.Try.func61, by kernel_rfl, pf.ng _ _ Go.Proofs.Try.func61⟩

/-! ### rhizome/tuple.Set: function 41 -/
def tuple_Set.vc (lA : Option Addr) (lL lC : Nat) (R : Ending → World → Prop) (w : World) : Prop := Calls Proofs.Try.prog (61 : Nat) { toList := [Value.slice lA lL lC] }
  w fun (e1 : Ending) (w2 : World) => ∃ (p3 : Option Addr), ∃ (k4 : Nat), ∃ (k5 : Nat), e1 = Ending.returned (Value.slice p3 k4 k5) ∧ Calls
  Proofs.Try.prog (72 : Nat) { toList := [Value.slice p3 k4 k5, Value.func (Fn.func 73) { toList := [] } { toList := [] }] } w2 fun (e6 :
  Ending) (w7 : World) => e6 = Ending.returned (Value.tuple { toList := [] }) ∧ Calls Proofs.Try.prog (75 : Nat) { toList := [Value.slice p3 k4 k5, Value.func (Fn.func 76) { toList := [] } { toList := [] }] }
  w7 fun (e8 : Ending) (w9 : World) => ∃ (p10 : Option Addr), ∃ (k11 : Nat), ∃ (k12 : Nat), e8 = Ending.returned (Value.slice p10 k11 k12) ∧
  Calls Proofs.Try.prog (74 : Nat) { toList := [Value.slice p10 k11 k12] } w9 fun (e13 : Ending) (w14 : World) => ∃ (p15 : Option Addr), ∃
  (k16 : Nat), ∃ (k17 : Nat), e13 = Ending.returned (Value.slice p15 k16 k17) ∧ R (Ending.returned (Value.slice p15 k16 k17)) w14

theorem tuple_Set.link {lA : Option Addr} {lL lC : Nat} {R : Ending → World → Prop} {w : World} (h : tuple_Set.vc lA lL lC R w) : Calls Go.Proofs.Try.prog 41 #[.slice lA lL lC] w R :=
  calls_of pf (fn := Go.Proofs.Try.f41) (ann := .s (.n) (.s (.n) (.s (.n) (.s (.n) (.n))))) (mp := false) (args := [.v (.slice lA lL lC)]) Go.Proofs.Try.func41 (c := Go.Proofs.Try.f41.body.getD .skip) (by kernel_rfl) (by kernel_rfl) (Eq.mp (by kernel_rfl) h)
theorem tuple_Set.body : BodyOk Go.Proofs.Try.prog 41 := ⟨Go.Proofs.Try.f41, Go.Proofs.Try.func41, by kernel_rfl, pf.ng _ _ Go.Proofs.Try.func41⟩

/-! ### slices.Clip[rhizome/api.Tuple,int]: function 85 -/
def slices_Clip_g85.vc (sA : Option Addr) (sL sC : Nat) (R : Ending → World → Prop) (w : World) : Prop := ((0 : Int) ≤ (0 : Int) ∧ (0 : Int)
  ≤ (sL : Int) ∧ (sL : Int) ≤ (sL : Int) ∧ (sL : Int) ≤ (sC : Int)) ∧ R (Ending.returned (Value.slice (subA sA 0 (Int.toNat (sL : Int)) 1)
  (Int.toNat (sL : Int) - 0) (Int.toNat (sL : Int) - 0))) w

theorem slices_Clip_g85.link {sA : Option Addr} {sL sC : Nat} {R : Ending → World → Prop} {w : World} (h : slices_Clip_g85.vc sA sL sC R w) : Calls Go.Proofs.Try.prog 85 #[.slice sA sL sC] w R :=
  calls_of pf (fn := Go.Proofs.Try.f85) (ann := .s (.n) (.s (.n) (.n))) (mp := false) (args := [.v (.slice sA sL sC)]) Go.Proofs.Try.func85 (c := Go.Proofs.Try.f85.body.getD .skip) (by kernel_rfl) (by kernel_rfl) (Eq.mp (by kernel_rfl) h)
theorem slices_Clip_g85.body : BodyOk Go.Proofs.Try.prog 85 := ⟨Go.Proofs.Try.f85, Go.Proofs.Try.func85, by kernel_rfl, pf.ng _ _ Go.Proofs.Try.func85⟩

/-! ### slices.Clone[rhizome/api.Tuple,int]: function 86 -/
def slices_Clone_g86.vc (sA : Option Addr) (sL sC : Nat) (R : Ending → World → Prop) (w : World) : Prop := bcase (Option.isNone sA) (R
  (Ending.returned (Value.slice none 0 0)) w) (∀ (k1 : Nat) (w2 : World), Step w w2 [] [k1] → Blk w2 k1 (reps [Value.int IntKind.i64 (0 :
  Int)] 0) → ∃ (l5 : List Value), List.length l5 = sL * 1 ∧ Row w2 sA l5 ∧ appendP true [] [] [] w2 (some { block := k1, off := 0 }) 0 0 sL
  l5 1 8 [Value.int IntKind.i64 (0 : Int)] fun (w6 : World) (p7 : Option Addr) (k8 k9 : Nat) => R (Ending.returned (Value.slice p7 k8 k9))
  w6)

theorem slices_Clone_g86.link {sA : Option Addr} {sL sC : Nat} {R : Ending → World → Prop} {w : World} (h : slices_Clone_g86.vc sA sL sC R w) : Calls Go.Proofs.Try.prog 86 #[.slice sA sL sC] w R :=
  calls_of pf (fn := Go.Proofs.Try.f86) (ann := .s (.n) (.s (.s (.n) (.c (.s (.n) (.n)) (.n))) (.s (.n) (.n)))) (mp := false) (args := [.v (.slice sA sL sC)]) Go.Proofs.Try.func86 (c := Go.Proofs.Try.f86.body.getD .skip) (by kernel_rfl) (by kernel_rfl) (Eq.mp (by kernel_rfl) h)
theorem slices_Clone_g86.body : BodyOk Go.Proofs.Try.prog 86 := ⟨Go.Proofs.Try.f86, Go.Proofs.Try.func86, by kernel_rfl, pf.ng _ _ Go.Proofs.Try.func86⟩

/-! ### slices.Clip[[]rhizome/api.Tuple,rhizome/api.Tuple]: function 74 -/
def slices_Clip_g74.vc (sA : Option Addr) (sL sC : Nat) (R : Ending → World → Prop) (w : World) : Prop := ((0 : Int) ≤ (0 : Int) ∧ (0 : Int)
  ≤ (sL : Int) ∧ (sL : Int) ≤ (sL : Int) ∧ (sL : Int) ≤ (sC : Int)) ∧ R (Ending.returned (Value.slice (subA sA 0 (Int.toNat (sL : Int)) 1)
  (Int.toNat (sL : Int) - 0) (Int.toNat (sL : Int) - 0))) w

theorem slices_Clip_g74.link {sA : Option Addr} {sL sC : Nat} {R : Ending → World → Prop} {w : World} (h : slices_Clip_g74.vc sA sL sC R w) : Calls Go.Proofs.Try.prog 74 #[.slice sA sL sC] w R :=
  calls_of pf (fn := Go.Proofs.Try.f74) (ann := .s (.n) (.s (.n) (.n))) (mp := false) (args := [.v (.slice sA sL sC)]) Go.Proofs.Try.func74 (c := Go.Proofs.Try.f74.body.getD .skip) (by kernel_rfl) (by kernel_rfl) (Eq.mp (by kernel_rfl) h)
theorem slices_Clip_g74.body : BodyOk Go.Proofs.Try.prog 74 := ⟨Go.Proofs.Try.f74, Go.Proofs.Try.func74, by kernel_rfl, pf.ng _ _ Go.Proofs.Try.func74⟩

/-! ### slices.CompactFunc[[]rhizome/api.Tuple,rhizome/api.Tuple]: function 75 -/
def slices_CompactFunc_g75.vc (sA : Option Addr) (sL sC : Nat) (eq : Nat) (eqcap : Array Value) (R : Ending → World → Prop) (w : World) :
  Prop := bcase (decide ((sL : Int) < (2 : Int))) (R (Ending.returned (Value.slice sA sL sC)) w) (∃ (y1 : Nat → Int → World → Prop), ∃ (k2 :
  Nat), y1 k2 (1 : Int) w ∧ ∀ (k3 : Nat) (n4 : Int) (w5 : World), y1 k3 n4 w5 → bcase (decide (n4 < (sL : Int))) (∃ (ad7 : Addr), sA = some
  ad7 ∧ ((0 : Int) ≤ n4 ∧ n4 < (sL : Int)) ∧ ∃ (p8 : Option Addr), ∃ (k9 : Nat), ∃ (k10 : Nat), World.cell? w5 (Addr.add ad7 (Int.toNat n4 *
  1)) = some (Value.slice p8 k9 k10) ∧ ∃ (ad11 : Addr), sA = some ad11 ∧ ((0 : Int) ≤ IntKind.wrap IntKind.i64 (n4 - (1 : Int)) ∧
  IntKind.wrap IntKind.i64 (n4 - (1 : Int)) < (sL : Int)) ∧ ∃ (p12 : Option Addr), ∃ (k13 : Nat), ∃ (k14 : Nat), World.cell? w5 (Addr.add
  ad11 (Int.toNat (IntKind.wrap IntKind.i64 (n4 - (1 : Int))) * 1)) = some (Value.slice p12 k13 k14) ∧ BodyOk Proofs.Try.prog eq ∧ ∀ (w15 :
  World), Step w5 w15 [] [] → Calls Proofs.Try.prog eq { toList := Value.slice p8 k9 k10 :: Value.slice p12 k13 k14 :: List.append [] (Array.toList eqcap) }
  w15 fun (e17 : Ending) (w18 : World) => ∃ (b19 : Bool), e17 = Ending.returned (Value.bool b19) ∧ bcase b19 (((0 : Int) ≤ n4 ∧ n4 ≤ (sL :
  Int) ∧ (sL : Int) ≤ (sC : Int)) ∧ ∃ (y20 : Nat → Int → Int → World → Prop), ∃ (k21 : Nat), y20 k21 n4 (1 : Int) w18 ∧ ∀ (k22 : Nat) (n23
  n24 : Int) (w25 : World), y20 k22 n23 n24 w25 → bcase (decide (n24 < ((Int.toNat (sL : Int) - Int.toNat n4 : Nat) : Int))) (∀ (y27 : Int →
  World → Prop), (∀ (n28 : Int) (w29 : World), (∃ (k30 : Nat), k30 < k22 ∧ y20 k30 n28 (IntKind.wrap IntKind.i64 (n24 + (1 : Int))) w29) →
  y27 n28 w29) → ∃ (ad33 : Addr), subA sA (Int.toNat n4) sC 1 = some ad33 ∧ ((0 : Int) ≤ n24 ∧ n24 < ((Int.toNat (sL : Int) - Int.toNat n4 :
  Nat) : Int)) ∧ ∃ (p34 : Option Addr), ∃ (k35 : Nat), ∃ (k36 : Nat), World.cell? w25 (Addr.add ad33 (Int.toNat n24 * 1)) = some
  (Value.slice p34 k35 k36) ∧ ∃ (ad37 : Addr), subA sA (Int.toNat n4) sC 1 = some ad37 ∧ ((0 : Int) ≤ IntKind.wrap IntKind.i64 (n24 - (1 :
  Int)) ∧ IntKind.wrap IntKind.i64 (n24 - (1 : Int)) < ((Int.toNat (sL : Int) - Int.toNat n4 : Nat) : Int)) ∧ ∃ (p38 : Option Addr), ∃ (k39
  : Nat), ∃ (k40 : Nat), World.cell? w25 (Addr.add ad37 (Int.toNat (IntKind.wrap IntKind.i64 (n24 - (1 : Int))) * 1)) = some (Value.slice
  p38 k39 k40) ∧ BodyOk Proofs.Try.prog eq ∧ ∀ (w41 : World), Step w25 w41 [] [] → Calls Proofs.Try.prog eq { toList := Value.slice p34 k35 k36 :: Value.slice p38 k39 k40 :: List.append [] (Array.toList eqcap) }
  w41 fun (e43 : Ending) (w44 : World) => ∃ (b45 : Bool), e43 = Ending.returned (Value.bool b45) ∧ bcase (!b45) (∃ (ad46 : Addr), subA sA
  (Int.toNat n4) sC 1 = some ad46 ∧ ((0 : Int) ≤ n24 ∧ n24 < ((Int.toNat (sL : Int) - Int.toNat n4 : Nat) : Int)) ∧ ∃ (p47 : Option Addr), ∃
  (k48 : Nat), ∃ (k49 : Nat), World.cell? w44 (Addr.add ad46 (Int.toNat n24 * 1)) = some (Value.slice p47 k48 k49) ∧ ∃ (ad50 : Addr), sA =
  some ad50 ∧ ((0 : Int) ≤ n23 ∧ n23 < (sL : Int)) ∧ ∃ (l51 : List Value), Blk w44 (Addr.block (Addr.add ad50 (Int.toNat n23 * 1))) l51 ∧
  Addr.spot (Addr.add ad50 (Int.toNat n23 * 1)) = none ∧ Addr.off (Addr.add ad50 (Int.toNat n23 * 1)) + List.length [Value.slice p47 k48
  k49] ≤ List.length l51 ∧ ∀ (w52 : World), Upd w44 w52 (Addr.block (Addr.add ad50 (Int.toNat n23 * 1))) (sets l51 (Addr.off (Addr.add ad50
  (Int.toNat n23 * 1))) [Value.slice p47 k48 k49]) → y27 (IntKind.wrap IntKind.i64 (n23 + (1 : Int))) w52) (y27 n23 w44)) (((0 : Int) ≤ n23
  ∧ n23 ≤ (sL : Int) ∧ (sL : Int) ≤ (sC : Int)) ∧ (Int.toNat (sL : Int) - Int.toNat n23 = 0 ∧ ((0 : Int) ≤ (0 : Int) ∧ (0 : Int) ≤ n23 ∧ n23
  ≤ (sC : Int)) ∧ R (Ending.returned (Value.slice (subA sA 0 sC 1) (Int.toNat n23 - 0) (sC - 0))) w25 ∨ ∃ (ad54 : Addr), ∃ (l55 : List
  Value), subA sA (Int.toNat n23) sC 1 = some ad54 ∧ Addr.spot ad54 = none ∧ Blk w25 (Addr.block ad54) l55 ∧ Addr.off ad54 + (Int.toNat (sL
  : Int) - Int.toNat n23) * 1 ≤ List.length l55 ∧ ¬Addr.block ad54 ∈ [] ∧ ∀ (w56 : World), Upd w25 w56 (Addr.block ad54) (sets l55 (Addr.off
  ad54) (reps [Value.slice none 0 0] (Int.toNat (sL : Int) - Int.toNat n23))) → ((0 : Int) ≤ (0 : Int) ∧ (0 : Int) ≤ n23 ∧ n23 ≤ (sC : Int))
  ∧ R (Ending.returned (Value.slice (subA sA 0 sC 1) (Int.toNat n23 - 0) (sC - 0))) w56))) (∃ (k58 : Nat), k58 < k3 ∧ y1 k58 (IntKind.wrap
  IntKind.i64 (n4 + (1 : Int))) w18)) (R (Ending.returned (Value.slice sA sL sC)) w5))

theorem slices_CompactFunc_g75.link {sA : Option Addr} {sL sC : Nat} {eq : Nat} {eqcap : Array Value} {R : Ending → World → Prop} {w : World} (h : slices_CompactFunc_g75.vc sA sL sC eq eqcap R w) : Calls Go.Proofs.Try.prog 75 #[.slice sA sL sC, .func (.func eq) #[] eqcap] w R :=
  calls_of pf (fn := Go.Proofs.Try.f75) (ann := .s (.n) (.s (.s (.n) (.c (.s (.n) (.n)) (.n))) (.s (.s (.n) (.b (.l ⟨[], [], [], [(5, .l (.i .i64))], []⟩ (.s (.s (.n) (.c (.n) (.n))) (.s (.b (.s (.n) (.c (.s (.n) (.s (.s (.n) (.b (.l ⟨[], [], [], [(5, .l (.i .i64)), (7, .l (.i .i64))], []⟩ (.s (.s (.n) (.c (.n) (.n))) (.j ⟨[], [], [], [(5, .l (.i .i64))], []⟩ (.b (.s (.n) (.c (.s (.n) (.n)) (.n)))) (.n)))))) (.s (.n) (.s (.n) (.n))))) (.n)))) (.n)))))) (.s (.n) (.n))))) (mp := false) (args := [.v (.slice sA sL sC), .v (.func (.func eq) #[] eqcap)]) Go.Proofs.Try.func75 (c := Go.Proofs.Try.f75.body.getD .skip) (by kernel_rfl) (by kernel_rfl) (Eq.mp (by kernel_rfl) h)
theorem slices_CompactFunc_g75.body : BodyOk Go.Proofs.Try.prog 75 := ⟨Go.Proofs.Try.f75, Go.Proofs.Try.func75, by kernel_rfl, pf.ng _ _ Go.Proofs.Try.func75⟩

/-! ### rhizome/tuple.same: function 76 -/
def tuple_same.vc (aA : Option Addr) (aL aC : Nat) (bA : Option Addr) (bL bC : Nat) (R : Ending → World → Prop) (w : World) : Prop := Calls
  Proofs.Try.prog (73 : Nat) { toList := [Value.slice aA aL aC, Value.slice bA bL bC] } w fun (e1 : Ending) (w2 : World) => ∃ (n3 : Int), e1
  = Ending.returned (Value.int IntKind.i64 n3) ∧ R (Ending.returned (Value.bool (decide (n3 = (0 : Int))))) w2

theorem tuple_same.link {aA : Option Addr} {aL aC : Nat} {bA : Option Addr} {bL bC : Nat} {R : Ending → World → Prop} {w : World} (h : tuple_same.vc aA aL aC bA bL bC R w) : Calls Go.Proofs.Try.prog 76 #[.slice aA aL aC, .slice bA bL bC] w R :=
  calls_of pf (fn := Go.Proofs.Try.f76) (ann := .s (.n) (.s (.n) (.n))) (mp := false) (args := [.v (.slice aA aL aC), .v (.slice bA bL bC)]) Go.Proofs.Try.func76 (c := Go.Proofs.Try.f76.body.getD .skip) (by kernel_rfl) (by kernel_rfl) (Eq.mp (by kernel_rfl) h)
theorem tuple_same.body : BodyOk Go.Proofs.Try.prog 76 := ⟨Go.Proofs.Try.f76, Go.Proofs.Try.func76, by kernel_rfl, pf.ng _ _ Go.Proofs.Try.func76⟩

/-! ### slices.Clone[[]int,int]: function 71 -/
def slices_Clone_g71.vc (sA : Option Addr) (sL sC : Nat) (R : Ending → World → Prop) (w : World) : Prop := bcase (Option.isNone sA) (R
  (Ending.returned (Value.slice none 0 0)) w) (∀ (k1 : Nat) (w2 : World), Step w w2 [] [k1] → Blk w2 k1 (reps [Value.int IntKind.i64 (0 :
  Int)] 0) → ∃ (l5 : List Value), List.length l5 = sL * 1 ∧ Row w2 sA l5 ∧ appendP true [] [] [] w2 (some { block := k1, off := 0 }) 0 0 sL
  l5 1 8 [Value.int IntKind.i64 (0 : Int)] fun (w6 : World) (p7 : Option Addr) (k8 k9 : Nat) => R (Ending.returned (Value.slice p7 k8 k9))
  w6)

theorem slices_Clone_g71.link {sA : Option Addr} {sL sC : Nat} {R : Ending → World → Prop} {w : World} (h : slices_Clone_g71.vc sA sL sC R w) : Calls Go.Proofs.Try.prog 71 #[.slice sA sL sC] w R :=
  calls_of pf (fn := Go.Proofs.Try.f71) (ann := .s (.n) (.s (.s (.n) (.c (.s (.n) (.n)) (.n))) (.s (.n) (.n)))) (mp := false) (args := [.v (.slice sA sL sC)]) Go.Proofs.Try.func71 (c := Go.Proofs.Try.f71.body.getD .skip) (by kernel_rfl) (by kernel_rfl) (Eq.mp (by kernel_rfl) h)
theorem slices_Clone_g71.body : BodyOk Go.Proofs.Try.prog 71 := ⟨Go.Proofs.Try.f71, Go.Proofs.Try.func71, by kernel_rfl, pf.ng _ _ Go.Proofs.Try.func71⟩

/-! ### slices.Clip[[]int,int]: function 51 -/
def slices_Clip_g51.vc (sA : Option Addr) (sL sC : Nat) (R : Ending → World → Prop) (w : World) : Prop := ((0 : Int) ≤ (0 : Int) ∧ (0 : Int)
  ≤ (sL : Int) ∧ (sL : Int) ≤ (sL : Int) ∧ (sL : Int) ≤ (sC : Int)) ∧ R (Ending.returned (Value.slice (subA sA 0 (Int.toNat (sL : Int)) 1)
  (Int.toNat (sL : Int) - 0) (Int.toNat (sL : Int) - 0))) w

theorem slices_Clip_g51.link {sA : Option Addr} {sL sC : Nat} {R : Ending → World → Prop} {w : World} (h : slices_Clip_g51.vc sA sL sC R w) : Calls Go.Proofs.Try.prog 51 #[.slice sA sL sC] w R :=
  calls_of pf (fn := Go.Proofs.Try.f51) (ann := .s (.n) (.s (.n) (.n))) (mp := false) (args := [.v (.slice sA sL sC)]) Go.Proofs.Try.func51 (c := Go.Proofs.Try.f51.body.getD .skip) (by kernel_rfl) (by kernel_rfl) (Eq.mp (by kernel_rfl) h)
theorem slices_Clip_g51.body : BodyOk Go.Proofs.Try.prog 51 := ⟨Go.Proofs.Try.f51, Go.Proofs.Try.func51, by kernel_rfl, pf.ng _ _ Go.Proofs.Try.func51⟩

end Go.Proofs.Ytnplopiconabiaa.VC
