/- What is to be shown of functions' texts, printed by a program of this session's repo; that it gives the functions' contracts is checked by the kernel. -/
import Derived.Test.YtnplopiconabiaaProg
import Derived.Test.YtnplopiconabiaaPf
namespace Go.Proofs.Ytnplopiconabiaa.VC
open Go Go.V
set_option maxRecDepth 1000000
set_option linter.unusedVariables false

/-! ### rhizome/rhizomelaw13.awake: function 14 -/
def rhizomelaw13_awake.vc (R : Ending → World → Prop) (w : World) : Prop := ∀ (k1 : Nat) (w2 : World), Step w w2 [] [k1] → Blk w2 k1 (spl
  (spl (spl (reps [Value.int IntKind.i64 (0 : Int), Value.string { data := { toList := [] } }, Value.int IntKind.i64 (0 : Int)] 3) 0 (spl
  (spl (spl [Value.int IntKind.i64 (0 : Int), Value.string { data := { toList := [] } }, Value.int IntKind.i64 (0 : Int)] 0 [Value.int
  IntKind.i64 (1 : Int)]) 1 [Value.string { data := { toList := [(97 : UInt8)] } }]) 2 [Value.int IntKind.i64 (2 : Int)])) 3 (spl (spl (spl
  [Value.int IntKind.i64 (0 : Int), Value.string { data := { toList := [] } }, Value.int IntKind.i64 (0 : Int)] 0 [Value.int IntKind.i64 (2
  : Int)]) 1 [Value.string { data := { toList := [(97 : UInt8)] } }]) 2 [Value.int IntKind.i64 (3 : Int)])) 6 (spl (spl (spl [Value.int
  IntKind.i64 (0 : Int), Value.string { data := { toList := [] } }, Value.int IntKind.i64 (0 : Int)] 0 [Value.int IntKind.i64 (3 : Int)]) 1
  [Value.string { data := { toList := [(97 : UInt8)] } }]) 2 [Value.int IntKind.i64 (2 : Int)])) → Calls Proofs.Try.prog (15 : Nat) { toList := [Value.string { data := { toList := [(97 : UInt8)] } }, Value.slice (some { block := k1, off := 0 }) 3 3] }
  w2 fun (e5 : Ending) (w6 : World) => ∃ (p7 : Option Addr), ∃ (k8 : Nat), ∃ (k9 : Nat), ∃ (n10 : Int), e5 = Ending.returned (Value.tuple { toList := [Value.slice p7 k8 k9, Value.int IntKind.i64 n10] })
  ∧ Calls Proofs.Try.prog (19 : Nat) { toList := [Value.string { data := { toList := [(97 : UInt8)] } }, Value.slice (some { block := k1, off := 0 }) 3 3, Value.int IntKind.i64 (2 : Int), Value.int IntKind.i64 (2 : Int)] }
  w6 fun (e11 : Ending) (w12 : World) => ∃ (p13 : Option Addr), ∃ (k14 : Nat), ∃ (k15 : Nat), ∃ (n16 : Int), e11 = Ending.returned
  (Value.tuple { toList := [Value.slice p13 k14 k15, Value.int IntKind.i64 n16] }) ∧ Calls Proofs.Try.prog (22 : Nat) { toList := [Value.string { data := { toList := [(97 : UInt8)] } }, Value.slice (some { block := k1, off := 0 }) 3 3] }
  w12 fun (e17 : Ending) (w18 : World) => ∃ (p19 : Option Addr), ∃ (k20 : Nat), ∃ (k21 : Nat), ∃ (n22 : Int), e17 = Ending.returned
  (Value.tuple { toList := [Value.slice p19 k20 k21, Value.int IntKind.i64 n22] }) ∧ ∀ (y23 : Bool → World → Prop), (∀ (b24 : Bool) (w25 :
  World), R (Ending.returned (Value.bool b24)) w25 → y23 b24 w25) → bcase (decide (n10 = (0 : Int))) (bcase (decide ((k8 : Int) = (6 :
  Int))) (bcase (decide (n16 = (0 : Int))) (∀ (k28 : Nat) (w29 : World), Step w18 w29 [] [k28] → Blk w29 k28 (spl (spl (spl (reps [Value.int
  IntKind.i64 (0 : Int)] 3) 0 [Value.int IntKind.i64 (2 : Int)]) 1 [Value.int IntKind.i64 (3 : Int)]) 2 [Value.int IntKind.i64 (2 : Int)]) →
  Calls Proofs.Try.prog (21 : Nat) { toList := [Value.slice p13 k14 k15, Value.slice (some { block := k28, off := 0 }) 3 3] } w29 fun (e32 :
  Ending) (w33 : World) => ∃ (b34 : Bool), e32 = Ending.returned (Value.bool b34) ∧ bcase b34 (bcase (decide (n22 = (0 : Int))) (bcase
  (decide ((k20 : Int) = (1 : Int))) (∃ (ad35 : Addr), p19 = some ad35 ∧ ((0 : Int) ≤ (0 : Int) ∧ (0 : Int) < (k20 : Int)) ∧ ∃ (p36 : Option
  Addr), ∃ (k37 : Nat), ∃ (k38 : Nat), World.cell? w33 (Addr.add ad35 0) = some (Value.slice p36 k37 k38) ∧ ∀ (k39 : Nat) (w40 : World),
  Step w33 w40 [] [k39] → Blk w40 k39 (spl (spl (reps [Value.int IntKind.i64 (0 : Int)] 2) 0 [Value.int IntKind.i64 (2 : Int)]) 1 [Value.int
  IntKind.i64 (3 : Int)]) → Calls Proofs.Try.prog (21 : Nat) { toList := [Value.slice p36 k37 k38, Value.slice (some { block := k39, off := 0 }) 2 2] }
  w40 fun (e43 : Ending) (w44 : World) => ∃ (b45 : Bool), e43 = Ending.returned (Value.bool b45) ∧ y23 b45 w44) (y23 false w33)) (y23 false
  w33)) (y23 false w33)) (y23 false w18)) (y23 false w18)) (y23 false w18)

theorem rhizomelaw13_awake.link {_u : Unit} {R : Ending → World → Prop} {w : World} (h : rhizomelaw13_awake.vc  R w) : Calls Go.Proofs.Try.prog 14 #[] w R :=
  calls_of pf (fn := Go.Proofs.Try.f14) (ann := .s (.n) (.s (.n) (.s (.n) (.s (.n) (.s (.n) (.j ⟨[], [], [], [(0, .l (.b))], []⟩ (.n) (.n))))))) (mp := false) (args := []) Go.Proofs.Try.func14 (c := Go.Proofs.Try.f14.body.getD .skip) (by kernel_rfl) (by kernel_rfl) (Eq.mp (by kernel_rfl) h)
theorem rhizomelaw13_awake.body : BodyOk Go.Proofs.Try.prog 14 := ⟨Go.Proofs.Try.f14, Go.Proofs.Try.func14, by kernel_rfl, pf.ng _ _ Go.Proofs.Try.func14⟩

/-! ### rhizome/rhizomeref01.Ints: function 21 -/
def rhizomeref01_Ints.vc (aA : Option Addr) (aL aC : Nat) (bA : Option Addr) (bL bC : Nat) (R : Ending → World → Prop) (w : World) : Prop :=
  bcase (!decide ((aL : Int) = (bL : Int))) (R (Ending.returned (Value.bool false)) w) (∃ (y1 : Nat → Int → World → Prop), ∃ (k2 : Nat), y1
  k2 (0 : Int) w ∧ ∀ (k3 : Nat) (n4 : Int) (w5 : World), y1 k3 n4 w5 → bcase (decide (n4 < (aL : Int))) (∃ (ad7 : Addr), aA = some ad7 ∧ ((0
  : Int) ≤ n4 ∧ n4 < (aL : Int)) ∧ ∃ (n8 : Int), World.cell? w5 (Addr.add ad7 (Int.toNat n4 * 1)) = some (Value.int IntKind.i64 n8) ∧ ∃ (ad9
  : Addr), bA = some ad9 ∧ ((0 : Int) ≤ n4 ∧ n4 < (bL : Int)) ∧ ∃ (n10 : Int), World.cell? w5 (Addr.add ad9 (Int.toNat n4 * 1)) = some
  (Value.int IntKind.i64 n10) ∧ bcase (!decide (n8 = n10)) (∀ (w11 : World), Step w5 w11 [] [] → R (Ending.returned (Value.bool false)) w11)
  (∃ (k13 : Nat), k13 < k3 ∧ ∀ (w14 : World), Step w5 w14 [] [] → y1 k13 (IntKind.wrap IntKind.i64 (n4 + (1 : Int))) w14)) (R
  (Ending.returned (Value.bool true)) w5))

theorem rhizomeref01_Ints.link {aA : Option Addr} {aL aC : Nat} {bA : Option Addr} {bL bC : Nat} {R : Ending → World → Prop} {w : World} (h : rhizomeref01_Ints.vc aA aL aC bA bL bC R w) : Calls Go.Proofs.Try.prog 21 #[.slice aA aL aC, .slice bA bL bC] w R :=
  calls_of pf (fn := Go.Proofs.Try.f21) (ann := .s (.n) (.s (.s (.n) (.c (.s (.n) (.n)) (.n))) (.s (.s (.n) (.b (.l ⟨[], [], [], [(13, .l (.i .i64))], []⟩ (.s (.n) (.s (.c (.n) (.n)) (.s (.b (.s (.n) (.s (.n) (.c (.s (.n) (.n)) (.n))))) (.n))))))) (.s (.n) (.n))))) (mp := false) (args := [.v (.slice aA aL aC), .v (.slice bA bL bC)]) Go.Proofs.Try.func21 (c := Go.Proofs.Try.f21.body.getD .skip) (by kernel_rfl) (by kernel_rfl) (Eq.mp (by kernel_rfl) h)
theorem rhizomeref01_Ints.body : BodyOk Go.Proofs.Try.prog 21 := ⟨Go.Proofs.Try.f21, Go.Proofs.Try.func21, by kernel_rfl, pf.ng _ _ Go.Proofs.Try.func21⟩

/-! ### rhizome/rhizomeref10.Has: function 24 -/
def rhizomeref10_Has.vc (lA : Option Addr) (lL lC : Nat) (tA : Option Addr) (tL tC : Nat) (R : Ending → World → Prop) (w : World) : Prop :=
  ∃ (y1 : Nat → Int → World → Prop), ∃ (k2 : Nat), y1 k2 (0 : Int) w ∧ ∀ (k3 : Nat) (n4 : Int) (w5 : World), y1 k3 n4 w5 → bcase (decide (n4
  < (lL : Int))) (∃ (ad7 : Addr), lA = some ad7 ∧ ((0 : Int) ≤ n4 ∧ n4 < (lL : Int)) ∧ ∃ (p8 : Option Addr), ∃ (k9 : Nat), ∃ (k10 : Nat),
  World.cell? w5 (Addr.add ad7 (Int.toNat n4 * 1)) = some (Value.slice p8 k9 k10) ∧ Calls Proofs.Try.prog (46 : Nat) { toList := [Value.slice p8 k9 k10, Value.slice tA tL tC] }
  w5 fun (e11 : Ending) (w12 : World) => ∃ (n13 : Int), e11 = Ending.returned (Value.int IntKind.i64 n13) ∧ bcase (decide (n13 = (0 : Int)))
  (R (Ending.returned (Value.bool true)) w12) (∃ (k14 : Nat), k14 < k3 ∧ y1 k14 (IntKind.wrap IntKind.i64 (n4 + (1 : Int))) w12)) (R
  (Ending.returned (Value.bool false)) w5)

theorem rhizomeref10_Has.link {lA : Option Addr} {lL lC : Nat} {tA : Option Addr} {tL tC : Nat} {R : Ending → World → Prop} {w : World} (h : rhizomeref10_Has.vc lA lL lC tA tL tC R w) : Calls Go.Proofs.Try.prog 24 #[.slice lA lL lC, .slice tA tL tC] w R :=
  calls_of pf (fn := Go.Proofs.Try.f24) (ann := .s (.n) (.s (.s (.n) (.b (.l ⟨[], [], [], [(8, .l (.i .i64))], []⟩ (.s (.n) (.s (.c (.n) (.n)) (.s (.b (.s (.n) (.s (.n) (.c (.s (.n) (.n)) (.n))))) (.n))))))) (.s (.n) (.n)))) (mp := false) (args := [.v (.slice lA lL lC), .v (.slice tA tL tC)]) Go.Proofs.Try.func24 (c := Go.Proofs.Try.f24.body.getD .skip) (by kernel_rfl) (by kernel_rfl) (Eq.mp (by kernel_rfl) h)
theorem rhizomeref10_Has.body : BodyOk Go.Proofs.Try.prog 24 := ⟨Go.Proofs.Try.f24, Go.Proofs.Try.func24, by kernel_rfl, pf.ng _ _ Go.Proofs.Try.func24⟩

/-! ### rhizome/rhizomeref10.Without: function 25 -/
def rhizomeref10_Without.vc (aA : Option Addr) (aL aC : Nat) (bA : Option Addr) (bL bC : Nat) (R : Ending → World → Prop) (w : World) : Prop
  := ∃ (y1 : Nat → Option Addr → Nat → Nat → Int → World → Prop), ∃ (k2 : Nat), y1 k2 none 0 0 (0 : Int) w ∧ ∀ (k3 : Nat) (p4 : Option Addr)
  (k5 k6 : Nat) (n7 : Int) (w8 : World), y1 k3 p4 k5 k6 n7 w8 → bcase (decide (n7 < (aL : Int))) (∀ (y10 : Option Addr → Nat → Nat → World →
  Prop), (∀ (p11 : Option Addr) (k12 k13 : Nat) (w14 : World), (∃ (k15 : Nat), k15 < k3 ∧ y1 k15 p11 k12 k13 (IntKind.wrap IntKind.i64 (n7 +
  (1 : Int))) w14) → y10 p11 k12 k13 w14) → ∃ (ad18 : Addr), aA = some ad18 ∧ ((0 : Int) ≤ n7 ∧ n7 < (aL : Int)) ∧ ∃ (p19 : Option Addr), ∃
  (k20 : Nat), ∃ (k21 : Nat), World.cell? w8 (Addr.add ad18 (Int.toNat n7 * 1)) = some (Value.slice p19 k20 k21) ∧ Calls Proofs.Try.prog (24
  : Nat) { toList := [Value.slice bA bL bC, Value.slice p19 k20 k21] } w8 fun (e22 : Ending) (w23 : World) => ∃ (b24 : Bool), e22 =
  Ending.returned (Value.bool b24) ∧ bcase (!b24) (∃ (ad25 : Addr), aA = some ad25 ∧ ((0 : Int) ≤ n7 ∧ n7 < (aL : Int)) ∧ ∃ (p26 : Option
  Addr), ∃ (k27 : Nat), ∃ (k28 : Nat), World.cell? w23 (Addr.add ad25 (Int.toNat n7 * 1)) = some (Value.slice p26 k27 k28) ∧ ∀ (k29 : Nat),
  appendP false [] [k29] [k29] w23 p4 k5 k6 1 (spl (reps [Value.slice none 0 0] 1) 0 [Value.slice p26 k27 k28]) 1 24 [Value.slice none 0 0]
  fun (w30 : World) (p31 : Option Addr) (k32 k33 : Nat) => y10 p31 k32 k33 w30) (y10 p4 k5 k6 w23)) (R (Ending.returned (Value.slice p4 k5
  k6)) w8)

theorem rhizomeref10_Without.link {aA : Option Addr} {aL aC : Nat} {bA : Option Addr} {bL bC : Nat} {R : Ending → World → Prop} {w : World} (h : rhizomeref10_Without.vc aA aL aC bA bL bC R w) : Calls Go.Proofs.Try.prog 25 #[.slice aA aL aC, .slice bA bL bC] w R :=
  calls_of pf (fn := Go.Proofs.Try.f25) (ann := .s (.n) (.s (.n) (.s (.s (.n) (.b (.l ⟨[], [], [], [(5, .l (.sl)), (9, .l (.i .i64))], []⟩ (.s (.n) (.s (.c (.n) (.n)) (.j ⟨[], [], [], [(5, .l (.sl))], []⟩ (.b (.s (.n) (.s (.n) (.c (.n) (.n))))) (.n))))))) (.s (.n) (.n))))) (mp := false) (args := [.v (.slice aA aL aC), .v (.slice bA bL bC)]) Go.Proofs.Try.func25 (c := Go.Proofs.Try.f25.body.getD .skip) (by kernel_rfl) (by kernel_rfl) (Eq.mp (by kernel_rfl) h)
theorem rhizomeref10_Without.body : BodyOk Go.Proofs.Try.prog 25 := ⟨Go.Proofs.Try.f25, Go.Proofs.Try.func25, by kernel_rfl, pf.ng _ _ Go.Proofs.Try.func25⟩

/-! ### rhizome/rhizomeref07.SameEdges: function 18 -/
def rhizomeref07_SameEdges.vc (aA : Option Addr) (aL aC : Nat) (bA : Option Addr) (bL bC : Nat) (R : Ending → World → Prop) (w : World) :
  Prop := bcase (!decide ((aL : Int) = (bL : Int))) (R (Ending.returned (Value.bool false)) w) (∃ (y1 : Nat → Int → World → Prop), ∃ (k2 :
  Nat), y1 k2 (0 : Int) w ∧ ∀ (k3 : Nat) (n4 : Int) (w5 : World), y1 k3 n4 w5 → bcase (decide (n4 < (aL : Int))) (∃ (ad7 : Addr), aA = some
  ad7 ∧ ((0 : Int) ≤ n4 ∧ n4 < (aL : Int)) ∧ ∃ (n8 : Int), ∃ (s9 : ByteArray), ∃ (n10 : Int), (World.cell? w5 (Addr.add (Addr.add ad7
  (Int.toNat n4 * 3)) 0) = some (Value.int IntKind.i64 n8) ∧ World.cell? w5 (Addr.add (Addr.add ad7 (Int.toNat n4 * 3)) 1) = some
  (Value.string s9) ∧ World.cell? w5 (Addr.add (Addr.add ad7 (Int.toNat n4 * 3)) 2) = some (Value.int IntKind.i64 n10) ∧ True) ∧ ∃ (ad11 :
  Addr), bA = some ad11 ∧ ((0 : Int) ≤ n4 ∧ n4 < (bL : Int)) ∧ ∃ (n12 : Int), ∃ (s13 : ByteArray), ∃ (n14 : Int), (World.cell? w5 (Addr.add
  (Addr.add ad11 (Int.toNat n4 * 3)) 0) = some (Value.int IntKind.i64 n12) ∧ World.cell? w5 (Addr.add (Addr.add ad11 (Int.toNat n4 * 3)) 1)
  = some (Value.string s13) ∧ World.cell? w5 (Addr.add (Addr.add ad11 (Int.toNat n4 * 3)) 2) = some (Value.int IntKind.i64 n14) ∧ True) ∧
  bcase (!conj [decide (n8 = n12), decide (s9 = s13), decide (n10 = n14)]) (∀ (w15 : World), Step w5 w15 [] [] → R (Ending.returned
  (Value.bool false)) w15) (∃ (k17 : Nat), k17 < k3 ∧ ∀ (w18 : World), Step w5 w18 [] [] → y1 k17 (IntKind.wrap IntKind.i64 (n4 + (1 :
  Int))) w18)) (R (Ending.returned (Value.bool true)) w5))

theorem rhizomeref07_SameEdges.link {aA : Option Addr} {aL aC : Nat} {bA : Option Addr} {bL bC : Nat} {R : Ending → World → Prop} {w : World} (h : rhizomeref07_SameEdges.vc aA aL aC bA bL bC R w) : Calls Go.Proofs.Try.prog 18 #[.slice aA aL aC, .slice bA bL bC] w R :=
  calls_of pf (fn := Go.Proofs.Try.f18) (ann := .s (.n) (.s (.s (.n) (.c (.s (.n) (.n)) (.n))) (.s (.s (.n) (.b (.l ⟨[], [], [], [(13, .l (.i .i64))], []⟩ (.s (.n) (.s (.c (.n) (.n)) (.s (.b (.s (.n) (.s (.n) (.c (.s (.n) (.n)) (.n))))) (.n))))))) (.s (.n) (.n))))) (mp := false) (args := [.v (.slice aA aL aC), .v (.slice bA bL bC)]) Go.Proofs.Try.func18 (c := Go.Proofs.Try.f18.body.getD .skip) (by kernel_rfl) (by kernel_rfl) (Eq.mp (by kernel_rfl) h)
theorem rhizomeref07_SameEdges.body : BodyOk Go.Proofs.Try.prog 18 := ⟨Go.Proofs.Try.f18, Go.Proofs.Try.func18, by kernel_rfl, pf.ng _ _ Go.Proofs.Try.func18⟩

end Go.Proofs.Ytnplopiconabiaa.VC
