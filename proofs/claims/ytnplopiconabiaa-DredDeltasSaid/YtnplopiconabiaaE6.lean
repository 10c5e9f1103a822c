/- What is to be shown of functions' texts, printed by a program of this session's repo; that it gives the functions' contracts is checked by the kernel. -/
import Derived.Test.YtnplopiconabiaaProg
import Derived.Test.YtnplopiconabiaaPf
namespace Go.Proofs.Ytnplopiconabiaa.VC
open Go Go.V
set_option maxRecDepth 1000000
set_option linter.unusedVariables false

/-! ### rhizome/rhizomelaw14.awake: function 26 -/
def rhizomelaw14_awake.vc (R : Ending → World → Prop) (w : World) : Prop := ∀ (k1 : Nat) (w2 : World), Step w w2 [] [k1] → Blk w2 k1 (spl
  (spl (spl (spl (reps [Value.int IntKind.i64 (0 : Int), Value.string { data := { toList := [] } }, Value.int IntKind.i64 (0 : Int)] 4) 0
  (spl (spl (spl [Value.int IntKind.i64 (0 : Int), Value.string { data := { toList := [] } }, Value.int IntKind.i64 (0 : Int)] 0 [Value.int
  IntKind.i64 (1 : Int)]) 1 [Value.string { data := { toList := [(97 : UInt8)] } }]) 2 [Value.int IntKind.i64 (2 : Int)])) 3 (spl (spl (spl
  [Value.int IntKind.i64 (0 : Int), Value.string { data := { toList := [] } }, Value.int IntKind.i64 (0 : Int)] 0 [Value.int IntKind.i64 (2
  : Int)]) 1 [Value.string { data := { toList := [(97 : UInt8)] } }]) 2 [Value.int IntKind.i64 (3 : Int)])) 6 (spl (spl (spl [Value.int
  IntKind.i64 (0 : Int), Value.string { data := { toList := [] } }, Value.int IntKind.i64 (0 : Int)] 0 [Value.int IntKind.i64 (1 : Int)]) 1
  [Value.string { data := { toList := [(97 : UInt8)] } }]) 2 [Value.int IntKind.i64 (4 : Int)])) 9 (spl (spl (spl [Value.int IntKind.i64 (0
  : Int), Value.string { data := { toList := [] } }, Value.int IntKind.i64 (0 : Int)] 0 [Value.int IntKind.i64 (4 : Int)]) 1 [Value.string
  { data := { toList := [(97 : UInt8)] } }]) 2 [Value.int IntKind.i64 (3 : Int)])) → Calls Proofs.Try.prog (28 : Nat) { toList := [Value.string { data := { toList := [(97 : UInt8)] } }, Value.slice (some { block := k1, off := 0 }) 4 4] }
  w2 fun (e5 : Ending) (w6 : World) => ∃ (p7 : Option Addr), ∃ (n8 : Int), e5 = Ending.returned (Value.tuple { toList := [Value.pointer p7, Value.int IntKind.i64 n8] })
  ∧ ∀ (y9 : Bool → World → Prop), (∀ (b10 : Bool) (w11 : World), bcase b10 (R (Ending.returned (Value.bool false)) w11) (∀ (k12 : Nat) (w13
  : World), Step w11 w13 [] [k12] → Blk w13 k12 (spl (reps [Value.int IntKind.i64 (0 : Int), Value.string { data := { toList := [] } },
  Value.int IntKind.i64 (0 : Int)] 1) 0 (spl (spl (spl [Value.int IntKind.i64 (0 : Int), Value.string { data := { toList := [] } },
  Value.int IntKind.i64 (0 : Int)] 0 [Value.int IntKind.i64 (2 : Int)]) 1 [Value.string { data := { toList := [(97 : UInt8)] } }]) 2
  [Value.int IntKind.i64 (3 : Int)])) → Calls Proofs.Try.prog (30 : Nat) { toList := [Value.pointer p7, Value.slice (some { block := k12, off := 0 }) 1 1, Value.bool false] }
  w13 fun (e16 : Ending) (w17 : World) => ∃ (p18 : Option Addr), ∃ (k19 : Nat), ∃ (k20 : Nat), ∃ (p21 : Option Addr), ∃ (k22 : Nat), ∃ (k23
  : Nat), ∃ (n24 : Int), e16 = Ending.returned (Value.tuple { toList := [Value.agg { toList := [Value.slice p18 k19 k20, Value.slice p21 k22 k23] }, Value.int IntKind.i64 n24] })
  ∧ ∀ (k25 k26 : Nat) (w27 : World), Step w17 w27 [] [k26, k25] → Blk w27 k26 (spl (reps [Value.int IntKind.i64 (0 : Int), Value.string
  { data := { toList := [] } }, Value.int IntKind.i64 (0 : Int)] 1) 0 (spl (spl (spl [Value.int IntKind.i64 (0 : Int), Value.string
  { data := { toList := [] } }, Value.int IntKind.i64 (0 : Int)] 0 [Value.int IntKind.i64 (4 : Int)]) 1 [Value.string
  { data := { toList := [(97 : UInt8)] } }]) 2 [Value.int IntKind.i64 (3 : Int)])) → Calls Proofs.Try.prog (30 : Nat) { toList := [Value.pointer p7, Value.slice (some { block := k26, off := 0 }) 1 1, Value.bool false] }
  w27 fun (e30 : Ending) (w31 : World) => ∃ (p32 : Option Addr), ∃ (k33 : Nat), ∃ (k34 : Nat), ∃ (p35 : Option Addr), ∃ (k36 : Nat), ∃ (k37
  : Nat), ∃ (n38 : Int), e30 = Ending.returned (Value.tuple { toList := [Value.agg { toList := [Value.slice p32 k33 k34, Value.slice p35 k36 k37] }, Value.int IntKind.i64 n38] })
  ∧ Keep [k25] w27 w31 ∧ ∀ (k39 : Nat) (y40 : Bool → World → Prop), (∀ (b41 : Bool) (w42 : World), R (Ending.returned (Value.bool b41)) w42
  → y40 b41 w42) → bcase (decide (n24 = (0 : Int))) (bcase (decide ((k22 : Int) = (1 : Int))) (bcase (decide ((k19 : Int) = (0 : Int)))
  (bcase (decide (n38 = (0 : Int))) (∀ (w45 : World), Step w31 w45 [] [k39] → y40 (decide ((k36 : Int) = (2 : Int))) w45) (∀ (w47 : World),
  Step w31 w47 [] [k39] → y40 false w47)) (∀ (w49 : World), Step w31 w49 [] [k39] → y40 false w49)) (∀ (w51 : World), Step w31 w51 [] [k39]
  → y40 false w51)) (∀ (w53 : World), Step w31 w53 [] [k39] → y40 false w53)) → y9 b10 w11) → bcase (!decide (n8 = (0 : Int))) (y9 true w6)
  (y9 (Option.isNone p7) w6)

theorem rhizomelaw14_awake.link {_u : Unit} {R : Ending → World → Prop} {w : World} (h : rhizomelaw14_awake.vc  R w) : Calls Go.Proofs.Try.prog 26 #[] w R :=
  calls_of pf (fn := Go.Proofs.Try.f26) (ann := .s (.n) (.s (.n) (.s (.j ⟨[], [], [], [(21, .l (.b))], []⟩ (.n) (.c (.s (.n) (.n)) (.n))) (.s (.n) (.s (.n) (.j ⟨[], [], [], [(0, .l (.b))], []⟩ (.n) (.n))))))) (mp := false) (args := []) Go.Proofs.Try.func26 (c := Go.Proofs.Try.f26.body.getD .skip) (by kernel_rfl) (by kernel_rfl) (Eq.mp (by kernel_rfl) h)
theorem rhizomelaw14_awake.body : BodyOk Go.Proofs.Try.prog 26 := ⟨Go.Proofs.Try.f26, Go.Proofs.Try.func26, by kernel_rfl, pf.ng _ _ Go.Proofs.Try.func26⟩

/-! ### rhizome/rhizomelaw14.few: function 27 -/
def rhizomelaw14_few.vc (label : ByteArray) (edgesA : Option Addr) (edgesL edgesC : Nat) (scriptA : Option Addr) (scriptL scriptC : Nat) (R
  : Ending → World → Prop) (w : World) : Prop := ∃ (y1 : Nat → Int → Int → World → Prop), ∃ (k2 : Nat), y1 k2 (edgesL : Int) (0 : Int) w ∧ ∀
  (k3 : Nat) (n4 n5 : Int) (w6 : World), y1 k3 n4 n5 w6 → bcase (decide (n5 < (scriptL : Int))) (∃ (ad8 : Addr), scriptA = some ad8 ∧ ((0 :
  Int) ≤ n5 ∧ n5 < (scriptL : Int)) ∧ ∃ (p9 : Option Addr), ∃ (k10 : Nat), ∃ (k11 : Nat), World.cell? w6 (Addr.add (Addr.add ad8 (Int.toNat
  n5 * 2)) 0) = some (Value.slice p9 k10 k11) ∧ ∃ (k12 : Nat), k12 < k3 ∧ y1 k12 (IntKind.wrap IntKind.i64 (n4 + (k10 : Int))) (IntKind.wrap
  IntKind.i64 (n5 + (1 : Int))) w6) (∀ (y13 : Bool → World → Prop), (∀ (b14 : Bool) (w15 : World), R (Ending.returned (Value.bool b14)) w15
  → y13 b14 w15) → bcase (decide (((ByteArray.size label) : Int) ≤ (100 : Int))) (bcase (decide ((edgesL : Int) ≤ (20 : Int))) (bcase
  (decide ((scriptL : Int) ≤ (12 : Int))) (y13 (decide (n4 ≤ (40 : Int))) w6) (y13 false w6)) (y13 false w6)) (y13 false w6))

theorem rhizomelaw14_few.link {label : ByteArray} {edgesA : Option Addr} {edgesL edgesC : Nat} {scriptA : Option Addr} {scriptL scriptC : Nat} {R : Ending → World → Prop} {w : World} (h : rhizomelaw14_few.vc label edgesA edgesL edgesC scriptA scriptL scriptC R w) : Calls Go.Proofs.Try.prog 27 #[.string label, .slice edgesA edgesL edgesC, .slice scriptA scriptL scriptC] w R :=
  calls_of pf (fn := Go.Proofs.Try.f27) (ann := .s (.n) (.s (.n) (.s (.s (.n) (.b (.l ⟨[], [], [], [(7, .l (.i .i64)), (13, .l (.i .i64))], []⟩ (.s (.n) (.s (.c (.n) (.n)) (.s (.b (.s (.n) (.n))) (.n))))))) (.j ⟨[], [], [], [(6, .l (.b))], []⟩ (.n) (.n))))) (mp := false) (args := [.v (.string label), .v (.slice edgesA edgesL edgesC), .v (.slice scriptA scriptL scriptC)]) Go.Proofs.Try.func27 (c := Go.Proofs.Try.f27.body.getD .skip) (by kernel_rfl) (by kernel_rfl) (Eq.mp (by kernel_rfl) h)
theorem rhizomelaw14_few.body : BodyOk Go.Proofs.Try.prog 27 := ⟨Go.Proofs.Try.f27, Go.Proofs.Try.func27, by kernel_rfl, pf.ng _ _ Go.Proofs.Try.func27⟩

end Go.Proofs.Ytnplopiconabiaa.VC
