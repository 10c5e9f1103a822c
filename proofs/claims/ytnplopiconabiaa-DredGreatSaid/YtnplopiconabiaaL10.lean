/- What is to be shown of functions' texts, printed by a program of this session's repo; that it gives the functions' contracts is checked by the kernel. -/
import Derived.Test.YtnplopiconabiaaProg
import Derived.Test.YtnplopiconabiaaPf
namespace Go.Proofs.Ytnplopiconabiaa.VC
open Go Go.V
set_option maxRecDepth 1000000
set_option linter.unusedVariables false

/-! ### rhizome/rhizomelaw14.DredGreat: function 10 -/
def rhizomelaw14_DredGreat.vc (n : Int) (R : Ending → World → Prop) (w : World) : Prop := Calls Proofs.Try.prog (26 : Nat) { toList := [] }
  w fun (e1 : Ending) (w2 : World) => ∃ (b3 : Bool), e1 = Ending.returned (Value.bool b3) ∧ bcase (!b3) (R (Ending.returned (Value.bool
  false)) w2) ((40 : Int) ≠ (0 : Int) ∧ ∃ (y4 : Nat → Option Addr → Nat → Nat → Int → World → Prop), ∃ (k5 : Nat), y4 k5 none 0 0 (1 : Int)
  w2 ∧ ∀ (k6 : Nat) (p7 : Option Addr) (k8 k9 : Nat) (n10 : Int) (w11 : World), y4 k6 p7 k8 k9 n10 w11 → bcase (decide (n10 < (89 : Int)))
  (∀ (k13 : Nat), appendP false [] [k13] [k13] w11 p7 k8 k9 1 (spl (reps [Value.int IntKind.i64 (0 : Int), Value.string
  { data := { toList := [] } }, Value.int IntKind.i64 (0 : Int)] 1) 0 (spl (spl (spl [Value.int IntKind.i64 (0 : Int), Value.string
  { data := { toList := [] } }, Value.int IntKind.i64 (0 : Int)] 0 [Value.int IntKind.i64 n10]) 1 [Value.string
  { data := { toList := [(97 : UInt8)] } }]) 2 [Value.int IntKind.i64 (IntKind.wrap IntKind.i64 (n10 + (1 : Int)))])) 3 32 [Value.int
  IntKind.i64 (0 : Int), Value.string { data := { toList := [] } }, Value.int IntKind.i64 (0 : Int)] fun (w14 : World) (p15 : Option Addr)
  (k16 k17 : Nat) => ∃ (k18 : Nat), k18 < k6 ∧ y4 k18 p15 k16 k17 (IntKind.wrap IntKind.i64 (n10 + (1 : Int))) w14) (∃ (y19 : Nat → Option
  Addr → Nat → Nat → Int → World → Prop), ∃ (k20 : Nat), y19 k20 none 0 0 (0 : Int) w11 ∧ ∀ (k21 : Nat) (p22 : Option Addr) (k23 k24 : Nat)
  (n25 : Int) (w26 : World), y19 k21 p22 k23 k24 n25 w26 → bcase (decide (n25 < IntKind.wrap IntKind.i64 (Int.tmod (IntKind.wrap IntKind.u64
  n) (40 : Int)))) (∀ (k28 : Nat), appendP false [] [k28] [k28] w26 p22 k23 k24 2 (spl (spl (reps [Value.int IntKind.i64 (0 : Int),
  Value.string { data := { toList := [] } }, Value.int IntKind.i64 (0 : Int)] 2) 0 (spl (spl (spl [Value.int IntKind.i64 (0 : Int),
  Value.string { data := { toList := [] } }, Value.int IntKind.i64 (0 : Int)] 0 [Value.int IntKind.i64 (IntKind.wrap IntKind.i64 ((500 :
  Int) + IntKind.wrap IntKind.i64 ((3 : Int) * n25)))]) 1 [Value.string { data := { toList := [(97 : UInt8)] } }]) 2 [Value.int IntKind.i64
  (IntKind.wrap IntKind.i64 ((501 : Int) + IntKind.wrap IntKind.i64 ((3 : Int) * n25)))])) 3 (spl (spl (spl [Value.int IntKind.i64 (0 :
  Int), Value.string { data := { toList := [] } }, Value.int IntKind.i64 (0 : Int)] 0 [Value.int IntKind.i64 (IntKind.wrap IntKind.i64 ((501
  : Int) + IntKind.wrap IntKind.i64 ((3 : Int) * n25)))]) 1 [Value.string { data := { toList := [(97 : UInt8)] } }]) 2 [Value.int
  IntKind.i64 (IntKind.wrap IntKind.i64 ((502 : Int) + IntKind.wrap IntKind.i64 ((3 : Int) * n25)))])) 3 32 [Value.int IntKind.i64 (0 :
  Int), Value.string { data := { toList := [] } }, Value.int IntKind.i64 (0 : Int)] fun (w29 : World) (p30 : Option Addr) (k31 k32 : Nat) =>
  ∃ (k33 : Nat), k33 < k21 ∧ y19 k33 p30 k31 k32 (IntKind.wrap IntKind.i64 (n25 + (1 : Int))) w29) (Calls Proofs.Try.prog (28 : Nat) { toList := [Value.string { data := { toList := [(97 : UInt8)] } }, Value.slice p7 k8 k9] }
  w26 fun (e34 : Ending) (w35 : World) => ∃ (p36 : Option Addr), ∃ (n37 : Int), e34 = Ending.returned (Value.tuple { toList := [Value.pointer p36, Value.int IntKind.i64 n37] })
  ∧ ∀ (y38 : Bool → World → Prop), (∀ (b39 : Bool) (w40 : World), bcase b39 (R (Ending.returned (Value.bool false)) w40) (Calls
  Proofs.Try.prog (30 : Nat) { toList := [Value.pointer p36, Value.slice p22 k23 k24, Value.bool true] } w40 fun (e41 : Ending) (w42 :
  World) => ∃ (p43 : Option Addr), ∃ (k44 : Nat), ∃ (k45 : Nat), ∃ (p46 : Option Addr), ∃ (k47 : Nat), ∃ (k48 : Nat), ∃ (n49 : Int), e41 =
  Ending.returned (Value.tuple { toList := [Value.agg { toList := [Value.slice p43 k44 k45, Value.slice p46 k47 k48] }, Value.int IntKind.i64 n49] })
  ∧ ∀ (k50 : Nat), bcase (decide ((4000 : Int) < IntKind.wrap IntKind.i64 ((3916 : Int) + IntKind.wrap IntKind.i64 ((3 : Int) * IntKind.wrap
  IntKind.i64 (Int.tmod (IntKind.wrap IntKind.u64 n) (40 : Int)))))) (∀ (y51 : Bool → World → Prop), (∀ (b52 : Bool) (w53 : World), R
  (Ending.returned (Value.bool b52)) w53 → y51 b52 w53) → bcase (decide (n49 = (5 : Int))) (∀ (w56 : World), Step w42 w56 [] [k50] → Calls
  Proofs.Try.prog (33 : Nat) { toList := [Value.agg { toList := List.take 2 (List.drop 0 (sets [Value.slice none 0 0, Value.slice none 0 0] 0 [Value.slice p43 k44 k45, Value.slice p46 k47 k48])) }] }
  w56 fun (e58 : Ending) (w59 : World) => ∃ (b60 : Bool), e58 = Ending.returned (Value.bool b60) ∧ Keep [k50] w56 w59 ∧ bcase b60 (Calls
  Proofs.Try.prog (29 : Nat) { toList := [Value.pointer p36] } w59 fun (e61 : Ending) (w62 : World) => ∃ (p63 : Option Addr), ∃ (k64 : Nat),
  ∃ (k65 : Nat), e61 = Ending.returned (Value.slice p63 k64 k65) ∧ Keep [k50] w59 w62 ∧ y51 (decide ((k64 : Int) = (3916 : Int))) w62) (y51
  false w59)) (∀ (w66 : World), Step w42 w66 [] [k50] → y51 false w66)) (∀ (y68 : Bool → World → Prop), (∀ (b69 : Bool) (w70 : World), R
  (Ending.returned (Value.bool b69)) w70 → y68 b69 w70) → bcase (decide (n49 = (0 : Int))) (bcase (decide ((k44 : Int) = IntKind.wrap
  IntKind.i64 ((3 : Int) * IntKind.wrap IntKind.i64 (Int.tmod (IntKind.wrap IntKind.u64 n) (40 : Int))))) (∀ (w73 : World), Step w42 w73 []
  [k50] → Calls Proofs.Try.prog (29 : Nat) { toList := [Value.pointer p36] } w73 fun (e75 : Ending) (w76 : World) => ∃ (p77 : Option Addr),
  ∃ (k78 : Nat), ∃ (k79 : Nat), e75 = Ending.returned (Value.slice p77 k78 k79) ∧ Keep [k50] w73 w76 ∧ y68 (decide ((k78 : Int) =
  IntKind.wrap IntKind.i64 ((3916 : Int) + IntKind.wrap IntKind.i64 ((3 : Int) * IntKind.wrap IntKind.i64 (Int.tmod (IntKind.wrap
  IntKind.u64 n) (40 : Int)))))) w76) (∀ (w80 : World), Step w42 w80 [] [k50] → y68 false w80)) (∀ (w82 : World), Step w42 w82 [] [k50] →
  y68 false w82))) → y38 b39 w40) → bcase (!decide (n37 = (0 : Int))) (y38 true w35) (y38 (Option.isNone p36) w35))))

theorem rhizomelaw14_DredGreat.link {n : Int} {R : Ending → World → Prop} {w : World} (h : rhizomelaw14_DredGreat.vc n R w) : Calls Go.Proofs.Try.prog 10 #[.int .i64 n] w R :=
  calls_of pf (fn := Go.Proofs.Try.f10) (ann := .s (.n) (.s (.s (.n) (.c (.s (.n) (.n)) (.n))) (.s (.n) (.s (.n) (.s (.s (.n) (.b (.l ⟨[], [], [], [(3, .l (.sl)), (5, .l (.i .i64))], []⟩ (.s (.s (.n) (.c (.n) (.n))) (.s (.b (.n)) (.n)))))) (.s (.s (.n) (.b (.l ⟨[], [], [], [(4, .l (.sl)), (6, .l (.i .i64))], []⟩ (.s (.s (.n) (.c (.n) (.n))) (.s (.b (.n)) (.n)))))) (.s (.n) (.s (.j ⟨[], [], [], [(59, .l (.b))], []⟩ (.n) (.c (.s (.n) (.n)) (.n))) (.s (.n) (.s (.s (.n) (.c (.j ⟨[], [], [], [(2, .l (.b))], []⟩ (.n) (.n)) (.n))) (.j ⟨[], [], [], [(2, .l (.b))], []⟩ (.n) (.n)))))))))))) (mp := false) (args := [.v (.int .i64 n)]) Go.Proofs.Try.func10 (c := Go.Proofs.Try.f10.body.getD .skip) (by kernel_rfl) (by kernel_rfl) (Eq.mp (by kernel_rfl) h)
theorem rhizomelaw14_DredGreat.body : BodyOk Go.Proofs.Try.prog 10 := ⟨Go.Proofs.Try.f10, Go.Proofs.Try.func10, by kernel_rfl, pf.ng _ _ Go.Proofs.Try.func10⟩

end Go.Proofs.Ytnplopiconabiaa.VC
