/- What is to be shown of functions' texts, printed by a program of this session's repo; that it gives the functions' contracts is checked by the kernel. -/
import Derived.Test.YtnplopiconabiaaProg
import Derived.Test.YtnplopiconabiaaPf
namespace Go.Proofs.Ytnplopiconabiaa.VC
open Go Go.V
set_option maxRecDepth 1000000
set_option linter.unusedVariables false

/-! ### rhizome/rhizomelaw14.DredOthers: function 11 -/
def rhizomelaw14_DredOthers.vc (edgesA : Option Addr) (edgesL edgesC : Nat) (scriptA : Option Addr) (scriptL scriptC : Nat) (R : Ending →
  World → Prop) (w : World) : Prop := ∀ (y1 : Bool → World → Prop), (∀ (b2 : Bool) (w3 : World), bcase b2 (Calls Proofs.Try.prog (26 : Nat)
  { toList := [] } w3 fun (e4 : Ending) (w5 : World) => ∃ (b6 : Bool), e4 = Ending.returned (Value.bool b6) ∧ R (Ending.returned (Value.bool
  b6)) w5) (Calls Proofs.Try.prog (28 : Nat) { toList := [Value.string { data := { toList := [(97 : UInt8)] } }, Value.slice edgesA edgesL edgesC] }
  w3 fun (e7 : Ending) (w8 : World) => ∃ (p9 : Option Addr), ∃ (n10 : Int), e7 = Ending.returned (Value.tuple { toList := [Value.pointer p9, Value.int IntKind.i64 n10] })
  ∧ ∀ (y11 : Bool → World → Prop), (∀ (b12 : Bool) (w13 : World), bcase b12 (R (Ending.returned (Value.bool false)) w13) (Calls
  Proofs.Try.prog (29 : Nat) { toList := [Value.pointer p9] } w13 fun (e14 : Ending) (w15 : World) => ∃ (p16 : Option Addr), ∃ (k17 : Nat),
  ∃ (k18 : Nat), e14 = Ending.returned (Value.slice p16 k17 k18) ∧ ∃ (y19 : Nat → Int → World → Prop), ∃ (k20 : Nat), y19 k20 (0 : Int) w15
  ∧ ∀ (k21 : Nat) (n22 : Int) (w23 : World), y19 k21 n22 w23 → bcase (decide (n22 < (scriptL : Int))) (∃ (ad25 : Addr), scriptA = some ad25
  ∧ ((0 : Int) ≤ n22 ∧ n22 < (scriptL : Int)) ∧ ∃ (p26 : Option Addr), ∃ (k27 : Nat), ∃ (k28 : Nat), ∃ (b29 : Bool), (World.cell? w23
  (Addr.add (Addr.add ad25 (Int.toNat n22 * 2)) 0) = some (Value.slice p26 k27 k28) ∧ World.cell? w23 (Addr.add (Addr.add ad25 (Int.toNat
  n22 * 2)) 1) = some (Value.bool b29) ∧ True) ∧ ∀ (k30 : Nat), ∃ (y31 : Nat → Option Addr → Nat → Nat → Int → World → Prop), ∃ (k32 : Nat),
  (∀ (w33 : World), Step w23 w33 [] [k30] → y31 k32 none 0 0 (0 : Int) w33) ∧ ∀ (k35 : Nat) (p36 : Option Addr) (k37 k38 : Nat) (n39 : Int)
  (w40 : World), y31 k35 p36 k37 k38 n39 w40 → bcase (decide (n39 < (k27 : Int))) (∃ (ad42 : Addr), p26 = some ad42 ∧ ((0 : Int) ≤ n39 ∧ n39
  < (k27 : Int)) ∧ ∃ (n43 : Int), ∃ (s44 : ByteArray), ∃ (n45 : Int), (World.cell? w40 (Addr.add (Addr.add ad42 (Int.toNat n39 * 3)) 0) =
  some (Value.int IntKind.i64 n43) ∧ World.cell? w40 (Addr.add (Addr.add ad42 (Int.toNat n39 * 3)) 1) = some (Value.string s44) ∧
  World.cell? w40 (Addr.add (Addr.add ad42 (Int.toNat n39 * 3)) 2) = some (Value.int IntKind.i64 n45) ∧ True) ∧ ∀ (k46 : Nat) (y47 : Int →
  ByteArray → Int → World → Prop), (∀ (n48 : Int) (s49 : ByteArray) (n50 : Int) (w51 : World), (∀ (k52 : Nat), appendP false [] [k52] [k30,
  k46, k52] w51 p36 k37 k38 2 (spl (spl (reps [Value.int IntKind.i64 (0 : Int), Value.string { data := { toList := [] } }, Value.int
  IntKind.i64 (0 : Int)] 2) 0 [Value.int IntKind.i64 n48, Value.string s49, Value.int IntKind.i64 n50]) 3 [Value.int IntKind.i64 n48,
  Value.string s49, Value.int IntKind.i64 n50]) 3 32 [Value.int IntKind.i64 (0 : Int), Value.string { data := { toList := [] } }, Value.int
  IntKind.i64 (0 : Int)] fun (w53 : World) (p54 : Option Addr) (k55 k56 : Nat) => ∃ (k57 : Nat), k57 < k35 ∧ y31 k57 p54 k55 k56
  (IntKind.wrap IntKind.i64 (n39 + (1 : Int))) w53) → y47 n48 s49 n50 w51) → bcase (decide (s44 = { data := #[(97 : UInt8)] })) (∀ (w60 :
  World), Step w40 w60 [] [k46] → y47 n43 { data := { toList := [(97 : UInt8), (97 : UInt8)] } } n45 w60) (∀ (w62 : World), Step w40 w62 []
  [k46] → y47 n43 s44 n45 w62)) (Calls Proofs.Try.prog (30 : Nat) { toList := [Value.pointer p9, Value.slice p36 k37 k38, Value.bool b29] }
  w40 fun (e64 : Ending) (w65 : World) => ∃ (p66 : Option Addr), ∃ (k67 : Nat), ∃ (k68 : Nat), ∃ (p69 : Option Addr), ∃ (k70 : Nat), ∃ (k71
  : Nat), ∃ (n72 : Int), e64 = Ending.returned (Value.tuple { toList := [Value.agg { toList := [Value.slice p66 k67 k68, Value.slice p69 k70 k71] }, Value.int IntKind.i64 n72] })
  ∧ Keep [k30] w40 w65 ∧ ∀ (k73 : Nat) (y74 : Bool → World → Prop), (∀ (b75 : Bool) (w76 : World), bcase b75 (R (Ending.returned (Value.bool
  false)) w76) (∃ (k77 : Nat), k77 < k21 ∧ y19 k77 (IntKind.wrap IntKind.i64 (n22 + (1 : Int))) w76) → y74 b75 w76) → bcase (!decide (n72 =
  (0 : Int))) (∀ (w80 : World), Step w65 w80 [] [k73] → y74 true w80) (∀ (w82 : World), Step w65 w82 [] [k73] → Calls Proofs.Try.prog (33 :
  Nat) { toList := [Value.agg { toList := List.take 2 (List.drop 0 (sets [Value.slice none 0 0, Value.slice none 0 0] 0 [Value.slice p66 k67 k68, Value.slice p69 k70 k71])) }] }
  w82 fun (e84 : Ending) (w85 : World) => ∃ (b86 : Bool), e84 = Ending.returned (Value.bool b86) ∧ Keep [k30, k73] w82 w85 ∧ y74 (!b86)
  w85))) (Calls Proofs.Try.prog (29 : Nat) { toList := [Value.pointer p9] } w23 fun (e87 : Ending) (w88 : World) => ∃ (p89 : Option Addr), ∃
  (k90 : Nat), ∃ (k91 : Nat), e87 = Ending.returned (Value.slice p89 k90 k91) ∧ Calls Proofs.Try.prog (17 : Nat) { toList := [Value.slice p89 k90 k91, Value.slice p16 k17 k18] }
  w88 fun (e92 : Ending) (w93 : World) => ∃ (b94 : Bool), e92 = Ending.returned (Value.bool b94) ∧ R (Ending.returned (Value.bool b94))
  w93)) → y11 b12 w13) → bcase (!decide (n10 = (0 : Int))) (y11 true w8) (y11 (Option.isNone p9) w8)) → y1 b2 w3) → Calls Proofs.Try.prog
  (26 : Nat) { toList := [] } w fun (e99 : Ending) (w100 : World) => ∃ (b101 : Bool), e99 = Ending.returned (Value.bool b101) ∧ bcase
  (!b101) (y1 true w100) (Calls Proofs.Try.prog (27 : Nat) { toList := [Value.string { data := { toList := [(97 : UInt8)] } }, Value.slice edgesA edgesL edgesC, Value.slice scriptA scriptL scriptC] }
  w100 fun (e102 : Ending) (w103 : World) => ∃ (b104 : Bool), e102 = Ending.returned (Value.bool b104) ∧ y1 (!b104) w103)

theorem rhizomelaw14_DredOthers.link {edgesA : Option Addr} {edgesL edgesC : Nat} {scriptA : Option Addr} {scriptL scriptC : Nat} {R : Ending → World → Prop} {w : World} (h : rhizomelaw14_DredOthers.vc edgesA edgesL edgesC scriptA scriptL scriptC R w) : Calls Go.Proofs.Try.prog 11 #[.slice edgesA edgesL edgesC, .slice scriptA scriptL scriptC] w R :=
  calls_of pf (fn := Go.Proofs.Try.f11) (ann := .s (.n) (.s (.j ⟨[], [], [], [(22, .l (.b))], []⟩ (.n) (.c (.s (.n) (.n)) (.n))) (.s (.n) (.s (.j ⟨[], [], [], [(34, .l (.b))], []⟩ (.n) (.c (.s (.n) (.n)) (.n))) (.s (.n) (.s (.s (.n) (.b (.l ⟨[], [], [], [(39, .l (.i .i64))], []⟩ (.s (.n) (.s (.c (.n) (.n)) (.s (.b (.s (.n) (.s (.n) (.s (.s (.n) (.b (.l ⟨[], [], [0], [(10, .l (.sl)), (46, .l (.i .i64))], []⟩ (.s (.n) (.s (.c (.n) (.n)) (.s (.b (.s (.n) (.j ⟨[], [], [0], [], [(1, [.i .i64, .s, .i .i64])]⟩ (.s (.n) (.c (.n) (.n))) (.n)))) (.n))))))) (.s (.n) (.j ⟨[], [], [], [(74, .l (.b))], []⟩ (.n) (.c (.s (.n) (.n)) (.n)))))))) (.n))))))) (.s (.n) (.n)))))))) (mp := false) (args := [.v (.slice edgesA edgesL edgesC), .v (.slice scriptA scriptL scriptC)]) Go.Proofs.Try.func11 (c := Go.Proofs.Try.f11.body.getD .skip) (by kernel_rfl) (by kernel_rfl) (Eq.mp (by kernel_rfl) h)
theorem rhizomelaw14_DredOthers.body : BodyOk Go.Proofs.Try.prog 11 := ⟨Go.Proofs.Try.f11, Go.Proofs.Try.func11, by kernel_rfl, pf.ng _ _ Go.Proofs.Try.func11⟩

end Go.Proofs.Ytnplopiconabiaa.VC
