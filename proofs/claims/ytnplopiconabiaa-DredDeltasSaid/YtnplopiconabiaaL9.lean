/- What is to be shown of functions' texts, printed by a program of this session's repo; that it gives the functions' contracts is checked by the kernel. -/
import Derived.Test.YtnplopiconabiaaProg
import Derived.Test.YtnplopiconabiaaPf
namespace Go.Proofs.Ytnplopiconabiaa.VC
open Go Go.V
set_option maxRecDepth 1000000
set_option linter.unusedVariables false

/-! ### rhizome/rhizomelaw14.DredBack: function 9 -/
def rhizomelaw14_DredBack.vc (edgesA : Option Addr) (edgesL edgesC : Nat) (moreA : Option Addr) (moreL moreC : Nat) (R : Ending → World →
  Prop) (w : World) : Prop := ∀ (y1 : Bool → World → Prop), (∀ (b2 : Bool) (w3 : World), bcase b2 (Calls Proofs.Try.prog (26 : Nat) { toList := [] }
  w3 fun (e4 : Ending) (w5 : World) => ∃ (b6 : Bool), e4 = Ending.returned (Value.bool b6) ∧ R (Ending.returned (Value.bool b6)) w5) (Calls
  Proofs.Try.prog (28 : Nat) { toList := [Value.string { data := { toList := [(97 : UInt8)] } }, Value.slice edgesA edgesL edgesC] } w3 fun
  (e7 : Ending) (w8 : World) => ∃ (p9 : Option Addr), ∃ (n10 : Int), e7 = Ending.returned (Value.tuple { toList := [Value.pointer p9, Value.int IntKind.i64 n10] })
  ∧ ∀ (y11 : Bool → World → Prop), (∀ (b12 : Bool) (w13 : World), bcase b12 (R (Ending.returned (Value.bool false)) w13) (∃ (y14 : Nat → Int
  → World → Prop), ∃ (k15 : Nat), y14 k15 (0 : Int) w13 ∧ ∀ (k16 : Nat) (n17 : Int) (w18 : World), y14 k16 n17 w18 → bcase (decide (n17 < (2
  : Int))) (((0 : Int) ≤ n17 ∧ n17 < ((2 : Nat) : Int)) ∧ ∃ (b20 : Bool), (Array.mk ( spl (spl [Value.bool false, Value.bool false] 0
  [Value.bool true]) 1 [Value.bool false] ))[Int.toNat n17 * 1]? = some (Value.bool b20) ∧ Calls Proofs.Try.prog (29 : Nat) { toList := [Value.pointer p9] }
  w18 fun (e21 : Ending) (w22 : World) => ∃ (p23 : Option Addr), ∃ (k24 : Nat), ∃ (k25 : Nat), e21 = Ending.returned (Value.slice p23 k24
  k25) ∧ Calls Proofs.Try.prog (30 : Nat) { toList := [Value.pointer p9, Value.slice moreA moreL moreC, Value.bool b20] } w22 fun (e26 :
  Ending) (w27 : World) => ∃ (p28 : Option Addr), ∃ (k29 : Nat), ∃ (k30 : Nat), ∃ (p31 : Option Addr), ∃ (k32 : Nat), ∃ (k33 : Nat), ∃ (n34
  : Int), e26 = Ending.returned (Value.tuple { toList := [Value.agg { toList := [Value.slice p28 k29 k30, Value.slice p31 k32 k33] }, Value.int IntKind.i64 n34] })
  ∧ ∀ (k35 : Nat) (y36 : World → Prop), (∀ (w37 : World), (Calls Proofs.Try.prog (29 : Nat) { toList := [Value.pointer p9] } w37 fun (e38 :
  Ending) (w39 : World) => ∃ (p40 : Option Addr), ∃ (k41 : Nat), ∃ (k42 : Nat), e38 = Ending.returned (Value.slice p40 k41 k42) ∧ Calls
  Proofs.Try.prog (17 : Nat) { toList := [Value.slice p40 k41 k42, Value.slice p23 k24 k25] } w39 fun (e43 : Ending) (w44 : World) => ∃ (b45
  : Bool), e43 = Ending.returned (Value.bool b45) ∧ bcase (!b45) (R (Ending.returned (Value.bool false)) w44) (∃ (k46 : Nat), k46 < k16 ∧
  y14 k46 (IntKind.wrap IntKind.i64 (n17 + (1 : Int))) w44)) → y36 w37) → bcase (decide (n34 = (0 : Int))) (∀ (w49 : World), Step w27 w49 []
  [k35] → Calls Proofs.Try.prog (30 : Nat) { toList := [Value.pointer p9, Value.slice moreA moreL moreC, Value.bool !b20] } w49 fun (e51 :
  Ending) (w52 : World) => ∃ (p53 : Option Addr), ∃ (k54 : Nat), ∃ (k55 : Nat), ∃ (p56 : Option Addr), ∃ (k57 : Nat), ∃ (k58 : Nat), ∃ (n59
  : Int), e51 = Ending.returned (Value.tuple { toList := [Value.agg { toList := [Value.slice p53 k54 k55, Value.slice p56 k57 k58] }, Value.int IntKind.i64 n59] })
  ∧ Keep [k35] w49 w52 ∧ ∀ (k60 : Nat) (y61 : Bool → World → Prop), (∀ (b62 : Bool) (w63 : World), bcase b62 (R (Ending.returned (Value.bool
  false)) w63) (y36 w63) → y61 b62 w63) → bcase (!decide (n59 = (0 : Int))) (∀ (w66 : World), Step w52 w66 [] [k60] → y61 true w66) (∀ (w68
  : World), Step w52 w68 [] [k60] → Calls Proofs.Try.prog (32 : Nat) { toList := [Value.agg { toList := List.take 2 (List.drop 0 (sets [Value.slice none 0 0, Value.slice none 0 0] 0 [Value.slice p28 k29 k30, Value.slice p31 k32 k33])) }] }
  w68 fun (e70 : Ending) (w71 : World) => ∃ (p72 : Option Addr), ∃ (k73 : Nat), ∃ (k74 : Nat), ∃ (p75 : Option Addr), ∃ (k76 : Nat), ∃ (k77
  : Nat), e70 = Ending.returned (Value.agg { toList := [Value.slice p72 k73 k74, Value.slice p75 k76 k77] }) ∧ Keep [k35, k60] w68 w71 ∧
  Calls Proofs.Try.prog (31 : Nat) { toList := [Value.agg { toList := List.take 2 (List.drop 0 (sets [Value.slice none 0 0, Value.slice none 0 0] 0 [Value.slice p53 k54 k55, Value.slice p56 k57 k58])) }, Value.agg { toList := [Value.slice p72 k73 k74, Value.slice p75 k76 k77] }] }
  w71 fun (e78 : Ending) (w79 : World) => ∃ (b80 : Bool), e78 = Ending.returned (Value.bool b80) ∧ Keep [k35, k60] w71 w79 ∧ y61 (!b80)
  w79)) (∀ (w81 : World), Step w27 w81 [] [k35] → y36 w81)) (R (Ending.returned (Value.bool true)) w18)) → y11 b12 w13) → bcase (!decide
  (n10 = (0 : Int))) (y11 true w8) (y11 (Option.isNone p9) w8)) → y1 b2 w3) → Calls Proofs.Try.prog (26 : Nat) { toList := [] } w fun (e87 :
  Ending) (w88 : World) => ∃ (b89 : Bool), e87 = Ending.returned (Value.bool b89) ∧ bcase (!b89) (y1 true w88) (∀ (k90 : Nat) (w91 : World),
  Step w88 w91 [] [k90] → Blk w91 k90 (spl (reps [Value.slice none 0 0, Value.bool false] 1) 0 (spl [Value.slice none 0 0, Value.bool false]
  0 [Value.slice moreA moreL moreC])) → Calls Proofs.Try.prog (27 : Nat) { toList := [Value.string { data := { toList := [(97 : UInt8)] } }, Value.slice edgesA edgesL edgesC, Value.slice (some { block := k90, off := 0 }) 1 1] }
  w91 fun (e94 : Ending) (w95 : World) => ∃ (b96 : Bool), e94 = Ending.returned (Value.bool b96) ∧ y1 (!b96) w95)

theorem rhizomelaw14_DredBack.link {edgesA : Option Addr} {edgesL edgesC : Nat} {moreA : Option Addr} {moreL moreC : Nat} {R : Ending → World → Prop} {w : World} (h : rhizomelaw14_DredBack.vc edgesA edgesL edgesC moreA moreL moreC R w) : Calls Go.Proofs.Try.prog 9 #[.slice edgesA edgesL edgesC, .slice moreA moreL moreC] w R :=
  calls_of pf (fn := Go.Proofs.Try.f9) (ann := .s (.n) (.s (.j ⟨[], [], [], [(23, .l (.b))], []⟩ (.n) (.c (.s (.n) (.n)) (.n))) (.s (.n) (.s (.j ⟨[], [], [], [(35, .l (.b))], []⟩ (.n) (.c (.s (.n) (.n)) (.n))) (.s (.s (.n) (.b (.l ⟨[], [], [], [(37, .l (.i .i64))], []⟩ (.s (.n) (.s (.c (.n) (.n)) (.s (.b (.s (.n) (.s (.n) (.s (.n) (.j ⟨[], [], [], [], []⟩ (.s (.n) (.c (.s (.n) (.j ⟨[], [], [], [(67, .l (.b))], []⟩ (.d [0, 1]) (.c (.s (.n) (.n)) (.n)))) (.n))) (.s (.n) (.c (.s (.n) (.n)) (.n)))))))) (.n))))))) (.s (.n) (.n))))))) (mp := false) (args := [.v (.slice edgesA edgesL edgesC), .v (.slice moreA moreL moreC)]) Go.Proofs.Try.func9 (c := Go.Proofs.Try.f9.body.getD .skip) (by kernel_rfl) (by kernel_rfl) (Eq.mp (by kernel_rfl) h)
theorem rhizomelaw14_DredBack.body : BodyOk Go.Proofs.Try.prog 9 := ⟨Go.Proofs.Try.f9, Go.Proofs.Try.func9, by kernel_rfl, pf.ng _ _ Go.Proofs.Try.func9⟩

end Go.Proofs.Ytnplopiconabiaa.VC
