/- What is to be shown of functions' texts, printed by a program of this session's repo; that it gives the functions' contracts is checked by the kernel. -/
import Derived.Test.YtnplopiconabiaaProg
import Derived.Test.YtnplopiconabiaaPf
namespace Go.Proofs.Ytnplopiconabiaa.VC
open Go Go.V
set_option maxRecDepth 1000000
set_option linter.unusedVariables false

/-! ### rhizome/rhizomelaw13.SpanMore: function 7 -/
def rhizomelaw13_SpanMore.vc (edgesA : Option Addr) (edgesL edgesC : Nat) (moreFrom : Int) (moreLabel : ByteArray) (moreTo : Int) (R :
  Ending → World → Prop) (w : World) : Prop := ∀ (k1 : Nat) (y2 : Bool → World → Prop), (∀ (b3 : Bool) (w4 : World), bcase b3 (Calls
  Proofs.Try.prog (14 : Nat) { toList := [] } w4 fun (e5 : Ending) (w6 : World) => ∃ (b7 : Bool), e5 = Ending.returned (Value.bool b7) ∧
  Keep [k1] w4 w6 ∧ R (Ending.returned (Value.bool b7)) w6) (Calls Proofs.Try.prog (15 : Nat) { toList := [Value.string { data := { toList := [(97 : UInt8)] } }, Value.slice edgesA edgesL edgesC] }
  w4 fun (e8 : Ending) (w9 : World) => ∃ (p10 : Option Addr), ∃ (k11 : Nat), ∃ (k12 : Nat), ∃ (n13 : Int), e8 = Ending.returned (Value.tuple
  { toList := [Value.slice p10 k11 k12, Value.int IntKind.i64 n13] }) ∧ Keep [k1] w4 w9 ∧ ∀ (y14 : Option Addr → Nat → Nat → Int → World →
  Prop), (∀ (p15 : Option Addr) (k16 k17 : Nat) (n18 : Int) (w19 : World), (∀ (y20 : Bool → World → Prop), (∀ (b21 : Bool) (w22 : World),
  bcase b21 (R (Ending.returned (Value.bool false)) w22) (∃ (y23 : Nat → Option Addr → Nat → Nat → Int → World → Prop), ∃ (k24 : Nat), y23
  k24 none 0 0 (0 : Int) w22 ∧ ∀ (k25 : Nat) (p26 : Option Addr) (k27 k28 : Nat) (n29 : Int) (w30 : World), y23 k25 p26 k27 k28 n29 w30 →
  bcase (decide (n29 < (k11 : Int))) (∃ (ad32 : Addr), p10 = some ad32 ∧ ((0 : Int) ≤ n29 ∧ n29 < (k11 : Int)) ∧ ∃ (p33 : Option Addr), ∃
  (k34 : Nat), ∃ (k35 : Nat), World.cell? w30 (Addr.add ad32 (Int.toNat n29 * 1)) = some (Value.slice p33 k34 k35) ∧ ∃ (ad36 : Addr), p33 =
  some ad36 ∧ ((0 : Int) ≤ (0 : Int) ∧ (0 : Int) < (k34 : Int)) ∧ ∃ (n37 : Int), World.cell? w30 (Addr.add ad36 0) = some (Value.int
  IntKind.i64 n37) ∧ ∃ (ad38 : Addr), p33 = some ad38 ∧ ((0 : Int) ≤ (1 : Int) ∧ (1 : Int) < (k34 : Int)) ∧ ∃ (n39 : Int), World.cell? w30
  (Addr.add ad38 1) = some (Value.int IntKind.i64 n39) ∧ ∀ (k40 : Nat), appendP false [] [k40] [k40] w30 p26 k27 k28 1 (spl (reps [Value.int
  IntKind.i64 (0 : Int), Value.string { data := { toList := [] } }, Value.int IntKind.i64 (0 : Int)] 1) 0 (spl (spl (spl [Value.int
  IntKind.i64 (0 : Int), Value.string { data := { toList := [] } }, Value.int IntKind.i64 (0 : Int)] 0 [Value.int IntKind.i64 n37]) 1
  [Value.string { data := { toList := [(97 : UInt8)] } }]) 2 [Value.int IntKind.i64 n39])) 3 32 [Value.int IntKind.i64 (0 : Int),
  Value.string { data := { toList := [] } }, Value.int IntKind.i64 (0 : Int)] fun (w41 : World) (p42 : Option Addr) (k43 k44 : Nat) => ∃
  (k45 : Nat), k45 < k25 ∧ y23 k45 p42 k43 k44 (IntKind.wrap IntKind.i64 (n29 + (1 : Int))) w41) (Calls Proofs.Try.prog (15 : Nat) { toList := [Value.string { data := { toList := [(97 : UInt8)] } }, Value.slice p26 k27 k28] }
  w30 fun (e46 : Ending) (w47 : World) => ∃ (p48 : Option Addr), ∃ (k49 : Nat), ∃ (k50 : Nat), ∃ (n51 : Int), e46 = Ending.returned
  (Value.tuple { toList := [Value.slice p48 k49 k50, Value.int IntKind.i64 n51] }) ∧ ∀ (y52 : Bool → World → Prop), (∀ (b53 : Bool) (w54 :
  World), R (Ending.returned (Value.bool b53)) w54 → y52 b53 w54) → bcase (decide (n51 = (0 : Int))) (Calls Proofs.Try.prog (17 : Nat) { toList := [Value.slice p10 k11 k12, Value.slice p48 k49 k50] }
  w47 fun (e57 : Ending) (w58 : World) => ∃ (b59 : Bool), e57 = Ending.returned (Value.bool b59) ∧ y52 b59 w58) (y52 false w47))) → y20 b21
  w22) → bcase (!decide (n13 = (0 : Int))) (y20 true w19) (bcase (!decide (n18 = (0 : Int))) (y20 true w19) (Calls Proofs.Try.prog (25 :
  Nat) { toList := [Value.slice p10 k11 k12, Value.slice p15 k16 k17] } w19 fun (e62 : Ending) (w63 : World) => ∃ (p64 : Option Addr), ∃
  (k65 : Nat), ∃ (k66 : Nat), e62 = Ending.returned (Value.slice p64 k65 k66) ∧ Keep [k1] w19 w63 ∧ bcase (decide ((0 : Int) < (k65 : Int)))
  (y20 true w63) (∀ (k67 : Nat) (w68 : World), Step w63 w68 [] [k67] → Blk w68 k67 (spl (spl (reps [Value.int IntKind.i64 (0 : Int)] 2) 0
  [Value.int IntKind.i64 moreFrom]) 1 [Value.int IntKind.i64 moreTo]) → Calls Proofs.Try.prog (24 : Nat) { toList := [Value.slice p15 k16 k17, Value.slice (some { block := k67, off := 0 }) 2 2] }
  w68 fun (e71 : Ending) (w72 : World) => ∃ (b73 : Bool), e71 = Ending.returned (Value.bool b73) ∧ Keep [k1] w68 w72 ∧ y20 (!b73) w72)))) →
  y14 p15 k16 k17 n18 w19) → (∀ (k76 : Nat), (∀ (w77 : World), Step w9 w77 [k1] [k76] → Blk w77 k76 (reps [Value.int IntKind.i64 (0 : Int),
  Value.string { data := { toList := [] } }, Value.int IntKind.i64 (0 : Int)] 0) → ∃ (l80 : List Value), List.length l80 = edgesL * 3 ∧ Row
  w77 edgesA l80 ∧ appendP true [] [] [k1] w77 (some { block := k76, off := 0 }) 0 0 edgesL l80 3 32 [Value.int IntKind.i64 (0 : Int),
  Value.string { data := { toList := [] } }, Value.int IntKind.i64 (0 : Int)] fun (w81 : World) (p82 : Option Addr) (k83 k84 : Nat) => ∀
  (k85 : Nat), appendP false [] [k85] [k1, k85] w81 p82 k83 k84 1 (spl (reps [Value.int IntKind.i64 (0 : Int), Value.string
  { data := { toList := [] } }, Value.int IntKind.i64 (0 : Int)] 1) 0 (List.take 3 (List.drop 0 (sets [Value.int IntKind.i64 moreFrom,
  Value.string moreLabel, Value.int IntKind.i64 moreTo] 1 [Value.string { data := { toList := [(97 : UInt8)] } }])))) 3 32 [Value.int
  IntKind.i64 (0 : Int), Value.string { data := { toList := [] } }, Value.int IntKind.i64 (0 : Int)] fun (w86 : World) (p87 : Option Addr)
  (k88 k89 : Nat) => Calls Proofs.Try.prog (15 : Nat) { toList := [Value.string { data := { toList := [(97 : UInt8)] } }, Value.slice p87 k88 k89] }
  w86 fun (e90 : Ending) (w91 : World) => ∃ (p92 : Option Addr), ∃ (k93 : Nat), ∃ (k94 : Nat), ∃ (n95 : Int), e90 = Ending.returned
  (Value.tuple { toList := [Value.slice p92 k93 k94, Value.int IntKind.i64 n95] }) ∧ Keep [k1, k85] w86 w91 ∧ y14 p92 k93 k94 n95 w91) ∧ ∀
  (k96 : Nat) (w97 : World), Step w9 w97 [k1] [k96, k76] → Blk w97 k76 (reps [Value.int IntKind.i64 (0 : Int), Value.string
  { data := { toList := [] } }, Value.int IntKind.i64 (0 : Int)] 0) → ∃ (l100 : List Value), List.length l100 = edgesL * 3 ∧ Row w97 edgesA
  l100 ∧ appendP true [] [] [k1, k96] w97 (some { block := k76, off := 0 }) 0 0 edgesL l100 3 32 [Value.int IntKind.i64 (0 : Int),
  Value.string { data := { toList := [] } }, Value.int IntKind.i64 (0 : Int)] fun (w101 : World) (p102 : Option Addr) (k103 k104 : Nat) =>
  appendP true [] [] [k1, k96] w101 p102 k103 k104 1 (spl (reps [Value.int IntKind.i64 (0 : Int), Value.string { data := { toList := [] } },
  Value.int IntKind.i64 (0 : Int)] 1) 0 (List.take 3 (List.drop 0 (sets [Value.int IntKind.i64 moreFrom, Value.string moreLabel, Value.int
  IntKind.i64 moreTo] 1 [Value.string { data := { toList := [(97 : UInt8)] } }])))) 3 32 [Value.int IntKind.i64 (0 : Int), Value.string
  { data := { toList := [] } }, Value.int IntKind.i64 (0 : Int)] fun (w105 : World) (p106 : Option Addr) (k107 k108 : Nat) => Calls
  Proofs.Try.prog (15 : Nat) { toList := [Value.string { data := { toList := [(97 : UInt8)] } }, Value.slice p106 k107 k108] } w105 fun
  (e109 : Ending) (w110 : World) => ∃ (p111 : Option Addr), ∃ (k112 : Nat), ∃ (k113 : Nat), ∃ (n114 : Int), e109 = Ending.returned
  (Value.tuple { toList := [Value.slice p111 k112 k113, Value.int IntKind.i64 n114] }) ∧ Keep [k1, k96] w105 w110 ∧ y14 p111 k112 k113 n114
  w110) ∧ ∀ (k115 k116 : Nat) (w117 : World), Step w9 w117 [k1] [k116, k115] → Blk w117 k116 (reps [Value.int IntKind.i64 (0 : Int),
  Value.string { data := { toList := [] } }, Value.int IntKind.i64 (0 : Int)] 0) → ∃ (l120 : List Value), List.length l120 = edgesL * 3 ∧
  Row w117 edgesA l120 ∧ appendP true [] [] [k1, k115] w117 (some { block := k116, off := 0 }) 0 0 edgesL l120 3 32 [Value.int IntKind.i64
  (0 : Int), Value.string { data := { toList := [] } }, Value.int IntKind.i64 (0 : Int)] fun (w121 : World) (p122 : Option Addr) (k123 k124
  : Nat) => appendP true [] [] [k1, k115] w121 p122 k123 k124 1 (spl (reps [Value.int IntKind.i64 (0 : Int), Value.string
  { data := { toList := [] } }, Value.int IntKind.i64 (0 : Int)] 1) 0 (List.take 3 (List.drop 0 (sets [Value.int IntKind.i64 moreFrom,
  Value.string moreLabel, Value.int IntKind.i64 moreTo] 1 [Value.string { data := { toList := [(97 : UInt8)] } }])))) 3 32 [Value.int
  IntKind.i64 (0 : Int), Value.string { data := { toList := [] } }, Value.int IntKind.i64 (0 : Int)] fun (w125 : World) (p126 : Option Addr)
  (k127 k128 : Nat) => Calls Proofs.Try.prog (15 : Nat) { toList := [Value.string { data := { toList := [(97 : UInt8)] } }, Value.slice p126 k127 k128] }
  w125 fun (e129 : Ending) (w130 : World) => ∃ (p131 : Option Addr), ∃ (k132 : Nat), ∃ (k133 : Nat), ∃ (n134 : Int), e129 = Ending.returned
  (Value.tuple { toList := [Value.slice p131 k132 k133, Value.int IntKind.i64 n134] }) ∧ Keep [k1, k115] w125 w130 ∧ y14 p131 k132 k133 n134
  w130) → y2 b3 w4) → ∀ (w137 : World), Step w w137 [] [k1] → Calls Proofs.Try.prog (14 : Nat) { toList := [] } w137 fun (e139 : Ending)
  (w140 : World) => ∃ (b141 : Bool), e139 = Ending.returned (Value.bool b141) ∧ Keep [k1] w137 w140 ∧ bcase (!b141) (y2 true w140) (y2
  (decide ((20 : Int) < (edgesL : Int))) w140)

theorem rhizomelaw13_SpanMore.link {edgesA : Option Addr} {edgesL edgesC : Nat} {moreFrom : Int} {moreLabel : ByteArray} {moreTo : Int} {R : Ending → World → Prop} {w : World} (h : rhizomelaw13_SpanMore.vc edgesA edgesL edgesC moreFrom moreLabel moreTo R w) : Calls Go.Proofs.Try.prog 7 #[.slice edgesA edgesL edgesC, (.agg #[.int .i64 moreFrom, .string moreLabel, .int .i64 moreTo] : Value)] w R :=
  calls_of pf (fn := Go.Proofs.Try.f7) (ann := .s (.n) (.s (.j ⟨[], [], [0], [(20, .l (.b))], []⟩ (.n) (.c (.s (.n) (.n)) (.n))) (.s (.n) (.s (.n) (.j ⟨[], [], [0], [(7, .l (.sl)), (8, .l (.i .i64))], []⟩ (.d [0]) (.s (.j ⟨[], [], [], [(60, .l (.b))], []⟩ (.n) (.c (.s (.n) (.n)) (.n))) (.s (.n) (.s (.s (.n) (.b (.l ⟨[], [], [], [(9, .l (.sl)), (63, .l (.i .i64))], []⟩ (.s (.n) (.s (.c (.n) (.n)) (.s (.b (.s (.n) (.n))) (.n))))))) (.s (.n) (.j ⟨[], [], [], [(4, .l (.b))], []⟩ (.n) (.n))))))))))) (mp := false) (args := [.v (.slice edgesA edgesL edgesC), .v (.agg #[.int .i64 moreFrom, .string moreLabel, .int .i64 moreTo])]) Go.Proofs.Try.func7 (c := Go.Proofs.Try.f7.body.getD .skip) (by kernel_rfl) (by kernel_rfl) (Eq.mp (by kernel_rfl) h)
theorem rhizomelaw13_SpanMore.body : BodyOk Go.Proofs.Try.prog 7 := ⟨Go.Proofs.Try.f7, Go.Proofs.Try.func7, by kernel_rfl, pf.ng _ _ Go.Proofs.Try.func7⟩

end Go.Proofs.Ytnplopiconabiaa.VC
