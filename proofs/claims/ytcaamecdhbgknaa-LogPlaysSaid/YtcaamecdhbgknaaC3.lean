/- What is to be shown of functions' texts, printed by a program of this session's repo; that it gives the functions' contracts is checked by the kernel. -/
import Derived.Test.YtcaamecdhbgknaaProg
import Derived.Test.YtcaamecdhbgknaaPf
namespace Go.Proofs.Ytcaamecdhbgknaa.VC
open Go Go.V
set_option maxRecDepth 1000000
set_option linter.unusedVariables false

/-! ### rhizome/rhizomeref03.New: function 30 -/
def rhizomeref03_New.vc (n : Int) (R : Ending → World → Prop) (w : World) : Prop := ∀ (k1 : Nat) (y2 : Bool → World → Prop), (∀ (b3 : Bool)
  (w4 : World), bcase b3 (∀ (w5 : World), Step w4 w5 [k1] [] → R (Ending.returned (Value.tuple { toList := [Value.agg { toList := List.take 5 (List.drop 0 (sets [Value.slice none 0 0, Value.slice none 0 0, Value.slice none 0 0, Value.int IntKind.i64 (0 : Int), Value.int IntKind.i64 (0 : Int)] 0 [Value.slice none 0 0, Value.slice none 0 0, Value.slice none 0 0, Value.int IntKind.i64 (0 : Int), Value.int IntKind.i64 (0 : Int)])) }, Value.int IntKind.i64 (1 : Int)] }))
  w5) (((0 : Int) ≤ n ∧ n ≤ n ∧ ((1 : Nat) : Int) * n ≤ (281474976710656 : Int) ∧ n ≤ (281474976710656 : Int)) ∧ ∀ (w7 : World) (k8 : Nat),
  Step w4 w7 [] [k8] → Blk w7 k8 (reps [Value.bool false] (Int.toNat n)) → ∀ (k11 : Nat), ∃ (y12 : Nat → Int → Option Addr → Nat → Nat →
  Option Addr → Nat → Nat → Option Addr → Nat → Nat → Int → Int → World → Prop), ∃ (k13 : Nat), (∀ (w14 : World), Step w7 w14 [] [k11] → y12
  k13 (0 : Int) none 0 0 none 0 0 (some { block := k8, off := 0 }) (Int.toNat n) (Int.toNat n) (0 : Int) (-1 : Int) w14) ∧ ∀ (k16 : Nat)
  (n17 : Int) (p18 : Option Addr) (k19 k20 : Nat) (p21 : Option Addr) (k22 k23 : Nat) (p24 : Option Addr) (k25 k26 : Nat) (n27 n28 : Int)
  (w29 : World), y12 k16 n17 p18 k19 k20 p21 k22 k23 p24 k25 k26 n27 n28 w29 → bcase (decide (n17 < n)) ((∀ (w31 : World), Step w29 w31 []
  [] → Calls Proofs.Try.prog (61 : Nat) { toList := [] } w31 fun (e33 : Ending) (w34 : World) => ∃ (s35 : ByteArray), e33 = Ending.returned
  (Value.string s35) ∧ Keep [k1, k11] w31 w34 ∧ ∀ (k36 : Nat), appendP false [] [k36] [k1, k11, k36] w34 p18 k19 k20 1 (spl (reps
  [Value.string { data := { toList := [] } }] 1) 0 [Value.string s35]) 1 16 [Value.string { data := { toList := [] } }] fun (w37 : World)
  (p38 : Option Addr) (k39 k40 : Nat) => (∀ (w41 : World), Step w37 w41 [k11] [] → Calls Proofs.Try.prog (61 : Nat) { toList := [] } w41 fun
  (e43 : Ending) (w44 : World) => ∃ (s45 : ByteArray), e43 = Ending.returned (Value.string s45) ∧ Keep [k1, k11, k36] w41 w44 ∧ ∀ (k46 :
  Nat), appendP false [] [k46] [k1, k11, k36, k46] w44 p21 k22 k23 1 (spl (reps [Value.string { data := { toList := [] } }] 1) 0
  [Value.string s45]) 1 16 [Value.string { data := { toList := [] } }] fun (w47 : World) (p48 : Option Addr) (k49 k50 : Nat) => ∃ (k51 :
  Nat), k51 < k16 ∧ ∀ (w52 : World), Step w47 w52 [k11] [] → y12 k51 (IntKind.wrap IntKind.i64 (n17 + (1 : Int))) p38 k39 k40 p48 k49 k50
  p24 k25 k26 n27 n28 w52) ∧ ∀ (w54 : World), Step w37 w54 [k11] [] → Calls Proofs.Try.prog (61 : Nat) { toList := [] } w54 fun (e56 :
  Ending) (w57 : World) => ∃ (s58 : ByteArray), e56 = Ending.returned (Value.string s58) ∧ Keep [k1, k11, k36] w54 w57 ∧ (∀ (k59 : Nat),
  appendP false [] [k59] [k1, k11, k36, k59] w57 p21 k22 k23 1 (spl (reps [Value.string { data := { toList := [] } }] 1) 0 [Value.string
  s58]) 1 16 [Value.string { data := { toList := [] } }] fun (w60 : World) (p61 : Option Addr) (k62 k63 : Nat) => ∃ (k64 : Nat), k64 < k16 ∧
  ∀ (w65 : World), Step w60 w65 [k11] [] → y12 k64 (IntKind.wrap IntKind.i64 (n17 + (1 : Int))) p38 k39 k40 p61 k62 k63 p24 k25 k26 n27 n28
  w65) ∧ ∀ (k67 : Nat), appendP false [] [k67] [k1, k11, k36, k67] w57 p21 k22 k23 1 (spl (reps [Value.string { data := { toList := [] } }]
  1) 0 [Value.string s58]) 1 16 [Value.string { data := { toList := [] } }] fun (w68 : World) (p69 : Option Addr) (k70 k71 : Nat) => ∃ (k72
  : Nat), k72 < k16 ∧ ∀ (w73 : World), Step w68 w73 [k11] [] → y12 k72 (IntKind.wrap IntKind.i64 (n17 + (1 : Int))) p38 k39 k40 p69 k70 k71
  p24 k25 k26 n27 n28 w73) ∧ ∀ (w75 : World), Step w29 w75 [] [] → Calls Proofs.Try.prog (61 : Nat) { toList := [] } w75 fun (e77 : Ending)
  (w78 : World) => ∃ (s79 : ByteArray), e77 = Ending.returned (Value.string s79) ∧ Keep [k1, k11] w75 w78 ∧ (∀ (k80 : Nat), appendP false []
  [k80] [k1, k11, k80] w78 p18 k19 k20 1 (spl (reps [Value.string { data := { toList := [] } }] 1) 0 [Value.string s79]) 1 16 [Value.string
  { data := { toList := [] } }] fun (w81 : World) (p82 : Option Addr) (k83 k84 : Nat) => (∀ (w85 : World), Step w81 w85 [k11] [] → Calls
  Proofs.Try.prog (61 : Nat) { toList := [] } w85 fun (e87 : Ending) (w88 : World) => ∃ (s89 : ByteArray), e87 = Ending.returned
  (Value.string s89) ∧ Keep [k1, k11, k80] w85 w88 ∧ ∀ (k90 : Nat), appendP false [] [k90] [k1, k11, k80, k90] w88 p21 k22 k23 1 (spl (reps
  [Value.string { data := { toList := [] } }] 1) 0 [Value.string s89]) 1 16 [Value.string { data := { toList := [] } }] fun (w91 : World)
  (p92 : Option Addr) (k93 k94 : Nat) => ∃ (k95 : Nat), k95 < k16 ∧ ∀ (w96 : World), Step w91 w96 [k11] [] → y12 k95 (IntKind.wrap
  IntKind.i64 (n17 + (1 : Int))) p82 k83 k84 p92 k93 k94 p24 k25 k26 n27 n28 w96) ∧ ∀ (w98 : World), Step w81 w98 [k11] [] → Calls
  Proofs.Try.prog (61 : Nat) { toList := [] } w98 fun (e100 : Ending) (w101 : World) => ∃ (s102 : ByteArray), e100 = Ending.returned
  (Value.string s102) ∧ Keep [k1, k11, k80] w98 w101 ∧ (∀ (k103 : Nat), appendP false [] [k103] [k1, k11, k80, k103] w101 p21 k22 k23 1 (spl
  (reps [Value.string { data := { toList := [] } }] 1) 0 [Value.string s102]) 1 16 [Value.string { data := { toList := [] } }] fun (w104 :
  World) (p105 : Option Addr) (k106 k107 : Nat) => ∃ (k108 : Nat), k108 < k16 ∧ ∀ (w109 : World), Step w104 w109 [k11] [] → y12 k108
  (IntKind.wrap IntKind.i64 (n17 + (1 : Int))) p82 k83 k84 p105 k106 k107 p24 k25 k26 n27 n28 w109) ∧ ∀ (k111 : Nat), appendP false []
  [k111] [k1, k11, k80, k111] w101 p21 k22 k23 1 (spl (reps [Value.string { data := { toList := [] } }] 1) 0 [Value.string s102]) 1 16
  [Value.string { data := { toList := [] } }] fun (w112 : World) (p113 : Option Addr) (k114 k115 : Nat) => ∃ (k116 : Nat), k116 < k16 ∧ ∀
  (w117 : World), Step w112 w117 [k11] [] → y12 k116 (IntKind.wrap IntKind.i64 (n17 + (1 : Int))) p82 k83 k84 p113 k114 k115 p24 k25 k26 n27
  n28 w117) ∧ ∀ (k119 : Nat), appendP false [] [k119] [k1, k11, k119] w78 p18 k19 k20 1 (spl (reps [Value.string
  { data := { toList := [] } }] 1) 0 [Value.string s79]) 1 16 [Value.string { data := { toList := [] } }] fun (w120 : World) (p121 : Option
  Addr) (k122 k123 : Nat) => (∀ (w124 : World), Step w120 w124 [k11] [] → Calls Proofs.Try.prog (61 : Nat) { toList := [] } w124 fun (e126 :
  Ending) (w127 : World) => ∃ (s128 : ByteArray), e126 = Ending.returned (Value.string s128) ∧ Keep [k1, k11, k119] w124 w127 ∧ ∀ (k129 :
  Nat), appendP false [] [k129] [k1, k11, k119, k129] w127 p21 k22 k23 1 (spl (reps [Value.string { data := { toList := [] } }] 1) 0
  [Value.string s128]) 1 16 [Value.string { data := { toList := [] } }] fun (w130 : World) (p131 : Option Addr) (k132 k133 : Nat) => ∃ (k134
  : Nat), k134 < k16 ∧ ∀ (w135 : World), Step w130 w135 [k11] [] → y12 k134 (IntKind.wrap IntKind.i64 (n17 + (1 : Int))) p121 k122 k123 p131
  k132 k133 p24 k25 k26 n27 n28 w135) ∧ ∀ (w137 : World), Step w120 w137 [k11] [] → Calls Proofs.Try.prog (61 : Nat) { toList := [] } w137
  fun (e139 : Ending) (w140 : World) => ∃ (s141 : ByteArray), e139 = Ending.returned (Value.string s141) ∧ Keep [k1, k11, k119] w137 w140 ∧
  (∀ (k142 : Nat), appendP false [] [k142] [k1, k11, k119, k142] w140 p21 k22 k23 1 (spl (reps [Value.string { data := { toList := [] } }]
  1) 0 [Value.string s141]) 1 16 [Value.string { data := { toList := [] } }] fun (w143 : World) (p144 : Option Addr) (k145 k146 : Nat) => ∃
  (k147 : Nat), k147 < k16 ∧ ∀ (w148 : World), Step w143 w148 [k11] [] → y12 k147 (IntKind.wrap IntKind.i64 (n17 + (1 : Int))) p121 k122
  k123 p144 k145 k146 p24 k25 k26 n27 n28 w148) ∧ ∀ (k150 : Nat), appendP false [] [k150] [k1, k11, k119, k150] w140 p21 k22 k23 1 (spl
  (reps [Value.string { data := { toList := [] } }] 1) 0 [Value.string s141]) 1 16 [Value.string { data := { toList := [] } }] fun (w151 :
  World) (p152 : Option Addr) (k153 k154 : Nat) => ∃ (k155 : Nat), k155 < k16 ∧ ∀ (w156 : World), Step w151 w156 [k11] [] → y12 k155
  (IntKind.wrap IntKind.i64 (n17 + (1 : Int))) p121 k122 k123 p152 k153 k154 p24 k25 k26 n27 n28 w156) (∀ (w158 : World), Step w29 w158 [k1]
  [] → R (Ending.returned (Value.tuple { toList := [Value.agg { toList := List.take 5 (List.drop 0 (sets [Value.slice none 0 0, Value.slice none 0 0, Value.slice none 0 0, Value.int IntKind.i64 (0 : Int), Value.int IntKind.i64 (0 : Int)] 0 [Value.slice p18 k19 k20, Value.slice p21 k22 k23, Value.slice p24 k25 k26, Value.int IntKind.i64 n27, Value.int IntKind.i64 n28])) }, Value.int IntKind.i64 (0 : Int)] }))
  w158)) → y2 b3 w4) → bcase (decide (n < (1 : Int))) (∀ (w162 : World), Step w w162 [] [k1] → y2 true w162) (∀ (w164 : World), Step w w164
  [] [k1] → y2 (decide ((4096 : Int) < n)) w164)

theorem rhizomeref03_New.link {n : Int} {R : Ending → World → Prop} {w : World} (h : rhizomeref03_New.vc n R w) : Calls Go.Proofs.Try.prog 30 #[.int .i64 n] w R :=
  calls_of pf (fn := Go.Proofs.Try.f30) (ann := .s (.n) (.s (.j ⟨[], [], [0], [(11, .l (.b))], []⟩ (.n) (.c (.s (.n) (.n)) (.n))) (.s (.n) (.s (.s (.n) (.b (.l ⟨[], [], [0], [(5, .l (.i .i64))], [(1, [.sl, .sl, .sl, .i .i64, .i .i64])]⟩ (.s (.s (.n) (.c (.n) (.n))) (.s (.b (.s (.d [0]) (.d [0, 2]))) (.n)))))) (.s (.n) (.n)))))) (mp := false) (args := [.v (.int .i64 n)]) Go.Proofs.Try.func30 (c := Go.Proofs.Try.f30.body.getD .skip) (by kernel_rfl) (by kernel_rfl) (Eq.mp (by kernel_rfl) h)
theorem rhizomeref03_New.body : BodyOk Go.Proofs.Try.prog 30 := ⟨Go.Proofs.Try.f30, Go.Proofs.Try.func30, by kernel_rfl, pf.ng _ _ Go.Proofs.Try.func30⟩

/-! ### rhizome/rhizomeref03.Write: function 38 -/
def rhizomeref03_Write.vc (dSureA : Option Addr) (dSureL dSureC : Nat) (dNowA : Option Addr) (dNowL dNowC : Nat) (dFreshA : Option Addr)
  (dFreshL dFreshC : Nat) (dSteps : Int) (dLeft : Int) (i : Int) (b : ByteArray) (R : Ending → World → Prop) (w : World) : Prop := ∀ (k1 k2
  : Nat) (y3 : Bool → World → Prop), (∀ (b4 : Bool) (w5 : World), bcase b4 (∀ (w6 : World), Step w5 w6 [k2] [] → R (Ending.returned
  (Value.tuple { toList := [Value.agg { toList := List.take 5 (List.drop 0 (sets [Value.slice none 0 0, Value.slice none 0 0, Value.slice none 0 0, Value.int IntKind.i64 (0 : Int), Value.int IntKind.i64 (0 : Int)] 0 [Value.slice dSureA dSureL dSureC, Value.slice dNowA dNowL dNowC, Value.slice dFreshA dFreshL dFreshC, Value.int IntKind.i64 dSteps, Value.int IntKind.i64 dLeft])) }, Value.int IntKind.i64 (1 : Int)] }))
  w6) (Calls Proofs.Try.prog (71 : Nat) { toList := [Value.agg { toList := [Value.slice dSureA dSureL dSureC, Value.slice dNowA dNowL dNowC, Value.slice dFreshA dFreshL dFreshC, Value.int IntKind.i64 dSteps, Value.int IntKind.i64 dLeft] }] }
  w5 fun (e8 : Ending) (w9 : World) => ∃ (p10 : Option Addr), ∃ (k11 : Nat), ∃ (k12 : Nat), ∃ (p13 : Option Addr), ∃ (k14 : Nat), ∃ (k15 :
  Nat), ∃ (p16 : Option Addr), ∃ (k17 : Nat), ∃ (k18 : Nat), ∃ (n19 : Int), ∃ (n20 : Int), ∃ (b21 : Bool), e8 = Ending.returned (Value.tuple
  { toList := [Value.agg { toList := [Value.slice p10 k11 k12, Value.slice p13 k14 k15, Value.slice p16 k17 k18, Value.int IntKind.i64 n19, Value.int IntKind.i64 n20] }, Value.bool b21] })
  ∧ Keep [k1, k2] w5 w9 ∧ bcase (!b21) (∀ (w22 : World), Step w9 w22 [k2, k1] [] → R (Ending.returned (Value.tuple { toList := [Value.agg { toList := List.take 5 (List.drop 0 (sets [Value.slice none 0 0, Value.slice none 0 0, Value.slice none 0 0, Value.int IntKind.i64 (0 : Int), Value.int IntKind.i64 (0 : Int)] 0 (List.take 5 (List.drop 0 (sets [Value.slice dSureA dSureL dSureC, Value.slice dNowA dNowL dNowC, Value.slice dFreshA dFreshL dFreshC, Value.int IntKind.i64 dSteps, Value.int IntKind.i64 dLeft] 0 [Value.slice p10 k11 k12, Value.slice p13 k14 k15, Value.slice p16 k17 k18, Value.int IntKind.i64 n19, Value.int IntKind.i64 n20]))))) }, Value.int IntKind.i64 (30 : Int)] }))
  w22) (∀ (k24 : Nat) (w25 : World), Step w9 w25 [k1] [k24] → Blk w25 k24 (reps [Value.string { data := { toList := [] } }] 0) → ∃ (l28 :
  List Value), List.length l28 = k14 * 1 ∧ Row w25 p13 l28 ∧ appendP true [] [] [k1, k2] w25 (some { block := k24, off := 0 }) 0 0 k14 l28 1
  16 [Value.string { data := { toList := [] } }] fun (w29 : World) (p30 : Option Addr) (k31 k32 : Nat) => ∀ (k33 : Nat) (w34 : World), Step
  w29 w34 [k1] [k33] → Blk w34 k33 (reps [Value.bool false] 0) → ∃ (l37 : List Value), List.length l37 = k17 * 1 ∧ Row w34 p16 l37 ∧ appendP
  true [] [] [k1, k2] w34 (some { block := k33, off := 0 }) 0 0 k17 l37 1 1 [Value.bool false] fun (w38 : World) (p39 : Option Addr) (k40
  k41 : Nat) => ∃ (ad42 : Addr), p30 = some ad42 ∧ ((0 : Int) ≤ i ∧ i < (k31 : Int)) ∧ ∀ (w43 : World), Step w38 w43 [k1] [] → ∃ (l45 : List
  Value), Blk w43 (Addr.block (Addr.add ad42 (Int.toNat i * 1))) l45 ∧ Addr.spot (Addr.add ad42 (Int.toNat i * 1)) = none ∧ Addr.off
  (Addr.add ad42 (Int.toNat i * 1)) + List.length [Value.string b] ≤ List.length l45 ∧ ¬Addr.block (Addr.add ad42 (Int.toNat i * 1)) ∈ [k1,
  k2] ∧ ∀ (w46 : World), Upd w43 w46 (Addr.block (Addr.add ad42 (Int.toNat i * 1))) (sets l45 (Addr.off (Addr.add ad42 (Int.toNat i * 1)))
  [Value.string b]) → ∃ (ad48 : Addr), p39 = some ad48 ∧ ((0 : Int) ≤ i ∧ i < (k40 : Int)) ∧ ∃ (l49 : List Value), Blk w46 (Addr.block
  (Addr.add ad48 (Int.toNat i * 1))) l49 ∧ Addr.spot (Addr.add ad48 (Int.toNat i * 1)) = none ∧ Addr.off (Addr.add ad48 (Int.toNat i * 1)) +
  1 ≤ List.length l49 ∧ ¬Addr.block (Addr.add ad48 (Int.toNat i * 1)) ∈ [k1, k2] ∧ ∀ (w50 : World), Upd w46 w50 (Addr.block (Addr.add ad48
  (Int.toNat i * 1))) (sets l49 (Addr.off (Addr.add ad48 (Int.toNat i * 1))) [Value.bool true]) → ∀ (w52 : World), Step w50 w52 [k2] [] → R
  (Ending.returned (Value.tuple { toList := [Value.agg { toList := List.take 5 (List.drop 0 (sets [Value.slice none 0 0, Value.slice none 0 0, Value.slice none 0 0, Value.int IntKind.i64 (0 : Int), Value.int IntKind.i64 (0 : Int)] 0 (List.take 5 (List.drop 0 (sets (sets (sets [Value.slice dSureA dSureL dSureC, Value.slice dNowA dNowL dNowC, Value.slice dFreshA dFreshL dFreshC, Value.int IntKind.i64 dSteps, Value.int IntKind.i64 dLeft] 0 [Value.slice p10 k11 k12, Value.slice p13 k14 k15, Value.slice p16 k17 k18, Value.int IntKind.i64 n19, Value.int IntKind.i64 n20]) 1 [Value.slice p30 k31 k32]) 2 [Value.slice p39 k40 k41]))))) }, Value.int IntKind.i64 (0 : Int)] }))
  w52)) → y3 b4 w5) → bcase (decide (i < (0 : Int))) (∀ (w56 : World), Step w w56 [] [k2, k1] → y3 true w56) (bcase (decide ((dNowL : Int) ≤
  i)) (∀ (w58 : World), Step w w58 [] [k2, k1] → y3 true w58) (∀ (w60 : World), Step w w60 [] [k2, k1] → y3 (!decide (((ByteArray.size b) :
  Int) = (64 : Int))) w60))

theorem rhizomeref03_Write.link {dSureA : Option Addr} {dSureL dSureC : Nat} {dNowA : Option Addr} {dNowL dNowC : Nat} {dFreshA : Option Addr} {dFreshL dFreshC : Nat} {dSteps : Int} {dLeft : Int} {i : Int} {b : ByteArray} {R : Ending → World → Prop} {w : World} (h : rhizomeref03_Write.vc dSureA dSureL dSureC dNowA dNowL dNowC dFreshA dFreshL dFreshC dSteps dLeft i b R w) : Calls Go.Proofs.Try.prog 38 #[(.agg #[.slice dSureA dSureL dSureC, .slice dNowA dNowL dNowC, .slice dFreshA dFreshL dFreshC, .int .i64 dSteps, .int .i64 dLeft] : Value), .int .i64 i, .string b] w R :=
  calls_of pf (fn := Go.Proofs.Try.f38) (ann := .s (.n) (.s (.j ⟨[], [], [0, 1], [(22, .l (.b))], []⟩ (.n) (.c (.s (.n) (.n)) (.n))) (.s (.n) (.s (.s (.n) (.c (.s (.n) (.n)) (.n))) (.s (.n) (.s (.n) (.s (.n) (.s (.n) (.s (.n) (.n)))))))))) (mp := false) (args := [.v (.agg #[.slice dSureA dSureL dSureC, .slice dNowA dNowL dNowC, .slice dFreshA dFreshL dFreshC, .int .i64 dSteps, .int .i64 dLeft]), .v (.int .i64 i), .v (.string b)]) Go.Proofs.Try.func38 (c := Go.Proofs.Try.f38.body.getD .skip) (by kernel_rfl) (by kernel_rfl) (Eq.mp (by kernel_rfl) h)
theorem rhizomeref03_Write.body : BodyOk Go.Proofs.Try.prog 38 := ⟨Go.Proofs.Try.f38, Go.Proofs.Try.func38, by kernel_rfl, pf.ng _ _ Go.Proofs.Try.func38⟩

/-! ### rhizome/rhizomeref03.Arm: function 45 -/
def rhizomeref03_Arm.vc (dSureA : Option Addr) (dSureL dSureC : Nat) (dNowA : Option Addr) (dNowL dNowC : Nat) (dFreshA : Option Addr)
  (dFreshL dFreshC : Nat) (dSteps : Int) (dLeft : Int) (n : Int) (R : Ending → World → Prop) (w : World) : Prop := ∀ (k1 k2 : Nat), bcase
  (decide (n < (0 : Int))) (∀ (w3 : World), Step w w3 [] [k2, k1] → R (Ending.returned (Value.tuple { toList := [Value.agg { toList := List.take 5 (List.drop 0 (sets [Value.slice none 0 0, Value.slice none 0 0, Value.slice none 0 0, Value.int IntKind.i64 (0 : Int), Value.int IntKind.i64 (0 : Int)] 0 [Value.slice dSureA dSureL dSureC, Value.slice dNowA dNowL dNowC, Value.slice dFreshA dFreshL dFreshC, Value.int IntKind.i64 dSteps, Value.int IntKind.i64 dLeft])) }, Value.int IntKind.i64 (1 : Int)] }))
  w3) (bcase (decide (dLeft = (0 : Int))) (∀ (w5 : World), Step w w5 [] [k2, k1] → R (Ending.returned (Value.tuple { toList := [Value.agg { toList := List.take 5 (List.drop 0 (sets [Value.slice none 0 0, Value.slice none 0 0, Value.slice none 0 0, Value.int IntKind.i64 (0 : Int), Value.int IntKind.i64 (0 : Int)] 0 [Value.slice dSureA dSureL dSureC, Value.slice dNowA dNowL dNowC, Value.slice dFreshA dFreshL dFreshC, Value.int IntKind.i64 dSteps, Value.int IntKind.i64 dLeft])) }, Value.int IntKind.i64 (30 : Int)] }))
  w5) (∀ (w7 : World), Step w w7 [] [k2, k1] → R (Ending.returned (Value.tuple { toList := [Value.agg { toList := List.take 5 (List.drop 0 (sets [Value.slice none 0 0, Value.slice none 0 0, Value.slice none 0 0, Value.int IntKind.i64 (0 : Int), Value.int IntKind.i64 (0 : Int)] 0 (List.take 5 (List.drop 0 (sets [Value.slice dSureA dSureL dSureC, Value.slice dNowA dNowL dNowC, Value.slice dFreshA dFreshL dFreshC, Value.int IntKind.i64 dSteps, Value.int IntKind.i64 dLeft] 4 [Value.int IntKind.i64 n]))))) }, Value.int IntKind.i64 (0 : Int)] }))
  w7))

theorem rhizomeref03_Arm.link {dSureA : Option Addr} {dSureL dSureC : Nat} {dNowA : Option Addr} {dNowL dNowC : Nat} {dFreshA : Option Addr} {dFreshL dFreshC : Nat} {dSteps : Int} {dLeft : Int} {n : Int} {R : Ending → World → Prop} {w : World} (h : rhizomeref03_Arm.vc dSureA dSureL dSureC dNowA dNowL dNowC dFreshA dFreshL dFreshC dSteps dLeft n R w) : Calls Go.Proofs.Try.prog 45 #[(.agg #[.slice dSureA dSureL dSureC, .slice dNowA dNowL dNowC, .slice dFreshA dFreshL dFreshC, .int .i64 dSteps, .int .i64 dLeft] : Value), .int .i64 n] w R :=
  calls_of pf (fn := Go.Proofs.Try.f45) (ann := .s (.n) (.s (.s (.n) (.c (.s (.n) (.n)) (.n))) (.s (.s (.n) (.c (.s (.n) (.n)) (.n))) (.s (.n) (.s (.n) (.n)))))) (mp := false) (args := [.v (.agg #[.slice dSureA dSureL dSureC, .slice dNowA dNowL dNowC, .slice dFreshA dFreshL dFreshC, .int .i64 dSteps, .int .i64 dLeft]), .v (.int .i64 n)]) Go.Proofs.Try.func45 (c := Go.Proofs.Try.f45.body.getD .skip) (by kernel_rfl) (by kernel_rfl) (Eq.mp (by kernel_rfl) h)
theorem rhizomeref03_Arm.body : BodyOk Go.Proofs.Try.prog 45 := ⟨Go.Proofs.Try.f45, Go.Proofs.Try.func45, by kernel_rfl, pf.ng _ _ Go.Proofs.Try.func45⟩

/-! ### rhizome/rhizomeref03.Crash: function 46 -/
def rhizomeref03_Crash.vc (dSureA : Option Addr) (dSureL dSureC : Nat) (dNowA : Option Addr) (dNowL dNowC : Nat) (dFreshA : Option Addr)
  (dFreshL dFreshC : Nat) (dSteps : Int) (dLeft : Int) (keepA : Option Addr) (keepL keepC : Nat) (torn : Int) (cut : Int) (R : Ending →
  World → Prop) (w : World) : Prop := ∀ (k1 k2 : Nat) (y3 : Int → World → Prop), (∀ (n4 : Int) (w5 : World), (∀ (y6 : Int → World → Prop),
  (∀ (n7 : Int) (w8 : World), (((0 : Int) ≤ (dNowL : Int) ∧ (dNowL : Int) ≤ (dNowL : Int) ∧ ((1 : Nat) : Int) * (dNowL : Int) ≤
  (281474976710656 : Int) ∧ (dNowL : Int) ≤ (281474976710656 : Int)) ∧ ∀ (w9 : World) (k10 : Nat), Step w8 w9 [] [k10] → Blk w9 k10 (reps
  [Value.bool false] (Int.toNat (dNowL : Int))) → ∀ (k13 : Nat), ∃ (y14 : Nat → Int → Int → Option Addr → Nat → Nat → Option Addr → Nat →
  Nat → Option Addr → Nat → Nat → Int → Int → World → Prop), ∃ (k15 : Nat), (∀ (w16 : World), Step w9 w16 [] [k13] → y14 k15 (0 : Int) (0 :
  Int) none 0 0 none 0 0 (some { block := k10, off := 0 }) (Int.toNat (dNowL : Int)) (Int.toNat (dNowL : Int)) (0 : Int) (-1 : Int) w16) ∧ ∀
  (k18 : Nat) (n19 n20 : Int) (p21 : Option Addr) (k22 k23 : Nat) (p24 : Option Addr) (k25 k26 : Nat) (p27 : Option Addr) (k28 k29 : Nat)
  (n30 n31 : Int) (w32 : World), y14 k18 n19 n20 p21 k22 k23 p24 k25 k26 p27 k28 k29 n30 n31 w32 → bcase (decide (n20 < (dNowL : Int))) (∃
  (ad34 : Addr), dSureA = some ad34 ∧ ((0 : Int) ≤ n20 ∧ n20 < (dSureL : Int)) ∧ ∃ (s35 : ByteArray), World.cell? w32 (Addr.add ad34
  (Int.toNat n20 * 1)) = some (Value.string s35) ∧ ∀ (y36 : Int → ByteArray → World → Prop), (∀ (n37 : Int) (s38 : ByteArray) (w39 : World),
  (∀ (k40 : Nat), appendP false [] [k40] [k1, k2, k13, k40] w39 p21 k22 k23 1 (spl (reps [Value.string { data := { toList := [] } }] 1) 0
  [Value.string s38]) 1 16 [Value.string { data := { toList := [] } }] fun (w41 : World) (p42 : Option Addr) (k43 k44 : Nat) => ∀ (k45 :
  Nat), appendP false [k13] [k45] [k1, k2, k13, k40, k45] w41 p24 k25 k26 1 (spl (reps [Value.string { data := { toList := [] } }] 1) 0
  [Value.string s38]) 1 16 [Value.string { data := { toList := [] } }] fun (w46 : World) (p47 : Option Addr) (k48 k49 : Nat) => ∃ (k50 :
  Nat), k50 < k18 ∧ ∀ (w51 : World), Step w46 w51 [k13] [] → y14 k50 n37 (IntKind.wrap IntKind.i64 (n20 + (1 : Int))) p42 k43 k44 p47 k48
  k49 p27 k28 k29 n30 n31 w51) → y36 n37 s38 w39) → ∃ (ad55 : Addr), dFreshA = some ad55 ∧ ((0 : Int) ≤ n20 ∧ n20 < (dFreshL : Int)) ∧ ∃
  (b56 : Bool), World.cell? w32 (Addr.add ad55 (Int.toNat n20 * 1)) = some (Value.bool b56) ∧ bcase b56 (∀ (y57 : ByteArray → World → Prop),
  (∀ (s58 : ByteArray) (w59 : World), y36 (IntKind.wrap IntKind.i64 (n19 + (1 : Int))) s58 w59 → y57 s58 w59) → ∀ (y62 : Bool → World →
  Prop), (∀ (b63 : Bool) (w64 : World), bcase b63 (∃ (ad65 : Addr), dNowA = some ad65 ∧ ((0 : Int) ≤ n20 ∧ n20 < (dNowL : Int)) ∧ ∃ (s66 :
  ByteArray), World.cell? w64 (Addr.add ad65 (Int.toNat n20 * 1)) = some (Value.string s66) ∧ y57 s66 w64) (bcase (decide (n19 = torn)) (∃
  (ad67 : Addr), dNowA = some ad67 ∧ ((0 : Int) ≤ n20 ∧ n20 < (dNowL : Int)) ∧ ∃ (s68 : ByteArray), World.cell? w64 (Addr.add ad67
  (Int.toNat n20 * 1)) = some (Value.string s68) ∧ ((0 : Int) ≤ (0 : Int) ∧ (0 : Int) ≤ n7 ∧ n7 ≤ ((ByteArray.size s68) : Int)) ∧ ∃ (ad69 :
  Addr), dSureA = some ad69 ∧ ((0 : Int) ≤ n20 ∧ n20 < (dSureL : Int)) ∧ ∃ (s70 : ByteArray), World.cell? w64 (Addr.add ad69 (Int.toNat n20
  * 1)) = some (Value.string s70) ∧ ((0 : Int) ≤ n7 ∧ n7 ≤ ((ByteArray.size s70) : Int) ∧ ((ByteArray.size s70) : Int) ≤ ((ByteArray.size
  s70) : Int)) ∧ ByteArray.size (ByteArray.extract s68 0 (Int.toNat n7)) + ByteArray.size (ByteArray.extract s70 (Int.toNat n7) (Int.toNat
  ((ByteArray.size s70) : Int))) ≤ 9223372036854775807 ∧ ∀ (w71 : World), Step w64 w71 [] [] → y57 (ByteArray.extract s68 0 (Int.toNat n7)
  ++ ByteArray.extract s70 (Int.toNat n7) (Int.toNat ((ByteArray.size s70) : Int))) w71) (y57 s35 w64)) → y62 b63 w64) → bcase (decide (n19
  < (keepL : Int))) (∃ (ad75 : Addr), keepA = some ad75 ∧ ((0 : Int) ≤ n19 ∧ n19 < (keepL : Int)) ∧ ∃ (b76 : Bool), World.cell? w32
  (Addr.add ad75 (Int.toNat n19 * 1)) = some (Value.bool b76) ∧ y62 b76 w32) (y62 false w32)) (y36 n19 s35 w32)) (∀ (w77 : World), Step w32
  w77 [k2] [] → R (Ending.returned (Value.agg { toList := List.take 5 (List.drop 0 (sets [Value.slice none 0 0, Value.slice none 0 0, Value.slice none 0 0, Value.int IntKind.i64 (0 : Int), Value.int IntKind.i64 (0 : Int)] 0 [Value.slice p21 k22 k23, Value.slice p24 k25 k26, Value.slice p27 k28 k29, Value.int IntKind.i64 n30, Value.int IntKind.i64 n31])) }))
  w77)) → y6 n7 w8) → bcase (decide ((64 : Int) < n4)) (y6 (64 : Int) w5) (y6 n4 w5)) → y3 n4 w5) → bcase (decide (cut < (0 : Int))) (∀ (w83
  : World), Step w w83 [] [k2, k1] → y3 (0 : Int) w83) (∀ (w85 : World), Step w w85 [] [k2, k1] → y3 cut w85)

theorem rhizomeref03_Crash.link {dSureA : Option Addr} {dSureL dSureC : Nat} {dNowA : Option Addr} {dNowL dNowC : Nat} {dFreshA : Option Addr} {dFreshL dFreshC : Nat} {dSteps : Int} {dLeft : Int} {keepA : Option Addr} {keepL keepC : Nat} {torn : Int} {cut : Int} {R : Ending → World → Prop} {w : World} (h : rhizomeref03_Crash.vc dSureA dSureL dSureC dNowA dNowL dNowC dFreshA dFreshL dFreshC dSteps dLeft keepA keepL keepC torn cut R w) : Calls Go.Proofs.Try.prog 46 #[(.agg #[.slice dSureA dSureL dSureC, .slice dNowA dNowL dNowC, .slice dFreshA dFreshL dFreshC, .int .i64 dSteps, .int .i64 dLeft] : Value), .slice keepA keepL keepC, .int .i64 torn, .int .i64 cut] w R :=
  calls_of pf (fn := Go.Proofs.Try.f46) (ann := .s (.n) (.j ⟨[], [], [0, 1], [(3, .l (.i .i64))], []⟩ (.s (.n) (.c (.n) (.n))) (.j ⟨[], [], [0, 1], [(3, .l (.i .i64))], []⟩ (.s (.n) (.c (.n) (.n))) (.s (.n) (.s (.n) (.s (.s (.n) (.b (.l ⟨[], [], [0, 1], [(10, .l (.i .i64)), (25, .l (.i .i64))], [(2, [.sl, .sl, .sl, .i .i64, .i .i64])]⟩ (.s (.n) (.s (.c (.n) (.n)) (.s (.b (.s (.n) (.s (.n) (.j ⟨[], [], [0, 1, 2], [(10, .l (.i .i64)), (12, .l (.s))], []⟩ (.s (.n) (.c (.j ⟨[], [], [0, 1, 2], [(12, .l (.s))], []⟩ (.j ⟨[], [], [0, 1, 2], [(47, .l (.b))], []⟩ (.n) (.c (.n) (.s (.n) (.c (.d [0, 1, 2]) (.n))))) (.n)) (.n))) (.s (.n) (.n)))))) (.n))))))) (.s (.n) (.n)))))))) (mp := false) (args := [.v (.agg #[.slice dSureA dSureL dSureC, .slice dNowA dNowL dNowC, .slice dFreshA dFreshL dFreshC, .int .i64 dSteps, .int .i64 dLeft]), .v (.slice keepA keepL keepC), .v (.int .i64 torn), .v (.int .i64 cut)]) Go.Proofs.Try.func46 (c := Go.Proofs.Try.f46.body.getD .skip) (by kernel_rfl) (by kernel_rfl) (Eq.mp (by kernel_rfl) h)
theorem rhizomeref03_Crash.body : BodyOk Go.Proofs.Try.prog 46 := ⟨Go.Proofs.Try.f46, Go.Proofs.Try.func46, by kernel_rfl, pf.ng _ _ Go.Proofs.Try.func46⟩

/-! ### rhizome/rhizomeref03.zero: function 61 -/
def rhizomeref03_zero.vc (R : Ending → World → Prop) (w : World) : Prop := ((0 : Int) ≤ (64 : Int) ∧ (64 : Int) ≤ (64 : Int) ∧ ((1 : Nat) :
  Int) * (64 : Int) ≤ (281474976710656 : Int) ∧ (64 : Int) ≤ (281474976710656 : Int)) ∧ ∀ (w1 : World) (k2 : Nat), Step w w1 [] [k2] → Blk
  w1 k2 (reps [Value.int IntKind.u8 (0 : Int)] 64) → ∃ (l5 : List UInt8), List.length l5 = 64 ∧ (∀ (k6 : Nat), k6 < 64 → ∃ (ad8 : Addr),
  some { block := k2, off := 0 } = some ad8 ∧ World.cell? w1 (Addr.add ad8 k6) = some (Value.int IntKind.u8 ((UInt8.toNat (List.getD l5 k6
  (0 : UInt8))) : Int))) ∧ R (Ending.returned (Value.string (ByteArray.mk (Array.mk l5)))) w1

theorem rhizomeref03_zero.link {_u : Unit} {R : Ending → World → Prop} {w : World} (h : rhizomeref03_zero.vc  R w) : Calls Go.Proofs.Try.prog 61 #[] w R :=
  calls_of pf (fn := Go.Proofs.Try.f61) (ann := .s (.n) (.s (.n) (.n))) (mp := false) (args := []) Go.Proofs.Try.func61 (c := Go.Proofs.Try.f61.body.getD .skip) (by kernel_rfl) (by kernel_rfl) (Eq.mp (by kernel_rfl) h)
theorem rhizomeref03_zero.body : BodyOk Go.Proofs.Try.prog 61 := ⟨Go.Proofs.Try.f61, Go.Proofs.Try.func61, by kernel_rfl, pf.ng _ _ Go.Proofs.Try.func61⟩

/-! ### rhizome/rhizomeref03.Flush: function 62 -/
def rhizomeref03_Flush.vc (dSureA : Option Addr) (dSureL dSureC : Nat) (dNowA : Option Addr) (dNowL dNowC : Nat) (dFreshA : Option Addr)
  (dFreshL dFreshC : Nat) (dSteps : Int) (dLeft : Int) (R : Ending → World → Prop) (w : World) : Prop := ∀ (k1 k2 : Nat) (w3 : World), Step
  w w3 [] [k2, k1] → Calls Proofs.Try.prog (71 : Nat) { toList := [Value.agg { toList := [Value.slice dSureA dSureL dSureC, Value.slice dNowA dNowL dNowC, Value.slice dFreshA dFreshL dFreshC, Value.int IntKind.i64 dSteps, Value.int IntKind.i64 dLeft] }] }
  w3 fun (e5 : Ending) (w6 : World) => ∃ (p7 : Option Addr), ∃ (k8 : Nat), ∃ (k9 : Nat), ∃ (p10 : Option Addr), ∃ (k11 : Nat), ∃ (k12 :
  Nat), ∃ (p13 : Option Addr), ∃ (k14 : Nat), ∃ (k15 : Nat), ∃ (n16 : Int), ∃ (n17 : Int), ∃ (b18 : Bool), e5 = Ending.returned (Value.tuple
  { toList := [Value.agg { toList := [Value.slice p7 k8 k9, Value.slice p10 k11 k12, Value.slice p13 k14 k15, Value.int IntKind.i64 n16, Value.int IntKind.i64 n17] }, Value.bool b18] })
  ∧ Keep [k1, k2] w3 w6 ∧ bcase (!b18) (∀ (w19 : World), Step w6 w19 [k2, k1] [] → R (Ending.returned (Value.tuple { toList := [Value.agg { toList := List.take 5 (List.drop 0 (sets [Value.slice none 0 0, Value.slice none 0 0, Value.slice none 0 0, Value.int IntKind.i64 (0 : Int), Value.int IntKind.i64 (0 : Int)] 0 (List.take 5 (List.drop 0 (sets [Value.slice dSureA dSureL dSureC, Value.slice dNowA dNowL dNowC, Value.slice dFreshA dFreshL dFreshC, Value.int IntKind.i64 dSteps, Value.int IntKind.i64 dLeft] 0 [Value.slice p7 k8 k9, Value.slice p10 k11 k12, Value.slice p13 k14 k15, Value.int IntKind.i64 n16, Value.int IntKind.i64 n17]))))) }, Value.int IntKind.i64 (30 : Int)] }))
  w19) (∀ (k21 : Nat) (w22 : World), Step w6 w22 [k1] [k21] → Blk w22 k21 (reps [Value.string { data := { toList := [] } }] 0) → ∃ (l25 :
  List Value), List.length l25 = k11 * 1 ∧ Row w22 p10 l25 ∧ appendP true [] [] [k1, k2] w22 (some { block := k21, off := 0 }) 0 0 k11 l25 1
  16 [Value.string { data := { toList := [] } }] fun (w26 : World) (p27 : Option Addr) (k28 k29 : Nat) => ((0 : Int) ≤ (k11 : Int) ∧ (k11 :
  Int) ≤ (k11 : Int) ∧ ((1 : Nat) : Int) * (k11 : Int) ≤ (281474976710656 : Int) ∧ (k11 : Int) ≤ (281474976710656 : Int)) ∧ ∀ (w30 : World)
  (k31 : Nat), Step w26 w30 [k1] [k31] → Blk w30 k31 (reps [Value.bool false] (Int.toNat (k11 : Int))) → ∀ (w34 : World), Step w30 w34 [k2,
  k1] [] → R (Ending.returned (Value.tuple { toList := [Value.agg { toList := List.take 5 (List.drop 0 (sets [Value.slice none 0 0, Value.slice none 0 0, Value.slice none 0 0, Value.int IntKind.i64 (0 : Int), Value.int IntKind.i64 (0 : Int)] 0 (List.take 5 (List.drop 0 (sets (sets (sets [Value.slice dSureA dSureL dSureC, Value.slice dNowA dNowL dNowC, Value.slice dFreshA dFreshL dFreshC, Value.int IntKind.i64 dSteps, Value.int IntKind.i64 dLeft] 0 [Value.slice p7 k8 k9, Value.slice p10 k11 k12, Value.slice p13 k14 k15, Value.int IntKind.i64 n16, Value.int IntKind.i64 n17]) 0 [Value.slice p27 k28 k29]) 2 [Value.slice (some { block := k31, off := 0 }) (Int.toNat (k11 : Int)) (Int.toNat (k11 : Int))]))))) }, Value.int IntKind.i64 (0 : Int)] }))
  w34)

theorem rhizomeref03_Flush.link {dSureA : Option Addr} {dSureL dSureC : Nat} {dNowA : Option Addr} {dNowL dNowC : Nat} {dFreshA : Option Addr} {dFreshL dFreshC : Nat} {dSteps : Int} {dLeft : Int} {R : Ending → World → Prop} {w : World} (h : rhizomeref03_Flush.vc dSureA dSureL dSureC dNowA dNowL dNowC dFreshA dFreshL dFreshC dSteps dLeft R w) : Calls Go.Proofs.Try.prog 62 #[(.agg #[.slice dSureA dSureL dSureC, .slice dNowA dNowL dNowC, .slice dFreshA dFreshL dFreshC, .int .i64 dSteps, .int .i64 dLeft] : Value)] w R :=
  calls_of pf (fn := Go.Proofs.Try.f62) (ann := .s (.n) (.s (.n) (.s (.s (.n) (.c (.s (.n) (.n)) (.n))) (.s (.n) (.s (.n) (.s (.n) (.n))))))) (mp := false) (args := [.v (.agg #[.slice dSureA dSureL dSureC, .slice dNowA dNowL dNowC, .slice dFreshA dFreshL dFreshC, .int .i64 dSteps, .int .i64 dLeft])]) Go.Proofs.Try.func62 (c := Go.Proofs.Try.f62.body.getD .skip) (by kernel_rfl) (by kernel_rfl) (Eq.mp (by kernel_rfl) h)
theorem rhizomeref03_Flush.body : BodyOk Go.Proofs.Try.prog 62 := ⟨Go.Proofs.Try.f62, Go.Proofs.Try.func62, by kernel_rfl, pf.ng _ _ Go.Proofs.Try.func62⟩

/-! ### rhizome/rhizomeref01.Ints: function 63 -/
def rhizomeref01_Ints.vc (aA : Option Addr) (aL aC : Nat) (bA : Option Addr) (bL bC : Nat) (R : Ending → World → Prop) (w : World) : Prop :=
  bcase (!decide ((aL : Int) = (bL : Int))) (R (Ending.returned (Value.bool false)) w) (∃ (y1 : Nat → Int → World → Prop), ∃ (k2 : Nat), y1
  k2 (0 : Int) w ∧ ∀ (k3 : Nat) (n4 : Int) (w5 : World), y1 k3 n4 w5 → bcase (decide (n4 < (aL : Int))) (∃ (ad7 : Addr), aA = some ad7 ∧ ((0
  : Int) ≤ n4 ∧ n4 < (aL : Int)) ∧ ∃ (n8 : Int), World.cell? w5 (Addr.add ad7 (Int.toNat n4 * 1)) = some (Value.int IntKind.i64 n8) ∧ ∃ (ad9
  : Addr), bA = some ad9 ∧ ((0 : Int) ≤ n4 ∧ n4 < (bL : Int)) ∧ ∃ (n10 : Int), World.cell? w5 (Addr.add ad9 (Int.toNat n4 * 1)) = some
  (Value.int IntKind.i64 n10) ∧ bcase (!decide (n8 = n10)) (∀ (w11 : World), Step w5 w11 [] [] → R (Ending.returned (Value.bool false)) w11)
  (∃ (k13 : Nat), k13 < k3 ∧ ∀ (w14 : World), Step w5 w14 [] [] → y1 k13 (IntKind.wrap IntKind.i64 (n4 + (1 : Int))) w14)) (R
  (Ending.returned (Value.bool true)) w5))

theorem rhizomeref01_Ints.link {aA : Option Addr} {aL aC : Nat} {bA : Option Addr} {bL bC : Nat} {R : Ending → World → Prop} {w : World} (h : rhizomeref01_Ints.vc aA aL aC bA bL bC R w) : Calls Go.Proofs.Try.prog 63 #[.slice aA aL aC, .slice bA bL bC] w R :=
  calls_of pf (fn := Go.Proofs.Try.f63) (ann := .s (.n) (.s (.s (.n) (.c (.s (.n) (.n)) (.n))) (.s (.s (.n) (.b (.l ⟨[], [], [], [(13, .l (.i .i64))], []⟩ (.s (.n) (.s (.c (.n) (.n)) (.s (.b (.s (.n) (.s (.n) (.c (.s (.n) (.n)) (.n))))) (.n))))))) (.s (.n) (.n))))) (mp := false) (args := [.v (.slice aA aL aC), .v (.slice bA bL bC)]) Go.Proofs.Try.func63 (c := Go.Proofs.Try.f63.body.getD .skip) (by kernel_rfl) (by kernel_rfl) (Eq.mp (by kernel_rfl) h)
theorem rhizomeref01_Ints.body : BodyOk Go.Proofs.Try.prog 63 := ⟨Go.Proofs.Try.f63, Go.Proofs.Try.func63, by kernel_rfl, pf.ng _ _ Go.Proofs.Try.func63⟩

/-! ### rhizome/rhizomeref03.Unsure: function 64 -/
def rhizomeref03_Unsure.vc (dSureA : Option Addr) (dSureL dSureC : Nat) (dNowA : Option Addr) (dNowL dNowC : Nat) (dFreshA : Option Addr)
  (dFreshL dFreshC : Nat) (dSteps : Int) (dLeft : Int) (R : Ending → World → Prop) (w : World) : Prop := ∀ (k1 : Nat), ∃ (y2 : Nat → Option
  Addr → Nat → Nat → Int → World → Prop), ∃ (k3 : Nat), (∀ (w4 : World), Step w w4 [] [k1] → y2 k3 none 0 0 (0 : Int) w4) ∧ ∀ (k6 : Nat) (p7
  : Option Addr) (k8 k9 : Nat) (n10 : Int) (w11 : World), y2 k6 p7 k8 k9 n10 w11 → bcase (decide (n10 < (dFreshL : Int))) (∀ (y13 : Option
  Addr → Nat → Nat → World → Prop), (∀ (p14 : Option Addr) (k15 k16 : Nat) (w17 : World), (∃ (k18 : Nat), k18 < k6 ∧ y2 k18 p14 k15 k16
  (IntKind.wrap IntKind.i64 (n10 + (1 : Int))) w17) → y13 p14 k15 k16 w17) → ∃ (ad21 : Addr), dFreshA = some ad21 ∧ ((0 : Int) ≤ n10 ∧ n10 <
  (dFreshL : Int)) ∧ ∃ (b22 : Bool), World.cell? w11 (Addr.add ad21 (Int.toNat n10 * 1)) = some (Value.bool b22) ∧ bcase b22 (∀ (k23 : Nat),
  appendP false [] [k23] [k1, k23] w11 p7 k8 k9 1 (spl (reps [Value.int IntKind.i64 (0 : Int)] 1) 0 [Value.int IntKind.i64 n10]) 1 8
  [Value.int IntKind.i64 (0 : Int)] fun (w24 : World) (p25 : Option Addr) (k26 k27 : Nat) => y13 p25 k26 k27 w24) (y13 p7 k8 k9 w11)) (R
  (Ending.returned (Value.slice p7 k8 k9)) w11)

theorem rhizomeref03_Unsure.link {dSureA : Option Addr} {dSureL dSureC : Nat} {dNowA : Option Addr} {dNowL dNowC : Nat} {dFreshA : Option Addr} {dFreshL dFreshC : Nat} {dSteps : Int} {dLeft : Int} {R : Ending → World → Prop} {w : World} (h : rhizomeref03_Unsure.vc dSureA dSureL dSureC dNowA dNowL dNowC dFreshA dFreshL dFreshC dSteps dLeft R w) : Calls Go.Proofs.Try.prog 64 #[(.agg #[.slice dSureA dSureL dSureC, .slice dNowA dNowL dNowC, .slice dFreshA dFreshL dFreshC, .int .i64 dSteps, .int .i64 dLeft] : Value)] w R :=
  calls_of pf (fn := Go.Proofs.Try.f64) (ann := .s (.n) (.s (.n) (.s (.s (.n) (.b (.l ⟨[], [], [0], [(3, .l (.sl)), (8, .l (.i .i64))], []⟩ (.s (.n) (.s (.c (.n) (.n)) (.j ⟨[], [], [0], [(3, .l (.sl))], []⟩ (.b (.s (.n) (.s (.n) (.c (.n) (.n))))) (.n))))))) (.s (.n) (.n))))) (mp := false) (args := [.v (.agg #[.slice dSureA dSureL dSureC, .slice dNowA dNowL dNowC, .slice dFreshA dFreshL dFreshC, .int .i64 dSteps, .int .i64 dLeft])]) Go.Proofs.Try.func64 (c := Go.Proofs.Try.f64.body.getD .skip) (by kernel_rfl) (by kernel_rfl) (Eq.mp (by kernel_rfl) h)
theorem rhizomeref03_Unsure.body : BodyOk Go.Proofs.Try.prog 64 := ⟨Go.Proofs.Try.f64, Go.Proofs.Try.func64, by kernel_rfl, pf.ng _ _ Go.Proofs.Try.func64⟩

/-! ### rhizome/rhizomeref03.step: function 71 -/
def rhizomeref03_step.vc (dSureA : Option Addr) (dSureL dSureC : Nat) (dNowA : Option Addr) (dNowL dNowC : Nat) (dFreshA : Option Addr)
  (dFreshL dFreshC : Nat) (dSteps : Int) (dLeft : Int) (R : Ending → World → Prop) (w : World) : Prop := ∀ (k1 k2 : Nat), bcase (decide
  (dLeft = (0 : Int))) (∀ (w3 : World), Step w w3 [] [k2, k1] → R (Ending.returned (Value.tuple { toList := [Value.agg { toList := List.take 5 (List.drop 0 (sets [Value.slice none 0 0, Value.slice none 0 0, Value.slice none 0 0, Value.int IntKind.i64 (0 : Int), Value.int IntKind.i64 (0 : Int)] 0 [Value.slice dSureA dSureL dSureC, Value.slice dNowA dNowL dNowC, Value.slice dFreshA dFreshL dFreshC, Value.int IntKind.i64 dSteps, Value.int IntKind.i64 dLeft])) }, Value.bool false] }))
  w3) (∀ (y5 : Option Addr → Nat → Nat → Option Addr → Nat → Nat → Option Addr → Nat → Nat → Int → Int → World → Prop), (∀ (p6 : Option
  Addr) (k7 k8 : Nat) (p9 : Option Addr) (k10 k11 : Nat) (p12 : Option Addr) (k13 k14 : Nat) (n15 n16 : Int) (w17 : World), (∀ (w18 :
  World), Step w17 w18 [k2, k1] [] → R (Ending.returned (Value.tuple { toList := [Value.agg { toList := List.take 5 (List.drop 0 (sets [Value.slice none 0 0, Value.slice none 0 0, Value.slice none 0 0, Value.int IntKind.i64 (0 : Int), Value.int IntKind.i64 (0 : Int)] 0 (List.take 5 (List.drop 0 (sets [Value.slice p6 k7 k8, Value.slice p9 k10 k11, Value.slice p12 k13 k14, Value.int IntKind.i64 n15, Value.int IntKind.i64 n16] 3 [Value.int IntKind.i64 (IntKind.wrap IntKind.i64 (n15 + (1 : Int)))]))))) }, Value.bool true] }))
  w18) → y5 p6 k7 k8 p9 k10 k11 p12 k13 k14 n15 n16 w17) → bcase (decide ((0 : Int) < dLeft)) (∀ (w22 : World), Step w w22 [] [k2, k1] → y5
  dSureA dSureL dSureC dNowA dNowL dNowC dFreshA dFreshL dFreshC dSteps (IntKind.wrap IntKind.i64 (dLeft - (1 : Int))) w22) (∀ (w24 :
  World), Step w w24 [] [k2, k1] → y5 dSureA dSureL dSureC dNowA dNowL dNowC dFreshA dFreshL dFreshC dSteps dLeft w24))

theorem rhizomeref03_step.link {dSureA : Option Addr} {dSureL dSureC : Nat} {dNowA : Option Addr} {dNowL dNowC : Nat} {dFreshA : Option Addr} {dFreshL dFreshC : Nat} {dSteps : Int} {dLeft : Int} {R : Ending → World → Prop} {w : World} (h : rhizomeref03_step.vc dSureA dSureL dSureC dNowA dNowL dNowC dFreshA dFreshL dFreshC dSteps dLeft R w) : Calls Go.Proofs.Try.prog 71 #[(.agg #[.slice dSureA dSureL dSureC, .slice dNowA dNowL dNowC, .slice dFreshA dFreshL dFreshC, .int .i64 dSteps, .int .i64 dLeft] : Value)] w R :=
  calls_of pf (fn := Go.Proofs.Try.f71) (ann := .s (.n) (.s (.s (.n) (.c (.s (.n) (.n)) (.n))) (.j ⟨[], [], [1], [], [(0, [.sl, .sl, .sl, .i .i64, .i .i64])]⟩ (.s (.n) (.c (.n) (.n))) (.s (.n) (.s (.n) (.n)))))) (mp := false) (args := [.v (.agg #[.slice dSureA dSureL dSureC, .slice dNowA dNowL dNowC, .slice dFreshA dFreshL dFreshC, .int .i64 dSteps, .int .i64 dLeft])]) Go.Proofs.Try.func71 (c := Go.Proofs.Try.f71.body.getD .skip) (by kernel_rfl) (by kernel_rfl) (Eq.mp (by kernel_rfl) h)
theorem rhizomeref03_step.body : BodyOk Go.Proofs.Try.prog 71 := ⟨Go.Proofs.Try.f71, Go.Proofs.Try.func71, by kernel_rfl, pf.ng _ _ Go.Proofs.Try.func71⟩

end Go.Proofs.Ytcaamecdhbgknaa.VC
