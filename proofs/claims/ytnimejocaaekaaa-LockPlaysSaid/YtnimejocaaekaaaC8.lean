/- What is to be shown of functions' texts, printed by a program of this session's repo; that it gives the functions' contracts is checked by the kernel. -/
import Derived.Test.YtnimejocaaekaaaProg
import Derived.Test.YtnimejocaaekaaaPf
namespace Go.Proofs.Ytnimejocaaekaaa.VC
open Go Go.V
set_option maxRecDepth 1000000
set_option linter.unusedVariables false

/-! ### rhizome/rhizomeref16.grants: function 35 -/
def rhizomeref16_grants.vc (tHeldA : Option Addr) (tHeldL tHeldC : Nat) (tQueueA : Option Addr) (tQueueL tQueueC : Nat) (item : Int) (R :
  Ending → World → Prop) (w : World) : Prop := ∀ (k1 k2 : Nat), ∃ (y3 : Nat → Option Addr → Nat → Nat → Option Addr → Nat → Nat → Option
  Addr → Nat → Nat → World → Prop), ∃ (k4 : Nat), (∀ (w5 : World), Step w w5 [] [k2, k1] → y3 k4 none 0 0 tHeldA tHeldL tHeldC tQueueA
  tQueueL tQueueC w5) ∧ ∀ (k7 : Nat) (p8 : Option Addr) (k9 k10 : Nat) (p11 : Option Addr) (k12 k13 : Nat) (p14 : Option Addr) (k15 k16 :
  Nat) (w17 : World), y3 k7 p8 k9 k10 p11 k12 k13 p14 k15 k16 w17 → ∃ (y19 : Nat → Int → Int → World → Prop), ∃ (k20 : Nat), y19 k20 (-1 :
  Int) (0 : Int) w17 ∧ ∀ (k21 : Nat) (n22 n23 : Int) (w24 : World), y19 k21 n22 n23 w24 → bcase (decide (n23 < (k15 : Int))) (∀ (y26 : Int →
  World → Prop), (∀ (n27 : Int) (w28 : World), (∃ (k29 : Nat), k29 < k21 ∧ y19 k29 n27 (IntKind.wrap IntKind.i64 (n23 + (1 : Int))) w28) →
  y26 n27 w28) → ∀ (y32 : Bool → World → Prop), (∀ (b33 : Bool) (w34 : World), bcase b33 (y26 n23 w34) (y26 n22 w34) → y32 b33 w34) → bcase
  (decide (n22 < (0 : Int))) (∃ (ad37 : Addr), p14 = some ad37 ∧ ((0 : Int) ≤ n23 ∧ n23 < (k15 : Int)) ∧ ∃ (n38 : Int), World.cell? w24
  (Addr.add (Addr.add ad37 (Int.toNat n23 * 3)) 1) = some (Value.int IntKind.i64 n38) ∧ y32 (decide (n38 = item)) w24) (y32 false w24)) (∀
  (y39 : Bool → World → Prop), (∀ (b40 : Bool) (w41 : World), bcase b40 (∀ (w42 : World), Step w41 w42 [k2] [] → R (Ending.returned
  (Value.tuple { toList := [Value.agg { toList := List.take 2 (List.drop 0 (sets [Value.slice none 0 0, Value.slice none 0 0] 0 [Value.slice p11 k12 k13, Value.slice p14 k15 k16])) }, Value.slice p8 k9 k10] }))
  w42) (∃ (ad44 : Addr), p14 = some ad44 ∧ ((0 : Int) ≤ n22 ∧ n22 < (k15 : Int)) ∧ ∃ (n45 : Int), ∃ (n46 : Int), ∃ (b47 : Bool),
  (World.cell? w41 (Addr.add (Addr.add ad44 (Int.toNat n22 * 3)) 0) = some (Value.int IntKind.i64 n45) ∧ World.cell? w41 (Addr.add (Addr.add
  ad44 (Int.toNat n22 * 3)) 1) = some (Value.int IntKind.i64 n46) ∧ World.cell? w41 (Addr.add (Addr.add ad44 (Int.toNat n22 * 3)) 2) = some
  (Value.bool b47) ∧ True) ∧ ∀ (k48 : Nat), (∀ (k49 : Nat), (((0 : Int) ≤ (0 : Int) ∧ (0 : Int) ≤ n22 ∧ n22 ≤ (k16 : Int)) ∧ (∀ (w50 :
  World), Step w41 w50 [] [k49, k48] → Blk w50 k49 (reps [Value.int IntKind.i64 (0 : Int), Value.int IntKind.i64 (0 : Int), Value.bool
  false] 0) → ∃ (l53 : List Value), List.length l53 = (Int.toNat n22 - 0) * 3 ∧ Row w50 (subA p14 0 k16 3) l53 ∧ appendP true [] [] [k1, k2,
  k48] w50 (some { block := k49, off := 0 }) 0 0 (Int.toNat n22 - 0) l53 3 24 [Value.int IntKind.i64 (0 : Int), Value.int IntKind.i64 (0 :
  Int), Value.bool false] fun (w54 : World) (p55 : Option Addr) (k56 k57 : Nat) => ((0 : Int) ≤ IntKind.wrap IntKind.i64 (n22 + (1 : Int)) ∧
  IntKind.wrap IntKind.i64 (n22 + (1 : Int)) ≤ (k15 : Int) ∧ (k15 : Int) ≤ (k16 : Int)) ∧ ∃ (l58 : List Value), List.length l58 = (Int.toNat
  (k15 : Int) - Int.toNat (IntKind.wrap IntKind.i64 (n22 + (1 : Int)))) * 3 ∧ Row w54 (subA p14 (Int.toNat (IntKind.wrap IntKind.i64 (n22 +
  (1 : Int)))) k16 3) l58 ∧ appendP true [] [] [k1, k2, k48] w54 p55 k56 k57 (Int.toNat (k15 : Int) - Int.toNat (IntKind.wrap IntKind.i64
  (n22 + (1 : Int)))) l58 3 24 [Value.int IntKind.i64 (0 : Int), Value.int IntKind.i64 (0 : Int), Value.bool false] fun (w59 : World) (p60 :
  Option Addr) (k61 k62 : Nat) => ∀ (w63 : World), Step w59 w63 [k1] [] → Calls Proofs.Try.prog (39 : Nat) { toList := [Value.agg { toList := List.take 2 (List.drop 0 (sets [Value.slice p11 k12 k13, Value.slice p14 k15 k16] 1 [Value.slice p60 k61 k62])) }, Value.agg { toList := List.take 3 (List.drop 0 (sets [Value.int IntKind.i64 (0 : Int), Value.int IntKind.i64 (0 : Int), Value.bool false] 0 [Value.int IntKind.i64 n45, Value.int IntKind.i64 n46, Value.bool b47])) }] }
  w63 fun (e65 : Ending) (w66 : World) => ∃ (p67 : Option Addr), ∃ (k68 : Nat), ∃ (k69 : Nat), ∃ (p70 : Option Addr), ∃ (k71 : Nat), ∃ (k72
  : Nat), e65 = Ending.returned (Value.agg { toList := [Value.slice p67 k68 k69, Value.slice p70 k71 k72] }) ∧ Keep [k1, k2, k48] w63 w66 ∧
  ∀ (k73 : Nat), appendP false [k1] [k73] [k1, k2, k48, k73] w66 p8 k9 k10 1 (spl (reps [Value.int IntKind.i64 (0 : Int)] 1) 0 [Value.int
  IntKind.i64 n45]) 1 8 [Value.int IntKind.i64 (0 : Int)] fun (w74 : World) (p75 : Option Addr) (k76 k77 : Nat) => ∃ (k78 : Nat), k78 < k7 ∧
  y3 k78 p75 k76 k77 p67 k68 k69 p70 k71 k72 w74) ∧ ((0 : Int) ≤ IntKind.wrap IntKind.i64 (n22 + (1 : Int)) ∧ IntKind.wrap IntKind.i64 (n22
  + (1 : Int)) ≤ (k15 : Int) ∧ (k15 : Int) ≤ (k16 : Int)) ∧ ∀ (w79 : World), Step w41 w79 [] [k49, k48] → Blk w79 k49 (reps [Value.int
  IntKind.i64 (0 : Int), Value.int IntKind.i64 (0 : Int), Value.bool false] 0) → ∃ (l82 : List Value), List.length l82 = (Int.toNat n22 - 0)
  * 3 ∧ Row w79 (subA p14 0 k16 3) l82 ∧ appendP true [] [] [k1, k2, k48] w79 (some { block := k49, off := 0 }) 0 0 (Int.toNat n22 - 0) l82
  3 24 [Value.int IntKind.i64 (0 : Int), Value.int IntKind.i64 (0 : Int), Value.bool false] fun (w83 : World) (p84 : Option Addr) (k85 k86 :
  Nat) => ∃ (l87 : List Value), List.length l87 = (Int.toNat (k15 : Int) - Int.toNat (IntKind.wrap IntKind.i64 (n22 + (1 : Int)))) * 3 ∧ Row
  w83 (subA p14 (Int.toNat (IntKind.wrap IntKind.i64 (n22 + (1 : Int)))) k16 3) l87 ∧ appendP true [] [] [k1, k2, k48] w83 p84 k85 k86
  (Int.toNat (k15 : Int) - Int.toNat (IntKind.wrap IntKind.i64 (n22 + (1 : Int)))) l87 3 24 [Value.int IntKind.i64 (0 : Int), Value.int
  IntKind.i64 (0 : Int), Value.bool false] fun (w88 : World) (p89 : Option Addr) (k90 k91 : Nat) => ∀ (w92 : World), Step w88 w92 [k1] [] →
  Calls Proofs.Try.prog (39 : Nat) { toList := [Value.agg { toList := List.take 2 (List.drop 0 (sets [Value.slice p11 k12 k13, Value.slice p14 k15 k16] 1 [Value.slice p89 k90 k91])) }, Value.agg { toList := List.take 3 (List.drop 0 (sets [Value.int IntKind.i64 (0 : Int), Value.int IntKind.i64 (0 : Int), Value.bool false] 0 [Value.int IntKind.i64 n45, Value.int IntKind.i64 n46, Value.bool b47])) }] }
  w92 fun (e94 : Ending) (w95 : World) => ∃ (p96 : Option Addr), ∃ (k97 : Nat), ∃ (k98 : Nat), ∃ (p99 : Option Addr), ∃ (k100 : Nat), ∃
  (k101 : Nat), e94 = Ending.returned (Value.agg { toList := [Value.slice p96 k97 k98, Value.slice p99 k100 k101] }) ∧ Keep [k1, k2, k48]
  w92 w95 ∧ ∀ (k102 : Nat), appendP false [k1] [k102] [k1, k2, k48, k102] w95 p8 k9 k10 1 (spl (reps [Value.int IntKind.i64 (0 : Int)] 1) 0
  [Value.int IntKind.i64 n45]) 1 8 [Value.int IntKind.i64 (0 : Int)] fun (w103 : World) (p104 : Option Addr) (k105 k106 : Nat) => ∃ (k107 :
  Nat), k107 < k7 ∧ y3 k107 p104 k105 k106 p96 k97 k98 p99 k100 k101 w103) ∧ ((0 : Int) ≤ IntKind.wrap IntKind.i64 (n22 + (1 : Int)) ∧
  IntKind.wrap IntKind.i64 (n22 + (1 : Int)) ≤ (k15 : Int) ∧ (k15 : Int) ≤ (k16 : Int)) ∧ ((0 : Int) ≤ (0 : Int) ∧ (0 : Int) ≤ n22 ∧ n22 ≤
  (k16 : Int)) ∧ ∀ (w108 : World), Step w41 w108 [] [k49, k48] → Blk w108 k49 (reps [Value.int IntKind.i64 (0 : Int), Value.int IntKind.i64
  (0 : Int), Value.bool false] 0) → ∃ (l111 : List Value), List.length l111 = (Int.toNat n22 - 0) * 3 ∧ Row w108 (subA p14 0 k16 3) l111 ∧
  appendP true [] [] [k1, k2, k48] w108 (some { block := k49, off := 0 }) 0 0 (Int.toNat n22 - 0) l111 3 24 [Value.int IntKind.i64 (0 :
  Int), Value.int IntKind.i64 (0 : Int), Value.bool false] fun (w112 : World) (p113 : Option Addr) (k114 k115 : Nat) => ∃ (l116 : List
  Value), List.length l116 = (Int.toNat (k15 : Int) - Int.toNat (IntKind.wrap IntKind.i64 (n22 + (1 : Int)))) * 3 ∧ Row w112 (subA p14
  (Int.toNat (IntKind.wrap IntKind.i64 (n22 + (1 : Int)))) k16 3) l116 ∧ appendP true [] [] [k1, k2, k48] w112 p113 k114 k115 (Int.toNat
  (k15 : Int) - Int.toNat (IntKind.wrap IntKind.i64 (n22 + (1 : Int)))) l116 3 24 [Value.int IntKind.i64 (0 : Int), Value.int IntKind.i64 (0
  : Int), Value.bool false] fun (w117 : World) (p118 : Option Addr) (k119 k120 : Nat) => ∀ (w121 : World), Step w117 w121 [k1] [] → Calls
  Proofs.Try.prog (39 : Nat) { toList := [Value.agg { toList := List.take 2 (List.drop 0 (sets [Value.slice p11 k12 k13, Value.slice p14 k15 k16] 1 [Value.slice p118 k119 k120])) }, Value.agg { toList := List.take 3 (List.drop 0 (sets [Value.int IntKind.i64 (0 : Int), Value.int IntKind.i64 (0 : Int), Value.bool false] 0 [Value.int IntKind.i64 n45, Value.int IntKind.i64 n46, Value.bool b47])) }] }
  w121 fun (e123 : Ending) (w124 : World) => ∃ (p125 : Option Addr), ∃ (k126 : Nat), ∃ (k127 : Nat), ∃ (p128 : Option Addr), ∃ (k129 : Nat),
  ∃ (k130 : Nat), e123 = Ending.returned (Value.agg { toList := [Value.slice p125 k126 k127, Value.slice p128 k129 k130] }) ∧ Keep [k1, k2,
  k48] w121 w124 ∧ ∀ (k131 : Nat), appendP false [k1] [k131] [k1, k2, k48, k131] w124 p8 k9 k10 1 (spl (reps [Value.int IntKind.i64 (0 :
  Int)] 1) 0 [Value.int IntKind.i64 n45]) 1 8 [Value.int IntKind.i64 (0 : Int)] fun (w132 : World) (p133 : Option Addr) (k134 k135 : Nat) =>
  ∃ (k136 : Nat), k136 < k7 ∧ y3 k136 p133 k134 k135 p125 k126 k127 p128 k129 k130 w132) ∧ (((0 : Int) ≤ (0 : Int) ∧ (0 : Int) ≤ n22 ∧ n22 ≤
  (k16 : Int)) ∧ (∀ (k137 : Nat), (∀ (w138 : World), Step w41 w138 [] [k137, k48] → Blk w138 k137 (reps [Value.int IntKind.i64 (0 : Int),
  Value.int IntKind.i64 (0 : Int), Value.bool false] 0) → ∃ (l141 : List Value), List.length l141 = (Int.toNat n22 - 0) * 3 ∧ Row w138 (subA
  p14 0 k16 3) l141 ∧ appendP true [] [] [k1, k2, k48] w138 (some { block := k137, off := 0 }) 0 0 (Int.toNat n22 - 0) l141 3 24 [Value.int
  IntKind.i64 (0 : Int), Value.int IntKind.i64 (0 : Int), Value.bool false] fun (w142 : World) (p143 : Option Addr) (k144 k145 : Nat) => ((0
  : Int) ≤ IntKind.wrap IntKind.i64 (n22 + (1 : Int)) ∧ IntKind.wrap IntKind.i64 (n22 + (1 : Int)) ≤ (k15 : Int) ∧ (k15 : Int) ≤ (k16 :
  Int)) ∧ ∃ (l146 : List Value), List.length l146 = (Int.toNat (k15 : Int) - Int.toNat (IntKind.wrap IntKind.i64 (n22 + (1 : Int)))) * 3 ∧
  Row w142 (subA p14 (Int.toNat (IntKind.wrap IntKind.i64 (n22 + (1 : Int)))) k16 3) l146 ∧ appendP true [] [] [k1, k2, k48] w142 p143 k144
  k145 (Int.toNat (k15 : Int) - Int.toNat (IntKind.wrap IntKind.i64 (n22 + (1 : Int)))) l146 3 24 [Value.int IntKind.i64 (0 : Int),
  Value.int IntKind.i64 (0 : Int), Value.bool false] fun (w147 : World) (p148 : Option Addr) (k149 k150 : Nat) => ∀ (w151 : World), Step
  w147 w151 [k1] [] → Calls Proofs.Try.prog (39 : Nat) { toList := [Value.agg { toList := List.take 2 (List.drop 0 (sets [Value.slice p11 k12 k13, Value.slice p14 k15 k16] 1 [Value.slice p148 k149 k150])) }, Value.agg { toList := List.take 3 (List.drop 0 (sets [Value.int IntKind.i64 (0 : Int), Value.int IntKind.i64 (0 : Int), Value.bool false] 0 [Value.int IntKind.i64 n45, Value.int IntKind.i64 n46, Value.bool b47])) }] }
  w151 fun (e153 : Ending) (w154 : World) => ∃ (p155 : Option Addr), ∃ (k156 : Nat), ∃ (k157 : Nat), ∃ (p158 : Option Addr), ∃ (k159 : Nat),
  ∃ (k160 : Nat), e153 = Ending.returned (Value.agg { toList := [Value.slice p155 k156 k157, Value.slice p158 k159 k160] }) ∧ Keep [k1, k2,
  k48] w151 w154 ∧ ∀ (k161 : Nat), appendP false [k1] [k161] [k1, k2, k48, k161] w154 p8 k9 k10 1 (spl (reps [Value.int IntKind.i64 (0 :
  Int)] 1) 0 [Value.int IntKind.i64 n45]) 1 8 [Value.int IntKind.i64 (0 : Int)] fun (w162 : World) (p163 : Option Addr) (k164 k165 : Nat) =>
  ∃ (k166 : Nat), k166 < k7 ∧ y3 k166 p163 k164 k165 p155 k156 k157 p158 k159 k160 w162) ∧ ((0 : Int) ≤ IntKind.wrap IntKind.i64 (n22 + (1 :
  Int)) ∧ IntKind.wrap IntKind.i64 (n22 + (1 : Int)) ≤ (k15 : Int) ∧ (k15 : Int) ≤ (k16 : Int)) ∧ ∀ (w167 : World), Step w41 w167 [] [k137,
  k48] → Blk w167 k137 (reps [Value.int IntKind.i64 (0 : Int), Value.int IntKind.i64 (0 : Int), Value.bool false] 0) → ∃ (l170 : List
  Value), List.length l170 = (Int.toNat n22 - 0) * 3 ∧ Row w167 (subA p14 0 k16 3) l170 ∧ appendP true [] [] [k1, k2, k48] w167 (some
  { block := k137, off := 0 }) 0 0 (Int.toNat n22 - 0) l170 3 24 [Value.int IntKind.i64 (0 : Int), Value.int IntKind.i64 (0 : Int),
  Value.bool false] fun (w171 : World) (p172 : Option Addr) (k173 k174 : Nat) => ∃ (l175 : List Value), List.length l175 = (Int.toNat (k15 :
  Int) - Int.toNat (IntKind.wrap IntKind.i64 (n22 + (1 : Int)))) * 3 ∧ Row w171 (subA p14 (Int.toNat (IntKind.wrap IntKind.i64 (n22 + (1 :
  Int)))) k16 3) l175 ∧ appendP true [] [] [k1, k2, k48] w171 p172 k173 k174 (Int.toNat (k15 : Int) - Int.toNat (IntKind.wrap IntKind.i64
  (n22 + (1 : Int)))) l175 3 24 [Value.int IntKind.i64 (0 : Int), Value.int IntKind.i64 (0 : Int), Value.bool false] fun (w176 : World)
  (p177 : Option Addr) (k178 k179 : Nat) => ∀ (w180 : World), Step w176 w180 [k1] [] → Calls Proofs.Try.prog (39 : Nat) { toList := [Value.agg { toList := List.take 2 (List.drop 0 (sets [Value.slice p11 k12 k13, Value.slice p14 k15 k16] 1 [Value.slice p177 k178 k179])) }, Value.agg { toList := List.take 3 (List.drop 0 (sets [Value.int IntKind.i64 (0 : Int), Value.int IntKind.i64 (0 : Int), Value.bool false] 0 [Value.int IntKind.i64 n45, Value.int IntKind.i64 n46, Value.bool b47])) }] }
  w180 fun (e182 : Ending) (w183 : World) => ∃ (p184 : Option Addr), ∃ (k185 : Nat), ∃ (k186 : Nat), ∃ (p187 : Option Addr), ∃ (k188 : Nat),
  ∃ (k189 : Nat), e182 = Ending.returned (Value.agg { toList := [Value.slice p184 k185 k186, Value.slice p187 k188 k189] }) ∧ Keep [k1, k2,
  k48] w180 w183 ∧ ∀ (k190 : Nat), appendP false [k1] [k190] [k1, k2, k48, k190] w183 p8 k9 k10 1 (spl (reps [Value.int IntKind.i64 (0 :
  Int)] 1) 0 [Value.int IntKind.i64 n45]) 1 8 [Value.int IntKind.i64 (0 : Int)] fun (w191 : World) (p192 : Option Addr) (k193 k194 : Nat) =>
  ∃ (k195 : Nat), k195 < k7 ∧ y3 k195 p192 k193 k194 p184 k185 k186 p187 k188 k189 w191) ∧ ((0 : Int) ≤ IntKind.wrap IntKind.i64 (n22 + (1 :
  Int)) ∧ IntKind.wrap IntKind.i64 (n22 + (1 : Int)) ≤ (k15 : Int) ∧ (k15 : Int) ≤ (k16 : Int)) ∧ ∀ (k196 : Nat) (w197 : World), Step w41
  w197 [] [k196, k48] → Blk w197 k196 (reps [Value.int IntKind.i64 (0 : Int), Value.int IntKind.i64 (0 : Int), Value.bool false] 0) → ∃
  (l200 : List Value), List.length l200 = (Int.toNat n22 - 0) * 3 ∧ Row w197 (subA p14 0 k16 3) l200 ∧ appendP true [] [] [k1, k2, k48] w197
  (some { block := k196, off := 0 }) 0 0 (Int.toNat n22 - 0) l200 3 24 [Value.int IntKind.i64 (0 : Int), Value.int IntKind.i64 (0 : Int),
  Value.bool false] fun (w201 : World) (p202 : Option Addr) (k203 k204 : Nat) => ∃ (l205 : List Value), List.length l205 = (Int.toNat (k15 :
  Int) - Int.toNat (IntKind.wrap IntKind.i64 (n22 + (1 : Int)))) * 3 ∧ Row w201 (subA p14 (Int.toNat (IntKind.wrap IntKind.i64 (n22 + (1 :
  Int)))) k16 3) l205 ∧ appendP true [] [] [k1, k2, k48] w201 p202 k203 k204 (Int.toNat (k15 : Int) - Int.toNat (IntKind.wrap IntKind.i64
  (n22 + (1 : Int)))) l205 3 24 [Value.int IntKind.i64 (0 : Int), Value.int IntKind.i64 (0 : Int), Value.bool false] fun (w206 : World)
  (p207 : Option Addr) (k208 k209 : Nat) => ∀ (w210 : World), Step w206 w210 [k1] [] → Calls Proofs.Try.prog (39 : Nat) { toList := [Value.agg { toList := List.take 2 (List.drop 0 (sets [Value.slice p11 k12 k13, Value.slice p14 k15 k16] 1 [Value.slice p207 k208 k209])) }, Value.agg { toList := List.take 3 (List.drop 0 (sets [Value.int IntKind.i64 (0 : Int), Value.int IntKind.i64 (0 : Int), Value.bool false] 0 [Value.int IntKind.i64 n45, Value.int IntKind.i64 n46, Value.bool b47])) }] }
  w210 fun (e212 : Ending) (w213 : World) => ∃ (p214 : Option Addr), ∃ (k215 : Nat), ∃ (k216 : Nat), ∃ (p217 : Option Addr), ∃ (k218 : Nat),
  ∃ (k219 : Nat), e212 = Ending.returned (Value.agg { toList := [Value.slice p214 k215 k216, Value.slice p217 k218 k219] }) ∧ Keep [k1, k2,
  k48] w210 w213 ∧ ∀ (k220 : Nat), appendP false [k1] [k220] [k1, k2, k48, k220] w213 p8 k9 k10 1 (spl (reps [Value.int IntKind.i64 (0 :
  Int)] 1) 0 [Value.int IntKind.i64 n45]) 1 8 [Value.int IntKind.i64 (0 : Int)] fun (w221 : World) (p222 : Option Addr) (k223 k224 : Nat) =>
  ∃ (k225 : Nat), k225 < k7 ∧ y3 k225 p222 k223 k224 p214 k215 k216 p217 k218 k219 w221) ∧ ((0 : Int) ≤ IntKind.wrap IntKind.i64 (n22 + (1 :
  Int)) ∧ IntKind.wrap IntKind.i64 (n22 + (1 : Int)) ≤ (k15 : Int) ∧ (k15 : Int) ≤ (k16 : Int)) ∧ (∀ (k226 : Nat), ((0 : Int) ≤ (0 : Int) ∧
  (0 : Int) ≤ n22 ∧ n22 ≤ (k16 : Int)) ∧ ∀ (w227 : World), Step w41 w227 [] [k226, k48] → Blk w227 k226 (reps [Value.int IntKind.i64 (0 :
  Int), Value.int IntKind.i64 (0 : Int), Value.bool false] 0) → ∃ (l230 : List Value), List.length l230 = (Int.toNat n22 - 0) * 3 ∧ Row w227
  (subA p14 0 k16 3) l230 ∧ appendP true [] [] [k1, k2, k48] w227 (some { block := k226, off := 0 }) 0 0 (Int.toNat n22 - 0) l230 3 24
  [Value.int IntKind.i64 (0 : Int), Value.int IntKind.i64 (0 : Int), Value.bool false] fun (w231 : World) (p232 : Option Addr) (k233 k234 :
  Nat) => ∃ (l235 : List Value), List.length l235 = (Int.toNat (k15 : Int) - Int.toNat (IntKind.wrap IntKind.i64 (n22 + (1 : Int)))) * 3 ∧
  Row w231 (subA p14 (Int.toNat (IntKind.wrap IntKind.i64 (n22 + (1 : Int)))) k16 3) l235 ∧ appendP true [] [] [k1, k2, k48] w231 p232 k233
  k234 (Int.toNat (k15 : Int) - Int.toNat (IntKind.wrap IntKind.i64 (n22 + (1 : Int)))) l235 3 24 [Value.int IntKind.i64 (0 : Int),
  Value.int IntKind.i64 (0 : Int), Value.bool false] fun (w236 : World) (p237 : Option Addr) (k238 k239 : Nat) => ∀ (w240 : World), Step
  w236 w240 [k1] [] → Calls Proofs.Try.prog (39 : Nat) { toList := [Value.agg { toList := List.take 2 (List.drop 0 (sets [Value.slice p11 k12 k13, Value.slice p14 k15 k16] 1 [Value.slice p237 k238 k239])) }, Value.agg { toList := List.take 3 (List.drop 0 (sets [Value.int IntKind.i64 (0 : Int), Value.int IntKind.i64 (0 : Int), Value.bool false] 0 [Value.int IntKind.i64 n45, Value.int IntKind.i64 n46, Value.bool b47])) }] }
  w240 fun (e242 : Ending) (w243 : World) => ∃ (p244 : Option Addr), ∃ (k245 : Nat), ∃ (k246 : Nat), ∃ (p247 : Option Addr), ∃ (k248 : Nat),
  ∃ (k249 : Nat), e242 = Ending.returned (Value.agg { toList := [Value.slice p244 k245 k246, Value.slice p247 k248 k249] }) ∧ Keep [k1, k2,
  k48] w240 w243 ∧ ∀ (k250 : Nat), appendP false [k1] [k250] [k1, k2, k48, k250] w243 p8 k9 k10 1 (spl (reps [Value.int IntKind.i64 (0 :
  Int)] 1) 0 [Value.int IntKind.i64 n45]) 1 8 [Value.int IntKind.i64 (0 : Int)] fun (w251 : World) (p252 : Option Addr) (k253 k254 : Nat) =>
  ∃ (k255 : Nat), k255 < k7 ∧ y3 k255 p252 k253 k254 p244 k245 k246 p247 k248 k249 w251) ∧ ((0 : Int) ≤ (0 : Int) ∧ (0 : Int) ≤ n22 ∧ n22 ≤
  (k16 : Int)) ∧ ∀ (k256 : Nat) (w257 : World), Step w41 w257 [] [k256, k48] → Blk w257 k256 (reps [Value.int IntKind.i64 (0 : Int),
  Value.int IntKind.i64 (0 : Int), Value.bool false] 0) → ∃ (l260 : List Value), List.length l260 = (Int.toNat n22 - 0) * 3 ∧ Row w257 (subA
  p14 0 k16 3) l260 ∧ appendP true [] [] [k1, k2, k48] w257 (some { block := k256, off := 0 }) 0 0 (Int.toNat n22 - 0) l260 3 24 [Value.int
  IntKind.i64 (0 : Int), Value.int IntKind.i64 (0 : Int), Value.bool false] fun (w261 : World) (p262 : Option Addr) (k263 k264 : Nat) => ∃
  (l265 : List Value), List.length l265 = (Int.toNat (k15 : Int) - Int.toNat (IntKind.wrap IntKind.i64 (n22 + (1 : Int)))) * 3 ∧ Row w261
  (subA p14 (Int.toNat (IntKind.wrap IntKind.i64 (n22 + (1 : Int)))) k16 3) l265 ∧ appendP true [] [] [k1, k2, k48] w261 p262 k263 k264
  (Int.toNat (k15 : Int) - Int.toNat (IntKind.wrap IntKind.i64 (n22 + (1 : Int)))) l265 3 24 [Value.int IntKind.i64 (0 : Int), Value.int
  IntKind.i64 (0 : Int), Value.bool false] fun (w266 : World) (p267 : Option Addr) (k268 k269 : Nat) => ∀ (w270 : World), Step w266 w270
  [k1] [] → Calls Proofs.Try.prog (39 : Nat) { toList := [Value.agg { toList := List.take 2 (List.drop 0 (sets [Value.slice p11 k12 k13, Value.slice p14 k15 k16] 1 [Value.slice p267 k268 k269])) }, Value.agg { toList := List.take 3 (List.drop 0 (sets [Value.int IntKind.i64 (0 : Int), Value.int IntKind.i64 (0 : Int), Value.bool false] 0 [Value.int IntKind.i64 n45, Value.int IntKind.i64 n46, Value.bool b47])) }] }
  w270 fun (e272 : Ending) (w273 : World) => ∃ (p274 : Option Addr), ∃ (k275 : Nat), ∃ (k276 : Nat), ∃ (p277 : Option Addr), ∃ (k278 : Nat),
  ∃ (k279 : Nat), e272 = Ending.returned (Value.agg { toList := [Value.slice p274 k275 k276, Value.slice p277 k278 k279] }) ∧ Keep [k1, k2,
  k48] w270 w273 ∧ ∀ (k280 : Nat), appendP false [k1] [k280] [k1, k2, k48, k280] w273 p8 k9 k10 1 (spl (reps [Value.int IntKind.i64 (0 :
  Int)] 1) 0 [Value.int IntKind.i64 n45]) 1 8 [Value.int IntKind.i64 (0 : Int)] fun (w281 : World) (p282 : Option Addr) (k283 k284 : Nat) =>
  ∃ (k285 : Nat), k285 < k7 ∧ y3 k285 p282 k283 k284 p274 k275 k276 p277 k278 k279 w281) → y39 b40 w41) → bcase (decide (n22 < (0 : Int)))
  (∀ (w288 : World), Step w24 w288 [] [] → y39 true w288) (∃ (ad290 : Addr), p14 = some ad290 ∧ ((0 : Int) ≤ n22 ∧ n22 < (k15 : Int)) ∧ ∃
  (n291 : Int), ∃ (n292 : Int), ∃ (b293 : Bool), (World.cell? w24 (Addr.add (Addr.add ad290 (Int.toNat n22 * 3)) 0) = some (Value.int
  IntKind.i64 n291) ∧ World.cell? w24 (Addr.add (Addr.add ad290 (Int.toNat n22 * 3)) 1) = some (Value.int IntKind.i64 n292) ∧ World.cell?
  w24 (Addr.add (Addr.add ad290 (Int.toNat n22 * 3)) 2) = some (Value.bool b293) ∧ True) ∧ ∀ (w294 : World), Step w24 w294 [] [] → Calls
  Proofs.Try.prog (38 : Nat) { toList := [Value.agg { toList := [Value.slice p11 k12 k13, Value.slice p14 k15 k16] }, Value.agg { toList := [Value.int IntKind.i64 n291, Value.int IntKind.i64 n292, Value.bool b293] }] }
  w294 fun (e296 : Ending) (w297 : World) => ∃ (b298 : Bool), e296 = Ending.returned (Value.bool b298) ∧ Keep [k1, k2] w294 w297 ∧ y39
  (!b298) w297))

theorem rhizomeref16_grants.link {tHeldA : Option Addr} {tHeldL tHeldC : Nat} {tQueueA : Option Addr} {tQueueL tQueueC : Nat} {item : Int} {R : Ending → World → Prop} {w : World} (h : rhizomeref16_grants.vc tHeldA tHeldL tHeldC tQueueA tQueueL tQueueC item R w) : Calls Go.Proofs.Try.prog 35 #[(.agg #[.slice tHeldA tHeldL tHeldC, .slice tQueueA tQueueL tQueueC] : Value), .int .i64 item] w R :=
  calls_of pf (fn := Go.Proofs.Try.f35) (ann := .s (.n) (.s (.n) (.b (.l ⟨[], [], [1], [(6, .l (.sl))], [(0, [.sl, .sl])]⟩ (.b (.s (.n) (.s (.s (.n) (.b (.l ⟨[], [], [0, 1], [(7, .l (.i .i64)), (13, .l (.i .i64))], []⟩ (.s (.n) (.s (.c (.n) (.n)) (.j ⟨[], [], [0, 1], [(7, .l (.i .i64))], []⟩ (.b (.s (.n) (.j ⟨[], [], [0, 1], [(27, .l (.b))], []⟩ (.n) (.c (.n) (.n))))) (.n))))))) (.s (.j ⟨[], [], [0, 1], [(41, .l (.b))], []⟩ (.d [0, 1]) (.c (.s (.n) (.n)) (.n))) (.s (.n) (.s (.d [1, 2]) (.s (.n) (.n)))))))))))) (mp := false) (args := [.v (.agg #[.slice tHeldA tHeldL tHeldC, .slice tQueueA tQueueL tQueueC]), .v (.int .i64 item)]) Go.Proofs.Try.func35 (c := Go.Proofs.Try.f35.body.getD .skip) (by kernel_rfl) (by kernel_rfl) (Eq.mp (by kernel_rfl) h)
theorem rhizomeref16_grants.body : BodyOk Go.Proofs.Try.prog 35 := ⟨Go.Proofs.Try.f35, Go.Proofs.Try.func35, by kernel_rfl, pf.ng _ _ Go.Proofs.Try.func35⟩

/-! ### rhizome/rhizomeref16.Release: function 17 -/
def rhizomeref16_Release.vc (tHeldA : Option Addr) (tHeldL tHeldC : Nat) (tQueueA : Option Addr) (tQueueL tQueueC : Nat) (s : Int) (R :
  Ending → World → Prop) (w : World) : Prop := ∀ (k1 k2 : Nat) (y3 : Bool → World → Prop), (∀ (b4 : Bool) (w5 : World), bcase b4 (∀ (w6 :
  World), Step w5 w6 [k2] [] → R (Ending.returned (Value.tuple { toList := [Value.agg { toList := List.take 2 (List.drop 0 (sets [Value.slice none 0 0, Value.slice none 0 0] 0 [Value.slice tHeldA tHeldL tHeldC, Value.slice tQueueA tQueueL tQueueC])) }, Value.slice none 0 0, Value.int IntKind.i64 (1 : Int)] }))
  w6) (∃ (y8 : Nat → Option Addr → Nat → Nat → Option Addr → Nat → Nat → Int → World → Prop), ∃ (k9 : Nat), y8 k9 none 0 0 none 0 0 (0 :
  Int) w5 ∧ ∀ (k10 : Nat) (p11 : Option Addr) (k12 k13 : Nat) (p14 : Option Addr) (k15 k16 : Nat) (n17 : Int) (w18 : World), y8 k10 p11 k12
  k13 p14 k15 k16 n17 w18 → bcase (decide (n17 < (tHeldL : Int))) (∀ (y20 : Option Addr → Nat → Nat → Option Addr → Nat → Nat → World →
  Prop), (∀ (p21 : Option Addr) (k22 k23 : Nat) (p24 : Option Addr) (k25 k26 : Nat) (w27 : World), (∃ (k28 : Nat), k28 < k10 ∧ y8 k28 p21
  k22 k23 p24 k25 k26 (IntKind.wrap IntKind.i64 (n17 + (1 : Int))) w27) → y20 p21 k22 k23 p24 k25 k26 w27) → ∃ (ad31 : Addr), tHeldA = some
  ad31 ∧ ((0 : Int) ≤ n17 ∧ n17 < (tHeldL : Int)) ∧ ∃ (n32 : Int), World.cell? w18 (Addr.add (Addr.add ad31 (Int.toNat n17 * 3)) 0) = some
  (Value.int IntKind.i64 n32) ∧ bcase (decide (n32 = s)) (∃ (ad33 : Addr), tHeldA = some ad33 ∧ ((0 : Int) ≤ n17 ∧ n17 < (tHeldL : Int)) ∧ ∃
  (n34 : Int), World.cell? w18 (Addr.add (Addr.add ad33 (Int.toNat n17 * 3)) 1) = some (Value.int IntKind.i64 n34) ∧ Calls Proofs.Try.prog
  (34 : Nat) { toList := [Value.slice p14 k15 k16, Value.int IntKind.i64 n34] } w18 fun (e35 : Ending) (w36 : World) => ∃ (p37 : Option
  Addr), ∃ (k38 : Nat), ∃ (k39 : Nat), e35 = Ending.returned (Value.slice p37 k38 k39) ∧ Keep [k1, k2] w18 w36 ∧ y20 p11 k12 k13 p37 k38 k39
  w36) (∃ (ad40 : Addr), tHeldA = some ad40 ∧ ((0 : Int) ≤ n17 ∧ n17 < (tHeldL : Int)) ∧ ∃ (n41 : Int), ∃ (n42 : Int), ∃ (b43 : Bool),
  (World.cell? w18 (Addr.add (Addr.add ad40 (Int.toNat n17 * 3)) 0) = some (Value.int IntKind.i64 n41) ∧ World.cell? w18 (Addr.add (Addr.add
  ad40 (Int.toNat n17 * 3)) 1) = some (Value.int IntKind.i64 n42) ∧ World.cell? w18 (Addr.add (Addr.add ad40 (Int.toNat n17 * 3)) 2) = some
  (Value.bool b43) ∧ True) ∧ ∀ (k44 : Nat), appendP false [] [k44] [k1, k2, k44] w18 p11 k12 k13 1 (spl (reps [Value.int IntKind.i64 (0 :
  Int), Value.int IntKind.i64 (0 : Int), Value.bool false] 1) 0 [Value.int IntKind.i64 n41, Value.int IntKind.i64 n42, Value.bool b43]) 3 24
  [Value.int IntKind.i64 (0 : Int), Value.int IntKind.i64 (0 : Int), Value.bool false] fun (w45 : World) (p46 : Option Addr) (k47 k48 : Nat)
  => y20 p46 k47 k48 p14 k15 k16 w45)) (∃ (y49 : Nat → Option Addr → Nat → Nat → Option Addr → Nat → Nat → Int → World → Prop), ∃ (k50 :
  Nat), y49 k50 none 0 0 p14 k15 k16 (0 : Int) w18 ∧ ∀ (k51 : Nat) (p52 : Option Addr) (k53 k54 : Nat) (p55 : Option Addr) (k56 k57 : Nat)
  (n58 : Int) (w59 : World), y49 k51 p52 k53 k54 p55 k56 k57 n58 w59 → bcase (decide (n58 < (tQueueL : Int))) (∀ (y61 : Option Addr → Nat →
  Nat → Option Addr → Nat → Nat → World → Prop), (∀ (p62 : Option Addr) (k63 k64 : Nat) (p65 : Option Addr) (k66 k67 : Nat) (w68 : World),
  (∃ (k69 : Nat), k69 < k51 ∧ y49 k69 p62 k63 k64 p65 k66 k67 (IntKind.wrap IntKind.i64 (n58 + (1 : Int))) w68) → y61 p62 k63 k64 p65 k66
  k67 w68) → ∃ (ad72 : Addr), tQueueA = some ad72 ∧ ((0 : Int) ≤ n58 ∧ n58 < (tQueueL : Int)) ∧ ∃ (n73 : Int), World.cell? w59 (Addr.add
  (Addr.add ad72 (Int.toNat n58 * 3)) 0) = some (Value.int IntKind.i64 n73) ∧ bcase (decide (n73 = s)) (∃ (ad74 : Addr), tQueueA = some ad74
  ∧ ((0 : Int) ≤ n58 ∧ n58 < (tQueueL : Int)) ∧ ∃ (n75 : Int), World.cell? w59 (Addr.add (Addr.add ad74 (Int.toNat n58 * 3)) 1) = some
  (Value.int IntKind.i64 n75) ∧ Calls Proofs.Try.prog (34 : Nat) { toList := [Value.slice p55 k56 k57, Value.int IntKind.i64 n75] } w59 fun
  (e76 : Ending) (w77 : World) => ∃ (p78 : Option Addr), ∃ (k79 : Nat), ∃ (k80 : Nat), e76 = Ending.returned (Value.slice p78 k79 k80) ∧
  Keep [k1, k2] w59 w77 ∧ y61 p52 k53 k54 p78 k79 k80 w77) (∃ (ad81 : Addr), tQueueA = some ad81 ∧ ((0 : Int) ≤ n58 ∧ n58 < (tQueueL : Int))
  ∧ ∃ (n82 : Int), ∃ (n83 : Int), ∃ (b84 : Bool), (World.cell? w59 (Addr.add (Addr.add ad81 (Int.toNat n58 * 3)) 0) = some (Value.int
  IntKind.i64 n82) ∧ World.cell? w59 (Addr.add (Addr.add ad81 (Int.toNat n58 * 3)) 1) = some (Value.int IntKind.i64 n83) ∧ World.cell? w59
  (Addr.add (Addr.add ad81 (Int.toNat n58 * 3)) 2) = some (Value.bool b84) ∧ True) ∧ ∀ (k85 : Nat), appendP false [] [k85] [k1, k2, k85] w59
  p52 k53 k54 1 (spl (reps [Value.int IntKind.i64 (0 : Int), Value.int IntKind.i64 (0 : Int), Value.bool false] 1) 0 [Value.int IntKind.i64
  n82, Value.int IntKind.i64 n83, Value.bool b84]) 3 24 [Value.int IntKind.i64 (0 : Int), Value.int IntKind.i64 (0 : Int), Value.bool false]
  fun (w86 : World) (p87 : Option Addr) (k88 k89 : Nat) => y61 p87 k88 k89 p55 k56 k57 w86)) (∃ (y90 : Nat → Option Addr → Nat → Nat → Int →
  Option Addr → Nat → Nat → Option Addr → Nat → Nat → World → Prop), ∃ (k91 : Nat), (∀ (w92 : World), Step w59 w92 [k1] [] → y90 k91 none 0
  0 (0 : Int) p11 k12 k13 p52 k53 k54 w92) ∧ ∀ (k94 : Nat) (p95 : Option Addr) (k96 k97 : Nat) (n98 : Int) (p99 : Option Addr) (k100 k101 :
  Nat) (p102 : Option Addr) (k103 k104 : Nat) (w105 : World), y90 k94 p95 k96 k97 n98 p99 k100 k101 p102 k103 k104 w105 → bcase (decide (n98
  < (k56 : Int))) (∃ (ad107 : Addr), p55 = some ad107 ∧ ((0 : Int) ≤ n98 ∧ n98 < (k56 : Int)) ∧ ∃ (n108 : Int), World.cell? w105 (Addr.add
  ad107 (Int.toNat n98 * 1)) = some (Value.int IntKind.i64 n108) ∧ ∀ (w109 : World), Step w105 w109 [] [] → Calls Proofs.Try.prog (35 : Nat)
  { toList := [Value.agg { toList := [Value.slice p99 k100 k101, Value.slice p102 k103 k104] }, Value.int IntKind.i64 n108] } w109 fun (e111
  : Ending) (w112 : World) => ∃ (p113 : Option Addr), ∃ (k114 : Nat), ∃ (k115 : Nat), ∃ (p116 : Option Addr), ∃ (k117 : Nat), ∃ (k118 :
  Nat), ∃ (p119 : Option Addr), ∃ (k120 : Nat), ∃ (k121 : Nat), e111 = Ending.returned (Value.tuple { toList := [Value.agg { toList := [Value.slice p113 k114 k115, Value.slice p116 k117 k118] }, Value.slice p119 k120 k121] })
  ∧ Keep [k1, k2] w109 w112 ∧ ∃ (l122 : List Value), List.length l122 = k120 * 1 ∧ Row w112 p119 l122 ∧ (∀ (k123 : Nat), Option.map (fun (x
  : Addr) => Addr.block x) p119 = some k123 → ¬k123 ∈ [k1]) ∧ appendP false [k1] [] [k1, k2] w112 p95 k96 k97 k120 l122 1 8 [Value.int
  IntKind.i64 (0 : Int)] fun (w125 : World) (p126 : Option Addr) (k127 k128 : Nat) => ∃ (k129 : Nat), k129 < k94 ∧ y90 k129 p126 k127 k128
  (IntKind.wrap IntKind.i64 (n98 + (1 : Int))) p113 k114 k115 p116 k117 k118 w125) (∀ (w130 : World), Step w105 w130 [k2] [] → R
  (Ending.returned (Value.tuple { toList := [Value.agg { toList := List.take 2 (List.drop 0 (sets [Value.slice none 0 0, Value.slice none 0 0] 0 [Value.slice p99 k100 k101, Value.slice p102 k103 k104])) }, Value.slice p95 k96 k97, Value.int IntKind.i64 (0 : Int)] }))
  w130)))) → y3 b4 w5) → bcase (decide (s < (1 : Int))) (∀ (w134 : World), Step w w134 [] [k2, k1] → y3 true w134) (∀ (w136 : World), Step w
  w136 [] [k2, k1] → y3 (decide ((16 : Int) < s)) w136)

theorem rhizomeref16_Release.link {tHeldA : Option Addr} {tHeldL tHeldC : Nat} {tQueueA : Option Addr} {tQueueL tQueueC : Nat} {s : Int} {R : Ending → World → Prop} {w : World} (h : rhizomeref16_Release.vc tHeldA tHeldL tHeldC tQueueA tQueueL tQueueC s R w) : Calls Go.Proofs.Try.prog 17 #[(.agg #[.slice tHeldA tHeldL tHeldC, .slice tQueueA tQueueL tQueueC] : Value), .int .i64 s] w R :=
  calls_of pf (fn := Go.Proofs.Try.f17) (ann := .s (.n) (.s (.j ⟨[], [], [0, 1], [(20, .l (.b))], []⟩ (.n) (.c (.s (.n) (.n)) (.n))) (.s (.n) (.s (.n) (.s (.s (.n) (.b (.l ⟨[], [], [0, 1], [(7, .l (.sl)), (9, .l (.sl)), (25, .l (.i .i64))], []⟩ (.s (.n) (.s (.c (.n) (.n)) (.j ⟨[], [], [0, 1], [(7, .l (.sl)), (9, .l (.sl))], []⟩ (.b (.s (.n) (.s (.n) (.c (.n) (.n))))) (.n))))))) (.s (.s (.n) (.b (.l ⟨[], [], [0, 1], [(8, .l (.sl)), (9, .l (.sl)), (56, .l (.i .i64))], []⟩ (.s (.n) (.s (.c (.n) (.n)) (.j ⟨[], [], [0, 1], [(8, .l (.sl)), (9, .l (.sl))], []⟩ (.b (.s (.n) (.s (.n) (.c (.n) (.n))))) (.n))))))) (.s (.n) (.s (.n) (.s (.s (.n) (.b (.l ⟨[], [], [1], [(12, .l (.sl)), (89, .l (.i .i64))], [(0, [.sl, .sl])]⟩ (.s (.n) (.s (.c (.n) (.n)) (.s (.b (.s (.n) (.s (.n) (.s (.d [1]) (.n))))) (.n))))))) (.s (.n) (.n))))))))))) (mp := false) (args := [.v (.agg #[.slice tHeldA tHeldL tHeldC, .slice tQueueA tQueueL tQueueC]), .v (.int .i64 s)]) Go.Proofs.Try.func17 (c := Go.Proofs.Try.f17.body.getD .skip) (by kernel_rfl) (by kernel_rfl) (Eq.mp (by kernel_rfl) h)
theorem rhizomeref16_Release.body : BodyOk Go.Proofs.Try.prog 17 := ⟨Go.Proofs.Try.f17, Go.Proofs.Try.func17, by kernel_rfl, pf.ng _ _ Go.Proofs.Try.func17⟩

/-! ### rhizome/rhizomeref16.Ask: function 19 -/
def rhizomeref16_Ask.vc (tHeldA : Option Addr) (tHeldL tHeldC : Nat) (tQueueA : Option Addr) (tQueueL tQueueC : Nat) (s : Int) (item : Int)
  (alone : Bool) (R : Ending → World → Prop) (w : World) : Prop := ∀ (k1 k2 : Nat) (y3 : Bool → World → Prop), (∀ (b4 : Bool) (w5 : World),
  bcase b4 (∀ (w6 : World), Step w5 w6 [k2] [] → R (Ending.returned (Value.tuple { toList := [Value.agg { toList := List.take 2 (List.drop 0 (sets [Value.slice none 0 0, Value.slice none 0 0] 0 [Value.slice tHeldA tHeldL tHeldC, Value.slice tQueueA tQueueL tQueueC])) }, Value.int IntKind.i64 (1 : Int)] }))
  w6) (Calls Proofs.Try.prog (36 : Nat) { toList := [Value.agg { toList := [Value.slice tHeldA tHeldL tHeldC, Value.slice tQueueA tQueueL tQueueC] }, Value.int IntKind.i64 s] }
  w5 fun (e8 : Ending) (w9 : World) => ∃ (n10 : Int), e8 = Ending.returned (Value.int IntKind.i64 n10) ∧ Keep [k1, k2] w5 w9 ∧ bcase (decide
  ((0 : Int) ≤ n10)) (∀ (w11 : World), Step w9 w11 [k2] [] → R (Ending.returned (Value.tuple { toList := [Value.agg { toList := List.take 2 (List.drop 0 (sets [Value.slice none 0 0, Value.slice none 0 0] 0 [Value.slice tHeldA tHeldL tHeldC, Value.slice tQueueA tQueueL tQueueC])) }, Value.int IntKind.i64 (171 : Int)] }))
  w11) (∀ (k13 : Nat) (w14 : World), Step w9 w14 [] [k13] → Calls Proofs.Try.prog (37 : Nat) { toList := [Value.agg { toList := [Value.slice tHeldA tHeldL tHeldC, Value.slice tQueueA tQueueL tQueueC] }, Value.int IntKind.i64 s, Value.int IntKind.i64 item] }
  w14 fun (e16 : Ending) (w17 : World) => ∃ (b18 : Bool), ∃ (b19 : Bool), e16 = Ending.returned (Value.tuple { toList := [Value.bool b18, Value.bool b19] })
  ∧ Keep [k1, k2, k13] w14 w17 ∧ ∀ (y20 : Bool → World → Prop), (∀ (b21 : Bool) (w22 : World), bcase b21 (∀ (w23 : World), Step w22 w23 [k2]
  [] → R (Ending.returned (Value.tuple { toList := [Value.agg { toList := List.take 2 (List.drop 0 (sets [Value.slice none 0 0, Value.slice none 0 0] 0 [Value.slice tHeldA tHeldL tHeldC, Value.slice tQueueA tQueueL tQueueC])) }, Value.int IntKind.i64 (0 : Int)] }))
  w23) (∃ (y25 : Nat → Bool → Int → World → Prop), ∃ (k26 : Nat), y25 k26 false (0 : Int) w22 ∧ ∀ (k27 : Nat) (b28 : Bool) (n29 : Int) (w30
  : World), y25 k27 b28 n29 w30 → bcase (decide (n29 < (tQueueL : Int))) (∀ (y32 : Bool → World → Prop), (∀ (b33 : Bool) (w34 : World), (∃
  (k35 : Nat), k35 < k27 ∧ y25 k35 b33 (IntKind.wrap IntKind.i64 (n29 + (1 : Int))) w34) → y32 b33 w34) → bcase b28 (y32 true w30) (∃ (ad38
  : Addr), tQueueA = some ad38 ∧ ((0 : Int) ≤ n29 ∧ n29 < (tQueueL : Int)) ∧ ∃ (n39 : Int), World.cell? w30 (Addr.add (Addr.add ad38
  (Int.toNat n29 * 3)) 1) = some (Value.int IntKind.i64 n39) ∧ y32 (decide (n39 = item)) w30)) (∀ (y40 : Bool → World → Prop), (∀ (b41 :
  Bool) (w42 : World), bcase b41 (Calls Proofs.Try.prog (39 : Nat) { toList := [Value.agg { toList := [Value.slice tHeldA tHeldL tHeldC, Value.slice tQueueA tQueueL tQueueC] }, Value.agg { toList := List.take 3 (List.drop 0 (sets [Value.int IntKind.i64 (0 : Int), Value.int IntKind.i64 (0 : Int), Value.bool false] 0 (spl (spl (spl [Value.int IntKind.i64 (0 : Int), Value.int IntKind.i64 (0 : Int), Value.bool false] 0 [Value.int IntKind.i64 s]) 1 [Value.int IntKind.i64 item]) 2 [Value.bool alone]))) }] }
  w42 fun (e43 : Ending) (w44 : World) => ∃ (p45 : Option Addr), ∃ (k46 : Nat), ∃ (k47 : Nat), ∃ (p48 : Option Addr), ∃ (k49 : Nat), ∃ (k50
  : Nat), e43 = Ending.returned (Value.agg { toList := [Value.slice p45 k46 k47, Value.slice p48 k49 k50] }) ∧ Keep [k1, k2, k13] w42 w44 ∧
  ∀ (w51 : World), Step w44 w51 [k2] [] → R (Ending.returned (Value.tuple { toList := [Value.agg { toList := List.take 2 (List.drop 0 (sets [Value.slice none 0 0, Value.slice none 0 0] 0 [Value.slice p45 k46 k47, Value.slice p48 k49 k50])) }, Value.int IntKind.i64 (0 : Int)] }))
  w51) (∃ (y53 : Nat → Option Addr → Nat → Nat → Bool → Int → World → Prop), ∃ (k54 : Nat), y53 k54 none 0 0 false (0 : Int) w42 ∧ ∀ (k55 :
  Nat) (p56 : Option Addr) (k57 k58 : Nat) (b59 : Bool) (n60 : Int) (w61 : World), y53 k55 p56 k57 k58 b59 n60 w61 → bcase (decide (n60 <
  (tQueueL : Int))) (∃ (ad63 : Addr), tQueueA = some ad63 ∧ ((0 : Int) ≤ n60 ∧ n60 < (tQueueL : Int)) ∧ ∃ (n64 : Int), ∃ (n65 : Int), ∃ (b66
  : Bool), (World.cell? w61 (Addr.add (Addr.add ad63 (Int.toNat n60 * 3)) 0) = some (Value.int IntKind.i64 n64) ∧ World.cell? w61 (Addr.add
  (Addr.add ad63 (Int.toNat n60 * 3)) 1) = some (Value.int IntKind.i64 n65) ∧ World.cell? w61 (Addr.add (Addr.add ad63 (Int.toNat n60 * 3))
  2) = some (Value.bool b66) ∧ True) ∧ ∀ (k67 : Nat) (w68 : World), Step w61 w68 [] [k67] → Calls Proofs.Try.prog (37 : Nat) { toList := [Value.agg { toList := [Value.slice tHeldA tHeldL tHeldC, Value.slice tQueueA tQueueL tQueueC] }, Value.int IntKind.i64 n64, Value.int IntKind.i64 item] }
  w68 fun (e70 : Ending) (w71 : World) => ∃ (b72 : Bool), ∃ (b73 : Bool), e70 = Ending.returned (Value.tuple { toList := [Value.bool b72, Value.bool b73] })
  ∧ Keep [k1, k2, k13, k67] w68 w71 ∧ ∀ (y74 : Option Addr → Nat → Nat → Bool → World → Prop), (∀ (p75 : Option Addr) (k76 k77 : Nat) (b78 :
  Bool) (w79 : World), (∀ (k80 : Nat), appendP false [] [k80] [k1, k2, k13, k67, k80] w79 p75 k76 k77 1 (spl (reps [Value.int IntKind.i64 (0
  : Int), Value.int IntKind.i64 (0 : Int), Value.bool false] 1) 0 (List.take 3 (List.drop 0 (sets [Value.int IntKind.i64 (0 : Int),
  Value.int IntKind.i64 (0 : Int), Value.bool false] 0 [Value.int IntKind.i64 n64, Value.int IntKind.i64 n65, Value.bool b66])))) 3 24
  [Value.int IntKind.i64 (0 : Int), Value.int IntKind.i64 (0 : Int), Value.bool false] fun (w81 : World) (p82 : Option Addr) (k83 k84 : Nat)
  => ∃ (k85 : Nat), k85 < k55 ∧ y53 k85 p82 k83 k84 b78 (IntKind.wrap IntKind.i64 (n60 + (1 : Int))) w81) → y74 p75 k76 k77 b78 w79) → ∀
  (y88 : Bool → World → Prop), (∀ (b89 : Bool) (w90 : World), bcase b89 (∀ (k91 : Nat), appendP false [] [k91] [k1, k2, k13, k67, k91] w90
  p56 k57 k58 1 (spl (reps [Value.int IntKind.i64 (0 : Int), Value.int IntKind.i64 (0 : Int), Value.bool false] 1) 0 (List.take 3 (List.drop
  0 (sets [Value.int IntKind.i64 (0 : Int), Value.int IntKind.i64 (0 : Int), Value.bool false] 0 (spl (spl (spl [Value.int IntKind.i64 (0 :
  Int), Value.int IntKind.i64 (0 : Int), Value.bool false] 0 [Value.int IntKind.i64 s]) 1 [Value.int IntKind.i64 item]) 2 [Value.bool
  alone]))))) 3 24 [Value.int IntKind.i64 (0 : Int), Value.int IntKind.i64 (0 : Int), Value.bool false] fun (w92 : World) (p93 : Option
  Addr) (k94 k95 : Nat) => y74 p93 k94 k95 true w92) (y74 p56 k57 k58 b59 w90) → y88 b89 w90) → bcase b18 (bcase (!b59) (bcase (decide (n65
  = item)) (y88 (!b72) w71) (y88 false w71)) (y88 false w71)) (y88 false w71)) (∀ (y98 : Option Addr → Nat → Nat → World → Prop), (∀ (p99 :
  Option Addr) (k100 k101 : Nat) (w102 : World), (∀ (w103 : World), Step w102 w103 [k2, k1] [] → R (Ending.returned (Value.tuple { toList := [Value.agg { toList := List.take 2 (List.drop 0 (sets [Value.slice none 0 0, Value.slice none 0 0] 0 (List.take 2 (List.drop 0 (sets [Value.slice tHeldA tHeldL tHeldC, Value.slice tQueueA tQueueL tQueueC] 1 [Value.slice p99 k100 k101]))))) }, Value.int IntKind.i64 (160 : Int)] }))
  w103) → y98 p99 k100 k101 w102) → bcase (!b59) (∀ (k107 : Nat), appendP false [] [k107] [k1, k2, k13, k107] w61 p56 k57 k58 1 (spl (reps
  [Value.int IntKind.i64 (0 : Int), Value.int IntKind.i64 (0 : Int), Value.bool false] 1) 0 (List.take 3 (List.drop 0 (sets [Value.int
  IntKind.i64 (0 : Int), Value.int IntKind.i64 (0 : Int), Value.bool false] 0 (spl (spl (spl [Value.int IntKind.i64 (0 : Int), Value.int
  IntKind.i64 (0 : Int), Value.bool false] 0 [Value.int IntKind.i64 s]) 1 [Value.int IntKind.i64 item]) 2 [Value.bool alone]))))) 3 24
  [Value.int IntKind.i64 (0 : Int), Value.int IntKind.i64 (0 : Int), Value.bool false] fun (w108 : World) (p109 : Option Addr) (k110 k111 :
  Nat) => y98 p109 k110 k111 w108) (y98 p56 k57 k58 w61))) → y40 b41 w42) → Calls Proofs.Try.prog (38 : Nat) { toList := [Value.agg { toList := [Value.slice tHeldA tHeldL tHeldC, Value.slice tQueueA tQueueL tQueueC] }, Value.agg { toList := List.take 3 (List.drop 0 (sets [Value.int IntKind.i64 (0 : Int), Value.int IntKind.i64 (0 : Int), Value.bool false] 0 (spl (spl (spl [Value.int IntKind.i64 (0 : Int), Value.int IntKind.i64 (0 : Int), Value.bool false] 0 [Value.int IntKind.i64 s]) 1 [Value.int IntKind.i64 item]) 2 [Value.bool alone]))) }] }
  w30 fun (e114 : Ending) (w115 : World) => ∃ (b116 : Bool), e114 = Ending.returned (Value.bool b116) ∧ Keep [k1, k2, k13] w30 w115 ∧ bcase
  b116 (bcase b18 (y40 true w115) (y40 (!b28) w115)) (y40 false w115))) → y20 b21 w22) → bcase b18 (bcase b19 (y20 true w17) (y20 (!alone)
  w17)) (y20 false w17))) → y3 b4 w5) → bcase (decide (s < (1 : Int))) (∀ (w121 : World), Step w w121 [] [k2, k1] → y3 true w121) (∀ (w123 :
  World), Step w w123 [] [k2, k1] → y3 (decide ((16 : Int) < s)) w123)

theorem rhizomeref16_Ask.link {tHeldA : Option Addr} {tHeldL tHeldC : Nat} {tQueueA : Option Addr} {tQueueL tQueueC : Nat} {s : Int} {item : Int} {alone : Bool} {R : Ending → World → Prop} {w : World} (h : rhizomeref16_Ask.vc tHeldA tHeldL tHeldC tQueueA tQueueL tQueueC s item alone R w) : Calls Go.Proofs.Try.prog 19 #[(.agg #[.slice tHeldA tHeldL tHeldC, .slice tQueueA tQueueL tQueueC] : Value), .int .i64 s, .int .i64 item, .bool alone] w R :=
  calls_of pf (fn := Go.Proofs.Try.f19) (ann := .s (.n) (.s (.j ⟨[], [], [0, 1], [(26, .l (.b))], []⟩ (.n) (.c (.s (.n) (.n)) (.n))) (.s (.s (.n) (.c (.s (.n) (.n)) (.n))) (.s (.n) (.s (.n) (.s (.j ⟨[], [], [0, 1, 2], [(51, .l (.b))], []⟩ (.n) (.c (.s (.n) (.n)) (.n))) (.s (.n) (.s (.s (.n) (.b (.l ⟨[], [], [0, 1, 2], [(13, .l (.b)), (56, .l (.i .i64))], []⟩ (.s (.n) (.s (.c (.n) (.n)) (.j ⟨[], [], [0, 1, 2], [(13, .l (.b))], []⟩ (.b (.s (.n) (.n))) (.n))))))) (.s (.j ⟨[], [], [0, 1, 2], [(80, .l (.b))], []⟩ (.n) (.c (.s (.n) (.n)) (.n))) (.s (.n) (.s (.n) (.s (.s (.n) (.b (.l ⟨[], [], [0, 1, 2], [(15, .l (.sl)), (16, .l (.b)), (87, .l (.i .i64))], []⟩ (.s (.n) (.s (.c (.n) (.n)) (.s (.b (.s (.n) (.s (.n) (.s (.n) (.j ⟨[], [], [0, 1, 2, 3], [(15, .l (.sl)), (16, .l (.b))], []⟩ (.j ⟨[], [], [0, 1, 2, 3], [(117, .l (.b))], []⟩ (.n) (.c (.s (.n) (.n)) (.n))) (.n)))))) (.n))))))) (.j ⟨[], [], [0, 1], [(15, .l (.sl))], []⟩ (.s (.n) (.c (.n) (.n))) (.s (.n) (.s (.n) (.n)))))))))))))))) (mp := false) (args := [.v (.agg #[.slice tHeldA tHeldL tHeldC, .slice tQueueA tQueueL tQueueC]), .v (.int .i64 s), .v (.int .i64 item), .v (.bool alone)]) Go.Proofs.Try.func19 (c := Go.Proofs.Try.f19.body.getD .skip) (by kernel_rfl) (by kernel_rfl) (Eq.mp (by kernel_rfl) h)
theorem rhizomeref16_Ask.body : BodyOk Go.Proofs.Try.prog 19 := ⟨Go.Proofs.Try.f19, Go.Proofs.Try.func19, by kernel_rfl, pf.ng _ _ Go.Proofs.Try.func19⟩

/-! ### rhizome/rhizomeref16.Blockers: function 40 -/
def rhizomeref16_Blockers.vc (tHeldA : Option Addr) (tHeldL tHeldC : Nat) (tQueueA : Option Addr) (tQueueL tQueueC : Nat) (s : Int) (R :
  Ending → World → Prop) (w : World) : Prop := ∀ (k1 : Nat) (w2 : World), Step w w2 [] [k1] → Calls Proofs.Try.prog (36 : Nat) { toList := [Value.agg { toList := [Value.slice tHeldA tHeldL tHeldC, Value.slice tQueueA tQueueL tQueueC] }, Value.int IntKind.i64 s] }
  w2 fun (e4 : Ending) (w5 : World) => ∃ (n6 : Int), e4 = Ending.returned (Value.int IntKind.i64 n6) ∧ Keep [k1] w2 w5 ∧ bcase (decide (n6 <
  (0 : Int))) (R (Ending.returned (Value.slice none 0 0)) w5) (∃ (ad7 : Addr), tQueueA = some ad7 ∧ ((0 : Int) ≤ n6 ∧ n6 < (tQueueL : Int))
  ∧ ∃ (n8 : Int), ∃ (n9 : Int), ∃ (b10 : Bool), (World.cell? w5 (Addr.add (Addr.add ad7 (Int.toNat n6 * 3)) 0) = some (Value.int IntKind.i64
  n8) ∧ World.cell? w5 (Addr.add (Addr.add ad7 (Int.toNat n6 * 3)) 1) = some (Value.int IntKind.i64 n9) ∧ World.cell? w5 (Addr.add (Addr.add
  ad7 (Int.toNat n6 * 3)) 2) = some (Value.bool b10) ∧ True) ∧ ∀ (k11 : Nat), ∃ (y12 : Nat → Option Addr → Nat → Nat → Int → World → Prop),
  ∃ (k13 : Nat), (∀ (w14 : World), Step w5 w14 [] [k11] → y12 k13 none 0 0 (0 : Int) w14) ∧ ∀ (k16 : Nat) (p17 : Option Addr) (k18 k19 :
  Nat) (n20 : Int) (w21 : World), y12 k16 p17 k18 k19 n20 w21 → bcase (decide (n20 < (tHeldL : Int))) (∀ (y23 : Option Addr → Nat → Nat →
  World → Prop), (∀ (p24 : Option Addr) (k25 k26 : Nat) (w27 : World), (∃ (k28 : Nat), k28 < k16 ∧ y12 k28 p24 k25 k26 (IntKind.wrap
  IntKind.i64 (n20 + (1 : Int))) w27) → y23 p24 k25 k26 w27) → ∃ (ad31 : Addr), tHeldA = some ad31 ∧ ((0 : Int) ≤ n20 ∧ n20 < (tHeldL :
  Int)) ∧ ∃ (n32 : Int), ∃ (n33 : Int), ∃ (b34 : Bool), (World.cell? w21 (Addr.add (Addr.add ad31 (Int.toNat n20 * 3)) 0) = some (Value.int
  IntKind.i64 n32) ∧ World.cell? w21 (Addr.add (Addr.add ad31 (Int.toNat n20 * 3)) 1) = some (Value.int IntKind.i64 n33) ∧ World.cell? w21
  (Addr.add (Addr.add ad31 (Int.toNat n20 * 3)) 2) = some (Value.bool b34) ∧ True) ∧ ∀ (k35 : Nat) (y36 : Bool → World → Prop), (∀ (b37 :
  Bool) (w38 : World), bcase b37 (Calls Proofs.Try.prog (34 : Nat) { toList := [Value.slice p17 k18 k19, Value.int IntKind.i64 n32] } w38
  fun (e39 : Ending) (w40 : World) => ∃ (p41 : Option Addr), ∃ (k42 : Nat), ∃ (k43 : Nat), e39 = Ending.returned (Value.slice p41 k42 k43) ∧
  Keep [k1, k11, k35] w38 w40 ∧ y23 p41 k42 k43 w40) (y23 p17 k18 k19 w38) → y36 b37 w38) → bcase (decide (n33 = n9)) (bcase (!decide (n32 =
  s)) (bcase b34 (∀ (w46 : World), Step w21 w46 [] [k35] → y36 true w46) (∀ (w48 : World), Step w21 w48 [] [k35] → y36 b10 w48)) (∀ (w50 :
  World), Step w21 w50 [] [k35] → y36 false w50)) (∀ (w52 : World), Step w21 w52 [] [k35] → y36 false w52)) (∃ (y54 : Nat → Option Addr →
  Nat → Nat → Int → World → Prop), ∃ (k55 : Nat), y54 k55 p17 k18 k19 (0 : Int) w21 ∧ ∀ (k56 : Nat) (p57 : Option Addr) (k58 k59 : Nat) (n60
  : Int) (w61 : World), y54 k56 p57 k58 k59 n60 w61 → bcase (decide (n60 < n6)) (∀ (y63 : Option Addr → Nat → Nat → World → Prop), (∀ (p64 :
  Option Addr) (k65 k66 : Nat) (w67 : World), (∃ (k68 : Nat), k68 < k56 ∧ y54 k68 p64 k65 k66 (IntKind.wrap IntKind.i64 (n60 + (1 : Int)))
  w67) → y63 p64 k65 k66 w67) → ∃ (ad71 : Addr), tQueueA = some ad71 ∧ ((0 : Int) ≤ n60 ∧ n60 < (tQueueL : Int)) ∧ ∃ (n72 : Int),
  World.cell? w61 (Addr.add (Addr.add ad71 (Int.toNat n60 * 3)) 1) = some (Value.int IntKind.i64 n72) ∧ bcase (decide (n72 = n9)) (∃ (ad73 :
  Addr), tQueueA = some ad73 ∧ ((0 : Int) ≤ n60 ∧ n60 < (tQueueL : Int)) ∧ ∃ (n74 : Int), World.cell? w61 (Addr.add (Addr.add ad73
  (Int.toNat n60 * 3)) 0) = some (Value.int IntKind.i64 n74) ∧ ∀ (w75 : World), Step w61 w75 [] [] → Calls Proofs.Try.prog (34 : Nat) { toList := [Value.slice p57 k58 k59, Value.int IntKind.i64 n74] }
  w75 fun (e77 : Ending) (w78 : World) => ∃ (p79 : Option Addr), ∃ (k80 : Nat), ∃ (k81 : Nat), e77 = Ending.returned (Value.slice p79 k80
  k81) ∧ Keep [k1, k11] w75 w78 ∧ y63 p79 k80 k81 w78) (∀ (w82 : World), Step w61 w82 [] [] → y63 p57 k58 k59 w82)) (R (Ending.returned
  (Value.slice p57 k58 k59)) w61)))

theorem rhizomeref16_Blockers.link {tHeldA : Option Addr} {tHeldL tHeldC : Nat} {tQueueA : Option Addr} {tQueueL tQueueC : Nat} {s : Int} {R : Ending → World → Prop} {w : World} (h : rhizomeref16_Blockers.vc tHeldA tHeldL tHeldC tQueueA tQueueL tQueueC s R w) : Calls Go.Proofs.Try.prog 40 #[(.agg #[.slice tHeldA tHeldL tHeldC, .slice tQueueA tQueueL tQueueC] : Value), .int .i64 s] w R :=
  calls_of pf (fn := Go.Proofs.Try.f40) (ann := .s (.n) (.s (.n) (.s (.s (.n) (.c (.s (.n) (.n)) (.n))) (.s (.n) (.s (.n) (.s (.s (.n) (.b (.l ⟨[], [], [0, 1], [(7, .l (.sl)), (24, .l (.i .i64))], []⟩ (.s (.n) (.s (.c (.n) (.n)) (.j ⟨[], [], [0, 1], [(7, .l (.sl))], []⟩ (.b (.s (.n) (.s (.n) (.j ⟨[], [], [0, 1, 2], [(50, .l (.b))], []⟩ (.n) (.c (.n) (.n)))))) (.n))))))) (.s (.s (.n) (.b (.l ⟨[], [], [0, 1], [(7, .l (.sl)), (10, .l (.i .i64))], []⟩ (.s (.s (.n) (.c (.n) (.n))) (.j ⟨[], [], [0, 1], [(7, .l (.sl))], []⟩ (.b (.s (.d [0, 1]) (.c (.n) (.n)))) (.n)))))) (.s (.n) (.n))))))))) (mp := false) (args := [.v (.agg #[.slice tHeldA tHeldL tHeldC, .slice tQueueA tQueueL tQueueC]), .v (.int .i64 s)]) Go.Proofs.Try.func40 (c := Go.Proofs.Try.f40.body.getD .skip) (by kernel_rfl) (by kernel_rfl) (Eq.mp (by kernel_rfl) h)
theorem rhizomeref16_Blockers.body : BodyOk Go.Proofs.Try.prog 40 := ⟨Go.Proofs.Try.f40, Go.Proofs.Try.func40, by kernel_rfl, pf.ng _ _ Go.Proofs.Try.func40⟩

/-! ### rhizome/rhizomeref16.Edges: function 41 -/
def rhizomeref16_Edges.vc (tHeldA : Option Addr) (tHeldL tHeldC : Nat) (tQueueA : Option Addr) (tQueueL tQueueC : Nat) (R : Ending → World →
  Prop) (w : World) : Prop := ∀ (k1 : Nat), ∃ (y2 : Nat → Option Addr → Nat → Nat → Int → World → Prop), ∃ (k3 : Nat), (∀ (w4 : World), Step
  w w4 [] [k1] → y2 k3 none 0 0 (1 : Int) w4) ∧ ∀ (k6 : Nat) (p7 : Option Addr) (k8 k9 : Nat) (n10 : Int) (w11 : World), y2 k6 p7 k8 k9 n10
  w11 → bcase (decide (n10 ≤ (16 : Int))) (Calls Proofs.Try.prog (40 : Nat) { toList := [Value.agg { toList := [Value.slice tHeldA tHeldL tHeldC, Value.slice tQueueA tQueueL tQueueC] }, Value.int IntKind.i64 n10] }
  w11 fun (e13 : Ending) (w14 : World) => ∃ (p15 : Option Addr), ∃ (k16 : Nat), ∃ (k17 : Nat), e13 = Ending.returned (Value.slice p15 k16
  k17) ∧ Keep [k1] w11 w14 ∧ ∃ (y18 : Nat → Option Addr → Nat → Nat → Int → World → Prop), ∃ (k19 : Nat), y18 k19 p7 k8 k9 (0 : Int) w14 ∧ ∀
  (k20 : Nat) (p21 : Option Addr) (k22 k23 : Nat) (n24 : Int) (w25 : World), y18 k20 p21 k22 k23 n24 w25 → bcase (decide (n24 < (k16 :
  Int))) (∃ (ad27 : Addr), p15 = some ad27 ∧ ((0 : Int) ≤ n24 ∧ n24 < (k16 : Int)) ∧ ∃ (n28 : Int), World.cell? w25 (Addr.add ad27
  (Int.toNat n24 * 1)) = some (Value.int IntKind.i64 n28) ∧ ∀ (k29 : Nat), appendP false [] [k29] [k1, k29] w25 p21 k22 k23 1 (spl (reps
  [Value.int IntKind.i64 (0 : Int), Value.int IntKind.i64 (0 : Int)] 1) 0 (spl (spl [Value.int IntKind.i64 (0 : Int), Value.int IntKind.i64
  (0 : Int)] 0 [Value.int IntKind.i64 n10]) 1 [Value.int IntKind.i64 n28])) 2 16 [Value.int IntKind.i64 (0 : Int), Value.int IntKind.i64 (0
  : Int)] fun (w30 : World) (p31 : Option Addr) (k32 k33 : Nat) => ∃ (k34 : Nat), k34 < k20 ∧ y18 k34 p31 k32 k33 (IntKind.wrap IntKind.i64
  (n24 + (1 : Int))) w30) (∃ (k35 : Nat), k35 < k6 ∧ y2 k35 p21 k22 k23 (IntKind.wrap IntKind.i64 (n10 + (1 : Int))) w25)) (R
  (Ending.returned (Value.slice p7 k8 k9)) w11)

theorem rhizomeref16_Edges.link {tHeldA : Option Addr} {tHeldL tHeldC : Nat} {tQueueA : Option Addr} {tQueueL tQueueC : Nat} {R : Ending → World → Prop} {w : World} (h : rhizomeref16_Edges.vc tHeldA tHeldL tHeldC tQueueA tQueueL tQueueC R w) : Calls Go.Proofs.Try.prog 41 #[(.agg #[.slice tHeldA tHeldL tHeldC, .slice tQueueA tQueueL tQueueC] : Value)] w R :=
  calls_of pf (fn := Go.Proofs.Try.f41) (ann := .s (.n) (.s (.n) (.s (.s (.n) (.b (.l ⟨[], [], [0], [(3, .l (.sl)), (4, .l (.i .i64))], []⟩ (.s (.s (.n) (.c (.n) (.n))) (.s (.b (.s (.n) (.s (.n) (.b (.l ⟨[], [], [0], [(3, .l (.sl)), (16, .l (.i .i64))], []⟩ (.s (.n) (.s (.c (.n) (.n)) (.s (.b (.s (.n) (.n))) (.n))))))))) (.n)))))) (.s (.n) (.n))))) (mp := false) (args := [.v (.agg #[.slice tHeldA tHeldL tHeldC, .slice tQueueA tQueueL tQueueC])]) Go.Proofs.Try.func41 (c := Go.Proofs.Try.f41.body.getD .skip) (by kernel_rfl) (by kernel_rfl) (Eq.mp (by kernel_rfl) h)
theorem rhizomeref16_Edges.body : BodyOk Go.Proofs.Try.prog 41 := ⟨Go.Proofs.Try.f41, Go.Proofs.Try.func41, by kernel_rfl, pf.ng _ _ Go.Proofs.Try.func41⟩

end Go.Proofs.Ytnimejocaaekaaa.VC
