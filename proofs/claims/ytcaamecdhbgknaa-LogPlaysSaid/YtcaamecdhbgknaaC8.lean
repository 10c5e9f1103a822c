/- What is to be shown of functions' texts, printed by a program of this session's repo; that it gives the functions' contracts is checked by the kernel. -/
import Derived.Test.YtcaamecdhbgknaaProg
import Derived.Test.YtcaamecdhbgknaaPf
namespace Go.Proofs.Ytcaamecdhbgknaa.VC
open Go Go.V
set_option maxRecDepth 1000000
set_option linter.unusedVariables false

/-! ### rhizome/rhizomeref04.Append: function 42 -/
def rhizomeref04_Append.vc (dSureA : Option Addr) (dSureL dSureC : Nat) (dNowA : Option Addr) (dNowL dNowC : Nat) (dFreshA : Option Addr)
  (dFreshL dFreshC : Nat) (dSteps : Int) (dLeft : Int) (lFirst : Int) (lCount : Int) (lRecordsA : Option Addr) (lRecordsL lRecordsC : Nat)
  (lNext : Int) (data : ByteArray) (R : Ending → World → Prop) (w : World) : Prop := ∀ (k1 k2 k3 k4 : Nat) (w5 : World), Step w w5 [] [k4,
  k3, k2, k1] → Calls Proofs.Try.prog (75 : Nat) { toList := [Value.int IntKind.i64 ((ByteArray.size data) : Int)] } w5 fun (e7 : Ending)
  (w8 : World) => ∃ (n9 : Int), e7 = Ending.returned (Value.int IntKind.i64 n9) ∧ Keep [k1, k2, k3, k4] w5 w8 ∧ Calls Proofs.Try.prog (73 :
  Nat) { toList := [Value.agg { toList := [Value.int IntKind.i64 lFirst, Value.int IntKind.i64 lCount, Value.slice lRecordsA lRecordsL lRecordsC, Value.int IntKind.i64 lNext] }] }
  w8 fun (e10 : Ending) (w11 : World) => ∃ (n12 : Int), e10 = Ending.returned (Value.int IntKind.i64 n12) ∧ Keep [k1, k2, k3, k4] w8 w11 ∧
  bcase (decide ((4000 : Int) < ((ByteArray.size data) : Int))) (∀ (w13 : World), Step w11 w13 [k4, k3] [] → R (Ending.returned (Value.tuple
  { toList := [Value.agg { toList := List.take 5 (List.drop 0 (sets [Value.slice none 0 0, Value.slice none 0 0, Value.slice none 0 0, Value.int IntKind.i64 (0 : Int), Value.int IntKind.i64 (0 : Int)] 0 [Value.slice dSureA dSureL dSureC, Value.slice dNowA dNowL dNowC, Value.slice dFreshA dFreshL dFreshC, Value.int IntKind.i64 dSteps, Value.int IntKind.i64 dLeft])) }, Value.agg { toList := List.take 4 (List.drop 0 (sets [Value.int IntKind.i64 (0 : Int), Value.int IntKind.i64 (0 : Int), Value.slice none 0 0, Value.int IntKind.i64 (0 : Int)] 0 [Value.int IntKind.i64 lFirst, Value.int IntKind.i64 lCount, Value.slice lRecordsA lRecordsL lRecordsC, Value.int IntKind.i64 lNext])) }, Value.int IntKind.i64 (3 : Int)] }))
  w13) (∀ (y15 : Bool → World → Prop), (∀ (b16 : Bool) (w17 : World), bcase b16 (∀ (w18 : World), Step w17 w18 [k4, k3] [] → R
  (Ending.returned (Value.tuple { toList := [Value.agg { toList := List.take 5 (List.drop 0 (sets [Value.slice none 0 0, Value.slice none 0 0, Value.slice none 0 0, Value.int IntKind.i64 (0 : Int), Value.int IntKind.i64 (0 : Int)] 0 [Value.slice dSureA dSureL dSureC, Value.slice dNowA dNowL dNowC, Value.slice dFreshA dFreshL dFreshC, Value.int IntKind.i64 dSteps, Value.int IntKind.i64 dLeft])) }, Value.agg { toList := List.take 4 (List.drop 0 (sets [Value.int IntKind.i64 (0 : Int), Value.int IntKind.i64 (0 : Int), Value.slice none 0 0, Value.int IntKind.i64 (0 : Int)] 0 [Value.int IntKind.i64 lFirst, Value.int IntKind.i64 lCount, Value.slice lRecordsA lRecordsL lRecordsC, Value.int IntKind.i64 lNext])) }, Value.int IntKind.i64 (5 : Int)] }))
  w18) (((0 : Int) ≤ (64 : Int) ∧ (64 : Int) ≤ (64 : Int) ∧ ((1 : Nat) : Int) * (64 : Int) ≤ (281474976710656 : Int) ∧ (64 : Int) ≤
  (281474976710656 : Int)) ∧ ∀ (w20 : World) (k21 : Nat), Step w17 w20 [] [k21] → Blk w20 k21 (reps [Value.int IntKind.u8 (0 : Int)] 64) → ∃
  (l24 : List UInt8), List.length l24 = 64 ∧ (∀ (k25 : Nat), k25 < 64 → ∃ (ad27 : Addr), some { block := k21, off := 0 } = some ad27 ∧
  World.cell? w20 (Addr.add ad27 k25) = some (Value.int IntKind.u8 ((UInt8.toNat (List.getD l24 k25 (0 : UInt8))) : Int))) ∧ ByteArray.size
  data + ByteArray.size (ByteArray.mk (Array.mk l24)) ≤ 9223372036854775807 ∧ ∃ (y28 : Nat → Int → Option Addr → Nat → Nat → Option Addr →
  Nat → Nat → Option Addr → Nat → Nat → Int → Int → World → Prop), ∃ (k29 : Nat), y28 k29 (0 : Int) dSureA dSureL dSureC dNowA dNowL dNowC
  dFreshA dFreshL dFreshC dSteps dLeft w20 ∧ ∀ (k30 : Nat) (n31 : Int) (p32 : Option Addr) (k33 k34 : Nat) (p35 : Option Addr) (k36 k37 :
  Nat) (p38 : Option Addr) (k39 k40 : Nat) (n41 n42 : Int) (w43 : World), y28 k30 n31 p32 k33 k34 p35 k36 k37 p38 k39 k40 n41 n42 w43 →
  bcase (decide (n31 < n9)) (((0 : Int) ≤ IntKind.wrap IntKind.i64 (n31 * (64 : Int)) ∧ IntKind.wrap IntKind.i64 (n31 * (64 : Int)) ≤
  ((ByteArray.size (data ++ (ByteArray.mk (Array.mk l24)))) : Int) ∧ ((ByteArray.size (data ++ (ByteArray.mk (Array.mk l24)))) : Int) ≤
  ((ByteArray.size (data ++ (ByteArray.mk (Array.mk l24)))) : Int)) ∧ ∀ (y45 : ByteArray → World → Prop), (∀ (s46 : ByteArray) (w47 :
  World), (Calls Proofs.Try.prog (38 : Nat) { toList := [Value.agg { toList := [Value.slice p32 k33 k34, Value.slice p35 k36 k37, Value.slice p38 k39 k40, Value.int IntKind.i64 n41, Value.int IntKind.i64 n42] }, Value.int IntKind.i64 (IntKind.wrap IntKind.i64 (IntKind.wrap IntKind.i64 (n12 + (1 : Int)) + n31)), Value.string s46] }
  w47 fun (e48 : Ending) (w49 : World) => ∃ (p50 : Option Addr), ∃ (k51 : Nat), ∃ (k52 : Nat), ∃ (p53 : Option Addr), ∃ (k54 : Nat), ∃ (k55
  : Nat), ∃ (p56 : Option Addr), ∃ (k57 : Nat), ∃ (k58 : Nat), ∃ (n59 : Int), ∃ (n60 : Int), ∃ (n61 : Int), e48 = Ending.returned
  (Value.tuple { toList := [Value.agg { toList := [Value.slice p50 k51 k52, Value.slice p53 k54 k55, Value.slice p56 k57 k58, Value.int IntKind.i64 n59, Value.int IntKind.i64 n60] }, Value.int IntKind.i64 n61] })
  ∧ Keep [k1, k2, k3, k4] w47 w49 ∧ bcase (!decide (n61 = (0 : Int))) (∀ (w62 : World), Step w49 w62 [k4, k3, k1] [] → R (Ending.returned
  (Value.tuple { toList := [Value.agg { toList := List.take 5 (List.drop 0 (sets [Value.slice none 0 0, Value.slice none 0 0, Value.slice none 0 0, Value.int IntKind.i64 (0 : Int), Value.int IntKind.i64 (0 : Int)] 0 (List.take 5 (List.drop 0 (sets [Value.slice p32 k33 k34, Value.slice p35 k36 k37, Value.slice p38 k39 k40, Value.int IntKind.i64 n41, Value.int IntKind.i64 n42] 0 [Value.slice p50 k51 k52, Value.slice p53 k54 k55, Value.slice p56 k57 k58, Value.int IntKind.i64 n59, Value.int IntKind.i64 n60]))))) }, Value.agg { toList := List.take 4 (List.drop 0 (sets [Value.int IntKind.i64 (0 : Int), Value.int IntKind.i64 (0 : Int), Value.slice none 0 0, Value.int IntKind.i64 (0 : Int)] 0 [Value.int IntKind.i64 lFirst, Value.int IntKind.i64 lCount, Value.slice lRecordsA lRecordsL lRecordsC, Value.int IntKind.i64 lNext])) }, Value.int IntKind.i64 n61] }))
  w62) (∃ (k64 : Nat), k64 < k30 ∧ ∀ (w65 : World), Step w49 w65 [k1] [] → y28 k64 (IntKind.wrap IntKind.i64 (n31 + (1 : Int))) p50 k51 k52
  p53 k54 k55 p56 k57 k58 n59 n60 w65)) → y45 s46 w47) → bcase (decide ((64 : Int) ≤ ((ByteArray.size (ByteArray.extract (data ++
  (ByteArray.mk (Array.mk l24))) (Int.toNat (IntKind.wrap IntKind.i64 (n31 * (64 : Int)))) (Int.toNat ((ByteArray.size (data ++
  (ByteArray.mk (Array.mk l24)))) : Int)))) : Int))) (((0 : Int) ≤ (0 : Int) ∧ (0 : Int) ≤ (64 : Int) ∧ (64 : Int) ≤ ((ByteArray.size
  (ByteArray.extract (data ++ (ByteArray.mk (Array.mk l24))) (Int.toNat (IntKind.wrap IntKind.i64 (n31 * (64 : Int)))) (Int.toNat
  ((ByteArray.size (data ++ (ByteArray.mk (Array.mk l24)))) : Int)))) : Int)) ∧ y45 (ByteArray.extract (ByteArray.extract (data ++
  (ByteArray.mk (Array.mk l24))) (Int.toNat (IntKind.wrap IntKind.i64 (n31 * (64 : Int)))) (Int.toNat ((ByteArray.size (data ++
  (ByteArray.mk (Array.mk l24)))) : Int))) 0 64) w43) (y45 (ByteArray.extract (data ++ (ByteArray.mk (Array.mk l24))) (Int.toNat
  (IntKind.wrap IntKind.i64 (n31 * (64 : Int)))) (Int.toNat ((ByteArray.size (data ++ (ByteArray.mk (Array.mk l24)))) : Int))) w43)) (Calls
  Proofs.Try.prog (62 : Nat) { toList := [Value.agg { toList := [Value.slice p32 k33 k34, Value.slice p35 k36 k37, Value.slice p38 k39 k40, Value.int IntKind.i64 n41, Value.int IntKind.i64 n42] }] }
  w43 fun (e69 : Ending) (w70 : World) => ∃ (p71 : Option Addr), ∃ (k72 : Nat), ∃ (k73 : Nat), ∃ (p74 : Option Addr), ∃ (k75 : Nat), ∃ (k76
  : Nat), ∃ (p77 : Option Addr), ∃ (k78 : Nat), ∃ (k79 : Nat), ∃ (n80 : Int), ∃ (n81 : Int), ∃ (n82 : Int), e69 = Ending.returned
  (Value.tuple { toList := [Value.agg { toList := [Value.slice p71 k72 k73, Value.slice p74 k75 k76, Value.slice p77 k78 k79, Value.int IntKind.i64 n80, Value.int IntKind.i64 n81] }, Value.int IntKind.i64 n82] })
  ∧ Keep [k1, k2, k3, k4] w43 w70 ∧ bcase (!decide (n82 = (0 : Int))) (∀ (w83 : World), Step w70 w83 [k4, k3, k1] [] → R (Ending.returned
  (Value.tuple { toList := [Value.agg { toList := List.take 5 (List.drop 0 (sets [Value.slice none 0 0, Value.slice none 0 0, Value.slice none 0 0, Value.int IntKind.i64 (0 : Int), Value.int IntKind.i64 (0 : Int)] 0 (List.take 5 (List.drop 0 (sets [Value.slice p32 k33 k34, Value.slice p35 k36 k37, Value.slice p38 k39 k40, Value.int IntKind.i64 n41, Value.int IntKind.i64 n42] 0 [Value.slice p71 k72 k73, Value.slice p74 k75 k76, Value.slice p77 k78 k79, Value.int IntKind.i64 n80, Value.int IntKind.i64 n81]))))) }, Value.agg { toList := List.take 4 (List.drop 0 (sets [Value.int IntKind.i64 (0 : Int), Value.int IntKind.i64 (0 : Int), Value.slice none 0 0, Value.int IntKind.i64 (0 : Int)] 0 [Value.int IntKind.i64 lFirst, Value.int IntKind.i64 lCount, Value.slice lRecordsA lRecordsL lRecordsC, Value.int IntKind.i64 lNext])) }, Value.int IntKind.i64 n82] }))
  w83) ((∀ (w85 : World), Step w70 w85 [k1] [] → Calls Proofs.Try.prog (39 : Nat) { toList := [Value.int IntKind.i64 lNext, Value.int IntKind.i64 ((ByteArray.size data) : Int)] }
  w85 fun (e87 : Ending) (w88 : World) => ∃ (s89 : ByteArray), e87 = Ending.returned (Value.string s89) ∧ Keep [k1, k2, k3, k4] w85 w88 ∧
  Calls Proofs.Try.prog (38 : Nat) { toList := [Value.agg { toList := List.take 5 (List.drop 0 (sets [Value.slice p32 k33 k34, Value.slice p35 k36 k37, Value.slice p38 k39 k40, Value.int IntKind.i64 n41, Value.int IntKind.i64 n42] 0 [Value.slice p71 k72 k73, Value.slice p74 k75 k76, Value.slice p77 k78 k79, Value.int IntKind.i64 n80, Value.int IntKind.i64 n81])) }, Value.int IntKind.i64 n12, Value.string s89] }
  w88 fun (e90 : Ending) (w91 : World) => ∃ (p92 : Option Addr), ∃ (k93 : Nat), ∃ (k94 : Nat), ∃ (p95 : Option Addr), ∃ (k96 : Nat), ∃ (k97
  : Nat), ∃ (p98 : Option Addr), ∃ (k99 : Nat), ∃ (k100 : Nat), ∃ (n101 : Int), ∃ (n102 : Int), ∃ (n103 : Int), e90 = Ending.returned
  (Value.tuple { toList := [Value.agg { toList := [Value.slice p92 k93 k94, Value.slice p95 k96 k97, Value.slice p98 k99 k100, Value.int IntKind.i64 n101, Value.int IntKind.i64 n102] }, Value.int IntKind.i64 n103] })
  ∧ Keep [k1, k2, k3, k4] w88 w91 ∧ bcase (!decide (n103 = (0 : Int))) (∀ (w104 : World), Step w91 w104 [k4, k3, k1] [] → R (Ending.returned
  (Value.tuple { toList := [Value.agg { toList := List.take 5 (List.drop 0 (sets [Value.slice none 0 0, Value.slice none 0 0, Value.slice none 0 0, Value.int IntKind.i64 (0 : Int), Value.int IntKind.i64 (0 : Int)] 0 (List.take 5 (List.drop 0 (sets (sets [Value.slice p32 k33 k34, Value.slice p35 k36 k37, Value.slice p38 k39 k40, Value.int IntKind.i64 n41, Value.int IntKind.i64 n42] 0 [Value.slice p71 k72 k73, Value.slice p74 k75 k76, Value.slice p77 k78 k79, Value.int IntKind.i64 n80, Value.int IntKind.i64 n81]) 0 [Value.slice p92 k93 k94, Value.slice p95 k96 k97, Value.slice p98 k99 k100, Value.int IntKind.i64 n101, Value.int IntKind.i64 n102]))))) }, Value.agg { toList := List.take 4 (List.drop 0 (sets [Value.int IntKind.i64 (0 : Int), Value.int IntKind.i64 (0 : Int), Value.slice none 0 0, Value.int IntKind.i64 (0 : Int)] 0 [Value.int IntKind.i64 lFirst, Value.int IntKind.i64 lCount, Value.slice lRecordsA lRecordsL lRecordsC, Value.int IntKind.i64 lNext])) }, Value.int IntKind.i64 n103] }))
  w104) (∀ (w106 : World), Step w91 w106 [k1] [] → Calls Proofs.Try.prog (62 : Nat) { toList := [Value.agg { toList := List.take 5 (List.drop 0 (sets (sets [Value.slice p32 k33 k34, Value.slice p35 k36 k37, Value.slice p38 k39 k40, Value.int IntKind.i64 n41, Value.int IntKind.i64 n42] 0 [Value.slice p71 k72 k73, Value.slice p74 k75 k76, Value.slice p77 k78 k79, Value.int IntKind.i64 n80, Value.int IntKind.i64 n81]) 0 [Value.slice p92 k93 k94, Value.slice p95 k96 k97, Value.slice p98 k99 k100, Value.int IntKind.i64 n101, Value.int IntKind.i64 n102])) }] }
  w106 fun (e108 : Ending) (w109 : World) => ∃ (p110 : Option Addr), ∃ (k111 : Nat), ∃ (k112 : Nat), ∃ (p113 : Option Addr), ∃ (k114 : Nat),
  ∃ (k115 : Nat), ∃ (p116 : Option Addr), ∃ (k117 : Nat), ∃ (k118 : Nat), ∃ (n119 : Int), ∃ (n120 : Int), ∃ (n121 : Int), e108 =
  Ending.returned (Value.tuple { toList := [Value.agg { toList := [Value.slice p110 k111 k112, Value.slice p113 k114 k115, Value.slice p116 k117 k118, Value.int IntKind.i64 n119, Value.int IntKind.i64 n120] }, Value.int IntKind.i64 n121] })
  ∧ Keep [k1, k2, k3, k4] w106 w109 ∧ bcase (!decide (n121 = (0 : Int))) (∀ (w122 : World), Step w109 w122 [k4, k3, k1] [] → R
  (Ending.returned (Value.tuple { toList := [Value.agg { toList := List.take (nat_lit 5) (List.drop (nat_lit 0) (sets [Value.slice none (nat_lit 0) (nat_lit 0), Value.slice none (nat_lit 0) (nat_lit 0), Value.slice none (nat_lit 0) (nat_lit 0), Value.int IntKind.i64 (0 : Int), Value.int IntKind.i64 (0 : Int)] (nat_lit 0) (List.take (nat_lit 5) (List.drop (nat_lit 0) (sets (sets (sets [Value.slice p32 k33 k34, Value.slice p35 k36 k37, Value.slice p38 k39 k40, Value.int IntKind.i64 n41, Value.int IntKind.i64 n42] (nat_lit 0) [Value.slice p71 k72 k73, Value.slice p74 k75 k76, Value.slice p77 k78 k79, Value.int IntKind.i64 n80, Value.int IntKind.i64 n81]) (nat_lit 0) [Value.slice p92 k93 k94, Value.slice p95 k96 k97, Value.slice p98 k99 k100, Value.int IntKind.i64 n101, Value.int IntKind.i64 n102]) (nat_lit 0) [Value.slice p110 k111 k112, Value.slice p113 k114 k115, Value.slice p116 k117 k118, Value.int IntKind.i64 n119, Value.int IntKind.i64 n120]))))) }, Value.agg { toList := List.take (nat_lit 4) (List.drop (nat_lit 0) (sets [Value.int IntKind.i64 (0 : Int), Value.int IntKind.i64 (0 : Int), Value.slice none (nat_lit 0) (nat_lit 0), Value.int IntKind.i64 (0 : Int)] (nat_lit 0) [Value.int IntKind.i64 lFirst, Value.int IntKind.i64 lCount, Value.slice lRecordsA lRecordsL lRecordsC, Value.int IntKind.i64 lNext])) }, Value.int IntKind.i64 n121] }))
  w122) (∀ (y124 : Int → Int → Option Addr → Nat → Nat → Int → World → Prop), (∀ (n125 n126 : Int) (p127 : Option Addr) (k128 k129 : Nat)
  (n130 : Int) (w131 : World), (∀ (w132 : World), Step w131 w132 [k4, k3, k2] [] → R (Ending.returned (Value.tuple { toList := [Value.agg { toList := List.take (nat_lit 5) (List.drop (nat_lit 0) (sets [Value.slice none (nat_lit 0) (nat_lit 0), Value.slice none (nat_lit 0) (nat_lit 0), Value.slice none (nat_lit 0) (nat_lit 0), Value.int IntKind.i64 (0 : Int), Value.int IntKind.i64 (0 : Int)] (nat_lit 0) (List.take (nat_lit 5) (List.drop (nat_lit 0) (sets (sets (sets [Value.slice p32 k33 k34, Value.slice p35 k36 k37, Value.slice p38 k39 k40, Value.int IntKind.i64 n41, Value.int IntKind.i64 n42] (nat_lit 0) [Value.slice p71 k72 k73, Value.slice p74 k75 k76, Value.slice p77 k78 k79, Value.int IntKind.i64 n80, Value.int IntKind.i64 n81]) (nat_lit 0) [Value.slice p92 k93 k94, Value.slice p95 k96 k97, Value.slice p98 k99 k100, Value.int IntKind.i64 n101, Value.int IntKind.i64 n102]) (nat_lit 0) [Value.slice p110 k111 k112, Value.slice p113 k114 k115, Value.slice p116 k117 k118, Value.int IntKind.i64 n119, Value.int IntKind.i64 n120]))))) }, Value.agg { toList := List.take (nat_lit 4) (List.drop (nat_lit 0) (sets [Value.int IntKind.i64 (0 : Int), Value.int IntKind.i64 (0 : Int), Value.slice none (nat_lit 0) (nat_lit 0), Value.int IntKind.i64 (0 : Int)] (nat_lit 0) (List.take (nat_lit 4) (List.drop (nat_lit 0) (sets [Value.int IntKind.i64 n125, Value.int IntKind.i64 n126, Value.slice p127 k128 k129, Value.int IntKind.i64 n130] (nat_lit 3) [Value.int IntKind.i64 (IntKind.wrap IntKind.i64 (n130 + (1 : Int)))]))))) }, Value.int IntKind.i64 (0 : Int)] }))
  w132) → y124 n125 n126 p127 k128 k129 n130 w131) → (∀ (k136 : Nat), ((∀ (w137 : World), Step w109 w137 [k1] [k136] → Blk w137 k136 (reps
  [Value.int IntKind.i64 (0 : Int), Value.string { data := { toList := [] } }] (nat_lit 0)) → ∃ (l140 : List Value), List.length l140 =
  lRecordsL * nat_lit 2 ∧ Row w137 lRecordsA l140 ∧ appendP true [] [] [k1, k2, k3, k4] w137 (some { block := k136, off := nat_lit 0 })
  (nat_lit 0) (nat_lit 0) lRecordsL l140 (nat_lit 2) (nat_lit 24) [Value.int IntKind.i64 (0 : Int), Value.string
  { data := { toList := [] } }] fun (w141 : World) (p142 : Option Addr) (k143 k144 : Nat) => ∀ (k145 : Nat), appendP false [] [k145] [k1,
  k2, k3, k4, k145] w141 p142 k143 k144 (nat_lit 1) (spl (reps [Value.int IntKind.i64 (0 : Int), Value.string { data := { toList := [] } }]
  (nat_lit 1)) (nat_lit 0) (spl (spl [Value.int IntKind.i64 (0 : Int), Value.string { data := { toList := [] } }] (nat_lit 0) [Value.int
  IntKind.i64 lNext]) (nat_lit 1) [Value.string data])) (nat_lit 2) (nat_lit 24) [Value.int IntKind.i64 (0 : Int), Value.string
  { data := { toList := [] } }] fun (w146 : World) (p147 : Option Addr) (k148 k149 : Nat) => ∀ (w150 : World), Step w146 w150 [k2] [] → y124
  lFirst lCount p147 k148 k149 lNext w150) ∧ (∀ (w152 : World), Step w109 w152 [k1] [k136] → Blk w152 k136 (reps [Value.int IntKind.i64 (0 :
  Int), Value.string { data := { toList := [] } }] (nat_lit 0)) → ∃ (l155 : List Value), List.length l155 = lRecordsL * nat_lit 2 ∧ Row w152
  lRecordsA l155 ∧ appendP true [] [] [k1, k2, k3, k4] w152 (some { block := k136, off := nat_lit 0 }) (nat_lit 0) (nat_lit 0) lRecordsL
  l155 (nat_lit 2) (nat_lit 24) [Value.int IntKind.i64 (0 : Int), Value.string { data := { toList := [] } }] fun (w156 : World) (p157 :
  Option Addr) (k158 k159 : Nat) => ∀ (k160 : Nat), appendP false [] [k160] [k1, k2, k3, k4, k160] w156 p157 k158 k159 (nat_lit 1) (spl
  (reps [Value.int IntKind.i64 (0 : Int), Value.string { data := { toList := [] } }] (nat_lit 1)) (nat_lit 0) (spl (spl [Value.int
  IntKind.i64 (0 : Int), Value.string { data := { toList := [] } }] (nat_lit 0) [Value.int IntKind.i64 lNext]) (nat_lit 1) [Value.string
  data])) (nat_lit 2) (nat_lit 24) [Value.int IntKind.i64 (0 : Int), Value.string { data := { toList := [] } }] fun (w161 : World) (p162 :
  Option Addr) (k163 k164 : Nat) => ∀ (w165 : World), Step w161 w165 [k2] [] → y124 lFirst lCount p162 k163 k164 lNext w165) ∧ ∀ (k167 :
  Nat) (w168 : World), Step w109 w168 [k1] [k167, k136] → Blk w168 k136 (reps [Value.int IntKind.i64 (0 : Int), Value.string
  { data := { toList := [] } }] (nat_lit 0)) → ∃ (l171 : List Value), List.length l171 = lRecordsL * nat_lit 2 ∧ Row w168 lRecordsA l171 ∧
  appendP true [] [] [k1, k2, k3, k4, k167] w168 (some { block := k136, off := nat_lit 0 }) (nat_lit 0) (nat_lit 0) lRecordsL l171 (nat_lit
  2) (nat_lit 24) [Value.int IntKind.i64 (0 : Int), Value.string { data := { toList := [] } }] fun (w172 : World) (p173 : Option Addr) (k174
  k175 : Nat) => appendP true [] [] [k1, k2, k3, k4, k167] w172 p173 k174 k175 (nat_lit 1) (spl (reps [Value.int IntKind.i64 (0 : Int),
  Value.string { data := { toList := [] } }] (nat_lit 1)) (nat_lit 0) (spl (spl [Value.int IntKind.i64 (0 : Int), Value.string
  { data := { toList := [] } }] (nat_lit 0) [Value.int IntKind.i64 lNext]) (nat_lit 1) [Value.string data])) (nat_lit 2) (nat_lit 24)
  [Value.int IntKind.i64 (0 : Int), Value.string { data := { toList := [] } }] fun (w176 : World) (p177 : Option Addr) (k178 k179 : Nat) =>
  ∀ (w180 : World), Step w176 w180 [k2] [] → y124 lFirst lCount p177 k178 k179 lNext w180) ∧ ((∀ (w182 : World), Step w109 w182 [k1] [k136]
  → Blk w182 k136 (reps [Value.int IntKind.i64 (0 : Int), Value.string { data := { toList := [] } }] (nat_lit 0)) → ∃ (l185 : List Value),
  List.length l185 = lRecordsL * nat_lit 2 ∧ Row w182 lRecordsA l185 ∧ appendP true [] [] [k1, k2, k3, k4] w182 (some
  { block := k136, off := nat_lit 0 }) (nat_lit 0) (nat_lit 0) lRecordsL l185 (nat_lit 2) (nat_lit 24) [Value.int IntKind.i64 (0 : Int),
  Value.string { data := { toList := [] } }] fun (w186 : World) (p187 : Option Addr) (k188 k189 : Nat) => ∀ (k190 : Nat), appendP false []
  [k190] [k1, k2, k3, k4, k190] w186 p187 k188 k189 (nat_lit 1) (spl (reps [Value.int IntKind.i64 (0 : Int), Value.string
  { data := { toList := [] } }] (nat_lit 1)) (nat_lit 0) (spl (spl [Value.int IntKind.i64 (0 : Int), Value.string
  { data := { toList := [] } }] (nat_lit 0) [Value.int IntKind.i64 lNext]) (nat_lit 1) [Value.string data])) (nat_lit 2) (nat_lit 24)
  [Value.int IntKind.i64 (0 : Int), Value.string { data := { toList := [] } }] fun (w191 : World) (p192 : Option Addr) (k193 k194 : Nat) =>
  ∀ (w195 : World), Step w191 w195 [k2] [] → y124 lFirst lCount p192 k193 k194 lNext w195) ∧ ∀ (k197 : Nat) (w198 : World), Step w109 w198
  [k1] [k197, k136] → Blk w198 k136 (reps [Value.int IntKind.i64 (0 : Int), Value.string { data := { toList := [] } }] (nat_lit 0)) → ∃
  (l201 : List Value), List.length l201 = lRecordsL * nat_lit 2 ∧ Row w198 lRecordsA l201 ∧ appendP true [] [] [k1, k2, k3, k4, k197] w198
  (some { block := k136, off := nat_lit 0 }) (nat_lit 0) (nat_lit 0) lRecordsL l201 (nat_lit 2) (nat_lit 24) [Value.int IntKind.i64 (0 :
  Int), Value.string { data := { toList := [] } }] fun (w202 : World) (p203 : Option Addr) (k204 k205 : Nat) => appendP true [] [] [k1, k2,
  k3, k4, k197] w202 p203 k204 k205 (nat_lit 1) (spl (reps [Value.int IntKind.i64 (0 : Int), Value.string { data := { toList := [] } }]
  (nat_lit 1)) (nat_lit 0) (spl (spl [Value.int IntKind.i64 (0 : Int), Value.string { data := { toList := [] } }] (nat_lit 0) [Value.int
  IntKind.i64 lNext]) (nat_lit 1) [Value.string data])) (nat_lit 2) (nat_lit 24) [Value.int IntKind.i64 (0 : Int), Value.string
  { data := { toList := [] } }] fun (w206 : World) (p207 : Option Addr) (k208 k209 : Nat) => ∀ (w210 : World), Step w206 w210 [k2] [] → y124
  lFirst lCount p207 k208 k209 lNext w210) ∧ ∀ (k212 : Nat) (w213 : World), Step w109 w213 [k1] [k212, k136] → Blk w213 k136 (reps
  [Value.int IntKind.i64 (0 : Int), Value.string { data := { toList := [] } }] (nat_lit 0)) → ∃ (l216 : List Value), List.length l216 =
  lRecordsL * nat_lit 2 ∧ Row w213 lRecordsA l216 ∧ appendP true [] [] [k1, k2, k3, k4, k212] w213 (some
  { block := k136, off := nat_lit 0 }) (nat_lit 0) (nat_lit 0) lRecordsL l216 (nat_lit 2) (nat_lit 24) [Value.int IntKind.i64 (0 : Int),
  Value.string { data := { toList := [] } }] fun (w217 : World) (p218 : Option Addr) (k219 k220 : Nat) => appendP true [] [] [k1, k2, k3,
  k4, k212] w217 p218 k219 k220 (nat_lit 1) (spl (reps [Value.int IntKind.i64 (0 : Int), Value.string { data := { toList := [] } }] (nat_lit
  1)) (nat_lit 0) (spl (spl [Value.int IntKind.i64 (0 : Int), Value.string { data := { toList := [] } }] (nat_lit 0) [Value.int IntKind.i64
  lNext]) (nat_lit 1) [Value.string data])) (nat_lit 2) (nat_lit 24) [Value.int IntKind.i64 (0 : Int), Value.string
  { data := { toList := [] } }] fun (w221 : World) (p222 : Option Addr) (k223 k224 : Nat) => ∀ (w225 : World), Step w221 w225 [k2] [] → y124
  lFirst lCount p222 k223 k224 lNext w225) ∧ ((∀ (k227 : Nat), (∀ (w228 : World), Step w109 w228 [k1] [k227] → Blk w228 k227 (reps
  [Value.int IntKind.i64 (0 : Int), Value.string { data := { toList := [] } }] (nat_lit 0)) → ∃ (l231 : List Value), List.length l231 =
  lRecordsL * nat_lit 2 ∧ Row w228 lRecordsA l231 ∧ appendP true [] [] [k1, k2, k3, k4] w228 (some { block := k227, off := nat_lit 0 })
  (nat_lit 0) (nat_lit 0) lRecordsL l231 (nat_lit 2) (nat_lit 24) [Value.int IntKind.i64 (0 : Int), Value.string
  { data := { toList := [] } }] fun (w232 : World) (p233 : Option Addr) (k234 k235 : Nat) => ∀ (k236 : Nat), appendP false [] [k236] [k1,
  k2, k3, k4, k236] w232 p233 k234 k235 (nat_lit 1) (spl (reps [Value.int IntKind.i64 (0 : Int), Value.string { data := { toList := [] } }]
  (nat_lit 1)) (nat_lit 0) (spl (spl [Value.int IntKind.i64 (0 : Int), Value.string { data := { toList := [] } }] (nat_lit 0) [Value.int
  IntKind.i64 lNext]) (nat_lit 1) [Value.string data])) (nat_lit 2) (nat_lit 24) [Value.int IntKind.i64 (0 : Int), Value.string
  { data := { toList := [] } }] fun (w237 : World) (p238 : Option Addr) (k239 k240 : Nat) => ∀ (w241 : World), Step w237 w241 [k2] [] → y124
  lFirst lCount p238 k239 k240 lNext w241) ∧ (∀ (w243 : World), Step w109 w243 [k1] [k227] → Blk w243 k227 (reps [Value.int IntKind.i64 (0 :
  Int), Value.string { data := { toList := [] } }] (nat_lit 0)) → ∃ (l246 : List Value), List.length l246 = lRecordsL * nat_lit 2 ∧ Row w243
  lRecordsA l246 ∧ appendP true [] [] [k1, k2, k3, k4] w243 (some { block := k227, off := nat_lit 0 }) (nat_lit 0) (nat_lit 0) lRecordsL
  l246 (nat_lit 2) (nat_lit 24) [Value.int IntKind.i64 (0 : Int), Value.string { data := { toList := [] } }] fun (w247 : World) (p248 :
  Option Addr) (k249 k250 : Nat) => ∀ (k251 : Nat), appendP false [] [k251] [k1, k2, k3, k4, k251] w247 p248 k249 k250 (nat_lit 1) (spl
  (reps [Value.int IntKind.i64 (0 : Int), Value.string { data := { toList := [] } }] (nat_lit 1)) (nat_lit 0) (spl (spl [Value.int
  IntKind.i64 (0 : Int), Value.string { data := { toList := [] } }] (nat_lit 0) [Value.int IntKind.i64 lNext]) (nat_lit 1) [Value.string
  data])) (nat_lit 2) (nat_lit 24) [Value.int IntKind.i64 (0 : Int), Value.string { data := { toList := [] } }] fun (w252 : World) (p253 :
  Option Addr) (k254 k255 : Nat) => ∀ (w256 : World), Step w252 w256 [k2] [] → y124 lFirst lCount p253 k254 k255 lNext w256) ∧ ∀ (k258 :
  Nat) (w259 : World), Step w109 w259 [k1] [k258, k227] → Blk w259 k227 (reps [Value.int IntKind.i64 (0 : Int), Value.string
  { data := { toList := [] } }] (nat_lit 0)) → ∃ (l262 : List Value), List.length l262 = lRecordsL * nat_lit 2 ∧ Row w259 lRecordsA l262 ∧
  appendP true [] [] [k1, k2, k3, k4, k258] w259 (some { block := k227, off := nat_lit 0 }) (nat_lit 0) (nat_lit 0) lRecordsL l262 (nat_lit
  2) (nat_lit 24) [Value.int IntKind.i64 (0 : Int), Value.string { data := { toList := [] } }] fun (w263 : World) (p264 : Option Addr) (k265
  k266 : Nat) => appendP true [] [] [k1, k2, k3, k4, k258] w263 p264 k265 k266 (nat_lit 1) (spl (reps [Value.int IntKind.i64 (0 : Int),
  Value.string { data := { toList := [] } }] (nat_lit 1)) (nat_lit 0) (spl (spl [Value.int IntKind.i64 (0 : Int), Value.string
  { data := { toList := [] } }] (nat_lit 0) [Value.int IntKind.i64 lNext]) (nat_lit 1) [Value.string data])) (nat_lit 2) (nat_lit 24)
  [Value.int IntKind.i64 (0 : Int), Value.string { data := { toList := [] } }] fun (w267 : World) (p268 : Option Addr) (k269 k270 : Nat) =>
  ∀ (w271 : World), Step w267 w271 [k2] [] → y124 lFirst lCount p268 k269 k270 lNext w271) ∧ (∀ (k273 : Nat), (∀ (w274 : World), Step w109
  w274 [k1] [k273] → Blk w274 k273 (reps [Value.int IntKind.i64 (0 : Int), Value.string { data := { toList := [] } }] (nat_lit 0)) → ∃ (l277
  : List Value), List.length l277 = lRecordsL * nat_lit 2 ∧ Row w274 lRecordsA l277 ∧ appendP true [] [] [k1, k2, k3, k4] w274 (some
  { block := k273, off := nat_lit 0 }) (nat_lit 0) (nat_lit 0) lRecordsL l277 (nat_lit 2) (nat_lit 24) [Value.int IntKind.i64 (0 : Int),
  Value.string { data := { toList := [] } }] fun (w278 : World) (p279 : Option Addr) (k280 k281 : Nat) => ∀ (k282 : Nat), appendP false []
  [k282] [k1, k2, k3, k4, k282] w278 p279 k280 k281 (nat_lit 1) (spl (reps [Value.int IntKind.i64 (0 : Int), Value.string
  { data := { toList := [] } }] (nat_lit 1)) (nat_lit 0) (spl (spl [Value.int IntKind.i64 (0 : Int), Value.string
  { data := { toList := [] } }] (nat_lit 0) [Value.int IntKind.i64 lNext]) (nat_lit 1) [Value.string data])) (nat_lit 2) (nat_lit 24)
  [Value.int IntKind.i64 (0 : Int), Value.string { data := { toList := [] } }] fun (w283 : World) (p284 : Option Addr) (k285 k286 : Nat) =>
  ∀ (w287 : World), Step w283 w287 [k2] [] → y124 lFirst lCount p284 k285 k286 lNext w287) ∧ ∀ (k289 : Nat) (w290 : World), Step w109 w290
  [k1] [k289, k273] → Blk w290 k273 (reps [Value.int IntKind.i64 (0 : Int), Value.string { data := { toList := [] } }] (nat_lit 0)) → ∃
  (l293 : List Value), List.length l293 = lRecordsL * nat_lit 2 ∧ Row w290 lRecordsA l293 ∧ appendP true [] [] [k1, k2, k3, k4, k289] w290
  (some { block := k273, off := nat_lit 0 }) (nat_lit 0) (nat_lit 0) lRecordsL l293 (nat_lit 2) (nat_lit 24) [Value.int IntKind.i64 (0 :
  Int), Value.string { data := { toList := [] } }] fun (w294 : World) (p295 : Option Addr) (k296 k297 : Nat) => appendP true [] [] [k1, k2,
  k3, k4, k289] w294 p295 k296 k297 (nat_lit 1) (spl (reps [Value.int IntKind.i64 (0 : Int), Value.string { data := { toList := [] } }]
  (nat_lit 1)) (nat_lit 0) (spl (spl [Value.int IntKind.i64 (0 : Int), Value.string { data := { toList := [] } }] (nat_lit 0) [Value.int
  IntKind.i64 lNext]) (nat_lit 1) [Value.string data])) (nat_lit 2) (nat_lit 24) [Value.int IntKind.i64 (0 : Int), Value.string
  { data := { toList := [] } }] fun (w298 : World) (p299 : Option Addr) (k300 k301 : Nat) => ∀ (w302 : World), Step w298 w302 [k2] [] → y124
  lFirst lCount p299 k300 k301 lNext w302) ∧ ∀ (k304 k305 : Nat) (w306 : World), Step w109 w306 [k1] [k305, k304] → Blk w306 k305 (reps
  [Value.int IntKind.i64 (0 : Int), Value.string { data := { toList := [] } }] (nat_lit 0)) → ∃ (l309 : List Value), List.length l309 =
  lRecordsL * nat_lit 2 ∧ Row w306 lRecordsA l309 ∧ appendP true [] [] [k1, k2, k3, k4, k304] w306 (some
  { block := k305, off := nat_lit 0 }) (nat_lit 0) (nat_lit 0) lRecordsL l309 (nat_lit 2) (nat_lit 24) [Value.int IntKind.i64 (0 : Int),
  Value.string { data := { toList := [] } }] fun (w310 : World) (p311 : Option Addr) (k312 k313 : Nat) => appendP true [] [] [k1, k2, k3,
  k4, k304] w310 p311 k312 k313 (nat_lit 1) (spl (reps [Value.int IntKind.i64 (0 : Int), Value.string { data := { toList := [] } }] (nat_lit
  1)) (nat_lit 0) (spl (spl [Value.int IntKind.i64 (0 : Int), Value.string { data := { toList := [] } }] (nat_lit 0) [Value.int IntKind.i64
  lNext]) (nat_lit 1) [Value.string data])) (nat_lit 2) (nat_lit 24) [Value.int IntKind.i64 (0 : Int), Value.string
  { data := { toList := [] } }] fun (w314 : World) (p315 : Option Addr) (k316 k317 : Nat) => ∀ (w318 : World), Step w314 w318 [k2] [] → y124
  lFirst lCount p315 k316 k317 lNext w318) ∧ (∀ (k320 : Nat), ((∀ (w321 : World), Step w109 w321 [k1] [k320] → Blk w321 k320 (reps
  [Value.int IntKind.i64 (0 : Int), Value.string { data := { toList := [] } }] (nat_lit 0)) → ∃ (l324 : List Value), List.length l324 =
  lRecordsL * nat_lit 2 ∧ Row w321 lRecordsA l324 ∧ appendP true [] [] [k1, k2, k3, k4] w321 (some { block := k320, off := nat_lit 0 })
  (nat_lit 0) (nat_lit 0) lRecordsL l324 (nat_lit 2) (nat_lit 24) [Value.int IntKind.i64 (0 : Int), Value.string
  { data := { toList := [] } }] fun (w325 : World) (p326 : Option Addr) (k327 k328 : Nat) => ∀ (k329 : Nat), appendP false [] [k329] [k1,
  k2, k3, k4, k329] w325 p326 k327 k328 (nat_lit 1) (spl (reps [Value.int IntKind.i64 (0 : Int), Value.string { data := { toList := [] } }]
  (nat_lit 1)) (nat_lit 0) (spl (spl [Value.int IntKind.i64 (0 : Int), Value.string { data := { toList := [] } }] (nat_lit 0) [Value.int
  IntKind.i64 lNext]) (nat_lit 1) [Value.string data])) (nat_lit 2) (nat_lit 24) [Value.int IntKind.i64 (0 : Int), Value.string
  { data := { toList := [] } }] fun (w330 : World) (p331 : Option Addr) (k332 k333 : Nat) => ∀ (w334 : World), Step w330 w334 [k2] [] → y124
  lFirst lCount p331 k332 k333 lNext w334) ∧ ∀ (k336 : Nat) (w337 : World), Step w109 w337 [k1] [k336, k320] → Blk w337 k320 (reps
  [Value.int IntKind.i64 (0 : Int), Value.string { data := { toList := [] } }] (nat_lit 0)) → ∃ (l340 : List Value), List.length l340 =
  lRecordsL * nat_lit 2 ∧ Row w337 lRecordsA l340 ∧ appendP true [] [] [k1, k2, k3, k4, k336] w337 (some
  { block := k320, off := nat_lit 0 }) (nat_lit 0) (nat_lit 0) lRecordsL l340 (nat_lit 2) (nat_lit 24) [Value.int IntKind.i64 (0 : Int),
  Value.string { data := { toList := [] } }] fun (w341 : World) (p342 : Option Addr) (k343 k344 : Nat) => appendP true [] [] [k1, k2, k3,
  k4, k336] w341 p342 k343 k344 (nat_lit 1) (spl (reps [Value.int IntKind.i64 (0 : Int), Value.string { data := { toList := [] } }] (nat_lit
  1)) (nat_lit 0) (spl (spl [Value.int IntKind.i64 (0 : Int), Value.string { data := { toList := [] } }] (nat_lit 0) [Value.int IntKind.i64
  lNext]) (nat_lit 1) [Value.string data])) (nat_lit 2) (nat_lit 24) [Value.int IntKind.i64 (0 : Int), Value.string
  { data := { toList := [] } }] fun (w345 : World) (p346 : Option Addr) (k347 k348 : Nat) => ∀ (w349 : World), Step w345 w349 [k2] [] → y124
  lFirst lCount p346 k347 k348 lNext w349) ∧ ∀ (k351 : Nat) (w352 : World), Step w109 w352 [k1] [k351, k320] → Blk w352 k320 (reps
  [Value.int IntKind.i64 (0 : Int), Value.string { data := { toList := [] } }] (nat_lit 0)) → ∃ (l355 : List Value), List.length l355 =
  lRecordsL * nat_lit 2 ∧ Row w352 lRecordsA l355 ∧ appendP true [] [] [k1, k2, k3, k4, k351] w352 (some
  { block := k320, off := nat_lit 0 }) (nat_lit 0) (nat_lit 0) lRecordsL l355 (nat_lit 2) (nat_lit 24) [Value.int IntKind.i64 (0 : Int),
  Value.string { data := { toList := [] } }] fun (w356 : World) (p357 : Option Addr) (k358 k359 : Nat) => appendP true [] [] [k1, k2, k3,
  k4, k351] w356 p357 k358 k359 (nat_lit 1) (spl (reps [Value.int IntKind.i64 (0 : Int), Value.string { data := { toList := [] } }] (nat_lit
  1)) (nat_lit 0) (spl (spl [Value.int IntKind.i64 (0 : Int), Value.string { data := { toList := [] } }] (nat_lit 0) [Value.int IntKind.i64
  lNext]) (nat_lit 1) [Value.string data])) (nat_lit 2) (nat_lit 24) [Value.int IntKind.i64 (0 : Int), Value.string
  { data := { toList := [] } }] fun (w360 : World) (p361 : Option Addr) (k362 k363 : Nat) => ∀ (w364 : World), Step w360 w364 [k2] [] → y124
  lFirst lCount p361 k362 k363 lNext w364) ∧ ((∀ (k366 : Nat), (∀ (w367 : World), Step w109 w367 [k1] [k366] → Blk w367 k366 (reps
  [Value.int IntKind.i64 (0 : Int), Value.string { data := { toList := [] } }] (nat_lit 0)) → ∃ (l370 : List Value), List.length l370 =
  lRecordsL * nat_lit 2 ∧ Row w367 lRecordsA l370 ∧ appendP true [] [] [k1, k2, k3, k4] w367 (some { block := k366, off := nat_lit 0 })
  (nat_lit 0) (nat_lit 0) lRecordsL l370 (nat_lit 2) (nat_lit 24) [Value.int IntKind.i64 (0 : Int), Value.string
  { data := { toList := [] } }] fun (w371 : World) (p372 : Option Addr) (k373 k374 : Nat) => ∀ (k375 : Nat), appendP false [] [k375] [k1,
  k2, k3, k4, k375] w371 p372 k373 k374 (nat_lit 1) (spl (reps [Value.int IntKind.i64 (0 : Int), Value.string { data := { toList := [] } }]
  (nat_lit 1)) (nat_lit 0) (spl (spl [Value.int IntKind.i64 (0 : Int), Value.string { data := { toList := [] } }] (nat_lit 0) [Value.int
  IntKind.i64 lNext]) (nat_lit 1) [Value.string data])) (nat_lit 2) (nat_lit 24) [Value.int IntKind.i64 (0 : Int), Value.string
  { data := { toList := [] } }] fun (w376 : World) (p377 : Option Addr) (k378 k379 : Nat) => ∀ (w380 : World), Step w376 w380 [k2] [] → y124
  lFirst lCount p377 k378 k379 lNext w380) ∧ ∀ (k382 : Nat) (w383 : World), Step w109 w383 [k1] [k382, k366] → Blk w383 k366 (reps
  [Value.int IntKind.i64 (0 : Int), Value.string { data := { toList := [] } }] (nat_lit 0)) → ∃ (l386 : List Value), List.length l386 =
  lRecordsL * nat_lit 2 ∧ Row w383 lRecordsA l386 ∧ appendP true [] [] [k1, k2, k3, k4, k382] w383 (some
  { block := k366, off := nat_lit 0 }) (nat_lit 0) (nat_lit 0) lRecordsL l386 (nat_lit 2) (nat_lit 24) [Value.int IntKind.i64 (0 : Int),
  Value.string { data := { toList := [] } }] fun (w387 : World) (p388 : Option Addr) (k389 k390 : Nat) => appendP true [] [] [k1, k2, k3,
  k4, k382] w387 p388 k389 k390 (nat_lit 1) (spl (reps [Value.int IntKind.i64 (0 : Int), Value.string { data := { toList := [] } }] (nat_lit
  1)) (nat_lit 0) (spl (spl [Value.int IntKind.i64 (0 : Int), Value.string { data := { toList := [] } }] (nat_lit 0) [Value.int IntKind.i64
  lNext]) (nat_lit 1) [Value.string data])) (nat_lit 2) (nat_lit 24) [Value.int IntKind.i64 (0 : Int), Value.string
  { data := { toList := [] } }] fun (w391 : World) (p392 : Option Addr) (k393 k394 : Nat) => ∀ (w395 : World), Step w391 w395 [k2] [] → y124
  lFirst lCount p392 k393 k394 lNext w395) ∧ ∀ (k397 k398 : Nat) (w399 : World), Step w109 w399 [k1] [k398, k397] → Blk w399 k398 (reps
  [Value.int IntKind.i64 (0 : Int), Value.string { data := { toList := [] } }] (nat_lit 0)) → ∃ (l402 : List Value), List.length l402 =
  lRecordsL * nat_lit 2 ∧ Row w399 lRecordsA l402 ∧ appendP true [] [] [k1, k2, k3, k4, k397] w399 (some
  { block := k398, off := nat_lit 0 }) (nat_lit 0) (nat_lit 0) lRecordsL l402 (nat_lit 2) (nat_lit 24) [Value.int IntKind.i64 (0 : Int),
  Value.string { data := { toList := [] } }] fun (w403 : World) (p404 : Option Addr) (k405 k406 : Nat) => appendP true [] [] [k1, k2, k3,
  k4, k397] w403 p404 k405 k406 (nat_lit 1) (spl (reps [Value.int IntKind.i64 (0 : Int), Value.string { data := { toList := [] } }] (nat_lit
  1)) (nat_lit 0) (spl (spl [Value.int IntKind.i64 (0 : Int), Value.string { data := { toList := [] } }] (nat_lit 0) [Value.int IntKind.i64
  lNext]) (nat_lit 1) [Value.string data])) (nat_lit 2) (nat_lit 24) [Value.int IntKind.i64 (0 : Int), Value.string
  { data := { toList := [] } }] fun (w407 : World) (p408 : Option Addr) (k409 k410 : Nat) => ∀ (w411 : World), Step w407 w411 [k2] [] → y124
  lFirst lCount p408 k409 k410 lNext w411) ∧ ∀ (k413 : Nat), (∀ (k414 : Nat) (w415 : World), Step w109 w415 [k1] [k414, k413] → Blk w415
  k414 (reps [Value.int IntKind.i64 (0 : Int), Value.string { data := { toList := [] } }] (nat_lit 0)) → ∃ (l418 : List Value), List.length
  l418 = lRecordsL * nat_lit 2 ∧ Row w415 lRecordsA l418 ∧ appendP true [] [] [k1, k2, k3, k4, k413] w415 (some
  { block := k414, off := nat_lit 0 }) (nat_lit 0) (nat_lit 0) lRecordsL l418 (nat_lit 2) (nat_lit 24) [Value.int IntKind.i64 (0 : Int),
  Value.string { data := { toList := [] } }] fun (w419 : World) (p420 : Option Addr) (k421 k422 : Nat) => appendP true [] [] [k1, k2, k3,
  k4, k413] w419 p420 k421 k422 (nat_lit 1) (spl (reps [Value.int IntKind.i64 (0 : Int), Value.string { data := { toList := [] } }] (nat_lit
  1)) (nat_lit 0) (spl (spl [Value.int IntKind.i64 (0 : Int), Value.string { data := { toList := [] } }] (nat_lit 0) [Value.int IntKind.i64
  lNext]) (nat_lit 1) [Value.string data])) (nat_lit 2) (nat_lit 24) [Value.int IntKind.i64 (0 : Int), Value.string
  { data := { toList := [] } }] fun (w423 : World) (p424 : Option Addr) (k425 k426 : Nat) => ∀ (w427 : World), Step w423 w427 [k2] [] → y124
  lFirst lCount p424 k425 k426 lNext w427) ∧ ∀ (k429 : Nat) (w430 : World), Step w109 w430 [k1] [k429, k413] → Blk w430 k429 (reps
  [Value.int IntKind.i64 (0 : Int), Value.string { data := { toList := [] } }] (nat_lit 0)) → ∃ (l433 : List Value), List.length l433 =
  lRecordsL * nat_lit 2 ∧ Row w430 lRecordsA l433 ∧ appendP true [] [] [k1, k2, k3, k4, k413] w430 (some
  { block := k429, off := nat_lit 0 }) (nat_lit 0) (nat_lit 0) lRecordsL l433 (nat_lit 2) (nat_lit 24) [Value.int IntKind.i64 (0 : Int),
  Value.string { data := { toList := [] } }] fun (w434 : World) (p435 : Option Addr) (k436 k437 : Nat) => appendP true [] [] [k1, k2, k3,
  k4, k413] w434 p435 k436 k437 (nat_lit 1) (spl (reps [Value.int IntKind.i64 (0 : Int), Value.string { data := { toList := [] } }] (nat_lit
  1)) (nat_lit 0) (spl (spl [Value.int IntKind.i64 (0 : Int), Value.string { data := { toList := [] } }] (nat_lit 0) [Value.int IntKind.i64
  lNext]) (nat_lit 1) [Value.string data])) (nat_lit 2) (nat_lit 24) [Value.int IntKind.i64 (0 : Int), Value.string
  { data := { toList := [] } }] fun (w438 : World) (p439 : Option Addr) (k440 k441 : Nat) => ∀ (w442 : World), Step w438 w442 [k2] [] → y124
  lFirst lCount p439 k440 k441 lNext w442))) ∧ ∀ (w444 : World), Step w70 w444 [k1] [] → Calls Proofs.Try.prog (39 : Nat) { toList := [Value.int IntKind.i64 lNext, Value.int IntKind.i64 ((ByteArray.size data) : Int)] }
  w444 fun (e446 : Ending) (w447 : World) => ∃ (s448 : ByteArray), e446 = Ending.returned (Value.string s448) ∧ Keep [k1, k2, k3, k4] w444
  w447 ∧ Calls Proofs.Try.prog (38 : Nat) { toList := [Value.agg { toList := List.take 5 (List.drop 0 (sets [Value.slice p32 k33 k34, Value.slice p35 k36 k37, Value.slice p38 k39 k40, Value.int IntKind.i64 n41, Value.int IntKind.i64 n42] 0 [Value.slice p71 k72 k73, Value.slice p74 k75 k76, Value.slice p77 k78 k79, Value.int IntKind.i64 n80, Value.int IntKind.i64 n81])) }, Value.int IntKind.i64 n12, Value.string s448] }
  w447 fun (e449 : Ending) (w450 : World) => ∃ (p451 : Option Addr), ∃ (k452 : Nat), ∃ (k453 : Nat), ∃ (p454 : Option Addr), ∃ (k455 : Nat),
  ∃ (k456 : Nat), ∃ (p457 : Option Addr), ∃ (k458 : Nat), ∃ (k459 : Nat), ∃ (n460 : Int), ∃ (n461 : Int), ∃ (n462 : Int), e449 =
  Ending.returned (Value.tuple { toList := [Value.agg { toList := [Value.slice p451 k452 k453, Value.slice p454 k455 k456, Value.slice p457 k458 k459, Value.int IntKind.i64 n460, Value.int IntKind.i64 n461] }, Value.int IntKind.i64 n462] })
  ∧ Keep [k1, k2, k3, k4] w447 w450 ∧ bcase (!decide (n462 = (0 : Int))) (∀ (w463 : World), Step w450 w463 [k4, k3, k1] [] → R
  (Ending.returned (Value.tuple { toList := [Value.agg { toList := List.take 5 (List.drop 0 (sets [Value.slice none 0 0, Value.slice none 0 0, Value.slice none 0 0, Value.int IntKind.i64 (0 : Int), Value.int IntKind.i64 (0 : Int)] 0 (List.take 5 (List.drop 0 (sets (sets [Value.slice p32 k33 k34, Value.slice p35 k36 k37, Value.slice p38 k39 k40, Value.int IntKind.i64 n41, Value.int IntKind.i64 n42] 0 [Value.slice p71 k72 k73, Value.slice p74 k75 k76, Value.slice p77 k78 k79, Value.int IntKind.i64 n80, Value.int IntKind.i64 n81]) 0 [Value.slice p451 k452 k453, Value.slice p454 k455 k456, Value.slice p457 k458 k459, Value.int IntKind.i64 n460, Value.int IntKind.i64 n461]))))) }, Value.agg { toList := List.take 4 (List.drop 0 (sets [Value.int IntKind.i64 (0 : Int), Value.int IntKind.i64 (0 : Int), Value.slice none 0 0, Value.int IntKind.i64 (0 : Int)] 0 [Value.int IntKind.i64 lFirst, Value.int IntKind.i64 lCount, Value.slice lRecordsA lRecordsL lRecordsC, Value.int IntKind.i64 lNext])) }, Value.int IntKind.i64 n462] }))
  w463) (∀ (w465 : World), Step w450 w465 [k1] [] → Calls Proofs.Try.prog (62 : Nat) { toList := [Value.agg { toList := List.take 5 (List.drop 0 (sets (sets [Value.slice p32 k33 k34, Value.slice p35 k36 k37, Value.slice p38 k39 k40, Value.int IntKind.i64 n41, Value.int IntKind.i64 n42] 0 [Value.slice p71 k72 k73, Value.slice p74 k75 k76, Value.slice p77 k78 k79, Value.int IntKind.i64 n80, Value.int IntKind.i64 n81]) 0 [Value.slice p451 k452 k453, Value.slice p454 k455 k456, Value.slice p457 k458 k459, Value.int IntKind.i64 n460, Value.int IntKind.i64 n461])) }] }
  w465 fun (e467 : Ending) (w468 : World) => ∃ (p469 : Option Addr), ∃ (k470 : Nat), ∃ (k471 : Nat), ∃ (p472 : Option Addr), ∃ (k473 : Nat),
  ∃ (k474 : Nat), ∃ (p475 : Option Addr), ∃ (k476 : Nat), ∃ (k477 : Nat), ∃ (n478 : Int), ∃ (n479 : Int), ∃ (n480 : Int), e467 =
  Ending.returned (Value.tuple { toList := [Value.agg { toList := [Value.slice p469 k470 k471, Value.slice p472 k473 k474, Value.slice p475 k476 k477, Value.int IntKind.i64 n478, Value.int IntKind.i64 n479] }, Value.int IntKind.i64 n480] })
  ∧ Keep [k1, k2, k3, k4] w465 w468 ∧ bcase (!decide (n480 = (0 : Int))) (∀ (w481 : World), Step w468 w481 [k4, k3, k1] [] → R
  (Ending.returned (Value.tuple { toList := [Value.agg { toList := List.take (nat_lit 5) (List.drop (nat_lit 0) (sets [Value.slice none (nat_lit 0) (nat_lit 0), Value.slice none (nat_lit 0) (nat_lit 0), Value.slice none (nat_lit 0) (nat_lit 0), Value.int IntKind.i64 (0 : Int), Value.int IntKind.i64 (0 : Int)] (nat_lit 0) (List.take (nat_lit 5) (List.drop (nat_lit 0) (sets (sets (sets [Value.slice p32 k33 k34, Value.slice p35 k36 k37, Value.slice p38 k39 k40, Value.int IntKind.i64 n41, Value.int IntKind.i64 n42] (nat_lit 0) [Value.slice p71 k72 k73, Value.slice p74 k75 k76, Value.slice p77 k78 k79, Value.int IntKind.i64 n80, Value.int IntKind.i64 n81]) (nat_lit 0) [Value.slice p451 k452 k453, Value.slice p454 k455 k456, Value.slice p457 k458 k459, Value.int IntKind.i64 n460, Value.int IntKind.i64 n461]) (nat_lit 0) [Value.slice p469 k470 k471, Value.slice p472 k473 k474, Value.slice p475 k476 k477, Value.int IntKind.i64 n478, Value.int IntKind.i64 n479]))))) }, Value.agg { toList := List.take (nat_lit 4) (List.drop (nat_lit 0) (sets [Value.int IntKind.i64 (0 : Int), Value.int IntKind.i64 (0 : Int), Value.slice none (nat_lit 0) (nat_lit 0), Value.int IntKind.i64 (0 : Int)] (nat_lit 0) [Value.int IntKind.i64 lFirst, Value.int IntKind.i64 lCount, Value.slice lRecordsA lRecordsL lRecordsC, Value.int IntKind.i64 lNext])) }, Value.int IntKind.i64 n480] }))
  w481) (∀ (y483 : Int → Int → Option Addr → Nat → Nat → Int → World → Prop), (∀ (n484 n485 : Int) (p486 : Option Addr) (k487 k488 : Nat)
  (n489 : Int) (w490 : World), (∀ (w491 : World), Step w490 w491 [k4, k3, k2] [] → R (Ending.returned (Value.tuple { toList := [Value.agg { toList := List.take (nat_lit 5) (List.drop (nat_lit 0) (sets [Value.slice none (nat_lit 0) (nat_lit 0), Value.slice none (nat_lit 0) (nat_lit 0), Value.slice none (nat_lit 0) (nat_lit 0), Value.int IntKind.i64 (0 : Int), Value.int IntKind.i64 (0 : Int)] (nat_lit 0) (List.take (nat_lit 5) (List.drop (nat_lit 0) (sets (sets (sets [Value.slice p32 k33 k34, Value.slice p35 k36 k37, Value.slice p38 k39 k40, Value.int IntKind.i64 n41, Value.int IntKind.i64 n42] (nat_lit 0) [Value.slice p71 k72 k73, Value.slice p74 k75 k76, Value.slice p77 k78 k79, Value.int IntKind.i64 n80, Value.int IntKind.i64 n81]) (nat_lit 0) [Value.slice p451 k452 k453, Value.slice p454 k455 k456, Value.slice p457 k458 k459, Value.int IntKind.i64 n460, Value.int IntKind.i64 n461]) (nat_lit 0) [Value.slice p469 k470 k471, Value.slice p472 k473 k474, Value.slice p475 k476 k477, Value.int IntKind.i64 n478, Value.int IntKind.i64 n479]))))) }, Value.agg { toList := List.take (nat_lit 4) (List.drop (nat_lit 0) (sets [Value.int IntKind.i64 (0 : Int), Value.int IntKind.i64 (0 : Int), Value.slice none (nat_lit 0) (nat_lit 0), Value.int IntKind.i64 (0 : Int)] (nat_lit 0) (List.take (nat_lit 4) (List.drop (nat_lit 0) (sets [Value.int IntKind.i64 n484, Value.int IntKind.i64 n485, Value.slice p486 k487 k488, Value.int IntKind.i64 n489] (nat_lit 3) [Value.int IntKind.i64 (IntKind.wrap IntKind.i64 (n489 + (1 : Int)))]))))) }, Value.int IntKind.i64 (0 : Int)] }))
  w491) → y483 n484 n485 p486 k487 k488 n489 w490) → (∀ (k495 : Nat), ((∀ (w496 : World), Step w468 w496 [k1] [k495] → Blk w496 k495 (reps
  [Value.int IntKind.i64 (0 : Int), Value.string { data := { toList := [] } }] (nat_lit 0)) → ∃ (l499 : List Value), List.length l499 =
  lRecordsL * nat_lit 2 ∧ Row w496 lRecordsA l499 ∧ appendP true [] [] [k1, k2, k3, k4] w496 (some { block := k495, off := nat_lit 0 })
  (nat_lit 0) (nat_lit 0) lRecordsL l499 (nat_lit 2) (nat_lit 24) [Value.int IntKind.i64 (0 : Int), Value.string
  { data := { toList := [] } }] fun (w500 : World) (p501 : Option Addr) (k502 k503 : Nat) => ∀ (k504 : Nat), appendP false [] [k504] [k1,
  k2, k3, k4, k504] w500 p501 k502 k503 (nat_lit 1) (spl (reps [Value.int IntKind.i64 (0 : Int), Value.string { data := { toList := [] } }]
  (nat_lit 1)) (nat_lit 0) (spl (spl [Value.int IntKind.i64 (0 : Int), Value.string { data := { toList := [] } }] (nat_lit 0) [Value.int
  IntKind.i64 lNext]) (nat_lit 1) [Value.string data])) (nat_lit 2) (nat_lit 24) [Value.int IntKind.i64 (0 : Int), Value.string
  { data := { toList := [] } }] fun (w505 : World) (p506 : Option Addr) (k507 k508 : Nat) => ∀ (w509 : World), Step w505 w509 [k2] [] → y483
  lFirst lCount p506 k507 k508 lNext w509) ∧ (∀ (w511 : World), Step w468 w511 [k1] [k495] → Blk w511 k495 (reps [Value.int IntKind.i64 (0 :
  Int), Value.string { data := { toList := [] } }] (nat_lit 0)) → ∃ (l514 : List Value), List.length l514 = lRecordsL * nat_lit 2 ∧ Row w511
  lRecordsA l514 ∧ appendP true [] [] [k1, k2, k3, k4] w511 (some { block := k495, off := nat_lit 0 }) (nat_lit 0) (nat_lit 0) lRecordsL
  l514 (nat_lit 2) (nat_lit 24) [Value.int IntKind.i64 (0 : Int), Value.string { data := { toList := [] } }] fun (w515 : World) (p516 :
  Option Addr) (k517 k518 : Nat) => ∀ (k519 : Nat), appendP false [] [k519] [k1, k2, k3, k4, k519] w515 p516 k517 k518 (nat_lit 1) (spl
  (reps [Value.int IntKind.i64 (0 : Int), Value.string { data := { toList := [] } }] (nat_lit 1)) (nat_lit 0) (spl (spl [Value.int
  IntKind.i64 (0 : Int), Value.string { data := { toList := [] } }] (nat_lit 0) [Value.int IntKind.i64 lNext]) (nat_lit 1) [Value.string
  data])) (nat_lit 2) (nat_lit 24) [Value.int IntKind.i64 (0 : Int), Value.string { data := { toList := [] } }] fun (w520 : World) (p521 :
  Option Addr) (k522 k523 : Nat) => ∀ (w524 : World), Step w520 w524 [k2] [] → y483 lFirst lCount p521 k522 k523 lNext w524) ∧ ∀ (k526 :
  Nat) (w527 : World), Step w468 w527 [k1] [k526, k495] → Blk w527 k495 (reps [Value.int IntKind.i64 (0 : Int), Value.string
  { data := { toList := [] } }] (nat_lit 0)) → ∃ (l530 : List Value), List.length l530 = lRecordsL * nat_lit 2 ∧ Row w527 lRecordsA l530 ∧
  appendP true [] [] [k1, k2, k3, k4, k526] w527 (some { block := k495, off := nat_lit 0 }) (nat_lit 0) (nat_lit 0) lRecordsL l530 (nat_lit
  2) (nat_lit 24) [Value.int IntKind.i64 (0 : Int), Value.string { data := { toList := [] } }] fun (w531 : World) (p532 : Option Addr) (k533
  k534 : Nat) => appendP true [] [] [k1, k2, k3, k4, k526] w531 p532 k533 k534 (nat_lit 1) (spl (reps [Value.int IntKind.i64 (0 : Int),
  Value.string { data := { toList := [] } }] (nat_lit 1)) (nat_lit 0) (spl (spl [Value.int IntKind.i64 (0 : Int), Value.string
  { data := { toList := [] } }] (nat_lit 0) [Value.int IntKind.i64 lNext]) (nat_lit 1) [Value.string data])) (nat_lit 2) (nat_lit 24)
  [Value.int IntKind.i64 (0 : Int), Value.string { data := { toList := [] } }] fun (w535 : World) (p536 : Option Addr) (k537 k538 : Nat) =>
  ∀ (w539 : World), Step w535 w539 [k2] [] → y483 lFirst lCount p536 k537 k538 lNext w539) ∧ ((∀ (w541 : World), Step w468 w541 [k1] [k495]
  → Blk w541 k495 (reps [Value.int IntKind.i64 (0 : Int), Value.string { data := { toList := [] } }] (nat_lit 0)) → ∃ (l544 : List Value),
  List.length l544 = lRecordsL * nat_lit 2 ∧ Row w541 lRecordsA l544 ∧ appendP true [] [] [k1, k2, k3, k4] w541 (some
  { block := k495, off := nat_lit 0 }) (nat_lit 0) (nat_lit 0) lRecordsL l544 (nat_lit 2) (nat_lit 24) [Value.int IntKind.i64 (0 : Int),
  Value.string { data := { toList := [] } }] fun (w545 : World) (p546 : Option Addr) (k547 k548 : Nat) => ∀ (k549 : Nat), appendP false []
  [k549] [k1, k2, k3, k4, k549] w545 p546 k547 k548 (nat_lit 1) (spl (reps [Value.int IntKind.i64 (0 : Int), Value.string
  { data := { toList := [] } }] (nat_lit 1)) (nat_lit 0) (spl (spl [Value.int IntKind.i64 (0 : Int), Value.string
  { data := { toList := [] } }] (nat_lit 0) [Value.int IntKind.i64 lNext]) (nat_lit 1) [Value.string data])) (nat_lit 2) (nat_lit 24)
  [Value.int IntKind.i64 (0 : Int), Value.string { data := { toList := [] } }] fun (w550 : World) (p551 : Option Addr) (k552 k553 : Nat) =>
  ∀ (w554 : World), Step w550 w554 [k2] [] → y483 lFirst lCount p551 k552 k553 lNext w554) ∧ ∀ (k556 : Nat) (w557 : World), Step w468 w557
  [k1] [k556, k495] → Blk w557 k495 (reps [Value.int IntKind.i64 (0 : Int), Value.string { data := { toList := [] } }] (nat_lit 0)) → ∃
  (l560 : List Value), List.length l560 = lRecordsL * nat_lit 2 ∧ Row w557 lRecordsA l560 ∧ appendP true [] [] [k1, k2, k3, k4, k556] w557
  (some { block := k495, off := nat_lit 0 }) (nat_lit 0) (nat_lit 0) lRecordsL l560 (nat_lit 2) (nat_lit 24) [Value.int IntKind.i64 (0 :
  Int), Value.string { data := { toList := [] } }] fun (w561 : World) (p562 : Option Addr) (k563 k564 : Nat) => appendP true [] [] [k1, k2,
  k3, k4, k556] w561 p562 k563 k564 (nat_lit 1) (spl (reps [Value.int IntKind.i64 (0 : Int), Value.string { data := { toList := [] } }]
  (nat_lit 1)) (nat_lit 0) (spl (spl [Value.int IntKind.i64 (0 : Int), Value.string { data := { toList := [] } }] (nat_lit 0) [Value.int
  IntKind.i64 lNext]) (nat_lit 1) [Value.string data])) (nat_lit 2) (nat_lit 24) [Value.int IntKind.i64 (0 : Int), Value.string
  { data := { toList := [] } }] fun (w565 : World) (p566 : Option Addr) (k567 k568 : Nat) => ∀ (w569 : World), Step w565 w569 [k2] [] → y483
  lFirst lCount p566 k567 k568 lNext w569) ∧ ∀ (k571 : Nat) (w572 : World), Step w468 w572 [k1] [k571, k495] → Blk w572 k495 (reps
  [Value.int IntKind.i64 (0 : Int), Value.string { data := { toList := [] } }] (nat_lit 0)) → ∃ (l575 : List Value), List.length l575 =
  lRecordsL * nat_lit 2 ∧ Row w572 lRecordsA l575 ∧ appendP true [] [] [k1, k2, k3, k4, k571] w572 (some
  { block := k495, off := nat_lit 0 }) (nat_lit 0) (nat_lit 0) lRecordsL l575 (nat_lit 2) (nat_lit 24) [Value.int IntKind.i64 (0 : Int),
  Value.string { data := { toList := [] } }] fun (w576 : World) (p577 : Option Addr) (k578 k579 : Nat) => appendP true [] [] [k1, k2, k3,
  k4, k571] w576 p577 k578 k579 (nat_lit 1) (spl (reps [Value.int IntKind.i64 (0 : Int), Value.string { data := { toList := [] } }] (nat_lit
  1)) (nat_lit 0) (spl (spl [Value.int IntKind.i64 (0 : Int), Value.string { data := { toList := [] } }] (nat_lit 0) [Value.int IntKind.i64
  lNext]) (nat_lit 1) [Value.string data])) (nat_lit 2) (nat_lit 24) [Value.int IntKind.i64 (0 : Int), Value.string
  { data := { toList := [] } }] fun (w580 : World) (p581 : Option Addr) (k582 k583 : Nat) => ∀ (w584 : World), Step w580 w584 [k2] [] → y483
  lFirst lCount p581 k582 k583 lNext w584) ∧ ((∀ (k586 : Nat), (∀ (w587 : World), Step w468 w587 [k1] [k586] → Blk w587 k586 (reps
  [Value.int IntKind.i64 (0 : Int), Value.string { data := { toList := [] } }] (nat_lit 0)) → ∃ (l590 : List Value), List.length l590 =
  lRecordsL * nat_lit 2 ∧ Row w587 lRecordsA l590 ∧ appendP true [] [] [k1, k2, k3, k4] w587 (some { block := k586, off := nat_lit 0 })
  (nat_lit 0) (nat_lit 0) lRecordsL l590 (nat_lit 2) (nat_lit 24) [Value.int IntKind.i64 (0 : Int), Value.string
  { data := { toList := [] } }] fun (w591 : World) (p592 : Option Addr) (k593 k594 : Nat) => ∀ (k595 : Nat), appendP false [] [k595] [k1,
  k2, k3, k4, k595] w591 p592 k593 k594 (nat_lit 1) (spl (reps [Value.int IntKind.i64 (0 : Int), Value.string { data := { toList := [] } }]
  (nat_lit 1)) (nat_lit 0) (spl (spl [Value.int IntKind.i64 (0 : Int), Value.string { data := { toList := [] } }] (nat_lit 0) [Value.int
  IntKind.i64 lNext]) (nat_lit 1) [Value.string data])) (nat_lit 2) (nat_lit 24) [Value.int IntKind.i64 (0 : Int), Value.string
  { data := { toList := [] } }] fun (w596 : World) (p597 : Option Addr) (k598 k599 : Nat) => ∀ (w600 : World), Step w596 w600 [k2] [] → y483
  lFirst lCount p597 k598 k599 lNext w600) ∧ (∀ (w602 : World), Step w468 w602 [k1] [k586] → Blk w602 k586 (reps [Value.int IntKind.i64 (0 :
  Int), Value.string { data := { toList := [] } }] (nat_lit 0)) → ∃ (l605 : List Value), List.length l605 = lRecordsL * nat_lit 2 ∧ Row w602
  lRecordsA l605 ∧ appendP true [] [] [k1, k2, k3, k4] w602 (some { block := k586, off := nat_lit 0 }) (nat_lit 0) (nat_lit 0) lRecordsL
  l605 (nat_lit 2) (nat_lit 24) [Value.int IntKind.i64 (0 : Int), Value.string { data := { toList := [] } }] fun (w606 : World) (p607 :
  Option Addr) (k608 k609 : Nat) => ∀ (k610 : Nat), appendP false [] [k610] [k1, k2, k3, k4, k610] w606 p607 k608 k609 (nat_lit 1) (spl
  (reps [Value.int IntKind.i64 (0 : Int), Value.string { data := { toList := [] } }] (nat_lit 1)) (nat_lit 0) (spl (spl [Value.int
  IntKind.i64 (0 : Int), Value.string { data := { toList := [] } }] (nat_lit 0) [Value.int IntKind.i64 lNext]) (nat_lit 1) [Value.string
  data])) (nat_lit 2) (nat_lit 24) [Value.int IntKind.i64 (0 : Int), Value.string { data := { toList := [] } }] fun (w611 : World) (p612 :
  Option Addr) (k613 k614 : Nat) => ∀ (w615 : World), Step w611 w615 [k2] [] → y483 lFirst lCount p612 k613 k614 lNext w615) ∧ ∀ (k617 :
  Nat) (w618 : World), Step w468 w618 [k1] [k617, k586] → Blk w618 k586 (reps [Value.int IntKind.i64 (0 : Int), Value.string
  { data := { toList := [] } }] (nat_lit 0)) → ∃ (l621 : List Value), List.length l621 = lRecordsL * nat_lit 2 ∧ Row w618 lRecordsA l621 ∧
  appendP true [] [] [k1, k2, k3, k4, k617] w618 (some { block := k586, off := nat_lit 0 }) (nat_lit 0) (nat_lit 0) lRecordsL l621 (nat_lit
  2) (nat_lit 24) [Value.int IntKind.i64 (0 : Int), Value.string { data := { toList := [] } }] fun (w622 : World) (p623 : Option Addr) (k624
  k625 : Nat) => appendP true [] [] [k1, k2, k3, k4, k617] w622 p623 k624 k625 (nat_lit 1) (spl (reps [Value.int IntKind.i64 (0 : Int),
  Value.string { data := { toList := [] } }] (nat_lit 1)) (nat_lit 0) (spl (spl [Value.int IntKind.i64 (0 : Int), Value.string
  { data := { toList := [] } }] (nat_lit 0) [Value.int IntKind.i64 lNext]) (nat_lit 1) [Value.string data])) (nat_lit 2) (nat_lit 24)
  [Value.int IntKind.i64 (0 : Int), Value.string { data := { toList := [] } }] fun (w626 : World) (p627 : Option Addr) (k628 k629 : Nat) =>
  ∀ (w630 : World), Step w626 w630 [k2] [] → y483 lFirst lCount p627 k628 k629 lNext w630) ∧ (∀ (k632 : Nat), (∀ (w633 : World), Step w468
  w633 [k1] [k632] → Blk w633 k632 (reps [Value.int IntKind.i64 (0 : Int), Value.string { data := { toList := [] } }] (nat_lit 0)) → ∃ (l636
  : List Value), List.length l636 = lRecordsL * nat_lit 2 ∧ Row w633 lRecordsA l636 ∧ appendP true [] [] [k1, k2, k3, k4] w633 (some
  { block := k632, off := nat_lit 0 }) (nat_lit 0) (nat_lit 0) lRecordsL l636 (nat_lit 2) (nat_lit 24) [Value.int IntKind.i64 (0 : Int),
  Value.string { data := { toList := [] } }] fun (w637 : World) (p638 : Option Addr) (k639 k640 : Nat) => ∀ (k641 : Nat), appendP false []
  [k641] [k1, k2, k3, k4, k641] w637 p638 k639 k640 (nat_lit 1) (spl (reps [Value.int IntKind.i64 (0 : Int), Value.string
  { data := { toList := [] } }] (nat_lit 1)) (nat_lit 0) (spl (spl [Value.int IntKind.i64 (0 : Int), Value.string
  { data := { toList := [] } }] (nat_lit 0) [Value.int IntKind.i64 lNext]) (nat_lit 1) [Value.string data])) (nat_lit 2) (nat_lit 24)
  [Value.int IntKind.i64 (0 : Int), Value.string { data := { toList := [] } }] fun (w642 : World) (p643 : Option Addr) (k644 k645 : Nat) =>
  ∀ (w646 : World), Step w642 w646 [k2] [] → y483 lFirst lCount p643 k644 k645 lNext w646) ∧ ∀ (k648 : Nat) (w649 : World), Step w468 w649
  [k1] [k648, k632] → Blk w649 k632 (reps [Value.int IntKind.i64 (0 : Int), Value.string { data := { toList := [] } }] (nat_lit 0)) → ∃
  (l652 : List Value), List.length l652 = lRecordsL * nat_lit 2 ∧ Row w649 lRecordsA l652 ∧ appendP true [] [] [k1, k2, k3, k4, k648] w649
  (some { block := k632, off := nat_lit 0 }) (nat_lit 0) (nat_lit 0) lRecordsL l652 (nat_lit 2) (nat_lit 24) [Value.int IntKind.i64 (0 :
  Int), Value.string { data := { toList := [] } }] fun (w653 : World) (p654 : Option Addr) (k655 k656 : Nat) => appendP true [] [] [k1, k2,
  k3, k4, k648] w653 p654 k655 k656 (nat_lit 1) (spl (reps [Value.int IntKind.i64 (0 : Int), Value.string { data := { toList := [] } }]
  (nat_lit 1)) (nat_lit 0) (spl (spl [Value.int IntKind.i64 (0 : Int), Value.string { data := { toList := [] } }] (nat_lit 0) [Value.int
  IntKind.i64 lNext]) (nat_lit 1) [Value.string data])) (nat_lit 2) (nat_lit 24) [Value.int IntKind.i64 (0 : Int), Value.string
  { data := { toList := [] } }] fun (w657 : World) (p658 : Option Addr) (k659 k660 : Nat) => ∀ (w661 : World), Step w657 w661 [k2] [] → y483
  lFirst lCount p658 k659 k660 lNext w661) ∧ ∀ (k663 k664 : Nat) (w665 : World), Step w468 w665 [k1] [k664, k663] → Blk w665 k664 (reps
  [Value.int IntKind.i64 (0 : Int), Value.string { data := { toList := [] } }] (nat_lit 0)) → ∃ (l668 : List Value), List.length l668 =
  lRecordsL * nat_lit 2 ∧ Row w665 lRecordsA l668 ∧ appendP true [] [] [k1, k2, k3, k4, k663] w665 (some
  { block := k664, off := nat_lit 0 }) (nat_lit 0) (nat_lit 0) lRecordsL l668 (nat_lit 2) (nat_lit 24) [Value.int IntKind.i64 (0 : Int),
  Value.string { data := { toList := [] } }] fun (w669 : World) (p670 : Option Addr) (k671 k672 : Nat) => appendP true [] [] [k1, k2, k3,
  k4, k663] w669 p670 k671 k672 (nat_lit 1) (spl (reps [Value.int IntKind.i64 (0 : Int), Value.string { data := { toList := [] } }] (nat_lit
  1)) (nat_lit 0) (spl (spl [Value.int IntKind.i64 (0 : Int), Value.string { data := { toList := [] } }] (nat_lit 0) [Value.int IntKind.i64
  lNext]) (nat_lit 1) [Value.string data])) (nat_lit 2) (nat_lit 24) [Value.int IntKind.i64 (0 : Int), Value.string
  { data := { toList := [] } }] fun (w673 : World) (p674 : Option Addr) (k675 k676 : Nat) => ∀ (w677 : World), Step w673 w677 [k2] [] → y483
  lFirst lCount p674 k675 k676 lNext w677) ∧ (∀ (k679 : Nat), ((∀ (w680 : World), Step w468 w680 [k1] [k679] → Blk w680 k679 (reps
  [Value.int IntKind.i64 (0 : Int), Value.string { data := { toList := [] } }] (nat_lit 0)) → ∃ (l683 : List Value), List.length l683 =
  lRecordsL * nat_lit 2 ∧ Row w680 lRecordsA l683 ∧ appendP true [] [] [k1, k2, k3, k4] w680 (some { block := k679, off := nat_lit 0 })
  (nat_lit 0) (nat_lit 0) lRecordsL l683 (nat_lit 2) (nat_lit 24) [Value.int IntKind.i64 (0 : Int), Value.string
  { data := { toList := [] } }] fun (w684 : World) (p685 : Option Addr) (k686 k687 : Nat) => ∀ (k688 : Nat), appendP false [] [k688] [k1,
  k2, k3, k4, k688] w684 p685 k686 k687 (nat_lit 1) (spl (reps [Value.int IntKind.i64 (0 : Int), Value.string { data := { toList := [] } }]
  (nat_lit 1)) (nat_lit 0) (spl (spl [Value.int IntKind.i64 (0 : Int), Value.string { data := { toList := [] } }] (nat_lit 0) [Value.int
  IntKind.i64 lNext]) (nat_lit 1) [Value.string data])) (nat_lit 2) (nat_lit 24) [Value.int IntKind.i64 (0 : Int), Value.string
  { data := { toList := [] } }] fun (w689 : World) (p690 : Option Addr) (k691 k692 : Nat) => ∀ (w693 : World), Step w689 w693 [k2] [] → y483
  lFirst lCount p690 k691 k692 lNext w693) ∧ ∀ (k695 : Nat) (w696 : World), Step w468 w696 [k1] [k695, k679] → Blk w696 k679 (reps
  [Value.int IntKind.i64 (0 : Int), Value.string { data := { toList := [] } }] (nat_lit 0)) → ∃ (l699 : List Value), List.length l699 =
  lRecordsL * nat_lit 2 ∧ Row w696 lRecordsA l699 ∧ appendP true [] [] [k1, k2, k3, k4, k695] w696 (some
  { block := k679, off := nat_lit 0 }) (nat_lit 0) (nat_lit 0) lRecordsL l699 (nat_lit 2) (nat_lit 24) [Value.int IntKind.i64 (0 : Int),
  Value.string { data := { toList := [] } }] fun (w700 : World) (p701 : Option Addr) (k702 k703 : Nat) => appendP true [] [] [k1, k2, k3,
  k4, k695] w700 p701 k702 k703 (nat_lit 1) (spl (reps [Value.int IntKind.i64 (0 : Int), Value.string { data := { toList := [] } }] (nat_lit
  1)) (nat_lit 0) (spl (spl [Value.int IntKind.i64 (0 : Int), Value.string { data := { toList := [] } }] (nat_lit 0) [Value.int IntKind.i64
  lNext]) (nat_lit 1) [Value.string data])) (nat_lit 2) (nat_lit 24) [Value.int IntKind.i64 (0 : Int), Value.string
  { data := { toList := [] } }] fun (w704 : World) (p705 : Option Addr) (k706 k707 : Nat) => ∀ (w708 : World), Step w704 w708 [k2] [] → y483
  lFirst lCount p705 k706 k707 lNext w708) ∧ ∀ (k710 : Nat) (w711 : World), Step w468 w711 [k1] [k710, k679] → Blk w711 k679 (reps
  [Value.int IntKind.i64 (0 : Int), Value.string { data := { toList := [] } }] (nat_lit 0)) → ∃ (l714 : List Value), List.length l714 =
  lRecordsL * nat_lit 2 ∧ Row w711 lRecordsA l714 ∧ appendP true [] [] [k1, k2, k3, k4, k710] w711 (some
  { block := k679, off := nat_lit 0 }) (nat_lit 0) (nat_lit 0) lRecordsL l714 (nat_lit 2) (nat_lit 24) [Value.int IntKind.i64 (0 : Int),
  Value.string { data := { toList := [] } }] fun (w715 : World) (p716 : Option Addr) (k717 k718 : Nat) => appendP true [] [] [k1, k2, k3,
  k4, k710] w715 p716 k717 k718 (nat_lit 1) (spl (reps [Value.int IntKind.i64 (0 : Int), Value.string { data := { toList := [] } }] (nat_lit
  1)) (nat_lit 0) (spl (spl [Value.int IntKind.i64 (0 : Int), Value.string { data := { toList := [] } }] (nat_lit 0) [Value.int IntKind.i64
  lNext]) (nat_lit 1) [Value.string data])) (nat_lit 2) (nat_lit 24) [Value.int IntKind.i64 (0 : Int), Value.string
  { data := { toList := [] } }] fun (w719 : World) (p720 : Option Addr) (k721 k722 : Nat) => ∀ (w723 : World), Step w719 w723 [k2] [] → y483
  lFirst lCount p720 k721 k722 lNext w723) ∧ ((∀ (k725 : Nat), (∀ (w726 : World), Step w468 w726 [k1] [k725] → Blk w726 k725 (reps
  [Value.int IntKind.i64 (0 : Int), Value.string { data := { toList := [] } }] (nat_lit 0)) → ∃ (l729 : List Value), List.length l729 =
  lRecordsL * nat_lit 2 ∧ Row w726 lRecordsA l729 ∧ appendP true [] [] [k1, k2, k3, k4] w726 (some { block := k725, off := nat_lit 0 })
  (nat_lit 0) (nat_lit 0) lRecordsL l729 (nat_lit 2) (nat_lit 24) [Value.int IntKind.i64 (0 : Int), Value.string
  { data := { toList := [] } }] fun (w730 : World) (p731 : Option Addr) (k732 k733 : Nat) => ∀ (k734 : Nat), appendP false [] [k734] [k1,
  k2, k3, k4, k734] w730 p731 k732 k733 (nat_lit 1) (spl (reps [Value.int IntKind.i64 (0 : Int), Value.string { data := { toList := [] } }]
  (nat_lit 1)) (nat_lit 0) (spl (spl [Value.int IntKind.i64 (0 : Int), Value.string { data := { toList := [] } }] (nat_lit 0) [Value.int
  IntKind.i64 lNext]) (nat_lit 1) [Value.string data])) (nat_lit 2) (nat_lit 24) [Value.int IntKind.i64 (0 : Int), Value.string
  { data := { toList := [] } }] fun (w735 : World) (p736 : Option Addr) (k737 k738 : Nat) => ∀ (w739 : World), Step w735 w739 [k2] [] → y483
  lFirst lCount p736 k737 k738 lNext w739) ∧ ∀ (k741 : Nat) (w742 : World), Step w468 w742 [k1] [k741, k725] → Blk w742 k725 (reps
  [Value.int IntKind.i64 (0 : Int), Value.string { data := { toList := [] } }] (nat_lit 0)) → ∃ (l745 : List Value), List.length l745 =
  lRecordsL * nat_lit 2 ∧ Row w742 lRecordsA l745 ∧ appendP true [] [] [k1, k2, k3, k4, k741] w742 (some
  { block := k725, off := nat_lit 0 }) (nat_lit 0) (nat_lit 0) lRecordsL l745 (nat_lit 2) (nat_lit 24) [Value.int IntKind.i64 (0 : Int),
  Value.string { data := { toList := [] } }] fun (w746 : World) (p747 : Option Addr) (k748 k749 : Nat) => appendP true [] [] [k1, k2, k3,
  k4, k741] w746 p747 k748 k749 (nat_lit 1) (spl (reps [Value.int IntKind.i64 (0 : Int), Value.string { data := { toList := [] } }] (nat_lit
  1)) (nat_lit 0) (spl (spl [Value.int IntKind.i64 (0 : Int), Value.string { data := { toList := [] } }] (nat_lit 0) [Value.int IntKind.i64
  lNext]) (nat_lit 1) [Value.string data])) (nat_lit 2) (nat_lit 24) [Value.int IntKind.i64 (0 : Int), Value.string
  { data := { toList := [] } }] fun (w750 : World) (p751 : Option Addr) (k752 k753 : Nat) => ∀ (w754 : World), Step w750 w754 [k2] [] → y483
  lFirst lCount p751 k752 k753 lNext w754) ∧ ∀ (k756 k757 : Nat) (w758 : World), Step w468 w758 [k1] [k757, k756] → Blk w758 k757 (reps
  [Value.int IntKind.i64 (0 : Int), Value.string { data := { toList := [] } }] (nat_lit 0)) → ∃ (l761 : List Value), List.length l761 =
  lRecordsL * nat_lit 2 ∧ Row w758 lRecordsA l761 ∧ appendP true [] [] [k1, k2, k3, k4, k756] w758 (some
  { block := k757, off := nat_lit 0 }) (nat_lit 0) (nat_lit 0) lRecordsL l761 (nat_lit 2) (nat_lit 24) [Value.int IntKind.i64 (0 : Int),
  Value.string { data := { toList := [] } }] fun (w762 : World) (p763 : Option Addr) (k764 k765 : Nat) => appendP true [] [] [k1, k2, k3,
  k4, k756] w762 p763 k764 k765 (nat_lit 1) (spl (reps [Value.int IntKind.i64 (0 : Int), Value.string { data := { toList := [] } }] (nat_lit
  1)) (nat_lit 0) (spl (spl [Value.int IntKind.i64 (0 : Int), Value.string { data := { toList := [] } }] (nat_lit 0) [Value.int IntKind.i64
  lNext]) (nat_lit 1) [Value.string data])) (nat_lit 2) (nat_lit 24) [Value.int IntKind.i64 (0 : Int), Value.string
  { data := { toList := [] } }] fun (w766 : World) (p767 : Option Addr) (k768 k769 : Nat) => ∀ (w770 : World), Step w766 w770 [k2] [] → y483
  lFirst lCount p767 k768 k769 lNext w770) ∧ ∀ (k772 : Nat), (∀ (k773 : Nat) (w774 : World), Step w468 w774 [k1] [k773, k772] → Blk w774
  k773 (reps [Value.int IntKind.i64 (0 : Int), Value.string { data := { toList := [] } }] (nat_lit 0)) → ∃ (l777 : List Value), List.length
  l777 = lRecordsL * nat_lit 2 ∧ Row w774 lRecordsA l777 ∧ appendP true [] [] [k1, k2, k3, k4, k772] w774 (some
  { block := k773, off := nat_lit 0 }) (nat_lit 0) (nat_lit 0) lRecordsL l777 (nat_lit 2) (nat_lit 24) [Value.int IntKind.i64 (0 : Int),
  Value.string { data := { toList := [] } }] fun (w778 : World) (p779 : Option Addr) (k780 k781 : Nat) => appendP true [] [] [k1, k2, k3,
  k4, k772] w778 p779 k780 k781 (nat_lit 1) (spl (reps [Value.int IntKind.i64 (0 : Int), Value.string { data := { toList := [] } }] (nat_lit
  1)) (nat_lit 0) (spl (spl [Value.int IntKind.i64 (0 : Int), Value.string { data := { toList := [] } }] (nat_lit 0) [Value.int IntKind.i64
  lNext]) (nat_lit 1) [Value.string data])) (nat_lit 2) (nat_lit 24) [Value.int IntKind.i64 (0 : Int), Value.string
  { data := { toList := [] } }] fun (w782 : World) (p783 : Option Addr) (k784 k785 : Nat) => ∀ (w786 : World), Step w782 w786 [k2] [] → y483
  lFirst lCount p783 k784 k785 lNext w786) ∧ ∀ (k788 : Nat) (w789 : World), Step w468 w789 [k1] [k788, k772] → Blk w789 k788 (reps
  [Value.int IntKind.i64 (0 : Int), Value.string { data := { toList := [] } }] (nat_lit 0)) → ∃ (l792 : List Value), List.length l792 =
  lRecordsL * nat_lit 2 ∧ Row w789 lRecordsA l792 ∧ appendP true [] [] [k1, k2, k3, k4, k772] w789 (some
  { block := k788, off := nat_lit 0 }) (nat_lit 0) (nat_lit 0) lRecordsL l792 (nat_lit 2) (nat_lit 24) [Value.int IntKind.i64 (0 : Int),
  Value.string { data := { toList := [] } }] fun (w793 : World) (p794 : Option Addr) (k795 k796 : Nat) => appendP true [] [] [k1, k2, k3,
  k4, k772] w793 p794 k795 k796 (nat_lit 1) (spl (reps [Value.int IntKind.i64 (0 : Int), Value.string { data := { toList := [] } }] (nat_lit
  1)) (nat_lit 0) (spl (spl [Value.int IntKind.i64 (0 : Int), Value.string { data := { toList := [] } }] (nat_lit 0) [Value.int IntKind.i64
  lNext]) (nat_lit 1) [Value.string data])) (nat_lit 2) (nat_lit 24) [Value.int IntKind.i64 (0 : Int), Value.string
  { data := { toList := [] } }] fun (w797 : World) (p798 : Option Addr) (k799 k800 : Nat) => ∀ (w801 : World), Step w797 w801 [k2] [] → y483
  lFirst lCount p798 k799 k800 lNext w801))))) → y15 b16 w17) → bcase (decide ((4611686018427387904 : Int) < lNext)) (y15 true w11) (y15
  (decide (IntKind.wrap IntKind.i64 (lFirst + lCount) < IntKind.wrap IntKind.i64 (IntKind.wrap IntKind.i64 (n12 + (1 : Int)) + n9))) w11))

theorem rhizomeref04_Append.link {dSureA : Option Addr} {dSureL dSureC : Nat} {dNowA : Option Addr} {dNowL dNowC : Nat} {dFreshA : Option Addr} {dFreshL dFreshC : Nat} {dSteps : Int} {dLeft : Int} {lFirst : Int} {lCount : Int} {lRecordsA : Option Addr} {lRecordsL lRecordsC : Nat} {lNext : Int} {data : ByteArray} {R : Ending → World → Prop} {w : World} (h : rhizomeref04_Append.vc dSureA dSureL dSureC dNowA dNowL dNowC dFreshA dFreshL dFreshC dSteps dLeft lFirst lCount lRecordsA lRecordsL lRecordsC lNext data R w) : Calls Go.Proofs.Try.prog 42 #[(.agg #[.slice dSureA dSureL dSureC, .slice dNowA dNowL dNowC, .slice dFreshA dFreshL dFreshC, .int .i64 dSteps, .int .i64 dLeft] : Value), (.agg #[.int .i64 lFirst, .int .i64 lCount, .slice lRecordsA lRecordsL lRecordsC, .int .i64 lNext] : Value), .string data] w R :=
  calls_of pf (fn := Go.Proofs.Try.f42) (ann := .s (.n) (.s (.n) (.s (.n) (.s (.s (.n) (.c (.s (.d [0, 1]) (.n)) (.n))) (.s (.j ⟨[], [], [0, 1, 2, 3], [(39, .l (.b))], []⟩ (.n) (.c (.s (.d [0, 1]) (.n)) (.n))) (.s (.n) (.s (.n) (.s (.s (.n) (.b (.l ⟨[], [], [1, 2, 3], [(13, .l (.i .i64))], [(0, [.sl, .sl, .sl, .i .i64, .i .i64])]⟩ (.s (.s (.n) (.c (.n) (.n))) (.s (.b (.s (.n) (.j ⟨[], [], [0, 1, 2, 3], [(14, .l (.s))], []⟩ (.s (.n) (.c (.n) (.n))) (.s (.n) (.s (.n) (.c (.s (.d [0, 1]) (.n)) (.n))))))) (.n)))))) (.s (.n) (.s (.s (.n) (.c (.s (.d [0, 1]) (.n)) (.n))) (.s (.d [1, 2, 3]) (.s (.s (.n) (.c (.s (.d [0, 1]) (.n)) (.n))) (.s (.n) (.s (.s (.n) (.c (.s (.d [0, 1]) (.n)) (.n))) (.j ⟨[], [], [0, 2, 3], [], [(1, [.i .i64, .i .i64, .sl, .i .i64])]⟩ (.d [0, 2, 3]) (.s (.n) (.s (.d [0, 1]) (.n)))))))))))))))))) (mp := false) (args := [.v (.agg #[.slice dSureA dSureL dSureC, .slice dNowA dNowL dNowC, .slice dFreshA dFreshL dFreshC, .int .i64 dSteps, .int .i64 dLeft]), .v (.agg #[.int .i64 lFirst, .int .i64 lCount, .slice lRecordsA lRecordsL lRecordsC, .int .i64 lNext]), .v (.string data)]) Go.Proofs.Try.func42 (c := Go.Proofs.Try.f42.body.getD .skip) (by kernel_rfl) (by kernel_rfl) (Eq.mp (by kernel_rfl) h)
theorem rhizomeref04_Append.body : BodyOk Go.Proofs.Try.prog 42 := ⟨Go.Proofs.Try.f42, Go.Proofs.Try.func42, by kernel_rfl, pf.ng _ _ Go.Proofs.Try.func42⟩

/-! ### rhizome/rhizomeref04.Reset: function 44 -/
def rhizomeref04_Reset.vc (dSureA : Option Addr) (dSureL dSureC : Nat) (dNowA : Option Addr) (dNowL dNowC : Nat) (dFreshA : Option Addr)
  (dFreshL dFreshC : Nat) (dSteps : Int) (dLeft : Int) (lFirst : Int) (lCount : Int) (lRecordsA : Option Addr) (lRecordsL lRecordsC : Nat)
  (lNext : Int) (next : Int) (R : Ending → World → Prop) (w : World) : Prop := ∀ (k1 k2 k3 k4 : Nat) (y5 : Bool → World → Prop), (∀ (b6 :
  Bool) (w7 : World), bcase b6 (∀ (w8 : World), Step w7 w8 [k4, k3] [] → R (Ending.returned (Value.tuple { toList := [Value.agg { toList := List.take 5 (List.drop 0 (sets [Value.slice none 0 0, Value.slice none 0 0, Value.slice none 0 0, Value.int IntKind.i64 (0 : Int), Value.int IntKind.i64 (0 : Int)] 0 [Value.slice dSureA dSureL dSureC, Value.slice dNowA dNowL dNowC, Value.slice dFreshA dFreshL dFreshC, Value.int IntKind.i64 dSteps, Value.int IntKind.i64 dLeft])) }, Value.agg { toList := List.take 4 (List.drop 0 (sets [Value.int IntKind.i64 (0 : Int), Value.int IntKind.i64 (0 : Int), Value.slice none 0 0, Value.int IntKind.i64 (0 : Int)] 0 [Value.int IntKind.i64 lFirst, Value.int IntKind.i64 lCount, Value.slice lRecordsA lRecordsL lRecordsC, Value.int IntKind.i64 lNext])) }, Value.int IntKind.i64 (1 : Int)] }))
  w8) (∃ (y10 : Nat → Option Addr → Nat → Nat → Option Addr → Nat → Nat → Int → Int → World → Prop), ∃ (k11 : Nat), y10 k11 none 0 0 none 0
  0 lFirst (0 : Int) w7 ∧ ∀ (k12 : Nat) (p13 : Option Addr) (k14 k15 : Nat) (p16 : Option Addr) (k17 k18 : Nat) (n19 n20 : Int) (w21 :
  World), y10 k12 p13 k14 k15 p16 k17 k18 n19 n20 w21 → bcase (decide (n20 < (lRecordsL : Int))) (∀ (k23 : Nat), appendP false [] [k23] [k1,
  k2, k3, k4, k23] w21 p13 k14 k15 1 (spl (reps [Value.int IntKind.i64 (0 : Int)] 1) 0 [Value.int IntKind.i64 n19]) 1 8 [Value.int
  IntKind.i64 (0 : Int)] fun (w24 : World) (p25 : Option Addr) (k26 k27 : Nat) => ∃ (y28 : Nat → Option Addr → Nat → Nat → Int → Int → World
  → Prop), ∃ (k29 : Nat), y28 k29 p16 k17 k18 (IntKind.wrap IntKind.i64 (n19 + (1 : Int))) (0 : Int) w24 ∧ ∀ (k30 : Nat) (p31 : Option Addr)
  (k32 k33 : Nat) (n34 n35 : Int) (w36 : World), y28 k30 p31 k32 k33 n34 n35 w36 → ∃ (ad38 : Addr), lRecordsA = some ad38 ∧ ((0 : Int) ≤ n20
  ∧ n20 < (lRecordsL : Int)) ∧ ∃ (s39 : ByteArray), World.cell? w36 (Addr.add (Addr.add ad38 (Int.toNat n20 * 2)) 1) = some (Value.string
  s39) ∧ Calls Proofs.Try.prog (75 : Nat) { toList := [Value.int IntKind.i64 ((ByteArray.size s39) : Int)] } w36 fun (e40 : Ending) (w41 :
  World) => ∃ (n42 : Int), e40 = Ending.returned (Value.int IntKind.i64 n42) ∧ Keep [k1, k2, k3, k4] w36 w41 ∧ bcase (decide (n35 < n42)) (∀
  (k43 : Nat), appendP false [] [k43] [k1, k2, k3, k4, k43] w41 p31 k32 k33 1 (spl (reps [Value.int IntKind.i64 (0 : Int)] 1) 0 [Value.int
  IntKind.i64 n34]) 1 8 [Value.int IntKind.i64 (0 : Int)] fun (w44 : World) (p45 : Option Addr) (k46 k47 : Nat) => ∃ (k48 : Nat), k48 < k30
  ∧ y28 k48 p45 k46 k47 (IntKind.wrap IntKind.i64 (n34 + (1 : Int))) (IntKind.wrap IntKind.i64 (n35 + (1 : Int))) w44) (∃ (k49 : Nat), k49 <
  k12 ∧ y10 k49 p25 k26 k27 p31 k32 k33 n34 (IntKind.wrap IntKind.i64 (n20 + (1 : Int))) w41)) (∀ (y50 : Int → Option Addr → Nat → Nat →
  Option Addr → Nat → Nat → Option Addr → Nat → Nat → Int → Int → World → Prop), (∀ (n51 : Int) (p52 : Option Addr) (k53 k54 : Nat) (p55 :
  Option Addr) (k56 k57 : Nat) (p58 : Option Addr) (k59 k60 : Nat) (n61 n62 : Int) (w63 : World), bcase (!decide (n51 = (0 : Int))) (∀ (w64
  : World), Step w63 w64 [k4, k3] [] → R (Ending.returned (Value.tuple { toList := [Value.agg { toList := List.take 5 (List.drop 0 (sets [Value.slice none 0 0, Value.slice none 0 0, Value.slice none 0 0, Value.int IntKind.i64 (0 : Int), Value.int IntKind.i64 (0 : Int)] 0 [Value.slice p52 k53 k54, Value.slice p55 k56 k57, Value.slice p58 k59 k60, Value.int IntKind.i64 n61, Value.int IntKind.i64 n62])) }, Value.agg { toList := List.take 4 (List.drop 0 (sets [Value.int IntKind.i64 (0 : Int), Value.int IntKind.i64 (0 : Int), Value.slice none 0 0, Value.int IntKind.i64 (0 : Int)] 0 [Value.int IntKind.i64 lFirst, Value.int IntKind.i64 lCount, Value.slice lRecordsA lRecordsL lRecordsC, Value.int IntKind.i64 lNext])) }, Value.int IntKind.i64 n51] }))
  w64) (∀ (w66 : World), Step w63 w66 [k4, k3] [] → R (Ending.returned (Value.tuple { toList := [Value.agg { toList := List.take 5 (List.drop 0 (sets [Value.slice none 0 0, Value.slice none 0 0, Value.slice none 0 0, Value.int IntKind.i64 (0 : Int), Value.int IntKind.i64 (0 : Int)] 0 [Value.slice p52 k53 k54, Value.slice p55 k56 k57, Value.slice p58 k59 k60, Value.int IntKind.i64 n61, Value.int IntKind.i64 n62])) }, Value.agg { toList := List.take 4 (List.drop 0 (sets [Value.int IntKind.i64 (0 : Int), Value.int IntKind.i64 (0 : Int), Value.slice none 0 0, Value.int IntKind.i64 (0 : Int)] 0 (spl (spl (spl [Value.int IntKind.i64 (0 : Int), Value.int IntKind.i64 (0 : Int), Value.slice none 0 0, Value.int IntKind.i64 (0 : Int)] 0 [Value.int IntKind.i64 lFirst]) 1 [Value.int IntKind.i64 lCount]) 3 [Value.int IntKind.i64 next]))) }, Value.int IntKind.i64 (0 : Int)] }))
  w66) → y50 n51 p52 k53 k54 p55 k56 k57 p58 k59 k60 n61 n62 w63) → bcase (decide ((0 : Int) < (k14 : Int))) (Calls Proofs.Try.prog (74 :
  Nat) { toList := [Value.agg { toList := [Value.slice dSureA dSureL dSureC, Value.slice dNowA dNowL dNowC, Value.slice dFreshA dFreshL dFreshC, Value.int IntKind.i64 dSteps, Value.int IntKind.i64 dLeft] }, Value.slice p13 k14 k15] }
  w21 fun (e70 : Ending) (w71 : World) => ∃ (p72 : Option Addr), ∃ (k73 : Nat), ∃ (k74 : Nat), ∃ (p75 : Option Addr), ∃ (k76 : Nat), ∃ (k77
  : Nat), ∃ (p78 : Option Addr), ∃ (k79 : Nat), ∃ (k80 : Nat), ∃ (n81 : Int), ∃ (n82 : Int), ∃ (n83 : Int), e70 = Ending.returned
  (Value.tuple { toList := [Value.agg { toList := [Value.slice p72 k73 k74, Value.slice p75 k76 k77, Value.slice p78 k79 k80, Value.int IntKind.i64 n81, Value.int IntKind.i64 n82] }, Value.int IntKind.i64 n83] })
  ∧ Keep [k1, k2, k3, k4] w21 w71 ∧ bcase (decide (n83 = (0 : Int))) (∀ (w84 : World), Step w71 w84 [k1] [] → Calls Proofs.Try.prog (74 :
  Nat) { toList := [Value.agg { toList := List.take 5 (List.drop 0 (sets [Value.slice dSureA dSureL dSureC, Value.slice dNowA dNowL dNowC, Value.slice dFreshA dFreshL dFreshC, Value.int IntKind.i64 dSteps, Value.int IntKind.i64 dLeft] 0 [Value.slice p72 k73 k74, Value.slice p75 k76 k77, Value.slice p78 k79 k80, Value.int IntKind.i64 n81, Value.int IntKind.i64 n82])) }, Value.slice p16 k17 k18] }
  w84 fun (e86 : Ending) (w87 : World) => ∃ (p88 : Option Addr), ∃ (k89 : Nat), ∃ (k90 : Nat), ∃ (p91 : Option Addr), ∃ (k92 : Nat), ∃ (k93
  : Nat), ∃ (p94 : Option Addr), ∃ (k95 : Nat), ∃ (k96 : Nat), ∃ (n97 : Int), ∃ (n98 : Int), ∃ (n99 : Int), e86 = Ending.returned
  (Value.tuple { toList := [Value.agg { toList := [Value.slice p88 k89 k90, Value.slice p91 k92 k93, Value.slice p94 k95 k96, Value.int IntKind.i64 n97, Value.int IntKind.i64 n98] }, Value.int IntKind.i64 n99] })
  ∧ Keep [k1, k2, k3, k4] w84 w87 ∧ ∀ (w100 : World), Step w87 w100 [k1] [] → y50 n99 p88 k89 k90 p91 k92 k93 p94 k95 k96 n97 n98 w100) (∀
  (w102 : World), Step w71 w102 [k1] [] → y50 n83 p72 k73 k74 p75 k76 k77 p78 k79 k80 n81 n82 w102)) (y50 (0 : Int) dSureA dSureL dSureC
  dNowA dNowL dNowC dFreshA dFreshL dFreshC dSteps dLeft w21))) → y5 b6 w7) → bcase (decide (next < (1 : Int))) (∀ (w106 : World), Step w
  w106 [] [k4, k3, k2, k1] → y5 true w106) (∀ (w108 : World), Step w w108 [] [k4, k3, k2, k1] → y5 (decide ((4611686018427387904 : Int) <
  next)) w108)

theorem rhizomeref04_Reset.link {dSureA : Option Addr} {dSureL dSureC : Nat} {dNowA : Option Addr} {dNowL dNowC : Nat} {dFreshA : Option Addr} {dFreshL dFreshC : Nat} {dSteps : Int} {dLeft : Int} {lFirst : Int} {lCount : Int} {lRecordsA : Option Addr} {lRecordsL lRecordsC : Nat} {lNext : Int} {next : Int} {R : Ending → World → Prop} {w : World} (h : rhizomeref04_Reset.vc dSureA dSureL dSureC dNowA dNowL dNowC dFreshA dFreshL dFreshC dSteps dLeft lFirst lCount lRecordsA lRecordsL lRecordsC lNext next R w) : Calls Go.Proofs.Try.prog 44 #[(.agg #[.slice dSureA dSureL dSureC, .slice dNowA dNowL dNowC, .slice dFreshA dFreshL dFreshC, .int .i64 dSteps, .int .i64 dLeft] : Value), (.agg #[.int .i64 lFirst, .int .i64 lCount, .slice lRecordsA lRecordsL lRecordsC, .int .i64 lNext] : Value), .int .i64 next] w R :=
  calls_of pf (fn := Go.Proofs.Try.f44) (ann := .s (.n) (.s (.j ⟨[], [], [0, 1, 2, 3], [(20, .l (.b))], []⟩ (.n) (.c (.s (.d [0, 1]) (.n)) (.n))) (.s (.n) (.s (.n) (.s (.s (.n) (.b (.l ⟨[], [], [0, 1, 2, 3], [(9, .l (.sl)), (10, .l (.sl)), (11, .l (.i .i64)), (28, .l (.i .i64))], []⟩ (.s (.n) (.s (.c (.n) (.n)) (.s (.b (.s (.n) (.s (.n) (.s (.n) (.s (.n) (.b (.l ⟨[], [], [0, 1, 2, 3], [(10, .l (.sl)), (11, .l (.i .i64)), (13, .l (.i .i64))], []⟩ (.s (.s (.n) (.c (.n) (.n))) (.s (.b (.s (.n) (.n))) (.n)))))))))) (.n))))))) (.s (.n) (.j ⟨[], [], [1, 2, 3], [(14, .l (.i .i64))], [(0, [.sl, .sl, .sl, .i .i64, .i .i64])]⟩ (.s (.n) (.c (.s (.n) (.s (.n) (.c (.n) (.n)))) (.n))) (.s (.s (.n) (.c (.s (.d [0, 1]) (.n)) (.n))) (.s (.d [0, 1]) (.n)))))))))) (mp := false) (args := [.v (.agg #[.slice dSureA dSureL dSureC, .slice dNowA dNowL dNowC, .slice dFreshA dFreshL dFreshC, .int .i64 dSteps, .int .i64 dLeft]), .v (.agg #[.int .i64 lFirst, .int .i64 lCount, .slice lRecordsA lRecordsL lRecordsC, .int .i64 lNext]), .v (.int .i64 next)]) Go.Proofs.Try.func44 (c := Go.Proofs.Try.f44.body.getD .skip) (by kernel_rfl) (by kernel_rfl) (Eq.mp (by kernel_rfl) h)
theorem rhizomeref04_Reset.body : BodyOk Go.Proofs.Try.prog 44 := ⟨Go.Proofs.Try.f44, Go.Proofs.Try.func44, by kernel_rfl, pf.ng _ _ Go.Proofs.Try.func44⟩

end Go.Proofs.Ytcaamecdhbgknaa.VC
