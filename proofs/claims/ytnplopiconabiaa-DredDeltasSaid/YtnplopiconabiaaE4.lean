/- What is to be shown of functions' texts, printed by a program of this session's repo; that it gives the functions' contracts is checked by the kernel. -/
import Derived.Test.YtnplopiconabiaaProg
import Derived.Test.YtnplopiconabiaaPf
namespace Go.Proofs.Ytnplopiconabiaa.VC
open Go Go.V
set_option maxRecDepth 1000000
set_option linter.unusedVariables false

/-! ### (*rhizome/dred.Dred).Do: function 30 -/
def dred_Dred_Do.vc (d : Addr) (edgesA : Option Addr) (edgesL edgesC : Nat) (add : Bool) (R : Ending → World → Prop) (w : World) : Prop := ∀
  (k1 : Nat), ∃ (y2 : Nat → Option Addr → Nat → Nat → Int → World → Prop), ∃ (k3 : Nat), (∀ (w4 : World), Step w w4 [] [k1] → y2 k3 none 0 0
  (0 : Int) w4) ∧ ∀ (k6 : Nat) (p7 : Option Addr) (k8 k9 : Nat) (n10 : Int) (w11 : World), y2 k6 p7 k8 k9 n10 w11 → bcase (decide (n10 <
  (edgesL : Int))) (∀ (y13 : Option Addr → Nat → Nat → World → Prop), (∀ (p14 : Option Addr) (k15 k16 : Nat) (w17 : World), (∃ (k18 : Nat),
  k18 < k6 ∧ y2 k18 p14 k15 k16 (IntKind.wrap IntKind.i64 (n10 + (1 : Int))) w17) → y13 p14 k15 k16 w17) → ∃ (ad21 : Addr), edgesA = some
  ad21 ∧ ((0 : Int) ≤ n10 ∧ n10 < (edgesL : Int)) ∧ ∃ (n22 : Int), ∃ (s23 : ByteArray), ∃ (n24 : Int), (World.cell? w11 (Addr.add (Addr.add
  ad21 (Int.toNat n10 * 3)) 0) = some (Value.int IntKind.i64 n22) ∧ World.cell? w11 (Addr.add (Addr.add ad21 (Int.toNat n10 * 3)) 1) = some
  (Value.string s23) ∧ World.cell? w11 (Addr.add (Addr.add ad21 (Int.toNat n10 * 3)) 2) = some (Value.int IntKind.i64 n24) ∧ True) ∧ ∀ (k25
  k26 : Nat), ∃ (s27 : ByteArray), World.cell? w11 (Addr.add d 0) = some (Value.string s27) ∧ bcase (!decide (s23 = s27)) (∀ (w28 : World),
  Step w11 w28 [] [k26, k25] → y13 p7 k8 k9 w28) (∀ (y30 : Bool → World → Prop), (∀ (b31 : Bool) (w32 : World), bcase b31 (∀ (w33 : World),
  Step w32 w33 [k1] [] → R (Ending.returned (Value.tuple { toList := [Value.agg { toList := List.take 2 (List.drop 0 (sets [Value.slice none 0 0, Value.slice none 0 0] 0 [Value.slice none 0 0, Value.slice none 0 0])) }, Value.int IntKind.i64 (4 : Int)] }))
  w33) (∀ (y35 : Bool → World → Prop), (∀ (b36 : Bool) (w37 : World), bcase b36 (∀ (w38 : World), Step w37 w38 [k1] [] → R (Ending.returned
  (Value.tuple { toList := [Value.agg { toList := List.take 2 (List.drop 0 (sets [Value.slice none 0 0, Value.slice none 0 0] 0 [Value.slice none 0 0, Value.slice none 0 0])) }, Value.int IntKind.i64 (2 : Int)] }))
  w38) (∀ (k40 : Nat), appendP false [] [k40] [k1, k26, k40] w37 p7 k8 k9 1 (spl (reps [Value.int IntKind.i64 (0 : Int), Value.int
  IntKind.i64 (0 : Int)] 1) 0 (List.take 2 (List.drop 0 (sets [Value.int IntKind.i64 (0 : Int), Value.int IntKind.i64 (0 : Int)] 0 (spl (spl
  [Value.int IntKind.i64 (0 : Int), Value.int IntKind.i64 (0 : Int)] 0 [Value.int IntKind.i64 n22]) 1 [Value.int IntKind.i64 n24]))))) 2 16
  [Value.int IntKind.i64 (0 : Int), Value.int IntKind.i64 (0 : Int)] fun (w41 : World) (p42 : Option Addr) (k43 k44 : Nat) => y13 p42 k43
  k44 w41) → y35 b36 w37) → bcase add (∃ (p47 : Option Addr), World.cell? w32 (Addr.add d 1) = some (Value.pointer p47) ∧ ∀ (w48 : World),
  Step w32 w48 [] [] → Calls Proofs.Try.prog (55 : Nat) { toList := [Value.pointer p47, Value.agg { toList := List.take 2 (List.drop 0 (sets [Value.int IntKind.i64 (0 : Int), Value.int IntKind.i64 (0 : Int)] 0 (spl (spl [Value.int IntKind.i64 (0 : Int), Value.int IntKind.i64 (0 : Int)] 0 [Value.int IntKind.i64 n22]) 1 [Value.int IntKind.i64 n24]))) }] }
  w48 fun (e50 : Ending) (w51 : World) => ∃ (b52 : Bool), e50 = Ending.returned (Value.bool b52) ∧ Keep [k1, k26] w48 w51 ∧ bcase b52 (y35
  true w51) (Calls Proofs.Try.prog (56 : Nat) { toList := [Value.slice p7 k8 k9, Value.agg { toList := List.take 2 (List.drop 0 (sets [Value.int IntKind.i64 (0 : Int), Value.int IntKind.i64 (0 : Int)] 0 (spl (spl [Value.int IntKind.i64 (0 : Int), Value.int IntKind.i64 (0 : Int)] 0 [Value.int IntKind.i64 n22]) 1 [Value.int IntKind.i64 n24]))) }] }
  w51 fun (e53 : Ending) (w54 : World) => ∃ (b55 : Bool), e53 = Ending.returned (Value.bool b55) ∧ Keep [k1, k26] w51 w54 ∧ y35 b55 w54)) (∀
  (w56 : World), Step w32 w56 [] [] → Calls Proofs.Try.prog (56 : Nat) { toList := [Value.slice p7 k8 k9, Value.agg { toList := List.take 2 (List.drop 0 (sets [Value.int IntKind.i64 (0 : Int), Value.int IntKind.i64 (0 : Int)] 0 (spl (spl [Value.int IntKind.i64 (0 : Int), Value.int IntKind.i64 (0 : Int)] 0 [Value.int IntKind.i64 n22]) 1 [Value.int IntKind.i64 n24]))) }] }
  w56 fun (e58 : Ending) (w59 : World) => ∃ (b60 : Bool), e58 = Ending.returned (Value.bool b60) ∧ Keep [k1, k26] w56 w59 ∧ y35 b60 w59)) →
  y30 b31 w32) → bcase (!add) (∃ (p63 : Option Addr), World.cell? w11 (Addr.add d 1) = some (Value.pointer p63) ∧ ∀ (w64 : World), Step w11
  w64 [] [k26, k25] → Calls Proofs.Try.prog (55 : Nat) { toList := [Value.pointer p63, Value.agg { toList := List.take 2 (List.drop 0 (sets [Value.int IntKind.i64 (0 : Int), Value.int IntKind.i64 (0 : Int)] 0 (spl (spl [Value.int IntKind.i64 (0 : Int), Value.int IntKind.i64 (0 : Int)] 0 [Value.int IntKind.i64 n22]) 1 [Value.int IntKind.i64 n24]))) }] }
  w64 fun (e66 : Ending) (w67 : World) => ∃ (b68 : Bool), e66 = Ending.returned (Value.bool b68) ∧ Keep [k1, k25, k26] w64 w67 ∧ y30 (!b68)
  w67) (∀ (w69 : World), Step w11 w69 [] [k26, k25] → y30 false w69))) (bcase (!add) (Calls Proofs.Try.prog (58 : Nat) { toList := [Value.pointer (some d), Value.slice p7 k8 k9] }
  w11 fun (e71 : Ending) (w72 : World) => ∃ (p73 : Option Addr), ∃ (k74 : Nat), ∃ (k75 : Nat), e71 = Ending.returned (Value.slice p73 k74
  k75) ∧ Keep [k1] w11 w72 ∧ Calls Proofs.Try.prog (57 : Nat) { toList := [Value.slice p73 k74 k75] } w72 fun (e76 : Ending) (w77 : World)
  => ∃ (p78 : Option Addr), ∃ (k79 : Nat), ∃ (k80 : Nat), e76 = Ending.returned (Value.slice p78 k79 k80) ∧ Keep [k1] w72 w77 ∧ ∀ (w81 :
  World), Step w77 w81 [k1] [] → R (Ending.returned (Value.tuple { toList := [Value.agg { toList := List.take 2 (List.drop 0 (sets [Value.slice none 0 0, Value.slice none 0 0] 0 (spl [Value.slice none 0 0, Value.slice none 0 0] 1 [Value.slice p78 k79 k80]))) }, Value.int IntKind.i64 (0 : Int)] }))
  w81) (∃ (y83 : Nat → Option Addr → Nat → Nat → Int → World → Prop), ∃ (k84 : Nat), y83 k84 none 0 0 (0 : Int) w11 ∧ ∀ (k85 : Nat) (p86 :
  Option Addr) (k87 k88 : Nat) (n89 : Int) (w90 : World), y83 k85 p86 k87 k88 n89 w90 → bcase (decide (n89 < (k8 : Int))) (∃ (ad92 : Addr),
  p7 = some ad92 ∧ ((0 : Int) ≤ n89 ∧ n89 < (k8 : Int)) ∧ ∃ (n93 : Int), ∃ (n94 : Int), (World.cell? w90 (Addr.add (Addr.add ad92 (Int.toNat
  n89 * 2)) 0) = some (Value.int IntKind.i64 n93) ∧ World.cell? w90 (Addr.add (Addr.add ad92 (Int.toNat n89 * 2)) 1) = some (Value.int
  IntKind.i64 n94) ∧ True) ∧ ∀ (k95 : Nat) (w96 : World), Step w90 w96 [] [k95] → Calls Proofs.Try.prog (59 : Nat) { toList := [Value.pointer (some d), Value.agg { toList := List.take 2 (List.drop 0 (sets [Value.int IntKind.i64 (0 : Int), Value.int IntKind.i64 (0 : Int)] 0 [Value.int IntKind.i64 n93, Value.int IntKind.i64 n94])) }] }
  w96 fun (e98 : Ending) (w99 : World) => ∃ (p100 : Option Addr), ∃ (k101 : Nat), ∃ (k102 : Nat), e98 = Ending.returned (Value.slice p100
  k101 k102) ∧ Keep [k1, k95] w96 w99 ∧ ∃ (l103 : List Value), List.length l103 = k101 * 2 ∧ Row w99 p100 l103 ∧ appendP true [] [] [k1,
  k95] w99 p86 k87 k88 k101 l103 2 16 [Value.int IntKind.i64 (0 : Int), Value.int IntKind.i64 (0 : Int)] fun (w104 : World) (p105 : Option
  Addr) (k106 k107 : Nat) => ∃ (p108 : Option Addr), World.cell? w104 (Addr.add d 2) = some (Value.pointer p108) ∧ ∃ (ad109 : Addr),
  Value.pointer p108 = Value.pointer (some ad109) ∧ ∃ (n110 : Int), World.cell? w104 (Addr.add ad109 2) = some (Value.int IntKind.i64 n110)
  ∧ bcase (decide ((4000 : Int) < n110)) (((0 : Int) ≤ (0 : Int) ∧ (0 : Int) ≤ IntKind.wrap IntKind.i64 (n89 + (1 : Int)) ∧ IntKind.wrap
  IntKind.i64 (n89 + (1 : Int)) ≤ (k9 : Int)) ∧ ∃ (y111 : Nat → Int → World → Prop), ∃ (k112 : Nat), y111 k112 (0 : Int) w104 ∧ ∀ (k113 :
  Nat) (n114 : Int) (w115 : World), y111 k113 n114 w115 → bcase (decide (n114 < ((Int.toNat (IntKind.wrap IntKind.i64 (n89 + (1 : Int))) - 0
  : Nat) : Int))) (∃ (ad117 : Addr), subA p7 0 k9 2 = some ad117 ∧ ((0 : Int) ≤ n114 ∧ n114 < ((Int.toNat (IntKind.wrap IntKind.i64 (n89 +
  (1 : Int))) - 0 : Nat) : Int)) ∧ ∃ (n118 : Int), ∃ (n119 : Int), (World.cell? w115 (Addr.add (Addr.add ad117 (Int.toNat n114 * 2)) 0) =
  some (Value.int IntKind.i64 n118) ∧ World.cell? w115 (Addr.add (Addr.add ad117 (Int.toNat n114 * 2)) 1) = some (Value.int IntKind.i64
  n119) ∧ True) ∧ ∀ (k120 : Nat), ∃ (p121 : Option Addr), World.cell? w115 (Addr.add d 1) = some (Value.pointer p121) ∧ ∀ (w122 : World),
  Step w115 w122 [] [k120] → Calls Proofs.Try.prog (60 : Nat) { toList := [Value.pointer p121, Value.agg { toList := List.take 2 (List.drop 0 (sets [Value.int IntKind.i64 (0 : Int), Value.int IntKind.i64 (0 : Int)] 0 [Value.int IntKind.i64 n118, Value.int IntKind.i64 n119])) }] }
  w122 fun (e124 : Ending) (w125 : World) => ∃ (b126 : Bool), e124 = Ending.returned (Value.bool b126) ∧ Keep [k1, k120] w122 w125 ∧ ∃ (k127
  : Nat), k127 < k113 ∧ y111 k127 (IntKind.wrap IntKind.i64 (n114 + (1 : Int))) w125) (∃ (y128 : Nat → Int → World → Prop), ∃ (k129 : Nat),
  y128 k129 (0 : Int) w115 ∧ ∀ (k130 : Nat) (n131 : Int) (w132 : World), y128 k130 n131 w132 → bcase (decide (n131 < (k106 : Int))) (∃
  (ad134 : Addr), p105 = some ad134 ∧ ((0 : Int) ≤ n131 ∧ n131 < (k106 : Int)) ∧ ∃ (n135 : Int), ∃ (n136 : Int), (World.cell? w132 (Addr.add
  (Addr.add ad134 (Int.toNat n131 * 2)) 0) = some (Value.int IntKind.i64 n135) ∧ World.cell? w132 (Addr.add (Addr.add ad134 (Int.toNat n131
  * 2)) 1) = some (Value.int IntKind.i64 n136) ∧ True) ∧ ∀ (k137 : Nat), ∃ (p138 : Option Addr), World.cell? w132 (Addr.add d 2) = some
  (Value.pointer p138) ∧ ∀ (w139 : World), Step w132 w139 [] [k137] → Calls Proofs.Try.prog (60 : Nat) { toList := [Value.pointer p138, Value.agg { toList := List.take 2 (List.drop 0 (sets [Value.int IntKind.i64 (0 : Int), Value.int IntKind.i64 (0 : Int)] 0 [Value.int IntKind.i64 n135, Value.int IntKind.i64 n136])) }] }
  w139 fun (e141 : Ending) (w142 : World) => ∃ (b143 : Bool), e141 = Ending.returned (Value.bool b143) ∧ Keep [k1, k137] w139 w142 ∧ ∃ (k144
  : Nat), k144 < k130 ∧ y128 k144 (IntKind.wrap IntKind.i64 (n131 + (1 : Int))) w142) (∀ (w145 : World), Step w132 w145 [k1] [] → R
  (Ending.returned (Value.tuple { toList := [Value.agg { toList := List.take 2 (List.drop 0 (sets [Value.slice none 0 0, Value.slice none 0 0] 0 [Value.slice none 0 0, Value.slice none 0 0])) }, Value.int IntKind.i64 (5 : Int)] }))
  w145))) (∃ (k147 : Nat), k147 < k85 ∧ y83 k147 p105 k106 k107 (IntKind.wrap IntKind.i64 (n89 + (1 : Int))) w104)) (∃ (l148 : List Value),
  Blk w90 (Addr.block (Addr.add d 3)) l148 ∧ Addr.spot (Addr.add d 3) = none ∧ Addr.off (Addr.add d 3) + 1 ≤ List.length l148 ∧ ¬Addr.block
  (Addr.add d 3) ∈ [k1] ∧ ∀ (w149 : World), Upd w90 w149 (Addr.block (Addr.add d 3)) (sets l148 (Addr.off (Addr.add d 3)) [Value.int
  IntKind.i64 (0 : Int)]) → Calls Proofs.Try.prog (57 : Nat) { toList := [Value.slice p86 k87 k88] } w149 fun (e151 : Ending) (w152 : World)
  => ∃ (p153 : Option Addr), ∃ (k154 : Nat), ∃ (k155 : Nat), e151 = Ending.returned (Value.slice p153 k154 k155) ∧ Keep [k1] w149 w152 ∧ ∀
  (w156 : World), Step w152 w156 [k1] [] → R (Ending.returned (Value.tuple { toList := [Value.agg { toList := List.take 2 (List.drop 0 (sets [Value.slice none 0 0, Value.slice none 0 0] 0 (spl [Value.slice none 0 0, Value.slice none 0 0] 0 [Value.slice p153 k154 k155]))) }, Value.int IntKind.i64 (0 : Int)] }))
  w156)))

theorem dred_Dred_Do.link {d : Addr} {edgesA : Option Addr} {edgesL edgesC : Nat} {add : Bool} {R : Ending → World → Prop} {w : World} (h : dred_Dred_Do.vc d edgesA edgesL edgesC add R w) : Calls Go.Proofs.Try.prog 30 #[.pointer (some d), .slice edgesA edgesL edgesC, .bool add] w R :=
  calls_of pf (fn := Go.Proofs.Try.f30) (ann := .s (.n) (.s (.n) (.s (.s (.n) (.b (.l ⟨[], [], [0], [(8, .l (.sl)), (21, .l (.i .i64))], []⟩ (.s (.n) (.s (.c (.n) (.n)) (.j ⟨[], [], [0], [(8, .l (.sl))], []⟩ (.b (.s (.n) (.s (.n) (.s (.b (.s (.d [0, 1, 2]) (.c (.n) (.j ⟨[], [], [0, 2], [(38, .l (.b))], []⟩ (.d [0, 1, 2]) (.c (.s (.n) (.n)) (.j ⟨[], [], [0, 2], [(51, .l (.b))], []⟩ (.d [0, 2]) (.c (.s (.n) (.n)) (.n)))))))) (.n))))) (.n))))))) (.s (.s (.n) (.c (.s (.n) (.n)) (.n))) (.s (.n) (.s (.s (.n) (.b (.l ⟨[], [], [0], [(12, .l (.sl)), (81, .l (.i .i64))], []⟩ (.s (.n) (.s (.c (.n) (.n)) (.s (.b (.s (.n) (.s (.n) (.s (.n) (.c (.s (.s (.n) (.b (.l ⟨[], [], [0], [(104, .l (.i .i64))], []⟩ (.s (.n) (.s (.c (.n) (.n)) (.s (.b (.s (.n) (.d [0, 2]))) (.n))))))) (.s (.s (.n) (.b (.l ⟨[], [], [0], [(117, .l (.i .i64))], []⟩ (.s (.n) (.s (.c (.n) (.n)) (.s (.b (.s (.n) (.d [0, 2]))) (.n))))))) (.s (.n) (.n)))) (.n)))))) (.n))))))) (.s (.n) (.s (.n) (.n))))))))) (mp := false) (args := [.a d, .v (.slice edgesA edgesL edgesC), .v (.bool add)]) Go.Proofs.Try.func30 (c := Go.Proofs.Try.f30.body.getD .skip) (by kernel_rfl) (by kernel_rfl) (Eq.mp (by kernel_rfl) h)
theorem dred_Dred_Do.body : BodyOk Go.Proofs.Try.prog 30 := ⟨Go.Proofs.Try.f30, Go.Proofs.Try.func30, by kernel_rfl, pf.ng _ _ Go.Proofs.Try.func30⟩

/-! ### rhizome/dred.tuples: function 57 -/
def dred_tuples.vc (lA : Option Addr) (lL lC : Nat) (R : Ending → World → Prop) (w : World) : Prop := ∃ (y1 : Nat → Option Addr → Nat → Nat
  → Int → World → Prop), ∃ (k2 : Nat), y1 k2 none 0 0 (0 : Int) w ∧ ∀ (k3 : Nat) (p4 : Option Addr) (k5 k6 : Nat) (n7 : Int) (w8 : World),
  y1 k3 p4 k5 k6 n7 w8 → bcase (decide (n7 < (lL : Int))) (∃ (ad10 : Addr), lA = some ad10 ∧ ((0 : Int) ≤ n7 ∧ n7 < (lL : Int)) ∧ ∃ (n11 :
  Int), ∃ (n12 : Int), (World.cell? w8 (Addr.add (Addr.add ad10 (Int.toNat n7 * 2)) 0) = some (Value.int IntKind.i64 n11) ∧ World.cell? w8
  (Addr.add (Addr.add ad10 (Int.toNat n7 * 2)) 1) = some (Value.int IntKind.i64 n12) ∧ True) ∧ ∀ (k13 : Nat), ((0 : Int) ≤ (0 : Int) ∧ (0 :
  Int) < ((2 : Nat) : Int)) ∧ ((0 : Int) ≤ (1 : Int) ∧ (1 : Int) < ((2 : Nat) : Int)) ∧ ∀ (k14 : Nat) (w15 : World), Step w8 w15 [] [k14,
  k13] → Blk w15 k14 (spl (spl (reps [Value.int IntKind.i64 (0 : Int)] 2) 0 [Value.int IntKind.i64 n11]) 1 [Value.int IntKind.i64 n12]) → ∀
  (k18 : Nat), appendP false [] [k18] [k13, k18] w15 p4 k5 k6 1 (spl (reps [Value.slice none 0 0] 1) 0 [Value.slice (some
  { block := k14, off := 0 }) 2 2]) 1 24 [Value.slice none 0 0] fun (w19 : World) (p20 : Option Addr) (k21 k22 : Nat) => ∃ (k23 : Nat), k23
  < k3 ∧ y1 k23 p20 k21 k22 (IntKind.wrap IntKind.i64 (n7 + (1 : Int))) w19) (Calls Proofs.Try.prog (41 : Nat) { toList := [Value.slice p4 k5 k6] }
  w8 fun (e24 : Ending) (w25 : World) => ∃ (p26 : Option Addr), ∃ (k27 : Nat), ∃ (k28 : Nat), e24 = Ending.returned (Value.slice p26 k27
  k28) ∧ R (Ending.returned (Value.slice p26 k27 k28)) w25)

theorem dred_tuples.link {lA : Option Addr} {lL lC : Nat} {R : Ending → World → Prop} {w : World} (h : dred_tuples.vc lA lL lC R w) : Calls Go.Proofs.Try.prog 57 #[.slice lA lL lC] w R :=
  calls_of pf (fn := Go.Proofs.Try.f57) (ann := .s (.n) (.s (.n) (.s (.s (.n) (.b (.l ⟨[], [], [], [(3, .l (.sl)), (8, .l (.i .i64))], []⟩ (.s (.n) (.s (.c (.n) (.n)) (.s (.b (.s (.n) (.n))) (.n))))))) (.s (.n) (.n))))) (mp := false) (args := [.v (.slice lA lL lC)]) Go.Proofs.Try.func57 (c := Go.Proofs.Try.f57.body.getD .skip) (by kernel_rfl) (by kernel_rfl) (Eq.mp (by kernel_rfl) h)
theorem dred_tuples.body : BodyOk Go.Proofs.Try.prog 57 := ⟨Go.Proofs.Try.f57, Go.Proofs.Try.func57, by kernel_rfl, pf.ng _ _ Go.Proofs.Try.func57⟩

end Go.Proofs.Ytnplopiconabiaa.VC
