/- What is to be shown of functions' texts, printed by a program of this session's repo; that it gives the functions' contracts is checked by the kernel. -/
import Derived.Test.YtnplopiconabiaaProg
import Derived.Test.YtnplopiconabiaaPf
namespace Go.Proofs.Ytnplopiconabiaa.VC
open Go Go.V
set_option maxRecDepth 1000000
set_option linter.unusedVariables false

/-! ### rhizome/rhizomeref11.Sorted: function 45 -/
def rhizomeref11_Sorted.vc (lA : Option Addr) (lL lC : Nat) (R : Ending → World → Prop) (w : World) : Prop := bcase (decide ((lL : Int) < (2
  : Int))) (R (Ending.returned (Value.slice lA lL lC)) w) ((2 : Int) ≠ (0 : Int) ∧ ((0 : Int) ≤ (0 : Int) ∧ (0 : Int) ≤ IntKind.wrap
  IntKind.i64 (Int.tdiv (lL : Int) (2 : Int)) ∧ IntKind.wrap IntKind.i64 (Int.tdiv (lL : Int) (2 : Int)) ≤ (lC : Int)) ∧ (2 : Int) ≠ (0 :
  Int) ∧ ((0 : Int) ≤ IntKind.wrap IntKind.i64 (Int.tdiv (lL : Int) (2 : Int)) ∧ IntKind.wrap IntKind.i64 (Int.tdiv (lL : Int) (2 : Int)) ≤
  (lL : Int) ∧ (lL : Int) ≤ (lC : Int)) ∧ ∀ (w1 : World), Step w w1 [] [] → Calls Proofs.Try.prog (45 : Nat) { toList := [Value.slice (subA lA 0 lC 1) (Int.toNat (IntKind.wrap IntKind.i64 (Int.tdiv (lL : Int) (2 : Int))) - 0) (lC - 0)] }
  w1 fun (e3 : Ending) (w4 : World) => ∃ (p5 : Option Addr), ∃ (k6 : Nat), ∃ (k7 : Nat), e3 = Ending.returned (Value.slice p5 k6 k7) ∧ Calls
  Proofs.Try.prog (45 : Nat) { toList := [Value.slice (subA lA (Int.toNat (IntKind.wrap IntKind.i64 (Int.tdiv (lL : Int) (2 : Int)))) lC 1) (Int.toNat (lL : Int) - Int.toNat (IntKind.wrap IntKind.i64 (Int.tdiv (lL : Int) (2 : Int)))) (lC - Int.toNat (IntKind.wrap IntKind.i64 (Int.tdiv (lL : Int) (2 : Int))))] }
  w4 fun (e8 : Ending) (w9 : World) => ∃ (p10 : Option Addr), ∃ (k11 : Nat), ∃ (k12 : Nat), e8 = Ending.returned (Value.slice p10 k11 k12) ∧
  ∃ (y13 : Nat → Option Addr → Nat → Nat → Int → Int → World → Prop), ∃ (k14 : Nat), y13 k14 none 0 0 (0 : Int) (0 : Int) w9 ∧ ∀ (k15 : Nat)
  (p16 : Option Addr) (k17 k18 : Nat) (n19 n20 : Int) (w21 : World), y13 k15 p16 k17 k18 n19 n20 w21 → ∀ (y23 : Bool → World → Prop), (∀
  (b24 : Bool) (w25 : World), bcase b24 (∀ (y26 : Int → World → Prop), (∀ (n27 : Int) (w28 : World), (∀ (y29 : Bool → World → Prop), (∀ (b30
  : Bool) (w31 : World), bcase b30 (∃ (ad32 : Addr), p5 = some ad32 ∧ ((0 : Int) ≤ n19 ∧ n19 < (k6 : Int)) ∧ ∃ (p33 : Option Addr), ∃ (k34 :
  Nat), ∃ (k35 : Nat), World.cell? w31 (Addr.add ad32 (Int.toNat n19 * 1)) = some (Value.slice p33 k34 k35) ∧ ∀ (k36 : Nat), appendP false
  [] [k36] [k36] w31 p16 k17 k18 1 (spl (reps [Value.slice none 0 0] 1) 0 [Value.slice p33 k34 k35]) 1 24 [Value.slice none 0 0] fun (w37 :
  World) (p38 : Option Addr) (k39 k40 : Nat) => ∃ (k41 : Nat), k41 < k15 ∧ y13 k41 p38 k39 k40 (IntKind.wrap IntKind.i64 (n19 + (1 : Int)))
  n20 w37) (∀ (y42 : Bool → World → Prop), (∀ (b43 : Bool) (w44 : World), bcase b43 (∃ (ad45 : Addr), p10 = some ad45 ∧ ((0 : Int) ≤ n20 ∧
  n20 < (k11 : Int)) ∧ ∃ (p46 : Option Addr), ∃ (k47 : Nat), ∃ (k48 : Nat), World.cell? w44 (Addr.add ad45 (Int.toNat n20 * 1)) = some
  (Value.slice p46 k47 k48) ∧ ∀ (k49 : Nat), appendP false [] [k49] [k49] w44 p16 k17 k18 1 (spl (reps [Value.slice none 0 0] 1) 0
  [Value.slice p46 k47 k48]) 1 24 [Value.slice none 0 0] fun (w50 : World) (p51 : Option Addr) (k52 k53 : Nat) => ∃ (k54 : Nat), k54 < k15 ∧
  y13 k54 p51 k52 k53 n19 (IntKind.wrap IntKind.i64 (n20 + (1 : Int))) w50) (∃ (k55 : Nat), k55 < k15 ∧ y13 k55 p16 k17 k18 (IntKind.wrap
  IntKind.i64 (n19 + (1 : Int))) n20 w44) → y42 b43 w44) → bcase (decide ((k6 : Int) ≤ n19)) (y42 true w31) (y42 (decide ((0 : Int) < n27))
  w31)) → y29 b30 w31) → bcase (decide ((k11 : Int) ≤ n20)) (y29 true w28) (bcase (decide (n19 < (k6 : Int))) (y29 (decide (n27 < (0 :
  Int))) w28) (y29 false w28))) → y26 n27 w28) → ∀ (y62 : Bool → World → Prop), (∀ (b63 : Bool) (w64 : World), bcase b63 (∃ (ad65 : Addr),
  p5 = some ad65 ∧ ((0 : Int) ≤ n19 ∧ n19 < (k6 : Int)) ∧ ∃ (p66 : Option Addr), ∃ (k67 : Nat), ∃ (k68 : Nat), World.cell? w64 (Addr.add
  ad65 (Int.toNat n19 * 1)) = some (Value.slice p66 k67 k68) ∧ ∃ (ad69 : Addr), p10 = some ad69 ∧ ((0 : Int) ≤ n20 ∧ n20 < (k11 : Int)) ∧ ∃
  (p70 : Option Addr), ∃ (k71 : Nat), ∃ (k72 : Nat), World.cell? w64 (Addr.add ad69 (Int.toNat n20 * 1)) = some (Value.slice p70 k71 k72) ∧
  ∀ (w73 : World), Step w64 w73 [] [] → Calls Proofs.Try.prog (46 : Nat) { toList := [Value.slice p66 k67 k68, Value.slice p70 k71 k72] }
  w73 fun (e75 : Ending) (w76 : World) => ∃ (n77 : Int), e75 = Ending.returned (Value.int IntKind.i64 n77) ∧ y26 n77 w76) (y26 (0 : Int)
  w64) → y62 b63 w64) → bcase (decide (n19 < (k6 : Int))) (y62 (decide (n20 < (k11 : Int))) w25) (y62 false w25)) (R (Ending.returned
  (Value.slice p16 k17 k18)) w25) → y23 b24 w25) → bcase (decide (n19 < (k6 : Int))) (y23 true w21) (y23 (decide (n20 < (k11 : Int))) w21))

theorem rhizomeref11_Sorted.link {lA : Option Addr} {lL lC : Nat} {R : Ending → World → Prop} {w : World} (h : rhizomeref11_Sorted.vc lA lL lC R w) : Calls Go.Proofs.Try.prog 45 #[.slice lA lL lC] w R :=
  calls_of pf (fn := Go.Proofs.Try.f45) (ann := .s (.n) (.s (.s (.n) (.c (.s (.n) (.n)) (.n))) (.s (.n) (.s (.n) (.s (.n) (.s (.b (.l ⟨[], [], [], [(5, .l (.sl)), (6, .l (.i .i64)), (7, .l (.i .i64))], []⟩ (.s (.j ⟨[], [], [], [(34, .l (.b))], []⟩ (.n) (.c (.n) (.n))) (.b (.s (.n) (.j ⟨[], [], [], [(8, .l (.i .i64))], []⟩ (.j ⟨[], [], [], [(44, .l (.b))], []⟩ (.n) (.c (.n) (.n))) (.b (.j ⟨[], [], [], [(56, .l (.b))], []⟩ (.n) (.c (.s (.n) (.n)) (.j ⟨[], [], [], [(80, .l (.b))], []⟩ (.n) (.c (.s (.n) (.n)) (.n)))))))))))) (.s (.n) (.n)))))))) (mp := false) (args := [.v (.slice lA lL lC)]) Go.Proofs.Try.func45 (c := Go.Proofs.Try.f45.body.getD .skip) (by kernel_rfl) (by kernel_rfl) (Eq.mp (by kernel_rfl) h)
theorem rhizomeref11_Sorted.body : BodyOk Go.Proofs.Try.prog 45 := ⟨Go.Proofs.Try.f45, Go.Proofs.Try.func45, by kernel_rfl, pf.ng _ _ Go.Proofs.Try.func45⟩

/-! ### rhizome/rhizomeref13.Way: function 20 -/
def rhizomeref13_Way.vc (label : ByteArray) (edgesA : Option Addr) (edgesL edgesC : Nat) (a : Int) (b : Int) (R : Ending → World → Prop) (w
  : World) : Prop := Calls Proofs.Try.prog (42 : Nat) { toList := [Value.string label] } w fun (e1 : Ending) (w2 : World) => ∃ (b3 : Bool),
  e1 = Ending.returned (Value.bool b3) ∧ bcase (!b3) (R (Ending.returned (Value.tuple { toList := [Value.slice none 0 0, Value.int IntKind.i64 (1 : Int)] }))
  w2) (Calls Proofs.Try.prog (44 : Nat) { toList := [Value.string label, Value.slice edgesA edgesL edgesC] } w2 fun (e4 : Ending) (w5 :
  World) => ∃ (p6 : Option Addr), ∃ (k7 : Nat), ∃ (k8 : Nat), e4 = Ending.returned (Value.slice p6 k7 k8) ∧ ∀ (k9 : Nat) (w10 : World), Step
  w5 w10 [] [k9] → Blk w10 k9 (spl (reps [Value.int IntKind.i64 (0 : Int)] 1) 0 [Value.int IntKind.i64 a]) → ∀ (k13 : Nat) (w14 : World),
  Step w10 w14 [] [k13] → Blk w14 k13 (spl (reps [Value.slice none 0 0] 1) 0 [Value.slice (some { block := k9, off := 0 }) 1 1]) → ∃ (y17 :
  Nat → Option Addr → Nat → Nat → Option Addr → Nat → Nat → World → Prop), ∃ (k18 : Nat), y17 k18 (some { block := k13, off := 0 }) 1 1 none
  0 0 w14 ∧ ∀ (k19 : Nat) (p20 : Option Addr) (k21 k22 : Nat) (p23 : Option Addr) (k24 k25 : Nat) (w26 : World), y17 k19 p20 k21 k22 p23 k24
  k25 w26 → bcase (decide ((0 : Int) < (k21 : Int))) (∃ (y28 : Nat → Option Addr → Nat → Nat → Int → World → Prop), ∃ (k29 : Nat), y28 k29
  none 0 0 (0 : Int) w26 ∧ ∀ (k30 : Nat) (p31 : Option Addr) (k32 k33 : Nat) (n34 : Int) (w35 : World), y28 k30 p31 k32 k33 n34 w35 → bcase
  (decide (n34 < (k21 : Int))) (∃ (ad37 : Addr), p20 = some ad37 ∧ ((0 : Int) ≤ n34 ∧ n34 < (k21 : Int)) ∧ ∃ (p38 : Option Addr), ∃ (k39 :
  Nat), ∃ (k40 : Nat), World.cell? w35 (Addr.add ad37 (Int.toNat n34 * 1)) = some (Value.slice p38 k39 k40) ∧ ∃ (ad41 : Addr), p20 = some
  ad41 ∧ ((0 : Int) ≤ n34 ∧ n34 < (k21 : Int)) ∧ ∃ (p42 : Option Addr), ∃ (k43 : Nat), ∃ (k44 : Nat), World.cell? w35 (Addr.add ad41
  (Int.toNat n34 * 1)) = some (Value.slice p42 k43 k44) ∧ ∃ (ad45 : Addr), p38 = some ad45 ∧ ((0 : Int) ≤ IntKind.wrap IntKind.i64 ((k43 :
  Int) - (1 : Int)) ∧ IntKind.wrap IntKind.i64 ((k43 : Int) - (1 : Int)) < (k39 : Int)) ∧ ∃ (n46 : Int), World.cell? w35 (Addr.add ad45
  (Int.toNat (IntKind.wrap IntKind.i64 ((k43 : Int) - (1 : Int))) * 1)) = some (Value.int IntKind.i64 n46) ∧ ∃ (y47 : Nat → Option Addr →
  Nat → Nat → Int → World → Prop), ∃ (k48 : Nat), (∀ (w49 : World), Step w35 w49 [] [] → y47 k48 p31 k32 k33 (0 : Int) w49) ∧ ∀ (k51 : Nat)
  (p52 : Option Addr) (k53 k54 : Nat) (n55 : Int) (w56 : World), y47 k51 p52 k53 k54 n55 w56 → bcase (decide (n55 < (k7 : Int))) (∀ (y58 :
  Option Addr → Nat → Nat → World → Prop), (∀ (p59 : Option Addr) (k60 k61 : Nat) (w62 : World), (∃ (k63 : Nat), k63 < k51 ∧ y47 k63 p59 k60
  k61 (IntKind.wrap IntKind.i64 (n55 + (1 : Int))) w62) → y58 p59 k60 k61 w62) → ∀ (y66 : Bool → World → Prop), (∀ (b67 : Bool) (w68 :
  World), bcase b67 (y58 p52 k53 k54 w68) (∀ (y69 : Option Addr → Nat → Nat → World → Prop), (∀ (p70 : Option Addr) (k71 k72 : Nat) (w73 :
  World), (∃ (y74 : Nat → Int → Int → World → Prop), ∃ (k75 : Nat), y74 k75 (-1 : Int) (0 : Int) w73 ∧ ∀ (k76 : Nat) (n77 n78 : Int) (w79 :
  World), y74 k76 n77 n78 w79 → bcase (decide (n78 < (k53 : Int))) (∀ (y81 : Int → World → Prop), (∀ (n82 : Int) (w83 : World), (∃ (k84 :
  Nat), k84 < k76 ∧ y74 k84 n82 (IntKind.wrap IntKind.i64 (n78 + (1 : Int))) w83) → y81 n82 w83) → ∃ (ad87 : Addr), p52 = some ad87 ∧ ((0 :
  Int) ≤ n78 ∧ n78 < (k53 : Int)) ∧ ∃ (p88 : Option Addr), ∃ (k89 : Nat), ∃ (k90 : Nat), World.cell? w79 (Addr.add ad87 (Int.toNat n78 * 1))
  = some (Value.slice p88 k89 k90) ∧ ∃ (ad91 : Addr), p88 = some ad91 ∧ ((0 : Int) ≤ IntKind.wrap IntKind.i64 ((k71 : Int) - (1 : Int)) ∧
  IntKind.wrap IntKind.i64 ((k71 : Int) - (1 : Int)) < (k89 : Int)) ∧ ∃ (n92 : Int), World.cell? w79 (Addr.add ad91 (Int.toNat (IntKind.wrap
  IntKind.i64 ((k71 : Int) - (1 : Int))) * 1)) = some (Value.int IntKind.i64 n92) ∧ ∃ (ad93 : Addr), p6 = some ad93 ∧ ((0 : Int) ≤ n55 ∧ n55
  < (k7 : Int)) ∧ ∃ (n94 : Int), World.cell? w79 (Addr.add (Addr.add ad93 (Int.toNat n55 * 2)) 1) = some (Value.int IntKind.i64 n94) ∧ bcase
  (decide (n92 = n94)) (∀ (w95 : World), Step w79 w95 [] [] → y81 n78 w95) (∀ (w97 : World), Step w79 w97 [] [] → y81 n77 w97)) (bcase
  (decide (n77 < (0 : Int))) (∀ (k99 : Nat), appendP false [] [k99] [k99] w79 p52 k53 k54 1 (spl (reps [Value.slice none 0 0] 1) 0
  [Value.slice p70 k71 k72]) 1 24 [Value.slice none 0 0] fun (w100 : World) (p101 : Option Addr) (k102 k103 : Nat) => y58 p101 k102 k103
  w100) (∃ (ad104 : Addr), p52 = some ad104 ∧ ((0 : Int) ≤ n77 ∧ n77 < (k53 : Int)) ∧ ∃ (p105 : Option Addr), ∃ (k106 : Nat), ∃ (k107 :
  Nat), World.cell? w79 (Addr.add ad104 (Int.toNat n77 * 1)) = some (Value.slice p105 k106 k107) ∧ Calls Proofs.Try.prog (49 : Nat) { toList := [Value.slice p70 k71 k72, Value.slice p105 k106 k107] }
  w79 fun (e108 : Ending) (w109 : World) => ∃ (b110 : Bool), e108 = Ending.returned (Value.bool b110) ∧ bcase b110 (∃ (ad111 : Addr), p52 =
  some ad111 ∧ ((0 : Int) ≤ n77 ∧ n77 < (k53 : Int)) ∧ ∃ (l112 : List Value), Blk w109 (Addr.block (Addr.add ad111 (Int.toNat n77 * 1)))
  l112 ∧ Addr.spot (Addr.add ad111 (Int.toNat n77 * 1)) = none ∧ Addr.off (Addr.add ad111 (Int.toNat n77 * 1)) + List.length [Value.slice
  p70 k71 k72] ≤ List.length l112 ∧ ∀ (w113 : World), Upd w109 w113 (Addr.block (Addr.add ad111 (Int.toNat n77 * 1))) (sets l112 (Addr.off
  (Addr.add ad111 (Int.toNat n77 * nat_lit 1))) [Value.slice p70 k71 k72]) → y58 p52 k53 k54 w113) (y58 p52 k53 k54 w109)))) → y69 p70 k71
  k72 w73) → ∃ (ad117 : Addr), p20 = some ad117 ∧ ((0 : Int) ≤ n34 ∧ n34 < (k21 : Int)) ∧ ∃ (p118 : Option Addr), ∃ (k119 : Nat), ∃ (k120 :
  Nat), World.cell? w68 (Addr.add ad117 (Int.toNat n34 * 1)) = some (Value.slice p118 k119 k120) ∧ ∃ (ad121 : Addr), p6 = some ad121 ∧ ((0 :
  Int) ≤ n55 ∧ n55 < (k7 : Int)) ∧ (∀ (k122 : Nat), (∀ (w123 : World), Step w68 w123 [] [k122] → Blk w123 k122 (reps [Value.int IntKind.i64
  (0 : Int)] 0) → ∃ (l126 : List Value), List.length l126 = k119 * 1 ∧ Row w123 p118 l126 ∧ appendP true [] [] [] w123 (some
  { block := k122, off := 0 }) 0 0 k119 l126 1 8 [Value.int IntKind.i64 (0 : Int)] fun (w127 : World) (p128 : Option Addr) (k129 k130 : Nat)
  => ∃ (n131 : Int), World.cell? w127 (Addr.add (Addr.add ad121 (Int.toNat n55 * 2)) 1) = some (Value.int IntKind.i64 n131) ∧ ∀ (k132 :
  Nat), appendP false [] [k132] [k132] w127 p128 k129 k130 1 (spl (reps [Value.int IntKind.i64 (0 : Int)] 1) 0 [Value.int IntKind.i64 n131])
  1 8 [Value.int IntKind.i64 (0 : Int)] fun (w133 : World) (p134 : Option Addr) (k135 k136 : Nat) => y69 p134 k135 k136 w133) ∧ ∃ (n137 :
  Int), World.cell? w68 (Addr.add (Addr.add ad121 (Int.toNat n55 * 2)) 1) = some (Value.int IntKind.i64 n137) ∧ (∀ (w138 : World), Step w68
  w138 [] [k122] → Blk w138 k122 (reps [Value.int IntKind.i64 (0 : Int)] 0) → ∃ (l141 : List Value), List.length l141 = k119 * 1 ∧ Row w138
  p118 l141 ∧ appendP true [] [] [] w138 (some { block := k122, off := 0 }) 0 0 k119 l141 1 8 [Value.int IntKind.i64 (0 : Int)] fun (w142 :
  World) (p143 : Option Addr) (k144 k145 : Nat) => ∀ (k146 : Nat), appendP false [] [k146] [k146] w142 p143 k144 k145 1 (spl (reps
  [Value.int IntKind.i64 (0 : Int)] 1) 0 [Value.int IntKind.i64 n137]) 1 8 [Value.int IntKind.i64 (0 : Int)] fun (w147 : World) (p148 :
  Option Addr) (k149 k150 : Nat) => y69 p148 k149 k150 w147) ∧ ∀ (k151 : Nat) (w152 : World), Step w68 w152 [] [k151, k122] → Blk w152 k122
  (reps [Value.int IntKind.i64 (0 : Int)] 0) → ∃ (l155 : List Value), List.length l155 = k119 * 1 ∧ Row w152 p118 l155 ∧ appendP true [] []
  [k151] w152 (some { block := k122, off := 0 }) 0 0 k119 l155 1 8 [Value.int IntKind.i64 (0 : Int)] fun (w156 : World) (p157 : Option Addr)
  (k158 k159 : Nat) => appendP true [] [] [k151] w156 p157 k158 k159 1 (spl (reps [Value.int IntKind.i64 (0 : Int)] 1) 0 [Value.int
  IntKind.i64 n137]) 1 8 [Value.int IntKind.i64 (0 : Int)] fun (w160 : World) (p161 : Option Addr) (k162 k163 : Nat) => y69 p161 k162 k163
  w160) ∧ ∃ (n164 : Int), World.cell? w68 (Addr.add (Addr.add ad121 (Int.toNat n55 * 2)) 1) = some (Value.int IntKind.i64 n164) ∧ (∀ (k165 :
  Nat), (∀ (w166 : World), Step w68 w166 [] [k165] → Blk w166 k165 (reps [Value.int IntKind.i64 (0 : Int)] 0) → ∃ (l169 : List Value),
  List.length l169 = k119 * 1 ∧ Row w166 p118 l169 ∧ appendP true [] [] [] w166 (some { block := k165, off := 0 }) 0 0 k119 l169 1 8
  [Value.int IntKind.i64 (0 : Int)] fun (w170 : World) (p171 : Option Addr) (k172 k173 : Nat) => ∀ (k174 : Nat), appendP false [] [k174]
  [k174] w170 p171 k172 k173 1 (spl (reps [Value.int IntKind.i64 (0 : Int)] 1) 0 [Value.int IntKind.i64 n164]) 1 8 [Value.int IntKind.i64 (0
  : Int)] fun (w175 : World) (p176 : Option Addr) (k177 k178 : Nat) => y69 p176 k177 k178 w175) ∧ ∀ (k179 : Nat) (w180 : World), Step w68
  w180 [] [k179, k165] → Blk w180 k165 (reps [Value.int IntKind.i64 (0 : Int)] 0) → ∃ (l183 : List Value), List.length l183 = k119 * 1 ∧ Row
  w180 p118 l183 ∧ appendP true [] [] [k179] w180 (some { block := k165, off := 0 }) 0 0 k119 l183 1 8 [Value.int IntKind.i64 (0 : Int)] fun
  (w184 : World) (p185 : Option Addr) (k186 k187 : Nat) => appendP true [] [] [k179] w184 p185 k186 k187 1 (spl (reps [Value.int IntKind.i64
  (0 : Int)] 1) 0 [Value.int IntKind.i64 n164]) 1 8 [Value.int IntKind.i64 (0 : Int)] fun (w188 : World) (p189 : Option Addr) (k190 k191 :
  Nat) => y69 p189 k190 k191 w188) ∧ ∀ (k192 k193 : Nat) (w194 : World), Step w68 w194 [] [k193, k192] → Blk w194 k193 (reps [Value.int
  IntKind.i64 (0 : Int)] 0) → ∃ (l197 : List Value), List.length l197 = k119 * 1 ∧ Row w194 p118 l197 ∧ appendP true [] [] [k192] w194 (some
  { block := k193, off := 0 }) 0 0 k119 l197 1 8 [Value.int IntKind.i64 (0 : Int)] fun (w198 : World) (p199 : Option Addr) (k200 k201 : Nat)
  => appendP true [] [] [k192] w198 p199 k200 k201 1 (spl (reps [Value.int IntKind.i64 (0 : Int)] 1) 0 [Value.int IntKind.i64 n164]) 1 8
  [Value.int IntKind.i64 (0 : Int)] fun (w202 : World) (p203 : Option Addr) (k204 k205 : Nat) => y69 p203 k204 k205 w202) → y66 b67 w68) → ∃
  (ad208 : Addr), p6 = some ad208 ∧ ((0 : Int) ≤ n55 ∧ n55 < (k7 : Int)) ∧ ∃ (n209 : Int), World.cell? w56 (Addr.add (Addr.add ad208
  (Int.toNat n55 * 2)) 0) = some (Value.int IntKind.i64 n209) ∧ bcase (!decide (n209 = n46)) (y66 true w56) (∃ (ad210 : Addr), p6 = some
  ad210 ∧ ((0 : Int) ≤ n55 ∧ n55 < (k7 : Int)) ∧ ∃ (n211 : Int), World.cell? w56 (Addr.add (Addr.add ad210 (Int.toNat n55 * 2)) 1) = some
  (Value.int IntKind.i64 n211) ∧ Calls Proofs.Try.prog (48 : Nat) { toList := [Value.slice p23 k24 k25, Value.int IntKind.i64 n211] } w56
  fun (e212 : Ending) (w213 : World) => ∃ (b214 : Bool), e212 = Ending.returned (Value.bool b214) ∧ y66 b214 w213)) (∃ (k215 : Nat), k215 <
  k30 ∧ y28 k215 p52 k53 k54 (IntKind.wrap IntKind.i64 (n34 + (1 : Int))) w56)) (∃ (y216 : Nat → Option Addr → Nat → Nat → Int → World →
  Prop), ∃ (k217 : Nat), y216 k217 p23 k24 k25 (0 : Int) w35 ∧ ∀ (k218 : Nat) (p219 : Option Addr) (k220 k221 : Nat) (n222 : Int) (w223 :
  World), y216 k218 p219 k220 k221 n222 w223 → bcase (decide (n222 < (k32 : Int))) (∃ (ad225 : Addr), p31 = some ad225 ∧ ((0 : Int) ≤ n222 ∧
  n222 < (k32 : Int)) ∧ ∃ (p226 : Option Addr), ∃ (k227 : Nat), ∃ (k228 : Nat), World.cell? w223 (Addr.add ad225 (Int.toNat n222 * 1)) =
  some (Value.slice p226 k227 k228) ∧ ∃ (ad229 : Addr), p31 = some ad229 ∧ ((0 : Int) ≤ n222 ∧ n222 < (k32 : Int)) ∧ ∃ (p230 : Option Addr),
  ∃ (k231 : Nat), ∃ (k232 : Nat), World.cell? w223 (Addr.add ad229 (Int.toNat n222 * 1)) = some (Value.slice p230 k231 k232) ∧ ∃ (ad233 :
  Addr), p226 = some ad233 ∧ ((0 : Int) ≤ IntKind.wrap IntKind.i64 ((k231 : Int) - (1 : Int)) ∧ IntKind.wrap IntKind.i64 ((k231 : Int) - (1
  : Int)) < (k227 : Int)) ∧ ∃ (n234 : Int), World.cell? w223 (Addr.add ad233 (Int.toNat (IntKind.wrap IntKind.i64 ((k231 : Int) - (1 :
  Int))) * 1)) = some (Value.int IntKind.i64 n234) ∧ bcase (decide (n234 = b)) (∃ (ad235 : Addr), p31 = some ad235 ∧ ((0 : Int) ≤ n222 ∧
  n222 < (k32 : Int)) ∧ ∃ (p236 : Option Addr), ∃ (k237 : Nat), ∃ (k238 : Nat), World.cell? w223 (Addr.add ad235 (Int.toNat n222 * 1)) =
  some (Value.slice p236 k237 k238) ∧ ∀ (w239 : World), Step w223 w239 [] [] → R (Ending.returned (Value.tuple { toList := [Value.slice p236 k237 k238, Value.int IntKind.i64 (0 : Int)] }))
  w239) (∀ (k241 : Nat), appendP false [] [k241] [k241] w223 p219 k220 k221 1 (spl (reps [Value.int IntKind.i64 (0 : Int)] 1) 0 [Value.int
  IntKind.i64 n234]) 1 8 [Value.int IntKind.i64 (0 : Int)] fun (w242 : World) (p243 : Option Addr) (k244 k245 : Nat) => ∃ (k246 : Nat), k246
  < k218 ∧ y216 k246 p243 k244 k245 (IntKind.wrap IntKind.i64 (n222 + (1 : Int))) w242)) (∃ (k247 : Nat), k247 < k19 ∧ y17 k247 p31 k32 k33
  p219 k220 k221 w223))) (R (Ending.returned (Value.tuple { toList := [Value.slice none 0 0, Value.int IntKind.i64 (4 : Int)] })) w26))

theorem rhizomeref13_Way.link {label : ByteArray} {edgesA : Option Addr} {edgesL edgesC : Nat} {a : Int} {b : Int} {R : Ending → World → Prop} {w : World} (h : rhizomeref13_Way.vc label edgesA edgesL edgesC a b R w) : Calls Go.Proofs.Try.prog 20 #[.string label, .slice edgesA edgesL edgesC, .int .i64 a, .int .i64 b] w R :=
  calls_of pf (fn := Go.Proofs.Try.f20) (ann := .s (.n) (.s (.s (.n) (.c (.s (.n) (.n)) (.n))) (.s (.n) (.s (.n) (.s (.n) (.s (.b (.l ⟨[], [1], [], [(11, .l (.sl)), (12, .l (.sl))], []⟩ (.s (.s (.n) (.c (.n) (.n))) (.b (.s (.n) (.s (.s (.n) (.b (.l ⟨[], [], [], [(13, .l (.sl)), (36, .l (.i .i64))], []⟩ (.s (.n) (.s (.c (.n) (.n)) (.s (.b (.s (.n) (.s (.n) (.s (.n) (.b (.l ⟨[], [], [], [(13, .l (.sl)), (53, .l (.i .i64))], []⟩ (.s (.n) (.s (.c (.n) (.n)) (.j ⟨[], [], [], [(13, .l (.sl))], []⟩ (.b (.s (.n) (.s (.j ⟨[], [], [], [(71, .l (.b))], []⟩ (.n) (.c (.n) (.n))) (.j ⟨[], [], [], [(17, .l (.sl))], []⟩ (.n) (.s (.n) (.s (.s (.n) (.b (.l ⟨[], [], [], [(18, .l (.i .i64)), (87, .l (.i .i64))], []⟩ (.s (.n) (.s (.c (.n) (.n)) (.j ⟨[], [], [], [(18, .l (.i .i64))], []⟩ (.b (.s (.n) (.s (.n) (.c (.n) (.n))))) (.n))))))) (.s (.n) (.c (.n) (.s (.n) (.c (.n) (.n))))))))))) (.n)))))))))) (.n))))))) (.s (.s (.n) (.b (.l ⟨[], [], [], [(12, .l (.sl)), (127, .l (.i .i64))], []⟩ (.s (.n) (.s (.c (.n) (.n)) (.s (.b (.s (.n) (.s (.n) (.s (.s (.n) (.c (.s (.n) (.n)) (.n))) (.n))))) (.n))))))) (.n)))))))) (.s (.n) (.n)))))))) (mp := false) (args := [.v (.string label), .v (.slice edgesA edgesL edgesC), .v (.int .i64 a), .v (.int .i64 b)]) Go.Proofs.Try.func20 (c := Go.Proofs.Try.f20.body.getD .skip) (by kernel_rfl) (by kernel_rfl) (Eq.mp (by kernel_rfl) h)
theorem rhizomeref13_Way.body : BodyOk Go.Proofs.Try.prog 20 := ⟨Go.Proofs.Try.f20, Go.Proofs.Try.func20, by kernel_rfl, pf.ng _ _ Go.Proofs.Try.func20⟩

/-! ### rhizome/rhizomeref13.Rings: function 23 -/
def rhizomeref13_Rings.vc (label : ByteArray) (edgesA : Option Addr) (edgesL edgesC : Nat) (R : Ending → World → Prop) (w : World) : Prop :=
  Calls Proofs.Try.prog (42 : Nat) { toList := [Value.string label] } w fun (e1 : Ending) (w2 : World) => ∃ (b3 : Bool), e1 =
  Ending.returned (Value.bool b3) ∧ bcase (!b3) (R (Ending.returned (Value.tuple { toList := [Value.slice none 0 0, Value.int IntKind.i64 (1 : Int)] }))
  w2) (Calls Proofs.Try.prog (44 : Nat) { toList := [Value.string label, Value.slice edgesA edgesL edgesC] } w2 fun (e4 : Ending) (w5 :
  World) => ∃ (p6 : Option Addr), ∃ (k7 : Nat), ∃ (k8 : Nat), e4 = Ending.returned (Value.slice p6 k7 k8) ∧ Calls Proofs.Try.prog (43 : Nat)
  { toList := [Value.slice p6 k7 k8] } w5 fun (e9 : Ending) (w10 : World) => ∃ (p11 : Option Addr), ∃ (k12 : Nat), ∃ (k13 : Nat), e9 =
  Ending.returned (Value.slice p11 k12 k13) ∧ ∃ (y14 : Nat → Option Addr → Nat → Nat → Int → World → Prop), ∃ (k15 : Nat), y14 k15 none 0 0
  (0 : Int) w10 ∧ ∀ (k16 : Nat) (p17 : Option Addr) (k18 k19 : Nat) (n20 : Int) (w21 : World), y14 k16 p17 k18 k19 n20 w21 → bcase (decide
  (n20 < (k12 : Int))) (∀ (y23 : Option Addr → Nat → Nat → World → Prop), (∀ (p24 : Option Addr) (k25 k26 : Nat) (w27 : World), (∃ (k28 :
  Nat), k28 < k16 ∧ y14 k28 p24 k25 k26 (IntKind.wrap IntKind.i64 (n20 + (1 : Int))) w27) → y23 p24 k25 k26 w27) → ∀ (y31 : Bool → World →
  Prop), (∀ (b32 : Bool) (w33 : World), bcase b32 (∃ (ad34 : Addr), p11 = some ad34 ∧ ((0 : Int) ≤ n20 ∧ n20 < (k12 : Int)) ∧ ∃ (n35 : Int),
  World.cell? w33 (Addr.add (Addr.add ad34 (Int.toNat n20 * 2)) 0) = some (Value.int IntKind.i64 n35) ∧ ∀ (k36 : Nat), appendP false []
  [k36] [k36] w33 p17 k18 k19 1 (spl (reps [Value.int IntKind.i64 (0 : Int)] 1) 0 [Value.int IntKind.i64 n35]) 1 8 [Value.int IntKind.i64 (0
  : Int)] fun (w37 : World) (p38 : Option Addr) (k39 k40 : Nat) => y23 p38 k39 k40 w37) (y23 p17 k18 k19 w33) → y31 b32 w33) → ∃ (ad43 :
  Addr), p11 = some ad43 ∧ ((0 : Int) ≤ n20 ∧ n20 < (k12 : Int)) ∧ ∃ (n44 : Int), World.cell? w21 (Addr.add (Addr.add ad43 (Int.toNat n20 *
  2)) 0) = some (Value.int IntKind.i64 n44) ∧ ∃ (ad45 : Addr), p11 = some ad45 ∧ ((0 : Int) ≤ n20 ∧ n20 < (k12 : Int)) ∧ ∃ (n46 : Int),
  World.cell? w21 (Addr.add (Addr.add ad45 (Int.toNat n20 * 2)) 1) = some (Value.int IntKind.i64 n46) ∧ bcase (decide (n44 = n46)) (∃ (ad47
  : Addr), p11 = some ad47 ∧ ((0 : Int) ≤ n20 ∧ n20 < (k12 : Int)) ∧ ∃ (n48 : Int), World.cell? w21 (Addr.add (Addr.add ad47 (Int.toNat n20
  * 2)) 0) = some (Value.int IntKind.i64 n48) ∧ ∀ (w49 : World), Step w21 w49 [] [] → Calls Proofs.Try.prog (48 : Nat) { toList := [Value.slice p17 k18 k19, Value.int IntKind.i64 n48] }
  w49 fun (e51 : Ending) (w52 : World) => ∃ (b53 : Bool), e51 = Ending.returned (Value.bool b53) ∧ y31 (!b53) w52) (∀ (w54 : World), Step
  w21 w54 [] [] → y31 false w54)) (∃ (y56 : Nat → Int → World → Prop), ∃ (k57 : Nat), y56 k57 (0 : Int) w21 ∧ ∀ (k58 : Nat) (n59 : Int) (w60
  : World), y56 k58 n59 w60 → bcase (decide (n59 < (k18 : Int))) (∃ (y62 : Nat → Int → World → Prop), ∃ (k63 : Nat), y62 k63 n59 w60 ∧ ∀
  (k64 : Nat) (n65 : Int) (w66 : World), y62 k64 n65 w66 → ∀ (y68 : Bool → World → Prop), (∀ (b69 : Bool) (w70 : World), bcase b69 (∃ (ad71
  : Addr), p17 = some ad71 ∧ ((0 : Int) ≤ IntKind.wrap IntKind.i64 (n65 - (1 : Int)) ∧ IntKind.wrap IntKind.i64 (n65 - (1 : Int)) < (k18 :
  Int)) ∧ ∃ (n72 : Int), World.cell? w70 (Addr.add ad71 (Int.toNat (IntKind.wrap IntKind.i64 (n65 - (1 : Int))) * 1)) = some (Value.int
  IntKind.i64 n72) ∧ ∃ (ad73 : Addr), p17 = some ad73 ∧ ((0 : Int) ≤ n65 ∧ n65 < (k18 : Int)) ∧ ∃ (n74 : Int), World.cell? w70 (Addr.add
  ad73 (Int.toNat n65 * 1)) = some (Value.int IntKind.i64 n74) ∧ ∃ (ad75 : Addr), p17 = some ad75 ∧ ((0 : Int) ≤ n65 ∧ n65 < (k18 : Int)) ∧
  ∀ (w76 : World), Step w70 w76 [] [] → ∃ (l78 : List Value), Blk w76 (Addr.block (Addr.add ad75 (Int.toNat n65 * 1))) l78 ∧ Addr.spot
  (Addr.add ad75 (Int.toNat n65 * 1)) = none ∧ Addr.off (Addr.add ad75 (Int.toNat n65 * 1)) + List.length [Value.int IntKind.i64 n72] ≤
  List.length l78 ∧ ∀ (w79 : World), Upd w76 w79 (Addr.block (Addr.add ad75 (Int.toNat n65 * 1))) (sets l78 (Addr.off (Addr.add ad75
  (Int.toNat n65 * 1))) [Value.int IntKind.i64 n72]) → ∃ (ad81 : Addr), p17 = some ad81 ∧ ((0 : Int) ≤ IntKind.wrap IntKind.i64 (n65 - (1 :
  Int)) ∧ IntKind.wrap IntKind.i64 (n65 - (1 : Int)) < (k18 : Int)) ∧ ∃ (l82 : List Value), Blk w79 (Addr.block (Addr.add ad81 (Int.toNat
  (IntKind.wrap IntKind.i64 (n65 - (1 : Int))) * 1))) l82 ∧ Addr.spot (Addr.add ad81 (Int.toNat (IntKind.wrap IntKind.i64 (n65 - (1 : Int)))
  * 1)) = none ∧ Addr.off (Addr.add ad81 (Int.toNat (IntKind.wrap IntKind.i64 (n65 - (1 : Int))) * 1)) + List.length [Value.int IntKind.i64
  n74] ≤ List.length l82 ∧ ∀ (w83 : World), Upd w79 w83 (Addr.block (Addr.add ad81 (Int.toNat (IntKind.wrap IntKind.i64 (n65 - (1 : Int))) *
  1))) (sets l82 (Addr.off (Addr.add ad81 (Int.toNat (IntKind.wrap IntKind.i64 (n65 - (1 : Int))) * 1))) [Value.int IntKind.i64 n74]) → ∃
  (k85 : Nat), k85 < k64 ∧ y62 k85 (IntKind.wrap IntKind.i64 (n65 - (1 : Int))) w83) (∃ (k86 : Nat), k86 < k58 ∧ y56 k86 (IntKind.wrap
  IntKind.i64 (n59 + (1 : Int))) w70) → y68 b69 w70) → bcase (decide ((0 : Int) < n65)) (∃ (ad89 : Addr), p17 = some ad89 ∧ ((0 : Int) ≤ n65
  ∧ n65 < (k18 : Int)) ∧ ∃ (n90 : Int), World.cell? w66 (Addr.add ad89 (Int.toNat n65 * 1)) = some (Value.int IntKind.i64 n90) ∧ ∃ (ad91 :
  Addr), p17 = some ad91 ∧ ((0 : Int) ≤ IntKind.wrap IntKind.i64 (n65 - (1 : Int)) ∧ IntKind.wrap IntKind.i64 (n65 - (1 : Int)) < (k18 :
  Int)) ∧ ∃ (n92 : Int), World.cell? w66 (Addr.add ad91 (Int.toNat (IntKind.wrap IntKind.i64 (n65 - (1 : Int))) * 1)) = some (Value.int
  IntKind.i64 n92) ∧ ∀ (w93 : World), Step w66 w93 [] [] → y68 (decide (n90 < n92)) w93) (∀ (w95 : World), Step w66 w95 [] [] → y68 false
  w95)) (∃ (y97 : Nat → Option Addr → Nat → Nat → Option Addr → Nat → Nat → Int → World → Prop), ∃ (k98 : Nat), y97 k98 none 0 0 none 0 0 (0
  : Int) w60 ∧ ∀ (k99 : Nat) (p100 : Option Addr) (k101 k102 : Nat) (p103 : Option Addr) (k104 k105 : Nat) (n106 : Int) (w107 : World), y97
  k99 p100 k101 k102 p103 k104 k105 n106 w107 → bcase (decide (n106 < (k18 : Int))) (∀ (y109 : Option Addr → Nat → Nat → Option Addr → Nat →
  Nat → World → Prop), (∀ (p110 : Option Addr) (k111 k112 : Nat) (p113 : Option Addr) (k114 k115 : Nat) (w116 : World), (∃ (k117 : Nat),
  k117 < k99 ∧ y97 k117 p110 k111 k112 p113 k114 k115 (IntKind.wrap IntKind.i64 (n106 + (1 : Int))) w116) → y109 p110 k111 k112 p113 k114
  k115 w116) → ∃ (ad120 : Addr), p17 = some ad120 ∧ ((0 : Int) ≤ n106 ∧ n106 < (k18 : Int)) ∧ ∃ (n121 : Int), World.cell? w107 (Addr.add
  ad120 (Int.toNat n106 * 1)) = some (Value.int IntKind.i64 n121) ∧ Calls Proofs.Try.prog (48 : Nat) { toList := [Value.slice p103 k104 k105, Value.int IntKind.i64 n121] }
  w107 fun (e122 : Ending) (w123 : World) => ∃ (b124 : Bool), e122 = Ending.returned (Value.bool b124) ∧ bcase b124 (y109 p100 k101 k102
  p103 k104 k105 w123) (∃ (y125 : Nat → Option Addr → Nat → Nat → Option Addr → Nat → Nat → Int → World → Prop), ∃ (k126 : Nat), y125 k126
  p103 k104 k105 none 0 0 (0 : Int) w123 ∧ ∀ (k127 : Nat) (p128 : Option Addr) (k129 k130 : Nat) (p131 : Option Addr) (k132 k133 : Nat)
  (n134 : Int) (w135 : World), y125 k127 p128 k129 k130 p131 k132 k133 n134 w135 → bcase (decide (n134 < (k18 : Int))) (∀ (y137 : Option
  Addr → Nat → Nat → Option Addr → Nat → Nat → World → Prop), (∀ (p138 : Option Addr) (k139 k140 : Nat) (p141 : Option Addr) (k142 k143 :
  Nat) (w144 : World), (∃ (k145 : Nat), k145 < k127 ∧ y125 k145 p138 k139 k140 p141 k142 k143 (IntKind.wrap IntKind.i64 (n134 + (1 : Int)))
  w144) → y137 p138 k139 k140 p141 k142 k143 w144) → ∀ (y148 : Bool → World → Prop), (∀ (b149 : Bool) (w150 : World), bcase b149 (∃ (ad151 :
  Addr), p17 = some ad151 ∧ ((0 : Int) ≤ n134 ∧ n134 < (k18 : Int)) ∧ ∃ (n152 : Int), World.cell? w150 (Addr.add ad151 (Int.toNat n134 * 1))
  = some (Value.int IntKind.i64 n152) ∧ ∀ (k153 : Nat), appendP false [] [k153] [k153] w150 p131 k132 k133 1 (spl (reps [Value.int
  IntKind.i64 (0 : Int)] 1) 0 [Value.int IntKind.i64 n152]) 1 8 [Value.int IntKind.i64 (0 : Int)] fun (w154 : World) (p155 : Option Addr)
  (k156 k157 : Nat) => ∃ (ad158 : Addr), p17 = some ad158 ∧ ((0 : Int) ≤ n134 ∧ n134 < (k18 : Int)) ∧ ∃ (n159 : Int), World.cell? w154
  (Addr.add ad158 (Int.toNat n134 * 1)) = some (Value.int IntKind.i64 n159) ∧ ∀ (k160 : Nat), appendP false [] [k160] [k153, k160] w154 p128
  k129 k130 1 (spl (reps [Value.int IntKind.i64 (0 : Int)] 1) 0 [Value.int IntKind.i64 n159]) 1 8 [Value.int IntKind.i64 (0 : Int)] fun
  (w161 : World) (p162 : Option Addr) (k163 k164 : Nat) => y137 p162 k163 k164 p155 k156 k157 w161) (y137 p128 k129 k130 p131 k132 k133
  w150) → y148 b149 w150) → ∃ (ad167 : Addr), p17 = some ad167 ∧ ((0 : Int) ≤ n106 ∧ n106 < (k18 : Int)) ∧ ∃ (n168 : Int), World.cell? w135
  (Addr.add ad167 (Int.toNat n106 * 1)) = some (Value.int IntKind.i64 n168) ∧ ∃ (ad169 : Addr), p17 = some ad169 ∧ ((0 : Int) ≤ n134 ∧ n134
  < (k18 : Int)) ∧ ∃ (n170 : Int), World.cell? w135 (Addr.add ad169 (Int.toNat n134 * 1)) = some (Value.int IntKind.i64 n170) ∧ ∀ (w171 :
  World), Step w135 w171 [] [] → Calls Proofs.Try.prog (52 : Nat) { toList := [Value.slice p11 k12 k13, Value.agg { toList := spl (spl [Value.int IntKind.i64 (0 : Int), Value.int IntKind.i64 (0 : Int)] 0 [Value.int IntKind.i64 n168]) 1 [Value.int IntKind.i64 n170] }] }
  w171 fun (e173 : Ending) (w174 : World) => ∃ (b175 : Bool), e173 = Ending.returned (Value.bool b175) ∧ bcase b175 (∃ (ad176 : Addr), p17 =
  some ad176 ∧ ((0 : Int) ≤ n134 ∧ n134 < (k18 : Int)) ∧ ∃ (n177 : Int), World.cell? w174 (Addr.add ad176 (Int.toNat n134 * 1)) = some
  (Value.int IntKind.i64 n177) ∧ ∃ (ad178 : Addr), p17 = some ad178 ∧ ((0 : Int) ≤ n106 ∧ n106 < (k18 : Int)) ∧ ∃ (n179 : Int), World.cell?
  w174 (Addr.add ad178 (Int.toNat n106 * 1)) = some (Value.int IntKind.i64 n179) ∧ Calls Proofs.Try.prog (52 : Nat) { toList := [Value.slice p11 k12 k13, Value.agg { toList := spl (spl [Value.int IntKind.i64 (0 : Int), Value.int IntKind.i64 (0 : Int)] 0 [Value.int IntKind.i64 n177]) 1 [Value.int IntKind.i64 n179] }] }
  w174 fun (e180 : Ending) (w181 : World) => ∃ (b182 : Bool), e180 = Ending.returned (Value.bool b182) ∧ y148 b182 w181) (y148 false w174))
  (∀ (k183 : Nat), appendP false [] [k183] [k183] w135 p100 k101 k102 1 (spl (reps [Value.slice none 0 0] 1) 0 [Value.slice p131 k132 k133])
  1 24 [Value.slice none 0 0] fun (w184 : World) (p185 : Option Addr) (k186 k187 : Nat) => y109 p185 k186 k187 p128 k129 k130 w184))) (R
  (Ending.returned (Value.tuple { toList := [Value.slice p100 k101 k102, Value.int IntKind.i64 (0 : Int)] })) w107))))

theorem rhizomeref13_Rings.link {label : ByteArray} {edgesA : Option Addr} {edgesL edgesC : Nat} {R : Ending → World → Prop} {w : World} (h : rhizomeref13_Rings.vc label edgesA edgesL edgesC R w) : Calls Go.Proofs.Try.prog 23 #[.string label, .slice edgesA edgesL edgesC] w R :=
  calls_of pf (fn := Go.Proofs.Try.f23) (ann := .s (.n) (.s (.s (.n) (.c (.s (.n) (.n)) (.n))) (.s (.n) (.s (.n) (.s (.s (.n) (.b (.l ⟨[], [], [], [(7, .l (.sl)), (25, .l (.i .i64))], []⟩ (.s (.n) (.s (.c (.n) (.n)) (.j ⟨[], [], [], [(7, .l (.sl))], []⟩ (.b (.s (.n) (.j ⟨[], [], [], [(48, .l (.b))], []⟩ (.n) (.c (.n) (.n))))) (.n))))))) (.s (.s (.n) (.b (.l ⟨[], [], [], [(60, .l (.i .i64))], []⟩ (.s (.n) (.s (.c (.n) (.n)) (.s (.b (.s (.n) (.s (.n) (.b (.l ⟨[], [], [], [(10, .l (.i .i64))], []⟩ (.s (.j ⟨[], [], [], [(77, .l (.b))], []⟩ (.n) (.c (.n) (.n))) (.s (.b (.n)) (.n)))))))) (.n))))))) (.s (.n) (.s (.n) (.s (.s (.n) (.b (.l ⟨[], [], [], [(11, .l (.sl)), (12, .l (.sl)), (99, .l (.i .i64))], []⟩ (.s (.n) (.s (.c (.n) (.n)) (.j ⟨[], [], [], [(11, .l (.sl)), (12, .l (.sl))], []⟩ (.b (.s (.n) (.s (.s (.n) (.c (.n) (.n))) (.s (.n) (.s (.s (.n) (.b (.l ⟨[], [], [], [(12, .l (.sl)), (14, .l (.sl)), (110, .l (.i .i64))], []⟩ (.s (.n) (.s (.c (.n) (.n)) (.j ⟨[], [], [], [(12, .l (.sl)), (14, .l (.sl))], []⟩ (.b (.s (.n) (.j ⟨[], [], [], [(136, .l (.b))], []⟩ (.n) (.c (.s (.n) (.n)) (.n))))) (.n))))))) (.n)))))) (.n))))))) (.s (.n) (.n))))))))))) (mp := false) (args := [.v (.string label), .v (.slice edgesA edgesL edgesC)]) Go.Proofs.Try.func23 (c := Go.Proofs.Try.f23.body.getD .skip) (by kernel_rfl) (by kernel_rfl) (Eq.mp (by kernel_rfl) h)
theorem rhizomeref13_Rings.body : BodyOk Go.Proofs.Try.prog 23 := ⟨Go.Proofs.Try.f23, Go.Proofs.Try.func23, by kernel_rfl, pf.ng _ _ Go.Proofs.Try.func23⟩

/-! ### rhizome/rhizomeref13.in: function 48 -/
def rhizomeref13_in.vc (lA : Option Addr) (lL lC : Nat) (n : Int) (R : Ending → World → Prop) (w : World) : Prop := ∃ (y1 : Nat → Int →
  World → Prop), ∃ (k2 : Nat), y1 k2 (0 : Int) w ∧ ∀ (k3 : Nat) (n4 : Int) (w5 : World), y1 k3 n4 w5 → bcase (decide (n4 < (lL : Int))) (∃
  (ad7 : Addr), lA = some ad7 ∧ ((0 : Int) ≤ n4 ∧ n4 < (lL : Int)) ∧ ∃ (n8 : Int), World.cell? w5 (Addr.add ad7 (Int.toNat n4 * 1)) = some
  (Value.int IntKind.i64 n8) ∧ bcase (decide (n8 = n)) (R (Ending.returned (Value.bool true)) w5) (∃ (k9 : Nat), k9 < k3 ∧ y1 k9
  (IntKind.wrap IntKind.i64 (n4 + (1 : Int))) w5)) (R (Ending.returned (Value.bool false)) w5)

theorem rhizomeref13_in.link {lA : Option Addr} {lL lC : Nat} {n : Int} {R : Ending → World → Prop} {w : World} (h : rhizomeref13_in.vc lA lL lC n R w) : Calls Go.Proofs.Try.prog 48 #[.slice lA lL lC, .int .i64 n] w R :=
  calls_of pf (fn := Go.Proofs.Try.f48) (ann := .s (.n) (.s (.s (.n) (.b (.l ⟨[], [], [], [(8, .l (.i .i64))], []⟩ (.s (.n) (.s (.c (.n) (.n)) (.s (.b (.s (.n) (.s (.n) (.c (.s (.n) (.n)) (.n))))) (.n))))))) (.s (.n) (.n)))) (mp := false) (args := [.v (.slice lA lL lC), .v (.int .i64 n)]) Go.Proofs.Try.func48 (c := Go.Proofs.Try.f48.body.getD .skip) (by kernel_rfl) (by kernel_rfl) (Eq.mp (by kernel_rfl) h)
theorem rhizomeref13_in.body : BodyOk Go.Proofs.Try.prog 48 := ⟨Go.Proofs.Try.f48, Go.Proofs.Try.func48, by kernel_rfl, pf.ng _ _ Go.Proofs.Try.func48⟩

/-! ### rhizome/rhizomeref13.less: function 49 -/
def rhizomeref13_less.vc (aA : Option Addr) (aL aC : Nat) (bA : Option Addr) (bL bC : Nat) (R : Ending → World → Prop) (w : World) : Prop :=
  ∃ (y1 : Nat → Int → World → Prop), ∃ (k2 : Nat), y1 k2 (0 : Int) w ∧ ∀ (k3 : Nat) (n4 : Int) (w5 : World), y1 k3 n4 w5 → bcase (decide (n4
  < (aL : Int))) (∃ (ad7 : Addr), aA = some ad7 ∧ ((0 : Int) ≤ n4 ∧ n4 < (aL : Int)) ∧ ∃ (n8 : Int), World.cell? w5 (Addr.add ad7 (Int.toNat
  n4 * 1)) = some (Value.int IntKind.i64 n8) ∧ ∃ (ad9 : Addr), bA = some ad9 ∧ ((0 : Int) ≤ n4 ∧ n4 < (bL : Int)) ∧ ∃ (n10 : Int),
  World.cell? w5 (Addr.add ad9 (Int.toNat n4 * 1)) = some (Value.int IntKind.i64 n10) ∧ bcase (!decide (n8 = n10)) (∃ (ad11 : Addr), aA =
  some ad11 ∧ ((0 : Int) ≤ n4 ∧ n4 < (aL : Int)) ∧ ∃ (n12 : Int), World.cell? w5 (Addr.add ad11 (Int.toNat n4 * 1)) = some (Value.int
  IntKind.i64 n12) ∧ ∃ (ad13 : Addr), bA = some ad13 ∧ ((0 : Int) ≤ n4 ∧ n4 < (bL : Int)) ∧ ∃ (n14 : Int), World.cell? w5 (Addr.add ad13
  (Int.toNat n4 * 1)) = some (Value.int IntKind.i64 n14) ∧ ∀ (w15 : World), Step w5 w15 [] [] → R (Ending.returned (Value.bool (decide (n12
  < n14)))) w15) (∃ (k17 : Nat), k17 < k3 ∧ ∀ (w18 : World), Step w5 w18 [] [] → y1 k17 (IntKind.wrap IntKind.i64 (n4 + (1 : Int))) w18)) (R
  (Ending.returned (Value.bool false)) w5)

theorem rhizomeref13_less.link {aA : Option Addr} {aL aC : Nat} {bA : Option Addr} {bL bC : Nat} {R : Ending → World → Prop} {w : World} (h : rhizomeref13_less.vc aA aL aC bA bL bC R w) : Calls Go.Proofs.Try.prog 49 #[.slice aA aL aC, .slice bA bL bC] w R :=
  calls_of pf (fn := Go.Proofs.Try.f49) (ann := .s (.n) (.s (.s (.n) (.b (.l ⟨[], [], [], [(8, .l (.i .i64))], []⟩ (.s (.n) (.s (.c (.n) (.n)) (.s (.b (.s (.n) (.s (.n) (.c (.s (.n) (.n)) (.n))))) (.n))))))) (.s (.n) (.n)))) (mp := false) (args := [.v (.slice aA aL aC), .v (.slice bA bL bC)]) Go.Proofs.Try.func49 (c := Go.Proofs.Try.f49.body.getD .skip) (by kernel_rfl) (by kernel_rfl) (Eq.mp (by kernel_rfl) h)
theorem rhizomeref13_less.body : BodyOk Go.Proofs.Try.prog 49 := ⟨Go.Proofs.Try.f49, Go.Proofs.Try.func49, by kernel_rfl, pf.ng _ _ Go.Proofs.Try.func49⟩

end Go.Proofs.Ytnplopiconabiaa.VC
