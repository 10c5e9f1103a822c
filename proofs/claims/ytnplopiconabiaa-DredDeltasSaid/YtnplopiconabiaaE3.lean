/- What is to be shown of functions' texts, printed by a program of this session's repo; that it gives the functions' contracts is checked by the kernel. -/
import Derived.Test.YtnplopiconabiaaProg
import Derived.Test.YtnplopiconabiaaPf
namespace Go.Proofs.Ytnplopiconabiaa.VC
open Go Go.V
set_option maxRecDepth 1000000
set_option linter.unusedVariables false

/-! ### (*rhizome/dred.Dred).remove: function 58 -/
def dred_Dred_remove.vc (d : Addr) (lA : Option Addr) (lL lC : Nat) (R : Ending → World → Prop) (w : World) : Prop := ∀ (k1 : Nat), ∃ (y2 :
  Nat → Option Addr → Nat → Nat → Int → World → Prop), ∃ (k3 : Nat), (∀ (w4 : World), Step w w4 [] [k1] → y2 k3 none 0 0 (0 : Int) w4) ∧ ∀
  (k6 : Nat) (p7 : Option Addr) (k8 k9 : Nat) (n10 : Int) (w11 : World), y2 k6 p7 k8 k9 n10 w11 → bcase (decide (n10 < (lL : Int))) (∃ (ad13
  : Addr), lA = some ad13 ∧ ((0 : Int) ≤ n10 ∧ n10 < (lL : Int)) ∧ ∃ (n14 : Int), ∃ (n15 : Int), (World.cell? w11 (Addr.add (Addr.add ad13
  (Int.toNat n10 * 2)) 0) = some (Value.int IntKind.i64 n14) ∧ World.cell? w11 (Addr.add (Addr.add ad13 (Int.toNat n10 * 2)) 1) = some
  (Value.int IntKind.i64 n15) ∧ True) ∧ ∀ (k16 : Nat), ((0 : Int) ≤ (0 : Int) ∧ (0 : Int) < ((2 : Nat) : Int)) ∧ ∃ (ad17 : Addr),
  Value.pointer (some d) = Value.pointer (some ad17) ∧ ∃ (p18 : Option Addr), World.cell? w11 (Addr.add ad17 2) = some (Value.pointer p18) ∧
  ∃ (ad19 : Addr), Value.pointer p18 = Value.pointer (some ad19) ∧ ∃ (p20 : Option Nat), World.cell? w11 (Addr.add ad19 1) = some (Value.map
  p20) ∧ ∀ (w21 : World), Step w11 w21 [] [k16] → Calls Proofs.Try.prog (79 : Nat) { toList := [Value.int IntKind.i64 n14, Value.map p20] }
  w21 fun (e23 : Ending) (w24 : World) => ∃ (p25 : Option Addr), ∃ (k26 : Nat), ∃ (k27 : Nat), e23 = Ending.returned (Value.slice p25 k26
  k27) ∧ Keep [k1, k16] w21 w24 ∧ ∃ (y28 : Nat → Option Addr → Nat → Nat → Int → World → Prop), ∃ (k29 : Nat), y28 k29 p7 k8 k9 (0 : Int)
  w24 ∧ ∀ (k30 : Nat) (p31 : Option Addr) (k32 k33 : Nat) (n34 : Int) (w35 : World), y28 k30 p31 k32 k33 n34 w35 → bcase (decide (n34 < (k26
  : Int))) (∃ (ad37 : Addr), p25 = some ad37 ∧ ((0 : Int) ≤ n34 ∧ n34 < (k26 : Int)) ∧ ∃ (n38 : Int), World.cell? w35 (Addr.add ad37
  (Int.toNat n34 * 1)) = some (Value.int IntKind.i64 n38) ∧ ((0 : Int) ≤ (1 : Int) ∧ (1 : Int) < ((2 : Nat) : Int)) ∧ ∃ (ad39 : Addr),
  Value.pointer (some d) = Value.pointer (some ad39) ∧ ∃ (p40 : Option Addr), World.cell? w35 (Addr.add ad39 2) = some (Value.pointer p40) ∧
  ∃ (ad41 : Addr), Value.pointer p40 = Value.pointer (some ad41) ∧ ∃ (p42 : Option Nat), World.cell? w35 (Addr.add ad41 0) = some (Value.map
  p42) ∧ ∀ (w43 : World), Step w35 w43 [] [] → Calls Proofs.Try.prog (79 : Nat) { toList := [Value.int IntKind.i64 n15, Value.map p42] } w43
  fun (e45 : Ending) (w46 : World) => ∃ (p47 : Option Addr), ∃ (k48 : Nat), ∃ (k49 : Nat), e45 = Ending.returned (Value.slice p47 k48 k49) ∧
  Keep [k1, k16] w43 w46 ∧ ∃ (y50 : Nat → Option Addr → Nat → Nat → Int → World → Prop), ∃ (k51 : Nat), y50 k51 p31 k32 k33 (0 : Int) w46 ∧
  ∀ (k52 : Nat) (p53 : Option Addr) (k54 k55 : Nat) (n56 : Int) (w57 : World), y50 k52 p53 k54 k55 n56 w57 → bcase (decide (n56 < (k48 :
  Int))) (∃ (ad59 : Addr), p47 = some ad59 ∧ ((0 : Int) ≤ n56 ∧ n56 < (k48 : Int)) ∧ ∃ (n60 : Int), World.cell? w57 (Addr.add ad59
  (Int.toNat n56 * 1)) = some (Value.int IntKind.i64 n60) ∧ ∀ (k61 : Nat), appendP false [] [k61] [k1, k16, k61] w57 p53 k54 k55 1 (spl
  (reps [Value.int IntKind.i64 (0 : Int), Value.int IntKind.i64 (0 : Int)] 1) 0 (spl (spl [Value.int IntKind.i64 (0 : Int), Value.int
  IntKind.i64 (0 : Int)] 0 [Value.int IntKind.i64 n38]) 1 [Value.int IntKind.i64 n60])) 2 16 [Value.int IntKind.i64 (0 : Int), Value.int
  IntKind.i64 (0 : Int)] fun (w62 : World) (p63 : Option Addr) (k64 k65 : Nat) => ∃ (k66 : Nat), k66 < k52 ∧ y50 k66 p63 k64 k65
  (IntKind.wrap IntKind.i64 (n56 + (1 : Int))) w62) (∃ (k67 : Nat), k67 < k30 ∧ y28 k67 p53 k54 k55 (IntKind.wrap IntKind.i64 (n34 + (1 :
  Int))) w57)) (∃ (k68 : Nat), k68 < k6 ∧ y2 k68 p31 k32 k33 (IntKind.wrap IntKind.i64 (n10 + (1 : Int))) w35)) (∃ (y69 : Nat → Int → World
  → Prop), ∃ (k70 : Nat), y69 k70 (0 : Int) w11 ∧ ∀ (k71 : Nat) (n72 : Int) (w73 : World), y69 k71 n72 w73 → bcase (decide (n72 < (lL :
  Int))) (∃ (ad75 : Addr), lA = some ad75 ∧ ((0 : Int) ≤ n72 ∧ n72 < (lL : Int)) ∧ ∃ (n76 : Int), ∃ (n77 : Int), (World.cell? w73 (Addr.add
  (Addr.add ad75 (Int.toNat n72 * 2)) 0) = some (Value.int IntKind.i64 n76) ∧ World.cell? w73 (Addr.add (Addr.add ad75 (Int.toNat n72 * 2))
  1) = some (Value.int IntKind.i64 n77) ∧ True) ∧ ∀ (k78 : Nat), ∃ (ad79 : Addr), Value.pointer (some d) = Value.pointer (some ad79) ∧ ∃
  (p80 : Option Addr), World.cell? w73 (Addr.add ad79 1) = some (Value.pointer p80) ∧ ∀ (w81 : World), Step w73 w81 [] [k78] → Calls
  Proofs.Try.prog (60 : Nat) { toList := [Value.pointer p80, Value.agg { toList := List.take 2 (List.drop 0 (sets [Value.int IntKind.i64 (0 : Int), Value.int IntKind.i64 (0 : Int)] 0 [Value.int IntKind.i64 n76, Value.int IntKind.i64 n77])) }] }
  w81 fun (e83 : Ending) (w84 : World) => ∃ (b85 : Bool), e83 = Ending.returned (Value.bool b85) ∧ Keep [k1, k78] w81 w84 ∧ ∃ (k86 : Nat),
  k86 < k71 ∧ y69 k86 (IntKind.wrap IntKind.i64 (n72 + (1 : Int))) w84) (Blk w73 k1 [Value.pointer (some d)] → Calls Proofs.Try.prog (80 :
  Nat) { toList := [Value.slice p7 k8 k9, Value.func (Fn.func 81) { toList := [] } { toList := [Value.pointer (some { block := k1, off := 0 })] }] }
  w73 fun (e88 : Ending) (w89 : World) => ∃ (p90 : Option Addr), ∃ (k91 : Nat), ∃ (k92 : Nat), e88 = Ending.returned (Value.slice p90 k91
  k92) ∧ ∃ (y93 : Nat → Option Addr → Nat → Nat → World → Prop), ∃ (k94 : Nat), y93 k94 p90 k91 k92 w89 ∧ ∀ (k95 : Nat) (p96 : Option Addr)
  (k97 k98 : Nat) (w99 : World), y93 k95 p96 k97 k98 w99 → ∃ (y101 : Nat → Option Addr → Nat → Nat → Int → World → Prop), ∃ (k102 : Nat),
  y101 k102 p96 k97 k98 (0 : Int) w99 ∧ ∀ (k103 : Nat) (p104 : Option Addr) (k105 k106 : Nat) (n107 : Int) (w108 : World), y101 k103 p104
  k105 k106 n107 w108 → bcase (decide (n107 < (k97 : Int))) (∃ (ad110 : Addr), p96 = some ad110 ∧ ((0 : Int) ≤ n107 ∧ n107 < (k97 : Int)) ∧
  ∃ (n111 : Int), ∃ (n112 : Int), (World.cell? w108 (Addr.add (Addr.add ad110 (Int.toNat n107 * 2)) 0) = some (Value.int IntKind.i64 n111) ∧
  World.cell? w108 (Addr.add (Addr.add ad110 (Int.toNat n107 * 2)) 1) = some (Value.int IntKind.i64 n112) ∧ True) ∧ ∀ (k113 : Nat), ∃ (p114
  : Option Addr), World.cell? w108 { block := k1, off := 0 } = some (Value.pointer p114) ∧ ∀ (w115 : World), Step w108 w115 [] [k113] →
  Calls Proofs.Try.prog (82 : Nat) { toList := [Value.pointer p114, Value.agg { toList := List.take 2 (List.drop 0 (sets [Value.int IntKind.i64 (0 : Int), Value.int IntKind.i64 (0 : Int)] 0 [Value.int IntKind.i64 n111, Value.int IntKind.i64 n112])) }] }
  w115 fun (e117 : Ending) (w118 : World) => ∃ (b119 : Bool), e117 = Ending.returned (Value.bool b119) ∧ Keep [k113] w115 w118 ∧ bcase b119
  (∃ (p120 : Option Addr), World.cell? w118 { block := k1, off := 0 } = some (Value.pointer p120) ∧ ∃ (ad121 : Addr), Value.pointer p120 =
  Value.pointer (some ad121) ∧ ∃ (p122 : Option Addr), World.cell? w118 (Addr.add ad121 2) = some (Value.pointer p122) ∧ ∀ (w123 : World),
  Step w118 w123 [] [] → Calls Proofs.Try.prog (54 : Nat) { toList := [Value.pointer p122, Value.agg { toList := List.take 2 (List.drop 0 (sets [Value.int IntKind.i64 (0 : Int), Value.int IntKind.i64 (0 : Int)] 0 [Value.int IntKind.i64 n111, Value.int IntKind.i64 n112])) }] }
  w123 fun (e125 : Ending) (w126 : World) => ∃ (b127 : Bool), e125 = Ending.returned (Value.bool b127) ∧ Keep [k113] w123 w126 ∧ Calls
  Proofs.Try.prog (83 : Nat) { toList := [Value.slice p104 k105 k106, Value.int IntKind.i64 n107, Value.int IntKind.i64 (IntKind.wrap IntKind.i64 (n107 + (1 : Int)))] }
  w126 fun (e128 : Ending) (w129 : World) => ∃ (p130 : Option Addr), ∃ (k131 : Nat), ∃ (k132 : Nat), e128 = Ending.returned (Value.slice
  p130 k131 k132) ∧ Keep [k113] w126 w129 ∧ ∃ (k133 : Nat), k133 < k95 ∧ y93 k133 p130 k131 k132 w129) (∃ (k134 : Nat), k134 < k103 ∧ y101
  k134 p104 k105 k106 (IntKind.wrap IntKind.i64 (n107 + (1 : Int))) w118)) (∃ (p135 : Option Addr), World.cell? w108
  { block := k1, off := 0 } = some (Value.pointer p135) ∧ ∃ (ad136 : Addr), Value.pointer p135 = Value.pointer (some ad136) ∧ ∃ (l137 : List
  Value), Blk w108 (Addr.block (Addr.add ad136 3)) l137 ∧ Addr.spot (Addr.add ad136 3) = none ∧ Addr.off (Addr.add ad136 3) + List.length
  [Value.int IntKind.i64 (IntKind.wrap IntKind.i64 ((k91 : Int) - (k105 : Int)))] ≤ List.length l137 ∧ ∀ (w138 : World), Upd w108 w138
  (Addr.block (Addr.add ad136 3)) (sets l137 (Addr.off (Addr.add ad136 3)) [Value.int IntKind.i64 (IntKind.wrap IntKind.i64 ((k91 : Int) -
  (k105 : Int)))]) → R (Ending.returned (Value.slice p104 k105 k106)) w138)))

theorem dred_Dred_remove.link {d : Addr} {lA : Option Addr} {lL lC : Nat} {R : Ending → World → Prop} {w : World} (h : dred_Dred_remove.vc d lA lL lC R w) : Calls Go.Proofs.Try.prog 58 #[.pointer (some d), .slice lA lL lC] w R :=
  calls_of pf (fn := Go.Proofs.Try.f58) (ann := .s (.n) (.s (.n) (.s (.s (.n) (.b (.l ⟨[], [], [0], [(5, .l (.sl)), (19, .l (.i .i64))], []⟩ (.s (.n) (.s (.c (.n) (.n)) (.s (.b (.s (.n) (.s (.d [0, 1]) (.b (.l ⟨[], [], [0, 1], [(5, .l (.sl)), (34, .l (.i .i64))], []⟩ (.s (.n) (.s (.c (.n) (.n)) (.s (.b (.s (.n) (.s (.d [0, 1]) (.b (.l ⟨[], [], [0, 1], [(5, .l (.sl)), (49, .l (.i .i64))], []⟩ (.s (.n) (.s (.c (.n) (.n)) (.s (.b (.s (.n) (.n))) (.n))))))))) (.n))))))))) (.n))))))) (.s (.s (.n) (.b (.l ⟨[], [], [0], [(64, .l (.i .i64))], []⟩ (.s (.n) (.s (.c (.n) (.n)) (.s (.b (.s (.n) (.d [0, 1]))) (.n))))))) (.s (.n) (.s (.n) (.s (.n) (.b (.l ⟨[], [], [], [(5, .l (.sl))], []⟩ (.b (.s (.s (.n) (.b (.l ⟨[], [], [], [(5, .l (.sl)), (82, .l (.i .i64))], []⟩ (.s (.n) (.s (.c (.n) (.n)) (.s (.b (.s (.n) (.s (.n) (.c (.s (.d [1]) (.s (.n) (.n))) (.n))))) (.n))))))) (.s (.n) (.s (.n) (.n)))))))))))))) (mp := false) (args := [.a d, .v (.slice lA lL lC)]) Go.Proofs.Try.func58 (c := Go.Proofs.Try.f58.body.getD .skip) (by kernel_rfl) (by kernel_rfl) (Eq.mp (by kernel_rfl) h)
theorem dred_Dred_remove.body : BodyOk Go.Proofs.Try.prog 58 := ⟨Go.Proofs.Try.f58, Go.Proofs.Try.func58, by kernel_rfl, pf.ng _ _ Go.Proofs.Try.func58⟩

end Go.Proofs.Ytnplopiconabiaa.VC
