/- What is to be shown of functions' texts, printed by a program of this session's repo; that it gives the functions' contracts is checked by the kernel. -/
import Derived.Test.YtnimejocaaekaaaProg
import Derived.Test.YtnimejocaaekaaaPf
namespace Go.Proofs.Ytnimejocaaekaaa.VC
open Go Go.V
set_option maxRecDepth 1000000
set_option linter.unusedVariables false

/-! ### (*rhizome/lock.Table).Ask: function 12 -/
def lock_Table_Ask.vc (t : Addr) (s : Int) (i : Int) (alone : Bool) (R : Ending → World → Prop) (w : World) : Prop := ∀ (y1 : Bool → World →
  Prop), (∀ (b2 : Bool) (w3 : World), bcase b2 (R (Ending.returned (Value.int IntKind.i64 (1 : Int))) w3) (∃ (p4 : Option Nat), World.cell?
  w3 (Addr.add t 1) = some (Value.map p4) ∧ ∃ (l5 : List (Int × Value)), MapO (Value.int IntKind.i64) w3 p4 l5 ∧ ∃ (n6 : Int), ∃ (b7 :
  Bool), LookRel l5 s (Value.int IntKind.i64 (0 : Int)) (Value.int IntKind.i64 n6) b7 ∧ bcase b7 (R (Ending.returned (Value.int IntKind.i64
  (171 : Int))) w3) (Calls Proofs.Try.prog (22 : Nat) { toList := [Value.pointer (some t), Value.int IntKind.i64 i] } w3 fun (e8 : Ending)
  (w9 : World) => ∃ (p10 : Option Addr), e8 = Ending.returned (Value.pointer p10) ∧ ∀ (k11 : Nat), ∃ (ad12 : Addr), Value.pointer p10 =
  Value.pointer (some ad12) ∧ ∃ (p13 : Option Nat), World.cell? w9 (Addr.add ad12 0) = some (Value.map p13) ∧ ∃ (l14 : List (Int × Value)),
  MapO (Value.int IntKind.i64) w9 p13 l14 ∧ ∃ (b15 : Bool), ∃ (b16 : Bool), LookRel l14 s (Value.bool false) (Value.bool b15) b16 ∧ ∀ (y17 :
  Bool → World → Prop), (∀ (b18 : Bool) (w19 : World), bcase b18 (R (Ending.returned (Value.int IntKind.i64 (0 : Int))) w19) (∀ (y20 : Bool
  → World → Prop), (∀ (b21 : Bool) (w22 : World), bcase b21 (Calls Proofs.Try.prog (24 : Nat) { toList := [Value.pointer p10, Value.agg { toList := List.take 2 (List.drop 0 (sets [Value.int IntKind.i64 (0 : Int), Value.bool false] 0 (spl (spl [Value.int IntKind.i64 (0 : Int), Value.bool false] 0 [Value.int IntKind.i64 s]) 1 [Value.bool alone]))) }] }
  w22 fun (e23 : Ending) (w24 : World) => e23 = Ending.returned (Value.tuple { toList := [] }) ∧ Keep [k11] w22 w24 ∧ R (Ending.returned
  (Value.int IntKind.i64 (0 : Int))) w24) (∃ (ad25 : Addr), Value.pointer p10 = Value.pointer (some ad25) ∧ ∃ (p26 : Option Addr), ∃ (k27 :
  Nat), ∃ (k28 : Nat), World.cell? w22 (Addr.add ad25 1) = some (Value.slice p26 k27 k28) ∧ ∀ (y29 : Int → World → Prop), (∀ (n30 : Int)
  (w31 : World), (∃ (ad32 : Addr), Value.pointer p10 = Value.pointer (some ad32) ∧ ∃ (p33 : Option Addr), ∃ (k34 : Nat), ∃ (k35 : Nat),
  World.cell? w31 (Addr.add ad32 1) = some (Value.slice p33 k34 k35) ∧ ∀ (k36 : Nat) (w37 : World), Step w31 w37 [] [k36] → Blk w37 k36 (spl
  (reps [Value.int IntKind.i64 (0 : Int), Value.bool false] 1) 0 (List.take 2 (List.drop 0 (sets [Value.int IntKind.i64 (0 : Int),
  Value.bool false] 0 (spl (spl [Value.int IntKind.i64 (0 : Int), Value.bool false] 0 [Value.int IntKind.i64 s]) 1 [Value.bool alone]))))) →
  Calls Proofs.Try.prog (26 : Nat) { toList := [Value.slice p33 k34 k35, Value.int IntKind.i64 n30, Value.slice (some { block := k36, off := 0 }) 1 1] }
  w37 fun (e40 : Ending) (w41 : World) => ∃ (p42 : Option Addr), ∃ (k43 : Nat), ∃ (k44 : Nat), e40 = Ending.returned (Value.slice p42 k43
  k44) ∧ Keep [k11] w37 w41 ∧ ∃ (ad45 : Addr), Value.pointer p10 = Value.pointer (some ad45) ∧ ∃ (l46 : List Value), Blk w41 (Addr.block
  (Addr.add ad45 1)) l46 ∧ Addr.spot (Addr.add ad45 1) = none ∧ Addr.off (Addr.add ad45 1) + List.length [Value.slice p42 k43 k44] ≤
  List.length l46 ∧ ¬Addr.block (Addr.add ad45 1) ∈ [k11] ∧ ∀ (w47 : World), Upd w41 w47 (Addr.block (Addr.add ad45 1)) (sets l46 (Addr.off
  (Addr.add ad45 1)) [Value.slice p42 k43 k44]) → ∃ (p49 : Option Nat), World.cell? w47 (Addr.add t 1) = some (Value.map p49) ∧ ∃ (k50 :
  Nat), ∃ (l51 : List (Int × Value)), p49 = some k50 ∧ MapG (Value.int IntKind.i64) w47 k50 l51 ∧ ∀ (w52 : World), MUpd (Value.int
  IntKind.i64) w47 w52 k50 (updM l51 s (Value.int IntKind.i64 i)) → R (Ending.returned (Value.int IntKind.i64 (160 : Int))) w52) → y29 n30
  w31) → bcase b16 (∃ (y56 : Nat → Int → World → Prop), ∃ (k57 : Nat), y56 k57 (0 : Int) w22 ∧ ∀ (k58 : Nat) (n59 : Int) (w60 : World), y56
  k58 n59 w60 → ∀ (y62 : Bool → World → Prop), (∀ (b63 : Bool) (w64 : World), bcase b63 (∃ (k65 : Nat), k65 < k58 ∧ y56 k65 (IntKind.wrap
  IntKind.i64 (n59 + (1 : Int))) w64) (y29 n59 w64) → y62 b63 w64) → ∃ (ad68 : Addr), Value.pointer p10 = Value.pointer (some ad68) ∧ ∃ (p69
  : Option Addr), ∃ (k70 : Nat), ∃ (k71 : Nat), World.cell? w60 (Addr.add ad68 1) = some (Value.slice p69 k70 k71) ∧ bcase (decide (n59 <
  (k70 : Int))) (∃ (ad72 : Addr), Value.pointer p10 = Value.pointer (some ad72) ∧ ∃ (p73 : Option Nat), World.cell? w60 (Addr.add ad72 0) =
  some (Value.map p73) ∧ ∃ (ad74 : Addr), Value.pointer p10 = Value.pointer (some ad74) ∧ ∃ (p75 : Option Addr), ∃ (k76 : Nat), ∃ (k77 :
  Nat), World.cell? w60 (Addr.add ad74 1) = some (Value.slice p75 k76 k77) ∧ ∃ (ad78 : Addr), p75 = some ad78 ∧ ((0 : Int) ≤ n59 ∧ n59 <
  (k76 : Int)) ∧ ∃ (n79 : Int), World.cell? w60 (Addr.add (Addr.add ad78 (Int.toNat n59 * 2)) 0) = some (Value.int IntKind.i64 n79) ∧ ∀ (w80
  : World), Step w60 w80 [] [] → Calls Proofs.Try.prog (25 : Nat) { toList := [Value.map p73, Value.int IntKind.i64 n79] } w80 fun (e82 :
  Ending) (w83 : World) => ∃ (b84 : Bool), e82 = Ending.returned (Value.bool b84) ∧ Keep [k11] w80 w83 ∧ y62 b84 w83) (∀ (w85 : World), Step
  w60 w85 [] [] → y62 false w85)) (y29 ((k27 : Int)) w22)) → y20 b21 w22) → Calls Proofs.Try.prog (23 : Nat) { toList := [Value.pointer p10, Value.agg { toList := List.take 2 (List.drop 0 (sets [Value.int IntKind.i64 (0 : Int), Value.bool false] 0 (spl (spl [Value.int IntKind.i64 (0 : Int), Value.bool false] 0 [Value.int IntKind.i64 s]) 1 [Value.bool alone]))) }] }
  w19 fun (e89 : Ending) (w90 : World) => ∃ (b91 : Bool), e89 = Ending.returned (Value.bool b91) ∧ Keep [k11] w19 w90 ∧ bcase b91 (bcase b16
  (y20 true w90) (∃ (ad92 : Addr), Value.pointer p10 = Value.pointer (some ad92) ∧ ∃ (p93 : Option Addr), ∃ (k94 : Nat), ∃ (k95 : Nat),
  World.cell? w90 (Addr.add ad92 1) = some (Value.slice p93 k94 k95) ∧ y20 (decide ((k94 : Int) = (0 : Int))) w90)) (y20 false w90)) → y17
  b18 w19) → bcase b16 (bcase b15 (∀ (w98 : World), Step w9 w98 [] [k11] → y17 true w98) (∀ (w100 : World), Step w9 w100 [] [k11] → y17
  (!alone) w100)) (∀ (w102 : World), Step w9 w102 [] [k11] → y17 false w102))) → y1 b2 w3) → bcase (decide (s < (1 : Int))) (y1 true w) (y1
  (decide ((16 : Int) < s)) w)

theorem lock_Table_Ask.link {t : Addr} {s : Int} {i : Int} {alone : Bool} {R : Ending → World → Prop} {w : World} (h : lock_Table_Ask.vc t s i alone R w) : Calls Go.Proofs.Try.prog 12 #[.pointer (some t), .int .i64 s, .int .i64 i, .bool alone] w R :=
  calls_of pf (fn := Go.Proofs.Try.f12) (ann := .s (.n) (.s (.j ⟨[], [], [], [(21, .l (.b))], []⟩ (.n) (.c (.s (.n) (.n)) (.n))) (.s (.s (.n) (.s (.n) (.c (.s (.n) (.n)) (.n)))) (.s (.n) (.s (.n) (.s (.b (.j ⟨[], [], [0], [(47, .l (.b))], []⟩ (.n) (.c (.s (.n) (.n)) (.j ⟨[], [], [0], [(56, .l (.b))], []⟩ (.n) (.c (.s (.n) (.s (.n) (.n))) (.n)))))) (.s (.n) (.j ⟨[], [], [0], [(15, .l (.i .i64))], []⟩ (.s (.n) (.c (.s (.n) (.b (.l ⟨[], [], [0], [(15, .l (.i .i64))], []⟩ (.s (.j ⟨[], [], [0], [(101, .l (.b))], []⟩ (.d [0]) (.c (.n) (.n))) (.b (.n)))))) (.n))) (.s (.d [0]) (.s (.n) (.s (.n) (.n)))))))))))) (mp := false) (args := [.a t, .v (.int .i64 s), .v (.int .i64 i), .v (.bool alone)]) Go.Proofs.Try.func12 (c := Go.Proofs.Try.f12.body.getD .skip) (by kernel_rfl) (by kernel_rfl) (Eq.mp (by kernel_rfl) h)
theorem lock_Table_Ask.body : BodyOk Go.Proofs.Try.prog 12 := ⟨Go.Proofs.Try.f12, Go.Proofs.Try.func12, by kernel_rfl, pf.ng _ _ Go.Proofs.Try.func12⟩

/-! ### (*rhizome/lock.Table).Release: function 13 -/
def lock_Table_Release.vc (t : Addr) (s : Int) (R : Ending → World → Prop) (w : World) : Prop := ∀ (k1 : Nat) (y2 : Bool → World → Prop), (∀
  (b3 : Bool) (w4 : World), bcase b3 (R (Ending.returned (Value.tuple { toList := [Value.slice none 0 0, Value.int IntKind.i64 (1 : Int)] }))
  w4) (∃ (p5 : Option Nat), World.cell? w4 (Addr.add t 1) = some (Value.map p5) ∧ ∀ (w6 : World), Step w4 w6 [] [] → ∃ (k8 : Nat), ∃ (l9 :
  List (Int × Value)), p5 = some k8 ∧ MapG (Value.int IntKind.i64) w6 k8 l9 ∧ ∀ (w10 : World), MUpd (Value.int IntKind.i64) w6 w10 k8 (delM
  l9 s) → ∃ (p12 : Option Nat), World.cell? w10 (Addr.add t 0) = some (Value.map p12) ∧ Calls Proofs.Try.prog (28 : Nat) { toList := [Value.map p12] }
  w10 fun (e13 : Ending) (w14 : World) => ∃ (x15 : Value), e13 = Ending.returned x15 ∧ Keep [k1] w10 w14 ∧ Calls Proofs.Try.prog (27 : Nat)
  { toList := [x15] } w14 fun (e16 : Ending) (w17 : World) => ∃ (p18 : Option Addr), ∃ (k19 : Nat), ∃ (k20 : Nat), e16 = Ending.returned
  (Value.slice p18 k19 k20) ∧ Keep [k1] w14 w17 ∧ (Blk w17 k1 [Value.int IntKind.i64 s] → ∃ (y22 : Nat → Option Addr → Nat → Nat → Int →
  World → Prop), ∃ (k23 : Nat), y22 k23 none 0 0 (0 : Int) w17 ∧ ∀ (k24 : Nat) (p25 : Option Addr) (k26 k27 : Nat) (n28 : Int) (w29 :
  World), y22 k24 p25 k26 k27 n28 w29 → bcase (decide (n28 < (k19 : Int))) (∀ (y31 : Option Addr → Nat → Nat → World → Prop), (∀ (p32 :
  Option Addr) (k33 k34 : Nat) (w35 : World), (∃ (k36 : Nat), k36 < k24 ∧ y22 k36 p32 k33 k34 (IntKind.wrap IntKind.i64 (n28 + (1 : Int)))
  w35) → y31 p32 k33 k34 w35) → ∃ (ad39 : Addr), p18 = some ad39 ∧ ((0 : Int) ≤ n28 ∧ n28 < (k19 : Int)) ∧ ∃ (n40 : Int), World.cell? w29
  (Addr.add ad39 (Int.toNat n28 * 1)) = some (Value.int IntKind.i64 n40) ∧ ∃ (p41 : Option Nat), World.cell? w29 (Addr.add t 0) = some
  (Value.map p41) ∧ ∃ (l42 : List (Int × Value)), MapO (Value.int IntKind.i64) w29 p41 l42 ∧ ∃ (p43 : Option Addr), (∃ (b44 : Bool), LookRel
  l42 n40 (Value.pointer none) (Value.pointer p43) b44) ∧ ∀ (y45 : Bool → World → Prop), (∀ (b46 : Bool) (w47 : World), bcase b46 (y31 p25
  k26 k27 w47) (∃ (ad48 : Addr), Value.pointer p43 = Value.pointer (some ad48) ∧ ∃ (p49 : Option Nat), World.cell? w47 (Addr.add ad48 0) =
  some (Value.map p49) ∧ ∃ (n50 : Int), World.cell? w47 { block := k1, off := 0 } = some (Value.int IntKind.i64 n50) ∧ ∀ (w51 : World), Step
  w47 w51 [] [] → ∃ (k53 : Nat), ∃ (l54 : List (Int × Value)), p49 = some k53 ∧ MapG (Value.int IntKind.i64) w51 k53 l54 ∧ ∀ (w55 : World),
  MUpd (Value.int IntKind.i64) w51 w55 k53 (delM l54 n50) → ∃ (ad57 : Addr), Value.pointer p43 = Value.pointer (some ad57) ∧ ∃ (p58 : Option
  Addr), ∃ (k59 : Nat), ∃ (k60 : Nat), World.cell? w55 (Addr.add ad57 1) = some (Value.slice p58 k59 k60) ∧ Calls Proofs.Try.prog (31 : Nat)
  { toList := [Value.slice p58 k59 k60, Value.func (Fn.func 29) { toList := [] } { toList := [Value.pointer (some { block := k1, off := 0 })] }] }
  w55 fun (e61 : Ending) (w62 : World) => ∃ (p63 : Option Addr), ∃ (k64 : Nat), ∃ (k65 : Nat), e61 = Ending.returned (Value.slice p63 k64
  k65) ∧ ∃ (ad66 : Addr), Value.pointer p43 = Value.pointer (some ad66) ∧ ∃ (l67 : List Value), Blk w62 (Addr.block (Addr.add ad66 1)) l67 ∧
  Addr.spot (Addr.add ad66 1) = none ∧ Addr.off (Addr.add ad66 1) + List.length [Value.slice p63 k64 k65] ≤ List.length l67 ∧ ∀ (w68 :
  World), Upd w62 w68 (Addr.block (Addr.add ad66 1)) (sets l67 (Addr.off (Addr.add ad66 1)) [Value.slice p63 k64 k65]) → ∃ (y70 : Nat →
  Option Addr → Nat → Nat → World → Prop), ∃ (k71 : Nat), y70 k71 p25 k26 k27 w68 ∧ ∀ (k72 : Nat) (p73 : Option Addr) (k74 k75 : Nat) (w76 :
  World), y70 k72 p73 k74 k75 w76 → ∀ (y78 : Bool → World → Prop), (∀ (b79 : Bool) (w80 : World), bcase b79 (∃ (ad81 : Addr), Value.pointer
  p43 = Value.pointer (some ad81) ∧ ∃ (p82 : Option Addr), ∃ (k83 : Nat), ∃ (k84 : Nat), World.cell? w80 (Addr.add ad81 (nat_lit 1)) = some
  (Value.slice p82 k83 k84) ∧ ∃ (ad85 : Addr), p82 = some ad85 ∧ ((0 : Int) ≤ (0 : Int) ∧ (0 : Int) < (k83 : Int)) ∧ ∃ (n86 : Int), ∃ (b87 :
  Bool), (World.cell? w80 (Addr.add (Addr.add ad85 (nat_lit 0)) (nat_lit 0)) = some (Value.int IntKind.i64 n86) ∧ World.cell? w80 (Addr.add
  (Addr.add ad85 (nat_lit 0)) (nat_lit 1)) = some (Value.bool b87) ∧ True) ∧ ∀ (k88 : Nat), ∃ (ad89 : Addr), Value.pointer p43 =
  Value.pointer (some ad89) ∧ ∃ (p90 : Option Addr), ∃ (k91 : Nat), ∃ (k92 : Nat), World.cell? w80 (Addr.add ad89 (nat_lit 1)) = some
  (Value.slice p90 k91 k92) ∧ ((0 : Int) ≤ (1 : Int) ∧ (1 : Int) ≤ (k91 : Int) ∧ (k91 : Int) ≤ (k92 : Int)) ∧ ∃ (ad93 : Addr), Value.pointer
  p43 = Value.pointer (some ad93) ∧ ∀ (w94 : World), Step w80 w94 [] [k88] → ∃ (l96 : List Value), Blk w94 (Addr.block (Addr.add ad93
  (nat_lit 1))) l96 ∧ Addr.spot (Addr.add ad93 (nat_lit 1)) = none ∧ Addr.off (Addr.add ad93 (nat_lit 1)) + List.length [Value.slice (subA
  p90 (nat_lit 1) k92 (nat_lit 2)) (Int.toNat (k91 : Int) - nat_lit 1) (k92 - nat_lit 1)] ≤ List.length l96 ∧ ¬Addr.block (Addr.add ad93
  (nat_lit 1)) ∈ [k88] ∧ ∀ (w97 : World), Upd w94 w97 (Addr.block (Addr.add ad93 (nat_lit 1))) (sets l96 (Addr.off (Addr.add ad93 (nat_lit
  1))) [Value.slice (subA p90 (nat_lit 1) k92 (nat_lit 2)) (Int.toNat (k91 : Int) - nat_lit 1) (k92 - nat_lit 1)]) → Calls Proofs.Try.prog
  (24 : Nat) { toList := [Value.pointer p43, Value.agg { toList := List.take (nat_lit 2) (List.drop (nat_lit 0) (sets [Value.int IntKind.i64 (0 : Int), Value.bool false] (nat_lit 0) [Value.int IntKind.i64 n86, Value.bool b87])) }] }
  w97 fun (e99 : Ending) (w100 : World) => e99 = Ending.returned (Value.tuple { toList := [] }) ∧ Keep [k88] w97 w100 ∧ ∃ (p101 : Option
  Nat), World.cell? w100 (Addr.add t (nat_lit 1)) = some (Value.map p101) ∧ ∀ (w102 : World), Step w100 w102 [] [] → ∃ (k104 : Nat), ∃ (l105
  : List (Int × Value)), p101 = some k104 ∧ MapG (Value.int IntKind.i64) w102 k104 l105 ∧ ∀ (w106 : World), MUpd (Value.int IntKind.i64)
  w102 w106 k104 (delM l105 n86) → ∀ (k108 : Nat), appendP false [] [k108] [k88, k108] w106 p73 k74 k75 (nat_lit 1) (spl (reps [Value.int
  IntKind.i64 (0 : Int)] (nat_lit 1)) (nat_lit 0) [Value.int IntKind.i64 n86]) (nat_lit 1) (nat_lit 8) [Value.int IntKind.i64 (0 : Int)] fun
  (w109 : World) (p110 : Option Addr) (k111 k112 : Nat) => ∃ (k113 : Nat), k113 < k72 ∧ y70 k113 p110 k111 k112 w109) (∃ (ad114 : Addr),
  Value.pointer p43 = Value.pointer (some ad114) ∧ ∃ (p115 : Option Nat), World.cell? w80 (Addr.add ad114 (nat_lit 0)) = some (Value.map
  p115) ∧ ∃ (l116 : List (Int × Value)), MapO (Value.int IntKind.i64) w80 p115 l116 ∧ ∃ (ad117 : Addr), Value.pointer p43 = Value.pointer
  (some ad117) ∧ ∃ (p118 : Option Addr), ∃ (k119 : Nat), ∃ (k120 : Nat), World.cell? w80 (Addr.add ad117 (nat_lit 1)) = some (Value.slice
  p118 k119 k120) ∧ bcase (decide (IntKind.wrap IntKind.i64 (((List.length l116) : Int) + (k119 : Int)) = (0 : Int))) (∃ (p121 : Option
  Nat), World.cell? w80 (Addr.add t (nat_lit 0)) = some (Value.map p121) ∧ ∀ (w122 : World), Step w80 w122 [] [] → ∃ (k124 : Nat), ∃ (l125 :
  List (Int × Value)), p121 = some k124 ∧ MapG (Value.int IntKind.i64) w122 k124 l125 ∧ ∀ (w126 : World), MUpd (Value.int IntKind.i64) w122
  w126 k124 (delM l125 n40) → y31 p73 k74 k75 w126) (∀ (w128 : World), Step w80 w128 [] [] → y31 p73 k74 k75 w128)) → y78 b79 w80) → ∃
  (ad132 : Addr), Value.pointer p43 = Value.pointer (some ad132) ∧ ∃ (p133 : Option Addr), ∃ (k134 : Nat), ∃ (k135 : Nat), World.cell? w76
  (Addr.add ad132 (nat_lit 1)) = some (Value.slice p133 k134 k135) ∧ bcase (decide ((0 : Int) < (k134 : Int))) (∃ (ad136 : Addr),
  Value.pointer p43 = Value.pointer (some ad136) ∧ ∃ (p137 : Option Addr), ∃ (k138 : Nat), ∃ (k139 : Nat), World.cell? w76 (Addr.add ad136
  (nat_lit 1)) = some (Value.slice p137 k138 k139) ∧ ∃ (ad140 : Addr), p137 = some ad140 ∧ ((0 : Int) ≤ (0 : Int) ∧ (0 : Int) < (k138 :
  Int)) ∧ ∃ (n141 : Int), ∃ (b142 : Bool), (World.cell? w76 (Addr.add (Addr.add ad140 (nat_lit 0)) (nat_lit 0)) = some (Value.int
  IntKind.i64 n141) ∧ World.cell? w76 (Addr.add (Addr.add ad140 (nat_lit 0)) (nat_lit 1)) = some (Value.bool b142) ∧ True) ∧ Calls
  Proofs.Try.prog (23 : Nat) { toList := [Value.pointer p43, Value.agg { toList := [Value.int IntKind.i64 n141, Value.bool b142] }] } w76
  fun (e143 : Ending) (w144 : World) => ∃ (b145 : Bool), e143 = Ending.returned (Value.bool b145) ∧ y78 b145 w144) (y78 false w76)) → y45
  b46 w47) → ∃ (ad148 : Addr), Value.pointer p43 = Value.pointer (some ad148) ∧ ∃ (p149 : Option Nat), World.cell? w29 (Addr.add ad148 0) =
  some (Value.map p149) ∧ ∃ (n150 : Int), World.cell? w29 { block := k1, off := 0 } = some (Value.int IntKind.i64 n150) ∧ ∀ (w151 : World),
  Step w29 w151 [] [] → Calls Proofs.Try.prog (25 : Nat) { toList := [Value.map p149, Value.int IntKind.i64 n150] } w151 fun (e153 : Ending)
  (w154 : World) => ∃ (b155 : Bool), e153 = Ending.returned (Value.bool b155) ∧ bcase (!b155) (∃ (ad156 : Addr), Value.pointer p43 =
  Value.pointer (some ad156) ∧ ∃ (p157 : Option Addr), ∃ (k158 : Nat), ∃ (k159 : Nat), World.cell? w154 (Addr.add ad156 1) = some
  (Value.slice p157 k158 k159) ∧ Calls Proofs.Try.prog (30 : Nat) { toList := [Value.slice p157 k158 k159, Value.func (Fn.func 29) { toList := [] } { toList := [Value.pointer (some { block := k1, off := 0 })] }] }
  w154 fun (e160 : Ending) (w161 : World) => ∃ (b162 : Bool), e160 = Ending.returned (Value.bool b162) ∧ y45 (!b162) w161) (y45 false w154))
  (R (Ending.returned (Value.tuple { toList := [Value.slice p25 k26 k27, Value.int IntKind.i64 (0 : Int)] })) w29))) → y2 b3 w4) → bcase
  (decide (s < (1 : Int))) (∀ (w165 : World), Step w w165 [] [k1] → y2 true w165) (∀ (w167 : World), Step w w167 [] [k1] → y2 (decide ((16 :
  Int) < s)) w167)

theorem lock_Table_Release.link {t : Addr} {s : Int} {R : Ending → World → Prop} {w : World} (h : lock_Table_Release.vc t s R w) : Calls Go.Proofs.Try.prog 13 #[.pointer (some t), .int .i64 s] w R :=
  calls_of pf (fn := Go.Proofs.Try.f13) (ann := .s (.n) (.s (.j ⟨[], [], [0], [(17, .l (.b))], []⟩ (.n) (.c (.s (.n) (.n)) (.n))) (.s (.n) (.s (.d [0]) (.s (.s (.n) (.b (.l ⟨[], [0], [], [(6, .l (.sl)), (30, .l (.i .i64))], []⟩ (.s (.n) (.s (.c (.n) (.n)) (.j ⟨[], [], [], [(6, .l (.sl))], []⟩ (.b (.s (.n) (.s (.n) (.s (.n) (.s (.j ⟨[], [], [], [(56, .l (.b))], []⟩ (.n) (.c (.n) (.n))) (.s (.n) (.s (.n) (.s (.b (.l ⟨[], [], [], [(6, .l (.sl))], []⟩ (.s (.j ⟨[], [], [], [(86, .l (.b))], []⟩ (.n) (.c (.n) (.n))) (.b (.s (.n) (.s (.n) (.s (.n) (.s (.d [1]) (.n))))))))) (.s (.n) (.c (.n) (.n))))))))))) (.n))))))) (.s (.n) (.n))))))) (mp := false) (args := [.a t, .v (.int .i64 s)]) Go.Proofs.Try.func13 (c := Go.Proofs.Try.f13.body.getD .skip) (by kernel_rfl) (by kernel_rfl) (Eq.mp (by kernel_rfl) h)
theorem lock_Table_Release.body : BodyOk Go.Proofs.Try.prog 13 := ⟨Go.Proofs.Try.f13, Go.Proofs.Try.func13, by kernel_rfl, pf.ng _ _ Go.Proofs.Try.func13⟩

end Go.Proofs.Ytnimejocaaekaaa.VC
