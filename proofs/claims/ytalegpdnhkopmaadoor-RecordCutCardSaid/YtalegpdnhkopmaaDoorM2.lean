/- What is to be shown of functions' texts, printed by a program of this session's repo; that it gives the functions' contracts is checked by the kernel. -/
import Derived.Test.YtalegpdnhkopmaaDoorProg
import Derived.Test.YtalegpdnhkopmaaDoorPf
namespace Go.Proofs.YtalegpdnhkopmaaDoor.VC
open Go Go.V
set_option maxRecDepth 1000000
set_option linter.unusedVariables false

/-! ### rhizome/tree.New: function 58 -/
def tree_New.vc (R : Ending → World → Prop) (w : World) : Prop := ∀ (k1 : Nat) (w2 : World), Step w w2 [] [k1] → Blk w2 k1 [Value.pointer
  none] → R (Ending.returned (Value.pointer (some { block := k1, off := 0 }))) w2

theorem tree_New.link {_u : Unit} {R : Ending → World → Prop} {w : World} (h : tree_New.vc  R w) : Calls Go.Proofs.Tryd.prog 58 #[] w R :=
  calls_of pf (fn := Go.Proofs.Tryd.f58) (ann := .s (.n) (.s (.n) (.n))) (mp := false) (args := []) Go.Proofs.Tryd.func58 (c := Go.Proofs.Tryd.f58.body.getD .skip) (by kernel_rfl) (by kernel_rfl) (Eq.mp (by kernel_rfl) h)
theorem tree_New.body : BodyOk Go.Proofs.Tryd.prog 58 := ⟨Go.Proofs.Tryd.f58, Go.Proofs.Tryd.func58, by kernel_rfl, pf.ng _ _ Go.Proofs.Tryd.func58⟩

/-! ### (*rhizome/tree.Tree).Put: function 61 -/
def tree_Tree_Put.vc (t : Addr) (keyA : Option Addr) (keyL keyC : Nat) (valueA : Option Addr) (valueL valueC : Nat) (R : Ending → World →
  Prop) (w : World) : Prop := Calls Proofs.Tryd.prog (68 : Nat) { toList := [Value.pointer (some t)] } w fun (e1 : Ending) (w2 : World) => ∃
  (n3 : Int), e1 = Ending.returned (Value.int IntKind.i64 n3) ∧ ∀ (y4 : World → Prop), (∀ (w5 : World), (Calls Proofs.Tryd.prog (68 : Nat) { toList := [Value.pointer (some t)] }
  w5 fun (e6 : Ending) (w7 : World) => ∃ (n8 : Int), e6 = Ending.returned (Value.int IntKind.i64 n8) ∧ R (Ending.returned (Value.bool
  (decide (n3 < n8)))) w7) → y4 w5) → (∃ (p11 : Option Addr), World.cell? w2 (Addr.add t 0) = some (Value.pointer p11) ∧ ∀ (w12 : World),
  Step w2 w12 [] [] → Calls Proofs.Tryd.prog (110 : Nat) { toList := [Value.agg { toList := spl (spl [Value.slice none 0 0, Value.slice none 0 0] 0 [Value.slice keyA keyL keyC]) 1 [Value.slice valueA valueL valueC] }] }
  w12 fun (e14 : Ending) (w15 : World) => ∃ (p16 : Option Addr), ∃ (k17 : Nat), ∃ (k18 : Nat), ∃ (p19 : Option Addr), ∃ (k20 : Nat), ∃ (k21
  : Nat), e14 = Ending.returned (Value.agg { toList := [Value.slice p16 k17 k18, Value.slice p19 k20 k21] }) ∧ Calls Proofs.Tryd.prog (109 :
  Nat) { toList := [Value.pointer p11, Value.agg { toList := [Value.slice p16 k17 k18, Value.slice p19 k20 k21] }] } w15 fun (e22 : Ending)
  (w23 : World) => ∃ (p24 : Option Addr), e22 = Ending.returned (Value.pointer p24) ∧ ∃ (l25 : List Value), Blk w23 (Addr.block (Addr.add t
  0)) l25 ∧ Addr.spot (Addr.add t 0) = none ∧ Addr.off (Addr.add t 0) + List.length [Value.pointer p24] ≤ List.length l25 ∧ ∀ (w26 : World),
  Upd w23 w26 (Addr.block (Addr.add t 0)) (sets l25 (Addr.off (Addr.add t 0)) [Value.pointer p24]) → y4 w26) ∧ ∀ (w28 : World), Step w2 w28
  [] [] → Calls Proofs.Tryd.prog (110 : Nat) { toList := [Value.agg { toList := spl (spl [Value.slice none 0 0, Value.slice none 0 0] 0 [Value.slice keyA keyL keyC]) 1 [Value.slice valueA valueL valueC] }] }
  w28 fun (e30 : Ending) (w31 : World) => ∃ (p32 : Option Addr), ∃ (k33 : Nat), ∃ (k34 : Nat), ∃ (p35 : Option Addr), ∃ (k36 : Nat), ∃ (k37
  : Nat), e30 = Ending.returned (Value.agg { toList := [Value.slice p32 k33 k34, Value.slice p35 k36 k37] }) ∧ ∃ (p38 : Option Addr),
  World.cell? w31 (Addr.add t 0) = some (Value.pointer p38) ∧ Calls Proofs.Tryd.prog (109 : Nat) { toList := [Value.pointer p38, Value.agg { toList := [Value.slice p32 k33 k34, Value.slice p35 k36 k37] }] }
  w31 fun (e39 : Ending) (w40 : World) => ∃ (p41 : Option Addr), e39 = Ending.returned (Value.pointer p41) ∧ ∃ (l42 : List Value), Blk w40
  (Addr.block (Addr.add t 0)) l42 ∧ Addr.spot (Addr.add t 0) = none ∧ Addr.off (Addr.add t 0) + List.length [Value.pointer p41] ≤
  List.length l42 ∧ ∀ (w43 : World), Upd w40 w43 (Addr.block (Addr.add t 0)) (sets l42 (Addr.off (Addr.add t 0)) [Value.pointer p41]) → y4
  w43

theorem tree_Tree_Put.link {t : Addr} {keyA : Option Addr} {keyL keyC : Nat} {valueA : Option Addr} {valueL valueC : Nat} {R : Ending → World → Prop} {w : World} (h : tree_Tree_Put.vc t keyA keyL keyC valueA valueL valueC R w) : Calls Go.Proofs.Tryd.prog 61 #[.pointer (some t), .slice keyA keyL keyC, .slice valueA valueL valueC] w R :=
  calls_of pf (fn := Go.Proofs.Tryd.f61) (ann := .s (.n) (.s (.n) (.j ⟨[], [], [], [], []⟩ (.n) (.s (.n) (.n))))) (mp := false) (args := [.a t, .v (.slice keyA keyL keyC), .v (.slice valueA valueL valueC)]) Go.Proofs.Tryd.func61 (c := Go.Proofs.Tryd.f61.body.getD .skip) (by kernel_rfl) (by kernel_rfl) (Eq.mp (by kernel_rfl) h)
theorem tree_Tree_Put.body : BodyOk Go.Proofs.Tryd.prog 61 := ⟨Go.Proofs.Tryd.f61, Go.Proofs.Tryd.func61, by kernel_rfl, pf.ng _ _ Go.Proofs.Tryd.func61⟩

/-! ### (*rhizome/tree.Tree).Delete: function 63 -/
def tree_Tree_Delete.vc (t : Addr) (keyA : Option Addr) (keyL keyC : Nat) (R : Ending → World → Prop) (w : World) : Prop := Calls
  Proofs.Tryd.prog (111 : Nat) { toList := [Value.pointer (some t), Value.slice keyA keyL keyC] } w fun (e1 : Ending) (w2 : World) => ∃ (p3
  : Option Addr), e1 = Ending.returned (Value.pointer p3) ∧ bcase (Option.isNone p3) (R (Ending.returned (Value.bool false)) w2) (∃ (p4 :
  Option Addr), World.cell? w2 (Addr.add t 0) = some (Value.pointer p4) ∧ Calls Proofs.Tryd.prog (112 : Nat) { toList := [Value.pointer p4, Value.slice keyA keyL keyC] }
  w2 fun (e5 : Ending) (w6 : World) => ∃ (p7 : Option Addr), e5 = Ending.returned (Value.pointer p7) ∧ ∃ (l8 : List Value), Blk w6
  (Addr.block (Addr.add t 0)) l8 ∧ Addr.spot (Addr.add t 0) = none ∧ Addr.off (Addr.add t 0) + List.length [Value.pointer p7] ≤ List.length
  l8 ∧ ∀ (w9 : World), Upd w6 w9 (Addr.block (Addr.add t 0)) (sets l8 (Addr.off (Addr.add t 0)) [Value.pointer p7]) → R (Ending.returned
  (Value.bool true)) w9)

theorem tree_Tree_Delete.link {t : Addr} {keyA : Option Addr} {keyL keyC : Nat} {R : Ending → World → Prop} {w : World} (h : tree_Tree_Delete.vc t keyA keyL keyC R w) : Calls Go.Proofs.Tryd.prog 63 #[.pointer (some t), .slice keyA keyL keyC] w R :=
  calls_of pf (fn := Go.Proofs.Tryd.f63) (ann := .s (.n) (.s (.s (.n) (.c (.s (.n) (.n)) (.n))) (.s (.n) (.s (.n) (.n))))) (mp := false) (args := [.a t, .v (.slice keyA keyL keyC)]) Go.Proofs.Tryd.func63 (c := Go.Proofs.Tryd.f63.body.getD .skip) (by kernel_rfl) (by kernel_rfl) (Eq.mp (by kernel_rfl) h)
theorem tree_Tree_Delete.body : BodyOk Go.Proofs.Tryd.prog 63 := ⟨Go.Proofs.Tryd.f63, Go.Proofs.Tryd.func63, by kernel_rfl, pf.ng _ _ Go.Proofs.Tryd.func63⟩

/-! ### (*rhizome/tree.Tree).Len: function 68 -/
def tree_Tree_Len.vc (t : Addr) (R : Ending → World → Prop) (w : World) : Prop := ∃ (p1 : Option Addr), World.cell? w (Addr.add t 0) = some
  (Value.pointer p1) ∧ Calls Proofs.Tryd.prog (115 : Nat) { toList := [Value.pointer p1] } w fun (e2 : Ending) (w3 : World) => ∃ (n4 : Int),
  e2 = Ending.returned (Value.int IntKind.i64 n4) ∧ R (Ending.returned (Value.int IntKind.i64 n4)) w3

theorem tree_Tree_Len.link {t : Addr} {R : Ending → World → Prop} {w : World} (h : tree_Tree_Len.vc t R w) : Calls Go.Proofs.Tryd.prog 68 #[.pointer (some t)] w R :=
  calls_of pf (fn := Go.Proofs.Tryd.f68) (ann := .s (.n) (.s (.n) (.n))) (mp := false) (args := [.a t]) Go.Proofs.Tryd.func68 (c := Go.Proofs.Tryd.f68.body.getD .skip) (by kernel_rfl) (by kernel_rfl) (Eq.mp (by kernel_rfl) h)
theorem tree_Tree_Len.body : BodyOk Go.Proofs.Tryd.prog 68 := ⟨Go.Proofs.Tryd.f68, Go.Proofs.Tryd.func68, by kernel_rfl, pf.ng _ _ Go.Proofs.Tryd.func68⟩

/-! ### (*rhizome/tree.Tree).Rank: function 107 -/
def tree_Tree_Rank.vc (t : Addr) (keyA : Option Addr) (keyL keyC : Nat) (R : Ending → World → Prop) (w : World) : Prop := ∃ (p1 : Option
  Addr), World.cell? w (Addr.add t 0) = some (Value.pointer p1) ∧ ∃ (y2 : Nat → Int → Option Addr → World → Prop), ∃ (k3 : Nat), y2 k3 (0 :
  Int) p1 w ∧ ∀ (k4 : Nat) (n5 : Int) (p6 : Option Addr) (w7 : World), y2 k4 n5 p6 w7 → bcase (!Option.isNone p6) (∃ (ad9 : Addr),
  Value.pointer p6 = Value.pointer (some ad9) ∧ ∃ (p10 : Option Addr), ∃ (k11 : Nat), ∃ (k12 : Nat), World.cell? w7 (Addr.add (Addr.add ad9
  0) 0) = some (Value.slice p10 k11 k12) ∧ Calls Proofs.Tryd.prog (147 : Nat) { toList := [Value.slice p10 k11 k12, Value.slice keyA keyL keyC] }
  w7 fun (e13 : Ending) (w14 : World) => ∃ (n15 : Int), e13 = Ending.returned (Value.int IntKind.i64 n15) ∧ bcase (decide (n15 < (0 : Int)))
  (∃ (ad16 : Addr), Value.pointer p6 = Value.pointer (some ad16) ∧ ∃ (p17 : Option Addr), World.cell? w14 (Addr.add ad16 2) = some
  (Value.pointer p17) ∧ Calls Proofs.Tryd.prog (115 : Nat) { toList := [Value.pointer p17] } w14 fun (e18 : Ending) (w19 : World) => ∃ (n20
  : Int), e18 = Ending.returned (Value.int IntKind.i64 n20) ∧ ∃ (ad21 : Addr), Value.pointer p6 = Value.pointer (some ad21) ∧ ∃ (p22 :
  Option Addr), World.cell? w19 (Addr.add ad21 3) = some (Value.pointer p22) ∧ ∃ (k23 : Nat), k23 < k4 ∧ y2 k23 (IntKind.wrap IntKind.i64
  (n5 + IntKind.wrap IntKind.i64 (n20 + (1 : Int)))) p22 w19) (∃ (ad24 : Addr), Value.pointer p6 = Value.pointer (some ad24) ∧ ∃ (p25 :
  Option Addr), World.cell? w14 (Addr.add ad24 2) = some (Value.pointer p25) ∧ ∃ (k26 : Nat), k26 < k4 ∧ y2 k26 n5 p25 w14)) (R
  (Ending.returned (Value.int IntKind.i64 n5)) w7)

theorem tree_Tree_Rank.link {t : Addr} {keyA : Option Addr} {keyL keyC : Nat} {R : Ending → World → Prop} {w : World} (h : tree_Tree_Rank.vc t keyA keyL keyC R w) : Calls Go.Proofs.Tryd.prog 107 #[.pointer (some t), .slice keyA keyL keyC] w R :=
  calls_of pf (fn := Go.Proofs.Tryd.f107) (ann := .s (.n) (.s (.n) (.s (.s (.n) (.b (.l ⟨[], [], [], [(5, .l (.i .i64)), (6, .l (.p))], []⟩ (.s (.s (.n) (.c (.n) (.n))) (.b (.s (.n) (.c (.s (.n) (.n)) (.n)))))))) (.s (.n) (.n))))) (mp := false) (args := [.a t, .v (.slice keyA keyL keyC)]) Go.Proofs.Tryd.func107 (c := Go.Proofs.Tryd.f107.body.getD .skip) (by kernel_rfl) (by kernel_rfl) (Eq.mp (by kernel_rfl) h)
theorem tree_Tree_Rank.body : BodyOk Go.Proofs.Tryd.prog 107 := ⟨Go.Proofs.Tryd.f107, Go.Proofs.Tryd.func107, by kernel_rfl, pf.ng _ _ Go.Proofs.Tryd.func107⟩

/-! ### rhizome/tree.own: function 110 -/
def tree_own.vc (pKeyA : Option Addr) (pKeyL pKeyC : Nat) (pValueA : Option Addr) (pValueL pValueC : Nat) (R : Ending → World → Prop) (w :
  World) : Prop := ∀ (k1 k2 : Nat) (w3 : World), Step w w3 [] [k2, k1] → Calls Proofs.Tryd.prog (57 : Nat) { toList := [Value.slice pKeyA pKeyL pKeyC] }
  w3 fun (e5 : Ending) (w6 : World) => ∃ (p7 : Option Addr), ∃ (k8 : Nat), ∃ (k9 : Nat), e5 = Ending.returned (Value.slice p7 k8 k9) ∧ Keep
  [k1, k2] w3 w6 ∧ Calls Proofs.Tryd.prog (57 : Nat) { toList := [Value.slice pValueA pValueL pValueC] } w6 fun (e10 : Ending) (w11 : World)
  => ∃ (p12 : Option Addr), ∃ (k13 : Nat), ∃ (k14 : Nat), e10 = Ending.returned (Value.slice p12 k13 k14) ∧ Keep [k1, k2] w6 w11 ∧ ∀ (w15 :
  World), Step w11 w15 [k2] [] → R (Ending.returned (Value.agg { toList := List.take 2 (List.drop 0 (sets [Value.slice none 0 0, Value.slice none 0 0] 0 (spl (spl [Value.slice none 0 0, Value.slice none 0 0] 0 [Value.slice p7 k8 k9]) 1 [Value.slice p12 k13 k14]))) }))
  w15

theorem tree_own.link {pKeyA : Option Addr} {pKeyL pKeyC : Nat} {pValueA : Option Addr} {pValueL pValueC : Nat} {R : Ending → World → Prop} {w : World} (h : tree_own.vc pKeyA pKeyL pKeyC pValueA pValueL pValueC R w) : Calls Go.Proofs.Tryd.prog 110 #[(.agg #[.slice pKeyA pKeyL pKeyC, .slice pValueA pValueL pValueC] : Value)] w R :=
  calls_of pf (fn := Go.Proofs.Tryd.f110) (ann := .s (.n) (.s (.d [0]) (.n))) (mp := false) (args := [.v (.agg #[.slice pKeyA pKeyL pKeyC, .slice pValueA pValueL pValueC])]) Go.Proofs.Tryd.func110 (c := Go.Proofs.Tryd.f110.body.getD .skip) (by kernel_rfl) (by kernel_rfl) (Eq.mp (by kernel_rfl) h)
theorem tree_own.body : BodyOk Go.Proofs.Tryd.prog 110 := ⟨Go.Proofs.Tryd.f110, Go.Proofs.Tryd.func110, by kernel_rfl, pf.ng _ _ Go.Proofs.Tryd.func110⟩

/-! ### (*rhizome/tree.Tree).find: function 111 -/
def tree_Tree_find.vc (t : Addr) (keyA : Option Addr) (keyL keyC : Nat) (R : Ending → World → Prop) (w : World) : Prop := ∃ (p1 : Option
  Addr), World.cell? w (Addr.add t 0) = some (Value.pointer p1) ∧ ∀ (y2 : Option Addr → World → Prop), (∀ (p3 : Option Addr) (w4 : World), R
  (Ending.returned (Value.pointer p3)) w4 → y2 p3 w4) → ∃ (y7 : Nat → Option Addr → World → Prop), ∃ (k8 : Nat), y7 k8 p1 w ∧ ∀ (k9 : Nat)
  (p10 : Option Addr) (w11 : World), y7 k9 p10 w11 → bcase (!Option.isNone p10) (∃ (ad13 : Addr), Value.pointer p10 = Value.pointer (some
  ad13) ∧ ∃ (p14 : Option Addr), ∃ (k15 : Nat), ∃ (k16 : Nat), World.cell? w11 (Addr.add (Addr.add ad13 0) 0) = some (Value.slice p14 k15
  k16) ∧ Calls Proofs.Tryd.prog (147 : Nat) { toList := [Value.slice keyA keyL keyC, Value.slice p14 k15 k16] } w11 fun (e17 : Ending) (w18
  : World) => ∃ (n19 : Int), e17 = Ending.returned (Value.int IntKind.i64 n19) ∧ bcase (decide (n19 = (0 : Int))) (y2 p10 w18) (bcase
  (decide (n19 < (0 : Int))) (∃ (ad20 : Addr), Value.pointer p10 = Value.pointer (some ad20) ∧ ∃ (p21 : Option Addr), World.cell? w18
  (Addr.add ad20 2) = some (Value.pointer p21) ∧ ∃ (k22 : Nat), k22 < k9 ∧ y7 k22 p21 w18) (∃ (ad23 : Addr), Value.pointer p10 =
  Value.pointer (some ad23) ∧ ∃ (p24 : Option Addr), World.cell? w18 (Addr.add ad23 3) = some (Value.pointer p24) ∧ ∃ (k25 : Nat), k25 < k9
  ∧ y7 k25 p24 w18))) (y2 p10 w11)

theorem tree_Tree_find.link {t : Addr} {keyA : Option Addr} {keyL keyC : Nat} {R : Ending → World → Prop} {w : World} (h : tree_Tree_find.vc t keyA keyL keyC R w) : Calls Go.Proofs.Tryd.prog 111 #[.pointer (some t), .slice keyA keyL keyC] w R :=
  calls_of pf (fn := Go.Proofs.Tryd.f111) (ann := .s (.n) (.s (.n) (.j ⟨[], [], [], [(5, .l (.p))], []⟩ (.b (.l ⟨[], [], [], [(5, .l (.p))], []⟩ (.s (.s (.n) (.c (.n) (.n))) (.b (.s (.n) (.s (.s (.n) (.c (.n) (.n))) (.s (.n) (.c (.n) (.n))))))))) (.s (.n) (.n))))) (mp := false) (args := [.a t, .v (.slice keyA keyL keyC)]) Go.Proofs.Tryd.func111 (c := Go.Proofs.Tryd.f111.body.getD .skip) (by kernel_rfl) (by kernel_rfl) (Eq.mp (by kernel_rfl) h)
theorem tree_Tree_find.body : BodyOk Go.Proofs.Tryd.prog 111 := ⟨Go.Proofs.Tryd.f111, Go.Proofs.Tryd.func111, by kernel_rfl, pf.ng _ _ Go.Proofs.Tryd.func111⟩

/-! ### (*rhizome/tree.Tree).Range: function 114 -/
def tree_Tree_Range.vc (t : Addr) (fromA : Option Addr) (fromL fromC : Nat) (toA : Option Addr) (toL toC : Nat) (most : Int) (R : Ending →
  World → Prop) (w : World) : Prop := ∀ (y1 : Option Addr → Nat → Nat → World → Prop), (∀ (p2 : Option Addr) (k3 k4 : Nat) (w5 : World),
  (Calls Proofs.Tryd.prog (154 : Nat) { toList := [Value.slice p2 k3 k4] } w5 fun (e6 : Ending) (w7 : World) => ∃ (p8 : Option Addr), ∃ (k9
  : Nat), ∃ (k10 : Nat), e6 = Ending.returned (Value.slice p8 k9 k10) ∧ R (Ending.returned (Value.slice p8 k9 k10)) w7) → y1 p2 k3 k4 w5) →
  Calls Proofs.Tryd.prog (107 : Nat) { toList := [Value.pointer (some t), Value.slice fromA fromL fromC] } w fun (e13 : Ending) (w14 :
  World) => ∃ (n15 : Int), e13 = Ending.returned (Value.int IntKind.i64 n15) ∧ ∃ (y16 : Nat → Option Addr → Nat → Nat → Int → World → Prop),
  ∃ (k17 : Nat), y16 k17 none 0 0 n15 w14 ∧ ∀ (k18 : Nat) (p19 : Option Addr) (k20 k21 : Nat) (n22 : Int) (w23 : World), y16 k18 p19 k20 k21
  n22 w23 → ∀ (y25 : Bool → World → Prop), (∀ (b26 : Bool) (w27 : World), bcase b26 (Calls Proofs.Tryd.prog (153 : Nat) { toList := [Value.pointer (some t), Value.int IntKind.i64 n22] }
  w27 fun (e28 : Ending) (w29 : World) => ∃ (p30 : Option Addr), ∃ (k31 : Nat), ∃ (k32 : Nat), ∃ (p33 : Option Addr), ∃ (k34 : Nat), ∃ (k35
  : Nat), ∃ (n36 : Int), e28 = Ending.returned (Value.tuple { toList := [Value.agg { toList := [Value.slice p30 k31 k32, Value.slice p33 k34 k35] }, Value.int IntKind.i64 n36] })
  ∧ ∀ (k37 : Nat) (y38 : Bool → World → Prop), (∀ (b39 : Bool) (w40 : World), bcase b39 (y1 p19 k20 k21 w40) (∀ (k41 : Nat), appendP false
  [] [k41] [k37, k41] w40 p19 k20 k21 1 (spl (reps [Value.slice none 0 0, Value.slice none 0 0] 1) 0 (List.take 2 (List.drop 0 (sets
  [Value.slice none 0 0, Value.slice none 0 0] 0 [Value.slice p30 k31 k32, Value.slice p33 k34 k35])))) 2 48 [Value.slice none 0 0,
  Value.slice none 0 0] fun (w42 : World) (p43 : Option Addr) (k44 k45 : Nat) => ∃ (k46 : Nat), k46 < k18 ∧ y16 k46 p43 k44 k45
  (IntKind.wrap IntKind.i64 (n22 + (1 : Int))) w42) → y38 b39 w40) → bcase (decide ((0 : Int) < (toL : Int))) (∀ (w49 : World), Step w29 w49
  [] [k37] → Calls Proofs.Tryd.prog (147 : Nat) { toList := [Value.slice p30 k31 k32, Value.slice toA toL toC] } w49 fun (e51 : Ending) (w52
  : World) => ∃ (n53 : Int), e51 = Ending.returned (Value.int IntKind.i64 n53) ∧ Keep [k37] w49 w52 ∧ y38 (decide ((0 : Int) ≤ n53)) w52) (∀
  (w54 : World), Step w29 w54 [] [k37] → y38 false w54)) (y1 p19 k20 k21 w27) → y25 b26 w27) → Calls Proofs.Tryd.prog (68 : Nat) { toList := [Value.pointer (some t)] }
  w23 fun (e58 : Ending) (w59 : World) => ∃ (n60 : Int), e58 = Ending.returned (Value.int IntKind.i64 n60) ∧ bcase (decide (n22 < n60)) (y25
  (decide ((k20 : Int) < most)) w59) (y25 false w59)

theorem tree_Tree_Range.link {t : Addr} {fromA : Option Addr} {fromL fromC : Nat} {toA : Option Addr} {toL toC : Nat} {most : Int} {R : Ending → World → Prop} {w : World} (h : tree_Tree_Range.vc t fromA fromL fromC toA toL toC most R w) : Calls Go.Proofs.Tryd.prog 114 #[.pointer (some t), .slice fromA fromL fromC, .slice toA toL toC, .int .i64 most] w R :=
  calls_of pf (fn := Go.Proofs.Tryd.f114) (ann := .s (.n) (.s (.n) (.j ⟨[], [], [], [(9, .l (.sl))], []⟩ (.s (.n) (.b (.l ⟨[], [], [], [(9, .l (.sl)), (10, .l (.i .i64))], []⟩ (.s (.j ⟨[], [], [], [(25, .l (.b))], []⟩ (.n) (.c (.n) (.n))) (.s (.b (.s (.n) (.s (.j ⟨[], [], [0], [(43, .l (.b))], []⟩ (.n) (.c (.n) (.n))) (.n)))) (.n)))))) (.s (.n) (.n))))) (mp := false) (args := [.a t, .v (.slice fromA fromL fromC), .v (.slice toA toL toC), .v (.int .i64 most)]) Go.Proofs.Tryd.func114 (c := Go.Proofs.Tryd.f114.body.getD .skip) (by kernel_rfl) (by kernel_rfl) (Eq.mp (by kernel_rfl) h)
theorem tree_Tree_Range.body : BodyOk Go.Proofs.Tryd.prog 114 := ⟨Go.Proofs.Tryd.f114, Go.Proofs.Tryd.func114, by kernel_rfl, pf.ng _ _ Go.Proofs.Tryd.func114⟩

/-! ### (*rhizome/tree.Tree).Get: function 116 -/
def tree_Tree_Get.vc (t : Addr) (keyA : Option Addr) (keyL keyC : Nat) (R : Ending → World → Prop) (w : World) : Prop := Calls
  Proofs.Tryd.prog (111 : Nat) { toList := [Value.pointer (some t), Value.slice keyA keyL keyC] } w fun (e1 : Ending) (w2 : World) => ∃ (p3
  : Option Addr), e1 = Ending.returned (Value.pointer p3) ∧ bcase (Option.isNone p3) (R (Ending.returned (Value.tuple { toList := [Value.slice none 0 0, Value.bool false] }))
  w2) (∃ (ad4 : Addr), Value.pointer p3 = Value.pointer (some ad4) ∧ ∃ (p5 : Option Addr), ∃ (k6 : Nat), ∃ (k7 : Nat), World.cell? w2
  (Addr.add (Addr.add ad4 0) 1) = some (Value.slice p5 k6 k7) ∧ Calls Proofs.Tryd.prog (57 : Nat) { toList := [Value.slice p5 k6 k7] } w2
  fun (e8 : Ending) (w9 : World) => ∃ (p10 : Option Addr), ∃ (k11 : Nat), ∃ (k12 : Nat), e8 = Ending.returned (Value.slice p10 k11 k12) ∧ R
  (Ending.returned (Value.tuple { toList := [Value.slice p10 k11 k12, Value.bool true] })) w9)

theorem tree_Tree_Get.link {t : Addr} {keyA : Option Addr} {keyL keyC : Nat} {R : Ending → World → Prop} {w : World} (h : tree_Tree_Get.vc t keyA keyL keyC R w) : Calls Go.Proofs.Tryd.prog 116 #[.pointer (some t), .slice keyA keyL keyC] w R :=
  calls_of pf (fn := Go.Proofs.Tryd.f116) (ann := .s (.n) (.s (.n) (.s (.s (.n) (.c (.s (.n) (.n)) (.n))) (.s (.n) (.n))))) (mp := false) (args := [.a t, .v (.slice keyA keyL keyC)]) Go.Proofs.Tryd.func116 (c := Go.Proofs.Tryd.f116.body.getD .skip) (by kernel_rfl) (by kernel_rfl) (Eq.mp (by kernel_rfl) h)
theorem tree_Tree_Get.body : BodyOk Go.Proofs.Tryd.prog 116 := ⟨Go.Proofs.Tryd.f116, Go.Proofs.Tryd.func116, by kernel_rfl, pf.ng _ _ Go.Proofs.Tryd.func116⟩

/-! ### (*rhizome/tree.Tree).At: function 153 -/
def tree_Tree_At.vc (t : Addr) (i : Int) (R : Ending → World → Prop) (w : World) : Prop := ∀ (k1 : Nat) (y2 : Bool → World → Prop), (∀ (b3 :
  Bool) (w4 : World), bcase b3 (∀ (w5 : World), Step w4 w5 [k1] [] → R (Ending.returned (Value.tuple { toList := [Value.agg { toList := List.take 2 (List.drop 0 (sets [Value.slice none 0 0, Value.slice none 0 0] 0 [Value.slice none 0 0, Value.slice none 0 0])) }, Value.int IntKind.i64 (1 : Int)] }))
  w5) (∃ (p7 : Option Addr), World.cell? w4 (Addr.add t 0) = some (Value.pointer p7) ∧ ∃ (y8 : Nat → Int → Option Addr → World → Prop), ∃
  (k9 : Nat), y8 k9 i p7 w4 ∧ ∀ (k10 : Nat) (n11 : Int) (p12 : Option Addr) (w13 : World), y8 k10 n11 p12 w13 → ∃ (ad15 : Addr),
  Value.pointer p12 = Value.pointer (some ad15) ∧ ∃ (p16 : Option Addr), World.cell? w13 (Addr.add ad15 2) = some (Value.pointer p16) ∧
  Calls Proofs.Tryd.prog (115 : Nat) { toList := [Value.pointer p16] } w13 fun (e17 : Ending) (w18 : World) => ∃ (n19 : Int), e17 =
  Ending.returned (Value.int IntKind.i64 n19) ∧ Keep [k1] w13 w18 ∧ bcase (decide (n11 < n19)) (∃ (ad20 : Addr), Value.pointer p12 =
  Value.pointer (some ad20) ∧ ∃ (p21 : Option Addr), World.cell? w18 (Addr.add ad20 2) = some (Value.pointer p21) ∧ ∃ (k22 : Nat), k22 < k10
  ∧ y8 k22 n11 p21 w18) (bcase (decide (n11 = n19)) (∃ (ad23 : Addr), Value.pointer p12 = Value.pointer (some ad23) ∧ ∃ (p24 : Option Addr),
  ∃ (k25 : Nat), ∃ (k26 : Nat), ∃ (p27 : Option Addr), ∃ (k28 : Nat), ∃ (k29 : Nat), (World.cell? w18 (Addr.add (Addr.add ad23 0) 0) = some
  (Value.slice p24 k25 k26) ∧ World.cell? w18 (Addr.add (Addr.add ad23 0) 1) = some (Value.slice p27 k28 k29) ∧ True) ∧ Calls
  Proofs.Tryd.prog (110 : Nat) { toList := [Value.agg { toList := [Value.slice p24 k25 k26, Value.slice p27 k28 k29] }] } w18 fun (e30 :
  Ending) (w31 : World) => ∃ (p32 : Option Addr), ∃ (k33 : Nat), ∃ (k34 : Nat), ∃ (p35 : Option Addr), ∃ (k36 : Nat), ∃ (k37 : Nat), e30 =
  Ending.returned (Value.agg { toList := [Value.slice p32 k33 k34, Value.slice p35 k36 k37] }) ∧ Keep [k1] w18 w31 ∧ ∀ (w38 : World), Step
  w31 w38 [k1] [] → R (Ending.returned (Value.tuple { toList := [Value.agg { toList := List.take 2 (List.drop 0 (sets [Value.slice none 0 0, Value.slice none 0 0] 0 [Value.slice p32 k33 k34, Value.slice p35 k36 k37])) }, Value.int IntKind.i64 (0 : Int)] }))
  w38) (∃ (ad40 : Addr), Value.pointer p12 = Value.pointer (some ad40) ∧ ∃ (p41 : Option Addr), World.cell? w18 (Addr.add ad40 3) = some
  (Value.pointer p41) ∧ ∃ (k42 : Nat), k42 < k10 ∧ y8 k42 (IntKind.wrap IntKind.i64 (n11 - IntKind.wrap IntKind.i64 (n19 + (1 : Int)))) p41
  w18))) → y2 b3 w4) → bcase (decide (i < (0 : Int))) (∀ (w45 : World), Step w w45 [] [k1] → y2 true w45) (∀ (w47 : World), Step w w47 []
  [k1] → Calls Proofs.Tryd.prog (68 : Nat) { toList := [Value.pointer (some t)] } w47 fun (e49 : Ending) (w50 : World) => ∃ (n51 : Int), e49
  = Ending.returned (Value.int IntKind.i64 n51) ∧ Keep [k1] w47 w50 ∧ y2 (decide (n51 ≤ i)) w50)

theorem tree_Tree_At.link {t : Addr} {i : Int} {R : Ending → World → Prop} {w : World} (h : tree_Tree_At.vc t i R w) : Calls Go.Proofs.Tryd.prog 153 #[.pointer (some t), .int .i64 i] w R :=
  calls_of pf (fn := Go.Proofs.Tryd.f153) (ann := .s (.n) (.s (.j ⟨[], [], [0], [(15, .l (.b))], []⟩ (.n) (.c (.s (.n) (.n)) (.n))) (.s (.n) (.b (.l ⟨[], [], [0], [(1, .l (.i .i64)), (6, .l (.p))], []⟩ (.b (.s (.n) (.b (.s (.n) (.c (.n) (.s (.n) (.c (.s (.n) (.n)) (.s (.n) (.n)))))))))))))) (mp := false) (args := [.a t, .v (.int .i64 i)]) Go.Proofs.Tryd.func153 (c := Go.Proofs.Tryd.f153.body.getD .skip) (by kernel_rfl) (by kernel_rfl) (Eq.mp (by kernel_rfl) h)
theorem tree_Tree_At.body : BodyOk Go.Proofs.Tryd.prog 153 := ⟨Go.Proofs.Tryd.f153, Go.Proofs.Tryd.func153, by kernel_rfl, pf.ng _ _ Go.Proofs.Tryd.func153⟩

/-! ### slices.Clip[[]rhizome/tree.Pair,rhizome/tree.Pair]: function 154 -/
def slices_Clip_g_tree_Pair.vc (sA : Option Addr) (sL sC : Nat) (R : Ending → World → Prop) (w : World) : Prop := ((0 : Int) ≤ (0 : Int) ∧
  (0 : Int) ≤ (sL : Int) ∧ (sL : Int) ≤ (sL : Int) ∧ (sL : Int) ≤ (sC : Int)) ∧ R (Ending.returned (Value.slice (subA sA 0 (Int.toNat (sL :
  Int)) 2) (Int.toNat (sL : Int) - 0) (Int.toNat (sL : Int) - 0))) w

theorem slices_Clip_g_tree_Pair.link {sA : Option Addr} {sL sC : Nat} {R : Ending → World → Prop} {w : World} (h : slices_Clip_g_tree_Pair.vc sA sL sC R w) : Calls Go.Proofs.Tryd.prog 154 #[.slice sA sL sC] w R :=
  calls_of pf (fn := Go.Proofs.Tryd.f154) (ann := .s (.n) (.s (.n) (.n))) (mp := false) (args := [.v (.slice sA sL sC)]) Go.Proofs.Tryd.func154 (c := Go.Proofs.Tryd.f154.body.getD .skip) (by kernel_rfl) (by kernel_rfl) (Eq.mp (by kernel_rfl) h)
theorem slices_Clip_g_tree_Pair.body : BodyOk Go.Proofs.Tryd.prog 154 := ⟨Go.Proofs.Tryd.f154, Go.Proofs.Tryd.func154, by kernel_rfl, pf.ng _ _ Go.Proofs.Tryd.func154⟩

/-! ### slices.Clone[[]byte,byte]: function 57 -/
def slices_Clone_g_byte.vc (sA : Option Addr) (sL sC : Nat) (R : Ending → World → Prop) (w : World) : Prop := bcase (Option.isNone sA) (R
  (Ending.returned (Value.slice none 0 0)) w) (∀ (k1 : Nat) (w2 : World), Step w w2 [] [k1] → Blk w2 k1 (reps [Value.int IntKind.u8 (0 :
  Int)] 0) → ∃ (l5 : List Value), List.length l5 = sL * 1 ∧ Row w2 sA l5 ∧ appendP true [] [] [] w2 (some { block := k1, off := 0 }) 0 0 sL
  l5 1 1 [Value.int IntKind.u8 (0 : Int)] fun (w6 : World) (p7 : Option Addr) (k8 k9 : Nat) => R (Ending.returned (Value.slice p7 k8 k9))
  w6)

theorem slices_Clone_g_byte.link {sA : Option Addr} {sL sC : Nat} {R : Ending → World → Prop} {w : World} (h : slices_Clone_g_byte.vc sA sL sC R w) : Calls Go.Proofs.Tryd.prog 57 #[.slice sA sL sC] w R :=
  calls_of pf (fn := Go.Proofs.Tryd.f57) (ann := .s (.n) (.s (.s (.n) (.c (.s (.n) (.n)) (.n))) (.s (.n) (.n)))) (mp := false) (args := [.v (.slice sA sL sC)]) Go.Proofs.Tryd.func57 (c := Go.Proofs.Tryd.f57.body.getD .skip) (by kernel_rfl) (by kernel_rfl) (Eq.mp (by kernel_rfl) h)
theorem slices_Clone_g_byte.body : BodyOk Go.Proofs.Tryd.prog 57 := ⟨Go.Proofs.Tryd.f57, Go.Proofs.Tryd.func57, by kernel_rfl, pf.ng _ _ Go.Proofs.Tryd.func57⟩

/-! ### bytes.Compare: function 147 -/
def bytes_Compare.vc (aA : Option Addr) (aL aC : Nat) (bA : Option Addr) (bL bC : Nat) (R : Ending → World → Prop) (w : World) : Prop := ∃
  (n1 : Int), ∃ (w2 : World), Sem.run Proofs.Tryd.prog (callFunc 164 { toList := [Value.slice aA aL aC, Value.slice bA bL bC] }) w =
  Result.ok (Next.value (Value.int IntKind.i64 n1)) w2 ∧ R (Ending.returned (Value.int IntKind.i64 n1)) w2

theorem bytes_Compare.link {aA : Option Addr} {aL aC : Nat} {bA : Option Addr} {bL bC : Nat} {R : Ending → World → Prop} {w : World} (h : bytes_Compare.vc aA aL aC bA bL bC R w) : Calls Go.Proofs.Tryd.prog 147 #[.slice aA aL aC, .slice bA bL bC] w R :=
  calls_of pf (fn := Go.Proofs.Tryd.f147) (ann := .s (.n) (.s (.n) (.n))) (mp := false) (args := [.v (.slice aA aL aC), .v (.slice bA bL bC)]) Go.Proofs.Tryd.func147 (c := Go.Proofs.Tryd.f147.body.getD .skip) (by kernel_rfl) (by kernel_rfl) (Eq.mp (by kernel_rfl) h)
theorem bytes_Compare.body : BodyOk Go.Proofs.Tryd.prog 147 := ⟨Go.Proofs.Tryd.f147, Go.Proofs.Tryd.func147, by kernel_rfl, pf.ng _ _ Go.Proofs.Tryd.func147⟩

end Go.Proofs.YtalegpdnhkopmaaDoor.VC
