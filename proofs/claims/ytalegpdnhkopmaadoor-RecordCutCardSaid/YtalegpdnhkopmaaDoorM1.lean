/- What is to be shown of functions' texts, printed by a program of this session's repo; that it gives the functions' contracts is checked by the kernel. -/
import Derived.Test.YtalegpdnhkopmaaDoorProg
import Derived.Test.YtalegpdnhkopmaaDoorPf
namespace Go.Proofs.YtalegpdnhkopmaaDoor.VC
open Go Go.V
set_option maxRecDepth 1000000
set_option linter.unusedVariables false

/-! ### rhizome/tree.depth: function 166 -/
def tree_depth.vc (n : Option Addr) (R : Ending → World → Prop) (w : World) : Prop := bcase (Option.isNone n) (R (Ending.returned (Value.int
  IntKind.i64 (0 : Int))) w) (∃ (ad1 : Addr), Value.pointer n = Value.pointer (some ad1) ∧ ∃ (n2 : Int), World.cell? w (Addr.add ad1 4) =
  some (Value.int IntKind.i64 n2) ∧ R (Ending.returned (Value.int IntKind.i64 n2)) w)

theorem tree_depth.link {n : Option Addr} {R : Ending → World → Prop} {w : World} (h : tree_depth.vc n R w) : Calls Go.Proofs.Tryd.prog 166 #[(.pointer n : Value)] w R :=
  calls_of pf (fn := Go.Proofs.Tryd.f166) (ann := .s (.n) (.s (.s (.n) (.c (.s (.n) (.n)) (.n))) (.s (.n) (.n)))) (mp := false) (args := [.v (.pointer n)]) Go.Proofs.Tryd.func166 (c := Go.Proofs.Tryd.f166.body.getD .skip) (by kernel_rfl) (by kernel_rfl) (Eq.mp (by kernel_rfl) h)
theorem tree_depth.body : BodyOk Go.Proofs.Tryd.prog 166 := ⟨Go.Proofs.Tryd.f166, Go.Proofs.Tryd.func166, by kernel_rfl, pf.ng _ _ Go.Proofs.Tryd.func166⟩

/-! ### rhizome/tree.count: function 115 -/
def tree_count.vc (n : Option Addr) (R : Ending → World → Prop) (w : World) : Prop := bcase (Option.isNone n) (R (Ending.returned (Value.int
  IntKind.i64 (0 : Int))) w) (∃ (ad1 : Addr), Value.pointer n = Value.pointer (some ad1) ∧ ∃ (n2 : Int), World.cell? w (Addr.add ad1 5) =
  some (Value.int IntKind.i64 n2) ∧ R (Ending.returned (Value.int IntKind.i64 n2)) w)

theorem tree_count.link {n : Option Addr} {R : Ending → World → Prop} {w : World} (h : tree_count.vc n R w) : Calls Go.Proofs.Tryd.prog 115 #[(.pointer n : Value)] w R :=
  calls_of pf (fn := Go.Proofs.Tryd.f115) (ann := .s (.n) (.s (.s (.n) (.c (.s (.n) (.n)) (.n))) (.s (.n) (.n)))) (mp := false) (args := [.v (.pointer n)]) Go.Proofs.Tryd.func115 (c := Go.Proofs.Tryd.f115.body.getD .skip) (by kernel_rfl) (by kernel_rfl) (Eq.mp (by kernel_rfl) h)
theorem tree_count.body : BodyOk Go.Proofs.Tryd.prog 115 := ⟨Go.Proofs.Tryd.f115, Go.Proofs.Tryd.func115, by kernel_rfl, pf.ng _ _ Go.Proofs.Tryd.func115⟩

/-! ### rhizome/tree.join: function 149 -/
def tree_join.vc (left : Option Addr) (pKeyA : Option Addr) (pKeyL pKeyC : Nat) (pValueA : Option Addr) (pValueL pValueC : Nat) (right :
  Option Addr) (R : Ending → World → Prop) (w : World) : Prop := ∀ (k1 : Nat) (w2 : World), Step w w2 [] [k1] → Calls Proofs.Tryd.prog (166
  : Nat) { toList := [Value.pointer left] } w2 fun (e4 : Ending) (w5 : World) => ∃ (n6 : Int), e4 = Ending.returned (Value.int IntKind.i64
  n6) ∧ Keep [k1] w2 w5 ∧ Calls Proofs.Tryd.prog (166 : Nat) { toList := [Value.pointer right] } w5 fun (e7 : Ending) (w8 : World) => ∃ (n9
  : Int), e7 = Ending.returned (Value.int IntKind.i64 n9) ∧ Keep [k1] w5 w8 ∧ Calls Proofs.Tryd.prog (115 : Nat) { toList := [Value.pointer left] }
  w8 fun (e10 : Ending) (w11 : World) => ∃ (n12 : Int), e10 = Ending.returned (Value.int IntKind.i64 n12) ∧ Keep [k1] w8 w11 ∧ Calls
  Proofs.Tryd.prog (115 : Nat) { toList := [Value.pointer right] } w11 fun (e13 : Ending) (w14 : World) => ∃ (n15 : Int), e13 =
  Ending.returned (Value.int IntKind.i64 n15) ∧ Keep [k1] w11 w14 ∧ ∀ (k16 : Nat) (w17 : World), Step w14 w17 [] [k16] → Blk w17 k16 (spl
  (spl (spl (spl (spl [Value.slice none 0 0, Value.slice none 0 0, Value.pointer none, Value.pointer none, Value.int IntKind.i64 (0 : Int),
  Value.int IntKind.i64 (0 : Int)] 0 [Value.slice pKeyA pKeyL pKeyC, Value.slice pValueA pValueL pValueC]) 2 [Value.pointer left]) 3
  [Value.pointer right]) 4 [Value.int IntKind.i64 (IntKind.wrap IntKind.i64 ((1 : Int) + if n9 > n6 then n9 else n6))]) 5 [Value.int
  IntKind.i64 (IntKind.wrap IntKind.i64 (IntKind.wrap IntKind.i64 ((1 : Int) + n12) + n15))]) → R (Ending.returned (Value.pointer (some
  { block := k16, off := 0 }))) w17

theorem tree_join.link {left : Option Addr} {pKeyA : Option Addr} {pKeyL pKeyC : Nat} {pValueA : Option Addr} {pValueL pValueC : Nat} {right : Option Addr} {R : Ending → World → Prop} {w : World} (h : tree_join.vc left pKeyA pKeyL pKeyC pValueA pValueL pValueC right R w) : Calls Go.Proofs.Tryd.prog 149 #[(.pointer left : Value), (.agg #[.slice pKeyA pKeyL pKeyC, .slice pValueA pValueL pValueC] : Value), (.pointer right : Value)] w R :=
  calls_of pf (fn := Go.Proofs.Tryd.f149) (ann := .s (.n) (.s (.d [0]) (.n))) (mp := false) (args := [.v (.pointer left), .v (.agg #[.slice pKeyA pKeyL pKeyC, .slice pValueA pValueL pValueC]), .v (.pointer right)]) Go.Proofs.Tryd.func149 (c := Go.Proofs.Tryd.f149.body.getD .skip) (by kernel_rfl) (by kernel_rfl) (Eq.mp (by kernel_rfl) h)
theorem tree_join.body : BodyOk Go.Proofs.Tryd.prog 149 := ⟨Go.Proofs.Tryd.f149, Go.Proofs.Tryd.func149, by kernel_rfl, pf.ng _ _ Go.Proofs.Tryd.func149⟩

/-! ### rhizome/tree.balanced: function 150 -/
def tree_balanced.vc (l : Option Addr) (pKeyA : Option Addr) (pKeyL pKeyC : Nat) (pValueA : Option Addr) (pValueL pValueC : Nat) (r : Option
  Addr) (R : Ending → World → Prop) (w : World) : Prop := ∀ (k1 : Nat) (w2 : World), Step w w2 [] [k1] → Calls Proofs.Tryd.prog (166 : Nat)
  { toList := [Value.pointer l] } w2 fun (e4 : Ending) (w5 : World) => ∃ (n6 : Int), e4 = Ending.returned (Value.int IntKind.i64 n6) ∧ Keep
  [k1] w2 w5 ∧ Calls Proofs.Tryd.prog (166 : Nat) { toList := [Value.pointer r] } w5 fun (e7 : Ending) (w8 : World) => ∃ (n9 : Int), e7 =
  Ending.returned (Value.int IntKind.i64 n9) ∧ Keep [k1] w5 w8 ∧ bcase (decide (IntKind.wrap IntKind.i64 (n9 + (1 : Int)) < n6)) (∀ (y10 :
  Bool → World → Prop), (∀ (b11 : Bool) (w12 : World), bcase b11 (∀ (y13 : Option Addr → World → Prop), (∀ (p14 : Option Addr) (w15 :
  World), R (Ending.returned (Value.pointer p14)) w15 → y13 p14 w15) → ∃ (ad18 : Addr), Value.pointer l = Value.pointer (some ad18) ∧ ∃
  (ad19 : Addr), Value.pointer l = Value.pointer (some ad19) ∧ ∃ (ad20 : Addr), Value.pointer l = Value.pointer (some ad20) ∧ ∃ (p21 :
  Option Addr), World.cell? w12 (Addr.add ad20 3) = some (Value.pointer p21) ∧ (∃ (p22 : Option Addr), World.cell? w12 (Addr.add ad18 2) =
  some (Value.pointer p22) ∧ (∃ (p23 : Option Addr), ∃ (k24 : Nat), ∃ (k25 : Nat), ∃ (p26 : Option Addr), ∃ (k27 : Nat), ∃ (k28 : Nat),
  (World.cell? w12 (Addr.add (Addr.add ad19 0) 0) = some (Value.slice p23 k24 k25) ∧ World.cell? w12 (Addr.add (Addr.add ad19 0) 1) = some
  (Value.slice p26 k27 k28) ∧ True) ∧ ∀ (w29 : World), Step w12 w29 [] [] → Calls Proofs.Tryd.prog (149 : Nat) { toList := [Value.pointer p21, Value.agg { toList := [Value.slice pKeyA pKeyL pKeyC, Value.slice pValueA pValueL pValueC] }, Value.pointer r] }
  w29 fun (e31 : Ending) (w32 : World) => ∃ (p33 : Option Addr), e31 = Ending.returned (Value.pointer p33) ∧ Keep [k1] w29 w32 ∧ Calls
  Proofs.Tryd.prog (149 : Nat) { toList := [Value.pointer p22, Value.agg { toList := [Value.slice p23 k24 k25, Value.slice p26 k27 k28] }, Value.pointer p33] }
  w32 fun (e34 : Ending) (w35 : World) => ∃ (p36 : Option Addr), e34 = Ending.returned (Value.pointer p36) ∧ Keep [k1] w32 w35 ∧ y13 p36
  w35) ∧ ∀ (w37 : World), Step w12 w37 [] [] → Calls Proofs.Tryd.prog (149 : Nat) { toList := [Value.pointer p21, Value.agg { toList := [Value.slice pKeyA pKeyL pKeyC, Value.slice pValueA pValueL pValueC] }, Value.pointer r] }
  w37 fun (e39 : Ending) (w40 : World) => ∃ (p41 : Option Addr), e39 = Ending.returned (Value.pointer p41) ∧ Keep [k1] w37 w40 ∧ ∃ (p42 :
  Option Addr), ∃ (k43 : Nat), ∃ (k44 : Nat), ∃ (p45 : Option Addr), ∃ (k46 : Nat), ∃ (k47 : Nat), (World.cell? w40 (Addr.add (Addr.add ad19
  0) 0) = some (Value.slice p42 k43 k44) ∧ World.cell? w40 (Addr.add (Addr.add ad19 0) 1) = some (Value.slice p45 k46 k47) ∧ True) ∧ Calls
  Proofs.Tryd.prog (149 : Nat) { toList := [Value.pointer p22, Value.agg { toList := [Value.slice p42 k43 k44, Value.slice p45 k46 k47] }, Value.pointer p41] }
  w40 fun (e48 : Ending) (w49 : World) => ∃ (p50 : Option Addr), e48 = Ending.returned (Value.pointer p50) ∧ Keep [k1] w40 w49 ∧ y13 p50
  w49) ∧ (∃ (p51 : Option Addr), ∃ (k52 : Nat), ∃ (k53 : Nat), ∃ (p54 : Option Addr), ∃ (k55 : Nat), ∃ (k56 : Nat), (World.cell? w12
  (Addr.add (Addr.add ad19 0) 0) = some (Value.slice p51 k52 k53) ∧ World.cell? w12 (Addr.add (Addr.add ad19 0) 1) = some (Value.slice p54
  k55 k56) ∧ True) ∧ (∃ (p57 : Option Addr), World.cell? w12 (Addr.add ad18 2) = some (Value.pointer p57) ∧ ∀ (w58 : World), Step w12 w58 []
  [] → Calls Proofs.Tryd.prog (149 : Nat) { toList := [Value.pointer p21, Value.agg { toList := [Value.slice pKeyA pKeyL pKeyC, Value.slice pValueA pValueL pValueC] }, Value.pointer r] }
  w58 fun (e60 : Ending) (w61 : World) => ∃ (p62 : Option Addr), e60 = Ending.returned (Value.pointer p62) ∧ Keep [k1] w58 w61 ∧ Calls
  Proofs.Tryd.prog (149 : Nat) { toList := [Value.pointer p57, Value.agg { toList := [Value.slice p51 k52 k53, Value.slice p54 k55 k56] }, Value.pointer p62] }
  w61 fun (e63 : Ending) (w64 : World) => ∃ (p65 : Option Addr), e63 = Ending.returned (Value.pointer p65) ∧ Keep [k1] w61 w64 ∧ y13 p65
  w64) ∧ ∀ (w66 : World), Step w12 w66 [] [] → Calls Proofs.Tryd.prog (149 : Nat) { toList := [Value.pointer p21, Value.agg { toList := [Value.slice pKeyA pKeyL pKeyC, Value.slice pValueA pValueL pValueC] }, Value.pointer r] }
  w66 fun (e68 : Ending) (w69 : World) => ∃ (p70 : Option Addr), e68 = Ending.returned (Value.pointer p70) ∧ Keep [k1] w66 w69 ∧ ∃ (p71 :
  Option Addr), World.cell? w69 (Addr.add ad18 2) = some (Value.pointer p71) ∧ Calls Proofs.Tryd.prog (149 : Nat) { toList := [Value.pointer p71, Value.agg { toList := [Value.slice p51 k52 k53, Value.slice p54 k55 k56] }, Value.pointer p70] }
  w69 fun (e72 : Ending) (w73 : World) => ∃ (p74 : Option Addr), e72 = Ending.returned (Value.pointer p74) ∧ Keep [k1] w69 w73 ∧ y13 p74
  w73) ∧ ∀ (w75 : World), Step w12 w75 [] [] → Calls Proofs.Tryd.prog (149 : Nat) { toList := [Value.pointer p21, Value.agg { toList := [Value.slice pKeyA pKeyL pKeyC, Value.slice pValueA pValueL pValueC] }, Value.pointer r] }
  w75 fun (e77 : Ending) (w78 : World) => ∃ (p79 : Option Addr), e77 = Ending.returned (Value.pointer p79) ∧ Keep [k1] w75 w78 ∧ ∃ (p80 :
  Option Addr), World.cell? w78 (Addr.add ad18 2) = some (Value.pointer p80) ∧ ∃ (p81 : Option Addr), ∃ (k82 : Nat), ∃ (k83 : Nat), ∃ (p84 :
  Option Addr), ∃ (k85 : Nat), ∃ (k86 : Nat), (World.cell? w78 (Addr.add (Addr.add ad19 0) 0) = some (Value.slice p81 k82 k83) ∧ World.cell?
  w78 (Addr.add (Addr.add ad19 0) 1) = some (Value.slice p84 k85 k86) ∧ True) ∧ Calls Proofs.Tryd.prog (149 : Nat) { toList := [Value.pointer p80, Value.agg { toList := [Value.slice p81 k82 k83, Value.slice p84 k85 k86] }, Value.pointer p79] }
  w78 fun (e87 : Ending) (w88 : World) => ∃ (p89 : Option Addr), e87 = Ending.returned (Value.pointer p89) ∧ Keep [k1] w78 w88 ∧ y13 p89
  w88) (∃ (ad90 : Addr), Value.pointer l = Value.pointer (some ad90) ∧ ∃ (p91 : Option Addr), World.cell? w12 (Addr.add ad90 3) = some
  (Value.pointer p91) ∧ ∀ (y92 : Option Addr → World → Prop), (∀ (p93 : Option Addr) (w94 : World), R (Ending.returned (Value.pointer p93))
  w94 → y92 p93 w94) → ∃ (ad97 : Addr), Value.pointer l = Value.pointer (some ad97) ∧ ∃ (p98 : Option Addr), World.cell? w12 (Addr.add ad97
  2) = some (Value.pointer p98) ∧ ∃ (ad99 : Addr), Value.pointer l = Value.pointer (some ad99) ∧ ∃ (p100 : Option Addr), ∃ (k101 : Nat), ∃
  (k102 : Nat), ∃ (p103 : Option Addr), ∃ (k104 : Nat), ∃ (k105 : Nat), (World.cell? w12 (Addr.add (Addr.add ad99 0) 0) = some (Value.slice
  p100 k101 k102) ∧ World.cell? w12 (Addr.add (Addr.add ad99 0) 1) = some (Value.slice p103 k104 k105) ∧ True) ∧ ∃ (ad106 : Addr),
  Value.pointer p91 = Value.pointer (some ad106) ∧ ∃ (p107 : Option Addr), World.cell? w12 (Addr.add ad106 2) = some (Value.pointer p107) ∧
  ∃ (ad108 : Addr), Value.pointer p91 = Value.pointer (some ad108) ∧ ∃ (ad109 : Addr), Value.pointer p91 = Value.pointer (some ad109) ∧ (∀
  (w110 : World), Step w12 w110 [] [] → Calls Proofs.Tryd.prog (149 : Nat) { toList := [Value.pointer p98, Value.agg { toList := [Value.slice p100 k101 k102, Value.slice p103 k104 k105] }, Value.pointer p107] }
  w110 fun (e112 : Ending) (w113 : World) => ∃ (p114 : Option Addr), e112 = Ending.returned (Value.pointer p114) ∧ Keep [k1] w110 w113 ∧ ∃
  (p115 : Option Addr), World.cell? w113 (Addr.add ad109 3) = some (Value.pointer p115) ∧ (∃ (p116 : Option Addr), ∃ (k117 : Nat), ∃ (k118 :
  Nat), ∃ (p119 : Option Addr), ∃ (k120 : Nat), ∃ (k121 : Nat), (World.cell? w113 (Addr.add (Addr.add ad108 0) 0) = some (Value.slice p116
  k117 k118) ∧ World.cell? w113 (Addr.add (Addr.add ad108 0) 1) = some (Value.slice p119 k120 k121) ∧ True) ∧ Calls Proofs.Tryd.prog (149 :
  Nat) { toList := [Value.pointer p115, Value.agg { toList := [Value.slice pKeyA pKeyL pKeyC, Value.slice pValueA pValueL pValueC] }, Value.pointer r] }
  w113 fun (e122 : Ending) (w123 : World) => ∃ (p124 : Option Addr), e122 = Ending.returned (Value.pointer p124) ∧ Keep [k1] w113 w123 ∧
  Calls Proofs.Tryd.prog (149 : Nat) { toList := [Value.pointer p114, Value.agg { toList := [Value.slice p116 k117 k118, Value.slice p119 k120 k121] }, Value.pointer p124] }
  w123 fun (e125 : Ending) (w126 : World) => ∃ (p127 : Option Addr), e125 = Ending.returned (Value.pointer p127) ∧ Keep [k1] w123 w126 ∧ y92
  p127 w126) ∧ Calls Proofs.Tryd.prog (149 : Nat) { toList := [Value.pointer p115, Value.agg { toList := [Value.slice pKeyA pKeyL pKeyC, Value.slice pValueA pValueL pValueC] }, Value.pointer r] }
  w113 fun (e128 : Ending) (w129 : World) => ∃ (p130 : Option Addr), e128 = Ending.returned (Value.pointer p130) ∧ Keep [k1] w113 w129 ∧ ∃
  (p131 : Option Addr), ∃ (k132 : Nat), ∃ (k133 : Nat), ∃ (p134 : Option Addr), ∃ (k135 : Nat), ∃ (k136 : Nat), (World.cell? w129 (Addr.add
  (Addr.add ad108 0) 0) = some (Value.slice p131 k132 k133) ∧ World.cell? w129 (Addr.add (Addr.add ad108 0) 1) = some (Value.slice p134 k135
  k136) ∧ True) ∧ Calls Proofs.Tryd.prog (149 : Nat) { toList := [Value.pointer p114, Value.agg { toList := [Value.slice p131 k132 k133, Value.slice p134 k135 k136] }, Value.pointer p130] }
  w129 fun (e137 : Ending) (w138 : World) => ∃ (p139 : Option Addr), e137 = Ending.returned (Value.pointer p139) ∧ Keep [k1] w129 w138 ∧ y92
  p139 w138) ∧ (∃ (p140 : Option Addr), ∃ (k141 : Nat), ∃ (k142 : Nat), ∃ (p143 : Option Addr), ∃ (k144 : Nat), ∃ (k145 : Nat), (World.cell?
  w12 (Addr.add (Addr.add ad108 0) 0) = some (Value.slice p140 k141 k142) ∧ World.cell? w12 (Addr.add (Addr.add ad108 0) 1) = some
  (Value.slice p143 k144 k145) ∧ True) ∧ (∀ (w146 : World), Step w12 w146 [] [] → Calls Proofs.Tryd.prog (149 : Nat) { toList := [Value.pointer p98, Value.agg { toList := [Value.slice p100 k101 k102, Value.slice p103 k104 k105] }, Value.pointer p107] }
  w146 fun (e148 : Ending) (w149 : World) => ∃ (p150 : Option Addr), e148 = Ending.returned (Value.pointer p150) ∧ Keep [k1] w146 w149 ∧ ∃
  (p151 : Option Addr), World.cell? w149 (Addr.add ad109 3) = some (Value.pointer p151) ∧ Calls Proofs.Tryd.prog (149 : Nat) { toList := [Value.pointer p151, Value.agg { toList := [Value.slice pKeyA pKeyL pKeyC, Value.slice pValueA pValueL pValueC] }, Value.pointer r] }
  w149 fun (e152 : Ending) (w153 : World) => ∃ (p154 : Option Addr), e152 = Ending.returned (Value.pointer p154) ∧ Keep [k1] w149 w153 ∧
  Calls Proofs.Tryd.prog (149 : Nat) { toList := [Value.pointer p150, Value.agg { toList := [Value.slice p140 k141 k142, Value.slice p143 k144 k145] }, Value.pointer p154] }
  w153 fun (e155 : Ending) (w156 : World) => ∃ (p157 : Option Addr), e155 = Ending.returned (Value.pointer p157) ∧ Keep [k1] w153 w156 ∧ y92
  p157 w156) ∧ ∃ (p158 : Option Addr), World.cell? w12 (Addr.add ad109 3) = some (Value.pointer p158) ∧ ∀ (w159 : World), Step w12 w159 []
  [] → Calls Proofs.Tryd.prog (149 : Nat) { toList := [Value.pointer p98, Value.agg { toList := [Value.slice p100 k101 k102, Value.slice p103 k104 k105] }, Value.pointer p107] }
  w159 fun (e161 : Ending) (w162 : World) => ∃ (p163 : Option Addr), e161 = Ending.returned (Value.pointer p163) ∧ Keep [k1] w159 w162 ∧
  Calls Proofs.Tryd.prog (149 : Nat) { toList := [Value.pointer p158, Value.agg { toList := [Value.slice pKeyA pKeyL pKeyC, Value.slice pValueA pValueL pValueC] }, Value.pointer r] }
  w162 fun (e164 : Ending) (w165 : World) => ∃ (p166 : Option Addr), e164 = Ending.returned (Value.pointer p166) ∧ Keep [k1] w162 w165 ∧
  Calls Proofs.Tryd.prog (149 : Nat) { toList := [Value.pointer p163, Value.agg { toList := [Value.slice p140 k141 k142, Value.slice p143 k144 k145] }, Value.pointer p166] }
  w165 fun (e167 : Ending) (w168 : World) => ∃ (p169 : Option Addr), e167 = Ending.returned (Value.pointer p169) ∧ Keep [k1] w165 w168 ∧ y92
  p169 w168) ∧ ∃ (p170 : Option Addr), World.cell? w12 (Addr.add ad109 3) = some (Value.pointer p170) ∧ (∀ (w171 : World), Step w12 w171 []
  [] → Calls Proofs.Tryd.prog (149 : Nat) { toList := [Value.pointer p98, Value.agg { toList := [Value.slice p100 k101 k102, Value.slice p103 k104 k105] }, Value.pointer p107] }
  w171 fun (e173 : Ending) (w174 : World) => ∃ (p175 : Option Addr), e173 = Ending.returned (Value.pointer p175) ∧ Keep [k1] w171 w174 ∧ (∃
  (p176 : Option Addr), ∃ (k177 : Nat), ∃ (k178 : Nat), ∃ (p179 : Option Addr), ∃ (k180 : Nat), ∃ (k181 : Nat), (World.cell? w174 (Addr.add
  (Addr.add ad108 0) 0) = some (Value.slice p176 k177 k178) ∧ World.cell? w174 (Addr.add (Addr.add ad108 0) 1) = some (Value.slice p179 k180
  k181) ∧ True) ∧ Calls Proofs.Tryd.prog (149 : Nat) { toList := [Value.pointer p170, Value.agg { toList := [Value.slice pKeyA pKeyL pKeyC, Value.slice pValueA pValueL pValueC] }, Value.pointer r] }
  w174 fun (e182 : Ending) (w183 : World) => ∃ (p184 : Option Addr), e182 = Ending.returned (Value.pointer p184) ∧ Keep [k1] w174 w183 ∧
  Calls Proofs.Tryd.prog (149 : Nat) { toList := [Value.pointer p175, Value.agg { toList := [Value.slice p176 k177 k178, Value.slice p179 k180 k181] }, Value.pointer p184] }
  w183 fun (e185 : Ending) (w186 : World) => ∃ (p187 : Option Addr), e185 = Ending.returned (Value.pointer p187) ∧ Keep [k1] w183 w186 ∧ y92
  p187 w186) ∧ Calls Proofs.Tryd.prog (149 : Nat) { toList := [Value.pointer p170, Value.agg { toList := [Value.slice pKeyA pKeyL pKeyC, Value.slice pValueA pValueL pValueC] }, Value.pointer r] }
  w174 fun (e188 : Ending) (w189 : World) => ∃ (p190 : Option Addr), e188 = Ending.returned (Value.pointer p190) ∧ Keep [k1] w174 w189 ∧ ∃
  (p191 : Option Addr), ∃ (k192 : Nat), ∃ (k193 : Nat), ∃ (p194 : Option Addr), ∃ (k195 : Nat), ∃ (k196 : Nat), (World.cell? w189 (Addr.add
  (Addr.add ad108 0) 0) = some (Value.slice p191 k192 k193) ∧ World.cell? w189 (Addr.add (Addr.add ad108 0) 1) = some (Value.slice p194 k195
  k196) ∧ True) ∧ Calls Proofs.Tryd.prog (149 : Nat) { toList := [Value.pointer p175, Value.agg { toList := [Value.slice p191 k192 k193, Value.slice p194 k195 k196] }, Value.pointer p190] }
  w189 fun (e197 : Ending) (w198 : World) => ∃ (p199 : Option Addr), e197 = Ending.returned (Value.pointer p199) ∧ Keep [k1] w189 w198 ∧ y92
  p199 w198) ∧ ∃ (p200 : Option Addr), ∃ (k201 : Nat), ∃ (k202 : Nat), ∃ (p203 : Option Addr), ∃ (k204 : Nat), ∃ (k205 : Nat), (World.cell?
  w12 (Addr.add (Addr.add ad108 0) 0) = some (Value.slice p200 k201 k202) ∧ World.cell? w12 (Addr.add (Addr.add ad108 0) 1) = some
  (Value.slice p203 k204 k205) ∧ True) ∧ ∀ (w206 : World), Step w12 w206 [] [] → Calls Proofs.Tryd.prog (149 : Nat) { toList := [Value.pointer p98, Value.agg { toList := [Value.slice p100 k101 k102, Value.slice p103 k104 k105] }, Value.pointer p107] }
  w206 fun (e208 : Ending) (w209 : World) => ∃ (p210 : Option Addr), e208 = Ending.returned (Value.pointer p210) ∧ Keep [k1] w206 w209 ∧
  Calls Proofs.Tryd.prog (149 : Nat) { toList := [Value.pointer p170, Value.agg { toList := [Value.slice pKeyA pKeyL pKeyC, Value.slice pValueA pValueL pValueC] }, Value.pointer r] }
  w209 fun (e211 : Ending) (w212 : World) => ∃ (p213 : Option Addr), e211 = Ending.returned (Value.pointer p213) ∧ Keep [k1] w209 w212 ∧
  Calls Proofs.Tryd.prog (149 : Nat) { toList := [Value.pointer p210, Value.agg { toList := [Value.slice p200 k201 k202, Value.slice p203 k204 k205] }, Value.pointer p213] }
  w212 fun (e214 : Ending) (w215 : World) => ∃ (p216 : Option Addr), e214 = Ending.returned (Value.pointer p216) ∧ Keep [k1] w212 w215 ∧ y92
  p216 w215) → y10 b11 w12) → ∃ (ad219 : Addr), Value.pointer l = Value.pointer (some ad219) ∧ ∃ (p220 : Option Addr), World.cell? w8
  (Addr.add ad219 2) = some (Value.pointer p220) ∧ ∃ (ad221 : Addr), Value.pointer l = Value.pointer (some ad221) ∧ (∀ (w222 : World), Step
  w8 w222 [] [] → Calls Proofs.Tryd.prog (166 : Nat) { toList := [Value.pointer p220] } w222 fun (e224 : Ending) (w225 : World) => ∃ (n226 :
  Int), e224 = Ending.returned (Value.int IntKind.i64 n226) ∧ Keep [k1] w222 w225 ∧ ∃ (p227 : Option Addr), World.cell? w225 (Addr.add ad221
  3) = some (Value.pointer p227) ∧ Calls Proofs.Tryd.prog (166 : Nat) { toList := [Value.pointer p227] } w225 fun (e228 : Ending) (w229 :
  World) => ∃ (n230 : Int), e228 = Ending.returned (Value.int IntKind.i64 n230) ∧ Keep [k1] w225 w229 ∧ y10 (decide (n230 ≤ n226)) w229) ∧ ∃
  (p231 : Option Addr), World.cell? w8 (Addr.add ad221 3) = some (Value.pointer p231) ∧ ∀ (w232 : World), Step w8 w232 [] [] → Calls
  Proofs.Tryd.prog (166 : Nat) { toList := [Value.pointer p220] } w232 fun (e234 : Ending) (w235 : World) => ∃ (n236 : Int), e234 =
  Ending.returned (Value.int IntKind.i64 n236) ∧ Keep [k1] w232 w235 ∧ Calls Proofs.Tryd.prog (166 : Nat) { toList := [Value.pointer p231] }
  w235 fun (e237 : Ending) (w238 : World) => ∃ (n239 : Int), e237 = Ending.returned (Value.int IntKind.i64 n239) ∧ Keep [k1] w235 w238 ∧ y10
  (decide (n239 ≤ n236)) w238) (Calls Proofs.Tryd.prog (166 : Nat) { toList := [Value.pointer r] } w8 fun (e240 : Ending) (w241 : World) =>
  ∃ (n242 : Int), e240 = Ending.returned (Value.int IntKind.i64 n242) ∧ Keep [k1] w8 w241 ∧ Calls Proofs.Tryd.prog (166 : Nat) { toList := [Value.pointer l] }
  w241 fun (e243 : Ending) (w244 : World) => ∃ (n245 : Int), e243 = Ending.returned (Value.int IntKind.i64 n245) ∧ Keep [k1] w241 w244 ∧
  bcase (decide (IntKind.wrap IntKind.i64 (n245 + (1 : Int)) < n242)) (∀ (y246 : Bool → World → Prop), (∀ (b247 : Bool) (w248 : World),
  bcase b247 (∀ (y249 : Option Addr → World → Prop), (∀ (p250 : Option Addr) (w251 : World), R (Ending.returned (Value.pointer p250)) w251 →
  y249 p250 w251) → ∃ (ad254 : Addr), Value.pointer r = Value.pointer (some ad254) ∧ ∃ (p255 : Option Addr), World.cell? w248 (Addr.add
  ad254 2) = some (Value.pointer p255) ∧ ∃ (ad256 : Addr), Value.pointer r = Value.pointer (some ad256) ∧ ∃ (ad257 : Addr), Value.pointer r
  = Value.pointer (some ad257) ∧ (∀ (w258 : World), Step w248 w258 [] [] → Calls Proofs.Tryd.prog (149 : Nat) { toList := [Value.pointer l, Value.agg { toList := [Value.slice pKeyA pKeyL pKeyC, Value.slice pValueA pValueL pValueC] }, Value.pointer p255] }
  w258 fun (e260 : Ending) (w261 : World) => ∃ (p262 : Option Addr), e260 = Ending.returned (Value.pointer p262) ∧ Keep [k1] w258 w261 ∧ ∃
  (p263 : Option Addr), ∃ (k264 : Nat), ∃ (k265 : Nat), ∃ (p266 : Option Addr), ∃ (k267 : Nat), ∃ (k268 : Nat), (World.cell? w261 (Addr.add
  (Addr.add ad256 0) 0) = some (Value.slice p263 k264 k265) ∧ World.cell? w261 (Addr.add (Addr.add ad256 0) 1) = some (Value.slice p266 k267
  k268) ∧ True) ∧ ∃ (p269 : Option Addr), World.cell? w261 (Addr.add ad257 3) = some (Value.pointer p269) ∧ Calls Proofs.Tryd.prog (149 :
  Nat) { toList := [Value.pointer p262, Value.agg { toList := [Value.slice p263 k264 k265, Value.slice p266 k267 k268] }, Value.pointer p269] }
  w261 fun (e270 : Ending) (w271 : World) => ∃ (p272 : Option Addr), e270 = Ending.returned (Value.pointer p272) ∧ Keep [k1] w261 w271 ∧
  y249 p272 w271) ∧ (∃ (p273 : Option Addr), ∃ (k274 : Nat), ∃ (k275 : Nat), ∃ (p276 : Option Addr), ∃ (k277 : Nat), ∃ (k278 : Nat),
  (World.cell? w248 (Addr.add (Addr.add ad256 0) 0) = some (Value.slice p273 k274 k275) ∧ World.cell? w248 (Addr.add (Addr.add ad256 0) 1) =
  some (Value.slice p276 k277 k278) ∧ True) ∧ (∀ (w279 : World), Step w248 w279 [] [] → Calls Proofs.Tryd.prog (149 : Nat) { toList := [Value.pointer l, Value.agg { toList := [Value.slice pKeyA pKeyL pKeyC, Value.slice pValueA pValueL pValueC] }, Value.pointer p255] }
  w279 fun (e281 : Ending) (w282 : World) => ∃ (p283 : Option Addr), e281 = Ending.returned (Value.pointer p283) ∧ Keep [k1] w279 w282 ∧ ∃
  (p284 : Option Addr), World.cell? w282 (Addr.add ad257 3) = some (Value.pointer p284) ∧ Calls Proofs.Tryd.prog (149 : Nat) { toList := [Value.pointer p283, Value.agg { toList := [Value.slice p273 k274 k275, Value.slice p276 k277 k278] }, Value.pointer p284] }
  w282 fun (e285 : Ending) (w286 : World) => ∃ (p287 : Option Addr), e285 = Ending.returned (Value.pointer p287) ∧ Keep [k1] w282 w286 ∧
  y249 p287 w286) ∧ ∃ (p288 : Option Addr), World.cell? w248 (Addr.add ad257 3) = some (Value.pointer p288) ∧ ∀ (w289 : World), Step w248
  w289 [] [] → Calls Proofs.Tryd.prog (149 : Nat) { toList := [Value.pointer l, Value.agg { toList := [Value.slice pKeyA pKeyL pKeyC, Value.slice pValueA pValueL pValueC] }, Value.pointer p255] }
  w289 fun (e291 : Ending) (w292 : World) => ∃ (p293 : Option Addr), e291 = Ending.returned (Value.pointer p293) ∧ Keep [k1] w289 w292 ∧
  Calls Proofs.Tryd.prog (149 : Nat) { toList := [Value.pointer p293, Value.agg { toList := [Value.slice p273 k274 k275, Value.slice p276 k277 k278] }, Value.pointer p288] }
  w292 fun (e294 : Ending) (w295 : World) => ∃ (p296 : Option Addr), e294 = Ending.returned (Value.pointer p296) ∧ Keep [k1] w292 w295 ∧
  y249 p296 w295) ∧ ∃ (p297 : Option Addr), World.cell? w248 (Addr.add ad257 3) = some (Value.pointer p297) ∧ (∀ (w298 : World), Step w248
  w298 [] [] → Calls Proofs.Tryd.prog (149 : Nat) { toList := [Value.pointer l, Value.agg { toList := [Value.slice pKeyA pKeyL pKeyC, Value.slice pValueA pValueL pValueC] }, Value.pointer p255] }
  w298 fun (e300 : Ending) (w301 : World) => ∃ (p302 : Option Addr), e300 = Ending.returned (Value.pointer p302) ∧ Keep [k1] w298 w301 ∧ ∃
  (p303 : Option Addr), ∃ (k304 : Nat), ∃ (k305 : Nat), ∃ (p306 : Option Addr), ∃ (k307 : Nat), ∃ (k308 : Nat), (World.cell? w301 (Addr.add
  (Addr.add ad256 0) 0) = some (Value.slice p303 k304 k305) ∧ World.cell? w301 (Addr.add (Addr.add ad256 0) 1) = some (Value.slice p306 k307
  k308) ∧ True) ∧ Calls Proofs.Tryd.prog (149 : Nat) { toList := [Value.pointer p302, Value.agg { toList := [Value.slice p303 k304 k305, Value.slice p306 k307 k308] }, Value.pointer p297] }
  w301 fun (e309 : Ending) (w310 : World) => ∃ (p311 : Option Addr), e309 = Ending.returned (Value.pointer p311) ∧ Keep [k1] w301 w310 ∧
  y249 p311 w310) ∧ ∃ (p312 : Option Addr), ∃ (k313 : Nat), ∃ (k314 : Nat), ∃ (p315 : Option Addr), ∃ (k316 : Nat), ∃ (k317 : Nat),
  (World.cell? w248 (Addr.add (Addr.add ad256 0) 0) = some (Value.slice p312 k313 k314) ∧ World.cell? w248 (Addr.add (Addr.add ad256 0) 1) =
  some (Value.slice p315 k316 k317) ∧ True) ∧ ∀ (w318 : World), Step w248 w318 [] [] → Calls Proofs.Tryd.prog (149 : Nat) { toList := [Value.pointer l, Value.agg { toList := [Value.slice pKeyA pKeyL pKeyC, Value.slice pValueA pValueL pValueC] }, Value.pointer p255] }
  w318 fun (e320 : Ending) (w321 : World) => ∃ (p322 : Option Addr), e320 = Ending.returned (Value.pointer p322) ∧ Keep [k1] w318 w321 ∧
  Calls Proofs.Tryd.prog (149 : Nat) { toList := [Value.pointer p322, Value.agg { toList := [Value.slice p312 k313 k314, Value.slice p315 k316 k317] }, Value.pointer p297] }
  w321 fun (e323 : Ending) (w324 : World) => ∃ (p325 : Option Addr), e323 = Ending.returned (Value.pointer p325) ∧ Keep [k1] w321 w324 ∧
  y249 p325 w324) (∃ (ad326 : Addr), Value.pointer r = Value.pointer (some ad326) ∧ ∃ (p327 : Option Addr), World.cell? w248 (Addr.add ad326
  2) = some (Value.pointer p327) ∧ ∀ (y328 : Option Addr → World → Prop), (∀ (p329 : Option Addr) (w330 : World), R (Ending.returned
  (Value.pointer p329)) w330 → y328 p329 w330) → ∃ (ad333 : Addr), Value.pointer p327 = Value.pointer (some ad333) ∧ ∃ (p334 : Option Addr),
  World.cell? w248 (Addr.add ad333 2) = some (Value.pointer p334) ∧ ∃ (ad335 : Addr), Value.pointer p327 = Value.pointer (some ad335) ∧ ∃
  (ad336 : Addr), Value.pointer p327 = Value.pointer (some ad336) ∧ ∃ (ad337 : Addr), Value.pointer r = Value.pointer (some ad337) ∧ ∃
  (ad338 : Addr), Value.pointer r = Value.pointer (some ad338) ∧ (∀ (w339 : World), Step w248 w339 [] [] → Calls Proofs.Tryd.prog (149 :
  Nat) { toList := [Value.pointer l, Value.agg { toList := [Value.slice pKeyA pKeyL pKeyC, Value.slice pValueA pValueL pValueC] }, Value.pointer p334] }
  w339 fun (e341 : Ending) (w342 : World) => ∃ (p343 : Option Addr), e341 = Ending.returned (Value.pointer p343) ∧ Keep [k1] w339 w342 ∧ ∃
  (p344 : Option Addr), World.cell? w342 (Addr.add ad336 3) = some (Value.pointer p344) ∧ ∃ (p345 : Option Addr), ∃ (k346 : Nat), ∃ (k347 :
  Nat), ∃ (p348 : Option Addr), ∃ (k349 : Nat), ∃ (k350 : Nat), (World.cell? w342 (Addr.add (Addr.add ad337 0) 0) = some (Value.slice p345
  k346 k347) ∧ World.cell? w342 (Addr.add (Addr.add ad337 0) 1) = some (Value.slice p348 k349 k350) ∧ True) ∧ ∃ (p351 : Option Addr),
  World.cell? w342 (Addr.add ad338 3) = some (Value.pointer p351) ∧ (∃ (p352 : Option Addr), ∃ (k353 : Nat), ∃ (k354 : Nat), ∃ (p355 :
  Option Addr), ∃ (k356 : Nat), ∃ (k357 : Nat), (World.cell? w342 (Addr.add (Addr.add ad335 0) 0) = some (Value.slice p352 k353 k354) ∧
  World.cell? w342 (Addr.add (Addr.add ad335 0) 1) = some (Value.slice p355 k356 k357) ∧ True) ∧ Calls Proofs.Tryd.prog (149 : Nat) { toList := [Value.pointer p344, Value.agg { toList := [Value.slice p345 k346 k347, Value.slice p348 k349 k350] }, Value.pointer p351] }
  w342 fun (e358 : Ending) (w359 : World) => ∃ (p360 : Option Addr), e358 = Ending.returned (Value.pointer p360) ∧ Keep [k1] w342 w359 ∧
  Calls Proofs.Tryd.prog (149 : Nat) { toList := [Value.pointer p343, Value.agg { toList := [Value.slice p352 k353 k354, Value.slice p355 k356 k357] }, Value.pointer p360] }
  w359 fun (e361 : Ending) (w362 : World) => ∃ (p363 : Option Addr), e361 = Ending.returned (Value.pointer p363) ∧ Keep [k1] w359 w362 ∧
  y328 p363 w362) ∧ Calls Proofs.Tryd.prog (149 : Nat) { toList := [Value.pointer p344, Value.agg { toList := [Value.slice p345 k346 k347, Value.slice p348 k349 k350] }, Value.pointer p351] }
  w342 fun (e364 : Ending) (w365 : World) => ∃ (p366 : Option Addr), e364 = Ending.returned (Value.pointer p366) ∧ Keep [k1] w342 w365 ∧ ∃
  (p367 : Option Addr), ∃ (k368 : Nat), ∃ (k369 : Nat), ∃ (p370 : Option Addr), ∃ (k371 : Nat), ∃ (k372 : Nat), (World.cell? w365 (Addr.add
  (Addr.add ad335 0) 0) = some (Value.slice p367 k368 k369) ∧ World.cell? w365 (Addr.add (Addr.add ad335 0) 1) = some (Value.slice p370 k371
  k372) ∧ True) ∧ Calls Proofs.Tryd.prog (149 : Nat) { toList := [Value.pointer p343, Value.agg { toList := [Value.slice p367 k368 k369, Value.slice p370 k371 k372] }, Value.pointer p366] }
  w365 fun (e373 : Ending) (w374 : World) => ∃ (p375 : Option Addr), e373 = Ending.returned (Value.pointer p375) ∧ Keep [k1] w365 w374 ∧
  y328 p375 w374) ∧ (∃ (p376 : Option Addr), ∃ (k377 : Nat), ∃ (k378 : Nat), ∃ (p379 : Option Addr), ∃ (k380 : Nat), ∃ (k381 : Nat),
  (World.cell? w248 (Addr.add (Addr.add ad335 0) 0) = some (Value.slice p376 k377 k378) ∧ World.cell? w248 (Addr.add (Addr.add ad335 0) 1) =
  some (Value.slice p379 k380 k381) ∧ True) ∧ (∀ (w382 : World), Step w248 w382 [] [] → Calls Proofs.Tryd.prog (149 : Nat) { toList := [Value.pointer l, Value.agg { toList := [Value.slice pKeyA pKeyL pKeyC, Value.slice pValueA pValueL pValueC] }, Value.pointer p334] }
  w382 fun (e384 : Ending) (w385 : World) => ∃ (p386 : Option Addr), e384 = Ending.returned (Value.pointer p386) ∧ Keep [k1] w382 w385 ∧ ∃
  (p387 : Option Addr), World.cell? w385 (Addr.add ad336 3) = some (Value.pointer p387) ∧ ∃ (p388 : Option Addr), ∃ (k389 : Nat), ∃ (k390 :
  Nat), ∃ (p391 : Option Addr), ∃ (k392 : Nat), ∃ (k393 : Nat), (World.cell? w385 (Addr.add (Addr.add ad337 0) 0) = some (Value.slice p388
  k389 k390) ∧ World.cell? w385 (Addr.add (Addr.add ad337 0) 1) = some (Value.slice p391 k392 k393) ∧ True) ∧ ∃ (p394 : Option Addr),
  World.cell? w385 (Addr.add ad338 3) = some (Value.pointer p394) ∧ Calls Proofs.Tryd.prog (149 : Nat) { toList := [Value.pointer p387, Value.agg { toList := [Value.slice p388 k389 k390, Value.slice p391 k392 k393] }, Value.pointer p394] }
  w385 fun (e395 : Ending) (w396 : World) => ∃ (p397 : Option Addr), e395 = Ending.returned (Value.pointer p397) ∧ Keep [k1] w385 w396 ∧
  Calls Proofs.Tryd.prog (149 : Nat) { toList := [Value.pointer p386, Value.agg { toList := [Value.slice p376 k377 k378, Value.slice p379 k380 k381] }, Value.pointer p397] }
  w396 fun (e398 : Ending) (w399 : World) => ∃ (p400 : Option Addr), e398 = Ending.returned (Value.pointer p400) ∧ Keep [k1] w396 w399 ∧
  y328 p400 w399) ∧ (∃ (p401 : Option Addr), World.cell? w248 (Addr.add ad336 3) = some (Value.pointer p401) ∧ (∀ (w402 : World), Step w248
  w402 [] [] → Calls Proofs.Tryd.prog (149 : Nat) { toList := [Value.pointer l, Value.agg { toList := [Value.slice pKeyA pKeyL pKeyC, Value.slice pValueA pValueL pValueC] }, Value.pointer p334] }
  w402 fun (e404 : Ending) (w405 : World) => ∃ (p406 : Option Addr), e404 = Ending.returned (Value.pointer p406) ∧ Keep [k1] w402 w405 ∧ ∃
  (p407 : Option Addr), ∃ (k408 : Nat), ∃ (k409 : Nat), ∃ (p410 : Option Addr), ∃ (k411 : Nat), ∃ (k412 : Nat), (World.cell? w405 (Addr.add
  (Addr.add ad337 0) 0) = some (Value.slice p407 k408 k409) ∧ World.cell? w405 (Addr.add (Addr.add ad337 0) 1) = some (Value.slice p410 k411
  k412) ∧ True) ∧ ∃ (p413 : Option Addr), World.cell? w405 (Addr.add ad338 3) = some (Value.pointer p413) ∧ Calls Proofs.Tryd.prog (149 :
  Nat) { toList := [Value.pointer p401, Value.agg { toList := [Value.slice p407 k408 k409, Value.slice p410 k411 k412] }, Value.pointer p413] }
  w405 fun (e414 : Ending) (w415 : World) => ∃ (p416 : Option Addr), e414 = Ending.returned (Value.pointer p416) ∧ Keep [k1] w405 w415 ∧
  Calls Proofs.Tryd.prog (149 : Nat) { toList := [Value.pointer p406, Value.agg { toList := [Value.slice p376 k377 k378, Value.slice p379 k380 k381] }, Value.pointer p416] }
  w415 fun (e417 : Ending) (w418 : World) => ∃ (p419 : Option Addr), e417 = Ending.returned (Value.pointer p419) ∧ Keep [k1] w415 w418 ∧
  y328 p419 w418) ∧ (∃ (p420 : Option Addr), ∃ (k421 : Nat), ∃ (k422 : Nat), ∃ (p423 : Option Addr), ∃ (k424 : Nat), ∃ (k425 : Nat),
  (World.cell? w248 (Addr.add (Addr.add ad337 0) 0) = some (Value.slice p420 k421 k422) ∧ World.cell? w248 (Addr.add (Addr.add ad337 0) 1) =
  some (Value.slice p423 k424 k425) ∧ True) ∧ (∀ (w426 : World), Step w248 w426 [] [] → Calls Proofs.Tryd.prog (149 : Nat) { toList := [Value.pointer l, Value.agg { toList := [Value.slice pKeyA pKeyL pKeyC, Value.slice pValueA pValueL pValueC] }, Value.pointer p334] }
  w426 fun (e428 : Ending) (w429 : World) => ∃ (p430 : Option Addr), e428 = Ending.returned (Value.pointer p430) ∧ Keep [k1] w426 w429 ∧ ∃
  (p431 : Option Addr), World.cell? w429 (Addr.add ad338 3) = some (Value.pointer p431) ∧ Calls Proofs.Tryd.prog (149 : Nat) { toList := [Value.pointer p401, Value.agg { toList := [Value.slice p420 k421 k422, Value.slice p423 k424 k425] }, Value.pointer p431] }
  w429 fun (e432 : Ending) (w433 : World) => ∃ (p434 : Option Addr), e432 = Ending.returned (Value.pointer p434) ∧ Keep [k1] w429 w433 ∧
  Calls Proofs.Tryd.prog (149 : Nat) { toList := [Value.pointer p430, Value.agg { toList := [Value.slice p376 k377 k378, Value.slice p379 k380 k381] }, Value.pointer p434] }
  w433 fun (e435 : Ending) (w436 : World) => ∃ (p437 : Option Addr), e435 = Ending.returned (Value.pointer p437) ∧ Keep [k1] w433 w436 ∧
  y328 p437 w436) ∧ ∃ (p438 : Option Addr), World.cell? w248 (Addr.add ad338 3) = some (Value.pointer p438) ∧ ∀ (w439 : World), Step w248
  w439 [] [] → Calls Proofs.Tryd.prog (149 : Nat) { toList := [Value.pointer l, Value.agg { toList := [Value.slice pKeyA pKeyL pKeyC, Value.slice pValueA pValueL pValueC] }, Value.pointer p334] }
  w439 fun (e441 : Ending) (w442 : World) => ∃ (p443 : Option Addr), e441 = Ending.returned (Value.pointer p443) ∧ Keep [k1] w439 w442 ∧
  Calls Proofs.Tryd.prog (149 : Nat) { toList := [Value.pointer p401, Value.agg { toList := [Value.slice p420 k421 k422, Value.slice p423 k424 k425] }, Value.pointer p438] }
  w442 fun (e444 : Ending) (w445 : World) => ∃ (p446 : Option Addr), e444 = Ending.returned (Value.pointer p446) ∧ Keep [k1] w442 w445 ∧
  Calls Proofs.Tryd.prog (149 : Nat) { toList := [Value.pointer p443, Value.agg { toList := [Value.slice p376 k377 k378, Value.slice p379 k380 k381] }, Value.pointer p446] }
  w445 fun (e447 : Ending) (w448 : World) => ∃ (p449 : Option Addr), e447 = Ending.returned (Value.pointer p449) ∧ Keep [k1] w445 w448 ∧
  y328 p449 w448) ∧ ∃ (p450 : Option Addr), World.cell? w248 (Addr.add ad338 3) = some (Value.pointer p450) ∧ (∀ (w451 : World), Step w248
  w451 [] [] → Calls Proofs.Tryd.prog (149 : Nat) { toList := [Value.pointer l, Value.agg { toList := [Value.slice pKeyA pKeyL pKeyC, Value.slice pValueA pValueL pValueC] }, Value.pointer p334] }
  w451 fun (e453 : Ending) (w454 : World) => ∃ (p455 : Option Addr), e453 = Ending.returned (Value.pointer p455) ∧ Keep [k1] w451 w454 ∧ ∃
  (p456 : Option Addr), ∃ (k457 : Nat), ∃ (k458 : Nat), ∃ (p459 : Option Addr), ∃ (k460 : Nat), ∃ (k461 : Nat), (World.cell? w454 (Addr.add
  (Addr.add ad337 0) 0) = some (Value.slice p456 k457 k458) ∧ World.cell? w454 (Addr.add (Addr.add ad337 0) 1) = some (Value.slice p459 k460
  k461) ∧ True) ∧ Calls Proofs.Tryd.prog (149 : Nat) { toList := [Value.pointer p401, Value.agg { toList := [Value.slice p456 k457 k458, Value.slice p459 k460 k461] }, Value.pointer p450] }
  w454 fun (e462 : Ending) (w463 : World) => ∃ (p464 : Option Addr), e462 = Ending.returned (Value.pointer p464) ∧ Keep [k1] w454 w463 ∧
  Calls Proofs.Tryd.prog (149 : Nat) { toList := [Value.pointer p455, Value.agg { toList := [Value.slice p376 k377 k378, Value.slice p379 k380 k381] }, Value.pointer p464] }
  w463 fun (e465 : Ending) (w466 : World) => ∃ (p467 : Option Addr), e465 = Ending.returned (Value.pointer p467) ∧ Keep [k1] w463 w466 ∧
  y328 p467 w466) ∧ ∃ (p468 : Option Addr), ∃ (k469 : Nat), ∃ (k470 : Nat), ∃ (p471 : Option Addr), ∃ (k472 : Nat), ∃ (k473 : Nat),
  (World.cell? w248 (Addr.add (Addr.add ad337 0) 0) = some (Value.slice p468 k469 k470) ∧ World.cell? w248 (Addr.add (Addr.add ad337 0) 1) =
  some (Value.slice p471 k472 k473) ∧ True) ∧ ∀ (w474 : World), Step w248 w474 [] [] → Calls Proofs.Tryd.prog (149 : Nat) { toList := [Value.pointer l, Value.agg { toList := [Value.slice pKeyA pKeyL pKeyC, Value.slice pValueA pValueL pValueC] }, Value.pointer p334] }
  w474 fun (e476 : Ending) (w477 : World) => ∃ (p478 : Option Addr), e476 = Ending.returned (Value.pointer p478) ∧ Keep [k1] w474 w477 ∧
  Calls Proofs.Tryd.prog (149 : Nat) { toList := [Value.pointer p401, Value.agg { toList := [Value.slice p468 k469 k470, Value.slice p471 k472 k473] }, Value.pointer p450] }
  w477 fun (e479 : Ending) (w480 : World) => ∃ (p481 : Option Addr), e479 = Ending.returned (Value.pointer p481) ∧ Keep [k1] w477 w480 ∧
  Calls Proofs.Tryd.prog (149 : Nat) { toList := [Value.pointer p478, Value.agg { toList := [Value.slice p376 k377 k378, Value.slice p379 k380 k381] }, Value.pointer p481] }
  w480 fun (e482 : Ending) (w483 : World) => ∃ (p484 : Option Addr), e482 = Ending.returned (Value.pointer p484) ∧ Keep [k1] w480 w483 ∧
  y328 p484 w483) ∧ (∃ (p485 : Option Addr), ∃ (k486 : Nat), ∃ (k487 : Nat), ∃ (p488 : Option Addr), ∃ (k489 : Nat), ∃ (k490 : Nat),
  (World.cell? w248 (Addr.add (Addr.add ad337 0) 0) = some (Value.slice p485 k486 k487) ∧ World.cell? w248 (Addr.add (Addr.add ad337 0) 1) =
  some (Value.slice p488 k489 k490) ∧ True) ∧ (∀ (w491 : World), Step w248 w491 [] [] → Calls Proofs.Tryd.prog (149 : Nat) { toList := [Value.pointer l, Value.agg { toList := [Value.slice pKeyA pKeyL pKeyC, Value.slice pValueA pValueL pValueC] }, Value.pointer p334] }
  w491 fun (e493 : Ending) (w494 : World) => ∃ (p495 : Option Addr), e493 = Ending.returned (Value.pointer p495) ∧ Keep [k1] w491 w494 ∧ ∃
  (p496 : Option Addr), World.cell? w494 (Addr.add ad336 3) = some (Value.pointer p496) ∧ ∃ (p497 : Option Addr), World.cell? w494 (Addr.add
  ad338 3) = some (Value.pointer p497) ∧ Calls Proofs.Tryd.prog (149 : Nat) { toList := [Value.pointer p496, Value.agg { toList := [Value.slice p485 k486 k487, Value.slice p488 k489 k490] }, Value.pointer p497] }
  w494 fun (e498 : Ending) (w499 : World) => ∃ (p500 : Option Addr), e498 = Ending.returned (Value.pointer p500) ∧ Keep [k1] w494 w499 ∧
  Calls Proofs.Tryd.prog (149 : Nat) { toList := [Value.pointer p495, Value.agg { toList := [Value.slice p376 k377 k378, Value.slice p379 k380 k381] }, Value.pointer p500] }
  w499 fun (e501 : Ending) (w502 : World) => ∃ (p503 : Option Addr), e501 = Ending.returned (Value.pointer p503) ∧ Keep [k1] w499 w502 ∧
  y328 p503 w502) ∧ (∃ (p504 : Option Addr), World.cell? w248 (Addr.add ad336 3) = some (Value.pointer p504) ∧ (∀ (w505 : World), Step w248
  w505 [] [] → Calls Proofs.Tryd.prog (149 : Nat) { toList := [Value.pointer l, Value.agg { toList := [Value.slice pKeyA pKeyL pKeyC, Value.slice pValueA pValueL pValueC] }, Value.pointer p334] }
  w505 fun (e507 : Ending) (w508 : World) => ∃ (p509 : Option Addr), e507 = Ending.returned (Value.pointer p509) ∧ Keep [k1] w505 w508 ∧ ∃
  (p510 : Option Addr), World.cell? w508 (Addr.add ad338 3) = some (Value.pointer p510) ∧ Calls Proofs.Tryd.prog (149 : Nat) { toList := [Value.pointer p504, Value.agg { toList := [Value.slice p485 k486 k487, Value.slice p488 k489 k490] }, Value.pointer p510] }
  w508 fun (e511 : Ending) (w512 : World) => ∃ (p513 : Option Addr), e511 = Ending.returned (Value.pointer p513) ∧ Keep [k1] w508 w512 ∧
  Calls Proofs.Tryd.prog (149 : Nat) { toList := [Value.pointer p509, Value.agg { toList := [Value.slice p376 k377 k378, Value.slice p379 k380 k381] }, Value.pointer p513] }
  w512 fun (e514 : Ending) (w515 : World) => ∃ (p516 : Option Addr), e514 = Ending.returned (Value.pointer p516) ∧ Keep [k1] w512 w515 ∧
  y328 p516 w515) ∧ ∃ (p517 : Option Addr), World.cell? w248 (Addr.add ad338 3) = some (Value.pointer p517) ∧ ∀ (w518 : World), Step w248
  w518 [] [] → Calls Proofs.Tryd.prog (149 : Nat) { toList := [Value.pointer l, Value.agg { toList := [Value.slice pKeyA pKeyL pKeyC, Value.slice pValueA pValueL pValueC] }, Value.pointer p334] }
  w518 fun (e520 : Ending) (w521 : World) => ∃ (p522 : Option Addr), e520 = Ending.returned (Value.pointer p522) ∧ Keep [k1] w518 w521 ∧
  Calls Proofs.Tryd.prog (149 : Nat) { toList := [Value.pointer p504, Value.agg { toList := [Value.slice p485 k486 k487, Value.slice p488 k489 k490] }, Value.pointer p517] }
  w521 fun (e523 : Ending) (w524 : World) => ∃ (p525 : Option Addr), e523 = Ending.returned (Value.pointer p525) ∧ Keep [k1] w521 w524 ∧
  Calls Proofs.Tryd.prog (149 : Nat) { toList := [Value.pointer p522, Value.agg { toList := [Value.slice p376 k377 k378, Value.slice p379 k380 k381] }, Value.pointer p525] }
  w524 fun (e526 : Ending) (w527 : World) => ∃ (p528 : Option Addr), e526 = Ending.returned (Value.pointer p528) ∧ Keep [k1] w524 w527 ∧
  y328 p528 w527) ∧ ∃ (p529 : Option Addr), World.cell? w248 (Addr.add ad338 3) = some (Value.pointer p529) ∧ (∀ (w530 : World), Step w248
  w530 [] [] → Calls Proofs.Tryd.prog (149 : Nat) { toList := [Value.pointer l, Value.agg { toList := [Value.slice pKeyA pKeyL pKeyC, Value.slice pValueA pValueL pValueC] }, Value.pointer p334] }
  w530 fun (e532 : Ending) (w533 : World) => ∃ (p534 : Option Addr), e532 = Ending.returned (Value.pointer p534) ∧ Keep [k1] w530 w533 ∧ ∃
  (p535 : Option Addr), World.cell? w533 (Addr.add ad336 3) = some (Value.pointer p535) ∧ Calls Proofs.Tryd.prog (149 : Nat) { toList := [Value.pointer p535, Value.agg { toList := [Value.slice p485 k486 k487, Value.slice p488 k489 k490] }, Value.pointer p529] }
  w533 fun (e536 : Ending) (w537 : World) => ∃ (p538 : Option Addr), e536 = Ending.returned (Value.pointer p538) ∧ Keep [k1] w533 w537 ∧
  Calls Proofs.Tryd.prog (149 : Nat) { toList := [Value.pointer p534, Value.agg { toList := [Value.slice p376 k377 k378, Value.slice p379 k380 k381] }, Value.pointer p538] }
  w537 fun (e539 : Ending) (w540 : World) => ∃ (p541 : Option Addr), e539 = Ending.returned (Value.pointer p541) ∧ Keep [k1] w537 w540 ∧
  y328 p541 w540) ∧ ∃ (p542 : Option Addr), World.cell? w248 (Addr.add ad336 3) = some (Value.pointer p542) ∧ ∀ (w543 : World), Step w248
  w543 [] [] → Calls Proofs.Tryd.prog (149 : Nat) { toList := [Value.pointer l, Value.agg { toList := [Value.slice pKeyA pKeyL pKeyC, Value.slice pValueA pValueL pValueC] }, Value.pointer p334] }
  w543 fun (e545 : Ending) (w546 : World) => ∃ (p547 : Option Addr), e545 = Ending.returned (Value.pointer p547) ∧ Keep [k1] w543 w546 ∧
  Calls Proofs.Tryd.prog (149 : Nat) { toList := [Value.pointer p542, Value.agg { toList := [Value.slice p485 k486 k487, Value.slice p488 k489 k490] }, Value.pointer p529] }
  w546 fun (e548 : Ending) (w549 : World) => ∃ (p550 : Option Addr), e548 = Ending.returned (Value.pointer p550) ∧ Keep [k1] w546 w549 ∧
  Calls Proofs.Tryd.prog (149 : Nat) { toList := [Value.pointer p547, Value.agg { toList := [Value.slice p376 k377 k378, Value.slice p379 k380 k381] }, Value.pointer p550] }
  w549 fun (e551 : Ending) (w552 : World) => ∃ (p553 : Option Addr), e551 = Ending.returned (Value.pointer p553) ∧ Keep [k1] w549 w552 ∧
  y328 p553 w552) ∧ ∃ (p554 : Option Addr), World.cell? w248 (Addr.add ad338 3) = some (Value.pointer p554) ∧ (∀ (w555 : World), Step w248
  w555 [] [] → Calls Proofs.Tryd.prog (149 : Nat) { toList := [Value.pointer l, Value.agg { toList := [Value.slice pKeyA pKeyL pKeyC, Value.slice pValueA pValueL pValueC] }, Value.pointer p334] }
  w555 fun (e557 : Ending) (w558 : World) => ∃ (p559 : Option Addr), e557 = Ending.returned (Value.pointer p559) ∧ Keep [k1] w555 w558 ∧ ∃
  (p560 : Option Addr), World.cell? w558 (Addr.add ad336 3) = some (Value.pointer p560) ∧ ∃ (p561 : Option Addr), ∃ (k562 : Nat), ∃ (k563 :
  Nat), ∃ (p564 : Option Addr), ∃ (k565 : Nat), ∃ (k566 : Nat), (World.cell? w558 (Addr.add (Addr.add ad337 0) 0) = some (Value.slice p561
  k562 k563) ∧ World.cell? w558 (Addr.add (Addr.add ad337 0) 1) = some (Value.slice p564 k565 k566) ∧ True) ∧ Calls Proofs.Tryd.prog (149 :
  Nat) { toList := [Value.pointer p560, Value.agg { toList := [Value.slice p561 k562 k563, Value.slice p564 k565 k566] }, Value.pointer p554] }
  w558 fun (e567 : Ending) (w568 : World) => ∃ (p569 : Option Addr), e567 = Ending.returned (Value.pointer p569) ∧ Keep [k1] w558 w568 ∧
  Calls Proofs.Tryd.prog (149 : Nat) { toList := [Value.pointer p559, Value.agg { toList := [Value.slice p376 k377 k378, Value.slice p379 k380 k381] }, Value.pointer p569] }
  w568 fun (e570 : Ending) (w571 : World) => ∃ (p572 : Option Addr), e570 = Ending.returned (Value.pointer p572) ∧ Keep [k1] w568 w571 ∧
  y328 p572 w571) ∧ (∃ (p573 : Option Addr), World.cell? w248 (Addr.add ad336 3) = some (Value.pointer p573) ∧ (∀ (w574 : World), Step w248
  w574 [] [] → Calls Proofs.Tryd.prog (149 : Nat) { toList := [Value.pointer l, Value.agg { toList := [Value.slice pKeyA pKeyL pKeyC, Value.slice pValueA pValueL pValueC] }, Value.pointer p334] }
  w574 fun (e576 : Ending) (w577 : World) => ∃ (p578 : Option Addr), e576 = Ending.returned (Value.pointer p578) ∧ Keep [k1] w574 w577 ∧ ∃
  (p579 : Option Addr), ∃ (k580 : Nat), ∃ (k581 : Nat), ∃ (p582 : Option Addr), ∃ (k583 : Nat), ∃ (k584 : Nat), (World.cell? w577 (Addr.add
  (Addr.add ad337 0) 0) = some (Value.slice p579 k580 k581) ∧ World.cell? w577 (Addr.add (Addr.add ad337 0) 1) = some (Value.slice p582 k583
  k584) ∧ True) ∧ Calls Proofs.Tryd.prog (149 : Nat) { toList := [Value.pointer p573, Value.agg { toList := [Value.slice p579 k580 k581, Value.slice p582 k583 k584] }, Value.pointer p554] }
  w577 fun (e585 : Ending) (w586 : World) => ∃ (p587 : Option Addr), e585 = Ending.returned (Value.pointer p587) ∧ Keep [k1] w577 w586 ∧
  Calls Proofs.Tryd.prog (149 : Nat) { toList := [Value.pointer p578, Value.agg { toList := [Value.slice p376 k377 k378, Value.slice p379 k380 k381] }, Value.pointer p587] }
  w586 fun (e588 : Ending) (w589 : World) => ∃ (p590 : Option Addr), e588 = Ending.returned (Value.pointer p590) ∧ Keep [k1] w586 w589 ∧
  y328 p590 w589) ∧ ∃ (p591 : Option Addr), ∃ (k592 : Nat), ∃ (k593 : Nat), ∃ (p594 : Option Addr), ∃ (k595 : Nat), ∃ (k596 : Nat),
  (World.cell? w248 (Addr.add (Addr.add ad337 0) 0) = some (Value.slice p591 k592 k593) ∧ World.cell? w248 (Addr.add (Addr.add ad337 0) 1) =
  some (Value.slice p594 k595 k596) ∧ True) ∧ ∀ (w597 : World), Step w248 w597 [] [] → Calls Proofs.Tryd.prog (149 : Nat) { toList := [Value.pointer l, Value.agg { toList := [Value.slice pKeyA pKeyL pKeyC, Value.slice pValueA pValueL pValueC] }, Value.pointer p334] }
  w597 fun (e599 : Ending) (w600 : World) => ∃ (p601 : Option Addr), e599 = Ending.returned (Value.pointer p601) ∧ Keep [k1] w597 w600 ∧
  Calls Proofs.Tryd.prog (149 : Nat) { toList := [Value.pointer p573, Value.agg { toList := [Value.slice p591 k592 k593, Value.slice p594 k595 k596] }, Value.pointer p554] }
  w600 fun (e602 : Ending) (w603 : World) => ∃ (p604 : Option Addr), e602 = Ending.returned (Value.pointer p604) ∧ Keep [k1] w600 w603 ∧
  Calls Proofs.Tryd.prog (149 : Nat) { toList := [Value.pointer p601, Value.agg { toList := [Value.slice p376 k377 k378, Value.slice p379 k380 k381] }, Value.pointer p604] }
  w603 fun (e605 : Ending) (w606 : World) => ∃ (p607 : Option Addr), e605 = Ending.returned (Value.pointer p607) ∧ Keep [k1] w603 w606 ∧
  y328 p607 w606) ∧ ∃ (p608 : Option Addr), ∃ (k609 : Nat), ∃ (k610 : Nat), ∃ (p611 : Option Addr), ∃ (k612 : Nat), ∃ (k613 : Nat),
  (World.cell? w248 (Addr.add (Addr.add ad337 0) 0) = some (Value.slice p608 k609 k610) ∧ World.cell? w248 (Addr.add (Addr.add ad337 0) 1) =
  some (Value.slice p611 k612 k613) ∧ True) ∧ (∀ (w614 : World), Step w248 w614 [] [] → Calls Proofs.Tryd.prog (149 : Nat) { toList := [Value.pointer l, Value.agg { toList := [Value.slice pKeyA pKeyL pKeyC, Value.slice pValueA pValueL pValueC] }, Value.pointer p334] }
  w614 fun (e616 : Ending) (w617 : World) => ∃ (p618 : Option Addr), e616 = Ending.returned (Value.pointer p618) ∧ Keep [k1] w614 w617 ∧ ∃
  (p619 : Option Addr), World.cell? w617 (Addr.add ad336 3) = some (Value.pointer p619) ∧ Calls Proofs.Tryd.prog (149 : Nat) { toList := [Value.pointer p619, Value.agg { toList := [Value.slice p608 k609 k610, Value.slice p611 k612 k613] }, Value.pointer p554] }
  w617 fun (e620 : Ending) (w621 : World) => ∃ (p622 : Option Addr), e620 = Ending.returned (Value.pointer p622) ∧ Keep [k1] w617 w621 ∧
  Calls Proofs.Tryd.prog (149 : Nat) { toList := [Value.pointer p618, Value.agg { toList := [Value.slice p376 k377 k378, Value.slice p379 k380 k381] }, Value.pointer p622] }
  w621 fun (e623 : Ending) (w624 : World) => ∃ (p625 : Option Addr), e623 = Ending.returned (Value.pointer p625) ∧ Keep [k1] w621 w624 ∧
  y328 p625 w624) ∧ ∃ (p626 : Option Addr), World.cell? w248 (Addr.add ad336 3) = some (Value.pointer p626) ∧ ∀ (w627 : World), Step w248
  w627 [] [] → Calls Proofs.Tryd.prog (149 : Nat) { toList := [Value.pointer l, Value.agg { toList := [Value.slice pKeyA pKeyL pKeyC, Value.slice pValueA pValueL pValueC] }, Value.pointer p334] }
  w627 fun (e629 : Ending) (w630 : World) => ∃ (p631 : Option Addr), e629 = Ending.returned (Value.pointer p631) ∧ Keep [k1] w627 w630 ∧
  Calls Proofs.Tryd.prog (149 : Nat) { toList := [Value.pointer p626, Value.agg { toList := [Value.slice p608 k609 k610, Value.slice p611 k612 k613] }, Value.pointer p554] }
  w630 fun (e632 : Ending) (w633 : World) => ∃ (p634 : Option Addr), e632 = Ending.returned (Value.pointer p634) ∧ Keep [k1] w630 w633 ∧
  Calls Proofs.Tryd.prog (149 : Nat) { toList := [Value.pointer p631, Value.agg { toList := [Value.slice p376 k377 k378, Value.slice p379 k380 k381] }, Value.pointer p634] }
  w633 fun (e635 : Ending) (w636 : World) => ∃ (p637 : Option Addr), e635 = Ending.returned (Value.pointer p637) ∧ Keep [k1] w633 w636 ∧
  y328 p637 w636) ∧ (∃ (p638 : Option Addr), World.cell? w248 (Addr.add ad336 3) = some (Value.pointer p638) ∧ (∀ (w639 : World), Step w248
  w639 [] [] → Calls Proofs.Tryd.prog (149 : Nat) { toList := [Value.pointer l, Value.agg { toList := [Value.slice pKeyA pKeyL pKeyC, Value.slice pValueA pValueL pValueC] }, Value.pointer p334] }
  w639 fun (e641 : Ending) (w642 : World) => ∃ (p643 : Option Addr), e641 = Ending.returned (Value.pointer p643) ∧ Keep [k1] w639 w642 ∧ ∃
  (p644 : Option Addr), ∃ (k645 : Nat), ∃ (k646 : Nat), ∃ (p647 : Option Addr), ∃ (k648 : Nat), ∃ (k649 : Nat), (World.cell? w642 (Addr.add
  (Addr.add ad337 0) 0) = some (Value.slice p644 k645 k646) ∧ World.cell? w642 (Addr.add (Addr.add ad337 0) 1) = some (Value.slice p647 k648
  k649) ∧ True) ∧ ∃ (p650 : Option Addr), World.cell? w642 (Addr.add ad338 3) = some (Value.pointer p650) ∧ (∃ (p651 : Option Addr), ∃ (k652
  : Nat), ∃ (k653 : Nat), ∃ (p654 : Option Addr), ∃ (k655 : Nat), ∃ (k656 : Nat), (World.cell? w642 (Addr.add (Addr.add ad335 0) 0) = some
  (Value.slice p651 k652 k653) ∧ World.cell? w642 (Addr.add (Addr.add ad335 0) 1) = some (Value.slice p654 k655 k656) ∧ True) ∧ Calls
  Proofs.Tryd.prog (149 : Nat) { toList := [Value.pointer p638, Value.agg { toList := [Value.slice p644 k645 k646, Value.slice p647 k648 k649] }, Value.pointer p650] }
  w642 fun (e657 : Ending) (w658 : World) => ∃ (p659 : Option Addr), e657 = Ending.returned (Value.pointer p659) ∧ Keep [k1] w642 w658 ∧
  Calls Proofs.Tryd.prog (149 : Nat) { toList := [Value.pointer p643, Value.agg { toList := [Value.slice p651 k652 k653, Value.slice p654 k655 k656] }, Value.pointer p659] }
  w658 fun (e660 : Ending) (w661 : World) => ∃ (p662 : Option Addr), e660 = Ending.returned (Value.pointer p662) ∧ Keep [k1] w658 w661 ∧
  y328 p662 w661) ∧ Calls Proofs.Tryd.prog (149 : Nat) { toList := [Value.pointer p638, Value.agg { toList := [Value.slice p644 k645 k646, Value.slice p647 k648 k649] }, Value.pointer p650] }
  w642 fun (e663 : Ending) (w664 : World) => ∃ (p665 : Option Addr), e663 = Ending.returned (Value.pointer p665) ∧ Keep [k1] w642 w664 ∧ ∃
  (p666 : Option Addr), ∃ (k667 : Nat), ∃ (k668 : Nat), ∃ (p669 : Option Addr), ∃ (k670 : Nat), ∃ (k671 : Nat), (World.cell? w664 (Addr.add
  (Addr.add ad335 0) 0) = some (Value.slice p666 k667 k668) ∧ World.cell? w664 (Addr.add (Addr.add ad335 0) 1) = some (Value.slice p669 k670
  k671) ∧ True) ∧ Calls Proofs.Tryd.prog (149 : Nat) { toList := [Value.pointer p643, Value.agg { toList := [Value.slice p666 k667 k668, Value.slice p669 k670 k671] }, Value.pointer p665] }
  w664 fun (e672 : Ending) (w673 : World) => ∃ (p674 : Option Addr), e672 = Ending.returned (Value.pointer p674) ∧ Keep [k1] w664 w673 ∧
  y328 p674 w673) ∧ (∃ (p675 : Option Addr), ∃ (k676 : Nat), ∃ (k677 : Nat), ∃ (p678 : Option Addr), ∃ (k679 : Nat), ∃ (k680 : Nat),
  (World.cell? w248 (Addr.add (Addr.add ad335 0) 0) = some (Value.slice p675 k676 k677) ∧ World.cell? w248 (Addr.add (Addr.add ad335 0) 1) =
  some (Value.slice p678 k679 k680) ∧ True) ∧ (∀ (w681 : World), Step w248 w681 [] [] → Calls Proofs.Tryd.prog (149 : Nat) { toList := [Value.pointer l, Value.agg { toList := [Value.slice pKeyA pKeyL pKeyC, Value.slice pValueA pValueL pValueC] }, Value.pointer p334] }
  w681 fun (e683 : Ending) (w684 : World) => ∃ (p685 : Option Addr), e683 = Ending.returned (Value.pointer p685) ∧ Keep [k1] w681 w684 ∧ ∃
  (p686 : Option Addr), ∃ (k687 : Nat), ∃ (k688 : Nat), ∃ (p689 : Option Addr), ∃ (k690 : Nat), ∃ (k691 : Nat), (World.cell? w684 (Addr.add
  (Addr.add ad337 0) 0) = some (Value.slice p686 k687 k688) ∧ World.cell? w684 (Addr.add (Addr.add ad337 0) 1) = some (Value.slice p689 k690
  k691) ∧ True) ∧ ∃ (p692 : Option Addr), World.cell? w684 (Addr.add ad338 3) = some (Value.pointer p692) ∧ Calls Proofs.Tryd.prog (149 :
  Nat) { toList := [Value.pointer p638, Value.agg { toList := [Value.slice p686 k687 k688, Value.slice p689 k690 k691] }, Value.pointer p692] }
  w684 fun (e693 : Ending) (w694 : World) => ∃ (p695 : Option Addr), e693 = Ending.returned (Value.pointer p695) ∧ Keep [k1] w684 w694 ∧
  Calls Proofs.Tryd.prog (149 : Nat) { toList := [Value.pointer p685, Value.agg { toList := [Value.slice p675 k676 k677, Value.slice p678 k679 k680] }, Value.pointer p695] }
  w694 fun (e696 : Ending) (w697 : World) => ∃ (p698 : Option Addr), e696 = Ending.returned (Value.pointer p698) ∧ Keep [k1] w694 w697 ∧
  y328 p698 w697) ∧ (∃ (p699 : Option Addr), ∃ (k700 : Nat), ∃ (k701 : Nat), ∃ (p702 : Option Addr), ∃ (k703 : Nat), ∃ (k704 : Nat),
  (World.cell? w248 (Addr.add (Addr.add ad337 0) 0) = some (Value.slice p699 k700 k701) ∧ World.cell? w248 (Addr.add (Addr.add ad337 0) 1) =
  some (Value.slice p702 k703 k704) ∧ True) ∧ (∀ (w705 : World), Step w248 w705 [] [] → Calls Proofs.Tryd.prog (149 : Nat) { toList := [Value.pointer l, Value.agg { toList := [Value.slice pKeyA pKeyL pKeyC, Value.slice pValueA pValueL pValueC] }, Value.pointer p334] }
  w705 fun (e707 : Ending) (w708 : World) => ∃ (p709 : Option Addr), e707 = Ending.returned (Value.pointer p709) ∧ Keep [k1] w705 w708 ∧ ∃
  (p710 : Option Addr), World.cell? w708 (Addr.add ad338 3) = some (Value.pointer p710) ∧ Calls Proofs.Tryd.prog (149 : Nat) { toList := [Value.pointer p638, Value.agg { toList := [Value.slice p699 k700 k701, Value.slice p702 k703 k704] }, Value.pointer p710] }
  w708 fun (e711 : Ending) (w712 : World) => ∃ (p713 : Option Addr), e711 = Ending.returned (Value.pointer p713) ∧ Keep [k1] w708 w712 ∧
  Calls Proofs.Tryd.prog (149 : Nat) { toList := [Value.pointer p709, Value.agg { toList := [Value.slice p675 k676 k677, Value.slice p678 k679 k680] }, Value.pointer p713] }
  w712 fun (e714 : Ending) (w715 : World) => ∃ (p716 : Option Addr), e714 = Ending.returned (Value.pointer p716) ∧ Keep [k1] w712 w715 ∧
  y328 p716 w715) ∧ ∃ (p717 : Option Addr), World.cell? w248 (Addr.add ad338 3) = some (Value.pointer p717) ∧ ∀ (w718 : World), Step w248
  w718 [] [] → Calls Proofs.Tryd.prog (149 : Nat) { toList := [Value.pointer l, Value.agg { toList := [Value.slice pKeyA pKeyL pKeyC, Value.slice pValueA pValueL pValueC] }, Value.pointer p334] }
  w718 fun (e720 : Ending) (w721 : World) => ∃ (p722 : Option Addr), e720 = Ending.returned (Value.pointer p722) ∧ Keep [k1] w718 w721 ∧
  Calls Proofs.Tryd.prog (149 : Nat) { toList := [Value.pointer p638, Value.agg { toList := [Value.slice p699 k700 k701, Value.slice p702 k703 k704] }, Value.pointer p717] }
  w721 fun (e723 : Ending) (w724 : World) => ∃ (p725 : Option Addr), e723 = Ending.returned (Value.pointer p725) ∧ Keep [k1] w721 w724 ∧
  Calls Proofs.Tryd.prog (149 : Nat) { toList := [Value.pointer p722, Value.agg { toList := [Value.slice p675 k676 k677, Value.slice p678 k679 k680] }, Value.pointer p725] }
  w724 fun (e726 : Ending) (w727 : World) => ∃ (p728 : Option Addr), e726 = Ending.returned (Value.pointer p728) ∧ Keep [k1] w724 w727 ∧
  y328 p728 w727) ∧ ∃ (p729 : Option Addr), World.cell? w248 (Addr.add ad338 3) = some (Value.pointer p729) ∧ (∀ (w730 : World), Step w248
  w730 [] [] → Calls Proofs.Tryd.prog (149 : Nat) { toList := [Value.pointer l, Value.agg { toList := [Value.slice pKeyA pKeyL pKeyC, Value.slice pValueA pValueL pValueC] }, Value.pointer p334] }
  w730 fun (e732 : Ending) (w733 : World) => ∃ (p734 : Option Addr), e732 = Ending.returned (Value.pointer p734) ∧ Keep [k1] w730 w733 ∧ ∃
  (p735 : Option Addr), ∃ (k736 : Nat), ∃ (k737 : Nat), ∃ (p738 : Option Addr), ∃ (k739 : Nat), ∃ (k740 : Nat), (World.cell? w733 (Addr.add
  (Addr.add ad337 0) 0) = some (Value.slice p735 k736 k737) ∧ World.cell? w733 (Addr.add (Addr.add ad337 0) 1) = some (Value.slice p738 k739
  k740) ∧ True) ∧ Calls Proofs.Tryd.prog (149 : Nat) { toList := [Value.pointer p638, Value.agg { toList := [Value.slice p735 k736 k737, Value.slice p738 k739 k740] }, Value.pointer p729] }
  w733 fun (e741 : Ending) (w742 : World) => ∃ (p743 : Option Addr), e741 = Ending.returned (Value.pointer p743) ∧ Keep [k1] w733 w742 ∧
  Calls Proofs.Tryd.prog (149 : Nat) { toList := [Value.pointer p734, Value.agg { toList := [Value.slice p675 k676 k677, Value.slice p678 k679 k680] }, Value.pointer p743] }
  w742 fun (e744 : Ending) (w745 : World) => ∃ (p746 : Option Addr), e744 = Ending.returned (Value.pointer p746) ∧ Keep [k1] w742 w745 ∧
  y328 p746 w745) ∧ ∃ (p747 : Option Addr), ∃ (k748 : Nat), ∃ (k749 : Nat), ∃ (p750 : Option Addr), ∃ (k751 : Nat), ∃ (k752 : Nat),
  (World.cell? w248 (Addr.add (Addr.add ad337 0) 0) = some (Value.slice p747 k748 k749) ∧ World.cell? w248 (Addr.add (Addr.add ad337 0) 1) =
  some (Value.slice p750 k751 k752) ∧ True) ∧ ∀ (w753 : World), Step w248 w753 [] [] → Calls Proofs.Tryd.prog (149 : Nat) { toList := [Value.pointer l, Value.agg { toList := [Value.slice pKeyA pKeyL pKeyC, Value.slice pValueA pValueL pValueC] }, Value.pointer p334] }
  w753 fun (e755 : Ending) (w756 : World) => ∃ (p757 : Option Addr), e755 = Ending.returned (Value.pointer p757) ∧ Keep [k1] w753 w756 ∧
  Calls Proofs.Tryd.prog (149 : Nat) { toList := [Value.pointer p638, Value.agg { toList := [Value.slice p747 k748 k749, Value.slice p750 k751 k752] }, Value.pointer p729] }
  w756 fun (e758 : Ending) (w759 : World) => ∃ (p760 : Option Addr), e758 = Ending.returned (Value.pointer p760) ∧ Keep [k1] w756 w759 ∧
  Calls Proofs.Tryd.prog (149 : Nat) { toList := [Value.pointer p757, Value.agg { toList := [Value.slice p675 k676 k677, Value.slice p678 k679 k680] }, Value.pointer p760] }
  w759 fun (e761 : Ending) (w762 : World) => ∃ (p763 : Option Addr), e761 = Ending.returned (Value.pointer p763) ∧ Keep [k1] w759 w762 ∧
  y328 p763 w762) ∧ (∃ (p764 : Option Addr), ∃ (k765 : Nat), ∃ (k766 : Nat), ∃ (p767 : Option Addr), ∃ (k768 : Nat), ∃ (k769 : Nat),
  (World.cell? w248 (Addr.add (Addr.add ad337 0) 0) = some (Value.slice p764 k765 k766) ∧ World.cell? w248 (Addr.add (Addr.add ad337 0) 1) =
  some (Value.slice p767 k768 k769) ∧ True) ∧ (∀ (w770 : World), Step w248 w770 [] [] → Calls Proofs.Tryd.prog (149 : Nat) { toList := [Value.pointer l, Value.agg { toList := [Value.slice pKeyA pKeyL pKeyC, Value.slice pValueA pValueL pValueC] }, Value.pointer p334] }
  w770 fun (e772 : Ending) (w773 : World) => ∃ (p774 : Option Addr), e772 = Ending.returned (Value.pointer p774) ∧ Keep [k1] w770 w773 ∧ ∃
  (p775 : Option Addr), World.cell? w773 (Addr.add ad338 3) = some (Value.pointer p775) ∧ (∃ (p776 : Option Addr), ∃ (k777 : Nat), ∃ (k778 :
  Nat), ∃ (p779 : Option Addr), ∃ (k780 : Nat), ∃ (k781 : Nat), (World.cell? w773 (Addr.add (Addr.add ad335 0) 0) = some (Value.slice p776
  k777 k778) ∧ World.cell? w773 (Addr.add (Addr.add ad335 0) 1) = some (Value.slice p779 k780 k781) ∧ True) ∧ Calls Proofs.Tryd.prog (149 :
  Nat) { toList := [Value.pointer p638, Value.agg { toList := [Value.slice p764 k765 k766, Value.slice p767 k768 k769] }, Value.pointer p775] }
  w773 fun (e782 : Ending) (w783 : World) => ∃ (p784 : Option Addr), e782 = Ending.returned (Value.pointer p784) ∧ Keep [k1] w773 w783 ∧
  Calls Proofs.Tryd.prog (149 : Nat) { toList := [Value.pointer p774, Value.agg { toList := [Value.slice p776 k777 k778, Value.slice p779 k780 k781] }, Value.pointer p784] }
  w783 fun (e785 : Ending) (w786 : World) => ∃ (p787 : Option Addr), e785 = Ending.returned (Value.pointer p787) ∧ Keep [k1] w783 w786 ∧
  y328 p787 w786) ∧ Calls Proofs.Tryd.prog (149 : Nat) { toList := [Value.pointer p638, Value.agg { toList := [Value.slice p764 k765 k766, Value.slice p767 k768 k769] }, Value.pointer p775] }
  w773 fun (e788 : Ending) (w789 : World) => ∃ (p790 : Option Addr), e788 = Ending.returned (Value.pointer p790) ∧ Keep [k1] w773 w789 ∧ ∃
  (p791 : Option Addr), ∃ (k792 : Nat), ∃ (k793 : Nat), ∃ (p794 : Option Addr), ∃ (k795 : Nat), ∃ (k796 : Nat), (World.cell? w789 (Addr.add
  (Addr.add ad335 0) 0) = some (Value.slice p791 k792 k793) ∧ World.cell? w789 (Addr.add (Addr.add ad335 0) 1) = some (Value.slice p794 k795
  k796) ∧ True) ∧ Calls Proofs.Tryd.prog (149 : Nat) { toList := [Value.pointer p774, Value.agg { toList := [Value.slice p791 k792 k793, Value.slice p794 k795 k796] }, Value.pointer p790] }
  w789 fun (e797 : Ending) (w798 : World) => ∃ (p799 : Option Addr), e797 = Ending.returned (Value.pointer p799) ∧ Keep [k1] w789 w798 ∧
  y328 p799 w798) ∧ (∃ (p800 : Option Addr), ∃ (k801 : Nat), ∃ (k802 : Nat), ∃ (p803 : Option Addr), ∃ (k804 : Nat), ∃ (k805 : Nat),
  (World.cell? w248 (Addr.add (Addr.add ad335 0) 0) = some (Value.slice p800 k801 k802) ∧ World.cell? w248 (Addr.add (Addr.add ad335 0) 1) =
  some (Value.slice p803 k804 k805) ∧ True) ∧ (∀ (w806 : World), Step w248 w806 [] [] → Calls Proofs.Tryd.prog (149 : Nat) { toList := [Value.pointer l, Value.agg { toList := [Value.slice pKeyA pKeyL pKeyC, Value.slice pValueA pValueL pValueC] }, Value.pointer p334] }
  w806 fun (e808 : Ending) (w809 : World) => ∃ (p810 : Option Addr), e808 = Ending.returned (Value.pointer p810) ∧ Keep [k1] w806 w809 ∧ ∃
  (p811 : Option Addr), World.cell? w809 (Addr.add ad338 3) = some (Value.pointer p811) ∧ Calls Proofs.Tryd.prog (149 : Nat) { toList := [Value.pointer p638, Value.agg { toList := [Value.slice p764 k765 k766, Value.slice p767 k768 k769] }, Value.pointer p811] }
  w809 fun (e812 : Ending) (w813 : World) => ∃ (p814 : Option Addr), e812 = Ending.returned (Value.pointer p814) ∧ Keep [k1] w809 w813 ∧
  Calls Proofs.Tryd.prog (149 : Nat) { toList := [Value.pointer p810, Value.agg { toList := [Value.slice p800 k801 k802, Value.slice p803 k804 k805] }, Value.pointer p814] }
  w813 fun (e815 : Ending) (w816 : World) => ∃ (p817 : Option Addr), e815 = Ending.returned (Value.pointer p817) ∧ Keep [k1] w813 w816 ∧
  y328 p817 w816) ∧ ∃ (p818 : Option Addr), World.cell? w248 (Addr.add ad338 3) = some (Value.pointer p818) ∧ ∀ (w819 : World), Step w248
  w819 [] [] → Calls Proofs.Tryd.prog (149 : Nat) { toList := [Value.pointer l, Value.agg { toList := [Value.slice pKeyA pKeyL pKeyC, Value.slice pValueA pValueL pValueC] }, Value.pointer p334] }
  w819 fun (e821 : Ending) (w822 : World) => ∃ (p823 : Option Addr), e821 = Ending.returned (Value.pointer p823) ∧ Keep [k1] w819 w822 ∧
  Calls Proofs.Tryd.prog (149 : Nat) { toList := [Value.pointer p638, Value.agg { toList := [Value.slice p764 k765 k766, Value.slice p767 k768 k769] }, Value.pointer p818] }
  w822 fun (e824 : Ending) (w825 : World) => ∃ (p826 : Option Addr), e824 = Ending.returned (Value.pointer p826) ∧ Keep [k1] w822 w825 ∧
  Calls Proofs.Tryd.prog (149 : Nat) { toList := [Value.pointer p823, Value.agg { toList := [Value.slice p800 k801 k802, Value.slice p803 k804 k805] }, Value.pointer p826] }
  w825 fun (e827 : Ending) (w828 : World) => ∃ (p829 : Option Addr), e827 = Ending.returned (Value.pointer p829) ∧ Keep [k1] w825 w828 ∧
  y328 p829 w828) ∧ ∃ (p830 : Option Addr), World.cell? w248 (Addr.add ad338 3) = some (Value.pointer p830) ∧ (∀ (w831 : World), Step w248
  w831 [] [] → Calls Proofs.Tryd.prog (149 : Nat) { toList := [Value.pointer l, Value.agg { toList := [Value.slice pKeyA pKeyL pKeyC, Value.slice pValueA pValueL pValueC] }, Value.pointer p334] }
  w831 fun (e833 : Ending) (w834 : World) => ∃ (p835 : Option Addr), e833 = Ending.returned (Value.pointer p835) ∧ Keep [k1] w831 w834 ∧ (∃
  (p836 : Option Addr), ∃ (k837 : Nat), ∃ (k838 : Nat), ∃ (p839 : Option Addr), ∃ (k840 : Nat), ∃ (k841 : Nat), (World.cell? w834 (Addr.add
  (Addr.add ad335 0) 0) = some (Value.slice p836 k837 k838) ∧ World.cell? w834 (Addr.add (Addr.add ad335 0) 1) = some (Value.slice p839 k840
  k841) ∧ True) ∧ Calls Proofs.Tryd.prog (149 : Nat) { toList := [Value.pointer p638, Value.agg { toList := [Value.slice p764 k765 k766, Value.slice p767 k768 k769] }, Value.pointer p830] }
  w834 fun (e842 : Ending) (w843 : World) => ∃ (p844 : Option Addr), e842 = Ending.returned (Value.pointer p844) ∧ Keep [k1] w834 w843 ∧
  Calls Proofs.Tryd.prog (149 : Nat) { toList := [Value.pointer p835, Value.agg { toList := [Value.slice p836 k837 k838, Value.slice p839 k840 k841] }, Value.pointer p844] }
  w843 fun (e845 : Ending) (w846 : World) => ∃ (p847 : Option Addr), e845 = Ending.returned (Value.pointer p847) ∧ Keep [k1] w843 w846 ∧
  y328 p847 w846) ∧ Calls Proofs.Tryd.prog (149 : Nat) { toList := [Value.pointer p638, Value.agg { toList := [Value.slice p764 k765 k766, Value.slice p767 k768 k769] }, Value.pointer p830] }
  w834 fun (e848 : Ending) (w849 : World) => ∃ (p850 : Option Addr), e848 = Ending.returned (Value.pointer p850) ∧ Keep [k1] w834 w849 ∧ ∃
  (p851 : Option Addr), ∃ (k852 : Nat), ∃ (k853 : Nat), ∃ (p854 : Option Addr), ∃ (k855 : Nat), ∃ (k856 : Nat), (World.cell? w849 (Addr.add
  (Addr.add ad335 0) 0) = some (Value.slice p851 k852 k853) ∧ World.cell? w849 (Addr.add (Addr.add ad335 0) 1) = some (Value.slice p854 k855
  k856) ∧ True) ∧ Calls Proofs.Tryd.prog (149 : Nat) { toList := [Value.pointer p835, Value.agg { toList := [Value.slice p851 k852 k853, Value.slice p854 k855 k856] }, Value.pointer p850] }
  w849 fun (e857 : Ending) (w858 : World) => ∃ (p859 : Option Addr), e857 = Ending.returned (Value.pointer p859) ∧ Keep [k1] w849 w858 ∧
  y328 p859 w858) ∧ ∃ (p860 : Option Addr), ∃ (k861 : Nat), ∃ (k862 : Nat), ∃ (p863 : Option Addr), ∃ (k864 : Nat), ∃ (k865 : Nat),
  (World.cell? w248 (Addr.add (Addr.add ad335 0) 0) = some (Value.slice p860 k861 k862) ∧ World.cell? w248 (Addr.add (Addr.add ad335 0) 1) =
  some (Value.slice p863 k864 k865) ∧ True) ∧ ∀ (w866 : World), Step w248 w866 [] [] → Calls Proofs.Tryd.prog (149 : Nat) { toList := [Value.pointer l, Value.agg { toList := [Value.slice pKeyA pKeyL pKeyC, Value.slice pValueA pValueL pValueC] }, Value.pointer p334] }
  w866 fun (e868 : Ending) (w869 : World) => ∃ (p870 : Option Addr), e868 = Ending.returned (Value.pointer p870) ∧ Keep [k1] w866 w869 ∧
  Calls Proofs.Tryd.prog (149 : Nat) { toList := [Value.pointer p638, Value.agg { toList := [Value.slice p764 k765 k766, Value.slice p767 k768 k769] }, Value.pointer p830] }
  w869 fun (e871 : Ending) (w872 : World) => ∃ (p873 : Option Addr), e871 = Ending.returned (Value.pointer p873) ∧ Keep [k1] w869 w872 ∧
  Calls Proofs.Tryd.prog (149 : Nat) { toList := [Value.pointer p870, Value.agg { toList := [Value.slice p860 k861 k862, Value.slice p863 k864 k865] }, Value.pointer p873] }
  w872 fun (e874 : Ending) (w875 : World) => ∃ (p876 : Option Addr), e874 = Ending.returned (Value.pointer p876) ∧ Keep [k1] w872 w875 ∧
  y328 p876 w875) ∧ ∃ (p877 : Option Addr), World.cell? w248 (Addr.add ad338 3) = some (Value.pointer p877) ∧ (∀ (w878 : World), Step w248
  w878 [] [] → Calls Proofs.Tryd.prog (149 : Nat) { toList := [Value.pointer l, Value.agg { toList := [Value.slice pKeyA pKeyL pKeyC, Value.slice pValueA pValueL pValueC] }, Value.pointer p334] }
  w878 fun (e880 : Ending) (w881 : World) => ∃ (p882 : Option Addr), e880 = Ending.returned (Value.pointer p882) ∧ Keep [k1] w878 w881 ∧ ∃
  (p883 : Option Addr), ∃ (k884 : Nat), ∃ (k885 : Nat), ∃ (p886 : Option Addr), ∃ (k887 : Nat), ∃ (k888 : Nat), (World.cell? w881 (Addr.add
  (Addr.add ad337 0) 0) = some (Value.slice p883 k884 k885) ∧ World.cell? w881 (Addr.add (Addr.add ad337 0) 1) = some (Value.slice p886 k887
  k888) ∧ True) ∧ (∃ (p889 : Option Addr), ∃ (k890 : Nat), ∃ (k891 : Nat), ∃ (p892 : Option Addr), ∃ (k893 : Nat), ∃ (k894 : Nat),
  (World.cell? w881 (Addr.add (Addr.add ad335 0) 0) = some (Value.slice p889 k890 k891) ∧ World.cell? w881 (Addr.add (Addr.add ad335 0) 1) =
  some (Value.slice p892 k893 k894) ∧ True) ∧ Calls Proofs.Tryd.prog (149 : Nat) { toList := [Value.pointer p638, Value.agg { toList := [Value.slice p883 k884 k885, Value.slice p886 k887 k888] }, Value.pointer p877] }
  w881 fun (e895 : Ending) (w896 : World) => ∃ (p897 : Option Addr), e895 = Ending.returned (Value.pointer p897) ∧ Keep [k1] w881 w896 ∧
  Calls Proofs.Tryd.prog (149 : Nat) { toList := [Value.pointer p882, Value.agg { toList := [Value.slice p889 k890 k891, Value.slice p892 k893 k894] }, Value.pointer p897] }
  w896 fun (e898 : Ending) (w899 : World) => ∃ (p900 : Option Addr), e898 = Ending.returned (Value.pointer p900) ∧ Keep [k1] w896 w899 ∧
  y328 p900 w899) ∧ Calls Proofs.Tryd.prog (149 : Nat) { toList := [Value.pointer p638, Value.agg { toList := [Value.slice p883 k884 k885, Value.slice p886 k887 k888] }, Value.pointer p877] }
  w881 fun (e901 : Ending) (w902 : World) => ∃ (p903 : Option Addr), e901 = Ending.returned (Value.pointer p903) ∧ Keep [k1] w881 w902 ∧ ∃
  (p904 : Option Addr), ∃ (k905 : Nat), ∃ (k906 : Nat), ∃ (p907 : Option Addr), ∃ (k908 : Nat), ∃ (k909 : Nat), (World.cell? w902 (Addr.add
  (Addr.add ad335 0) 0) = some (Value.slice p904 k905 k906) ∧ World.cell? w902 (Addr.add (Addr.add ad335 0) 1) = some (Value.slice p907 k908
  k909) ∧ True) ∧ Calls Proofs.Tryd.prog (149 : Nat) { toList := [Value.pointer p882, Value.agg { toList := [Value.slice p904 k905 k906, Value.slice p907 k908 k909] }, Value.pointer p903] }
  w902 fun (e910 : Ending) (w911 : World) => ∃ (p912 : Option Addr), e910 = Ending.returned (Value.pointer p912) ∧ Keep [k1] w902 w911 ∧
  y328 p912 w911) ∧ (∃ (p913 : Option Addr), ∃ (k914 : Nat), ∃ (k915 : Nat), ∃ (p916 : Option Addr), ∃ (k917 : Nat), ∃ (k918 : Nat),
  (World.cell? w248 (Addr.add (Addr.add ad335 0) 0) = some (Value.slice p913 k914 k915) ∧ World.cell? w248 (Addr.add (Addr.add ad335 0) 1) =
  some (Value.slice p916 k917 k918) ∧ True) ∧ (∀ (w919 : World), Step w248 w919 [] [] → Calls Proofs.Tryd.prog (149 : Nat) { toList := [Value.pointer l, Value.agg { toList := [Value.slice pKeyA pKeyL pKeyC, Value.slice pValueA pValueL pValueC] }, Value.pointer p334] }
  w919 fun (e921 : Ending) (w922 : World) => ∃ (p923 : Option Addr), e921 = Ending.returned (Value.pointer p923) ∧ Keep [k1] w919 w922 ∧ ∃
  (p924 : Option Addr), ∃ (k925 : Nat), ∃ (k926 : Nat), ∃ (p927 : Option Addr), ∃ (k928 : Nat), ∃ (k929 : Nat), (World.cell? w922 (Addr.add
  (Addr.add ad337 0) 0) = some (Value.slice p924 k925 k926) ∧ World.cell? w922 (Addr.add (Addr.add ad337 0) 1) = some (Value.slice p927 k928
  k929) ∧ True) ∧ Calls Proofs.Tryd.prog (149 : Nat) { toList := [Value.pointer p638, Value.agg { toList := [Value.slice p924 k925 k926, Value.slice p927 k928 k929] }, Value.pointer p877] }
  w922 fun (e930 : Ending) (w931 : World) => ∃ (p932 : Option Addr), e930 = Ending.returned (Value.pointer p932) ∧ Keep [k1] w922 w931 ∧
  Calls Proofs.Tryd.prog (149 : Nat) { toList := [Value.pointer p923, Value.agg { toList := [Value.slice p913 k914 k915, Value.slice p916 k917 k918] }, Value.pointer p932] }
  w931 fun (e933 : Ending) (w934 : World) => ∃ (p935 : Option Addr), e933 = Ending.returned (Value.pointer p935) ∧ Keep [k1] w931 w934 ∧
  y328 p935 w934) ∧ ∃ (p936 : Option Addr), ∃ (k937 : Nat), ∃ (k938 : Nat), ∃ (p939 : Option Addr), ∃ (k940 : Nat), ∃ (k941 : Nat),
  (World.cell? w248 (Addr.add (Addr.add ad337 0) 0) = some (Value.slice p936 k937 k938) ∧ World.cell? w248 (Addr.add (Addr.add ad337 0) 1) =
  some (Value.slice p939 k940 k941) ∧ True) ∧ ∀ (w942 : World), Step w248 w942 [] [] → Calls Proofs.Tryd.prog (149 : Nat) { toList := [Value.pointer l, Value.agg { toList := [Value.slice pKeyA pKeyL pKeyC, Value.slice pValueA pValueL pValueC] }, Value.pointer p334] }
  w942 fun (e944 : Ending) (w945 : World) => ∃ (p946 : Option Addr), e944 = Ending.returned (Value.pointer p946) ∧ Keep [k1] w942 w945 ∧
  Calls Proofs.Tryd.prog (149 : Nat) { toList := [Value.pointer p638, Value.agg { toList := [Value.slice p936 k937 k938, Value.slice p939 k940 k941] }, Value.pointer p877] }
  w945 fun (e947 : Ending) (w948 : World) => ∃ (p949 : Option Addr), e947 = Ending.returned (Value.pointer p949) ∧ Keep [k1] w945 w948 ∧
  Calls Proofs.Tryd.prog (149 : Nat) { toList := [Value.pointer p946, Value.agg { toList := [Value.slice p913 k914 k915, Value.slice p916 k917 k918] }, Value.pointer p949] }
  w948 fun (e950 : Ending) (w951 : World) => ∃ (p952 : Option Addr), e950 = Ending.returned (Value.pointer p952) ∧ Keep [k1] w948 w951 ∧
  y328 p952 w951) ∧ ∃ (p953 : Option Addr), ∃ (k954 : Nat), ∃ (k955 : Nat), ∃ (p956 : Option Addr), ∃ (k957 : Nat), ∃ (k958 : Nat),
  (World.cell? w248 (Addr.add (Addr.add ad337 0) 0) = some (Value.slice p953 k954 k955) ∧ World.cell? w248 (Addr.add (Addr.add ad337 0) 1) =
  some (Value.slice p956 k957 k958) ∧ True) ∧ (∀ (w959 : World), Step w248 w959 [] [] → Calls Proofs.Tryd.prog (149 : Nat) { toList := [Value.pointer l, Value.agg { toList := [Value.slice pKeyA pKeyL pKeyC, Value.slice pValueA pValueL pValueC] }, Value.pointer p334] }
  w959 fun (e961 : Ending) (w962 : World) => ∃ (p963 : Option Addr), e961 = Ending.returned (Value.pointer p963) ∧ Keep [k1] w959 w962 ∧ (∃
  (p964 : Option Addr), ∃ (k965 : Nat), ∃ (k966 : Nat), ∃ (p967 : Option Addr), ∃ (k968 : Nat), ∃ (k969 : Nat), (World.cell? w962 (Addr.add
  (Addr.add ad335 0) 0) = some (Value.slice p964 k965 k966) ∧ World.cell? w962 (Addr.add (Addr.add ad335 0) 1) = some (Value.slice p967 k968
  k969) ∧ True) ∧ Calls Proofs.Tryd.prog (149 : Nat) { toList := [Value.pointer p638, Value.agg { toList := [Value.slice p953 k954 k955, Value.slice p956 k957 k958] }, Value.pointer p877] }
  w962 fun (e970 : Ending) (w971 : World) => ∃ (p972 : Option Addr), e970 = Ending.returned (Value.pointer p972) ∧ Keep [k1] w962 w971 ∧
  Calls Proofs.Tryd.prog (149 : Nat) { toList := [Value.pointer p963, Value.agg { toList := [Value.slice p964 k965 k966, Value.slice p967 k968 k969] }, Value.pointer p972] }
  w971 fun (e973 : Ending) (w974 : World) => ∃ (p975 : Option Addr), e973 = Ending.returned (Value.pointer p975) ∧ Keep [k1] w971 w974 ∧
  y328 p975 w974) ∧ Calls Proofs.Tryd.prog (149 : Nat) { toList := [Value.pointer p638, Value.agg { toList := [Value.slice p953 k954 k955, Value.slice p956 k957 k958] }, Value.pointer p877] }
  w962 fun (e976 : Ending) (w977 : World) => ∃ (p978 : Option Addr), e976 = Ending.returned (Value.pointer p978) ∧ Keep [k1] w962 w977 ∧ ∃
  (p979 : Option Addr), ∃ (k980 : Nat), ∃ (k981 : Nat), ∃ (p982 : Option Addr), ∃ (k983 : Nat), ∃ (k984 : Nat), (World.cell? w977 (Addr.add
  (Addr.add ad335 0) 0) = some (Value.slice p979 k980 k981) ∧ World.cell? w977 (Addr.add (Addr.add ad335 0) 1) = some (Value.slice p982 k983
  k984) ∧ True) ∧ Calls Proofs.Tryd.prog (149 : Nat) { toList := [Value.pointer p963, Value.agg { toList := [Value.slice p979 k980 k981, Value.slice p982 k983 k984] }, Value.pointer p978] }
  w977 fun (e985 : Ending) (w986 : World) => ∃ (p987 : Option Addr), e985 = Ending.returned (Value.pointer p987) ∧ Keep [k1] w977 w986 ∧
  y328 p987 w986) ∧ ∃ (p988 : Option Addr), ∃ (k989 : Nat), ∃ (k990 : Nat), ∃ (p991 : Option Addr), ∃ (k992 : Nat), ∃ (k993 : Nat),
  (World.cell? w248 (Addr.add (Addr.add ad335 0) 0) = some (Value.slice p988 k989 k990) ∧ World.cell? w248 (Addr.add (Addr.add ad335 0) 1) =
  some (Value.slice p991 k992 k993) ∧ True) ∧ ∀ (w994 : World), Step w248 w994 [] [] → Calls Proofs.Tryd.prog (149 : Nat) { toList := [Value.pointer l, Value.agg { toList := [Value.slice pKeyA pKeyL pKeyC, Value.slice pValueA pValueL pValueC] }, Value.pointer p334] }
  w994 fun (e996 : Ending) (w997 : World) => ∃ (p998 : Option Addr), e996 = Ending.returned (Value.pointer p998) ∧ Keep [k1] w994 w997 ∧
  Calls Proofs.Tryd.prog (149 : Nat) { toList := [Value.pointer p638, Value.agg { toList := [Value.slice p953 k954 k955, Value.slice p956 k957 k958] }, Value.pointer p877] }
  w997 fun (e999 : Ending) (w1000 : World) => ∃ (p1001 : Option Addr), e999 = Ending.returned (Value.pointer p1001) ∧ Keep [k1] w997 w1000 ∧
  Calls Proofs.Tryd.prog (149 : Nat) { toList := [Value.pointer p998, Value.agg { toList := [Value.slice p988 k989 k990, Value.slice p991 k992 k993] }, Value.pointer p1001] }
  w1000 fun (e1002 : Ending) (w1003 : World) => ∃ (p1004 : Option Addr), e1002 = Ending.returned (Value.pointer p1004) ∧ Keep [k1] w1000
  w1003 ∧ y328 p1004 w1003) ∧ (∃ (p1005 : Option Addr), ∃ (k1006 : Nat), ∃ (k1007 : Nat), ∃ (p1008 : Option Addr), ∃ (k1009 : Nat), ∃ (k1010
  : Nat), (World.cell? w248 (Addr.add (Addr.add ad337 0) 0) = some (Value.slice p1005 k1006 k1007) ∧ World.cell? w248 (Addr.add (Addr.add
  ad337 0) 1) = some (Value.slice p1008 k1009 k1010) ∧ True) ∧ (∀ (w1011 : World), Step w248 w1011 [] [] → Calls Proofs.Tryd.prog (149 :
  Nat) { toList := [Value.pointer l, Value.agg { toList := [Value.slice pKeyA pKeyL pKeyC, Value.slice pValueA pValueL pValueC] }, Value.pointer p334] }
  w1011 fun (e1013 : Ending) (w1014 : World) => ∃ (p1015 : Option Addr), e1013 = Ending.returned (Value.pointer p1015) ∧ Keep [k1] w1011
  w1014 ∧ ∃ (p1016 : Option Addr), World.cell? w1014 (Addr.add ad336 3) = some (Value.pointer p1016) ∧ ∃ (p1017 : Option Addr), World.cell?
  w1014 (Addr.add ad338 3) = some (Value.pointer p1017) ∧ (∃ (p1018 : Option Addr), ∃ (k1019 : Nat), ∃ (k1020 : Nat), ∃ (p1021 : Option
  Addr), ∃ (k1022 : Nat), ∃ (k1023 : Nat), (World.cell? w1014 (Addr.add (Addr.add ad335 0) 0) = some (Value.slice p1018 k1019 k1020) ∧
  World.cell? w1014 (Addr.add (Addr.add ad335 0) 1) = some (Value.slice p1021 k1022 k1023) ∧ True) ∧ Calls Proofs.Tryd.prog (149 : Nat) { toList := [Value.pointer p1016, Value.agg { toList := [Value.slice p1005 k1006 k1007, Value.slice p1008 k1009 k1010] }, Value.pointer p1017] }
  w1014 fun (e1024 : Ending) (w1025 : World) => ∃ (p1026 : Option Addr), e1024 = Ending.returned (Value.pointer p1026) ∧ Keep [k1] w1014
  w1025 ∧ Calls Proofs.Tryd.prog (149 : Nat) { toList := [Value.pointer p1015, Value.agg { toList := [Value.slice p1018 k1019 k1020, Value.slice p1021 k1022 k1023] }, Value.pointer p1026] }
  w1025 fun (e1027 : Ending) (w1028 : World) => ∃ (p1029 : Option Addr), e1027 = Ending.returned (Value.pointer p1029) ∧ Keep [k1] w1025
  w1028 ∧ y328 p1029 w1028) ∧ Calls Proofs.Tryd.prog (149 : Nat) { toList := [Value.pointer p1016, Value.agg { toList := [Value.slice p1005 k1006 k1007, Value.slice p1008 k1009 k1010] }, Value.pointer p1017] }
  w1014 fun (e1030 : Ending) (w1031 : World) => ∃ (p1032 : Option Addr), e1030 = Ending.returned (Value.pointer p1032) ∧ Keep [k1] w1014
  w1031 ∧ ∃ (p1033 : Option Addr), ∃ (k1034 : Nat), ∃ (k1035 : Nat), ∃ (p1036 : Option Addr), ∃ (k1037 : Nat), ∃ (k1038 : Nat), (World.cell?
  w1031 (Addr.add (Addr.add ad335 0) 0) = some (Value.slice p1033 k1034 k1035) ∧ World.cell? w1031 (Addr.add (Addr.add ad335 0) 1) = some
  (Value.slice p1036 k1037 k1038) ∧ True) ∧ Calls Proofs.Tryd.prog (149 : Nat) { toList := [Value.pointer p1015, Value.agg { toList := [Value.slice p1033 k1034 k1035, Value.slice p1036 k1037 k1038] }, Value.pointer p1032] }
  w1031 fun (e1039 : Ending) (w1040 : World) => ∃ (p1041 : Option Addr), e1039 = Ending.returned (Value.pointer p1041) ∧ Keep [k1] w1031
  w1040 ∧ y328 p1041 w1040) ∧ (∃ (p1042 : Option Addr), ∃ (k1043 : Nat), ∃ (k1044 : Nat), ∃ (p1045 : Option Addr), ∃ (k1046 : Nat), ∃ (k1047
  : Nat), (World.cell? w248 (Addr.add (Addr.add ad335 0) 0) = some (Value.slice p1042 k1043 k1044) ∧ World.cell? w248 (Addr.add (Addr.add
  ad335 0) 1) = some (Value.slice p1045 k1046 k1047) ∧ True) ∧ (∀ (w1048 : World), Step w248 w1048 [] [] → Calls Proofs.Tryd.prog (149 :
  Nat) { toList := [Value.pointer l, Value.agg { toList := [Value.slice pKeyA pKeyL pKeyC, Value.slice pValueA pValueL pValueC] }, Value.pointer p334] }
  w1048 fun (e1050 : Ending) (w1051 : World) => ∃ (p1052 : Option Addr), e1050 = Ending.returned (Value.pointer p1052) ∧ Keep [k1] w1048
  w1051 ∧ ∃ (p1053 : Option Addr), World.cell? w1051 (Addr.add ad336 3) = some (Value.pointer p1053) ∧ ∃ (p1054 : Option Addr), World.cell?
  w1051 (Addr.add ad338 3) = some (Value.pointer p1054) ∧ Calls Proofs.Tryd.prog (149 : Nat) { toList := [Value.pointer p1053, Value.agg { toList := [Value.slice p1005 k1006 k1007, Value.slice p1008 k1009 k1010] }, Value.pointer p1054] }
  w1051 fun (e1055 : Ending) (w1056 : World) => ∃ (p1057 : Option Addr), e1055 = Ending.returned (Value.pointer p1057) ∧ Keep [k1] w1051
  w1056 ∧ Calls Proofs.Tryd.prog (149 : Nat) { toList := [Value.pointer p1052, Value.agg { toList := [Value.slice p1042 k1043 k1044, Value.slice p1045 k1046 k1047] }, Value.pointer p1057] }
  w1056 fun (e1058 : Ending) (w1059 : World) => ∃ (p1060 : Option Addr), e1058 = Ending.returned (Value.pointer p1060) ∧ Keep [k1] w1056
  w1059 ∧ y328 p1060 w1059) ∧ (∃ (p1061 : Option Addr), World.cell? w248 (Addr.add ad336 3) = some (Value.pointer p1061) ∧ (∀ (w1062 :
  World), Step w248 w1062 [] [] → Calls Proofs.Tryd.prog (149 : Nat) { toList := [Value.pointer l, Value.agg { toList := [Value.slice pKeyA pKeyL pKeyC, Value.slice pValueA pValueL pValueC] }, Value.pointer p334] }
  w1062 fun (e1064 : Ending) (w1065 : World) => ∃ (p1066 : Option Addr), e1064 = Ending.returned (Value.pointer p1066) ∧ Keep [k1] w1062
  w1065 ∧ ∃ (p1067 : Option Addr), World.cell? w1065 (Addr.add ad338 3) = some (Value.pointer p1067) ∧ Calls Proofs.Tryd.prog (149 : Nat) { toList := [Value.pointer p1061, Value.agg { toList := [Value.slice p1005 k1006 k1007, Value.slice p1008 k1009 k1010] }, Value.pointer p1067] }
  w1065 fun (e1068 : Ending) (w1069 : World) => ∃ (p1070 : Option Addr), e1068 = Ending.returned (Value.pointer p1070) ∧ Keep [k1] w1065
  w1069 ∧ Calls Proofs.Tryd.prog (149 : Nat) { toList := [Value.pointer p1066, Value.agg { toList := [Value.slice p1042 k1043 k1044, Value.slice p1045 k1046 k1047] }, Value.pointer p1070] }
  w1069 fun (e1071 : Ending) (w1072 : World) => ∃ (p1073 : Option Addr), e1071 = Ending.returned (Value.pointer p1073) ∧ Keep [k1] w1069
  w1072 ∧ y328 p1073 w1072) ∧ ∃ (p1074 : Option Addr), World.cell? w248 (Addr.add ad338 3) = some (Value.pointer p1074) ∧ ∀ (w1075 : World),
  Step w248 w1075 [] [] → Calls Proofs.Tryd.prog (149 : Nat) { toList := [Value.pointer l, Value.agg { toList := [Value.slice pKeyA pKeyL pKeyC, Value.slice pValueA pValueL pValueC] }, Value.pointer p334] }
  w1075 fun (e1077 : Ending) (w1078 : World) => ∃ (p1079 : Option Addr), e1077 = Ending.returned (Value.pointer p1079) ∧ Keep [k1] w1075
  w1078 ∧ Calls Proofs.Tryd.prog (149 : Nat) { toList := [Value.pointer p1061, Value.agg { toList := [Value.slice p1005 k1006 k1007, Value.slice p1008 k1009 k1010] }, Value.pointer p1074] }
  w1078 fun (e1080 : Ending) (w1081 : World) => ∃ (p1082 : Option Addr), e1080 = Ending.returned (Value.pointer p1082) ∧ Keep [k1] w1078
  w1081 ∧ Calls Proofs.Tryd.prog (149 : Nat) { toList := [Value.pointer p1079, Value.agg { toList := [Value.slice p1042 k1043 k1044, Value.slice p1045 k1046 k1047] }, Value.pointer p1082] }
  w1081 fun (e1083 : Ending) (w1084 : World) => ∃ (p1085 : Option Addr), e1083 = Ending.returned (Value.pointer p1085) ∧ Keep [k1] w1081
  w1084 ∧ y328 p1085 w1084) ∧ ∃ (p1086 : Option Addr), World.cell? w248 (Addr.add ad338 3) = some (Value.pointer p1086) ∧ (∀ (w1087 :
  World), Step w248 w1087 [] [] → Calls Proofs.Tryd.prog (149 : Nat) { toList := [Value.pointer l, Value.agg { toList := [Value.slice pKeyA pKeyL pKeyC, Value.slice pValueA pValueL pValueC] }, Value.pointer p334] }
  w1087 fun (e1089 : Ending) (w1090 : World) => ∃ (p1091 : Option Addr), e1089 = Ending.returned (Value.pointer p1091) ∧ Keep [k1] w1087
  w1090 ∧ ∃ (p1092 : Option Addr), World.cell? w1090 (Addr.add ad336 3) = some (Value.pointer p1092) ∧ Calls Proofs.Tryd.prog (149 : Nat) { toList := [Value.pointer p1092, Value.agg { toList := [Value.slice p1005 k1006 k1007, Value.slice p1008 k1009 k1010] }, Value.pointer p1086] }
  w1090 fun (e1093 : Ending) (w1094 : World) => ∃ (p1095 : Option Addr), e1093 = Ending.returned (Value.pointer p1095) ∧ Keep [k1] w1090
  w1094 ∧ Calls Proofs.Tryd.prog (149 : Nat) { toList := [Value.pointer p1091, Value.agg { toList := [Value.slice p1042 k1043 k1044, Value.slice p1045 k1046 k1047] }, Value.pointer p1095] }
  w1094 fun (e1096 : Ending) (w1097 : World) => ∃ (p1098 : Option Addr), e1096 = Ending.returned (Value.pointer p1098) ∧ Keep [k1] w1094
  w1097 ∧ y328 p1098 w1097) ∧ ∃ (p1099 : Option Addr), World.cell? w248 (Addr.add ad336 3) = some (Value.pointer p1099) ∧ ∀ (w1100 : World),
  Step w248 w1100 [] [] → Calls Proofs.Tryd.prog (149 : Nat) { toList := [Value.pointer l, Value.agg { toList := [Value.slice pKeyA pKeyL pKeyC, Value.slice pValueA pValueL pValueC] }, Value.pointer p334] }
  w1100 fun (e1102 : Ending) (w1103 : World) => ∃ (p1104 : Option Addr), e1102 = Ending.returned (Value.pointer p1104) ∧ Keep [k1] w1100
  w1103 ∧ Calls Proofs.Tryd.prog (149 : Nat) { toList := [Value.pointer p1099, Value.agg { toList := [Value.slice p1005 k1006 k1007, Value.slice p1008 k1009 k1010] }, Value.pointer p1086] }
  w1103 fun (e1105 : Ending) (w1106 : World) => ∃ (p1107 : Option Addr), e1105 = Ending.returned (Value.pointer p1107) ∧ Keep [k1] w1103
  w1106 ∧ Calls Proofs.Tryd.prog (149 : Nat) { toList := [Value.pointer p1104, Value.agg { toList := [Value.slice p1042 k1043 k1044, Value.slice p1045 k1046 k1047] }, Value.pointer p1107] }
  w1106 fun (e1108 : Ending) (w1109 : World) => ∃ (p1110 : Option Addr), e1108 = Ending.returned (Value.pointer p1110) ∧ Keep [k1] w1106
  w1109 ∧ y328 p1110 w1109) ∧ (∃ (p1111 : Option Addr), World.cell? w248 (Addr.add ad336 3) = some (Value.pointer p1111) ∧ (∀ (w1112 :
  World), Step w248 w1112 [] [] → Calls Proofs.Tryd.prog (149 : Nat) { toList := [Value.pointer l, Value.agg { toList := [Value.slice pKeyA pKeyL pKeyC, Value.slice pValueA pValueL pValueC] }, Value.pointer p334] }
  w1112 fun (e1114 : Ending) (w1115 : World) => ∃ (p1116 : Option Addr), e1114 = Ending.returned (Value.pointer p1116) ∧ Keep [k1] w1112
  w1115 ∧ ∃ (p1117 : Option Addr), World.cell? w1115 (Addr.add ad338 3) = some (Value.pointer p1117) ∧ (∃ (p1118 : Option Addr), ∃ (k1119 :
  Nat), ∃ (k1120 : Nat), ∃ (p1121 : Option Addr), ∃ (k1122 : Nat), ∃ (k1123 : Nat), (World.cell? w1115 (Addr.add (Addr.add ad335 0) 0) =
  some (Value.slice p1118 k1119 k1120) ∧ World.cell? w1115 (Addr.add (Addr.add ad335 0) 1) = some (Value.slice p1121 k1122 k1123) ∧ True) ∧
  Calls Proofs.Tryd.prog (149 : Nat) { toList := [Value.pointer p1111, Value.agg { toList := [Value.slice p1005 k1006 k1007, Value.slice p1008 k1009 k1010] }, Value.pointer p1117] }
  w1115 fun (e1124 : Ending) (w1125 : World) => ∃ (p1126 : Option Addr), e1124 = Ending.returned (Value.pointer p1126) ∧ Keep [k1] w1115
  w1125 ∧ Calls Proofs.Tryd.prog (149 : Nat) { toList := [Value.pointer p1116, Value.agg { toList := [Value.slice p1118 k1119 k1120, Value.slice p1121 k1122 k1123] }, Value.pointer p1126] }
  w1125 fun (e1127 : Ending) (w1128 : World) => ∃ (p1129 : Option Addr), e1127 = Ending.returned (Value.pointer p1129) ∧ Keep [k1] w1125
  w1128 ∧ y328 p1129 w1128) ∧ Calls Proofs.Tryd.prog (149 : Nat) { toList := [Value.pointer p1111, Value.agg { toList := [Value.slice p1005 k1006 k1007, Value.slice p1008 k1009 k1010] }, Value.pointer p1117] }
  w1115 fun (e1130 : Ending) (w1131 : World) => ∃ (p1132 : Option Addr), e1130 = Ending.returned (Value.pointer p1132) ∧ Keep [k1] w1115
  w1131 ∧ ∃ (p1133 : Option Addr), ∃ (k1134 : Nat), ∃ (k1135 : Nat), ∃ (p1136 : Option Addr), ∃ (k1137 : Nat), ∃ (k1138 : Nat), (World.cell?
  w1131 (Addr.add (Addr.add ad335 0) 0) = some (Value.slice p1133 k1134 k1135) ∧ World.cell? w1131 (Addr.add (Addr.add ad335 0) 1) = some
  (Value.slice p1136 k1137 k1138) ∧ True) ∧ Calls Proofs.Tryd.prog (149 : Nat) { toList := [Value.pointer p1116, Value.agg { toList := [Value.slice p1133 k1134 k1135, Value.slice p1136 k1137 k1138] }, Value.pointer p1132] }
  w1131 fun (e1139 : Ending) (w1140 : World) => ∃ (p1141 : Option Addr), e1139 = Ending.returned (Value.pointer p1141) ∧ Keep [k1] w1131
  w1140 ∧ y328 p1141 w1140) ∧ (∃ (p1142 : Option Addr), ∃ (k1143 : Nat), ∃ (k1144 : Nat), ∃ (p1145 : Option Addr), ∃ (k1146 : Nat), ∃ (k1147
  : Nat), (World.cell? w248 (Addr.add (Addr.add ad335 0) 0) = some (Value.slice p1142 k1143 k1144) ∧ World.cell? w248 (Addr.add (Addr.add
  ad335 0) 1) = some (Value.slice p1145 k1146 k1147) ∧ True) ∧ (∀ (w1148 : World), Step w248 w1148 [] [] → Calls Proofs.Tryd.prog (149 :
  Nat) { toList := [Value.pointer l, Value.agg { toList := [Value.slice pKeyA pKeyL pKeyC, Value.slice pValueA pValueL pValueC] }, Value.pointer p334] }
  w1148 fun (e1150 : Ending) (w1151 : World) => ∃ (p1152 : Option Addr), e1150 = Ending.returned (Value.pointer p1152) ∧ Keep [k1] w1148
  w1151 ∧ ∃ (p1153 : Option Addr), World.cell? w1151 (Addr.add ad338 3) = some (Value.pointer p1153) ∧ Calls Proofs.Tryd.prog (149 : Nat) { toList := [Value.pointer p1111, Value.agg { toList := [Value.slice p1005 k1006 k1007, Value.slice p1008 k1009 k1010] }, Value.pointer p1153] }
  w1151 fun (e1154 : Ending) (w1155 : World) => ∃ (p1156 : Option Addr), e1154 = Ending.returned (Value.pointer p1156) ∧ Keep [k1] w1151
  w1155 ∧ Calls Proofs.Tryd.prog (149 : Nat) { toList := [Value.pointer p1152, Value.agg { toList := [Value.slice p1142 k1143 k1144, Value.slice p1145 k1146 k1147] }, Value.pointer p1156] }
  w1155 fun (e1157 : Ending) (w1158 : World) => ∃ (p1159 : Option Addr), e1157 = Ending.returned (Value.pointer p1159) ∧ Keep [k1] w1155
  w1158 ∧ y328 p1159 w1158) ∧ ∃ (p1160 : Option Addr), World.cell? w248 (Addr.add ad338 3) = some (Value.pointer p1160) ∧ ∀ (w1161 : World),
  Step w248 w1161 [] [] → Calls Proofs.Tryd.prog (149 : Nat) { toList := [Value.pointer l, Value.agg { toList := [Value.slice pKeyA pKeyL pKeyC, Value.slice pValueA pValueL pValueC] }, Value.pointer p334] }
  w1161 fun (e1163 : Ending) (w1164 : World) => ∃ (p1165 : Option Addr), e1163 = Ending.returned (Value.pointer p1165) ∧ Keep [k1] w1161
  w1164 ∧ Calls Proofs.Tryd.prog (149 : Nat) { toList := [Value.pointer p1111, Value.agg { toList := [Value.slice p1005 k1006 k1007, Value.slice p1008 k1009 k1010] }, Value.pointer p1160] }
  w1164 fun (e1166 : Ending) (w1167 : World) => ∃ (p1168 : Option Addr), e1166 = Ending.returned (Value.pointer p1168) ∧ Keep [k1] w1164
  w1167 ∧ Calls Proofs.Tryd.prog (149 : Nat) { toList := [Value.pointer p1165, Value.agg { toList := [Value.slice p1142 k1143 k1144, Value.slice p1145 k1146 k1147] }, Value.pointer p1168] }
  w1167 fun (e1169 : Ending) (w1170 : World) => ∃ (p1171 : Option Addr), e1169 = Ending.returned (Value.pointer p1171) ∧ Keep [k1] w1167
  w1170 ∧ y328 p1171 w1170) ∧ ∃ (p1172 : Option Addr), World.cell? w248 (Addr.add ad338 3) = some (Value.pointer p1172) ∧ (∀ (w1173 :
  World), Step w248 w1173 [] [] → Calls Proofs.Tryd.prog (149 : Nat) { toList := [Value.pointer l, Value.agg { toList := [Value.slice pKeyA pKeyL pKeyC, Value.slice pValueA pValueL pValueC] }, Value.pointer p334] }
  w1173 fun (e1175 : Ending) (w1176 : World) => ∃ (p1177 : Option Addr), e1175 = Ending.returned (Value.pointer p1177) ∧ Keep [k1] w1173
  w1176 ∧ (∃ (p1178 : Option Addr), ∃ (k1179 : Nat), ∃ (k1180 : Nat), ∃ (p1181 : Option Addr), ∃ (k1182 : Nat), ∃ (k1183 : Nat),
  (World.cell? w1176 (Addr.add (Addr.add ad335 0) 0) = some (Value.slice p1178 k1179 k1180) ∧ World.cell? w1176 (Addr.add (Addr.add ad335 0)
  1) = some (Value.slice p1181 k1182 k1183) ∧ True) ∧ Calls Proofs.Tryd.prog (149 : Nat) { toList := [Value.pointer p1111, Value.agg { toList := [Value.slice p1005 k1006 k1007, Value.slice p1008 k1009 k1010] }, Value.pointer p1172] }
  w1176 fun (e1184 : Ending) (w1185 : World) => ∃ (p1186 : Option Addr), e1184 = Ending.returned (Value.pointer p1186) ∧ Keep [k1] w1176
  w1185 ∧ Calls Proofs.Tryd.prog (149 : Nat) { toList := [Value.pointer p1177, Value.agg { toList := [Value.slice p1178 k1179 k1180, Value.slice p1181 k1182 k1183] }, Value.pointer p1186] }
  w1185 fun (e1187 : Ending) (w1188 : World) => ∃ (p1189 : Option Addr), e1187 = Ending.returned (Value.pointer p1189) ∧ Keep [k1] w1185
  w1188 ∧ y328 p1189 w1188) ∧ Calls Proofs.Tryd.prog (149 : Nat) { toList := [Value.pointer p1111, Value.agg { toList := [Value.slice p1005 k1006 k1007, Value.slice p1008 k1009 k1010] }, Value.pointer p1172] }
  w1176 fun (e1190 : Ending) (w1191 : World) => ∃ (p1192 : Option Addr), e1190 = Ending.returned (Value.pointer p1192) ∧ Keep [k1] w1176
  w1191 ∧ ∃ (p1193 : Option Addr), ∃ (k1194 : Nat), ∃ (k1195 : Nat), ∃ (p1196 : Option Addr), ∃ (k1197 : Nat), ∃ (k1198 : Nat), (World.cell?
  w1191 (Addr.add (Addr.add ad335 0) 0) = some (Value.slice p1193 k1194 k1195) ∧ World.cell? w1191 (Addr.add (Addr.add ad335 0) 1) = some
  (Value.slice p1196 k1197 k1198) ∧ True) ∧ Calls Proofs.Tryd.prog (149 : Nat) { toList := [Value.pointer p1177, Value.agg { toList := [Value.slice p1193 k1194 k1195, Value.slice p1196 k1197 k1198] }, Value.pointer p1192] }
  w1191 fun (e1199 : Ending) (w1200 : World) => ∃ (p1201 : Option Addr), e1199 = Ending.returned (Value.pointer p1201) ∧ Keep [k1] w1191
  w1200 ∧ y328 p1201 w1200) ∧ ∃ (p1202 : Option Addr), ∃ (k1203 : Nat), ∃ (k1204 : Nat), ∃ (p1205 : Option Addr), ∃ (k1206 : Nat), ∃ (k1207
  : Nat), (World.cell? w248 (Addr.add (Addr.add ad335 0) 0) = some (Value.slice p1202 k1203 k1204) ∧ World.cell? w248 (Addr.add (Addr.add
  ad335 0) 1) = some (Value.slice p1205 k1206 k1207) ∧ True) ∧ ∀ (w1208 : World), Step w248 w1208 [] [] → Calls Proofs.Tryd.prog (149 : Nat)
  { toList := [Value.pointer l, Value.agg { toList := [Value.slice pKeyA pKeyL pKeyC, Value.slice pValueA pValueL pValueC] }, Value.pointer p334] }
  w1208 fun (e1210 : Ending) (w1211 : World) => ∃ (p1212 : Option Addr), e1210 = Ending.returned (Value.pointer p1212) ∧ Keep [k1] w1208
  w1211 ∧ Calls Proofs.Tryd.prog (149 : Nat) { toList := [Value.pointer p1111, Value.agg { toList := [Value.slice p1005 k1006 k1007, Value.slice p1008 k1009 k1010] }, Value.pointer p1172] }
  w1211 fun (e1213 : Ending) (w1214 : World) => ∃ (p1215 : Option Addr), e1213 = Ending.returned (Value.pointer p1215) ∧ Keep [k1] w1211
  w1214 ∧ Calls Proofs.Tryd.prog (149 : Nat) { toList := [Value.pointer p1212, Value.agg { toList := [Value.slice p1202 k1203 k1204, Value.slice p1205 k1206 k1207] }, Value.pointer p1215] }
  w1214 fun (e1216 : Ending) (w1217 : World) => ∃ (p1218 : Option Addr), e1216 = Ending.returned (Value.pointer p1218) ∧ Keep [k1] w1214
  w1217 ∧ y328 p1218 w1217) ∧ ∃ (p1219 : Option Addr), World.cell? w248 (Addr.add ad338 3) = some (Value.pointer p1219) ∧ (∀ (w1220 :
  World), Step w248 w1220 [] [] → Calls Proofs.Tryd.prog (149 : Nat) { toList := [Value.pointer l, Value.agg { toList := [Value.slice pKeyA pKeyL pKeyC, Value.slice pValueA pValueL pValueC] }, Value.pointer p334] }
  w1220 fun (e1222 : Ending) (w1223 : World) => ∃ (p1224 : Option Addr), e1222 = Ending.returned (Value.pointer p1224) ∧ Keep [k1] w1220
  w1223 ∧ ∃ (p1225 : Option Addr), World.cell? w1223 (Addr.add ad336 3) = some (Value.pointer p1225) ∧ (∃ (p1226 : Option Addr), ∃ (k1227 :
  Nat), ∃ (k1228 : Nat), ∃ (p1229 : Option Addr), ∃ (k1230 : Nat), ∃ (k1231 : Nat), (World.cell? w1223 (Addr.add (Addr.add ad335 0) 0) =
  some (Value.slice p1226 k1227 k1228) ∧ World.cell? w1223 (Addr.add (Addr.add ad335 0) 1) = some (Value.slice p1229 k1230 k1231) ∧ True) ∧
  Calls Proofs.Tryd.prog (149 : Nat) { toList := [Value.pointer p1225, Value.agg { toList := [Value.slice p1005 k1006 k1007, Value.slice p1008 k1009 k1010] }, Value.pointer p1219] }
  w1223 fun (e1232 : Ending) (w1233 : World) => ∃ (p1234 : Option Addr), e1232 = Ending.returned (Value.pointer p1234) ∧ Keep [k1] w1223
  w1233 ∧ Calls Proofs.Tryd.prog (149 : Nat) { toList := [Value.pointer p1224, Value.agg { toList := [Value.slice p1226 k1227 k1228, Value.slice p1229 k1230 k1231] }, Value.pointer p1234] }
  w1233 fun (e1235 : Ending) (w1236 : World) => ∃ (p1237 : Option Addr), e1235 = Ending.returned (Value.pointer p1237) ∧ Keep [k1] w1233
  w1236 ∧ y328 p1237 w1236) ∧ Calls Proofs.Tryd.prog (149 : Nat) { toList := [Value.pointer p1225, Value.agg { toList := [Value.slice p1005 k1006 k1007, Value.slice p1008 k1009 k1010] }, Value.pointer p1219] }
  w1223 fun (e1238 : Ending) (w1239 : World) => ∃ (p1240 : Option Addr), e1238 = Ending.returned (Value.pointer p1240) ∧ Keep [k1] w1223
  w1239 ∧ ∃ (p1241 : Option Addr), ∃ (k1242 : Nat), ∃ (k1243 : Nat), ∃ (p1244 : Option Addr), ∃ (k1245 : Nat), ∃ (k1246 : Nat), (World.cell?
  w1239 (Addr.add (Addr.add ad335 0) 0) = some (Value.slice p1241 k1242 k1243) ∧ World.cell? w1239 (Addr.add (Addr.add ad335 0) 1) = some
  (Value.slice p1244 k1245 k1246) ∧ True) ∧ Calls Proofs.Tryd.prog (149 : Nat) { toList := [Value.pointer p1224, Value.agg { toList := [Value.slice p1241 k1242 k1243, Value.slice p1244 k1245 k1246] }, Value.pointer p1240] }
  w1239 fun (e1247 : Ending) (w1248 : World) => ∃ (p1249 : Option Addr), e1247 = Ending.returned (Value.pointer p1249) ∧ Keep [k1] w1239
  w1248 ∧ y328 p1249 w1248) ∧ (∃ (p1250 : Option Addr), ∃ (k1251 : Nat), ∃ (k1252 : Nat), ∃ (p1253 : Option Addr), ∃ (k1254 : Nat), ∃ (k1255
  : Nat), (World.cell? w248 (Addr.add (Addr.add ad335 0) 0) = some (Value.slice p1250 k1251 k1252) ∧ World.cell? w248 (Addr.add (Addr.add
  ad335 0) 1) = some (Value.slice p1253 k1254 k1255) ∧ True) ∧ (∀ (w1256 : World), Step w248 w1256 [] [] → Calls Proofs.Tryd.prog (149 :
  Nat) { toList := [Value.pointer l, Value.agg { toList := [Value.slice pKeyA pKeyL pKeyC, Value.slice pValueA pValueL pValueC] }, Value.pointer p334] }
  w1256 fun (e1258 : Ending) (w1259 : World) => ∃ (p1260 : Option Addr), e1258 = Ending.returned (Value.pointer p1260) ∧ Keep [k1] w1256
  w1259 ∧ ∃ (p1261 : Option Addr), World.cell? w1259 (Addr.add ad336 3) = some (Value.pointer p1261) ∧ Calls Proofs.Tryd.prog (149 : Nat) { toList := [Value.pointer p1261, Value.agg { toList := [Value.slice p1005 k1006 k1007, Value.slice p1008 k1009 k1010] }, Value.pointer p1219] }
  w1259 fun (e1262 : Ending) (w1263 : World) => ∃ (p1264 : Option Addr), e1262 = Ending.returned (Value.pointer p1264) ∧ Keep [k1] w1259
  w1263 ∧ Calls Proofs.Tryd.prog (149 : Nat) { toList := [Value.pointer p1260, Value.agg { toList := [Value.slice p1250 k1251 k1252, Value.slice p1253 k1254 k1255] }, Value.pointer p1264] }
  w1263 fun (e1265 : Ending) (w1266 : World) => ∃ (p1267 : Option Addr), e1265 = Ending.returned (Value.pointer p1267) ∧ Keep [k1] w1263
  w1266 ∧ y328 p1267 w1266) ∧ ∃ (p1268 : Option Addr), World.cell? w248 (Addr.add ad336 3) = some (Value.pointer p1268) ∧ ∀ (w1269 : World),
  Step w248 w1269 [] [] → Calls Proofs.Tryd.prog (149 : Nat) { toList := [Value.pointer l, Value.agg { toList := [Value.slice pKeyA pKeyL pKeyC, Value.slice pValueA pValueL pValueC] }, Value.pointer p334] }
  w1269 fun (e1271 : Ending) (w1272 : World) => ∃ (p1273 : Option Addr), e1271 = Ending.returned (Value.pointer p1273) ∧ Keep [k1] w1269
  w1272 ∧ Calls Proofs.Tryd.prog (149 : Nat) { toList := [Value.pointer p1268, Value.agg { toList := [Value.slice p1005 k1006 k1007, Value.slice p1008 k1009 k1010] }, Value.pointer p1219] }
  w1272 fun (e1274 : Ending) (w1275 : World) => ∃ (p1276 : Option Addr), e1274 = Ending.returned (Value.pointer p1276) ∧ Keep [k1] w1272
  w1275 ∧ Calls Proofs.Tryd.prog (149 : Nat) { toList := [Value.pointer p1273, Value.agg { toList := [Value.slice p1250 k1251 k1252, Value.slice p1253 k1254 k1255] }, Value.pointer p1276] }
  w1275 fun (e1277 : Ending) (w1278 : World) => ∃ (p1279 : Option Addr), e1277 = Ending.returned (Value.pointer p1279) ∧ Keep [k1] w1275
  w1278 ∧ y328 p1279 w1278) ∧ ∃ (p1280 : Option Addr), World.cell? w248 (Addr.add ad336 3) = some (Value.pointer p1280) ∧ (∀ (w1281 :
  World), Step w248 w1281 [] [] → Calls Proofs.Tryd.prog (149 : Nat) { toList := [Value.pointer l, Value.agg { toList := [Value.slice pKeyA pKeyL pKeyC, Value.slice pValueA pValueL pValueC] }, Value.pointer p334] }
  w1281 fun (e1283 : Ending) (w1284 : World) => ∃ (p1285 : Option Addr), e1283 = Ending.returned (Value.pointer p1285) ∧ Keep [k1] w1281
  w1284 ∧ (∃ (p1286 : Option Addr), ∃ (k1287 : Nat), ∃ (k1288 : Nat), ∃ (p1289 : Option Addr), ∃ (k1290 : Nat), ∃ (k1291 : Nat),
  (World.cell? w1284 (Addr.add (Addr.add ad335 0) 0) = some (Value.slice p1286 k1287 k1288) ∧ World.cell? w1284 (Addr.add (Addr.add ad335 0)
  1) = some (Value.slice p1289 k1290 k1291) ∧ True) ∧ Calls Proofs.Tryd.prog (149 : Nat) { toList := [Value.pointer p1280, Value.agg { toList := [Value.slice p1005 k1006 k1007, Value.slice p1008 k1009 k1010] }, Value.pointer p1219] }
  w1284 fun (e1292 : Ending) (w1293 : World) => ∃ (p1294 : Option Addr), e1292 = Ending.returned (Value.pointer p1294) ∧ Keep [k1] w1284
  w1293 ∧ Calls Proofs.Tryd.prog (149 : Nat) { toList := [Value.pointer p1285, Value.agg { toList := [Value.slice p1286 k1287 k1288, Value.slice p1289 k1290 k1291] }, Value.pointer p1294] }
  w1293 fun (e1295 : Ending) (w1296 : World) => ∃ (p1297 : Option Addr), e1295 = Ending.returned (Value.pointer p1297) ∧ Keep [k1] w1293
  w1296 ∧ y328 p1297 w1296) ∧ Calls Proofs.Tryd.prog (149 : Nat) { toList := [Value.pointer p1280, Value.agg { toList := [Value.slice p1005 k1006 k1007, Value.slice p1008 k1009 k1010] }, Value.pointer p1219] }
  w1284 fun (e1298 : Ending) (w1299 : World) => ∃ (p1300 : Option Addr), e1298 = Ending.returned (Value.pointer p1300) ∧ Keep [k1] w1284
  w1299 ∧ ∃ (p1301 : Option Addr), ∃ (k1302 : Nat), ∃ (k1303 : Nat), ∃ (p1304 : Option Addr), ∃ (k1305 : Nat), ∃ (k1306 : Nat), (World.cell?
  w1299 (Addr.add (Addr.add ad335 0) 0) = some (Value.slice p1301 k1302 k1303) ∧ World.cell? w1299 (Addr.add (Addr.add ad335 0) 1) = some
  (Value.slice p1304 k1305 k1306) ∧ True) ∧ Calls Proofs.Tryd.prog (149 : Nat) { toList := [Value.pointer p1285, Value.agg { toList := [Value.slice p1301 k1302 k1303, Value.slice p1304 k1305 k1306] }, Value.pointer p1300] }
  w1299 fun (e1307 : Ending) (w1308 : World) => ∃ (p1309 : Option Addr), e1307 = Ending.returned (Value.pointer p1309) ∧ Keep [k1] w1299
  w1308 ∧ y328 p1309 w1308) ∧ ∃ (p1310 : Option Addr), ∃ (k1311 : Nat), ∃ (k1312 : Nat), ∃ (p1313 : Option Addr), ∃ (k1314 : Nat), ∃ (k1315
  : Nat), (World.cell? w248 (Addr.add (Addr.add ad335 0) 0) = some (Value.slice p1310 k1311 k1312) ∧ World.cell? w248 (Addr.add (Addr.add
  ad335 0) 1) = some (Value.slice p1313 k1314 k1315) ∧ True) ∧ ∀ (w1316 : World), Step w248 w1316 [] [] → Calls Proofs.Tryd.prog (149 : Nat)
  { toList := [Value.pointer l, Value.agg { toList := [Value.slice pKeyA pKeyL pKeyC, Value.slice pValueA pValueL pValueC] }, Value.pointer p334] }
  w1316 fun (e1318 : Ending) (w1319 : World) => ∃ (p1320 : Option Addr), e1318 = Ending.returned (Value.pointer p1320) ∧ Keep [k1] w1316
  w1319 ∧ Calls Proofs.Tryd.prog (149 : Nat) { toList := [Value.pointer p1280, Value.agg { toList := [Value.slice p1005 k1006 k1007, Value.slice p1008 k1009 k1010] }, Value.pointer p1219] }
  w1319 fun (e1321 : Ending) (w1322 : World) => ∃ (p1323 : Option Addr), e1321 = Ending.returned (Value.pointer p1323) ∧ Keep [k1] w1319
  w1322 ∧ Calls Proofs.Tryd.prog (149 : Nat) { toList := [Value.pointer p1320, Value.agg { toList := [Value.slice p1310 k1311 k1312, Value.slice p1313 k1314 k1315] }, Value.pointer p1323] }
  w1322 fun (e1324 : Ending) (w1325 : World) => ∃ (p1326 : Option Addr), e1324 = Ending.returned (Value.pointer p1326) ∧ Keep [k1] w1322
  w1325 ∧ y328 p1326 w1325) ∧ ∃ (p1327 : Option Addr), World.cell? w248 (Addr.add ad338 3) = some (Value.pointer p1327) ∧ (∀ (w1328 :
  World), Step w248 w1328 [] [] → Calls Proofs.Tryd.prog (149 : Nat) { toList := [Value.pointer l, Value.agg { toList := [Value.slice pKeyA pKeyL pKeyC, Value.slice pValueA pValueL pValueC] }, Value.pointer p334] }
  w1328 fun (e1330 : Ending) (w1331 : World) => ∃ (p1332 : Option Addr), e1330 = Ending.returned (Value.pointer p1332) ∧ Keep [k1] w1328
  w1331 ∧ ∃ (p1333 : Option Addr), World.cell? w1331 (Addr.add ad336 3) = some (Value.pointer p1333) ∧ ∃ (p1334 : Option Addr), ∃ (k1335 :
  Nat), ∃ (k1336 : Nat), ∃ (p1337 : Option Addr), ∃ (k1338 : Nat), ∃ (k1339 : Nat), (World.cell? w1331 (Addr.add (Addr.add ad337 0) 0) =
  some (Value.slice p1334 k1335 k1336) ∧ World.cell? w1331 (Addr.add (Addr.add ad337 0) 1) = some (Value.slice p1337 k1338 k1339) ∧ True) ∧
  (∃ (p1340 : Option Addr), ∃ (k1341 : Nat), ∃ (k1342 : Nat), ∃ (p1343 : Option Addr), ∃ (k1344 : Nat), ∃ (k1345 : Nat), (World.cell? w1331
  (Addr.add (Addr.add ad335 0) 0) = some (Value.slice p1340 k1341 k1342) ∧ World.cell? w1331 (Addr.add (Addr.add ad335 0) 1) = some
  (Value.slice p1343 k1344 k1345) ∧ True) ∧ Calls Proofs.Tryd.prog (149 : Nat) { toList := [Value.pointer p1333, Value.agg { toList := [Value.slice p1334 k1335 k1336, Value.slice p1337 k1338 k1339] }, Value.pointer p1327] }
  w1331 fun (e1346 : Ending) (w1347 : World) => ∃ (p1348 : Option Addr), e1346 = Ending.returned (Value.pointer p1348) ∧ Keep [k1] w1331
  w1347 ∧ Calls Proofs.Tryd.prog (149 : Nat) { toList := [Value.pointer p1332, Value.agg { toList := [Value.slice p1340 k1341 k1342, Value.slice p1343 k1344 k1345] }, Value.pointer p1348] }
  w1347 fun (e1349 : Ending) (w1350 : World) => ∃ (p1351 : Option Addr), e1349 = Ending.returned (Value.pointer p1351) ∧ Keep [k1] w1347
  w1350 ∧ y328 p1351 w1350) ∧ Calls Proofs.Tryd.prog (149 : Nat) { toList := [Value.pointer p1333, Value.agg { toList := [Value.slice p1334 k1335 k1336, Value.slice p1337 k1338 k1339] }, Value.pointer p1327] }
  w1331 fun (e1352 : Ending) (w1353 : World) => ∃ (p1354 : Option Addr), e1352 = Ending.returned (Value.pointer p1354) ∧ Keep [k1] w1331
  w1353 ∧ ∃ (p1355 : Option Addr), ∃ (k1356 : Nat), ∃ (k1357 : Nat), ∃ (p1358 : Option Addr), ∃ (k1359 : Nat), ∃ (k1360 : Nat), (World.cell?
  w1353 (Addr.add (Addr.add ad335 0) 0) = some (Value.slice p1355 k1356 k1357) ∧ World.cell? w1353 (Addr.add (Addr.add ad335 0) 1) = some
  (Value.slice p1358 k1359 k1360) ∧ True) ∧ Calls Proofs.Tryd.prog (149 : Nat) { toList := [Value.pointer p1332, Value.agg { toList := [Value.slice p1355 k1356 k1357, Value.slice p1358 k1359 k1360] }, Value.pointer p1354] }
  w1353 fun (e1361 : Ending) (w1362 : World) => ∃ (p1363 : Option Addr), e1361 = Ending.returned (Value.pointer p1363) ∧ Keep [k1] w1353
  w1362 ∧ y328 p1363 w1362) ∧ (∃ (p1364 : Option Addr), ∃ (k1365 : Nat), ∃ (k1366 : Nat), ∃ (p1367 : Option Addr), ∃ (k1368 : Nat), ∃ (k1369
  : Nat), (World.cell? w248 (Addr.add (Addr.add ad335 0) 0) = some (Value.slice p1364 k1365 k1366) ∧ World.cell? w248 (Addr.add (Addr.add
  ad335 0) 1) = some (Value.slice p1367 k1368 k1369) ∧ True) ∧ (∀ (w1370 : World), Step w248 w1370 [] [] → Calls Proofs.Tryd.prog (149 :
  Nat) { toList := [Value.pointer l, Value.agg { toList := [Value.slice pKeyA pKeyL pKeyC, Value.slice pValueA pValueL pValueC] }, Value.pointer p334] }
  w1370 fun (e1372 : Ending) (w1373 : World) => ∃ (p1374 : Option Addr), e1372 = Ending.returned (Value.pointer p1374) ∧ Keep [k1] w1370
  w1373 ∧ ∃ (p1375 : Option Addr), World.cell? w1373 (Addr.add ad336 3) = some (Value.pointer p1375) ∧ ∃ (p1376 : Option Addr), ∃ (k1377 :
  Nat), ∃ (k1378 : Nat), ∃ (p1379 : Option Addr), ∃ (k1380 : Nat), ∃ (k1381 : Nat), (World.cell? w1373 (Addr.add (Addr.add ad337 0) 0) =
  some (Value.slice p1376 k1377 k1378) ∧ World.cell? w1373 (Addr.add (Addr.add ad337 0) 1) = some (Value.slice p1379 k1380 k1381) ∧ True) ∧
  Calls Proofs.Tryd.prog (149 : Nat) { toList := [Value.pointer p1375, Value.agg { toList := [Value.slice p1376 k1377 k1378, Value.slice p1379 k1380 k1381] }, Value.pointer p1327] }
  w1373 fun (e1382 : Ending) (w1383 : World) => ∃ (p1384 : Option Addr), e1382 = Ending.returned (Value.pointer p1384) ∧ Keep [k1] w1373
  w1383 ∧ Calls Proofs.Tryd.prog (149 : Nat) { toList := [Value.pointer p1374, Value.agg { toList := [Value.slice p1364 k1365 k1366, Value.slice p1367 k1368 k1369] }, Value.pointer p1384] }
  w1383 fun (e1385 : Ending) (w1386 : World) => ∃ (p1387 : Option Addr), e1385 = Ending.returned (Value.pointer p1387) ∧ Keep [k1] w1383
  w1386 ∧ y328 p1387 w1386) ∧ (∃ (p1388 : Option Addr), World.cell? w248 (Addr.add ad336 3) = some (Value.pointer p1388) ∧ (∀ (w1389 :
  World), Step w248 w1389 [] [] → Calls Proofs.Tryd.prog (149 : Nat) { toList := [Value.pointer l, Value.agg { toList := [Value.slice pKeyA pKeyL pKeyC, Value.slice pValueA pValueL pValueC] }, Value.pointer p334] }
  w1389 fun (e1391 : Ending) (w1392 : World) => ∃ (p1393 : Option Addr), e1391 = Ending.returned (Value.pointer p1393) ∧ Keep [k1] w1389
  w1392 ∧ ∃ (p1394 : Option Addr), ∃ (k1395 : Nat), ∃ (k1396 : Nat), ∃ (p1397 : Option Addr), ∃ (k1398 : Nat), ∃ (k1399 : Nat), (World.cell?
  w1392 (Addr.add (Addr.add ad337 0) 0) = some (Value.slice p1394 k1395 k1396) ∧ World.cell? w1392 (Addr.add (Addr.add ad337 0) 1) = some
  (Value.slice p1397 k1398 k1399) ∧ True) ∧ Calls Proofs.Tryd.prog (149 : Nat) { toList := [Value.pointer p1388, Value.agg { toList := [Value.slice p1394 k1395 k1396, Value.slice p1397 k1398 k1399] }, Value.pointer p1327] }
  w1392 fun (e1400 : Ending) (w1401 : World) => ∃ (p1402 : Option Addr), e1400 = Ending.returned (Value.pointer p1402) ∧ Keep [k1] w1392
  w1401 ∧ Calls Proofs.Tryd.prog (149 : Nat) { toList := [Value.pointer p1393, Value.agg { toList := [Value.slice p1364 k1365 k1366, Value.slice p1367 k1368 k1369] }, Value.pointer p1402] }
  w1401 fun (e1403 : Ending) (w1404 : World) => ∃ (p1405 : Option Addr), e1403 = Ending.returned (Value.pointer p1405) ∧ Keep [k1] w1401
  w1404 ∧ y328 p1405 w1404) ∧ ∃ (p1406 : Option Addr), ∃ (k1407 : Nat), ∃ (k1408 : Nat), ∃ (p1409 : Option Addr), ∃ (k1410 : Nat), ∃ (k1411
  : Nat), (World.cell? w248 (Addr.add (Addr.add ad337 0) 0) = some (Value.slice p1406 k1407 k1408) ∧ World.cell? w248 (Addr.add (Addr.add
  ad337 0) 1) = some (Value.slice p1409 k1410 k1411) ∧ True) ∧ ∀ (w1412 : World), Step w248 w1412 [] [] → Calls Proofs.Tryd.prog (149 : Nat)
  { toList := [Value.pointer l, Value.agg { toList := [Value.slice pKeyA pKeyL pKeyC, Value.slice pValueA pValueL pValueC] }, Value.pointer p334] }
  w1412 fun (e1414 : Ending) (w1415 : World) => ∃ (p1416 : Option Addr), e1414 = Ending.returned (Value.pointer p1416) ∧ Keep [k1] w1412
  w1415 ∧ Calls Proofs.Tryd.prog (149 : Nat) { toList := [Value.pointer p1388, Value.agg { toList := [Value.slice p1406 k1407 k1408, Value.slice p1409 k1410 k1411] }, Value.pointer p1327] }
  w1415 fun (e1417 : Ending) (w1418 : World) => ∃ (p1419 : Option Addr), e1417 = Ending.returned (Value.pointer p1419) ∧ Keep [k1] w1415
  w1418 ∧ Calls Proofs.Tryd.prog (149 : Nat) { toList := [Value.pointer p1416, Value.agg { toList := [Value.slice p1364 k1365 k1366, Value.slice p1367 k1368 k1369] }, Value.pointer p1419] }
  w1418 fun (e1420 : Ending) (w1421 : World) => ∃ (p1422 : Option Addr), e1420 = Ending.returned (Value.pointer p1422) ∧ Keep [k1] w1418
  w1421 ∧ y328 p1422 w1421) ∧ ∃ (p1423 : Option Addr), ∃ (k1424 : Nat), ∃ (k1425 : Nat), ∃ (p1426 : Option Addr), ∃ (k1427 : Nat), ∃ (k1428
  : Nat), (World.cell? w248 (Addr.add (Addr.add ad337 0) 0) = some (Value.slice p1423 k1424 k1425) ∧ World.cell? w248 (Addr.add (Addr.add
  ad337 0) 1) = some (Value.slice p1426 k1427 k1428) ∧ True) ∧ (∀ (w1429 : World), Step w248 w1429 [] [] → Calls Proofs.Tryd.prog (149 :
  Nat) { toList := [Value.pointer l, Value.agg { toList := [Value.slice pKeyA pKeyL pKeyC, Value.slice pValueA pValueL pValueC] }, Value.pointer p334] }
  w1429 fun (e1431 : Ending) (w1432 : World) => ∃ (p1433 : Option Addr), e1431 = Ending.returned (Value.pointer p1433) ∧ Keep [k1] w1429
  w1432 ∧ ∃ (p1434 : Option Addr), World.cell? w1432 (Addr.add ad336 3) = some (Value.pointer p1434) ∧ Calls Proofs.Tryd.prog (149 : Nat) { toList := [Value.pointer p1434, Value.agg { toList := [Value.slice p1423 k1424 k1425, Value.slice p1426 k1427 k1428] }, Value.pointer p1327] }
  w1432 fun (e1435 : Ending) (w1436 : World) => ∃ (p1437 : Option Addr), e1435 = Ending.returned (Value.pointer p1437) ∧ Keep [k1] w1432
  w1436 ∧ Calls Proofs.Tryd.prog (149 : Nat) { toList := [Value.pointer p1433, Value.agg { toList := [Value.slice p1364 k1365 k1366, Value.slice p1367 k1368 k1369] }, Value.pointer p1437] }
  w1436 fun (e1438 : Ending) (w1439 : World) => ∃ (p1440 : Option Addr), e1438 = Ending.returned (Value.pointer p1440) ∧ Keep [k1] w1436
  w1439 ∧ y328 p1440 w1439) ∧ ∃ (p1441 : Option Addr), World.cell? w248 (Addr.add ad336 3) = some (Value.pointer p1441) ∧ ∀ (w1442 : World),
  Step w248 w1442 [] [] → Calls Proofs.Tryd.prog (149 : Nat) { toList := [Value.pointer l, Value.agg { toList := [Value.slice pKeyA pKeyL pKeyC, Value.slice pValueA pValueL pValueC] }, Value.pointer p334] }
  w1442 fun (e1444 : Ending) (w1445 : World) => ∃ (p1446 : Option Addr), e1444 = Ending.returned (Value.pointer p1446) ∧ Keep [k1] w1442
  w1445 ∧ Calls Proofs.Tryd.prog (149 : Nat) { toList := [Value.pointer p1441, Value.agg { toList := [Value.slice p1423 k1424 k1425, Value.slice p1426 k1427 k1428] }, Value.pointer p1327] }
  w1445 fun (e1447 : Ending) (w1448 : World) => ∃ (p1449 : Option Addr), e1447 = Ending.returned (Value.pointer p1449) ∧ Keep [k1] w1445
  w1448 ∧ Calls Proofs.Tryd.prog (149 : Nat) { toList := [Value.pointer p1446, Value.agg { toList := [Value.slice p1364 k1365 k1366, Value.slice p1367 k1368 k1369] }, Value.pointer p1449] }
  w1448 fun (e1450 : Ending) (w1451 : World) => ∃ (p1452 : Option Addr), e1450 = Ending.returned (Value.pointer p1452) ∧ Keep [k1] w1448
  w1451 ∧ y328 p1452 w1451) ∧ (∃ (p1453 : Option Addr), World.cell? w248 (Addr.add ad336 3) = some (Value.pointer p1453) ∧ (∀ (w1454 :
  World), Step w248 w1454 [] [] → Calls Proofs.Tryd.prog (149 : Nat) { toList := [Value.pointer l, Value.agg { toList := [Value.slice pKeyA pKeyL pKeyC, Value.slice pValueA pValueL pValueC] }, Value.pointer p334] }
  w1454 fun (e1456 : Ending) (w1457 : World) => ∃ (p1458 : Option Addr), e1456 = Ending.returned (Value.pointer p1458) ∧ Keep [k1] w1454
  w1457 ∧ ∃ (p1459 : Option Addr), ∃ (k1460 : Nat), ∃ (k1461 : Nat), ∃ (p1462 : Option Addr), ∃ (k1463 : Nat), ∃ (k1464 : Nat), (World.cell?
  w1457 (Addr.add (Addr.add ad337 0) 0) = some (Value.slice p1459 k1460 k1461) ∧ World.cell? w1457 (Addr.add (Addr.add ad337 0) 1) = some
  (Value.slice p1462 k1463 k1464) ∧ True) ∧ (∃ (p1465 : Option Addr), ∃ (k1466 : Nat), ∃ (k1467 : Nat), ∃ (p1468 : Option Addr), ∃ (k1469 :
  Nat), ∃ (k1470 : Nat), (World.cell? w1457 (Addr.add (Addr.add ad335 0) 0) = some (Value.slice p1465 k1466 k1467) ∧ World.cell? w1457
  (Addr.add (Addr.add ad335 0) 1) = some (Value.slice p1468 k1469 k1470) ∧ True) ∧ Calls Proofs.Tryd.prog (149 : Nat) { toList := [Value.pointer p1453, Value.agg { toList := [Value.slice p1459 k1460 k1461, Value.slice p1462 k1463 k1464] }, Value.pointer p1327] }
  w1457 fun (e1471 : Ending) (w1472 : World) => ∃ (p1473 : Option Addr), e1471 = Ending.returned (Value.pointer p1473) ∧ Keep [k1] w1457
  w1472 ∧ Calls Proofs.Tryd.prog (149 : Nat) { toList := [Value.pointer p1458, Value.agg { toList := [Value.slice p1465 k1466 k1467, Value.slice p1468 k1469 k1470] }, Value.pointer p1473] }
  w1472 fun (e1474 : Ending) (w1475 : World) => ∃ (p1476 : Option Addr), e1474 = Ending.returned (Value.pointer p1476) ∧ Keep [k1] w1472
  w1475 ∧ y328 p1476 w1475) ∧ Calls Proofs.Tryd.prog (149 : Nat) { toList := [Value.pointer p1453, Value.agg { toList := [Value.slice p1459 k1460 k1461, Value.slice p1462 k1463 k1464] }, Value.pointer p1327] }
  w1457 fun (e1477 : Ending) (w1478 : World) => ∃ (p1479 : Option Addr), e1477 = Ending.returned (Value.pointer p1479) ∧ Keep [k1] w1457
  w1478 ∧ ∃ (p1480 : Option Addr), ∃ (k1481 : Nat), ∃ (k1482 : Nat), ∃ (p1483 : Option Addr), ∃ (k1484 : Nat), ∃ (k1485 : Nat), (World.cell?
  w1478 (Addr.add (Addr.add ad335 0) 0) = some (Value.slice p1480 k1481 k1482) ∧ World.cell? w1478 (Addr.add (Addr.add ad335 0) 1) = some
  (Value.slice p1483 k1484 k1485) ∧ True) ∧ Calls Proofs.Tryd.prog (149 : Nat) { toList := [Value.pointer p1458, Value.agg { toList := [Value.slice p1480 k1481 k1482, Value.slice p1483 k1484 k1485] }, Value.pointer p1479] }
  w1478 fun (e1486 : Ending) (w1487 : World) => ∃ (p1488 : Option Addr), e1486 = Ending.returned (Value.pointer p1488) ∧ Keep [k1] w1478
  w1487 ∧ y328 p1488 w1487) ∧ (∃ (p1489 : Option Addr), ∃ (k1490 : Nat), ∃ (k1491 : Nat), ∃ (p1492 : Option Addr), ∃ (k1493 : Nat), ∃ (k1494
  : Nat), (World.cell? w248 (Addr.add (Addr.add ad335 0) 0) = some (Value.slice p1489 k1490 k1491) ∧ World.cell? w248 (Addr.add (Addr.add
  ad335 0) 1) = some (Value.slice p1492 k1493 k1494) ∧ True) ∧ (∀ (w1495 : World), Step w248 w1495 [] [] → Calls Proofs.Tryd.prog (149 :
  Nat) { toList := [Value.pointer l, Value.agg { toList := [Value.slice pKeyA pKeyL pKeyC, Value.slice pValueA pValueL pValueC] }, Value.pointer p334] }
  w1495 fun (e1497 : Ending) (w1498 : World) => ∃ (p1499 : Option Addr), e1497 = Ending.returned (Value.pointer p1499) ∧ Keep [k1] w1495
  w1498 ∧ ∃ (p1500 : Option Addr), ∃ (k1501 : Nat), ∃ (k1502 : Nat), ∃ (p1503 : Option Addr), ∃ (k1504 : Nat), ∃ (k1505 : Nat), (World.cell?
  w1498 (Addr.add (Addr.add ad337 0) 0) = some (Value.slice p1500 k1501 k1502) ∧ World.cell? w1498 (Addr.add (Addr.add ad337 0) 1) = some
  (Value.slice p1503 k1504 k1505) ∧ True) ∧ Calls Proofs.Tryd.prog (149 : Nat) { toList := [Value.pointer p1453, Value.agg { toList := [Value.slice p1500 k1501 k1502, Value.slice p1503 k1504 k1505] }, Value.pointer p1327] }
  w1498 fun (e1506 : Ending) (w1507 : World) => ∃ (p1508 : Option Addr), e1506 = Ending.returned (Value.pointer p1508) ∧ Keep [k1] w1498
  w1507 ∧ Calls Proofs.Tryd.prog (149 : Nat) { toList := [Value.pointer p1499, Value.agg { toList := [Value.slice p1489 k1490 k1491, Value.slice p1492 k1493 k1494] }, Value.pointer p1508] }
  w1507 fun (e1509 : Ending) (w1510 : World) => ∃ (p1511 : Option Addr), e1509 = Ending.returned (Value.pointer p1511) ∧ Keep [k1] w1507
  w1510 ∧ y328 p1511 w1510) ∧ ∃ (p1512 : Option Addr), ∃ (k1513 : Nat), ∃ (k1514 : Nat), ∃ (p1515 : Option Addr), ∃ (k1516 : Nat), ∃ (k1517
  : Nat), (World.cell? w248 (Addr.add (Addr.add ad337 0) 0) = some (Value.slice p1512 k1513 k1514) ∧ World.cell? w248 (Addr.add (Addr.add
  ad337 0) 1) = some (Value.slice p1515 k1516 k1517) ∧ True) ∧ ∀ (w1518 : World), Step w248 w1518 [] [] → Calls Proofs.Tryd.prog (149 : Nat)
  { toList := [Value.pointer l, Value.agg { toList := [Value.slice pKeyA pKeyL pKeyC, Value.slice pValueA pValueL pValueC] }, Value.pointer p334] }
  w1518 fun (e1520 : Ending) (w1521 : World) => ∃ (p1522 : Option Addr), e1520 = Ending.returned (Value.pointer p1522) ∧ Keep [k1] w1518
  w1521 ∧ Calls Proofs.Tryd.prog (149 : Nat) { toList := [Value.pointer p1453, Value.agg { toList := [Value.slice p1512 k1513 k1514, Value.slice p1515 k1516 k1517] }, Value.pointer p1327] }
  w1521 fun (e1523 : Ending) (w1524 : World) => ∃ (p1525 : Option Addr), e1523 = Ending.returned (Value.pointer p1525) ∧ Keep [k1] w1521
  w1524 ∧ Calls Proofs.Tryd.prog (149 : Nat) { toList := [Value.pointer p1522, Value.agg { toList := [Value.slice p1489 k1490 k1491, Value.slice p1492 k1493 k1494] }, Value.pointer p1525] }
  w1524 fun (e1526 : Ending) (w1527 : World) => ∃ (p1528 : Option Addr), e1526 = Ending.returned (Value.pointer p1528) ∧ Keep [k1] w1524
  w1527 ∧ y328 p1528 w1527) ∧ ∃ (p1529 : Option Addr), ∃ (k1530 : Nat), ∃ (k1531 : Nat), ∃ (p1532 : Option Addr), ∃ (k1533 : Nat), ∃ (k1534
  : Nat), (World.cell? w248 (Addr.add (Addr.add ad337 0) 0) = some (Value.slice p1529 k1530 k1531) ∧ World.cell? w248 (Addr.add (Addr.add
  ad337 0) 1) = some (Value.slice p1532 k1533 k1534) ∧ True) ∧ (∀ (w1535 : World), Step w248 w1535 [] [] → Calls Proofs.Tryd.prog (149 :
  Nat) { toList := [Value.pointer l, Value.agg { toList := [Value.slice pKeyA pKeyL pKeyC, Value.slice pValueA pValueL pValueC] }, Value.pointer p334] }
  w1535 fun (e1537 : Ending) (w1538 : World) => ∃ (p1539 : Option Addr), e1537 = Ending.returned (Value.pointer p1539) ∧ Keep [k1] w1535
  w1538 ∧ (∃ (p1540 : Option Addr), ∃ (k1541 : Nat), ∃ (k1542 : Nat), ∃ (p1543 : Option Addr), ∃ (k1544 : Nat), ∃ (k1545 : Nat),
  (World.cell? w1538 (Addr.add (Addr.add ad335 0) 0) = some (Value.slice p1540 k1541 k1542) ∧ World.cell? w1538 (Addr.add (Addr.add ad335 0)
  1) = some (Value.slice p1543 k1544 k1545) ∧ True) ∧ Calls Proofs.Tryd.prog (149 : Nat) { toList := [Value.pointer p1453, Value.agg { toList := [Value.slice p1529 k1530 k1531, Value.slice p1532 k1533 k1534] }, Value.pointer p1327] }
  w1538 fun (e1546 : Ending) (w1547 : World) => ∃ (p1548 : Option Addr), e1546 = Ending.returned (Value.pointer p1548) ∧ Keep [k1] w1538
  w1547 ∧ Calls Proofs.Tryd.prog (149 : Nat) { toList := [Value.pointer p1539, Value.agg { toList := [Value.slice p1540 k1541 k1542, Value.slice p1543 k1544 k1545] }, Value.pointer p1548] }
  w1547 fun (e1549 : Ending) (w1550 : World) => ∃ (p1551 : Option Addr), e1549 = Ending.returned (Value.pointer p1551) ∧ Keep [k1] w1547
  w1550 ∧ y328 p1551 w1550) ∧ Calls Proofs.Tryd.prog (149 : Nat) { toList := [Value.pointer p1453, Value.agg { toList := [Value.slice p1529 k1530 k1531, Value.slice p1532 k1533 k1534] }, Value.pointer p1327] }
  w1538 fun (e1552 : Ending) (w1553 : World) => ∃ (p1554 : Option Addr), e1552 = Ending.returned (Value.pointer p1554) ∧ Keep [k1] w1538
  w1553 ∧ ∃ (p1555 : Option Addr), ∃ (k1556 : Nat), ∃ (k1557 : Nat), ∃ (p1558 : Option Addr), ∃ (k1559 : Nat), ∃ (k1560 : Nat), (World.cell?
  w1553 (Addr.add (Addr.add ad335 0) 0) = some (Value.slice p1555 k1556 k1557) ∧ World.cell? w1553 (Addr.add (Addr.add ad335 0) 1) = some
  (Value.slice p1558 k1559 k1560) ∧ True) ∧ Calls Proofs.Tryd.prog (149 : Nat) { toList := [Value.pointer p1539, Value.agg { toList := [Value.slice p1555 k1556 k1557, Value.slice p1558 k1559 k1560] }, Value.pointer p1554] }
  w1553 fun (e1561 : Ending) (w1562 : World) => ∃ (p1563 : Option Addr), e1561 = Ending.returned (Value.pointer p1563) ∧ Keep [k1] w1553
  w1562 ∧ y328 p1563 w1562) ∧ ∃ (p1564 : Option Addr), ∃ (k1565 : Nat), ∃ (k1566 : Nat), ∃ (p1567 : Option Addr), ∃ (k1568 : Nat), ∃ (k1569
  : Nat), (World.cell? w248 (Addr.add (Addr.add ad335 0) 0) = some (Value.slice p1564 k1565 k1566) ∧ World.cell? w248 (Addr.add (Addr.add
  ad335 0) 1) = some (Value.slice p1567 k1568 k1569) ∧ True) ∧ ∀ (w1570 : World), Step w248 w1570 [] [] → Calls Proofs.Tryd.prog (149 : Nat)
  { toList := [Value.pointer l, Value.agg { toList := [Value.slice pKeyA pKeyL pKeyC, Value.slice pValueA pValueL pValueC] }, Value.pointer p334] }
  w1570 fun (e1572 : Ending) (w1573 : World) => ∃ (p1574 : Option Addr), e1572 = Ending.returned (Value.pointer p1574) ∧ Keep [k1] w1570
  w1573 ∧ Calls Proofs.Tryd.prog (149 : Nat) { toList := [Value.pointer p1453, Value.agg { toList := [Value.slice p1529 k1530 k1531, Value.slice p1532 k1533 k1534] }, Value.pointer p1327] }
  w1573 fun (e1575 : Ending) (w1576 : World) => ∃ (p1577 : Option Addr), e1575 = Ending.returned (Value.pointer p1577) ∧ Keep [k1] w1573
  w1576 ∧ Calls Proofs.Tryd.prog (149 : Nat) { toList := [Value.pointer p1574, Value.agg { toList := [Value.slice p1564 k1565 k1566, Value.slice p1567 k1568 k1569] }, Value.pointer p1577] }
  w1576 fun (e1578 : Ending) (w1579 : World) => ∃ (p1580 : Option Addr), e1578 = Ending.returned (Value.pointer p1580) ∧ Keep [k1] w1576
  w1579 ∧ y328 p1580 w1579) ∧ ∃ (p1581 : Option Addr), ∃ (k1582 : Nat), ∃ (k1583 : Nat), ∃ (p1584 : Option Addr), ∃ (k1585 : Nat), ∃ (k1586
  : Nat), (World.cell? w248 (Addr.add (Addr.add ad337 0) 0) = some (Value.slice p1581 k1582 k1583) ∧ World.cell? w248 (Addr.add (Addr.add
  ad337 0) 1) = some (Value.slice p1584 k1585 k1586) ∧ True) ∧ (∀ (w1587 : World), Step w248 w1587 [] [] → Calls Proofs.Tryd.prog (149 :
  Nat) { toList := [Value.pointer l, Value.agg { toList := [Value.slice pKeyA pKeyL pKeyC, Value.slice pValueA pValueL pValueC] }, Value.pointer p334] }
  w1587 fun (e1589 : Ending) (w1590 : World) => ∃ (p1591 : Option Addr), e1589 = Ending.returned (Value.pointer p1591) ∧ Keep [k1] w1587
  w1590 ∧ ∃ (p1592 : Option Addr), World.cell? w1590 (Addr.add ad336 3) = some (Value.pointer p1592) ∧ (∃ (p1593 : Option Addr), ∃ (k1594 :
  Nat), ∃ (k1595 : Nat), ∃ (p1596 : Option Addr), ∃ (k1597 : Nat), ∃ (k1598 : Nat), (World.cell? w1590 (Addr.add (Addr.add ad335 0) 0) =
  some (Value.slice p1593 k1594 k1595) ∧ World.cell? w1590 (Addr.add (Addr.add ad335 0) 1) = some (Value.slice p1596 k1597 k1598) ∧ True) ∧
  Calls Proofs.Tryd.prog (149 : Nat) { toList := [Value.pointer p1592, Value.agg { toList := [Value.slice p1581 k1582 k1583, Value.slice p1584 k1585 k1586] }, Value.pointer p1327] }
  w1590 fun (e1599 : Ending) (w1600 : World) => ∃ (p1601 : Option Addr), e1599 = Ending.returned (Value.pointer p1601) ∧ Keep [k1] w1590
  w1600 ∧ Calls Proofs.Tryd.prog (149 : Nat) { toList := [Value.pointer p1591, Value.agg { toList := [Value.slice p1593 k1594 k1595, Value.slice p1596 k1597 k1598] }, Value.pointer p1601] }
  w1600 fun (e1602 : Ending) (w1603 : World) => ∃ (p1604 : Option Addr), e1602 = Ending.returned (Value.pointer p1604) ∧ Keep [k1] w1600
  w1603 ∧ y328 p1604 w1603) ∧ Calls Proofs.Tryd.prog (149 : Nat) { toList := [Value.pointer p1592, Value.agg { toList := [Value.slice p1581 k1582 k1583, Value.slice p1584 k1585 k1586] }, Value.pointer p1327] }
  w1590 fun (e1605 : Ending) (w1606 : World) => ∃ (p1607 : Option Addr), e1605 = Ending.returned (Value.pointer p1607) ∧ Keep [k1] w1590
  w1606 ∧ ∃ (p1608 : Option Addr), ∃ (k1609 : Nat), ∃ (k1610 : Nat), ∃ (p1611 : Option Addr), ∃ (k1612 : Nat), ∃ (k1613 : Nat), (World.cell?
  w1606 (Addr.add (Addr.add ad335 0) 0) = some (Value.slice p1608 k1609 k1610) ∧ World.cell? w1606 (Addr.add (Addr.add ad335 0) 1) = some
  (Value.slice p1611 k1612 k1613) ∧ True) ∧ Calls Proofs.Tryd.prog (149 : Nat) { toList := [Value.pointer p1591, Value.agg { toList := [Value.slice p1608 k1609 k1610, Value.slice p1611 k1612 k1613] }, Value.pointer p1607] }
  w1606 fun (e1614 : Ending) (w1615 : World) => ∃ (p1616 : Option Addr), e1614 = Ending.returned (Value.pointer p1616) ∧ Keep [k1] w1606
  w1615 ∧ y328 p1616 w1615) ∧ (∃ (p1617 : Option Addr), ∃ (k1618 : Nat), ∃ (k1619 : Nat), ∃ (p1620 : Option Addr), ∃ (k1621 : Nat), ∃ (k1622
  : Nat), (World.cell? w248 (Addr.add (Addr.add ad335 0) 0) = some (Value.slice p1617 k1618 k1619) ∧ World.cell? w248 (Addr.add (Addr.add
  ad335 0) 1) = some (Value.slice p1620 k1621 k1622) ∧ True) ∧ (∀ (w1623 : World), Step w248 w1623 [] [] → Calls Proofs.Tryd.prog (149 :
  Nat) { toList := [Value.pointer l, Value.agg { toList := [Value.slice pKeyA pKeyL pKeyC, Value.slice pValueA pValueL pValueC] }, Value.pointer p334] }
  w1623 fun (e1625 : Ending) (w1626 : World) => ∃ (p1627 : Option Addr), e1625 = Ending.returned (Value.pointer p1627) ∧ Keep [k1] w1623
  w1626 ∧ ∃ (p1628 : Option Addr), World.cell? w1626 (Addr.add ad336 3) = some (Value.pointer p1628) ∧ Calls Proofs.Tryd.prog (149 : Nat) { toList := [Value.pointer p1628, Value.agg { toList := [Value.slice p1581 k1582 k1583, Value.slice p1584 k1585 k1586] }, Value.pointer p1327] }
  w1626 fun (e1629 : Ending) (w1630 : World) => ∃ (p1631 : Option Addr), e1629 = Ending.returned (Value.pointer p1631) ∧ Keep [k1] w1626
  w1630 ∧ Calls Proofs.Tryd.prog (149 : Nat) { toList := [Value.pointer p1627, Value.agg { toList := [Value.slice p1617 k1618 k1619, Value.slice p1620 k1621 k1622] }, Value.pointer p1631] }
  w1630 fun (e1632 : Ending) (w1633 : World) => ∃ (p1634 : Option Addr), e1632 = Ending.returned (Value.pointer p1634) ∧ Keep [k1] w1630
  w1633 ∧ y328 p1634 w1633) ∧ ∃ (p1635 : Option Addr), World.cell? w248 (Addr.add ad336 3) = some (Value.pointer p1635) ∧ ∀ (w1636 : World),
  Step w248 w1636 [] [] → Calls Proofs.Tryd.prog (149 : Nat) { toList := [Value.pointer l, Value.agg { toList := [Value.slice pKeyA pKeyL pKeyC, Value.slice pValueA pValueL pValueC] }, Value.pointer p334] }
  w1636 fun (e1638 : Ending) (w1639 : World) => ∃ (p1640 : Option Addr), e1638 = Ending.returned (Value.pointer p1640) ∧ Keep [k1] w1636
  w1639 ∧ Calls Proofs.Tryd.prog (149 : Nat) { toList := [Value.pointer p1635, Value.agg { toList := [Value.slice p1581 k1582 k1583, Value.slice p1584 k1585 k1586] }, Value.pointer p1327] }
  w1639 fun (e1641 : Ending) (w1642 : World) => ∃ (p1643 : Option Addr), e1641 = Ending.returned (Value.pointer p1643) ∧ Keep [k1] w1639
  w1642 ∧ Calls Proofs.Tryd.prog (149 : Nat) { toList := [Value.pointer p1640, Value.agg { toList := [Value.slice p1617 k1618 k1619, Value.slice p1620 k1621 k1622] }, Value.pointer p1643] }
  w1642 fun (e1644 : Ending) (w1645 : World) => ∃ (p1646 : Option Addr), e1644 = Ending.returned (Value.pointer p1646) ∧ Keep [k1] w1642
  w1645 ∧ y328 p1646 w1645) ∧ ∃ (p1647 : Option Addr), World.cell? w248 (Addr.add ad336 3) = some (Value.pointer p1647) ∧ (∀ (w1648 :
  World), Step w248 w1648 [] [] → Calls Proofs.Tryd.prog (149 : Nat) { toList := [Value.pointer l, Value.agg { toList := [Value.slice pKeyA pKeyL pKeyC, Value.slice pValueA pValueL pValueC] }, Value.pointer p334] }
  w1648 fun (e1650 : Ending) (w1651 : World) => ∃ (p1652 : Option Addr), e1650 = Ending.returned (Value.pointer p1652) ∧ Keep [k1] w1648
  w1651 ∧ (∃ (p1653 : Option Addr), ∃ (k1654 : Nat), ∃ (k1655 : Nat), ∃ (p1656 : Option Addr), ∃ (k1657 : Nat), ∃ (k1658 : Nat),
  (World.cell? w1651 (Addr.add (Addr.add ad335 0) 0) = some (Value.slice p1653 k1654 k1655) ∧ World.cell? w1651 (Addr.add (Addr.add ad335 0)
  1) = some (Value.slice p1656 k1657 k1658) ∧ True) ∧ Calls Proofs.Tryd.prog (149 : Nat) { toList := [Value.pointer p1647, Value.agg { toList := [Value.slice p1581 k1582 k1583, Value.slice p1584 k1585 k1586] }, Value.pointer p1327] }
  w1651 fun (e1659 : Ending) (w1660 : World) => ∃ (p1661 : Option Addr), e1659 = Ending.returned (Value.pointer p1661) ∧ Keep [k1] w1651
  w1660 ∧ Calls Proofs.Tryd.prog (149 : Nat) { toList := [Value.pointer p1652, Value.agg { toList := [Value.slice p1653 k1654 k1655, Value.slice p1656 k1657 k1658] }, Value.pointer p1661] }
  w1660 fun (e1662 : Ending) (w1663 : World) => ∃ (p1664 : Option Addr), e1662 = Ending.returned (Value.pointer p1664) ∧ Keep [k1] w1660
  w1663 ∧ y328 p1664 w1663) ∧ Calls Proofs.Tryd.prog (149 : Nat) { toList := [Value.pointer p1647, Value.agg { toList := [Value.slice p1581 k1582 k1583, Value.slice p1584 k1585 k1586] }, Value.pointer p1327] }
  w1651 fun (e1665 : Ending) (w1666 : World) => ∃ (p1667 : Option Addr), e1665 = Ending.returned (Value.pointer p1667) ∧ Keep [k1] w1651
  w1666 ∧ ∃ (p1668 : Option Addr), ∃ (k1669 : Nat), ∃ (k1670 : Nat), ∃ (p1671 : Option Addr), ∃ (k1672 : Nat), ∃ (k1673 : Nat), (World.cell?
  w1666 (Addr.add (Addr.add ad335 0) 0) = some (Value.slice p1668 k1669 k1670) ∧ World.cell? w1666 (Addr.add (Addr.add ad335 0) 1) = some
  (Value.slice p1671 k1672 k1673) ∧ True) ∧ Calls Proofs.Tryd.prog (149 : Nat) { toList := [Value.pointer p1652, Value.agg { toList := [Value.slice p1668 k1669 k1670, Value.slice p1671 k1672 k1673] }, Value.pointer p1667] }
  w1666 fun (e1674 : Ending) (w1675 : World) => ∃ (p1676 : Option Addr), e1674 = Ending.returned (Value.pointer p1676) ∧ Keep [k1] w1666
  w1675 ∧ y328 p1676 w1675) ∧ ∃ (p1677 : Option Addr), ∃ (k1678 : Nat), ∃ (k1679 : Nat), ∃ (p1680 : Option Addr), ∃ (k1681 : Nat), ∃ (k1682
  : Nat), (World.cell? w248 (Addr.add (Addr.add ad335 0) 0) = some (Value.slice p1677 k1678 k1679) ∧ World.cell? w248 (Addr.add (Addr.add
  ad335 0) 1) = some (Value.slice p1680 k1681 k1682) ∧ True) ∧ ∀ (w1683 : World), Step w248 w1683 [] [] → Calls Proofs.Tryd.prog (149 : Nat)
  { toList := [Value.pointer l, Value.agg { toList := [Value.slice pKeyA pKeyL pKeyC, Value.slice pValueA pValueL pValueC] }, Value.pointer p334] }
  w1683 fun (e1685 : Ending) (w1686 : World) => ∃ (p1687 : Option Addr), e1685 = Ending.returned (Value.pointer p1687) ∧ Keep [k1] w1683
  w1686 ∧ Calls Proofs.Tryd.prog (149 : Nat) { toList := [Value.pointer p1647, Value.agg { toList := [Value.slice p1581 k1582 k1583, Value.slice p1584 k1585 k1586] }, Value.pointer p1327] }
  w1686 fun (e1688 : Ending) (w1689 : World) => ∃ (p1690 : Option Addr), e1688 = Ending.returned (Value.pointer p1690) ∧ Keep [k1] w1686
  w1689 ∧ Calls Proofs.Tryd.prog (149 : Nat) { toList := [Value.pointer p1687, Value.agg { toList := [Value.slice p1677 k1678 k1679, Value.slice p1680 k1681 k1682] }, Value.pointer p1690] }
  w1689 fun (e1691 : Ending) (w1692 : World) => ∃ (p1693 : Option Addr), e1691 = Ending.returned (Value.pointer p1693) ∧ Keep [k1] w1689
  w1692 ∧ y328 p1693 w1692) → y246 b247 w248) → ∃ (ad1696 : Addr), Value.pointer r = Value.pointer (some ad1696) ∧ ∃ (p1697 : Option Addr),
  World.cell? w244 (Addr.add ad1696 3) = some (Value.pointer p1697) ∧ ∃ (ad1698 : Addr), Value.pointer r = Value.pointer (some ad1698) ∧ (∀
  (w1699 : World), Step w244 w1699 [] [] → Calls Proofs.Tryd.prog (166 : Nat) { toList := [Value.pointer p1697] } w1699 fun (e1701 : Ending)
  (w1702 : World) => ∃ (n1703 : Int), e1701 = Ending.returned (Value.int IntKind.i64 n1703) ∧ Keep [k1] w1699 w1702 ∧ ∃ (p1704 : Option
  Addr), World.cell? w1702 (Addr.add ad1698 2) = some (Value.pointer p1704) ∧ Calls Proofs.Tryd.prog (166 : Nat) { toList := [Value.pointer p1704] }
  w1702 fun (e1705 : Ending) (w1706 : World) => ∃ (n1707 : Int), e1705 = Ending.returned (Value.int IntKind.i64 n1707) ∧ Keep [k1] w1702
  w1706 ∧ y246 (decide (n1707 ≤ n1703)) w1706) ∧ ∃ (p1708 : Option Addr), World.cell? w244 (Addr.add ad1698 2) = some (Value.pointer p1708)
  ∧ ∀ (w1709 : World), Step w244 w1709 [] [] → Calls Proofs.Tryd.prog (166 : Nat) { toList := [Value.pointer p1697] } w1709 fun (e1711 :
  Ending) (w1712 : World) => ∃ (n1713 : Int), e1711 = Ending.returned (Value.int IntKind.i64 n1713) ∧ Keep [k1] w1709 w1712 ∧ Calls
  Proofs.Tryd.prog (166 : Nat) { toList := [Value.pointer p1708] } w1712 fun (e1714 : Ending) (w1715 : World) => ∃ (n1716 : Int), e1714 =
  Ending.returned (Value.int IntKind.i64 n1716) ∧ Keep [k1] w1712 w1715 ∧ y246 (decide (n1716 ≤ n1713)) w1715) (Calls Proofs.Tryd.prog (149
  : Nat) { toList := [Value.pointer l, Value.agg { toList := [Value.slice pKeyA pKeyL pKeyC, Value.slice pValueA pValueL pValueC] }, Value.pointer r] }
  w244 fun (e1717 : Ending) (w1718 : World) => ∃ (p1719 : Option Addr), e1717 = Ending.returned (Value.pointer p1719) ∧ Keep [k1] w244 w1718
  ∧ R (Ending.returned (Value.pointer p1719)) w1718))

theorem tree_balanced.link {l : Option Addr} {pKeyA : Option Addr} {pKeyL pKeyC : Nat} {pValueA : Option Addr} {pValueL pValueC : Nat} {r : Option Addr} {R : Ending → World → Prop} {w : World} (h : tree_balanced.vc l pKeyA pKeyL pKeyC pValueA pValueL pValueC r R w) : Calls Go.Proofs.Tryd.prog 150 #[(.pointer l : Value), (.agg #[.slice pKeyA pKeyL pKeyC, .slice pValueA pValueL pValueC] : Value), (.pointer r : Value)] w R :=
  calls_of pf (fn := Go.Proofs.Tryd.f150) (ann := .s (.n) (.s (.b (.s (.n) (.c (.s (.j ⟨[], [], [0], [(26, .l (.b))], []⟩ (.d [0]) (.c (.j ⟨[], [], [], [(6, .l (.p))], []⟩ (.d [0]) (.n)) (.n))) (.s (.n) (.j ⟨[], [], [], [(6, .l (.p))], []⟩ (.d [0]) (.n)))) (.s (.n) (.c (.s (.j ⟨[], [], [0], [(89, .l (.b))], []⟩ (.d [0]) (.c (.j ⟨[], [], [], [(6, .l (.p))], []⟩ (.d [0]) (.n)) (.n))) (.s (.n) (.j ⟨[], [], [], [(6, .l (.p))], []⟩ (.d [0]) (.n)))) (.n)))))) (.s (.n) (.n)))) (mp := false) (args := [.v (.pointer l), .v (.agg #[.slice pKeyA pKeyL pKeyC, .slice pValueA pValueL pValueC]), .v (.pointer r)]) Go.Proofs.Tryd.func150 (c := Go.Proofs.Tryd.f150.body.getD .skip) (by kernel_rfl) (by kernel_rfl) (Eq.mp (by kernel_rfl) h)
theorem tree_balanced.body : BodyOk Go.Proofs.Tryd.prog 150 := ⟨Go.Proofs.Tryd.f150, Go.Proofs.Tryd.func150, by kernel_rfl, pf.ng _ _ Go.Proofs.Tryd.func150⟩

/-! ### rhizome/tree.put: function 109 -/
def tree_put.vc (n : Option Addr) (pKeyA : Option Addr) (pKeyL pKeyC : Nat) (pValueA : Option Addr) (pValueL pValueC : Nat) (R : Ending →
  World → Prop) (w : World) : Prop := ∀ (k1 : Nat), bcase (Option.isNone n) (∀ (w2 : World), Step w w2 [] [k1] → Calls Proofs.Tryd.prog (149
  : Nat) { toList := [Value.pointer none, Value.agg { toList := [Value.slice pKeyA pKeyL pKeyC, Value.slice pValueA pValueL pValueC] }, Value.pointer none] }
  w2 fun (e4 : Ending) (w5 : World) => ∃ (p6 : Option Addr), e4 = Ending.returned (Value.pointer p6) ∧ Keep [k1] w2 w5 ∧ R (Ending.returned
  (Value.pointer p6)) w5) (∃ (ad7 : Addr), Value.pointer n = Value.pointer (some ad7) ∧ ∃ (p8 : Option Addr), ∃ (k9 : Nat), ∃ (k10 : Nat),
  World.cell? w (Addr.add (Addr.add ad7 0) 0) = some (Value.slice p8 k9 k10) ∧ ∀ (w11 : World), Step w w11 [] [k1] → Calls Proofs.Tryd.prog
  (147 : Nat) { toList := [Value.slice pKeyA pKeyL pKeyC, Value.slice p8 k9 k10] } w11 fun (e13 : Ending) (w14 : World) => ∃ (n15 : Int),
  e13 = Ending.returned (Value.int IntKind.i64 n15) ∧ Keep [k1] w11 w14 ∧ bcase (decide (n15 < (0 : Int))) (∀ (y16 : Option Addr → World →
  Prop), (∀ (p17 : Option Addr) (w18 : World), R (Ending.returned (Value.pointer p17)) w18 → y16 p17 w18) → ∃ (ad21 : Addr), Value.pointer n
  = Value.pointer (some ad21) ∧ ∃ (p22 : Option Addr), World.cell? w14 (Addr.add ad21 2) = some (Value.pointer p22) ∧ ∃ (ad23 : Addr),
  Value.pointer n = Value.pointer (some ad23) ∧ ∃ (ad24 : Addr), Value.pointer n = Value.pointer (some ad24) ∧ (∀ (w25 : World), Step w14
  w25 [] [] → Calls Proofs.Tryd.prog (109 : Nat) { toList := [Value.pointer p22, Value.agg { toList := [Value.slice pKeyA pKeyL pKeyC, Value.slice pValueA pValueL pValueC] }] }
  w25 fun (e27 : Ending) (w28 : World) => ∃ (p29 : Option Addr), e27 = Ending.returned (Value.pointer p29) ∧ Keep [k1] w25 w28 ∧ ∃ (p30 :
  Option Addr), ∃ (k31 : Nat), ∃ (k32 : Nat), ∃ (p33 : Option Addr), ∃ (k34 : Nat), ∃ (k35 : Nat), (World.cell? w28 (Addr.add (Addr.add ad23
  0) 0) = some (Value.slice p30 k31 k32) ∧ World.cell? w28 (Addr.add (Addr.add ad23 0) 1) = some (Value.slice p33 k34 k35) ∧ True) ∧ ∃ (p36
  : Option Addr), World.cell? w28 (Addr.add ad24 3) = some (Value.pointer p36) ∧ Calls Proofs.Tryd.prog (150 : Nat) { toList := [Value.pointer p29, Value.agg { toList := [Value.slice p30 k31 k32, Value.slice p33 k34 k35] }, Value.pointer p36] }
  w28 fun (e37 : Ending) (w38 : World) => ∃ (p39 : Option Addr), e37 = Ending.returned (Value.pointer p39) ∧ Keep [k1] w28 w38 ∧ y16 p39
  w38) ∧ (∃ (p40 : Option Addr), ∃ (k41 : Nat), ∃ (k42 : Nat), ∃ (p43 : Option Addr), ∃ (k44 : Nat), ∃ (k45 : Nat), (World.cell? w14
  (Addr.add (Addr.add ad23 0) 0) = some (Value.slice p40 k41 k42) ∧ World.cell? w14 (Addr.add (Addr.add ad23 0) 1) = some (Value.slice p43
  k44 k45) ∧ True) ∧ (∀ (w46 : World), Step w14 w46 [] [] → Calls Proofs.Tryd.prog (109 : Nat) { toList := [Value.pointer p22, Value.agg { toList := [Value.slice pKeyA pKeyL pKeyC, Value.slice pValueA pValueL pValueC] }] }
  w46 fun (e48 : Ending) (w49 : World) => ∃ (p50 : Option Addr), e48 = Ending.returned (Value.pointer p50) ∧ Keep [k1] w46 w49 ∧ ∃ (p51 :
  Option Addr), World.cell? w49 (Addr.add ad24 3) = some (Value.pointer p51) ∧ Calls Proofs.Tryd.prog (150 : Nat) { toList := [Value.pointer p50, Value.agg { toList := [Value.slice p40 k41 k42, Value.slice p43 k44 k45] }, Value.pointer p51] }
  w49 fun (e52 : Ending) (w53 : World) => ∃ (p54 : Option Addr), e52 = Ending.returned (Value.pointer p54) ∧ Keep [k1] w49 w53 ∧ y16 p54
  w53) ∧ ∃ (p55 : Option Addr), World.cell? w14 (Addr.add ad24 3) = some (Value.pointer p55) ∧ ∀ (w56 : World), Step w14 w56 [] [] → Calls
  Proofs.Tryd.prog (109 : Nat) { toList := [Value.pointer p22, Value.agg { toList := [Value.slice pKeyA pKeyL pKeyC, Value.slice pValueA pValueL pValueC] }] }
  w56 fun (e58 : Ending) (w59 : World) => ∃ (p60 : Option Addr), e58 = Ending.returned (Value.pointer p60) ∧ Keep [k1] w56 w59 ∧ Calls
  Proofs.Tryd.prog (150 : Nat) { toList := [Value.pointer p60, Value.agg { toList := [Value.slice p40 k41 k42, Value.slice p43 k44 k45] }, Value.pointer p55] }
  w59 fun (e61 : Ending) (w62 : World) => ∃ (p63 : Option Addr), e61 = Ending.returned (Value.pointer p63) ∧ Keep [k1] w59 w62 ∧ y16 p63
  w62) ∧ ∃ (p64 : Option Addr), World.cell? w14 (Addr.add ad24 3) = some (Value.pointer p64) ∧ (∀ (w65 : World), Step w14 w65 [] [] → Calls
  Proofs.Tryd.prog (109 : Nat) { toList := [Value.pointer p22, Value.agg { toList := [Value.slice pKeyA pKeyL pKeyC, Value.slice pValueA pValueL pValueC] }] }
  w65 fun (e67 : Ending) (w68 : World) => ∃ (p69 : Option Addr), e67 = Ending.returned (Value.pointer p69) ∧ Keep [k1] w65 w68 ∧ ∃ (p70 :
  Option Addr), ∃ (k71 : Nat), ∃ (k72 : Nat), ∃ (p73 : Option Addr), ∃ (k74 : Nat), ∃ (k75 : Nat), (World.cell? w68 (Addr.add (Addr.add ad23
  0) 0) = some (Value.slice p70 k71 k72) ∧ World.cell? w68 (Addr.add (Addr.add ad23 0) 1) = some (Value.slice p73 k74 k75) ∧ True) ∧ Calls
  Proofs.Tryd.prog (150 : Nat) { toList := [Value.pointer p69, Value.agg { toList := [Value.slice p70 k71 k72, Value.slice p73 k74 k75] }, Value.pointer p64] }
  w68 fun (e76 : Ending) (w77 : World) => ∃ (p78 : Option Addr), e76 = Ending.returned (Value.pointer p78) ∧ Keep [k1] w68 w77 ∧ y16 p78
  w77) ∧ ∃ (p79 : Option Addr), ∃ (k80 : Nat), ∃ (k81 : Nat), ∃ (p82 : Option Addr), ∃ (k83 : Nat), ∃ (k84 : Nat), (World.cell? w14
  (Addr.add (Addr.add ad23 0) 0) = some (Value.slice p79 k80 k81) ∧ World.cell? w14 (Addr.add (Addr.add ad23 0) 1) = some (Value.slice p82
  k83 k84) ∧ True) ∧ ∀ (w85 : World), Step w14 w85 [] [] → Calls Proofs.Tryd.prog (109 : Nat) { toList := [Value.pointer p22, Value.agg { toList := [Value.slice pKeyA pKeyL pKeyC, Value.slice pValueA pValueL pValueC] }] }
  w85 fun (e87 : Ending) (w88 : World) => ∃ (p89 : Option Addr), e87 = Ending.returned (Value.pointer p89) ∧ Keep [k1] w85 w88 ∧ Calls
  Proofs.Tryd.prog (150 : Nat) { toList := [Value.pointer p89, Value.agg { toList := [Value.slice p79 k80 k81, Value.slice p82 k83 k84] }, Value.pointer p64] }
  w88 fun (e90 : Ending) (w91 : World) => ∃ (p92 : Option Addr), e90 = Ending.returned (Value.pointer p92) ∧ Keep [k1] w88 w91 ∧ y16 p92
  w91) (bcase (decide ((0 : Int) < n15)) (∀ (y93 : Option Addr → World → Prop), (∀ (p94 : Option Addr) (w95 : World), R (Ending.returned
  (Value.pointer p94)) w95 → y93 p94 w95) → ∃ (ad98 : Addr), Value.pointer n = Value.pointer (some ad98) ∧ ∃ (ad99 : Addr), Value.pointer n
  = Value.pointer (some ad99) ∧ ∃ (ad100 : Addr), Value.pointer n = Value.pointer (some ad100) ∧ ∃ (p101 : Option Addr), World.cell? w14
  (Addr.add ad100 3) = some (Value.pointer p101) ∧ (∃ (p102 : Option Addr), World.cell? w14 (Addr.add ad98 2) = some (Value.pointer p102) ∧
  (∃ (p103 : Option Addr), ∃ (k104 : Nat), ∃ (k105 : Nat), ∃ (p106 : Option Addr), ∃ (k107 : Nat), ∃ (k108 : Nat), (World.cell? w14
  (Addr.add (Addr.add ad99 0) 0) = some (Value.slice p103 k104 k105) ∧ World.cell? w14 (Addr.add (Addr.add ad99 0) 1) = some (Value.slice
  p106 k107 k108) ∧ True) ∧ ∀ (w109 : World), Step w14 w109 [] [] → Calls Proofs.Tryd.prog (109 : Nat) { toList := [Value.pointer p101, Value.agg { toList := [Value.slice pKeyA pKeyL pKeyC, Value.slice pValueA pValueL pValueC] }] }
  w109 fun (e111 : Ending) (w112 : World) => ∃ (p113 : Option Addr), e111 = Ending.returned (Value.pointer p113) ∧ Keep [k1] w109 w112 ∧
  Calls Proofs.Tryd.prog (150 : Nat) { toList := [Value.pointer p102, Value.agg { toList := [Value.slice p103 k104 k105, Value.slice p106 k107 k108] }, Value.pointer p113] }
  w112 fun (e114 : Ending) (w115 : World) => ∃ (p116 : Option Addr), e114 = Ending.returned (Value.pointer p116) ∧ Keep [k1] w112 w115 ∧ y93
  p116 w115) ∧ ∀ (w117 : World), Step w14 w117 [] [] → Calls Proofs.Tryd.prog (109 : Nat) { toList := [Value.pointer p101, Value.agg { toList := [Value.slice pKeyA pKeyL pKeyC, Value.slice pValueA pValueL pValueC] }] }
  w117 fun (e119 : Ending) (w120 : World) => ∃ (p121 : Option Addr), e119 = Ending.returned (Value.pointer p121) ∧ Keep [k1] w117 w120 ∧ ∃
  (p122 : Option Addr), ∃ (k123 : Nat), ∃ (k124 : Nat), ∃ (p125 : Option Addr), ∃ (k126 : Nat), ∃ (k127 : Nat), (World.cell? w120 (Addr.add
  (Addr.add ad99 0) 0) = some (Value.slice p122 k123 k124) ∧ World.cell? w120 (Addr.add (Addr.add ad99 0) 1) = some (Value.slice p125 k126
  k127) ∧ True) ∧ Calls Proofs.Tryd.prog (150 : Nat) { toList := [Value.pointer p102, Value.agg { toList := [Value.slice p122 k123 k124, Value.slice p125 k126 k127] }, Value.pointer p121] }
  w120 fun (e128 : Ending) (w129 : World) => ∃ (p130 : Option Addr), e128 = Ending.returned (Value.pointer p130) ∧ Keep [k1] w120 w129 ∧ y93
  p130 w129) ∧ (∃ (p131 : Option Addr), ∃ (k132 : Nat), ∃ (k133 : Nat), ∃ (p134 : Option Addr), ∃ (k135 : Nat), ∃ (k136 : Nat), (World.cell?
  w14 (Addr.add (Addr.add ad99 0) 0) = some (Value.slice p131 k132 k133) ∧ World.cell? w14 (Addr.add (Addr.add ad99 0) 1) = some
  (Value.slice p134 k135 k136) ∧ True) ∧ (∃ (p137 : Option Addr), World.cell? w14 (Addr.add ad98 2) = some (Value.pointer p137) ∧ ∀ (w138 :
  World), Step w14 w138 [] [] → Calls Proofs.Tryd.prog (109 : Nat) { toList := [Value.pointer p101, Value.agg { toList := [Value.slice pKeyA pKeyL pKeyC, Value.slice pValueA pValueL pValueC] }] }
  w138 fun (e140 : Ending) (w141 : World) => ∃ (p142 : Option Addr), e140 = Ending.returned (Value.pointer p142) ∧ Keep [k1] w138 w141 ∧
  Calls Proofs.Tryd.prog (150 : Nat) { toList := [Value.pointer p137, Value.agg { toList := [Value.slice p131 k132 k133, Value.slice p134 k135 k136] }, Value.pointer p142] }
  w141 fun (e143 : Ending) (w144 : World) => ∃ (p145 : Option Addr), e143 = Ending.returned (Value.pointer p145) ∧ Keep [k1] w141 w144 ∧ y93
  p145 w144) ∧ ∀ (w146 : World), Step w14 w146 [] [] → Calls Proofs.Tryd.prog (109 : Nat) { toList := [Value.pointer p101, Value.agg { toList := [Value.slice pKeyA pKeyL pKeyC, Value.slice pValueA pValueL pValueC] }] }
  w146 fun (e148 : Ending) (w149 : World) => ∃ (p150 : Option Addr), e148 = Ending.returned (Value.pointer p150) ∧ Keep [k1] w146 w149 ∧ ∃
  (p151 : Option Addr), World.cell? w149 (Addr.add ad98 2) = some (Value.pointer p151) ∧ Calls Proofs.Tryd.prog (150 : Nat) { toList := [Value.pointer p151, Value.agg { toList := [Value.slice p131 k132 k133, Value.slice p134 k135 k136] }, Value.pointer p150] }
  w149 fun (e152 : Ending) (w153 : World) => ∃ (p154 : Option Addr), e152 = Ending.returned (Value.pointer p154) ∧ Keep [k1] w149 w153 ∧ y93
  p154 w153) ∧ ∀ (w155 : World), Step w14 w155 [] [] → Calls Proofs.Tryd.prog (109 : Nat) { toList := [Value.pointer p101, Value.agg { toList := [Value.slice pKeyA pKeyL pKeyC, Value.slice pValueA pValueL pValueC] }] }
  w155 fun (e157 : Ending) (w158 : World) => ∃ (p159 : Option Addr), e157 = Ending.returned (Value.pointer p159) ∧ Keep [k1] w155 w158 ∧ ∃
  (p160 : Option Addr), World.cell? w158 (Addr.add ad98 2) = some (Value.pointer p160) ∧ ∃ (p161 : Option Addr), ∃ (k162 : Nat), ∃ (k163 :
  Nat), ∃ (p164 : Option Addr), ∃ (k165 : Nat), ∃ (k166 : Nat), (World.cell? w158 (Addr.add (Addr.add ad99 0) 0) = some (Value.slice p161
  k162 k163) ∧ World.cell? w158 (Addr.add (Addr.add ad99 0) 1) = some (Value.slice p164 k165 k166) ∧ True) ∧ Calls Proofs.Tryd.prog (150 :
  Nat) { toList := [Value.pointer p160, Value.agg { toList := [Value.slice p161 k162 k163, Value.slice p164 k165 k166] }, Value.pointer p159] }
  w158 fun (e167 : Ending) (w168 : World) => ∃ (p169 : Option Addr), e167 = Ending.returned (Value.pointer p169) ∧ Keep [k1] w158 w168 ∧ y93
  p169 w168) (∃ (ad170 : Addr), Value.pointer n = Value.pointer (some ad170) ∧ ∃ (p171 : Option Addr), World.cell? w14 (Addr.add ad170 2) =
  some (Value.pointer p171) ∧ ∃ (ad172 : Addr), Value.pointer n = Value.pointer (some ad172) ∧ ∃ (p173 : Option Addr), World.cell? w14
  (Addr.add ad172 3) = some (Value.pointer p173) ∧ ∀ (w174 : World), Step w14 w174 [] [] → Calls Proofs.Tryd.prog (149 : Nat) { toList := [Value.pointer p171, Value.agg { toList := [Value.slice pKeyA pKeyL pKeyC, Value.slice pValueA pValueL pValueC] }, Value.pointer p173] }
  w174 fun (e176 : Ending) (w177 : World) => ∃ (p178 : Option Addr), e176 = Ending.returned (Value.pointer p178) ∧ Keep [k1] w174 w177 ∧ R
  (Ending.returned (Value.pointer p178)) w177)))

theorem tree_put.link {n : Option Addr} {pKeyA : Option Addr} {pKeyL pKeyC : Nat} {pValueA : Option Addr} {pValueL pValueC : Nat} {R : Ending → World → Prop} {w : World} (h : tree_put.vc n pKeyA pKeyL pKeyC pValueA pValueL pValueC R w) : Calls Go.Proofs.Tryd.prog 109 #[(.pointer n : Value), (.agg #[.slice pKeyA pKeyL pKeyC, .slice pValueA pValueL pValueC] : Value)] w R :=
  calls_of pf (fn := Go.Proofs.Tryd.f109) (ann := .s (.n) (.s (.s (.n) (.c (.s (.n) (.n)) (.n))) (.s (.s (.d [0]) (.b (.s (.n) (.c (.j ⟨[], [], [], [(4, .l (.p))], []⟩ (.d [0]) (.n)) (.s (.n) (.c (.j ⟨[], [], [], [(4, .l (.p))], []⟩ (.d [0]) (.n)) (.n))))))) (.s (.d [0]) (.n))))) (mp := false) (args := [.v (.pointer n), .v (.agg #[.slice pKeyA pKeyL pKeyC, .slice pValueA pValueL pValueC])]) Go.Proofs.Tryd.func109 (c := Go.Proofs.Tryd.f109.body.getD .skip) (by kernel_rfl) (by kernel_rfl) (Eq.mp (by kernel_rfl) h)
theorem tree_put.body : BodyOk Go.Proofs.Tryd.prog 109 := ⟨Go.Proofs.Tryd.f109, Go.Proofs.Tryd.func109, by kernel_rfl, pf.ng _ _ Go.Proofs.Tryd.func109⟩

/-! ### rhizome/tree.first: function 151 -/
def tree_first.vc (n : Option Addr) (R : Ending → World → Prop) (w : World) : Prop := ∀ (k1 : Nat), ∃ (ad2 : Addr), Value.pointer n =
  Value.pointer (some ad2) ∧ ∃ (p3 : Option Addr), World.cell? w (Addr.add ad2 2) = some (Value.pointer p3) ∧ bcase (Option.isNone p3) (∀
  (y4 : Option Addr → Option Addr → Nat → Nat → Option Addr → Nat → Nat → World → Prop), (∀ (p5 p6 : Option Addr) (k7 k8 : Nat) (p9 : Option
  Addr) (k10 k11 : Nat) (w12 : World), R (Ending.returned (Value.tuple { toList := [Value.agg { toList := [Value.slice p6 k7 k8, Value.slice p9 k10 k11] }, Value.pointer p5] }))
  w12 → y4 p5 p6 k7 k8 p9 k10 k11 w12) → ∃ (ad15 : Addr), Value.pointer n = Value.pointer (some ad15) ∧ ∃ (p16 : Option Addr), ∃ (k17 :
  Nat), ∃ (k18 : Nat), ∃ (p19 : Option Addr), ∃ (k20 : Nat), ∃ (k21 : Nat), (World.cell? w (Addr.add (Addr.add ad15 0) 0) = some
  (Value.slice p16 k17 k18) ∧ World.cell? w (Addr.add (Addr.add ad15 0) 1) = some (Value.slice p19 k20 k21) ∧ True) ∧ ∃ (ad22 : Addr),
  Value.pointer n = Value.pointer (some ad22) ∧ (∃ (p23 : Option Addr), World.cell? w (Addr.add ad22 3) = some (Value.pointer p23) ∧ ∀ (w24
  : World), Step w w24 [] [k1] → y4 p23 p16 k17 k18 p19 k20 k21 w24) ∧ ∃ (p26 : Option Addr), World.cell? w (Addr.add ad22 3) = some
  (Value.pointer p26) ∧ ∀ (w27 : World), Step w w27 [] [k1] → y4 p26 p16 k17 k18 p19 k20 k21 w27) (∃ (ad29 : Addr), Value.pointer n =
  Value.pointer (some ad29) ∧ ∃ (p30 : Option Addr), World.cell? w (Addr.add ad29 2) = some (Value.pointer p30) ∧ ∀ (w31 : World), Step w
  w31 [] [k1] → Calls Proofs.Tryd.prog (151 : Nat) { toList := [Value.pointer p30] } w31 fun (e33 : Ending) (w34 : World) => ∃ (p35 : Option
  Addr), ∃ (k36 : Nat), ∃ (k37 : Nat), ∃ (p38 : Option Addr), ∃ (k39 : Nat), ∃ (k40 : Nat), ∃ (p41 : Option Addr), e33 = Ending.returned
  (Value.tuple { toList := [Value.agg { toList := [Value.slice p35 k36 k37, Value.slice p38 k39 k40] }, Value.pointer p41] }) ∧ Keep [k1]
  w31 w34 ∧ ∀ (k42 : Nat), ∃ (ad43 : Addr), Value.pointer n = Value.pointer (some ad43) ∧ ∃ (p44 : Option Addr), ∃ (k45 : Nat), ∃ (k46 :
  Nat), ∃ (p47 : Option Addr), ∃ (k48 : Nat), ∃ (k49 : Nat), (World.cell? w34 (Addr.add (Addr.add ad43 0) 0) = some (Value.slice p44 k45
  k46) ∧ World.cell? w34 (Addr.add (Addr.add ad43 0) 1) = some (Value.slice p47 k48 k49) ∧ True) ∧ ∃ (ad50 : Addr), Value.pointer n =
  Value.pointer (some ad50) ∧ ∃ (p51 : Option Addr), World.cell? w34 (Addr.add ad50 3) = some (Value.pointer p51) ∧ ∀ (w52 : World), Step
  w34 w52 [] [k42] → Calls Proofs.Tryd.prog (150 : Nat) { toList := [Value.pointer p41, Value.agg { toList := [Value.slice p44 k45 k46, Value.slice p47 k48 k49] }, Value.pointer p51] }
  w52 fun (e54 : Ending) (w55 : World) => ∃ (p56 : Option Addr), e54 = Ending.returned (Value.pointer p56) ∧ Keep [k1, k42] w52 w55 ∧ ∀ (w57
  : World), Step w55 w57 [k1] [] → R (Ending.returned (Value.tuple { toList := [Value.agg { toList := List.take 2 (List.drop 0 (sets [Value.slice none 0 0, Value.slice none 0 0] 0 (List.take 2 (List.drop 0 (sets [Value.slice none 0 0, Value.slice none 0 0] 0 [Value.slice p35 k36 k37, Value.slice p38 k39 k40]))))) }, Value.pointer p56] }))
  w57)

theorem tree_first.link {n : Option Addr} {R : Ending → World → Prop} {w : World} (h : tree_first.vc n R w) : Calls Go.Proofs.Tryd.prog 151 #[(.pointer n : Value)] w R :=
  calls_of pf (fn := Go.Proofs.Tryd.f151) (ann := .s (.n) (.s (.s (.n) (.c (.j ⟨[], [], [], [(3, .l (.p))], [(0, [.sl, .sl])]⟩ (.n) (.n)) (.n))) (.s (.n) (.s (.d [1]) (.n))))) (mp := false) (args := [.v (.pointer n)]) Go.Proofs.Tryd.func151 (c := Go.Proofs.Tryd.f151.body.getD .skip) (by kernel_rfl) (by kernel_rfl) (Eq.mp (by kernel_rfl) h)
theorem tree_first.body : BodyOk Go.Proofs.Tryd.prog 151 := ⟨Go.Proofs.Tryd.f151, Go.Proofs.Tryd.func151, by kernel_rfl, pf.ng _ _ Go.Proofs.Tryd.func151⟩

/-! ### rhizome/tree.remove: function 112 -/
def tree_remove.vc (n : Option Addr) (keyA : Option Addr) (keyL keyC : Nat) (R : Ending → World → Prop) (w : World) : Prop := ∃ (ad1 :
  Addr), Value.pointer n = Value.pointer (some ad1) ∧ ∃ (p2 : Option Addr), ∃ (k3 : Nat), ∃ (k4 : Nat), World.cell? w (Addr.add (Addr.add
  ad1 0) 0) = some (Value.slice p2 k3 k4) ∧ Calls Proofs.Tryd.prog (147 : Nat) { toList := [Value.slice keyA keyL keyC, Value.slice p2 k3 k4] }
  w fun (e5 : Ending) (w6 : World) => ∃ (n7 : Int), e5 = Ending.returned (Value.int IntKind.i64 n7) ∧ bcase (decide (n7 < (0 : Int))) (∀ (y8
  : Option Addr → World → Prop), (∀ (p9 : Option Addr) (w10 : World), R (Ending.returned (Value.pointer p9)) w10 → y8 p9 w10) → ∃ (ad13 :
  Addr), Value.pointer n = Value.pointer (some ad13) ∧ ∃ (p14 : Option Addr), World.cell? w6 (Addr.add ad13 2) = some (Value.pointer p14) ∧
  ∃ (ad15 : Addr), Value.pointer n = Value.pointer (some ad15) ∧ ∃ (ad16 : Addr), Value.pointer n = Value.pointer (some ad16) ∧ (∀ (w17 :
  World), Step w6 w17 [] [] → Calls Proofs.Tryd.prog (112 : Nat) { toList := [Value.pointer p14, Value.slice keyA keyL keyC] } w17 fun (e19
  : Ending) (w20 : World) => ∃ (p21 : Option Addr), e19 = Ending.returned (Value.pointer p21) ∧ ∃ (p22 : Option Addr), ∃ (k23 : Nat), ∃ (k24
  : Nat), ∃ (p25 : Option Addr), ∃ (k26 : Nat), ∃ (k27 : Nat), (World.cell? w20 (Addr.add (Addr.add ad15 0) 0) = some (Value.slice p22 k23
  k24) ∧ World.cell? w20 (Addr.add (Addr.add ad15 0) 1) = some (Value.slice p25 k26 k27) ∧ True) ∧ ∃ (p28 : Option Addr), World.cell? w20
  (Addr.add ad16 3) = some (Value.pointer p28) ∧ Calls Proofs.Tryd.prog (150 : Nat) { toList := [Value.pointer p21, Value.agg { toList := [Value.slice p22 k23 k24, Value.slice p25 k26 k27] }, Value.pointer p28] }
  w20 fun (e29 : Ending) (w30 : World) => ∃ (p31 : Option Addr), e29 = Ending.returned (Value.pointer p31) ∧ y8 p31 w30) ∧ (∃ (p32 : Option
  Addr), ∃ (k33 : Nat), ∃ (k34 : Nat), ∃ (p35 : Option Addr), ∃ (k36 : Nat), ∃ (k37 : Nat), (World.cell? w6 (Addr.add (Addr.add ad15 0) 0) =
  some (Value.slice p32 k33 k34) ∧ World.cell? w6 (Addr.add (Addr.add ad15 0) 1) = some (Value.slice p35 k36 k37) ∧ True) ∧ (∀ (w38 :
  World), Step w6 w38 [] [] → Calls Proofs.Tryd.prog (112 : Nat) { toList := [Value.pointer p14, Value.slice keyA keyL keyC] } w38 fun (e40
  : Ending) (w41 : World) => ∃ (p42 : Option Addr), e40 = Ending.returned (Value.pointer p42) ∧ ∃ (p43 : Option Addr), World.cell? w41
  (Addr.add ad16 3) = some (Value.pointer p43) ∧ Calls Proofs.Tryd.prog (150 : Nat) { toList := [Value.pointer p42, Value.agg { toList := [Value.slice p32 k33 k34, Value.slice p35 k36 k37] }, Value.pointer p43] }
  w41 fun (e44 : Ending) (w45 : World) => ∃ (p46 : Option Addr), e44 = Ending.returned (Value.pointer p46) ∧ y8 p46 w45) ∧ ∃ (p47 : Option
  Addr), World.cell? w6 (Addr.add ad16 3) = some (Value.pointer p47) ∧ ∀ (w48 : World), Step w6 w48 [] [] → Calls Proofs.Tryd.prog (112 :
  Nat) { toList := [Value.pointer p14, Value.slice keyA keyL keyC] } w48 fun (e50 : Ending) (w51 : World) => ∃ (p52 : Option Addr), e50 =
  Ending.returned (Value.pointer p52) ∧ Calls Proofs.Tryd.prog (150 : Nat) { toList := [Value.pointer p52, Value.agg { toList := [Value.slice p32 k33 k34, Value.slice p35 k36 k37] }, Value.pointer p47] }
  w51 fun (e53 : Ending) (w54 : World) => ∃ (p55 : Option Addr), e53 = Ending.returned (Value.pointer p55) ∧ y8 p55 w54) ∧ ∃ (p56 : Option
  Addr), World.cell? w6 (Addr.add ad16 3) = some (Value.pointer p56) ∧ (∀ (w57 : World), Step w6 w57 [] [] → Calls Proofs.Tryd.prog (112 :
  Nat) { toList := [Value.pointer p14, Value.slice keyA keyL keyC] } w57 fun (e59 : Ending) (w60 : World) => ∃ (p61 : Option Addr), e59 =
  Ending.returned (Value.pointer p61) ∧ ∃ (p62 : Option Addr), ∃ (k63 : Nat), ∃ (k64 : Nat), ∃ (p65 : Option Addr), ∃ (k66 : Nat), ∃ (k67 :
  Nat), (World.cell? w60 (Addr.add (Addr.add ad15 0) 0) = some (Value.slice p62 k63 k64) ∧ World.cell? w60 (Addr.add (Addr.add ad15 0) 1) =
  some (Value.slice p65 k66 k67) ∧ True) ∧ Calls Proofs.Tryd.prog (150 : Nat) { toList := [Value.pointer p61, Value.agg { toList := [Value.slice p62 k63 k64, Value.slice p65 k66 k67] }, Value.pointer p56] }
  w60 fun (e68 : Ending) (w69 : World) => ∃ (p70 : Option Addr), e68 = Ending.returned (Value.pointer p70) ∧ y8 p70 w69) ∧ ∃ (p71 : Option
  Addr), ∃ (k72 : Nat), ∃ (k73 : Nat), ∃ (p74 : Option Addr), ∃ (k75 : Nat), ∃ (k76 : Nat), (World.cell? w6 (Addr.add (Addr.add ad15 0) 0) =
  some (Value.slice p71 k72 k73) ∧ World.cell? w6 (Addr.add (Addr.add ad15 0) 1) = some (Value.slice p74 k75 k76) ∧ True) ∧ ∀ (w77 : World),
  Step w6 w77 [] [] → Calls Proofs.Tryd.prog (112 : Nat) { toList := [Value.pointer p14, Value.slice keyA keyL keyC] } w77 fun (e79 :
  Ending) (w80 : World) => ∃ (p81 : Option Addr), e79 = Ending.returned (Value.pointer p81) ∧ Calls Proofs.Tryd.prog (150 : Nat) { toList := [Value.pointer p81, Value.agg { toList := [Value.slice p71 k72 k73, Value.slice p74 k75 k76] }, Value.pointer p56] }
  w80 fun (e82 : Ending) (w83 : World) => ∃ (p84 : Option Addr), e82 = Ending.returned (Value.pointer p84) ∧ y8 p84 w83) (bcase (decide ((0
  : Int) < n7)) (∀ (y85 : Option Addr → World → Prop), (∀ (p86 : Option Addr) (w87 : World), R (Ending.returned (Value.pointer p86)) w87 →
  y85 p86 w87) → ∃ (ad90 : Addr), Value.pointer n = Value.pointer (some ad90) ∧ ∃ (ad91 : Addr), Value.pointer n = Value.pointer (some ad91)
  ∧ ∃ (ad92 : Addr), Value.pointer n = Value.pointer (some ad92) ∧ ∃ (p93 : Option Addr), World.cell? w6 (Addr.add ad92 3) = some
  (Value.pointer p93) ∧ (∃ (p94 : Option Addr), World.cell? w6 (Addr.add ad90 2) = some (Value.pointer p94) ∧ (∃ (p95 : Option Addr), ∃ (k96
  : Nat), ∃ (k97 : Nat), ∃ (p98 : Option Addr), ∃ (k99 : Nat), ∃ (k100 : Nat), (World.cell? w6 (Addr.add (Addr.add ad91 0) 0) = some
  (Value.slice p95 k96 k97) ∧ World.cell? w6 (Addr.add (Addr.add ad91 0) 1) = some (Value.slice p98 k99 k100) ∧ True) ∧ ∀ (w101 : World),
  Step w6 w101 [] [] → Calls Proofs.Tryd.prog (112 : Nat) { toList := [Value.pointer p93, Value.slice keyA keyL keyC] } w101 fun (e103 :
  Ending) (w104 : World) => ∃ (p105 : Option Addr), e103 = Ending.returned (Value.pointer p105) ∧ Calls Proofs.Tryd.prog (150 : Nat) { toList := [Value.pointer p94, Value.agg { toList := [Value.slice p95 k96 k97, Value.slice p98 k99 k100] }, Value.pointer p105] }
  w104 fun (e106 : Ending) (w107 : World) => ∃ (p108 : Option Addr), e106 = Ending.returned (Value.pointer p108) ∧ y85 p108 w107) ∧ ∀ (w109
  : World), Step w6 w109 [] [] → Calls Proofs.Tryd.prog (112 : Nat) { toList := [Value.pointer p93, Value.slice keyA keyL keyC] } w109 fun
  (e111 : Ending) (w112 : World) => ∃ (p113 : Option Addr), e111 = Ending.returned (Value.pointer p113) ∧ ∃ (p114 : Option Addr), ∃ (k115 :
  Nat), ∃ (k116 : Nat), ∃ (p117 : Option Addr), ∃ (k118 : Nat), ∃ (k119 : Nat), (World.cell? w112 (Addr.add (Addr.add ad91 0) 0) = some
  (Value.slice p114 k115 k116) ∧ World.cell? w112 (Addr.add (Addr.add ad91 0) 1) = some (Value.slice p117 k118 k119) ∧ True) ∧ Calls
  Proofs.Tryd.prog (150 : Nat) { toList := [Value.pointer p94, Value.agg { toList := [Value.slice p114 k115 k116, Value.slice p117 k118 k119] }, Value.pointer p113] }
  w112 fun (e120 : Ending) (w121 : World) => ∃ (p122 : Option Addr), e120 = Ending.returned (Value.pointer p122) ∧ y85 p122 w121) ∧ (∃ (p123
  : Option Addr), ∃ (k124 : Nat), ∃ (k125 : Nat), ∃ (p126 : Option Addr), ∃ (k127 : Nat), ∃ (k128 : Nat), (World.cell? w6 (Addr.add
  (Addr.add ad91 0) 0) = some (Value.slice p123 k124 k125) ∧ World.cell? w6 (Addr.add (Addr.add ad91 0) 1) = some (Value.slice p126 k127
  k128) ∧ True) ∧ (∃ (p129 : Option Addr), World.cell? w6 (Addr.add ad90 2) = some (Value.pointer p129) ∧ ∀ (w130 : World), Step w6 w130 []
  [] → Calls Proofs.Tryd.prog (112 : Nat) { toList := [Value.pointer p93, Value.slice keyA keyL keyC] } w130 fun (e132 : Ending) (w133 :
  World) => ∃ (p134 : Option Addr), e132 = Ending.returned (Value.pointer p134) ∧ Calls Proofs.Tryd.prog (150 : Nat) { toList := [Value.pointer p129, Value.agg { toList := [Value.slice p123 k124 k125, Value.slice p126 k127 k128] }, Value.pointer p134] }
  w133 fun (e135 : Ending) (w136 : World) => ∃ (p137 : Option Addr), e135 = Ending.returned (Value.pointer p137) ∧ y85 p137 w136) ∧ ∀ (w138
  : World), Step w6 w138 [] [] → Calls Proofs.Tryd.prog (112 : Nat) { toList := [Value.pointer p93, Value.slice keyA keyL keyC] } w138 fun
  (e140 : Ending) (w141 : World) => ∃ (p142 : Option Addr), e140 = Ending.returned (Value.pointer p142) ∧ ∃ (p143 : Option Addr),
  World.cell? w141 (Addr.add ad90 2) = some (Value.pointer p143) ∧ Calls Proofs.Tryd.prog (150 : Nat) { toList := [Value.pointer p143, Value.agg { toList := [Value.slice p123 k124 k125, Value.slice p126 k127 k128] }, Value.pointer p142] }
  w141 fun (e144 : Ending) (w145 : World) => ∃ (p146 : Option Addr), e144 = Ending.returned (Value.pointer p146) ∧ y85 p146 w145) ∧ ∀ (w147
  : World), Step w6 w147 [] [] → Calls Proofs.Tryd.prog (112 : Nat) { toList := [Value.pointer p93, Value.slice keyA keyL keyC] } w147 fun
  (e149 : Ending) (w150 : World) => ∃ (p151 : Option Addr), e149 = Ending.returned (Value.pointer p151) ∧ ∃ (p152 : Option Addr),
  World.cell? w150 (Addr.add ad90 2) = some (Value.pointer p152) ∧ ∃ (p153 : Option Addr), ∃ (k154 : Nat), ∃ (k155 : Nat), ∃ (p156 : Option
  Addr), ∃ (k157 : Nat), ∃ (k158 : Nat), (World.cell? w150 (Addr.add (Addr.add ad91 0) 0) = some (Value.slice p153 k154 k155) ∧ World.cell?
  w150 (Addr.add (Addr.add ad91 0) 1) = some (Value.slice p156 k157 k158) ∧ True) ∧ Calls Proofs.Tryd.prog (150 : Nat) { toList := [Value.pointer p152, Value.agg { toList := [Value.slice p153 k154 k155, Value.slice p156 k157 k158] }, Value.pointer p151] }
  w150 fun (e159 : Ending) (w160 : World) => ∃ (p161 : Option Addr), e159 = Ending.returned (Value.pointer p161) ∧ y85 p161 w160) (∃ (ad162
  : Addr), Value.pointer n = Value.pointer (some ad162) ∧ ∃ (p163 : Option Addr), World.cell? w6 (Addr.add ad162 3) = some (Value.pointer
  p163) ∧ bcase (Option.isNone p163) (∃ (ad164 : Addr), Value.pointer n = Value.pointer (some ad164) ∧ ∃ (p165 : Option Addr), World.cell?
  w6 (Addr.add ad164 2) = some (Value.pointer p165) ∧ R (Ending.returned (Value.pointer p165)) w6) (∃ (ad166 : Addr), Value.pointer n =
  Value.pointer (some ad166) ∧ ∃ (p167 : Option Addr), World.cell? w6 (Addr.add ad166 3) = some (Value.pointer p167) ∧ Calls
  Proofs.Tryd.prog (151 : Nat) { toList := [Value.pointer p167] } w6 fun (e168 : Ending) (w169 : World) => ∃ (p170 : Option Addr), ∃ (k171 :
  Nat), ∃ (k172 : Nat), ∃ (p173 : Option Addr), ∃ (k174 : Nat), ∃ (k175 : Nat), ∃ (p176 : Option Addr), e168 = Ending.returned (Value.tuple
  { toList := [Value.agg { toList := [Value.slice p170 k171 k172, Value.slice p173 k174 k175] }, Value.pointer p176] }) ∧ ∀ (k177 : Nat), ∃
  (ad178 : Addr), Value.pointer n = Value.pointer (some ad178) ∧ ∃ (p179 : Option Addr), World.cell? w169 (Addr.add ad178 2) = some
  (Value.pointer p179) ∧ ∀ (w180 : World), Step w169 w180 [] [k177] → Calls Proofs.Tryd.prog (150 : Nat) { toList := [Value.pointer p179, Value.agg { toList := List.take 2 (List.drop 0 (sets [Value.slice none 0 0, Value.slice none 0 0] 0 [Value.slice p170 k171 k172, Value.slice p173 k174 k175])) }, Value.pointer p176] }
  w180 fun (e182 : Ending) (w183 : World) => ∃ (p184 : Option Addr), e182 = Ending.returned (Value.pointer p184) ∧ Keep [k177] w180 w183 ∧ R
  (Ending.returned (Value.pointer p184)) w183)))

theorem tree_remove.link {n : Option Addr} {keyA : Option Addr} {keyL keyC : Nat} {R : Ending → World → Prop} {w : World} (h : tree_remove.vc n keyA keyL keyC R w) : Calls Go.Proofs.Tryd.prog 112 #[(.pointer n : Value), .slice keyA keyL keyC] w R :=
  calls_of pf (fn := Go.Proofs.Tryd.f112) (ann := .s (.n) (.s (.s (.n) (.b (.s (.n) (.c (.j ⟨[], [], [], [(4, .l (.p))], []⟩ (.n) (.n)) (.s (.n) (.c (.j ⟨[], [], [], [(4, .l (.p))], []⟩ (.n) (.n)) (.s (.n) (.c (.s (.n) (.n)) (.n))))))))) (.s (.n) (.s (.d [0]) (.n))))) (mp := false) (args := [.v (.pointer n), .v (.slice keyA keyL keyC)]) Go.Proofs.Tryd.func112 (c := Go.Proofs.Tryd.f112.body.getD .skip) (by kernel_rfl) (by kernel_rfl) (Eq.mp (by kernel_rfl) h)
theorem tree_remove.body : BodyOk Go.Proofs.Tryd.prog 112 := ⟨Go.Proofs.Tryd.f112, Go.Proofs.Tryd.func112, by kernel_rfl, pf.ng _ _ Go.Proofs.Tryd.func112⟩

end Go.Proofs.YtalegpdnhkopmaaDoor.VC
