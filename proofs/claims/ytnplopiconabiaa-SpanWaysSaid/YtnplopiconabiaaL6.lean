/- What is to be shown of functions' texts, printed by a program of this session's repo; that it gives the functions' contracts is checked by the kernel. -/
import Derived.Test.YtnplopiconabiaaProg
import Derived.Test.YtnplopiconabiaaPf
namespace Go.Proofs.Ytnplopiconabiaa.VC
open Go Go.V
set_option maxRecDepth 1000000
set_option linter.unusedVariables false

/-! ### rhizome/rhizomelaw13.SpanWalks: function 6 -/
def rhizomelaw13_SpanWalks.vc (label : ByteArray) (edgesA : Option Addr) (edgesL edgesC : Nat) (R : Ending → World → Prop) (w : World) :
  Prop := ∀ (y1 : Bool → World → Prop), (∀ (b2 : Bool) (w3 : World), bcase b2 (Calls Proofs.Try.prog (14 : Nat) { toList := [] } w3 fun (e4
  : Ending) (w5 : World) => ∃ (b6 : Bool), e4 = Ending.returned (Value.bool b6) ∧ R (Ending.returned (Value.bool b6)) w5) (Calls
  Proofs.Try.prog (15 : Nat) { toList := [Value.string label, Value.slice edgesA edgesL edgesC] } w3 fun (e7 : Ending) (w8 : World) => ∃ (p9
  : Option Addr), ∃ (k10 : Nat), ∃ (k11 : Nat), ∃ (n12 : Int), e7 = Ending.returned (Value.tuple { toList := [Value.slice p9 k10 k11, Value.int IntKind.i64 n12] })
  ∧ Calls Proofs.Try.prog (22 : Nat) { toList := [Value.string label, Value.slice edgesA edgesL edgesC] } w8 fun (e13 : Ending) (w14 :
  World) => ∃ (p15 : Option Addr), ∃ (k16 : Nat), ∃ (k17 : Nat), ∃ (n18 : Int), e13 = Ending.returned (Value.tuple { toList := [Value.slice p15 k16 k17, Value.int IntKind.i64 n18] })
  ∧ ∀ (y19 : Bool → World → Prop), (∀ (b20 : Bool) (w21 : World), bcase b20 (∀ (y22 : Bool → World → Prop), (∀ (b23 : Bool) (w24 : World), R
  (Ending.returned (Value.bool b23)) w24 → y22 b23 w24) → bcase (decide (n12 = (1 : Int))) (y22 (decide (n18 = (1 : Int))) w21) (y22 false
  w21)) (∃ (y27 : Nat → Option Addr → Nat → Nat → Int → World → Prop), ∃ (k28 : Nat), y27 k28 none 0 0 (0 : Int) w21 ∧ ∀ (k29 : Nat) (p30 :
  Option Addr) (k31 k32 : Nat) (n33 : Int) (w34 : World), y27 k29 p30 k31 k32 n33 w34 → bcase (decide (n33 < (edgesL : Int))) (∃ (ad36 :
  Addr), edgesA = some ad36 ∧ ((0 : Int) ≤ n33 ∧ n33 < (edgesL : Int)) ∧ ∃ (n37 : Int), ∃ (s38 : ByteArray), ∃ (n39 : Int), (World.cell? w34
  (Addr.add (Addr.add ad36 (Int.toNat n33 * 3)) 0) = some (Value.int IntKind.i64 n37) ∧ World.cell? w34 (Addr.add (Addr.add ad36 (Int.toNat
  n33 * 3)) 1) = some (Value.string s38) ∧ World.cell? w34 (Addr.add (Addr.add ad36 (Int.toNat n33 * 3)) 2) = some (Value.int IntKind.i64
  n39) ∧ True) ∧ ∀ (k40 k41 : Nat), appendP false [] [k41, k40] [k40, k41] w34 p30 k31 k32 2 (spl (spl (reps [Value.int IntKind.i64 (0 :
  Int)] 2) 0 [Value.int IntKind.i64 n37]) 1 [Value.int IntKind.i64 n39]) 1 8 [Value.int IntKind.i64 (0 : Int)] fun (w42 : World) (p43 :
  Option Addr) (k44 k45 : Nat) => ∃ (k46 : Nat), k46 < k29 ∧ y27 k46 p43 k44 k45 (IntKind.wrap IntKind.i64 (n33 + (1 : Int))) w42) (∃ (y47 :
  Nat → Int → World → Prop), ∃ (k48 : Nat), y47 k48 (0 : Int) w34 ∧ ∀ (k49 : Nat) (n50 : Int) (w51 : World), y47 k49 n50 w51 → bcase (decide
  (n50 < (k31 : Int))) (∃ (ad53 : Addr), p30 = some ad53 ∧ ((0 : Int) ≤ n50 ∧ n50 < (k31 : Int)) ∧ ∃ (n54 : Int), World.cell? w51 (Addr.add
  ad53 (Int.toNat n50 * 1)) = some (Value.int IntKind.i64 n54) ∧ ∃ (y55 : Nat → Bool → Int → World → Prop), ∃ (k56 : Nat), y55 k56 false (0
  : Int) w51 ∧ ∀ (k57 : Nat) (b58 : Bool) (n59 : Int) (w60 : World), y55 k57 b58 n59 w60 → bcase (decide (n59 < (k16 : Int))) (∃ (ad62 :
  Addr), p15 = some ad62 ∧ ((0 : Int) ≤ n59 ∧ n59 < (k16 : Int)) ∧ ∃ (p63 : Option Addr), ∃ (k64 : Nat), ∃ (k65 : Nat), World.cell? w60
  (Addr.add ad62 (Int.toNat n59 * 1)) = some (Value.slice p63 k64 k65) ∧ ∃ (y66 : Nat → Bool → Int → World → Prop), ∃ (k67 : Nat), y66 k67
  b58 (0 : Int) w60 ∧ ∀ (k68 : Nat) (b69 : Bool) (n70 : Int) (w71 : World), y66 k68 b69 n70 w71 → bcase (decide (n70 < (k64 : Int))) (∀ (y73
  : Bool → World → Prop), (∀ (b74 : Bool) (w75 : World), (∃ (k76 : Nat), k76 < k68 ∧ y66 k76 b74 (IntKind.wrap IntKind.i64 (n70 + (1 :
  Int))) w75) → y73 b74 w75) → ∃ (ad79 : Addr), p63 = some ad79 ∧ ((0 : Int) ≤ n70 ∧ n70 < (k64 : Int)) ∧ ∃ (n80 : Int), World.cell? w71
  (Addr.add ad79 (Int.toNat n70 * 1)) = some (Value.int IntKind.i64 n80) ∧ bcase b69 (y73 true w71) (y73 (decide (n80 = n54)) w71)) (∃ (k81
  : Nat), k81 < k57 ∧ y55 k81 b69 (IntKind.wrap IntKind.i64 (n59 + (1 : Int))) w71)) (∀ (k82 : Nat) (w83 : World), Step w60 w83 [] [k82] →
  Blk w83 k82 (spl (spl (reps [Value.int IntKind.i64 (0 : Int)] 2) 0 [Value.int IntKind.i64 n54]) 1 [Value.int IntKind.i64 n54]) → Calls
  Proofs.Try.prog (24 : Nat) { toList := [Value.slice p9 k10 k11, Value.slice (some { block := k82, off := 0 }) 2 2] } w83 fun (e86 :
  Ending) (w87 : World) => ∃ (b88 : Bool), e86 = Ending.returned (Value.bool b88) ∧ bcase (!b58 == b88) (R (Ending.returned (Value.bool
  false)) w87) (∃ (y89 : Nat → Int → World → Prop), ∃ (k90 : Nat), y89 k90 (0 : Int) w87 ∧ ∀ (k91 : Nat) (n92 : Int) (w93 : World), y89 k91
  n92 w93 → bcase (decide (n92 < (k31 : Int))) (∃ (ad95 : Addr), p30 = some ad95 ∧ ((0 : Int) ≤ n92 ∧ n92 < (k31 : Int)) ∧ ∃ (n96 : Int),
  World.cell? w93 (Addr.add ad95 (Int.toNat n92 * 1)) = some (Value.int IntKind.i64 n96) ∧ Calls Proofs.Try.prog (19 : Nat) { toList := [Value.string label, Value.slice edgesA edgesL edgesC, Value.int IntKind.i64 n54, Value.int IntKind.i64 n96] }
  w93 fun (e97 : Ending) (w98 : World) => ∃ (p99 : Option Addr), ∃ (k100 : Nat), ∃ (k101 : Nat), ∃ (n102 : Int), e97 = Ending.returned
  (Value.tuple { toList := [Value.slice p99 k100 k101, Value.int IntKind.i64 n102] }) ∧ ∀ (y103 : Bool → World → Prop), (∀ (b104 : Bool)
  (w105 : World), bcase b104 (R (Ending.returned (Value.bool false)) w105) (∃ (y106 : Nat → Int → World → Prop), ∃ (k107 : Nat), y106 k107
  (0 : Int) w105 ∧ ∀ (k108 : Nat) (n109 : Int) (w110 : World), y106 k108 n109 w110 → bcase (decide (IntKind.wrap IntKind.i64 (n109 + (1 :
  Int)) < (k100 : Int))) (∃ (y112 : Nat → Bool → Int → World → Prop), ∃ (k113 : Nat), y112 k113 false (0 : Int) w110 ∧ ∀ (k114 : Nat) (b115
  : Bool) (n116 : Int) (w117 : World), y112 k114 b115 n116 w117 → bcase (decide (n116 < (edgesL : Int))) (∀ (y119 : Bool → World → Prop), (∀
  (b120 : Bool) (w121 : World), (∃ (k122 : Nat), k122 < k114 ∧ y112 k122 b120 (IntKind.wrap IntKind.i64 (n116 + (1 : Int))) w121) → y119
  b120 w121) → ∃ (ad125 : Addr), edgesA = some ad125 ∧ ((0 : Int) ≤ n116 ∧ n116 < (edgesL : Int)) ∧ ∃ (n126 : Int), ∃ (s127 : ByteArray), ∃
  (n128 : Int), (World.cell? w117 (Addr.add (Addr.add ad125 (Int.toNat n116 * nat_lit 3)) (nat_lit 0)) = some (Value.int IntKind.i64 n126) ∧
  World.cell? w117 (Addr.add (Addr.add ad125 (Int.toNat n116 * nat_lit 3)) (nat_lit 1)) = some (Value.string s127) ∧ World.cell? w117
  (Addr.add (Addr.add ad125 (Int.toNat n116 * nat_lit 3)) (nat_lit 2)) = some (Value.int IntKind.i64 n128) ∧ True) ∧ ∀ (k129 : Nat), bcase
  b115 (∀ (w130 : World), Step w117 w130 [] [k129] → y119 true w130) (∃ (ad132 : Addr), p99 = some ad132 ∧ ((0 : Int) ≤ n109 ∧ n109 < (k100
  : Int)) ∧ ∃ (n133 : Int), World.cell? w117 (Addr.add ad132 (Int.toNat n109 * nat_lit 1)) = some (Value.int IntKind.i64 n133) ∧ ∃ (ad134 :
  Addr), p99 = some ad134 ∧ ((0 : Int) ≤ IntKind.wrap IntKind.i64 (n109 + (1 : Int)) ∧ IntKind.wrap IntKind.i64 (n109 + (1 : Int)) < (k100 :
  Int)) ∧ ∃ (n135 : Int), World.cell? w117 (Addr.add ad134 (Int.toNat (IntKind.wrap IntKind.i64 (n109 + (1 : Int))) * nat_lit 1)) = some
  (Value.int IntKind.i64 n135) ∧ ∀ (w136 : World), Step w117 w136 [] [k129] → y119 (conj [decide (n126 = n133), decide (s127 = label),
  decide (n128 = n135)]) w136)) (bcase (!b115) (R (Ending.returned (Value.bool false)) w117) (∃ (k138 : Nat), k138 < k108 ∧ y106 k138
  (IntKind.wrap IntKind.i64 (n109 + (1 : Int))) w117))) (∃ (k139 : Nat), k139 < k91 ∧ y89 k139 (IntKind.wrap IntKind.i64 (n92 + (1 : Int)))
  w110)) → y103 b104 w105) → ∀ (k142 : Nat) (w143 : World), Step w98 w143 [] [k142] → Blk w143 k142 (spl (spl (reps [Value.int IntKind.i64
  (0 : Int)] 2) 0 [Value.int IntKind.i64 n54]) 1 [Value.int IntKind.i64 n96]) → Calls Proofs.Try.prog (24 : Nat) { toList := [Value.slice p9 k10 k11, Value.slice (some { block := k142, off := 0 }) 2 2] }
  w143 fun (e146 : Ending) (w147 : World) => ∃ (b148 : Bool), e146 = Ending.returned (Value.bool b148) ∧ bcase (!decide (n102 = (0 : Int))
  == b148) (y103 true w147) (bcase (decide (n102 = (0 : Int))) (bcase (decide ((k100 : Int) < (2 : Int))) (y103 true w147) (∃ (ad149 :
  Addr), p99 = some ad149 ∧ ((0 : Int) ≤ (0 : Int) ∧ (0 : Int) < (k100 : Int)) ∧ ∃ (n150 : Int), World.cell? w147 (Addr.add ad149 0) = some
  (Value.int IntKind.i64 n150) ∧ bcase (!decide (n150 = n54)) (y103 true w147) (∃ (ad151 : Addr), p99 = some ad151 ∧ ((0 : Int) ≤
  IntKind.wrap IntKind.i64 ((k100 : Int) - (1 : Int)) ∧ IntKind.wrap IntKind.i64 ((k100 : Int) - (1 : Int)) < (k100 : Int)) ∧ ∃ (n152 :
  Int), World.cell? w147 (Addr.add ad151 (Int.toNat (IntKind.wrap IntKind.i64 ((k100 : Int) - (1 : Int))) * nat_lit 1)) = some (Value.int
  IntKind.i64 n152) ∧ y103 (!decide (n152 = n96)) w147))) (y103 false w147))) (∃ (k153 : Nat), k153 < k49 ∧ y47 k153 (IntKind.wrap
  IntKind.i64 (n50 + (1 : Int))) w93)))) (R (Ending.returned (Value.bool true)) w51))) → y19 b20 w21) → bcase (!decide (n12 = (0 : Int)))
  (y19 true w14) (y19 (!decide (n18 = (0 : Int))) w14)) → y1 b2 w3) → Calls Proofs.Try.prog (14 : Nat) { toList := [] } w fun (e158 :
  Ending) (w159 : World) => ∃ (b160 : Bool), e158 = Ending.returned (Value.bool b160) ∧ bcase (!b160) (y1 true w159) (bcase (decide ((20 :
  Int) < (edgesL : Int))) (y1 true w159) (y1 (decide ((300 : Int) < ((ByteArray.size label) : Int))) w159))

theorem rhizomelaw13_SpanWalks.link {label : ByteArray} {edgesA : Option Addr} {edgesL edgesC : Nat} {R : Ending → World → Prop} {w : World} (h : rhizomelaw13_SpanWalks.vc label edgesA edgesL edgesC R w) : Calls Go.Proofs.Try.prog 6 #[.string label, .slice edgesA edgesL edgesC] w R :=
  calls_of pf (fn := Go.Proofs.Try.f6) (ann := .s (.n) (.s (.j ⟨[], [], [], [(38, .l (.b))], []⟩ (.n) (.c (.s (.n) (.n)) (.n))) (.s (.n) (.s (.n) (.s (.j ⟨[], [], [], [(57, .l (.b))], []⟩ (.n) (.c (.j ⟨[], [], [], [(4, .l (.b))], []⟩ (.n) (.n)) (.n))) (.s (.n) (.s (.s (.n) (.b (.l ⟨[], [], [], [(9, .l (.sl)), (66, .l (.i .i64))], []⟩ (.s (.n) (.s (.c (.n) (.n)) (.s (.b (.s (.n) (.n))) (.n))))))) (.s (.s (.n) (.b (.l ⟨[], [], [], [(80, .l (.i .i64))], []⟩ (.s (.n) (.s (.c (.n) (.n)) (.s (.b (.s (.n) (.s (.n) (.s (.s (.n) (.b (.l ⟨[], [], [], [(14, .l (.b)), (86, .l (.i .i64))], []⟩ (.s (.n) (.s (.c (.n) (.n)) (.s (.b (.s (.n) (.s (.n) (.b (.l ⟨[], [], [], [(14, .l (.b)), (92, .l (.i .i64))], []⟩ (.s (.n) (.s (.c (.n) (.n)) (.j ⟨[], [], [], [(14, .l (.b))], []⟩ (.b (.s (.n) (.n))) (.n))))))))) (.n))))))) (.s (.s (.n) (.c (.s (.n) (.n)) (.n))) (.s (.n) (.b (.l ⟨[], [], [], [(113, .l (.i .i64))], []⟩ (.s (.n) (.s (.c (.n) (.n)) (.s (.b (.s (.n) (.s (.n) (.s (.j ⟨[], [], [], [(158, .l (.b))], []⟩ (.n) (.c (.s (.n) (.n)) (.n))) (.s (.n) (.b (.l ⟨[], [], [], [(23, .l (.i .i64))], []⟩ (.s (.s (.n) (.c (.n) (.n))) (.s (.b (.s (.n) (.s (.s (.n) (.b (.l ⟨[], [], [], [(24, .l (.b)), (168, .l (.i .i64))], []⟩ (.s (.n) (.s (.c (.n) (.n)) (.j ⟨[], [], [], [(24, .l (.b))], []⟩ (.b (.s (.n) (.d [1]))) (.n))))))) (.s (.n) (.c (.s (.n) (.n)) (.n)))))) (.n)))))))))) (.n)))))))))))) (.n))))))) (.s (.n) (.n)))))))))) (mp := false) (args := [.v (.string label), .v (.slice edgesA edgesL edgesC)]) Go.Proofs.Try.func6 (c := Go.Proofs.Try.f6.body.getD .skip) (by kernel_rfl) (by kernel_rfl) (Eq.mp (by kernel_rfl) h)
theorem rhizomelaw13_SpanWalks.body : BodyOk Go.Proofs.Try.prog 6 := ⟨Go.Proofs.Try.f6, Go.Proofs.Try.func6, by kernel_rfl, pf.ng _ _ Go.Proofs.Try.func6⟩

end Go.Proofs.Ytnplopiconabiaa.VC
