/- What is to be shown of functions' texts, printed by a program of this session's repo; that it gives the functions' contracts is checked by the kernel. -/
import Derived.Test.YtnplopiconabiaaProg
import Derived.Test.YtnplopiconabiaaPf
namespace Go.Proofs.Ytnplopiconabiaa.VC
open Go Go.V
set_option maxRecDepth 1000000
set_option linter.unusedVariables false

/-! ### rhizome/rhizomelaw14.DredDeltas: function 13 -/
def rhizomelaw14_DredDeltas.vc (edgesA : Option Addr) (edgesL edgesC : Nat) (scriptA : Option Addr) (scriptL scriptC : Nat) (R : Ending →
  World → Prop) (w : World) : Prop := ∀ (y1 : Bool → World → Prop), (∀ (b2 : Bool) (w3 : World), bcase b2 (Calls Proofs.Try.prog (26 : Nat)
  { toList := [] } w3 fun (e4 : Ending) (w5 : World) => ∃ (b6 : Bool), e4 = Ending.returned (Value.bool b6) ∧ R (Ending.returned (Value.bool
  b6)) w5) (Calls Proofs.Try.prog (28 : Nat) { toList := [Value.string { data := { toList := [(97 : UInt8)] } }, Value.slice edgesA edgesL edgesC] }
  w3 fun (e7 : Ending) (w8 : World) => ∃ (p9 : Option Addr), ∃ (n10 : Int), e7 = Ending.returned (Value.tuple { toList := [Value.pointer p9, Value.int IntKind.i64 n10] })
  ∧ ∀ (y11 : Bool → World → Prop), (∀ (b12 : Bool) (w13 : World), bcase b12 (R (Ending.returned (Value.bool false)) w13) (Calls
  Proofs.Try.prog (29 : Nat) { toList := [Value.pointer p9] } w13 fun (e14 : Ending) (w15 : World) => ∃ (p16 : Option Addr), ∃ (k17 : Nat),
  ∃ (k18 : Nat), e14 = Ending.returned (Value.slice p16 k17 k18) ∧ ∀ (k19 : Nat) (w20 : World), Step w15 w20 [] [k19] → Blk w20 k19 (reps
  [Value.int IntKind.i64 (0 : Int), Value.string { data := { toList := [] } }, Value.int IntKind.i64 (0 : Int)] 0) → ∃ (l23 : List Value),
  List.length l23 = edgesL * 3 ∧ Row w20 edgesA l23 ∧ appendP true [] [] [] w20 (some { block := k19, off := 0 }) 0 0 edgesL l23 3 32
  [Value.int IntKind.i64 (0 : Int), Value.string { data := { toList := [] } }, Value.int IntKind.i64 (0 : Int)] fun (w24 : World) (p25 :
  Option Addr) (k26 k27 : Nat) => ∃ (y28 : Nat → Option Addr → Nat → Nat → Option Addr → Nat → Nat → Int → World → Prop), ∃ (k29 : Nat), y28
  k29 p16 k17 k18 p25 k26 k27 (0 : Int) w24 ∧ ∀ (k30 : Nat) (p31 : Option Addr) (k32 k33 : Nat) (p34 : Option Addr) (k35 k36 : Nat) (n37 :
  Int) (w38 : World), y28 k30 p31 k32 k33 p34 k35 k36 n37 w38 → bcase (decide (n37 < (scriptL : Int))) (∀ (y40 : Option Addr → Nat → Nat →
  Option Addr → Nat → Nat → World → Prop), (∀ (p41 : Option Addr) (k42 k43 : Nat) (p44 : Option Addr) (k45 k46 : Nat) (w47 : World), (∃ (k48
  : Nat), k48 < k30 ∧ y28 k48 p41 k42 k43 p44 k45 k46 (IntKind.wrap IntKind.i64 (n37 + (1 : Int))) w47) → y40 p41 k42 k43 p44 k45 k46 w47) →
  ∀ (y51 : Addr → Int → World → Prop), (∀ (ad52 : Addr) (n53 : Int) (w54 : World), bcase (!decide (n53 = (0 : Int))) (∃ (p55 : Option Addr),
  ∃ (k56 : Nat), ∃ (k57 : Nat), ∃ (p58 : Option Addr), ∃ (k59 : Nat), ∃ (k60 : Nat), (World.cell? w54 (Addr.add ad52 0) = some (Value.slice
  p55 k56 k57) ∧ World.cell? w54 (Addr.add ad52 1) = some (Value.slice p58 k59 k60) ∧ True) ∧ Calls Proofs.Try.prog (33 : Nat) { toList := [Value.agg { toList := [Value.slice p55 k56 k57, Value.slice p58 k59 k60] }] }
  w54 fun (e61 : Ending) (w62 : World) => ∃ (b63 : Bool), e61 = Ending.returned (Value.bool b63) ∧ bcase (!b63) (R (Ending.returned
  (Value.bool false)) w62) (y40 p31 k32 k33 p34 k35 k36 w62)) (∃ (p64 : Option Addr), ∃ (k65 : Nat), ∃ (k66 : Nat), ∃ (p67 : Option Addr), ∃
  (k68 : Nat), ∃ (k69 : Nat), (World.cell? w54 (Addr.add ad52 0) = some (Value.slice p64 k65 k66) ∧ World.cell? w54 (Addr.add ad52 1) = some
  (Value.slice p67 k68 k69) ∧ True) ∧ Calls Proofs.Try.prog (35 : Nat) { toList := [Value.slice p31 k32 k33, Value.agg { toList := [Value.slice p64 k65 k66, Value.slice p67 k68 k69] }] }
  w54 fun (e70 : Ending) (w71 : World) => ∃ (p72 : Option Addr), ∃ (k73 : Nat), ∃ (k74 : Nat), ∃ (n75 : Int), e70 = Ending.returned
  (Value.tuple { toList := [Value.slice p72 k73 k74, Value.int IntKind.i64 n75] }) ∧ ∀ (y76 : Bool → World → Prop), (∀ (b77 : Bool) (w78 :
  World), bcase b77 (R (Ending.returned (Value.bool false)) w78) (∃ (ad79 : Addr), scriptA = some ad79 ∧ ((0 : Int) ≤ n37 ∧ n37 < (scriptL :
  Int)) ∧ ∃ (b80 : Bool), World.cell? w78 (Addr.add (Addr.add ad79 (Int.toNat n37 * 2)) 1) = some (Value.bool b80) ∧ bcase b80 (∃ (ad81 :
  Addr), scriptA = some ad81 ∧ ((0 : Int) ≤ n37 ∧ n37 < (scriptL : Int)) ∧ ∃ (p82 : Option Addr), ∃ (k83 : Nat), ∃ (k84 : Nat), World.cell?
  w78 (Addr.add (Addr.add ad81 (Int.toNat n37 * 2)) 0) = some (Value.slice p82 k83 k84) ∧ ∃ (l85 : List Value), List.length l85 = k83 * 3 ∧
  Row w78 p82 l85 ∧ appendP true [] [] [] w78 p34 k35 k36 k83 l85 3 32 [Value.int IntKind.i64 (0 : Int), Value.string
  { data := { toList := [] } }, Value.int IntKind.i64 (0 : Int)] fun (w86 : World) (p87 : Option Addr) (k88 k89 : Nat) => y40 p72 k73 k74
  p87 k88 k89 w86) (∃ (y90 : Nat → Option Addr → Nat → Nat → Int → World → Prop), ∃ (k91 : Nat), y90 k91 none 0 0 (0 : Int) w78 ∧ ∀ (k92 :
  Nat) (p93 : Option Addr) (k94 k95 : Nat) (n96 : Int) (w97 : World), y90 k92 p93 k94 k95 n96 w97 → bcase (decide (n96 < (k35 : Int))) (∀
  (y99 : Option Addr → Nat → Nat → World → Prop), (∀ (p100 : Option Addr) (k101 k102 : Nat) (w103 : World), (∃ (k104 : Nat), k104 < k92 ∧
  y90 k104 p100 k101 k102 (IntKind.wrap IntKind.i64 (n96 + (1 : Int))) w103) → y99 p100 k101 k102 w103) → ∃ (ad107 : Addr), p34 = some ad107
  ∧ ((0 : Int) ≤ n96 ∧ n96 < (k35 : Int)) ∧ ∃ (n108 : Int), ∃ (s109 : ByteArray), ∃ (n110 : Int), (World.cell? w97 (Addr.add (Addr.add ad107
  (Int.toNat n96 * 3)) 0) = some (Value.int IntKind.i64 n108) ∧ World.cell? w97 (Addr.add (Addr.add ad107 (Int.toNat n96 * 3)) 1) = some
  (Value.string s109) ∧ World.cell? w97 (Addr.add (Addr.add ad107 (Int.toNat n96 * 3)) 2) = some (Value.int IntKind.i64 n110) ∧ True) ∧ ∀
  (k111 : Nat), ∃ (ad112 : Addr), scriptA = some ad112 ∧ ((0 : Int) ≤ n37 ∧ n37 < (scriptL : Int)) ∧ ∃ (p113 : Option Addr), ∃ (k114 : Nat),
  ∃ (k115 : Nat), World.cell? w97 (Addr.add (Addr.add ad112 (Int.toNat n37 * 2)) 0) = some (Value.slice p113 k114 k115) ∧ ∃ (y116 : Nat →
  Bool → Int → World → Prop), ∃ (k117 : Nat), (∀ (w118 : World), Step w97 w118 [] [k111] → y116 k117 false (0 : Int) w118) ∧ ∀ (k120 : Nat)
  (b121 : Bool) (n122 : Int) (w123 : World), y116 k120 b121 n122 w123 → bcase (decide (n122 < (k114 : Int))) (∀ (y125 : Bool → World →
  Prop), (∀ (b126 : Bool) (w127 : World), (∃ (k128 : Nat), k128 < k120 ∧ y116 k128 b126 (IntKind.wrap IntKind.i64 (n122 + (1 : Int))) w127)
  → y125 b126 w127) → ∃ (ad131 : Addr), p113 = some ad131 ∧ ((0 : Int) ≤ n122 ∧ n122 < (k114 : Int)) ∧ ∃ (n132 : Int), ∃ (s133 : ByteArray),
  ∃ (n134 : Int), (World.cell? w123 (Addr.add (Addr.add ad131 (Int.toNat n122 * nat_lit 3)) (nat_lit 0)) = some (Value.int IntKind.i64 n132)
  ∧ World.cell? w123 (Addr.add (Addr.add ad131 (Int.toNat n122 * nat_lit 3)) (nat_lit 1)) = some (Value.string s133) ∧ World.cell? w123
  (Addr.add (Addr.add ad131 (Int.toNat n122 * nat_lit 3)) (nat_lit 2)) = some (Value.int IntKind.i64 n134) ∧ True) ∧ ∀ (k135 : Nat), bcase
  b121 (∀ (w136 : World), Step w123 w136 [] [k135] → y125 true w136) (∀ (w138 : World), Step w123 w138 [] [k135] → y125 (conj [decide (n108
  = n132), decide (s109 = s133), decide (n110 = n134)]) w138)) (bcase (!b121) (∀ (k140 : Nat), appendP false [] [k140] [k111, k140] w123 p93
  k94 k95 (nat_lit 1) (spl (reps [Value.int IntKind.i64 (0 : Int), Value.string { data := { toList := [] } }, Value.int IntKind.i64 (0 :
  Int)] (nat_lit 1)) (nat_lit 0) (List.take (nat_lit 3) (List.drop (nat_lit 0) (sets [Value.int IntKind.i64 (0 : Int), Value.string
  { data := { toList := [] } }, Value.int IntKind.i64 (0 : Int)] (nat_lit 0) [Value.int IntKind.i64 n108, Value.string s109, Value.int
  IntKind.i64 n110])))) (nat_lit 3) (nat_lit 32) [Value.int IntKind.i64 (0 : Int), Value.string { data := { toList := [] } }, Value.int
  IntKind.i64 (0 : Int)] fun (w141 : World) (p142 : Option Addr) (k143 k144 : Nat) => y99 p142 k143 k144 w141) (y99 p93 k94 k95 w123))) (y40
  p72 k73 k74 p93 k94 k95 w97))) → y76 b77 w78) → bcase (!decide (n75 = (0 : Int))) (y76 true w71) (∃ (ad147 : Addr), scriptA = some ad147 ∧
  ((0 : Int) ≤ n37 ∧ n37 < (scriptL : Int)) ∧ ∃ (b148 : Bool), World.cell? w71 (Addr.add (Addr.add ad147 (Int.toNat n37 * 2)) 1) = some
  (Value.bool b148) ∧ bcase b148 (∃ (p149 : Option Addr), ∃ (k150 : Nat), ∃ (k151 : Nat), World.cell? w71 (Addr.add ad52 1) = some
  (Value.slice p149 k150 k151) ∧ bcase (decide ((0 : Int) < (k150 : Int))) (y76 true w71) (∃ (ad152 : Addr), scriptA = some ad152 ∧ ((0 :
  Int) ≤ n37 ∧ n37 < (scriptL : Int)) ∧ ∃ (b153 : Bool), World.cell? w71 (Addr.add (Addr.add ad152 (Int.toNat n37 * 2)) 1) = some
  (Value.bool b153) ∧ bcase (!b153) (∃ (p154 : Option Addr), ∃ (k155 : Nat), ∃ (k156 : Nat), World.cell? w71 (Addr.add ad52 0) = some
  (Value.slice p154 k155 k156) ∧ y76 (decide ((0 : Int) < (k155 : Int))) w71) (y76 false w71))) (∃ (ad157 : Addr), scriptA = some ad157 ∧
  ((0 : Int) ≤ n37 ∧ n37 < (scriptL : Int)) ∧ ∃ (b158 : Bool), World.cell? w71 (Addr.add (Addr.add ad157 (Int.toNat n37 * 2)) 1) = some
  (Value.bool b158) ∧ bcase (!b158) (∃ (p159 : Option Addr), ∃ (k160 : Nat), ∃ (k161 : Nat), World.cell? w71 (Addr.add ad52 0) = some
  (Value.slice p159 k160 k161) ∧ y76 (decide ((0 : Int) < (k160 : Int))) w71) (y76 false w71)))) → y51 ad52 n53 w54) → ∃ (ad164 : Addr),
  scriptA = some ad164 ∧ ((0 : Int) ≤ n37 ∧ n37 < (scriptL : Int)) ∧ ∃ (p165 : Option Addr), ∃ (k166 : Nat), ∃ (k167 : Nat), World.cell? w38
  (Addr.add (Addr.add ad164 (Int.toNat n37 * 2)) 0) = some (Value.slice p165 k166 k167) ∧ ∃ (ad168 : Addr), scriptA = some ad168 ∧ ((0 :
  Int) ≤ n37 ∧ n37 < (scriptL : Int)) ∧ ∃ (b169 : Bool), World.cell? w38 (Addr.add (Addr.add ad168 (Int.toNat n37 * 2)) 1) = some
  (Value.bool b169) ∧ (∀ (w170 : World), Step w38 w170 [] [] → Calls Proofs.Try.prog (30 : Nat) { toList := [Value.pointer p9, Value.slice p165 k166 k167, Value.bool b169] }
  w170 fun (e172 : Ending) (w173 : World) => ∃ (p174 : Option Addr), ∃ (k175 : Nat), ∃ (k176 : Nat), ∃ (p177 : Option Addr), ∃ (k178 : Nat),
  ∃ (k179 : Nat), ∃ (n180 : Int), e172 = Ending.returned (Value.tuple { toList := [Value.agg { toList := [Value.slice p174 k175 k176, Value.slice p177 k178 k179] }, Value.int IntKind.i64 n180] })
  ∧ ∀ (k181 : Nat) (w182 : World), Step w173 w182 [] [k181] → Blk w182 k181 (sets [Value.slice none 0 0, Value.slice none 0 0] 0
  [Value.slice p174 k175 k176, Value.slice p177 k178 k179]) → y51 { block := k181, off := 0 } n180 w182) ∧ ∀ (k185 : Nat) (w186 : World),
  Step w38 w186 [] [k185] → Calls Proofs.Try.prog (30 : Nat) { toList := [Value.pointer p9, Value.slice p165 k166 k167, Value.bool b169] }
  w186 fun (e188 : Ending) (w189 : World) => ∃ (p190 : Option Addr), ∃ (k191 : Nat), ∃ (k192 : Nat), ∃ (p193 : Option Addr), ∃ (k194 : Nat),
  ∃ (k195 : Nat), ∃ (n196 : Int), e188 = Ending.returned (Value.tuple { toList := [Value.agg { toList := [Value.slice p190 k191 k192, Value.slice p193 k194 k195] }, Value.int IntKind.i64 n196] })
  ∧ Keep [k185] w186 w189 ∧ ∀ (w197 : World), Step w189 w197 [k185] [] → Blk w197 k185 (sets [Value.slice none 0 0, Value.slice none 0 0] 0
  [Value.slice p190 k191 k192, Value.slice p193 k194 k195]) → y51 { block := k185, off := 0 } n196 w197) (Calls Proofs.Try.prog (15 : Nat) { toList := [Value.string { data := { toList := [(97 : UInt8)] } }, Value.slice p34 k35 k36] }
  w38 fun (e200 : Ending) (w201 : World) => ∃ (p202 : Option Addr), ∃ (k203 : Nat), ∃ (k204 : Nat), ∃ (n205 : Int), e200 = Ending.returned
  (Value.tuple { toList := [Value.slice p202 k203 k204, Value.int IntKind.i64 n205] }) ∧ ∀ (y206 : Bool → World → Prop), (∀ (b207 : Bool)
  (w208 : World), R (Ending.returned (Value.bool b207)) w208 → y206 b207 w208) → bcase (decide (n205 = (0 : Int))) (Calls Proofs.Try.prog
  (17 : Nat) { toList := [Value.slice p202 k203 k204, Value.slice p31 k32 k33] } w201 fun (e211 : Ending) (w212 : World) => ∃ (b213 : Bool),
  e211 = Ending.returned (Value.bool b213) ∧ bcase b213 (Calls Proofs.Try.prog (29 : Nat) { toList := [Value.pointer p9] } w212 fun (e214 :
  Ending) (w215 : World) => ∃ (p216 : Option Addr), ∃ (k217 : Nat), ∃ (k218 : Nat), e214 = Ending.returned (Value.slice p216 k217 k218) ∧
  Calls Proofs.Try.prog (17 : Nat) { toList := [Value.slice p216 k217 k218, Value.slice p31 k32 k33] } w215 fun (e219 : Ending) (w220 :
  World) => ∃ (b221 : Bool), e219 = Ending.returned (Value.bool b221) ∧ y206 b221 w220) (y206 false w212)) (y206 false w201))) → y11 b12
  w13) → bcase (!decide (n10 = (0 : Int))) (y11 true w8) (y11 (Option.isNone p9) w8)) → y1 b2 w3) → Calls Proofs.Try.prog (26 : Nat) { toList := [] }
  w fun (e226 : Ending) (w227 : World) => ∃ (b228 : Bool), e226 = Ending.returned (Value.bool b228) ∧ bcase (!b228) (y1 true w227) (Calls
  Proofs.Try.prog (27 : Nat) { toList := [Value.string { data := { toList := [(97 : UInt8)] } }, Value.slice edgesA edgesL edgesC, Value.slice scriptA scriptL scriptC] }
  w227 fun (e229 : Ending) (w230 : World) => ∃ (b231 : Bool), e229 = Ending.returned (Value.bool b231) ∧ y1 (!b231) w230)

theorem rhizomelaw14_DredDeltas.link {edgesA : Option Addr} {edgesL edgesC : Nat} {scriptA : Option Addr} {scriptL scriptC : Nat} {R : Ending → World → Prop} {w : World} (h : rhizomelaw14_DredDeltas.vc edgesA edgesL edgesC scriptA scriptL scriptC R w) : Calls Go.Proofs.Try.prog 13 #[.slice edgesA edgesL edgesC, .slice scriptA scriptL scriptC] w R :=
  calls_of pf (fn := Go.Proofs.Try.f13) (ann := .s (.n) (.s (.j ⟨[], [], [], [(28, .l (.b))], []⟩ (.n) (.c (.s (.n) (.n)) (.n))) (.s (.n) (.s (.j ⟨[], [], [], [(40, .l (.b))], []⟩ (.n) (.c (.s (.n) (.n)) (.n))) (.s (.n) (.s (.n) (.s (.s (.n) (.b (.l ⟨[], [], [], [(7, .l (.sl)), (8, .l (.sl)), (48, .l (.i .i64))], []⟩ (.s (.n) (.s (.c (.n) (.n)) (.j ⟨[], [], [], [(7, .l (.sl)), (8, .l (.sl))], []⟩ (.b (.s (.n) (.j ⟨[10], [], [], [(10, .a), (11, .l (.i .i64))], []⟩ (.n) (.s (.s (.n) (.c (.s (.s (.n) (.c (.s (.n) (.n)) (.n))) (.n)) (.n))) (.s (.n) (.s (.j ⟨[], [], [], [(105, .l (.b))], []⟩ (.n) (.c (.s (.n) (.n)) (.n))) (.s (.n) (.s (.s (.n) (.c (.s (.n) (.n)) (.n))) (.s (.n) (.s (.s (.n) (.b (.l ⟨[], [], [], [(14, .l (.sl)), (121, .l (.i .i64))], []⟩ (.s (.n) (.s (.c (.n) (.n)) (.j ⟨[], [], [], [(14, .l (.sl))], []⟩ (.b (.s (.n) (.s (.n) (.s (.s (.n) (.b (.l ⟨[], [], [1], [(17, .l (.b)), (131, .l (.i .i64))], []⟩ (.s (.n) (.s (.c (.n) (.n)) (.j ⟨[], [], [1], [(17, .l (.b))], []⟩ (.b (.s (.n) (.n))) (.n))))))) (.s (.n) (.c (.n) (.n))))))) (.n))))))) (.n))))))))))) (.n))))))) (.s (.n) (.j ⟨[], [], [], [(4, .l (.b))], []⟩ (.n) (.n)))))))))) (mp := false) (args := [.v (.slice edgesA edgesL edgesC), .v (.slice scriptA scriptL scriptC)]) Go.Proofs.Try.func13 (c := Go.Proofs.Try.f13.body.getD .skip) (by kernel_rfl) (by kernel_rfl) (Eq.mp (by kernel_rfl) h)
theorem rhizomelaw14_DredDeltas.body : BodyOk Go.Proofs.Try.prog 13 := ⟨Go.Proofs.Try.f13, Go.Proofs.Try.func13, by kernel_rfl, pf.ng _ _ Go.Proofs.Try.func13⟩

end Go.Proofs.Ytnplopiconabiaa.VC
