/- What is to be shown of functions' texts, printed by a program of this session's repo; that it gives the functions' contracts is checked by the kernel. -/
import Derived.Test.YtcaamecdhbgknaaProg
import Derived.Test.YtcaamecdhbgknaaPf
namespace Go.Proofs.Ytcaamecdhbgknaa.VC
open Go Go.V
set_option maxRecDepth 1000000
set_option linter.unusedVariables false

/-! ### rhizome/rhizomelaw04.LogPlays: function 13 -/
def rhizomelaw04_LogPlays.vc (aSize : Int) (aFirst : Int) (aCount : Int) (scriptA : Option Addr) (scriptL scriptC : Nat) (R : Ending → World
  → Prop) (w : World) : Prop := ∀ (k1 : Nat) (y2 : Bool → World → Prop), (∀ (b3 : Bool) (w4 : World), bcase b3 (Calls Proofs.Try.prog (33 :
  Nat) { toList := [] } w4 fun (e5 : Ending) (w6 : World) => ∃ (b7 : Bool), e5 = Ending.returned (Value.bool b7) ∧ Keep [k1] w4 w6 ∧ R
  (Ending.returned (Value.bool b7)) w6) (Calls Proofs.Try.prog (20 : Nat) { toList := [Value.int IntKind.i64 aSize] } w4 fun (e8 : Ending)
  (w9 : World) => ∃ (p10 : Option Addr), ∃ (n11 : Int), e8 = Ending.returned (Value.tuple { toList := [Value.pointer p10, Value.int IntKind.i64 n11] })
  ∧ Keep [k1] w4 w9 ∧ Calls Proofs.Try.prog (30 : Nat) { toList := [Value.int IntKind.i64 aSize] } w9 fun (e12 : Ending) (w13 : World) => ∃
  (p14 : Option Addr), ∃ (k15 : Nat), ∃ (k16 : Nat), ∃ (p17 : Option Addr), ∃ (k18 : Nat), ∃ (k19 : Nat), ∃ (p20 : Option Addr), ∃ (k21 :
  Nat), ∃ (k22 : Nat), ∃ (n23 : Int), ∃ (n24 : Int), ∃ (n25 : Int), e12 = Ending.returned (Value.tuple { toList := [Value.agg { toList := [Value.slice p14 k15 k16, Value.slice p17 k18 k19, Value.slice p20 k21 k22, Value.int IntKind.i64 n23, Value.int IntKind.i64 n24] }, Value.int IntKind.i64 n25] })
  ∧ Keep [k1] w9 w13 ∧ ∀ (k26 : Nat) (y27 : Bool → World → Prop), (∀ (b28 : Bool) (w29 : World), bcase b28 (R (Ending.returned (Value.bool
  false)) w29) (Calls Proofs.Try.prog (34 : Nat) { toList := [Value.pointer p10, Value.int IntKind.i64 aFirst, Value.int IntKind.i64 aCount] }
  w29 fun (e30 : Ending) (w31 : World) => ∃ (p32 : Option Addr), ∃ (p33 : Option Addr), ∃ (k34 : Nat), ∃ (k35 : Nat), ∃ (n36 : Int), e30 =
  Ending.returned (Value.tuple { toList := [Value.pointer p32, Value.slice p33 k34 k35, Value.int IntKind.i64 n36] }) ∧ Keep [k1, k26] w29
  w31 ∧ Calls Proofs.Try.prog (40 : Nat) { toList := [Value.agg { toList := List.take 5 (List.drop 0 (sets [Value.slice none 0 0, Value.slice none 0 0, Value.slice none 0 0, Value.int IntKind.i64 (0 : Int), Value.int IntKind.i64 (0 : Int)] 0 [Value.slice p14 k15 k16, Value.slice p17 k18 k19, Value.slice p20 k21 k22, Value.int IntKind.i64 n23, Value.int IntKind.i64 n24])) }, Value.int IntKind.i64 aFirst, Value.int IntKind.i64 aCount] }
  w31 fun (e37 : Ending) (w38 : World) => ∃ (p39 : Option Addr), ∃ (k40 : Nat), ∃ (k41 : Nat), ∃ (p42 : Option Addr), ∃ (k43 : Nat), ∃ (k44
  : Nat), ∃ (p45 : Option Addr), ∃ (k46 : Nat), ∃ (k47 : Nat), ∃ (n48 : Int), ∃ (n49 : Int), ∃ (n50 : Int), ∃ (n51 : Int), ∃ (p52 : Option
  Addr), ∃ (k53 : Nat), ∃ (k54 : Nat), ∃ (n55 : Int), ∃ (n56 : Int), e37 = Ending.returned (Value.tuple { toList := [Value.agg { toList := [Value.slice p39 k40 k41, Value.slice p42 k43 k44, Value.slice p45 k46 k47, Value.int IntKind.i64 n48, Value.int IntKind.i64 n49] }, Value.agg { toList := [Value.int IntKind.i64 n50, Value.int IntKind.i64 n51, Value.slice p52 k53 k54, Value.int IntKind.i64 n55] }, Value.int IntKind.i64 n56] })
  ∧ Keep [k1, k26] w31 w38 ∧ ∀ (k57 : Nat) (y58 : Bool → World → Prop), (∀ (b59 : Bool) (w60 : World), bcase b59 (R (Ending.returned
  (Value.bool false)) w60) (∃ (y61 : Nat → Option Addr → Int → Option Addr → Int → Int → Option Addr → Nat → Nat → Option Addr → Nat → Nat →
  Option Addr → Nat → Nat → Int → Int → Int → Int → Option Addr → Nat → Nat → Int → World → Prop), ∃ (k62 : Nat), y61 k62 p10 n36 p32 n56 (0
  : Int) p39 k40 k41 p42 k43 k44 p45 k46 k47 n48 n49 n50 n51 p52 k53 k54 n55 w60 ∧ ∀ (k63 : Nat) (p64 : Option Addr) (n65 : Int) (p66 :
  Option Addr) (n67 n68 : Int) (p69 : Option Addr) (k70 k71 : Nat) (p72 : Option Addr) (k73 k74 : Nat) (p75 : Option Addr) (k76 k77 : Nat)
  (n78 n79 n80 n81 : Int) (p82 : Option Addr) (k83 k84 : Nat) (n85 : Int) (w86 : World), y61 k63 p64 n65 p66 n67 n68 p69 k70 k71 p72 k73 k74
  p75 k76 k77 n78 n79 n80 n81 p82 k83 k84 n85 w86 → ∀ (y88 : Bool → World → Prop), (∀ (b89 : Bool) (w90 : World), bcase b89 (∃ (ad91 :
  Addr), scriptA = some ad91 ∧ ((0 : Int) ≤ n68 ∧ n68 < (scriptL : Int)) ∧ ∃ (n92 : Int), ∃ (n93 : Int), ∃ (n94 : Int), ∃ (p95 : Option
  Addr), ∃ (k96 : Nat), ∃ (k97 : Nat), ∃ (p98 : Option Addr), ∃ (k99 : Nat), ∃ (k100 : Nat), (World.cell? w90 (Addr.add (Addr.add ad91
  (Int.toNat n68 * 5)) 0) = some (Value.int IntKind.i64 n92) ∧ World.cell? w90 (Addr.add (Addr.add ad91 (Int.toNat n68 * 5)) 1) = some
  (Value.int IntKind.i64 n93) ∧ World.cell? w90 (Addr.add (Addr.add ad91 (Int.toNat n68 * nat_lit 5)) 2) = some (Value.int IntKind.i64 n94)
  ∧ World.cell? w90 (Addr.add (Addr.add ad91 (Int.toNat n68 * nat_lit 5)) (nat_lit 3)) = some (Value.slice p95 k96 k97) ∧ World.cell? w90
  (Addr.add (Addr.add ad91 (Int.toNat n68 * nat_lit 5)) (nat_lit 4)) = some (Value.slice p98 k99 k100) ∧ True) ∧ ∀ (k101 : Nat) (y102 :
  Option Addr → Int → Option Addr → Int → Option Addr → Nat → Nat → Option Addr → Nat → Nat → Option Addr → Nat → Nat → Int → Int → Int →
  Int → Option Addr → Nat → Nat → Int → World → Prop), (∀ (p103 : Option Addr) (n104 : Int) (p105 : Option Addr) (n106 : Int) (p107 : Option
  Addr) (k108 k109 : Nat) (p110 : Option Addr) (k111 k112 : Nat) (p113 : Option Addr) (k114 k115 : Nat) (n116 n117 n118 n119 : Int) (p120 :
  Option Addr) (k121 k122 : Nat) (n123 : Int) (w124 : World), (∀ (y125 : Bool → World → Prop), (∀ (b126 : Bool) (w127 : World), bcase b126
  (R (Ending.returned (Value.bool false)) w127) (∃ (k128 : Nat), k128 < k63 ∧ y61 k128 p103 n104 p105 n106 (IntKind.wrap IntKind.i64 (n68 +
  (1 : Int))) p107 k108 k109 p110 k111 k112 p113 k114 k115 n116 n117 n118 n119 p120 k121 k122 n123 w127) → y125 b126 w127) → bcase (!decide
  (n104 = n106)) (∀ (w131 : World), Step w124 w131 [] [] → y125 true w131) (∀ (w133 : World), Step w124 w133 [] [] → Calls Proofs.Try.prog
  (32 : Nat) { toList := [Value.pointer p103, Value.agg { toList := [Value.slice p107 k108 k109, Value.slice p110 k111 k112, Value.slice p113 k114 k115, Value.int IntKind.i64 n116, Value.int IntKind.i64 n117] }] }
  w133 fun (e135 : Ending) (w136 : World) => ∃ (b137 : Bool), e135 = Ending.returned (Value.bool b137) ∧ Keep [k1, k26, k57] w133 w136 ∧
  bcase (!b137) (y125 true w136) (Calls Proofs.Try.prog (37 : Nat) { toList := [Value.pointer p105] } w136 fun (e138 : Ending) (w139 :
  World) => ∃ (n140 : Int), e138 = Ending.returned (Value.int IntKind.i64 n140) ∧ Keep [k1, k26, k57] w136 w139 ∧ bcase (!decide (n140 =
  n123)) (y125 true w139) (Calls Proofs.Try.prog (36 : Nat) { toList := [Value.pointer p105] } w139 fun (e141 : Ending) (w142 : World) => ∃
  (n143 : Int), e141 = Ending.returned (Value.int IntKind.i64 n143) ∧ Keep [k1, k26, k57] w139 w142 ∧ Calls Proofs.Try.prog (47 : Nat) { toList := [Value.agg { toList := [Value.int IntKind.i64 n118, Value.int IntKind.i64 n119, Value.slice p120 k121 k122, Value.int IntKind.i64 n123] }] }
  w142 fun (e144 : Ending) (w145 : World) => ∃ (n146 : Int), e144 = Ending.returned (Value.int IntKind.i64 n146) ∧ Keep [k1, k26, k57] w142
  w145 ∧ y125 (!decide (n143 = n146)) w145)))) → y102 p103 n104 p105 n106 p107 k108 k109 p110 k111 k112 p113 k114 k115 n116 n117 n118 n119
  p120 k121 k122 n123 w124) → bcase (decide (n92 = (1 : Int))) (∀ (k149 : Nat) (w150 : World), Step w90 w150 [] [k149, k101] → Blk w150 k149
  (reps [Value.int IntKind.u8 (0 : Int)] (nat_lit 0)) → ∃ (l153 : List Value), List.length l153 = k96 * nat_lit 1 ∧ Row w150 p95 l153 ∧
  appendP true [] [] [k1, k26, k57, k101] w150 (some { block := k149, off := nat_lit 0 }) (nat_lit 0) (nat_lit 0) k96 l153 (nat_lit 1)
  (nat_lit 1) [Value.int IntKind.u8 (0 : Int)] fun (w154 : World) (p155 : Option Addr) (k156 k157 : Nat) => Calls Proofs.Try.prog (35 : Nat)
  { toList := [Value.pointer p66, Value.slice p155 k156 k157] } w154 fun (e158 : Ending) (w159 : World) => ∃ (n160 : Int), e158 =
  Ending.returned (Value.int IntKind.i64 n160) ∧ Keep [k1, k26, k57, k101] w154 w159 ∧ ∃ (l161 : List UInt8), List.length l161 = k96 ∧ (∀
  (k162 : Nat), k162 < k96 → ∃ (ad164 : Addr), p95 = some ad164 ∧ World.cell? w159 (Addr.add ad164 k162) = some (Value.int IntKind.u8
  ((UInt8.toNat (List.getD l161 k162 (0 : UInt8))) : Int))) ∧ Calls Proofs.Try.prog (42 : Nat) { toList := [Value.agg { toList := [Value.slice p69 k70 k71, Value.slice p72 k73 k74, Value.slice p75 k76 k77, Value.int IntKind.i64 n78, Value.int IntKind.i64 n79] }, Value.agg { toList := [Value.int IntKind.i64 n80, Value.int IntKind.i64 n81, Value.slice p82 k83 k84, Value.int IntKind.i64 n85] }, Value.string (ByteArray.mk (Array.mk l161))] }
  w159 fun (e165 : Ending) (w166 : World) => ∃ (p167 : Option Addr), ∃ (k168 : Nat), ∃ (k169 : Nat), ∃ (p170 : Option Addr), ∃ (k171 : Nat),
  ∃ (k172 : Nat), ∃ (p173 : Option Addr), ∃ (k174 : Nat), ∃ (k175 : Nat), ∃ (n176 : Int), ∃ (n177 : Int), ∃ (n178 : Int), ∃ (n179 : Int), ∃
  (p180 : Option Addr), ∃ (k181 : Nat), ∃ (k182 : Nat), ∃ (n183 : Int), ∃ (n184 : Int), e165 = Ending.returned (Value.tuple { toList := [Value.agg { toList := [Value.slice p167 k168 k169, Value.slice p170 k171 k172, Value.slice p173 k174 k175, Value.int IntKind.i64 n176, Value.int IntKind.i64 n177] }, Value.agg { toList := [Value.int IntKind.i64 n178, Value.int IntKind.i64 n179, Value.slice p180 k181 k182, Value.int IntKind.i64 n183] }, Value.int IntKind.i64 n184] })
  ∧ Keep [k1, k26, k57, k101] w159 w166 ∧ ∃ (l185 : List UInt8), List.length l185 = k156 ∧ (∀ (k186 : Nat), k186 < k156 → ∃ (ad188 : Addr),
  p155 = some ad188 ∧ World.cell? w166 (Addr.add ad188 k186) = some (Value.int IntKind.u8 ((UInt8.toNat (List.getD l185 k186 (0 : UInt8))) :
  Int))) ∧ (nat_lit 0 < k156 → ∀ (k190 : Nat), Option.map (fun (x : Addr) => Addr.block x) p155 = some k190 → ¬k190 ∈ [k57, k26]) ∧ ∃ (l192
  : List UInt8), List.length l192 = k96 ∧ (∀ (k193 : Nat), k193 < k96 → ∃ (ad195 : Addr), p95 = some ad195 ∧ World.cell? w166 (Addr.add
  ad195 k193) = some (Value.int IntKind.u8 ((UInt8.toNat (List.getD l192 k193 (0 : UInt8))) : Int))) ∧ (nat_lit 0 < k96 → ∀ (k197 : Nat),
  Option.map (fun (x : Addr) => Addr.block x) p95 = some k197 → ¬k197 ∈ [k57, k26]) ∧ bcase (!decide ((ByteArray.mk (Array.mk l185)) =
  (ByteArray.mk (Array.mk l192)))) (∀ (w199 : World), Step w166 w199 [k57, k26] [] → R (Ending.returned (Value.bool false)) w199) (∀ (w201 :
  World), Step w166 w201 [k57, k26] [] → y102 p64 n160 p66 n184 p167 k168 k169 p170 k171 k172 p173 k174 k175 n176 n177 n178 n179 p180 k181
  k182 n183 w201)) (bcase (decide (n92 = (2 : Int))) (∀ (w203 : World), Step w90 w203 [] [k101] → Calls Proofs.Try.prog (43 : Nat) { toList := [Value.pointer p66, Value.int IntKind.i64 n93] }
  w203 fun (e205 : Ending) (w206 : World) => ∃ (n207 : Int), e205 = Ending.returned (Value.int IntKind.i64 n207) ∧ Keep [k1, k26, k57, k101]
  w203 w206 ∧ Calls Proofs.Try.prog (44 : Nat) { toList := [Value.agg { toList := [Value.slice p69 k70 k71, Value.slice p72 k73 k74, Value.slice p75 k76 k77, Value.int IntKind.i64 n78, Value.int IntKind.i64 n79] }, Value.agg { toList := [Value.int IntKind.i64 n80, Value.int IntKind.i64 n81, Value.slice p82 k83 k84, Value.int IntKind.i64 n85] }, Value.int IntKind.i64 n93] }
  w206 fun (e208 : Ending) (w209 : World) => ∃ (p210 : Option Addr), ∃ (k211 : Nat), ∃ (k212 : Nat), ∃ (p213 : Option Addr), ∃ (k214 : Nat),
  ∃ (k215 : Nat), ∃ (p216 : Option Addr), ∃ (k217 : Nat), ∃ (k218 : Nat), ∃ (n219 : Int), ∃ (n220 : Int), ∃ (n221 : Int), ∃ (n222 : Int), ∃
  (p223 : Option Addr), ∃ (k224 : Nat), ∃ (k225 : Nat), ∃ (n226 : Int), ∃ (n227 : Int), e208 = Ending.returned (Value.tuple { toList := [Value.agg { toList := [Value.slice p210 k211 k212, Value.slice p213 k214 k215, Value.slice p216 k217 k218, Value.int IntKind.i64 n219, Value.int IntKind.i64 n220] }, Value.agg { toList := [Value.int IntKind.i64 n221, Value.int IntKind.i64 n222, Value.slice p223 k224 k225, Value.int IntKind.i64 n226] }, Value.int IntKind.i64 n227] })
  ∧ Keep [k1, k26, k57, k101] w206 w209 ∧ ∀ (w228 : World), Step w209 w228 [k57, k26] [] → y102 p64 n207 p66 n227 p210 k211 k212 p213 k214
  k215 p216 k217 k218 n219 n220 n221 n222 p223 k224 k225 n226 w228) (bcase (decide (n92 = (3 : Int))) (∀ (w230 : World), Step w90 w230 []
  [k101] → Calls Proofs.Try.prog (29 : Nat) { toList := [Value.pointer p64, Value.int IntKind.i64 n93] } w230 fun (e232 : Ending) (w233 :
  World) => ∃ (n234 : Int), e232 = Ending.returned (Value.int IntKind.i64 n234) ∧ Keep [k1, k26, k57, k101] w230 w233 ∧ Calls
  Proofs.Try.prog (45 : Nat) { toList := [Value.agg { toList := [Value.slice p69 k70 k71, Value.slice p72 k73 k74, Value.slice p75 k76 k77, Value.int IntKind.i64 n78, Value.int IntKind.i64 n79] }, Value.int IntKind.i64 n93] }
  w233 fun (e235 : Ending) (w236 : World) => ∃ (p237 : Option Addr), ∃ (k238 : Nat), ∃ (k239 : Nat), ∃ (p240 : Option Addr), ∃ (k241 : Nat),
  ∃ (k242 : Nat), ∃ (p243 : Option Addr), ∃ (k244 : Nat), ∃ (k245 : Nat), ∃ (n246 : Int), ∃ (n247 : Int), ∃ (n248 : Int), e235 =
  Ending.returned (Value.tuple { toList := [Value.agg { toList := [Value.slice p237 k238 k239, Value.slice p240 k241 k242, Value.slice p243 k244 k245, Value.int IntKind.i64 n246, Value.int IntKind.i64 n247] }, Value.int IntKind.i64 n248] })
  ∧ Keep [k1, k26, k57, k101] w233 w236 ∧ ∀ (w249 : World), Step w236 w249 [k26] [] → y102 p64 n234 p66 n248 p237 k238 k239 p240 k241 k242
  p243 k244 k245 n246 n247 n80 n81 p82 k83 k84 n85 w249) (∀ (y251 : Bool → World → Prop), (∀ (b252 : Bool) (w253 : World), bcase b252 (∀
  (y254 : Option Addr → Nat → Nat → Option Addr → Nat → Nat → Option Addr → Nat → Nat → Int → Int → World → Prop), (∀ (p255 : Option Addr)
  (k256 k257 : Nat) (p258 : Option Addr) (k259 k260 : Nat) (p261 : Option Addr) (k262 k263 : Nat) (n264 n265 : Int) (w266 : World), ((∀
  (w267 : World), Step w266 w267 [] [] → Calls Proofs.Try.prog (28 : Nat) { toList := [Value.pointer p64, Value.slice p98 k99 k100, Value.int IntKind.i64 n93, Value.int IntKind.i64 n94] }
  w267 fun (e269 : Ending) (w270 : World) => ∃ (p271 : Option Addr), e269 = Ending.returned (Value.pointer p271) ∧ Keep [k1, k26, k57, k101]
  w267 w270 ∧ Calls Proofs.Try.prog (46 : Nat) { toList := [Value.agg { toList := [Value.slice p255 k256 k257, Value.slice p258 k259 k260, Value.slice p261 k262 k263, Value.int IntKind.i64 n264, Value.int IntKind.i64 n265] }, Value.slice p98 k99 k100, Value.int IntKind.i64 n93, Value.int IntKind.i64 n94] }
  w270 fun (e272 : Ending) (w273 : World) => ∃ (p274 : Option Addr), ∃ (k275 : Nat), ∃ (k276 : Nat), ∃ (p277 : Option Addr), ∃ (k278 : Nat),
  ∃ (k279 : Nat), ∃ (p280 : Option Addr), ∃ (k281 : Nat), ∃ (k282 : Nat), ∃ (n283 : Int), ∃ (n284 : Int), e272 = Ending.returned (Value.agg
  { toList := [Value.slice p274 k275 k276, Value.slice p277 k278 k279, Value.slice p280 k281 k282, Value.int IntKind.i64 n283, Value.int IntKind.i64 n284] })
  ∧ Keep [k1, k26, k57, k101] w270 w273 ∧ bcase (Option.isNone p271) (∀ (w285 : World), Step w273 w285 [k26] [] → R (Ending.returned
  (Value.bool false)) w285) (∀ (w287 : World), Step w273 w287 [k26] [] → Calls Proofs.Try.prog (34 : Nat) { toList := [Value.pointer p271, Value.int IntKind.i64 aFirst, Value.int IntKind.i64 aCount] }
  w287 fun (e289 : Ending) (w290 : World) => ∃ (p291 : Option Addr), ∃ (p292 : Option Addr), ∃ (k293 : Nat), ∃ (k294 : Nat), ∃ (n295 : Int),
  e289 = Ending.returned (Value.tuple { toList := [Value.pointer p291, Value.slice p292 k293 k294, Value.int IntKind.i64 n295] }) ∧ Keep
  [k1, k26, k57, k101] w287 w290 ∧ Calls Proofs.Try.prog (40 : Nat) { toList := [Value.agg { toList := List.take (nat_lit 5) (List.drop (nat_lit 0) (sets [Value.slice p255 k256 k257, Value.slice p258 k259 k260, Value.slice p261 k262 k263, Value.int IntKind.i64 n264, Value.int IntKind.i64 n265] (nat_lit 0) [Value.slice p274 k275 k276, Value.slice p277 k278 k279, Value.slice p280 k281 k282, Value.int IntKind.i64 n283, Value.int IntKind.i64 n284])) }, Value.int IntKind.i64 aFirst, Value.int IntKind.i64 aCount] }
  w290 fun (e296 : Ending) (w297 : World) => ∃ (p298 : Option Addr), ∃ (k299 : Nat), ∃ (k300 : Nat), ∃ (p301 : Option Addr), ∃ (k302 : Nat),
  ∃ (k303 : Nat), ∃ (p304 : Option Addr), ∃ (k305 : Nat), ∃ (k306 : Nat), ∃ (n307 : Int), ∃ (n308 : Int), ∃ (n309 : Int), ∃ (n310 : Int), ∃
  (p311 : Option Addr), ∃ (k312 : Nat), ∃ (k313 : Nat), ∃ (n314 : Int), ∃ (n315 : Int), e296 = Ending.returned (Value.tuple { toList := [Value.agg { toList := [Value.slice p298 k299 k300, Value.slice p301 k302 k303, Value.slice p304 k305 k306, Value.int IntKind.i64 n307, Value.int IntKind.i64 n308] }, Value.agg { toList := [Value.int IntKind.i64 n309, Value.int IntKind.i64 n310, Value.slice p311 k312 k313, Value.int IntKind.i64 n314] }, Value.int IntKind.i64 n315] })
  ∧ Keep [k1, k26, k57, k101] w290 w297 ∧ ∀ (y316 : Bool → World → Prop), (∀ (b317 : Bool) (w318 : World), bcase b317 (R (Ending.returned
  (Value.bool false)) w318) (y102 p271 n295 p291 n315 p298 k299 k300 p301 k302 k303 p304 k305 k306 n307 n308 n309 n310 p311 k312 k313 n314
  w318) → y316 b317 w318) → bcase (!decide (n295 = n315)) (∀ (w321 : World), Step w297 w321 [k57, k26] [] → y316 true w321) (bcase
  (Option.isNone p291) (∀ (w323 : World), Step w297 w323 [k57, k26] [] → y316 true w323) (∀ (w325 : World), Step w297 w325 [k57, k26] [] →
  Calls Proofs.Try.prog (41 : Nat) { toList := [Value.slice p292 k293 k294, Value.slice p311 k312 k313] } w325 fun (e327 : Ending) (w328 :
  World) => ∃ (b329 : Bool), e327 = Ending.returned (Value.bool b329) ∧ Keep [k1, k26, k57, k101] w325 w328 ∧ y316 (!b329) w328)))) ∧ ∀
  (w330 : World), Step w266 w330 [] [] → Calls Proofs.Try.prog (28 : Nat) { toList := [Value.pointer p64, Value.slice p98 k99 k100, Value.int IntKind.i64 n93, Value.int IntKind.i64 n94] }
  w330 fun (e332 : Ending) (w333 : World) => ∃ (p334 : Option Addr), e332 = Ending.returned (Value.pointer p334) ∧ Keep [k1, k26, k57, k101]
  w330 w333 ∧ Calls Proofs.Try.prog (46 : Nat) { toList := [Value.agg { toList := [Value.slice p255 k256 k257, Value.slice p258 k259 k260, Value.slice p261 k262 k263, Value.int IntKind.i64 n264, Value.int IntKind.i64 n265] }, Value.slice p98 k99 k100, Value.int IntKind.i64 n93, Value.int IntKind.i64 n94] }
  w333 fun (e335 : Ending) (w336 : World) => ∃ (p337 : Option Addr), ∃ (k338 : Nat), ∃ (k339 : Nat), ∃ (p340 : Option Addr), ∃ (k341 : Nat),
  ∃ (k342 : Nat), ∃ (p343 : Option Addr), ∃ (k344 : Nat), ∃ (k345 : Nat), ∃ (n346 : Int), ∃ (n347 : Int), e335 = Ending.returned (Value.agg
  { toList := [Value.slice p337 k338 k339, Value.slice p340 k341 k342, Value.slice p343 k344 k345, Value.int IntKind.i64 n346, Value.int IntKind.i64 n347] })
  ∧ Keep [k1, k26, k57, k101] w333 w336 ∧ bcase (Option.isNone p334) (∀ (w348 : World), Step w336 w348 [k26] [] → R (Ending.returned
  (Value.bool false)) w348) (∀ (w350 : World), Step w336 w350 [k26] [] → Calls Proofs.Try.prog (34 : Nat) { toList := [Value.pointer p334, Value.int IntKind.i64 aFirst, Value.int IntKind.i64 aCount] }
  w350 fun (e352 : Ending) (w353 : World) => ∃ (p354 : Option Addr), ∃ (p355 : Option Addr), ∃ (k356 : Nat), ∃ (k357 : Nat), ∃ (n358 : Int),
  e352 = Ending.returned (Value.tuple { toList := [Value.pointer p354, Value.slice p355 k356 k357, Value.int IntKind.i64 n358] }) ∧ Keep
  [k1, k26, k57, k101] w350 w353 ∧ Calls Proofs.Try.prog (40 : Nat) { toList := [Value.agg { toList := List.take (nat_lit 5) (List.drop (nat_lit 0) (sets [Value.slice p255 k256 k257, Value.slice p258 k259 k260, Value.slice p261 k262 k263, Value.int IntKind.i64 n264, Value.int IntKind.i64 n265] (nat_lit 0) [Value.slice p337 k338 k339, Value.slice p340 k341 k342, Value.slice p343 k344 k345, Value.int IntKind.i64 n346, Value.int IntKind.i64 n347])) }, Value.int IntKind.i64 aFirst, Value.int IntKind.i64 aCount] }
  w353 fun (e359 : Ending) (w360 : World) => ∃ (p361 : Option Addr), ∃ (k362 : Nat), ∃ (k363 : Nat), ∃ (p364 : Option Addr), ∃ (k365 : Nat),
  ∃ (k366 : Nat), ∃ (p367 : Option Addr), ∃ (k368 : Nat), ∃ (k369 : Nat), ∃ (n370 : Int), ∃ (n371 : Int), ∃ (n372 : Int), ∃ (n373 : Int), ∃
  (p374 : Option Addr), ∃ (k375 : Nat), ∃ (k376 : Nat), ∃ (n377 : Int), ∃ (n378 : Int), e359 = Ending.returned (Value.tuple { toList := [Value.agg { toList := [Value.slice p361 k362 k363, Value.slice p364 k365 k366, Value.slice p367 k368 k369, Value.int IntKind.i64 n370, Value.int IntKind.i64 n371] }, Value.agg { toList := [Value.int IntKind.i64 n372, Value.int IntKind.i64 n373, Value.slice p374 k375 k376, Value.int IntKind.i64 n377] }, Value.int IntKind.i64 n378] })
  ∧ Keep [k1, k26, k57, k101] w353 w360 ∧ ∀ (y379 : Bool → World → Prop), (∀ (b380 : Bool) (w381 : World), bcase b380 (R (Ending.returned
  (Value.bool false)) w381) (y102 p334 n358 p354 n378 p361 k362 k363 p364 k365 k366 p367 k368 k369 n370 n371 n372 n373 p374 k375 k376 n377
  w381) → y379 b380 w381) → bcase (!decide (n358 = n378)) (∀ (w384 : World), Step w360 w384 [k57, k26] [] → y379 true w384) (bcase
  (Option.isNone p354) (∀ (w386 : World), Step w360 w386 [k57, k26] [] → y379 true w386) (∀ (w388 : World), Step w360 w388 [k57, k26] [] →
  Calls Proofs.Try.prog (41 : Nat) { toList := [Value.slice p355 k356 k357, Value.slice p374 k375 k376] } w388 fun (e390 : Ending) (w391 :
  World) => ∃ (b392 : Bool), e390 = Ending.returned (Value.bool b392) ∧ Keep [k1, k26, k57, k101] w388 w391 ∧ y379 (!b392) w391)))) → y254
  p255 k256 k257 p258 k259 k260 p261 k262 k263 n264 n265 w266) → bcase (decide (n92 = (5 : Int))) (∀ (w395 : World), Step w253 w395 [] [] →
  Calls Proofs.Try.prog (24 : Nat) { toList := [Value.slice p95 k96 k97] } w395 fun (e397 : Ending) (w398 : World) => ∃ (p399 : Option
  Addr), ∃ (k400 : Nat), ∃ (k401 : Nat), e397 = Ending.returned (Value.slice p399 k400 k401) ∧ Keep [k1, k26, k57, k101] w395 w398 ∧ Calls
  Proofs.Try.prog (23 : Nat) { toList := [Value.pointer p64, Value.int IntKind.i64 n93, Value.slice p399 k400 k401] } w398 fun (e402 :
  Ending) (w403 : World) => ∃ (n404 : Int), e402 = Ending.returned (Value.int IntKind.i64 n404) ∧ Keep [k1, k26, k57, k101] w398 w403 ∧ (∀
  (w405 : World), Step w403 w405 [] [] → Calls Proofs.Try.prog (24 : Nat) { toList := [Value.slice p95 k96 k97] } w405 fun (e407 : Ending)
  (w408 : World) => ∃ (p409 : Option Addr), ∃ (k410 : Nat), ∃ (k411 : Nat), e407 = Ending.returned (Value.slice p409 k410 k411) ∧ Keep [k1,
  k26, k57, k101] w405 w408 ∧ ∃ (l412 : List UInt8), List.length l412 = k410 ∧ (∀ (k413 : Nat), k413 < k410 → ∃ (ad415 : Addr), p409 = some
  ad415 ∧ World.cell? w408 (Addr.add ad415 k413) = some (Value.int IntKind.u8 ((UInt8.toNat (List.getD l412 k413 (0 : UInt8))) : Int))) ∧
  Calls Proofs.Try.prog (38 : Nat) { toList := [Value.agg { toList := [Value.slice p69 k70 k71, Value.slice p72 k73 k74, Value.slice p75 k76 k77, Value.int IntKind.i64 n78, Value.int IntKind.i64 n79] }, Value.int IntKind.i64 n93, Value.string (ByteArray.mk (Array.mk l412))] }
  w408 fun (e416 : Ending) (w417 : World) => ∃ (p418 : Option Addr), ∃ (k419 : Nat), ∃ (k420 : Nat), ∃ (p421 : Option Addr), ∃ (k422 : Nat),
  ∃ (k423 : Nat), ∃ (p424 : Option Addr), ∃ (k425 : Nat), ∃ (k426 : Nat), ∃ (n427 : Int), ∃ (n428 : Int), ∃ (n429 : Int), e416 =
  Ending.returned (Value.tuple { toList := [Value.agg { toList := [Value.slice p418 k419 k420, Value.slice p421 k422 k423, Value.slice p424 k425 k426, Value.int IntKind.i64 n427, Value.int IntKind.i64 n428] }, Value.int IntKind.i64 n429] })
  ∧ Keep [k1, k26, k57, k101] w408 w417 ∧ bcase (!decide (n404 = n429)) (∀ (w430 : World), Step w417 w430 [k26] [] → R (Ending.returned
  (Value.bool false)) w430) (∀ (w432 : World), Step w417 w432 [k26] [] → y254 p418 k419 k420 p421 k422 k423 p424 k425 k426 n427 n428 w432))
  ∧ ∀ (w434 : World), Step w403 w434 [] [] → Calls Proofs.Try.prog (24 : Nat) { toList := [Value.slice p95 k96 k97] } w434 fun (e436 :
  Ending) (w437 : World) => ∃ (p438 : Option Addr), ∃ (k439 : Nat), ∃ (k440 : Nat), e436 = Ending.returned (Value.slice p438 k439 k440) ∧
  Keep [k1, k26, k57, k101] w434 w437 ∧ ∃ (l441 : List UInt8), List.length l441 = k439 ∧ (∀ (k442 : Nat), k442 < k439 → ∃ (ad444 : Addr),
  p438 = some ad444 ∧ World.cell? w437 (Addr.add ad444 k442) = some (Value.int IntKind.u8 ((UInt8.toNat (List.getD l441 k442 (0 : UInt8))) :
  Int))) ∧ Calls Proofs.Try.prog (38 : Nat) { toList := [Value.agg { toList := [Value.slice p69 k70 k71, Value.slice p72 k73 k74, Value.slice p75 k76 k77, Value.int IntKind.i64 n78, Value.int IntKind.i64 n79] }, Value.int IntKind.i64 n93, Value.string (ByteArray.mk (Array.mk l441))] }
  w437 fun (e445 : Ending) (w446 : World) => ∃ (p447 : Option Addr), ∃ (k448 : Nat), ∃ (k449 : Nat), ∃ (p450 : Option Addr), ∃ (k451 : Nat),
  ∃ (k452 : Nat), ∃ (p453 : Option Addr), ∃ (k454 : Nat), ∃ (k455 : Nat), ∃ (n456 : Int), ∃ (n457 : Int), ∃ (n458 : Int), e445 =
  Ending.returned (Value.tuple { toList := [Value.agg { toList := [Value.slice p447 k448 k449, Value.slice p450 k451 k452, Value.slice p453 k454 k455, Value.int IntKind.i64 n456, Value.int IntKind.i64 n457] }, Value.int IntKind.i64 n458] })
  ∧ Keep [k1, k26, k57, k101] w437 w446 ∧ bcase (!decide (n404 = n458)) (∀ (w459 : World), Step w446 w459 [k26] [] → R (Ending.returned
  (Value.bool false)) w459) (∀ (w461 : World), Step w446 w461 [k26] [] → y254 p447 k448 k449 p450 k451 k452 p453 k454 k455 n456 n457 w461))
  (y254 p69 k70 k71 p72 k73 k74 p75 k76 k77 n78 n79 w253)) (y102 p64 n65 p66 n67 p69 k70 k71 p72 k73 k74 p75 k76 k77 n78 n79 n80 n81 p82 k83
  k84 n85 w253) → y251 b252 w253) → bcase (decide (n92 = (4 : Int))) (∀ (w465 : World), Step w90 w465 [] [k101] → y251 true w465) (∀ (w467 :
  World), Step w90 w467 [] [k101] → y251 (decide (n92 = (5 : Int))) w467))))) (R (Ending.returned (Value.bool true)) w90) → y88 b89 w90) →
  bcase (!Option.isNone p66) (bcase (decide (n68 < (scriptL : Int))) (y88 (decide (n68 < (40 : Int))) w86) (y88 false w86)) (y88 false w86))
  → y58 b59 w60) → bcase (!decide (n36 = n56)) (∀ (w473 : World), Step w38 w473 [k26] [k57] → y58 true w473) (bcase (!Option.isNone p32 ==
  !decide (n56 = (0 : Int))) (∀ (w475 : World), Step w38 w475 [k26] [k57] → y58 true w475) (∀ (w477 : World), Step w38 w477 [k26] [k57] →
  y58 (!decide ((k34 : Int) = (0 : Int))) w477))) → y27 b28 w29) → bcase (!decide (n11 = (0 : Int))) (∀ (w481 : World), Step w13 w481 []
  [k26] → y27 true w481) (∀ (w483 : World), Step w13 w483 [] [k26] → y27 (Option.isNone p10) w483)) → y2 b3 w4) → ∀ (w487 : World), Step w
  w487 [] [k1] → Calls Proofs.Try.prog (33 : Nat) { toList := [] } w487 fun (e489 : Ending) (w490 : World) => ∃ (b491 : Bool), e489 =
  Ending.returned (Value.bool b491) ∧ Keep [k1] w487 w490 ∧ bcase (!b491) (y2 true w490) (bcase (decide (aSize < (1 : Int))) (y2 true w490)
  (y2 (decide ((40 : Int) < aSize)) w490))

theorem rhizomelaw04_LogPlays.link {aSize : Int} {aFirst : Int} {aCount : Int} {scriptA : Option Addr} {scriptL scriptC : Nat} {R : Ending → World → Prop} {w : World} (h : rhizomelaw04_LogPlays.vc aSize aFirst aCount scriptA scriptL scriptC R w) : Calls Go.Proofs.Try.prog 13 #[(.agg #[.int .i64 aSize, .int .i64 aFirst, .int .i64 aCount] : Value), .slice scriptA scriptL scriptC] w R :=
  calls_of pf (fn := Go.Proofs.Try.f13) (ann := .s (.n) (.s (.j ⟨[], [], [0], [(27, .l (.b))], []⟩ (.n) (.c (.s (.n) (.n)) (.n))) (.s (.n) (.s (.n) (.s (.j ⟨[], [], [0, 1], [(46, .l (.b))], []⟩ (.n) (.c (.s (.n) (.n)) (.n))) (.s (.n) (.s (.n) (.s (.j ⟨[], [], [0, 1, 2], [(81, .l (.b))], []⟩ (.n) (.c (.s (.n) (.n)) (.n))) (.s (.s (.n) (.b (.l ⟨[], [], [0], [(5, .l (.p)), (6, .l (.i .i64)), (9, .l (.p)), (12, .l (.i .i64)), (13, .l (.i .i64))], [(1, [.sl, .sl, .sl, .i .i64, .i .i64]), (2, [.i .i64, .i .i64, .sl, .i .i64])]⟩ (.s (.j ⟨[], [], [0, 1, 2], [(93, .l (.b))], []⟩ (.n) (.c (.n) (.n))) (.s (.b (.s (.n) (.j ⟨[], [], [0], [(5, .l (.p)), (6, .l (.i .i64)), (9, .l (.p)), (12, .l (.i .i64))], [(1, [.sl, .sl, .sl, .i .i64, .i .i64]), (2, [.i .i64, .i .i64, .sl, .i .i64])]⟩ (.s (.n) (.b (.s (.n) (.c (.s (.n) (.s (.n) (.s (.n) (.s (.n) (.c (.s (.n) (.n)) (.n)))))) (.s (.n) (.c (.s (.n) (.n)) (.s (.n) (.c (.s (.n) (.n)) (.j ⟨[], [], [0, 1, 2, 3], [(155, .l (.b))], []⟩ (.s (.n) (.c (.n) (.n))) (.c (.j ⟨[], [], [0, 2, 3], [], [(1, [.sl, .sl, .sl, .i .i64, .i .i64])]⟩ (.s (.n) (.c (.s (.d [0, 1, 2, 3]) (.s (.d [0, 2, 3]) (.s (.n) (.c (.s (.n) (.n)) (.n))))) (.n))) (.s (.d [0, 2, 3]) (.s (.s (.n) (.c (.s (.n) (.n)) (.n))) (.s (.n) (.s (.n) (.j ⟨[], [], [0, 1, 2], [(233, .l (.b))], []⟩ (.n) (.c (.s (.n) (.n)) (.n)))))))) (.n))))))))))) (.j ⟨[], [], [0, 1, 2], [(256, .l (.b))], []⟩ (.d [0, 1, 2]) (.c (.s (.n) (.n)) (.n)))))) (.n)))))) (.s (.n) (.n))))))))))) (mp := false) (args := [.v (.agg #[.int .i64 aSize, .int .i64 aFirst, .int .i64 aCount]), .v (.slice scriptA scriptL scriptC)]) Go.Proofs.Try.func13 (c := Go.Proofs.Try.f13.body.getD .skip) (by kernel_rfl) (by kernel_rfl) (Eq.mp (by kernel_rfl) h)
theorem rhizomelaw04_LogPlays.body : BodyOk Go.Proofs.Try.prog 13 := ⟨Go.Proofs.Try.f13, Go.Proofs.Try.func13, by kernel_rfl, pf.ng _ _ Go.Proofs.Try.func13⟩

end Go.Proofs.Ytcaamecdhbgknaa.VC
