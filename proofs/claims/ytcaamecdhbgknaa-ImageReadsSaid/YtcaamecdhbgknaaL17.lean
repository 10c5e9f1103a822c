/- What is to be shown of functions' texts, printed by a program of this session's repo; that it gives the functions' contracts is checked by the kernel. -/
import Derived.Test.YtcaamecdhbgknaaProg
import Derived.Test.YtcaamecdhbgknaaPf
namespace Go.Proofs.Ytcaamecdhbgknaa.VC
open Go Go.V
set_option maxRecDepth 1000000
set_option linter.unusedVariables false

/-! ### rhizome/rhizomelaw05.ImageReads: function 17 -/
def rhizomelaw05_ImageReads.vc (aSize : Int) (aFirst : Int) (aCount : Int) (sectorsA : Option Addr) (sectorsL sectorsC : Nat) (headsA :
  Option Addr) (headsL headsC : Nat) (R : Ending → World → Prop) (w : World) : Prop := ∀ (k1 : Nat) (y2 : Bool → World → Prop), (∀ (b3 :
  Bool) (w4 : World), bcase b3 (Calls Proofs.Try.prog (48 : Nat) { toList := [] } w4 fun (e5 : Ending) (w6 : World) => ∃ (b7 : Bool), e5 =
  Ending.returned (Value.bool b7) ∧ Keep [k1] w4 w6 ∧ R (Ending.returned (Value.bool b7)) w6) (Calls Proofs.Try.prog (20 : Nat) { toList := [Value.int IntKind.i64 aSize] }
  w4 fun (e8 : Ending) (w9 : World) => ∃ (p10 : Option Addr), ∃ (n11 : Int), e8 = Ending.returned (Value.tuple { toList := [Value.pointer p10, Value.int IntKind.i64 n11] })
  ∧ Keep [k1] w4 w9 ∧ Calls Proofs.Try.prog (30 : Nat) { toList := [Value.int IntKind.i64 aSize] } w9 fun (e12 : Ending) (w13 : World) => ∃
  (p14 : Option Addr), ∃ (k15 : Nat), ∃ (k16 : Nat), ∃ (p17 : Option Addr), ∃ (k18 : Nat), ∃ (k19 : Nat), ∃ (p20 : Option Addr), ∃ (k21 :
  Nat), ∃ (k22 : Nat), ∃ (n23 : Int), ∃ (n24 : Int), ∃ (n25 : Int), e12 = Ending.returned (Value.tuple { toList := [Value.agg { toList := [Value.slice p14 k15 k16, Value.slice p17 k18 k19, Value.slice p20 k21 k22, Value.int IntKind.i64 n23, Value.int IntKind.i64 n24] }, Value.int IntKind.i64 n25] })
  ∧ Keep [k1] w9 w13 ∧ ∀ (k26 : Nat) (y27 : Bool → World → Prop), (∀ (b28 : Bool) (w29 : World), bcase b28 (R (Ending.returned (Value.bool
  false)) w29) (∃ (y30 : Nat → Int → Option Addr → Nat → Nat → Option Addr → Nat → Nat → Option Addr → Nat → Nat → Int → Int → World →
  Prop), ∃ (k31 : Nat), y30 k31 (0 : Int) p14 k15 k16 p17 k18 k19 p20 k21 k22 n23 n24 w29 ∧ ∀ (k32 : Nat) (n33 : Int) (p34 : Option Addr)
  (k35 k36 : Nat) (p37 : Option Addr) (k38 k39 : Nat) (p40 : Option Addr) (k41 k42 : Nat) (n43 n44 : Int) (w45 : World), y30 k32 n33 p34 k35
  k36 p37 k38 k39 p40 k41 k42 n43 n44 w45 → ∀ (y47 : Bool → World → Prop), (∀ (b48 : Bool) (w49 : World), bcase b48 (∃ (ad50 : Addr),
  sectorsA = some ad50 ∧ ((0 : Int) ≤ n33 ∧ n33 < (sectorsL : Int)) ∧ ∃ (p51 : Option Addr), ∃ (k52 : Nat), ∃ (k53 : Nat), World.cell? w49
  (Addr.add ad50 (Int.toNat n33 * 1)) = some (Value.slice p51 k52 k53) ∧ Calls Proofs.Try.prog (24 : Nat) { toList := [Value.slice p51 k52 k53] }
  w49 fun (e54 : Ending) (w55 : World) => ∃ (p56 : Option Addr), ∃ (k57 : Nat), ∃ (k58 : Nat), e54 = Ending.returned (Value.slice p56 k57
  k58) ∧ Keep [k1, k26] w49 w55 ∧ Calls Proofs.Try.prog (23 : Nat) { toList := [Value.pointer p10, Value.int IntKind.i64 n33, Value.slice p56 k57 k58] }
  w55 fun (e59 : Ending) (w60 : World) => ∃ (n61 : Int), e59 = Ending.returned (Value.int IntKind.i64 n61) ∧ Keep [k1, k26] w55 w60 ∧ ∃
  (ad62 : Addr), sectorsA = some ad62 ∧ ((0 : Int) ≤ n33 ∧ n33 < (sectorsL : Int)) ∧ ∃ (p63 : Option Addr), ∃ (k64 : Nat), ∃ (k65 : Nat),
  World.cell? w60 (Addr.add ad62 (Int.toNat n33 * 1)) = some (Value.slice p63 k64 k65) ∧ (∀ (w66 : World), Step w60 w66 [] [] → Calls
  Proofs.Try.prog (24 : Nat) { toList := [Value.slice p63 k64 k65] } w66 fun (e68 : Ending) (w69 : World) => ∃ (p70 : Option Addr), ∃ (k71 :
  Nat), ∃ (k72 : Nat), e68 = Ending.returned (Value.slice p70 k71 k72) ∧ Keep [k1, k26] w66 w69 ∧ ∃ (l73 : List UInt8), List.length l73 =
  k71 ∧ (∀ (k74 : Nat), k74 < k71 → ∃ (ad76 : Addr), p70 = some ad76 ∧ World.cell? w69 (Addr.add ad76 k74) = some (Value.int IntKind.u8
  ((UInt8.toNat (List.getD l73 k74 (0 : UInt8))) : Int))) ∧ Calls Proofs.Try.prog (38 : Nat) { toList := [Value.agg { toList := [Value.slice p34 k35 k36, Value.slice p37 k38 k39, Value.slice p40 k41 k42, Value.int IntKind.i64 n43, Value.int IntKind.i64 n44] }, Value.int IntKind.i64 n33, Value.string (ByteArray.mk (Array.mk l73))] }
  w69 fun (e77 : Ending) (w78 : World) => ∃ (p79 : Option Addr), ∃ (k80 : Nat), ∃ (k81 : Nat), ∃ (p82 : Option Addr), ∃ (k83 : Nat), ∃ (k84
  : Nat), ∃ (p85 : Option Addr), ∃ (k86 : Nat), ∃ (k87 : Nat), ∃ (n88 : Int), ∃ (n89 : Int), ∃ (n90 : Int), e77 = Ending.returned
  (Value.tuple { toList := [Value.agg { toList := [Value.slice p79 k80 k81, Value.slice p82 k83 k84, Value.slice p85 k86 k87, Value.int IntKind.i64 n88, Value.int IntKind.i64 n89] }, Value.int IntKind.i64 n90] })
  ∧ Keep [k1, k26] w69 w78 ∧ ∃ (k91 : Nat), k91 < k32 ∧ ∀ (w92 : World), Step w78 w92 [k26] [] → y30 k91 (IntKind.wrap IntKind.i64 (n33 + (1
  : Int))) p79 k80 k81 p82 k83 k84 p85 k86 k87 n88 n89 w92) ∧ ∀ (w94 : World), Step w60 w94 [] [] → Calls Proofs.Try.prog (24 : Nat) { toList := [Value.slice p63 k64 k65] }
  w94 fun (e96 : Ending) (w97 : World) => ∃ (p98 : Option Addr), ∃ (k99 : Nat), ∃ (k100 : Nat), e96 = Ending.returned (Value.slice p98 k99
  k100) ∧ Keep [k1, k26] w94 w97 ∧ ∃ (l101 : List UInt8), List.length l101 = k99 ∧ (∀ (k102 : Nat), k102 < k99 → ∃ (ad104 : Addr), p98 =
  some ad104 ∧ World.cell? w97 (Addr.add ad104 k102) = some (Value.int IntKind.u8 ((UInt8.toNat (List.getD l101 k102 (0 : UInt8))) : Int)))
  ∧ Calls Proofs.Try.prog (38 : Nat) { toList := [Value.agg { toList := [Value.slice p34 k35 k36, Value.slice p37 k38 k39, Value.slice p40 k41 k42, Value.int IntKind.i64 n43, Value.int IntKind.i64 n44] }, Value.int IntKind.i64 n33, Value.string (ByteArray.mk (Array.mk l101))] }
  w97 fun (e105 : Ending) (w106 : World) => ∃ (p107 : Option Addr), ∃ (k108 : Nat), ∃ (k109 : Nat), ∃ (p110 : Option Addr), ∃ (k111 : Nat),
  ∃ (k112 : Nat), ∃ (p113 : Option Addr), ∃ (k114 : Nat), ∃ (k115 : Nat), ∃ (n116 : Int), ∃ (n117 : Int), ∃ (n118 : Int), e105 =
  Ending.returned (Value.tuple { toList := [Value.agg { toList := [Value.slice p107 k108 k109, Value.slice p110 k111 k112, Value.slice p113 k114 k115, Value.int IntKind.i64 n116, Value.int IntKind.i64 n117] }, Value.int IntKind.i64 n118] })
  ∧ Keep [k1, k26] w97 w106 ∧ ∃ (k119 : Nat), k119 < k32 ∧ ∀ (w120 : World), Step w106 w120 [k26] [] → y30 k119 (IntKind.wrap IntKind.i64
  (n33 + (1 : Int))) p107 k108 k109 p110 k111 k112 p113 k114 k115 n116 n117 w120) (∃ (y122 : Nat → Int → Option Addr → Nat → Nat → Option
  Addr → Nat → Nat → Option Addr → Nat → Nat → Int → Int → World → Prop), ∃ (k123 : Nat), y122 k123 (0 : Int) p34 k35 k36 p37 k38 k39 p40
  k41 k42 n43 n44 w49 ∧ ∀ (k124 : Nat) (n125 : Int) (p126 : Option Addr) (k127 k128 : Nat) (p129 : Option Addr) (k130 k131 : Nat) (p132 :
  Option Addr) (k133 k134 : Nat) (n135 n136 : Int) (w137 : World), y122 k124 n125 p126 k127 k128 p129 k130 k131 p132 k133 k134 n135 n136
  w137 → ∀ (y139 : Bool → World → Prop), (∀ (b140 : Bool) (w141 : World), bcase b140 (∃ (ad142 : Addr), headsA = some ad142 ∧ ((0 : Int) ≤
  n125 ∧ n125 < (headsL : Int)) ∧ ((0 : Int) ≤ (1 : Int) ∧ (1 : Int) < ((3 : Nat) : Int)) ∧ ∃ (n143 : Int), World.cell? w141 (Addr.add
  (Addr.add ad142 (Int.toNat n125 * 3)) 1) = some (Value.int IntKind.i64 n143) ∧ ∃ (ad144 : Addr), headsA = some ad144 ∧ ((0 : Int) ≤ n125 ∧
  n125 < (headsL : Int)) ∧ ((0 : Int) ≤ (2 : Int) ∧ (2 : Int) < ((3 : Nat) : Int)) ∧ ∃ (n145 : Int), World.cell? w141 (Addr.add (Addr.add
  ad144 (Int.toNat n125 * 3)) 2) = some (Value.int IntKind.i64 n145) ∧ (2147483648 : Int) ≠ (0 : Int) ∧ ∀ (w146 : World), Step w141 w146 []
  [] → Calls Proofs.Try.prog (52 : Nat) { toList := [Value.int IntKind.i64 (bits BinOp.and IntKind.i64 n143 (4611686018427387903 : Int)), Value.int IntKind.i64 (IntKind.wrap IntKind.i64 (Int.tmod (IntKind.wrap IntKind.u64 n145) (2147483648 : Int)))] }
  w146 fun (e148 : Ending) (w149 : World) => ∃ (s150 : ByteArray), e148 = Ending.returned (Value.string s150) ∧ Keep [k1, k26] w146 w149 ∧ ∃
  (ad151 : Addr), headsA = some ad151 ∧ ((0 : Int) ≤ n125 ∧ n125 < (headsL : Int)) ∧ ((0 : Int) ≤ (0 : Int) ∧ (0 : Int) < ((3 : Nat) : Int))
  ∧ ∃ (n152 : Int), World.cell? w149 (Addr.add (Addr.add ad151 (Int.toNat n125 * 3)) 0) = some (Value.int IntKind.i64 n152) ∧ ∀ (w153 :
  World) (k154 k155 : Nat), Step w149 w153 [] [k154] → ByteArray.size s150 ≤ k155 → Blk w153 k154 (byteCells s150 ++ List.replicate (k155 -
  ByteArray.size s150) (Value.int IntKind.u8 (0 : Int))) → Calls Proofs.Try.prog (23 : Nat) { toList := [Value.pointer p10, Value.int IntKind.i64 n152, Value.slice (some { block := k154, off := 0 }) (ByteArray.size s150) k155] }
  w153 fun (e159 : Ending) (w160 : World) => ∃ (n161 : Int), e159 = Ending.returned (Value.int IntKind.i64 n161) ∧ Keep [k1, k26] w153 w160
  ∧ ∃ (ad162 : Addr), headsA = some ad162 ∧ ((0 : Int) ≤ n125 ∧ n125 < (headsL : Int)) ∧ ((0 : Int) ≤ (0 : Int) ∧ (0 : Int) < ((3 : Nat) :
  Int)) ∧ ∃ (n163 : Int), World.cell? w160 (Addr.add (Addr.add ad162 (Int.toNat n125 * 3)) 0) = some (Value.int IntKind.i64 n163) ∧ ∀ (w164
  : World), Step w160 w164 [] [] → Calls Proofs.Try.prog (38 : Nat) { toList := [Value.agg { toList := [Value.slice p126 k127 k128, Value.slice p129 k130 k131, Value.slice p132 k133 k134, Value.int IntKind.i64 n135, Value.int IntKind.i64 n136] }, Value.int IntKind.i64 n163, Value.string s150] }
  w164 fun (e166 : Ending) (w167 : World) => ∃ (p168 : Option Addr), ∃ (k169 : Nat), ∃ (k170 : Nat), ∃ (p171 : Option Addr), ∃ (k172 : Nat),
  ∃ (k173 : Nat), ∃ (p174 : Option Addr), ∃ (k175 : Nat), ∃ (k176 : Nat), ∃ (n177 : Int), ∃ (n178 : Int), ∃ (n179 : Int), e166 =
  Ending.returned (Value.tuple { toList := [Value.agg { toList := [Value.slice p168 k169 k170, Value.slice p171 k172 k173, Value.slice p174 k175 k176, Value.int IntKind.i64 n177, Value.int IntKind.i64 n178] }, Value.int IntKind.i64 n179] })
  ∧ Keep [k1, k26] w164 w167 ∧ ∃ (k180 : Nat), k180 < k124 ∧ ∀ (w181 : World), Step w167 w181 [k26] [] → y122 k180 (IntKind.wrap IntKind.i64
  (n125 + (1 : Int))) p168 k169 k170 p171 k172 k173 p174 k175 k176 n177 n178 w181) (Calls Proofs.Try.prog (49 : Nat) { toList := [Value.pointer p10, Value.int IntKind.i64 aFirst, Value.int IntKind.i64 aCount] }
  w141 fun (e183 : Ending) (w184 : World) => ∃ (p185 : Option Addr), ∃ (n186 : Int), e183 = Ending.returned (Value.tuple { toList := [Value.pointer p185, Value.int IntKind.i64 n186] })
  ∧ Keep [k1, k26] w141 w184 ∧ Calls Proofs.Try.prog (53 : Nat) { toList := [Value.int IntKind.i64 aSize, Value.int IntKind.i64 aFirst, Value.int IntKind.i64 aCount] }
  w184 fun (e187 : Ending) (w188 : World) => ∃ (b189 : Bool), e187 = Ending.returned (Value.bool b189) ∧ Keep [k1, k26] w184 w188 ∧ bcase
  (!b189) (∀ (y190 : Bool → World → Prop), (∀ (b191 : Bool) (w192 : World), R (Ending.returned (Value.bool b191)) w192 → y190 b191 w192) →
  bcase (decide (n186 = (1 : Int))) (y190 (Option.isNone p185) w188) (y190 false w188)) (∀ (y195 : Bool → World → Prop), (∀ (b196 : Bool)
  (w197 : World), bcase b196 (R (Ending.returned (Value.bool false)) w197) (Calls Proofs.Try.prog (51 : Nat) { toList := [Value.pointer p185] }
  w197 fun (e198 : Ending) (w199 : World) => ∃ (n200 : Int), ∃ (p201 : Option Addr), ∃ (k202 : Nat), ∃ (k203 : Nat), ∃ (b204 : Bool), e198 =
  Ending.returned (Value.tuple { toList := [Value.int IntKind.i64 n200, Value.slice p201 k202 k203, Value.bool b204] }) ∧ Keep [k1, k26]
  w197 w199 ∧ Calls Proofs.Try.prog (54 : Nat) { toList := [Value.agg { toList := [Value.slice p126 k127 k128, Value.slice p129 k130 k131, Value.slice p132 k133 k134, Value.int IntKind.i64 n135, Value.int IntKind.i64 n136] }, Value.int IntKind.i64 aFirst, Value.int IntKind.i64 aCount] }
  w199 fun (e205 : Ending) (w206 : World) => ∃ (n207 : Int), ∃ (s208 : ByteArray), ∃ (b209 : Bool), e205 = Ending.returned (Value.tuple { toList := [Value.int IntKind.i64 n207, Value.string s208, Value.bool b209] })
  ∧ Keep [k1, k26] w199 w206 ∧ ∀ (y210 : Bool → World → Prop), (∀ (b211 : Bool) (w212 : World), R (Ending.returned (Value.bool b211)) w212 →
  y210 b211 w212) → bcase (decide (n200 = n207)) (∃ (l215 : List UInt8), List.length l215 = k202 ∧ (∀ (k216 : Nat), k216 < k202 → ∃ (ad218 :
  Addr), p201 = some ad218 ∧ World.cell? w206 (Addr.add ad218 k216) = some (Value.int IntKind.u8 ((UInt8.toNat (List.getD l215 k216 (0 :
  UInt8))) : Int))) ∧ bcase (decide ((ByteArray.mk (Array.mk l215)) = s208)) (bcase (b204 == b209) (Calls Proofs.Try.prog (32 : Nat) { toList := [Value.pointer p10, Value.agg { toList := [Value.slice p126 k127 k128, Value.slice p129 k130 k131, Value.slice p132 k133 k134, Value.int IntKind.i64 n135, Value.int IntKind.i64 n136] }] }
  w206 fun (e219 : Ending) (w220 : World) => ∃ (b221 : Bool), e219 = Ending.returned (Value.bool b221) ∧ Keep [k1, k26] w206 w220 ∧ y210
  b221 w220) (y210 false w206)) (y210 false w206)) (y210 false w206)) → y195 b196 w197) → bcase (!decide (n186 = (0 : Int))) (y195 true
  w188) (y195 (Option.isNone p185) w188))) → y139 b140 w141) → bcase (decide (n125 < (headsL : Int))) (y139 (decide (n125 < (40 : Int)))
  w137) (y139 false w137)) → y47 b48 w49) → bcase (decide (n33 < (sectorsL : Int))) (y47 (decide (n33 < (40 : Int))) w45) (y47 false w45)) →
  y27 b28 w29) → bcase (!decide (n11 = (0 : Int))) (∀ (w230 : World), Step w13 w230 [] [k26] → y27 true w230) (∀ (w232 : World), Step w13
  w232 [] [k26] → y27 (Option.isNone p10) w232)) → y2 b3 w4) → ∀ (w236 : World), Step w w236 [] [k1] → Calls Proofs.Try.prog (48 : Nat) { toList := [] }
  w236 fun (e238 : Ending) (w239 : World) => ∃ (b240 : Bool), e238 = Ending.returned (Value.bool b240) ∧ Keep [k1] w236 w239 ∧ bcase (!b240)
  (y2 true w239) (bcase (decide (aSize < (1 : Int))) (y2 true w239) (y2 (decide ((40 : Int) < aSize)) w239))

theorem rhizomelaw05_ImageReads.link {aSize : Int} {aFirst : Int} {aCount : Int} {sectorsA : Option Addr} {sectorsL sectorsC : Nat} {headsA : Option Addr} {headsL headsC : Nat} {R : Ending → World → Prop} {w : World} (h : rhizomelaw05_ImageReads.vc aSize aFirst aCount sectorsA sectorsL sectorsC headsA headsL headsC R w) : Calls Go.Proofs.Try.prog 17 #[(.agg #[.int .i64 aSize, .int .i64 aFirst, .int .i64 aCount] : Value), .slice sectorsA sectorsL sectorsC, .slice headsA headsL headsC] w R :=
  calls_of pf (fn := Go.Proofs.Try.f17) (ann := .s (.n) (.s (.j ⟨[], [], [0], [(32, .l (.b))], []⟩ (.n) (.c (.s (.n) (.n)) (.n))) (.s (.n) (.s (.n) (.s (.j ⟨[], [], [0, 1], [(51, .l (.b))], []⟩ (.n) (.c (.s (.n) (.n)) (.n))) (.s (.s (.n) (.b (.l ⟨[], [], [0], [(11, .l (.i .i64))], [(1, [.sl, .sl, .sl, .i .i64, .i .i64])]⟩ (.s (.j ⟨[], [], [0, 1], [(59, .l (.b))], []⟩ (.n) (.c (.n) (.n))) (.s (.b (.s (.n) (.d [0]))) (.n)))))) (.s (.s (.n) (.b (.l ⟨[], [], [0], [(12, .l (.i .i64))], [(1, [.sl, .sl, .sl, .i .i64, .i .i64])]⟩ (.s (.j ⟨[], [], [0, 1], [(89, .l (.b))], []⟩ (.n) (.c (.n) (.n))) (.s (.b (.s (.d [0, 1]) (.s (.n) (.d [0])))) (.n)))))) (.s (.n) (.s (.s (.n) (.c (.j ⟨[], [], [], [(6, .l (.b))], []⟩ (.n) (.n)) (.n))) (.s (.j ⟨[], [], [0, 1], [(155, .l (.b))], []⟩ (.n) (.c (.s (.n) (.n)) (.n))) (.s (.n) (.s (.n) (.j ⟨[], [], [], [(6, .l (.b))], []⟩ (.n) (.n)))))))))))))) (mp := false) (args := [.v (.agg #[.int .i64 aSize, .int .i64 aFirst, .int .i64 aCount]), .v (.slice sectorsA sectorsL sectorsC), .v (.slice headsA headsL headsC)]) Go.Proofs.Try.func17 (c := Go.Proofs.Try.f17.body.getD .skip) (by kernel_rfl) (by kernel_rfl) (Eq.mp (by kernel_rfl) h)
theorem rhizomelaw05_ImageReads.body : BodyOk Go.Proofs.Try.prog 17 := ⟨Go.Proofs.Try.f17, Go.Proofs.Try.func17, by kernel_rfl, pf.ng _ _ Go.Proofs.Try.func17⟩

end Go.Proofs.Ytcaamecdhbgknaa.VC
