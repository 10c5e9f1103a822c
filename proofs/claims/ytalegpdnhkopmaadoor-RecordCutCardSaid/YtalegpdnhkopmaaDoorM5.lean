/- What is to be shown of functions' texts, printed by a program of this session's repo; that it gives the functions' contracts is checked by the kernel. -/
import Derived.Test.YtalegpdnhkopmaaDoorProg
import Derived.Test.YtalegpdnhkopmaaDoorPf
namespace Go.Proofs.YtalegpdnhkopmaaDoor.VC
open Go Go.V
set_option maxRecDepth 1000000
set_option linter.unusedVariables false

/-! ### rhizome/rhizomelaw01.KeyOwn: function 3 -/
def rhizomelaw01_KeyOwn.vc (kA : Option Addr) (kL kC : Nat) (bA : Option Addr) (bL bC : Nat) (R : Ending → World → Prop) (w : World) : Prop
  := ∀ (y1 : Bool → World → Prop), (∀ (b2 : Bool) (w3 : World), bcase b2 (Calls Proofs.Tryd.prog (16 : Nat) { toList := [] } w3 fun (e4 :
  Ending) (w5 : World) => ∃ (b6 : Bool), e4 = Ending.returned (Value.bool b6) ∧ R (Ending.returned (Value.bool b6)) w5) (Calls
  Proofs.Tryd.prog (18 : Nat) { toList := [Value.slice kA kL kC] } w3 fun (e7 : Ending) (w8 : World) => ∃ (p9 : Option Addr), ∃ (k10 : Nat),
  ∃ (k11 : Nat), ∃ (n12 : Int), e7 = Ending.returned (Value.tuple { toList := [Value.slice p9 k10 k11, Value.int IntKind.i64 n12] }) ∧ Calls
  Proofs.Tryd.prog (18 : Nat) { toList := [Value.slice kA kL kC] } w8 fun (e13 : Ending) (w14 : World) => ∃ (p15 : Option Addr), ∃ (k16 :
  Nat), ∃ (k17 : Nat), ∃ (n18 : Int), e13 = Ending.returned (Value.tuple { toList := [Value.slice p15 k16 k17, Value.int IntKind.i64 n18] })
  ∧ ∃ (y19 : Nat → Int → World → Prop), ∃ (k20 : Nat), y19 k20 (0 : Int) w14 ∧ ∀ (k21 : Nat) (n22 : Int) (w23 : World), y19 k21 n22 w23 →
  bcase (decide (n22 < (k10 : Int))) (∃ (ad25 : Addr), p9 = some ad25 ∧ ((0 : Int) ≤ n22 ∧ n22 < (k10 : Int)) ∧ ∃ (n26 : Int), World.cell?
  w23 (Addr.add ad25 (Int.toNat n22 * 1)) = some (Value.int IntKind.u8 n26) ∧ ∃ (ad27 : Addr), p9 = some ad27 ∧ ((0 : Int) ≤ n22 ∧ n22 <
  (k10 : Int)) ∧ ∃ (l28 : List Value), Blk w23 (Addr.block (Addr.add ad27 (Int.toNat n22 * 1))) l28 ∧ Addr.spot (Addr.add ad27 (Int.toNat
  n22 * 1)) = none ∧ Addr.off (Addr.add ad27 (Int.toNat n22 * 1)) + List.length [Value.int IntKind.u8 (IntKind.wrap IntKind.u8 (n26 + (1 :
  Int)))] ≤ List.length l28 ∧ ∀ (w29 : World), Upd w23 w29 (Addr.block (Addr.add ad27 (Int.toNat n22 * 1))) (sets l28 (Addr.off (Addr.add
  ad27 (Int.toNat n22 * 1))) [Value.int IntKind.u8 (IntKind.wrap IntKind.u8 (n26 + (1 : Int)))]) → ∃ (k31 : Nat), k31 < k21 ∧ y19 k31
  (IntKind.wrap IntKind.i64 (n22 + (1 : Int))) w29) (Calls Proofs.Tryd.prog (18 : Nat) { toList := [Value.slice kA kL kC] } w23 fun (e32 :
  Ending) (w33 : World) => ∃ (p34 : Option Addr), ∃ (k35 : Nat), ∃ (k36 : Nat), ∃ (n37 : Int), e32 = Ending.returned (Value.tuple { toList := [Value.slice p34 k35 k36, Value.int IntKind.i64 n37] })
  ∧ Calls Proofs.Tryd.prog (19 : Nat) { toList := [Value.slice bA bL bC] } w33 fun (e38 : Ending) (w39 : World) => ∃ (p40 : Option Addr), ∃
  (k41 : Nat), ∃ (k42 : Nat), ∃ (n43 : Int), e38 = Ending.returned (Value.tuple { toList := [Value.slice p40 k41 k42, Value.int IntKind.i64 n43] })
  ∧ Calls Proofs.Tryd.prog (19 : Nat) { toList := [Value.slice bA bL bC] } w39 fun (e44 : Ending) (w45 : World) => ∃ (p46 : Option Addr), ∃
  (k47 : Nat), ∃ (k48 : Nat), ∃ (n49 : Int), e44 = Ending.returned (Value.tuple { toList := [Value.slice p46 k47 k48, Value.int IntKind.i64 n49] })
  ∧ ∃ (y50 : Nat → Int → World → Prop), ∃ (k51 : Nat), y50 k51 (0 : Int) w45 ∧ ∀ (k52 : Nat) (n53 : Int) (w54 : World), y50 k52 n53 w54 →
  bcase (decide (n53 < (k41 : Int))) (Calls Proofs.Tryd.prog (20 : Nat) { toList := [Value.int IntKind.i64 (77 : Int)] } w54 fun (e56 :
  Ending) (w57 : World) => ∃ (b58 : Bool), ∃ (s59 : ByteArray), ∃ (n60 : Int), e56 = Ending.returned (Value.agg { toList := [Value.bool b58, Value.string s59, Value.int IntKind.i64 n60] })
  ∧ ∃ (ad61 : Addr), p40 = some ad61 ∧ ((0 : Int) ≤ n53 ∧ n53 < (k41 : Int)) ∧ ∃ (l62 : List Value), Blk w57 (Addr.block (Addr.add ad61
  (Int.toNat n53 * 3))) l62 ∧ Addr.spot (Addr.add ad61 (Int.toNat n53 * 3)) = none ∧ Addr.off (Addr.add ad61 (Int.toNat n53 * 3)) +
  List.length [Value.bool b58, Value.string s59, Value.int IntKind.i64 n60] ≤ List.length l62 ∧ ∀ (w63 : World), Upd w57 w63 (Addr.block
  (Addr.add ad61 (Int.toNat n53 * 3))) (sets l62 (Addr.off (Addr.add ad61 (Int.toNat n53 * 3))) [Value.bool b58, Value.string s59, Value.int
  IntKind.i64 n60]) → ∃ (k65 : Nat), k65 < k52 ∧ y50 k65 (IntKind.wrap IntKind.i64 (n53 + (1 : Int))) w63) (Calls Proofs.Tryd.prog (19 :
  Nat) { toList := [Value.slice bA bL bC] } w54 fun (e66 : Ending) (w67 : World) => ∃ (p68 : Option Addr), ∃ (k69 : Nat), ∃ (k70 : Nat), ∃
  (n71 : Int), e66 = Ending.returned (Value.tuple { toList := [Value.slice p68 k69 k70, Value.int IntKind.i64 n71] }) ∧ Calls
  Proofs.Tryd.prog (21 : Nat) { toList := [Value.slice bA bL bC] } w67 fun (e72 : Ending) (w73 : World) => ∃ (p74 : Option Addr), ∃ (k75 :
  Nat), ∃ (k76 : Nat), e72 = Ending.returned (Value.slice p74 k75 k76) ∧ ∀ (y77 : World → Prop), (∀ (w78 : World), (∀ (y79 : Bool → World →
  Prop), (∀ (b80 : Bool) (w81 : World), R (Ending.returned (Value.bool b80)) w81 → y79 b80 w81) → bcase (decide (n12 = n37)) (∃ (l84 : List
  UInt8), List.length l84 = k16 ∧ (∀ (k85 : Nat), k85 < k16 → ∃ (ad87 : Addr), p15 = some ad87 ∧ World.cell? w78 (Addr.add ad87 k85) = some
  (Value.int IntKind.u8 ((UInt8.toNat (List.getD l84 k85 (0 : UInt8))) : Int))) ∧ ∃ (l88 : List UInt8), List.length l88 = k35 ∧ (∀ (k89 :
  Nat), k89 < k35 → ∃ (ad91 : Addr), p34 = some ad91 ∧ World.cell? w78 (Addr.add ad91 k89) = some (Value.int IntKind.u8 ((UInt8.toNat
  (List.getD l88 k89 (0 : UInt8))) : Int))) ∧ bcase (decide ((ByteArray.mk (Array.mk l84)) = (ByteArray.mk (Array.mk l88)))) (∀ (w92 :
  World), Step w78 w92 [] [] → Calls Proofs.Tryd.prog (22 : Nat) { toList := [Value.slice p46 k47 k48, Value.slice p68 k69 k70] } w92 fun
  (e94 : Ending) (w95 : World) => ∃ (b96 : Bool), e94 = Ending.returned (Value.bool b96) ∧ bcase b96 (Calls Proofs.Tryd.prog (21 : Nat) { toList := [Value.slice bA bL bC] }
  w95 fun (e97 : Ending) (w98 : World) => ∃ (p99 : Option Addr), ∃ (k100 : Nat), ∃ (k101 : Nat), e97 = Ending.returned (Value.slice p99 k100
  k101) ∧ (∃ (l102 : List UInt8), List.length l102 = k100 ∧ (∀ (k103 : Nat), k103 < k100 → ∃ (ad105 : Addr), p99 = some ad105 ∧ World.cell?
  w98 (Addr.add ad105 k103) = some (Value.int IntKind.u8 ((UInt8.toNat (List.getD l102 k103 (0 : UInt8))) : Int))) ∧ Calls Proofs.Tryd.prog
  (23 : Nat) { toList := [Value.slice bA bL bC] } w98 fun (e106 : Ending) (w107 : World) => ∃ (p108 : Option Addr), ∃ (k109 : Nat), ∃ (k110
  : Nat), e106 = Ending.returned (Value.slice p108 k109 k110) ∧ ∃ (l111 : List UInt8), List.length l111 = k109 ∧ (∀ (k112 : Nat), k112 <
  k109 → ∃ (ad114 : Addr), p108 = some ad114 ∧ World.cell? w107 (Addr.add ad114 k112) = some (Value.int IntKind.u8 ((UInt8.toNat (List.getD
  l111 k112 (0 : UInt8))) : Int))) ∧ y79 (decide ((ByteArray.mk (Array.mk l102)) = (ByteArray.mk (Array.mk l111)))) w107) ∧ Calls
  Proofs.Tryd.prog (23 : Nat) { toList := [Value.slice bA bL bC] } w98 fun (e115 : Ending) (w116 : World) => ∃ (p117 : Option Addr), ∃ (k118
  : Nat), ∃ (k119 : Nat), e115 = Ending.returned (Value.slice p117 k118 k119) ∧ ∃ (l120 : List UInt8), List.length l120 = k100 ∧ (∀ (k121 :
  Nat), k121 < k100 → ∃ (ad123 : Addr), p99 = some ad123 ∧ World.cell? w116 (Addr.add ad123 k121) = some (Value.int IntKind.u8 ((UInt8.toNat
  (List.getD l120 k121 (0 : UInt8))) : Int))) ∧ ∃ (l124 : List UInt8), List.length l124 = k118 ∧ (∀ (k125 : Nat), k125 < k118 → ∃ (ad127 :
  Addr), p117 = some ad127 ∧ World.cell? w116 (Addr.add ad127 k125) = some (Value.int IntKind.u8 ((UInt8.toNat (List.getD l124 k125 (0 :
  UInt8))) : Int))) ∧ y79 (decide ((ByteArray.mk (Array.mk l120)) = (ByteArray.mk (Array.mk l124)))) w116) (y79 false w95)) (∀ (w128 :
  World), Step w78 w128 [] [] → y79 false w128)) (∀ (w130 : World), Step w78 w130 [] [] → y79 false w130)) → y77 w78) → bcase (decide ((0 :
  Int) < (k75 : Int))) (∃ (ad134 : Addr), p74 = some ad134 ∧ ((0 : Int) ≤ (0 : Int) ∧ (0 : Int) < (k75 : Int)) ∧ ∃ (n135 : Int), World.cell?
  w73 (Addr.add ad134 0) = some (Value.int IntKind.u8 n135) ∧ ∃ (ad136 : Addr), p74 = some ad136 ∧ ((0 : Int) ≤ (0 : Int) ∧ (0 : Int) < (k75
  : Int)) ∧ ∃ (l137 : List Value), Blk w73 (Addr.block (Addr.add ad136 0)) l137 ∧ Addr.spot (Addr.add ad136 0) = none ∧ Addr.off (Addr.add
  ad136 0) + List.length [Value.int IntKind.u8 (IntKind.wrap IntKind.u8 (n135 + (1 : Int)))] ≤ List.length l137 ∧ ∀ (w138 : World), Upd w73
  w138 (Addr.block (Addr.add ad136 0)) (sets l137 (Addr.off (Addr.add ad136 0)) [Value.int IntKind.u8 (IntKind.wrap IntKind.u8 (n135 + (1 :
  Int)))]) → y77 w138) (y77 w73)))) → y1 b2 w3) → Calls Proofs.Tryd.prog (16 : Nat) { toList := [] } w fun (e142 : Ending) (w143 : World) =>
  ∃ (b144 : Bool), e142 = Ending.returned (Value.bool b144) ∧ bcase (!b144) (y1 true w143) (Calls Proofs.Tryd.prog (17 : Nat) { toList := [Value.slice kA kL kC] }
  w143 fun (e145 : Ending) (w146 : World) => ∃ (b147 : Bool), e145 = Ending.returned (Value.bool b147) ∧ bcase (!b147) (y1 true w146) (y1
  (decide ((500 : Int) < (bL : Int))) w146))

theorem rhizomelaw01_KeyOwn.link {kA : Option Addr} {kL kC : Nat} {bA : Option Addr} {bL bC : Nat} {R : Ending → World → Prop} {w : World} (h : rhizomelaw01_KeyOwn.vc kA kL kC bA bL bC R w) : Calls Go.Proofs.Tryd.prog 3 #[.slice kA kL kC, .slice bA bL bC] w R :=
  calls_of pf (fn := Go.Proofs.Tryd.f3) (ann := .s (.n) (.s (.j ⟨[], [], [], [(31, .l (.b))], []⟩ (.n) (.c (.s (.n) (.n)) (.n))) (.s (.n) (.s (.n) (.s (.s (.n) (.b (.l ⟨[], [], [], [(45, .l (.i .i64))], []⟩ (.s (.n) (.s (.c (.n) (.n)) (.s (.b (.s (.n) (.n))) (.n))))))) (.s (.n) (.s (.n) (.s (.n) (.s (.s (.n) (.b (.l ⟨[], [], [], [(72, .l (.i .i64))], []⟩ (.s (.n) (.s (.c (.n) (.n)) (.s (.b (.s (.n) (.n))) (.n))))))) (.s (.n) (.s (.n) (.j ⟨[], [], [], [], []⟩ (.s (.n) (.c (.n) (.n))) (.j ⟨[], [], [], [(4, .l (.b))], []⟩ (.n) (.n)))))))))))))) (mp := false) (args := [.v (.slice kA kL kC), .v (.slice bA bL bC)]) Go.Proofs.Tryd.func3 (c := Go.Proofs.Tryd.f3.body.getD .skip) (by kernel_rfl) (by kernel_rfl) (Eq.mp (by kernel_rfl) h)
theorem rhizomelaw01_KeyOwn.body : BodyOk Go.Proofs.Tryd.prog 3 := ⟨Go.Proofs.Tryd.f3, Go.Proofs.Tryd.func3, by kernel_rfl, pf.ng _ _ Go.Proofs.Tryd.func3⟩

/-! ### rhizome/rhizomelaw01.awake: function 16 -/
def rhizomelaw01_awake.vc (R : Ending → World → Prop) (w : World) : Prop := Calls Proofs.Tryd.prog (52 : Nat) { toList := [Value.string { data := { toList := [(97 : UInt8), (0 : UInt8), (98 : UInt8)] } }] }
  w fun (e1 : Ending) (w2 : World) => ∃ (b3 : Bool), ∃ (s4 : ByteArray), ∃ (n5 : Int), e1 = Ending.returned (Value.agg { toList := [Value.bool b3, Value.string s4, Value.int IntKind.i64 n5] })
  ∧ ∀ (k6 : Nat) (w7 : World), Step w2 w7 [] [k6] → Blk w7 k6 (spl (reps [Value.bool false, Value.string { data := { toList := [] } },
  Value.int IntKind.i64 (0 : Int)] 1) 0 [Value.bool b3, Value.string s4, Value.int IntKind.i64 n5]) → Calls Proofs.Tryd.prog (18 : Nat) { toList := [Value.slice (some { block := k6, off := 0 }) 1 1] }
  w7 fun (e10 : Ending) (w11 : World) => ∃ (p12 : Option Addr), ∃ (k13 : Nat), ∃ (k14 : Nat), ∃ (n15 : Int), e10 = Ending.returned
  (Value.tuple { toList := [Value.slice p12 k13 k14, Value.int IntKind.i64 n15] }) ∧ Calls Proofs.Tryd.prog (20 : Nat) { toList := [Value.int IntKind.i64 (1 : Int)] }
  w11 fun (e16 : Ending) (w17 : World) => ∃ (b18 : Bool), ∃ (s19 : ByteArray), ∃ (n20 : Int), e16 = Ending.returned (Value.agg { toList := [Value.bool b18, Value.string s19, Value.int IntKind.i64 n20] })
  ∧ ∀ (k21 : Nat) (w22 : World), Step w17 w22 [] [k21] → Blk w22 k21 (spl (reps [Value.bool false, Value.string
  { data := { toList := [] } }, Value.int IntKind.i64 (0 : Int)] 1) 0 [Value.bool b18, Value.string s19, Value.int IntKind.i64 n20]) → Calls
  Proofs.Tryd.prog (18 : Nat) { toList := [Value.slice (some { block := k21, off := 0 }) 1 1] } w22 fun (e25 : Ending) (w26 : World) => ∃
  (p27 : Option Addr), ∃ (k28 : Nat), ∃ (k29 : Nat), ∃ (n30 : Int), e25 = Ending.returned (Value.tuple { toList := [Value.slice p27 k28 k29, Value.int IntKind.i64 n30] })
  ∧ ∀ (y31 : Bool → World → Prop), (∀ (b32 : Bool) (w33 : World), R (Ending.returned (Value.bool b32)) w33 → y31 b32 w33) → bcase (decide
  (n15 = (0 : Int))) (∃ (l36 : List UInt8), List.length l36 = k13 ∧ (∀ (k37 : Nat), k37 < k13 → ∃ (ad39 : Addr), p12 = some ad39 ∧
  World.cell? w26 (Addr.add ad39 k37) = some (Value.int IntKind.u8 ((UInt8.toNat (List.getD l36 k37 (0 : UInt8))) : Int))) ∧ bcase (decide
  ((ByteArray.mk (Array.mk l36)) =
  { data := #[(2 : UInt8), (97 : UInt8), (0 : UInt8), (255 : UInt8), (98 : UInt8), (0 : UInt8), (1 : UInt8)] })) (bcase (decide (n30 = (0 :
  Int))) (bcase (decide ((k28 : Int) = (9 : Int))) (∃ (ad40 : Addr), p27 = some ad40 ∧ ((0 : Int) ≤ (1 : Int) ∧ (1 : Int) < (k28 : Int)) ∧ ∃
  (n41 : Int), World.cell? w26 (Addr.add ad40 1) = some (Value.int IntKind.u8 n41) ∧ bcase (decide (n41 = (128 : Int))) (∀ (k42 : Nat) (w43
  : World), Step w26 w43 [] [k42] → Blk w43 k42 (spl (spl (reps [Value.int IntKind.u8 (0 : Int)] 2) 0 [Value.int IntKind.u8 (1 : Int)]) 1
  [Value.int IntKind.u8 (255 : Int)]) → Calls Proofs.Tryd.prog (21 : Nat) { toList := [Value.slice (some { block := k42, off := 0 }) 2 2] }
  w43 fun (e46 : Ending) (w47 : World) => ∃ (p48 : Option Addr), ∃ (k49 : Nat), ∃ (k50 : Nat), e46 = Ending.returned (Value.slice p48 k49
  k50) ∧ ∃ (l51 : List UInt8), List.length l51 = k49 ∧ (∀ (k52 : Nat), k52 < k49 → ∃ (ad54 : Addr), p48 = some ad54 ∧ World.cell? w47
  (Addr.add ad54 k52) = some (Value.int IntKind.u8 ((UInt8.toNat (List.getD l51 k52 (0 : UInt8))) : Int))) ∧ y31 (decide ((ByteArray.mk
  (Array.mk l51)) = { data := #[(2 : UInt8)] })) w47) (y31 false w26)) (y31 false w26)) (y31 false w26)) (y31 false w26)) (y31 false w26)

theorem rhizomelaw01_awake.link {_u : Unit} {R : Ending → World → Prop} {w : World} (h : rhizomelaw01_awake.vc  R w) : Calls Go.Proofs.Tryd.prog 16 #[] w R :=
  calls_of pf (fn := Go.Proofs.Tryd.f16) (ann := .s (.n) (.s (.n) (.s (.n) (.j ⟨[], [], [], [(0, .l (.b))], []⟩ (.n) (.n))))) (mp := false) (args := []) Go.Proofs.Tryd.func16 (c := Go.Proofs.Tryd.f16.body.getD .skip) (by kernel_rfl) (by kernel_rfl) (Eq.mp (by kernel_rfl) h)
theorem rhizomelaw01_awake.body : BodyOk Go.Proofs.Tryd.prog 16 := ⟨Go.Proofs.Tryd.f16, Go.Proofs.Tryd.func16, by kernel_rfl, pf.ng _ _ Go.Proofs.Tryd.func16⟩

/-! ### rhizome/rhizomelaw01.few: function 17 -/
def rhizomelaw01_few.vc (kA : Option Addr) (kL kC : Nat) (R : Ending → World → Prop) (w : World) : Prop := ∃ (y1 : Nat → Int → Int → World →
  Prop), ∃ (k2 : Nat), y1 k2 (0 : Int) (0 : Int) w ∧ ∀ (k3 : Nat) (n4 n5 : Int) (w6 : World), y1 k3 n4 n5 w6 → bcase (decide (n5 < (kL :
  Int))) (∃ (ad8 : Addr), kA = some ad8 ∧ ((0 : Int) ≤ n5 ∧ n5 < (kL : Int)) ∧ ∃ (s9 : ByteArray), World.cell? w6 (Addr.add (Addr.add ad8
  (Int.toNat n5 * 3)) 1) = some (Value.string s9) ∧ (100000 : Int) ≠ (0 : Int) ∧ ∃ (k10 : Nat), k10 < k3 ∧ y1 k10 (IntKind.wrap IntKind.i64
  (n4 + Int.tmod ((ByteArray.size s9) : Int) (100000 : Int))) (IntKind.wrap IntKind.i64 (n5 + (1 : Int))) w6) (∀ (y11 : Bool → World →
  Prop), (∀ (b12 : Bool) (w13 : World), R (Ending.returned (Value.bool b12)) w13 → y11 b12 w13) → bcase (decide ((kL : Int) ≤ (60 : Int)))
  (y11 (decide (n4 ≤ (5000 : Int))) w6) (y11 false w6))

theorem rhizomelaw01_few.link {kA : Option Addr} {kL kC : Nat} {R : Ending → World → Prop} {w : World} (h : rhizomelaw01_few.vc kA kL kC R w) : Calls Go.Proofs.Tryd.prog 17 #[.slice kA kL kC] w R :=
  calls_of pf (fn := Go.Proofs.Tryd.f17) (ann := .s (.n) (.s (.n) (.s (.s (.n) (.b (.l ⟨[], [], [], [(3, .l (.i .i64)), (7, .l (.i .i64))], []⟩ (.s (.n) (.s (.c (.n) (.n)) (.s (.b (.s (.n) (.n))) (.n))))))) (.j ⟨[], [], [], [(2, .l (.b))], []⟩ (.n) (.n))))) (mp := false) (args := [.v (.slice kA kL kC)]) Go.Proofs.Tryd.func17 (c := Go.Proofs.Tryd.f17.body.getD .skip) (by kernel_rfl) (by kernel_rfl) (Eq.mp (by kernel_rfl) h)
theorem rhizomelaw01_few.body : BodyOk Go.Proofs.Tryd.prog 17 := ⟨Go.Proofs.Tryd.f17, Go.Proofs.Tryd.func17, by kernel_rfl, pf.ng _ _ Go.Proofs.Tryd.func17⟩

/-! ### rhizome/rhizomelaw01.same: function 22 -/
def rhizomelaw01_same.vc (aA : Option Addr) (aL aC : Nat) (bA : Option Addr) (bL bC : Nat) (R : Ending → World → Prop) (w : World) : Prop :=
  ∃ (y1 : Nat → Int → World → Prop), ∃ (k2 : Nat), y1 k2 (0 : Int) w ∧ ∀ (k3 : Nat) (n4 : Int) (w5 : World), y1 k3 n4 w5 → bcase (decide (n4
  < (aL : Int))) (∃ (ad7 : Addr), aA = some ad7 ∧ ((0 : Int) ≤ n4 ∧ n4 < (aL : Int)) ∧ ∃ (b8 : Bool), ∃ (s9 : ByteArray), ∃ (n10 : Int),
  (World.cell? w5 (Addr.add (Addr.add ad7 (Int.toNat n4 * 3)) 0) = some (Value.bool b8) ∧ World.cell? w5 (Addr.add (Addr.add ad7 (Int.toNat
  n4 * 3)) 1) = some (Value.string s9) ∧ World.cell? w5 (Addr.add (Addr.add ad7 (Int.toNat n4 * 3)) 2) = some (Value.int IntKind.i64 n10) ∧
  True) ∧ ∃ (ad11 : Addr), bA = some ad11 ∧ ((0 : Int) ≤ n4 ∧ n4 < (bL : Int)) ∧ ∃ (b12 : Bool), ∃ (s13 : ByteArray), ∃ (n14 : Int),
  (World.cell? w5 (Addr.add (Addr.add ad11 (Int.toNat n4 * 3)) 0) = some (Value.bool b12) ∧ World.cell? w5 (Addr.add (Addr.add ad11
  (Int.toNat n4 * 3)) 1) = some (Value.string s13) ∧ World.cell? w5 (Addr.add (Addr.add ad11 (Int.toNat n4 * 3)) 2) = some (Value.int
  IntKind.i64 n14) ∧ True) ∧ bcase (!conj [b8 == b12, decide (s9 = s13), decide (n10 = n14)]) (∀ (w15 : World), Step w5 w15 [] [] → R
  (Ending.returned (Value.bool false)) w15) (∃ (k17 : Nat), k17 < k3 ∧ ∀ (w18 : World), Step w5 w18 [] [] → y1 k17 (IntKind.wrap IntKind.i64
  (n4 + (1 : Int))) w18)) (R (Ending.returned (Value.bool (decide ((aL : Int) = (bL : Int))))) w5)

theorem rhizomelaw01_same.link {aA : Option Addr} {aL aC : Nat} {bA : Option Addr} {bL bC : Nat} {R : Ending → World → Prop} {w : World} (h : rhizomelaw01_same.vc aA aL aC bA bL bC R w) : Calls Go.Proofs.Tryd.prog 22 #[.slice aA aL aC, .slice bA bL bC] w R :=
  calls_of pf (fn := Go.Proofs.Tryd.f22) (ann := .s (.n) (.s (.s (.n) (.b (.l ⟨[], [], [], [(8, .l (.i .i64))], []⟩ (.s (.n) (.s (.c (.n) (.n)) (.s (.b (.s (.n) (.s (.n) (.c (.s (.n) (.n)) (.n))))) (.n))))))) (.s (.n) (.n)))) (mp := false) (args := [.v (.slice aA aL aC), .v (.slice bA bL bC)]) Go.Proofs.Tryd.func22 (c := Go.Proofs.Tryd.f22.body.getD .skip) (by kernel_rfl) (by kernel_rfl) (Eq.mp (by kernel_rfl) h)
theorem rhizomelaw01_same.body : BodyOk Go.Proofs.Tryd.prog 22 := ⟨Go.Proofs.Tryd.f22, Go.Proofs.Tryd.func22, by kernel_rfl, pf.ng _ _ Go.Proofs.Tryd.func22⟩

/-! ### rhizome/rhizomeref01.End: function 23 -/
def rhizomeref01_End.vc (bA : Option Addr) (bL bC : Nat) (R : Ending → World → Prop) (w : World) : Prop := ∃ (y1 : Nat → Int → World →
  Prop), ∃ (k2 : Nat), y1 k2 ((bL : Int)) w ∧ ∀ (k3 : Nat) (n4 : Int) (w5 : World), y1 k3 n4 w5 → ∀ (y7 : Bool → World → Prop), (∀ (b8 :
  Bool) (w9 : World), bcase b8 (∃ (k10 : Nat), k10 < k3 ∧ y1 k10 (IntKind.wrap IntKind.i64 (n4 - (1 : Int))) w9) (bcase (decide (n4 = (0 :
  Int))) (R (Ending.returned (Value.slice none 0 0)) w9) (∀ (k11 : Nat), ((0 : Int) ≤ (0 : Int) ∧ (0 : Int) ≤ n4 ∧ n4 ≤ (bC : Int)) ∧ ∀ (w12
  : World), Step w9 w12 [] [k11] → Blk w12 k11 (reps [Value.int IntKind.u8 (0 : Int)] 0) → ∃ (l15 : List Value), List.length l15 =
  (Int.toNat n4 - 0) * 1 ∧ Row w12 (subA bA 0 bC 1) l15 ∧ appendP true [] [] [] w12 (some { block := k11, off := 0 }) 0 0 (Int.toNat n4 - 0)
  l15 1 1 [Value.int IntKind.u8 (0 : Int)] fun (w16 : World) (p17 : Option Addr) (k18 k19 : Nat) => ∃ (ad20 : Addr), p17 = some ad20 ∧ ((0 :
  Int) ≤ IntKind.wrap IntKind.i64 (n4 - (1 : Int)) ∧ IntKind.wrap IntKind.i64 (n4 - (1 : Int)) < (k18 : Int)) ∧ ∃ (n21 : Int), World.cell?
  w16 (Addr.add ad20 (Int.toNat (IntKind.wrap IntKind.i64 (n4 - (1 : Int))) * 1)) = some (Value.int IntKind.u8 n21) ∧ ∃ (ad22 : Addr), p17 =
  some ad22 ∧ ((0 : Int) ≤ IntKind.wrap IntKind.i64 (n4 - (1 : Int)) ∧ IntKind.wrap IntKind.i64 (n4 - (1 : Int)) < (k18 : Int)) ∧ ∃ (l23 :
  List Value), Blk w16 (Addr.block (Addr.add ad22 (Int.toNat (IntKind.wrap IntKind.i64 (n4 - (1 : Int))) * 1))) l23 ∧ Addr.spot (Addr.add
  ad22 (Int.toNat (IntKind.wrap IntKind.i64 (n4 - (1 : Int))) * 1)) = none ∧ Addr.off (Addr.add ad22 (Int.toNat (IntKind.wrap IntKind.i64
  (n4 - (1 : Int))) * 1)) + List.length [Value.int IntKind.u8 (IntKind.wrap IntKind.u8 (n21 + (1 : Int)))] ≤ List.length l23 ∧ ∀ (w24 :
  World), Upd w16 w24 (Addr.block (Addr.add ad22 (Int.toNat (IntKind.wrap IntKind.i64 (n4 - (1 : Int))) * 1))) (sets l23 (Addr.off (Addr.add
  ad22 (Int.toNat (IntKind.wrap IntKind.i64 (n4 - (1 : Int))) * 1))) [Value.int IntKind.u8 (IntKind.wrap IntKind.u8 (n21 + (1 : Int)))]) → R
  (Ending.returned (Value.slice p17 k18 k19)) w24)) → y7 b8 w9) → bcase (decide ((0 : Int) < n4)) (∃ (ad28 : Addr), bA = some ad28 ∧ ((0 :
  Int) ≤ IntKind.wrap IntKind.i64 (n4 - (1 : Int)) ∧ IntKind.wrap IntKind.i64 (n4 - (1 : Int)) < (bL : Int)) ∧ ∃ (n29 : Int), World.cell? w5
  (Addr.add ad28 (Int.toNat (IntKind.wrap IntKind.i64 (n4 - (1 : Int))) * 1)) = some (Value.int IntKind.u8 n29) ∧ y7 (decide (n29 = (255 :
  Int))) w5) (y7 false w5)

theorem rhizomeref01_End.link {bA : Option Addr} {bL bC : Nat} {R : Ending → World → Prop} {w : World} (h : rhizomeref01_End.vc bA bL bC R w) : Calls Go.Proofs.Tryd.prog 23 #[.slice bA bL bC] w R :=
  calls_of pf (fn := Go.Proofs.Tryd.f23) (ann := .s (.n) (.s (.n) (.s (.b (.l ⟨[], [], [], [(3, .l (.i .i64))], []⟩ (.s (.j ⟨[], [], [], [(16, .l (.b))], []⟩ (.n) (.c (.n) (.n))) (.b (.n))))) (.s (.s (.n) (.c (.s (.n) (.n)) (.n))) (.s (.n) (.s (.n) (.s (.n) (.n)))))))) (mp := false) (args := [.v (.slice bA bL bC)]) Go.Proofs.Tryd.func23 (c := Go.Proofs.Tryd.f23.body.getD .skip) (by kernel_rfl) (by kernel_rfl) (Eq.mp (by kernel_rfl) h)
theorem rhizomeref01_End.body : BodyOk Go.Proofs.Tryd.prog 23 := ⟨Go.Proofs.Tryd.f23, Go.Proofs.Tryd.func23, by kernel_rfl, pf.ng _ _ Go.Proofs.Tryd.func23⟩

end Go.Proofs.YtalegpdnhkopmaaDoor.VC
