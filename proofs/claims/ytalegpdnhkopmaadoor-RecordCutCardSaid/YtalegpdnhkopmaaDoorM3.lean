/- What is to be shown of functions' texts, printed by a program of this session's repo; that it gives the functions' contracts is checked by the kernel. -/
import Derived.Test.YtalegpdnhkopmaaDoorProg
import Derived.Test.YtalegpdnhkopmaaDoorPf
namespace Go.Proofs.YtalegpdnhkopmaaDoor.VC
open Go Go.V
set_option maxRecDepth 1000000
set_option linter.unusedVariables false

/-! ### rhizome/key.Num: function 20 -/
def key_Num.vc (n : Int) (R : Ending → World → Prop) (w : World) : Prop := ∀ (k1 : Nat) (w2 : World), Step w w2 [] [k1] → R (Ending.returned
  (Value.agg { toList := List.take 3 (List.drop 0 (sets [Value.bool false, Value.string { data := { toList := [] } }, Value.int IntKind.i64 (0 : Int)] 0 (spl [Value.bool false, Value.string { data := { toList := [] } }, Value.int IntKind.i64 (0 : Int)] 2 [Value.int IntKind.i64 n]))) }))
  w2

theorem key_Num.link {n : Int} {R : Ending → World → Prop} {w : World} (h : key_Num.vc n R w) : Calls Go.Proofs.Tryd.prog 20 #[.int .i64 n] w R :=
  calls_of pf (fn := Go.Proofs.Tryd.f20) (ann := .s (.n) (.s (.n) (.n))) (mp := false) (args := [.v (.int .i64 n)]) Go.Proofs.Tryd.func20 (c := Go.Proofs.Tryd.f20.body.getD .skip) (by kernel_rfl) (by kernel_rfl) (Eq.mp (by kernel_rfl) h)
theorem key_Num.body : BodyOk Go.Proofs.Tryd.prog 20 := ⟨Go.Proofs.Tryd.f20, Go.Proofs.Tryd.func20, by kernel_rfl, pf.ng _ _ Go.Proofs.Tryd.func20⟩

/-! ### rhizome/key.Str: function 52 -/
def key_Str.vc (s : ByteArray) (R : Ending → World → Prop) (w : World) : Prop := ∀ (k1 : Nat) (w2 : World), Step w w2 [] [k1] → R
  (Ending.returned (Value.agg { toList := List.take 3 (List.drop 0 (sets [Value.bool false, Value.string { data := { toList := [] } }, Value.int IntKind.i64 (0 : Int)] 0 (spl (spl [Value.bool false, Value.string { data := { toList := [] } }, Value.int IntKind.i64 (0 : Int)] 0 [Value.bool true]) 1 [Value.string s]))) }))
  w2

theorem key_Str.link {s : ByteArray} {R : Ending → World → Prop} {w : World} (h : key_Str.vc s R w) : Calls Go.Proofs.Tryd.prog 52 #[.string s] w R :=
  calls_of pf (fn := Go.Proofs.Tryd.f52) (ann := .s (.n) (.s (.n) (.n))) (mp := false) (args := [.v (.string s)]) Go.Proofs.Tryd.func52 (c := Go.Proofs.Tryd.f52.body.getD .skip) (by kernel_rfl) (by kernel_rfl) (Eq.mp (by kernel_rfl) h)
theorem key_Str.body : BodyOk Go.Proofs.Tryd.prog 52 := ⟨Go.Proofs.Tryd.f52, Go.Proofs.Tryd.func52, by kernel_rfl, pf.ng _ _ Go.Proofs.Tryd.func52⟩

/-! ### rhizome/key.put: function 53 -/
def key_put.vc (bA : Option Addr) (bL bC : Nat) (pText : Bool) (pS : ByteArray) (pN : Int) (R : Ending → World → Prop) (w : World) : Prop :=
  ∀ (k1 : Nat), bcase pText (∀ (k2 : Nat), appendP false [] [k2, k1] [k1, k2] w bA bL bC 1 (spl (reps [Value.int IntKind.u8 (0 : Int)] 1) 0
  [Value.int IntKind.u8 (2 : Int)]) 1 1 [Value.int IntKind.u8 (0 : Int)] fun (w3 : World) (p4 : Option Addr) (k5 k6 : Nat) => Calls
  Proofs.Tryd.prog (103 : Nat) { toList := [Value.string pS, Value.string { data := { toList := [(0 : UInt8)] } }, Value.string { data := { toList := [(0 : UInt8), (255 : UInt8)] } }] }
  w3 fun (e7 : Ending) (w8 : World) => ∃ (s9 : ByteArray), e7 = Ending.returned (Value.string s9) ∧ Keep [k1, k2] w3 w8 ∧ appendP true [] []
  [k1, k2] w8 p4 k5 k6 (ByteArray.size s9) (byteCells s9) 1 1 [Value.int IntKind.u8 (0 : Int)] fun (w10 : World) (p11 : Option Addr) (k12
  k13 : Nat) => ∀ (k14 : Nat), appendP false [] [k14] [k1, k2, k14] w10 p11 k12 k13 2 (spl (spl (reps [Value.int IntKind.u8 (0 : Int)] 2) 0
  [Value.int IntKind.u8 (0 : Int)]) 1 [Value.int IntKind.u8 (1 : Int)]) 1 1 [Value.int IntKind.u8 (0 : Int)] fun (w15 : World) (p16 : Option
  Addr) (k17 k18 : Nat) => R (Ending.returned (Value.slice p16 k17 k18)) w15) (∀ (k19 : Nat), appendP false [] [k19, k1] [k1, k19] w bA bL
  bC 1 (spl (reps [Value.int IntKind.u8 (0 : Int)] 1) 0 [Value.int IntKind.u8 (1 : Int)]) 1 1 [Value.int IntKind.u8 (0 : Int)] fun (w20 :
  World) (p21 : Option Addr) (k22 k23 : Nat) => ∃ (y24 : Nat → Option Addr → Nat → Nat → Int → World → Prop), ∃ (k25 : Nat), y24 k25 p21 k22
  k23 (56 : Int) w20 ∧ ∀ (k26 : Nat) (p27 : Option Addr) (k28 k29 : Nat) (n30 : Int) (w31 : World), y24 k26 p27 k28 k29 n30 w31 → bcase
  (decide ((0 : Int) ≤ n30)) ((0 : Int) ≤ n30 ∧ ∀ (k33 : Nat), appendP false [] [k33] [k1, k33] w31 p27 k28 k29 1 (spl (reps [Value.int
  IntKind.u8 (0 : Int)] 1) 0 [Value.int IntKind.u8 (IntKind.wrap IntKind.u8 (Int.fdiv (bits BinOp.xor IntKind.u64 (IntKind.wrap IntKind.u64
  pN) (9223372036854775808 : Int)) ((2 : Int) ^ Min.min (Int.toNat n30) 64)))]) 1 1 [Value.int IntKind.u8 (0 : Int)] fun (w34 : World) (p35
  : Option Addr) (k36 k37 : Nat) => ∃ (k38 : Nat), k38 < k26 ∧ y24 k38 p35 k36 k37 (IntKind.wrap IntKind.i64 (n30 - (8 : Int))) w34) (R
  (Ending.returned (Value.slice p27 k28 k29)) w31))

theorem key_put.link {bA : Option Addr} {bL bC : Nat} {pText : Bool} {pS : ByteArray} {pN : Int} {R : Ending → World → Prop} {w : World} (h : key_put.vc bA bL bC pText pS pN R w) : Calls Go.Proofs.Tryd.prog 53 #[.slice bA bL bC, (.agg #[.bool pText, .string pS, .int .i64 pN] : Value)] w R :=
  calls_of pf (fn := Go.Proofs.Tryd.f53) (ann := .s (.n) (.s (.s (.n) (.c (.s (.n) (.s (.n) (.s (.n) (.n)))) (.n))) (.s (.n) (.s (.s (.n) (.b (.l ⟨[], [], [0], [(0, .l (.sl)), (5, .l (.i .i64))], []⟩ (.s (.s (.n) (.c (.n) (.n))) (.s (.b (.n)) (.n)))))) (.s (.n) (.n)))))) (mp := false) (args := [.v (.slice bA bL bC), .v (.agg #[.bool pText, .string pS, .int .i64 pN])]) Go.Proofs.Tryd.func53 (c := Go.Proofs.Tryd.f53.body.getD .skip) (by kernel_rfl) (by kernel_rfl) (Eq.mp (by kernel_rfl) h)
theorem key_put.body : BodyOk Go.Proofs.Tryd.prog 53 := ⟨Go.Proofs.Tryd.f53, Go.Proofs.Tryd.func53, by kernel_rfl, pf.ng _ _ Go.Proofs.Tryd.func53⟩

/-! ### rhizome/key.Encode: function 18 -/
def key_Encode.vc (kA : Option Addr) (kL kC : Nat) (R : Ending → World → Prop) (w : World) : Prop := ∃ (y1 : Nat → Option Addr → Nat → Nat →
  Int → World → Prop), ∃ (k2 : Nat), y1 k2 none 0 0 (0 : Int) w ∧ ∀ (k3 : Nat) (p4 : Option Addr) (k5 k6 : Nat) (n7 : Int) (w8 : World), y1
  k3 p4 k5 k6 n7 w8 → bcase (decide (n7 < (kL : Int))) (∃ (ad10 : Addr), kA = some ad10 ∧ ((0 : Int) ≤ n7 ∧ n7 < (kL : Int)) ∧ ∃ (b11 :
  Bool), ∃ (s12 : ByteArray), ∃ (n13 : Int), (World.cell? w8 (Addr.add (Addr.add ad10 (Int.toNat n7 * 3)) 0) = some (Value.bool b11) ∧
  World.cell? w8 (Addr.add (Addr.add ad10 (Int.toNat n7 * 3)) 1) = some (Value.string s12) ∧ World.cell? w8 (Addr.add (Addr.add ad10
  (Int.toNat n7 * 3)) 2) = some (Value.int IntKind.i64 n13) ∧ True) ∧ ∀ (k14 : Nat) (y15 : Bool → World → Prop), (∀ (b16 : Bool) (w17 :
  World), bcase b16 (R (Ending.returned (Value.tuple { toList := [Value.slice none 0 0, Value.int IntKind.i64 (3 : Int)] })) w17) (Calls
  Proofs.Tryd.prog (53 : Nat) { toList := [Value.slice p4 k5 k6, Value.agg { toList := List.take 3 (List.drop 0 (sets [Value.bool false, Value.string { data := { toList := [] } }, Value.int IntKind.i64 (0 : Int)] 0 [Value.bool b11, Value.string s12, Value.int IntKind.i64 n13])) }] }
  w17 fun (e18 : Ending) (w19 : World) => ∃ (p20 : Option Addr), ∃ (k21 : Nat), ∃ (k22 : Nat), e18 = Ending.returned (Value.slice p20 k21
  k22) ∧ Keep [k14] w17 w19 ∧ bcase (decide ((200 : Int) < (k21 : Int))) (R (Ending.returned (Value.tuple { toList := [Value.slice none 0 0, Value.int IntKind.i64 (3 : Int)] }))
  w19) (∃ (k23 : Nat), k23 < k3 ∧ y1 k23 p20 k21 k22 (IntKind.wrap IntKind.i64 (n7 + (1 : Int))) w19)) → y15 b16 w17) → bcase (decide ((200
  : Int) < ((ByteArray.size s12) : Int))) (∀ (w26 : World), Step w8 w26 [] [k14] → y15 b11 w26) (∀ (w28 : World), Step w8 w28 [] [k14] → y15
  false w28)) (Calls Proofs.Tryd.prog (54 : Nat) { toList := [Value.slice p4 k5 k6] } w8 fun (e30 : Ending) (w31 : World) => ∃ (p32 : Option
  Addr), ∃ (k33 : Nat), ∃ (k34 : Nat), e30 = Ending.returned (Value.slice p32 k33 k34) ∧ R (Ending.returned (Value.tuple { toList := [Value.slice p32 k33 k34, Value.int IntKind.i64 (0 : Int)] }))
  w31)

theorem key_Encode.link {kA : Option Addr} {kL kC : Nat} {R : Ending → World → Prop} {w : World} (h : key_Encode.vc kA kL kC R w) : Calls Go.Proofs.Tryd.prog 18 #[.slice kA kL kC] w R :=
  calls_of pf (fn := Go.Proofs.Tryd.f18) (ann := .s (.n) (.s (.n) (.s (.s (.n) (.b (.l ⟨[], [], [], [(4, .l (.sl)), (9, .l (.i .i64))], []⟩ (.s (.n) (.s (.c (.n) (.n)) (.s (.b (.s (.n) (.s (.j ⟨[], [], [0], [(20, .l (.b))], []⟩ (.n) (.c (.s (.n) (.n)) (.n))) (.s (.n) (.s (.n) (.c (.s (.n) (.n)) (.n))))))) (.n))))))) (.s (.n) (.n))))) (mp := false) (args := [.v (.slice kA kL kC)]) Go.Proofs.Tryd.func18 (c := Go.Proofs.Tryd.f18.body.getD .skip) (by kernel_rfl) (by kernel_rfl) (Eq.mp (by kernel_rfl) h)
theorem key_Encode.body : BodyOk Go.Proofs.Tryd.prog 18 := ⟨Go.Proofs.Tryd.f18, Go.Proofs.Tryd.func18, by kernel_rfl, pf.ng _ _ Go.Proofs.Tryd.func18⟩

/-! ### slices.Clip[[]byte,byte]: function 54 -/
def slices_Clip_g_byte.vc (sA : Option Addr) (sL sC : Nat) (R : Ending → World → Prop) (w : World) : Prop := ((0 : Int) ≤ (0 : Int) ∧ (0 :
  Int) ≤ (sL : Int) ∧ (sL : Int) ≤ (sL : Int) ∧ (sL : Int) ≤ (sC : Int)) ∧ R (Ending.returned (Value.slice (subA sA 0 (Int.toNat (sL : Int))
  1) (Int.toNat (sL : Int) - 0) (Int.toNat (sL : Int) - 0))) w

theorem slices_Clip_g_byte.link {sA : Option Addr} {sL sC : Nat} {R : Ending → World → Prop} {w : World} (h : slices_Clip_g_byte.vc sA sL sC R w) : Calls Go.Proofs.Tryd.prog 54 #[.slice sA sL sC] w R :=
  calls_of pf (fn := Go.Proofs.Tryd.f54) (ann := .s (.n) (.s (.n) (.n))) (mp := false) (args := [.v (.slice sA sL sC)]) Go.Proofs.Tryd.func54 (c := Go.Proofs.Tryd.f54.body.getD .skip) (by kernel_rfl) (by kernel_rfl) (Eq.mp (by kernel_rfl) h)
theorem slices_Clip_g_byte.body : BodyOk Go.Proofs.Tryd.prog 54 := ⟨Go.Proofs.Tryd.f54, Go.Proofs.Tryd.func54, by kernel_rfl, pf.ng _ _ Go.Proofs.Tryd.func54⟩

/-! ### rhizome/key.End: function 21 -/
def key_End.vc (bA : Option Addr) (bL bC : Nat) (R : Ending → World → Prop) (w : World) : Prop := ∃ (y1 : Nat → Int → World → Prop), ∃ (k2 :
  Nat), y1 k2 (IntKind.wrap IntKind.i64 ((bL : Int) - (1 : Int))) w ∧ ∀ (k3 : Nat) (n4 : Int) (w5 : World), y1 k3 n4 w5 → bcase (decide ((0
  : Int) ≤ n4)) (∃ (ad7 : Addr), bA = some ad7 ∧ ((0 : Int) ≤ n4 ∧ n4 < (bL : Int)) ∧ ∃ (n8 : Int), World.cell? w5 (Addr.add ad7 (Int.toNat
  n4 * 1)) = some (Value.int IntKind.u8 n8) ∧ bcase (decide (n8 < (255 : Int))) (((0 : Int) ≤ (0 : Int) ∧ (0 : Int) ≤ IntKind.wrap
  IntKind.i64 (n4 + (1 : Int)) ∧ IntKind.wrap IntKind.i64 (n4 + (1 : Int)) ≤ (bC : Int)) ∧ Calls Proofs.Tryd.prog (57 : Nat) { toList := [Value.slice (subA bA 0 bC 1) (Int.toNat (IntKind.wrap IntKind.i64 (n4 + (1 : Int))) - 0) (bC - 0)] }
  w5 fun (e9 : Ending) (w10 : World) => ∃ (p11 : Option Addr), ∃ (k12 : Nat), ∃ (k13 : Nat), e9 = Ending.returned (Value.slice p11 k12 k13)
  ∧ Calls Proofs.Tryd.prog (54 : Nat) { toList := [Value.slice p11 k12 k13] } w10 fun (e14 : Ending) (w15 : World) => ∃ (p16 : Option Addr),
  ∃ (k17 : Nat), ∃ (k18 : Nat), e14 = Ending.returned (Value.slice p16 k17 k18) ∧ ∃ (ad19 : Addr), p16 = some ad19 ∧ ((0 : Int) ≤ n4 ∧ n4 <
  (k17 : Int)) ∧ ∃ (n20 : Int), World.cell? w15 (Addr.add ad19 (Int.toNat n4 * 1)) = some (Value.int IntKind.u8 n20) ∧ ∃ (ad21 : Addr), p16
  = some ad21 ∧ ((0 : Int) ≤ n4 ∧ n4 < (k17 : Int)) ∧ ∃ (l22 : List Value), Blk w15 (Addr.block (Addr.add ad21 (Int.toNat n4 * 1))) l22 ∧
  Addr.spot (Addr.add ad21 (Int.toNat n4 * 1)) = none ∧ Addr.off (Addr.add ad21 (Int.toNat n4 * 1)) + List.length [Value.int IntKind.u8
  (IntKind.wrap IntKind.u8 (n20 + (1 : Int)))] ≤ List.length l22 ∧ ∀ (w23 : World), Upd w15 w23 (Addr.block (Addr.add ad21 (Int.toNat n4 *
  1))) (sets l22 (Addr.off (Addr.add ad21 (Int.toNat n4 * 1))) [Value.int IntKind.u8 (IntKind.wrap IntKind.u8 (n20 + (1 : Int)))]) → R
  (Ending.returned (Value.slice p16 k17 k18)) w23) (∃ (k25 : Nat), k25 < k3 ∧ y1 k25 (IntKind.wrap IntKind.i64 (n4 - (1 : Int))) w5)) (R
  (Ending.returned (Value.slice none 0 0)) w5)

theorem key_End.link {bA : Option Addr} {bL bC : Nat} {R : Ending → World → Prop} {w : World} (h : key_End.vc bA bL bC R w) : Calls Go.Proofs.Tryd.prog 21 #[.slice bA bL bC] w R :=
  calls_of pf (fn := Go.Proofs.Tryd.f21) (ann := .s (.n) (.s (.s (.n) (.b (.l ⟨[], [], [], [(3, .l (.i .i64))], []⟩ (.s (.s (.n) (.c (.n) (.n))) (.s (.b (.s (.n) (.c (.s (.n) (.s (.n) (.s (.n) (.n)))) (.n)))) (.n)))))) (.s (.n) (.n)))) (mp := false) (args := [.v (.slice bA bL bC)]) Go.Proofs.Tryd.func21 (c := Go.Proofs.Tryd.f21.body.getD .skip) (by kernel_rfl) (by kernel_rfl) (Eq.mp (by kernel_rfl) h)
theorem key_End.body : BodyOk Go.Proofs.Tryd.prog 21 := ⟨Go.Proofs.Tryd.f21, Go.Proofs.Tryd.func21, by kernel_rfl, pf.ng _ _ Go.Proofs.Tryd.func21⟩

end Go.Proofs.YtalegpdnhkopmaaDoor.VC
