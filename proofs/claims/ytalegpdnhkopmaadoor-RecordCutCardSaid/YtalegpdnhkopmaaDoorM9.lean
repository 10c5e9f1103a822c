/- What is to be shown of functions' texts, printed by a program of this session's repo; that it gives the functions' contracts is checked by the kernel. -/
import Derived.Test.YtalegpdnhkopmaaDoorProg
import Derived.Test.YtalegpdnhkopmaaDoorPf
namespace Go.Proofs.YtalegpdnhkopmaaDoor.VC
open Go Go.V
set_option maxRecDepth 1000000
set_option linter.unusedVariables false

/-! ### rhizome/record.Encode: function 45 -/
def record_Encode.vc (r0 : Int) (r1A : Option Addr) (r1L r1C : Nat) (r2 : ByteArray) (r3 : Int) (r4A : Option Addr) (r4L r4C : Nat) (r5A :
  Option Addr) (r5L r5C : Nat) (r6 : ByteArray) (r7 : ByteArray) (R : Ending → World → Prop) (w : World) : Prop := ∀ (k1 k2 : Nat) (y3 :
  Option Addr → Nat → Nat → World → Prop), (∀ (p4 : Option Addr) (k5 k6 : Nat) (w7 : World), bcase (decide ((4000 : Int) < (k5 : Int))) (R
  (Ending.returned (Value.tuple { toList := [Value.slice none 0 0, Value.int IntKind.i64 (3 : Int)] })) w7) (R (Ending.returned (Value.tuple
  { toList := [Value.slice p4 k5 k6, Value.int IntKind.i64 (0 : Int)] })) w7) → y3 p4 k5 k6 w7) → bcase (decide (r0 = (1 : Int))) (∀ (y10 :
  Bool → World → Prop), (∀ (b11 : Bool) (w12 : World), bcase b11 (R (Ending.returned (Value.tuple { toList := [Value.slice none 0 0, Value.int IntKind.i64 (1 : Int)] }))
  w12) (∀ (k13 : Nat) (w14 : World), Step w12 w14 [] [k13] → Blk w14 k2 (spl (reps [Value.int IntKind.u8 (0 : Int)] 1) 0 [Value.int
  IntKind.u8 (IntKind.wrap IntKind.u8 r0)]) → appendP true [] [] [k1, k13] w14 (some { block := k2, off := 0 }) 1 1 1 (spl (reps [Value.int
  IntKind.u8 (0 : Int)] 1) 0 [Value.int IntKind.u8 (IntKind.wrap IntKind.u8 (r1L : Int))]) 1 1 [Value.int IntKind.u8 (0 : Int)] fun (w17 :
  World) (p18 : Option Addr) (k19 k20 : Nat) => ∃ (y21 : Nat → Option Addr → Nat → Nat → Int → World → Prop), ∃ (k22 : Nat), y21 k22 p18 k19
  k20 (0 : Int) w17 ∧ ∀ (k23 : Nat) (p24 : Option Addr) (k25 k26 : Nat) (n27 : Int) (w28 : World), y21 k23 p24 k25 k26 n27 w28 → bcase
  (decide (n27 < (r1L : Int))) (∃ (ad30 : Addr), r1A = some ad30 ∧ ((0 : Int) ≤ n27 ∧ n27 < (r1L : Int)) ∧ ∃ (n31 : Int), ∃ (n32 : Int), ∃
  (n33 : Int), ∃ (s34 : ByteArray), ∃ (n35 : Int), ∃ (s36 : ByteArray), ∃ (n37 : Int), ∃ (n38 : Int), ∃ (s39 : ByteArray), (World.cell? w28
  (Addr.add (Addr.add ad30 (Int.toNat n27 * 9)) 0) = some (Value.int IntKind.i64 n31) ∧ World.cell? w28 (Addr.add (Addr.add ad30 (Int.toNat
  n27 * 9)) 1) = some (Value.int IntKind.i64 n32) ∧ World.cell? w28 (Addr.add (Addr.add ad30 (Int.toNat n27 * 9)) 2) = some (Value.int
  IntKind.i64 n33) ∧ World.cell? w28 (Addr.add (Addr.add ad30 (Int.toNat n27 * 9)) 3) = some (Value.string s34) ∧ World.cell? w28 (Addr.add
  (Addr.add ad30 (Int.toNat n27 * 9)) 4) = some (Value.int IntKind.i64 n35) ∧ World.cell? w28 (Addr.add (Addr.add ad30 (Int.toNat n27 * 9))
  5) = some (Value.string s36) ∧ World.cell? w28 (Addr.add (Addr.add ad30 (Int.toNat n27 * 9)) 6) = some (Value.int IntKind.i64 n37) ∧
  World.cell? w28 (Addr.add (Addr.add ad30 (Int.toNat n27 * 9)) 7) = some (Value.int IntKind.i64 n38) ∧ World.cell? w28 (Addr.add (Addr.add
  ad30 (Int.toNat n27 * 9)) 8) = some (Value.string s39) ∧ True) ∧ ∀ (k40 : Nat) (w41 : World), Step w28 w41 [] [k40] → Calls
  Proofs.Tryd.prog (100 : Nat) { toList := [Value.agg { toList := List.take 9 (List.drop 0 (sets [Value.int IntKind.i64 (0 : Int), Value.int IntKind.i64 (0 : Int), Value.int IntKind.i64 (0 : Int), Value.string { data := { toList := [] } }, Value.int IntKind.i64 (0 : Int), Value.string { data := { toList := [] } }, Value.int IntKind.i64 (0 : Int), Value.int IntKind.i64 (0 : Int), Value.string { data := { toList := [] } }] 0 [Value.int IntKind.i64 n31, Value.int IntKind.i64 n32, Value.int IntKind.i64 n33, Value.string s34, Value.int IntKind.i64 n35, Value.string s36, Value.int IntKind.i64 n37, Value.int IntKind.i64 n38, Value.string s39])) }] }
  w41 fun (e43 : Ending) (w44 : World) => ∃ (p45 : Option Addr), ∃ (k46 : Nat), ∃ (k47 : Nat), e43 = Ending.returned (Value.slice p45 k46
  k47) ∧ Keep [k40] w41 w44 ∧ ∃ (l48 : List Value), List.length l48 = k46 * 1 ∧ Row w44 p45 l48 ∧ appendP true [] [] [k40] w44 p24 k25 k26
  k46 l48 1 1 [Value.int IntKind.u8 (0 : Int)] fun (w49 : World) (p50 : Option Addr) (k51 k52 : Nat) => ∃ (k53 : Nat), k53 < k23 ∧ y21 k53
  p50 k51 k52 (IntKind.wrap IntKind.i64 (n27 + (1 : Int))) w49) (y3 p24 k25 k26 w28)) → y10 b11 w12) → bcase (decide ((60 : Int) < (r1L :
  Int))) (∀ (w56 : World), Step w w56 [] [k2, k1] → y10 true w56) (∀ (w58 : World), Step w w58 [] [k2, k1] → Calls Proofs.Tryd.prog (98 :
  Nat) { toList := [Value.slice r1A r1L r1C, Value.func (Fn.func 99) { toList := [] } { toList := [] }] } w58 fun (e60 : Ending) (w61 :
  World) => ∃ (b62 : Bool), e60 = Ending.returned (Value.bool b62) ∧ Keep [k1, k2] w58 w61 ∧ y10 b62 w61)) (bcase (decide (r0 = (2 : Int)))
  (∀ (w63 : World), Step w w63 [] [k2, k1] → Calls Proofs.Tryd.prog (38 : Nat) { toList := [Value.agg { toList := [Value.string r2, Value.int IntKind.i64 r3, Value.slice r4A r4L r4C, Value.slice r5A r5L r5C, Value.string r6] }] }
  w63 fun (e65 : Ending) (w66 : World) => ∃ (s67 : ByteArray), ∃ (n68 : Int), e65 = Ending.returned (Value.tuple { toList := [Value.string s67, Value.int IntKind.i64 n68] })
  ∧ Keep [k1, k2] w63 w66 ∧ bcase (!decide (n68 = (0 : Int))) (R (Ending.returned (Value.tuple { toList := [Value.slice none 0 0, Value.int IntKind.i64 n68] }))
  w66) (Blk w66 k2 (spl (reps [Value.int IntKind.u8 (0 : Int)] 1) 0 [Value.int IntKind.u8 (IntKind.wrap IntKind.u8 r0)]) → appendP true []
  [] [k1] w66 (some { block := k2, off := 0 }) 1 1 (ByteArray.size s67) (byteCells s67) 1 1 [Value.int IntKind.u8 (0 : Int)] fun (w70 :
  World) (p71 : Option Addr) (k72 k73 : Nat) => y3 p71 k72 k73 w70)) (bcase (decide (r0 = (3 : Int))) (∀ (w74 : World), Step w w74 [] [k2,
  k1] → Calls Proofs.Tryd.prog (93 : Nat) { toList := [Value.string r7] } w74 fun (e76 : Ending) (w77 : World) => ∃ (b78 : Bool), e76 =
  Ending.returned (Value.bool b78) ∧ Keep [k1, k2] w74 w77 ∧ bcase (!b78) (R (Ending.returned (Value.tuple { toList := [Value.slice none 0 0, Value.int IntKind.i64 (1 : Int)] }))
  w77) (Blk w77 k2 (spl (reps [Value.int IntKind.u8 (0 : Int)] 1) 0 [Value.int IntKind.u8 (IntKind.wrap IntKind.u8 r0)]) → appendP true []
  [] [k1] w77 (some { block := k2, off := 0 }) 1 1 (ByteArray.size r7) (byteCells r7) 1 1 [Value.int IntKind.u8 (0 : Int)] fun (w80 : World)
  (p81 : Option Addr) (k82 k83 : Nat) => y3 p81 k82 k83 w80)) (∀ (w84 : World), Step w w84 [] [k2, k1] → R (Ending.returned (Value.tuple { toList := [Value.slice none 0 0, Value.int IntKind.i64 (1 : Int)] }))
  w84)))

theorem record_Encode.link {r0 : Int} {r1A : Option Addr} {r1L r1C : Nat} {r2 : ByteArray} {r3 : Int} {r4A : Option Addr} {r4L r4C : Nat} {r5A : Option Addr} {r5L r5C : Nat} {r6 : ByteArray} {r7 : ByteArray} {R : Ending → World → Prop} {w : World} (h : record_Encode.vc r0 r1A r1L r1C r2 r3 r4A r4L r4C r5A r5L r5C r6 r7 R w) : Calls Go.Proofs.Tryd.prog 45 #[(.agg #[.int .i64 r0, .slice r1A r1L r1C, .string r2, .int .i64 r3, .slice r4A r4L r4C, .slice r5A r5L r5C, .string r6, .string r7] : Value)] w R :=
  calls_of pf (fn := Go.Proofs.Tryd.f45) (ann := .s (.n) (.s (.n) (.j ⟨[], [], [], [(4, .l (.sl))], []⟩ (.s (.n) (.b (.s (.n) (.c (.s (.j ⟨[], [], [0, 1], [(25, .l (.b))], []⟩ (.n) (.c (.s (.n) (.n)) (.n))) (.s (.n) (.s (.n) (.b (.l ⟨[], [], [], [(4, .l (.sl)), (36, .l (.i .i64))], []⟩ (.s (.n) (.s (.c (.n) (.n)) (.s (.b (.s (.n) (.n))) (.n))))))))) (.s (.n) (.c (.s (.n) (.s (.s (.n) (.c (.s (.n) (.n)) (.n))) (.n))) (.s (.n) (.c (.s (.s (.n) (.c (.s (.n) (.n)) (.n))) (.n)) (.s (.n) (.n)))))))))) (.s (.s (.n) (.c (.s (.n) (.n)) (.n))) (.s (.n) (.n)))))) (mp := false) (args := [.v (.agg #[.int .i64 r0, .slice r1A r1L r1C, .string r2, .int .i64 r3, .slice r4A r4L r4C, .slice r5A r5L r5C, .string r6, .string r7])]) Go.Proofs.Tryd.func45 (c := Go.Proofs.Tryd.f45.body.getD .skip) (by kernel_rfl) (by kernel_rfl) (Eq.mp (by kernel_rfl) h)
theorem record_Encode.body : BodyOk Go.Proofs.Tryd.prog 45 := ⟨Go.Proofs.Tryd.f45, Go.Proofs.Tryd.func45, by kernel_rfl, pf.ng _ _ Go.Proofs.Tryd.func45⟩

/-! ### rhizome/record.change: function 100 -/
def record_change.vc (c0 : Int) (c1 : Int) (c2 : Int) (c3 : ByteArray) (c4 : Int) (c5 : ByteArray) (c6 : Int) (c7 : Int) (c8 : ByteArray) (R
  : Ending → World → Prop) (w : World) : Prop := ∀ (k1 : Nat) (w2 : World), Step w w2 [] [k1] → Calls Proofs.Tryd.prog (20 : Nat) { toList := [Value.int IntKind.i64 c0] }
  w2 fun (e4 : Ending) (w5 : World) => ∃ (b6 : Bool), ∃ (s7 : ByteArray), ∃ (n8 : Int), e4 = Ending.returned (Value.agg { toList := [Value.bool b6, Value.string s7, Value.int IntKind.i64 n8] })
  ∧ Keep [k1] w2 w5 ∧ ∀ (k9 : Nat) (y10 : Option Addr → Nat → Nat → World → Prop), (∀ (p11 : Option Addr) (k12 k13 : Nat) (w14 : World),
  (Calls Proofs.Tryd.prog (18 : Nat) { toList := [Value.slice p11 k12 k13] } w14 fun (e15 : Ending) (w16 : World) => ∃ (p17 : Option Addr),
  ∃ (k18 : Nat), ∃ (k19 : Nat), ∃ (n20 : Int), e15 = Ending.returned (Value.tuple { toList := [Value.slice p17 k18 k19, Value.int IntKind.i64 n20] })
  ∧ Keep [k1] w14 w16 ∧ ∀ (k21 : Nat) (w22 : World), Step w16 w22 [] [k21] → Blk w22 k21 (spl (reps [Value.int IntKind.u8 (0 : Int)] 1) 0
  [Value.int IntKind.u8 (IntKind.wrap IntKind.u8 (k18 : Int))]) → ∃ (l25 : List Value), List.length l25 = k18 * 1 ∧ Row w22 p17 l25 ∧
  appendP true [] [] [k1] w22 (some { block := k21, off := 0 }) 1 1 k18 l25 1 1 [Value.int IntKind.u8 (0 : Int)] fun (w26 : World) (p27 :
  Option Addr) (k28 k29 : Nat) => ∀ (y30 : Option Addr → Nat → Nat → World → Prop), (∀ (p31 : Option Addr) (k32 k33 : Nat) (w34 : World), R
  (Ending.returned (Value.slice p31 k32 k33)) w34 → y30 p31 k32 k33 w34) → bcase (decide (c0 = (5 : Int))) (Calls Proofs.Tryd.prog (66 :
  Nat) { toList := [Value.agg { toList := [Value.int IntKind.i64 c6, Value.int IntKind.i64 c7, Value.string c8] }] } w26 fun (e37 : Ending)
  (w38 : World) => ∃ (p39 : Option Addr), ∃ (k40 : Nat), ∃ (k41 : Nat), ∃ (n42 : Int), e37 = Ending.returned (Value.tuple { toList := [Value.slice p39 k40 k41, Value.int IntKind.i64 n42] })
  ∧ Keep [k1] w26 w38 ∧ ∃ (l43 : List Value), List.length l43 = k40 * 1 ∧ Row w38 p39 l43 ∧ appendP true [] [] [k1] w38 p27 k28 k29 k40 l43
  1 1 [Value.int IntKind.u8 (0 : Int)] fun (w44 : World) (p45 : Option Addr) (k46 k47 : Nat) => y30 p45 k46 k47 w44) (y30 p27 k28 k29 w26))
  → y10 p11 k12 k13 w14) → ∀ (y50 : Bool → World → Prop), (∀ (b51 : Bool) (w52 : World), bcase b51 (Calls Proofs.Tryd.prog (20 : Nat) { toList := [Value.int IntKind.i64 c1] }
  w52 fun (e53 : Ending) (w54 : World) => ∃ (b55 : Bool), ∃ (s56 : ByteArray), ∃ (n57 : Int), e53 = Ending.returned (Value.agg { toList := [Value.bool b55, Value.string s56, Value.int IntKind.i64 n57] })
  ∧ Keep [k1, k9] w52 w54 ∧ ∀ (k58 : Nat) (w59 : World), Step w54 w59 [] [k58] → Blk w59 k9 (spl (reps [Value.bool false, Value.string
  { data := { toList := [] } }, Value.int IntKind.i64 (0 : Int)] 1) 0 [Value.bool b6, Value.string s7, Value.int IntKind.i64 n8]) → appendP
  true [] [] [k1, k58] w59 (some { block := k9, off := 0 }) 1 1 1 (spl (reps [Value.bool false, Value.string { data := { toList := [] } },
  Value.int IntKind.i64 (0 : Int)] 1) 0 [Value.bool b55, Value.string s56, Value.int IntKind.i64 n57]) 3 32 [Value.bool false, Value.string
  { data := { toList := [] } }, Value.int IntKind.i64 (0 : Int)] fun (w62 : World) (p63 : Option Addr) (k64 k65 : Nat) => y10 p63 k64 k65
  w62) (∀ (y66 : Bool → World → Prop), (∀ (b67 : Bool) (w68 : World), bcase b67 (∀ (w69 : World), Step w68 w69 [] [] → Calls
  Proofs.Tryd.prog (20 : Nat) { toList := [Value.int IntKind.i64 c2] } w69 fun (e71 : Ending) (w72 : World) => ∃ (b73 : Bool), ∃ (s74 :
  ByteArray), ∃ (n75 : Int), e71 = Ending.returned (Value.agg { toList := [Value.bool b73, Value.string s74, Value.int IntKind.i64 n75] }) ∧
  Keep [k1, k9] w69 w72 ∧ Calls Proofs.Tryd.prog (52 : Nat) { toList := [Value.string c3] } w72 fun (e76 : Ending) (w77 : World) => ∃ (b78 :
  Bool), ∃ (s79 : ByteArray), ∃ (n80 : Int), e76 = Ending.returned (Value.agg { toList := [Value.bool b78, Value.string s79, Value.int IntKind.i64 n80] })
  ∧ Keep [k1, k9] w72 w77 ∧ Calls Proofs.Tryd.prog (20 : Nat) { toList := [Value.int IntKind.i64 c4] } w77 fun (e81 : Ending) (w82 : World)
  => ∃ (b83 : Bool), ∃ (s84 : ByteArray), ∃ (n85 : Int), e81 = Ending.returned (Value.agg { toList := [Value.bool b83, Value.string s84, Value.int IntKind.i64 n85] })
  ∧ Keep [k1, k9] w77 w82 ∧ ∀ (k86 : Nat) (w87 : World), Step w82 w87 [] [k86] → Blk w87 k9 (spl (reps [Value.bool false, Value.string
  { data := { toList := [] } }, Value.int IntKind.i64 (0 : Int)] 1) 0 [Value.bool b6, Value.string s7, Value.int IntKind.i64 n8]) → appendP
  true [] [] [k1, k86] w87 (some { block := k9, off := 0 }) 1 1 3 (spl (spl (spl (reps [Value.bool false, Value.string
  { data := { toList := [] } }, Value.int IntKind.i64 (0 : Int)] 3) 0 [Value.bool b73, Value.string s74, Value.int IntKind.i64 n75]) 3
  [Value.bool b78, Value.string s79, Value.int IntKind.i64 n80]) 6 [Value.bool b83, Value.string s84, Value.int IntKind.i64 n85]) 3 32
  [Value.bool false, Value.string { data := { toList := [] } }, Value.int IntKind.i64 (0 : Int)] fun (w90 : World) (p91 : Option Addr) (k92
  k93 : Nat) => y10 p91 k92 k93 w90) (∀ (w94 : World), Step w68 w94 [] [] → Calls Proofs.Tryd.prog (20 : Nat) { toList := [Value.int IntKind.i64 c1] }
  w94 fun (e96 : Ending) (w97 : World) => ∃ (b98 : Bool), ∃ (s99 : ByteArray), ∃ (n100 : Int), e96 = Ending.returned (Value.agg { toList := [Value.bool b98, Value.string s99, Value.int IntKind.i64 n100] })
  ∧ Keep [k1, k9] w94 w97 ∧ Calls Proofs.Tryd.prog (52 : Nat) { toList := [Value.string c5] } w97 fun (e101 : Ending) (w102 : World) => ∃
  (b103 : Bool), ∃ (s104 : ByteArray), ∃ (n105 : Int), e101 = Ending.returned (Value.agg { toList := [Value.bool b103, Value.string s104, Value.int IntKind.i64 n105] })
  ∧ Keep [k1, k9] w97 w102 ∧ ∀ (k106 : Nat) (w107 : World), Step w102 w107 [] [k106] → Blk w107 k9 (spl (reps [Value.bool false,
  Value.string { data := { toList := [] } }, Value.int IntKind.i64 (0 : Int)] 1) 0 [Value.bool b6, Value.string s7, Value.int IntKind.i64
  n8]) → appendP true [] [] [k1, k106] w107 (some { block := k9, off := 0 }) 1 1 2 (spl (spl (reps [Value.bool false, Value.string
  { data := { toList := [] } }, Value.int IntKind.i64 (0 : Int)] 2) 0 [Value.bool b98, Value.string s99, Value.int IntKind.i64 n100]) 3
  [Value.bool b103, Value.string s104, Value.int IntKind.i64 n105]) 3 32 [Value.bool false, Value.string { data := { toList := [] } },
  Value.int IntKind.i64 (0 : Int)] fun (w110 : World) (p111 : Option Addr) (k112 k113 : Nat) => y10 p111 k112 k113 w110) → y66 b67 w68) →
  bcase (decide (c0 = (3 : Int))) (y66 true w52) (y66 (decide (c0 = (4 : Int))) w52)) → y50 b51 w52) → bcase (decide (c0 = (1 : Int))) (∀
  (w118 : World), Step w5 w118 [] [k9] → y50 true w118) (∀ (w120 : World), Step w5 w120 [] [k9] → y50 (decide (c0 = (2 : Int))) w120)

theorem record_change.link {c0 : Int} {c1 : Int} {c2 : Int} {c3 : ByteArray} {c4 : Int} {c5 : ByteArray} {c6 : Int} {c7 : Int} {c8 : ByteArray} {R : Ending → World → Prop} {w : World} (h : record_change.vc c0 c1 c2 c3 c4 c5 c6 c7 c8 R w) : Calls Go.Proofs.Tryd.prog 100 #[(.agg #[.int .i64 c0, .int .i64 c1, .int .i64 c2, .string c3, .int .i64 c4, .string c5, .int .i64 c6, .int .i64 c7, .string c8] : Value)] w R :=
  calls_of pf (fn := Go.Proofs.Tryd.f100) (ann := .s (.n) (.s (.n) (.j ⟨[], [], [0], [(3, .l (.sl))], []⟩ (.s (.n) (.b (.j ⟨[], [], [0, 1], [(23, .l (.b))], []⟩ (.s (.n) (.c (.n) (.n))) (.c (.n) (.j ⟨[], [], [0, 1], [(32, .l (.b))], []⟩ (.s (.n) (.c (.n) (.n))) (.c (.d [0]) (.d [0]))))))) (.s (.n) (.s (.n) (.j ⟨[], [], [], [(4, .l (.sl))], []⟩ (.s (.n) (.c (.s (.n) (.n)) (.n))) (.s (.n) (.n)))))))) (mp := false) (args := [.v (.agg #[.int .i64 c0, .int .i64 c1, .int .i64 c2, .string c3, .int .i64 c4, .string c5, .int .i64 c6, .int .i64 c7, .string c8])]) Go.Proofs.Tryd.func100 (c := Go.Proofs.Tryd.f100.body.getD .skip) (by kernel_rfl) (by kernel_rfl) (Eq.mp (by kernel_rfl) h)
theorem record_change.body : BodyOk Go.Proofs.Tryd.prog 100 := ⟨Go.Proofs.Tryd.f100, Go.Proofs.Tryd.func100, by kernel_rfl, pf.ng _ _ Go.Proofs.Tryd.func100⟩

/-! ### slices.ContainsFunc[[]rhizome/api.Change,rhizome/api.Change]: function 98 -/
def slices_ContainsFunc_g_api_Change.vc (sA : Option Addr) (sL sC : Nat) (f : Nat) (fcap : Array Value) (R : Ending → World → Prop) (w :
  World) : Prop := Calls Proofs.Tryd.prog (143 : Nat) { toList := [Value.slice sA sL sC, Value.func (Fn.func f) { toList := [] } fcap] } w
  fun (e1 : Ending) (w2 : World) => ∃ (n3 : Int), e1 = Ending.returned (Value.int IntKind.i64 n3) ∧ R (Ending.returned (Value.bool (decide
  ((0 : Int) ≤ n3)))) w2

theorem slices_ContainsFunc_g_api_Change.link {sA : Option Addr} {sL sC : Nat} {f : Nat} {fcap : Array Value} {R : Ending → World → Prop} {w : World} (h : slices_ContainsFunc_g_api_Change.vc sA sL sC f fcap R w) : Calls Go.Proofs.Tryd.prog 98 #[.slice sA sL sC, .func (.func f) #[] fcap] w R :=
  calls_of pf (fn := Go.Proofs.Tryd.f98) (ann := .s (.n) (.s (.n) (.n))) (mp := false) (args := [.v (.slice sA sL sC), .v (.func (.func f) #[] fcap)]) Go.Proofs.Tryd.func98 (c := Go.Proofs.Tryd.f98.body.getD .skip) (by kernel_rfl) (by kernel_rfl) (Eq.mp (by kernel_rfl) h)
theorem slices_ContainsFunc_g_api_Change.body : BodyOk Go.Proofs.Tryd.prog 98 := ⟨Go.Proofs.Tryd.f98, Go.Proofs.Tryd.func98, by kernel_rfl, pf.ng _ _ Go.Proofs.Tryd.func98⟩

/-! ### slices.IndexFunc[[]rhizome/api.Change,rhizome/api.Change]: function 143 -/
def slices_IndexFunc_g_api_Change.vc (sA : Option Addr) (sL sC : Nat) (f : Nat) (fcap : Array Value) (R : Ending → World → Prop) (w : World)
  : Prop := ∃ (y1 : Nat → Int → World → Prop), ∃ (k2 : Nat), y1 k2 (0 : Int) w ∧ ∀ (k3 : Nat) (n4 : Int) (w5 : World), y1 k3 n4 w5 → bcase
  (decide (n4 < (sL : Int))) (∃ (ad7 : Addr), sA = some ad7 ∧ ((0 : Int) ≤ n4 ∧ n4 < (sL : Int)) ∧ ∃ (n8 : Int), ∃ (n9 : Int), ∃ (n10 :
  Int), ∃ (s11 : ByteArray), ∃ (n12 : Int), ∃ (s13 : ByteArray), ∃ (n14 : Int), ∃ (n15 : Int), ∃ (s16 : ByteArray), (World.cell? w5
  (Addr.add (Addr.add ad7 (Int.toNat n4 * 9)) 0) = some (Value.int IntKind.i64 n8) ∧ World.cell? w5 (Addr.add (Addr.add ad7 (Int.toNat n4 *
  9)) 1) = some (Value.int IntKind.i64 n9) ∧ World.cell? w5 (Addr.add (Addr.add ad7 (Int.toNat n4 * 9)) 2) = some (Value.int IntKind.i64
  n10) ∧ World.cell? w5 (Addr.add (Addr.add ad7 (Int.toNat n4 * 9)) 3) = some (Value.string s11) ∧ World.cell? w5 (Addr.add (Addr.add ad7
  (Int.toNat n4 * 9)) 4) = some (Value.int IntKind.i64 n12) ∧ World.cell? w5 (Addr.add (Addr.add ad7 (Int.toNat n4 * 9)) 5) = some
  (Value.string s13) ∧ World.cell? w5 (Addr.add (Addr.add ad7 (Int.toNat n4 * 9)) 6) = some (Value.int IntKind.i64 n14) ∧ World.cell? w5
  (Addr.add (Addr.add ad7 (Int.toNat n4 * 9)) 7) = some (Value.int IntKind.i64 n15) ∧ World.cell? w5 (Addr.add (Addr.add ad7 (Int.toNat n4 *
  9)) 8) = some (Value.string s16) ∧ True) ∧ BodyOk Proofs.Tryd.prog f ∧ Calls Proofs.Tryd.prog f { toList := Value.agg { toList := [Value.int IntKind.i64 n8, Value.int IntKind.i64 n9, Value.int IntKind.i64 n10, Value.string s11, Value.int IntKind.i64 n12, Value.string s13, Value.int IntKind.i64 n14, Value.int IntKind.i64 n15, Value.string s16] } :: List.append [] (Array.toList fcap) }
  w5 fun (e17 : Ending) (w18 : World) => ∃ (b19 : Bool), e17 = Ending.returned (Value.bool b19) ∧ bcase b19 (R (Ending.returned (Value.int
  IntKind.i64 n4)) w18) (∃ (k20 : Nat), k20 < k3 ∧ y1 k20 (IntKind.wrap IntKind.i64 (n4 + (1 : Int))) w18)) (R (Ending.returned (Value.int
  IntKind.i64 (-1 : Int))) w5)

theorem slices_IndexFunc_g_api_Change.link {sA : Option Addr} {sL sC : Nat} {f : Nat} {fcap : Array Value} {R : Ending → World → Prop} {w : World} (h : slices_IndexFunc_g_api_Change.vc sA sL sC f fcap R w) : Calls Go.Proofs.Tryd.prog 143 #[.slice sA sL sC, .func (.func f) #[] fcap] w R :=
  calls_of pf (fn := Go.Proofs.Tryd.f143) (ann := .s (.n) (.s (.s (.n) (.b (.l ⟨[], [], [], [(8, .l (.i .i64))], []⟩ (.s (.n) (.s (.c (.n) (.n)) (.s (.b (.s (.n) (.s (.n) (.c (.s (.n) (.n)) (.n))))) (.n))))))) (.s (.n) (.n)))) (mp := false) (args := [.v (.slice sA sL sC), .v (.func (.func f) #[] fcap)]) Go.Proofs.Tryd.func143 (c := Go.Proofs.Tryd.f143.body.getD .skip) (by kernel_rfl) (by kernel_rfl) (Eq.mp (by kernel_rfl) h)
theorem slices_IndexFunc_g_api_Change.body : BodyOk Go.Proofs.Tryd.prog 143 := ⟨Go.Proofs.Tryd.f143, Go.Proofs.Tryd.func143, by kernel_rfl, pf.ng _ _ Go.Proofs.Tryd.func143⟩

/-! ### rhizome/record.Encode_1: function 99 -/
def record_Encode_1.vc (c0 : Int) (c1 : Int) (c2 : Int) (c3 : ByteArray) (c4 : Int) (c5 : ByteArray) (c6 : Int) (c7 : Int) (c8 : ByteArray)
  (R : Ending → World → Prop) (w : World) : Prop := ∀ (k1 : Nat) (w2 : World), Step w w2 [] [k1] → Calls Proofs.Tryd.prog (43 : Nat) { toList := [Value.agg { toList := [Value.int IntKind.i64 c0, Value.int IntKind.i64 c1, Value.int IntKind.i64 c2, Value.string c3, Value.int IntKind.i64 c4, Value.string c5, Value.int IntKind.i64 c6, Value.int IntKind.i64 c7, Value.string c8] }] }
  w2 fun (e4 : Ending) (w5 : World) => ∃ (n6 : Int), e4 = Ending.returned (Value.int IntKind.i64 n6) ∧ Keep [k1] w2 w5 ∧ R (Ending.returned
  (Value.bool !decide (n6 = (0 : Int)))) w5

theorem record_Encode_1.link {c0 : Int} {c1 : Int} {c2 : Int} {c3 : ByteArray} {c4 : Int} {c5 : ByteArray} {c6 : Int} {c7 : Int} {c8 : ByteArray} {R : Ending → World → Prop} {w : World} (h : record_Encode_1.vc c0 c1 c2 c3 c4 c5 c6 c7 c8 R w) : Calls Go.Proofs.Tryd.prog 99 #[(.agg #[.int .i64 c0, .int .i64 c1, .int .i64 c2, .string c3, .int .i64 c4, .string c5, .int .i64 c6, .int .i64 c7, .string c8] : Value)] w R :=
  calls_of pf (fn := Go.Proofs.Tryd.f99) (ann := .s (.n) (.s (.n) (.n))) (mp := false) (args := [.v (.agg #[.int .i64 c0, .int .i64 c1, .int .i64 c2, .string c3, .int .i64 c4, .string c5, .int .i64 c6, .int .i64 c7, .string c8])]) Go.Proofs.Tryd.func99 (c := Go.Proofs.Tryd.f99.body.getD .skip) (by kernel_rfl) (by kernel_rfl) (Eq.mp (by kernel_rfl) h)
theorem record_Encode_1.body : BodyOk Go.Proofs.Tryd.prog 99 := ⟨Go.Proofs.Tryd.f99, Go.Proofs.Tryd.func99, by kernel_rfl, pf.ng _ _ Go.Proofs.Tryd.func99⟩

/-! ### rhizome/rhizomelaw15.awake: function 42 -/
def rhizomelaw15_awake.vc (R : Ending → World → Prop) (w : World) : Prop := Calls Proofs.Tryd.prog (45 : Nat) { toList := [Value.agg { toList := spl (spl [Value.int IntKind.i64 (0 : Int), Value.slice none 0 0, Value.string { data := { toList := [] } }, Value.int IntKind.i64 (0 : Int), Value.slice none 0 0, Value.slice none 0 0, Value.string { data := { toList := [] } }, Value.string { data := { toList := [] } }] 0 [Value.int IntKind.i64 (3 : Int)]) 7 [Value.string { data := { toList := [(102 : UInt8)] } }] }] }
  w fun (e1 : Ending) (w2 : World) => ∃ (p3 : Option Addr), ∃ (k4 : Nat), ∃ (k5 : Nat), ∃ (n6 : Int), e1 = Ending.returned (Value.tuple { toList := [Value.slice p3 k4 k5, Value.int IntKind.i64 n6] })
  ∧ ∀ (k7 : Nat) (w8 : World), Step w2 w8 [] [k7] → Blk w8 k7 (spl (reps [Value.int IntKind.i64 (0 : Int), Value.int IntKind.i64 (0 : Int),
  Value.int IntKind.i64 (0 : Int), Value.string { data := { toList := [] } }, Value.int IntKind.i64 (0 : Int), Value.string
  { data := { toList := [] } }, Value.int IntKind.i64 (0 : Int), Value.int IntKind.i64 (0 : Int), Value.string { data := { toList := [] } }]
  1) 0 (spl (spl [Value.int IntKind.i64 (0 : Int), Value.int IntKind.i64 (0 : Int), Value.int IntKind.i64 (0 : Int), Value.string
  { data := { toList := [] } }, Value.int IntKind.i64 (0 : Int), Value.string { data := { toList := [] } }, Value.int IntKind.i64 (0 : Int),
  Value.int IntKind.i64 (0 : Int), Value.string { data := { toList := [] } }] 0 [Value.int IntKind.i64 (1 : Int)]) 1 [Value.int IntKind.i64
  (1 : Int)])) → Calls Proofs.Tryd.prog (45 : Nat) { toList := [Value.agg { toList := spl (spl [Value.int IntKind.i64 (0 : Int), Value.slice none 0 0, Value.string { data := { toList := [] } }, Value.int IntKind.i64 (0 : Int), Value.slice none 0 0, Value.slice none 0 0, Value.string { data := { toList := [] } }, Value.string { data := { toList := [] } }] 0 [Value.int IntKind.i64 (1 : Int)]) 1 [Value.slice (some { block := k7, off := 0 }) 1 1] }] }
  w8 fun (e11 : Ending) (w12 : World) => ∃ (p13 : Option Addr), ∃ (k14 : Nat), ∃ (k15 : Nat), ∃ (n16 : Int), e11 = Ending.returned
  (Value.tuple { toList := [Value.slice p13 k14 k15, Value.int IntKind.i64 n16] }) ∧ ∀ (y17 : Bool → World → Prop), (∀ (b18 : Bool) (w19 :
  World), R (Ending.returned (Value.bool b18)) w19 → y17 b18 w19) → bcase (decide (n6 = (0 : Int))) (∃ (l22 : List UInt8), List.length l22 =
  k4 ∧ (∀ (k23 : Nat), k23 < k4 → ∃ (ad25 : Addr), p3 = some ad25 ∧ World.cell? w12 (Addr.add ad25 k23) = some (Value.int IntKind.u8
  ((UInt8.toNat (List.getD l22 k23 (0 : UInt8))) : Int))) ∧ bcase (decide ((ByteArray.mk (Array.mk l22)) =
  { data := #[(3 : UInt8), (102 : UInt8)] })) (bcase (decide (n16 = (0 : Int))) (bcase (decide ((k14 : Int) = (21 : Int))) (((0 : Int) ≤ (0
  : Int) ∧ (0 : Int) ≤ (3 : Int) ∧ (3 : Int) ≤ (k15 : Int)) ∧ ∃ (l26 : List UInt8), List.length l26 = 3 ∧ (∀ (k27 : Nat), k27 < 3 → ∃ (ad29
  : Addr), subA p13 0 k15 1 = some ad29 ∧ World.cell? w12 (Addr.add ad29 k27) = some (Value.int IntKind.u8 ((UInt8.toNat (List.getD l26 k27
  (0 : UInt8))) : Int))) ∧ y17 (decide ((ByteArray.mk (Array.mk l26)) = { data := #[(1 : UInt8), (1 : UInt8), (18 : UInt8)] })) w12) (y17
  false w12)) (y17 false w12)) (y17 false w12)) (y17 false w12)

theorem rhizomelaw15_awake.link {_u : Unit} {R : Ending → World → Prop} {w : World} (h : rhizomelaw15_awake.vc  R w) : Calls Go.Proofs.Tryd.prog 42 #[] w R :=
  calls_of pf (fn := Go.Proofs.Tryd.f42) (ann := .s (.n) (.s (.n) (.s (.n) (.j ⟨[], [], [], [(0, .l (.b))], []⟩ (.n) (.n))))) (mp := false) (args := []) Go.Proofs.Tryd.func42 (c := Go.Proofs.Tryd.f42.body.getD .skip) (by kernel_rfl) (by kernel_rfl) (Eq.mp (by kernel_rfl) h)
theorem rhizomelaw15_awake.body : BodyOk Go.Proofs.Tryd.prog 42 := ⟨Go.Proofs.Tryd.f42, Go.Proofs.Tryd.func42, by kernel_rfl, pf.ng _ _ Go.Proofs.Tryd.func42⟩

/-! ### rhizome/rhizomelaw15.RecordForms: function 12 -/
def rhizomelaw15_RecordForms.vc (c0 : Int) (c1 : Int) (c2 : Int) (c3 : ByteArray) (c4 : Int) (c5 : ByteArray) (c6 : Int) (c7 : Int) (c8 :
  ByteArray) (R : Ending → World → Prop) (w : World) : Prop := ∀ (k1 : Nat) (y2 : Bool → World → Prop), (∀ (b3 : Bool) (w4 : World), bcase
  b3 (Calls Proofs.Tryd.prog (42 : Nat) { toList := [] } w4 fun (e5 : Ending) (w6 : World) => ∃ (b7 : Bool), e5 = Ending.returned
  (Value.bool b7) ∧ Keep [k1] w4 w6 ∧ R (Ending.returned (Value.bool b7)) w6) (Calls Proofs.Tryd.prog (43 : Nat) { toList := [Value.agg { toList := [Value.int IntKind.i64 c0, Value.int IntKind.i64 c1, Value.int IntKind.i64 c2, Value.string c3, Value.int IntKind.i64 c4, Value.string c5, Value.int IntKind.i64 c6, Value.int IntKind.i64 c7, Value.string c8] }] }
  w4 fun (e8 : Ending) (w9 : World) => ∃ (n10 : Int), e8 = Ending.returned (Value.int IntKind.i64 n10) ∧ Keep [k1] w4 w9 ∧ ∀ (y11 : Bool →
  World → Prop), (∀ (b12 : Bool) (w13 : World), R (Ending.returned (Value.bool b12)) w13 → y11 b12 w13) → Calls Proofs.Tryd.prog (44 : Nat)
  { toList := [Value.agg { toList := [Value.int IntKind.i64 c0, Value.int IntKind.i64 c1, Value.int IntKind.i64 c2, Value.string c3, Value.int IntKind.i64 c4, Value.string c5, Value.int IntKind.i64 c6, Value.int IntKind.i64 c7, Value.string c8] }] }
  w9 fun (e16 : Ending) (w17 : World) => ∃ (b18 : Bool), e16 = Ending.returned (Value.bool b18) ∧ Keep [k1] w9 w17 ∧ bcase (decide (n10 = (0
  : Int)) == b18) (bcase (decide (n10 = (0 : Int))) (y11 true w17) (y11 (decide (n10 = (1 : Int))) w17)) (y11 false w17)) → y2 b3 w4) → ∀
  (w21 : World), Step w w21 [] [k1] → Calls Proofs.Tryd.prog (42 : Nat) { toList := [] } w21 fun (e23 : Ending) (w24 : World) => ∃ (b25 :
  Bool), e23 = Ending.returned (Value.bool b25) ∧ Keep [k1] w21 w24 ∧ bcase (!b25) (y2 true w24) (y2 (decide ((2000 : Int) < IntKind.wrap
  IntKind.i64 (IntKind.wrap IntKind.i64 (((ByteArray.size c5) : Int) + ((ByteArray.size c3) : Int)) + ((ByteArray.size c8) : Int)))) w24)

theorem rhizomelaw15_RecordForms.link {c0 : Int} {c1 : Int} {c2 : Int} {c3 : ByteArray} {c4 : Int} {c5 : ByteArray} {c6 : Int} {c7 : Int} {c8 : ByteArray} {R : Ending → World → Prop} {w : World} (h : rhizomelaw15_RecordForms.vc c0 c1 c2 c3 c4 c5 c6 c7 c8 R w) : Calls Go.Proofs.Tryd.prog 12 #[(.agg #[.int .i64 c0, .int .i64 c1, .int .i64 c2, .string c3, .int .i64 c4, .string c5, .int .i64 c6, .int .i64 c7, .string c8] : Value)] w R :=
  calls_of pf (fn := Go.Proofs.Tryd.f12) (ann := .s (.n) (.s (.j ⟨[], [], [0], [(21, .l (.b))], []⟩ (.n) (.c (.s (.n) (.n)) (.n))) (.s (.n) (.j ⟨[], [], [], [(2, .l (.b))], []⟩ (.n) (.n))))) (mp := false) (args := [.v (.agg #[.int .i64 c0, .int .i64 c1, .int .i64 c2, .string c3, .int .i64 c4, .string c5, .int .i64 c6, .int .i64 c7, .string c8])]) Go.Proofs.Tryd.func12 (c := Go.Proofs.Tryd.f12.body.getD .skip) (by kernel_rfl) (by kernel_rfl) (Eq.mp (by kernel_rfl) h)
theorem rhizomelaw15_RecordForms.body : BodyOk Go.Proofs.Tryd.prog 12 := ⟨Go.Proofs.Tryd.f12, Go.Proofs.Tryd.func12, by kernel_rfl, pf.ng _ _ Go.Proofs.Tryd.func12⟩

/-! ### rhizome/rhizomelaw15.RecordLong: function 13 -/
def rhizomelaw15_RecordLong.vc (size : Int) (R : Ending → World → Prop) (w : World) : Prop := Calls Proofs.Tryd.prog (42 : Nat) { toList := [] }
  w fun (e1 : Ending) (w2 : World) => ∃ (b3 : Bool), e1 = Ending.returned (Value.bool b3) ∧ bcase (!b3) (R (Ending.returned (Value.bool
  false)) w2) ((65 : Int) ≠ (0 : Int) ∧ ((0 : Int) ≤ IntKind.wrap IntKind.i64 (Int.tmod (IntKind.wrap IntKind.u64 size) (65 : Int)) ∧
  IntKind.wrap IntKind.i64 (Int.tmod (IntKind.wrap IntKind.u64 size) (65 : Int)) ≤ IntKind.wrap IntKind.i64 (Int.tmod (IntKind.wrap
  IntKind.u64 size) (65 : Int)) ∧ ((1 : Nat) : Int) * IntKind.wrap IntKind.i64 (Int.tmod (IntKind.wrap IntKind.u64 size) (65 : Int)) ≤
  (281474976710656 : Int) ∧ IntKind.wrap IntKind.i64 (Int.tmod (IntKind.wrap IntKind.u64 size) (65 : Int)) ≤ (281474976710656 : Int)) ∧ ∀
  (w4 : World) (k5 : Nat), Step w2 w4 [] [k5] → (Blk w4 k5 (reps [Value.int IntKind.u8 (0 : Int)] (Int.toNat (IntKind.wrap IntKind.i64
  (Int.tmod (IntKind.wrap IntKind.u64 size) (65 : Int))))) ∧ ∀ (y7 : Array Value) (k8 k9 k10 : Nat), (World.heap w4)[k5]? = some (Obj.cells
  y7 k8 (k9, k10)) → k10 ≤ k9) → ∃ (y13 : Nat → Int → World → Prop), ∃ (k14 : Nat), y13 k14 (0 : Int) w4 ∧ ∀ (k15 : Nat) (n16 : Int) (w17 :
  World), y13 k15 n16 w17 → bcase (decide (n16 < ((Int.toNat (IntKind.wrap IntKind.i64 (Int.tmod (IntKind.wrap IntKind.u64 size) (65 :
  Int)))) : Int))) (∃ (ad19 : Addr), some { block := k5, off := 0 } = some ad19 ∧ ((0 : Int) ≤ n16 ∧ n16 < ((Int.toNat (IntKind.wrap
  IntKind.i64 (Int.tmod (IntKind.wrap IntKind.u64 size) (65 : Int)))) : Int)) ∧ ∃ (l20 : List Value), Blk w17 (Addr.block (Addr.add ad19
  (Int.toNat n16 * 1))) l20 ∧ Addr.spot (Addr.add ad19 (Int.toNat n16 * 1)) = none ∧ Addr.off (Addr.add ad19 (Int.toNat n16 * 1)) + 1 ≤
  List.length l20 ∧ ∀ (w21 : World), Upd w17 w21 (Addr.block (Addr.add ad19 (Int.toNat n16 * 1))) (sets l20 (Addr.off (Addr.add ad19
  (Int.toNat n16 * 1))) [Value.int IntKind.u8 (120 : Int)]) → ∃ (k23 : Nat), k23 < k15 ∧ y13 k23 (IntKind.wrap IntKind.i64 (n16 + (1 :
  Int))) w21) (∃ (l24 : List UInt8), List.length l24 = Int.toNat (IntKind.wrap IntKind.i64 (Int.tmod (IntKind.wrap IntKind.u64 size) (65 :
  Int))) ∧ (∀ (k25 : Nat), k25 < Int.toNat (IntKind.wrap IntKind.i64 (Int.tmod (IntKind.wrap IntKind.u64 size) (65 : Int))) → ∃ (ad27 :
  Addr), some { block := k5, off := 0 } = some ad27 ∧ World.cell? w17 (Addr.add ad27 k25) = some (Value.int IntKind.u8 ((UInt8.toNat
  (List.getD l24 k25 (0 : UInt8))) : Int))) ∧ ∀ (k28 k29 : Nat) (w30 : World), Step w17 w30 [] [k29, k28] → Blk w30 k29 (spl (reps
  [Value.int IntKind.i64 (0 : Int), Value.int IntKind.i64 (0 : Int), Value.int IntKind.i64 (0 : Int), Value.string
  { data := { toList := [] } }, Value.int IntKind.i64 (0 : Int), Value.string { data := { toList := [] } }, Value.int IntKind.i64 (0 : Int),
  Value.int IntKind.i64 (0 : Int), Value.string { data := { toList := [] } }] 1) 0 (List.take 9 (List.drop 0 (sets [Value.int IntKind.i64 (0
  : Int), Value.int IntKind.i64 (0 : Int), Value.int IntKind.i64 (0 : Int), Value.string { data := { toList := [] } }, Value.int IntKind.i64
  (0 : Int), Value.string { data := { toList := [] } }, Value.int IntKind.i64 (0 : Int), Value.int IntKind.i64 (0 : Int), Value.string
  { data := { toList := [] } }] 0 (spl (spl (spl (spl [Value.int IntKind.i64 (0 : Int), Value.int IntKind.i64 (0 : Int), Value.int
  IntKind.i64 (0 : Int), Value.string { data := { toList := [] } }, Value.int IntKind.i64 (0 : Int), Value.string
  { data := { toList := [] } }, Value.int IntKind.i64 (0 : Int), Value.int IntKind.i64 (0 : Int), Value.string { data := { toList := [] } }]
  0 [Value.int IntKind.i64 (5 : Int)]) 1 [Value.int IntKind.i64 (1 : Int)]) 5 [Value.string { data := { toList := [(107 : UInt8)] } }]) 6
  (spl (spl [Value.int IntKind.i64 (0 : Int), Value.int IntKind.i64 (0 : Int), Value.string { data := { toList := [] } }] 0 [Value.int
  IntKind.i64 (2 : Int)]) 2 [Value.string (ByteArray.mk (Array.mk l24))])))))) → Calls Proofs.Tryd.prog (45 : Nat) { toList := [Value.agg { toList := spl (spl [Value.int IntKind.i64 (0 : Int), Value.slice none 0 0, Value.string { data := { toList := [] } }, Value.int IntKind.i64 (0 : Int), Value.slice none 0 0, Value.slice none 0 0, Value.string { data := { toList := [] } }, Value.string { data := { toList := [] } }] 0 [Value.int IntKind.i64 (1 : Int)]) 1 [Value.slice (some { block := k29, off := 0 }) 1 1] }] }
  w30 fun (e33 : Ending) (w34 : World) => ∃ (p35 : Option Addr), ∃ (k36 : Nat), ∃ (k37 : Nat), ∃ (n38 : Int), e33 = Ending.returned
  (Value.tuple { toList := [Value.slice p35 k36 k37, Value.int IntKind.i64 n38] }) ∧ Keep [k28] w30 w34 ∧ ∀ (y39 : Bool → World → Prop), (∀
  (b40 : Bool) (w41 : World), bcase b40 (R (Ending.returned (Value.bool false)) w41) (IntKind.wrap IntKind.i64 ((k36 : Int) - (2 : Int)) ≠
  (0 : Int) ∧ ∃ (y42 : Nat → Option Addr → Nat → Nat → Int → World → Prop), ∃ (k43 : Nat), y42 k43 none 0 0 (0 : Int) w41 ∧ ∀ (k44 : Nat)
  (p45 : Option Addr) (k46 k47 : Nat) (n48 : Int) (w49 : World), y42 k44 p45 k46 k47 n48 w49 → bcase (decide (n48 < if (60 : Int) <
  IntKind.wrap IntKind.i64 (Int.tdiv (3998 : Int) (IntKind.wrap IntKind.i64 ((k36 : Int) - (2 : Int)))) then (60 : Int) else IntKind.wrap
  IntKind.i64 (Int.tdiv (3998 : Int) (IntKind.wrap IntKind.i64 ((k36 : Int) - (2 : Int)))))) (∀ (k51 : Nat), appendP false [] [k51] [k28,
  k51] w49 p45 k46 k47 1 (spl (reps [Value.int IntKind.i64 (0 : Int), Value.int IntKind.i64 (0 : Int), Value.int IntKind.i64 (0 : Int),
  Value.string { data := { toList := [] } }, Value.int IntKind.i64 (0 : Int), Value.string { data := { toList := [] } }, Value.int
  IntKind.i64 (0 : Int), Value.int IntKind.i64 (0 : Int), Value.string { data := { toList := [] } }] 1) 0 (List.take 9 (List.drop 0 (sets
  [Value.int IntKind.i64 (0 : Int), Value.int IntKind.i64 (0 : Int), Value.int IntKind.i64 (0 : Int), Value.string
  { data := { toList := [] } }, Value.int IntKind.i64 (0 : Int), Value.string { data := { toList := [] } }, Value.int IntKind.i64 (0 : Int),
  Value.int IntKind.i64 (0 : Int), Value.string { data := { toList := [] } }] 0 (spl (spl (spl (spl [Value.int IntKind.i64 (0 : Int),
  Value.int IntKind.i64 (0 : Int), Value.int IntKind.i64 (0 : Int), Value.string { data := { toList := [] } }, Value.int IntKind.i64 (0 :
  Int), Value.string { data := { toList := [] } }, Value.int IntKind.i64 (0 : Int), Value.int IntKind.i64 (0 : Int), Value.string
  { data := { toList := [] } }] 0 [Value.int IntKind.i64 (5 : Int)]) 1 [Value.int IntKind.i64 (1 : Int)]) 5 [Value.string
  { data := { toList := [(107 : UInt8)] } }]) 6 (spl (spl [Value.int IntKind.i64 (0 : Int), Value.int IntKind.i64 (0 : Int), Value.string
  { data := { toList := [] } }] 0 [Value.int IntKind.i64 (2 : Int)]) 2 [Value.string (ByteArray.mk (Array.mk l24))])))))) 9 96 [Value.int
  IntKind.i64 (0 : Int), Value.int IntKind.i64 (0 : Int), Value.int IntKind.i64 (0 : Int), Value.string { data := { toList := [] } },
  Value.int IntKind.i64 (0 : Int), Value.string { data := { toList := [] } }, Value.int IntKind.i64 (0 : Int), Value.int IntKind.i64 (0 :
  Int), Value.string { data := { toList := [] } }] fun (w52 : World) (p53 : Option Addr) (k54 k55 : Nat) => ∃ (k56 : Nat), k56 < k44 ∧ y42
  k56 p53 k54 k55 (IntKind.wrap IntKind.i64 (n48 + (1 : Int))) w52) (Calls Proofs.Tryd.prog (45 : Nat) { toList := [Value.agg { toList := spl (spl [Value.int IntKind.i64 (0 : Int), Value.slice none 0 0, Value.string { data := { toList := [] } }, Value.int IntKind.i64 (0 : Int), Value.slice none 0 0, Value.slice none 0 0, Value.string { data := { toList := [] } }, Value.string { data := { toList := [] } }] 0 [Value.int IntKind.i64 (1 : Int)]) 1 [Value.slice p45 k46 k47] }] }
  w49 fun (e57 : Ending) (w58 : World) => ∃ (p59 : Option Addr), ∃ (k60 : Nat), ∃ (k61 : Nat), ∃ (n62 : Int), e57 = Ending.returned
  (Value.tuple { toList := [Value.slice p59 k60 k61, Value.int IntKind.i64 n62] }) ∧ Keep [k28] w49 w58 ∧ ∀ (k63 : Nat), appendP false []
  [k63] [k28, k63] w58 p45 k46 k47 1 (spl (reps [Value.int IntKind.i64 (0 : Int), Value.int IntKind.i64 (0 : Int), Value.int IntKind.i64 (0
  : Int), Value.string { data := { toList := [] } }, Value.int IntKind.i64 (0 : Int), Value.string { data := { toList := [] } }, Value.int
  IntKind.i64 (0 : Int), Value.int IntKind.i64 (0 : Int), Value.string { data := { toList := [] } }] 1) 0 (List.take 9 (List.drop 0 (sets
  [Value.int IntKind.i64 (0 : Int), Value.int IntKind.i64 (0 : Int), Value.int IntKind.i64 (0 : Int), Value.string
  { data := { toList := [] } }, Value.int IntKind.i64 (0 : Int), Value.string { data := { toList := [] } }, Value.int IntKind.i64 (0 : Int),
  Value.int IntKind.i64 (0 : Int), Value.string { data := { toList := [] } }] 0 (spl (spl (spl (spl [Value.int IntKind.i64 (0 : Int),
  Value.int IntKind.i64 (0 : Int), Value.int IntKind.i64 (0 : Int), Value.string { data := { toList := [] } }, Value.int IntKind.i64 (0 :
  Int), Value.string { data := { toList := [] } }, Value.int IntKind.i64 (0 : Int), Value.int IntKind.i64 (0 : Int), Value.string
  { data := { toList := [] } }] 0 [Value.int IntKind.i64 (5 : Int)]) 1 [Value.int IntKind.i64 (1 : Int)]) 5 [Value.string
  { data := { toList := [(107 : UInt8)] } }]) 6 (spl (spl [Value.int IntKind.i64 (0 : Int), Value.int IntKind.i64 (0 : Int), Value.string
  { data := { toList := [] } }] 0 [Value.int IntKind.i64 (2 : Int)]) 2 [Value.string (ByteArray.mk (Array.mk l24))])))))) 9 96 [Value.int
  IntKind.i64 (0 : Int), Value.int IntKind.i64 (0 : Int), Value.int IntKind.i64 (0 : Int), Value.string { data := { toList := [] } },
  Value.int IntKind.i64 (0 : Int), Value.string { data := { toList := [] } }, Value.int IntKind.i64 (0 : Int), Value.int IntKind.i64 (0 :
  Int), Value.string { data := { toList := [] } }] fun (w64 : World) (p65 : Option Addr) (k66 k67 : Nat) => Calls Proofs.Tryd.prog (45 :
  Nat) { toList := [Value.agg { toList := spl (spl [Value.int IntKind.i64 (0 : Int), Value.slice none 0 0, Value.string { data := { toList := [] } }, Value.int IntKind.i64 (0 : Int), Value.slice none 0 0, Value.slice none 0 0, Value.string { data := { toList := [] } }, Value.string { data := { toList := [] } }] 0 [Value.int IntKind.i64 (1 : Int)]) 1 [Value.slice p65 k66 k67] }] }
  w64 fun (e68 : Ending) (w69 : World) => ∃ (p70 : Option Addr), ∃ (k71 : Nat), ∃ (k72 : Nat), ∃ (n73 : Int), e68 = Ending.returned
  (Value.tuple { toList := [Value.slice p70 k71 k72, Value.int IntKind.i64 n73] }) ∧ Keep [k28, k63] w64 w69 ∧ bcase (decide (IntKind.wrap
  IntKind.i64 (Int.tdiv (3998 : Int) (IntKind.wrap IntKind.i64 ((k36 : Int) - (2 : Int)))) < (60 : Int))) (∀ (y74 : Bool → World → Prop), (∀
  (b75 : Bool) (w76 : World), R (Ending.returned (Value.bool b75)) w76 → y74 b75 w76) → bcase (decide (n62 = (0 : Int))) (y74 (decide (n73 =
  (3 : Int))) w69) (y74 false w69)) (∀ (y79 : Bool → World → Prop), (∀ (b80 : Bool) (w81 : World), R (Ending.returned (Value.bool b80)) w81
  → y79 b80 w81) → bcase (decide (n62 = (0 : Int))) (y79 (decide (n73 = (1 : Int))) w69) (y79 false w69)))) → y39 b40 w41) → bcase (!decide
  (n38 = (0 : Int))) (y39 true w34) (y39 (decide ((k36 : Int) < (4 : Int))) w34)))

theorem rhizomelaw15_RecordLong.link {size : Int} {R : Ending → World → Prop} {w : World} (h : rhizomelaw15_RecordLong.vc size R w) : Calls Go.Proofs.Tryd.prog 13 #[.int .i64 size] w R :=
  calls_of pf (fn := Go.Proofs.Tryd.f13) (ann := .s (.n) (.s (.s (.n) (.c (.s (.n) (.n)) (.n))) (.s (.n) (.s (.n) (.s (.s (.n) (.b (.l ⟨[], [], [], [(25, .l (.i .i64))], []⟩ (.s (.n) (.s (.c (.n) (.n)) (.s (.b (.s (.n) (.n))) (.n))))))) (.s (.n) (.s (.n) (.s (.j ⟨[], [], [0], [(49, .l (.b))], []⟩ (.n) (.c (.s (.n) (.n)) (.n))) (.s (.n) (.s (.n) (.s (.s (.n) (.b (.l ⟨[], [], [0], [(9, .l (.sl)), (10, .l (.i .i64))], []⟩ (.s (.s (.n) (.c (.n) (.n))) (.s (.b (.n)) (.n)))))) (.s (.n) (.s (.n) (.s (.s (.n) (.c (.j ⟨[], [], [], [(2, .l (.b))], []⟩ (.n) (.n)) (.n))) (.j ⟨[], [], [], [(2, .l (.b))], []⟩ (.n) (.n)))))))))))))))) (mp := false) (args := [.v (.int .i64 size)]) Go.Proofs.Tryd.func13 (c := Go.Proofs.Tryd.f13.body.getD .skip) (by kernel_rfl) (by kernel_rfl) (Eq.mp (by kernel_rfl) h)
theorem rhizomelaw15_RecordLong.body : BodyOk Go.Proofs.Tryd.prog 13 := ⟨Go.Proofs.Tryd.f13, Go.Proofs.Tryd.func13, by kernel_rfl, pf.ng _ _ Go.Proofs.Tryd.func13⟩

end Go.Proofs.YtalegpdnhkopmaaDoor.VC
