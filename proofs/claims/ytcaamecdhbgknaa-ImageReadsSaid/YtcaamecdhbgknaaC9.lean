/- What is to be shown of functions' texts, printed by a program of this session's repo; that it gives the functions' contracts is checked by the kernel. -/
import Derived.Test.YtcaamecdhbgknaaProg
import Derived.Test.YtcaamecdhbgknaaPf
namespace Go.Proofs.Ytcaamecdhbgknaa.VC
open Go Go.V
set_option maxRecDepth 1000000
set_option linter.unusedVariables false

/-! ### slices.Chunk[[]byte,byte]: function 80 -/
def slices_Chunk_g.vc (sA : Option Addr) (sL sC : Nat) (n : Int) (R : Ending → World → Prop) (w : World) : Prop := ∀ (k1 k2 : Nat) (y3 :
  World → Prop), (∀ (w4 : World), (Blk w4 k1 [Value.slice sA sL sC] → Blk w4 k2 [Value.int IntKind.i64 n] → R (Ending.returned (Value.func
  (Fn.func 90) { toList := [] } { toList := [Value.pointer (some { block := k1, off := 0 }), Value.pointer (some { block := k2, off := 0 })] }))
  w4) → y3 w4) → bcase (decide (n < (1 : Int))) False (∀ (w9 : World), Step w w9 [] [k2, k1] → y3 w9)

theorem slices_Chunk_g.link {sA : Option Addr} {sL sC : Nat} {n : Int} {R : Ending → World → Prop} {w : World} (h : slices_Chunk_g.vc sA sL sC n R w) : Calls Go.Proofs.Try.prog 80 #[.slice sA sL sC, .int .i64 n] w R :=
  calls_of pf (fn := Go.Proofs.Try.f80) (ann := .s (.n) (.j ⟨[], [], [0, 1], [], []⟩ (.s (.n) (.c (.n) (.n))) (.s (.n) (.n)))) (mp := false) (args := [.v (.slice sA sL sC), .v (.int .i64 n)]) Go.Proofs.Try.func80 (c := Go.Proofs.Try.f80.body.getD .skip) (by kernel_rfl) (by kernel_rfl) (Eq.mp (by kernel_rfl) h)
theorem slices_Chunk_g.body : BodyOk Go.Proofs.Try.prog 80 := ⟨Go.Proofs.Try.f80, Go.Proofs.Try.func80, by kernel_rfl, pf.ng _ _ Go.Proofs.Try.func80⟩

/-! ### slices.Chunk[[]byte,byte]_1: function 90 -/
def slices_Chunk_g_1.vc (yield : Nat) (f0P : Addr) (f1P : Addr) (R : Ending → World → Prop) (w : World) : Prop := ∃ (y1 : Nat → Int → World
  → Prop), ∃ (k2 : Nat), y1 k2 (0 : Int) w ∧ ∀ (k3 : Nat) (n4 : Int) (w5 : World), y1 k3 n4 w5 → ∃ (p7 : Option Addr), ∃ (k8 : Nat), ∃ (k9 :
  Nat), World.cell? w5 f0P = some (Value.slice p7 k8 k9) ∧ bcase (decide (n4 < (k8 : Int))) (∃ (n10 : Int), World.cell? w5 f1P = some
  (Value.int IntKind.i64 n10) ∧ ∃ (p11 : Option Addr), ∃ (k12 : Nat), ∃ (k13 : Nat), World.cell? w5 f0P = some (Value.slice p11 k12 k13) ∧
  ((0 : Int) ≤ n4 ∧ n4 ≤ (k12 : Int) ∧ (k12 : Int) ≤ (k13 : Int)) ∧ ∃ (p14 : Option Addr), ∃ (k15 : Nat), ∃ (k16 : Nat), World.cell? w5 f0P
  = some (Value.slice p14 k15 k16) ∧ ((0 : Int) ≤ n4 ∧ n4 ≤ IntKind.wrap IntKind.i64 (n4 + if ((Int.toNat (k12 : Int) - Int.toNat n4 : Nat)
  : Int) < n10 then ((Int.toNat (k12 : Int) - Int.toNat n4 : Nat) : Int) else n10) ∧ IntKind.wrap IntKind.i64 (n4 + if ((Int.toNat (k12 :
  Int) - Int.toNat n4 : Nat) : Int) < n10 then ((Int.toNat (k12 : Int) - Int.toNat n4 : Nat) : Int) else n10) ≤ IntKind.wrap IntKind.i64 (n4
  + if ((Int.toNat (k12 : Int) - Int.toNat n4 : Nat) : Int) < n10 then ((Int.toNat (k12 : Int) - Int.toNat n4 : Nat) : Int) else n10) ∧
  IntKind.wrap IntKind.i64 (n4 + if ((Int.toNat (k12 : Int) - Int.toNat n4 : Nat) : Int) < n10 then ((Int.toNat (k12 : Int) - Int.toNat n4 :
  Nat) : Int) else n10) ≤ (k16 : Int)) ∧ ∀ (w17 : World), Step w5 w17 [] [] → YieldsV Proofs.Try.prog yield [Value.slice (subA p14
  (Int.toNat n4) (Int.toNat (IntKind.wrap IntKind.i64 (n4 + if ((Int.toNat (k12 : Int) - Int.toNat n4 : Nat) : Int) < n10 then ((Int.toNat
  (k12 : Int) - Int.toNat n4 : Nat) : Int) else n10))) 1) (Int.toNat (IntKind.wrap IntKind.i64 (n4 + if ((Int.toNat (k12 : Int) - Int.toNat
  n4 : Nat) : Int) < n10 then ((Int.toNat (k12 : Int) - Int.toNat n4 : Nat) : Int) else n10)) - Int.toNat n4) (Int.toNat (IntKind.wrap
  IntKind.i64 (n4 + if ((Int.toNat (k12 : Int) - Int.toNat n4 : Nat) : Int) < n10 then ((Int.toNat (k12 : Int) - Int.toNat n4 : Nat) : Int)
  else n10)) - Int.toNat n4)] w17 fun (e19 : Ending) (w20 : World) => ∃ (b21 : Bool), e19 = Ending.returned (Value.bool b21) ∧ bcase (!b21)
  (R (Ending.returned (Value.tuple { toList := [] })) w20) (∃ (n22 : Int), World.cell? w20 f1P = some (Value.int IntKind.i64 n22) ∧ ∃ (k23 :
  Nat), k23 < k3 ∧ y1 k23 (IntKind.wrap IntKind.i64 (n4 + n22)) w20)) (R (Ending.returned (Value.tuple { toList := [] })) w5)

theorem slices_Chunk_g_1.link {yield : Nat} {f0P : Addr} {f1P : Addr} {R : Ending → World → Prop} {w : World} (h : slices_Chunk_g_1.vc yield f0P f1P R w) : Calls Go.Proofs.Try.prog 90 #[.func (.yield yield) #[] #[], .pointer (some f0P), .pointer (some f1P)] w R :=
  calls_of pf (fn := Go.Proofs.Try.f90) (ann := .s (.n) (.b (.l ⟨[], [], [], [(4, .l (.i .i64))], []⟩ (.s (.s (.n) (.c (.n) (.n))) (.s (.b (.s (.n) (.s (.n) (.c (.n) (.n))))) (.n)))))) (mp := false) (args := [.v (.func (.yield yield) #[] #[]), .a f0P, .a f1P]) Go.Proofs.Try.func90 (c := Go.Proofs.Try.f90.body.getD .skip) (by kernel_rfl) (by kernel_rfl) (Eq.mp (by kernel_rfl) h)
theorem slices_Chunk_g_1.body : BodyOk Go.Proofs.Try.prog 90 := ⟨Go.Proofs.Try.f90, Go.Proofs.Try.func90, by kernel_rfl, pf.ng _ _ Go.Proofs.Try.func90⟩

/-! ### (*rhizome/image.Image).Save: function 50 -/
def image_Image_Save.vc (m : Addr) (seq : Int) (dataA : Option Addr) (dataL dataC : Nat) (R : Ending → World → Prop) (w : World) : Prop :=
  Calls Proofs.Try.prog (77 : Nat) { toList := [Value.pointer (some m)] } w fun (e1 : Ending) (w2 : World) => ∃ (n3 : Int), ∃ (n4 : Int), ∃
  (n5 : Int), e1 = Ending.returned (Value.tuple { toList := [Value.int IntKind.i64 n3, Value.int IntKind.i64 n4, Value.int IntKind.i64 n5] })
  ∧ ∀ (y6 : Bool → World → Prop), (∀ (b7 : Bool) (w8 : World), bcase b7 (R (Ending.returned (Value.int IntKind.i64 (1 : Int))) w8) (bcase
  (decide (seq ≤ n4)) (R (Ending.returned (Value.int IntKind.i64 (2 : Int))) w8) (Calls Proofs.Try.prog (78 : Nat) { toList := [Value.pointer (some m)] }
  w8 fun (e9 : Ending) (w10 : World) => ∃ (n11 : Int), e9 = Ending.returned (Value.int IntKind.i64 n11) ∧ bcase (decide (n11 < (dataL :
  Int))) (R (Ending.returned (Value.int IntKind.i64 (3 : Int))) w10) (∃ (n12 : Int), World.cell? w10 (Addr.add m 1) = some (Value.int
  IntKind.i64 n12) ∧ ∃ (n13 : Int), World.cell? w10 (Addr.add m 2) = some (Value.int IntKind.i64 n13) ∧ ((0 : Int) ≤ (64 : Int) ∧ (64 : Int)
  ≤ (64 : Int) ∧ ((1 : Nat) : Int) * (64 : Int) ≤ (281474976710656 : Int) ∧ (64 : Int) ≤ (281474976710656 : Int)) ∧ ∀ (w14 : World) (k15 :
  Nat), Step w10 w14 [] [k15] → Blk w14 k15 (reps [Value.int IntKind.u8 (0 : Int)] 64) → ∀ (k18 : Nat) (w19 : World), Step w14 w19 [] [k18]
  → Blk w19 k18 (spl (reps [Value.slice none 0 0] 1) 0 [Value.slice (some { block := k15, off := 0 }) 64 64]) → Calls Proofs.Try.prog (79 :
  Nat) { toList := [Value.pointer (some m), Value.int IntKind.i64 (IntKind.wrap IntKind.i64 (n12 + IntKind.wrap IntKind.i64 (IntKind.wrap IntKind.i64 ((1 : Int) - n3) * n13))), Value.slice (some { block := k18, off := 0 }) 1 1] }
  w19 fun (e22 : Ending) (w23 : World) => ∃ (n24 : Int), e22 = Ending.returned (Value.int IntKind.i64 n24) ∧ bcase (!decide (n24 = (0 :
  Int))) (R (Ending.returned (Value.int IntKind.i64 n24)) w23) (∀ (k25 : Nat) (w26 : World), Step w23 w26 [] [k25] → Calls Proofs.Try.prog
  (80 : Nat) { toList := [Value.slice dataA dataL dataC, Value.int IntKind.i64 (64 : Int)] } w26 fun (e28 : Ending) (w29 : World) => ∃ (x30
  : Value), e28 = Ending.returned x30 ∧ Keep [k25] w26 w29 ∧ (Blk w29 k25 [Value.slice none 0 0] → ∃ (k32 : Nat), ∃ (l33 : List Value), x30
  = Value.func (Fn.func k32) { toList := [] } { toList := l33 } ∧ BodyOk Proofs.Try.prog k32 ∧ ∃ (l34 : List (List Value)), ∃ (y35 : Nat →
  World → Prop), (∀ (l36 : List Value), l36 ∈ l34 → ∃ (p38 : Option Addr), ∃ (k39 : Nat), ∃ (k40 : Nat), l36 = [Value.slice p38 k39 k40]) ∧
  StabJ w29 y35 ∧ y35 0 w29 ∧ IterOk Proofs.Try.prog k32 l33 l34 y35 ∧ (∀ (p41 : Option Addr) (k42 k43 : Nat) (w44 : World), w44 = w44 ∧ ∀
  (k45 k46 k47 : Nat) (w48 : World), l34[k47]? = some [Value.slice p41 k42 k43] → y35 k47 w48 → Marks w29 w48 k45 k46 → (∃ (p52 : Option
  Addr), ∃ (k53 : Nat), ∃ (k54 : Nat), World.cell? w48 { block := k25, off := 0 } = some (Value.slice p52 k53 k54) ∧ ∀ (w55 : World), Step
  w48 w55 [] [] → Calls Proofs.Try.prog (69 : Nat) { toList := [Value.slice p41 k42 k43] } w55 fun (e57 : Ending) (w58 : World) => ∃ (p59 :
  Option Addr), ∃ (k60 : Nat), ∃ (k61 : Nat), e57 = Ending.returned (Value.slice p59 k60 k61) ∧ ((0 : Int) ≤ IntKind.wrap IntKind.i64 ((64 :
  Int) - (k42 : Int)) ∧ IntKind.wrap IntKind.i64 ((64 : Int) - (k42 : Int)) * ((1 : Nat) : Int) ≤ (281474976710656 : Int) ∧ IntKind.wrap
  IntKind.i64 ((64 : Int) - (k42 : Int)) ≤ (9223372036854775807 : Int)) ∧ appendP true [] [] [] w58 p59 k60 k61 (Int.toNat (IntKind.wrap
  IntKind.i64 ((64 : Int) - (k42 : Int)))) (reps [Value.int IntKind.u8 (0 : Int)] (Int.toNat (IntKind.wrap IntKind.i64 ((64 : Int) - (k42 :
  Int))))) 1 1 [Value.int IntKind.u8 (0 : Int)] fun (w62 : World) (p63 : Option Addr) (k64 k65 : Nat) => ∀ (k66 : Nat), appendP false []
  [k66] [k66] w62 p52 k53 k54 1 (spl (reps [Value.slice none 0 0] 1) 0 [Value.slice p63 k64 k65]) 1 24 [Value.slice none 0 0] fun (w67 :
  World) (p68 : Option Addr) (k69 k70 : Nat) => ∃ (l71 : List Value), Blk w67 k25 l71 ∧ Addr.spot ⟨0, 0, none⟩ = none ∧ 0 + List.length
  [Value.slice p68 k69 k70] ≤ List.length l71 ∧ ¬k25 ∈ [k66] ∧ ∀ (w72 : World), Upd w67 w72 k25 (sets l71 0 [Value.slice p68 k69 k70]) →
  Keep [k45, k46] w48 w72 ∧ y35 (k47 + 1) w72) ∧ ∀ (w74 : World), Step w48 w74 [] [] → Calls Proofs.Try.prog (69 : Nat) { toList := [Value.slice p41 k42 k43] }
  w74 fun (e76 : Ending) (w77 : World) => ∃ (p78 : Option Addr), ∃ (k79 : Nat), ∃ (k80 : Nat), e76 = Ending.returned (Value.slice p78 k79
  k80) ∧ (∃ (p81 : Option Addr), ∃ (k82 : Nat), ∃ (k83 : Nat), World.cell? w77 { block := k25, off := 0 } = some (Value.slice p81 k82 k83) ∧
  ((0 : Int) ≤ IntKind.wrap IntKind.i64 ((64 : Int) - (k42 : Int)) ∧ IntKind.wrap IntKind.i64 ((64 : Int) - (k42 : Int)) * ((1 : Nat) : Int)
  ≤ (281474976710656 : Int) ∧ IntKind.wrap IntKind.i64 ((64 : Int) - (k42 : Int)) ≤ (9223372036854775807 : Int)) ∧ appendP true [] [] [] w77
  p78 k79 k80 (Int.toNat (IntKind.wrap IntKind.i64 ((64 : Int) - (k42 : Int)))) (reps [Value.int IntKind.u8 (0 : Int)] (Int.toNat
  (IntKind.wrap IntKind.i64 ((64 : Int) - (k42 : Int))))) 1 1 [Value.int IntKind.u8 (0 : Int)] fun (w84 : World) (p85 : Option Addr) (k86
  k87 : Nat) => ∀ (k88 : Nat), appendP false [] [k88] [k88] w84 p81 k82 k83 1 (spl (reps [Value.slice none 0 0] 1) 0 [Value.slice p85 k86
  k87]) 1 24 [Value.slice none 0 0] fun (w89 : World) (p90 : Option Addr) (k91 k92 : Nat) => ∃ (l93 : List Value), Blk w89 k25 l93 ∧
  Addr.spot ⟨0, 0, none⟩ = none ∧ 0 + List.length [Value.slice p90 k91 k92] ≤ List.length l93 ∧ ¬k25 ∈ [k88] ∧ ∀ (w94 : World), Upd w89 w94
  k25 (sets l93 0 [Value.slice p90 k91 k92]) → Keep [k45, k46] w48 w94 ∧ y35 (k47 + 1) w94) ∧ ((0 : Int) ≤ IntKind.wrap IntKind.i64 ((64 :
  Int) - (k42 : Int)) ∧ IntKind.wrap IntKind.i64 ((64 : Int) - (k42 : Int)) * ((1 : Nat) : Int) ≤ (281474976710656 : Int) ∧ IntKind.wrap
  IntKind.i64 ((64 : Int) - (k42 : Int)) ≤ (9223372036854775807 : Int)) ∧ appendP true [] [] [] w77 p78 k79 k80 (Int.toNat (IntKind.wrap
  IntKind.i64 ((64 : Int) - (k42 : Int)))) (reps [Value.int IntKind.u8 (0 : Int)] (Int.toNat (IntKind.wrap IntKind.i64 ((64 : Int) - (k42 :
  Int))))) 1 1 [Value.int IntKind.u8 (0 : Int)] fun (w96 : World) (p97 : Option Addr) (k98 k99 : Nat) => ∃ (p100 : Option Addr), ∃ (k101 :
  Nat), ∃ (k102 : Nat), World.cell? w96 { block := k25, off := 0 } = some (Value.slice p100 k101 k102) ∧ ∀ (k103 : Nat), appendP false []
  [k103] [k103] w96 p100 k101 k102 1 (spl (reps [Value.slice none 0 0] 1) 0 [Value.slice p97 k98 k99]) 1 24 [Value.slice none 0 0] fun (w104
  : World) (p105 : Option Addr) (k106 k107 : Nat) => ∃ (l108 : List Value), Blk w104 k25 l108 ∧ Addr.spot ⟨0, 0, none⟩ = none ∧ 0 +
  List.length [Value.slice p105 k106 k107] ≤ List.length l108 ∧ ¬k25 ∈ [k103] ∧ ∀ (w109 : World), Upd w104 w109 k25 (sets l108 0
  [Value.slice p105 k106 k107]) → Keep [k45, k46] w48 w109 ∧ y35 (k47 + 1) w109) ∧ ∀ (k111 : Nat) (w112 : World), y35 (List.length l34) w112
  → Marked w29 w112 k111 → ∃ (p115 : Option Addr), ∃ (k116 : Nat), ∃ (k117 : Nat), World.cell? w112 { block := k25, off := 0 } = some
  (Value.slice p115 k116 k117) ∧ Calls Proofs.Try.prog (79 : Nat) { toList := [Value.pointer (some m), Value.int IntKind.i64 (IntKind.wrap IntKind.i64 (IntKind.wrap IntKind.i64 (n12 + IntKind.wrap IntKind.i64 (IntKind.wrap IntKind.i64 ((1 : Int) - n3) * n13)) + (1 : Int))), Value.slice p115 k116 k117] }
  w112 fun (e118 : Ending) (w119 : World) => ∃ (n120 : Int), e118 = Ending.returned (Value.int IntKind.i64 n120) ∧ bcase (!decide (n120 = (0
  : Int))) (true = true ∧ (World.heap w119)[k111]? = some (Obj.deferred (some [])) ∧ ∀ (w121 : World), Step w119 w121 [k111] [] → R
  (Ending.returned (Value.int IntKind.i64 n120)) w121) (Calls Proofs.Try.prog (81 : Nat) { toList := [Value.int IntKind.i64 seq, Value.int IntKind.i64 (dataL : Int)] }
  w119 fun (e123 : Ending) (w124 : World) => ∃ (p125 : Option Addr), ∃ (k126 : Nat), ∃ (k127 : Nat), e123 = Ending.returned (Value.slice
  p125 k126 k127) ∧ ∀ (k128 : Nat) (w129 : World), Step w124 w129 [] [k128] → Blk w129 k128 (spl (reps [Value.slice none 0 0] 1) 0
  [Value.slice p125 k126 k127]) → Calls Proofs.Try.prog (79 : Nat) { toList := [Value.pointer (some m), Value.int IntKind.i64 (IntKind.wrap IntKind.i64 (n12 + IntKind.wrap IntKind.i64 (IntKind.wrap IntKind.i64 ((1 : Int) - n3) * n13))), Value.slice (some { block := k128, off := 0 }) 1 1] }
  w129 fun (e132 : Ending) (w133 : World) => ∃ (n134 : Int), e132 = Ending.returned (Value.int IntKind.i64 n134) ∧ true = true ∧ (World.heap
  w133)[k111]? = some (Obj.deferred (some [])) ∧ ∀ (w135 : World), Step w133 w135 [k111] [] → R (Ending.returned (Value.int IntKind.i64
  n134)) w135)))))) → y6 b7 w8) → bcase (decide (seq < (1 : Int))) (y6 true w2) (y6 (decide ((4611686018427387904 : Int) < seq)) w2)

theorem image_Image_Save.link {m : Addr} {seq : Int} {dataA : Option Addr} {dataL dataC : Nat} {R : Ending → World → Prop} {w : World} (h : image_Image_Save.vc m seq dataA dataL dataC R w) : Calls Go.Proofs.Try.prog 50 #[.pointer (some m), .int .i64 seq, .slice dataA dataL dataC] w R :=
  calls_of pf (fn := Go.Proofs.Try.f50) (ann := .s (.n) (.s (.n) (.s (.b (.j ⟨[], [], [], [(21, .l (.b))], []⟩ (.n) (.c (.s (.n) (.n)) (.s (.n) (.c (.s (.n) (.n)) (.s (.n) (.c (.s (.n) (.n)) (.n)))))))) (.s (.n) (.s (.s (.n) (.s (.n) (.c (.s (.n) (.n)) (.n)))) (.s (.n) (.s (.s (.n) (.b (.l ⟨[], [1], [], [(60, .l (.sl))], []⟩ (.b (.n))))) (.s (.s (.n) (.s (.n) (.c (.s (.n) (.n)) (.n)))) (.s (.n) (.n)))))))))) (mp := false) (args := [.a m, .v (.int .i64 seq), .v (.slice dataA dataL dataC)]) Go.Proofs.Try.func50 (c := Go.Proofs.Try.f50.body.getD .skip) (by kernel_rfl) (by kernel_rfl) (Eq.mp (by kernel_rfl) h)
theorem image_Image_Save.body : BodyOk Go.Proofs.Try.prog 50 := ⟨Go.Proofs.Try.f50, Go.Proofs.Try.func50, by kernel_rfl, pf.ng _ _ Go.Proofs.Try.func50⟩

end Go.Proofs.Ytcaamecdhbgknaa.VC
