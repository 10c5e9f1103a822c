/- What is to be shown of functions' texts, printed by a program of this session's repo; that it gives the functions' contracts is checked by the kernel. -/
import Derived.Test.YtcaamecdhbgknaaProg
import Derived.Test.YtcaamecdhbgknaaPf
namespace Go.Proofs.Ytcaamecdhbgknaa.VC
open Go Go.V
set_option maxRecDepth 1000000
set_option linter.unusedVariables false

/-! ### rhizome/image.number: function 95 -/
def image_number.vc (bA : Option Addr) (bL bC : Nat) (R : Ending → World → Prop) (w : World) : Prop := ∃ (y1 : Nat → Int → Int → World →
  Prop), ∃ (k2 : Nat), y1 k2 (0 : Int) (0 : Int) w ∧ ∀ (k3 : Nat) (n4 n5 : Int) (w6 : World), y1 k3 n4 n5 w6 → bcase (decide (n5 < (bL :
  Int))) (∃ (ad8 : Addr), bA = some ad8 ∧ ((0 : Int) ≤ n5 ∧ n5 < (bL : Int)) ∧ ∃ (n9 : Int), World.cell? w6 (Addr.add ad8 (Int.toNat n5 *
  1)) = some (Value.int IntKind.u8 n9) ∧ (0 : Int) ≤ (8 : Int) ∧ ∃ (k10 : Nat), k10 < k3 ∧ y1 k10 (bits BinOp.or IntKind.i64 (IntKind.wrap
  IntKind.i64 (n4 * (2 : Int) ^ 8)) (IntKind.wrap IntKind.i64 n9)) (IntKind.wrap IntKind.i64 (n5 + (1 : Int))) w6) (R (Ending.returned
  (Value.int IntKind.i64 n4)) w6)

theorem image_number.link {bA : Option Addr} {bL bC : Nat} {R : Ending → World → Prop} {w : World} (h : image_number.vc bA bL bC R w) : Calls Go.Proofs.Try.prog 95 #[.slice bA bL bC] w R :=
  calls_of pf (fn := Go.Proofs.Try.f95) (ann := .s (.n) (.s (.n) (.s (.s (.n) (.b (.l ⟨[], [], [], [(3, .l (.i .i64)), (8, .l (.i .i64))], []⟩ (.s (.n) (.s (.c (.n) (.n)) (.s (.b (.s (.n) (.n))) (.n))))))) (.s (.n) (.n))))) (mp := false) (args := [.v (.slice bA bL bC)]) Go.Proofs.Try.func95 (c := Go.Proofs.Try.f95.body.getD .skip) (by kernel_rfl) (by kernel_rfl) (Eq.mp (by kernel_rfl) h)
theorem image_number.body : BodyOk Go.Proofs.Try.prog 95 := ⟨Go.Proofs.Try.f95, Go.Proofs.Try.func95, by kernel_rfl, pf.ng _ _ Go.Proofs.Try.func95⟩

/-! ### rhizome/image.head: function 81 -/
def image_head.vc (seq : Int) (size : Int) (R : Ending → World → Prop) (w : World) : Prop := ∀ (k1 : Nat) (w2 : World), Step w w2 [] [k1] →
  Blk w2 k1 (reps [Value.int IntKind.u8 (0 : Int)] 64) → ((0 : Int) ≤ (0 : Int) ∧ (0 : Int) < ((64 : Nat) : Int)) ∧ ∃ (l5 : List Value), Blk
  w2 (Addr.block (Addr.add { block := k1, off := 0 } 0)) l5 ∧ Addr.spot (Addr.add { block := k1, off := 0 } 0) = none ∧ Addr.off (Addr.add
  { block := k1, off := 0 } 0) + 1 ≤ List.length l5 ∧ ∀ (w6 : World), Upd w2 w6 (Addr.block (Addr.add { block := k1, off := 0 } 0)) (sets l5
  (Addr.off (Addr.add { block := k1, off := 0 } 0)) [Value.int IntKind.u8 (73 : Int)]) → ((0 : Int) ≤ (63 : Int) ∧ (63 : Int) < ((64 : Nat)
  : Int)) ∧ ∃ (l8 : List Value), Blk w6 (Addr.block (Addr.add { block := k1, off := 0 } 63)) l8 ∧ Addr.spot (Addr.add
  { block := k1, off := 0 } 63) = none ∧ Addr.off (Addr.add { block := k1, off := 0 } 63) + 1 ≤ List.length l8 ∧ ∀ (w9 : World), Upd w6 w9
  (Addr.block (Addr.add { block := k1, off := 0 } 63)) (sets l8 (Addr.off (Addr.add { block := k1, off := 0 } 63)) [Value.int IntKind.u8 (90
  : Int)]) → ∃ (y11 : Nat → Int → World → Prop), ∃ (k12 : Nat), y11 k12 (0 : Int) w9 ∧ ∀ (k13 : Nat) (n14 : Int) (w15 : World), y11 k13 n14
  w15 → bcase (decide (n14 < (8 : Int))) ((0 : Int) ≤ IntKind.wrap IntKind.i64 ((8 : Int) * n14) ∧ ((0 : Int) ≤ IntKind.wrap IntKind.i64 ((8
  : Int) - n14) ∧ IntKind.wrap IntKind.i64 ((8 : Int) - n14) < ((64 : Nat) : Int)) ∧ ∃ (l17 : List Value), Blk w15 (Addr.block (Addr.add
  { block := k1, off := 0 } (Int.toNat (IntKind.wrap IntKind.i64 ((8 : Int) - n14)) * 1))) l17 ∧ Addr.spot (Addr.add
  { block := k1, off := 0 } (Int.toNat (IntKind.wrap IntKind.i64 ((8 : Int) - n14)) * 1)) = none ∧ Addr.off (Addr.add
  { block := k1, off := 0 } (Int.toNat (IntKind.wrap IntKind.i64 ((8 : Int) - n14)) * 1)) + List.length [Value.int IntKind.u8 (IntKind.wrap
  IntKind.u8 (Int.fdiv seq ((2 : Int) ^ Min.min (Int.toNat (IntKind.wrap IntKind.i64 ((8 : Int) * n14))) 64)))] ≤ List.length l17 ∧ ∀ (w18 :
  World), Upd w15 w18 (Addr.block (Addr.add { block := k1, off := 0 } (Int.toNat (IntKind.wrap IntKind.i64 ((8 : Int) - n14)) * 1))) (sets
  l17 (Addr.off (Addr.add { block := k1, off := 0 } (Int.toNat (IntKind.wrap IntKind.i64 ((8 : Int) - n14)) * 1))) [Value.int IntKind.u8
  (IntKind.wrap IntKind.u8 (Int.fdiv seq ((2 : Int) ^ Min.min (Int.toNat (IntKind.wrap IntKind.i64 ((8 : Int) * n14))) 64)))]) → ∃ (k20 :
  Nat), k20 < k13 ∧ y11 k20 (IntKind.wrap IntKind.i64 (n14 + (1 : Int))) w18) (∃ (y21 : Nat → Int → World → Prop), ∃ (k22 : Nat), y21 k22 (0
  : Int) w15 ∧ ∀ (k23 : Nat) (n24 : Int) (w25 : World), y21 k23 n24 w25 → bcase (decide (n24 < (4 : Int))) ((0 : Int) ≤ IntKind.wrap
  IntKind.i64 ((8 : Int) * n24) ∧ ((0 : Int) ≤ IntKind.wrap IntKind.i64 ((12 : Int) - n24) ∧ IntKind.wrap IntKind.i64 ((12 : Int) - n24) <
  ((64 : Nat) : Int)) ∧ ∃ (l27 : List Value), Blk w25 (Addr.block (Addr.add { block := k1, off := 0 } (Int.toNat (IntKind.wrap IntKind.i64
  ((12 : Int) - n24)) * 1))) l27 ∧ Addr.spot (Addr.add { block := k1, off := 0 } (Int.toNat (IntKind.wrap IntKind.i64 ((12 : Int) - n24)) *
  1)) = none ∧ Addr.off (Addr.add { block := k1, off := 0 } (Int.toNat (IntKind.wrap IntKind.i64 ((12 : Int) - n24)) * 1)) + List.length
  [Value.int IntKind.u8 (IntKind.wrap IntKind.u8 (Int.fdiv size ((2 : Int) ^ Min.min (Int.toNat (IntKind.wrap IntKind.i64 ((8 : Int) *
  n24))) 64)))] ≤ List.length l27 ∧ ∀ (w28 : World), Upd w25 w28 (Addr.block (Addr.add { block := k1, off := 0 } (Int.toNat (IntKind.wrap
  IntKind.i64 ((12 : Int) - n24)) * 1))) (sets l27 (Addr.off (Addr.add { block := k1, off := 0 } (Int.toNat (IntKind.wrap IntKind.i64 ((12 :
  Int) - n24)) * 1))) [Value.int IntKind.u8 (IntKind.wrap IntKind.u8 (Int.fdiv size ((2 : Int) ^ Min.min (Int.toNat (IntKind.wrap
  IntKind.i64 ((8 : Int) * n24))) 64)))]) → ∃ (k30 : Nat), k30 < k23 ∧ y21 k30 (IntKind.wrap IntKind.i64 (n24 + (1 : Int))) w28) (((0 : Int)
  ≤ (0 : Int) ∧ (0 : Int) ≤ ((64 : Nat) : Int) ∧ ((64 : Nat) : Int) ≤ ((64 : Nat) : Int)) ∧ R (Ending.returned (Value.slice (subA (some
  { block := k1, off := 0 }) 0 64 1) 64 64)) w25))

theorem image_head.link {seq : Int} {size : Int} {R : Ending → World → Prop} {w : World} (h : image_head.vc seq size R w) : Calls Go.Proofs.Try.prog 81 #[.int .i64 seq, .int .i64 size] w R :=
  calls_of pf (fn := Go.Proofs.Try.f81) (ann := .s (.n) (.s (.n) (.s (.n) (.s (.s (.n) (.b (.l ⟨[], [], [], [(10, .l (.i .i64))], []⟩ (.s (.n) (.s (.c (.n) (.n)) (.s (.b (.s (.n) (.n))) (.n))))))) (.s (.s (.n) (.b (.l ⟨[], [], [], [(22, .l (.i .i64))], []⟩ (.s (.n) (.s (.c (.n) (.n)) (.s (.b (.s (.n) (.n))) (.n))))))) (.s (.n) (.n))))))) (mp := false) (args := [.v (.int .i64 seq), .v (.int .i64 size)]) Go.Proofs.Try.func81 (c := Go.Proofs.Try.f81.body.getD .skip) (by kernel_rfl) (by kernel_rfl) (Eq.mp (by kernel_rfl) h)
theorem image_head.body : BodyOk Go.Proofs.Try.prog 81 := ⟨Go.Proofs.Try.f81, Go.Proofs.Try.func81, by kernel_rfl, pf.ng _ _ Go.Proofs.Try.func81⟩

/-! ### (*rhizome/image.Image).area: function 89 -/
def image_Image_area.vc (m : Addr) (k : Int) (R : Ending → World → Prop) (w : World) : Prop := ∃ (p1 : Option Addr), World.cell? w (Addr.add
  m 0) = some (Value.pointer p1) ∧ ∃ (n2 : Int), World.cell? w (Addr.add m 1) = some (Value.int IntKind.i64 n2) ∧ ∃ (n3 : Int), World.cell?
  w (Addr.add m 2) = some (Value.int IntKind.i64 n3) ∧ ∀ (w4 : World), Step w w4 [] [] → Calls Proofs.Try.prog (22 : Nat) { toList := [Value.pointer p1, Value.int IntKind.i64 (IntKind.wrap IntKind.i64 (n2 + IntKind.wrap IntKind.i64 (k * n3)))] }
  w4 fun (e6 : Ending) (w7 : World) => ∃ (p8 : Option Addr), ∃ (k9 : Nat), ∃ (k10 : Nat), ∃ (n11 : Int), e6 = Ending.returned (Value.tuple { toList := [Value.slice p8 k9 k10, Value.int IntKind.i64 n11] })
  ∧ ((0 : Int) ≤ (1 : Int) ∧ (1 : Int) ≤ (9 : Int) ∧ (9 : Int) ≤ (k10 : Int)) ∧ ((0 : Int) ≤ (9 : Int) ∧ (9 : Int) ≤ (13 : Int) ∧ (13 : Int)
  ≤ (k10 : Int)) ∧ ∀ (w12 : World), Step w7 w12 [] [] → Calls Proofs.Try.prog (95 : Nat) { toList := [Value.slice (subA p8 1 k10 1) 8 (k10 - 1)] }
  w12 fun (e14 : Ending) (w15 : World) => ∃ (n16 : Int), e14 = Ending.returned (Value.int IntKind.i64 n16) ∧ Calls Proofs.Try.prog (95 :
  Nat) { toList := [Value.slice (subA p8 9 k10 1) 4 (k10 - 9)] } w15 fun (e17 : Ending) (w18 : World) => ∃ (n19 : Int), e17 =
  Ending.returned (Value.int IntKind.i64 n19) ∧ ∀ (y20 : Bool → World → Prop), (∀ (b21 : Bool) (w22 : World), bcase b21 (R (Ending.returned
  (Value.tuple { toList := [Value.int IntKind.i64 (0 : Int), Value.int IntKind.i64 (0 : Int)] })) w22) (R (Ending.returned (Value.tuple { toList := [Value.int IntKind.i64 n16, Value.int IntKind.i64 n19] }))
  w22) → y20 b21 w22) → bcase (decide (n16 < (1 : Int))) (y20 true w18) (bcase (decide ((4611686018427387904 : Int) < n16)) (y20 true w18)
  (Calls Proofs.Try.prog (78 : Nat) { toList := [Value.pointer (some m)] } w18 fun (e25 : Ending) (w26 : World) => ∃ (n27 : Int), e25 =
  Ending.returned (Value.int IntKind.i64 n27) ∧ bcase (decide (n27 < n19)) (y20 true w26) (Calls Proofs.Try.prog (81 : Nat) { toList := [Value.int IntKind.i64 n16, Value.int IntKind.i64 n19] }
  w26 fun (e28 : Ending) (w29 : World) => ∃ (p30 : Option Addr), ∃ (k31 : Nat), ∃ (k32 : Nat), e28 = Ending.returned (Value.slice p30 k31
  k32) ∧ Calls Proofs.Try.prog (67 : Nat) { toList := [Value.slice p8 k9 k10, Value.slice p30 k31 k32] } w29 fun (e33 : Ending) (w34 :
  World) => ∃ (b35 : Bool), e33 = Ending.returned (Value.bool b35) ∧ y20 (!b35) w34)))

theorem image_Image_area.link {m : Addr} {k : Int} {R : Ending → World → Prop} {w : World} (h : image_Image_area.vc m k R w) : Calls Go.Proofs.Try.prog 89 #[.pointer (some m), .int .i64 k] w R :=
  calls_of pf (fn := Go.Proofs.Try.f89) (ann := .s (.n) (.s (.n) (.s (.n) (.s (.j ⟨[], [], [], [(54, .l (.b))], []⟩ (.n) (.c (.s (.n) (.n)) (.n))) (.s (.n) (.n)))))) (mp := false) (args := [.a m, .v (.int .i64 k)]) Go.Proofs.Try.func89 (c := Go.Proofs.Try.f89.body.getD .skip) (by kernel_rfl) (by kernel_rfl) (Eq.mp (by kernel_rfl) h)
theorem image_Image_area.body : BodyOk Go.Proofs.Try.prog 89 := ⟨Go.Proofs.Try.f89, Go.Proofs.Try.func89, by kernel_rfl, pf.ng _ _ Go.Proofs.Try.func89⟩

/-! ### (*rhizome/image.Image).counts: function 77 -/
def image_Image_counts.vc (m : Addr) (R : Ending → World → Prop) (w : World) : Prop := Calls Proofs.Try.prog (89 : Nat) { toList := [Value.pointer (some m), Value.int IntKind.i64 (0 : Int)] }
  w fun (e1 : Ending) (w2 : World) => ∃ (n3 : Int), ∃ (n4 : Int), e1 = Ending.returned (Value.tuple { toList := [Value.int IntKind.i64 n3, Value.int IntKind.i64 n4] })
  ∧ Calls Proofs.Try.prog (89 : Nat) { toList := [Value.pointer (some m), Value.int IntKind.i64 (1 : Int)] } w2 fun (e5 : Ending) (w6 :
  World) => ∃ (n7 : Int), ∃ (n8 : Int), e5 = Ending.returned (Value.tuple { toList := [Value.int IntKind.i64 n7, Value.int IntKind.i64 n8] })
  ∧ ∀ (y9 : Bool → World → Prop), (∀ (b10 : Bool) (w11 : World), bcase b10 (R (Ending.returned (Value.tuple { toList := [Value.int IntKind.i64 (0 : Int), Value.int IntKind.i64 n3, Value.int IntKind.i64 n4] }))
  w11) (R (Ending.returned (Value.tuple { toList := [Value.int IntKind.i64 (1 : Int), Value.int IntKind.i64 n7, Value.int IntKind.i64 n8] }))
  w11) → y9 b10 w11) → bcase (decide (n7 ≤ n3)) (y9 (decide ((0 : Int) < n3)) w6) (y9 false w6)

theorem image_Image_counts.link {m : Addr} {R : Ending → World → Prop} {w : World} (h : image_Image_counts.vc m R w) : Calls Go.Proofs.Try.prog 77 #[.pointer (some m)] w R :=
  calls_of pf (fn := Go.Proofs.Try.f77) (ann := .s (.n) (.s (.n) (.s (.n) (.s (.j ⟨[], [], [], [(25, .l (.b))], []⟩ (.n) (.c (.s (.n) (.n)) (.n))) (.s (.n) (.n)))))) (mp := false) (args := [.a m]) Go.Proofs.Try.func77 (c := Go.Proofs.Try.f77.body.getD .skip) (by kernel_rfl) (by kernel_rfl) (Eq.mp (by kernel_rfl) h)
theorem image_Image_counts.body : BodyOk Go.Proofs.Try.prog 77 := ⟨Go.Proofs.Try.f77, Go.Proofs.Try.func77, by kernel_rfl, pf.ng _ _ Go.Proofs.Try.func77⟩

/-! ### (*rhizome/image.Image).room: function 78 -/
def image_Image_room.vc (m : Addr) (R : Ending → World → Prop) (w : World) : Prop := ∃ (n1 : Int), World.cell? w (Addr.add m 2) = some
  (Value.int IntKind.i64 n1) ∧ R (Ending.returned (Value.int IntKind.i64 (IntKind.wrap IntKind.i64 (IntKind.wrap IntKind.i64 (n1 - (1 :
  Int)) * (64 : Int))))) w

theorem image_Image_room.link {m : Addr} {R : Ending → World → Prop} {w : World} (h : image_Image_room.vc m R w) : Calls Go.Proofs.Try.prog 78 #[.pointer (some m)] w R :=
  calls_of pf (fn := Go.Proofs.Try.f78) (ann := .s (.n) (.s (.n) (.n))) (mp := false) (args := [.a m]) Go.Proofs.Try.func78 (c := Go.Proofs.Try.f78.body.getD .skip) (by kernel_rfl) (by kernel_rfl) (Eq.mp (by kernel_rfl) h)
theorem image_Image_room.body : BodyOk Go.Proofs.Try.prog 78 := ⟨Go.Proofs.Try.f78, Go.Proofs.Try.func78, by kernel_rfl, pf.ng _ _ Go.Proofs.Try.func78⟩

/-! ### (*rhizome/image.Image).write: function 79 -/
def image_Image_write.vc (m : Addr) (at0 : Int) (sectorsA : Option Addr) (sectorsL sectorsC : Nat) (R : Ending → World → Prop) (w : World) :
  Prop := ∃ (y1 : Nat → Int → World → Prop), ∃ (k2 : Nat), y1 k2 (0 : Int) w ∧ ∀ (k3 : Nat) (n4 : Int) (w5 : World), y1 k3 n4 w5 → bcase
  (decide (n4 < (sectorsL : Int))) (∃ (ad7 : Addr), sectorsA = some ad7 ∧ ((0 : Int) ≤ n4 ∧ n4 < (sectorsL : Int)) ∧ ∃ (p8 : Option Addr), ∃
  (k9 : Nat), ∃ (k10 : Nat), World.cell? w5 (Addr.add ad7 (Int.toNat n4 * 1)) = some (Value.slice p8 k9 k10) ∧ ∃ (p11 : Option Addr),
  World.cell? w5 (Addr.add m 0) = some (Value.pointer p11) ∧ Calls Proofs.Try.prog (23 : Nat) { toList := [Value.pointer p11, Value.int IntKind.i64 (IntKind.wrap IntKind.i64 (at0 + n4)), Value.slice p8 k9 k10] }
  w5 fun (e12 : Ending) (w13 : World) => ∃ (n14 : Int), e12 = Ending.returned (Value.int IntKind.i64 n14) ∧ bcase (!decide (n14 = (0 :
  Int))) (R (Ending.returned (Value.int IntKind.i64 n14)) w13) (∃ (k15 : Nat), k15 < k3 ∧ y1 k15 (IntKind.wrap IntKind.i64 (n4 + (1 : Int)))
  w13)) (∃ (p16 : Option Addr), World.cell? w5 (Addr.add m 0) = some (Value.pointer p16) ∧ Calls Proofs.Try.prog (27 : Nat) { toList := [Value.pointer p16] }
  w5 fun (e17 : Ending) (w18 : World) => ∃ (n19 : Int), e17 = Ending.returned (Value.int IntKind.i64 n19) ∧ R (Ending.returned (Value.int
  IntKind.i64 n19)) w18)

theorem image_Image_write.link {m : Addr} {at0 : Int} {sectorsA : Option Addr} {sectorsL sectorsC : Nat} {R : Ending → World → Prop} {w : World} (h : image_Image_write.vc m at0 sectorsA sectorsL sectorsC R w) : Calls Go.Proofs.Try.prog 79 #[.pointer (some m), .int .i64 at0, .slice sectorsA sectorsL sectorsC] w R :=
  calls_of pf (fn := Go.Proofs.Try.f79) (ann := .s (.n) (.s (.s (.n) (.b (.l ⟨[], [], [], [(12, .l (.i .i64))], []⟩ (.s (.n) (.s (.c (.n) (.n)) (.s (.b (.s (.n) (.s (.n) (.s (.n) (.c (.s (.n) (.n)) (.n)))))) (.n))))))) (.s (.n) (.n)))) (mp := false) (args := [.a m, .v (.int .i64 at0), .v (.slice sectorsA sectorsL sectorsC)]) Go.Proofs.Try.func79 (c := Go.Proofs.Try.f79.body.getD .skip) (by kernel_rfl) (by kernel_rfl) (Eq.mp (by kernel_rfl) h)
theorem image_Image_write.body : BodyOk Go.Proofs.Try.prog 79 := ⟨Go.Proofs.Try.f79, Go.Proofs.Try.func79, by kernel_rfl, pf.ng _ _ Go.Proofs.Try.func79⟩

/-! ### (*rhizome/image.Image).Load: function 51 -/
def image_Image_Load.vc (m : Addr) (R : Ending → World → Prop) (w : World) : Prop := Calls Proofs.Try.prog (77 : Nat) { toList := [Value.pointer (some m)] }
  w fun (e1 : Ending) (w2 : World) => ∃ (n3 : Int), ∃ (n4 : Int), ∃ (n5 : Int), e1 = Ending.returned (Value.tuple { toList := [Value.int IntKind.i64 n3, Value.int IntKind.i64 n4, Value.int IntKind.i64 n5] })
  ∧ bcase (decide (n4 = (0 : Int))) (R (Ending.returned (Value.tuple { toList := [Value.int IntKind.i64 (0 : Int), Value.slice none 0 0, Value.bool false] }))
  w2) (∃ (n6 : Int), World.cell? w2 (Addr.add m 1) = some (Value.int IntKind.i64 n6) ∧ ∃ (n7 : Int), World.cell? w2 (Addr.add m 2) = some
  (Value.int IntKind.i64 n7) ∧ ∃ (y8 : Nat → Option Addr → Nat → Nat → Int → World → Prop), ∃ (k9 : Nat), (∀ (w10 : World), Step w2 w10 []
  [] → y8 k9 none 0 0 (IntKind.wrap IntKind.i64 (IntKind.wrap IntKind.i64 (n6 + IntKind.wrap IntKind.i64 (n3 * n7)) + (1 : Int))) w10) ∧ ∀
  (k12 : Nat) (p13 : Option Addr) (k14 k15 : Nat) (n16 : Int) (w17 : World), y8 k12 p13 k14 k15 n16 w17 → bcase (decide ((k14 : Int) < n5))
  (∃ (p19 : Option Addr), World.cell? w17 (Addr.add m 0) = some (Value.pointer p19) ∧ Calls Proofs.Try.prog (22 : Nat) { toList := [Value.pointer p19, Value.int IntKind.i64 n16] }
  w17 fun (e20 : Ending) (w21 : World) => ∃ (p22 : Option Addr), ∃ (k23 : Nat), ∃ (k24 : Nat), ∃ (n25 : Int), e20 = Ending.returned
  (Value.tuple { toList := [Value.slice p22 k23 k24, Value.int IntKind.i64 n25] }) ∧ ∃ (l26 : List Value), List.length l26 = k23 * 1 ∧ Row
  w21 p22 l26 ∧ appendP true [] [] [] w21 p13 k14 k15 k23 l26 1 1 [Value.int IntKind.u8 (0 : Int)] fun (w27 : World) (p28 : Option Addr)
  (k29 k30 : Nat) => ∃ (k31 : Nat), k31 < k12 ∧ y8 k31 p28 k29 k30 (IntKind.wrap IntKind.i64 (n16 + (1 : Int))) w27) (((0 : Int) ≤ (0 : Int)
  ∧ (0 : Int) ≤ n5 ∧ n5 ≤ (k15 : Int)) ∧ Calls Proofs.Try.prog (69 : Nat) { toList := [Value.slice (subA p13 0 k15 1) (Int.toNat n5 - 0) (k15 - 0)] }
  w17 fun (e32 : Ending) (w33 : World) => ∃ (p34 : Option Addr), ∃ (k35 : Nat), ∃ (k36 : Nat), e32 = Ending.returned (Value.slice p34 k35
  k36) ∧ R (Ending.returned (Value.tuple { toList := [Value.int IntKind.i64 n4, Value.slice p34 k35 k36, Value.bool true] })) w33))

theorem image_Image_Load.link {m : Addr} {R : Ending → World → Prop} {w : World} (h : image_Image_Load.vc m R w) : Calls Go.Proofs.Try.prog 51 #[.pointer (some m)] w R :=
  calls_of pf (fn := Go.Proofs.Try.f51) (ann := .s (.n) (.s (.n) (.s (.s (.n) (.c (.s (.n) (.n)) (.n))) (.s (.n) (.s (.s (.n) (.b (.l ⟨[], [], [], [(8, .l (.sl)), (9, .l (.i .i64))], []⟩ (.s (.s (.n) (.c (.n) (.n))) (.s (.b (.s (.n) (.n))) (.n)))))) (.s (.n) (.n))))))) (mp := false) (args := [.a m]) Go.Proofs.Try.func51 (c := Go.Proofs.Try.f51.body.getD .skip) (by kernel_rfl) (by kernel_rfl) (Eq.mp (by kernel_rfl) h)
theorem image_Image_Load.body : BodyOk Go.Proofs.Try.prog 51 := ⟨Go.Proofs.Try.f51, Go.Proofs.Try.func51, by kernel_rfl, pf.ng _ _ Go.Proofs.Try.func51⟩

/-! ### rhizome/image.Open: function 49 -/
def image_Open.vc (d : Addr) (first : Int) (count : Int) (R : Ending → World → Prop) (w : World) : Prop := ∀ (y1 : Bool → World → Prop), (∀
  (b2 : Bool) (w3 : World), bcase b2 (R (Ending.returned (Value.tuple { toList := [Value.pointer none, Value.int IntKind.i64 (1 : Int)] }))
  w3) (∀ (k4 : Nat) (w5 : World), Step w3 w5 [] [k4] → Blk w5 k4 (spl (spl (spl [Value.pointer none, Value.int IntKind.i64 (0 : Int),
  Value.int IntKind.i64 (0 : Int)] 0 [Value.pointer (some d)]) 1 [Value.int IntKind.i64 first]) 2 [Value.int IntKind.i64 count]) → R
  (Ending.returned (Value.tuple { toList := [Value.pointer (some { block := k4, off := 0 }), Value.int IntKind.i64 (0 : Int)] })) w5) → y1
  b2 w3) → bcase (decide (first < (0 : Int))) (y1 true w) (bcase (decide (count < (2 : Int))) (y1 true w) (Calls Proofs.Try.prog (21 : Nat)
  { toList := [Value.pointer (some d)] } w fun (e10 : Ending) (w11 : World) => ∃ (n12 : Int), e10 = Ending.returned (Value.int IntKind.i64
  n12) ∧ bcase (decide (n12 < first)) (y1 true w11) (Calls Proofs.Try.prog (21 : Nat) { toList := [Value.pointer (some d)] } w11 fun (e13 :
  Ending) (w14 : World) => ∃ (n15 : Int), e13 = Ending.returned (Value.int IntKind.i64 n15) ∧ (2 : Int) ≠ (0 : Int) ∧ y1 (decide
  (IntKind.wrap IntKind.i64 (Int.tdiv (IntKind.wrap IntKind.i64 (n15 - first)) (2 : Int)) < count)) w14)))

theorem image_Open.link {d : Addr} {first : Int} {count : Int} {R : Ending → World → Prop} {w : World} (h : image_Open.vc d first count R w) : Calls Go.Proofs.Try.prog 49 #[.pointer (some d), .int .i64 first, .int .i64 count] w R :=
  calls_of pf (fn := Go.Proofs.Try.f49) (ann := .s (.n) (.s (.j ⟨[], [], [], [(28, .l (.b))], []⟩ (.n) (.c (.s (.n) (.n)) (.n))) (.s (.n) (.n)))) (mp := false) (args := [.a d, .v (.int .i64 first), .v (.int .i64 count)]) Go.Proofs.Try.func49 (c := Go.Proofs.Try.f49.body.getD .skip) (by kernel_rfl) (by kernel_rfl) (Eq.mp (by kernel_rfl) h)
theorem image_Open.body : BodyOk Go.Proofs.Try.prog 49 := ⟨Go.Proofs.Try.f49, Go.Proofs.Try.func49, by kernel_rfl, pf.ng _ _ Go.Proofs.Try.func49⟩

end Go.Proofs.Ytcaamecdhbgknaa.VC
