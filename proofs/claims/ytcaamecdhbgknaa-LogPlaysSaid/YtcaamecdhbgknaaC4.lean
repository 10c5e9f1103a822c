/- What is to be shown of functions' texts, printed by a program of this session's repo; that it gives the functions' contracts is checked by the kernel. -/
import Derived.Test.YtcaamecdhbgknaaProg
import Derived.Test.YtcaamecdhbgknaaPf
namespace Go.Proofs.Ytcaamecdhbgknaa.VC
open Go Go.V
set_option maxRecDepth 1000000
set_option linter.unusedVariables false

/-! ### rhizome/log.sectors: function 66 -/
def log_sectors.vc (size : Int) (R : Ending → World → Prop) (w : World) : Prop := (64 : Int) ≠ (0 : Int) ∧ R (Ending.returned (Value.int
  IntKind.i64 (IntKind.wrap IntKind.i64 (Int.tdiv (IntKind.wrap IntKind.i64 (IntKind.wrap IntKind.i64 (size + (64 : Int)) - (1 : Int))) (64
  : Int))))) w

theorem log_sectors.link {size : Int} {R : Ending → World → Prop} {w : World} (h : log_sectors.vc size R w) : Calls Go.Proofs.Try.prog 66 #[.int .i64 size] w R :=
  calls_of pf (fn := Go.Proofs.Try.f66) (ann := .s (.n) (.s (.n) (.n))) (mp := false) (args := [.v (.int .i64 size)]) Go.Proofs.Try.func66 (c := Go.Proofs.Try.f66.body.getD .skip) (by kernel_rfl) (by kernel_rfl) (Eq.mp (by kernel_rfl) h)
theorem log_sectors.body : BodyOk Go.Proofs.Try.prog 66 := ⟨Go.Proofs.Try.f66, Go.Proofs.Try.func66, by kernel_rfl, pf.ng _ _ Go.Proofs.Try.func66⟩

/-! ### bytes.Equal: function 67 -/
def bytes_Equal.vc (aA : Option Addr) (aL aC : Nat) (bA : Option Addr) (bL bC : Nat) (R : Ending → World → Prop) (w : World) : Prop := ∃ (l1
  : List UInt8), List.length l1 = aL ∧ (∀ (k2 : Nat), k2 < aL → ∃ (ad4 : Addr), aA = some ad4 ∧ World.cell? w (Addr.add ad4 k2) = some
  (Value.int IntKind.u8 ((UInt8.toNat (List.getD l1 k2 (0 : UInt8))) : Int))) ∧ ∃ (l5 : List UInt8), List.length l5 = bL ∧ (∀ (k6 : Nat), k6
  < bL → ∃ (ad8 : Addr), bA = some ad8 ∧ World.cell? w (Addr.add ad8 k6) = some (Value.int IntKind.u8 ((UInt8.toNat (List.getD l5 k6 (0 :
  UInt8))) : Int))) ∧ R (Ending.returned (Value.bool (decide ((ByteArray.mk (Array.mk l1)) = (ByteArray.mk (Array.mk l5)))))) w

theorem bytes_Equal.link {aA : Option Addr} {aL aC : Nat} {bA : Option Addr} {bL bC : Nat} {R : Ending → World → Prop} {w : World} (h : bytes_Equal.vc aA aL aC bA bL bC R w) : Calls Go.Proofs.Try.prog 67 #[.slice aA aL aC, .slice bA bL bC] w R :=
  calls_of pf (fn := Go.Proofs.Try.f67) (ann := .s (.n) (.s (.n) (.n))) (mp := false) (args := [.v (.slice aA aL aC), .v (.slice bA bL bC)]) Go.Proofs.Try.func67 (c := Go.Proofs.Try.f67.body.getD .skip) (by kernel_rfl) (by kernel_rfl) (Eq.mp (by kernel_rfl) h)
theorem bytes_Equal.body : BodyOk Go.Proofs.Try.prog 67 := ⟨Go.Proofs.Try.f67, Go.Proofs.Try.func67, by kernel_rfl, pf.ng _ _ Go.Proofs.Try.func67⟩

/-! ### slices.Clone[[]byte,byte]: function 69 -/
def slices_Clone_g.vc (sA : Option Addr) (sL sC : Nat) (R : Ending → World → Prop) (w : World) : Prop := bcase (Option.isNone sA) (R
  (Ending.returned (Value.slice none 0 0)) w) (∀ (k1 : Nat) (w2 : World), Step w w2 [] [k1] → Blk w2 k1 (reps [Value.int IntKind.u8 (0 :
  Int)] 0) → ∃ (l5 : List Value), List.length l5 = sL * 1 ∧ Row w2 sA l5 ∧ appendP true [] [] [] w2 (some { block := k1, off := 0 }) 0 0 sL
  l5 1 1 [Value.int IntKind.u8 (0 : Int)] fun (w6 : World) (p7 : Option Addr) (k8 k9 : Nat) => R (Ending.returned (Value.slice p7 k8 k9))
  w6)

theorem slices_Clone_g.link {sA : Option Addr} {sL sC : Nat} {R : Ending → World → Prop} {w : World} (h : slices_Clone_g.vc sA sL sC R w) : Calls Go.Proofs.Try.prog 69 #[.slice sA sL sC] w R :=
  calls_of pf (fn := Go.Proofs.Try.f69) (ann := .s (.n) (.s (.s (.n) (.c (.s (.n) (.n)) (.n))) (.s (.n) (.n)))) (mp := false) (args := [.v (.slice sA sL sC)]) Go.Proofs.Try.func69 (c := Go.Proofs.Try.f69.body.getD .skip) (by kernel_rfl) (by kernel_rfl) (Eq.mp (by kernel_rfl) h)
theorem slices_Clone_g.body : BodyOk Go.Proofs.Try.prog 69 := ⟨Go.Proofs.Try.f69, Go.Proofs.Try.func69, by kernel_rfl, pf.ng _ _ Go.Proofs.Try.func69⟩

/-! ### rhizome/log.head: function 70 -/
def log_head.vc (seq : Int) (size : Int) (R : Ending → World → Prop) (w : World) : Prop := ((0 : Int) ≤ (64 : Int) ∧ (64 : Int) ≤ (64 : Int)
  ∧ ((1 : Nat) : Int) * (64 : Int) ≤ (281474976710656 : Int) ∧ (64 : Int) ≤ (281474976710656 : Int)) ∧ ∀ (w1 : World) (k2 : Nat), Step w w1
  [] [k2] → Blk w1 k2 (reps [Value.int IntKind.u8 (0 : Int)] 64) → ∃ (ad5 : Addr), some { block := k2, off := 0 } = some ad5 ∧ ((0 : Int) ≤
  (0 : Int) ∧ (0 : Int) < ((64 : Nat) : Int)) ∧ ∃ (l6 : List Value), Blk w1 (Addr.block (Addr.add ad5 0)) l6 ∧ Addr.spot (Addr.add ad5 0) =
  none ∧ Addr.off (Addr.add ad5 0) + 1 ≤ List.length l6 ∧ ∀ (w7 : World), Upd w1 w7 (Addr.block (Addr.add ad5 0)) (sets l6 (Addr.off
  (Addr.add ad5 0)) [Value.int IntKind.u8 (82 : Int)]) → ∃ (ad9 : Addr), some { block := k2, off := 0 } = some ad9 ∧ ((0 : Int) ≤ (63 : Int)
  ∧ (63 : Int) < ((64 : Nat) : Int)) ∧ ∃ (l10 : List Value), Blk w7 (Addr.block (Addr.add ad9 63)) l10 ∧ Addr.spot (Addr.add ad9 63) = none
  ∧ Addr.off (Addr.add ad9 63) + 1 ≤ List.length l10 ∧ ∀ (w11 : World), Upd w7 w11 (Addr.block (Addr.add ad9 63)) (sets l10 (Addr.off
  (Addr.add ad9 63)) [Value.int IntKind.u8 (165 : Int)]) → ∃ (y13 : Nat → Int → World → Prop), ∃ (k14 : Nat), y13 k14 (0 : Int) w11 ∧ ∀ (k15
  : Nat) (n16 : Int) (w17 : World), y13 k15 n16 w17 → bcase (decide (n16 < (8 : Int))) ((0 : Int) ≤ IntKind.wrap IntKind.i64 ((56 : Int) -
  IntKind.wrap IntKind.i64 ((8 : Int) * n16)) ∧ ∃ (ad19 : Addr), some { block := k2, off := 0 } = some ad19 ∧ ((0 : Int) ≤ IntKind.wrap
  IntKind.i64 ((1 : Int) + n16) ∧ IntKind.wrap IntKind.i64 ((1 : Int) + n16) < ((64 : Nat) : Int)) ∧ ∃ (l20 : List Value), Blk w17
  (Addr.block (Addr.add ad19 (Int.toNat (IntKind.wrap IntKind.i64 ((1 : Int) + n16)) * 1))) l20 ∧ Addr.spot (Addr.add ad19 (Int.toNat
  (IntKind.wrap IntKind.i64 ((1 : Int) + n16)) * 1)) = none ∧ Addr.off (Addr.add ad19 (Int.toNat (IntKind.wrap IntKind.i64 ((1 : Int) +
  n16)) * 1)) + List.length [Value.int IntKind.u8 (IntKind.wrap IntKind.u8 (Int.fdiv seq ((2 : Int) ^ Min.min (Int.toNat (IntKind.wrap
  IntKind.i64 ((56 : Int) - IntKind.wrap IntKind.i64 ((8 : Int) * n16)))) 64)))] ≤ List.length l20 ∧ ∀ (w21 : World), Upd w17 w21
  (Addr.block (Addr.add ad19 (Int.toNat (IntKind.wrap IntKind.i64 ((1 : Int) + n16)) * 1))) (sets l20 (Addr.off (Addr.add ad19 (Int.toNat
  (IntKind.wrap IntKind.i64 ((1 : Int) + n16)) * 1))) [Value.int IntKind.u8 (IntKind.wrap IntKind.u8 (Int.fdiv seq ((2 : Int) ^ Min.min
  (Int.toNat (IntKind.wrap IntKind.i64 ((56 : Int) - IntKind.wrap IntKind.i64 ((8 : Int) * n16)))) 64)))]) → ∃ (k23 : Nat), k23 < k15 ∧ y13
  k23 (IntKind.wrap IntKind.i64 (n16 + (1 : Int))) w21) ((0 : Int) ≤ (8 : Int) ∧ ∃ (ad24 : Addr), some { block := k2, off := 0 } = some ad24
  ∧ ((0 : Int) ≤ (9 : Int) ∧ (9 : Int) < ((64 : Nat) : Int)) ∧ ∃ (l25 : List Value), Blk w17 (Addr.block (Addr.add ad24 9)) l25 ∧ Addr.spot
  (Addr.add ad24 9) = none ∧ Addr.off (Addr.add ad24 9) + List.length [Value.int IntKind.u8 (IntKind.wrap IntKind.u8 (Int.fdiv size ((2 :
  Int) ^ 8)))] ≤ List.length l25 ∧ ∀ (w26 : World), Upd w17 w26 (Addr.block (Addr.add ad24 9)) (sets l25 (Addr.off (Addr.add ad24 9))
  [Value.int IntKind.u8 (IntKind.wrap IntKind.u8 (Int.fdiv size ((2 : Int) ^ 8)))]) → ∃ (ad28 : Addr), some { block := k2, off := 0 } = some
  ad28 ∧ ((0 : Int) ≤ (10 : Int) ∧ (10 : Int) < ((64 : Nat) : Int)) ∧ ∃ (l29 : List Value), Blk w26 (Addr.block (Addr.add ad28 10)) l29 ∧
  Addr.spot (Addr.add ad28 10) = none ∧ Addr.off (Addr.add ad28 10) + List.length [Value.int IntKind.u8 (IntKind.wrap IntKind.u8 size)] ≤
  List.length l29 ∧ ∀ (w30 : World), Upd w26 w30 (Addr.block (Addr.add ad28 10)) (sets l29 (Addr.off (Addr.add ad28 10)) [Value.int
  IntKind.u8 (IntKind.wrap IntKind.u8 size)]) → R (Ending.returned (Value.slice (some { block := k2, off := 0 }) 64 64)) w30)

theorem log_head.link {seq : Int} {size : Int} {R : Ending → World → Prop} {w : World} (h : log_head.vc seq size R w) : Calls Go.Proofs.Try.prog 70 #[.int .i64 seq, .int .i64 size] w R :=
  calls_of pf (fn := Go.Proofs.Try.f70) (ann := .s (.n) (.s (.n) (.s (.n) (.s (.s (.n) (.b (.l ⟨[], [], [], [(12, .l (.i .i64))], []⟩ (.s (.n) (.s (.c (.n) (.n)) (.s (.b (.s (.n) (.n))) (.n))))))) (.s (.n) (.s (.n) (.n))))))) (mp := false) (args := [.v (.int .i64 seq), .v (.int .i64 size)]) Go.Proofs.Try.func70 (c := Go.Proofs.Try.f70.body.getD .skip) (by kernel_rfl) (by kernel_rfl) (Eq.mp (by kernel_rfl) h)
theorem log_head.body : BodyOk Go.Proofs.Try.prog 70 := ⟨Go.Proofs.Try.f70, Go.Proofs.Try.func70, by kernel_rfl, pf.ng _ _ Go.Proofs.Try.func70⟩

/-! ### (*rhizome/log.Log).read: function 65 -/
def log_Log_read.vc (l : Addr) (at0 : Int) (R : Ending → World → Prop) (w : World) : Prop := ∀ (k1 : Nat), ∃ (p2 : Option Addr), World.cell?
  w (Addr.add l 0) = some (Value.pointer p2) ∧ ∀ (w3 : World), Step w w3 [] [k1] → Calls Proofs.Try.prog (22 : Nat) { toList := [Value.pointer p2, Value.int IntKind.i64 at0] }
  w3 fun (e5 : Ending) (w6 : World) => ∃ (p7 : Option Addr), ∃ (k8 : Nat), ∃ (k9 : Nat), ∃ (n10 : Int), e5 = Ending.returned (Value.tuple { toList := [Value.slice p7 k8 k9, Value.int IntKind.i64 n10] })
  ∧ Keep [k1] w3 w6 ∧ ((0 : Int) ≤ (1 : Int) ∧ (1 : Int) ≤ (9 : Int) ∧ (9 : Int) ≤ (k9 : Int)) ∧ ∃ (y11 : Nat → Int → Int → World → Prop), ∃
  (k12 : Nat), y11 k12 (0 : Int) (0 : Int) w6 ∧ ∀ (k13 : Nat) (n14 n15 : Int) (w16 : World), y11 k13 n14 n15 w16 → bcase (decide (n15 < ((8
  : Nat) : Int))) (∃ (ad18 : Addr), subA p7 1 k9 1 = some ad18 ∧ ((0 : Int) ≤ n15 ∧ n15 < ((8 : Nat) : Int)) ∧ ∃ (n19 : Int), World.cell?
  w16 (Addr.add ad18 (Int.toNat n15 * 1)) = some (Value.int IntKind.u8 n19) ∧ (0 : Int) ≤ (8 : Int) ∧ ∃ (k20 : Nat), k20 < k13 ∧ y11 k20
  (bits BinOp.or IntKind.i64 (IntKind.wrap IntKind.i64 (n14 * (2 : Int) ^ 8)) (IntKind.wrap IntKind.i64 n19)) (IntKind.wrap IntKind.i64 (n15
  + (1 : Int))) w16) (∃ (ad21 : Addr), p7 = some ad21 ∧ ((0 : Int) ≤ (9 : Int) ∧ (9 : Int) < (k8 : Int)) ∧ ∃ (n22 : Int), World.cell? w16
  (Addr.add ad21 9) = some (Value.int IntKind.u8 n22) ∧ (0 : Int) ≤ (8 : Int) ∧ ∃ (ad23 : Addr), p7 = some ad23 ∧ ((0 : Int) ≤ (10 : Int) ∧
  (10 : Int) < (k8 : Int)) ∧ ∃ (n24 : Int), World.cell? w16 (Addr.add ad23 10) = some (Value.int IntKind.u8 n24) ∧ ∀ (y25 : Bool → World →
  Prop), (∀ (b26 : Bool) (w27 : World), bcase b26 (∀ (w28 : World), Step w27 w28 [k1] [] → R (Ending.returned (Value.tuple { toList := [Value.agg { toList := List.take 2 (List.drop 0 (sets [Value.int IntKind.i64 (0 : Int), Value.slice none 0 0] 0 [Value.int IntKind.i64 (0 : Int), Value.slice none 0 0])) }, Value.bool false] }))
  w28) (Calls Proofs.Try.prog (66 : Nat) { toList := [Value.int IntKind.i64 (bits BinOp.or IntKind.i64 (IntKind.wrap IntKind.i64 (IntKind.wrap IntKind.i64 n22 * (2 : Int) ^ 8)) (IntKind.wrap IntKind.i64 n24))] }
  w27 fun (e30 : Ending) (w31 : World) => ∃ (n32 : Int), e30 = Ending.returned (Value.int IntKind.i64 n32) ∧ Keep [k1] w27 w31 ∧ ∃ (y33 :
  Nat → Option Addr → Nat → Nat → Int → World → Prop), ∃ (k34 : Nat), y33 k34 none 0 0 (0 : Int) w31 ∧ ∀ (k35 : Nat) (p36 : Option Addr)
  (k37 k38 : Nat) (n39 : Int) (w40 : World), y33 k35 p36 k37 k38 n39 w40 → bcase (decide (n39 < n32)) (∃ (p42 : Option Addr), World.cell?
  w40 (Addr.add l 0) = some (Value.pointer p42) ∧ Calls Proofs.Try.prog (22 : Nat) { toList := [Value.pointer p42, Value.int IntKind.i64 (IntKind.wrap IntKind.i64 (IntKind.wrap IntKind.i64 (at0 + (1 : Int)) + n39))] }
  w40 fun (e43 : Ending) (w44 : World) => ∃ (p45 : Option Addr), ∃ (k46 : Nat), ∃ (k47 : Nat), ∃ (n48 : Int), e43 = Ending.returned
  (Value.tuple { toList := [Value.slice p45 k46 k47, Value.int IntKind.i64 n48] }) ∧ Keep [k1] w40 w44 ∧ ∃ (l49 : List Value), List.length
  l49 = k46 * 1 ∧ Row w44 p45 l49 ∧ appendP true [] [] [k1] w44 p36 k37 k38 k46 l49 1 1 [Value.int IntKind.u8 (0 : Int)] fun (w50 : World)
  (p51 : Option Addr) (k52 k53 : Nat) => ∃ (k54 : Nat), k54 < k35 ∧ y33 k54 p51 k52 k53 (IntKind.wrap IntKind.i64 (n39 + (1 : Int))) w50)
  (((0 : Int) ≤ (0 : Int) ∧ (0 : Int) ≤ bits BinOp.or IntKind.i64 (IntKind.wrap IntKind.i64 (IntKind.wrap IntKind.i64 n22 * (2 : Int) ^ 8))
  (IntKind.wrap IntKind.i64 n24) ∧ bits BinOp.or IntKind.i64 (IntKind.wrap IntKind.i64 (IntKind.wrap IntKind.i64 n22 * (2 : Int) ^ 8))
  (IntKind.wrap IntKind.i64 n24) ≤ (k38 : Int)) ∧ Calls Proofs.Try.prog (69 : Nat) { toList := [Value.slice (subA p36 0 k38 1) (Int.toNat (bits BinOp.or IntKind.i64 (IntKind.wrap IntKind.i64 (IntKind.wrap IntKind.i64 n22 * (2 : Int) ^ 8)) (IntKind.wrap IntKind.i64 n24)) - 0) (k38 - 0)] }
  w40 fun (e55 : Ending) (w56 : World) => ∃ (p57 : Option Addr), ∃ (k58 : Nat), ∃ (k59 : Nat), e55 = Ending.returned (Value.slice p57 k58
  k59) ∧ Keep [k1] w40 w56 ∧ ∀ (w60 : World), Step w56 w60 [k1] [] → R (Ending.returned (Value.tuple { toList := [Value.agg { toList := List.take 2 (List.drop 0 (sets [Value.int IntKind.i64 (0 : Int), Value.slice none 0 0] 0 (spl (spl [Value.int IntKind.i64 (0 : Int), Value.slice none 0 0] 0 [Value.int IntKind.i64 n14]) 1 [Value.slice p57 k58 k59]))) }, Value.bool true] }))
  w60)) → y25 b26 w27) → bcase (decide (n14 < (1 : Int))) (∀ (w64 : World), Step w16 w64 [] [] → y25 true w64) (bcase (decide
  ((4611686018427387904 : Int) < n14)) (∀ (w66 : World), Step w16 w66 [] [] → y25 true w66) (bcase (decide ((4000 : Int) < bits BinOp.or
  IntKind.i64 (IntKind.wrap IntKind.i64 (IntKind.wrap IntKind.i64 n22 * (2 : Int) ^ 8)) (IntKind.wrap IntKind.i64 n24))) (∀ (w68 : World),
  Step w16 w68 [] [] → y25 true w68) (∀ (w70 : World), Step w16 w70 [] [] → Calls Proofs.Try.prog (70 : Nat) { toList := [Value.int IntKind.i64 n14, Value.int IntKind.i64 (bits BinOp.or IntKind.i64 (IntKind.wrap IntKind.i64 (IntKind.wrap IntKind.i64 n22 * (2 : Int) ^ 8)) (IntKind.wrap IntKind.i64 n24))] }
  w70 fun (e72 : Ending) (w73 : World) => ∃ (p74 : Option Addr), ∃ (k75 : Nat), ∃ (k76 : Nat), e72 = Ending.returned (Value.slice p74 k75
  k76) ∧ Keep [k1] w70 w73 ∧ Calls Proofs.Try.prog (67 : Nat) { toList := [Value.slice p7 k8 k9, Value.slice p74 k75 k76] } w73 fun (e77 :
  Ending) (w78 : World) => ∃ (b79 : Bool), e77 = Ending.returned (Value.bool b79) ∧ Keep [k1] w73 w78 ∧ bcase (!b79) (y25 true w78) ((Calls
  Proofs.Try.prog (66 : Nat) { toList := [Value.int IntKind.i64 (bits BinOp.or IntKind.i64 (IntKind.wrap IntKind.i64 (IntKind.wrap IntKind.i64 n22 * (2 : Int) ^ 8)) (IntKind.wrap IntKind.i64 n24))] }
  w78 fun (e80 : Ending) (w81 : World) => ∃ (n82 : Int), e80 = Ending.returned (Value.int IntKind.i64 n82) ∧ Keep [k1] w78 w81 ∧ ∃ (n83 :
  Int), World.cell? w81 (Addr.add l 3) = some (Value.int IntKind.i64 n83) ∧ y25 (decide (n83 < IntKind.wrap IntKind.i64 (IntKind.wrap
  IntKind.i64 (at0 + (1 : Int)) + n82))) w81) ∧ ∃ (n84 : Int), World.cell? w78 (Addr.add l 3) = some (Value.int IntKind.i64 n84) ∧ Calls
  Proofs.Try.prog (66 : Nat) { toList := [Value.int IntKind.i64 (bits BinOp.or IntKind.i64 (IntKind.wrap IntKind.i64 (IntKind.wrap IntKind.i64 n22 * (2 : Int) ^ 8)) (IntKind.wrap IntKind.i64 n24))] }
  w78 fun (e85 : Ending) (w86 : World) => ∃ (n87 : Int), e85 = Ending.returned (Value.int IntKind.i64 n87) ∧ Keep [k1] w78 w86 ∧ y25 (decide
  (n84 < IntKind.wrap IntKind.i64 (IntKind.wrap IntKind.i64 (at0 + (1 : Int)) + n87))) w86)))))

theorem log_Log_read.link {l : Addr} {at0 : Int} {R : Ending → World → Prop} {w : World} (h : log_Log_read.vc l at0 R w) : Calls Go.Proofs.Try.prog 65 #[.pointer (some l), .int .i64 at0] w R :=
  calls_of pf (fn := Go.Proofs.Try.f65) (ann := .s (.n) (.s (.n) (.s (.n) (.s (.s (.n) (.b (.l ⟨[], [], [0], [(8, .l (.i .i64)), (28, .l (.i .i64))], []⟩ (.s (.n) (.s (.c (.n) (.n)) (.s (.b (.s (.n) (.n))) (.n))))))) (.s (.d [0]) (.s (.j ⟨[], [], [0], [(77, .l (.b))], []⟩ (.d [0]) (.c (.s (.n) (.n)) (.n))) (.s (.n) (.s (.s (.n) (.b (.l ⟨[], [], [0], [(12, .l (.sl)), (81, .l (.i .i64))], []⟩ (.s (.n) (.s (.c (.n) (.n)) (.s (.b (.s (.n) (.s (.n) (.n)))) (.n))))))) (.s (.n) (.n)))))))))) (mp := false) (args := [.a l, .v (.int .i64 at0)]) Go.Proofs.Try.func65 (c := Go.Proofs.Try.f65.body.getD .skip) (by kernel_rfl) (by kernel_rfl) (Eq.mp (by kernel_rfl) h)
theorem log_Log_read.body : BodyOk Go.Proofs.Try.prog 65 := ⟨Go.Proofs.Try.f65, Go.Proofs.Try.func65, by kernel_rfl, pf.ng _ _ Go.Proofs.Try.func65⟩

/-! ### slices.Index[[]int,int]: function 88 -/
def slices_Index_g.vc (sA : Option Addr) (sL sC : Nat) (v : Int) (R : Ending → World → Prop) (w : World) : Prop := ∃ (y1 : Nat → Int → World
  → Prop), ∃ (k2 : Nat), y1 k2 (0 : Int) w ∧ ∀ (k3 : Nat) (n4 : Int) (w5 : World), y1 k3 n4 w5 → bcase (decide (n4 < (sL : Int))) (∃ (ad7 :
  Addr), sA = some ad7 ∧ ((0 : Int) ≤ n4 ∧ n4 < (sL : Int)) ∧ ∃ (n8 : Int), World.cell? w5 (Addr.add ad7 (Int.toNat n4 * 1)) = some
  (Value.int IntKind.i64 n8) ∧ bcase (decide (v = n8)) (R (Ending.returned (Value.int IntKind.i64 n4)) w5) (∃ (k9 : Nat), k9 < k3 ∧ y1 k9
  (IntKind.wrap IntKind.i64 (n4 + (1 : Int))) w5)) (R (Ending.returned (Value.int IntKind.i64 (-1 : Int))) w5)

theorem slices_Index_g.link {sA : Option Addr} {sL sC : Nat} {v : Int} {R : Ending → World → Prop} {w : World} (h : slices_Index_g.vc sA sL sC v R w) : Calls Go.Proofs.Try.prog 88 #[.slice sA sL sC, .int .i64 v] w R :=
  calls_of pf (fn := Go.Proofs.Try.f88) (ann := .s (.n) (.s (.s (.n) (.b (.l ⟨[], [], [], [(8, .l (.i .i64))], []⟩ (.s (.n) (.s (.c (.n) (.n)) (.s (.b (.s (.n) (.s (.n) (.c (.s (.n) (.n)) (.n))))) (.n))))))) (.s (.n) (.n)))) (mp := false) (args := [.v (.slice sA sL sC), .v (.int .i64 v)]) Go.Proofs.Try.func88 (c := Go.Proofs.Try.f88.body.getD .skip) (by kernel_rfl) (by kernel_rfl) (Eq.mp (by kernel_rfl) h)
theorem slices_Index_g.body : BodyOk Go.Proofs.Try.prog 88 := ⟨Go.Proofs.Try.f88, Go.Proofs.Try.func88, by kernel_rfl, pf.ng _ _ Go.Proofs.Try.func88⟩

/-! ### slices.Contains[[]int,int]: function 76 -/
def slices_Contains_g.vc (sA : Option Addr) (sL sC : Nat) (v : Int) (R : Ending → World → Prop) (w : World) : Prop := Calls Proofs.Try.prog
  (88 : Nat) { toList := [Value.slice sA sL sC, Value.int IntKind.i64 v] } w fun (e1 : Ending) (w2 : World) => ∃ (n3 : Int), e1 =
  Ending.returned (Value.int IntKind.i64 n3) ∧ R (Ending.returned (Value.bool (decide ((0 : Int) ≤ n3)))) w2

theorem slices_Contains_g.link {sA : Option Addr} {sL sC : Nat} {v : Int} {R : Ending → World → Prop} {w : World} (h : slices_Contains_g.vc sA sL sC v R w) : Calls Go.Proofs.Try.prog 76 #[.slice sA sL sC, .int .i64 v] w R :=
  calls_of pf (fn := Go.Proofs.Try.f76) (ann := .s (.n) (.s (.n) (.n))) (mp := false) (args := [.v (.slice sA sL sC), .v (.int .i64 v)]) Go.Proofs.Try.func76 (c := Go.Proofs.Try.f76.body.getD .skip) (by kernel_rfl) (by kernel_rfl) (Eq.mp (by kernel_rfl) h)
theorem slices_Contains_g.body : BodyOk Go.Proofs.Try.prog 76 := ⟨Go.Proofs.Try.f76, Go.Proofs.Try.func76, by kernel_rfl, pf.ng _ _ Go.Proofs.Try.func76⟩

/-! ### (*rhizome/log.Log).wipe: function 68 -/
def log_Log_wipe.vc (l : Addr) (atA : Option Addr) (atL atC : Nat) (R : Ending → World → Prop) (w : World) : Prop := ∃ (y1 : Nat → Int →
  World → Prop), ∃ (k2 : Nat), y1 k2 (0 : Int) w ∧ ∀ (k3 : Nat) (n4 : Int) (w5 : World), y1 k3 n4 w5 → bcase (decide (n4 < (atL : Int))) (∃
  (ad7 : Addr), atA = some ad7 ∧ ((0 : Int) ≤ n4 ∧ n4 < (atL : Int)) ∧ ∃ (n8 : Int), World.cell? w5 (Addr.add ad7 (Int.toNat n4 * 1)) = some
  (Value.int IntKind.i64 n8) ∧ ∃ (p9 : Option Addr), World.cell? w5 (Addr.add l 0) = some (Value.pointer p9) ∧ ((0 : Int) ≤ (64 : Int) ∧ (64
  : Int) ≤ (64 : Int) ∧ ((1 : Nat) : Int) * (64 : Int) ≤ (281474976710656 : Int) ∧ (64 : Int) ≤ (281474976710656 : Int)) ∧ ∀ (w10 : World)
  (k11 : Nat), Step w5 w10 [] [k11] → Blk w10 k11 (reps [Value.int IntKind.u8 (0 : Int)] 64) → Calls Proofs.Try.prog (23 : Nat) { toList := [Value.pointer p9, Value.int IntKind.i64 n8, Value.slice (some { block := k11, off := 0 }) 64 64] }
  w10 fun (e14 : Ending) (w15 : World) => ∃ (n16 : Int), e14 = Ending.returned (Value.int IntKind.i64 n16) ∧ bcase (!decide (n16 = (0 :
  Int))) (R (Ending.returned (Value.int IntKind.i64 n16)) w15) (∃ (k17 : Nat), k17 < k3 ∧ y1 k17 (IntKind.wrap IntKind.i64 (n4 + (1 : Int)))
  w15)) (∃ (p18 : Option Addr), World.cell? w5 (Addr.add l 0) = some (Value.pointer p18) ∧ Calls Proofs.Try.prog (27 : Nat) { toList := [Value.pointer p18] }
  w5 fun (e19 : Ending) (w20 : World) => ∃ (n21 : Int), e19 = Ending.returned (Value.int IntKind.i64 n21) ∧ R (Ending.returned (Value.int
  IntKind.i64 n21)) w20)

theorem log_Log_wipe.link {l : Addr} {atA : Option Addr} {atL atC : Nat} {R : Ending → World → Prop} {w : World} (h : log_Log_wipe.vc l atA atL atC R w) : Calls Go.Proofs.Try.prog 68 #[.pointer (some l), .slice atA atL atC] w R :=
  calls_of pf (fn := Go.Proofs.Try.f68) (ann := .s (.n) (.s (.s (.n) (.b (.l ⟨[], [], [], [(10, .l (.i .i64))], []⟩ (.s (.n) (.s (.c (.n) (.n)) (.s (.b (.s (.n) (.s (.n) (.s (.n) (.c (.s (.n) (.n)) (.n)))))) (.n))))))) (.s (.n) (.n)))) (mp := false) (args := [.a l, .v (.slice atA atL atC)]) Go.Proofs.Try.func68 (c := Go.Proofs.Try.f68.body.getD .skip) (by kernel_rfl) (by kernel_rfl) (Eq.mp (by kernel_rfl) h)
theorem log_Log_wipe.body : BodyOk Go.Proofs.Try.prog 68 := ⟨Go.Proofs.Try.f68, Go.Proofs.Try.func68, by kernel_rfl, pf.ng _ _ Go.Proofs.Try.func68⟩

/-! ### (*rhizome/log.Log).Room: function 36 -/
def log_Log_Room.vc (l : Addr) (R : Ending → World → Prop) (w : World) : Prop := ∃ (n1 : Int), World.cell? w (Addr.add l 4) = some
  (Value.int IntKind.i64 n1) ∧ bcase (decide ((4611686018427387904 : Int) < n1)) (R (Ending.returned (Value.int IntKind.i64 (-1 : Int))) w)
  (∃ (n2 : Int), World.cell? w (Addr.add l 3) = some (Value.int IntKind.i64 n2) ∧ ∃ (n3 : Int), World.cell? w (Addr.add l 2) = some
  (Value.int IntKind.i64 n3) ∧ ∀ (w4 : World), Step w w4 [] [] → R (Ending.returned (Value.int IntKind.i64 (if (if IntKind.wrap IntKind.i64
  (IntKind.wrap IntKind.i64 (IntKind.wrap IntKind.i64 (n2 - n3) - (1 : Int)) * (64 : Int)) < (4000 : Int) then IntKind.wrap IntKind.i64
  (IntKind.wrap IntKind.i64 (IntKind.wrap IntKind.i64 (n2 - n3) - (1 : Int)) * (64 : Int)) else (4000 : Int)) > (-1 : Int) then if
  IntKind.wrap IntKind.i64 (IntKind.wrap IntKind.i64 (IntKind.wrap IntKind.i64 (n2 - n3) - (1 : Int)) * (64 : Int)) < (4000 : Int) then
  IntKind.wrap IntKind.i64 (IntKind.wrap IntKind.i64 (IntKind.wrap IntKind.i64 (n2 - n3) - (1 : Int)) * (64 : Int)) else (4000 : Int) else
  (-1 : Int)))) w4)

theorem log_Log_Room.link {l : Addr} {R : Ending → World → Prop} {w : World} (h : log_Log_Room.vc l R w) : Calls Go.Proofs.Try.prog 36 #[.pointer (some l)] w R :=
  calls_of pf (fn := Go.Proofs.Try.f36) (ann := .s (.n) (.s (.s (.n) (.c (.s (.n) (.n)) (.n))) (.s (.n) (.n)))) (mp := false) (args := [.a l]) Go.Proofs.Try.func36 (c := Go.Proofs.Try.f36.body.getD .skip) (by kernel_rfl) (by kernel_rfl) (Eq.mp (by kernel_rfl) h)
theorem log_Log_Room.body : BodyOk Go.Proofs.Try.prog 36 := ⟨Go.Proofs.Try.f36, Go.Proofs.Try.func36, by kernel_rfl, pf.ng _ _ Go.Proofs.Try.func36⟩

/-! ### (*rhizome/log.Log).Next: function 37 -/
def log_Log_Next.vc (l : Addr) (R : Ending → World → Prop) (w : World) : Prop := ∃ (n1 : Int), World.cell? w (Addr.add l 4) = some
  (Value.int IntKind.i64 n1) ∧ R (Ending.returned (Value.int IntKind.i64 n1)) w

theorem log_Log_Next.link {l : Addr} {R : Ending → World → Prop} {w : World} (h : log_Log_Next.vc l R w) : Calls Go.Proofs.Try.prog 37 #[.pointer (some l)] w R :=
  calls_of pf (fn := Go.Proofs.Try.f37) (ann := .s (.n) (.s (.n) (.n))) (mp := false) (args := [.a l]) Go.Proofs.Try.func37 (c := Go.Proofs.Try.f37.body.getD .skip) (by kernel_rfl) (by kernel_rfl) (Eq.mp (by kernel_rfl) h)
theorem log_Log_Next.body : BodyOk Go.Proofs.Try.prog 37 := ⟨Go.Proofs.Try.f37, Go.Proofs.Try.func37, by kernel_rfl, pf.ng _ _ Go.Proofs.Try.func37⟩

/-! ### (*rhizome/log.Log).Append: function 35 -/
def log_Log_Append.vc (l : Addr) (dataA : Option Addr) (dataL dataC : Nat) (R : Ending → World → Prop) (w : World) : Prop := Calls
  Proofs.Try.prog (66 : Nat) { toList := [Value.int IntKind.i64 (dataL : Int)] } w fun (e1 : Ending) (w2 : World) => ∃ (n3 : Int), e1 =
  Ending.returned (Value.int IntKind.i64 n3) ∧ bcase (decide ((4000 : Int) < (dataL : Int))) (R (Ending.returned (Value.int IntKind.i64 (3 :
  Int))) w2) (∀ (y4 : Bool → World → Prop), (∀ (b5 : Bool) (w6 : World), bcase b5 (R (Ending.returned (Value.int IntKind.i64 (5 : Int))) w6)
  (Calls Proofs.Try.prog (69 : Nat) { toList := [Value.slice dataA dataL dataC] } w6 fun (e7 : Ending) (w8 : World) => ∃ (p9 : Option Addr),
  ∃ (k10 : Nat), ∃ (k11 : Nat), e7 = Ending.returned (Value.slice p9 k10 k11) ∧ ((0 : Int) ≤ IntKind.wrap IntKind.i64 (IntKind.wrap
  IntKind.i64 (n3 * (64 : Int)) - (dataL : Int)) ∧ IntKind.wrap IntKind.i64 (IntKind.wrap IntKind.i64 (n3 * (64 : Int)) - (dataL : Int)) *
  ((1 : Nat) : Int) ≤ (281474976710656 : Int) ∧ IntKind.wrap IntKind.i64 (IntKind.wrap IntKind.i64 (n3 * (64 : Int)) - (dataL : Int)) ≤
  (9223372036854775807 : Int)) ∧ appendP true [] [] [] w8 p9 k10 k11 (Int.toNat (IntKind.wrap IntKind.i64 (IntKind.wrap IntKind.i64 (n3 *
  (64 : Int)) - (dataL : Int)))) (reps [Value.int IntKind.u8 (0 : Int)] (Int.toNat (IntKind.wrap IntKind.i64 (IntKind.wrap IntKind.i64 (n3 *
  (64 : Int)) - (dataL : Int))))) 1 1 [Value.int IntKind.u8 (0 : Int)] fun (w12 : World) (p13 : Option Addr) (k14 k15 : Nat) => ∃ (y16 : Nat
  → Int → World → Prop), ∃ (k17 : Nat), y16 k17 (0 : Int) w12 ∧ ∀ (k18 : Nat) (n19 : Int) (w20 : World), y16 k18 n19 w20 → bcase (decide
  (n19 < n3)) (∃ (p22 : Option Addr), World.cell? w20 (Addr.add l 0) = some (Value.pointer p22) ∧ ∃ (n23 : Int), World.cell? w20 (Addr.add l
  2) = some (Value.int IntKind.i64 n23) ∧ ((0 : Int) ≤ IntKind.wrap IntKind.i64 (n19 * (64 : Int)) ∧ IntKind.wrap IntKind.i64 (n19 * (64 :
  Int)) ≤ IntKind.wrap IntKind.i64 (IntKind.wrap IntKind.i64 (n19 + (1 : Int)) * (64 : Int)) ∧ IntKind.wrap IntKind.i64 (IntKind.wrap
  IntKind.i64 (n19 + (1 : Int)) * (64 : Int)) ≤ (k15 : Int)) ∧ ∀ (w24 : World), Step w20 w24 [] [] → Calls Proofs.Try.prog (23 : Nat) { toList := [Value.pointer p22, Value.int IntKind.i64 (IntKind.wrap IntKind.i64 (IntKind.wrap IntKind.i64 (n23 + (1 : Int)) + n19)), Value.slice (subA p13 (Int.toNat (IntKind.wrap IntKind.i64 (n19 * (64 : Int)))) k15 1) (Int.toNat (IntKind.wrap IntKind.i64 (IntKind.wrap IntKind.i64 (n19 + (1 : Int)) * (64 : Int))) - Int.toNat (IntKind.wrap IntKind.i64 (n19 * (64 : Int)))) (k15 - Int.toNat (IntKind.wrap IntKind.i64 (n19 * (64 : Int))))] }
  w24 fun (e26 : Ending) (w27 : World) => ∃ (n28 : Int), e26 = Ending.returned (Value.int IntKind.i64 n28) ∧ bcase (!decide (n28 = (0 :
  Int))) (R (Ending.returned (Value.int IntKind.i64 n28)) w27) (∃ (k29 : Nat), k29 < k18 ∧ y16 k29 (IntKind.wrap IntKind.i64 (n19 + (1 :
  Int))) w27)) (∃ (p30 : Option Addr), World.cell? w20 (Addr.add l 0) = some (Value.pointer p30) ∧ Calls Proofs.Try.prog (27 : Nat) { toList := [Value.pointer p30] }
  w20 fun (e31 : Ending) (w32 : World) => ∃ (n33 : Int), e31 = Ending.returned (Value.int IntKind.i64 n33) ∧ bcase (!decide (n33 = (0 :
  Int))) (R (Ending.returned (Value.int IntKind.i64 n33)) w32) (∀ (y34 : Int → World → Prop), (∀ (n35 : Int) (w36 : World), bcase (!decide
  (n35 = (0 : Int))) (R (Ending.returned (Value.int IntKind.i64 n35)) w36) (∃ (p37 : Option Addr), World.cell? w36 (Addr.add l 0) = some
  (Value.pointer p37) ∧ Calls Proofs.Try.prog (27 : Nat) { toList := [Value.pointer p37] } w36 fun (e38 : Ending) (w39 : World) => ∃ (n40 :
  Int), e38 = Ending.returned (Value.int IntKind.i64 n40) ∧ bcase (!decide (n40 = (0 : Int))) (R (Ending.returned (Value.int IntKind.i64
  n40)) w39) (∃ (p41 : Option Addr), ∃ (k42 : Nat), ∃ (k43 : Nat), World.cell? w39 (Addr.add l 5) = some (Value.slice p41 k42 k43) ∧ ∃ (n44
  : Int), World.cell? w39 (Addr.add l 2) = some (Value.int IntKind.i64 n44) ∧ ∀ (k45 : Nat), appendP false [] [k45] [k45] w39 p41 k42 k43 1
  (spl (reps [Value.int IntKind.i64 (0 : Int)] 1) 0 [Value.int IntKind.i64 n44]) 1 8 [Value.int IntKind.i64 (0 : Int)] fun (w46 : World)
  (p47 : Option Addr) (k48 k49 : Nat) => ∃ (l50 : List Value), Blk w46 (Addr.block (Addr.add l 5)) l50 ∧ Addr.spot (Addr.add l 5) = none ∧
  Addr.off (Addr.add l 5) + List.length [Value.slice p47 k48 k49] ≤ List.length l50 ∧ ¬Addr.block (Addr.add l 5) ∈ [k45] ∧ ∀ (w51 : World),
  Upd w46 w51 (Addr.block (Addr.add l 5)) (sets l50 (Addr.off (Addr.add l 5)) [Value.slice p47 k48 k49]) → ∃ (n53 : Int), World.cell? w51
  (Addr.add l 2) = some (Value.int IntKind.i64 n53) ∧ ∃ (l54 : List Value), Blk w51 (Addr.block (Addr.add l 2)) l54 ∧ Addr.spot (Addr.add l
  2) = none ∧ Addr.off (Addr.add l 2) + List.length [Value.int IntKind.i64 (IntKind.wrap IntKind.i64 (n53 + IntKind.wrap IntKind.i64 ((1 :
  Int) + n3)))] ≤ List.length l54 ∧ ¬Addr.block (Addr.add l 2) ∈ [k45] ∧ ∀ (w55 : World), Upd w51 w55 (Addr.block (Addr.add l 2)) (sets l54
  (Addr.off (Addr.add l 2)) [Value.int IntKind.i64 (IntKind.wrap IntKind.i64 (n53 + IntKind.wrap IntKind.i64 ((1 : Int) + n3)))]) → ∃ (n57 :
  Int), World.cell? w55 (Addr.add l 4) = some (Value.int IntKind.i64 n57) ∧ ∃ (l58 : List Value), Blk w55 (Addr.block (Addr.add l 4)) l58 ∧
  Addr.spot (Addr.add l 4) = none ∧ Addr.off (Addr.add l 4) + List.length [Value.int IntKind.i64 (IntKind.wrap IntKind.i64 (n57 + (1 :
  Int)))] ≤ List.length l58 ∧ ¬Addr.block (Addr.add l 4) ∈ [k45] ∧ ∀ (w59 : World), Upd w55 w59 (Addr.block (Addr.add l 4)) (sets l58
  (Addr.off (Addr.add l 4)) [Value.int IntKind.i64 (IntKind.wrap IntKind.i64 (n57 + (1 : Int)))]) → R (Ending.returned (Value.int
  IntKind.i64 (0 : Int))) w59)) → y34 n35 w36) → ∃ (n63 : Int), World.cell? w32 (Addr.add l 4) = some (Value.int IntKind.i64 n63) ∧ (∃ (p64
  : Option Addr), World.cell? w32 (Addr.add l 0) = some (Value.pointer p64) ∧ (∃ (n65 : Int), World.cell? w32 (Addr.add l 2) = some
  (Value.int IntKind.i64 n65) ∧ ∀ (w66 : World), Step w32 w66 [] [] → Calls Proofs.Try.prog (70 : Nat) { toList := [Value.int IntKind.i64 n63, Value.int IntKind.i64 (dataL : Int)] }
  w66 fun (e68 : Ending) (w69 : World) => ∃ (p70 : Option Addr), ∃ (k71 : Nat), ∃ (k72 : Nat), e68 = Ending.returned (Value.slice p70 k71
  k72) ∧ Calls Proofs.Try.prog (23 : Nat) { toList := [Value.pointer p64, Value.int IntKind.i64 n65, Value.slice p70 k71 k72] } w69 fun (e73
  : Ending) (w74 : World) => ∃ (n75 : Int), e73 = Ending.returned (Value.int IntKind.i64 n75) ∧ y34 n75 w74) ∧ ∀ (w76 : World), Step w32 w76
  [] [] → Calls Proofs.Try.prog (70 : Nat) { toList := [Value.int IntKind.i64 n63, Value.int IntKind.i64 (dataL : Int)] } w76 fun (e78 :
  Ending) (w79 : World) => ∃ (p80 : Option Addr), ∃ (k81 : Nat), ∃ (k82 : Nat), e78 = Ending.returned (Value.slice p80 k81 k82) ∧ ∃ (n83 :
  Int), World.cell? w79 (Addr.add l 2) = some (Value.int IntKind.i64 n83) ∧ Calls Proofs.Try.prog (23 : Nat) { toList := [Value.pointer p64, Value.int IntKind.i64 n83, Value.slice p80 k81 k82] }
  w79 fun (e84 : Ending) (w85 : World) => ∃ (n86 : Int), e84 = Ending.returned (Value.int IntKind.i64 n86) ∧ y34 n86 w85) ∧ (∃ (n87 : Int),
  World.cell? w32 (Addr.add l 2) = some (Value.int IntKind.i64 n87) ∧ (∃ (p88 : Option Addr), World.cell? w32 (Addr.add l 0) = some
  (Value.pointer p88) ∧ ∀ (w89 : World), Step w32 w89 [] [] → Calls Proofs.Try.prog (70 : Nat) { toList := [Value.int IntKind.i64 n63, Value.int IntKind.i64 (dataL : Int)] }
  w89 fun (e91 : Ending) (w92 : World) => ∃ (p93 : Option Addr), ∃ (k94 : Nat), ∃ (k95 : Nat), e91 = Ending.returned (Value.slice p93 k94
  k95) ∧ Calls Proofs.Try.prog (23 : Nat) { toList := [Value.pointer p88, Value.int IntKind.i64 n87, Value.slice p93 k94 k95] } w92 fun (e96
  : Ending) (w97 : World) => ∃ (n98 : Int), e96 = Ending.returned (Value.int IntKind.i64 n98) ∧ y34 n98 w97) ∧ ∀ (w99 : World), Step w32 w99
  [] [] → Calls Proofs.Try.prog (70 : Nat) { toList := [Value.int IntKind.i64 n63, Value.int IntKind.i64 (dataL : Int)] } w99 fun (e101 :
  Ending) (w102 : World) => ∃ (p103 : Option Addr), ∃ (k104 : Nat), ∃ (k105 : Nat), e101 = Ending.returned (Value.slice p103 k104 k105) ∧ ∃
  (p106 : Option Addr), World.cell? w102 (Addr.add l 0) = some (Value.pointer p106) ∧ Calls Proofs.Try.prog (23 : Nat) { toList := [Value.pointer p106, Value.int IntKind.i64 n87, Value.slice p103 k104 k105] }
  w102 fun (e107 : Ending) (w108 : World) => ∃ (n109 : Int), e107 = Ending.returned (Value.int IntKind.i64 n109) ∧ y34 n109 w108) ∧ ∀ (w110
  : World), Step w32 w110 [] [] → Calls Proofs.Try.prog (70 : Nat) { toList := [Value.int IntKind.i64 n63, Value.int IntKind.i64 (dataL : Int)] }
  w110 fun (e112 : Ending) (w113 : World) => ∃ (p114 : Option Addr), ∃ (k115 : Nat), ∃ (k116 : Nat), e112 = Ending.returned (Value.slice
  p114 k115 k116) ∧ ∃ (p117 : Option Addr), World.cell? w113 (Addr.add l 0) = some (Value.pointer p117) ∧ ∃ (n118 : Int), World.cell? w113
  (Addr.add l 2) = some (Value.int IntKind.i64 n118) ∧ Calls Proofs.Try.prog (23 : Nat) { toList := [Value.pointer p117, Value.int IntKind.i64 n118, Value.slice p114 k115 k116] }
  w113 fun (e119 : Ending) (w120 : World) => ∃ (n121 : Int), e119 = Ending.returned (Value.int IntKind.i64 n121) ∧ y34 n121 w120))) → y4 b5
  w6) → ∃ (n124 : Int), World.cell? w2 (Addr.add l 4) = some (Value.int IntKind.i64 n124) ∧ bcase (decide ((4611686018427387904 : Int) <
  n124)) (∀ (w125 : World), Step w2 w125 [] [] → y4 true w125) (∃ (n127 : Int), World.cell? w2 (Addr.add l 2) = some (Value.int IntKind.i64
  n127) ∧ ∃ (n128 : Int), World.cell? w2 (Addr.add l 3) = some (Value.int IntKind.i64 n128) ∧ ∀ (w129 : World), Step w2 w129 [] [] → y4
  (decide (n128 < IntKind.wrap IntKind.i64 (IntKind.wrap IntKind.i64 (n127 + (1 : Int)) + n3))) w129))

theorem log_Log_Append.link {l : Addr} {dataA : Option Addr} {dataL dataC : Nat} {R : Ending → World → Prop} {w : World} (h : log_Log_Append.vc l dataA dataL dataC R w) : Calls Go.Proofs.Try.prog 35 #[.pointer (some l), .slice dataA dataL dataC] w R :=
  calls_of pf (fn := Go.Proofs.Try.f35) (ann := .s (.n) (.s (.n) (.s (.b (.s (.n) (.c (.s (.n) (.n)) (.j ⟨[], [], [], [(19, .l (.b))], []⟩ (.n) (.c (.s (.n) (.n)) (.n)))))) (.s (.n) (.s (.s (.n) (.b (.l ⟨[], [], [], [(48, .l (.i .i64))], []⟩ (.s (.n) (.s (.c (.n) (.n)) (.s (.b (.s (.n) (.s (.n) (.s (.n) (.c (.s (.n) (.n)) (.n)))))) (.n))))))) (.s (.s (.n) (.s (.n) (.c (.s (.n) (.n)) (.n)))) (.s (.j ⟨[], [], [], [(10, .l (.i .i64))], []⟩ (.n) (.s (.n) (.c (.s (.n) (.n)) (.n)))) (.s (.s (.n) (.s (.n) (.c (.s (.n) (.n)) (.n)))) (.s (.n) (.s (.n) (.s (.n) (.s (.n) (.n))))))))))))) (mp := false) (args := [.a l, .v (.slice dataA dataL dataC)]) Go.Proofs.Try.func35 (c := Go.Proofs.Try.f35.body.getD .skip) (by kernel_rfl) (by kernel_rfl) (Eq.mp (by kernel_rfl) h)
theorem log_Log_Append.body : BodyOk Go.Proofs.Try.prog 35 := ⟨Go.Proofs.Try.f35, Go.Proofs.Try.func35, by kernel_rfl, pf.ng _ _ Go.Proofs.Try.func35⟩

/-! ### (*rhizome/log.Log).Reset: function 43 -/
def log_Log_Reset.vc (l : Addr) (next : Int) (R : Ending → World → Prop) (w : World) : Prop := ∀ (y1 : Bool → World → Prop), (∀ (b2 : Bool)
  (w3 : World), bcase b2 (R (Ending.returned (Value.int IntKind.i64 (1 : Int))) w3) (∀ (y4 : World → Prop), (∀ (w5 : World), (∃ (n6 : Int),
  World.cell? w5 (Addr.add l 1) = some (Value.int IntKind.i64 n6) ∧ ∃ (l7 : List Value), Blk w5 (Addr.block (Addr.add l 5)) l7 ∧ Addr.spot
  (Addr.add l 5) = none ∧ Addr.off (Addr.add l 5) + 1 ≤ List.length l7 ∧ ∀ (w8 : World), Upd w5 w8 (Addr.block (Addr.add l 5)) (sets l7
  (Addr.off (Addr.add l 5)) [Value.slice none 0 0]) → ∃ (l10 : List Value), Blk w8 (Addr.block (Addr.add l 2)) l10 ∧ Addr.spot (Addr.add l
  2) = none ∧ Addr.off (Addr.add l 2) + List.length [Value.int IntKind.i64 n6] ≤ List.length l10 ∧ ∀ (w11 : World), Upd w8 w11 (Addr.block
  (Addr.add l 2)) (sets l10 (Addr.off (Addr.add l 2)) [Value.int IntKind.i64 n6]) → ∃ (l13 : List Value), Blk w11 (Addr.block (Addr.add l
  4)) l13 ∧ Addr.spot (Addr.add l 4) = none ∧ Addr.off (Addr.add l 4) + List.length [Value.int IntKind.i64 next] ≤ List.length l13 ∧ ∀ (w14
  : World), Upd w11 w14 (Addr.block (Addr.add l 4)) (sets l13 (Addr.off (Addr.add l 4)) [Value.int IntKind.i64 next]) → R (Ending.returned
  (Value.int IntKind.i64 (0 : Int))) w14) → y4 w5) → ∃ (p18 : Option Addr), ∃ (k19 : Nat), ∃ (k20 : Nat), World.cell? w3 (Addr.add l 5) =
  some (Value.slice p18 k19 k20) ∧ bcase (decide ((0 : Int) < (k19 : Int))) (∃ (n21 : Int), World.cell? w3 (Addr.add l 1) = some (Value.int
  IntKind.i64 n21) ∧ ∃ (y22 : Nat → Option Addr → Nat → Nat → Int → World → Prop), ∃ (k23 : Nat), y22 k23 none 0 0 n21 w3 ∧ ∀ (k24 : Nat)
  (p25 : Option Addr) (k26 k27 : Nat) (n28 : Int) (w29 : World), y22 k24 p25 k26 k27 n28 w29 → ∃ (n31 : Int), World.cell? w29 (Addr.add l 2)
  = some (Value.int IntKind.i64 n31) ∧ bcase (decide (n28 < n31)) (∀ (y32 : Option Addr → Nat → Nat → World → Prop), (∀ (p33 : Option Addr)
  (k34 k35 : Nat) (w36 : World), (∃ (k37 : Nat), k37 < k24 ∧ y22 k37 p33 k34 k35 (IntKind.wrap IntKind.i64 (n28 + (1 : Int))) w36) → y32 p33
  k34 k35 w36) → ∃ (p40 : Option Addr), ∃ (k41 : Nat), ∃ (k42 : Nat), World.cell? w29 (Addr.add l 5) = some (Value.slice p40 k41 k42) ∧
  Calls Proofs.Try.prog (76 : Nat) { toList := [Value.slice p40 k41 k42, Value.int IntKind.i64 n28] } w29 fun (e43 : Ending) (w44 : World)
  => ∃ (b45 : Bool), e43 = Ending.returned (Value.bool b45) ∧ bcase (!b45) (∀ (k46 : Nat), appendP false [] [k46] [k46] w44 p25 k26 k27 1
  (spl (reps [Value.int IntKind.i64 (0 : Int)] 1) 0 [Value.int IntKind.i64 n28]) 1 8 [Value.int IntKind.i64 (0 : Int)] fun (w47 : World)
  (p48 : Option Addr) (k49 k50 : Nat) => y32 p48 k49 k50 w47) (y32 p25 k26 k27 w44)) (∃ (p51 : Option Addr), ∃ (k52 : Nat), ∃ (k53 : Nat),
  World.cell? w29 (Addr.add l 5) = some (Value.slice p51 k52 k53) ∧ Calls Proofs.Try.prog (68 : Nat) { toList := [Value.pointer (some l), Value.slice p51 k52 k53] }
  w29 fun (e54 : Ending) (w55 : World) => ∃ (n56 : Int), e54 = Ending.returned (Value.int IntKind.i64 n56) ∧ bcase (!decide (n56 = (0 :
  Int))) (R (Ending.returned (Value.int IntKind.i64 n56)) w55) (Calls Proofs.Try.prog (68 : Nat) { toList := [Value.pointer (some l), Value.slice p25 k26 k27] }
  w55 fun (e57 : Ending) (w58 : World) => ∃ (n59 : Int), e57 = Ending.returned (Value.int IntKind.i64 n59) ∧ bcase (!decide (n59 = (0 :
  Int))) (R (Ending.returned (Value.int IntKind.i64 n59)) w58) (y4 w58)))) (y4 w3)) → y1 b2 w3) → bcase (decide (next < (1 : Int))) (y1 true
  w) (y1 (decide ((4611686018427387904 : Int) < next)) w)

theorem log_Log_Reset.link {l : Addr} {next : Int} {R : Ending → World → Prop} {w : World} (h : log_Log_Reset.vc l next R w) : Calls Go.Proofs.Try.prog 43 #[.pointer (some l), .int .i64 next] w R :=
  calls_of pf (fn := Go.Proofs.Try.f43) (ann := .s (.n) (.s (.j ⟨[], [], [], [(14, .l (.b))], []⟩ (.n) (.c (.s (.n) (.n)) (.n))) (.j ⟨[], [], [], [], []⟩ (.s (.n) (.c (.s (.n) (.s (.s (.n) (.b (.l ⟨[], [], [], [(5, .l (.sl)), (6, .l (.i .i64))], []⟩ (.s (.s (.n) (.c (.n) (.n))) (.j ⟨[], [], [], [(5, .l (.sl))], []⟩ (.b (.s (.n) (.c (.n) (.n)))) (.n)))))) (.s (.s (.n) (.s (.n) (.c (.s (.n) (.n)) (.n)))) (.s (.n) (.s (.n) (.c (.s (.n) (.n)) (.n))))))) (.n))) (.s (.n) (.s (.n) (.n)))))) (mp := false) (args := [.a l, .v (.int .i64 next)]) Go.Proofs.Try.func43 (c := Go.Proofs.Try.f43.body.getD .skip) (by kernel_rfl) (by kernel_rfl) (Eq.mp (by kernel_rfl) h)
theorem log_Log_Reset.body : BodyOk Go.Proofs.Try.prog 43 := ⟨Go.Proofs.Try.f43, Go.Proofs.Try.func43, by kernel_rfl, pf.ng _ _ Go.Proofs.Try.func43⟩

/-! ### rhizome/log.Open: function 34 -/
def log_Open.vc (d : Addr) (first : Int) (count : Int) (R : Ending → World → Prop) (w : World) : Prop := ∀ (y1 : Bool → World → Prop), (∀
  (b2 : Bool) (w3 : World), bcase b2 (R (Ending.returned (Value.tuple { toList := [Value.pointer none, Value.slice none 0 0, Value.int IntKind.i64 (1 : Int)] }))
  w3) (∀ (k4 : Nat) (w5 : World), Step w3 w5 [] [k4] → Blk w5 k4 (spl (spl (spl (spl (spl [Value.pointer none, Value.int IntKind.i64 (0 :
  Int), Value.int IntKind.i64 (0 : Int), Value.int IntKind.i64 (0 : Int), Value.int IntKind.i64 (0 : Int), Value.slice none 0 0] 0
  [Value.pointer (some d)]) 1 [Value.int IntKind.i64 first]) 2 [Value.int IntKind.i64 first]) 3 [Value.int IntKind.i64 (IntKind.wrap
  IntKind.i64 (first + count))]) 4 [Value.int IntKind.i64 (1 : Int)]) → ∀ (y8 : Option Addr → Nat → Nat → World → Prop), (∀ (p9 : Option
  Addr) (k10 k11 : Nat) (w12 : World), (∃ (n13 : Int), World.cell? w12 (Addr.add { block := k4, off := 0 } 2) = some (Value.int IntKind.i64
  n13) ∧ ∃ (y14 : Nat → Option Addr → Nat → Nat → Int → World → Prop), ∃ (k15 : Nat), y14 k15 none 0 0 n13 w12 ∧ ∀ (k16 : Nat) (p17 : Option
  Addr) (k18 k19 : Nat) (n20 : Int) (w21 : World), y14 k16 p17 k18 k19 n20 w21 → ∃ (n23 : Int), World.cell? w21 (Addr.add
  { block := k4, off := 0 } 3) = some (Value.int IntKind.i64 n23) ∧ bcase (decide (n20 < n23)) (∀ (y24 : Option Addr → Nat → Nat → World →
  Prop), (∀ (p25 : Option Addr) (k26 k27 : Nat) (w28 : World), (∃ (k29 : Nat), k29 < k16 ∧ y14 k29 p25 k26 k27 (IntKind.wrap IntKind.i64
  (n20 + (1 : Int))) w28) → y24 p25 k26 k27 w28) → Calls Proofs.Try.prog (22 : Nat) { toList := [Value.pointer (some d), Value.int IntKind.i64 n20] }
  w21 fun (e32 : Ending) (w33 : World) => ∃ (p34 : Option Addr), ∃ (k35 : Nat), ∃ (k36 : Nat), ∃ (n37 : Int), e32 = Ending.returned
  (Value.tuple { toList := [Value.slice p34 k35 k36, Value.int IntKind.i64 n37] }) ∧ ((0 : Int) ≤ (64 : Int) ∧ (64 : Int) ≤ (64 : Int) ∧ ((1
  : Nat) : Int) * (64 : Int) ≤ (281474976710656 : Int) ∧ (64 : Int) ≤ (281474976710656 : Int)) ∧ ∀ (w38 : World) (k39 : Nat), Step w33 w38
  [] [k39] → Blk w38 k39 (reps [Value.int IntKind.u8 (0 : Int)] 64) → Calls Proofs.Try.prog (67 : Nat) { toList := [Value.slice p34 k35 k36, Value.slice (some { block := k39, off := 0 }) 64 64] }
  w38 fun (e42 : Ending) (w43 : World) => ∃ (b44 : Bool), e42 = Ending.returned (Value.bool b44) ∧ bcase (!b44) (∀ (k45 : Nat), appendP
  false [] [k45] [k45] w43 p17 k18 k19 1 (spl (reps [Value.int IntKind.i64 (0 : Int)] 1) 0 [Value.int IntKind.i64 n20]) 1 8 [Value.int
  IntKind.i64 (0 : Int)] fun (w46 : World) (p47 : Option Addr) (k48 k49 : Nat) => y24 p47 k48 k49 w46) (y24 p17 k18 k19 w43)) (∀ (y50 :
  World → Prop), (∀ (w51 : World), R (Ending.returned (Value.tuple { toList := [Value.pointer (some { block := k4, off := 0 }), Value.slice p9 k10 k11, Value.int IntKind.i64 (0 : Int)] }))
  w51 → y50 w51) → bcase (decide ((0 : Int) < (k18 : Int))) (Calls Proofs.Try.prog (68 : Nat) { toList := [Value.pointer (some { block := k4, off := 0 }), Value.slice p17 k18 k19] }
  w21 fun (e54 : Ending) (w55 : World) => ∃ (n56 : Int), e54 = Ending.returned (Value.int IntKind.i64 n56) ∧ bcase (!decide (n56 = (0 :
  Int))) (R (Ending.returned (Value.tuple { toList := [Value.pointer none, Value.slice none 0 0, Value.int IntKind.i64 n56] })) w55) (y50
  w55)) (y50 w21))) → y8 p9 k10 k11 w12) → ∃ (y59 : Nat → Option Addr → Nat → Nat → World → Prop), ∃ (k60 : Nat), y59 k60 none 0 0 w5 ∧ ∀
  (k61 : Nat) (p62 : Option Addr) (k63 k64 : Nat) (w65 : World), y59 k61 p62 k63 k64 w65 → ∃ (n67 : Int), World.cell? w65 (Addr.add
  { block := k4, off := 0 } 2) = some (Value.int IntKind.i64 n67) ∧ ∃ (n68 : Int), World.cell? w65 (Addr.add { block := k4, off := 0 } 3) =
  some (Value.int IntKind.i64 n68) ∧ bcase (decide (n67 < n68)) (∃ (n69 : Int), World.cell? w65 (Addr.add { block := k4, off := 0 } 2) =
  some (Value.int IntKind.i64 n69) ∧ ∀ (w70 : World), Step w65 w70 [] [] → Calls Proofs.Try.prog (65 : Nat) { toList := [Value.pointer (some { block := k4, off := 0 }), Value.int IntKind.i64 n69] }
  w70 fun (e72 : Ending) (w73 : World) => ∃ (n74 : Int), ∃ (p75 : Option Addr), ∃ (k76 : Nat), ∃ (k77 : Nat), ∃ (b78 : Bool), e72 =
  Ending.returned (Value.tuple { toList := [Value.agg { toList := [Value.int IntKind.i64 n74, Value.slice p75 k76 k77] }, Value.bool b78] })
  ∧ ∀ (k79 : Nat) (y80 : Bool → World → Prop), (∀ (b81 : Bool) (w82 : World), bcase b81 (y8 p62 k63 k64 w82) (∀ (k83 : Nat), appendP false
  [] [k83] [k79, k83] w82 p62 k63 k64 1 (spl (reps [Value.int IntKind.i64 (0 : Int), Value.slice none 0 0] 1) 0 (List.take 2 (List.drop 0
  (sets [Value.int IntKind.i64 (0 : Int), Value.slice none 0 0] 0 [Value.int IntKind.i64 n74, Value.slice p75 k76 k77])))) 2 32 [Value.int
  IntKind.i64 (0 : Int), Value.slice none 0 0] fun (w84 : World) (p85 : Option Addr) (k86 k87 : Nat) => ∃ (p88 : Option Addr), ∃ (k89 :
  Nat), ∃ (k90 : Nat), World.cell? w84 (Addr.add { block := k4, off := 0 } 5) = some (Value.slice p88 k89 k90) ∧ ∃ (n91 : Int), World.cell?
  w84 (Addr.add { block := k4, off := 0 } 2) = some (Value.int IntKind.i64 n91) ∧ ∀ (k92 : Nat), appendP false [] [k92] [k79, k83, k92] w84
  p88 k89 k90 1 (spl (reps [Value.int IntKind.i64 (0 : Int)] 1) 0 [Value.int IntKind.i64 n91]) 1 8 [Value.int IntKind.i64 (0 : Int)] fun
  (w93 : World) (p94 : Option Addr) (k95 k96 : Nat) => ∃ (l97 : List Value), Blk w93 (Addr.block (Addr.add { block := k4, off := 0 } 5)) l97
  ∧ Addr.spot (Addr.add { block := k4, off := 0 } 5) = none ∧ Addr.off (Addr.add { block := k4, off := 0 } 5) + List.length [Value.slice p94
  k95 k96] ≤ List.length l97 ∧ ¬Addr.block (Addr.add { block := k4, off := 0 } 5) ∈ [k79, k83, k92] ∧ ∀ (w98 : World), Upd w93 w98
  (Addr.block (Addr.add { block := k4, off := 0 } 5)) (sets l97 (Addr.off (Addr.add { block := k4, off := 0 } 5)) [Value.slice p94 k95 k96])
  → ∀ (y100 : World → Prop), (∀ (w101 : World), (∃ (l102 : List Value), Blk w101 (Addr.block (Addr.add { block := k4, off := 0 } 4)) l102 ∧
  Addr.spot (Addr.add { block := k4, off := 0 } 4) = none ∧ Addr.off (Addr.add { block := k4, off := 0 } 4) + List.length [Value.int
  IntKind.i64 (IntKind.wrap IntKind.i64 (n74 + (1 : Int)))] ≤ List.length l102 ∧ ¬Addr.block (Addr.add { block := k4, off := 0 } 4) ∈ [k79]
  ∧ ∀ (w103 : World), Upd w101 w103 (Addr.block (Addr.add { block := k4, off := 0 } 4)) (sets l102 (Addr.off (Addr.add
  { block := k4, off := 0 } 4)) [Value.int IntKind.i64 (IntKind.wrap IntKind.i64 (n74 + (1 : Int)))]) → ∃ (k105 : Nat), k105 < k61 ∧ y59
  k105 p85 k86 k87 w103) → y100 w101) → (∃ (n108 : Int), World.cell? w98 (Addr.add { block := k4, off := 0 } 2) = some (Value.int
  IntKind.i64 n108) ∧ ∀ (w109 : World), Step w98 w109 [] [] → Calls Proofs.Try.prog (66 : Nat) { toList := [Value.int IntKind.i64 (k76 : Int)] }
  w109 fun (e111 : Ending) (w112 : World) => ∃ (n113 : Int), e111 = Ending.returned (Value.int IntKind.i64 n113) ∧ Keep [k79, k83, k92] w109
  w112 ∧ ∃ (l114 : List Value), Blk w112 (Addr.block (Addr.add { block := k4, off := 0 } 2)) l114 ∧ Addr.spot (Addr.add
  { block := k4, off := 0 } 2) = none ∧ Addr.off (Addr.add { block := k4, off := 0 } 2) + List.length [Value.int IntKind.i64 (IntKind.wrap
  IntKind.i64 (n108 + IntKind.wrap IntKind.i64 ((1 : Int) + n113)))] ≤ List.length l114 ∧ ¬Addr.block (Addr.add { block := k4, off := 0 } 2)
  ∈ [k79, k83, k92] ∧ ∀ (w115 : World), Upd w112 w115 (Addr.block (Addr.add { block := k4, off := 0 } 2)) (sets l114 (Addr.off (Addr.add
  { block := k4, off := 0 } 2)) [Value.int IntKind.i64 (IntKind.wrap IntKind.i64 (n108 + IntKind.wrap IntKind.i64 ((1 : Int) + n113)))]) →
  y100 w115) ∧ ∀ (w117 : World), Step w98 w117 [] [] → Calls Proofs.Try.prog (66 : Nat) { toList := [Value.int IntKind.i64 (k76 : Int)] }
  w117 fun (e119 : Ending) (w120 : World) => ∃ (n121 : Int), e119 = Ending.returned (Value.int IntKind.i64 n121) ∧ Keep [k79, k83, k92] w117
  w120 ∧ ∃ (n122 : Int), World.cell? w120 (Addr.add { block := k4, off := 0 } 2) = some (Value.int IntKind.i64 n122) ∧ ∃ (l123 : List
  Value), Blk w120 (Addr.block (Addr.add { block := k4, off := 0 } 2)) l123 ∧ Addr.spot (Addr.add { block := k4, off := 0 } 2) = none ∧
  Addr.off (Addr.add { block := k4, off := 0 } 2) + List.length [Value.int IntKind.i64 (IntKind.wrap IntKind.i64 (n122 + IntKind.wrap
  IntKind.i64 ((1 : Int) + n121)))] ≤ List.length l123 ∧ ¬Addr.block (Addr.add { block := k4, off := 0 } 2) ∈ [k79, k83, k92] ∧ ∀ (w124 :
  World), Upd w120 w124 (Addr.block (Addr.add { block := k4, off := 0 } 2)) (sets l123 (Addr.off (Addr.add { block := k4, off := 0 } 2))
  [Value.int IntKind.i64 (IntKind.wrap IntKind.i64 (n122 + IntKind.wrap IntKind.i64 ((1 : Int) + n121)))]) → y100 w124) → y80 b81 w82) →
  bcase (!b78) (∀ (w128 : World), Step w73 w128 [] [k79] → y80 true w128) (bcase (decide ((0 : Int) < (k63 : Int))) (∃ (n130 : Int),
  World.cell? w73 (Addr.add { block := k4, off := 0 } 4) = some (Value.int IntKind.i64 n130) ∧ ∀ (w131 : World), Step w73 w131 [] [k79] →
  y80 (!decide (n74 = n130)) w131) (∀ (w133 : World), Step w73 w133 [] [k79] → y80 false w133))) (∀ (w135 : World), Step w65 w135 [] [] → y8
  p62 k63 k64 w135)) → y1 b2 w3) → bcase (decide (first < (0 : Int))) (y1 true w) (bcase (decide (count < (2 : Int))) (y1 true w) (Calls
  Proofs.Try.prog (21 : Nat) { toList := [Value.pointer (some d)] } w fun (e139 : Ending) (w140 : World) => ∃ (n141 : Int), e139 =
  Ending.returned (Value.int IntKind.i64 n141) ∧ bcase (decide (n141 < first)) (y1 true w140) (Calls Proofs.Try.prog (21 : Nat) { toList := [Value.pointer (some d)] }
  w140 fun (e142 : Ending) (w143 : World) => ∃ (n144 : Int), e142 = Ending.returned (Value.int IntKind.i64 n144) ∧ y1 (decide (IntKind.wrap
  IntKind.i64 (n144 - first) < count)) w143)))

theorem log_Open.link {d : Addr} {first : Int} {count : Int} {R : Ending → World → Prop} {w : World} (h : log_Open.vc d first count R w) : Calls Go.Proofs.Try.prog 34 #[.pointer (some d), .int .i64 first, .int .i64 count] w R :=
  calls_of pf (fn := Go.Proofs.Try.f34) (ann := .s (.n) (.s (.j ⟨[], [], [], [(37, .l (.b))], []⟩ (.n) (.c (.s (.n) (.n)) (.n))) (.s (.n) (.s (.n) (.j ⟨[], [0], [], [(10, .l (.sl))], []⟩ (.b (.l ⟨[], [], [], [(10, .l (.sl))], []⟩ (.s (.s (.n) (.c (.n) (.n))) (.b (.s (.n) (.s (.j ⟨[], [], [1], [(79, .l (.b))], []⟩ (.d [1]) (.c (.n) (.n))) (.s (.n) (.s (.d [1, 2]) (.j ⟨[], [], [1], [], []⟩ (.d [1, 2, 3]) (.n)))))))))) (.s (.n) (.s (.s (.n) (.b (.l ⟨[], [], [], [(13, .l (.sl)), (14, .l (.i .i64))], []⟩ (.s (.s (.n) (.c (.n) (.n))) (.j ⟨[], [], [], [(13, .l (.sl))], []⟩ (.b (.s (.n) (.s (.n) (.c (.n) (.n))))) (.n)))))) (.j ⟨[], [], [], [], []⟩ (.s (.n) (.c (.s (.n) (.s (.n) (.c (.s (.n) (.n)) (.n)))) (.n))) (.s (.n) (.n)))))))))) (mp := false) (args := [.a d, .v (.int .i64 first), .v (.int .i64 count)]) Go.Proofs.Try.func34 (c := Go.Proofs.Try.f34.body.getD .skip) (by kernel_rfl) (by kernel_rfl) (Eq.mp (by kernel_rfl) h)
theorem log_Open.body : BodyOk Go.Proofs.Try.prog 34 := ⟨Go.Proofs.Try.f34, Go.Proofs.Try.func34, by kernel_rfl, pf.ng _ _ Go.Proofs.Try.func34⟩

end Go.Proofs.Ytcaamecdhbgknaa.VC
