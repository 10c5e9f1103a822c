/- What is to be shown of functions' texts, printed by a program of this session's repo; that it gives the functions' contracts is checked by the kernel. -/
import Derived.Test.YtcaamecdhbgknaaProg
import Derived.Test.YtcaamecdhbgknaaPf
namespace Go.Proofs.Ytcaamecdhbgknaa.VC
open Go Go.V
set_option maxRecDepth 1000000
set_option linter.unusedVariables false

/-! ### rhizome/rhizomeref04.Head: function 39 -/
def rhizomeref04_Head.vc (seq : Int) (size : Int) (R : Ending → World → Prop) (w : World) : Prop := ((0 : Int) ≤ (64 : Int) ∧ (64 : Int) ≤
  (64 : Int) ∧ ((1 : Nat) : Int) * (64 : Int) ≤ (281474976710656 : Int) ∧ (64 : Int) ≤ (281474976710656 : Int)) ∧ ∀ (w1 : World) (k2 : Nat),
  Step w w1 [] [k2] → Blk w1 k2 (reps [Value.int IntKind.u8 (0 : Int)] 64) → ∃ (ad5 : Addr), some { block := k2, off := 0 } = some ad5 ∧ ((0
  : Int) ≤ (0 : Int) ∧ (0 : Int) < ((64 : Nat) : Int)) ∧ ∃ (l6 : List Value), Blk w1 (Addr.block (Addr.add ad5 0)) l6 ∧ Addr.spot (Addr.add
  ad5 0) = none ∧ Addr.off (Addr.add ad5 0) + 1 ≤ List.length l6 ∧ ∀ (w7 : World), Upd w1 w7 (Addr.block (Addr.add ad5 0)) (sets l6
  (Addr.off (Addr.add ad5 0)) [Value.int IntKind.u8 (82 : Int)]) → ∃ (ad9 : Addr), some { block := k2, off := 0 } = some ad9 ∧ ((0 : Int) ≤
  (63 : Int) ∧ (63 : Int) < ((64 : Nat) : Int)) ∧ ∃ (l10 : List Value), Blk w7 (Addr.block (Addr.add ad9 63)) l10 ∧ Addr.spot (Addr.add ad9
  63) = none ∧ Addr.off (Addr.add ad9 63) + 1 ≤ List.length l10 ∧ ∀ (w11 : World), Upd w7 w11 (Addr.block (Addr.add ad9 63)) (sets l10
  (Addr.off (Addr.add ad9 63)) [Value.int IntKind.u8 (165 : Int)]) → ∃ (y13 : Nat → Int → Int → World → Prop), ∃ (k14 : Nat), y13 k14 seq (8
  : Int) w11 ∧ ∀ (k15 : Nat) (n16 n17 : Int) (w18 : World), y13 k15 n16 n17 w18 → bcase (decide ((0 : Int) < n17)) ((256 : Int) ≠ (0 : Int)
  ∧ ∃ (ad20 : Addr), some { block := k2, off := 0 } = some ad20 ∧ ((0 : Int) ≤ n17 ∧ n17 < ((64 : Nat) : Int)) ∧ ∃ (l21 : List Value), Blk
  w18 (Addr.block (Addr.add ad20 (Int.toNat n17 * 1))) l21 ∧ Addr.spot (Addr.add ad20 (Int.toNat n17 * 1)) = none ∧ Addr.off (Addr.add ad20
  (Int.toNat n17 * 1)) + List.length [Value.int IntKind.u8 (IntKind.wrap IntKind.u8 (Int.tmod n16 (256 : Int)))] ≤ List.length l21 ∧ ∀ (w22
  : World), Upd w18 w22 (Addr.block (Addr.add ad20 (Int.toNat n17 * 1))) (sets l21 (Addr.off (Addr.add ad20 (Int.toNat n17 * 1))) [Value.int
  IntKind.u8 (IntKind.wrap IntKind.u8 (Int.tmod n16 (256 : Int)))]) → (256 : Int) ≠ (0 : Int) ∧ ∃ (k24 : Nat), k24 < k15 ∧ y13 k24
  (IntKind.wrap IntKind.i64 (Int.tdiv n16 (256 : Int))) (IntKind.wrap IntKind.i64 (n17 - (1 : Int))) w22) ((256 : Int) ≠ (0 : Int) ∧ ∃ (ad25
  : Addr), some { block := k2, off := 0 } = some ad25 ∧ ((0 : Int) ≤ (9 : Int) ∧ (9 : Int) < ((64 : Nat) : Int)) ∧ ∃ (l26 : List Value), Blk
  w18 (Addr.block (Addr.add ad25 9)) l26 ∧ Addr.spot (Addr.add ad25 9) = none ∧ Addr.off (Addr.add ad25 9) + List.length [Value.int
  IntKind.u8 (IntKind.wrap IntKind.u8 (IntKind.wrap IntKind.i64 (Int.tdiv size (256 : Int))))] ≤ List.length l26 ∧ ∀ (w27 : World), Upd w18
  w27 (Addr.block (Addr.add ad25 9)) (sets l26 (Addr.off (Addr.add ad25 9)) [Value.int IntKind.u8 (IntKind.wrap IntKind.u8 (IntKind.wrap
  IntKind.i64 (Int.tdiv size (256 : Int))))]) → (256 : Int) ≠ (0 : Int) ∧ ∃ (ad29 : Addr), some { block := k2, off := 0 } = some ad29 ∧ ((0
  : Int) ≤ (10 : Int) ∧ (10 : Int) < ((64 : Nat) : Int)) ∧ ∃ (l30 : List Value), Blk w27 (Addr.block (Addr.add ad29 10)) l30 ∧ Addr.spot
  (Addr.add ad29 10) = none ∧ Addr.off (Addr.add ad29 10) + List.length [Value.int IntKind.u8 (IntKind.wrap IntKind.u8 (Int.tmod size (256 :
  Int)))] ≤ List.length l30 ∧ ∀ (w31 : World), Upd w27 w31 (Addr.block (Addr.add ad29 10)) (sets l30 (Addr.off (Addr.add ad29 10))
  [Value.int IntKind.u8 (IntKind.wrap IntKind.u8 (Int.tmod size (256 : Int)))]) → ∃ (l33 : List UInt8), List.length l33 = 64 ∧ (∀ (k34 :
  Nat), k34 < 64 → ∃ (ad36 : Addr), some { block := k2, off := 0 } = some ad36 ∧ World.cell? w31 (Addr.add ad36 k34) = some (Value.int
  IntKind.u8 ((UInt8.toNat (List.getD l33 k34 (0 : UInt8))) : Int))) ∧ R (Ending.returned (Value.string (ByteArray.mk (Array.mk l33)))) w31)

theorem rhizomeref04_Head.link {seq : Int} {size : Int} {R : Ending → World → Prop} {w : World} (h : rhizomeref04_Head.vc seq size R w) : Calls Go.Proofs.Try.prog 39 #[.int .i64 seq, .int .i64 size] w R :=
  calls_of pf (fn := Go.Proofs.Try.f39) (ann := .s (.n) (.s (.n) (.s (.n) (.s (.n) (.s (.s (.n) (.b (.l ⟨[], [], [], [(0, .l (.i .i64)), (6, .l (.i .i64))], []⟩ (.s (.s (.n) (.c (.n) (.n))) (.s (.b (.s (.n) (.n))) (.n)))))) (.s (.n) (.s (.n) (.s (.n) (.n))))))))) (mp := false) (args := [.v (.int .i64 seq), .v (.int .i64 size)]) Go.Proofs.Try.func39 (c := Go.Proofs.Try.f39.body.getD .skip) (by kernel_rfl) (by kernel_rfl) (Eq.mp (by kernel_rfl) h)
theorem rhizomeref04_Head.body : BodyOk Go.Proofs.Try.prog 39 := ⟨Go.Proofs.Try.f39, Go.Proofs.Try.func39, by kernel_rfl, pf.ng _ _ Go.Proofs.Try.func39⟩

/-! ### rhizome/rhizomeref04.Sectors: function 75 -/
def rhizomeref04_Sectors.vc (size : Int) (R : Ending → World → Prop) (w : World) : Prop := ∃ (y1 : Nat → Int → World → Prop), ∃ (k2 : Nat),
  y1 k2 (0 : Int) w ∧ ∀ (k3 : Nat) (n4 : Int) (w5 : World), y1 k3 n4 w5 → bcase (decide (IntKind.wrap IntKind.i64 (n4 * (64 : Int)) < size))
  (∃ (k7 : Nat), k7 < k3 ∧ y1 k7 (IntKind.wrap IntKind.i64 (n4 + (1 : Int))) w5) (R (Ending.returned (Value.int IntKind.i64 n4)) w5)

theorem rhizomeref04_Sectors.link {size : Int} {R : Ending → World → Prop} {w : World} (h : rhizomeref04_Sectors.vc size R w) : Calls Go.Proofs.Try.prog 75 #[.int .i64 size] w R :=
  calls_of pf (fn := Go.Proofs.Try.f75) (ann := .s (.n) (.s (.n) (.s (.b (.l ⟨[], [], [], [(3, .l (.i .i64))], []⟩ (.s (.s (.n) (.c (.n) (.n))) (.b (.n))))) (.s (.n) (.n))))) (mp := false) (args := [.v (.int .i64 size)]) Go.Proofs.Try.func75 (c := Go.Proofs.Try.f75.body.getD .skip) (by kernel_rfl) (by kernel_rfl) (Eq.mp (by kernel_rfl) h)
theorem rhizomeref04_Sectors.body : BodyOk Go.Proofs.Try.prog 75 := ⟨Go.Proofs.Try.f75, Go.Proofs.Try.func75, by kernel_rfl, pf.ng _ _ Go.Proofs.Try.func75⟩

/-! ### rhizome/rhizomeref04.End: function 73 -/
def rhizomeref04_End.vc (lFirst : Int) (lCount : Int) (lRecordsA : Option Addr) (lRecordsL lRecordsC : Nat) (lNext : Int) (R : Ending →
  World → Prop) (w : World) : Prop := ∀ (k1 : Nat), ∃ (y2 : Nat → Int → Int → World → Prop), ∃ (k3 : Nat), (∀ (w4 : World), Step w w4 []
  [k1] → y2 k3 lFirst (0 : Int) w4) ∧ ∀ (k6 : Nat) (n7 n8 : Int) (w9 : World), y2 k6 n7 n8 w9 → bcase (decide (n8 < (lRecordsL : Int))) (∃
  (ad11 : Addr), lRecordsA = some ad11 ∧ ((0 : Int) ≤ n8 ∧ n8 < (lRecordsL : Int)) ∧ ∃ (s12 : ByteArray), World.cell? w9 (Addr.add (Addr.add
  ad11 (Int.toNat n8 * 2)) 1) = some (Value.string s12) ∧ Calls Proofs.Try.prog (75 : Nat) { toList := [Value.int IntKind.i64 ((ByteArray.size s12) : Int)] }
  w9 fun (e13 : Ending) (w14 : World) => ∃ (n15 : Int), e13 = Ending.returned (Value.int IntKind.i64 n15) ∧ Keep [k1] w9 w14 ∧ ∃ (k16 :
  Nat), k16 < k6 ∧ y2 k16 (IntKind.wrap IntKind.i64 (IntKind.wrap IntKind.i64 (n7 + (1 : Int)) + n15)) (IntKind.wrap IntKind.i64 (n8 + (1 :
  Int))) w14) (R (Ending.returned (Value.int IntKind.i64 n7)) w9)

theorem rhizomeref04_End.link {lFirst : Int} {lCount : Int} {lRecordsA : Option Addr} {lRecordsL lRecordsC : Nat} {lNext : Int} {R : Ending → World → Prop} {w : World} (h : rhizomeref04_End.vc lFirst lCount lRecordsA lRecordsL lRecordsC lNext R w) : Calls Go.Proofs.Try.prog 73 #[(.agg #[.int .i64 lFirst, .int .i64 lCount, .slice lRecordsA lRecordsL lRecordsC, .int .i64 lNext] : Value)] w R :=
  calls_of pf (fn := Go.Proofs.Try.f73) (ann := .s (.n) (.s (.n) (.s (.s (.n) (.b (.l ⟨[], [], [0], [(3, .l (.i .i64)), (10, .l (.i .i64))], []⟩ (.s (.n) (.s (.c (.n) (.n)) (.s (.b (.s (.n) (.n))) (.n))))))) (.s (.n) (.n))))) (mp := false) (args := [.v (.agg #[.int .i64 lFirst, .int .i64 lCount, .slice lRecordsA lRecordsL lRecordsC, .int .i64 lNext])]) Go.Proofs.Try.func73 (c := Go.Proofs.Try.f73.body.getD .skip) (by kernel_rfl) (by kernel_rfl) (Eq.mp (by kernel_rfl) h)
theorem rhizomeref04_End.body : BodyOk Go.Proofs.Try.prog 73 := ⟨Go.Proofs.Try.f73, Go.Proofs.Try.func73, by kernel_rfl, pf.ng _ _ Go.Proofs.Try.func73⟩

/-! ### rhizome/rhizomeref04.Room: function 47 -/
def rhizomeref04_Room.vc (lFirst : Int) (lCount : Int) (lRecordsA : Option Addr) (lRecordsL lRecordsC : Nat) (lNext : Int) (R : Ending →
  World → Prop) (w : World) : Prop := ∀ (k1 : Nat) (w2 : World), Step w w2 [] [k1] → Calls Proofs.Try.prog (73 : Nat) { toList := [Value.agg { toList := [Value.int IntKind.i64 lFirst, Value.int IntKind.i64 lCount, Value.slice lRecordsA lRecordsL lRecordsC, Value.int IntKind.i64 lNext] }] }
  w2 fun (e4 : Ending) (w5 : World) => ∃ (n6 : Int), e4 = Ending.returned (Value.int IntKind.i64 n6) ∧ Keep [k1] w2 w5 ∧ ∀ (y7 : Bool →
  World → Prop), (∀ (b8 : Bool) (w9 : World), bcase b8 (R (Ending.returned (Value.int IntKind.i64 (-1 : Int))) w9) (bcase (decide ((4000 :
  Int) < IntKind.wrap IntKind.i64 (IntKind.wrap IntKind.i64 (IntKind.wrap IntKind.i64 (IntKind.wrap IntKind.i64 (lFirst + lCount) - n6) - (1
  : Int)) * (64 : Int)))) (R (Ending.returned (Value.int IntKind.i64 (4000 : Int))) w9) (R (Ending.returned (Value.int IntKind.i64
  (IntKind.wrap IntKind.i64 (IntKind.wrap IntKind.i64 (IntKind.wrap IntKind.i64 (IntKind.wrap IntKind.i64 (lFirst + lCount) - n6) - (1 :
  Int)) * (64 : Int))))) w9)) → y7 b8 w9) → bcase (decide (IntKind.wrap IntKind.i64 (IntKind.wrap IntKind.i64 (IntKind.wrap IntKind.i64
  (IntKind.wrap IntKind.i64 (lFirst + lCount) - n6) - (1 : Int)) * (64 : Int)) < (0 : Int))) (y7 true w5) (y7 (decide ((4611686018427387904
  : Int) < lNext)) w5)

theorem rhizomeref04_Room.link {lFirst : Int} {lCount : Int} {lRecordsA : Option Addr} {lRecordsL lRecordsC : Nat} {lNext : Int} {R : Ending → World → Prop} {w : World} (h : rhizomeref04_Room.vc lFirst lCount lRecordsA lRecordsL lRecordsC lNext R w) : Calls Go.Proofs.Try.prog 47 #[(.agg #[.int .i64 lFirst, .int .i64 lCount, .slice lRecordsA lRecordsL lRecordsC, .int .i64 lNext] : Value)] w R :=
  calls_of pf (fn := Go.Proofs.Try.f47) (ann := .s (.n) (.s (.d [0]) (.s (.j ⟨[], [], [], [(20, .l (.b))], []⟩ (.n) (.c (.s (.n) (.n)) (.n))) (.s (.s (.n) (.c (.s (.n) (.n)) (.n))) (.s (.n) (.n)))))) (mp := false) (args := [.v (.agg #[.int .i64 lFirst, .int .i64 lCount, .slice lRecordsA lRecordsL lRecordsC, .int .i64 lNext])]) Go.Proofs.Try.func47 (c := Go.Proofs.Try.f47.body.getD .skip) (by kernel_rfl) (by kernel_rfl) (Eq.mp (by kernel_rfl) h)
theorem rhizomeref04_Room.body : BodyOk Go.Proofs.Try.prog 47 := ⟨Go.Proofs.Try.f47, Go.Proofs.Try.func47, by kernel_rfl, pf.ng _ _ Go.Proofs.Try.func47⟩

/-! ### rhizome/rhizomeref04.record: function 87 -/
def rhizomeref04_record.vc (dSureA : Option Addr) (dSureL dSureC : Nat) (dNowA : Option Addr) (dNowL dNowC : Nat) (dFreshA : Option Addr)
  (dFreshL dFreshC : Nat) (dSteps : Int) (dLeft : Int) (at0 : Int) (behind : Int) (R : Ending → World → Prop) (w : World) : Prop := ∀ (k1 k2
  : Nat), ∃ (ad3 : Addr), dNowA = some ad3 ∧ ((0 : Int) ≤ at0 ∧ at0 < (dNowL : Int)) ∧ ∃ (s4 : ByteArray), World.cell? w (Addr.add ad3
  (Int.toNat at0 * 1)) = some (Value.string s4) ∧ ∃ (y5 : Nat → Int → Int → World → Prop), ∃ (k6 : Nat), (∀ (w7 : World), Step w w7 [] [k2,
  k1] → y5 k6 (0 : Int) (1 : Int) w7) ∧ ∀ (k9 : Nat) (n10 n11 : Int) (w12 : World), y5 k9 n10 n11 w12 → bcase (decide (n11 < (9 : Int)))
  (bcase (decide ((18014398509481984 : Int) < n10)) (∀ (w14 : World), Step w12 w14 [k2] [] → R (Ending.returned (Value.tuple { toList := [Value.agg { toList := List.take 2 (List.drop 0 (sets [Value.int IntKind.i64 (0 : Int), Value.string { data := { toList := [] } }] 0 [Value.int IntKind.i64 (0 : Int), Value.string { data := { toList := [] } }])) }, Value.bool false] }))
  w14) (((0 : Int) ≤ n11 ∧ n11 < ((ByteArray.size s4) : Int)) ∧ ∃ (k16 : Nat), k16 < k9 ∧ y5 k16 (IntKind.wrap IntKind.i64 (IntKind.wrap
  IntKind.i64 (n10 * (256 : Int)) + IntKind.wrap IntKind.i64 (byteAt s4 n11))) (IntKind.wrap IntKind.i64 (n11 + (1 : Int))) w12)) (((0 :
  Int) ≤ (9 : Int) ∧ (9 : Int) < ((ByteArray.size s4) : Int)) ∧ ((0 : Int) ≤ (10 : Int) ∧ (10 : Int) < ((ByteArray.size s4) : Int)) ∧ ∀ (y17
  : Bool → World → Prop), (∀ (b18 : Bool) (w19 : World), bcase b18 (∀ (w20 : World), Step w19 w20 [k2] [] → R (Ending.returned (Value.tuple
  { toList := [Value.agg { toList := List.take 2 (List.drop 0 (sets [Value.int IntKind.i64 (0 : Int), Value.string { data := { toList := [] } }] 0 [Value.int IntKind.i64 (0 : Int), Value.string { data := { toList := [] } }])) }, Value.bool false] }))
  w20) (∃ (y22 : Nat → ByteArray → Int → World → Prop), ∃ (k23 : Nat), y22 k23 { data := { toList := [] } } (0 : Int) w19 ∧ ∀ (k24 : Nat)
  (s25 : ByteArray) (n26 : Int) (w27 : World), y22 k24 s25 n26 w27 → Calls Proofs.Try.prog (75 : Nat) { toList := [Value.int IntKind.i64 (IntKind.wrap IntKind.i64 (IntKind.wrap IntKind.i64 (IntKind.wrap IntKind.i64 (byteAt s4 (9 : Int)) * (256 : Int)) + IntKind.wrap IntKind.i64 (byteAt s4 (10 : Int))))] }
  w27 fun (e29 : Ending) (w30 : World) => ∃ (n31 : Int), e29 = Ending.returned (Value.int IntKind.i64 n31) ∧ Keep [k1, k2] w27 w30 ∧ bcase
  (decide (n26 < n31)) (∃ (ad32 : Addr), dNowA = some ad32 ∧ ((0 : Int) ≤ IntKind.wrap IntKind.i64 (IntKind.wrap IntKind.i64 (at0 + (1 :
  Int)) + n26) ∧ IntKind.wrap IntKind.i64 (IntKind.wrap IntKind.i64 (at0 + (1 : Int)) + n26) < (dNowL : Int)) ∧ ∃ (s33 : ByteArray),
  World.cell? w30 (Addr.add ad32 (Int.toNat (IntKind.wrap IntKind.i64 (IntKind.wrap IntKind.i64 (at0 + (1 : Int)) + n26)) * 1)) = some
  (Value.string s33) ∧ ByteArray.size s25 + ByteArray.size s33 ≤ 9223372036854775807 ∧ ∃ (k34 : Nat), k34 < k24 ∧ y22 k34 (s25 ++ s33)
  (IntKind.wrap IntKind.i64 (n26 + (1 : Int))) w30) (((0 : Int) ≤ (0 : Int) ∧ (0 : Int) ≤ IntKind.wrap IntKind.i64 (IntKind.wrap IntKind.i64
  (IntKind.wrap IntKind.i64 (byteAt s4 (9 : Int)) * (256 : Int)) + IntKind.wrap IntKind.i64 (byteAt s4 (10 : Int))) ∧ IntKind.wrap
  IntKind.i64 (IntKind.wrap IntKind.i64 (IntKind.wrap IntKind.i64 (byteAt s4 (9 : Int)) * (256 : Int)) + IntKind.wrap IntKind.i64 (byteAt s4
  (10 : Int))) ≤ ((ByteArray.size s25) : Int)) ∧ ∀ (w35 : World), Step w30 w35 [k2] [] → R (Ending.returned (Value.tuple { toList := [Value.agg { toList := List.take 2 (List.drop 0 (sets [Value.int IntKind.i64 (0 : Int), Value.string { data := { toList := [] } }] 0 (spl (spl [Value.int IntKind.i64 (0 : Int), Value.string { data := { toList := [] } }] 0 [Value.int IntKind.i64 n10]) 1 [Value.string (ByteArray.extract s25 0 (Int.toNat (IntKind.wrap IntKind.i64 (IntKind.wrap IntKind.i64 (IntKind.wrap IntKind.i64 (byteAt s4 (9 : Int)) * (256 : Int)) + IntKind.wrap IntKind.i64 (byteAt s4 (10 : Int))))))]))) }, Value.bool true] }))
  w35)) → y17 b18 w19) → bcase (decide (n10 < (1 : Int))) (∀ (w39 : World), Step w12 w39 [] [] → y17 true w39) (bcase (decide
  ((4611686018427387904 : Int) < n10)) (∀ (w41 : World), Step w12 w41 [] [] → y17 true w41) (bcase (decide ((4000 : Int) < IntKind.wrap
  IntKind.i64 (IntKind.wrap IntKind.i64 (IntKind.wrap IntKind.i64 (byteAt s4 (9 : Int)) * (256 : Int)) + IntKind.wrap IntKind.i64 (byteAt s4
  (10 : Int))))) (∀ (w43 : World), Step w12 w43 [] [] → y17 true w43) (∀ (w45 : World), Step w12 w45 [] [] → Calls Proofs.Try.prog (39 :
  Nat) { toList := [Value.int IntKind.i64 n10, Value.int IntKind.i64 (IntKind.wrap IntKind.i64 (IntKind.wrap IntKind.i64 (IntKind.wrap IntKind.i64 (byteAt s4 (9 : Int)) * (256 : Int)) + IntKind.wrap IntKind.i64 (byteAt s4 (10 : Int))))] }
  w45 fun (e47 : Ending) (w48 : World) => ∃ (s49 : ByteArray), e47 = Ending.returned (Value.string s49) ∧ Keep [k1, k2] w45 w48 ∧ bcase
  (!decide (s4 = s49)) (y17 true w48) (Calls Proofs.Try.prog (75 : Nat) { toList := [Value.int IntKind.i64 (IntKind.wrap IntKind.i64 (IntKind.wrap IntKind.i64 (IntKind.wrap IntKind.i64 (byteAt s4 (9 : Int)) * (256 : Int)) + IntKind.wrap IntKind.i64 (byteAt s4 (10 : Int))))] }
  w48 fun (e50 : Ending) (w51 : World) => ∃ (n52 : Int), e50 = Ending.returned (Value.int IntKind.i64 n52) ∧ Keep [k1, k2] w48 w51 ∧ y17
  (decide (behind < IntKind.wrap IntKind.i64 (IntKind.wrap IntKind.i64 (at0 + (1 : Int)) + n52))) w51)))))

theorem rhizomeref04_record.link {dSureA : Option Addr} {dSureL dSureC : Nat} {dNowA : Option Addr} {dNowL dNowC : Nat} {dFreshA : Option Addr} {dFreshL dFreshC : Nat} {dSteps : Int} {dLeft : Int} {at0 : Int} {behind : Int} {R : Ending → World → Prop} {w : World} (h : rhizomeref04_record.vc dSureA dSureL dSureC dNowA dNowL dNowC dFreshA dFreshL dFreshC dSteps dLeft at0 behind R w) : Calls Go.Proofs.Try.prog 87 #[(.agg #[.slice dSureA dSureL dSureC, .slice dNowA dNowL dNowC, .slice dFreshA dFreshL dFreshC, .int .i64 dSteps, .int .i64 dLeft] : Value), .int .i64 at0, .int .i64 behind] w R :=
  calls_of pf (fn := Go.Proofs.Try.f87) (ann := .s (.n) (.s (.n) (.s (.n) (.s (.s (.n) (.b (.l ⟨[], [], [0, 1], [(9, .l (.i .i64)), (10, .l (.i .i64))], []⟩ (.s (.s (.n) (.c (.n) (.n))) (.s (.b (.s (.s (.n) (.c (.s (.n) (.n)) (.n))) (.n))) (.n)))))) (.s (.d [0, 1]) (.s (.j ⟨[], [], [0, 1], [(66, .l (.b))], []⟩ (.n) (.c (.s (.n) (.n)) (.n))) (.s (.n) (.s (.s (.n) (.b (.l ⟨[], [], [0, 1], [(12, .l (.s)), (13, .l (.i .i64))], []⟩ (.s (.s (.n) (.c (.n) (.n))) (.s (.b (.n)) (.n)))))) (.s (.n) (.n)))))))))) (mp := false) (args := [.v (.agg #[.slice dSureA dSureL dSureC, .slice dNowA dNowL dNowC, .slice dFreshA dFreshL dFreshC, .int .i64 dSteps, .int .i64 dLeft]), .v (.int .i64 at0), .v (.int .i64 behind)]) Go.Proofs.Try.func87 (c := Go.Proofs.Try.f87.body.getD .skip) (by kernel_rfl) (by kernel_rfl) (Eq.mp (by kernel_rfl) h)
theorem rhizomeref04_record.body : BodyOk Go.Proofs.Try.prog 87 := ⟨Go.Proofs.Try.f87, Go.Proofs.Try.func87, by kernel_rfl, pf.ng _ _ Go.Proofs.Try.func87⟩

/-! ### rhizome/rhizomeref04.Read: function 72 -/
def rhizomeref04_Read.vc (dSureA : Option Addr) (dSureL dSureC : Nat) (dNowA : Option Addr) (dNowL dNowC : Nat) (dFreshA : Option Addr)
  (dFreshL dFreshC : Nat) (dSteps : Int) (dLeft : Int) (first : Int) (count : Int) (R : Ending → World → Prop) (w : World) : Prop := ∀ (k1
  k2 k3 : Nat) (y4 : Int → Int → Option Addr → Nat → Nat → Int → World → Prop), (∀ (n5 n6 : Int) (p7 : Option Addr) (k8 k9 : Nat) (n10 :
  Int) (w11 : World), (∀ (w12 : World), Step w11 w12 [k2] [] → R (Ending.returned (Value.agg { toList := List.take 4 (List.drop 0 (sets [Value.int IntKind.i64 (0 : Int), Value.int IntKind.i64 (0 : Int), Value.slice none 0 0, Value.int IntKind.i64 (0 : Int)] 0 [Value.int IntKind.i64 n5, Value.int IntKind.i64 n6, Value.slice p7 k8 k9, Value.int IntKind.i64 n10])) }))
  w12) → y4 n5 n6 p7 k8 k9 n10 w11) → ∃ (y16 : Nat → Int → Int → Option Addr → Nat → Nat → Int → World → Prop), ∃ (k17 : Nat), (∀ (w18 :
  World), Step w w18 [] [k3, k2, k1] → y16 k17 first count none 0 0 (1 : Int) w18) ∧ ∀ (k20 : Nat) (n21 n22 : Int) (p23 : Option Addr) (k24
  k25 : Nat) (n26 : Int) (w27 : World), y16 k20 n21 n22 p23 k24 k25 n26 w27 → Calls Proofs.Try.prog (73 : Nat) { toList := [Value.agg { toList := [Value.int IntKind.i64 n21, Value.int IntKind.i64 n22, Value.slice p23 k24 k25, Value.int IntKind.i64 n26] }] }
  w27 fun (e29 : Ending) (w30 : World) => ∃ (n31 : Int), e29 = Ending.returned (Value.int IntKind.i64 n31) ∧ Keep [k1, k2, k3] w27 w30 ∧
  bcase (decide (n31 < IntKind.wrap IntKind.i64 (first + count))) (∀ (y32 : Addr → Bool → World → Prop), (∀ (ad33 : Addr) (b34 : Bool) (w35
  : World), (∀ (y36 : Bool → World → Prop), (∀ (b37 : Bool) (w38 : World), bcase b37 (y4 n21 n22 p23 k24 k25 n26 w38) (∀ (y39 : Int → Int →
  Option Addr → Nat → Nat → Int → World → Prop), (∀ (n40 n41 : Int) (p42 : Option Addr) (k43 k44 : Nat) (n45 : Int) (w46 : World), (∃ (n47 :
  Int), World.cell? w46 (Addr.add ad33 0) = some (Value.int IntKind.i64 n47) ∧ ∃ (k48 : Nat), k48 < k20 ∧ ∀ (w49 : World), Step w46 w49 [k3]
  [] → y16 k48 n40 n41 p42 k43 k44 (IntKind.wrap IntKind.i64 (n47 + (1 : Int))) w49) → y39 n40 n41 p42 k43 k44 n45 w46) → (∀ (k53 : Nat),
  ((∀ (w54 : World), Step w38 w54 [] [k53] → Blk w54 k53 (reps [Value.int IntKind.i64 (0 : Int), Value.string { data := { toList := [] } }]
  0) → ∃ (l57 : List Value), List.length l57 = k24 * 2 ∧ Row w54 p23 l57 ∧ appendP true [] [] [k1, k2, k3] w54 (some
  { block := k53, off := 0 }) 0 0 k24 l57 2 24 [Value.int IntKind.i64 (0 : Int), Value.string { data := { toList := [] } }] fun (w58 :
  World) (p59 : Option Addr) (k60 k61 : Nat) => ∃ (n62 : Int), ∃ (s63 : ByteArray), (World.cell? w58 (Addr.add ad33 0) = some (Value.int
  IntKind.i64 n62) ∧ World.cell? w58 (Addr.add ad33 1) = some (Value.string s63) ∧ True) ∧ ∀ (k64 : Nat), appendP false [] [k64] [k1, k2,
  k3, k64] w58 p59 k60 k61 1 (spl (reps [Value.int IntKind.i64 (0 : Int), Value.string { data := { toList := [] } }] 1) 0 [Value.int
  IntKind.i64 n62, Value.string s63]) 2 24 [Value.int IntKind.i64 (0 : Int), Value.string { data := { toList := [] } }] fun (w65 : World)
  (p66 : Option Addr) (k67 k68 : Nat) => ∀ (w69 : World), Step w65 w69 [k3] [] → y39 n21 n22 p66 k67 k68 n26 w69) ∧ ∃ (n71 : Int), ∃ (s72 :
  ByteArray), (World.cell? w38 (Addr.add ad33 0) = some (Value.int IntKind.i64 n71) ∧ World.cell? w38 (Addr.add ad33 1) = some (Value.string
  s72) ∧ True) ∧ (∀ (w73 : World), Step w38 w73 [] [k53] → Blk w73 k53 (reps [Value.int IntKind.i64 (0 : Int), Value.string
  { data := { toList := [] } }] 0) → ∃ (l76 : List Value), List.length l76 = k24 * 2 ∧ Row w73 p23 l76 ∧ appendP true [] [] [k1, k2, k3] w73
  (some { block := k53, off := 0 }) 0 0 k24 l76 2 24 [Value.int IntKind.i64 (0 : Int), Value.string { data := { toList := [] } }] fun (w77 :
  World) (p78 : Option Addr) (k79 k80 : Nat) => ∀ (k81 : Nat), appendP false [] [k81] [k1, k2, k3, k81] w77 p78 k79 k80 1 (spl (reps
  [Value.int IntKind.i64 (0 : Int), Value.string { data := { toList := [] } }] 1) 0 [Value.int IntKind.i64 n71, Value.string s72]) 2 24
  [Value.int IntKind.i64 (0 : Int), Value.string { data := { toList := [] } }] fun (w82 : World) (p83 : Option Addr) (k84 k85 : Nat) => ∀
  (w86 : World), Step w82 w86 [k3] [] → y39 n21 n22 p83 k84 k85 n26 w86) ∧ ∀ (k88 : Nat) (w89 : World), Step w38 w89 [] [k88, k53] → Blk w89
  k53 (reps [Value.int IntKind.i64 (0 : Int), Value.string { data := { toList := [] } }] 0) → ∃ (l92 : List Value), List.length l92 = k24 *
  2 ∧ Row w89 p23 l92 ∧ appendP true [] [] [k1, k2, k3, k88] w89 (some { block := k53, off := 0 }) 0 0 k24 l92 2 24 [Value.int IntKind.i64
  (0 : Int), Value.string { data := { toList := [] } }] fun (w93 : World) (p94 : Option Addr) (k95 k96 : Nat) => appendP true [] [] [k1, k2,
  k3, k88] w93 p94 k95 k96 1 (spl (reps [Value.int IntKind.i64 (0 : Int), Value.string { data := { toList := [] } }] 1) 0 [Value.int
  IntKind.i64 n71, Value.string s72]) 2 24 [Value.int IntKind.i64 (0 : Int), Value.string { data := { toList := [] } }] fun (w97 : World)
  (p98 : Option Addr) (k99 k100 : Nat) => ∀ (w101 : World), Step w97 w101 [k3] [] → y39 n21 n22 p98 k99 k100 n26 w101) ∧ ∃ (n103 : Int), ∃
  (s104 : ByteArray), (World.cell? w38 (Addr.add ad33 0) = some (Value.int IntKind.i64 n103) ∧ World.cell? w38 (Addr.add ad33 1) = some
  (Value.string s104) ∧ True) ∧ ((∀ (w105 : World), Step w38 w105 [] [k53] → Blk w105 k53 (reps [Value.int IntKind.i64 (0 : Int),
  Value.string { data := { toList := [] } }] 0) → ∃ (l108 : List Value), List.length l108 = k24 * 2 ∧ Row w105 p23 l108 ∧ appendP true [] []
  [k1, k2, k3] w105 (some { block := k53, off := 0 }) 0 0 k24 l108 2 24 [Value.int IntKind.i64 (0 : Int), Value.string
  { data := { toList := [] } }] fun (w109 : World) (p110 : Option Addr) (k111 k112 : Nat) => ∀ (k113 : Nat), appendP false [] [k113] [k1,
  k2, k3, k113] w109 p110 k111 k112 1 (spl (reps [Value.int IntKind.i64 (0 : Int), Value.string { data := { toList := [] } }] 1) 0
  [Value.int IntKind.i64 n103, Value.string s104]) 2 24 [Value.int IntKind.i64 (0 : Int), Value.string { data := { toList := [] } }] fun
  (w114 : World) (p115 : Option Addr) (k116 k117 : Nat) => ∀ (w118 : World), Step w114 w118 [k3] [] → y39 n21 n22 p115 k116 k117 n26 w118) ∧
  ∀ (k120 : Nat) (w121 : World), Step w38 w121 [] [k120, k53] → Blk w121 k53 (reps [Value.int IntKind.i64 (0 : Int), Value.string
  { data := { toList := [] } }] 0) → ∃ (l124 : List Value), List.length l124 = k24 * 2 ∧ Row w121 p23 l124 ∧ appendP true [] [] [k1, k2, k3,
  k120] w121 (some { block := k53, off := 0 }) 0 0 k24 l124 2 24 [Value.int IntKind.i64 (0 : Int), Value.string
  { data := { toList := [] } }] fun (w125 : World) (p126 : Option Addr) (k127 k128 : Nat) => appendP true [] [] [k1, k2, k3, k120] w125 p126
  k127 k128 1 (spl (reps [Value.int IntKind.i64 (0 : Int), Value.string { data := { toList := [] } }] 1) 0 [Value.int IntKind.i64 n103,
  Value.string s104]) 2 24 [Value.int IntKind.i64 (0 : Int), Value.string { data := { toList := [] } }] fun (w129 : World) (p130 : Option
  Addr) (k131 k132 : Nat) => ∀ (w133 : World), Step w129 w133 [k3] [] → y39 n21 n22 p130 k131 k132 n26 w133) ∧ ∀ (k135 : Nat) (w136 :
  World), Step w38 w136 [] [k135, k53] → Blk w136 k53 (reps [Value.int IntKind.i64 (0 : Int), Value.string { data := { toList := [] } }] 0)
  → ∃ (l139 : List Value), List.length l139 = k24 * 2 ∧ Row w136 p23 l139 ∧ appendP true [] [] [k1, k2, k3, k135] w136 (some
  { block := k53, off := 0 }) 0 0 k24 l139 2 24 [Value.int IntKind.i64 (0 : Int), Value.string { data := { toList := [] } }] fun (w140 :
  World) (p141 : Option Addr) (k142 k143 : Nat) => appendP true [] [] [k1, k2, k3, k135] w140 p141 k142 k143 1 (spl (reps [Value.int
  IntKind.i64 (0 : Int), Value.string { data := { toList := [] } }] 1) 0 [Value.int IntKind.i64 n103, Value.string s104]) 2 24 [Value.int
  IntKind.i64 (0 : Int), Value.string { data := { toList := [] } }] fun (w144 : World) (p145 : Option Addr) (k146 k147 : Nat) => ∀ (w148 :
  World), Step w144 w148 [k3] [] → y39 n21 n22 p145 k146 k147 n26 w148) ∧ ((∀ (k150 : Nat), (∀ (w151 : World), Step w38 w151 [] [k150] → Blk
  w151 k150 (reps [Value.int IntKind.i64 (0 : Int), Value.string { data := { toList := [] } }] 0) → ∃ (l154 : List Value), List.length l154
  = k24 * 2 ∧ Row w151 p23 l154 ∧ appendP true [] [] [k1, k2, k3] w151 (some { block := k150, off := 0 }) 0 0 k24 l154 2 24 [Value.int
  IntKind.i64 (0 : Int), Value.string { data := { toList := [] } }] fun (w155 : World) (p156 : Option Addr) (k157 k158 : Nat) => ∃ (n159 :
  Int), ∃ (s160 : ByteArray), (World.cell? w155 (Addr.add ad33 0) = some (Value.int IntKind.i64 n159) ∧ World.cell? w155 (Addr.add ad33 1) =
  some (Value.string s160) ∧ True) ∧ ∀ (k161 : Nat), appendP false [] [k161] [k1, k2, k3, k161] w155 p156 k157 k158 1 (spl (reps [Value.int
  IntKind.i64 (0 : Int), Value.string { data := { toList := [] } }] 1) 0 [Value.int IntKind.i64 n159, Value.string s160]) 2 24 [Value.int
  IntKind.i64 (0 : Int), Value.string { data := { toList := [] } }] fun (w162 : World) (p163 : Option Addr) (k164 k165 : Nat) => ∀ (w166 :
  World), Step w162 w166 [k3] [] → y39 n21 n22 p163 k164 k165 n26 w166) ∧ ∃ (n168 : Int), ∃ (s169 : ByteArray), (World.cell? w38 (Addr.add
  ad33 0) = some (Value.int IntKind.i64 n168) ∧ World.cell? w38 (Addr.add ad33 1) = some (Value.string s169) ∧ True) ∧ (∀ (w170 : World),
  Step w38 w170 [] [k150] → Blk w170 k150 (reps [Value.int IntKind.i64 (0 : Int), Value.string { data := { toList := [] } }] 0) → ∃ (l173 :
  List Value), List.length l173 = k24 * 2 ∧ Row w170 p23 l173 ∧ appendP true [] [] [k1, k2, k3] w170 (some { block := k150, off := 0 }) 0 0
  k24 l173 2 24 [Value.int IntKind.i64 (0 : Int), Value.string { data := { toList := [] } }] fun (w174 : World) (p175 : Option Addr) (k176
  k177 : Nat) => ∀ (k178 : Nat), appendP false [] [k178] [k1, k2, k3, k178] w174 p175 k176 k177 1 (spl (reps [Value.int IntKind.i64 (0 :
  Int), Value.string { data := { toList := [] } }] 1) 0 [Value.int IntKind.i64 n168, Value.string s169]) 2 24 [Value.int IntKind.i64 (0 :
  Int), Value.string { data := { toList := [] } }] fun (w179 : World) (p180 : Option Addr) (k181 k182 : Nat) => ∀ (w183 : World), Step w179
  w183 [k3] [] → y39 n21 n22 p180 k181 k182 n26 w183) ∧ ∀ (k185 : Nat) (w186 : World), Step w38 w186 [] [k185, k150] → Blk w186 k150 (reps
  [Value.int IntKind.i64 (0 : Int), Value.string { data := { toList := [] } }] 0) → ∃ (l189 : List Value), List.length l189 = k24 * 2 ∧ Row
  w186 p23 l189 ∧ appendP true [] [] [k1, k2, k3, k185] w186 (some { block := k150, off := 0 }) 0 0 k24 l189 2 24 [Value.int IntKind.i64 (0
  : Int), Value.string { data := { toList := [] } }] fun (w190 : World) (p191 : Option Addr) (k192 k193 : Nat) => appendP true [] [] [k1,
  k2, k3, k185] w190 p191 k192 k193 1 (spl (reps [Value.int IntKind.i64 (0 : Int), Value.string { data := { toList := [] } }] 1) 0
  [Value.int IntKind.i64 n168, Value.string s169]) 2 24 [Value.int IntKind.i64 (0 : Int), Value.string { data := { toList := [] } }] fun
  (w194 : World) (p195 : Option Addr) (k196 k197 : Nat) => ∀ (w198 : World), Step w194 w198 [k3] [] → y39 n21 n22 p195 k196 k197 n26 w198) ∧
  ∃ (n200 : Int), ∃ (s201 : ByteArray), (World.cell? w38 (Addr.add ad33 0) = some (Value.int IntKind.i64 n200) ∧ World.cell? w38 (Addr.add
  ad33 1) = some (Value.string s201) ∧ True) ∧ (∀ (k202 : Nat), (∀ (w203 : World), Step w38 w203 [] [k202] → Blk w203 k202 (reps [Value.int
  IntKind.i64 (0 : Int), Value.string { data := { toList := [] } }] 0) → ∃ (l206 : List Value), List.length l206 = k24 * 2 ∧ Row w203 p23
  l206 ∧ appendP true [] [] [k1, k2, k3] w203 (some { block := k202, off := 0 }) 0 0 k24 l206 2 24 [Value.int IntKind.i64 (0 : Int),
  Value.string { data := { toList := [] } }] fun (w207 : World) (p208 : Option Addr) (k209 k210 : Nat) => ∀ (k211 : Nat), appendP false []
  [k211] [k1, k2, k3, k211] w207 p208 k209 k210 1 (spl (reps [Value.int IntKind.i64 (0 : Int), Value.string { data := { toList := [] } }] 1)
  0 [Value.int IntKind.i64 n200, Value.string s201]) 2 24 [Value.int IntKind.i64 (0 : Int), Value.string { data := { toList := [] } }] fun
  (w212 : World) (p213 : Option Addr) (k214 k215 : Nat) => ∀ (w216 : World), Step w212 w216 [k3] [] → y39 n21 n22 p213 k214 k215 n26 w216) ∧
  ∀ (k218 : Nat) (w219 : World), Step w38 w219 [] [k218, k202] → Blk w219 k202 (reps [Value.int IntKind.i64 (0 : Int), Value.string
  { data := { toList := [] } }] 0) → ∃ (l222 : List Value), List.length l222 = k24 * 2 ∧ Row w219 p23 l222 ∧ appendP true [] [] [k1, k2, k3,
  k218] w219 (some { block := k202, off := 0 }) 0 0 k24 l222 2 24 [Value.int IntKind.i64 (0 : Int), Value.string
  { data := { toList := [] } }] fun (w223 : World) (p224 : Option Addr) (k225 k226 : Nat) => appendP true [] [] [k1, k2, k3, k218] w223 p224
  k225 k226 1 (spl (reps [Value.int IntKind.i64 (0 : Int), Value.string { data := { toList := [] } }] 1) 0 [Value.int IntKind.i64 n200,
  Value.string s201]) 2 24 [Value.int IntKind.i64 (0 : Int), Value.string { data := { toList := [] } }] fun (w227 : World) (p228 : Option
  Addr) (k229 k230 : Nat) => ∀ (w231 : World), Step w227 w231 [k3] [] → y39 n21 n22 p228 k229 k230 n26 w231) ∧ ∀ (k233 k234 : Nat) (w235 :
  World), Step w38 w235 [] [k234, k233] → Blk w235 k234 (reps [Value.int IntKind.i64 (0 : Int), Value.string { data := { toList := [] } }]
  0) → ∃ (l238 : List Value), List.length l238 = k24 * 2 ∧ Row w235 p23 l238 ∧ appendP true [] [] [k1, k2, k3, k233] w235 (some
  { block := k234, off := 0 }) 0 0 k24 l238 2 24 [Value.int IntKind.i64 (0 : Int), Value.string { data := { toList := [] } }] fun (w239 :
  World) (p240 : Option Addr) (k241 k242 : Nat) => appendP true [] [] [k1, k2, k3, k233] w239 p240 k241 k242 1 (spl (reps [Value.int
  IntKind.i64 (0 : Int), Value.string { data := { toList := [] } }] 1) 0 [Value.int IntKind.i64 n200, Value.string s201]) 2 24 [Value.int
  IntKind.i64 (0 : Int), Value.string { data := { toList := [] } }] fun (w243 : World) (p244 : Option Addr) (k245 k246 : Nat) => ∀ (w247 :
  World), Step w243 w247 [k3] [] → y39 n21 n22 p244 k245 k246 n26 w247) ∧ ∃ (n249 : Int), ∃ (s250 : ByteArray), (World.cell? w38 (Addr.add
  ad33 0) = some (Value.int IntKind.i64 n249) ∧ World.cell? w38 (Addr.add ad33 1) = some (Value.string s250) ∧ True) ∧ (∀ (k251 : Nat), ((∀
  (w252 : World), Step w38 w252 [] [k251] → Blk w252 k251 (reps [Value.int IntKind.i64 (0 : Int), Value.string { data := { toList := [] } }]
  0) → ∃ (l255 : List Value), List.length l255 = k24 * 2 ∧ Row w252 p23 l255 ∧ appendP true [] [] [k1, k2, k3] w252 (some
  { block := k251, off := 0 }) 0 0 k24 l255 2 24 [Value.int IntKind.i64 (0 : Int), Value.string { data := { toList := [] } }] fun (w256 :
  World) (p257 : Option Addr) (k258 k259 : Nat) => ∀ (k260 : Nat), appendP false [] [k260] [k1, k2, k3, k260] w256 p257 k258 k259 1 (spl
  (reps [Value.int IntKind.i64 (0 : Int), Value.string { data := { toList := [] } }] 1) 0 [Value.int IntKind.i64 n249, Value.string s250]) 2
  24 [Value.int IntKind.i64 (0 : Int), Value.string { data := { toList := [] } }] fun (w261 : World) (p262 : Option Addr) (k263 k264 : Nat)
  => ∀ (w265 : World), Step w261 w265 [k3] [] → y39 n21 n22 p262 k263 k264 n26 w265) ∧ ∀ (k267 : Nat) (w268 : World), Step w38 w268 []
  [k267, k251] → Blk w268 k251 (reps [Value.int IntKind.i64 (0 : Int), Value.string { data := { toList := [] } }] 0) → ∃ (l271 : List
  Value), List.length l271 = k24 * 2 ∧ Row w268 p23 l271 ∧ appendP true [] [] [k1, k2, k3, k267] w268 (some { block := k251, off := 0 }) 0 0
  k24 l271 2 24 [Value.int IntKind.i64 (0 : Int), Value.string { data := { toList := [] } }] fun (w272 : World) (p273 : Option Addr) (k274
  k275 : Nat) => appendP true [] [] [k1, k2, k3, k267] w272 p273 k274 k275 1 (spl (reps [Value.int IntKind.i64 (0 : Int), Value.string
  { data := { toList := [] } }] 1) 0 [Value.int IntKind.i64 n249, Value.string s250]) 2 24 [Value.int IntKind.i64 (0 : Int), Value.string
  { data := { toList := [] } }] fun (w276 : World) (p277 : Option Addr) (k278 k279 : Nat) => ∀ (w280 : World), Step w276 w280 [k3] [] → y39
  n21 n22 p277 k278 k279 n26 w280) ∧ ∀ (k282 : Nat) (w283 : World), Step w38 w283 [] [k282, k251] → Blk w283 k251 (reps [Value.int
  IntKind.i64 (0 : Int), Value.string { data := { toList := [] } }] 0) → ∃ (l286 : List Value), List.length l286 = k24 * 2 ∧ Row w283 p23
  l286 ∧ appendP true [] [] [k1, k2, k3, k282] w283 (some { block := k251, off := 0 }) 0 0 k24 l286 2 24 [Value.int IntKind.i64 (0 : Int),
  Value.string { data := { toList := [] } }] fun (w287 : World) (p288 : Option Addr) (k289 k290 : Nat) => appendP true [] [] [k1, k2, k3,
  k282] w287 p288 k289 k290 1 (spl (reps [Value.int IntKind.i64 (0 : Int), Value.string { data := { toList := [] } }] 1) 0 [Value.int
  IntKind.i64 n249, Value.string s250]) 2 24 [Value.int IntKind.i64 (0 : Int), Value.string { data := { toList := [] } }] fun (w291 : World)
  (p292 : Option Addr) (k293 k294 : Nat) => ∀ (w295 : World), Step w291 w295 [k3] [] → y39 n21 n22 p292 k293 k294 n26 w295) ∧ ((∀ (k297 :
  Nat), (∀ (w298 : World), Step w38 w298 [] [k297] → Blk w298 k297 (reps [Value.int IntKind.i64 (0 : Int), Value.string
  { data := { toList := [] } }] 0) → ∃ (l301 : List Value), List.length l301 = k24 * 2 ∧ Row w298 p23 l301 ∧ appendP true [] [] [k1, k2, k3]
  w298 (some { block := k297, off := 0 }) 0 0 k24 l301 2 24 [Value.int IntKind.i64 (0 : Int), Value.string { data := { toList := [] } }] fun
  (w302 : World) (p303 : Option Addr) (k304 k305 : Nat) => ∀ (k306 : Nat), appendP false [] [k306] [k1, k2, k3, k306] w302 p303 k304 k305 1
  (spl (reps [Value.int IntKind.i64 (0 : Int), Value.string { data := { toList := [] } }] 1) 0 [Value.int IntKind.i64 n249, Value.string
  s250]) 2 24 [Value.int IntKind.i64 (0 : Int), Value.string { data := { toList := [] } }] fun (w307 : World) (p308 : Option Addr) (k309
  k310 : Nat) => ∀ (w311 : World), Step w307 w311 [k3] [] → y39 n21 n22 p308 k309 k310 n26 w311) ∧ ∀ (k313 : Nat) (w314 : World), Step w38
  w314 [] [k313, k297] → Blk w314 k297 (reps [Value.int IntKind.i64 (0 : Int), Value.string { data := { toList := [] } }] 0) → ∃ (l317 :
  List Value), List.length l317 = k24 * 2 ∧ Row w314 p23 l317 ∧ appendP true [] [] [k1, k2, k3, k313] w314 (some
  { block := k297, off := 0 }) 0 0 k24 l317 2 24 [Value.int IntKind.i64 (0 : Int), Value.string { data := { toList := [] } }] fun (w318 :
  World) (p319 : Option Addr) (k320 k321 : Nat) => appendP true [] [] [k1, k2, k3, k313] w318 p319 k320 k321 1 (spl (reps [Value.int
  IntKind.i64 (0 : Int), Value.string { data := { toList := [] } }] 1) 0 [Value.int IntKind.i64 n249, Value.string s250]) 2 24 [Value.int
  IntKind.i64 (0 : Int), Value.string { data := { toList := [] } }] fun (w322 : World) (p323 : Option Addr) (k324 k325 : Nat) => ∀ (w326 :
  World), Step w322 w326 [k3] [] → y39 n21 n22 p323 k324 k325 n26 w326) ∧ ∀ (k328 k329 : Nat) (w330 : World), Step w38 w330 [] [k329, k328]
  → Blk w330 k329 (reps [Value.int IntKind.i64 (0 : Int), Value.string { data := { toList := [] } }] 0) → ∃ (l333 : List Value), List.length
  l333 = k24 * 2 ∧ Row w330 p23 l333 ∧ appendP true [] [] [k1, k2, k3, k328] w330 (some { block := k329, off := 0 }) 0 0 k24 l333 2 24
  [Value.int IntKind.i64 (0 : Int), Value.string { data := { toList := [] } }] fun (w334 : World) (p335 : Option Addr) (k336 k337 : Nat) =>
  appendP true [] [] [k1, k2, k3, k328] w334 p335 k336 k337 1 (spl (reps [Value.int IntKind.i64 (0 : Int), Value.string
  { data := { toList := [] } }] 1) 0 [Value.int IntKind.i64 n249, Value.string s250]) 2 24 [Value.int IntKind.i64 (0 : Int), Value.string
  { data := { toList := [] } }] fun (w338 : World) (p339 : Option Addr) (k340 k341 : Nat) => ∀ (w342 : World), Step w338 w342 [k3] [] → y39
  n21 n22 p339 k340 k341 n26 w342) ∧ ∀ (k344 : Nat), (∀ (k345 : Nat) (w346 : World), Step w38 w346 [] [k345, k344] → Blk w346 k345 (reps
  [Value.int IntKind.i64 (0 : Int), Value.string { data := { toList := [] } }] 0) → ∃ (l349 : List Value), List.length l349 = k24 * 2 ∧ Row
  w346 p23 l349 ∧ appendP true [] [] [k1, k2, k3, k344] w346 (some { block := k345, off := 0 }) 0 0 k24 l349 2 24 [Value.int IntKind.i64 (0
  : Int), Value.string { data := { toList := [] } }] fun (w350 : World) (p351 : Option Addr) (k352 k353 : Nat) => appendP true [] [] [k1,
  k2, k3, k344] w350 p351 k352 k353 1 (spl (reps [Value.int IntKind.i64 (0 : Int), Value.string { data := { toList := [] } }] 1) 0
  [Value.int IntKind.i64 n249, Value.string s250]) 2 24 [Value.int IntKind.i64 (0 : Int), Value.string { data := { toList := [] } }] fun
  (w354 : World) (p355 : Option Addr) (k356 k357 : Nat) => ∀ (w358 : World), Step w354 w358 [k3] [] → y39 n21 n22 p355 k356 k357 n26 w358) ∧
  ∀ (k360 : Nat) (w361 : World), Step w38 w361 [] [k360, k344] → Blk w361 k360 (reps [Value.int IntKind.i64 (0 : Int), Value.string
  { data := { toList := [] } }] 0) → ∃ (l364 : List Value), List.length l364 = k24 * 2 ∧ Row w361 p23 l364 ∧ appendP true [] [] [k1, k2, k3,
  k344] w361 (some { block := k360, off := 0 }) 0 0 k24 l364 2 24 [Value.int IntKind.i64 (0 : Int), Value.string
  { data := { toList := [] } }] fun (w365 : World) (p366 : Option Addr) (k367 k368 : Nat) => appendP true [] [] [k1, k2, k3, k344] w365 p366
  k367 k368 1 (spl (reps [Value.int IntKind.i64 (0 : Int), Value.string { data := { toList := [] } }] 1) 0 [Value.int IntKind.i64 n249,
  Value.string s250]) 2 24 [Value.int IntKind.i64 (0 : Int), Value.string { data := { toList := [] } }] fun (w369 : World) (p370 : Option
  Addr) (k371 k372 : Nat) => ∀ (w373 : World), Step w369 w373 [k3] [] → y39 n21 n22 p370 k371 k372 n26 w373) → y36 b37 w38) → bcase (!b34)
  (y36 true w35) (bcase (decide ((0 : Int) < (k24 : Int))) (∃ (n377 : Int), World.cell? w35 (Addr.add ad33 0) = some (Value.int IntKind.i64
  n377) ∧ y36 (!decide (n377 = n26)) w35) (y36 false w35))) → y32 ad33 b34 w35) → (∀ (w380 : World), Step w30 w380 [] [] → Calls
  Proofs.Try.prog (73 : Nat) { toList := [Value.agg { toList := [Value.int IntKind.i64 n21, Value.int IntKind.i64 n22, Value.slice p23 k24 k25, Value.int IntKind.i64 n26] }] }
  w380 fun (e382 : Ending) (w383 : World) => ∃ (n384 : Int), e382 = Ending.returned (Value.int IntKind.i64 n384) ∧ Keep [k1, k2, k3] w380
  w383 ∧ (Calls Proofs.Try.prog (87 : Nat) { toList := [Value.agg { toList := [Value.slice dSureA dSureL dSureC, Value.slice dNowA dNowL dNowC, Value.slice dFreshA dFreshL dFreshC, Value.int IntKind.i64 dSteps, Value.int IntKind.i64 dLeft] }, Value.int IntKind.i64 n384, Value.int IntKind.i64 (IntKind.wrap IntKind.i64 (first + count))] }
  w383 fun (e385 : Ending) (w386 : World) => ∃ (n387 : Int), ∃ (s388 : ByteArray), ∃ (b389 : Bool), e385 = Ending.returned (Value.tuple { toList := [Value.agg { toList := [Value.int IntKind.i64 n387, Value.string s388] }, Value.bool b389] })
  ∧ Keep [k1, k2, k3] w383 w386 ∧ ∀ (k390 : Nat) (w391 : World), Step w386 w391 [] [k390] → Blk w391 k390 (sets [Value.int IntKind.i64 (0 :
  Int), Value.string { data := { toList := [] } }] 0 [Value.int IntKind.i64 n387, Value.string s388]) → y32 { block := k390, off := 0 } b389
  w391) ∧ ∀ (k394 : Nat) (w395 : World), Step w383 w395 [] [k394] → Calls Proofs.Try.prog (87 : Nat) { toList := [Value.agg { toList := [Value.slice dSureA dSureL dSureC, Value.slice dNowA dNowL dNowC, Value.slice dFreshA dFreshL dFreshC, Value.int IntKind.i64 dSteps, Value.int IntKind.i64 dLeft] }, Value.int IntKind.i64 n384, Value.int IntKind.i64 (IntKind.wrap IntKind.i64 (first + count))] }
  w395 fun (e397 : Ending) (w398 : World) => ∃ (n399 : Int), ∃ (s400 : ByteArray), ∃ (b401 : Bool), e397 = Ending.returned (Value.tuple { toList := [Value.agg { toList := [Value.int IntKind.i64 n399, Value.string s400] }, Value.bool b401] })
  ∧ Keep [k1, k2, k3, k394] w395 w398 ∧ ∀ (w402 : World), Step w398 w402 [k394] [] → Blk w402 k394 (sets [Value.int IntKind.i64 (0 : Int),
  Value.string { data := { toList := [] } }] 0 [Value.int IntKind.i64 n399, Value.string s400]) → y32 { block := k394, off := 0 } b401 w402)
  ∧ ∀ (k405 : Nat) (w406 : World), Step w30 w406 [] [k405] → Calls Proofs.Try.prog (73 : Nat) { toList := [Value.agg { toList := [Value.int IntKind.i64 n21, Value.int IntKind.i64 n22, Value.slice p23 k24 k25, Value.int IntKind.i64 n26] }] }
  w406 fun (e408 : Ending) (w409 : World) => ∃ (n410 : Int), e408 = Ending.returned (Value.int IntKind.i64 n410) ∧ Keep [k1, k2, k3, k405]
  w406 w409 ∧ Calls Proofs.Try.prog (87 : Nat) { toList := [Value.agg { toList := [Value.slice dSureA dSureL dSureC, Value.slice dNowA dNowL dNowC, Value.slice dFreshA dFreshL dFreshC, Value.int IntKind.i64 dSteps, Value.int IntKind.i64 dLeft] }, Value.int IntKind.i64 n410, Value.int IntKind.i64 (IntKind.wrap IntKind.i64 (first + count))] }
  w409 fun (e411 : Ending) (w412 : World) => ∃ (n413 : Int), ∃ (s414 : ByteArray), ∃ (b415 : Bool), e411 = Ending.returned (Value.tuple { toList := [Value.agg { toList := [Value.int IntKind.i64 n413, Value.string s414] }, Value.bool b415] })
  ∧ Keep [k1, k2, k3, k405] w409 w412 ∧ ∀ (w416 : World), Step w412 w416 [k405] [] → Blk w416 k405 (sets [Value.int IntKind.i64 (0 : Int),
  Value.string { data := { toList := [] } }] 0 [Value.int IntKind.i64 n413, Value.string s414]) → y32 { block := k405, off := 0 } b415 w416)
  (y4 n21 n22 p23 k24 k25 n26 w30)

theorem rhizomeref04_Read.link {dSureA : Option Addr} {dSureL dSureC : Nat} {dNowA : Option Addr} {dNowL dNowC : Nat} {dFreshA : Option Addr} {dFreshL dFreshC : Nat} {dSteps : Int} {dLeft : Int} {first : Int} {count : Int} {R : Ending → World → Prop} {w : World} (h : rhizomeref04_Read.vc dSureA dSureL dSureC dNowA dNowL dNowC dFreshA dFreshL dFreshC dSteps dLeft first count R w) : Calls Go.Proofs.Try.prog 72 #[(.agg #[.slice dSureA dSureL dSureC, .slice dNowA dNowL dNowC, .slice dFreshA dFreshL dFreshC, .int .i64 dSteps, .int .i64 dLeft] : Value), .int .i64 first, .int .i64 count] w R :=
  calls_of pf (fn := Go.Proofs.Try.f72) (ann := .s (.n) (.s (.n) (.j ⟨[], [], [1], [], [(2, [.i .i64, .i .i64, .sl, .i .i64])]⟩ (.b (.l ⟨[], [], [0, 1], [], [(2, [.i .i64, .i .i64, .sl, .i .i64])]⟩ (.s (.s (.n) (.c (.n) (.n))) (.b (.j ⟨[8], [], [0, 1, 2], [(8, .a), (9, .l (.b))], []⟩ (.d [0, 1, 2]) (.s (.j ⟨[], [], [0, 1, 2], [(43, .l (.b))], []⟩ (.n) (.c (.n) (.n))) (.j ⟨[], [], [0, 1], [], [(2, [.i .i64, .i .i64, .sl, .i .i64])]⟩ (.d [0, 1]) (.n)))))))) (.s (.n) (.n))))) (mp := false) (args := [.v (.agg #[.slice dSureA dSureL dSureC, .slice dNowA dNowL dNowC, .slice dFreshA dFreshL dFreshC, .int .i64 dSteps, .int .i64 dLeft]), .v (.int .i64 first), .v (.int .i64 count)]) Go.Proofs.Try.func72 (c := Go.Proofs.Try.f72.body.getD .skip) (by kernel_rfl) (by kernel_rfl) (Eq.mp (by kernel_rfl) h)
theorem rhizomeref04_Read.body : BodyOk Go.Proofs.Try.prog 72 := ⟨Go.Proofs.Try.f72, Go.Proofs.Try.func72, by kernel_rfl, pf.ng _ _ Go.Proofs.Try.func72⟩

/-! ### rhizome/rhizomeref04.wipe: function 74 -/
def rhizomeref04_wipe.vc (dSureA : Option Addr) (dSureL dSureC : Nat) (dNowA : Option Addr) (dNowL dNowC : Nat) (dFreshA : Option Addr)
  (dFreshL dFreshC : Nat) (dSteps : Int) (dLeft : Int) (atA : Option Addr) (atL atC : Nat) (R : Ending → World → Prop) (w : World) : Prop :=
  ∀ (k1 k2 : Nat), ∃ (y3 : Nat → Int → Option Addr → Nat → Nat → Option Addr → Nat → Nat → Option Addr → Nat → Nat → Int → Int → World →
  Prop), ∃ (k4 : Nat), (∀ (w5 : World), Step w w5 [] [k2, k1] → y3 k4 (0 : Int) dSureA dSureL dSureC dNowA dNowL dNowC dFreshA dFreshL
  dFreshC dSteps dLeft w5) ∧ ∀ (k7 : Nat) (n8 : Int) (p9 : Option Addr) (k10 k11 : Nat) (p12 : Option Addr) (k13 k14 : Nat) (p15 : Option
  Addr) (k16 k17 : Nat) (n18 n19 : Int) (w20 : World), y3 k7 n8 p9 k10 k11 p12 k13 k14 p15 k16 k17 n18 n19 w20 → bcase (decide (n8 < (atL :
  Int))) (∃ (ad22 : Addr), atA = some ad22 ∧ ((0 : Int) ≤ n8 ∧ n8 < (atL : Int)) ∧ ∃ (n23 : Int), World.cell? w20 (Addr.add ad22 (Int.toNat
  n8 * 1)) = some (Value.int IntKind.i64 n23) ∧ (((0 : Int) ≤ (64 : Int) ∧ (64 : Int) ≤ (64 : Int) ∧ ((1 : Nat) : Int) * (64 : Int) ≤
  (281474976710656 : Int) ∧ (64 : Int) ≤ (281474976710656 : Int)) ∧ ∀ (w24 : World) (k25 : Nat), Step w20 w24 [] [k25] → Blk w24 k25 (reps
  [Value.int IntKind.u8 (0 : Int)] 64) → ∃ (l28 : List UInt8), List.length l28 = 64 ∧ (∀ (k29 : Nat), k29 < 64 → ∃ (ad31 : Addr), some
  { block := k25, off := 0 } = some ad31 ∧ World.cell? w24 (Addr.add ad31 k29) = some (Value.int IntKind.u8 ((UInt8.toNat (List.getD l28 k29
  (0 : UInt8))) : Int))) ∧ Calls Proofs.Try.prog (38 : Nat) { toList := [Value.agg { toList := [Value.slice p9 k10 k11, Value.slice p12 k13 k14, Value.slice p15 k16 k17, Value.int IntKind.i64 n18, Value.int IntKind.i64 n19] }, Value.int IntKind.i64 n23, Value.string (ByteArray.mk (Array.mk l28))] }
  w24 fun (e32 : Ending) (w33 : World) => ∃ (p34 : Option Addr), ∃ (k35 : Nat), ∃ (k36 : Nat), ∃ (p37 : Option Addr), ∃ (k38 : Nat), ∃ (k39
  : Nat), ∃ (p40 : Option Addr), ∃ (k41 : Nat), ∃ (k42 : Nat), ∃ (n43 : Int), ∃ (n44 : Int), ∃ (n45 : Int), e32 = Ending.returned
  (Value.tuple { toList := [Value.agg { toList := [Value.slice p34 k35 k36, Value.slice p37 k38 k39, Value.slice p40 k41 k42, Value.int IntKind.i64 n43, Value.int IntKind.i64 n44] }, Value.int IntKind.i64 n45] })
  ∧ Keep [k1, k2] w24 w33 ∧ bcase (!decide (n45 = (0 : Int))) (∀ (w46 : World), Step w33 w46 [k2, k1] [] → R (Ending.returned (Value.tuple { toList := [Value.agg { toList := List.take 5 (List.drop 0 (sets [Value.slice none 0 0, Value.slice none 0 0, Value.slice none 0 0, Value.int IntKind.i64 (0 : Int), Value.int IntKind.i64 (0 : Int)] 0 (List.take 5 (List.drop 0 (sets [Value.slice p9 k10 k11, Value.slice p12 k13 k14, Value.slice p15 k16 k17, Value.int IntKind.i64 n18, Value.int IntKind.i64 n19] 0 [Value.slice p34 k35 k36, Value.slice p37 k38 k39, Value.slice p40 k41 k42, Value.int IntKind.i64 n43, Value.int IntKind.i64 n44]))))) }, Value.int IntKind.i64 n45] }))
  w46) (∃ (k48 : Nat), k48 < k7 ∧ ∀ (w49 : World), Step w33 w49 [k1] [] → y3 k48 (IntKind.wrap IntKind.i64 (n8 + (1 : Int))) p34 k35 k36 p37
  k38 k39 p40 k41 k42 n43 n44 w49)) ∧ ((0 : Int) ≤ (64 : Int) ∧ (64 : Int) ≤ (64 : Int) ∧ ((1 : Nat) : Int) * (64 : Int) ≤ (281474976710656
  : Int) ∧ (64 : Int) ≤ (281474976710656 : Int)) ∧ ∀ (w51 : World) (k52 : Nat), Step w20 w51 [] [k52] → Blk w51 k52 (reps [Value.int
  IntKind.u8 (0 : Int)] 64) → ∃ (l55 : List UInt8), List.length l55 = 64 ∧ (∀ (k56 : Nat), k56 < 64 → ∃ (ad58 : Addr), some
  { block := k52, off := 0 } = some ad58 ∧ World.cell? w51 (Addr.add ad58 k56) = some (Value.int IntKind.u8 ((UInt8.toNat (List.getD l55 k56
  (0 : UInt8))) : Int))) ∧ Calls Proofs.Try.prog (38 : Nat) { toList := [Value.agg { toList := [Value.slice p9 k10 k11, Value.slice p12 k13 k14, Value.slice p15 k16 k17, Value.int IntKind.i64 n18, Value.int IntKind.i64 n19] }, Value.int IntKind.i64 n23, Value.string (ByteArray.mk (Array.mk l55))] }
  w51 fun (e59 : Ending) (w60 : World) => ∃ (p61 : Option Addr), ∃ (k62 : Nat), ∃ (k63 : Nat), ∃ (p64 : Option Addr), ∃ (k65 : Nat), ∃ (k66
  : Nat), ∃ (p67 : Option Addr), ∃ (k68 : Nat), ∃ (k69 : Nat), ∃ (n70 : Int), ∃ (n71 : Int), ∃ (n72 : Int), e59 = Ending.returned
  (Value.tuple { toList := [Value.agg { toList := [Value.slice p61 k62 k63, Value.slice p64 k65 k66, Value.slice p67 k68 k69, Value.int IntKind.i64 n70, Value.int IntKind.i64 n71] }, Value.int IntKind.i64 n72] })
  ∧ Keep [k1, k2] w51 w60 ∧ bcase (!decide (n72 = (0 : Int))) (∀ (w73 : World), Step w60 w73 [k2, k1] [] → R (Ending.returned (Value.tuple { toList := [Value.agg { toList := List.take 5 (List.drop 0 (sets [Value.slice none 0 0, Value.slice none 0 0, Value.slice none 0 0, Value.int IntKind.i64 (0 : Int), Value.int IntKind.i64 (0 : Int)] 0 (List.take 5 (List.drop 0 (sets [Value.slice p9 k10 k11, Value.slice p12 k13 k14, Value.slice p15 k16 k17, Value.int IntKind.i64 n18, Value.int IntKind.i64 n19] 0 [Value.slice p61 k62 k63, Value.slice p64 k65 k66, Value.slice p67 k68 k69, Value.int IntKind.i64 n70, Value.int IntKind.i64 n71]))))) }, Value.int IntKind.i64 n72] }))
  w73) (∃ (k75 : Nat), k75 < k7 ∧ ∀ (w76 : World), Step w60 w76 [k1] [] → y3 k75 (IntKind.wrap IntKind.i64 (n8 + (1 : Int))) p61 k62 k63 p64
  k65 k66 p67 k68 k69 n70 n71 w76)) (Calls Proofs.Try.prog (62 : Nat) { toList := [Value.agg { toList := [Value.slice p9 k10 k11, Value.slice p12 k13 k14, Value.slice p15 k16 k17, Value.int IntKind.i64 n18, Value.int IntKind.i64 n19] }] }
  w20 fun (e78 : Ending) (w79 : World) => ∃ (p80 : Option Addr), ∃ (k81 : Nat), ∃ (k82 : Nat), ∃ (p83 : Option Addr), ∃ (k84 : Nat), ∃ (k85
  : Nat), ∃ (p86 : Option Addr), ∃ (k87 : Nat), ∃ (k88 : Nat), ∃ (n89 : Int), ∃ (n90 : Int), ∃ (n91 : Int), e78 = Ending.returned
  (Value.tuple { toList := [Value.agg { toList := [Value.slice p80 k81 k82, Value.slice p83 k84 k85, Value.slice p86 k87 k88, Value.int IntKind.i64 n89, Value.int IntKind.i64 n90] }, Value.int IntKind.i64 n91] })
  ∧ Keep [k1, k2] w20 w79 ∧ ∀ (w92 : World), Step w79 w92 [k2] [] → R (Ending.returned (Value.tuple { toList := [Value.agg { toList := List.take 5 (List.drop 0 (sets [Value.slice none 0 0, Value.slice none 0 0, Value.slice none 0 0, Value.int IntKind.i64 (0 : Int), Value.int IntKind.i64 (0 : Int)] 0 [Value.slice p80 k81 k82, Value.slice p83 k84 k85, Value.slice p86 k87 k88, Value.int IntKind.i64 n89, Value.int IntKind.i64 n90])) }, Value.int IntKind.i64 n91] }))
  w92)

theorem rhizomeref04_wipe.link {dSureA : Option Addr} {dSureL dSureC : Nat} {dNowA : Option Addr} {dNowL dNowC : Nat} {dFreshA : Option Addr} {dFreshL dFreshC : Nat} {dSteps : Int} {dLeft : Int} {atA : Option Addr} {atL atC : Nat} {R : Ending → World → Prop} {w : World} (h : rhizomeref04_wipe.vc dSureA dSureL dSureC dNowA dNowL dNowC dFreshA dFreshL dFreshC dSteps dLeft atA atL atC R w) : Calls Go.Proofs.Try.prog 74 #[(.agg #[.slice dSureA dSureL dSureC, .slice dNowA dNowL dNowC, .slice dFreshA dFreshL dFreshC, .int .i64 dSteps, .int .i64 dLeft] : Value), .slice atA atL atC] w R :=
  calls_of pf (fn := Go.Proofs.Try.f74) (ann := .s (.n) (.s (.n) (.s (.s (.n) (.b (.l ⟨[], [], [1], [(10, .l (.i .i64))], [(0, [.sl, .sl, .sl, .i .i64, .i .i64])]⟩ (.s (.n) (.s (.c (.n) (.n)) (.s (.b (.s (.n) (.s (.d [1]) (.s (.n) (.c (.s (.n) (.n)) (.n)))))) (.n))))))) (.s (.n) (.n))))) (mp := false) (args := [.v (.agg #[.slice dSureA dSureL dSureC, .slice dNowA dNowL dNowC, .slice dFreshA dFreshL dFreshC, .int .i64 dSteps, .int .i64 dLeft]), .v (.slice atA atL atC)]) Go.Proofs.Try.func74 (c := Go.Proofs.Try.f74.body.getD .skip) (by kernel_rfl) (by kernel_rfl) (Eq.mp (by kernel_rfl) h)
theorem rhizomeref04_wipe.body : BodyOk Go.Proofs.Try.prog 74 := ⟨Go.Proofs.Try.f74, Go.Proofs.Try.func74, by kernel_rfl, pf.ng _ _ Go.Proofs.Try.func74⟩

/-! ### rhizome/rhizomeref04.Open: function 40 -/
def rhizomeref04_Open.vc (dSureA : Option Addr) (dSureL dSureC : Nat) (dNowA : Option Addr) (dNowL dNowC : Nat) (dFreshA : Option Addr)
  (dFreshL dFreshC : Nat) (dSteps : Int) (dLeft : Int) (first : Int) (count : Int) (R : Ending → World → Prop) (w : World) : Prop := ∀ (k1
  k2 k3 : Nat) (y4 : Bool → World → Prop), (∀ (b5 : Bool) (w6 : World), bcase b5 (∀ (w7 : World), Step w6 w7 [k3, k2] [] → R
  (Ending.returned (Value.tuple { toList := [Value.agg { toList := List.take 5 (List.drop 0 (sets [Value.slice none 0 0, Value.slice none 0 0, Value.slice none 0 0, Value.int IntKind.i64 (0 : Int), Value.int IntKind.i64 (0 : Int)] 0 [Value.slice dSureA dSureL dSureC, Value.slice dNowA dNowL dNowC, Value.slice dFreshA dFreshL dFreshC, Value.int IntKind.i64 dSteps, Value.int IntKind.i64 dLeft])) }, Value.agg { toList := List.take 4 (List.drop 0 (sets [Value.int IntKind.i64 (0 : Int), Value.int IntKind.i64 (0 : Int), Value.slice none 0 0, Value.int IntKind.i64 (0 : Int)] 0 [Value.int IntKind.i64 (0 : Int), Value.int IntKind.i64 (0 : Int), Value.slice none 0 0, Value.int IntKind.i64 (0 : Int)])) }, Value.int IntKind.i64 (1 : Int)] }))
  w7) (Calls Proofs.Try.prog (72 : Nat) { toList := [Value.agg { toList := [Value.slice dSureA dSureL dSureC, Value.slice dNowA dNowL dNowC, Value.slice dFreshA dFreshL dFreshC, Value.int IntKind.i64 dSteps, Value.int IntKind.i64 dLeft] }, Value.int IntKind.i64 first, Value.int IntKind.i64 count] }
  w6 fun (e9 : Ending) (w10 : World) => ∃ (n11 : Int), ∃ (n12 : Int), ∃ (p13 : Option Addr), ∃ (k14 : Nat), ∃ (k15 : Nat), ∃ (n16 : Int), e9
  = Ending.returned (Value.agg { toList := [Value.int IntKind.i64 n11, Value.int IntKind.i64 n12, Value.slice p13 k14 k15, Value.int IntKind.i64 n16] })
  ∧ Keep [k1, k2, k3] w6 w10 ∧ ∀ (k17 : Nat) (w18 : World), Step w10 w18 [] [k17] → Calls Proofs.Try.prog (73 : Nat) { toList := [Value.agg { toList := List.take 4 (List.drop 0 (sets [Value.int IntKind.i64 (0 : Int), Value.int IntKind.i64 (0 : Int), Value.slice none 0 0, Value.int IntKind.i64 (0 : Int)] 0 [Value.int IntKind.i64 n11, Value.int IntKind.i64 n12, Value.slice p13 k14 k15, Value.int IntKind.i64 n16])) }] }
  w18 fun (e20 : Ending) (w21 : World) => ∃ (n22 : Int), e20 = Ending.returned (Value.int IntKind.i64 n22) ∧ Keep [k1, k2, k3, k17] w18 w21
  ∧ ∃ (y23 : Nat → Option Addr → Nat → Nat → Int → World → Prop), ∃ (k24 : Nat), y23 k24 none 0 0 n22 w21 ∧ ∀ (k25 : Nat) (p26 : Option
  Addr) (k27 k28 : Nat) (n29 : Int) (w30 : World), y23 k25 p26 k27 k28 n29 w30 → bcase (decide (n29 < IntKind.wrap IntKind.i64 (first +
  count))) (∀ (y32 : Option Addr → Nat → Nat → World → Prop), (∀ (p33 : Option Addr) (k34 k35 : Nat) (w36 : World), (∃ (k37 : Nat), k37 <
  k25 ∧ y23 k37 p33 k34 k35 (IntKind.wrap IntKind.i64 (n29 + (1 : Int))) w36) → y32 p33 k34 k35 w36) → ∃ (ad40 : Addr), dNowA = some ad40 ∧
  ((0 : Int) ≤ n29 ∧ n29 < (dNowL : Int)) ∧ ∃ (s41 : ByteArray), World.cell? w30 (Addr.add ad40 (Int.toNat n29 * 1)) = some (Value.string
  s41) ∧ ((0 : Int) ≤ (64 : Int) ∧ (64 : Int) ≤ (64 : Int) ∧ ((1 : Nat) : Int) * (64 : Int) ≤ (281474976710656 : Int) ∧ (64 : Int) ≤
  (281474976710656 : Int)) ∧ ∀ (w42 : World) (k43 : Nat), Step w30 w42 [] [k43] → Blk w42 k43 (reps [Value.int IntKind.u8 (0 : Int)] 64) → ∃
  (l46 : List UInt8), List.length l46 = 64 ∧ (∀ (k47 : Nat), k47 < 64 → ∃ (ad49 : Addr), some { block := k43, off := 0 } = some ad49 ∧
  World.cell? w42 (Addr.add ad49 k47) = some (Value.int IntKind.u8 ((UInt8.toNat (List.getD l46 k47 (0 : UInt8))) : Int))) ∧ bcase (!decide
  (s41 = (ByteArray.mk (Array.mk l46)))) (∀ (k50 : Nat), appendP false [] [k50] [k1, k2, k3, k17, k50] w42 p26 k27 k28 1 (spl (reps
  [Value.int IntKind.i64 (0 : Int)] 1) 0 [Value.int IntKind.i64 n29]) 1 8 [Value.int IntKind.i64 (0 : Int)] fun (w51 : World) (p52 : Option
  Addr) (k53 k54 : Nat) => y32 p52 k53 k54 w51) (y32 p26 k27 k28 w42)) (∀ (y55 : Int → Option Addr → Nat → Nat → Option Addr → Nat → Nat →
  Option Addr → Nat → Nat → Int → Int → World → Prop), (∀ (n56 : Int) (p57 : Option Addr) (k58 k59 : Nat) (p60 : Option Addr) (k61 k62 :
  Nat) (p63 : Option Addr) (k64 k65 : Nat) (n66 n67 : Int) (w68 : World), bcase (!decide (n56 = (0 : Int))) (∀ (w69 : World), Step w68 w69
  [k3, k2] [] → R (Ending.returned (Value.tuple { toList := [Value.agg { toList := List.take 5 (List.drop 0 (sets [Value.slice none 0 0, Value.slice none 0 0, Value.slice none 0 0, Value.int IntKind.i64 (0 : Int), Value.int IntKind.i64 (0 : Int)] 0 [Value.slice p57 k58 k59, Value.slice p60 k61 k62, Value.slice p63 k64 k65, Value.int IntKind.i64 n66, Value.int IntKind.i64 n67])) }, Value.agg { toList := List.take 4 (List.drop 0 (sets [Value.int IntKind.i64 (0 : Int), Value.int IntKind.i64 (0 : Int), Value.slice none 0 0, Value.int IntKind.i64 (0 : Int)] 0 [Value.int IntKind.i64 (0 : Int), Value.int IntKind.i64 (0 : Int), Value.slice none 0 0, Value.int IntKind.i64 (0 : Int)])) }, Value.int IntKind.i64 n56] }))
  w69) (∀ (w71 : World), Step w68 w71 [k3, k2] [] → R (Ending.returned (Value.tuple { toList := [Value.agg { toList := List.take 5 (List.drop 0 (sets [Value.slice none 0 0, Value.slice none 0 0, Value.slice none 0 0, Value.int IntKind.i64 (0 : Int), Value.int IntKind.i64 (0 : Int)] 0 [Value.slice p57 k58 k59, Value.slice p60 k61 k62, Value.slice p63 k64 k65, Value.int IntKind.i64 n66, Value.int IntKind.i64 n67])) }, Value.agg { toList := List.take 4 (List.drop 0 (sets [Value.int IntKind.i64 (0 : Int), Value.int IntKind.i64 (0 : Int), Value.slice none 0 0, Value.int IntKind.i64 (0 : Int)] 0 (List.take 4 (List.drop 0 (sets [Value.int IntKind.i64 (0 : Int), Value.int IntKind.i64 (0 : Int), Value.slice none 0 0, Value.int IntKind.i64 (0 : Int)] 0 [Value.int IntKind.i64 n11, Value.int IntKind.i64 n12, Value.slice p13 k14 k15, Value.int IntKind.i64 n16]))))) }, Value.int IntKind.i64 (0 : Int)] }))
  w71) → y55 n56 p57 k58 k59 p60 k61 k62 p63 k64 k65 n66 n67 w68) → bcase (decide ((0 : Int) < (k27 : Int))) (Calls Proofs.Try.prog (74 :
  Nat) { toList := [Value.agg { toList := [Value.slice dSureA dSureL dSureC, Value.slice dNowA dNowL dNowC, Value.slice dFreshA dFreshL dFreshC, Value.int IntKind.i64 dSteps, Value.int IntKind.i64 dLeft] }, Value.slice p26 k27 k28] }
  w30 fun (e75 : Ending) (w76 : World) => ∃ (p77 : Option Addr), ∃ (k78 : Nat), ∃ (k79 : Nat), ∃ (p80 : Option Addr), ∃ (k81 : Nat), ∃ (k82
  : Nat), ∃ (p83 : Option Addr), ∃ (k84 : Nat), ∃ (k85 : Nat), ∃ (n86 : Int), ∃ (n87 : Int), ∃ (n88 : Int), e75 = Ending.returned
  (Value.tuple { toList := [Value.agg { toList := [Value.slice p77 k78 k79, Value.slice p80 k81 k82, Value.slice p83 k84 k85, Value.int IntKind.i64 n86, Value.int IntKind.i64 n87] }, Value.int IntKind.i64 n88] })
  ∧ Keep [k1, k2, k3, k17] w30 w76 ∧ ∀ (w89 : World), Step w76 w89 [k1] [] → y55 n88 p77 k78 k79 p80 k81 k82 p83 k84 k85 n86 n87 w89) (y55
  (0 : Int) dSureA dSureL dSureC dNowA dNowL dNowC dFreshA dFreshL dFreshC dSteps dLeft w30))) → y4 b5 w6) → bcase (decide (first < (0 :
  Int))) (∀ (w93 : World), Step w w93 [] [k3, k2, k1] → y4 true w93) (bcase (decide (count < (2 : Int))) (∀ (w95 : World), Step w w95 []
  [k3, k2, k1] → y4 true w95) (bcase (decide ((dNowL : Int) < first)) (∀ (w97 : World), Step w w97 [] [k3, k2, k1] → y4 true w97) (∀ (w99 :
  World), Step w w99 [] [k3, k2, k1] → y4 (decide (IntKind.wrap IntKind.i64 ((dNowL : Int) - first) < count)) w99)))

theorem rhizomeref04_Open.link {dSureA : Option Addr} {dSureL dSureC : Nat} {dNowA : Option Addr} {dNowL dNowC : Nat} {dFreshA : Option Addr} {dFreshL dFreshC : Nat} {dSteps : Int} {dLeft : Int} {first : Int} {count : Int} {R : Ending → World → Prop} {w : World} (h : rhizomeref04_Open.vc dSureA dSureL dSureC dNowA dNowL dNowC dFreshA dFreshL dFreshC dSteps dLeft first count R w) : Calls Go.Proofs.Try.prog 40 #[(.agg #[.slice dSureA dSureL dSureC, .slice dNowA dNowL dNowC, .slice dFreshA dFreshL dFreshC, .int .i64 dSteps, .int .i64 dLeft] : Value), .int .i64 first, .int .i64 count] w R :=
  calls_of pf (fn := Go.Proofs.Try.f40) (ann := .s (.n) (.s (.j ⟨[], [], [0, 1, 2], [(34, .l (.b))], []⟩ (.n) (.c (.s (.n) (.n)) (.n))) (.s (.n) (.s (.n) (.s (.s (.n) (.b (.l ⟨[], [], [0, 1, 2, 3], [(10, .l (.sl)), (11, .l (.i .i64))], []⟩ (.s (.s (.n) (.c (.n) (.n))) (.j ⟨[], [], [0, 1, 2, 3], [(10, .l (.sl))], []⟩ (.b (.s (.d [0, 1, 2, 3]) (.c (.n) (.n)))) (.n)))))) (.s (.n) (.j ⟨[], [], [1, 2, 3], [(12, .l (.i .i64))], [(0, [.sl, .sl, .sl, .i .i64, .i .i64])]⟩ (.s (.n) (.c (.n) (.n))) (.s (.s (.n) (.c (.s (.n) (.n)) (.n))) (.s (.d [0, 3]) (.n)))))))))) (mp := false) (args := [.v (.agg #[.slice dSureA dSureL dSureC, .slice dNowA dNowL dNowC, .slice dFreshA dFreshL dFreshC, .int .i64 dSteps, .int .i64 dLeft]), .v (.int .i64 first), .v (.int .i64 count)]) Go.Proofs.Try.func40 (c := Go.Proofs.Try.f40.body.getD .skip) (by kernel_rfl) (by kernel_rfl) (Eq.mp (by kernel_rfl) h)
theorem rhizomeref04_Open.body : BodyOk Go.Proofs.Try.prog 40 := ⟨Go.Proofs.Try.f40, Go.Proofs.Try.func40, by kernel_rfl, pf.ng _ _ Go.Proofs.Try.func40⟩

/-! ### rhizome/rhizomelaw04.Same: function 41 -/
def rhizomelaw04_Same.vc (aA : Option Addr) (aL aC : Nat) (bA : Option Addr) (bL bC : Nat) (R : Ending → World → Prop) (w : World) : Prop :=
  bcase (!decide ((aL : Int) = (bL : Int))) (R (Ending.returned (Value.bool false)) w) (∃ (y1 : Nat → Int → World → Prop), ∃ (k2 : Nat), y1
  k2 (0 : Int) w ∧ ∀ (k3 : Nat) (n4 : Int) (w5 : World), y1 k3 n4 w5 → bcase (decide (n4 < (aL : Int))) (∀ (y7 : Bool → World → Prop), (∀
  (b8 : Bool) (w9 : World), bcase b8 (R (Ending.returned (Value.bool false)) w9) (∃ (k10 : Nat), k10 < k3 ∧ y1 k10 (IntKind.wrap IntKind.i64
  (n4 + (1 : Int))) w9) → y7 b8 w9) → ∃ (ad13 : Addr), aA = some ad13 ∧ ((0 : Int) ≤ n4 ∧ n4 < (aL : Int)) ∧ ∃ (n14 : Int), World.cell? w5
  (Addr.add (Addr.add ad13 (Int.toNat n4 * 2)) 0) = some (Value.int IntKind.i64 n14) ∧ ∃ (ad15 : Addr), bA = some ad15 ∧ ((0 : Int) ≤ n4 ∧
  n4 < (bL : Int)) ∧ ∃ (n16 : Int), World.cell? w5 (Addr.add (Addr.add ad15 (Int.toNat n4 * 2)) 0) = some (Value.int IntKind.i64 n16) ∧
  bcase (!decide (n14 = n16)) (∀ (w17 : World), Step w5 w17 [] [] → y7 true w17) (∃ (ad19 : Addr), aA = some ad19 ∧ ((0 : Int) ≤ n4 ∧ n4 <
  (aL : Int)) ∧ ∃ (p20 : Option Addr), ∃ (k21 : Nat), ∃ (k22 : Nat), World.cell? w5 (Addr.add (Addr.add ad19 (Int.toNat n4 * 2)) 1) = some
  (Value.slice p20 k21 k22) ∧ ∃ (l23 : List UInt8), List.length l23 = k21 ∧ (∀ (k24 : Nat), k24 < k21 → ∃ (ad26 : Addr), p20 = some ad26 ∧
  World.cell? w5 (Addr.add ad26 k24) = some (Value.int IntKind.u8 ((UInt8.toNat (List.getD l23 k24 (0 : UInt8))) : Int))) ∧ ∃ (ad27 : Addr),
  bA = some ad27 ∧ ((0 : Int) ≤ n4 ∧ n4 < (bL : Int)) ∧ ∃ (s28 : ByteArray), World.cell? w5 (Addr.add (Addr.add ad27 (Int.toNat n4 * 2)) 1)
  = some (Value.string s28) ∧ ∀ (w29 : World), Step w5 w29 [] [] → y7 (!decide ((ByteArray.mk (Array.mk l23)) = s28)) w29)) (R
  (Ending.returned (Value.bool true)) w5))

theorem rhizomelaw04_Same.link {aA : Option Addr} {aL aC : Nat} {bA : Option Addr} {bL bC : Nat} {R : Ending → World → Prop} {w : World} (h : rhizomelaw04_Same.vc aA aL aC bA bL bC R w) : Calls Go.Proofs.Try.prog 41 #[.slice aA aL aC, .slice bA bL bC] w R :=
  calls_of pf (fn := Go.Proofs.Try.f41) (ann := .s (.n) (.s (.s (.n) (.c (.s (.n) (.n)) (.n))) (.s (.s (.n) (.b (.l ⟨[], [], [], [(13, .l (.i .i64))], []⟩ (.s (.n) (.s (.c (.n) (.n)) (.s (.b (.s (.n) (.j ⟨[], [], [], [(40, .l (.b))], []⟩ (.n) (.c (.s (.n) (.n)) (.n))))) (.n))))))) (.s (.n) (.n))))) (mp := false) (args := [.v (.slice aA aL aC), .v (.slice bA bL bC)]) Go.Proofs.Try.func41 (c := Go.Proofs.Try.f41.body.getD .skip) (by kernel_rfl) (by kernel_rfl) (Eq.mp (by kernel_rfl) h)
theorem rhizomelaw04_Same.body : BodyOk Go.Proofs.Try.prog 41 := ⟨Go.Proofs.Try.f41, Go.Proofs.Try.func41, by kernel_rfl, pf.ng _ _ Go.Proofs.Try.func41⟩

end Go.Proofs.Ytcaamecdhbgknaa.VC
