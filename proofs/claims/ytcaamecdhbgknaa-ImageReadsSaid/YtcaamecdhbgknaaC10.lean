/- What is to be shown of functions' texts, printed by a program of this session's repo; that it gives the functions' contracts is checked by the kernel. -/
import Derived.Test.YtcaamecdhbgknaaProg
import Derived.Test.YtcaamecdhbgknaaPf
namespace Go.Proofs.Ytcaamecdhbgknaa.VC
open Go Go.V
set_option maxRecDepth 1000000
set_option linter.unusedVariables false

/-! ### rhizome/rhizomeref05.area: function 91 -/
def rhizomeref05_area.vc (dSureA : Option Addr) (dSureL dSureC : Nat) (dNowA : Option Addr) (dNowL dNowC : Nat) (dFreshA : Option Addr)
  (dFreshL dFreshC : Nat) (dSteps : Int) (dLeft : Int) (at0 : Int) (count : Int) (R : Ending → World → Prop) (w : World) : Prop := ∀ (k1 :
  Nat), ∃ (ad2 : Addr), dNowA = some ad2 ∧ ((0 : Int) ≤ at0 ∧ at0 < (dNowL : Int)) ∧ ∃ (s3 : ByteArray), World.cell? w (Addr.add ad2
  (Int.toNat at0 * 1)) = some (Value.string s3) ∧ ∃ (y4 : Nat → Int → Int → World → Prop), ∃ (k5 : Nat), (∀ (w6 : World), Step w w6 [] [k1]
  → y4 k5 (0 : Int) (1 : Int) w6) ∧ ∀ (k8 : Nat) (n9 n10 : Int) (w11 : World), y4 k8 n9 n10 w11 → bcase (decide (n10 < (9 : Int))) (bcase
  (decide ((18014398509481984 : Int) < n9)) (R (Ending.returned (Value.tuple { toList := [Value.int IntKind.i64 (0 : Int), Value.int IntKind.i64 (0 : Int)] }))
  w11) (((0 : Int) ≤ n10 ∧ n10 < ((ByteArray.size s3) : Int)) ∧ ∃ (k13 : Nat), k13 < k8 ∧ y4 k13 (IntKind.wrap IntKind.i64 (IntKind.wrap
  IntKind.i64 (n9 * (256 : Int)) + IntKind.wrap IntKind.i64 (byteAt s3 n10))) (IntKind.wrap IntKind.i64 (n10 + (1 : Int))) w11)) (∃ (y14 :
  Nat → Int → Int → World → Prop), ∃ (k15 : Nat), y14 k15 (0 : Int) (9 : Int) w11 ∧ ∀ (k16 : Nat) (n17 n18 : Int) (w19 : World), y14 k16 n17
  n18 w19 → bcase (decide (n18 < (13 : Int))) (((0 : Int) ≤ n18 ∧ n18 < ((ByteArray.size s3) : Int)) ∧ ∃ (k21 : Nat), k21 < k16 ∧ y14 k21
  (IntKind.wrap IntKind.i64 (IntKind.wrap IntKind.i64 (n17 * (256 : Int)) + IntKind.wrap IntKind.i64 (byteAt s3 n18))) (IntKind.wrap
  IntKind.i64 (n18 + (1 : Int))) w19) (∀ (y22 : Bool → World → Prop), (∀ (b23 : Bool) (w24 : World), bcase b23 (R (Ending.returned
  (Value.tuple { toList := [Value.int IntKind.i64 (0 : Int), Value.int IntKind.i64 (0 : Int)] })) w24) (R (Ending.returned (Value.tuple { toList := [Value.int IntKind.i64 n9, Value.int IntKind.i64 n17] }))
  w24) → y22 b23 w24) → bcase (decide (n9 < (1 : Int))) (y22 true w19) (bcase (decide ((4611686018427387904 : Int) < n9)) (y22 true w19)
  (bcase (decide (IntKind.wrap IntKind.i64 ((64 : Int) * IntKind.wrap IntKind.i64 (count - (1 : Int))) < n17)) (y22 true w19) (Calls
  Proofs.Try.prog (52 : Nat) { toList := [Value.int IntKind.i64 n9, Value.int IntKind.i64 n17] } w19 fun (e27 : Ending) (w28 : World) => ∃
  (s29 : ByteArray), e27 = Ending.returned (Value.string s29) ∧ y22 (!decide (s3 = s29)) w28)))))

theorem rhizomeref05_area.link {dSureA : Option Addr} {dSureL dSureC : Nat} {dNowA : Option Addr} {dNowL dNowC : Nat} {dFreshA : Option Addr} {dFreshL dFreshC : Nat} {dSteps : Int} {dLeft : Int} {at0 : Int} {count : Int} {R : Ending → World → Prop} {w : World} (h : rhizomeref05_area.vc dSureA dSureL dSureC dNowA dNowL dNowC dFreshA dFreshL dFreshC dSteps dLeft at0 count R w) : Calls Go.Proofs.Try.prog 91 #[(.agg #[.slice dSureA dSureL dSureC, .slice dNowA dNowL dNowC, .slice dFreshA dFreshL dFreshC, .int .i64 dSteps, .int .i64 dLeft] : Value), .int .i64 at0, .int .i64 count] w R :=
  calls_of pf (fn := Go.Proofs.Try.f91) (ann := .s (.n) (.s (.n) (.s (.n) (.s (.s (.n) (.b (.l ⟨[], [], [], [(9, .l (.i .i64)), (11, .l (.i .i64))], []⟩ (.s (.s (.n) (.c (.n) (.n))) (.s (.b (.s (.s (.n) (.c (.s (.n) (.n)) (.n))) (.n))) (.n)))))) (.s (.s (.n) (.b (.l ⟨[], [], [], [(10, .l (.i .i64)), (12, .l (.i .i64))], []⟩ (.s (.s (.n) (.c (.n) (.n))) (.s (.b (.n)) (.n)))))) (.s (.j ⟨[], [], [], [(61, .l (.b))], []⟩ (.n) (.c (.s (.n) (.n)) (.n))) (.s (.n) (.n)))))))) (mp := false) (args := [.v (.agg #[.slice dSureA dSureL dSureC, .slice dNowA dNowL dNowC, .slice dFreshA dFreshL dFreshC, .int .i64 dSteps, .int .i64 dLeft]), .v (.int .i64 at0), .v (.int .i64 count)]) Go.Proofs.Try.func91 (c := Go.Proofs.Try.f91.body.getD .skip) (by kernel_rfl) (by kernel_rfl) (Eq.mp (by kernel_rfl) h)
theorem rhizomeref05_area.body : BodyOk Go.Proofs.Try.prog 91 := ⟨Go.Proofs.Try.f91, Go.Proofs.Try.func91, by kernel_rfl, pf.ng _ _ Go.Proofs.Try.func91⟩

/-! ### rhizome/rhizomeref05.Counts: function 82 -/
def rhizomeref05_Counts.vc (dSureA : Option Addr) (dSureL dSureC : Nat) (dNowA : Option Addr) (dNowL dNowC : Nat) (dFreshA : Option Addr)
  (dFreshL dFreshC : Nat) (dSteps : Int) (dLeft : Int) (first : Int) (count : Int) (R : Ending → World → Prop) (w : World) : Prop := ∀ (k1 :
  Nat) (w2 : World), Step w w2 [] [k1] → Calls Proofs.Try.prog (91 : Nat) { toList := [Value.agg { toList := [Value.slice dSureA dSureL dSureC, Value.slice dNowA dNowL dNowC, Value.slice dFreshA dFreshL dFreshC, Value.int IntKind.i64 dSteps, Value.int IntKind.i64 dLeft] }, Value.int IntKind.i64 first, Value.int IntKind.i64 count] }
  w2 fun (e4 : Ending) (w5 : World) => ∃ (n6 : Int), ∃ (n7 : Int), e4 = Ending.returned (Value.tuple { toList := [Value.int IntKind.i64 n6, Value.int IntKind.i64 n7] })
  ∧ Keep [k1] w2 w5 ∧ Calls Proofs.Try.prog (91 : Nat) { toList := [Value.agg { toList := [Value.slice dSureA dSureL dSureC, Value.slice dNowA dNowL dNowC, Value.slice dFreshA dFreshL dFreshC, Value.int IntKind.i64 dSteps, Value.int IntKind.i64 dLeft] }, Value.int IntKind.i64 (IntKind.wrap IntKind.i64 (first + count)), Value.int IntKind.i64 count] }
  w5 fun (e8 : Ending) (w9 : World) => ∃ (n10 : Int), ∃ (n11 : Int), e8 = Ending.returned (Value.tuple { toList := [Value.int IntKind.i64 n10, Value.int IntKind.i64 n11] })
  ∧ Keep [k1] w5 w9 ∧ ∀ (y12 : Bool → World → Prop), (∀ (b13 : Bool) (w14 : World), bcase b13 (R (Ending.returned (Value.tuple { toList := [Value.int IntKind.i64 (0 : Int), Value.int IntKind.i64 (0 : Int), Value.int IntKind.i64 (0 : Int)] }))
  w14) (bcase (decide (n10 ≤ n6)) (R (Ending.returned (Value.tuple { toList := [Value.int IntKind.i64 first, Value.int IntKind.i64 n6, Value.int IntKind.i64 n7] }))
  w14) (R (Ending.returned (Value.tuple { toList := [Value.int IntKind.i64 (IntKind.wrap IntKind.i64 (first + count)), Value.int IntKind.i64 n10, Value.int IntKind.i64 n11] }))
  w14)) → y12 b13 w14) → bcase (decide (n6 = (0 : Int))) (y12 (decide (n10 = (0 : Int))) w9) (y12 false w9)

theorem rhizomeref05_Counts.link {dSureA : Option Addr} {dSureL dSureC : Nat} {dNowA : Option Addr} {dNowL dNowC : Nat} {dFreshA : Option Addr} {dFreshL dFreshC : Nat} {dSteps : Int} {dLeft : Int} {first : Int} {count : Int} {R : Ending → World → Prop} {w : World} (h : rhizomeref05_Counts.vc dSureA dSureL dSureC dNowA dNowL dNowC dFreshA dFreshL dFreshC dSteps dLeft first count R w) : Calls Go.Proofs.Try.prog 82 #[(.agg #[.slice dSureA dSureL dSureC, .slice dNowA dNowL dNowC, .slice dFreshA dFreshL dFreshC, .int .i64 dSteps, .int .i64 dLeft] : Value), .int .i64 first, .int .i64 count] w R :=
  calls_of pf (fn := Go.Proofs.Try.f82) (ann := .s (.n) (.s (.n) (.s (.n) (.s (.j ⟨[], [], [], [(34, .l (.b))], []⟩ (.n) (.c (.s (.n) (.n)) (.n))) (.s (.s (.n) (.c (.s (.n) (.n)) (.n))) (.s (.n) (.n))))))) (mp := false) (args := [.v (.agg #[.slice dSureA dSureL dSureC, .slice dNowA dNowL dNowC, .slice dFreshA dFreshL dFreshC, .int .i64 dSteps, .int .i64 dLeft]), .v (.int .i64 first), .v (.int .i64 count)]) Go.Proofs.Try.func82 (c := Go.Proofs.Try.f82.body.getD .skip) (by kernel_rfl) (by kernel_rfl) (Eq.mp (by kernel_rfl) h)
theorem rhizomeref05_Counts.body : BodyOk Go.Proofs.Try.prog 82 := ⟨Go.Proofs.Try.f82, Go.Proofs.Try.func82, by kernel_rfl, pf.ng _ _ Go.Proofs.Try.func82⟩

/-! ### rhizome/rhizomeref05.Head: function 52 -/
def rhizomeref05_Head.vc (seq : Int) (size : Int) (R : Ending → World → Prop) (w : World) : Prop := ((0 : Int) ≤ (64 : Int) ∧ (64 : Int) ≤
  (64 : Int) ∧ ((1 : Nat) : Int) * (64 : Int) ≤ (281474976710656 : Int) ∧ (64 : Int) ≤ (281474976710656 : Int)) ∧ ∀ (w1 : World) (k2 : Nat),
  Step w w1 [] [k2] → Blk w1 k2 (reps [Value.int IntKind.u8 (0 : Int)] 64) → ∃ (ad5 : Addr), some { block := k2, off := 0 } = some ad5 ∧ ((0
  : Int) ≤ (0 : Int) ∧ (0 : Int) < ((64 : Nat) : Int)) ∧ ∃ (l6 : List Value), Blk w1 (Addr.block (Addr.add ad5 0)) l6 ∧ Addr.spot (Addr.add
  ad5 0) = none ∧ Addr.off (Addr.add ad5 0) + 1 ≤ List.length l6 ∧ ∀ (w7 : World), Upd w1 w7 (Addr.block (Addr.add ad5 0)) (sets l6
  (Addr.off (Addr.add ad5 0)) [Value.int IntKind.u8 (73 : Int)]) → ∃ (ad9 : Addr), some { block := k2, off := 0 } = some ad9 ∧ ((0 : Int) ≤
  (63 : Int) ∧ (63 : Int) < ((64 : Nat) : Int)) ∧ ∃ (l10 : List Value), Blk w7 (Addr.block (Addr.add ad9 63)) l10 ∧ Addr.spot (Addr.add ad9
  63) = none ∧ Addr.off (Addr.add ad9 63) + 1 ≤ List.length l10 ∧ ∀ (w11 : World), Upd w7 w11 (Addr.block (Addr.add ad9 63)) (sets l10
  (Addr.off (Addr.add ad9 63)) [Value.int IntKind.u8 (90 : Int)]) → ∃ (y13 : Nat → Int → Int → World → Prop), ∃ (k14 : Nat), y13 k14 seq (8
  : Int) w11 ∧ ∀ (k15 : Nat) (n16 n17 : Int) (w18 : World), y13 k15 n16 n17 w18 → bcase (decide ((0 : Int) < n17)) ((256 : Int) ≠ (0 : Int)
  ∧ ∃ (ad20 : Addr), some { block := k2, off := 0 } = some ad20 ∧ ((0 : Int) ≤ n17 ∧ n17 < ((64 : Nat) : Int)) ∧ ∃ (l21 : List Value), Blk
  w18 (Addr.block (Addr.add ad20 (Int.toNat n17 * 1))) l21 ∧ Addr.spot (Addr.add ad20 (Int.toNat n17 * 1)) = none ∧ Addr.off (Addr.add ad20
  (Int.toNat n17 * 1)) + List.length [Value.int IntKind.u8 (IntKind.wrap IntKind.u8 (Int.tmod n16 (256 : Int)))] ≤ List.length l21 ∧ ∀ (w22
  : World), Upd w18 w22 (Addr.block (Addr.add ad20 (Int.toNat n17 * 1))) (sets l21 (Addr.off (Addr.add ad20 (Int.toNat n17 * 1))) [Value.int
  IntKind.u8 (IntKind.wrap IntKind.u8 (Int.tmod n16 (256 : Int)))]) → (256 : Int) ≠ (0 : Int) ∧ ∃ (k24 : Nat), k24 < k15 ∧ y13 k24
  (IntKind.wrap IntKind.i64 (Int.tdiv n16 (256 : Int))) (IntKind.wrap IntKind.i64 (n17 - (1 : Int))) w22) (∃ (y25 : Nat → Int → Int → World
  → Prop), ∃ (k26 : Nat), y25 k26 size (12 : Int) w18 ∧ ∀ (k27 : Nat) (n28 n29 : Int) (w30 : World), y25 k27 n28 n29 w30 → bcase (decide ((8
  : Int) < n29)) ((256 : Int) ≠ (0 : Int) ∧ ∃ (ad32 : Addr), some { block := k2, off := 0 } = some ad32 ∧ ((0 : Int) ≤ n29 ∧ n29 < ((64 :
  Nat) : Int)) ∧ ∃ (l33 : List Value), Blk w30 (Addr.block (Addr.add ad32 (Int.toNat n29 * 1))) l33 ∧ Addr.spot (Addr.add ad32 (Int.toNat
  n29 * 1)) = none ∧ Addr.off (Addr.add ad32 (Int.toNat n29 * 1)) + List.length [Value.int IntKind.u8 (IntKind.wrap IntKind.u8 (Int.tmod n28
  (256 : Int)))] ≤ List.length l33 ∧ ∀ (w34 : World), Upd w30 w34 (Addr.block (Addr.add ad32 (Int.toNat n29 * 1))) (sets l33 (Addr.off
  (Addr.add ad32 (Int.toNat n29 * 1))) [Value.int IntKind.u8 (IntKind.wrap IntKind.u8 (Int.tmod n28 (256 : Int)))]) → (256 : Int) ≠ (0 :
  Int) ∧ ∃ (k36 : Nat), k36 < k27 ∧ y25 k36 (IntKind.wrap IntKind.i64 (Int.tdiv n28 (256 : Int))) (IntKind.wrap IntKind.i64 (n29 - (1 :
  Int))) w34) (∃ (l37 : List UInt8), List.length l37 = 64 ∧ (∀ (k38 : Nat), k38 < 64 → ∃ (ad40 : Addr), some { block := k2, off := 0 } =
  some ad40 ∧ World.cell? w30 (Addr.add ad40 k38) = some (Value.int IntKind.u8 ((UInt8.toNat (List.getD l37 k38 (0 : UInt8))) : Int))) ∧ R
  (Ending.returned (Value.string (ByteArray.mk (Array.mk l37)))) w30))

theorem rhizomeref05_Head.link {seq : Int} {size : Int} {R : Ending → World → Prop} {w : World} (h : rhizomeref05_Head.vc seq size R w) : Calls Go.Proofs.Try.prog 52 #[.int .i64 seq, .int .i64 size] w R :=
  calls_of pf (fn := Go.Proofs.Try.f52) (ann := .s (.n) (.s (.n) (.s (.n) (.s (.n) (.s (.s (.n) (.b (.l ⟨[], [], [], [(0, .l (.i .i64)), (6, .l (.i .i64))], []⟩ (.s (.s (.n) (.c (.n) (.n))) (.s (.b (.s (.n) (.n))) (.n)))))) (.s (.s (.n) (.b (.l ⟨[], [], [], [(1, .l (.i .i64)), (7, .l (.i .i64))], []⟩ (.s (.s (.n) (.c (.n) (.n))) (.s (.b (.s (.n) (.n))) (.n)))))) (.s (.n) (.n)))))))) (mp := false) (args := [.v (.int .i64 seq), .v (.int .i64 size)]) Go.Proofs.Try.func52 (c := Go.Proofs.Try.f52.body.getD .skip) (by kernel_rfl) (by kernel_rfl) (Eq.mp (by kernel_rfl) h)
theorem rhizomeref05_Head.body : BodyOk Go.Proofs.Try.prog 52 := ⟨Go.Proofs.Try.f52, Go.Proofs.Try.func52, by kernel_rfl, pf.ng _ _ Go.Proofs.Try.func52⟩

/-! ### rhizome/rhizomeref05.Fits: function 53 -/
def rhizomeref05_Fits.vc (size : Int) (first : Int) (count : Int) (R : Ending → World → Prop) (w : World) : Prop := ∀ (y1 : Bool → World →
  Prop), (∀ (b2 : Bool) (w3 : World), R (Ending.returned (Value.bool b2)) w3 → y1 b2 w3) → bcase (decide ((0 : Int) ≤ first)) (bcase (decide
  ((2 : Int) ≤ count)) (bcase (decide (first ≤ size)) ((2 : Int) ≠ (0 : Int) ∧ y1 (decide (count ≤ IntKind.wrap IntKind.i64 (Int.tdiv
  (IntKind.wrap IntKind.i64 (size - first)) (2 : Int)))) w) (y1 false w)) (y1 false w)) (y1 false w)

theorem rhizomeref05_Fits.link {size : Int} {first : Int} {count : Int} {R : Ending → World → Prop} {w : World} (h : rhizomeref05_Fits.vc size first count R w) : Calls Go.Proofs.Try.prog 53 #[.int .i64 size, .int .i64 first, .int .i64 count] w R :=
  calls_of pf (fn := Go.Proofs.Try.f53) (ann := .s (.n) (.j ⟨[], [], [], [(6, .l (.b))], []⟩ (.n) (.n))) (mp := false) (args := [.v (.int .i64 size), .v (.int .i64 first), .v (.int .i64 count)]) Go.Proofs.Try.func53 (c := Go.Proofs.Try.f53.body.getD .skip) (by kernel_rfl) (by kernel_rfl) (Eq.mp (by kernel_rfl) h)
theorem rhizomeref05_Fits.body : BodyOk Go.Proofs.Try.prog 53 := ⟨Go.Proofs.Try.f53, Go.Proofs.Try.func53, by kernel_rfl, pf.ng _ _ Go.Proofs.Try.func53⟩

/-! ### rhizome/rhizomeref05.Load: function 54 -/
def rhizomeref05_Load.vc (dSureA : Option Addr) (dSureL dSureC : Nat) (dNowA : Option Addr) (dNowL dNowC : Nat) (dFreshA : Option Addr)
  (dFreshL dFreshC : Nat) (dSteps : Int) (dLeft : Int) (first : Int) (count : Int) (R : Ending → World → Prop) (w : World) : Prop := ∀ (k1 :
  Nat) (w2 : World), Step w w2 [] [k1] → Calls Proofs.Try.prog (82 : Nat) { toList := [Value.agg { toList := [Value.slice dSureA dSureL dSureC, Value.slice dNowA dNowL dNowC, Value.slice dFreshA dFreshL dFreshC, Value.int IntKind.i64 dSteps, Value.int IntKind.i64 dLeft] }, Value.int IntKind.i64 first, Value.int IntKind.i64 count] }
  w2 fun (e4 : Ending) (w5 : World) => ∃ (n6 : Int), ∃ (n7 : Int), ∃ (n8 : Int), e4 = Ending.returned (Value.tuple { toList := [Value.int IntKind.i64 n6, Value.int IntKind.i64 n7, Value.int IntKind.i64 n8] })
  ∧ Keep [k1] w2 w5 ∧ bcase (decide (n7 = (0 : Int))) (R (Ending.returned (Value.tuple { toList := [Value.int IntKind.i64 (0 : Int), Value.string { data := { toList := [] } }, Value.bool false] }))
  w5) (∃ (y9 : Nat → Int → ByteArray → World → Prop), ∃ (k10 : Nat), y9 k10 n6 { data := { toList := [] } } w5 ∧ ∀ (k11 : Nat) (n12 : Int)
  (s13 : ByteArray) (w14 : World), y9 k11 n12 s13 w14 → bcase (decide (((ByteArray.size s13) : Int) < n8)) (∃ (ad16 : Addr), dNowA = some
  ad16 ∧ ((0 : Int) ≤ IntKind.wrap IntKind.i64 (n12 + (1 : Int)) ∧ IntKind.wrap IntKind.i64 (n12 + (1 : Int)) < (dNowL : Int)) ∧ ∃ (s17 :
  ByteArray), World.cell? w14 (Addr.add ad16 (Int.toNat (IntKind.wrap IntKind.i64 (n12 + (1 : Int))) * 1)) = some (Value.string s17) ∧
  ByteArray.size s13 + ByteArray.size s17 ≤ 9223372036854775807 ∧ ∃ (k18 : Nat), k18 < k11 ∧ y9 k18 (IntKind.wrap IntKind.i64 (n12 + (1 :
  Int))) (s13 ++ s17) w14) (((0 : Int) ≤ (0 : Int) ∧ (0 : Int) ≤ n8 ∧ n8 ≤ ((ByteArray.size s13) : Int)) ∧ ∀ (w19 : World), Step w14 w19 []
  [] → R (Ending.returned (Value.tuple { toList := [Value.int IntKind.i64 n7, Value.string (ByteArray.extract s13 0 (Int.toNat n8)), Value.bool true] }))
  w19))

theorem rhizomeref05_Load.link {dSureA : Option Addr} {dSureL dSureC : Nat} {dNowA : Option Addr} {dNowL dNowC : Nat} {dFreshA : Option Addr} {dFreshL dFreshC : Nat} {dSteps : Int} {dLeft : Int} {first : Int} {count : Int} {R : Ending → World → Prop} {w : World} (h : rhizomeref05_Load.vc dSureA dSureL dSureC dNowA dNowL dNowC dFreshA dFreshL dFreshC dSteps dLeft first count R w) : Calls Go.Proofs.Try.prog 54 #[(.agg #[.slice dSureA dSureL dSureC, .slice dNowA dNowL dNowC, .slice dFreshA dFreshL dFreshC, .int .i64 dSteps, .int .i64 dLeft] : Value), .int .i64 first, .int .i64 count] w R :=
  calls_of pf (fn := Go.Proofs.Try.f54) (ann := .s (.n) (.s (.n) (.s (.s (.n) (.c (.s (.n) (.n)) (.n))) (.s (.n) (.s (.b (.l ⟨[], [], [0], [(9, .l (.i .i64)), (12, .l (.s))], []⟩ (.s (.s (.n) (.c (.n) (.n))) (.b (.s (.n) (.n)))))) (.s (.d [0]) (.n))))))) (mp := false) (args := [.v (.agg #[.slice dSureA dSureL dSureC, .slice dNowA dNowL dNowC, .slice dFreshA dFreshL dFreshC, .int .i64 dSteps, .int .i64 dLeft]), .v (.int .i64 first), .v (.int .i64 count)]) Go.Proofs.Try.func54 (c := Go.Proofs.Try.f54.body.getD .skip) (by kernel_rfl) (by kernel_rfl) (Eq.mp (by kernel_rfl) h)
theorem rhizomeref05_Load.body : BodyOk Go.Proofs.Try.prog 54 := ⟨Go.Proofs.Try.f54, Go.Proofs.Try.func54, by kernel_rfl, pf.ng _ _ Go.Proofs.Try.func54⟩

end Go.Proofs.Ytcaamecdhbgknaa.VC
