/- What is to be shown of functions' texts, printed by a program of this session's repo; that it gives the functions' contracts is checked by the kernel. -/
import Derived.Test.YtcaamecdhbgknaaProg
import Derived.Test.YtcaamecdhbgknaaPf
namespace Go.Proofs.Ytcaamecdhbgknaa.VC
open Go Go.V
set_option maxRecDepth 1000000
set_option linter.unusedVariables false

/-! ### maps.Copy[map[int][64]byte,map[int][64]byte,int,[64]byte]: function 59 -/
def maps_Copy_g.vc (dst : Option Nat) (src : Option Nat) (R : Ending → World → Prop) (w : World) : Prop := ∃ (l1 : List (Int × Value)), MapO
  (Value.int IntKind.i64) w src l1 ∧ ∀ (w2 : World) (k3 : Nat), Step w w2 [] [k3] → IterO (Value.int IntKind.i64) w2 k3 src l1 [] → ∃ (y6 :
  Nat → World → Prop), ∃ (k7 : Nat), y6 k7 w2 ∧ ∀ (k8 : Nat) (w9 : World), y6 k8 w9 → ∃ (p11 : Option Nat), ∃ (l12 : List (Int × Value)), ∃
  (l13 : List Int), IterO (Value.int IntKind.i64) w9 k3 p11 l12 l13 ∧ (∀ (y14 : Int × Value), y14 ∈ l12 → IsT Proofs.Try.prog 107 (Prod.snd
  y14)) ∧ (∀ (n16 : Int) (l17 : List Value), List.length l17 = 64 → (n16, Value.agg { toList := l17 }) ∈ l12 → ¬n16 ∈ l13 → ∀ (w21 : World),
  IStep w9 w21 k3 → IterO (Value.int IntKind.i64) w21 k3 p11 l12 (n16 :: l13) → Cur Proofs.Try.prog w21 k3 (Value.int IntKind.i64 n16)
  (Value.agg { toList := l17 }) → bcase true (∃ (n25 : Int), ∃ (l26 : List Value), List.length l26 = 64 ∧ Cur Proofs.Try.prog w21 k3
  (Value.int IntKind.i64 n25) (Value.agg { toList := l26 }) ∧ ∀ (k27 : Nat) (w28 : World), Step w21 w28 [] [k27] → Blk w28 k27 (reps
  [Value.int IntKind.u8 (0 : Int)] 64) → ∃ (l31 : List Value), Value.agg { toList := l26 } = Value.agg { toList := l31 } ∧ List.length l31 =
  64 ∧ (∀ (x32 : Value), x32 ∈ l31 → Value.oneCell' x32 = true) ∧ ∃ (l34 : List Value), Blk w28 k27 l34 ∧ Addr.spot ⟨0, 0, none⟩ = none ∧ 0
  + List.length l31 ≤ List.length l34 ∧ ∀ (w35 : World), Upd w28 w35 k27 (sets l34 0 l31) → ∃ (l37 : List Value), List.length l37 = 64 ∧ (∀
  (k38 : Nat), k38 < 64 → World.cell? w35 (Addr.add { block := k27, off := 0 } k38) = l37[k38]?) ∧ ∃ (k40 : Nat), ∃ (l41 : List (Int ×
  Value)), dst = some k40 ∧ MapG (Value.int IntKind.i64) w35 k40 l41 ∧ ∀ (w42 : World), MUpd (Value.int IntKind.i64) w35 w42 k40 (updM l41
  n25 (Value.agg { toList := l37 })) → ∃ (k44 : Nat), k44 < k8 ∧ y6 k44 w42) (R (Ending.returned (Value.tuple { toList := [] })) w21)) ∧ ((∀
  (y45 : Int × Value), y45 ∈ l12 → Prod.fst y45 ∈ l13) → ∀ (w48 : World), IStep w9 w48 k3 → IterO (Value.int IntKind.i64) w48 k3 p11 l12 l13
  → bcase false (∃ (n51 : Int), ∃ (l52 : List Value), List.length l52 = 64 ∧ Cur Proofs.Try.prog w48 k3 (Value.int IntKind.i64 n51)
  (Value.agg { toList := l52 }) ∧ ∀ (k53 : Nat) (w54 : World), Step w48 w54 [] [k53] → Blk w54 k53 (reps [Value.int IntKind.u8 (0 : Int)]
  64) → ∃ (l57 : List Value), Value.agg { toList := l52 } = Value.agg { toList := l57 } ∧ List.length l57 = 64 ∧ (∀ (x58 : Value), x58 ∈ l57
  → Value.oneCell' x58 = true) ∧ ∃ (l60 : List Value), Blk w54 k53 l60 ∧ Addr.spot ⟨0, 0, none⟩ = none ∧ 0 + List.length l57 ≤ List.length
  l60 ∧ ∀ (w61 : World), Upd w54 w61 k53 (sets l60 0 l57) → ∃ (l63 : List Value), List.length l63 = 64 ∧ (∀ (k64 : Nat), k64 < 64 →
  World.cell? w61 (Addr.add { block := k53, off := 0 } k64) = l63[k64]?) ∧ ∃ (k66 : Nat), ∃ (l67 : List (Int × Value)), dst = some k66 ∧
  MapG (Value.int IntKind.i64) w61 k66 l67 ∧ ∀ (w68 : World), MUpd (Value.int IntKind.i64) w61 w68 k66 (updM l67 n51 (Value.agg { toList := l63 }))
  → ∃ (k70 : Nat), k70 < k8 ∧ y6 k70 w68) (R (Ending.returned (Value.tuple { toList := [] })) w48))

theorem maps_Copy_g.link {dst : Option Nat} {src : Option Nat} {R : Ending → World → Prop} {w : World} (h : maps_Copy_g.vc dst src R w) : Calls Go.Proofs.Try.prog 59 #[.map dst, .map src] w R :=
  calls_of pf (fn := Go.Proofs.Try.f59) (ann := .s (.n) (.b (.l ⟨[], [], [], [], []⟩ (.s (.n) (.s (.c (.n) (.n)) (.b (.s (.n) (.n)))))))) (mp := false) (args := [.v (.map dst), .v (.map src)]) Go.Proofs.Try.func59 (c := Go.Proofs.Try.f59.body.getD .skip) (by kernel_rfl) (by kernel_rfl) (Eq.mp (by kernel_rfl) h)
theorem maps_Copy_g.body : BodyOk Go.Proofs.Try.prog 59 := ⟨Go.Proofs.Try.f59, Go.Proofs.Try.func59, by kernel_rfl, pf.ng _ _ Go.Proofs.Try.func59⟩

/-! ### maps.Clone[map[int][64]byte,int,[64]byte]: function 60 -/
def maps_Clone_g.vc (m : Option Nat) (R : Ending → World → Prop) (w : World) : Prop := bcase (Option.isNone m) (R (Ending.returned
  (Value.map none)) w) (∃ (x1 : Value), ∃ (w2 : World), Sem.run Proofs.Try.prog (callFunc 86 { toList := [Value.iface 103 (Value.map m)] })
  w = Result.ok (Next.value x1) w2 ∧ False)

theorem maps_Clone_g.link {m : Option Nat} {R : Ending → World → Prop} {w : World} (h : maps_Clone_g.vc m R w) : Calls Go.Proofs.Try.prog 60 #[.map m] w R :=
  calls_of pf (fn := Go.Proofs.Try.f60) (ann := .s (.n) (.s (.s (.n) (.c (.s (.n) (.n)) (.n))) (.s (.n) (.n)))) (mp := false) (args := [.v (.map m)]) Go.Proofs.Try.func60 (c := Go.Proofs.Try.f60.body.getD .skip) (by kernel_rfl) (by kernel_rfl) (Eq.mp (by kernel_rfl) h)
theorem maps_Clone_g.body : BodyOk Go.Proofs.Try.prog 60 := ⟨Go.Proofs.Try.f60, Go.Proofs.Try.func60, by kernel_rfl, pf.ng _ _ Go.Proofs.Try.func60⟩

/-! ### rhizome/rhizomelaw03.Tells: function 32 -/
def rhizomelaw03_Tells.vc (d : Addr) (mSureA : Option Addr) (mSureL mSureC : Nat) (mNowA : Option Addr) (mNowL mNowC : Nat) (mFreshA :
  Option Addr) (mFreshL mFreshC : Nat) (mSteps : Int) (mLeft : Int) (R : Ending → World → Prop) (w : World) : Prop := ∀ (k1 : Nat) (y2 :
  Bool → World → Prop), (∀ (b3 : Bool) (w4 : World), bcase b3 (R (Ending.returned (Value.bool false)) w4) (∃ (y5 : Nat → Int → World →
  Prop), ∃ (k6 : Nat), y5 k6 (0 : Int) w4 ∧ ∀ (k7 : Nat) (n8 : Int) (w9 : World), y5 k7 n8 w9 → bcase (decide (n8 < (mNowL : Int))) (Calls
  Proofs.Try.prog (22 : Nat) { toList := [Value.pointer (some d), Value.int IntKind.i64 n8] } w9 fun (e11 : Ending) (w12 : World) => ∃ (p13
  : Option Addr), ∃ (k14 : Nat), ∃ (k15 : Nat), ∃ (n16 : Int), e11 = Ending.returned (Value.tuple { toList := [Value.slice p13 k14 k15, Value.int IntKind.i64 n16] })
  ∧ Keep [k1] w9 w12 ∧ ∀ (y17 : Bool → World → Prop), (∀ (b18 : Bool) (w19 : World), bcase b18 (R (Ending.returned (Value.bool false)) w19)
  (∃ (k20 : Nat), k20 < k7 ∧ y5 k20 (IntKind.wrap IntKind.i64 (n8 + (1 : Int))) w19) → y17 b18 w19) → bcase (!decide (n16 = (0 : Int))) (∀
  (w23 : World), Step w12 w23 [] [] → y17 true w23) (∃ (l25 : List UInt8), List.length l25 = k14 ∧ (∀ (k26 : Nat), k26 < k14 → ∃ (ad28 :
  Addr), p13 = some ad28 ∧ World.cell? w12 (Addr.add ad28 k26) = some (Value.int IntKind.u8 ((UInt8.toNat (List.getD l25 k26 (0 : UInt8))) :
  Int))) ∧ ∃ (ad29 : Addr), mNowA = some ad29 ∧ ((0 : Int) ≤ n8 ∧ n8 < (mNowL : Int)) ∧ ∃ (s30 : ByteArray), World.cell? w12 (Addr.add ad29
  (Int.toNat n8 * 1)) = some (Value.string s30) ∧ ∀ (w31 : World), Step w12 w31 [] [] → y17 (!decide ((ByteArray.mk (Array.mk l25)) = s30))
  w31)) (R (Ending.returned (Value.bool true)) w9)) → y2 b3 w4) → ∀ (w35 : World), Step w w35 [] [k1] → Calls Proofs.Try.prog (21 : Nat) { toList := [Value.pointer (some d)] }
  w35 fun (e37 : Ending) (w38 : World) => ∃ (n39 : Int), e37 = Ending.returned (Value.int IntKind.i64 n39) ∧ Keep [k1] w35 w38 ∧ bcase
  (!decide (n39 = (mNowL : Int))) (y2 true w38) (Calls Proofs.Try.prog (25 : Nat) { toList := [Value.pointer (some d)] } w38 fun (e40 :
  Ending) (w41 : World) => ∃ (n42 : Int), e40 = Ending.returned (Value.int IntKind.i64 n42) ∧ Keep [k1] w38 w41 ∧ bcase (!decide (n42 =
  mSteps)) (y2 true w41) (Calls Proofs.Try.prog (26 : Nat) { toList := [Value.pointer (some d)] } w41 fun (e43 : Ending) (w44 : World) => ∃
  (p45 : Option Addr), ∃ (k46 : Nat), ∃ (k47 : Nat), e43 = Ending.returned (Value.slice p45 k46 k47) ∧ Keep [k1] w41 w44 ∧ Calls
  Proofs.Try.prog (64 : Nat) { toList := [Value.agg { toList := [Value.slice mSureA mSureL mSureC, Value.slice mNowA mNowL mNowC, Value.slice mFreshA mFreshL mFreshC, Value.int IntKind.i64 mSteps, Value.int IntKind.i64 mLeft] }] }
  w44 fun (e48 : Ending) (w49 : World) => ∃ (p50 : Option Addr), ∃ (k51 : Nat), ∃ (k52 : Nat), e48 = Ending.returned (Value.slice p50 k51
  k52) ∧ Keep [k1] w44 w49 ∧ Calls Proofs.Try.prog (63 : Nat) { toList := [Value.slice p45 k46 k47, Value.slice p50 k51 k52] } w49 fun (e53
  : Ending) (w54 : World) => ∃ (b55 : Bool), e53 = Ending.returned (Value.bool b55) ∧ Keep [k1] w49 w54 ∧ y2 (!b55) w54))

theorem rhizomelaw03_Tells.link {d : Addr} {mSureA : Option Addr} {mSureL mSureC : Nat} {mNowA : Option Addr} {mNowL mNowC : Nat} {mFreshA : Option Addr} {mFreshL mFreshC : Nat} {mSteps : Int} {mLeft : Int} {R : Ending → World → Prop} {w : World} (h : rhizomelaw03_Tells.vc d mSureA mSureL mSureC mNowA mNowL mNowC mFreshA mFreshL mFreshC mSteps mLeft R w) : Calls Go.Proofs.Try.prog 32 #[.pointer (some d), (.agg #[.slice mSureA mSureL mSureC, .slice mNowA mNowL mNowC, .slice mFreshA mFreshL mFreshC, .int .i64 mSteps, .int .i64 mLeft] : Value)] w R :=
  calls_of pf (fn := Go.Proofs.Try.f32) (ann := .s (.n) (.s (.j ⟨[], [], [0], [(28, .l (.b))], []⟩ (.d [0]) (.c (.s (.n) (.n)) (.n))) (.s (.s (.n) (.b (.l ⟨[], [], [0], [(32, .l (.i .i64))], []⟩ (.s (.n) (.s (.c (.n) (.n)) (.s (.b (.s (.n) (.s (.n) (.j ⟨[], [], [0], [(52, .l (.b))], []⟩ (.d [0]) (.c (.s (.n) (.n)) (.n)))))) (.n))))))) (.s (.n) (.n))))) (mp := false) (args := [.a d, .v (.agg #[.slice mSureA mSureL mSureC, .slice mNowA mNowL mNowC, .slice mFreshA mFreshL mFreshC, .int .i64 mSteps, .int .i64 mLeft])]) Go.Proofs.Try.func32 (c := Go.Proofs.Try.f32.body.getD .skip) (by kernel_rfl) (by kernel_rfl) (Eq.mp (by kernel_rfl) h)
theorem rhizomelaw03_Tells.body : BodyOk Go.Proofs.Try.prog 32 := ⟨Go.Proofs.Try.f32, Go.Proofs.Try.func32, by kernel_rfl, pf.ng _ _ Go.Proofs.Try.func32⟩

/-! ### rhizome/rhizomelaw03.Play: function 31 -/
def rhizomelaw03_Play.vc (d : Addr) (mSureA : Option Addr) (mSureL mSureC : Nat) (mNowA : Option Addr) (mNowL mNowC : Nat) (mFreshA : Option
  Addr) (mFreshL mFreshC : Nat) (mSteps : Int) (mLeft : Int) (oKind : Int) (oN : Int) (oCut : Int) (oBA : Option Addr) (oBL oBC : Nat) (oRaw
  : Bool) (oKeepA : Option Addr) (oKeepL oKeepC : Nat) (R : Ending → World → Prop) (w : World) : Prop := ∀ (k1 k2 k3 : Nat) (y4 : Option
  Addr → Int → Int → Option Addr → Nat → Nat → Option Addr → Nat → Nat → Option Addr → Nat → Nat → Int → Int → World → Prop), (∀ (p5 :
  Option Addr) (n6 n7 : Int) (p8 : Option Addr) (k9 k10 : Nat) (p11 : Option Addr) (k12 k13 : Nat) (p14 : Option Addr) (k15 k16 : Nat) (n17
  n18 : Int) (w19 : World), (∀ (w20 : World), Step w19 w20 [k3] [] → R (Ending.returned (Value.tuple { toList := [Value.pointer p5, Value.agg { toList := List.take 5 (List.drop 0 (sets [Value.slice none 0 0, Value.slice none 0 0, Value.slice none 0 0, Value.int IntKind.i64 (0 : Int), Value.int IntKind.i64 (0 : Int)] 0 [Value.slice p8 k9 k10, Value.slice p11 k12 k13, Value.slice p14 k15 k16, Value.int IntKind.i64 n17, Value.int IntKind.i64 n18])) }, Value.bool (decide (n6 = n7))] }))
  w20) → y4 p5 n6 n7 p8 k9 k10 p11 k12 k13 p14 k15 k16 n17 n18 w19) → bcase (decide (oKind = (1 : Int))) (∀ (y24 : Option Addr → Nat → Nat →
  World → Prop), (∀ (p25 : Option Addr) (k26 k27 : Nat) (w28 : World), (∀ (k29 : Nat) (w30 : World), Step w28 w30 [] [k29] → Blk w30 k29
  (reps [Value.int IntKind.u8 (0 : Int)] 0) → ∃ (l33 : List Value), List.length l33 = k26 * 1 ∧ Row w30 p25 l33 ∧ appendP true [] [] [k1,
  k2, k3] w30 (some { block := k29, off := 0 }) 0 0 k26 l33 1 1 [Value.int IntKind.u8 (0 : Int)] fun (w34 : World) (p35 : Option Addr) (k36
  k37 : Nat) => Calls Proofs.Try.prog (23 : Nat) { toList := [Value.pointer (some d), Value.int IntKind.i64 oN, Value.slice p35 k36 k37] }
  w34 fun (e38 : Ending) (w39 : World) => ∃ (n40 : Int), e38 = Ending.returned (Value.int IntKind.i64 n40) ∧ Keep [k1, k2, k3] w34 w39 ∧ ∃
  (l41 : List UInt8), List.length l41 = k26 ∧ (∀ (k42 : Nat), k42 < k26 → ∃ (ad44 : Addr), p25 = some ad44 ∧ World.cell? w39 (Addr.add ad44
  k42) = some (Value.int IntKind.u8 ((UInt8.toNat (List.getD l41 k42 (0 : UInt8))) : Int))) ∧ Calls Proofs.Try.prog (38 : Nat) { toList := [Value.agg { toList := [Value.slice mSureA mSureL mSureC, Value.slice mNowA mNowL mNowC, Value.slice mFreshA mFreshL mFreshC, Value.int IntKind.i64 mSteps, Value.int IntKind.i64 mLeft] }, Value.int IntKind.i64 oN, Value.string (ByteArray.mk (Array.mk l41))] }
  w39 fun (e45 : Ending) (w46 : World) => ∃ (p47 : Option Addr), ∃ (k48 : Nat), ∃ (k49 : Nat), ∃ (p50 : Option Addr), ∃ (k51 : Nat), ∃ (k52
  : Nat), ∃ (p53 : Option Addr), ∃ (k54 : Nat), ∃ (k55 : Nat), ∃ (n56 : Int), ∃ (n57 : Int), ∃ (n58 : Int), e45 = Ending.returned
  (Value.tuple { toList := [Value.agg { toList := [Value.slice p47 k48 k49, Value.slice p50 k51 k52, Value.slice p53 k54 k55, Value.int IntKind.i64 n56, Value.int IntKind.i64 n57] }, Value.int IntKind.i64 n58] })
  ∧ Keep [k1, k2, k3] w39 w46 ∧ ∃ (y59 : Nat → Int → World → Prop), ∃ (k60 : Nat), (∀ (w61 : World), Step w46 w61 [k1] [] → y59 k60 (0 :
  Int) w61) ∧ ∀ (k63 : Nat) (n64 : Int) (w65 : World), y59 k63 n64 w65 → bcase (decide (n64 < (k36 : Int))) (∃ (ad67 : Addr), p35 = some
  ad67 ∧ ((0 : Int) ≤ n64 ∧ n64 < (k36 : Int)) ∧ ∃ (n68 : Int), World.cell? w65 (Addr.add ad67 (Int.toNat n64 * 1)) = some (Value.int
  IntKind.u8 n68) ∧ ∃ (ad69 : Addr), p25 = some ad69 ∧ ((0 : Int) ≤ n64 ∧ n64 < (k26 : Int)) ∧ ∃ (n70 : Int), World.cell? w65 (Addr.add ad69
  (Int.toNat n64 * 1)) = some (Value.int IntKind.u8 n70) ∧ bcase (!decide (n68 = n70)) (∀ (w71 : World), Step w65 w71 [k3] [] → R
  (Ending.returned (Value.tuple { toList := [Value.pointer (some d), Value.agg { toList := List.take 5 (List.drop 0 (sets [Value.slice none 0 0, Value.slice none 0 0, Value.slice none 0 0, Value.int IntKind.i64 (0 : Int), Value.int IntKind.i64 (0 : Int)] 0 (List.take 5 (List.drop 0 (sets [Value.slice mSureA mSureL mSureC, Value.slice mNowA mNowL mNowC, Value.slice mFreshA mFreshL mFreshC, Value.int IntKind.i64 mSteps, Value.int IntKind.i64 mLeft] 0 [Value.slice p47 k48 k49, Value.slice p50 k51 k52, Value.slice p53 k54 k55, Value.int IntKind.i64 n56, Value.int IntKind.i64 n57]))))) }, Value.bool false] }))
  w71) (∃ (ad73 : Addr), p35 = some ad73 ∧ ((0 : Int) ≤ n64 ∧ n64 < (k36 : Int)) ∧ ∃ (n74 : Int), World.cell? w65 (Addr.add ad73 (Int.toNat
  n64 * 1)) = some (Value.int IntKind.u8 n74) ∧ ∃ (ad75 : Addr), p35 = some ad75 ∧ ((0 : Int) ≤ n64 ∧ n64 < (k36 : Int)) ∧ ∀ (w76 : World),
  Step w65 w76 [] [] → ∃ (l78 : List Value), Blk w76 (Addr.block (Addr.add ad75 (Int.toNat n64 * 1))) l78 ∧ Addr.spot (Addr.add ad75
  (Int.toNat n64 * 1)) = none ∧ Addr.off (Addr.add ad75 (Int.toNat n64 * 1)) + List.length [Value.int IntKind.u8 (IntKind.wrap IntKind.u8
  (n74 + (1 : Int)))] ≤ List.length l78 ∧ ¬Addr.block (Addr.add ad75 (Int.toNat n64 * 1)) ∈ [k1, k3] ∧ ∀ (w79 : World), Upd w76 w79
  (Addr.block (Addr.add ad75 (Int.toNat n64 * 1))) (sets l78 (Addr.off (Addr.add ad75 (Int.toNat n64 * 1))) [Value.int IntKind.u8
  (IntKind.wrap IntKind.u8 (n74 + (1 : Int)))]) → ∃ (k81 : Nat), k81 < k63 ∧ y59 k81 (IntKind.wrap IntKind.i64 (n64 + (1 : Int))) w79)) (y4
  (some d) n40 n58 p47 k48 k49 p50 k51 k52 p53 k54 k55 n56 n57 w65)) → y24 p25 k26 k27 w28) → bcase (!oRaw) (∀ (w84 : World), Step w w84 []
  [k3, k2, k1] → Calls Proofs.Try.prog (24 : Nat) { toList := [Value.slice oBA oBL oBC] } w84 fun (e86 : Ending) (w87 : World) => ∃ (p88 :
  Option Addr), ∃ (k89 : Nat), ∃ (k90 : Nat), e86 = Ending.returned (Value.slice p88 k89 k90) ∧ Keep [k1, k2, k3] w84 w87 ∧ y24 p88 k89 k90
  w87) (∀ (w91 : World), Step w w91 [] [k3, k2, k1] → y24 oBA oBL oBC w91)) (bcase (decide (oKind = (2 : Int))) (∀ (w93 : World), Step w w93
  [] [k3, k2, k1] → Calls Proofs.Try.prog (27 : Nat) { toList := [Value.pointer (some d)] } w93 fun (e95 : Ending) (w96 : World) => ∃ (n97 :
  Int), e95 = Ending.returned (Value.int IntKind.i64 n97) ∧ Keep [k1, k2, k3] w93 w96 ∧ Calls Proofs.Try.prog (62 : Nat) { toList := [Value.agg { toList := [Value.slice mSureA mSureL mSureC, Value.slice mNowA mNowL mNowC, Value.slice mFreshA mFreshL mFreshC, Value.int IntKind.i64 mSteps, Value.int IntKind.i64 mLeft] }] }
  w96 fun (e98 : Ending) (w99 : World) => ∃ (p100 : Option Addr), ∃ (k101 : Nat), ∃ (k102 : Nat), ∃ (p103 : Option Addr), ∃ (k104 : Nat), ∃
  (k105 : Nat), ∃ (p106 : Option Addr), ∃ (k107 : Nat), ∃ (k108 : Nat), ∃ (n109 : Int), ∃ (n110 : Int), ∃ (n111 : Int), e98 =
  Ending.returned (Value.tuple { toList := [Value.agg { toList := [Value.slice p100 k101 k102, Value.slice p103 k104 k105, Value.slice p106 k107 k108, Value.int IntKind.i64 n109, Value.int IntKind.i64 n110] }, Value.int IntKind.i64 n111] })
  ∧ Keep [k1, k2, k3] w96 w99 ∧ ∀ (w112 : World), Step w99 w112 [k1] [] → y4 (some d) n97 n111 p100 k101 k102 p103 k104 k105 p106 k107 k108
  n109 n110 w112) (bcase (decide (oKind = (3 : Int))) (∀ (w114 : World), Step w w114 [] [k3, k2, k1] → Calls Proofs.Try.prog (29 : Nat) { toList := [Value.pointer (some d), Value.int IntKind.i64 oN] }
  w114 fun (e116 : Ending) (w117 : World) => ∃ (n118 : Int), e116 = Ending.returned (Value.int IntKind.i64 n118) ∧ Keep [k1, k2, k3] w114
  w117 ∧ Calls Proofs.Try.prog (45 : Nat) { toList := [Value.agg { toList := [Value.slice mSureA mSureL mSureC, Value.slice mNowA mNowL mNowC, Value.slice mFreshA mFreshL mFreshC, Value.int IntKind.i64 mSteps, Value.int IntKind.i64 mLeft] }, Value.int IntKind.i64 oN] }
  w117 fun (e119 : Ending) (w120 : World) => ∃ (p121 : Option Addr), ∃ (k122 : Nat), ∃ (k123 : Nat), ∃ (p124 : Option Addr), ∃ (k125 : Nat),
  ∃ (k126 : Nat), ∃ (p127 : Option Addr), ∃ (k128 : Nat), ∃ (k129 : Nat), ∃ (n130 : Int), ∃ (n131 : Int), ∃ (n132 : Int), e119 =
  Ending.returned (Value.tuple { toList := [Value.agg { toList := [Value.slice p121 k122 k123, Value.slice p124 k125 k126, Value.slice p127 k128 k129, Value.int IntKind.i64 n130, Value.int IntKind.i64 n131] }, Value.int IntKind.i64 n132] })
  ∧ Keep [k1, k2, k3] w117 w120 ∧ ∀ (w133 : World), Step w120 w133 [k1] [] → y4 (some d) n118 n132 p121 k122 k123 p124 k125 k126 p127 k128
  k129 n130 n131 w133) (bcase (decide (oKind = (4 : Int))) (∀ (k135 : Nat) (w136 : World), Step w w136 [] [k135, k3, k2, k1] → Blk w136 k135
  (reps [Value.bool false] 0) → ∃ (l139 : List Value), List.length l139 = oKeepL * 1 ∧ Row w136 oKeepA l139 ∧ appendP true [] [] [k1, k2,
  k3] w136 (some { block := k135, off := 0 }) 0 0 oKeepL l139 1 1 [Value.bool false] fun (w140 : World) (p141 : Option Addr) (k142 k143 :
  Nat) => Calls Proofs.Try.prog (28 : Nat) { toList := [Value.pointer (some d), Value.slice p141 k142 k143, Value.int IntKind.i64 oN, Value.int IntKind.i64 oCut] }
  w140 fun (e144 : Ending) (w145 : World) => ∃ (p146 : Option Addr), e144 = Ending.returned (Value.pointer p146) ∧ Keep [k1, k2, k3] w140
  w145 ∧ ∀ (y147 : Bool → World → Prop), (∀ (b148 : Bool) (w149 : World), bcase b148 (∀ (w150 : World), Step w149 w150 [k3] [] → R
  (Ending.returned (Value.tuple { toList := [Value.pointer (some d), Value.agg { toList := List.take 5 (List.drop 0 (sets [Value.slice none 0 0, Value.slice none 0 0, Value.slice none 0 0, Value.int IntKind.i64 (0 : Int), Value.int IntKind.i64 (0 : Int)] 0 [Value.slice mSureA mSureL mSureC, Value.slice mNowA mNowL mNowC, Value.slice mFreshA mFreshL mFreshC, Value.int IntKind.i64 mSteps, Value.int IntKind.i64 mLeft])) }, Value.bool false] }))
  w150) (∀ (k152 : Nat) (w153 : World), Step w149 w153 [] [k152] → Blk w153 k152 (spl (reps [Value.int IntKind.u8 (0 : Int)] 1) 0 [Value.int
  IntKind.u8 (77 : Int)]) → Calls Proofs.Try.prog (24 : Nat) { toList := [Value.slice (some { block := k152, off := 0 }) 1 1] } w153 fun
  (e156 : Ending) (w157 : World) => ∃ (p158 : Option Addr), ∃ (k159 : Nat), ∃ (k160 : Nat), e156 = Ending.returned (Value.slice p158 k159
  k160) ∧ Keep [k1, k2, k3] w153 w157 ∧ Calls Proofs.Try.prog (23 : Nat) { toList := [Value.pointer (some d), Value.int IntKind.i64 (0 : Int), Value.slice p158 k159 k160] }
  w157 fun (e161 : Ending) (w162 : World) => ∃ (n163 : Int), e161 = Ending.returned (Value.int IntKind.i64 n163) ∧ Keep [k1, k2, k3] w157
  w162 ∧ Calls Proofs.Try.prog (46 : Nat) { toList := [Value.agg { toList := [Value.slice mSureA mSureL mSureC, Value.slice mNowA mNowL mNowC, Value.slice mFreshA mFreshL mFreshC, Value.int IntKind.i64 mSteps, Value.int IntKind.i64 mLeft] }, Value.slice oKeepA oKeepL oKeepC, Value.int IntKind.i64 oN, Value.int IntKind.i64 oCut] }
  w162 fun (e164 : Ending) (w165 : World) => ∃ (p166 : Option Addr), ∃ (k167 : Nat), ∃ (k168 : Nat), ∃ (p169 : Option Addr), ∃ (k170 : Nat),
  ∃ (k171 : Nat), ∃ (p172 : Option Addr), ∃ (k173 : Nat), ∃ (k174 : Nat), ∃ (n175 : Int), ∃ (n176 : Int), e164 = Ending.returned (Value.agg
  { toList := [Value.slice p166 k167 k168, Value.slice p169 k170 k171, Value.slice p172 k173 k174, Value.int IntKind.i64 n175, Value.int IntKind.i64 n176] })
  ∧ Keep [k1, k2, k3] w162 w165 ∧ ∀ (w177 : World), Step w165 w177 [k1] [] → y4 p146 (0 : Int) (0 : Int) p166 k167 k168 p169 k170 k171 p172
  k173 k174 n175 n176 w177) → y147 b148 w149) → bcase (Option.isNone p146) (y147 true w145) (Calls Proofs.Try.prog (32 : Nat) { toList := [Value.pointer (some d), Value.agg { toList := [Value.slice mSureA mSureL mSureC, Value.slice mNowA mNowL mNowC, Value.slice mFreshA mFreshL mFreshC, Value.int IntKind.i64 mSteps, Value.int IntKind.i64 mLeft] }] }
  w145 fun (e181 : Ending) (w182 : World) => ∃ (b183 : Bool), e181 = Ending.returned (Value.bool b183) ∧ Keep [k1, k2, k3] w145 w182 ∧ y147
  (!b183) w182)) (∀ (w184 : World), Step w w184 [] [k3, k2, k1] → y4 (some d) (0 : Int) (0 : Int) mSureA mSureL mSureC mNowA mNowL mNowC
  mFreshA mFreshL mFreshC mSteps mLeft w184))))

theorem rhizomelaw03_Play.link {d : Addr} {mSureA : Option Addr} {mSureL mSureC : Nat} {mNowA : Option Addr} {mNowL mNowC : Nat} {mFreshA : Option Addr} {mFreshL mFreshC : Nat} {mSteps : Int} {mLeft : Int} {oKind : Int} {oN : Int} {oCut : Int} {oBA : Option Addr} {oBL oBC : Nat} {oRaw : Bool} {oKeepA : Option Addr} {oKeepL oKeepC : Nat} {R : Ending → World → Prop} {w : World} (h : rhizomelaw03_Play.vc d mSureA mSureL mSureC mNowA mNowL mNowC mFreshA mFreshL mFreshC mSteps mLeft oKind oN oCut oBA oBL oBC oRaw oKeepA oKeepL oKeepC R w) : Calls Go.Proofs.Try.prog 31 #[.pointer (some d), (.agg #[.slice mSureA mSureL mSureC, .slice mNowA mNowL mNowC, .slice mFreshA mFreshL mFreshC, .int .i64 mSteps, .int .i64 mLeft] : Value), (.agg #[.int .i64 oKind, .int .i64 oN, .int .i64 oCut, .slice oBA oBL oBC, .bool oRaw, .slice oKeepA oKeepL oKeepC] : Value)] w R :=
  calls_of pf (fn := Go.Proofs.Try.f31) (ann := .s (.n) (.s (.n) (.j ⟨[], [], [2], [(0, .l (.p)), (9, .l (.i .i64)), (10, .l (.i .i64))], [(0, [.sl, .sl, .sl, .i .i64, .i .i64])]⟩ (.s (.n) (.b (.s (.n) (.c (.s (.n) (.j ⟨[], [], [0, 1, 2], [(11, .l (.sl))], []⟩ (.s (.n) (.c (.n) (.n))) (.s (.n) (.s (.n) (.s (.n) (.s (.n) (.b (.l ⟨[], [], [0, 2], [(46, .l (.i .i64))], []⟩ (.s (.n) (.s (.c (.n) (.n)) (.s (.b (.s (.n) (.s (.s (.d [0, 2]) (.c (.s (.d [0]) (.n)) (.n))) (.n)))) (.n)))))))))))) (.s (.n) (.c (.s (.n) (.n)) (.s (.n) (.c (.s (.n) (.n)) (.s (.n) (.c (.s (.d [0, 1, 2]) (.s (.j ⟨[], [], [0, 1, 2], [(108, .l (.b))], []⟩ (.n) (.c (.s (.d [0, 1]) (.n)) (.n))) (.s (.n) (.n)))) (.n))))))))))) (.s (.d [0]) (.n))))) (mp := false) (args := [.a d, .v (.agg #[.slice mSureA mSureL mSureC, .slice mNowA mNowL mNowC, .slice mFreshA mFreshL mFreshC, .int .i64 mSteps, .int .i64 mLeft]), .v (.agg #[.int .i64 oKind, .int .i64 oN, .int .i64 oCut, .slice oBA oBL oBC, .bool oRaw, .slice oKeepA oKeepL oKeepC])]) Go.Proofs.Try.func31 (c := Go.Proofs.Try.f31.body.getD .skip) (by kernel_rfl) (by kernel_rfl) (Eq.mp (by kernel_rfl) h)
theorem rhizomelaw03_Play.body : BodyOk Go.Proofs.Try.prog 31 := ⟨Go.Proofs.Try.f31, Go.Proofs.Try.func31, by kernel_rfl, pf.ng _ _ Go.Proofs.Try.func31⟩

/-! ### rhizome/rhizomelaw03.awake: function 19 -/
def rhizomelaw03_awake.vc (R : Ending → World → Prop) (w : World) : Prop := Calls Proofs.Try.prog (20 : Nat) { toList := [Value.int IntKind.i64 (2 : Int)] }
  w fun (e1 : Ending) (w2 : World) => ∃ (p3 : Option Addr), ∃ (n4 : Int), e1 = Ending.returned (Value.tuple { toList := [Value.pointer p3, Value.int IntKind.i64 n4] })
  ∧ ∀ (y5 : Bool → World → Prop), (∀ (b6 : Bool) (w7 : World), bcase b6 (R (Ending.returned (Value.bool false)) w7) (∀ (k8 : Nat) (w9 :
  World), Step w7 w9 [] [k8] → Blk w9 k8 (spl (spl (reps [Value.bool false] 2) 0 [Value.bool false]) 1 [Value.bool true]) → Calls
  Proofs.Try.prog (28 : Nat) { toList := [Value.pointer p3, Value.slice (some { block := k8, off := 0 }) 2 2, Value.int IntKind.i64 (0 : Int), Value.int IntKind.i64 (2 : Int)] }
  w9 fun (e12 : Ending) (w13 : World) => ∃ (p14 : Option Addr), e12 = Ending.returned (Value.pointer p14) ∧ bcase (Option.isNone p14) (R
  (Ending.returned (Value.bool false)) w13) (Calls Proofs.Try.prog (22 : Nat) { toList := [Value.pointer p14, Value.int IntKind.i64 (0 : Int)] }
  w13 fun (e15 : Ending) (w16 : World) => ∃ (p17 : Option Addr), ∃ (k18 : Nat), ∃ (k19 : Nat), ∃ (n20 : Int), e15 = Ending.returned
  (Value.tuple { toList := [Value.slice p17 k18 k19, Value.int IntKind.i64 n20] }) ∧ Calls Proofs.Try.prog (22 : Nat) { toList := [Value.pointer p14, Value.int IntKind.i64 (1 : Int)] }
  w16 fun (e21 : Ending) (w22 : World) => ∃ (p23 : Option Addr), ∃ (k24 : Nat), ∃ (k25 : Nat), ∃ (n26 : Int), e21 = Ending.returned
  (Value.tuple { toList := [Value.slice p23 k24 k25, Value.int IntKind.i64 n26] }) ∧ ∀ (y27 : Bool → World → Prop), (∀ (b28 : Bool) (w29 :
  World), R (Ending.returned (Value.bool b28)) w29 → y27 b28 w29) → bcase (decide ((k18 : Int) = (64 : Int))) (bcase (decide ((k24 : Int) =
  (64 : Int))) (∃ (ad32 : Addr), p17 = some ad32 ∧ ((0 : Int) ≤ (1 : Int) ∧ (1 : Int) < (k18 : Int)) ∧ ∃ (n33 : Int), World.cell? w22
  (Addr.add ad32 1) = some (Value.int IntKind.u8 n33) ∧ bcase (decide (n33 = (1 : Int))) (∃ (ad34 : Addr), p17 = some ad34 ∧ ((0 : Int) ≤ (2
  : Int) ∧ (2 : Int) < (k18 : Int)) ∧ ∃ (n35 : Int), World.cell? w22 (Addr.add ad34 2) = some (Value.int IntKind.u8 n35) ∧ bcase (decide
  (n35 = (0 : Int))) (∃ (ad36 : Addr), p23 = some ad36 ∧ ((0 : Int) ≤ (63 : Int) ∧ (63 : Int) < (k24 : Int)) ∧ ∃ (n37 : Int), World.cell?
  w22 (Addr.add ad36 63) = some (Value.int IntKind.u8 n37) ∧ y27 (decide (n37 = (1 : Int))) w22) (y27 false w22)) (y27 false w22)) (y27
  false w22)) (y27 false w22))) → y5 b6 w7) → bcase (!decide (n4 = (0 : Int))) (y5 true w2) (bcase (Option.isNone p3) (y5 true w2) (∀ (k40 :
  Nat) (w41 : World), Step w2 w41 [] [k40] → Blk w41 k40 (spl (reps [Value.int IntKind.u8 (0 : Int)] 1) 0 [Value.int IntKind.u8 (1 : Int)])
  → Calls Proofs.Try.prog (24 : Nat) { toList := [Value.slice (some { block := k40, off := 0 }) 1 1] } w41 fun (e44 : Ending) (w45 : World)
  => ∃ (p46 : Option Addr), ∃ (k47 : Nat), ∃ (k48 : Nat), e44 = Ending.returned (Value.slice p46 k47 k48) ∧ Calls Proofs.Try.prog (23 : Nat)
  { toList := [Value.pointer p3, Value.int IntKind.i64 (1 : Int), Value.slice p46 k47 k48] } w45 fun (e49 : Ending) (w50 : World) => ∃ (n51
  : Int), e49 = Ending.returned (Value.int IntKind.i64 n51) ∧ bcase (!decide (n51 = (0 : Int))) (y5 true w50) (∀ (k52 : Nat) (w53 : World),
  Step w50 w53 [] [k52] → Blk w53 k52 (spl (reps [Value.int IntKind.u8 (0 : Int)] 1) 0 [Value.int IntKind.u8 (1 : Int)]) → Calls
  Proofs.Try.prog (24 : Nat) { toList := [Value.slice (some { block := k52, off := 0 }) 1 1] } w53 fun (e56 : Ending) (w57 : World) => ∃
  (p58 : Option Addr), ∃ (k59 : Nat), ∃ (k60 : Nat), e56 = Ending.returned (Value.slice p58 k59 k60) ∧ Calls Proofs.Try.prog (23 : Nat) { toList := [Value.pointer p3, Value.int IntKind.i64 (0 : Int), Value.slice p58 k59 k60] }
  w57 fun (e61 : Ending) (w62 : World) => ∃ (n63 : Int), e61 = Ending.returned (Value.int IntKind.i64 n63) ∧ y5 (!decide (n63 = (0 : Int)))
  w62)))

theorem rhizomelaw03_awake.link {_u : Unit} {R : Ending → World → Prop} {w : World} (h : rhizomelaw03_awake.vc  R w) : Calls Go.Proofs.Try.prog 19 #[] w R :=
  calls_of pf (fn := Go.Proofs.Try.f19) (ann := .s (.n) (.s (.n) (.s (.j ⟨[], [], [], [(31, .l (.b))], []⟩ (.n) (.c (.s (.n) (.n)) (.n))) (.s (.n) (.s (.s (.n) (.c (.s (.n) (.n)) (.n))) (.s (.n) (.s (.n) (.j ⟨[], [], [], [(0, .l (.b))], []⟩ (.n) (.n))))))))) (mp := false) (args := []) Go.Proofs.Try.func19 (c := Go.Proofs.Try.f19.body.getD .skip) (by kernel_rfl) (by kernel_rfl) (Eq.mp (by kernel_rfl) h)
theorem rhizomelaw03_awake.body : BodyOk Go.Proofs.Try.prog 19 := ⟨Go.Proofs.Try.f19, Go.Proofs.Try.func19, by kernel_rfl, pf.ng _ _ Go.Proofs.Try.func19⟩

end Go.Proofs.Ytcaamecdhbgknaa.VC
