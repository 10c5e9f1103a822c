/- What is to be shown of functions' texts, printed by a program of this session's repo; that it gives the functions' contracts is checked by the kernel. -/
import Derived.Test.YtalegpdnhkopmaaDoorProg
import Derived.Test.YtalegpdnhkopmaaDoorPf
namespace Go.Proofs.YtalegpdnhkopmaaDoor.VC
open Go Go.V
set_option maxRecDepth 1000000
set_option linter.unusedVariables false

/-! ### rhizome/key.take: function 55 -/
def key_take.vc (bA : Option Addr) (bL bC : Nat) (R : Ending → World → Prop) (w : World) : Prop := ∀ (k1 : Nat) (y2 : Bool → World → Prop),
  (∀ (b3 : Bool) (w4 : World), bcase b3 (((0 : Int) ≤ (1 : Int) ∧ (1 : Int) ≤ (9 : Int) ∧ (9 : Int) ≤ (bC : Int)) ∧ ∃ (y5 : Nat → Int → Int
  → World → Prop), ∃ (k6 : Nat), y5 k6 (0 : Int) (0 : Int) w4 ∧ ∀ (k7 : Nat) (n8 n9 : Int) (w10 : World), y5 k7 n8 n9 w10 → bcase (decide
  (n9 < ((8 : Nat) : Int))) (∃ (ad12 : Addr), subA bA 1 bC 1 = some ad12 ∧ ((0 : Int) ≤ n9 ∧ n9 < ((8 : Nat) : Int)) ∧ ∃ (n13 : Int),
  World.cell? w10 (Addr.add ad12 (Int.toNat n9 * 1)) = some (Value.int IntKind.u8 n13) ∧ (0 : Int) ≤ (8 : Int) ∧ ∃ (k14 : Nat), k14 < k7 ∧
  y5 k14 (bits BinOp.or IntKind.u64 (IntKind.wrap IntKind.u64 (n8 * (2 : Int) ^ 8)) (IntKind.wrap IntKind.u64 n13)) (IntKind.wrap
  IntKind.i64 (n9 + (1 : Int))) w10) (((0 : Int) ≤ (9 : Int) ∧ (9 : Int) ≤ (bL : Int) ∧ (bL : Int) ≤ (bC : Int)) ∧ ∀ (w15 : World), Step w10
  w15 [] [] → Calls Proofs.Tryd.prog (20 : Nat) { toList := [Value.int IntKind.i64 (IntKind.wrap IntKind.i64 (bits BinOp.xor IntKind.u64 n8 (9223372036854775808 : Int)))] }
  w15 fun (e17 : Ending) (w18 : World) => ∃ (b19 : Bool), ∃ (s20 : ByteArray), ∃ (n21 : Int), e17 = Ending.returned (Value.agg { toList := [Value.bool b19, Value.string s20, Value.int IntKind.i64 n21] })
  ∧ Keep [k1] w15 w18 ∧ ∀ (w22 : World), Step w18 w22 [k1] [] → R (Ending.returned (Value.tuple { toList := [Value.agg { toList := List.take 3 (List.drop 0 (sets [Value.bool false, Value.string { data := { toList := [] } }, Value.int IntKind.i64 (0 : Int)] 0 [Value.bool b19, Value.string s20, Value.int IntKind.i64 n21])) }, Value.slice (subA bA 9 bC 1) (Int.toNat (bL : Int) - 9) (bC - 9), Value.bool true] }))
  w22)) (∃ (ad24 : Addr), bA = some ad24 ∧ ((0 : Int) ≤ (0 : Int) ∧ (0 : Int) < (bL : Int)) ∧ ∃ (n25 : Int), World.cell? w4 (Addr.add ad24
  0) = some (Value.int IntKind.u8 n25) ∧ bcase (!decide (n25 = (2 : Int))) (∀ (w26 : World), Step w4 w26 [k1] [] → R (Ending.returned
  (Value.tuple { toList := [Value.agg { toList := List.take 3 (List.drop 0 (sets [Value.bool false, Value.string { data := { toList := [] } }, Value.int IntKind.i64 (0 : Int)] 0 [Value.bool false, Value.string { data := { toList := [] } }, Value.int IntKind.i64 (0 : Int)])) }, Value.slice none 0 0, Value.bool false] }))
  w26) (((0 : Int) ≤ (1 : Int) ∧ (1 : Int) ≤ (bL : Int) ∧ (bL : Int) ≤ (bC : Int)) ∧ ∃ (y28 : Nat → Option Addr → Nat → Nat → Option Addr →
  Nat → Nat → World → Prop), ∃ (k29 : Nat), y28 k29 none 0 0 (subA bA 1 bC 1) (Int.toNat (bL : Int) - 1) (bC - 1) w4 ∧ ∀ (k30 : Nat) (p31 :
  Option Addr) (k32 k33 : Nat) (p34 : Option Addr) (k35 k36 : Nat) (w37 : World), y28 k30 p31 k32 k33 p34 k35 k36 w37 → Calls
  Proofs.Tryd.prog (104 : Nat) { toList := [Value.slice p34 k35 k36, Value.int IntKind.u8 (0 : Int)] } w37 fun (e39 : Ending) (w40 : World)
  => ∃ (n41 : Int), e39 = Ending.returned (Value.int IntKind.i64 n41) ∧ Keep [k1] w37 w40 ∧ ∀ (y42 : Bool → World → Prop), (∀ (b43 : Bool)
  (w44 : World), bcase b43 (∀ (w45 : World), Step w44 w45 [k1] [] → R (Ending.returned (Value.tuple { toList := [Value.agg { toList := List.take 3 (List.drop 0 (sets [Value.bool false, Value.string { data := { toList := [] } }, Value.int IntKind.i64 (0 : Int)] 0 [Value.bool false, Value.string { data := { toList := [] } }, Value.int IntKind.i64 (0 : Int)])) }, Value.slice none 0 0, Value.bool false] }))
  w45) (((0 : Int) ≤ (0 : Int) ∧ (0 : Int) ≤ n41 ∧ n41 ≤ (k36 : Int)) ∧ ∃ (l47 : List Value), List.length l47 = (Int.toNat n41 - 0) * 1 ∧
  Row w44 (subA p34 0 k36 1) l47 ∧ appendP true [] [] [k1] w44 p31 k32 k33 (Int.toNat n41 - 0) l47 1 1 [Value.int IntKind.u8 (0 : Int)] fun
  (w48 : World) (p49 : Option Addr) (k50 k51 : Nat) => ∃ (ad52 : Addr), p34 = some ad52 ∧ ((0 : Int) ≤ IntKind.wrap IntKind.i64 (n41 + (1 :
  Int)) ∧ IntKind.wrap IntKind.i64 (n41 + (1 : Int)) < (k35 : Int)) ∧ ∃ (n53 : Int), World.cell? w48 (Addr.add ad52 (Int.toNat (IntKind.wrap
  IntKind.i64 (n41 + (1 : Int))) * 1)) = some (Value.int IntKind.u8 n53) ∧ bcase (decide (n53 = (1 : Int))) (∃ (l54 : List UInt8),
  List.length l54 = k50 ∧ (∀ (k55 : Nat), k55 < k50 → ∃ (ad57 : Addr), p49 = some ad57 ∧ World.cell? w48 (Addr.add ad57 k55) = some
  (Value.int IntKind.u8 ((UInt8.toNat (List.getD l54 k55 (0 : UInt8))) : Int))) ∧ ((0 : Int) ≤ IntKind.wrap IntKind.i64 (n41 + (2 : Int)) ∧
  IntKind.wrap IntKind.i64 (n41 + (2 : Int)) ≤ (k35 : Int) ∧ (k35 : Int) ≤ (k36 : Int)) ∧ ∀ (w58 : World), Step w48 w58 [] [] → Calls
  Proofs.Tryd.prog (52 : Nat) { toList := [Value.string (ByteArray.mk (Array.mk l54))] } w58 fun (e60 : Ending) (w61 : World) => ∃ (b62 :
  Bool), ∃ (s63 : ByteArray), ∃ (n64 : Int), e60 = Ending.returned (Value.agg { toList := [Value.bool b62, Value.string s63, Value.int IntKind.i64 n64] })
  ∧ Keep [k1] w58 w61 ∧ ∀ (w65 : World), Step w61 w65 [k1] [] → R (Ending.returned (Value.tuple { toList := [Value.agg { toList := List.take 3 (List.drop 0 (sets [Value.bool false, Value.string { data := { toList := [] } }, Value.int IntKind.i64 (0 : Int)] 0 [Value.bool b62, Value.string s63, Value.int IntKind.i64 n64])) }, Value.slice (subA p34 (Int.toNat (IntKind.wrap IntKind.i64 (n41 + (2 : Int)))) k36 1) (Int.toNat (k35 : Int) - Int.toNat (IntKind.wrap IntKind.i64 (n41 + (2 : Int)))) (k36 - Int.toNat (IntKind.wrap IntKind.i64 (n41 + (2 : Int)))), Value.bool true] }))
  w65) (∀ (k67 : Nat), appendP false [] [k67] [k1, k67] w48 p49 k50 k51 1 (spl (reps [Value.int IntKind.u8 (0 : Int)] 1) 0 [Value.int
  IntKind.u8 (0 : Int)]) 1 1 [Value.int IntKind.u8 (0 : Int)] fun (w68 : World) (p69 : Option Addr) (k70 k71 : Nat) => ((0 : Int) ≤
  IntKind.wrap IntKind.i64 (n41 + (2 : Int)) ∧ IntKind.wrap IntKind.i64 (n41 + (2 : Int)) ≤ (k35 : Int) ∧ (k35 : Int) ≤ (k36 : Int)) ∧ ∃
  (k72 : Nat), k72 < k30 ∧ y28 k72 p69 k70 k71 (subA p34 (Int.toNat (IntKind.wrap IntKind.i64 (n41 + (2 : Int)))) k36 1) (Int.toNat (k35 :
  Int) - Int.toNat (IntKind.wrap IntKind.i64 (n41 + (2 : Int)))) (k36 - Int.toNat (IntKind.wrap IntKind.i64 (n41 + (2 : Int)))) w68)) → y42
  b43 w44) → bcase (decide (n41 < (0 : Int))) (y42 true w40) (bcase (decide (IntKind.wrap IntKind.i64 (n41 + (1 : Int)) = (k35 : Int))) (y42
  true w40) (∃ (ad75 : Addr), p34 = some ad75 ∧ ((0 : Int) ≤ IntKind.wrap IntKind.i64 (n41 + (1 : Int)) ∧ IntKind.wrap IntKind.i64 (n41 + (1
  : Int)) < (k35 : Int)) ∧ ∃ (n76 : Int), World.cell? w40 (Addr.add ad75 (Int.toNat (IntKind.wrap IntKind.i64 (n41 + (1 : Int))) * 1)) =
  some (Value.int IntKind.u8 n76) ∧ bcase (!decide (n76 = (1 : Int))) (∃ (ad77 : Addr), p34 = some ad77 ∧ ((0 : Int) ≤ IntKind.wrap
  IntKind.i64 (n41 + (1 : Int)) ∧ IntKind.wrap IntKind.i64 (n41 + (1 : Int)) < (k35 : Int)) ∧ ∃ (n78 : Int), World.cell? w40 (Addr.add ad77
  (Int.toNat (IntKind.wrap IntKind.i64 (n41 + (1 : Int))) * 1)) = some (Value.int IntKind.u8 n78) ∧ y42 (!decide (n78 = (255 : Int))) w40)
  (y42 false w40))))) → y2 b3 w4) → ∃ (ad81 : Addr), bA = some ad81 ∧ ((0 : Int) ≤ (0 : Int) ∧ (0 : Int) < (bL : Int)) ∧ ∃ (n82 : Int),
  World.cell? w (Addr.add ad81 0) = some (Value.int IntKind.u8 n82) ∧ bcase (decide (n82 = (1 : Int))) (∀ (w83 : World), Step w w83 [] [k1]
  → y2 (decide ((9 : Int) ≤ (bL : Int))) w83) (∀ (w85 : World), Step w w85 [] [k1] → y2 false w85)

theorem key_take.link {bA : Option Addr} {bL bC : Nat} {R : Ending → World → Prop} {w : World} (h : key_take.vc bA bL bC R w) : Calls Go.Proofs.Tryd.prog 55 #[.slice bA bL bC] w R :=
  calls_of pf (fn := Go.Proofs.Tryd.f55) (ann := .s (.n) (.s (.j ⟨[], [], [0], [(19, .l (.b))], []⟩ (.n) (.c (.s (.n) (.s (.s (.n) (.b (.l ⟨[], [], [0], [(5, .l (.i .u64)), (23, .l (.i .i64))], []⟩ (.s (.n) (.s (.c (.n) (.n)) (.s (.b (.s (.n) (.n))) (.n))))))) (.s (.n) (.n)))) (.n))) (.s (.s (.n) (.c (.s (.n) (.n)) (.n))) (.s (.n) (.s (.n) (.b (.l ⟨[], [], [0], [(8, .l (.sl)), (9, .l (.sl))], []⟩ (.b (.s (.n) (.s (.j ⟨[], [], [0], [(72, .l (.b))], []⟩ (.n) (.c (.s (.n) (.n)) (.n))) (.s (.n) (.s (.s (.n) (.c (.s (.n) (.n)) (.n))) (.s (.n) (.n)))))))))))))) (mp := false) (args := [.v (.slice bA bL bC)]) Go.Proofs.Tryd.func55 (c := Go.Proofs.Tryd.f55.body.getD .skip) (by kernel_rfl) (by kernel_rfl) (Eq.mp (by kernel_rfl) h)
theorem key_take.body : BodyOk Go.Proofs.Tryd.prog 55 := ⟨Go.Proofs.Tryd.f55, Go.Proofs.Tryd.func55, by kernel_rfl, pf.ng _ _ Go.Proofs.Tryd.func55⟩

/-! ### rhizome/key.Decode: function 19 -/
def key_Decode.vc (bA : Option Addr) (bL bC : Nat) (R : Ending → World → Prop) (w : World) : Prop := bcase (decide ((200 : Int) < (bL :
  Int))) (R (Ending.returned (Value.tuple { toList := [Value.slice none 0 0, Value.int IntKind.i64 (3 : Int)] })) w) (∃ (y1 : Nat → Option
  Addr → Nat → Nat → Option Addr → Nat → Nat → World → Prop), ∃ (k2 : Nat), y1 k2 bA bL bC none 0 0 w ∧ ∀ (k3 : Nat) (p4 : Option Addr) (k5
  k6 : Nat) (p7 : Option Addr) (k8 k9 : Nat) (w10 : World), y1 k3 p4 k5 k6 p7 k8 k9 w10 → bcase (decide ((0 : Int) < (k5 : Int))) (Calls
  Proofs.Tryd.prog (55 : Nat) { toList := [Value.slice p4 k5 k6] } w10 fun (e12 : Ending) (w13 : World) => ∃ (b14 : Bool), ∃ (s15 :
  ByteArray), ∃ (n16 : Int), ∃ (p17 : Option Addr), ∃ (k18 : Nat), ∃ (k19 : Nat), ∃ (b20 : Bool), e12 = Ending.returned (Value.tuple { toList := [Value.agg { toList := [Value.bool b14, Value.string s15, Value.int IntKind.i64 n16] }, Value.slice p17 k18 k19, Value.bool b20] })
  ∧ ∀ (k21 : Nat), bcase (!b20) (∀ (w22 : World), Step w13 w22 [] [k21] → R (Ending.returned (Value.tuple { toList := [Value.slice none 0 0, Value.int IntKind.i64 (6 : Int)] }))
  w22) (∀ (k24 : Nat), appendP false [] [k24, k21] [k21, k24] w13 p7 k8 k9 1 (spl (reps [Value.bool false, Value.string
  { data := { toList := [] } }, Value.int IntKind.i64 (0 : Int)] 1) 0 (List.take 3 (List.drop 0 (sets [Value.bool false, Value.string
  { data := { toList := [] } }, Value.int IntKind.i64 (0 : Int)] 0 [Value.bool b14, Value.string s15, Value.int IntKind.i64 n16])))) 3 32
  [Value.bool false, Value.string { data := { toList := [] } }, Value.int IntKind.i64 (0 : Int)] fun (w25 : World) (p26 : Option Addr) (k27
  k28 : Nat) => ∃ (k29 : Nat), k29 < k3 ∧ y1 k29 p17 k18 k19 p26 k27 k28 w25)) (Calls Proofs.Tryd.prog (56 : Nat) { toList := [Value.slice p7 k8 k9] }
  w10 fun (e30 : Ending) (w31 : World) => ∃ (p32 : Option Addr), ∃ (k33 : Nat), ∃ (k34 : Nat), e30 = Ending.returned (Value.slice p32 k33
  k34) ∧ R (Ending.returned (Value.tuple { toList := [Value.slice p32 k33 k34, Value.int IntKind.i64 (0 : Int)] })) w31))

theorem key_Decode.link {bA : Option Addr} {bL bC : Nat} {R : Ending → World → Prop} {w : World} (h : key_Decode.vc bA bL bC R w) : Calls Go.Proofs.Tryd.prog 19 #[.slice bA bL bC] w R :=
  calls_of pf (fn := Go.Proofs.Tryd.f19) (ann := .s (.n) (.s (.s (.n) (.c (.s (.n) (.n)) (.n))) (.s (.n) (.s (.b (.l ⟨[], [], [], [(0, .l (.sl)), (4, .l (.sl))], []⟩ (.s (.s (.n) (.c (.n) (.n))) (.b (.s (.n) (.s (.s (.n) (.c (.s (.n) (.n)) (.n))) (.s (.n) (.n)))))))) (.s (.n) (.n)))))) (mp := false) (args := [.v (.slice bA bL bC)]) Go.Proofs.Tryd.func19 (c := Go.Proofs.Tryd.f19.body.getD .skip) (by kernel_rfl) (by kernel_rfl) (Eq.mp (by kernel_rfl) h)
theorem key_Decode.body : BodyOk Go.Proofs.Tryd.prog 19 := ⟨Go.Proofs.Tryd.f19, Go.Proofs.Tryd.func19, by kernel_rfl, pf.ng _ _ Go.Proofs.Tryd.func19⟩

/-! ### slices.Clip[[]rhizome/key.Part,rhizome/key.Part]: function 56 -/
def slices_Clip_g_key_Part.vc (sA : Option Addr) (sL sC : Nat) (R : Ending → World → Prop) (w : World) : Prop := ((0 : Int) ≤ (0 : Int) ∧ (0
  : Int) ≤ (sL : Int) ∧ (sL : Int) ≤ (sL : Int) ∧ (sL : Int) ≤ (sC : Int)) ∧ R (Ending.returned (Value.slice (subA sA 0 (Int.toNat (sL :
  Int)) 3) (Int.toNat (sL : Int) - 0) (Int.toNat (sL : Int) - 0))) w

theorem slices_Clip_g_key_Part.link {sA : Option Addr} {sL sC : Nat} {R : Ending → World → Prop} {w : World} (h : slices_Clip_g_key_Part.vc sA sL sC R w) : Calls Go.Proofs.Tryd.prog 56 #[.slice sA sL sC] w R :=
  calls_of pf (fn := Go.Proofs.Tryd.f56) (ann := .s (.n) (.s (.n) (.n))) (mp := false) (args := [.v (.slice sA sL sC)]) Go.Proofs.Tryd.func56 (c := Go.Proofs.Tryd.f56.body.getD .skip) (by kernel_rfl) (by kernel_rfl) (Eq.mp (by kernel_rfl) h)
theorem slices_Clip_g_key_Part.body : BodyOk Go.Proofs.Tryd.prog 56 := ⟨Go.Proofs.Tryd.f56, Go.Proofs.Tryd.func56, by kernel_rfl, pf.ng _ _ Go.Proofs.Tryd.func56⟩

/-! ### bytes.IndexByte: function 104 -/
def bytes_IndexByte.vc (bA : Option Addr) (bL bC : Nat) (c : Int) (R : Ending → World → Prop) (w : World) : Prop := ∃ (n1 : Int), ∃ (w2 :
  World), Sem.run Proofs.Tryd.prog (callFunc 146 { toList := [Value.slice bA bL bC, Value.int IntKind.u8 c] }) w = Result.ok (Next.value
  (Value.int IntKind.i64 n1)) w2 ∧ R (Ending.returned (Value.int IntKind.i64 n1)) w2

theorem bytes_IndexByte.link {bA : Option Addr} {bL bC : Nat} {c : Int} {R : Ending → World → Prop} {w : World} (h : bytes_IndexByte.vc bA bL bC c R w) : Calls Go.Proofs.Tryd.prog 104 #[.slice bA bL bC, .int .u8 c] w R :=
  calls_of pf (fn := Go.Proofs.Tryd.f104) (ann := .s (.n) (.s (.n) (.n))) (mp := false) (args := [.v (.slice bA bL bC), .v (.int .u8 c)]) Go.Proofs.Tryd.func104 (c := Go.Proofs.Tryd.f104.body.getD .skip) (by kernel_rfl) (by kernel_rfl) (Eq.mp (by kernel_rfl) h)
theorem bytes_IndexByte.body : BodyOk Go.Proofs.Tryd.prog 104 := ⟨Go.Proofs.Tryd.f104, Go.Proofs.Tryd.func104, by kernel_rfl, pf.ng _ _ Go.Proofs.Tryd.func104⟩

end Go.Proofs.YtalegpdnhkopmaaDoor.VC
