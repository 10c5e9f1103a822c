/- What is to be shown of functions' texts, printed by a program of this session's repo; that it gives the functions' contracts is checked by the kernel. -/
import Derived.Test.YtalegpdnhkopmaaDoorProg
import Derived.Test.YtalegpdnhkopmaaDoorPf
namespace Go.Proofs.YtalegpdnhkopmaaDoor.VC
open Go Go.V
set_option maxRecDepth 1000000
set_option linter.unusedVariables false

/-! ### rhizome/record.node: function 92 -/
def record_node.vc (n : Int) (R : Ending → World → Prop) (w : World) : Prop := ∀ (y1 : Bool → World → Prop), (∀ (b2 : Bool) (w3 : World), R
  (Ending.returned (Value.bool b2)) w3 → y1 b2 w3) → bcase (decide ((1 : Int) ≤ n)) (y1 (decide (n ≤ (1000 : Int))) w) (y1 false w)

theorem record_node.link {n : Int} {R : Ending → World → Prop} {w : World} (h : record_node.vc n R w) : Calls Go.Proofs.Tryd.prog 92 #[.int .i64 n] w R :=
  calls_of pf (fn := Go.Proofs.Tryd.f92) (ann := .s (.n) (.j ⟨[], [], [], [(2, .l (.b))], []⟩ (.n) (.n))) (mp := false) (args := [.v (.int .i64 n)]) Go.Proofs.Tryd.func92 (c := Go.Proofs.Tryd.f92.body.getD .skip) (by kernel_rfl) (by kernel_rfl) (Eq.mp (by kernel_rfl) h)
theorem record_node.body : BodyOk Go.Proofs.Tryd.prog 92 := ⟨Go.Proofs.Tryd.f92, Go.Proofs.Tryd.func92, by kernel_rfl, pf.ng _ _ Go.Proofs.Tryd.func92⟩

/-! ### rhizome/record.name: function 93 -/
def record_name.vc (s : ByteArray) (R : Ending → World → Prop) (w : World) : Prop := ∀ (y1 : Bool → World → Prop), (∀ (b2 : Bool) (w3 :
  World), R (Ending.returned (Value.bool b2)) w3 → y1 b2 w3) → bcase (decide ((1 : Int) ≤ ((ByteArray.size s) : Int))) (bcase (decide
  (((ByteArray.size s) : Int) ≤ (16 : Int))) (Calls Proofs.Tryd.prog (118 : Nat) { toList := [Value.string s, Value.func (Fn.func 140) { toList := [] } { toList := [] }] }
  w fun (e6 : Ending) (w7 : World) => ∃ (b8 : Bool), e6 = Ending.returned (Value.bool b8) ∧ y1 (!b8) w7) (y1 false w)) (y1 false w)

theorem record_name.link {s : ByteArray} {R : Ending → World → Prop} {w : World} (h : record_name.vc s R w) : Calls Go.Proofs.Tryd.prog 93 #[.string s] w R :=
  calls_of pf (fn := Go.Proofs.Tryd.f93) (ann := .s (.n) (.j ⟨[], [], [], [(2, .l (.b))], []⟩ (.n) (.n))) (mp := false) (args := [.v (.string s)]) Go.Proofs.Tryd.func93 (c := Go.Proofs.Tryd.f93.body.getD .skip) (by kernel_rfl) (by kernel_rfl) (Eq.mp (by kernel_rfl) h)
theorem record_name.body : BodyOk Go.Proofs.Tryd.prog 93 := ⟨Go.Proofs.Tryd.f93, Go.Proofs.Tryd.func93, by kernel_rfl, pf.ng _ _ Go.Proofs.Tryd.func93⟩

/-! ### rhizome/record.name_1: function 140 -/
def record_name_1.vc (c : Int) (R : Ending → World → Prop) (w : World) : Prop := ∀ (y1 : Bool → World → Prop), (∀ (b2 : Bool) (w3 : World),
  R (Ending.returned (Value.bool b2)) w3 → y1 b2 w3) → bcase (decide (c < (97 : Int))) (y1 true w) (y1 (decide ((122 : Int) < c)) w)

theorem record_name_1.link {c : Int} {R : Ending → World → Prop} {w : World} (h : record_name_1.vc c R w) : Calls Go.Proofs.Tryd.prog 140 #[.int .i32 c] w R :=
  calls_of pf (fn := Go.Proofs.Tryd.f140) (ann := .s (.n) (.j ⟨[], [], [], [(2, .l (.b))], []⟩ (.n) (.n))) (mp := false) (args := [.v (.int .i32 c)]) Go.Proofs.Tryd.func140 (c := Go.Proofs.Tryd.f140.body.getD .skip) (by kernel_rfl) (by kernel_rfl) (Eq.mp (by kernel_rfl) h)
theorem record_name_1.body : BodyOk Go.Proofs.Tryd.prog 140 := ⟨Go.Proofs.Tryd.f140, Go.Proofs.Tryd.func140, by kernel_rfl, pf.ng _ _ Go.Proofs.Tryd.func140⟩

/-! ### rhizome/record.Form: function 43 -/
def record_Form.vc (c0 : Int) (c1 : Int) (c2 : Int) (c3 : ByteArray) (c4 : Int) (c5 : ByteArray) (c6 : Int) (c7 : Int) (c8 : ByteArray) (R :
  Ending → World → Prop) (w : World) : Prop := ∀ (k1 : Nat) (y2 : Bool → World → Prop), (∀ (b3 : Bool) (w4 : World), bcase (!b3) (R
  (Ending.returned (Value.int IntKind.i64 (1 : Int))) w4) (R (Ending.returned (Value.int IntKind.i64 (0 : Int))) w4) → y2 b3 w4) → ∀ (y7 :
  Bool → World → Prop), (∀ (b8 : Bool) (w9 : World), bcase b8 (Calls Proofs.Tryd.prog (92 : Nat) { toList := [Value.int IntKind.i64 c1] } w9
  fun (e10 : Ending) (w11 : World) => ∃ (b12 : Bool), e10 = Ending.returned (Value.bool b12) ∧ Keep [k1] w9 w11 ∧ y2 b12 w11) (∀ (y13 : Bool
  → World → Prop), (∀ (b14 : Bool) (w15 : World), bcase b14 (Calls Proofs.Tryd.prog (92 : Nat) { toList := [Value.int IntKind.i64 c2] } w15
  fun (e16 : Ending) (w17 : World) => ∃ (b18 : Bool), e16 = Ending.returned (Value.bool b18) ∧ Keep [k1] w15 w17 ∧ bcase b18 (Calls
  Proofs.Tryd.prog (93 : Nat) { toList := [Value.string c3] } w17 fun (e19 : Ending) (w20 : World) => ∃ (b21 : Bool), e19 = Ending.returned
  (Value.bool b21) ∧ Keep [k1] w17 w20 ∧ bcase b21 (Calls Proofs.Tryd.prog (92 : Nat) { toList := [Value.int IntKind.i64 c4] } w20 fun (e22
  : Ending) (w23 : World) => ∃ (b24 : Bool), e22 = Ending.returned (Value.bool b24) ∧ Keep [k1] w20 w23 ∧ y2 b24 w23) (y2 false w20)) (y2
  false w17)) (bcase (decide (c0 = (5 : Int))) (Calls Proofs.Tryd.prog (92 : Nat) { toList := [Value.int IntKind.i64 c1] } w15 fun (e25 :
  Ending) (w26 : World) => ∃ (b27 : Bool), e25 = Ending.returned (Value.bool b27) ∧ Keep [k1] w15 w26 ∧ bcase b27 (Calls Proofs.Tryd.prog
  (93 : Nat) { toList := [Value.string c5] } w26 fun (e28 : Ending) (w29 : World) => ∃ (b30 : Bool), e28 = Ending.returned (Value.bool b30)
  ∧ Keep [k1] w26 w29 ∧ bcase b30 (Calls Proofs.Tryd.prog (94 : Nat) { toList := [Value.agg { toList := [Value.int IntKind.i64 c6, Value.int IntKind.i64 c7, Value.string c8] }] }
  w29 fun (e31 : Ending) (w32 : World) => ∃ (n33 : Int), e31 = Ending.returned (Value.int IntKind.i64 n33) ∧ Keep [k1] w29 w32 ∧ y2 (decide
  (n33 = (0 : Int))) w32) (y2 false w29)) (y2 false w26)) (bcase (decide (c0 = (6 : Int))) (Calls Proofs.Tryd.prog (92 : Nat) { toList := [Value.int IntKind.i64 c1] }
  w15 fun (e34 : Ending) (w35 : World) => ∃ (b36 : Bool), e34 = Ending.returned (Value.bool b36) ∧ Keep [k1] w15 w35 ∧ bcase b36 (Calls
  Proofs.Tryd.prog (93 : Nat) { toList := [Value.string c5] } w35 fun (e37 : Ending) (w38 : World) => ∃ (b39 : Bool), e37 = Ending.returned
  (Value.bool b39) ∧ Keep [k1] w35 w38 ∧ y2 b39 w38) (y2 false w35)) (y2 false w15))) → y13 b14 w15) → bcase (decide (c0 = (3 : Int))) (y13
  true w9) (y13 (decide (c0 = (4 : Int))) w9)) → y7 b8 w9) → bcase (decide (c0 = (1 : Int))) (∀ (w44 : World), Step w w44 [] [k1] → y7 true
  w44) (∀ (w46 : World), Step w w46 [] [k1] → y7 (decide (c0 = (2 : Int))) w46)

theorem record_Form.link {c0 : Int} {c1 : Int} {c2 : Int} {c3 : ByteArray} {c4 : Int} {c5 : ByteArray} {c6 : Int} {c7 : Int} {c8 : ByteArray} {R : Ending → World → Prop} {w : World} (h : record_Form.vc c0 c1 c2 c3 c4 c5 c6 c7 c8 R w) : Calls Go.Proofs.Tryd.prog 43 #[(.agg #[.int .i64 c0, .int .i64 c1, .int .i64 c2, .string c3, .int .i64 c4, .string c5, .int .i64 c6, .int .i64 c7, .string c8] : Value)] w R :=
  calls_of pf (fn := Go.Proofs.Tryd.f43) (ann := .s (.n) (.s (.n) (.j ⟨[], [], [], [(3, .l (.b))], []⟩ (.s (.n) (.b (.j ⟨[], [], [0], [(6, .l (.b))], []⟩ (.s (.n) (.c (.n) (.n))) (.c (.n) (.j ⟨[], [], [0], [(12, .l (.b))], []⟩ (.s (.n) (.c (.n) (.n))) (.c (.n) (.s (.n) (.c (.n) (.s (.n) (.c (.n) (.n))))))))))) (.s (.s (.n) (.c (.s (.n) (.n)) (.n))) (.s (.n) (.n)))))) (mp := false) (args := [.v (.agg #[.int .i64 c0, .int .i64 c1, .int .i64 c2, .string c3, .int .i64 c4, .string c5, .int .i64 c6, .int .i64 c7, .string c8])]) Go.Proofs.Tryd.func43 (c := Go.Proofs.Tryd.f43.body.getD .skip) (by kernel_rfl) (by kernel_rfl) (Eq.mp (by kernel_rfl) h)
theorem record_Form.body : BodyOk Go.Proofs.Tryd.prog 43 := ⟨Go.Proofs.Tryd.f43, Go.Proofs.Tryd.func43, by kernel_rfl, pf.ng _ _ Go.Proofs.Tryd.func43⟩

/-! ### rhizome/rhizomeref07.Name: function 96 -/
def rhizomeref07_Name.vc (s : ByteArray) (R : Ending → World → Prop) (w : World) : Prop := ∃ (y1 : Nat → Int → World → Prop), ∃ (k2 : Nat),
  y1 k2 (0 : Int) w ∧ ∀ (k3 : Nat) (n4 : Int) (w5 : World), y1 k3 n4 w5 → bcase (decide (n4 < ((ByteArray.size s) : Int))) (∀ (y7 : Bool →
  World → Prop), (∀ (b8 : Bool) (w9 : World), bcase b8 (R (Ending.returned (Value.bool false)) w9) (∃ (k10 : Nat), k10 < k3 ∧ y1 k10
  (IntKind.wrap IntKind.i64 (n4 + (1 : Int))) w9) → y7 b8 w9) → ((0 : Int) ≤ n4 ∧ n4 < ((ByteArray.size s) : Int)) ∧ bcase (decide (byteAt s
  n4 < (97 : Int))) (y7 true w5) (((0 : Int) ≤ n4 ∧ n4 < ((ByteArray.size s) : Int)) ∧ y7 (decide ((122 : Int) < byteAt s n4)) w5)) (∀ (y13
  : Bool → World → Prop), (∀ (b14 : Bool) (w15 : World), R (Ending.returned (Value.bool b14)) w15 → y13 b14 w15) → bcase (decide ((0 : Int)
  < ((ByteArray.size s) : Int))) (y13 (decide (((ByteArray.size s) : Int) ≤ (16 : Int))) w5) (y13 false w5))

theorem rhizomeref07_Name.link {s : ByteArray} {R : Ending → World → Prop} {w : World} (h : rhizomeref07_Name.vc s R w) : Calls Go.Proofs.Tryd.prog 96 #[.string s] w R :=
  calls_of pf (fn := Go.Proofs.Tryd.f96) (ann := .s (.n) (.s (.s (.n) (.b (.l ⟨[], [], [], [(3, .l (.i .i64))], []⟩ (.s (.s (.n) (.c (.n) (.n))) (.s (.b (.j ⟨[], [], [], [(19, .l (.b))], []⟩ (.n) (.c (.s (.n) (.n)) (.n)))) (.n)))))) (.j ⟨[], [], [], [(2, .l (.b))], []⟩ (.n) (.n)))) (mp := false) (args := [.v (.string s)]) Go.Proofs.Tryd.func96 (c := Go.Proofs.Tryd.f96.body.getD .skip) (by kernel_rfl) (by kernel_rfl) (Eq.mp (by kernel_rfl) h)
theorem rhizomeref07_Name.body : BodyOk Go.Proofs.Tryd.prog 96 := ⟨Go.Proofs.Tryd.f96, Go.Proofs.Tryd.func96, by kernel_rfl, pf.ng _ _ Go.Proofs.Tryd.func96⟩

/-! ### rhizome/rhizomeref15.node: function 95 -/
def rhizomeref15_node.vc (n : Int) (R : Ending → World → Prop) (w : World) : Prop := ∀ (y1 : Bool → World → Prop), (∀ (b2 : Bool) (w3 :
  World), R (Ending.returned (Value.bool b2)) w3 → y1 b2 w3) → bcase (decide ((1 : Int) ≤ n)) (y1 (decide (n ≤ (1000 : Int))) w) (y1 false
  w)

theorem rhizomeref15_node.link {n : Int} {R : Ending → World → Prop} {w : World} (h : rhizomeref15_node.vc n R w) : Calls Go.Proofs.Tryd.prog 95 #[.int .i64 n] w R :=
  calls_of pf (fn := Go.Proofs.Tryd.f95) (ann := .s (.n) (.j ⟨[], [], [], [(2, .l (.b))], []⟩ (.n) (.n))) (mp := false) (args := [.v (.int .i64 n)]) Go.Proofs.Tryd.func95 (c := Go.Proofs.Tryd.f95.body.getD .skip) (by kernel_rfl) (by kernel_rfl) (Eq.mp (by kernel_rfl) h)
theorem rhizomeref15_node.body : BodyOk Go.Proofs.Tryd.prog 95 := ⟨Go.Proofs.Tryd.f95, Go.Proofs.Tryd.func95, by kernel_rfl, pf.ng _ _ Go.Proofs.Tryd.func95⟩

/-! ### rhizome/rhizomeref15.Form: function 44 -/
def rhizomeref15_Form.vc (c0 : Int) (c1 : Int) (c2 : Int) (c3 : ByteArray) (c4 : Int) (c5 : ByteArray) (c6 : Int) (c7 : Int) (c8 :
  ByteArray) (R : Ending → World → Prop) (w : World) : Prop := ∀ (k1 : Nat) (y2 : Bool → World → Prop), (∀ (b3 : Bool) (w4 : World), bcase
  b3 (Calls Proofs.Tryd.prog (95 : Nat) { toList := [Value.int IntKind.i64 c1] } w4 fun (e5 : Ending) (w6 : World) => ∃ (b7 : Bool), e5 =
  Ending.returned (Value.bool b7) ∧ Keep [k1] w4 w6 ∧ R (Ending.returned (Value.bool b7)) w6) (∀ (y8 : Bool → World → Prop), (∀ (b9 : Bool)
  (w10 : World), bcase b9 (∀ (y11 : Bool → World → Prop), (∀ (b12 : Bool) (w13 : World), R (Ending.returned (Value.bool b12)) w13 → y11 b12
  w13) → Calls Proofs.Tryd.prog (95 : Nat) { toList := [Value.int IntKind.i64 c2] } w10 fun (e16 : Ending) (w17 : World) => ∃ (b18 : Bool),
  e16 = Ending.returned (Value.bool b18) ∧ Keep [k1] w10 w17 ∧ bcase b18 (Calls Proofs.Tryd.prog (95 : Nat) { toList := [Value.int IntKind.i64 c4] }
  w17 fun (e19 : Ending) (w20 : World) => ∃ (b21 : Bool), e19 = Ending.returned (Value.bool b21) ∧ Keep [k1] w17 w20 ∧ bcase b21 (Calls
  Proofs.Tryd.prog (96 : Nat) { toList := [Value.string c3] } w20 fun (e22 : Ending) (w23 : World) => ∃ (b24 : Bool), e22 = Ending.returned
  (Value.bool b24) ∧ Keep [k1] w20 w23 ∧ y11 b24 w23) (y11 false w20)) (y11 false w17)) (bcase (decide (c0 = (5 : Int))) (∀ (y25 : Bool →
  World → Prop), (∀ (b26 : Bool) (w27 : World), R (Ending.returned (Value.bool b26)) w27 → y25 b26 w27) → Calls Proofs.Tryd.prog (95 : Nat)
  { toList := [Value.int IntKind.i64 c1] } w10 fun (e30 : Ending) (w31 : World) => ∃ (b32 : Bool), e30 = Ending.returned (Value.bool b32) ∧
  Keep [k1] w10 w31 ∧ bcase b32 (Calls Proofs.Tryd.prog (96 : Nat) { toList := [Value.string c5] } w31 fun (e33 : Ending) (w34 : World) => ∃
  (b35 : Bool), e33 = Ending.returned (Value.bool b35) ∧ Keep [k1] w31 w34 ∧ bcase b35 (Calls Proofs.Tryd.prog (97 : Nat) { toList := [Value.agg { toList := [Value.int IntKind.i64 c6, Value.int IntKind.i64 c7, Value.string c8] }] }
  w34 fun (e36 : Ending) (w37 : World) => ∃ (n38 : Int), e36 = Ending.returned (Value.int IntKind.i64 n38) ∧ Keep [k1] w34 w37 ∧ y25 (decide
  (n38 = (0 : Int))) w37) (y25 false w34)) (y25 false w31)) (bcase (decide (c0 = (6 : Int))) (∀ (y39 : Bool → World → Prop), (∀ (b40 : Bool)
  (w41 : World), R (Ending.returned (Value.bool b40)) w41 → y39 b40 w41) → Calls Proofs.Tryd.prog (95 : Nat) { toList := [Value.int IntKind.i64 c1] }
  w10 fun (e44 : Ending) (w45 : World) => ∃ (b46 : Bool), e44 = Ending.returned (Value.bool b46) ∧ Keep [k1] w10 w45 ∧ bcase b46 (Calls
  Proofs.Tryd.prog (96 : Nat) { toList := [Value.string c5] } w45 fun (e47 : Ending) (w48 : World) => ∃ (b49 : Bool), e47 = Ending.returned
  (Value.bool b49) ∧ Keep [k1] w45 w48 ∧ y39 b49 w48) (y39 false w45)) (R (Ending.returned (Value.bool false)) w10))) → y8 b9 w10) → bcase
  (decide (c0 = (3 : Int))) (y8 true w4) (y8 (decide (c0 = (4 : Int))) w4)) → y2 b3 w4) → bcase (decide (c0 = (1 : Int))) (∀ (w54 : World),
  Step w w54 [] [k1] → y2 true w54) (∀ (w56 : World), Step w w56 [] [k1] → y2 (decide (c0 = (2 : Int))) w56)

theorem rhizomeref15_Form.link {c0 : Int} {c1 : Int} {c2 : Int} {c3 : ByteArray} {c4 : Int} {c5 : ByteArray} {c6 : Int} {c7 : Int} {c8 : ByteArray} {R : Ending → World → Prop} {w : World} (h : rhizomeref15_Form.vc c0 c1 c2 c3 c4 c5 c6 c7 c8 R w) : Calls Go.Proofs.Tryd.prog 44 #[(.agg #[.int .i64 c0, .int .i64 c1, .int .i64 c2, .string c3, .int .i64 c4, .string c5, .int .i64 c6, .int .i64 c7, .string c8] : Value)] w R :=
  calls_of pf (fn := Go.Proofs.Tryd.f44) (ann := .s (.n) (.s (.s (.n) (.b (.j ⟨[], [], [0], [(5, .l (.b))], []⟩ (.s (.n) (.c (.n) (.n))) (.c (.s (.n) (.n)) (.j ⟨[], [], [0], [(11, .l (.b))], []⟩ (.s (.n) (.c (.n) (.n))) (.c (.j ⟨[], [], [], [(2, .l (.b))], []⟩ (.n) (.n)) (.s (.n) (.c (.j ⟨[], [], [], [(2, .l (.b))], []⟩ (.n) (.n)) (.s (.n) (.c (.j ⟨[], [], [], [(2, .l (.b))], []⟩ (.n) (.n)) (.n))))))))))) (.s (.n) (.n)))) (mp := false) (args := [.v (.agg #[.int .i64 c0, .int .i64 c1, .int .i64 c2, .string c3, .int .i64 c4, .string c5, .int .i64 c6, .int .i64 c7, .string c8])]) Go.Proofs.Tryd.func44 (c := Go.Proofs.Tryd.f44.body.getD .skip) (by kernel_rfl) (by kernel_rfl) (Eq.mp (by kernel_rfl) h)
theorem rhizomeref15_Form.body : BodyOk Go.Proofs.Tryd.prog 44 := ⟨Go.Proofs.Tryd.f44, Go.Proofs.Tryd.func44, by kernel_rfl, pf.ng _ _ Go.Proofs.Tryd.func44⟩

/-! ### rhizome/rhizomeref02.Check: function 97 -/
def rhizomeref02_Check.vc (vKind : Int) (vInt : Int) (vText : ByteArray) (R : Ending → World → Prop) (w : World) : Prop := ∀ (k1 : Nat) (y2
  : Bool → World → Prop), (∀ (b3 : Bool) (w4 : World), bcase b3 (R (Ending.returned (Value.int IntKind.i64 (0 : Int))) w4) (bcase (!decide
  (vKind = (2 : Int))) (R (Ending.returned (Value.int IntKind.i64 (1 : Int))) w4) (bcase (decide ((64 : Int) < ((ByteArray.size vText) :
  Int))) (R (Ending.returned (Value.int IntKind.i64 (3 : Int))) w4) (Calls Proofs.Tryd.prog (142 : Nat) { toList := [Value.string vText] }
  w4 fun (e5 : Ending) (w6 : World) => ∃ (b7 : Bool), e5 = Ending.returned (Value.bool b7) ∧ Keep [k1] w4 w6 ∧ bcase (!b7) (R
  (Ending.returned (Value.int IntKind.i64 (7 : Int))) w6) (R (Ending.returned (Value.int IntKind.i64 (0 : Int))) w6)))) → y2 b3 w4) → bcase
  (decide (vKind = (1 : Int))) (∀ (w10 : World), Step w w10 [] [k1] → y2 true w10) (bcase (decide (vKind = (3 : Int))) (bcase (decide (vInt
  = (0 : Int))) (∀ (w12 : World), Step w w12 [] [k1] → y2 true w12) (∀ (w14 : World), Step w w14 [] [k1] → y2 (decide (vInt = (1 : Int)))
  w14)) (∀ (w16 : World), Step w w16 [] [k1] → y2 false w16))

theorem rhizomeref02_Check.link {vKind : Int} {vInt : Int} {vText : ByteArray} {R : Ending → World → Prop} {w : World} (h : rhizomeref02_Check.vc vKind vInt vText R w) : Calls Go.Proofs.Tryd.prog 97 #[(.agg #[.int .i64 vKind, .int .i64 vInt, .string vText] : Value)] w R :=
  calls_of pf (fn := Go.Proofs.Tryd.f97) (ann := .s (.n) (.s (.j ⟨[], [], [0], [(20, .l (.b))], []⟩ (.n) (.c (.s (.n) (.n)) (.n))) (.s (.s (.n) (.c (.s (.n) (.n)) (.n))) (.s (.s (.n) (.c (.s (.n) (.n)) (.n))) (.s (.s (.n) (.c (.s (.n) (.n)) (.n))) (.s (.n) (.n))))))) (mp := false) (args := [.v (.agg #[.int .i64 vKind, .int .i64 vInt, .string vText])]) Go.Proofs.Tryd.func97 (c := Go.Proofs.Tryd.f97.body.getD .skip) (by kernel_rfl) (by kernel_rfl) (Eq.mp (by kernel_rfl) h)
theorem rhizomeref02_Check.body : BodyOk Go.Proofs.Tryd.prog 97 := ⟨Go.Proofs.Tryd.f97, Go.Proofs.Tryd.func97, by kernel_rfl, pf.ng _ _ Go.Proofs.Tryd.func97⟩

/-! ### rhizome/rhizomeref02.UTF8: function 142 -/
def rhizomeref02_UTF8.vc (s : ByteArray) (R : Ending → World → Prop) (w : World) : Prop := ∃ (y1 : Nat → Int → World → Prop), ∃ (k2 : Nat),
  y1 k2 (0 : Int) w ∧ ∀ (k3 : Nat) (n4 : Int) (w5 : World), y1 k3 n4 w5 → bcase (decide (n4 < ((ByteArray.size s) : Int))) (Calls
  Proofs.Tryd.prog (134 : Nat) { toList := [Value.string s, Value.int IntKind.i64 n4] } w5 fun (e7 : Ending) (w8 : World) => ∃ (n9 : Int), ∃
  (n10 : Int), e7 = Ending.returned (Value.tuple { toList := [Value.int IntKind.i64 n9, Value.int IntKind.i64 n10] }) ∧ bcase (decide (n9 =
  (0 : Int))) (R (Ending.returned (Value.bool false)) w8) (∃ (k11 : Nat), k11 < k3 ∧ y1 k11 (IntKind.wrap IntKind.i64 (n4 + n9)) w8)) (R
  (Ending.returned (Value.bool true)) w5)

theorem rhizomeref02_UTF8.link {s : ByteArray} {R : Ending → World → Prop} {w : World} (h : rhizomeref02_UTF8.vc s R w) : Calls Go.Proofs.Tryd.prog 142 #[.string s] w R :=
  calls_of pf (fn := Go.Proofs.Tryd.f142) (ann := .s (.n) (.s (.s (.n) (.b (.l ⟨[], [], [], [(3, .l (.i .i64))], []⟩ (.s (.s (.n) (.c (.n) (.n))) (.b (.s (.n) (.s (.s (.n) (.c (.s (.n) (.n)) (.n))) (.n)))))))) (.s (.n) (.n)))) (mp := false) (args := [.v (.string s)]) Go.Proofs.Tryd.func142 (c := Go.Proofs.Tryd.f142.body.getD .skip) (by kernel_rfl) (by kernel_rfl) (Eq.mp (by kernel_rfl) h)
theorem rhizomeref02_UTF8.body : BodyOk Go.Proofs.Tryd.prog 142 := ⟨Go.Proofs.Tryd.f142, Go.Proofs.Tryd.func142, by kernel_rfl, pf.ng _ _ Go.Proofs.Tryd.func142⟩

/-! ### rhizome/rhizomeref02.Rune: function 134 -/
def rhizomeref02_Rune.vc (s : ByteArray) (i : Int) (R : Ending → World → Prop) (w : World) : Prop := bcase (decide (((ByteArray.size s) :
  Int) ≤ i)) (R (Ending.returned (Value.tuple { toList := [Value.int IntKind.i64 (0 : Int), Value.int IntKind.i64 (0 : Int)] })) w) (((0 :
  Int) ≤ i ∧ i < ((ByteArray.size s) : Int)) ∧ ∀ (y1 : Int → Int → Int → World → Prop), (∀ (n2 n3 n4 : Int) (w5 : World), bcase (decide
  (((ByteArray.size s) : Int) < IntKind.wrap IntKind.i64 (i + n2))) (R (Ending.returned (Value.tuple { toList := [Value.int IntKind.i64 (0 : Int), Value.int IntKind.i64 (0 : Int)] }))
  w5) (∃ (y6 : Nat → Int → Int → World → Prop), ∃ (k7 : Nat), y6 k7 n3 (1 : Int) w5 ∧ ∀ (k8 : Nat) (n9 n10 : Int) (w11 : World), y6 k8 n9
  n10 w11 → bcase (decide (n10 < n2)) (((0 : Int) ≤ IntKind.wrap IntKind.i64 (i + n10) ∧ IntKind.wrap IntKind.i64 (i + n10) <
  ((ByteArray.size s) : Int)) ∧ ∀ (y13 : Bool → World → Prop), (∀ (b14 : Bool) (w15 : World), bcase b14 (R (Ending.returned (Value.tuple { toList := [Value.int IntKind.i64 (0 : Int), Value.int IntKind.i64 (0 : Int)] }))
  w15) (∃ (k16 : Nat), k16 < k8 ∧ y6 k16 (IntKind.wrap IntKind.i64 (IntKind.wrap IntKind.i64 (IntKind.wrap IntKind.i64 (n9 * (64 : Int)) +
  IntKind.wrap IntKind.i64 (byteAt s (IntKind.wrap IntKind.i64 (i + n10)))) - (128 : Int))) (IntKind.wrap IntKind.i64 (n10 + (1 : Int)))
  w15) → y13 b14 w15) → bcase (decide (IntKind.wrap IntKind.i64 (byteAt s (IntKind.wrap IntKind.i64 (i + n10))) < (128 : Int))) (y13 true
  w11) (y13 (decide ((191 : Int) < IntKind.wrap IntKind.i64 (byteAt s (IntKind.wrap IntKind.i64 (i + n10))))) w11)) (∀ (y19 : Bool → World →
  Prop), (∀ (b20 : Bool) (w21 : World), bcase b20 (R (Ending.returned (Value.tuple { toList := [Value.int IntKind.i64 (0 : Int), Value.int IntKind.i64 (0 : Int)] }))
  w21) (R (Ending.returned (Value.tuple { toList := [Value.int IntKind.i64 n2, Value.int IntKind.i64 n9] })) w21) → y19 b20 w21) → bcase
  (decide (n9 < n4)) (y19 true w11) (bcase (decide ((1114111 : Int) < n9)) (y19 true w11) (bcase (decide ((55296 : Int) ≤ n9)) (y19 (decide
  (n9 ≤ (57343 : Int))) w11) (y19 false w11))))) → y1 n2 n3 n4 w5) → bcase (decide (IntKind.wrap IntKind.i64 (byteAt s i) < (128 : Int))) (R
  (Ending.returned (Value.tuple { toList := [Value.int IntKind.i64 (1 : Int), Value.int IntKind.i64 (IntKind.wrap IntKind.i64 (byteAt s i))] }))
  w) (∀ (y26 : Bool → World → Prop), (∀ (b27 : Bool) (w28 : World), bcase b27 (y1 (2 : Int) (IntKind.wrap IntKind.i64 (IntKind.wrap
  IntKind.i64 (byteAt s i) - (192 : Int))) (128 : Int) w28) (∀ (y29 : Bool → World → Prop), (∀ (b30 : Bool) (w31 : World), bcase b30 (y1 (3
  : Int) (IntKind.wrap IntKind.i64 (IntKind.wrap IntKind.i64 (byteAt s i) - (224 : Int))) (2048 : Int) w31) (∀ (y32 : Bool → World → Prop),
  (∀ (b33 : Bool) (w34 : World), bcase b33 (y1 (4 : Int) (IntKind.wrap IntKind.i64 (IntKind.wrap IntKind.i64 (byteAt s i) - (240 : Int)))
  (65536 : Int) w34) (R (Ending.returned (Value.tuple { toList := [Value.int IntKind.i64 (0 : Int), Value.int IntKind.i64 (0 : Int)] }))
  w34) → y32 b33 w34) → bcase (decide ((240 : Int) ≤ IntKind.wrap IntKind.i64 (byteAt s i))) (y32 (decide (IntKind.wrap IntKind.i64 (byteAt
  s i) < (245 : Int))) w31) (y32 false w31)) → y29 b30 w31) → bcase (decide ((224 : Int) ≤ IntKind.wrap IntKind.i64 (byteAt s i))) (y29
  (decide (IntKind.wrap IntKind.i64 (byteAt s i) < (240 : Int))) w28) (y29 false w28)) → y26 b27 w28) → bcase (decide ((194 : Int) ≤
  IntKind.wrap IntKind.i64 (byteAt s i))) (y26 (decide (IntKind.wrap IntKind.i64 (byteAt s i) < (224 : Int))) w) (y26 false w)))

theorem rhizomeref02_Rune.link {s : ByteArray} {i : Int} {R : Ending → World → Prop} {w : World} (h : rhizomeref02_Rune.vc s i R w) : Calls Go.Proofs.Tryd.prog 134 #[.string s, .int .i64 i] w R :=
  calls_of pf (fn := Go.Proofs.Tryd.f134) (ann := .s (.n) (.s (.s (.n) (.c (.s (.n) (.n)) (.n))) (.s (.n) (.s (.n) (.j ⟨[], [], [], [(7, .l (.i .i64)), (8, .l (.i .i64)), (9, .l (.i .i64))], []⟩ (.b (.s (.n) (.c (.s (.n) (.n)) (.j ⟨[], [], [], [(25, .l (.b))], []⟩ (.n) (.c (.n) (.j ⟨[], [], [], [(34, .l (.b))], []⟩ (.n) (.c (.n) (.j ⟨[], [], [], [(43, .l (.b))], []⟩ (.n) (.c (.n) (.s (.n) (.n))))))))))) (.s (.s (.n) (.c (.s (.n) (.n)) (.n))) (.s (.s (.n) (.b (.l ⟨[], [], [], [(8, .l (.i .i64)), (10, .l (.i .i64))], []⟩ (.s (.s (.n) (.c (.n) (.n))) (.s (.b (.s (.n) (.s (.j ⟨[], [], [], [(74, .l (.b))], []⟩ (.n) (.c (.s (.n) (.n)) (.n))) (.n)))) (.n)))))) (.s (.j ⟨[], [], [], [(94, .l (.b))], []⟩ (.n) (.c (.s (.n) (.n)) (.n))) (.s (.n) (.n)))))))))) (mp := false) (args := [.v (.string s), .v (.int .i64 i)]) Go.Proofs.Tryd.func134 (c := Go.Proofs.Tryd.f134.body.getD .skip) (by kernel_rfl) (by kernel_rfl) (Eq.mp (by kernel_rfl) h)
theorem rhizomeref02_Rune.body : BodyOk Go.Proofs.Tryd.prog 134 := ⟨Go.Proofs.Tryd.f134, Go.Proofs.Tryd.func134, by kernel_rfl, pf.ng _ _ Go.Proofs.Tryd.func134⟩

end Go.Proofs.YtalegpdnhkopmaaDoor.VC
