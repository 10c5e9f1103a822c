/- What is to be shown of functions' texts, printed by a program of this session's repo; that it gives the functions' contracts is checked by the kernel. -/
import Derived.Test.YtamaoileeipgeaaDoorProg
import Derived.Test.YtamaoileeipgeaaDoorPf
namespace Go.Proofs.YtamaoileeipgeaaDoor.VC
open Go Go.V
set_option maxRecDepth 1000000
set_option linter.unusedVariables false

/-! ### rhizome/rhizomelaw01.KeyBetween_1: function 14 -/
def rhizomelaw01_KeyBetween_1.vc (pText : Bool) (pS : ByteArray) (pN : Int) (f0P : Addr) (R : Ending → World → Prop) (w : World) : Prop := ∀
  (k1 : Nat) (y2 : Option Addr → Nat → Nat → World → Prop), (∀ (p3 : Option Addr) (k4 k5 : Nat) (w6 : World), R (Ending.returned
  (Value.slice p3 k4 k5)) w6 → y2 p3 k4 k5 w6) → ∃ (p9 : Option Addr), ∃ (k10 : Nat), ∃ (k11 : Nat), World.cell? w f0P = some (Value.slice
  p9 k10 k11) ∧ (∀ (w12 : World), Step w w12 [] [k1] → Calls Proofs.Tryd.prog (16 : Nat) { toList := [Value.slice p9 k10 k11] } w12 fun (e14
  : Ending) (w15 : World) => ∃ (p16 : Option Addr), ∃ (k17 : Nat), ∃ (k18 : Nat), e14 = Ending.returned (Value.slice p16 k17 k18) ∧ Keep
  [k1] w12 w15 ∧ ∀ (k19 : Nat), appendP false [] [k19] [k1, k19] w15 p16 k17 k18 1 (spl (reps [Value.bool false, Value.string
  { data := { toList := [] } }, Value.int IntKind.i64 (0 : Int)] 1) 0 [Value.bool pText, Value.string pS, Value.int IntKind.i64 pN]) 3 32
  [Value.bool false, Value.string { data := { toList := [] } }, Value.int IntKind.i64 (0 : Int)] fun (w20 : World) (p21 : Option Addr) (k22
  k23 : Nat) => Calls Proofs.Tryd.prog (15 : Nat) { toList := [Value.slice p21 k22 k23] } w20 fun (e24 : Ending) (w25 : World) => ∃ (p26 :
  Option Addr), ∃ (k27 : Nat), ∃ (k28 : Nat), ∃ (n29 : Int), e24 = Ending.returned (Value.tuple { toList := [Value.slice p26 k27 k28, Value.int IntKind.i64 n29] })
  ∧ Keep [k1, k19] w20 w25 ∧ y2 p26 k27 k28 w25) ∧ ∀ (k30 : Nat) (w31 : World), Step w w31 [] [k30, k1] → Calls Proofs.Tryd.prog (16 : Nat)
  { toList := [Value.slice p9 k10 k11] } w31 fun (e33 : Ending) (w34 : World) => ∃ (p35 : Option Addr), ∃ (k36 : Nat), ∃ (k37 : Nat), e33 =
  Ending.returned (Value.slice p35 k36 k37) ∧ Keep [k1, k30] w31 w34 ∧ appendP true [] [] [k1, k30] w34 p35 k36 k37 1 (spl (reps [Value.bool
  false, Value.string { data := { toList := [] } }, Value.int IntKind.i64 (0 : Int)] 1) 0 [Value.bool pText, Value.string pS, Value.int
  IntKind.i64 pN]) 3 32 [Value.bool false, Value.string { data := { toList := [] } }, Value.int IntKind.i64 (0 : Int)] fun (w38 : World)
  (p39 : Option Addr) (k40 k41 : Nat) => Calls Proofs.Tryd.prog (15 : Nat) { toList := [Value.slice p39 k40 k41] } w38 fun (e42 : Ending)
  (w43 : World) => ∃ (p44 : Option Addr), ∃ (k45 : Nat), ∃ (k46 : Nat), ∃ (n47 : Int), e42 = Ending.returned (Value.tuple { toList := [Value.slice p44 k45 k46, Value.int IntKind.i64 n47] })
  ∧ Keep [k1, k30] w38 w43 ∧ y2 p44 k45 k46 w43

theorem rhizomelaw01_KeyBetween_1.link {pText : Bool} {pS : ByteArray} {pN : Int} {f0P : Addr} {R : Ending → World → Prop} {w : World} (h : rhizomelaw01_KeyBetween_1.vc pText pS pN f0P R w) : Calls Go.Proofs.Tryd.prog 14 #[(.agg #[.bool pText, .string pS, .int .i64 pN] : Value), .pointer (some f0P)] w R :=
  calls_of pf (fn := Go.Proofs.Tryd.f14) (ann := .s (.n) (.j ⟨[], [], [], [(4, .l (.sl))], []⟩ (.d [0]) (.s (.n) (.n)))) (mp := false) (args := [.v (.agg #[.bool pText, .string pS, .int .i64 pN]), .a f0P]) Go.Proofs.Tryd.func14 (c := Go.Proofs.Tryd.f14.body.getD .skip) (by kernel_rfl) (by kernel_rfl) (Eq.mp (by kernel_rfl) h)
theorem rhizomelaw01_KeyBetween_1.body : BodyOk Go.Proofs.Tryd.prog 14 := ⟨Go.Proofs.Tryd.f14, Go.Proofs.Tryd.func14, by kernel_rfl, pf.ng _ _ Go.Proofs.Tryd.func14⟩

/-! ### rhizome/rhizomelaw01.own: function 16 -/
def rhizomelaw01_own.vc (kA : Option Addr) (kL kC : Nat) (R : Ending → World → Prop) (w : World) : Prop := ∀ (k1 : Nat) (w2 : World), Step w
  w2 [] [k1] → Blk w2 k1 (reps [Value.bool false, Value.string { data := { toList := [] } }, Value.int IntKind.i64 (0 : Int)] 0) → ∃ (l5 :
  List Value), List.length l5 = kL * 3 ∧ Row w2 kA l5 ∧ appendP true [] [] [] w2 (some { block := k1, off := 0 }) 0 0 kL l5 3 32 [Value.bool
  false, Value.string { data := { toList := [] } }, Value.int IntKind.i64 (0 : Int)] fun (w6 : World) (p7 : Option Addr) (k8 k9 : Nat) => R
  (Ending.returned (Value.slice p7 k8 k9)) w6

theorem rhizomelaw01_own.link {kA : Option Addr} {kL kC : Nat} {R : Ending → World → Prop} {w : World} (h : rhizomelaw01_own.vc kA kL kC R w) : Calls Go.Proofs.Tryd.prog 16 #[.slice kA kL kC] w R :=
  calls_of pf (fn := Go.Proofs.Tryd.f16) (ann := .s (.n) (.s (.n) (.n))) (mp := false) (args := [.v (.slice kA kL kC)]) Go.Proofs.Tryd.func16 (c := Go.Proofs.Tryd.f16.body.getD .skip) (by kernel_rfl) (by kernel_rfl) (Eq.mp (by kernel_rfl) h)
theorem rhizomelaw01_own.body : BodyOk Go.Proofs.Tryd.prog 16 := ⟨Go.Proofs.Tryd.f16, Go.Proofs.Tryd.func16, by kernel_rfl, pf.ng _ _ Go.Proofs.Tryd.func16⟩

/-! ### rhizome/key.Num: function 17 -/
def key_Num.vc (n : Int) (R : Ending → World → Prop) (w : World) : Prop := ∀ (k1 : Nat) (w2 : World), Step w w2 [] [k1] → R (Ending.returned
  (Value.agg { toList := List.take 3 (List.drop 0 (sets [Value.bool false, Value.string { data := { toList := [] } }, Value.int IntKind.i64 (0 : Int)] 0 (spl [Value.bool false, Value.string { data := { toList := [] } }, Value.int IntKind.i64 (0 : Int)] 2 [Value.int IntKind.i64 n]))) }))
  w2

theorem key_Num.link {n : Int} {R : Ending → World → Prop} {w : World} (h : key_Num.vc n R w) : Calls Go.Proofs.Tryd.prog 17 #[.int .i64 n] w R :=
  calls_of pf (fn := Go.Proofs.Tryd.f17) (ann := .s (.n) (.s (.n) (.n))) (mp := false) (args := [.v (.int .i64 n)]) Go.Proofs.Tryd.func17 (c := Go.Proofs.Tryd.f17.body.getD .skip) (by kernel_rfl) (by kernel_rfl) (Eq.mp (by kernel_rfl) h)
theorem key_Num.body : BodyOk Go.Proofs.Tryd.prog 17 := ⟨Go.Proofs.Tryd.f17, Go.Proofs.Tryd.func17, by kernel_rfl, pf.ng _ _ Go.Proofs.Tryd.func17⟩

/-! ### rhizome/key.Str: function 18 -/
def key_Str.vc (s : ByteArray) (R : Ending → World → Prop) (w : World) : Prop := ∀ (k1 : Nat) (w2 : World), Step w w2 [] [k1] → R
  (Ending.returned (Value.agg { toList := List.take 3 (List.drop 0 (sets [Value.bool false, Value.string { data := { toList := [] } }, Value.int IntKind.i64 (0 : Int)] 0 (spl (spl [Value.bool false, Value.string { data := { toList := [] } }, Value.int IntKind.i64 (0 : Int)] 0 [Value.bool true]) 1 [Value.string s]))) }))
  w2

theorem key_Str.link {s : ByteArray} {R : Ending → World → Prop} {w : World} (h : key_Str.vc s R w) : Calls Go.Proofs.Tryd.prog 18 #[.string s] w R :=
  calls_of pf (fn := Go.Proofs.Tryd.f18) (ann := .s (.n) (.s (.n) (.n))) (mp := false) (args := [.v (.string s)]) Go.Proofs.Tryd.func18 (c := Go.Proofs.Tryd.f18.body.getD .skip) (by kernel_rfl) (by kernel_rfl) (Eq.mp (by kernel_rfl) h)
theorem key_Str.body : BodyOk Go.Proofs.Tryd.prog 18 := ⟨Go.Proofs.Tryd.f18, Go.Proofs.Tryd.func18, by kernel_rfl, pf.ng _ _ Go.Proofs.Tryd.func18⟩

end Go.Proofs.YtamaoileeipgeaaDoor.VC
