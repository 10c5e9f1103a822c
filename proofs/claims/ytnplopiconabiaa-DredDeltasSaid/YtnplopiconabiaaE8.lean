/- What is to be shown of functions' texts, printed by a program of this session's repo; that it gives the functions' contracts is checked by the kernel. -/
import Derived.Test.YtnplopiconabiaaProg
import Derived.Test.YtnplopiconabiaaPf
namespace Go.Proofs.Ytnplopiconabiaa.VC
open Go Go.V
set_option maxRecDepth 1000000
set_option linter.unusedVariables false

/-! ### (*rhizome/dred.Dred).insert: function 59 -/
def dred_Dred_insert.vc (d : Addr) (p0 : Int) (p1 : Int) (R : Ending → World → Prop) (w : World) : Prop := ∀ (k1 k2 : Nat), ∃ (ad3 : Addr),
  Value.pointer (some d) = Value.pointer (some ad3) ∧ ∃ (p4 : Option Addr), World.cell? w (Addr.add ad3 1) = some (Value.pointer p4) ∧ ∀ (w5
  : World), Step w w5 [] [k2, k1] → Calls Proofs.Try.prog (54 : Nat) { toList := [Value.pointer p4, Value.agg { toList := [Value.int IntKind.i64 p0, Value.int IntKind.i64 p1] }] }
  w5 fun (e7 : Ending) (w8 : World) => ∃ (b9 : Bool), e7 = Ending.returned (Value.bool b9) ∧ Keep [k1, k2] w5 w8 ∧ ((0 : Int) ≤ (0 : Int) ∧
  (0 : Int) < ((2 : Nat) : Int)) ∧ ∃ (ad10 : Addr), Value.pointer (some d) = Value.pointer (some ad10) ∧ ∃ (p11 : Option Addr), World.cell?
  w8 (Addr.add ad10 2) = some (Value.pointer p11) ∧ ∃ (ad12 : Addr), Value.pointer p11 = Value.pointer (some ad12) ∧ ∃ (p13 : Option Nat),
  World.cell? w8 (Addr.add ad12 1) = some (Value.map p13) ∧ ∀ (w14 : World), Step w8 w14 [] [] → Calls Proofs.Try.prog (79 : Nat) { toList := [Value.int IntKind.i64 p0, Value.map p13] }
  w14 fun (e16 : Ending) (w17 : World) => ∃ (p18 : Option Addr), ∃ (k19 : Nat), ∃ (k20 : Nat), e16 = Ending.returned (Value.slice p18 k19
  k20) ∧ Keep [k1, k2] w14 w17 ∧ ∃ (y21 : Nat → Option Addr → Nat → Nat → Int → World → Prop), ∃ (k22 : Nat), y21 k22 none 0 0 (0 : Int) w17
  ∧ ∀ (k23 : Nat) (p24 : Option Addr) (k25 k26 : Nat) (n27 : Int) (w28 : World), y21 k23 p24 k25 k26 n27 w28 → bcase (decide (n27 < (k19 :
  Int))) (∃ (ad30 : Addr), p18 = some ad30 ∧ ((0 : Int) ≤ n27 ∧ n27 < (k19 : Int)) ∧ ∃ (n31 : Int), World.cell? w28 (Addr.add ad30
  (Int.toNat n27 * 1)) = some (Value.int IntKind.i64 n31) ∧ ((0 : Int) ≤ (1 : Int) ∧ (1 : Int) < ((2 : Nat) : Int)) ∧ ∃ (ad32 : Addr),
  Value.pointer (some d) = Value.pointer (some ad32) ∧ ∃ (p33 : Option Addr), World.cell? w28 (Addr.add ad32 2) = some (Value.pointer p33) ∧
  ∃ (ad34 : Addr), Value.pointer p33 = Value.pointer (some ad34) ∧ ∃ (p35 : Option Nat), World.cell? w28 (Addr.add ad34 0) = some (Value.map
  p35) ∧ ∀ (w36 : World), Step w28 w36 [] [] → Calls Proofs.Try.prog (79 : Nat) { toList := [Value.int IntKind.i64 p1, Value.map p35] } w36
  fun (e38 : Ending) (w39 : World) => ∃ (p40 : Option Addr), ∃ (k41 : Nat), ∃ (k42 : Nat), e38 = Ending.returned (Value.slice p40 k41 k42) ∧
  Keep [k1, k2] w36 w39 ∧ ∃ (y43 : Nat → Option Addr → Nat → Nat → Int → World → Prop), ∃ (k44 : Nat), y43 k44 p24 k25 k26 (0 : Int) w39 ∧ ∀
  (k45 : Nat) (p46 : Option Addr) (k47 k48 : Nat) (n49 : Int) (w50 : World), y43 k45 p46 k47 k48 n49 w50 → bcase (decide (n49 < (k41 :
  Int))) (∀ (y52 : Option Addr → Nat → Nat → World → Prop), (∀ (p53 : Option Addr) (k54 k55 : Nat) (w56 : World), (∃ (k57 : Nat), k57 < k45
  ∧ y43 k57 p53 k54 k55 (IntKind.wrap IntKind.i64 (n49 + (1 : Int))) w56) → y52 p53 k54 k55 w56) → ∃ (ad60 : Addr), p40 = some ad60 ∧ ((0 :
  Int) ≤ n49 ∧ n49 < (k41 : Int)) ∧ ∃ (n61 : Int), World.cell? w50 (Addr.add ad60 (Int.toNat n49 * 1)) = some (Value.int IntKind.i64 n61) ∧
  ∃ (ad62 : Addr), Value.pointer (some d) = Value.pointer (some ad62) ∧ ∃ (p63 : Option Addr), World.cell? w50 (Addr.add ad62 2) = some
  (Value.pointer p63) ∧ Calls Proofs.Try.prog (55 : Nat) { toList := [Value.pointer p63, Value.agg { toList := spl (spl [Value.int IntKind.i64 (0 : Int), Value.int IntKind.i64 (0 : Int)] 0 [Value.int IntKind.i64 n31]) 1 [Value.int IntKind.i64 n61] }] }
  w50 fun (e64 : Ending) (w65 : World) => ∃ (b66 : Bool), e64 = Ending.returned (Value.bool b66) ∧ Keep [k1, k2] w50 w65 ∧ bcase (!b66) (∀
  (k67 : Nat), appendP false [] [k67] [k1, k2, k67] w65 p46 k47 k48 1 (spl (reps [Value.int IntKind.i64 (0 : Int), Value.int IntKind.i64 (0
  : Int)] 1) 0 (spl (spl [Value.int IntKind.i64 (0 : Int), Value.int IntKind.i64 (0 : Int)] 0 [Value.int IntKind.i64 n31]) 1 [Value.int
  IntKind.i64 n61])) 2 16 [Value.int IntKind.i64 (0 : Int), Value.int IntKind.i64 (0 : Int)] fun (w68 : World) (p69 : Option Addr) (k70 k71
  : Nat) => y52 p69 k70 k71 w68) (y52 p46 k47 k48 w65)) (∃ (k72 : Nat), k72 < k23 ∧ y21 k72 p46 k47 k48 (IntKind.wrap IntKind.i64 (n27 + (1
  : Int))) w50)) (Blk w28 k1 [Value.pointer (some d)] → Calls Proofs.Try.prog (80 : Nat) { toList := [Value.slice p24 k25 k26, Value.func (Fn.func 84) { toList := [] } { toList := [Value.pointer (some { block := k1, off := 0 })] }] }
  w28 fun (e74 : Ending) (w75 : World) => ∃ (p76 : Option Addr), ∃ (k77 : Nat), ∃ (k78 : Nat), e74 = Ending.returned (Value.slice p76 k77
  k78) ∧ Keep [k2] w28 w75 ∧ R (Ending.returned (Value.slice p76 k77 k78)) w75)

theorem dred_Dred_insert.link {d : Addr} {p0 : Int} {p1 : Int} {R : Ending → World → Prop} {w : World} (h : dred_Dred_insert.vc d p0 p1 R w) : Calls Go.Proofs.Try.prog 59 #[.pointer (some d), (.agg #[.int .i64 p0, .int .i64 p1] : Value)] w R :=
  calls_of pf (fn := Go.Proofs.Try.f59) (ann := .s (.n) (.s (.d [0, 1]) (.s (.n) (.s (.s (.d [0, 1]) (.b (.l ⟨[], [], [0, 1], [(5, .l (.sl)), (27, .l (.i .i64))], []⟩ (.s (.n) (.s (.c (.n) (.n)) (.s (.b (.s (.n) (.s (.d [0, 1]) (.b (.l ⟨[], [], [0, 1], [(5, .l (.sl)), (42, .l (.i .i64))], []⟩ (.s (.n) (.s (.c (.n) (.n)) (.j ⟨[], [], [0, 1], [(5, .l (.sl))], []⟩ (.b (.s (.n) (.s (.n) (.c (.n) (.n))))) (.n))))))))) (.n))))))) (.s (.n) (.n)))))) (mp := false) (args := [.a d, .v (.agg #[.int .i64 p0, .int .i64 p1])]) Go.Proofs.Try.func59 (c := Go.Proofs.Try.f59.body.getD .skip) (by kernel_rfl) (by kernel_rfl) (Eq.mp (by kernel_rfl) h)
theorem dred_Dred_insert.body : BodyOk Go.Proofs.Try.prog 59 := ⟨Go.Proofs.Try.f59, Go.Proofs.Try.func59, by kernel_rfl, pf.ng _ _ Go.Proofs.Try.func59⟩

end Go.Proofs.Ytnplopiconabiaa.VC
