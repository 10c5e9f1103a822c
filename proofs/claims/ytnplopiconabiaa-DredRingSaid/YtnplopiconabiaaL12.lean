/- What is to be shown of functions' texts, printed by a program of this session's repo; that it gives the functions' contracts is checked by the kernel. -/
import Derived.Test.YtnplopiconabiaaProg
import Derived.Test.YtnplopiconabiaaPf
namespace Go.Proofs.Ytnplopiconabiaa.VC
open Go Go.V
set_option maxRecDepth 1000000
set_option linter.unusedVariables false

/-! ### rhizome/rhizomelaw14.DredRing: function 12 -/
def rhizomelaw14_DredRing.vc (n : Int) (at0 : Int) (R : Ending → World → Prop) (w : World) : Prop := Calls Proofs.Try.prog (26 : Nat) { toList := [] }
  w fun (e1 : Ending) (w2 : World) => ∃ (b3 : Bool), e1 = Ending.returned (Value.bool b3) ∧ bcase (!b3) (R (Ending.returned (Value.bool
  false)) w2) ((20 : Int) ≠ (0 : Int) ∧ IntKind.wrap IntKind.u64 (IntKind.wrap IntKind.i64 (IntKind.wrap IntKind.i64 (Int.tmod (IntKind.wrap
  IntKind.u64 n) (20 : Int)) + (1 : Int))) ≠ (0 : Int) ∧ ∃ (y4 : Nat → Option Addr → Nat → Nat → Int → World → Prop), ∃ (k5 : Nat), y4 k5
  none 0 0 (0 : Int) w2 ∧ ∀ (k6 : Nat) (p7 : Option Addr) (k8 k9 : Nat) (n10 : Int) (w11 : World), y4 k6 p7 k8 k9 n10 w11 → bcase (decide
  (n10 < IntKind.wrap IntKind.i64 (IntKind.wrap IntKind.i64 (Int.tmod (IntKind.wrap IntKind.u64 n) (20 : Int)) + (1 : Int)))) (IntKind.wrap
  IntKind.i64 (IntKind.wrap IntKind.i64 (Int.tmod (IntKind.wrap IntKind.u64 n) (20 : Int)) + (1 : Int)) ≠ (0 : Int) ∧ ∀ (k13 : Nat), appendP
  false [] [k13] [k13] w11 p7 k8 k9 1 (spl (reps [Value.int IntKind.i64 (0 : Int), Value.string { data := { toList := [] } }, Value.int
  IntKind.i64 (0 : Int)] 1) 0 (spl (spl (spl [Value.int IntKind.i64 (0 : Int), Value.string { data := { toList := [] } }, Value.int
  IntKind.i64 (0 : Int)] 0 [Value.int IntKind.i64 (IntKind.wrap IntKind.i64 (n10 + (1 : Int)))]) 1 [Value.string
  { data := { toList := [(114 : UInt8)] } }]) 2 [Value.int IntKind.i64 (IntKind.wrap IntKind.i64 (Int.tmod (IntKind.wrap IntKind.i64 (n10 +
  (1 : Int))) (IntKind.wrap IntKind.i64 (IntKind.wrap IntKind.i64 (Int.tmod (IntKind.wrap IntKind.u64 n) (20 : Int)) + (1 : Int))) + (1 :
  Int)))])) 3 32 [Value.int IntKind.i64 (0 : Int), Value.string { data := { toList := [] } }, Value.int IntKind.i64 (0 : Int)] fun (w14 :
  World) (p15 : Option Addr) (k16 k17 : Nat) => ∃ (k18 : Nat), k18 < k6 ∧ y4 k18 p15 k16 k17 (IntKind.wrap IntKind.i64 (n10 + (1 : Int)))
  w14) (Calls Proofs.Try.prog (28 : Nat) { toList := [Value.string { data := { toList := [(114 : UInt8)] } }, Value.slice p7 k8 k9] } w11
  fun (e19 : Ending) (w20 : World) => ∃ (p21 : Option Addr), ∃ (n22 : Int), e19 = Ending.returned (Value.tuple { toList := [Value.pointer p21, Value.int IntKind.i64 n22] })
  ∧ ∀ (y23 : Bool → World → Prop), (∀ (b24 : Bool) (w25 : World), bcase b24 (R (Ending.returned (Value.bool false)) w25) (((0 : Int) ≤
  IntKind.wrap IntKind.i64 (Int.tmod (IntKind.wrap IntKind.u64 at0) (IntKind.wrap IntKind.u64 (IntKind.wrap IntKind.i64 (IntKind.wrap
  IntKind.i64 (Int.tmod (IntKind.wrap IntKind.u64 n) (20 : Int)) + (1 : Int))))) ∧ IntKind.wrap IntKind.i64 (Int.tmod (IntKind.wrap
  IntKind.u64 at0) (IntKind.wrap IntKind.u64 (IntKind.wrap IntKind.i64 (IntKind.wrap IntKind.i64 (Int.tmod (IntKind.wrap IntKind.u64 n) (20
  : Int)) + (1 : Int))))) ≤ IntKind.wrap IntKind.i64 (IntKind.wrap IntKind.i64 (Int.tmod (IntKind.wrap IntKind.u64 at0) (IntKind.wrap
  IntKind.u64 (IntKind.wrap IntKind.i64 (IntKind.wrap IntKind.i64 (Int.tmod (IntKind.wrap IntKind.u64 n) (20 : Int)) + (1 : Int))))) + (1 :
  Int)) ∧ IntKind.wrap IntKind.i64 (IntKind.wrap IntKind.i64 (Int.tmod (IntKind.wrap IntKind.u64 at0) (IntKind.wrap IntKind.u64
  (IntKind.wrap IntKind.i64 (IntKind.wrap IntKind.i64 (Int.tmod (IntKind.wrap IntKind.u64 n) (20 : Int)) + (1 : Int))))) + (1 : Int)) ≤ (k9
  : Int)) ∧ Calls Proofs.Try.prog (30 : Nat) { toList := [Value.pointer p21, Value.slice (subA p7 (Int.toNat (IntKind.wrap IntKind.i64 (Int.tmod (IntKind.wrap IntKind.u64 at0) (IntKind.wrap IntKind.u64 (IntKind.wrap IntKind.i64 (IntKind.wrap IntKind.i64 (Int.tmod (IntKind.wrap IntKind.u64 n) (20 : Int)) + (1 : Int))))))) k9 3) (Int.toNat (IntKind.wrap IntKind.i64 (IntKind.wrap IntKind.i64 (Int.tmod (IntKind.wrap IntKind.u64 at0) (IntKind.wrap IntKind.u64 (IntKind.wrap IntKind.i64 (IntKind.wrap IntKind.i64 (Int.tmod (IntKind.wrap IntKind.u64 n) (20 : Int)) + (1 : Int))))) + (1 : Int))) - Int.toNat (IntKind.wrap IntKind.i64 (Int.tmod (IntKind.wrap IntKind.u64 at0) (IntKind.wrap IntKind.u64 (IntKind.wrap IntKind.i64 (IntKind.wrap IntKind.i64 (Int.tmod (IntKind.wrap IntKind.u64 n) (20 : Int)) + (1 : Int))))))) (k9 - Int.toNat (IntKind.wrap IntKind.i64 (Int.tmod (IntKind.wrap IntKind.u64 at0) (IntKind.wrap IntKind.u64 (IntKind.wrap IntKind.i64 (IntKind.wrap IntKind.i64 (Int.tmod (IntKind.wrap IntKind.u64 n) (20 : Int)) + (1 : Int))))))), Value.bool false] }
  w25 fun (e26 : Ending) (w27 : World) => ∃ (p28 : Option Addr), ∃ (k29 : Nat), ∃ (k30 : Nat), ∃ (p31 : Option Addr), ∃ (k32 : Nat), ∃ (k33
  : Nat), ∃ (n34 : Int), e26 = Ending.returned (Value.tuple { toList := [Value.agg { toList := [Value.slice p28 k29 k30, Value.slice p31 k32 k33] }, Value.int IntKind.i64 n34] })
  ∧ ∀ (k35 : Nat) (y36 : Bool → World → Prop), (∀ (b37 : Bool) (w38 : World), bcase b37 (R (Ending.returned (Value.bool false)) w38) (∃ (y39
  : Nat → Int → World → Prop), ∃ (k40 : Nat), y39 k40 (0 : Int) w38 ∧ ∀ (k41 : Nat) (n42 : Int) (w43 : World), y39 k41 n42 w43 → bcase
  (decide (n42 < IntKind.wrap IntKind.i64 (IntKind.wrap IntKind.i64 (Int.tmod (IntKind.wrap IntKind.u64 n) (20 : Int)) + (1 : Int)))) (∃
  (y45 : Nat → Int → World → Prop), ∃ (k46 : Nat), y45 k46 (0 : Int) w43 ∧ ∀ (k47 : Nat) (n48 : Int) (w49 : World), y45 k47 n48 w49 → bcase
  (decide (n48 < IntKind.wrap IntKind.i64 (IntKind.wrap IntKind.i64 (Int.tmod (IntKind.wrap IntKind.u64 n) (20 : Int)) + (1 : Int))))
  (IntKind.wrap IntKind.i64 (IntKind.wrap IntKind.i64 (Int.tmod (IntKind.wrap IntKind.u64 n) (20 : Int)) + (1 : Int)) ≠ (0 : Int) ∧
  IntKind.wrap IntKind.i64 (IntKind.wrap IntKind.i64 (Int.tmod (IntKind.wrap IntKind.u64 n) (20 : Int)) + (1 : Int)) ≠ (0 : Int) ∧ ∀ (w51 :
  World), Step w49 w51 [] [] → Calls Proofs.Try.prog (34 : Nat) { toList := [Value.pointer p21, Value.int IntKind.i64 (IntKind.wrap IntKind.i64 (Int.tmod (IntKind.wrap IntKind.i64 (IntKind.wrap IntKind.i64 (IntKind.wrap IntKind.i64 (Int.tmod (IntKind.wrap IntKind.u64 at0) (IntKind.wrap IntKind.u64 (IntKind.wrap IntKind.i64 (IntKind.wrap IntKind.i64 (Int.tmod (IntKind.wrap IntKind.u64 n) (20 : Int)) + (1 : Int))))) + (1 : Int)) + n42)) (IntKind.wrap IntKind.i64 (IntKind.wrap IntKind.i64 (Int.tmod (IntKind.wrap IntKind.u64 n) (20 : Int)) + (1 : Int))) + (1 : Int))), Value.int IntKind.i64 (IntKind.wrap IntKind.i64 (Int.tmod (IntKind.wrap IntKind.i64 (IntKind.wrap IntKind.i64 (IntKind.wrap IntKind.i64 (Int.tmod (IntKind.wrap IntKind.u64 at0) (IntKind.wrap IntKind.u64 (IntKind.wrap IntKind.i64 (IntKind.wrap IntKind.i64 (Int.tmod (IntKind.wrap IntKind.u64 n) (20 : Int)) + (1 : Int))))) + (1 : Int)) + n48)) (IntKind.wrap IntKind.i64 (IntKind.wrap IntKind.i64 (Int.tmod (IntKind.wrap IntKind.u64 n) (20 : Int)) + (1 : Int))) + (1 : Int)))] }
  w51 fun (e53 : Ending) (w54 : World) => ∃ (b55 : Bool), e53 = Ending.returned (Value.bool b55) ∧ Keep [k35] w51 w54 ∧ bcase (!b55 ==
  decide (n42 < n48)) (R (Ending.returned (Value.bool false)) w54) (∃ (k56 : Nat), k56 < k47 ∧ y45 k56 (IntKind.wrap IntKind.i64 (n48 + (1 :
  Int))) w54)) (∃ (k57 : Nat), k57 < k41 ∧ y39 k57 (IntKind.wrap IntKind.i64 (n42 + (1 : Int))) w49)) (((0 : Int) ≤ IntKind.wrap IntKind.i64
  (Int.tmod (IntKind.wrap IntKind.u64 at0) (IntKind.wrap IntKind.u64 (IntKind.wrap IntKind.i64 (IntKind.wrap IntKind.i64 (Int.tmod
  (IntKind.wrap IntKind.u64 n) (20 : Int)) + (1 : Int))))) ∧ IntKind.wrap IntKind.i64 (Int.tmod (IntKind.wrap IntKind.u64 at0) (IntKind.wrap
  IntKind.u64 (IntKind.wrap IntKind.i64 (IntKind.wrap IntKind.i64 (Int.tmod (IntKind.wrap IntKind.u64 n) (20 : Int)) + (1 : Int))))) ≤
  IntKind.wrap IntKind.i64 (IntKind.wrap IntKind.i64 (Int.tmod (IntKind.wrap IntKind.u64 at0) (IntKind.wrap IntKind.u64 (IntKind.wrap
  IntKind.i64 (IntKind.wrap IntKind.i64 (Int.tmod (IntKind.wrap IntKind.u64 n) (20 : Int)) + (1 : Int))))) + (1 : Int)) ∧ IntKind.wrap
  IntKind.i64 (IntKind.wrap IntKind.i64 (Int.tmod (IntKind.wrap IntKind.u64 at0) (IntKind.wrap IntKind.u64 (IntKind.wrap IntKind.i64
  (IntKind.wrap IntKind.i64 (Int.tmod (IntKind.wrap IntKind.u64 n) (20 : Int)) + (1 : Int))))) + (1 : Int)) ≤ (k9 : Int)) ∧ Calls
  Proofs.Try.prog (30 : Nat) { toList := [Value.pointer p21, Value.slice (subA p7 (Int.toNat (IntKind.wrap IntKind.i64 (Int.tmod (IntKind.wrap IntKind.u64 at0) (IntKind.wrap IntKind.u64 (IntKind.wrap IntKind.i64 (IntKind.wrap IntKind.i64 (Int.tmod (IntKind.wrap IntKind.u64 n) (20 : Int)) + (1 : Int))))))) k9 3) (Int.toNat (IntKind.wrap IntKind.i64 (IntKind.wrap IntKind.i64 (Int.tmod (IntKind.wrap IntKind.u64 at0) (IntKind.wrap IntKind.u64 (IntKind.wrap IntKind.i64 (IntKind.wrap IntKind.i64 (Int.tmod (IntKind.wrap IntKind.u64 n) (20 : Int)) + (1 : Int))))) + (1 : Int))) - Int.toNat (IntKind.wrap IntKind.i64 (Int.tmod (IntKind.wrap IntKind.u64 at0) (IntKind.wrap IntKind.u64 (IntKind.wrap IntKind.i64 (IntKind.wrap IntKind.i64 (Int.tmod (IntKind.wrap IntKind.u64 n) (20 : Int)) + (1 : Int))))))) (k9 - Int.toNat (IntKind.wrap IntKind.i64 (Int.tmod (IntKind.wrap IntKind.u64 at0) (IntKind.wrap IntKind.u64 (IntKind.wrap IntKind.i64 (IntKind.wrap IntKind.i64 (Int.tmod (IntKind.wrap IntKind.u64 n) (20 : Int)) + (1 : Int))))))), Value.bool true] }
  w43 fun (e58 : Ending) (w59 : World) => ∃ (p60 : Option Addr), ∃ (k61 : Nat), ∃ (k62 : Nat), ∃ (p63 : Option Addr), ∃ (k64 : Nat), ∃ (k65
  : Nat), ∃ (n66 : Int), e58 = Ending.returned (Value.tuple { toList := [Value.agg { toList := [Value.slice p60 k61 k62, Value.slice p63 k64 k65] }, Value.int IntKind.i64 n66] })
  ∧ Keep [k35] w43 w59 ∧ ∀ (k67 : Nat) (y68 : Bool → World → Prop), (∀ (b69 : Bool) (w70 : World), R (Ending.returned (Value.bool b69)) w70
  → y68 b69 w70) → bcase (decide (n66 = (0 : Int))) (∀ (w73 : World), Step w59 w73 [] [k67] → Calls Proofs.Try.prog (32 : Nat) { toList := [Value.agg { toList := List.take 2 (List.drop 0 (sets [Value.slice none 0 0, Value.slice none 0 0] 0 [Value.slice p28 k29 k30, Value.slice p31 k32 k33])) }] }
  w73 fun (e75 : Ending) (w76 : World) => ∃ (p77 : Option Addr), ∃ (k78 : Nat), ∃ (k79 : Nat), ∃ (p80 : Option Addr), ∃ (k81 : Nat), ∃ (k82
  : Nat), e75 = Ending.returned (Value.agg { toList := [Value.slice p77 k78 k79, Value.slice p80 k81 k82] }) ∧ Keep [k35, k67] w73 w76 ∧
  Calls Proofs.Try.prog (31 : Nat) { toList := [Value.agg { toList := List.take 2 (List.drop 0 (sets [Value.slice none 0 0, Value.slice none 0 0] 0 [Value.slice p60 k61 k62, Value.slice p63 k64 k65])) }, Value.agg { toList := [Value.slice p77 k78 k79, Value.slice p80 k81 k82] }] }
  w76 fun (e83 : Ending) (w84 : World) => ∃ (b85 : Bool), e83 = Ending.returned (Value.bool b85) ∧ Keep [k35, k67] w76 w84 ∧ bcase b85
  (Calls Proofs.Try.prog (29 : Nat) { toList := [Value.pointer p21] } w84 fun (e86 : Ending) (w87 : World) => ∃ (p88 : Option Addr), ∃ (k89
  : Nat), ∃ (k90 : Nat), e86 = Ending.returned (Value.slice p88 k89 k90) ∧ Keep [k35, k67] w84 w87 ∧ y68 (decide ((k89 : Int) = IntKind.wrap
  IntKind.i64 (IntKind.wrap IntKind.i64 (IntKind.wrap IntKind.i64 (Int.tmod (IntKind.wrap IntKind.u64 n) (20 : Int)) + (1 : Int)) *
  IntKind.wrap IntKind.i64 (IntKind.wrap IntKind.i64 (Int.tmod (IntKind.wrap IntKind.u64 n) (20 : Int)) + (1 : Int))))) w87) (y68 false
  w84)) (∀ (w91 : World), Step w59 w91 [] [k67] → y68 false w91))) → y36 b37 w38) → bcase (!decide (n34 = (0 : Int))) (∀ (w95 : World), Step
  w27 w95 [] [k35] → y36 true w95) (bcase (!decide ((k29 : Int) = (0 : Int))) (∀ (w97 : World), Step w27 w97 [] [k35] → y36 true w97) ((2 :
  Int) ≠ (0 : Int) ∧ bcase (!decide ((k32 : Int) = IntKind.wrap IntKind.i64 (IntKind.wrap IntKind.i64 (IntKind.wrap IntKind.i64
  (IntKind.wrap IntKind.i64 (Int.tmod (IntKind.wrap IntKind.u64 n) (20 : Int)) + (1 : Int)) * IntKind.wrap IntKind.i64 (IntKind.wrap
  IntKind.i64 (Int.tmod (IntKind.wrap IntKind.u64 n) (20 : Int)) + (1 : Int))) - IntKind.wrap IntKind.i64 (Int.tdiv (IntKind.wrap
  IntKind.i64 (IntKind.wrap IntKind.i64 (IntKind.wrap IntKind.i64 (Int.tmod (IntKind.wrap IntKind.u64 n) (20 : Int)) + (1 : Int)) *
  IntKind.wrap IntKind.i64 (IntKind.wrap IntKind.i64 (IntKind.wrap IntKind.i64 (Int.tmod (IntKind.wrap IntKind.u64 n) (20 : Int)) + (1 :
  Int)) - (1 : Int)))) (2 : Int))))) (∀ (w99 : World), Step w27 w99 [] [k35] → y36 true w99) (∀ (w101 : World), Step w27 w101 [] [k35] →
  Calls Proofs.Try.prog (29 : Nat) { toList := [Value.pointer p21] } w101 fun (e103 : Ending) (w104 : World) => ∃ (p105 : Option Addr), ∃
  (k106 : Nat), ∃ (k107 : Nat), e103 = Ending.returned (Value.slice p105 k106 k107) ∧ Keep [k35] w101 w104 ∧ (2 : Int) ≠ (0 : Int) ∧ y36
  (!decide ((k106 : Int) = IntKind.wrap IntKind.i64 (Int.tdiv (IntKind.wrap IntKind.i64 (IntKind.wrap IntKind.i64 (IntKind.wrap IntKind.i64
  (Int.tmod (IntKind.wrap IntKind.u64 n) (20 : Int)) + (1 : Int)) * IntKind.wrap IntKind.i64 (IntKind.wrap IntKind.i64 (IntKind.wrap
  IntKind.i64 (Int.tmod (IntKind.wrap IntKind.u64 n) (20 : Int)) + (1 : Int)) - (1 : Int)))) (2 : Int)))) w104)))) → y23 b24 w25) → bcase
  (!decide (n22 = (0 : Int))) (y23 true w20) (bcase (Option.isNone p21) (y23 true w20) (Calls Proofs.Try.prog (29 : Nat) { toList := [Value.pointer p21] }
  w20 fun (e110 : Ending) (w111 : World) => ∃ (p112 : Option Addr), ∃ (k113 : Nat), ∃ (k114 : Nat), e110 = Ending.returned (Value.slice p112
  k113 k114) ∧ y23 (!decide ((k113 : Int) = IntKind.wrap IntKind.i64 (IntKind.wrap IntKind.i64 (IntKind.wrap IntKind.i64 (Int.tmod
  (IntKind.wrap IntKind.u64 n) (20 : Int)) + (1 : Int)) * IntKind.wrap IntKind.i64 (IntKind.wrap IntKind.i64 (Int.tmod (IntKind.wrap
  IntKind.u64 n) (20 : Int)) + (1 : Int))))) w111))))

theorem rhizomelaw14_DredRing.link {n : Int} {at0 : Int} {R : Ending → World → Prop} {w : World} (h : rhizomelaw14_DredRing.vc n at0 R w) : Calls Go.Proofs.Try.prog 12 #[.int .i64 n, .int .i64 at0] w R :=
  calls_of pf (fn := Go.Proofs.Try.f12) (ann := .s (.n) (.s (.s (.n) (.c (.s (.n) (.n)) (.n))) (.s (.n) (.s (.n) (.s (.n) (.s (.s (.n) (.b (.l ⟨[], [], [], [(5, .l (.sl)), (6, .l (.i .i64))], []⟩ (.s (.s (.n) (.c (.n) (.n))) (.s (.b (.n)) (.n)))))) (.s (.n) (.s (.j ⟨[], [], [], [(63, .l (.b))], []⟩ (.n) (.c (.s (.n) (.n)) (.n))) (.s (.n) (.s (.j ⟨[], [], [0], [(107, .l (.b))], []⟩ (.n) (.c (.s (.n) (.n)) (.n))) (.s (.s (.n) (.b (.l ⟨[], [], [0], [(10, .l (.i .i64))], []⟩ (.s (.s (.n) (.c (.n) (.n))) (.s (.b (.s (.n) (.b (.l ⟨[], [], [0], [(11, .l (.i .i64))], []⟩ (.s (.s (.n) (.c (.n) (.n))) (.s (.b (.s (.d [0]) (.s (.n) (.c (.s (.n) (.n)) (.n))))) (.n))))))) (.n)))))) (.s (.n) (.j ⟨[], [], [], [(4, .l (.b))], []⟩ (.d [0, 1]) (.n)))))))))))))) (mp := false) (args := [.v (.int .i64 n), .v (.int .i64 at0)]) Go.Proofs.Try.func12 (c := Go.Proofs.Try.f12.body.getD .skip) (by kernel_rfl) (by kernel_rfl) (Eq.mp (by kernel_rfl) h)
theorem rhizomelaw14_DredRing.body : BodyOk Go.Proofs.Try.prog 12 := ⟨Go.Proofs.Try.f12, Go.Proofs.Try.func12, by kernel_rfl, pf.ng _ _ Go.Proofs.Try.func12⟩

end Go.Proofs.Ytnplopiconabiaa.VC
