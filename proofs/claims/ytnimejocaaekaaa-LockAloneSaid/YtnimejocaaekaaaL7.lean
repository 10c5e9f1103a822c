/- What is to be shown of functions' texts, printed by a program of this session's repo; that it gives the functions' contracts is checked by the kernel. -/
import Derived.Test.YtnimejocaaekaaaProg
import Derived.Test.YtnimejocaaekaaaPf
namespace Go.Proofs.Ytnimejocaaekaaa.VC
open Go Go.V
set_option maxRecDepth 1000000
set_option linter.unusedVariables false

/-! ### rhizome/rhizomelaw16.LockServed: function 7 -/
def rhizomelaw16_LockServed.vc (scriptA : Option Addr) (scriptL scriptC : Nat) (R : Ending → World → Prop) (w : World) : Prop := Calls
  Proofs.Try.prog (9 : Nat) { toList := [] } w fun (e1 : Ending) (w2 : World) => ∃ (p3 : Option Addr), e1 = Ending.returned (Value.pointer
  p3) ∧ ∀ (y4 : Bool → World → Prop), (∀ (b5 : Bool) (w6 : World), bcase b5 (R (Ending.returned (Value.bool false)) w6) (∃ (y7 : Nat → Int →
  World → Prop), ∃ (k8 : Nat), y7 k8 (0 : Int) w6 ∧ ∀ (k9 : Nat) (n10 : Int) (w11 : World), y7 k9 n10 w11 → ∀ (y13 : Bool → World → Prop),
  (∀ (b14 : Bool) (w15 : World), bcase b14 (∃ (ad16 : Addr), scriptA = some ad16 ∧ ((0 : Int) ≤ n10 ∧ n10 < (scriptL : Int)) ∧ ∃ (b17 :
  Bool), ∃ (n18 : Int), ∃ (n19 : Int), ∃ (b20 : Bool), (World.cell? w15 (Addr.add (Addr.add ad16 (Int.toNat n10 * 4)) 0) = some (Value.bool
  b17) ∧ World.cell? w15 (Addr.add (Addr.add ad16 (Int.toNat n10 * 4)) 1) = some (Value.int IntKind.i64 n18) ∧ World.cell? w15 (Addr.add
  (Addr.add ad16 (Int.toNat n10 * 4)) 2) = some (Value.int IntKind.i64 n19) ∧ World.cell? w15 (Addr.add (Addr.add ad16 (Int.toNat n10 * 4))
  3) = some (Value.bool b20) ∧ True) ∧ ∀ (k21 : Nat), (16 : Int) ≠ (0 : Int) ∧ (6 : Int) ≠ (0 : Int) ∧ ∀ (w22 : World), Step w15 w22 []
  [k21] → Calls Proofs.Try.prog (12 : Nat) { toList := [Value.pointer p3, Value.int IntKind.i64 (IntKind.wrap IntKind.i64 (IntKind.wrap IntKind.i64 (Int.tmod (IntKind.wrap IntKind.u64 n18) (16 : Int)) + (1 : Int))), Value.int IntKind.i64 (IntKind.wrap IntKind.i64 (Int.tmod (IntKind.wrap IntKind.u64 n19) (6 : Int))), Value.bool b20] }
  w22 fun (e24 : Ending) (w25 : World) => ∃ (n26 : Int), e24 = Ending.returned (Value.int IntKind.i64 n26) ∧ Keep [k21] w22 w25 ∧ ∃ (k27 :
  Nat), k27 < k9 ∧ y7 k27 (IntKind.wrap IntKind.i64 (n10 + (1 : Int))) w25) (∃ (y28 : Nat → Int → Int → World → Prop), ∃ (k29 : Nat), y28
  k29 (0 : Int) (1 : Int) w15 ∧ ∀ (k30 : Nat) (n31 n32 : Int) (w33 : World), y28 k30 n31 n32 w33 → bcase (decide (n32 ≤ (16 : Int))) (∀ (y35
  : Int → World → Prop), (∀ (n36 : Int) (w37 : World), (∃ (k38 : Nat), k38 < k30 ∧ y28 k38 n36 (IntKind.wrap IntKind.i64 (n32 + (1 : Int)))
  w37) → y35 n36 w37) → Calls Proofs.Try.prog (14 : Nat) { toList := [Value.pointer p3, Value.int IntKind.i64 n32] } w33 fun (e41 : Ending)
  (w42 : World) => ∃ (n43 : Int), ∃ (b44 : Bool), ∃ (b45 : Bool), e41 = Ending.returned (Value.tuple { toList := [Value.int IntKind.i64 n43, Value.bool b44, Value.bool b45] })
  ∧ bcase b45 (y35 (IntKind.wrap IntKind.i64 (n31 + (1 : Int))) w42) (y35 n31 w42)) (∃ (y46 : Nat → Int → Int → World → Prop), ∃ (k47 :
  Nat), y46 k47 n31 (0 : Int) w33 ∧ ∀ (k48 : Nat) (n49 n50 : Int) (w51 : World), y46 k48 n49 n50 w51 → bcase (decide (n50 < (40 : Int))) (∃
  (y53 : Nat → Int → Int → World → Prop), ∃ (k54 : Nat), y53 k54 n49 (1 : Int) w51 ∧ ∀ (k55 : Nat) (n56 n57 : Int) (w58 : World), y53 k55
  n56 n57 w58 → bcase (decide (n57 ≤ (16 : Int))) (∀ (y60 : Int → World → Prop), (∀ (n61 : Int) (w62 : World), (∃ (k63 : Nat), k63 < k55 ∧
  y53 k63 n61 (IntKind.wrap IntKind.i64 (n57 + (1 : Int))) w62) → y60 n61 w62) → Calls Proofs.Try.prog (14 : Nat) { toList := [Value.pointer p3, Value.int IntKind.i64 n57] }
  w58 fun (e66 : Ending) (w67 : World) => ∃ (n68 : Int), ∃ (b69 : Bool), ∃ (b70 : Bool), e66 = Ending.returned (Value.tuple { toList := [Value.int IntKind.i64 n68, Value.bool b69, Value.bool b70] })
  ∧ ∀ (y71 : Bool → World → Prop), (∀ (b72 : Bool) (w73 : World), bcase b72 (y60 n56 w73) (Calls Proofs.Try.prog (13 : Nat) { toList := [Value.pointer p3, Value.int IntKind.i64 n57] }
  w73 fun (e74 : Ending) (w75 : World) => ∃ (p76 : Option Addr), ∃ (k77 : Nat), ∃ (k78 : Nat), ∃ (n79 : Int), e74 = Ending.returned
  (Value.tuple { toList := [Value.slice p76 k77 k78, Value.int IntKind.i64 n79] }) ∧ bcase (!decide (n79 = (0 : Int))) (R (Ending.returned
  (Value.bool false)) w75) (∀ (y80 : Int → World → Prop), (∀ (n81 : Int) (w82 : World), y60 (IntKind.wrap IntKind.i64 (n81 - (k77 : Int)))
  w82 → y80 n81 w82) → bcase b70 (y80 (IntKind.wrap IntKind.i64 (n56 - (1 : Int))) w75) (y80 n56 w75))) → y71 b72 w73) → bcase b70 (y71
  (decide (n50 < (20 : Int))) w67) (y71 false w67)) (∃ (k87 : Nat), k87 < k48 ∧ y46 k87 n56 (IntKind.wrap IntKind.i64 (n50 + (1 : Int)))
  w58)) (∃ (y88 : Nat → Int → World → Prop), ∃ (k89 : Nat), y88 k89 (1 : Int) w51 ∧ ∀ (k90 : Nat) (n91 : Int) (w92 : World), y88 k90 n91 w92
  → bcase (decide (n91 ≤ (16 : Int))) (Calls Proofs.Try.prog (14 : Nat) { toList := [Value.pointer p3, Value.int IntKind.i64 n91] } w92 fun
  (e94 : Ending) (w95 : World) => ∃ (n96 : Int), ∃ (b97 : Bool), ∃ (b98 : Bool), e94 = Ending.returned (Value.tuple { toList := [Value.int IntKind.i64 n96, Value.bool b97, Value.bool b98] })
  ∧ bcase b98 (R (Ending.returned (Value.bool false)) w95) (∃ (y99 : Nat → Int → World → Prop), ∃ (k100 : Nat), y99 k100 (0 : Int) w95 ∧ ∀
  (k101 : Nat) (n102 : Int) (w103 : World), y99 k101 n102 w103 → bcase (decide (n102 < (6 : Int))) (Calls Proofs.Try.prog (15 : Nat) { toList := [Value.pointer p3, Value.int IntKind.i64 n91, Value.int IntKind.i64 n102] }
  w103 fun (e105 : Ending) (w106 : World) => ∃ (b107 : Bool), ∃ (b108 : Bool), e105 = Ending.returned (Value.tuple { toList := [Value.bool b107, Value.bool b108] })
  ∧ bcase b107 (R (Ending.returned (Value.bool false)) w106) (∃ (k109 : Nat), k109 < k101 ∧ y99 k109 (IntKind.wrap IntKind.i64 (n102 + (1 :
  Int))) w106)) (∃ (k110 : Nat), k110 < k90 ∧ y88 k110 (IntKind.wrap IntKind.i64 (n91 + (1 : Int))) w103))) (∀ (y111 : Bool → World → Prop),
  (∀ (b112 : Bool) (w113 : World), R (Ending.returned (Value.bool b112)) w113 → y111 b112 w113) → bcase (decide (n49 = (0 : Int))) (Calls
  Proofs.Try.prog (21 : Nat) { toList := [Value.pointer p3] } w92 fun (e116 : Ending) (w117 : World) => ∃ (p118 : Option Addr), ∃ (k119 :
  Nat), ∃ (k120 : Nat), e116 = Ending.returned (Value.slice p118 k119 k120) ∧ y111 (decide ((k119 : Int) = (0 : Int))) w117) (y111 false
  w92))))) → y13 b14 w15) → bcase (decide (n10 < (scriptL : Int))) (y13 (decide (n10 < (80 : Int))) w11) (y13 false w11)) → y4 b5 w6) →
  Calls Proofs.Try.prog (10 : Nat) { toList := [] } w2 fun (e125 : Ending) (w126 : World) => ∃ (b127 : Bool), e125 = Ending.returned
  (Value.bool b127) ∧ bcase (!b127) (y4 true w126) (y4 (Option.isNone p3) w126)

theorem rhizomelaw16_LockServed.link {scriptA : Option Addr} {scriptL scriptC : Nat} {R : Ending → World → Prop} {w : World} (h : rhizomelaw16_LockServed.vc scriptA scriptL scriptC R w) : Calls Go.Proofs.Try.prog 7 #[.slice scriptA scriptL scriptC] w R :=
  calls_of pf (fn := Go.Proofs.Try.f7) (ann := .s (.n) (.s (.n) (.s (.j ⟨[], [], [], [(31, .l (.b))], []⟩ (.n) (.c (.s (.n) (.n)) (.n))) (.s (.s (.n) (.b (.l ⟨[], [], [], [(4, .l (.i .i64))], []⟩ (.s (.j ⟨[], [], [], [(39, .l (.b))], []⟩ (.n) (.c (.n) (.n))) (.s (.b (.s (.n) (.n))) (.n)))))) (.s (.n) (.s (.s (.n) (.b (.l ⟨[], [], [], [(6, .l (.i .i64)), (7, .l (.i .i64))], []⟩ (.s (.s (.n) (.c (.n) (.n))) (.j ⟨[], [], [], [(6, .l (.i .i64))], []⟩ (.b (.s (.n) (.s (.n) (.c (.n) (.n))))) (.n)))))) (.s (.s (.n) (.b (.l ⟨[], [], [], [(6, .l (.i .i64)), (11, .l (.i .i64))], []⟩ (.s (.s (.n) (.c (.n) (.n))) (.s (.b (.s (.n) (.b (.l ⟨[], [], [], [(6, .l (.i .i64)), (12, .l (.i .i64))], []⟩ (.s (.s (.n) (.c (.n) (.n))) (.j ⟨[], [], [], [(6, .l (.i .i64))], []⟩ (.b (.s (.n) (.s (.j ⟨[], [], [], [(94, .l (.b))], []⟩ (.n) (.c (.n) (.n))) (.s (.n) (.s (.s (.n) (.c (.s (.n) (.n)) (.n))) (.j ⟨[], [], [], [(6, .l (.i .i64))], []⟩ (.s (.n) (.c (.n) (.n))) (.n))))))) (.n))))))) (.n)))))) (.s (.s (.n) (.b (.l ⟨[], [], [], [(18, .l (.i .i64))], []⟩ (.s (.s (.n) (.c (.n) (.n))) (.s (.b (.s (.s (.n) (.s (.n) (.c (.s (.n) (.n)) (.n)))) (.s (.n) (.b (.l ⟨[], [], [], [(22, .l (.i .i64))], []⟩ (.s (.s (.n) (.c (.n) (.n))) (.s (.b (.s (.n) (.s (.n) (.c (.s (.n) (.n)) (.n))))) (.n)))))))) (.n)))))) (.j ⟨[], [], [], [(2, .l (.b))], []⟩ (.n) (.n)))))))))) (mp := false) (args := [.v (.slice scriptA scriptL scriptC)]) Go.Proofs.Try.func7 (c := Go.Proofs.Try.f7.body.getD .skip) (by kernel_rfl) (by kernel_rfl) (Eq.mp (by kernel_rfl) h)
theorem rhizomelaw16_LockServed.body : BodyOk Go.Proofs.Try.prog 7 := ⟨Go.Proofs.Try.f7, Go.Proofs.Try.func7, by kernel_rfl, pf.ng _ _ Go.Proofs.Try.func7⟩

end Go.Proofs.Ytnimejocaaekaaa.VC
