/- What is to be shown of functions' texts, printed by a program of this session's repo; that it gives the functions' contracts is checked by the kernel. -/
import Derived.Test.YtnplopiconabiaaProg
import Derived.Test.YtnplopiconabiaaPf
namespace Go.Proofs.Ytnplopiconabiaa.VC
open Go Go.V
set_option maxRecDepth 1000000
set_option linter.unusedVariables false

/-! ### rhizome/span.next: function 37 -/
def span_next.vc (label : ByteArray) (edgesA : Option Addr) (edgesL edgesC : Nat) (R : Ending → World → Prop) (w : World) : Prop := ∀ (w1 :
  World) (k2 : Nat), Step w w1 [] [k2] → (World.heap w1)[k2]? = some (Obj.map { toList := [] } 0) → ∃ (y5 : Nat → Int → World → Prop), ∃ (k6
  : Nat), y5 k6 (0 : Int) w1 ∧ ∀ (k7 : Nat) (n8 : Int) (w9 : World), y5 k7 n8 w9 → bcase (decide (n8 < (edgesL : Int))) (∀ (y11 : World →
  Prop), (∀ (w12 : World), (∃ (k13 : Nat), k13 < k7 ∧ y5 k13 (IntKind.wrap IntKind.i64 (n8 + (1 : Int))) w12) → y11 w12) → ∃ (ad16 : Addr),
  edgesA = some ad16 ∧ ((0 : Int) ≤ n8 ∧ n8 < (edgesL : Int)) ∧ ∃ (n17 : Int), ∃ (s18 : ByteArray), ∃ (n19 : Int), (World.cell? w9 (Addr.add
  (Addr.add ad16 (Int.toNat n8 * 3)) 0) = some (Value.int IntKind.i64 n17) ∧ World.cell? w9 (Addr.add (Addr.add ad16 (Int.toNat n8 * 3)) 1)
  = some (Value.string s18) ∧ World.cell? w9 (Addr.add (Addr.add ad16 (Int.toNat n8 * 3)) 2) = some (Value.int IntKind.i64 n19) ∧ True) ∧ ∀
  (k20 : Nat), bcase (decide (s18 = label)) (∃ (l21 : List (Int × Value)), MapO (Value.int IntKind.i64) w9 (some k2) l21 ∧ ∃ (p22 : Option
  Addr), ∃ (k23 : Nat), ∃ (k24 : Nat), (∃ (b25 : Bool), LookRel l21 n17 (Value.slice none 0 0) (Value.slice p22 k23 k24) b25) ∧ ∀ (k26 :
  Nat), appendP false [] [k26, k20] [k20, k26] w9 p22 k23 k24 1 (spl (reps [Value.int IntKind.i64 (0 : Int)] 1) 0 [Value.int IntKind.i64
  n19]) 1 8 [Value.int IntKind.i64 (0 : Int)] fun (w27 : World) (p28 : Option Addr) (k29 k30 : Nat) => ∃ (k31 : Nat), ∃ (l32 : List (Int ×
  Value)), some k2 = some k31 ∧ MapG (Value.int IntKind.i64) w27 k31 l32 ∧ ∀ (w33 : World), MUpd (Value.int IntKind.i64) w27 w33 k31 (updM
  l32 n17 (Value.slice p28 k29 k30)) → y11 w33) (∀ (w35 : World), Step w9 w35 [] [k20] → y11 w35)) (∃ (l37 : List (Int × Value)), MapO
  (Value.int IntKind.i64) w9 (some k2) l37 ∧ ∀ (w38 : World) (k39 : Nat), Step w9 w38 [] [k39] → IterO (Value.int IntKind.i64) w38 k39 (some
  k2) l37 [] → ∃ (y42 : Nat → World → Prop), ∃ (k43 : Nat), y42 k43 w38 ∧ ∀ (k44 : Nat) (w45 : World), y42 k44 w45 → ∃ (p47 : Option Nat), ∃
  (l48 : List (Int × Value)), ∃ (l49 : List Int), IterO (Value.int IntKind.i64) w45 k39 p47 l48 l49 ∧ (∀ (y50 : Int × Value), y50 ∈ l48 →
  IsT Proofs.Try.prog 31 (Prod.snd y50)) ∧ (∀ (n52 : Int) (p53 : Option Addr) (k54 k55 : Nat), (n52, Value.slice p53 k54 k55) ∈ l48 → ¬n52 ∈
  l49 → ∀ (w58 : World), IStep w45 w58 k39 → IterO (Value.int IntKind.i64) w58 k39 p47 l48 (n52 :: l49) → Cur Proofs.Try.prog w58 k39
  (Value.int IntKind.i64 n52) (Value.slice p53 k54 k55) → bcase true (∃ (n62 : Int), ∃ (p63 : Option Addr), ∃ (k64 : Nat), ∃ (k65 : Nat),
  Cur Proofs.Try.prog w58 k39 (Value.int IntKind.i64 n62) (Value.slice p63 k64 k65) ∧ Calls Proofs.Try.prog (67 : Nat) { toList := [Value.slice p63 k64 k65] }
  w58 fun (e66 : Ending) (w67 : World) => e66 = Ending.returned (Value.tuple { toList := [] }) ∧ Calls Proofs.Try.prog (68 : Nat) { toList := [Value.slice p63 k64 k65] }
  w67 fun (e68 : Ending) (w69 : World) => ∃ (p70 : Option Addr), ∃ (k71 : Nat), ∃ (k72 : Nat), e68 = Ending.returned (Value.slice p70 k71
  k72) ∧ ∃ (k73 : Nat), ∃ (l74 : List (Int × Value)), some k2 = some k73 ∧ MapG (Value.int IntKind.i64) w69 k73 l74 ∧ ∀ (w75 : World), MUpd
  (Value.int IntKind.i64) w69 w75 k73 (updM l74 n62 (Value.slice p70 k71 k72)) → ∃ (k77 : Nat), k77 < k44 ∧ y42 k77 w75) (R (Ending.returned
  (Value.map (some k2))) w58)) ∧ ((∀ (y78 : Int × Value), y78 ∈ l48 → Prod.fst y78 ∈ l49) → ∀ (w81 : World), IStep w45 w81 k39 → IterO
  (Value.int IntKind.i64) w81 k39 p47 l48 l49 → bcase false (∃ (n84 : Int), ∃ (p85 : Option Addr), ∃ (k86 : Nat), ∃ (k87 : Nat), Cur
  Proofs.Try.prog w81 k39 (Value.int IntKind.i64 n84) (Value.slice p85 k86 k87) ∧ Calls Proofs.Try.prog (67 : Nat) { toList := [Value.slice p85 k86 k87] }
  w81 fun (e88 : Ending) (w89 : World) => e88 = Ending.returned (Value.tuple { toList := [] }) ∧ Calls Proofs.Try.prog (68 : Nat) { toList := [Value.slice p85 k86 k87] }
  w89 fun (e90 : Ending) (w91 : World) => ∃ (p92 : Option Addr), ∃ (k93 : Nat), ∃ (k94 : Nat), e90 = Ending.returned (Value.slice p92 k93
  k94) ∧ ∃ (k95 : Nat), ∃ (l96 : List (Int × Value)), some k2 = some k95 ∧ MapG (Value.int IntKind.i64) w91 k95 l96 ∧ ∀ (w97 : World), MUpd
  (Value.int IntKind.i64) w91 w97 k95 (updM l96 n84 (Value.slice p92 k93 k94)) → ∃ (k99 : Nat), k99 < k44 ∧ y42 k99 w97) (R (Ending.returned
  (Value.map (some k2))) w81)))

theorem span_next.link {label : ByteArray} {edgesA : Option Addr} {edgesL edgesC : Nat} {R : Ending → World → Prop} {w : World} (h : span_next.vc label edgesA edgesL edgesC R w) : Calls Go.Proofs.Try.prog 37 #[.string label, .slice edgesA edgesL edgesC] w R :=
  calls_of pf (fn := Go.Proofs.Try.f37) (ann := .s (.n) (.s (.n) (.s (.s (.n) (.b (.l ⟨[], [], [], [(13, .l (.i .i64))], []⟩ (.s (.n) (.s (.c (.n) (.n)) (.j ⟨[], [], [], [], []⟩ (.b (.s (.n) (.s (.n) (.c (.d [0]) (.n))))) (.n))))))) (.s (.s (.n) (.b (.l ⟨[], [], [], [], []⟩ (.s (.n) (.s (.c (.n) (.n)) (.b (.s (.n) (.s (.n) (.n))))))))) (.s (.n) (.n)))))) (mp := false) (args := [.v (.string label), .v (.slice edgesA edgesL edgesC)]) Go.Proofs.Try.func37 (c := Go.Proofs.Try.f37.body.getD .skip) (by kernel_rfl) (by kernel_rfl) (Eq.mp (by kernel_rfl) h)
theorem span_next.body : BodyOk Go.Proofs.Try.prog 37 := ⟨Go.Proofs.Try.f37, Go.Proofs.Try.func37, by kernel_rfl, pf.ng _ _ Go.Proofs.Try.func37⟩

/-! ### rhizome/span.reached: function 40 -/
def span_reached.vc (to : Option Nat) (from0 : Int) (R : Ending → World → Prop) (w : World) : Prop := ∀ (w1 : World) (k2 : Nat), Step w w1
  [] [k2] → (World.heap w1)[k2]? = some (Obj.map { toList := [] } 0) → ∃ (l5 : List (Int × Value)), MapO (Value.int IntKind.i64) w1 to l5 ∧
  ∃ (p6 : Option Addr), ∃ (k7 : Nat), ∃ (k8 : Nat), (∃ (b9 : Bool), LookRel l5 from0 (Value.slice none 0 0) (Value.slice p6 k7 k8) b9) ∧
  Calls Proofs.Try.prog (71 : Nat) { toList := [Value.slice p6 k7 k8] } w1 fun (e10 : Ending) (w11 : World) => ∃ (p12 : Option Addr), ∃ (k13
  : Nat), ∃ (k14 : Nat), e10 = Ending.returned (Value.slice p12 k13 k14) ∧ ∃ (y15 : Nat → Option Addr → Nat → Nat → World → Prop), ∃ (k16 :
  Nat), y15 k16 p12 k13 k14 w11 ∧ ∀ (k17 : Nat) (p18 : Option Addr) (k19 k20 : Nat) (w21 : World), y15 k17 p18 k19 k20 w21 → bcase (decide
  ((0 : Int) < (k19 : Int))) (∃ (ad23 : Addr), p18 = some ad23 ∧ ((0 : Int) ≤ IntKind.wrap IntKind.i64 ((k19 : Int) - (1 : Int)) ∧
  IntKind.wrap IntKind.i64 ((k19 : Int) - (1 : Int)) < (k19 : Int)) ∧ ∃ (n24 : Int), World.cell? w21 (Addr.add ad23 (Int.toNat (IntKind.wrap
  IntKind.i64 ((k19 : Int) - (1 : Int))) * 1)) = some (Value.int IntKind.i64 n24) ∧ ((0 : Int) ≤ (0 : Int) ∧ (0 : Int) ≤ IntKind.wrap
  IntKind.i64 ((k19 : Int) - (1 : Int)) ∧ IntKind.wrap IntKind.i64 ((k19 : Int) - (1 : Int)) ≤ (k20 : Int)) ∧ ∃ (l25 : List (Int × Value)),
  MapO (Value.int IntKind.i64) w21 (some k2) l25 ∧ ∃ (n26 : Int), (∃ (b27 : Bool), LookRel l25 n24 (Value.int IntKind.i64 (0 : Int))
  (Value.int IntKind.i64 n26) b27) ∧ ∃ (k28 : Nat), ∃ (l29 : List (Int × Value)), some k2 = some k28 ∧ MapG (Value.int IntKind.i64) w21 k28
  l29 ∧ ∀ (w30 : World), MUpd (Value.int IntKind.i64) w21 w30 k28 (updM l29 n24 (Value.int IntKind.i64 (IntKind.wrap IntKind.i64 (n26 + (1 :
  Int))))) → ∃ (l32 : List (Int × Value)), MapO (Value.int IntKind.i64) w30 (some k2) l32 ∧ ∃ (n33 : Int), (∃ (b34 : Bool), LookRel l32 n24
  (Value.int IntKind.i64 (0 : Int)) (Value.int IntKind.i64 n33) b34) ∧ bcase (decide (n33 = (1 : Int))) (∃ (l35 : List (Int × Value)), MapO
  (Value.int IntKind.i64) w30 to l35 ∧ ∃ (p36 : Option Addr), ∃ (k37 : Nat), ∃ (k38 : Nat), (∃ (b39 : Bool), LookRel l35 n24 (Value.slice
  none 0 0) (Value.slice p36 k37 k38) b39) ∧ ∃ (l40 : List Value), List.length l40 = k37 * 1 ∧ Row w30 p36 l40 ∧ appendP true [] [] [] w30
  (subA p18 0 k20 1) (Int.toNat (IntKind.wrap IntKind.i64 ((k19 : Int) - (1 : Int))) - 0) (k20 - 0) k37 l40 1 8 [Value.int IntKind.i64 (0 :
  Int)] fun (w41 : World) (p42 : Option Addr) (k43 k44 : Nat) => ∃ (k45 : Nat), k45 < k17 ∧ y15 k45 p42 k43 k44 w41) (∃ (k46 : Nat), k46 <
  k17 ∧ y15 k46 (subA p18 0 k20 1) (Int.toNat (IntKind.wrap IntKind.i64 ((k19 : Int) - (1 : Int))) - 0) (k20 - 0) w30)) (R (Ending.returned
  (Value.map (some k2))) w21)

theorem span_reached.link {to : Option Nat} {from0 : Int} {R : Ending → World → Prop} {w : World} (h : span_reached.vc to from0 R w) : Calls Go.Proofs.Try.prog 40 #[.map to, .int .i64 from0] w R :=
  calls_of pf (fn := Go.Proofs.Try.f40) (ann := .s (.n) (.s (.n) (.s (.s (.n) (.b (.l ⟨[], [], [], [(6, .l (.sl))], []⟩ (.s (.s (.n) (.c (.n) (.n))) (.b (.s (.n) (.s (.n) (.s (.n) (.s (.n) (.c (.n) (.n))))))))))) (.s (.n) (.n))))) (mp := false) (args := [.v (.map to), .v (.int .i64 from0)]) Go.Proofs.Try.func40 (c := Go.Proofs.Try.f40.body.getD .skip) (by kernel_rfl) (by kernel_rfl) (Eq.mp (by kernel_rfl) h)
theorem span_reached.body : BodyOk Go.Proofs.Try.prog 40 := ⟨Go.Proofs.Try.f40, Go.Proofs.Try.func40, by kernel_rfl, pf.ng _ _ Go.Proofs.Try.func40⟩

end Go.Proofs.Ytnplopiconabiaa.VC
