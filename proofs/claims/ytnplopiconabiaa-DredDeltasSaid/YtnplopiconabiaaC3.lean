/- What is to be shown of functions' texts, printed by a program of this session's repo; that it gives the functions' contracts is checked by the kernel. -/
import Derived.Test.YtnplopiconabiaaProg
import Derived.Test.YtnplopiconabiaaPf
namespace Go.Proofs.Ytnplopiconabiaa.VC
open Go Go.V
set_option maxRecDepth 1000000
set_option linter.unusedVariables false

/-! ### rhizome/span.Pairs: function 15 -/
def span_Pairs.vc (label : ByteArray) (edgesA : Option Addr) (edgesL edgesC : Nat) (R : Ending → World → Prop) (w : World) : Prop := Calls
  Proofs.Try.prog (36 : Nat) { toList := [Value.string label] } w fun (e1 : Ending) (w2 : World) => ∃ (b3 : Bool), e1 = Ending.returned
  (Value.bool b3) ∧ bcase b3 (R (Ending.returned (Value.tuple { toList := [Value.slice none 0 0, Value.int IntKind.i64 (1 : Int)] })) w2)
  (Calls Proofs.Try.prog (37 : Nat) { toList := [Value.string label, Value.slice edgesA edgesL edgesC] } w2 fun (e4 : Ending) (w5 : World)
  => ∃ (p6 : Option Nat), e4 = Ending.returned (Value.map p6) ∧ Calls Proofs.Try.prog (39 : Nat) { toList := [Value.map p6] } w5 fun (e7 :
  Ending) (w8 : World) => ∃ (x9 : Value), e7 = Ending.returned x9 ∧ Calls Proofs.Try.prog (38 : Nat) { toList := [x9] } w8 fun (e10 :
  Ending) (w11 : World) => ∃ (p12 : Option Addr), ∃ (k13 : Nat), ∃ (k14 : Nat), e10 = Ending.returned (Value.slice p12 k13 k14) ∧ ∃ (y15 :
  Nat → Option Addr → Nat → Nat → Int → World → Prop), ∃ (k16 : Nat), y15 k16 none 0 0 (0 : Int) w11 ∧ ∀ (k17 : Nat) (p18 : Option Addr)
  (k19 k20 : Nat) (n21 : Int) (w22 : World), y15 k17 p18 k19 k20 n21 w22 → bcase (decide (n21 < (k13 : Int))) (∃ (ad24 : Addr), p12 = some
  ad24 ∧ ((0 : Int) ≤ n21 ∧ n21 < (k13 : Int)) ∧ ∃ (n25 : Int), World.cell? w22 (Addr.add ad24 (Int.toNat n21 * 1)) = some (Value.int
  IntKind.i64 n25) ∧ Calls Proofs.Try.prog (40 : Nat) { toList := [Value.map p6, Value.int IntKind.i64 n25] } w22 fun (e26 : Ending) (w27 :
  World) => ∃ (p28 : Option Nat), e26 = Ending.returned (Value.map p28) ∧ ∃ (l29 : List (Int × Value)), MapO (Value.int IntKind.i64) w27 p28
  l29 ∧ ∀ (w30 : World) (k31 : Nat), Step w27 w30 [] [k31] → IterO (Value.int IntKind.i64) w30 k31 p28 l29 [] → ∃ (y34 : Nat → Option Addr →
  Nat → Nat → World → Prop), ∃ (k35 : Nat), y34 k35 p18 k19 k20 w30 ∧ ∀ (k36 : Nat) (p37 : Option Addr) (k38 k39 : Nat) (w40 : World), y34
  k36 p37 k38 k39 w40 → ∃ (p42 : Option Nat), ∃ (l43 : List (Int × Value)), ∃ (l44 : List Int), IterO (Value.int IntKind.i64) w40 k31 p42
  l43 l44 ∧ (∀ (y45 : Int × Value), y45 ∈ l43 → IsT Proofs.Try.prog 3 (Prod.snd y45)) ∧ (∀ (n47 n48 : Int), (n47, Value.int IntKind.i64 n48)
  ∈ l43 → ¬n47 ∈ l44 → ∀ (w51 : World), IStep w40 w51 k31 → IterO (Value.int IntKind.i64) w51 k31 p42 l43 (n47 :: l44) → Cur Proofs.Try.prog
  w51 k31 (Value.int IntKind.i64 n47) (Value.int IntKind.i64 n48) → bcase true (∃ (n55 : Int), ∃ (n56 : Int), Cur Proofs.Try.prog w51 k31
  (Value.int IntKind.i64 n55) (Value.int IntKind.i64 n56) ∧ ∀ (k57 : Nat) (w58 : World), Step w51 w58 [] [k57] → Blk w58 k57 (spl (spl (reps
  [Value.int IntKind.i64 (0 : Int)] 2) 0 [Value.int IntKind.i64 n25]) 1 [Value.int IntKind.i64 n55]) → ∀ (k61 : Nat), appendP false [] [k61]
  [k61] w58 p37 k38 k39 1 (spl (reps [Value.slice none 0 0] 1) 0 [Value.slice (some { block := k57, off := 0 }) 2 2]) 1 24 [Value.slice none
  0 0] fun (w62 : World) (p63 : Option Addr) (k64 k65 : Nat) => bcase (decide ((4000 : Int) < (k64 : Int))) (R (Ending.returned (Value.tuple
  { toList := [Value.slice none 0 0, Value.int IntKind.i64 (5 : Int)] })) w62) (∃ (k66 : Nat), k66 < k36 ∧ y34 k66 p63 k64 k65 w62)) (∃ (k67
  : Nat), k67 < k17 ∧ y15 k67 p37 k38 k39 (IntKind.wrap IntKind.i64 (n21 + (1 : Int))) w51)) ∧ ((∀ (y68 : Int × Value), y68 ∈ l43 → Prod.fst
  y68 ∈ l44) → ∀ (w71 : World), IStep w40 w71 k31 → IterO (Value.int IntKind.i64) w71 k31 p42 l43 l44 → bcase false (∃ (n74 : Int), ∃ (n75 :
  Int), Cur Proofs.Try.prog w71 k31 (Value.int IntKind.i64 n74) (Value.int IntKind.i64 n75) ∧ ∀ (k76 : Nat) (w77 : World), Step w71 w77 []
  [k76] → Blk w77 k76 (spl (spl (reps [Value.int IntKind.i64 (0 : Int)] 2) 0 [Value.int IntKind.i64 n25]) 1 [Value.int IntKind.i64 n74]) → ∀
  (k80 : Nat), appendP false [] [k80] [k80] w77 p37 k38 k39 1 (spl (reps [Value.slice none 0 0] 1) 0 [Value.slice (some
  { block := k76, off := 0 }) 2 2]) 1 24 [Value.slice none 0 0] fun (w81 : World) (p82 : Option Addr) (k83 k84 : Nat) => bcase (decide
  ((4000 : Int) < (k83 : Int))) (R (Ending.returned (Value.tuple { toList := [Value.slice none 0 0, Value.int IntKind.i64 (5 : Int)] }))
  w81) (∃ (k85 : Nat), k85 < k36 ∧ y34 k85 p82 k83 k84 w81)) (∃ (k86 : Nat), k86 < k17 ∧ y15 k86 p37 k38 k39 (IntKind.wrap IntKind.i64 (n21
  + (1 : Int))) w71))) (Calls Proofs.Try.prog (41 : Nat) { toList := [Value.slice p18 k19 k20] } w22 fun (e87 : Ending) (w88 : World) => ∃
  (p89 : Option Addr), ∃ (k90 : Nat), ∃ (k91 : Nat), e87 = Ending.returned (Value.slice p89 k90 k91) ∧ R (Ending.returned (Value.tuple { toList := [Value.slice p89 k90 k91, Value.int IntKind.i64 (0 : Int)] }))
  w88))

theorem span_Pairs.link {label : ByteArray} {edgesA : Option Addr} {edgesL edgesC : Nat} {R : Ending → World → Prop} {w : World} (h : span_Pairs.vc label edgesA edgesL edgesC R w) : Calls Go.Proofs.Try.prog 15 #[.string label, .slice edgesA edgesL edgesC] w R :=
  calls_of pf (fn := Go.Proofs.Try.f15) (ann := .s (.n) (.s (.s (.n) (.c (.s (.n) (.n)) (.n))) (.s (.n) (.s (.n) (.s (.s (.n) (.b (.l ⟨[], [], [], [(7, .l (.sl)), (20, .l (.i .i64))], []⟩ (.s (.n) (.s (.c (.n) (.n)) (.s (.b (.s (.n) (.s (.n) (.b (.l ⟨[], [], [], [(7, .l (.sl))], []⟩ (.s (.n) (.s (.c (.n) (.n)) (.b (.s (.n) (.s (.n) (.s (.n) (.c (.s (.n) (.n)) (.n))))))))))))) (.n))))))) (.s (.n) (.n))))))) (mp := false) (args := [.v (.string label), .v (.slice edgesA edgesL edgesC)]) Go.Proofs.Try.func15 (c := Go.Proofs.Try.f15.body.getD .skip) (by kernel_rfl) (by kernel_rfl) (Eq.mp (by kernel_rfl) h)
theorem span_Pairs.body : BodyOk Go.Proofs.Try.prog 15 := ⟨Go.Proofs.Try.f15, Go.Proofs.Try.func15, by kernel_rfl, pf.ng _ _ Go.Proofs.Try.func15⟩

/-! ### rhizome/span.Rings: function 22 -/
def span_Rings.vc (label : ByteArray) (edgesA : Option Addr) (edgesL edgesC : Nat) (R : Ending → World → Prop) (w : World) : Prop := Calls
  Proofs.Try.prog (36 : Nat) { toList := [Value.string label] } w fun (e1 : Ending) (w2 : World) => ∃ (b3 : Bool), e1 = Ending.returned
  (Value.bool b3) ∧ bcase b3 (R (Ending.returned (Value.tuple { toList := [Value.slice none 0 0, Value.int IntKind.i64 (1 : Int)] })) w2)
  (Calls Proofs.Try.prog (37 : Nat) { toList := [Value.string label, Value.slice edgesA edgesL edgesC] } w2 fun (e4 : Ending) (w5 : World)
  => ∃ (p6 : Option Nat), e4 = Ending.returned (Value.map p6) ∧ ∀ (w7 : World) (k8 : Nat), Step w5 w7 [] [k8] → (World.heap w7)[k8]? = some
  (Obj.map { toList := [] } 0) → Calls Proofs.Try.prog (39 : Nat) { toList := [Value.map p6] } w7 fun (e11 : Ending) (w12 : World) => ∃ (x13
  : Value), e11 = Ending.returned x13 ∧ Calls Proofs.Try.prog (38 : Nat) { toList := [x13] } w12 fun (e14 : Ending) (w15 : World) => ∃ (p16
  : Option Addr), ∃ (k17 : Nat), ∃ (k18 : Nat), e14 = Ending.returned (Value.slice p16 k17 k18) ∧ ∃ (y19 : Nat → Option Addr → Nat → Nat →
  Int → World → Prop), ∃ (k20 : Nat), y19 k20 none 0 0 (0 : Int) w15 ∧ ∀ (k21 : Nat) (p22 : Option Addr) (k23 k24 : Nat) (n25 : Int) (w26 :
  World), y19 k21 p22 k23 k24 n25 w26 → bcase (decide (n25 < (k17 : Int))) (∀ (y28 : Option Addr → Nat → Nat → World → Prop), (∀ (p29 :
  Option Addr) (k30 k31 : Nat) (w32 : World), (∃ (k33 : Nat), k33 < k21 ∧ y19 k33 p29 k30 k31 (IntKind.wrap IntKind.i64 (n25 + (1 : Int)))
  w32) → y28 p29 k30 k31 w32) → ∃ (ad36 : Addr), p16 = some ad36 ∧ ((0 : Int) ≤ n25 ∧ n25 < (k17 : Int)) ∧ ∃ (n37 : Int), World.cell? w26
  (Addr.add ad36 (Int.toNat n25 * 1)) = some (Value.int IntKind.i64 n37) ∧ Calls Proofs.Try.prog (40 : Nat) { toList := [Value.map p6, Value.int IntKind.i64 n37] }
  w26 fun (e38 : Ending) (w39 : World) => ∃ (p40 : Option Nat), e38 = Ending.returned (Value.map p40) ∧ ∀ (y41 : Bool → World → Prop), (∀
  (b42 : Bool) (w43 : World), bcase b42 (y28 p22 k23 k24 w43) (Calls Proofs.Try.prog (50 : Nat) { toList := [Value.map p40] } w43 fun (e44 :
  Ending) (w45 : World) => ∃ (x46 : Value), e44 = Ending.returned x46 ∧ Calls Proofs.Try.prog (38 : Nat) { toList := [x46] } w45 fun (e47 :
  Ending) (w48 : World) => ∃ (p49 : Option Addr), ∃ (k50 : Nat), ∃ (k51 : Nat), e47 = Ending.returned (Value.slice p49 k50 k51) ∧ ∃ (y52 :
  Nat → Option Addr → Nat → Nat → Int → World → Prop), ∃ (k53 : Nat), y52 k53 none 0 0 (0 : Int) w48 ∧ ∀ (k54 : Nat) (p55 : Option Addr)
  (k56 k57 : Nat) (n58 : Int) (w59 : World), y52 k54 p55 k56 k57 n58 w59 → bcase (decide (n58 < (k50 : Int))) (∀ (y61 : Option Addr → Nat →
  Nat → World → Prop), (∀ (p62 : Option Addr) (k63 k64 : Nat) (w65 : World), (∃ (k66 : Nat), k66 < k54 ∧ y52 k66 p62 k63 k64 (IntKind.wrap
  IntKind.i64 (n58 + (1 : Int))) w65) → y61 p62 k63 k64 w65) → ∃ (ad69 : Addr), p49 = some ad69 ∧ ((0 : Int) ≤ n58 ∧ n58 < (k50 : Int)) ∧ ∃
  (n70 : Int), World.cell? w59 (Addr.add ad69 (Int.toNat n58 * 1)) = some (Value.int IntKind.i64 n70) ∧ Calls Proofs.Try.prog (40 : Nat) { toList := [Value.map p6, Value.int IntKind.i64 n70] }
  w59 fun (e71 : Ending) (w72 : World) => ∃ (p73 : Option Nat), e71 = Ending.returned (Value.map p73) ∧ ∃ (l74 : List (Int × Value)), MapO
  (Value.int IntKind.i64) w72 p73 l74 ∧ ∃ (n75 : Int), (∃ (b76 : Bool), LookRel l74 n37 (Value.int IntKind.i64 (0 : Int)) (Value.int
  IntKind.i64 n75) b76) ∧ bcase (decide ((0 : Int) < n75)) (∀ (k77 : Nat), appendP false [] [k77] [k77] w72 p55 k56 k57 1 (spl (reps
  [Value.int IntKind.i64 (0 : Int)] 1) 0 [Value.int IntKind.i64 n70]) 1 8 [Value.int IntKind.i64 (0 : Int)] fun (w78 : World) (p79 : Option
  Addr) (k80 k81 : Nat) => ∃ (l82 : List (Int × Value)), MapO (Value.int IntKind.i64) w78 (some k8) l82 ∧ ∃ (n83 : Int), (∃ (b84 : Bool),
  LookRel l82 n70 (Value.int IntKind.i64 (0 : Int)) (Value.int IntKind.i64 n83) b84) ∧ ∃ (k85 : Nat), ∃ (l86 : List (Int × Value)), some k8
  = some k85 ∧ MapG (Value.int IntKind.i64) w78 k85 l86 ∧ ∀ (w87 : World), MUpd (Value.int IntKind.i64) w78 w87 k85 (updM l86 n70 (Value.int
  IntKind.i64 (IntKind.wrap IntKind.i64 (n83 + (1 : Int))))) → y61 p79 k80 k81 w87) (y61 p55 k56 k57 w72)) (Calls Proofs.Try.prog (51 : Nat)
  { toList := [Value.slice p55 k56 k57] } w59 fun (e89 : Ending) (w90 : World) => ∃ (p91 : Option Addr), ∃ (k92 : Nat), ∃ (k93 : Nat), e89 =
  Ending.returned (Value.slice p91 k92 k93) ∧ ∀ (k94 : Nat), appendP false [] [k94] [k94] w90 p22 k23 k24 1 (spl (reps [Value.slice none 0
  0] 1) 0 [Value.slice p91 k92 k93]) 1 24 [Value.slice none 0 0] fun (w95 : World) (p96 : Option Addr) (k97 k98 : Nat) => y28 p96 k97 k98
  w95)) → y41 b42 w43) → ∃ (l101 : List (Int × Value)), MapO (Value.int IntKind.i64) w39 (some k8) l101 ∧ ∃ (n102 : Int), (∃ (b103 : Bool),
  LookRel l101 n37 (Value.int IntKind.i64 (0 : Int)) (Value.int IntKind.i64 n102) b103) ∧ bcase (decide ((0 : Int) < n102)) (y41 true w39)
  (∃ (l104 : List (Int × Value)), MapO (Value.int IntKind.i64) w39 p40 l104 ∧ ∃ (n105 : Int), (∃ (b106 : Bool), LookRel l104 n37 (Value.int
  IntKind.i64 (0 : Int)) (Value.int IntKind.i64 n105) b106) ∧ y41 (decide (n105 = (0 : Int))) w39)) (R (Ending.returned (Value.tuple { toList := [Value.slice p22 k23 k24, Value.int IntKind.i64 (0 : Int)] }))
  w26))

theorem span_Rings.link {label : ByteArray} {edgesA : Option Addr} {edgesL edgesC : Nat} {R : Ending → World → Prop} {w : World} (h : span_Rings.vc label edgesA edgesL edgesC R w) : Calls Go.Proofs.Try.prog 22 #[.string label, .slice edgesA edgesL edgesC] w R :=
  calls_of pf (fn := Go.Proofs.Try.f22) (ann := .s (.n) (.s (.s (.n) (.c (.s (.n) (.n)) (.n))) (.s (.n) (.s (.n) (.s (.n) (.s (.s (.n) (.b (.l ⟨[], [], [], [(7, .l (.sl)), (25, .l (.i .i64))], []⟩ (.s (.n) (.s (.c (.n) (.n)) (.j ⟨[], [], [], [(7, .l (.sl))], []⟩ (.b (.s (.n) (.s (.n) (.s (.j ⟨[], [], [], [(41, .l (.b))], []⟩ (.n) (.c (.n) (.n))) (.s (.n) (.s (.s (.n) (.b (.l ⟨[], [], [], [(12, .l (.sl)), (46, .l (.i .i64))], []⟩ (.s (.n) (.s (.c (.n) (.n)) (.j ⟨[], [], [], [(12, .l (.sl))], []⟩ (.b (.s (.n) (.s (.n) (.c (.s (.n) (.n)) (.n))))) (.n))))))) (.n))))))) (.n))))))) (.s (.n) (.n)))))))) (mp := false) (args := [.v (.string label), .v (.slice edgesA edgesL edgesC)]) Go.Proofs.Try.func22 (c := Go.Proofs.Try.f22.body.getD .skip) (by kernel_rfl) (by kernel_rfl) (Eq.mp (by kernel_rfl) h)
theorem span_Rings.body : BodyOk Go.Proofs.Try.prog 22 := ⟨Go.Proofs.Try.f22, Go.Proofs.Try.func22, by kernel_rfl, pf.ng _ _ Go.Proofs.Try.func22⟩

end Go.Proofs.Ytnplopiconabiaa.VC
