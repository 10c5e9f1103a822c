/- What is to be shown of functions' texts, printed by a program of this session's repo; that it gives the functions' contracts is checked by the kernel. -/
import Derived.Test.YtnplopiconabiaaProg
import Derived.Test.YtnplopiconabiaaPf
namespace Go.Proofs.Ytnplopiconabiaa.VC
open Go Go.V
set_option maxRecDepth 1000000
set_option linter.unusedVariables false

/-! ### rhizome/dred.New: function 28 -/
def dred_New.vc (label : ByteArray) (edgesA : Option Addr) (edgesL edgesC : Nat) (R : Ending → World → Prop) (w : World) : Prop := Calls
  Proofs.Try.prog (15 : Nat) { toList := [Value.string label, Value.slice edgesA edgesL edgesC] } w fun (e1 : Ending) (w2 : World) => ∃ (p3
  : Option Addr), ∃ (k4 : Nat), ∃ (k5 : Nat), ∃ (n6 : Int), e1 = Ending.returned (Value.tuple { toList := [Value.slice p3 k4 k5, Value.int IntKind.i64 n6] })
  ∧ bcase (!decide (n6 = (0 : Int))) (R (Ending.returned (Value.tuple { toList := [Value.pointer none, Value.int IntKind.i64 n6] })) w2)
  (Calls Proofs.Try.prog (53 : Nat) { toList := [] } w2 fun (e7 : Ending) (w8 : World) => ∃ (p9 : Option Addr), e7 = Ending.returned
  (Value.pointer p9) ∧ Calls Proofs.Try.prog (53 : Nat) { toList := [] } w8 fun (e10 : Ending) (w11 : World) => ∃ (p12 : Option Addr), e10 =
  Ending.returned (Value.pointer p12) ∧ ∀ (k13 : Nat), ∃ (y14 : Nat → Int → World → Prop), ∃ (k15 : Nat), (∀ (w16 : World), Step w11 w16 []
  [k13] → y14 k15 (0 : Int) w16) ∧ ∀ (k18 : Nat) (n19 : Int) (w20 : World), y14 k18 n19 w20 → bcase (decide (n19 < (edgesL : Int))) (∀ (y22
  : World → Prop), (∀ (w23 : World), (∃ (k24 : Nat), k24 < k18 ∧ y14 k24 (IntKind.wrap IntKind.i64 (n19 + (1 : Int))) w23) → y22 w23) → ∃
  (ad27 : Addr), edgesA = some ad27 ∧ ((0 : Int) ≤ n19 ∧ n19 < (edgesL : Int)) ∧ ∃ (n28 : Int), ∃ (s29 : ByteArray), ∃ (n30 : Int),
  (World.cell? w20 (Addr.add (Addr.add ad27 (Int.toNat n19 * 3)) 0) = some (Value.int IntKind.i64 n28) ∧ World.cell? w20 (Addr.add (Addr.add
  ad27 (Int.toNat n19 * 3)) 1) = some (Value.string s29) ∧ World.cell? w20 (Addr.add (Addr.add ad27 (Int.toNat n19 * 3)) 2) = some
  (Value.int IntKind.i64 n30) ∧ True) ∧ ∀ (k31 : Nat), bcase (decide (s29 = label)) (∀ (w32 : World), Step w20 w32 [] [k31] → Calls
  Proofs.Try.prog (54 : Nat) { toList := [Value.pointer p9, Value.agg { toList := spl (spl [Value.int IntKind.i64 (0 : Int), Value.int IntKind.i64 (0 : Int)] 0 [Value.int IntKind.i64 n28]) 1 [Value.int IntKind.i64 n30] }] }
  w32 fun (e34 : Ending) (w35 : World) => ∃ (b36 : Bool), e34 = Ending.returned (Value.bool b36) ∧ Keep [k13, k31] w32 w35 ∧ y22 w35) (∀
  (w37 : World), Step w20 w37 [] [k31] → y22 w37)) (∃ (y39 : Nat → Int → World → Prop), ∃ (k40 : Nat), y39 k40 (0 : Int) w20 ∧ ∀ (k41 : Nat)
  (n42 : Int) (w43 : World), y39 k41 n42 w43 → bcase (decide (n42 < (k4 : Int))) (∃ (ad45 : Addr), p3 = some ad45 ∧ ((0 : Int) ≤ n42 ∧ n42 <
  (k4 : Int)) ∧ ∃ (p46 : Option Addr), ∃ (k47 : Nat), ∃ (k48 : Nat), World.cell? w43 (Addr.add ad45 (Int.toNat n42 * 1)) = some (Value.slice
  p46 k47 k48) ∧ ∃ (ad49 : Addr), p46 = some ad49 ∧ ((0 : Int) ≤ (0 : Int) ∧ (0 : Int) < (k47 : Int)) ∧ ∃ (n50 : Int), World.cell? w43
  (Addr.add ad49 0) = some (Value.int IntKind.i64 n50) ∧ ∃ (ad51 : Addr), p46 = some ad51 ∧ ((0 : Int) ≤ (1 : Int) ∧ (1 : Int) < (k47 :
  Int)) ∧ ∃ (n52 : Int), World.cell? w43 (Addr.add ad51 1) = some (Value.int IntKind.i64 n52) ∧ ∀ (w53 : World), Step w43 w53 [] [] → Calls
  Proofs.Try.prog (54 : Nat) { toList := [Value.pointer p12, Value.agg { toList := spl (spl [Value.int IntKind.i64 (0 : Int), Value.int IntKind.i64 (0 : Int)] 0 [Value.int IntKind.i64 n50]) 1 [Value.int IntKind.i64 n52] }] }
  w53 fun (e55 : Ending) (w56 : World) => ∃ (b57 : Bool), e55 = Ending.returned (Value.bool b57) ∧ Keep [k13] w53 w56 ∧ ∃ (k58 : Nat), k58 <
  k41 ∧ y39 k58 (IntKind.wrap IntKind.i64 (n42 + (1 : Int))) w56) (Blk w43 k13 (spl (spl (spl [Value.string { data := { toList := [] } },
  Value.pointer none, Value.pointer none, Value.int IntKind.i64 (0 : Int)] 0 [Value.string label]) 1 [Value.pointer p9]) 2 [Value.pointer
  p12]) → R (Ending.returned (Value.tuple { toList := [Value.pointer (some { block := k13, off := 0 }), Value.int IntKind.i64 (0 : Int)] }))
  w43)))

theorem dred_New.link {label : ByteArray} {edgesA : Option Addr} {edgesL edgesC : Nat} {R : Ending → World → Prop} {w : World} (h : dred_New.vc label edgesA edgesL edgesC R w) : Calls Go.Proofs.Try.prog 28 #[.string label, .slice edgesA edgesL edgesC] w R :=
  calls_of pf (fn := Go.Proofs.Try.f28) (ann := .s (.n) (.s (.n) (.s (.s (.n) (.c (.s (.n) (.n)) (.n))) (.s (.n) (.s (.s (.n) (.b (.l ⟨[], [], [0], [(29, .l (.i .i64))], []⟩ (.s (.n) (.s (.c (.n) (.n)) (.j ⟨[], [], [0], [], []⟩ (.b (.s (.n) (.s (.n) (.c (.d [0, 1]) (.n))))) (.n))))))) (.s (.s (.n) (.b (.l ⟨[], [], [0], [(50, .l (.i .i64))], []⟩ (.s (.n) (.s (.c (.n) (.n)) (.s (.b (.s (.n) (.d [0]))) (.n))))))) (.s (.n) (.n)))))))) (mp := false) (args := [.v (.string label), .v (.slice edgesA edgesL edgesC)]) Go.Proofs.Try.func28 (c := Go.Proofs.Try.f28.body.getD .skip) (by kernel_rfl) (by kernel_rfl) (Eq.mp (by kernel_rfl) h)
theorem dred_New.body : BodyOk Go.Proofs.Try.prog 28 := ⟨Go.Proofs.Try.f28, Go.Proofs.Try.func28, by kernel_rfl, pf.ng _ _ Go.Proofs.Try.func28⟩

/-! ### (*rhizome/dred.Dred).Read: function 29 -/
def dred_Dred_Read.vc (d : Addr) (R : Ending → World → Prop) (w : World) : Prop := ∃ (p1 : Option Addr), World.cell? w (Addr.add d 2) = some
  (Value.pointer p1) ∧ ∃ (ad2 : Addr), Value.pointer p1 = Value.pointer (some ad2) ∧ ∃ (p3 : Option Nat), World.cell? w (Addr.add ad2 0) =
  some (Value.map p3) ∧ ∃ (l4 : List (Int × Value)), MapO (Value.int IntKind.i64) w p3 l4 ∧ ∀ (w5 : World) (k6 : Nat), Step w w5 [] [k6] →
  IterO (Value.int IntKind.i64) w5 k6 p3 l4 [] → ∃ (y9 : Nat → Option Addr → Nat → Nat → World → Prop), ∃ (k10 : Nat), y9 k10 none 0 0 w5 ∧
  ∀ (k11 : Nat) (p12 : Option Addr) (k13 k14 : Nat) (w15 : World), y9 k11 p12 k13 k14 w15 → ∃ (p17 : Option Nat), ∃ (l18 : List (Int ×
  Value)), ∃ (l19 : List Int), IterO (Value.int IntKind.i64) w15 k6 p17 l18 l19 ∧ (∀ (y20 : Int × Value), y20 ∈ l18 → IsT Proofs.Try.prog
  104 (Prod.snd y20)) ∧ (∀ (n22 : Int) (p23 : Option Nat), (n22, Value.map p23) ∈ l18 → ¬n22 ∈ l19 → ∀ (w26 : World), IStep w15 w26 k6 →
  IterO (Value.int IntKind.i64) w26 k6 p17 l18 (n22 :: l19) → Cur Proofs.Try.prog w26 k6 (Value.int IntKind.i64 n22) (Value.map p23) → bcase
  true (∃ (n30 : Int), ∃ (p31 : Option Nat), Cur Proofs.Try.prog w26 k6 (Value.int IntKind.i64 n30) (Value.map p31) ∧ ∃ (l32 : List (Int ×
  Value)), MapO (Value.int IntKind.i64) w26 p31 l32 ∧ ∀ (w33 : World) (k34 : Nat), Step w26 w33 [] [k34] → IterO (Value.int IntKind.i64) w33
  k34 p31 l32 [] → ∃ (y37 : Nat → Option Addr → Nat → Nat → World → Prop), ∃ (k38 : Nat), y37 k38 p12 k13 k14 w33 ∧ ∀ (k39 : Nat) (p40 :
  Option Addr) (k41 k42 : Nat) (w43 : World), y37 k39 p40 k41 k42 w43 → ∃ (p45 : Option Nat), ∃ (l46 : List (Int × Value)), ∃ (l47 : List
  Int), IterO (Value.int IntKind.i64) w43 k34 p45 l46 l47 ∧ (∀ (y48 : Int × Value), y48 ∈ l46 → IsT Proofs.Try.prog 4 (Prod.snd y48)) ∧ (∀
  (n50 : Int) (b51 : Bool), (n50, Value.bool b51) ∈ l46 → ¬n50 ∈ l47 → ∀ (w54 : World), IStep w43 w54 k34 → IterO (Value.int IntKind.i64)
  w54 k34 p45 l46 (n50 :: l47) → Cur Proofs.Try.prog w54 k34 (Value.int IntKind.i64 n50) (Value.bool b51) → bcase true (∃ (n58 : Int), ∃
  (b59 : Bool), Cur Proofs.Try.prog w54 k34 (Value.int IntKind.i64 n58) (Value.bool b59) ∧ ∀ (k60 : Nat) (w61 : World), Step w54 w61 []
  [k60] → Blk w61 k60 (spl (spl (reps [Value.int IntKind.i64 (0 : Int)] 2) 0 [Value.int IntKind.i64 n30]) 1 [Value.int IntKind.i64 n58]) → ∀
  (k64 : Nat), appendP false [] [k64] [k64] w61 p40 k41 k42 1 (spl (reps [Value.slice none 0 0] 1) 0 [Value.slice (some
  { block := k60, off := 0 }) 2 2]) 1 24 [Value.slice none 0 0] fun (w65 : World) (p66 : Option Addr) (k67 k68 : Nat) => ∃ (k69 : Nat), k69
  < k39 ∧ y37 k69 p66 k67 k68 w65) (∃ (k70 : Nat), k70 < k11 ∧ y9 k70 p40 k41 k42 w54)) ∧ ((∀ (y71 : Int × Value), y71 ∈ l46 → Prod.fst y71
  ∈ l47) → ∀ (w74 : World), IStep w43 w74 k34 → IterO (Value.int IntKind.i64) w74 k34 p45 l46 l47 → bcase false (∃ (n77 : Int), ∃ (b78 :
  Bool), Cur Proofs.Try.prog w74 k34 (Value.int IntKind.i64 n77) (Value.bool b78) ∧ ∀ (k79 : Nat) (w80 : World), Step w74 w80 [] [k79] → Blk
  w80 k79 (spl (spl (reps [Value.int IntKind.i64 (0 : Int)] 2) 0 [Value.int IntKind.i64 n30]) 1 [Value.int IntKind.i64 n77]) → ∀ (k83 :
  Nat), appendP false [] [k83] [k83] w80 p40 k41 k42 1 (spl (reps [Value.slice none 0 0] 1) 0 [Value.slice (some { block := k79, off := 0 })
  2 2]) 1 24 [Value.slice none 0 0] fun (w84 : World) (p85 : Option Addr) (k86 k87 : Nat) => ∃ (k88 : Nat), k88 < k39 ∧ y37 k88 p85 k86 k87
  w84) (∃ (k89 : Nat), k89 < k11 ∧ y9 k89 p40 k41 k42 w74))) (Calls Proofs.Try.prog (41 : Nat) { toList := [Value.slice p12 k13 k14] } w26
  fun (e90 : Ending) (w91 : World) => ∃ (p92 : Option Addr), ∃ (k93 : Nat), ∃ (k94 : Nat), e90 = Ending.returned (Value.slice p92 k93 k94) ∧
  R (Ending.returned (Value.slice p92 k93 k94)) w91)) ∧ ((∀ (y95 : Int × Value), y95 ∈ l18 → Prod.fst y95 ∈ l19) → ∀ (w98 : World), IStep
  w15 w98 k6 → IterO (Value.int IntKind.i64) w98 k6 p17 l18 l19 → bcase false (∃ (n101 : Int), ∃ (p102 : Option Nat), Cur Proofs.Try.prog
  w98 k6 (Value.int IntKind.i64 n101) (Value.map p102) ∧ ∃ (l103 : List (Int × Value)), MapO (Value.int IntKind.i64) w98 p102 l103 ∧ ∀ (w104
  : World) (k105 : Nat), Step w98 w104 [] [k105] → IterO (Value.int IntKind.i64) w104 k105 p102 l103 [] → ∃ (y108 : Nat → Option Addr → Nat
  → Nat → World → Prop), ∃ (k109 : Nat), y108 k109 p12 k13 k14 w104 ∧ ∀ (k110 : Nat) (p111 : Option Addr) (k112 k113 : Nat) (w114 : World),
  y108 k110 p111 k112 k113 w114 → ∃ (p116 : Option Nat), ∃ (l117 : List (Int × Value)), ∃ (l118 : List Int), IterO (Value.int IntKind.i64)
  w114 k105 p116 l117 l118 ∧ (∀ (y119 : Int × Value), y119 ∈ l117 → IsT Proofs.Try.prog 4 (Prod.snd y119)) ∧ (∀ (n121 : Int) (b122 : Bool),
  (n121, Value.bool b122) ∈ l117 → ¬n121 ∈ l118 → ∀ (w125 : World), IStep w114 w125 k105 → IterO (Value.int IntKind.i64) w125 k105 p116 l117
  (n121 :: l118) → Cur Proofs.Try.prog w125 k105 (Value.int IntKind.i64 n121) (Value.bool b122) → bcase true (∃ (n129 : Int), ∃ (b130 :
  Bool), Cur Proofs.Try.prog w125 k105 (Value.int IntKind.i64 n129) (Value.bool b130) ∧ ∀ (k131 : Nat) (w132 : World), Step w125 w132 []
  [k131] → Blk w132 k131 (spl (spl (reps [Value.int IntKind.i64 (0 : Int)] 2) 0 [Value.int IntKind.i64 n101]) 1 [Value.int IntKind.i64
  n129]) → ∀ (k135 : Nat), appendP false [] [k135] [k135] w132 p111 k112 k113 1 (spl (reps [Value.slice none 0 0] 1) 0 [Value.slice (some
  { block := k131, off := 0 }) 2 2]) 1 24 [Value.slice none 0 0] fun (w136 : World) (p137 : Option Addr) (k138 k139 : Nat) => ∃ (k140 :
  Nat), k140 < k110 ∧ y108 k140 p137 k138 k139 w136) (∃ (k141 : Nat), k141 < k11 ∧ y9 k141 p111 k112 k113 w125)) ∧ ((∀ (y142 : Int × Value),
  y142 ∈ l117 → Prod.fst y142 ∈ l118) → ∀ (w145 : World), IStep w114 w145 k105 → IterO (Value.int IntKind.i64) w145 k105 p116 l117 l118 →
  bcase false (∃ (n148 : Int), ∃ (b149 : Bool), Cur Proofs.Try.prog w145 k105 (Value.int IntKind.i64 n148) (Value.bool b149) ∧ ∀ (k150 :
  Nat) (w151 : World), Step w145 w151 [] [k150] → Blk w151 k150 (spl (spl (reps [Value.int IntKind.i64 (0 : Int)] 2) 0 [Value.int
  IntKind.i64 n101]) 1 [Value.int IntKind.i64 n148]) → ∀ (k154 : Nat), appendP false [] [k154] [k154] w151 p111 k112 k113 1 (spl (reps
  [Value.slice none 0 0] 1) 0 [Value.slice (some { block := k150, off := 0 }) 2 2]) 1 24 [Value.slice none 0 0] fun (w155 : World) (p156 :
  Option Addr) (k157 k158 : Nat) => ∃ (k159 : Nat), k159 < k110 ∧ y108 k159 p156 k157 k158 w155) (∃ (k160 : Nat), k160 < k11 ∧ y9 k160 p111
  k112 k113 w145))) (Calls Proofs.Try.prog (41 : Nat) { toList := [Value.slice p12 k13 k14] } w98 fun (e161 : Ending) (w162 : World) => ∃
  (p163 : Option Addr), ∃ (k164 : Nat), ∃ (k165 : Nat), e161 = Ending.returned (Value.slice p163 k164 k165) ∧ R (Ending.returned
  (Value.slice p163 k164 k165)) w162))

theorem dred_Dred_Read.link {d : Addr} {R : Ending → World → Prop} {w : World} (h : dred_Dred_Read.vc d R w) : Calls Go.Proofs.Try.prog 29 #[.pointer (some d)] w R :=
  calls_of pf (fn := Go.Proofs.Try.f29) (ann := .s (.n) (.s (.n) (.s (.s (.n) (.b (.l ⟨[], [], [], [(3, .l (.sl))], []⟩ (.s (.n) (.s (.c (.n) (.n)) (.b (.s (.n) (.s (.n) (.b (.l ⟨[], [], [], [(3, .l (.sl))], []⟩ (.s (.n) (.s (.c (.n) (.n)) (.b (.s (.n) (.n))))))))))))))) (.s (.n) (.n))))) (mp := false) (args := [.a d]) Go.Proofs.Try.func29 (c := Go.Proofs.Try.f29.body.getD .skip) (by kernel_rfl) (by kernel_rfl) (Eq.mp (by kernel_rfl) h)
theorem dred_Dred_Read.body : BodyOk Go.Proofs.Try.prog 29 := ⟨Go.Proofs.Try.f29, Go.Proofs.Try.func29, by kernel_rfl, pf.ng _ _ Go.Proofs.Try.func29⟩

/-! ### (*rhizome/dred.Dred).Has: function 34 -/
def dred_Dred_Has.vc (d : Addr) (a : Int) (b : Int) (R : Ending → World → Prop) (w : World) : Prop := ∃ (p1 : Option Addr), World.cell? w
  (Addr.add d 2) = some (Value.pointer p1) ∧ Calls Proofs.Try.prog (55 : Nat) { toList := [Value.pointer p1, Value.agg { toList := spl (spl [Value.int IntKind.i64 (0 : Int), Value.int IntKind.i64 (0 : Int)] 0 [Value.int IntKind.i64 a]) 1 [Value.int IntKind.i64 b] }] }
  w fun (e2 : Ending) (w3 : World) => ∃ (b4 : Bool), e2 = Ending.returned (Value.bool b4) ∧ R (Ending.returned (Value.bool b4)) w3

theorem dred_Dred_Has.link {d : Addr} {a : Int} {b : Int} {R : Ending → World → Prop} {w : World} (h : dred_Dred_Has.vc d a b R w) : Calls Go.Proofs.Try.prog 34 #[.pointer (some d), .int .i64 a, .int .i64 b] w R :=
  calls_of pf (fn := Go.Proofs.Try.f34) (ann := .s (.n) (.s (.n) (.n))) (mp := false) (args := [.a d, .v (.int .i64 a), .v (.int .i64 b)]) Go.Proofs.Try.func34 (c := Go.Proofs.Try.f34.body.getD .skip) (by kernel_rfl) (by kernel_rfl) (Eq.mp (by kernel_rfl) h)
theorem dred_Dred_Has.body : BodyOk Go.Proofs.Try.prog 34 := ⟨Go.Proofs.Try.f34, Go.Proofs.Try.func34, by kernel_rfl, pf.ng _ _ Go.Proofs.Try.func34⟩

end Go.Proofs.Ytnplopiconabiaa.VC
