/- What is to be shown of functions' texts, printed by a program of this session's repo; that it gives the functions' contracts is checked by the kernel. -/
import Derived.Test.YtcaamecdhbgknaaProg
import Derived.Test.YtcaamecdhbgknaaPf
namespace Go.Proofs.Ytcaamecdhbgknaa.VC
open Go Go.V
set_option maxRecDepth 1000000
set_option linter.unusedVariables false

/-! ### (*rhizome/disk.Disk).none: function 55 -/
def disk_Disk_none.vc (d : Addr) (i : Int) (R : Ending → World → Prop) (w : World) : Prop := ∀ (y1 : Bool → World → Prop), (∀ (b2 : Bool)
  (w3 : World), R (Ending.returned (Value.bool b2)) w3 → y1 b2 w3) → bcase (decide (i < (0 : Int))) (y1 true w) (∃ (n6 : Int), World.cell? w
  (Addr.add d 0) = some (Value.int IntKind.i64 n6) ∧ y1 (decide (n6 ≤ i)) w)

theorem disk_Disk_none.link {d : Addr} {i : Int} {R : Ending → World → Prop} {w : World} (h : disk_Disk_none.vc d i R w) : Calls Go.Proofs.Try.prog 55 #[.pointer (some d), .int .i64 i] w R :=
  calls_of pf (fn := Go.Proofs.Try.f55) (ann := .s (.n) (.j ⟨[], [], [], [(4, .l (.b))], []⟩ (.n) (.n))) (mp := false) (args := [.a d, .v (.int .i64 i)]) Go.Proofs.Try.func55 (c := Go.Proofs.Try.f55.body.getD .skip) (by kernel_rfl) (by kernel_rfl) (Eq.mp (by kernel_rfl) h)
theorem disk_Disk_none.body : BodyOk Go.Proofs.Try.prog 55 := ⟨Go.Proofs.Try.f55, Go.Proofs.Try.func55, by kernel_rfl, pf.ng _ _ Go.Proofs.Try.func55⟩

/-! ### (*rhizome/disk.Disk).step: function 56 -/
def disk_Disk_step.vc (d : Addr) (R : Ending → World → Prop) (w : World) : Prop := ∀ (y1 : World → Prop), (∀ (w2 : World), (∃ (n3 : Int),
  World.cell? w2 (Addr.add d 3) = some (Value.int IntKind.i64 n3) ∧ ∃ (l4 : List Value), Blk w2 (Addr.block (Addr.add d 3)) l4 ∧ Addr.spot
  (Addr.add d 3) = none ∧ Addr.off (Addr.add d 3) + List.length [Value.int IntKind.i64 (IntKind.wrap IntKind.i64 (n3 + (1 : Int)))] ≤
  List.length l4 ∧ ∀ (w5 : World), Upd w2 w5 (Addr.block (Addr.add d 3)) (sets l4 (Addr.off (Addr.add d 3)) [Value.int IntKind.i64
  (IntKind.wrap IntKind.i64 (n3 + (1 : Int)))]) → R (Ending.returned (Value.int IntKind.i64 (0 : Int))) w5) → y1 w2) → ∃ (b9 : Bool),
  World.cell? w (Addr.add d 4) = some (Value.bool b9) ∧ bcase b9 (∃ (n10 : Int), World.cell? w (Addr.add d 5) = some (Value.int IntKind.i64
  n10) ∧ bcase (decide (n10 = (0 : Int))) (R (Ending.returned (Value.int IntKind.i64 (30 : Int))) w) (∃ (n11 : Int), World.cell? w (Addr.add
  d 5) = some (Value.int IntKind.i64 n11) ∧ ∃ (l12 : List Value), Blk w (Addr.block (Addr.add d 5)) l12 ∧ Addr.spot (Addr.add d 5) = none ∧
  Addr.off (Addr.add d 5) + List.length [Value.int IntKind.i64 (IntKind.wrap IntKind.i64 (n11 - (1 : Int)))] ≤ List.length l12 ∧ ∀ (w13 :
  World), Upd w w13 (Addr.block (Addr.add d 5)) (sets l12 (Addr.off (Addr.add d 5)) [Value.int IntKind.i64 (IntKind.wrap IntKind.i64 (n11 -
  (1 : Int)))]) → y1 w13)) (y1 w)

theorem disk_Disk_step.link {d : Addr} {R : Ending → World → Prop} {w : World} (h : disk_Disk_step.vc d R w) : Calls Go.Proofs.Try.prog 56 #[.pointer (some d)] w R :=
  calls_of pf (fn := Go.Proofs.Try.f56) (ann := .s (.n) (.j ⟨[], [], [], [], []⟩ (.s (.n) (.c (.s (.s (.n) (.c (.s (.n) (.n)) (.n))) (.n)) (.n))) (.s (.n) (.s (.n) (.n))))) (mp := false) (args := [.a d]) Go.Proofs.Try.func56 (c := Go.Proofs.Try.f56.body.getD .skip) (by kernel_rfl) (by kernel_rfl) (Eq.mp (by kernel_rfl) h)
theorem disk_Disk_step.body : BodyOk Go.Proofs.Try.prog 56 := ⟨Go.Proofs.Try.f56, Go.Proofs.Try.func56, by kernel_rfl, pf.ng _ _ Go.Proofs.Try.func56⟩

/-! ### (*rhizome/disk.Disk).Write: function 23 -/
def disk_Disk_Write.vc (d : Addr) (i : Int) (bA : Option Addr) (bL bC : Nat) (R : Ending → World → Prop) (w : World) : Prop := ∀ (y1 : Bool
  → World → Prop), (∀ (b2 : Bool) (w3 : World), bcase b2 (R (Ending.returned (Value.int IntKind.i64 (1 : Int))) w3) (Calls Proofs.Try.prog
  (56 : Nat) { toList := [Value.pointer (some d)] } w3 fun (e4 : Ending) (w5 : World) => ∃ (n6 : Int), e4 = Ending.returned (Value.int
  IntKind.i64 n6) ∧ ∀ (y7 : World → Prop), (∀ (w8 : World), R (Ending.returned (Value.int IntKind.i64 n6)) w8 → y7 w8) → bcase (decide (n6 =
  (0 : Int))) (∃ (p11 : Option Nat), World.cell? w5 (Addr.add d 2) = some (Value.map p11) ∧ 64 ≤ bL ∧ ∃ (ad12 : Addr), Value.pointer bA =
  Value.pointer (some ad12) ∧ ∃ (l13 : List Value), List.length l13 = 64 ∧ (∀ (k14 : Nat), k14 < 64 → World.cell? w5 (Addr.add ad12 k14) =
  l13[k14]?) ∧ ∀ (w16 : World), Step w5 w16 [] [] → ∃ (k18 : Nat), ∃ (l19 : List (Int × Value)), p11 = some k18 ∧ MapG (Value.int
  IntKind.i64) w16 k18 l19 ∧ ∀ (w20 : World), MUpd (Value.int IntKind.i64) w16 w20 k18 (updM l19 i (Value.agg { toList := l13 })) → y7 w20)
  (y7 w5)) → y1 b2 w3) → Calls Proofs.Try.prog (55 : Nat) { toList := [Value.pointer (some d), Value.int IntKind.i64 i] } w fun (e24 :
  Ending) (w25 : World) => ∃ (b26 : Bool), e24 = Ending.returned (Value.bool b26) ∧ bcase b26 (y1 true w25) (y1 (!decide ((bL : Int) = (64 :
  Int))) w25)

theorem disk_Disk_Write.link {d : Addr} {i : Int} {bA : Option Addr} {bL bC : Nat} {R : Ending → World → Prop} {w : World} (h : disk_Disk_Write.vc d i bA bL bC R w) : Calls Go.Proofs.Try.prog 23 #[.pointer (some d), .int .i64 i, .slice bA bL bC] w R :=
  calls_of pf (fn := Go.Proofs.Try.f23) (ann := .s (.n) (.s (.j ⟨[], [], [], [(15, .l (.b))], []⟩ (.n) (.c (.s (.n) (.n)) (.n))) (.s (.n) (.j ⟨[], [], [], [], []⟩ (.s (.n) (.c (.n) (.n))) (.s (.n) (.n)))))) (mp := false) (args := [.a d, .v (.int .i64 i), .v (.slice bA bL bC)]) Go.Proofs.Try.func23 (c := Go.Proofs.Try.f23.body.getD .skip) (by kernel_rfl) (by kernel_rfl) (Eq.mp (by kernel_rfl) h)
theorem disk_Disk_Write.body : BodyOk Go.Proofs.Try.prog 23 := ⟨Go.Proofs.Try.f23, Go.Proofs.Try.func23, by kernel_rfl, pf.ng _ _ Go.Proofs.Try.func23⟩

/-! ### rhizome/rhizomelaw03.Bytes: function 24 -/
def rhizomelaw03_Bytes.vc (bA : Option Addr) (bL bC : Nat) (R : Ending → World → Prop) (w : World) : Prop := ((0 : Int) ≤ (64 : Int) ∧ (64 :
  Int) ≤ (64 : Int) ∧ ((1 : Nat) : Int) * (64 : Int) ≤ (281474976710656 : Int) ∧ (64 : Int) ≤ (281474976710656 : Int)) ∧ ∀ (w1 : World) (k2
  : Nat), Step w w1 [] [k2] → Blk w1 k2 (reps [Value.int IntKind.u8 (0 : Int)] 64) → ∃ (y5 : Nat → Int → World → Prop), ∃ (k6 : Nat), y5 k6
  (0 : Int) w1 ∧ ∀ (k7 : Nat) (n8 : Int) (w9 : World), y5 k7 n8 w9 → bcase (decide (n8 < ((64 : Nat) : Int))) (∀ (y11 : World → Prop), (∀
  (w12 : World), (∃ (k13 : Nat), k13 < k7 ∧ y5 k13 (IntKind.wrap IntKind.i64 (n8 + (1 : Int))) w12) → y11 w12) → bcase (decide ((0 : Int) <
  (bL : Int))) ((bL : Int) ≠ (0 : Int) ∧ ∃ (ad16 : Addr), bA = some ad16 ∧ ((0 : Int) ≤ Int.tmod n8 (bL : Int) ∧ Int.tmod n8 (bL : Int) <
  (bL : Int)) ∧ ∃ (n17 : Int), World.cell? w9 (Addr.add ad16 (Int.toNat (Int.tmod n8 (bL : Int)) * 1)) = some (Value.int IntKind.u8 n17) ∧ ∃
  (ad18 : Addr), some { block := k2, off := 0 } = some ad18 ∧ ((0 : Int) ≤ n8 ∧ n8 < ((64 : Nat) : Int)) ∧ ∃ (l19 : List Value), Blk w9
  (Addr.block (Addr.add ad18 (Int.toNat n8 * 1))) l19 ∧ Addr.spot (Addr.add ad18 (Int.toNat n8 * 1)) = none ∧ Addr.off (Addr.add ad18
  (Int.toNat n8 * 1)) + List.length [Value.int IntKind.u8 n17] ≤ List.length l19 ∧ ∀ (w20 : World), Upd w9 w20 (Addr.block (Addr.add ad18
  (Int.toNat n8 * 1))) (sets l19 (Addr.off (Addr.add ad18 (Int.toNat n8 * 1))) [Value.int IntKind.u8 n17]) → y11 w20) (y11 w9)) (R
  (Ending.returned (Value.slice (some { block := k2, off := 0 }) 64 64)) w9)

theorem rhizomelaw03_Bytes.link {bA : Option Addr} {bL bC : Nat} {R : Ending → World → Prop} {w : World} (h : rhizomelaw03_Bytes.vc bA bL bC R w) : Calls Go.Proofs.Try.prog 24 #[.slice bA bL bC] w R :=
  calls_of pf (fn := Go.Proofs.Try.f24) (ann := .s (.n) (.s (.n) (.s (.s (.n) (.b (.l ⟨[], [], [], [(8, .l (.i .i64))], []⟩ (.s (.n) (.s (.c (.n) (.n)) (.j ⟨[], [], [], [], []⟩ (.b (.s (.n) (.s (.n) (.c (.n) (.n))))) (.n))))))) (.s (.n) (.n))))) (mp := false) (args := [.v (.slice bA bL bC)]) Go.Proofs.Try.func24 (c := Go.Proofs.Try.f24.body.getD .skip) (by kernel_rfl) (by kernel_rfl) (Eq.mp (by kernel_rfl) h)
theorem rhizomelaw03_Bytes.body : BodyOk Go.Proofs.Try.prog 24 := ⟨Go.Proofs.Try.f24, Go.Proofs.Try.func24, by kernel_rfl, pf.ng _ _ Go.Proofs.Try.func24⟩

/-! ### rhizome/disk.New: function 20 -/
def disk_New.vc (n : Int) (R : Ending → World → Prop) (w : World) : Prop := ∀ (y1 : Bool → World → Prop), (∀ (b2 : Bool) (w3 : World), bcase
  b2 (R (Ending.returned (Value.tuple { toList := [Value.pointer none, Value.int IntKind.i64 (1 : Int)] })) w3) (∀ (w4 : World) (k5 : Nat),
  Step w3 w4 [] [k5] → (World.heap w4)[k5]? = some (Obj.map { toList := [] } 0) → ∀ (w8 : World) (k9 : Nat), Step w4 w8 [] [k9] →
  (World.heap w8)[k9]? = some (Obj.map { toList := [] } 0) → ∀ (k12 : Nat) (w13 : World), Step w8 w13 [] [k12] → Blk w13 k12 (spl (spl (spl
  [Value.int IntKind.i64 (0 : Int), Value.map none, Value.map none, Value.int IntKind.i64 (0 : Int), Value.bool false, Value.int IntKind.i64
  (0 : Int)] 0 [Value.int IntKind.i64 n]) 1 [Value.map (some k5)]) 2 [Value.map (some k9)]) → R (Ending.returned (Value.tuple { toList := [Value.pointer (some { block := k12, off := 0 }), Value.int IntKind.i64 (0 : Int)] }))
  w13) → y1 b2 w3) → bcase (decide (n < (1 : Int))) (y1 true w) (y1 (decide ((4096 : Int) < n)) w)

theorem disk_New.link {n : Int} {R : Ending → World → Prop} {w : World} (h : disk_New.vc n R w) : Calls Go.Proofs.Try.prog 20 #[.int .i64 n] w R :=
  calls_of pf (fn := Go.Proofs.Try.f20) (ann := .s (.n) (.s (.j ⟨[], [], [], [(9, .l (.b))], []⟩ (.n) (.c (.s (.n) (.n)) (.n))) (.s (.n) (.n)))) (mp := false) (args := [.v (.int .i64 n)]) Go.Proofs.Try.func20 (c := Go.Proofs.Try.f20.body.getD .skip) (by kernel_rfl) (by kernel_rfl) (Eq.mp (by kernel_rfl) h)
theorem disk_New.body : BodyOk Go.Proofs.Try.prog 20 := ⟨Go.Proofs.Try.f20, Go.Proofs.Try.func20, by kernel_rfl, pf.ng _ _ Go.Proofs.Try.func20⟩

/-! ### (*rhizome/disk.Disk).Size: function 21 -/
def disk_Disk_Size.vc (d : Addr) (R : Ending → World → Prop) (w : World) : Prop := ∃ (n1 : Int), World.cell? w (Addr.add d 0) = some
  (Value.int IntKind.i64 n1) ∧ R (Ending.returned (Value.int IntKind.i64 n1)) w

theorem disk_Disk_Size.link {d : Addr} {R : Ending → World → Prop} {w : World} (h : disk_Disk_Size.vc d R w) : Calls Go.Proofs.Try.prog 21 #[.pointer (some d)] w R :=
  calls_of pf (fn := Go.Proofs.Try.f21) (ann := .s (.n) (.s (.n) (.n))) (mp := false) (args := [.a d]) Go.Proofs.Try.func21 (c := Go.Proofs.Try.f21.body.getD .skip) (by kernel_rfl) (by kernel_rfl) (Eq.mp (by kernel_rfl) h)
theorem disk_Disk_Size.body : BodyOk Go.Proofs.Try.prog 21 := ⟨Go.Proofs.Try.f21, Go.Proofs.Try.func21, by kernel_rfl, pf.ng _ _ Go.Proofs.Try.func21⟩

/-! ### (*rhizome/disk.Disk).Read: function 22 -/
def disk_Disk_Read.vc (d : Addr) (i : Int) (R : Ending → World → Prop) (w : World) : Prop := Calls Proofs.Try.prog (55 : Nat) { toList := [Value.pointer (some d), Value.int IntKind.i64 i] }
  w fun (e1 : Ending) (w2 : World) => ∃ (b3 : Bool), e1 = Ending.returned (Value.bool b3) ∧ bcase b3 (R (Ending.returned (Value.tuple { toList := [Value.slice none 0 0, Value.int IntKind.i64 (1 : Int)] }))
  w2) (∃ (p4 : Option Nat), World.cell? w2 (Addr.add d 2) = some (Value.map p4) ∧ ∃ (l5 : List (Int × Value)), MapO (Value.int IntKind.i64)
  w2 p4 l5 ∧ ∃ (l6 : List Value), List.length l6 = 64 ∧ ∃ (b7 : Bool), LookRel l5 i (Value.agg { toList := (reps [Value.int IntKind.u8 (0 : Int)] 64) })
  (Value.agg { toList := l6 }) b7 ∧ ∀ (k8 : Nat) (w9 : World), Step w2 w9 [] [k8] → Blk w9 k8 (reps [Value.int IntKind.u8 (0 : Int)] 64) → ∃
  (l12 : List Value), Value.agg { toList := l6 } = Value.agg { toList := l12 } ∧ List.length l12 = 64 ∧ (∀ (x13 : Value), x13 ∈ l12 →
  Value.oneCell' x13 = true) ∧ ∃ (l15 : List Value), Blk w9 k8 l15 ∧ Addr.spot ⟨0, 0, none⟩ = none ∧ 0 + List.length l12 ≤ List.length l15 ∧
  ∀ (w16 : World), Upd w9 w16 k8 (sets l15 0 l12) → ∀ (y18 : World → Prop), (∀ (w19 : World), ((0 : Int) ≤ (0 : Int) ∧ (0 : Int) ≤ ((64 :
  Nat) : Int) ∧ ((64 : Nat) : Int) ≤ ((64 : Nat) : Int)) ∧ R (Ending.returned (Value.tuple { toList := [Value.slice (subA (some { block := k8, off := 0 }) 0 64 1) 64 64, Value.int IntKind.i64 (0 : Int)] }))
  w19 → y18 w19) → bcase (!b7) (∃ (p22 : Option Nat), World.cell? w16 (Addr.add d 1) = some (Value.map p22) ∧ ∃ (l23 : List (Int × Value)),
  MapO (Value.int IntKind.i64) w16 p22 l23 ∧ ∃ (l24 : List Value), List.length l24 = 64 ∧ (∃ (b25 : Bool), LookRel l23 i (Value.agg { toList := (reps [Value.int IntKind.u8 (0 : Int)] 64) })
  (Value.agg { toList := l24 }) b25) ∧ ∃ (l26 : List Value), Value.agg { toList := l24 } = Value.agg { toList := l26 } ∧ List.length l26 =
  64 ∧ (∀ (x27 : Value), x27 ∈ l26 → Value.oneCell' x27 = true) ∧ ∃ (l29 : List Value), Blk w16 k8 l29 ∧ Addr.spot ⟨0, 0, none⟩ = none ∧ 0 +
  List.length l26 ≤ List.length l29 ∧ ∀ (w30 : World), Upd w16 w30 k8 (sets l29 0 l26) → y18 w30) (y18 w16))

theorem disk_Disk_Read.link {d : Addr} {i : Int} {R : Ending → World → Prop} {w : World} (h : disk_Disk_Read.vc d i R w) : Calls Go.Proofs.Try.prog 22 #[.pointer (some d), .int .i64 i] w R :=
  calls_of pf (fn := Go.Proofs.Try.f22) (ann := .s (.n) (.s (.s (.n) (.c (.s (.n) (.n)) (.n))) (.s (.n) (.j ⟨[], [], [], [], []⟩ (.s (.n) (.c (.n) (.n))) (.s (.n) (.n)))))) (mp := false) (args := [.a d, .v (.int .i64 i)]) Go.Proofs.Try.func22 (c := Go.Proofs.Try.f22.body.getD .skip) (by kernel_rfl) (by kernel_rfl) (Eq.mp (by kernel_rfl) h)
theorem disk_Disk_Read.body : BodyOk Go.Proofs.Try.prog 22 := ⟨Go.Proofs.Try.f22, Go.Proofs.Try.func22, by kernel_rfl, pf.ng _ _ Go.Proofs.Try.func22⟩

/-! ### (*rhizome/disk.Disk).Steps: function 25 -/
def disk_Disk_Steps.vc (d : Addr) (R : Ending → World → Prop) (w : World) : Prop := ∃ (n1 : Int), World.cell? w (Addr.add d 3) = some
  (Value.int IntKind.i64 n1) ∧ R (Ending.returned (Value.int IntKind.i64 n1)) w

theorem disk_Disk_Steps.link {d : Addr} {R : Ending → World → Prop} {w : World} (h : disk_Disk_Steps.vc d R w) : Calls Go.Proofs.Try.prog 25 #[.pointer (some d)] w R :=
  calls_of pf (fn := Go.Proofs.Try.f25) (ann := .s (.n) (.s (.n) (.n))) (mp := false) (args := [.a d]) Go.Proofs.Try.func25 (c := Go.Proofs.Try.f25.body.getD .skip) (by kernel_rfl) (by kernel_rfl) (Eq.mp (by kernel_rfl) h)
theorem disk_Disk_Steps.body : BodyOk Go.Proofs.Try.prog 25 := ⟨Go.Proofs.Try.f25, Go.Proofs.Try.func25, by kernel_rfl, pf.ng _ _ Go.Proofs.Try.func25⟩

/-! ### (*rhizome/disk.Disk).Unsure: function 26 -/
def disk_Disk_Unsure.vc (d : Addr) (R : Ending → World → Prop) (w : World) : Prop := ∃ (p1 : Option Nat), World.cell? w (Addr.add d 2) =
  some (Value.map p1) ∧ Calls Proofs.Try.prog (58 : Nat) { toList := [Value.map p1] } w fun (e2 : Ending) (w3 : World) => ∃ (x4 : Value), e2
  = Ending.returned x4 ∧ Calls Proofs.Try.prog (57 : Nat) { toList := [x4] } w3 fun (e5 : Ending) (w6 : World) => ∃ (p7 : Option Addr), ∃
  (k8 : Nat), ∃ (k9 : Nat), e5 = Ending.returned (Value.slice p7 k8 k9) ∧ R (Ending.returned (Value.slice p7 k8 k9)) w6

theorem disk_Disk_Unsure.link {d : Addr} {R : Ending → World → Prop} {w : World} (h : disk_Disk_Unsure.vc d R w) : Calls Go.Proofs.Try.prog 26 #[.pointer (some d)] w R :=
  calls_of pf (fn := Go.Proofs.Try.f26) (ann := .s (.n) (.s (.n) (.n))) (mp := false) (args := [.a d]) Go.Proofs.Try.func26 (c := Go.Proofs.Try.f26.body.getD .skip) (by kernel_rfl) (by kernel_rfl) (Eq.mp (by kernel_rfl) h)
theorem disk_Disk_Unsure.body : BodyOk Go.Proofs.Try.prog 26 := ⟨Go.Proofs.Try.f26, Go.Proofs.Try.func26, by kernel_rfl, pf.ng _ _ Go.Proofs.Try.func26⟩

/-! ### (*rhizome/disk.Disk).Flush: function 27 -/
def disk_Disk_Flush.vc (d : Addr) (R : Ending → World → Prop) (w : World) : Prop := Calls Proofs.Try.prog (56 : Nat) { toList := [Value.pointer (some d)] }
  w fun (e1 : Ending) (w2 : World) => ∃ (n3 : Int), e1 = Ending.returned (Value.int IntKind.i64 n3) ∧ ∀ (y4 : World → Prop), (∀ (w5 :
  World), R (Ending.returned (Value.int IntKind.i64 n3)) w5 → y4 w5) → bcase (decide (n3 = (0 : Int))) (∃ (p8 : Option Nat), World.cell? w2
  (Addr.add d 1) = some (Value.map p8) ∧ ∃ (p9 : Option Nat), World.cell? w2 (Addr.add d 2) = some (Value.map p9) ∧ ∀ (w10 : World), Step w2
  w10 [] [] → Calls Proofs.Try.prog (59 : Nat) { toList := [Value.map p8, Value.map p9] } w10 fun (e12 : Ending) (w13 : World) => e12 =
  Ending.returned (Value.tuple { toList := [] }) ∧ ∃ (p14 : Option Nat), World.cell? w13 (Addr.add d 2) = some (Value.map p14) ∧ ∃ (k15 :
  Nat), ∃ (l16 : List (Int × Value)), p14 = some k15 ∧ MapG (Value.int IntKind.i64) w13 k15 l16 ∧ ∀ (w17 : World), MUpd (Value.int
  IntKind.i64) w13 w17 k15 [] → y4 w17) (y4 w2)

theorem disk_Disk_Flush.link {d : Addr} {R : Ending → World → Prop} {w : World} (h : disk_Disk_Flush.vc d R w) : Calls Go.Proofs.Try.prog 27 #[.pointer (some d)] w R :=
  calls_of pf (fn := Go.Proofs.Try.f27) (ann := .s (.n) (.s (.n) (.j ⟨[], [], [], [], []⟩ (.s (.n) (.c (.s (.n) (.n)) (.n))) (.s (.n) (.n))))) (mp := false) (args := [.a d]) Go.Proofs.Try.func27 (c := Go.Proofs.Try.f27.body.getD .skip) (by kernel_rfl) (by kernel_rfl) (Eq.mp (by kernel_rfl) h)
theorem disk_Disk_Flush.body : BodyOk Go.Proofs.Try.prog 27 := ⟨Go.Proofs.Try.f27, Go.Proofs.Try.func27, by kernel_rfl, pf.ng _ _ Go.Proofs.Try.func27⟩

/-! ### (*rhizome/disk.Disk).Crash: function 28 -/
def disk_Disk_Crash.vc (d : Addr) (keepA : Option Addr) (keepL keepC : Nat) (torn : Int) (cut : Int) (R : Ending → World → Prop) (w : World)
  : Prop := ∀ (y1 : Addr → World → Prop), (∀ (ad2 : Addr) (w3 : World), (Calls Proofs.Try.prog (26 : Nat) { toList := [Value.pointer (some d)] }
  w3 fun (e4 : Ending) (w5 : World) => ∃ (p6 : Option Addr), ∃ (k7 : Nat), ∃ (k8 : Nat), e4 = Ending.returned (Value.slice p6 k7 k8) ∧ ∃ (y9
  : Nat → Int → World → Prop), ∃ (k10 : Nat), y9 k10 (0 : Int) w5 ∧ ∀ (k11 : Nat) (n12 : Int) (w13 : World), y9 k11 n12 w13 → bcase (decide
  (n12 < (k7 : Int))) (∀ (y15 : World → Prop), (∀ (w16 : World), (∃ (k17 : Nat), k17 < k11 ∧ y9 k17 (IntKind.wrap IntKind.i64 (n12 + (1 :
  Int))) w16) → y15 w16) → ∃ (ad20 : Addr), p6 = some ad20 ∧ ((0 : Int) ≤ n12 ∧ n12 < (k7 : Int)) ∧ ∃ (n21 : Int), World.cell? w13 (Addr.add
  ad20 (Int.toNat n12 * 1)) = some (Value.int IntKind.i64 n21) ∧ ∀ (y22 : Addr → Addr → World → Prop), (∀ (ad23 ad24 : Addr) (w25 : World),
  (∀ (y26 : World → Prop), (∀ (w27 : World), (∃ (p28 : Option Nat), World.cell? w27 (Addr.add ad2 1) = some (Value.map p28) ∧ ∃ (l29 : List
  Value), List.length l29 = 64 ∧ (∀ (k30 : Nat), k30 < 64 → World.cell? w27 (Addr.add ad23 k30) = l29[k30]?) ∧ ∀ (w32 : World), Step w27 w32
  [] [] → ∃ (k34 : Nat), ∃ (l35 : List (Int × Value)), p28 = some k34 ∧ MapG (Value.int IntKind.i64) w32 k34 l35 ∧ ∀ (w36 : World), MUpd
  (Value.int IntKind.i64) w32 w36 k34 (updM l35 n21 (Value.agg { toList := l29 })) → y15 w36) → y26 w27) → ∀ (y40 : Bool → World → Prop), (∀
  (b41 : Bool) (w42 : World), bcase b41 (y26 w42) (bcase (decide (n12 = torn)) ((((0 : Int) ≤ if (64 : Int) < if (0 : Int) > cut then (0 :
  Int) else cut then (64 : Int) else if (0 : Int) > cut then (0 : Int) else cut) ∧ (if (64 : Int) < if (0 : Int) > cut then (0 : Int) else
  cut then (64 : Int) else if (0 : Int) > cut then (0 : Int) else cut) ≤ ((64 : Nat) : Int) ∧ ((64 : Nat) : Int) ≤ ((64 : Nat) : Int)) ∧
  (((0 : Int) ≤ if (64 : Int) < if (0 : Int) > cut then (0 : Int) else cut then (64 : Int) else if (0 : Int) > cut then (0 : Int) else cut)
  ∧ (if (64 : Int) < if (0 : Int) > cut then (0 : Int) else cut then (64 : Int) else if (0 : Int) > cut then (0 : Int) else cut) ≤ ((64 :
  Nat) : Int) ∧ ((64 : Nat) : Int) ≤ ((64 : Nat) : Int)) ∧ copyP false [] [] [] w42 (subA (some ad23) (Int.toNat (if (64 : Int) < if (0 :
  Int) > cut then (0 : Int) else cut then (64 : Int) else if (0 : Int) > cut then (0 : Int) else cut)) 64 1) (64 - Int.toNat (if (64 : Int)
  < if (0 : Int) > cut then (0 : Int) else cut then (64 : Int) else if (0 : Int) > cut then (0 : Int) else cut)) (subA (some ad24)
  (Int.toNat (if (64 : Int) < if (0 : Int) > cut then (0 : Int) else cut then (64 : Int) else if (0 : Int) > cut then (0 : Int) else cut))
  64 1) (64 - Int.toNat (if (64 : Int) < if (0 : Int) > cut then (0 : Int) else cut then (64 : Int) else if (0 : Int) > cut then (0 : Int)
  else cut)) 1 fun (w43 : World) (k44 : Nat) => y26 w43) (y15 w42)) → y40 b41 w42) → bcase (decide (n12 < (keepL : Int))) (∃ (ad47 : Addr),
  keepA = some ad47 ∧ ((0 : Int) ≤ n12 ∧ n12 < (keepL : Int)) ∧ ∃ (b48 : Bool), World.cell? w25 (Addr.add ad47 (Int.toNat n12 * 1)) = some
  (Value.bool b48) ∧ y40 b48 w25) (y40 false w25)) → y22 ad23 ad24 w25) → ∃ (p51 : Option Nat), World.cell? w13 (Addr.add d 2) = some
  (Value.map p51) ∧ ∃ (l52 : List (Int × Value)), MapO (Value.int IntKind.i64) w13 p51 l52 ∧ ∃ (l53 : List Value), List.length l53 = 64 ∧ (∃
  (b54 : Bool), LookRel l52 n21 (Value.agg { toList := (reps [Value.int IntKind.u8 (0 : Int)] 64) }) (Value.agg { toList := l53 }) b54) ∧ ∃
  (p55 : Option Nat), World.cell? w13 (Addr.add d 1) = some (Value.map p55) ∧ ∃ (l56 : List (Int × Value)), MapO (Value.int IntKind.i64) w13
  p55 l56 ∧ ∃ (l57 : List Value), List.length l57 = 64 ∧ (∃ (b58 : Bool), LookRel l56 n21 (Value.agg { toList := (reps [Value.int IntKind.u8 (0 : Int)] 64) })
  (Value.agg { toList := l57 }) b58) ∧ (∀ (k59 : Nat) (w60 : World), Step w13 w60 [] [k59] → Blk w60 k59 (reps [Value.int IntKind.u8 (0 :
  Int)] 64) → ∀ (k63 : Nat) (w64 : World), Step w60 w64 [] [k63] → Blk w64 k63 (reps [Value.int IntKind.u8 (0 : Int)] 64) → ∃ (l67 : List
  Value), Value.agg { toList := l53 } = Value.agg { toList := l67 } ∧ List.length l67 = 64 ∧ (∀ (x68 : Value), x68 ∈ l67 → Value.oneCell'
  x68 = true) ∧ ∃ (l70 : List Value), Blk w64 k59 l70 ∧ Addr.spot ⟨0, 0, none⟩ = none ∧ 0 + List.length l67 ≤ List.length l70 ∧ ∀ (w71 :
  World), Upd w64 w71 k59 (sets l70 0 l67) → ∃ (l73 : List Value), Value.agg { toList := l57 } = Value.agg { toList := l73 } ∧ List.length
  l73 = 64 ∧ (∀ (x74 : Value), x74 ∈ l73 → Value.oneCell' x74 = true) ∧ ∃ (l76 : List Value), Blk w71 k63 l76 ∧ Addr.spot ⟨0, 0, none⟩ =
  none ∧ 0 + List.length l73 ≤ List.length l76 ∧ ∀ (w77 : World), Upd w71 w77 k63 (sets l76 0 l73) → y22 { block := k59, off := 0 }
  { block := k63, off := 0 } w77) ∧ ∀ (k79 : Nat) (w80 : World), Step w13 w80 [] [k79] → Blk w80 k79 (reps [Value.int IntKind.u8 (0 : Int)]
  64) → ∀ (k83 : Nat) (w84 : World), Step w80 w84 [] [k83] → Blk w84 k83 (reps [Value.int IntKind.u8 (0 : Int)] 64) → ∃ (l87 : List Value),
  Value.agg { toList := l53 } = Value.agg { toList := l87 } ∧ List.length l87 = 64 ∧ (∀ (x88 : Value), x88 ∈ l87 → Value.oneCell' x88 =
  true) ∧ ∃ (l90 : List Value), Blk w84 k83 l90 ∧ Addr.spot ⟨0, 0, none⟩ = none ∧ 0 + List.length l87 ≤ List.length l90 ∧ ∀ (w91 : World),
  Upd w84 w91 k83 (sets l90 0 l87) → ∃ (l93 : List Value), Value.agg { toList := l57 } = Value.agg { toList := l93 } ∧ List.length l93 = 64
  ∧ (∀ (x94 : Value), x94 ∈ l93 → Value.oneCell' x94 = true) ∧ ∃ (l96 : List Value), Blk w91 k79 l96 ∧ Addr.spot ⟨0, 0, none⟩ = none ∧ 0 +
  List.length l93 ≤ List.length l96 ∧ ∀ (w97 : World), Upd w91 w97 k79 (sets l96 0 l93) → y22 { block := k83, off := 0 }
  { block := k79, off := 0 } w97) (R (Ending.returned (Value.pointer (some ad2))) w13)) → y1 ad2 w3) → ∃ (p101 : Option Nat), World.cell? w
  (Addr.add d 1) = some (Value.map p101) ∧ (∃ (n102 : Int), World.cell? w (Addr.add d 0) = some (Value.int IntKind.i64 n102) ∧ (∀ (w103 :
  World), Step w w103 [] [] → Calls Proofs.Try.prog (60 : Nat) { toList := [Value.map p101] } w103 fun (e105 : Ending) (w106 : World) => ∃
  (p107 : Option Nat), e105 = Ending.returned (Value.map p107) ∧ ∀ (w108 : World) (k109 : Nat), Step w106 w108 [] [k109] → (World.heap
  w108)[k109]? = some (Obj.map { toList := [] } 0) → ∀ (k112 : Nat) (w113 : World), Step w108 w113 [] [k112] → Blk w113 k112 (spl (spl (spl
  [Value.int IntKind.i64 (0 : Int), Value.map none, Value.map none, Value.int IntKind.i64 (0 : Int), Value.bool false, Value.int IntKind.i64
  (0 : Int)] 0 [Value.int IntKind.i64 n102]) 1 [Value.map p107]) 2 [Value.map (some k109)]) → y1 { block := k112, off := 0 } w113) ∧ ∀ (w116
  : World) (k117 : Nat), Step w w116 [] [k117] → (World.heap w116)[k117]? = some (Obj.map { toList := [] } 0) → Calls Proofs.Try.prog (60 :
  Nat) { toList := [Value.map p101] } w116 fun (e120 : Ending) (w121 : World) => ∃ (p122 : Option Nat), e120 = Ending.returned (Value.map
  p122) ∧ ∀ (k123 : Nat) (w124 : World), Step w121 w124 [] [k123] → Blk w124 k123 (spl (spl (spl [Value.int IntKind.i64 (0 : Int), Value.map
  none, Value.map none, Value.int IntKind.i64 (0 : Int), Value.bool false, Value.int IntKind.i64 (0 : Int)] 0 [Value.int IntKind.i64 n102])
  1 [Value.map p122]) 2 [Value.map (some k117)]) → y1 { block := k123, off := 0 } w124) ∧ (∀ (w127 : World), Step w w127 [] [] → Calls
  Proofs.Try.prog (60 : Nat) { toList := [Value.map p101] } w127 fun (e129 : Ending) (w130 : World) => ∃ (p131 : Option Nat), e129 =
  Ending.returned (Value.map p131) ∧ ∃ (n132 : Int), World.cell? w130 (Addr.add d 0) = some (Value.int IntKind.i64 n132) ∧ ∀ (w133 : World)
  (k134 : Nat), Step w130 w133 [] [k134] → (World.heap w133)[k134]? = some (Obj.map { toList := [] } 0) → ∀ (k137 : Nat) (w138 : World),
  Step w133 w138 [] [k137] → Blk w138 k137 (spl (spl (spl [Value.int IntKind.i64 (0 : Int), Value.map none, Value.map none, Value.int
  IntKind.i64 (0 : Int), Value.bool false, Value.int IntKind.i64 (0 : Int)] 0 [Value.int IntKind.i64 n132]) 1 [Value.map p131]) 2 [Value.map
  (some k134)]) → y1 { block := k137, off := 0 } w138) ∧ ∀ (w141 : World) (k142 : Nat), Step w w141 [] [k142] → (World.heap w141)[k142]? =
  some (Obj.map { toList := [] } 0) → (∃ (n145 : Int), World.cell? w141 (Addr.add d 0) = some (Value.int IntKind.i64 n145) ∧ Calls
  Proofs.Try.prog (60 : Nat) { toList := [Value.map p101] } w141 fun (e146 : Ending) (w147 : World) => ∃ (p148 : Option Nat), e146 =
  Ending.returned (Value.map p148) ∧ ∀ (k149 : Nat) (w150 : World), Step w147 w150 [] [k149] → Blk w150 k149 (spl (spl (spl [Value.int
  IntKind.i64 (0 : Int), Value.map none, Value.map none, Value.int IntKind.i64 (0 : Int), Value.bool false, Value.int IntKind.i64 (0 : Int)]
  0 [Value.int IntKind.i64 n145]) 1 [Value.map p148]) 2 [Value.map (some k142)]) → y1 { block := k149, off := 0 } w150) ∧ Calls
  Proofs.Try.prog (60 : Nat) { toList := [Value.map p101] } w141 fun (e153 : Ending) (w154 : World) => ∃ (p155 : Option Nat), e153 =
  Ending.returned (Value.map p155) ∧ ∃ (n156 : Int), World.cell? w154 (Addr.add d 0) = some (Value.int IntKind.i64 n156) ∧ ∀ (k157 : Nat)
  (w158 : World), Step w154 w158 [] [k157] → Blk w158 k157 (spl (spl (spl [Value.int IntKind.i64 (0 : Int), Value.map none, Value.map none,
  Value.int IntKind.i64 (0 : Int), Value.bool false, Value.int IntKind.i64 (0 : Int)] 0 [Value.int IntKind.i64 n156]) 1 [Value.map p155]) 2
  [Value.map (some k142)]) → y1 { block := k157, off := 0 } w158

theorem disk_Disk_Crash.link {d : Addr} {keepA : Option Addr} {keepL keepC : Nat} {torn : Int} {cut : Int} {R : Ending → World → Prop} {w : World} (h : disk_Disk_Crash.vc d keepA keepL keepC torn cut R w) : Calls Go.Proofs.Try.prog 28 #[.pointer (some d), .slice keepA keepL keepC, .int .i64 torn, .int .i64 cut] w R :=
  calls_of pf (fn := Go.Proofs.Try.f28) (ann := .s (.n) (.j ⟨[9], [], [], [(9, .a)], []⟩ (.n) (.s (.n) (.s (.s (.n) (.b (.l ⟨[], [], [], [(32, .l (.i .i64))], []⟩ (.s (.n) (.s (.c (.n) (.n)) (.j ⟨[], [], [], [], []⟩ (.b (.s (.n) (.j ⟨[], [], [], [(12, .a), (13, .a)], []⟩ (.n) (.j ⟨[], [], [], [], []⟩ (.b (.j ⟨[], [], [], [(49, .l (.b))], []⟩ (.n) (.c (.n) (.s (.n) (.c (.n) (.n)))))) (.n))))) (.n))))))) (.s (.n) (.n)))))) (mp := false) (args := [.a d, .v (.slice keepA keepL keepC), .v (.int .i64 torn), .v (.int .i64 cut)]) Go.Proofs.Try.func28 (c := Go.Proofs.Try.f28.body.getD .skip) (by kernel_rfl) (by kernel_rfl) (Eq.mp (by kernel_rfl) h)
theorem disk_Disk_Crash.body : BodyOk Go.Proofs.Try.prog 28 := ⟨Go.Proofs.Try.f28, Go.Proofs.Try.func28, by kernel_rfl, pf.ng _ _ Go.Proofs.Try.func28⟩

/-! ### (*rhizome/disk.Disk).Arm: function 29 -/
def disk_Disk_Arm.vc (d : Addr) (n : Int) (R : Ending → World → Prop) (w : World) : Prop := bcase (decide (n < (0 : Int))) (R
  (Ending.returned (Value.int IntKind.i64 (1 : Int))) w) (∀ (y1 : Bool → World → Prop), (∀ (b2 : Bool) (w3 : World), bcase b2 (R
  (Ending.returned (Value.int IntKind.i64 (30 : Int))) w3) (∃ (l4 : List Value), Blk w3 (Addr.block (Addr.add d 4)) l4 ∧ Addr.spot (Addr.add
  d 4) = none ∧ Addr.off (Addr.add d 4) + 1 ≤ List.length l4 ∧ ∀ (w5 : World), Upd w3 w5 (Addr.block (Addr.add d 4)) (sets l4 (Addr.off
  (Addr.add d 4)) [Value.bool true]) → ∃ (l7 : List Value), Blk w5 (Addr.block (Addr.add d 5)) l7 ∧ Addr.spot (Addr.add d 5) = none ∧
  Addr.off (Addr.add d 5) + List.length [Value.int IntKind.i64 n] ≤ List.length l7 ∧ ∀ (w8 : World), Upd w5 w8 (Addr.block (Addr.add d 5))
  (sets l7 (Addr.off (Addr.add d 5)) [Value.int IntKind.i64 n]) → R (Ending.returned (Value.int IntKind.i64 (0 : Int))) w8) → y1 b2 w3) → ∃
  (b12 : Bool), World.cell? w (Addr.add d 4) = some (Value.bool b12) ∧ bcase b12 (∃ (n13 : Int), World.cell? w (Addr.add d 5) = some
  (Value.int IntKind.i64 n13) ∧ y1 (decide (n13 = (0 : Int))) w) (y1 false w))

theorem disk_Disk_Arm.link {d : Addr} {n : Int} {R : Ending → World → Prop} {w : World} (h : disk_Disk_Arm.vc d n R w) : Calls Go.Proofs.Try.prog 29 #[.pointer (some d), .int .i64 n] w R :=
  calls_of pf (fn := Go.Proofs.Try.f29) (ann := .s (.n) (.s (.b (.s (.n) (.c (.s (.n) (.n)) (.j ⟨[], [], [], [(8, .l (.b))], []⟩ (.n) (.c (.s (.n) (.n)) (.n)))))) (.s (.n) (.s (.n) (.n))))) (mp := false) (args := [.a d, .v (.int .i64 n)]) Go.Proofs.Try.func29 (c := Go.Proofs.Try.f29.body.getD .skip) (by kernel_rfl) (by kernel_rfl) (Eq.mp (by kernel_rfl) h)
theorem disk_Disk_Arm.body : BodyOk Go.Proofs.Try.prog 29 := ⟨Go.Proofs.Try.f29, Go.Proofs.Try.func29, by kernel_rfl, pf.ng _ _ Go.Proofs.Try.func29⟩

end Go.Proofs.Ytcaamecdhbgknaa.VC
