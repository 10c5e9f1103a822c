/- What is to be shown of functions' texts, printed by a program of this session's repo; that it gives the functions' contracts is checked by the kernel. -/
import Derived.Test.YtnimejocaaekaaaProg
import Derived.Test.YtnimejocaaekaaaPf
namespace Go.Proofs.Ytnimejocaaekaaa.VC
open Go Go.V
set_option maxRecDepth 1000000
set_option linter.unusedVariables false

/-! ### rhizome/lock.New: function 9 -/
def lock_New.vc (R : Ending → World → Prop) (w : World) : Prop := ∀ (w1 : World) (k2 : Nat), Step w w1 [] [k2] → (World.heap w1)[k2]? = some
  (Obj.map { toList := [] } 0) → ∀ (w5 : World) (k6 : Nat), Step w1 w5 [] [k6] → (World.heap w5)[k6]? = some (Obj.map { toList := [] } 0) →
  ∀ (k9 : Nat) (w10 : World), Step w5 w10 [] [k9] → Blk w10 k9 (spl (spl [Value.map none, Value.map none] 0 [Value.map (some k2)]) 1
  [Value.map (some k6)]) → R (Ending.returned (Value.pointer (some { block := k9, off := 0 }))) w10

theorem lock_New.link {_u : Unit} {R : Ending → World → Prop} {w : World} (h : lock_New.vc  R w) : Calls Go.Proofs.Try.prog 9 #[] w R :=
  calls_of pf (fn := Go.Proofs.Try.f9) (ann := .s (.n) (.s (.n) (.n))) (mp := false) (args := []) Go.Proofs.Try.func9 (c := Go.Proofs.Try.f9.body.getD .skip) (by kernel_rfl) (by kernel_rfl) (Eq.mp (by kernel_rfl) h)
theorem lock_New.body : BodyOk Go.Proofs.Try.prog 9 := ⟨Go.Proofs.Try.f9, Go.Proofs.Try.func9, by kernel_rfl, pf.ng _ _ Go.Proofs.Try.func9⟩

/-! ### (*rhizome/lock.Table).at: function 22 -/
def lock_Table_at.vc (t : Addr) (i : Int) (R : Ending → World → Prop) (w : World) : Prop := ∃ (p1 : Option Nat), World.cell? w (Addr.add t
  0) = some (Value.map p1) ∧ ∃ (l2 : List (Int × Value)), MapO (Value.int IntKind.i64) w p1 l2 ∧ ∃ (p3 : Option Addr), (∃ (b4 : Bool),
  LookRel l2 i (Value.pointer none) (Value.pointer p3) b4) ∧ ∀ (y5 : Option Addr → World → Prop), (∀ (p6 : Option Addr) (w7 : World), R
  (Ending.returned (Value.pointer p6)) w7 → y5 p6 w7) → bcase (Option.isNone p3) (∀ (w10 : World) (k11 : Nat), Step w w10 [] [k11] →
  (World.heap w10)[k11]? = some (Obj.map { toList := [] } 0) → ∀ (k14 : Nat), ∃ (p15 : Option Nat), World.cell? w10 (Addr.add t 0) = some
  (Value.map p15) ∧ ∀ (w16 : World), Step w10 w16 [] [k14] → Blk w16 k14 (spl [Value.map none, Value.slice none 0 0] 0 [Value.map (some
  k11)]) → ∃ (k19 : Nat), ∃ (l20 : List (Int × Value)), p15 = some k19 ∧ MapG (Value.int IntKind.i64) w16 k19 l20 ∧ ∀ (w21 : World), MUpd
  (Value.int IntKind.i64) w16 w21 k19 (updM l20 i (Value.pointer (some { block := k14, off := 0 }))) → y5 (some { block := k14, off := 0 })
  w21) (y5 p3 w)

theorem lock_Table_at.link {t : Addr} {i : Int} {R : Ending → World → Prop} {w : World} (h : lock_Table_at.vc t i R w) : Calls Go.Proofs.Try.prog 22 #[.pointer (some t), .int .i64 i] w R :=
  calls_of pf (fn := Go.Proofs.Try.f22) (ann := .s (.n) (.s (.n) (.j ⟨[], [], [], [(5, .l (.p))], []⟩ (.s (.n) (.c (.s (.n) (.n)) (.n))) (.s (.n) (.n))))) (mp := false) (args := [.a t, .v (.int .i64 i)]) Go.Proofs.Try.func22 (c := Go.Proofs.Try.f22.body.getD .skip) (by kernel_rfl) (by kernel_rfl) (Eq.mp (by kernel_rfl) h)
theorem lock_Table_at.body : BodyOk Go.Proofs.Try.prog 22 := ⟨Go.Proofs.Try.f22, Go.Proofs.Try.func22, by kernel_rfl, pf.ng _ _ Go.Proofs.Try.func22⟩

/-! ### (*rhizome/lock.item).fit: function 23 -/
def lock_item_fit.vc (x : Addr) (as0 : Int) (aalone : Bool) (R : Ending → World → Prop) (w : World) : Prop := ∀ (k1 : Nat), ∃ (p2 : Option
  Nat), World.cell? w (Addr.add x 0) = some (Value.map p2) ∧ ∃ (l3 : List (Int × Value)), MapO (Value.int IntKind.i64) w p2 l3 ∧ ∀ (w4 :
  World) (k5 : Nat), Step w w4 [] [k5, k1] → IterO (Value.int IntKind.i64) w4 k5 p2 l3 [] → ∃ (y8 : Nat → World → Prop), ∃ (k9 : Nat), y8 k9
  w4 ∧ ∀ (k10 : Nat) (w11 : World), y8 k10 w11 → ∃ (p13 : Option Nat), ∃ (l14 : List (Int × Value)), ∃ (l15 : List Int), IterO (Value.int
  IntKind.i64) w11 k5 p13 l14 l15 ∧ (∀ (y16 : Int × Value), y16 ∈ l14 → IsT Proofs.Try.prog 4 (Prod.snd y16)) ∧ (∀ (n18 : Int) (b19 : Bool),
  (n18, Value.bool b19) ∈ l14 → ¬n18 ∈ l15 → ∀ (w22 : World), IStep w11 w22 k5 → IterO (Value.int IntKind.i64) w22 k5 p13 l14 (n18 :: l15) →
  Cur Proofs.Try.prog w22 k5 (Value.int IntKind.i64 n18) (Value.bool b19) → bcase true (∃ (n26 : Int), ∃ (b27 : Bool), Cur Proofs.Try.prog
  w22 k5 (Value.int IntKind.i64 n26) (Value.bool b27) ∧ Calls Proofs.Try.prog (32 : Nat) { toList := [Value.int IntKind.i64 n26, Value.bool b27, Value.agg { toList := [Value.int IntKind.i64 as0, Value.bool aalone] }] }
  w22 fun (e28 : Ending) (w29 : World) => ∃ (b30 : Bool), e28 = Ending.returned (Value.bool b30) ∧ Keep [k1] w22 w29 ∧ bcase b30 (R
  (Ending.returned (Value.bool false)) w29) (∃ (k31 : Nat), k31 < k10 ∧ y8 k31 w29)) (R (Ending.returned (Value.bool true)) w22)) ∧ ((∀ (y32
  : Int × Value), y32 ∈ l14 → Prod.fst y32 ∈ l15) → ∀ (w35 : World), IStep w11 w35 k5 → IterO (Value.int IntKind.i64) w35 k5 p13 l14 l15 →
  bcase false (∃ (n38 : Int), ∃ (b39 : Bool), Cur Proofs.Try.prog w35 k5 (Value.int IntKind.i64 n38) (Value.bool b39) ∧ Calls
  Proofs.Try.prog (32 : Nat) { toList := [Value.int IntKind.i64 n38, Value.bool b39, Value.agg { toList := [Value.int IntKind.i64 as0, Value.bool aalone] }] }
  w35 fun (e40 : Ending) (w41 : World) => ∃ (b42 : Bool), e40 = Ending.returned (Value.bool b42) ∧ Keep [k1] w35 w41 ∧ bcase b42 (R
  (Ending.returned (Value.bool false)) w41) (∃ (k43 : Nat), k43 < k10 ∧ y8 k43 w41)) (R (Ending.returned (Value.bool true)) w35))

theorem lock_item_fit.link {x : Addr} {as0 : Int} {aalone : Bool} {R : Ending → World → Prop} {w : World} (h : lock_item_fit.vc x as0 aalone R w) : Calls Go.Proofs.Try.prog 23 #[.pointer (some x), (.agg #[.int .i64 as0, .bool aalone] : Value)] w R :=
  calls_of pf (fn := Go.Proofs.Try.f23) (ann := .s (.n) (.s (.s (.n) (.b (.l ⟨[], [], [0], [], []⟩ (.s (.n) (.s (.c (.n) (.n)) (.b (.s (.n) (.s (.n) (.c (.s (.n) (.n)) (.n)))))))))) (.s (.n) (.n)))) (mp := false) (args := [.a x, .v (.agg #[.int .i64 as0, .bool aalone])]) Go.Proofs.Try.func23 (c := Go.Proofs.Try.f23.body.getD .skip) (by kernel_rfl) (by kernel_rfl) (Eq.mp (by kernel_rfl) h)
theorem lock_item_fit.body : BodyOk Go.Proofs.Try.prog 23 := ⟨Go.Proofs.Try.f23, Go.Proofs.Try.func23, by kernel_rfl, pf.ng _ _ Go.Proofs.Try.func23⟩

/-! ### (*rhizome/lock.item).hold: function 24 -/
def lock_item_hold.vc (x : Addr) (as0 : Int) (aalone : Bool) (R : Ending → World → Prop) (w : World) : Prop := ∀ (k1 : Nat), ∃ (p2 : Option
  Nat), World.cell? w (Addr.add x 0) = some (Value.map p2) ∧ ∃ (p3 : Option Nat), World.cell? w (Addr.add x 0) = some (Value.map p3) ∧ ∃ (l4
  : List (Int × Value)), MapO (Value.int IntKind.i64) w p3 l4 ∧ ∃ (b5 : Bool), (∃ (b6 : Bool), LookRel l4 as0 (Value.bool false) (Value.bool
  b5) b6) ∧ bcase b5 (∀ (w7 : World), Step w w7 [] [k1] → ∃ (k9 : Nat), ∃ (l10 : List (Int × Value)), p2 = some k9 ∧ MapG (Value.int
  IntKind.i64) w7 k9 l10 ∧ ∀ (w11 : World), MUpd (Value.int IntKind.i64) w7 w11 k9 (updM l10 as0 (Value.bool true)) → R (Ending.returned
  (Value.tuple { toList := [] })) w11) (∀ (w13 : World), Step w w13 [] [k1] → ∃ (k15 : Nat), ∃ (l16 : List (Int × Value)), p2 = some k15 ∧
  MapG (Value.int IntKind.i64) w13 k15 l16 ∧ ∀ (w17 : World), MUpd (Value.int IntKind.i64) w13 w17 k15 (updM l16 as0 (Value.bool aalone)) →
  R (Ending.returned (Value.tuple { toList := [] })) w17)

theorem lock_item_hold.link {x : Addr} {as0 : Int} {aalone : Bool} {R : Ending → World → Prop} {w : World} (h : lock_item_hold.vc x as0 aalone R w) : Calls Go.Proofs.Try.prog 24 #[.pointer (some x), (.agg #[.int .i64 as0, .bool aalone] : Value)] w R :=
  calls_of pf (fn := Go.Proofs.Try.f24) (ann := .s (.n) (.d [0])) (mp := false) (args := [.a x, .v (.agg #[.int .i64 as0, .bool aalone])]) Go.Proofs.Try.func24 (c := Go.Proofs.Try.f24.body.getD .skip) (by kernel_rfl) (by kernel_rfl) (Eq.mp (by kernel_rfl) h)
theorem lock_item_hold.body : BodyOk Go.Proofs.Try.prog 24 := ⟨Go.Proofs.Try.f24, Go.Proofs.Try.func24, by kernel_rfl, pf.ng _ _ Go.Proofs.Try.func24⟩

/-! ### rhizome/lock.contains: function 25 -/
def lock_contains.vc (m : Option Nat) (s : Int) (R : Ending → World → Prop) (w : World) : Prop := ∃ (l1 : List (Int × Value)), MapO
  (Value.int IntKind.i64) w m l1 ∧ ∃ (b2 : Bool), ∃ (b3 : Bool), LookRel l1 s (Value.bool false) (Value.bool b2) b3 ∧ R (Ending.returned
  (Value.bool b3)) w

theorem lock_contains.link {m : Option Nat} {s : Int} {R : Ending → World → Prop} {w : World} (h : lock_contains.vc m s R w) : Calls Go.Proofs.Try.prog 25 #[.map m, .int .i64 s] w R :=
  calls_of pf (fn := Go.Proofs.Try.f25) (ann := .s (.n) (.s (.n) (.s (.n) (.n)))) (mp := false) (args := [.v (.map m), .v (.int .i64 s)]) Go.Proofs.Try.func25 (c := Go.Proofs.Try.f25.body.getD .skip) (by kernel_rfl) (by kernel_rfl) (Eq.mp (by kernel_rfl) h)
theorem lock_contains.body : BodyOk Go.Proofs.Try.prog 25 := ⟨Go.Proofs.Try.f25, Go.Proofs.Try.func25, by kernel_rfl, pf.ng _ _ Go.Proofs.Try.func25⟩

/-! ### rhizome/lock.stops: function 32 -/
def lock_stops.vc (holder : Int) (alone : Bool) (as0 : Int) (aalone : Bool) (R : Ending → World → Prop) (w : World) : Prop := ∀ (k1 : Nat)
  (y2 : Bool → World → Prop), (∀ (b3 : Bool) (w4 : World), R (Ending.returned (Value.bool b3)) w4 → y2 b3 w4) → bcase (!decide (holder =
  as0)) (bcase alone (∀ (w7 : World), Step w w7 [] [k1] → y2 true w7) (∀ (w9 : World), Step w w9 [] [k1] → y2 aalone w9)) (∀ (w11 : World),
  Step w w11 [] [k1] → y2 false w11)

theorem lock_stops.link {holder : Int} {alone : Bool} {as0 : Int} {aalone : Bool} {R : Ending → World → Prop} {w : World} (h : lock_stops.vc holder alone as0 aalone R w) : Calls Go.Proofs.Try.prog 32 #[.int .i64 holder, .bool alone, (.agg #[.int .i64 as0, .bool aalone] : Value)] w R :=
  calls_of pf (fn := Go.Proofs.Try.f32) (ann := .s (.n) (.j ⟨[], [], [], [(6, .l (.b))], []⟩ (.n) (.n))) (mp := false) (args := [.v (.int .i64 holder), .v (.bool alone), .v (.agg #[.int .i64 as0, .bool aalone])]) Go.Proofs.Try.func32 (c := Go.Proofs.Try.f32.body.getD .skip) (by kernel_rfl) (by kernel_rfl) (Eq.mp (by kernel_rfl) h)
theorem lock_stops.body : BodyOk Go.Proofs.Try.prog 32 := ⟨Go.Proofs.Try.f32, Go.Proofs.Try.func32, by kernel_rfl, pf.ng _ _ Go.Proofs.Try.func32⟩

/-! ### (*rhizome/lock.Table).Holds: function 15 -/
def lock_Table_Holds.vc (t : Addr) (s : Int) (i : Int) (R : Ending → World → Prop) (w : World) : Prop := ∃ (p1 : Option Nat), World.cell? w
  (Addr.add t 0) = some (Value.map p1) ∧ ∃ (l2 : List (Int × Value)), MapO (Value.int IntKind.i64) w p1 l2 ∧ ∃ (p3 : Option Addr), (∃ (b4 :
  Bool), LookRel l2 i (Value.pointer none) (Value.pointer p3) b4) ∧ bcase (Option.isNone p3) (R (Ending.returned (Value.tuple { toList := [Value.bool false, Value.bool false] }))
  w) (∃ (ad5 : Addr), Value.pointer p3 = Value.pointer (some ad5) ∧ ∃ (p6 : Option Nat), World.cell? w (Addr.add ad5 0) = some (Value.map
  p6) ∧ ∃ (l7 : List (Int × Value)), MapO (Value.int IntKind.i64) w p6 l7 ∧ ∃ (b8 : Bool), ∃ (b9 : Bool), LookRel l7 s (Value.bool false)
  (Value.bool b8) b9 ∧ R (Ending.returned (Value.tuple { toList := [Value.bool b9, Value.bool b8] })) w)

theorem lock_Table_Holds.link {t : Addr} {s : Int} {i : Int} {R : Ending → World → Prop} {w : World} (h : lock_Table_Holds.vc t s i R w) : Calls Go.Proofs.Try.prog 15 #[.pointer (some t), .int .i64 s, .int .i64 i] w R :=
  calls_of pf (fn := Go.Proofs.Try.f15) (ann := .s (.n) (.s (.n) (.s (.s (.n) (.c (.s (.n) (.n)) (.n))) (.s (.n) (.s (.n) (.n)))))) (mp := false) (args := [.a t, .v (.int .i64 s), .v (.int .i64 i)]) Go.Proofs.Try.func15 (c := Go.Proofs.Try.f15.body.getD .skip) (by kernel_rfl) (by kernel_rfl) (Eq.mp (by kernel_rfl) h)
theorem lock_Table_Holds.body : BodyOk Go.Proofs.Try.prog 15 := ⟨Go.Proofs.Try.f15, Go.Proofs.Try.func15, by kernel_rfl, pf.ng _ _ Go.Proofs.Try.func15⟩

/-! ### (*rhizome/lock.Table).Waits: function 14 -/
def lock_Table_Waits.vc (t : Addr) (s : Int) (R : Ending → World → Prop) (w : World) : Prop := ∃ (p1 : Option Nat), World.cell? w (Addr.add
  t 1) = some (Value.map p1) ∧ ∃ (l2 : List (Int × Value)), MapO (Value.int IntKind.i64) w p1 l2 ∧ ∃ (n3 : Int), ∃ (b4 : Bool), LookRel l2 s
  (Value.int IntKind.i64 (0 : Int)) (Value.int IntKind.i64 n3) b4 ∧ bcase (!b4) (R (Ending.returned (Value.tuple { toList := [Value.int IntKind.i64 (0 : Int), Value.bool false, Value.bool false] }))
  w) (∃ (p5 : Option Nat), World.cell? w (Addr.add t 0) = some (Value.map p5) ∧ ∃ (l6 : List (Int × Value)), MapO (Value.int IntKind.i64) w
  p5 l6 ∧ ∃ (p7 : Option Addr), (∃ (b8 : Bool), LookRel l6 n3 (Value.pointer none) (Value.pointer p7) b8) ∧ ∃ (ad9 : Addr), Value.pointer p7
  = Value.pointer (some ad9) ∧ ∃ (p10 : Option Addr), ∃ (k11 : Nat), ∃ (k12 : Nat), World.cell? w (Addr.add ad9 1) = some (Value.slice p10
  k11 k12) ∧ ∃ (y13 : Nat → Int → World → Prop), ∃ (k14 : Nat), y13 k14 (0 : Int) w ∧ ∀ (k15 : Nat) (n16 : Int) (w17 : World), y13 k15 n16
  w17 → bcase (decide (n16 < (k11 : Int))) (∃ (ad19 : Addr), p10 = some ad19 ∧ ((0 : Int) ≤ n16 ∧ n16 < (k11 : Int)) ∧ ∃ (n20 : Int), ∃ (b21
  : Bool), (World.cell? w17 (Addr.add (Addr.add ad19 (Int.toNat n16 * 2)) 0) = some (Value.int IntKind.i64 n20) ∧ World.cell? w17 (Addr.add
  (Addr.add ad19 (Int.toNat n16 * 2)) 1) = some (Value.bool b21) ∧ True) ∧ ∀ (k22 : Nat), bcase (decide (n20 = s)) (∀ (w23 : World), Step
  w17 w23 [] [k22] → R (Ending.returned (Value.tuple { toList := [Value.int IntKind.i64 n3, Value.bool b21, Value.bool true] })) w23) (∃
  (k25 : Nat), k25 < k15 ∧ ∀ (w26 : World), Step w17 w26 [] [k22] → y13 k25 (IntKind.wrap IntKind.i64 (n16 + (1 : Int))) w26)) (R
  (Ending.returned (Value.tuple { toList := [Value.int IntKind.i64 (0 : Int), Value.bool false, Value.bool false] })) w17))

theorem lock_Table_Waits.link {t : Addr} {s : Int} {R : Ending → World → Prop} {w : World} (h : lock_Table_Waits.vc t s R w) : Calls Go.Proofs.Try.prog 14 #[.pointer (some t), .int .i64 s] w R :=
  calls_of pf (fn := Go.Proofs.Try.f14) (ann := .s (.n) (.s (.n) (.s (.s (.n) (.c (.s (.n) (.n)) (.n))) (.s (.s (.n) (.b (.l ⟨[], [], [], [(32, .l (.i .i64))], []⟩ (.s (.n) (.s (.c (.n) (.n)) (.s (.b (.s (.n) (.s (.n) (.c (.s (.d [0]) (.n)) (.n))))) (.n))))))) (.s (.n) (.n)))))) (mp := false) (args := [.a t, .v (.int .i64 s)]) Go.Proofs.Try.func14 (c := Go.Proofs.Try.f14.body.getD .skip) (by kernel_rfl) (by kernel_rfl) (Eq.mp (by kernel_rfl) h)
theorem lock_Table_Waits.body : BodyOk Go.Proofs.Try.prog 14 := ⟨Go.Proofs.Try.f14, Go.Proofs.Try.func14, by kernel_rfl, pf.ng _ _ Go.Proofs.Try.func14⟩

end Go.Proofs.Ytnimejocaaekaaa.VC
