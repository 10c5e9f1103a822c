/- What is to be shown of functions' texts, printed by a program of this session's repo; that it gives the functions' contracts is checked by the kernel. -/
import Derived.Test.YtnimejocaaekaaaProg
import Derived.Test.YtnimejocaaekaaaPf
namespace Go.Proofs.Ytnimejocaaekaaa.VC
open Go Go.V
set_option maxRecDepth 1000000
set_option linter.unusedVariables false

/-! ### (*rhizome/lock.Table).Blockers: function 16 -/
def lock_Table_Blockers.vc (t : Addr) (s : Int) (R : Ending → World → Prop) (w : World) : Prop := Calls Proofs.Try.prog (14 : Nat) { toList := [Value.pointer (some t), Value.int IntKind.i64 s] }
  w fun (e1 : Ending) (w2 : World) => ∃ (n3 : Int), ∃ (b4 : Bool), ∃ (b5 : Bool), e1 = Ending.returned (Value.tuple { toList := [Value.int IntKind.i64 n3, Value.bool b4, Value.bool b5] })
  ∧ bcase (!b5) (R (Ending.returned (Value.slice none 0 0)) w2) (∃ (p6 : Option Nat), World.cell? w2 (Addr.add t 0) = some (Value.map p6) ∧
  ∃ (l7 : List (Int × Value)), MapO (Value.int IntKind.i64) w2 p6 l7 ∧ ∃ (p8 : Option Addr), (∃ (b9 : Bool), LookRel l7 n3 (Value.pointer
  none) (Value.pointer p8) b9) ∧ ∀ (w10 : World) (k11 : Nat), Step w2 w10 [] [k11] → (World.heap w10)[k11]? = some (Obj.map { toList := [] }
  0) → ∃ (ad14 : Addr), Value.pointer p8 = Value.pointer (some ad14) ∧ ∃ (p15 : Option Nat), World.cell? w10 (Addr.add ad14 0) = some
  (Value.map p15) ∧ ∃ (l16 : List (Int × Value)), MapO (Value.int IntKind.i64) w10 p15 l16 ∧ ∀ (w17 : World) (k18 : Nat), Step w10 w17 []
  [k18] → IterO (Value.int IntKind.i64) w17 k18 p15 l16 [] → ∃ (y21 : Nat → World → Prop), ∃ (k22 : Nat), y21 k22 w17 ∧ ∀ (k23 : Nat) (w24 :
  World), y21 k23 w24 → ∃ (p26 : Option Nat), ∃ (l27 : List (Int × Value)), ∃ (l28 : List Int), IterO (Value.int IntKind.i64) w24 k18 p26
  l27 l28 ∧ (∀ (y29 : Int × Value), y29 ∈ l27 → IsT Proofs.Try.prog 4 (Prod.snd y29)) ∧ (∀ (n31 : Int) (b32 : Bool), (n31, Value.bool b32) ∈
  l27 → ¬n31 ∈ l28 → ∀ (w35 : World), IStep w24 w35 k18 → IterO (Value.int IntKind.i64) w35 k18 p26 l27 (n31 :: l28) → Cur Proofs.Try.prog
  w35 k18 (Value.int IntKind.i64 n31) (Value.bool b32) → bcase true (∃ (n39 : Int), ∃ (b40 : Bool), Cur Proofs.Try.prog w35 k18 (Value.int
  IntKind.i64 n39) (Value.bool b40) ∧ Calls Proofs.Try.prog (32 : Nat) { toList := [Value.int IntKind.i64 n39, Value.bool b40, Value.agg { toList := spl (spl [Value.int IntKind.i64 (0 : Int), Value.bool false] 0 [Value.int IntKind.i64 s]) 1 [Value.bool b4] }] }
  w35 fun (e41 : Ending) (w42 : World) => ∃ (b43 : Bool), e41 = Ending.returned (Value.bool b43) ∧ bcase b43 (∃ (k44 : Nat), ∃ (l45 : List
  (Int × Value)), some k11 = some k44 ∧ MapG (Value.int IntKind.i64) w42 k44 l45 ∧ ∀ (w46 : World), MUpd (Value.int IntKind.i64) w42 w46 k44
  (updM l45 n39 (Value.bool true)) → ∃ (k48 : Nat), k48 < k23 ∧ y21 k48 w46) (∃ (k49 : Nat), k49 < k23 ∧ y21 k49 w42)) (∀ (y50 : World →
  Prop), (∀ (w51 : World), (Calls Proofs.Try.prog (33 : Nat) { toList := [Value.map (some k11)] } w51 fun (e52 : Ending) (w53 : World) => ∃
  (x54 : Value), e52 = Ending.returned x54 ∧ Calls Proofs.Try.prog (27 : Nat) { toList := [x54] } w53 fun (e55 : Ending) (w56 : World) => ∃
  (p57 : Option Addr), ∃ (k58 : Nat), ∃ (k59 : Nat), e55 = Ending.returned (Value.slice p57 k58 k59) ∧ R (Ending.returned (Value.slice p57
  k58 k59)) w56) → y50 w51) → ∃ (ad62 : Addr), Value.pointer p8 = Value.pointer (some ad62) ∧ ∃ (p63 : Option Addr), ∃ (k64 : Nat), ∃ (k65 :
  Nat), World.cell? w35 (Addr.add ad62 1) = some (Value.slice p63 k64 k65) ∧ ∃ (y66 : Nat → Int → World → Prop), ∃ (k67 : Nat), y66 k67 (0 :
  Int) w35 ∧ ∀ (k68 : Nat) (n69 : Int) (w70 : World), y66 k68 n69 w70 → bcase (decide (n69 < (k64 : Int))) (∃ (ad72 : Addr), p63 = some ad72
  ∧ ((0 : Int) ≤ n69 ∧ n69 < (k64 : Int)) ∧ ∃ (n73 : Int), ∃ (b74 : Bool), (World.cell? w70 (Addr.add (Addr.add ad72 (Int.toNat n69 * 2)) 0)
  = some (Value.int IntKind.i64 n73) ∧ World.cell? w70 (Addr.add (Addr.add ad72 (Int.toNat n69 * 2)) 1) = some (Value.bool b74) ∧ True) ∧ ∀
  (k75 : Nat), bcase (decide (n73 = s)) (∀ (w76 : World), Step w70 w76 [] [k75] → y50 w76) (∀ (w78 : World), Step w70 w78 [] [k75] → ∃ (k80
  : Nat), ∃ (l81 : List (Int × Value)), some k11 = some k80 ∧ MapG (Value.int IntKind.i64) w78 k80 l81 ∧ ∀ (w82 : World), MUpd (Value.int
  IntKind.i64) w78 w82 k80 (updM l81 n73 (Value.bool true)) → ∃ (k84 : Nat), k84 < k68 ∧ y66 k84 (IntKind.wrap IntKind.i64 (n69 + (1 :
  Int))) w82)) (y50 w70))) ∧ ((∀ (y85 : Int × Value), y85 ∈ l27 → Prod.fst y85 ∈ l28) → ∀ (w88 : World), IStep w24 w88 k18 → IterO
  (Value.int IntKind.i64) w88 k18 p26 l27 l28 → bcase false (∃ (n91 : Int), ∃ (b92 : Bool), Cur Proofs.Try.prog w88 k18 (Value.int
  IntKind.i64 n91) (Value.bool b92) ∧ Calls Proofs.Try.prog (32 : Nat) { toList := [Value.int IntKind.i64 n91, Value.bool b92, Value.agg { toList := spl (spl [Value.int IntKind.i64 (0 : Int), Value.bool false] 0 [Value.int IntKind.i64 s]) 1 [Value.bool b4] }] }
  w88 fun (e93 : Ending) (w94 : World) => ∃ (b95 : Bool), e93 = Ending.returned (Value.bool b95) ∧ bcase b95 (∃ (k96 : Nat), ∃ (l97 : List
  (Int × Value)), some k11 = some k96 ∧ MapG (Value.int IntKind.i64) w94 k96 l97 ∧ ∀ (w98 : World), MUpd (Value.int IntKind.i64) w94 w98 k96
  (updM l97 n91 (Value.bool true)) → ∃ (k100 : Nat), k100 < k23 ∧ y21 k100 w98) (∃ (k101 : Nat), k101 < k23 ∧ y21 k101 w94)) (∀ (y102 :
  World → Prop), (∀ (w103 : World), (Calls Proofs.Try.prog (33 : Nat) { toList := [Value.map (some k11)] } w103 fun (e104 : Ending) (w105 :
  World) => ∃ (x106 : Value), e104 = Ending.returned x106 ∧ Calls Proofs.Try.prog (27 : Nat) { toList := [x106] } w105 fun (e107 : Ending)
  (w108 : World) => ∃ (p109 : Option Addr), ∃ (k110 : Nat), ∃ (k111 : Nat), e107 = Ending.returned (Value.slice p109 k110 k111) ∧ R
  (Ending.returned (Value.slice p109 k110 k111)) w108) → y102 w103) → ∃ (ad114 : Addr), Value.pointer p8 = Value.pointer (some ad114) ∧ ∃
  (p115 : Option Addr), ∃ (k116 : Nat), ∃ (k117 : Nat), World.cell? w88 (Addr.add ad114 1) = some (Value.slice p115 k116 k117) ∧ ∃ (y118 :
  Nat → Int → World → Prop), ∃ (k119 : Nat), y118 k119 (0 : Int) w88 ∧ ∀ (k120 : Nat) (n121 : Int) (w122 : World), y118 k120 n121 w122 →
  bcase (decide (n121 < (k116 : Int))) (∃ (ad124 : Addr), p115 = some ad124 ∧ ((0 : Int) ≤ n121 ∧ n121 < (k116 : Int)) ∧ ∃ (n125 : Int), ∃
  (b126 : Bool), (World.cell? w122 (Addr.add (Addr.add ad124 (Int.toNat n121 * 2)) 0) = some (Value.int IntKind.i64 n125) ∧ World.cell? w122
  (Addr.add (Addr.add ad124 (Int.toNat n121 * 2)) 1) = some (Value.bool b126) ∧ True) ∧ ∀ (k127 : Nat), bcase (decide (n125 = s)) (∀ (w128 :
  World), Step w122 w128 [] [k127] → y102 w128) (∀ (w130 : World), Step w122 w130 [] [k127] → ∃ (k132 : Nat), ∃ (l133 : List (Int × Value)),
  some k11 = some k132 ∧ MapG (Value.int IntKind.i64) w130 k132 l133 ∧ ∀ (w134 : World), MUpd (Value.int IntKind.i64) w130 w134 k132 (updM
  l133 n125 (Value.bool true)) → ∃ (k136 : Nat), k136 < k120 ∧ y118 k136 (IntKind.wrap IntKind.i64 (n121 + (1 : Int))) w134)) (y102 w122))))

theorem lock_Table_Blockers.link {t : Addr} {s : Int} {R : Ending → World → Prop} {w : World} (h : lock_Table_Blockers.vc t s R w) : Calls Go.Proofs.Try.prog 16 #[.pointer (some t), .int .i64 s] w R :=
  calls_of pf (fn := Go.Proofs.Try.f16) (ann := .s (.n) (.s (.n) (.s (.s (.n) (.c (.s (.n) (.n)) (.n))) (.s (.n) (.s (.n) (.s (.s (.n) (.b (.l ⟨[], [], [], [], []⟩ (.s (.n) (.s (.c (.n) (.n)) (.b (.s (.n) (.s (.n) (.c (.n) (.n)))))))))) (.j ⟨[], [], [], [], []⟩ (.s (.n) (.b (.l ⟨[], [], [], [(53, .l (.i .i64))], []⟩ (.s (.n) (.s (.c (.n) (.n)) (.s (.b (.s (.n) (.s (.s (.n) (.c (.n) (.n))) (.n)))) (.n))))))) (.s (.n) (.n))))))))) (mp := false) (args := [.a t, .v (.int .i64 s)]) Go.Proofs.Try.func16 (c := Go.Proofs.Try.f16.body.getD .skip) (by kernel_rfl) (by kernel_rfl) (Eq.mp (by kernel_rfl) h)
theorem lock_Table_Blockers.body : BodyOk Go.Proofs.Try.prog 16 := ⟨Go.Proofs.Try.f16, Go.Proofs.Try.func16, by kernel_rfl, pf.ng _ _ Go.Proofs.Try.func16⟩

/-! ### (*rhizome/lock.Table).Edges: function 21 -/
def lock_Table_Edges.vc (t : Addr) (R : Ending → World → Prop) (w : World) : Prop := ∃ (p1 : Option Nat), World.cell? w (Addr.add t 1) =
  some (Value.map p1) ∧ Calls Proofs.Try.prog (42 : Nat) { toList := [Value.map p1] } w fun (e2 : Ending) (w3 : World) => ∃ (x4 : Value), e2
  = Ending.returned x4 ∧ Calls Proofs.Try.prog (27 : Nat) { toList := [x4] } w3 fun (e5 : Ending) (w6 : World) => ∃ (p7 : Option Addr), ∃
  (k8 : Nat), ∃ (k9 : Nat), e5 = Ending.returned (Value.slice p7 k8 k9) ∧ ∃ (y10 : Nat → Option Addr → Nat → Nat → Int → World → Prop), ∃
  (k11 : Nat), y10 k11 none 0 0 (0 : Int) w6 ∧ ∀ (k12 : Nat) (p13 : Option Addr) (k14 k15 : Nat) (n16 : Int) (w17 : World), y10 k12 p13 k14
  k15 n16 w17 → bcase (decide (n16 < (k8 : Int))) (∃ (ad19 : Addr), p7 = some ad19 ∧ ((0 : Int) ≤ n16 ∧ n16 < (k8 : Int)) ∧ ∃ (n20 : Int),
  World.cell? w17 (Addr.add ad19 (Int.toNat n16 * 1)) = some (Value.int IntKind.i64 n20) ∧ Calls Proofs.Try.prog (16 : Nat) { toList := [Value.pointer (some t), Value.int IntKind.i64 n20] }
  w17 fun (e21 : Ending) (w22 : World) => ∃ (p23 : Option Addr), ∃ (k24 : Nat), ∃ (k25 : Nat), e21 = Ending.returned (Value.slice p23 k24
  k25) ∧ ∃ (y26 : Nat → Option Addr → Nat → Nat → Int → World → Prop), ∃ (k27 : Nat), y26 k27 p13 k14 k15 (0 : Int) w22 ∧ ∀ (k28 : Nat) (p29
  : Option Addr) (k30 k31 : Nat) (n32 : Int) (w33 : World), y26 k28 p29 k30 k31 n32 w33 → bcase (decide (n32 < (k24 : Int))) (∃ (ad35 :
  Addr), p23 = some ad35 ∧ ((0 : Int) ≤ n32 ∧ n32 < (k24 : Int)) ∧ ∃ (n36 : Int), World.cell? w33 (Addr.add ad35 (Int.toNat n32 * 1)) = some
  (Value.int IntKind.i64 n36) ∧ ∀ (k37 : Nat), appendP false [] [k37] [k37] w33 p29 k30 k31 1 (spl (reps [Value.int IntKind.i64 (0 : Int),
  Value.int IntKind.i64 (0 : Int)] 1) 0 (spl (spl [Value.int IntKind.i64 (0 : Int), Value.int IntKind.i64 (0 : Int)] 0 [Value.int
  IntKind.i64 n20]) 1 [Value.int IntKind.i64 n36])) 2 16 [Value.int IntKind.i64 (0 : Int), Value.int IntKind.i64 (0 : Int)] fun (w38 :
  World) (p39 : Option Addr) (k40 k41 : Nat) => ∃ (k42 : Nat), k42 < k28 ∧ y26 k42 p39 k40 k41 (IntKind.wrap IntKind.i64 (n32 + (1 : Int)))
  w38) (∃ (k43 : Nat), k43 < k12 ∧ y10 k43 p29 k30 k31 (IntKind.wrap IntKind.i64 (n16 + (1 : Int))) w33)) (R (Ending.returned (Value.slice
  p13 k14 k15)) w17)

theorem lock_Table_Edges.link {t : Addr} {R : Ending → World → Prop} {w : World} (h : lock_Table_Edges.vc t R w) : Calls Go.Proofs.Try.prog 21 #[.pointer (some t)] w R :=
  calls_of pf (fn := Go.Proofs.Try.f21) (ann := .s (.n) (.s (.n) (.s (.s (.n) (.b (.l ⟨[], [], [], [(3, .l (.sl)), (15, .l (.i .i64))], []⟩ (.s (.n) (.s (.c (.n) (.n)) (.s (.b (.s (.n) (.s (.n) (.b (.l ⟨[], [], [], [(3, .l (.sl)), (23, .l (.i .i64))], []⟩ (.s (.n) (.s (.c (.n) (.n)) (.s (.b (.s (.n) (.n))) (.n))))))))) (.n))))))) (.s (.n) (.n))))) (mp := false) (args := [.a t]) Go.Proofs.Try.func21 (c := Go.Proofs.Try.f21.body.getD .skip) (by kernel_rfl) (by kernel_rfl) (Eq.mp (by kernel_rfl) h)
theorem lock_Table_Edges.body : BodyOk Go.Proofs.Try.prog 21 := ⟨Go.Proofs.Try.f21, Go.Proofs.Try.func21, by kernel_rfl, pf.ng _ _ Go.Proofs.Try.func21⟩

end Go.Proofs.Ytnimejocaaekaaa.VC
