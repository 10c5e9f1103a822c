/- What is to be shown of functions' texts, printed by a program of this session's repo; that it gives the functions' contracts is checked by the kernel. -/
import Derived.Test.YtnplopiconabiaaProg
import Derived.Test.YtnplopiconabiaaPf
namespace Go.Proofs.Ytnplopiconabiaa.VC
open Go Go.V
set_option maxRecDepth 1000000
set_option linter.unusedVariables false

/-! ### rhizome/rhizomelaw13.SpanPairs: function 3 -/
def rhizomelaw13_SpanPairs.vc (label : ByteArray) (edgesA : Option Addr) (edgesL edgesC : Nat) (R : Ending → World → Prop) (w : World) :
  Prop := ∀ (y1 : Bool → World → Prop), (∀ (b2 : Bool) (w3 : World), bcase b2 (Calls Proofs.Try.prog (14 : Nat) { toList := [] } w3 fun (e4
  : Ending) (w5 : World) => ∃ (b6 : Bool), e4 = Ending.returned (Value.bool b6) ∧ R (Ending.returned (Value.bool b6)) w5) (∀ (k7 : Nat) (w8
  : World), Step w3 w8 [] [k7] → Blk w8 k7 (reps [Value.int IntKind.i64 (0 : Int), Value.string { data := { toList := [] } }, Value.int
  IntKind.i64 (0 : Int)] 0) → ∃ (l11 : List Value), List.length l11 = edgesL * 3 ∧ Row w8 edgesA l11 ∧ appendP true [] [] [] w8 (some
  { block := k7, off := 0 }) 0 0 edgesL l11 3 32 [Value.int IntKind.i64 (0 : Int), Value.string { data := { toList := [] } }, Value.int
  IntKind.i64 (0 : Int)] fun (w12 : World) (p13 : Option Addr) (k14 k15 : Nat) => Calls Proofs.Try.prog (15 : Nat) { toList := [Value.string label, Value.slice p13 k14 k15] }
  w12 fun (e16 : Ending) (w17 : World) => ∃ (p18 : Option Addr), ∃ (k19 : Nat), ∃ (k20 : Nat), ∃ (n21 : Int), e16 = Ending.returned
  (Value.tuple { toList := [Value.slice p18 k19 k20, Value.int IntKind.i64 n21] }) ∧ Calls Proofs.Try.prog (16 : Nat) { toList := [Value.string label, Value.slice edgesA edgesL edgesC] }
  w17 fun (e22 : Ending) (w23 : World) => ∃ (p24 : Option Addr), ∃ (k25 : Nat), ∃ (k26 : Nat), ∃ (n27 : Int), e22 = Ending.returned
  (Value.tuple { toList := [Value.slice p24 k25 k26, Value.int IntKind.i64 n27] }) ∧ ∀ (y28 : Bool → World → Prop), (∀ (b29 : Bool) (w30 :
  World), bcase b29 (R (Ending.returned (Value.bool false)) w30) (∃ (y31 : Nat → Int → World → Prop), ∃ (k32 : Nat), y31 k32 (0 : Int) w30 ∧
  ∀ (k33 : Nat) (n34 : Int) (w35 : World), y31 k33 n34 w35 → bcase (decide (n34 < (k19 : Int))) (∃ (ad37 : Addr), p18 = some ad37 ∧ ((0 :
  Int) ≤ n34 ∧ n34 < (k19 : Int)) ∧ ∃ (p38 : Option Addr), ∃ (k39 : Nat), ∃ (k40 : Nat), World.cell? w35 (Addr.add ad37 (Int.toNat n34 * 1))
  = some (Value.slice p38 k39 k40) ∧ ∃ (ad41 : Addr), p38 = some ad41 ∧ ((0 : Int) ≤ (0 : Int) ∧ (0 : Int) < (k39 : Int)) ∧ ∃ (n42 : Int),
  World.cell? w35 (Addr.add ad41 0) = some (Value.int IntKind.i64 n42) ∧ ∃ (ad43 : Addr), p38 = some ad43 ∧ ((0 : Int) ≤ (0 : Int) ∧ (0 :
  Int) < (k39 : Int)) ∧ ∃ (l44 : List Value), Blk w35 (Addr.block (Addr.add ad43 0)) l44 ∧ Addr.spot (Addr.add ad43 0) = none ∧ Addr.off
  (Addr.add ad43 0) + List.length [Value.int IntKind.i64 (IntKind.wrap IntKind.i64 (n42 + (1 : Int)))] ≤ List.length l44 ∧ ∀ (w45 : World),
  Upd w35 w45 (Addr.block (Addr.add ad43 0)) (sets l44 (Addr.off (Addr.add ad43 0)) [Value.int IntKind.i64 (IntKind.wrap IntKind.i64 (n42 +
  (1 : Int)))]) → ∃ (ad47 : Addr), p18 = some ad47 ∧ ((0 : Int) ≤ n34 ∧ n34 < (k19 : Int)) ∧ ∃ (p48 : Option Addr), ∃ (k49 : Nat), ∃ (k50 :
  Nat), World.cell? w45 (Addr.add ad47 (Int.toNat n34 * 1)) = some (Value.slice p48 k49 k50) ∧ ∀ (k51 : Nat), appendP false [] [k51] [k51]
  w45 p48 k49 k50 1 (spl (reps [Value.int IntKind.i64 (0 : Int)] 1) 0 [Value.int IntKind.i64 (4 : Int)]) 1 8 [Value.int IntKind.i64 (0 :
  Int)] fun (w52 : World) (p53 : Option Addr) (k54 k55 : Nat) => ∃ (ad56 : Addr), p18 = some ad56 ∧ ((0 : Int) ≤ n34 ∧ n34 < (k19 : Int)) ∧
  ∃ (l57 : List Value), Blk w52 (Addr.block (Addr.add ad56 (Int.toNat n34 * 1))) l57 ∧ Addr.spot (Addr.add ad56 (Int.toNat n34 * 1)) = none
  ∧ Addr.off (Addr.add ad56 (Int.toNat n34 * 1)) + List.length [Value.slice p53 k54 k55] ≤ List.length l57 ∧ ¬Addr.block (Addr.add ad56
  (Int.toNat n34 * 1)) ∈ [k51] ∧ ∀ (w58 : World), Upd w52 w58 (Addr.block (Addr.add ad56 (Int.toNat n34 * 1))) (sets l57 (Addr.off (Addr.add
  ad56 (Int.toNat n34 * 1))) [Value.slice p53 k54 k55]) → ∃ (k60 : Nat), k60 < k33 ∧ y31 k60 (IntKind.wrap IntKind.i64 (n34 + (1 : Int)))
  w58) (Calls Proofs.Try.prog (15 : Nat) { toList := [Value.string label, Value.slice p13 k14 k15] } w35 fun (e61 : Ending) (w62 : World) =>
  ∃ (p63 : Option Addr), ∃ (k64 : Nat), ∃ (k65 : Nat), ∃ (n66 : Int), e61 = Ending.returned (Value.tuple { toList := [Value.slice p63 k64 k65, Value.int IntKind.i64 n66] })
  ∧ ∀ (y67 : Bool → World → Prop), (∀ (b68 : Bool) (w69 : World), R (Ending.returned (Value.bool b68)) w69 → y67 b68 w69) → Calls
  Proofs.Try.prog (17 : Nat) { toList := [Value.slice p63 k64 k65, Value.slice p24 k25 k26] } w62 fun (e72 : Ending) (w73 : World) => ∃ (b74
  : Bool), e72 = Ending.returned (Value.bool b74) ∧ bcase b74 (Calls Proofs.Try.prog (18 : Nat) { toList := [Value.slice p13 k14 k15, Value.slice edgesA edgesL edgesC] }
  w73 fun (e75 : Ending) (w76 : World) => ∃ (b77 : Bool), e75 = Ending.returned (Value.bool b77) ∧ y67 b77 w76) (y67 false w73))) → y28 b29
  w30) → bcase (!decide (n21 = n27)) (y28 true w23) (Calls Proofs.Try.prog (17 : Nat) { toList := [Value.slice p18 k19 k20, Value.slice p24 k25 k26] }
  w23 fun (e80 : Ending) (w81 : World) => ∃ (b82 : Bool), e80 = Ending.returned (Value.bool b82) ∧ y28 (!b82) w81)) → y1 b2 w3) → Calls
  Proofs.Try.prog (14 : Nat) { toList := [] } w fun (e85 : Ending) (w86 : World) => ∃ (b87 : Bool), e85 = Ending.returned (Value.bool b87) ∧
  bcase (!b87) (y1 true w86) (bcase (decide ((20 : Int) < (edgesL : Int))) (y1 true w86) (y1 (decide ((300 : Int) < ((ByteArray.size label)
  : Int))) w86))

theorem rhizomelaw13_SpanPairs.link {label : ByteArray} {edgesA : Option Addr} {edgesL edgesC : Nat} {R : Ending → World → Prop} {w : World} (h : rhizomelaw13_SpanPairs.vc label edgesA edgesL edgesC R w) : Calls Go.Proofs.Try.prog 3 #[.string label, .slice edgesA edgesL edgesC] w R :=
  calls_of pf (fn := Go.Proofs.Try.f3) (ann := .s (.n) (.s (.j ⟨[], [], [], [(24, .l (.b))], []⟩ (.n) (.c (.s (.n) (.n)) (.n))) (.s (.n) (.s (.n) (.s (.n) (.s (.j ⟨[], [], [], [(49, .l (.b))], []⟩ (.n) (.c (.s (.n) (.n)) (.n))) (.s (.s (.n) (.b (.l ⟨[], [], [], [(52, .l (.i .i64))], []⟩ (.s (.n) (.s (.c (.n) (.n)) (.s (.b (.s (.n) (.s (.n) (.n)))) (.n))))))) (.s (.n) (.j ⟨[], [], [], [(4, .l (.b))], []⟩ (.n) (.n)))))))))) (mp := false) (args := [.v (.string label), .v (.slice edgesA edgesL edgesC)]) Go.Proofs.Try.func3 (c := Go.Proofs.Try.f3.body.getD .skip) (by kernel_rfl) (by kernel_rfl) (Eq.mp (by kernel_rfl) h)
theorem rhizomelaw13_SpanPairs.body : BodyOk Go.Proofs.Try.prog 3 := ⟨Go.Proofs.Try.f3, Go.Proofs.Try.func3, by kernel_rfl, pf.ng _ _ Go.Proofs.Try.func3⟩

end Go.Proofs.Ytnplopiconabiaa.VC
