/- What is to be shown of functions' texts, printed by a program of this session's repo; that it gives the functions' contracts is checked by the kernel. -/
import Derived.Test.YtamaoileeipgeaaDoorProg
import Derived.Test.YtamaoileeipgeaaDoorPf
namespace Go.Proofs.YtamaoileeipgeaaDoor.VC
open Go Go.V
set_option maxRecDepth 1000000
set_option linter.unusedVariables false

/-! ### rhizome/rhizomelaw01.KeyBetween: function 4 -/
def rhizomelaw01_KeyBetween.vc (frontA : Option Addr) (frontL frontC : Nat) (n0 : Int) (n1 : Int) (s0 : ByteArray) (s1 : ByteArray) (R :
  Ending → World → Prop) (w : World) : Prop := ∀ (k1 k2 k3 : Nat) (y4 : Bool → World → Prop), (∀ (b5 : Bool) (w6 : World), bcase b5 (Calls
  Proofs.Tryd.prog (10 : Nat) { toList := [] } w6 fun (e7 : Ending) (w8 : World) => ∃ (b9 : Bool), e7 = Ending.returned (Value.bool b9) ∧
  Keep [k1, k2, k3] w6 w8 ∧ R (Ending.returned (Value.bool b9)) w8) (Blk w6 k1 [Value.slice frontA frontL frontC] → ((0 : Int) ≤ (0 : Int) ∧
  (0 : Int) < ((2 : Nat) : Int)) ∧ ((0 : Int) ≤ (1 : Int) ∧ (1 : Int) < ((2 : Nat) : Int)) ∧ ∀ (w11 : World), Step w6 w11 [] [] → Calls
  Proofs.Tryd.prog (17 : Nat) { toList := [Value.int IntKind.i64 n0] } w11 fun (e13 : Ending) (w14 : World) => ∃ (b15 : Bool), ∃ (s16 :
  ByteArray), ∃ (n17 : Int), e13 = Ending.returned (Value.agg { toList := [Value.bool b15, Value.string s16, Value.int IntKind.i64 n17] }) ∧
  Keep [k2, k3] w11 w14 ∧ BodyOk Proofs.Tryd.prog 14 ∧ Calls Proofs.Tryd.prog 14 { toList := [Value.agg { toList := [Value.bool b15, Value.string s16, Value.int IntKind.i64 n17] }, Value.pointer (some { block := k1, off := 0 })] }
  w14 fun (e18 : Ending) (w19 : World) => ∃ (p20 : Option Addr), ∃ (k21 : Nat), ∃ (k22 : Nat), e18 = Ending.returned (Value.slice p20 k21
  k22) ∧ Keep [k2, k3] w14 w19 ∧ Calls Proofs.Tryd.prog (17 : Nat) { toList := [Value.int IntKind.i64 n1] } w19 fun (e23 : Ending) (w24 :
  World) => ∃ (b25 : Bool), ∃ (s26 : ByteArray), ∃ (n27 : Int), e23 = Ending.returned (Value.agg { toList := [Value.bool b25, Value.string s26, Value.int IntKind.i64 n27] })
  ∧ Keep [k2, k3] w19 w24 ∧ BodyOk Proofs.Tryd.prog 14 ∧ Calls Proofs.Tryd.prog 14 { toList := [Value.agg { toList := [Value.bool b25, Value.string s26, Value.int IntKind.i64 n27] }, Value.pointer (some { block := k1, off := 0 })] }
  w24 fun (e28 : Ending) (w29 : World) => ∃ (p30 : Option Addr), ∃ (k31 : Nat), ∃ (k32 : Nat), e28 = Ending.returned (Value.slice p30 k31
  k32) ∧ Keep [k2, k3] w24 w29 ∧ ((0 : Int) ≤ (0 : Int) ∧ (0 : Int) < ((2 : Nat) : Int)) ∧ ((0 : Int) ≤ (1 : Int) ∧ (1 : Int) < ((2 : Nat) :
  Int)) ∧ ∀ (w33 : World), Step w29 w33 [] [] → Calls Proofs.Tryd.prog (18 : Nat) { toList := [Value.string s0] } w33 fun (e35 : Ending)
  (w36 : World) => ∃ (b37 : Bool), ∃ (s38 : ByteArray), ∃ (n39 : Int), e35 = Ending.returned (Value.agg { toList := [Value.bool b37, Value.string s38, Value.int IntKind.i64 n39] })
  ∧ Keep [k2, k3] w33 w36 ∧ BodyOk Proofs.Tryd.prog 14 ∧ Calls Proofs.Tryd.prog 14 { toList := [Value.agg { toList := [Value.bool b37, Value.string s38, Value.int IntKind.i64 n39] }, Value.pointer (some { block := k1, off := 0 })] }
  w36 fun (e40 : Ending) (w41 : World) => ∃ (p42 : Option Addr), ∃ (k43 : Nat), ∃ (k44 : Nat), e40 = Ending.returned (Value.slice p42 k43
  k44) ∧ Keep [k2, k3] w36 w41 ∧ Calls Proofs.Tryd.prog (18 : Nat) { toList := [Value.string s1] } w41 fun (e45 : Ending) (w46 : World) => ∃
  (b47 : Bool), ∃ (s48 : ByteArray), ∃ (n49 : Int), e45 = Ending.returned (Value.agg { toList := [Value.bool b47, Value.string s48, Value.int IntKind.i64 n49] })
  ∧ Keep [k2, k3] w41 w46 ∧ BodyOk Proofs.Tryd.prog 14 ∧ Calls Proofs.Tryd.prog 14 { toList := [Value.agg { toList := [Value.bool b47, Value.string s48, Value.int IntKind.i64 n49] }, Value.pointer (some { block := k1, off := 0 })] }
  w46 fun (e50 : Ending) (w51 : World) => ∃ (p52 : Option Addr), ∃ (k53 : Nat), ∃ (k54 : Nat), e50 = Ending.returned (Value.slice p52 k53
  k54) ∧ Keep [k2, k3] w46 w51 ∧ ∀ (y55 : Bool → World → Prop), (∀ (b56 : Bool) (w57 : World), bcase b56 (R (Ending.returned (Value.bool
  false)) w57) (∀ (y58 : Bool → World → Prop), (∀ (b59 : Bool) (w60 : World), bcase b59 (R (Ending.returned (Value.bool false)) w60) (∀ (y61
  : Bool → World → Prop), (∀ (b62 : Bool) (w63 : World), R (Ending.returned (Value.bool b62)) w63 → y61 b62 w63) → bcase (decide ((k21 :
  Int) = (0 : Int))) (y61 true w60) (bcase (decide ((k43 : Int) = (0 : Int))) (y61 true w60) (∃ (l66 : List UInt8), List.length l66 = k21 ∧
  (∀ (k67 : Nat), k67 < k21 → ∃ (ad69 : Addr), p20 = some ad69 ∧ World.cell? w60 (Addr.add ad69 k67) = some (Value.int IntKind.u8
  ((UInt8.toNat (List.getD l66 k67 (0 : UInt8))) : Int))) ∧ ∃ (l70 : List UInt8), List.length l70 = k43 ∧ (∀ (k71 : Nat), k71 < k43 → ∃
  (ad73 : Addr), p42 = some ad73 ∧ World.cell? w60 (Addr.add ad73 k71) = some (Value.int IntKind.u8 ((UInt8.toNat (List.getD l70 k71 (0 :
  UInt8))) : Int))) ∧ y61 (Op.bytesLess l66 l70) w60))) → y58 b59 w60) → bcase (decide ((0 : Int) < (k43 : Int))) (bcase (decide ((0 : Int)
  < (k53 : Int))) (∃ (l76 : List UInt8), List.length l76 = k43 ∧ (∀ (k77 : Nat), k77 < k43 → ∃ (ad79 : Addr), p42 = some ad79 ∧ World.cell?
  w57 (Addr.add ad79 k77) = some (Value.int IntKind.u8 ((UInt8.toNat (List.getD l76 k77 (0 : UInt8))) : Int))) ∧ ∃ (l80 : List UInt8),
  List.length l80 = k53 ∧ (∀ (k81 : Nat), k81 < k53 → ∃ (ad83 : Addr), p52 = some ad83 ∧ World.cell? w57 (Addr.add ad83 k81) = some
  (Value.int IntKind.u8 ((UInt8.toNat (List.getD l80 k81 (0 : UInt8))) : Int))) ∧ ((0 : Int) ≤ (0 : Int) ∧ (0 : Int) < ((2 : Nat) : Int)) ∧
  ((0 : Int) ≤ (1 : Int) ∧ (1 : Int) < ((2 : Nat) : Int)) ∧ y58 (!Op.bytesLess l76 l80 == Op.bytesLess (Array.toList (ByteArray.data s0))
  (Array.toList (ByteArray.data s1))) w57) (y58 false w57)) (y58 false w57)) → y55 b56 w57) → bcase (decide ((0 : Int) < (k21 : Int)))
  (bcase (decide ((0 : Int) < (k31 : Int))) (∃ (l86 : List UInt8), List.length l86 = k21 ∧ (∀ (k87 : Nat), k87 < k21 → ∃ (ad89 : Addr), p20
  = some ad89 ∧ World.cell? w51 (Addr.add ad89 k87) = some (Value.int IntKind.u8 ((UInt8.toNat (List.getD l86 k87 (0 : UInt8))) : Int))) ∧ ∃
  (l90 : List UInt8), List.length l90 = k31 ∧ (∀ (k91 : Nat), k91 < k31 → ∃ (ad93 : Addr), p30 = some ad93 ∧ World.cell? w51 (Addr.add ad93
  k91) = some (Value.int IntKind.u8 ((UInt8.toNat (List.getD l90 k91 (0 : UInt8))) : Int))) ∧ ((0 : Int) ≤ (0 : Int) ∧ (0 : Int) < ((2 :
  Nat) : Int)) ∧ ((0 : Int) ≤ (1 : Int) ∧ (1 : Int) < ((2 : Nat) : Int)) ∧ y55 (!Op.bytesLess l86 l90 == decide (n0 < n1)) w51) (y55 false
  w51)) (y55 false w51)) → y4 b5 w6) → ∀ (w96 : World), Step w w96 [] [k3, k2, k1] → Calls Proofs.Tryd.prog (10 : Nat) { toList := [] } w96
  fun (e98 : Ending) (w99 : World) => ∃ (b100 : Bool), e98 = Ending.returned (Value.bool b100) ∧ Keep [k1, k2, k3] w96 w99 ∧ bcase (!b100)
  (y4 true w99) (Calls Proofs.Tryd.prog (13 : Nat) { toList := [Value.slice frontA frontL frontC] } w99 fun (e101 : Ending) (w102 : World)
  => ∃ (b103 : Bool), e101 = Ending.returned (Value.bool b103) ∧ Keep [k1, k2, k3] w99 w102 ∧ bcase (!b103) (y4 true w102) (((0 : Int) ≤ (0
  : Int) ∧ (0 : Int) < ((2 : Nat) : Int)) ∧ ((0 : Int) ≤ (1 : Int) ∧ (1 : Int) < ((2 : Nat) : Int)) ∧ y4 (decide ((300 : Int) < IntKind.wrap
  IntKind.i64 (((ByteArray.size s0) : Int) + ((ByteArray.size s1) : Int)))) w102))

theorem rhizomelaw01_KeyBetween.link {frontA : Option Addr} {frontL frontC : Nat} {n0 : Int} {n1 : Int} {s0 : ByteArray} {s1 : ByteArray} {R : Ending → World → Prop} {w : World} (h : rhizomelaw01_KeyBetween.vc frontA frontL frontC n0 n1 s0 s1 R w) : Calls Go.Proofs.Tryd.prog 4 #[.slice frontA frontL frontC, (.agg #[.int .i64 n0, .int .i64 n1] : Value), (.agg #[.string s0, .string s1] : Value)] w R :=
  calls_of pf (fn := Go.Proofs.Tryd.f4) (ann := .s (.n) (.s (.j ⟨[], [], [0, 1, 2], [(28, .l (.b))], []⟩ (.n) (.c (.s (.n) (.n)) (.n))) (.s (.n) (.s (.d [1, 2]) (.s (.d [1, 2]) (.s (.j ⟨[], [], [2], [(71, .l (.b))], []⟩ (.n) (.c (.s (.n) (.n)) (.n))) (.s (.j ⟨[], [], [], [(92, .l (.b))], []⟩ (.n) (.c (.s (.n) (.n)) (.n))) (.j ⟨[], [], [], [(6, .l (.b))], []⟩ (.n) (.n))))))))) (mp := false) (args := [.v (.slice frontA frontL frontC), .v (.agg #[.int .i64 n0, .int .i64 n1]), .v (.agg #[.string s0, .string s1])]) Go.Proofs.Tryd.func4 (c := Go.Proofs.Tryd.f4.body.getD .skip) (by kernel_rfl) (by kernel_rfl) (Eq.mp (by kernel_rfl) h)
theorem rhizomelaw01_KeyBetween.body : BodyOk Go.Proofs.Tryd.prog 4 := ⟨Go.Proofs.Tryd.f4, Go.Proofs.Tryd.func4, by kernel_rfl, pf.ng _ _ Go.Proofs.Tryd.func4⟩

end Go.Proofs.YtamaoileeipgeaaDoor.VC
