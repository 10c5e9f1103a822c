/- What is to be shown of functions' texts, printed by a program of this session's repo; that it gives the functions' contracts is checked by the kernel. -/
import Derived.Test.YtcaamecdhbgknaaProg
import Derived.Test.YtcaamecdhbgknaaPf
namespace Go.Proofs.Ytcaamecdhbgknaa.VC
open Go Go.V
set_option maxRecDepth 1000000
set_option linter.unusedVariables false

/-! ### rhizome/rhizomelaw04.LogRoom: function 9 -/
def rhizomelaw04_LogRoom.vc (aSize : Int) (aFirst : Int) (aCount : Int) (listsA : Option Addr) (listsL listsC : Nat) (R : Ending → World → Prop) (w : World) : Prop :=
  ∀ (k1 : Nat) (y2 : Bool → World → Prop),
    (∀ (b3 : Bool) (w4 : World),
        bcase b3
            (Calls Proofs.Try.prog (33 : Nat) { toList := [] } w4 fun (e5 : Ending) (w6 : World) =>
              ∃ (b7 : Bool), e5 = Ending.returned (Value.bool b7) ∧ Keep [k1] w4 w6 ∧ R (Ending.returned (Value.bool b7)) w6)
            (Calls Proofs.Try.prog (20 : Nat) { toList := [Value.int IntKind.i64 aSize] } w4 fun (e8 : Ending) (w9 : World) =>
              ∃ (p10 : Option Addr),
                ∃ (n11 : Int),
                  e8 = Ending.returned (Value.tuple { toList := [Value.pointer p10, Value.int IntKind.i64 n11] }) ∧
                    Keep [k1] w4 w9 ∧
                      ∀ (y12 : Bool → World → Prop),
                        (∀ (b13 : Bool) (w14 : World),
                            bcase b13 (R (Ending.returned (Value.bool false)) w14)
                                (Calls Proofs.Try.prog (34 : Nat) { toList := [Value.pointer p10, Value.int IntKind.i64 aFirst, Value.int IntKind.i64 aCount] } w14
                                  fun (e15 : Ending) (w16 : World) =>
                                  ∃ (p17 : Option Addr),
                                    ∃ (p18 : Option Addr),
                                      ∃ (k19 : Nat),
                                        ∃ (k20 : Nat),
                                          ∃ (n21 : Int),
                                            e15 = Ending.returned (Value.tuple { toList := [Value.pointer p17, Value.slice p18 k19 k20, Value.int IntKind.i64 n21] }) ∧
                                              Keep [k1] w14 w16 ∧
                                                ∀ (y22 : Bool → World → Prop),
                                                  (∀ (b23 : Bool) (w24 : World),
                                                      bcase b23 (R (Ending.returned (Value.bool (decide (n21 = (1 : Int))))) w24)
                                                          (∃ (y25 : Nat → Int → World → Prop),
                                                            ∃ (k26 : Nat),
                                                              y25 k26 (0 : Int) w24 ∧
                                                                ∀ (k27 : Nat) (n28 : Int) (w29 : World),
                                                                  y25 k27 n28 w29 →
                                                                    ∀ (y31 : Bool → World → Prop),
                                                                      (∀ (b32 : Bool) (w33 : World),
                                                                          bcase b32
                                                                              (∃ (ad34 : Addr),
                                                                                listsA = some ad34 ∧
                                                                                  ((0 : Int) ≤ n28 ∧ n28 < (listsL : Int)) ∧
                                                                                    ∃ (p35 : Option Addr),
                                                                                      ∃ (k36 : Nat),
                                                                                        ∃ (k37 : Nat),
                                                                                          World.cell? w33 (Addr.add ad34 (Int.toNat n28 * 1)) = some (Value.slice p35 k36 k37) ∧
                                                                                            ∃ (ad38 : Addr),
                                                                                              listsA = some ad38 ∧
                                                                                                ((0 : Int) ≤ n28 ∧ n28 < (listsL : Int)) ∧
                                                                                                  ∃ (p39 : Option Addr),
                                                                                                    ∃ (k40 : Nat),
                                                                                                      ∃ (k41 : Nat),
                                                                                                        World.cell? w33 (Addr.add ad38 (Int.toNat n28 * 1)) =
                                                                                                            some (Value.slice p39 k40 k41) ∧
                                                                                                          ((0 : Int) ≤ (0 : Int) ∧
                                                                                                              ((0 : Int) ≤ if (400 : Int) < (k40 : Int) then (400 : Int) else (k40 : Int)) ∧
                                                                                                                (if (400 : Int) < (k40 : Int) then (400 : Int) else (k40 : Int)) ≤ (k37 : Int)) ∧
                                                                                                            ∀ (w42 : World),
                                                                                                              Step w33 w42 [] [] →
                                                                                                                Calls Proofs.Try.prog (35 : Nat)
                                                                                                                  {
                                                                                                                    toList :=
                                                                                                                      [Value.pointer p17,
                                                                                                                        Value.slice (subA p35 0 k37 1)
                                                                                                                          (Int.toNat (if (400 : Int) < (k40 : Int) then (400 : Int) else (k40 : Int)) - 0)
                                                                                                                          (k37 - 0)] }
                                                                                                                  w42 fun (e44 : Ending) (w45 : World) =>
                                                                                                                  ∃ (n46 : Int),
                                                                                                                    e44 = Ending.returned (Value.int IntKind.i64 n46) ∧
                                                                                                                      ∃ (k47 : Nat),
                                                                                                                        k47 < k27 ∧ y25 k47 (IntKind.wrap IntKind.i64 (n28 + (1 : Int))) w45)
                                                                              (Calls Proofs.Try.prog (36 : Nat) { toList := [Value.pointer p17] } w33 fun (e48 : Ending) (w49 : World) =>
                                                                                ∃ (n50 : Int),
                                                                                  e48 = Ending.returned (Value.int IntKind.i64 n50) ∧
                                                                                    bcase (decide (n50 < (0 : Int)))
                                                                                      (Calls Proofs.Try.prog (35 : Nat)
                                                                                        { toList := [Value.pointer p17, Value.slice none 0 0] } w49
                                                                                        fun (e51 : Ending) (w52 : World) =>
                                                                                        ∃ (n53 : Int),
                                                                                          e51 = Ending.returned (Value.int IntKind.i64 n53) ∧
                                                                                            R (Ending.returned (Value.bool (decide (n53 = (5 : Int))))) w52)
                                                                                      (∀ (y54 : Bool → World → Prop),
                                                                                        (∀ (b55 : Bool) (w56 : World),
                                                                                            bcase b55 (R (Ending.returned (Value.bool false)) w56)
                                                                                                (Calls Proofs.Try.prog (37 : Nat) { toList := [Value.pointer p17] } w56
                                                                                                  fun (e57 : Ending) (w58 : World) =>
                                                                                                  ∃ (n59 : Int),
                                                                                                    e57 = Ending.returned (Value.int IntKind.i64 n59) ∧
                                                                                                      ∀ (y60 : Bool → World → Prop),
                                                                                                        (∀ (b61 : Bool) (w62 : World), R (Ending.returned (Value.bool b61)) w62 → y60 b61 w62) →
                                                                                                          ((0 : Int) ≤ n50 ∧
                                                                                                              n50 ≤ n50 ∧ ((1 : Nat) : Int) * n50 ≤ (281474976710656 : Int) ∧ n50 ≤ (281474976710656 : Int)) ∧
                                                                                                            ∀ (w65 : World) (k66 : Nat),
                                                                                                              Step w58 w65 [] [k66] →
                                                                                                                Blk w65 k66 (reps [Value.int IntKind.u8 (0 : Int)] (Int.toNat n50)) →
                                                                                                                  Calls Proofs.Try.prog (35 : Nat)
                                                                                                                    {
                                                                                                                      toList :=
                                                                                                                        [Value.pointer p17,
                                                                                                                          Value.slice (some { block := k66, off := 0 }) (Int.toNat n50)
                                                                                                                            (Int.toNat n50)] }
                                                                                                                    w65 fun (e69 : Ending) (w70 : World) =>
                                                                                                                    ∃ (n71 : Int),
                                                                                                                      e69 = Ending.returned (Value.int IntKind.i64 n71) ∧
                                                                                                                        bcase (decide (n71 = (0 : Int)))
                                                                                                                          (Calls Proofs.Try.prog (37 : Nat) { toList := [Value.pointer p17] } w70
                                                                                                                            fun (e72 : Ending) (w73 : World) =>
                                                                                                                            ∃ (n74 : Int),
                                                                                                                              e72 = Ending.returned (Value.int IntKind.i64 n74) ∧
                                                                                                                                bcase
                                                                                                                                  (decide
                                                                                                                                    (n74 = IntKind.wrap IntKind.i64 (n59 + (1 : Int))))
                                                                                                                                  (bcase (decide (n50 = (4000 : Int))) (y60 true w73)
                                                                                                                                    (Calls Proofs.Try.prog (36 : Nat)
                                                                                                                                      { toList := [Value.pointer p17] } w73
                                                                                                                                      fun (e75 : Ending) (w76 : World) =>
                                                                                                                                      ∃ (n77 : Int),
                                                                                                                                        e75 = Ending.returned (Value.int IntKind.i64 n77) ∧
                                                                                                                                          y60 (decide (n77 = (-1 : Int))) w76))
                                                                                                                                  (y60 false w73))
                                                                                                                          (y60 false w70)) →
                                                                                              y54 b55 w56) →
                                                                                          bcase (decide (n50 < (4000 : Int)))
                                                                                            (((0 : Int) ≤ IntKind.wrap IntKind.i64 (n50 + (1 : Int)) ∧
                                                                                                IntKind.wrap IntKind.i64 (n50 + (1 : Int)) ≤ IntKind.wrap IntKind.i64 (n50 + (1 : Int)) ∧
                                                                                                  ((1 : Nat) : Int) * IntKind.wrap IntKind.i64 (n50 + (1 : Int)) ≤ (281474976710656 : Int) ∧
                                                                                                    IntKind.wrap IntKind.i64 (n50 + (1 : Int)) ≤ (281474976710656 : Int)) ∧
                                                                                              ∀ (w80 : World) (k81 : Nat),
                                                                                                Step w49 w80 [] [k81] →
                                                                                                  Blk w80 k81
                                                                                                      (reps [Value.int IntKind.u8 (0 : Int)]
                                                                                                        (Int.toNat (IntKind.wrap IntKind.i64 (n50 + (1 : Int))))) →
                                                                                                    Calls Proofs.Try.prog (35 : Nat)
                                                                                                      {
                                                                                                        toList :=
                                                                                                          [Value.pointer p17,
                                                                                                            Value.slice (some { block := k81, off := 0 })
                                                                                                              (Int.toNat (IntKind.wrap IntKind.i64 (n50 + (1 : Int))))
                                                                                                              (Int.toNat (IntKind.wrap IntKind.i64 (n50 + (1 : Int))))] }
                                                                                                      w80 fun (e84 : Ending) (w85 : World) =>
                                                                                                      ∃ (n86 : Int),
                                                                                                        e84 = Ending.returned (Value.int IntKind.i64 n86) ∧
                                                                                                          bcase (!decide (n86 = (5 : Int))) (y54 true w85)
                                                                                                            (((0 : Int) ≤ (4001 : Int) ∧
                                                                                                                (4001 : Int) ≤ (4001 : Int) ∧
                                                                                                                  ((1 : Nat) : Int) * (4001 : Int) ≤ (281474976710656 : Int) ∧
                                                                                                                    (4001 : Int) ≤ (281474976710656 : Int)) ∧
                                                                                                              ∀ (w87 : World) (k88 : Nat),
                                                                                                                Step w85 w87 [] [k88] →
                                                                                                                  Blk w87 k88 (reps [Value.int IntKind.u8 (0 : Int)] 4001) →
                                                                                                                    Calls Proofs.Try.prog (35 : Nat)
                                                                                                                      {
                                                                                                                        toList :=
                                                                                                                          [Value.pointer p17,
                                                                                                                            Value.slice (some { block := k88, off := 0 }) 4001
                                                                                                                              4001] }
                                                                                                                      w87 fun (e91 : Ending) (w92 : World) =>
                                                                                                                      ∃ (n93 : Int),
                                                                                                                        e91 = Ending.returned (Value.int IntKind.i64 n93) ∧
                                                                                                                          y54 (!decide (n93 = (3 : Int))) w92))
                                                                                            (((0 : Int) ≤ (4001 : Int) ∧
                                                                                                (4001 : Int) ≤ (4001 : Int) ∧
                                                                                                  ((1 : Nat) : Int) * (4001 : Int) ≤ (281474976710656 : Int) ∧ (4001 : Int) ≤ (281474976710656 : Int)) ∧
                                                                                              ∀ (w94 : World) (k95 : Nat),
                                                                                                Step w49 w94 [] [k95] →
                                                                                                  Blk w94 k95 (reps [Value.int IntKind.u8 (0 : Int)] 4001) →
                                                                                                    Calls Proofs.Try.prog (35 : Nat)
                                                                                                      {
                                                                                                        toList :=
                                                                                                          [Value.pointer p17,
                                                                                                            Value.slice (some { block := k95, off := 0 }) 4001
                                                                                                              4001] }
                                                                                                      w94 fun (e98 : Ending) (w99 : World) =>
                                                                                                      ∃ (n100 : Int),
                                                                                                        e98 = Ending.returned (Value.int IntKind.i64 n100) ∧
                                                                                                          y54 (!decide (n100 = (3 : Int))) w99))) →
                                                                            y31 b32 w33) →
                                                                        bcase (decide (n28 < (listsL : Int))) (y31 (decide (n28 < (10 : Int))) w29) (y31 false w29)) →
                                                        y22 b23 w24) →
                                                    bcase (!decide (n21 = (0 : Int))) (y22 true w16) (y22 (Option.isNone p17) w16)) →
                              y12 b13 w14) →
                          bcase (!decide (n11 = (0 : Int))) (y12 true w9) (y12 (Option.isNone p10) w9)) →
          y2 b3 w4) →
      ∀ (w109 : World),
        Step w w109 [] [k1] →
          Calls Proofs.Try.prog (33 : Nat) { toList := [] } w109 fun (e111 : Ending) (w112 : World) =>
            ∃ (b113 : Bool),
              e111 = Ending.returned (Value.bool b113) ∧
                Keep [k1] w109 w112 ∧
                  bcase (!b113) (y2 true w112) (bcase (decide (aSize < (1 : Int))) (y2 true w112) (y2 (decide ((80 : Int) < aSize)) w112))
theorem rhizomelaw04_LogRoom.link {aSize : Int} {aFirst : Int} {aCount : Int} {listsA : Option Addr} {listsL listsC : Nat} {R : Ending → World → Prop} {w : World} (h : rhizomelaw04_LogRoom.vc aSize aFirst aCount listsA listsL listsC R w) : Calls Go.Proofs.Try.prog 9 #[(.agg #[.int .i64 aSize, .int .i64 aFirst, .int .i64 aCount] : Value), .slice listsA listsL listsC] w R :=
  calls_of pf (fn := Go.Proofs.Try.f9) (ann := .s (.n) (.s (.j ⟨[], [], [0], [(23, .l (.b))], []⟩ (.n) (.c (.s (.n) (.n)) (.n))) (.s (.n) (.s (.j ⟨[], [], [0], [(36, .l (.b))], []⟩ (.n) (.c (.s (.n) (.n)) (.n))) (.s (.n) (.s (.j ⟨[], [], [], [(52, .l (.b))], []⟩ (.n) (.c (.s (.n) (.n)) (.n))) (.s (.s (.n) (.b (.l ⟨[], [], [], [(9, .l (.i .i64))], []⟩ (.s (.j ⟨[], [], [], [(62, .l (.b))], []⟩ (.n) (.c (.n) (.n))) (.s (.b (.n)) (.n)))))) (.s (.n) (.s (.s (.n) (.c (.s (.n) (.n)) (.n))) (.s (.j ⟨[], [], [], [(100, .l (.b))], []⟩ (.n) (.c (.s (.n) (.n)) (.n))) (.s (.n) (.j ⟨[], [], [], [(4, .l (.b))], []⟩ (.n) (.n))))))))))))) (mp := false) (args := [.v (.agg #[.int .i64 aSize, .int .i64 aFirst, .int .i64 aCount]), .v (.slice listsA listsL listsC)]) Go.Proofs.Try.func9 (c := Go.Proofs.Try.f9.body.getD .skip) (by kernel_rfl) (by kernel_rfl) (Eq.mp (by kernel_rfl) h)
theorem rhizomelaw04_LogRoom.body : BodyOk Go.Proofs.Try.prog 9 := ⟨Go.Proofs.Try.f9, Go.Proofs.Try.func9, by kernel_rfl, pf.ng _ _ Go.Proofs.Try.func9⟩

end Go.Proofs.Ytcaamecdhbgknaa.VC
