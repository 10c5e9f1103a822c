/- What is to be shown of functions' texts, printed by a program of this session's repo; that it gives the functions' contracts is checked by the kernel. -/
import Derived.Test.YtcaamecdhbgknaaProg
import Derived.Test.YtcaamecdhbgknaaPf
namespace Go.Proofs.Ytcaamecdhbgknaa.VC
open Go Go.V
set_option maxRecDepth 1000000
set_option linter.unusedVariables false

/-! ### rhizome/rhizomelaw04.LogWhole: function 11 -/
def rhizomelaw04_LogWhole.vc (listsA : Option Addr) (listsL listsC : Nat) (keepA : Option Addr) (keepL keepC : Nat) (cuts0 : Int) (cuts1 : Int) (cuts2 : Int) (R : Ending → World → Prop) (w : World) : Prop :=
  ∀ (k1 : Nat) (w2 : World),
    Step w w2 [] [k1] →
      Calls Proofs.Try.prog (33 : Nat) { toList := [] } w2 fun (e4 : Ending) (w5 : World) =>
        ∃ (b6 : Bool),
          e4 = Ending.returned (Value.bool b6) ∧
            Keep [k1] w2 w5 ∧
              bcase (!b6) (R (Ending.returned (Value.bool false)) w5)
                (Calls Proofs.Try.prog (20 : Nat) { toList := [Value.int IntKind.i64 (60 : Int)] } w5 fun (e7 : Ending) (w8 : World) =>
                  ∃ (p9 : Option Addr),
                    ∃ (n10 : Int),
                      e7 = Ending.returned (Value.tuple { toList := [Value.pointer p9, Value.int IntKind.i64 n10] }) ∧
                        Keep [k1] w5 w8 ∧
                          ∀ (y11 : Bool → World → Prop),
                            (∀ (b12 : Bool) (w13 : World),
                                bcase b12 (R (Ending.returned (Value.bool false)) w13)
                                    (Calls Proofs.Try.prog (34 : Nat) { toList := [Value.pointer p9, Value.int IntKind.i64 (3 : Int), Value.int IntKind.i64 (50 : Int)] } w13
                                      fun (e14 : Ending) (w15 : World) =>
                                      ∃ (p16 : Option Addr),
                                        ∃ (p17 : Option Addr),
                                          ∃ (k18 : Nat),
                                            ∃ (k19 : Nat),
                                              ∃ (n20 : Int),
                                                e14 = Ending.returned (Value.tuple { toList := [Value.pointer p16, Value.slice p17 k18 k19, Value.int IntKind.i64 n20] }) ∧
                                                  Keep [k1] w13 w15 ∧
                                                    ∀ (y21 : Bool → World → Prop),
                                                      (∀ (b22 : Bool) (w23 : World),
                                                          bcase b22 (R (Ending.returned (Value.bool false)) w23)
                                                              (∃ (y24 : Nat → Option Addr → Nat → Nat → Option Addr → Nat → Nat → Bool → Int → World → Prop),
                                                                ∃ (k25 : Nat),
                                                                  y24 k25 none 0 0 none 0 0 false (0 : Int) w23 ∧
                                                                    ∀ (k26 : Nat) (p27 : Option Addr) (k28 k29 : Nat) (p30 : Option Addr) (k31 k32 : Nat) (b33 : Bool) (n34 : Int) (w35 : World),
                                                                      y24 k26 p27 k28 k29 p30 k31 k32 b33 n34 w35 →
                                                                        ∀ (y37 : Bool → World → Prop),
                                                                          (∀ (b38 : Bool) (w39 : World),
                                                                              bcase b38
                                                                                  (∀ (y40 : Option Addr → Nat → Nat → Option Addr → Nat → Nat → Bool → World → Prop),
                                                                                    (∀ (p41 : Option Addr) (k42 k43 : Nat) (p44 : Option Addr) (k45 k46 : Nat) (b47 : Bool) (w48 : World),
                                                                                        (∃ (k49 : Nat),
                                                                                            k49 < k26 ∧ y24 k49 p41 k42 k43 p44 k45 k46 b47 (IntKind.wrap IntKind.i64 (n34 + (1 : Int))) w48) →
                                                                                          y40 p41 k42 k43 p44 k45 k46 b47 w48) →
                                                                                      ∃ (ad52 : Addr),
                                                                                        listsA = some ad52 ∧
                                                                                          ((0 : Int) ≤ n34 ∧ n34 < (listsL : Int)) ∧
                                                                                            ∃ (p53 : Option Addr),
                                                                                              ∃ (k54 : Nat),
                                                                                                ∃ (k55 : Nat),
                                                                                                  World.cell? w39 (Addr.add ad52 (Int.toNat n34 * 1)) =
                                                                                                      some (Value.slice p53 k54 k55) ∧
                                                                                                    ∃ (ad56 : Addr),
                                                                                                      listsA = some ad56 ∧
                                                                                                        ((0 : Int) ≤ n34 ∧ n34 < (listsL : Int)) ∧
                                                                                                          ∃ (p57 : Option Addr),
                                                                                                            ∃ (k58 : Nat),
                                                                                                              ∃ (k59 : Nat),
                                                                                                                World.cell? w39 (Addr.add ad56 (Int.toNat n34 * 1)) =
                                                                                                                    some (Value.slice p57 k58 k59) ∧
                                                                                                                  ((0 : Int) ≤ (0 : Int) ∧
                                                                                                                      ((0 : Int) ≤ if (300 : Int) < (k58 : Int) then (300 : Int) else (k58 : Int)) ∧
                                                                                                                        (if (300 : Int) < (k58 : Int) then (300 : Int) else (k58 : Int)) ≤ (k55 : Int)) ∧
                                                                                                                    ∀ (w60 : World),
                                                                                                                      Step w39 w60 [] [] →
                                                                                                                        Calls Proofs.Try.prog (35 : Nat)
                                                                                                                          {
                                                                                                                            toList :=
                                                                                                                              [Value.pointer p16,
                                                                                                                                Value.slice (subA p53 0 k55 1)
                                                                                                                                  (Int.toNat (if (300 : Int) < (k58 : Int) then (300 : Int) else (k58 : Int)) -
                                                                                                                                    0)
                                                                                                                                  (k55 - 0)] }
                                                                                                                          w60 fun (e62 : Ending) (w63 : World) =>
                                                                                                                          ∃ (n64 : Int),
                                                                                                                            e62 = Ending.returned (Value.int IntKind.i64 n64) ∧
                                                                                                                              Keep [k1] w60 w63 ∧
                                                                                                                                bcase (decide (n64 = (0 : Int)))
                                                                                                                                  (∀ (k65 : Nat),
                                                                                                                                    appendP false [] [k65] [k1, k65] w63 p27 k28 k29 1
                                                                                                                                      (spl
                                                                                                                                        (reps [Value.slice none 0 0]
                                                                                                                                          1)
                                                                                                                                        0
                                                                                                                                        [Value.slice (subA p53 0 k55 1)
                                                                                                                                            (Int.toNat
                                                                                                                                                (if (300 : Int) < (k58 : Int) then (300 : Int) else (k58 : Int)) -
                                                                                                                                              0)
                                                                                                                                            (k55 - 0)])
                                                                                                                                      1 24
                                                                                                                                      [Value.slice none 0 0]
                                                                                                                                      fun (w66 : World) (p67 : Option Addr) (k68 k69 : Nat) =>
                                                                                                                                      y40 p67 k68 k69 p30 k31 k32 b33 w66)
                                                                                                                                  (bcase (decide (n64 = (30 : Int)))
                                                                                                                                    (y40 p27 k28 k29 (subA p53 0 k55 1)
                                                                                                                                      (Int.toNat (if (300 : Int) < (k58 : Int) then (300 : Int) else (k58 : Int)) -
                                                                                                                                        0)
                                                                                                                                      (k55 - 0) true w63)
                                                                                                                                    (y40 p27 k28 k29 p30 k31 k32 b33 w63)))
                                                                                  (((0 : Int) ≤ (1 : Int) ∧ (1 : Int) < ((3 : Nat) : Int)) ∧
                                                                                    ((0 : Int) ≤ (2 : Int) ∧ (2 : Int) < ((3 : Nat) : Int)) ∧
                                                                                      Calls Proofs.Try.prog (28 : Nat)
                                                                                        {
                                                                                          toList :=
                                                                                            [Value.pointer p9, Value.slice keepA keepL keepC, Value.int IntKind.i64 cuts1,
                                                                                              Value.int IntKind.i64 cuts2] }
                                                                                        w39 fun (e70 : Ending) (w71 : World) =>
                                                                                        ∃ (p72 : Option Addr),
                                                                                          e70 = Ending.returned (Value.pointer p72) ∧
                                                                                            Keep [k1] w39 w71 ∧
                                                                                              bcase (Option.isNone p72) (R (Ending.returned (Value.bool false)) w71)
                                                                                                (Calls Proofs.Try.prog (34 : Nat)
                                                                                                  {
                                                                                                    toList :=
                                                                                                      [Value.pointer p72, Value.int IntKind.i64 (3 : Int),
                                                                                                        Value.int IntKind.i64 (50 : Int)] }
                                                                                                  w71 fun (e73 : Ending) (w74 : World) =>
                                                                                                  ∃ (p75 : Option Addr),
                                                                                                    ∃ (p76 : Option Addr),
                                                                                                      ∃ (k77 : Nat),
                                                                                                        ∃ (k78 : Nat),
                                                                                                          ∃ (n79 : Int),
                                                                                                            e73 =
                                                                                                                Ending.returned
                                                                                                                  (Value.tuple
                                                                                                                    {
                                                                                                                      toList :=
                                                                                                                        [Value.pointer p75, Value.slice p76 k77 k78,
                                                                                                                          Value.int IntKind.i64 n79] }) ∧
                                                                                                              Keep [k1] w71 w74 ∧
                                                                                                                ∀ (y80 : Bool → World → Prop),
                                                                                                                  (∀ (b81 : Bool) (w82 : World),
                                                                                                                      bcase b81 (R (Ending.returned (Value.bool false)) w82)
                                                                                                                          (∃ (y83 : Nat → Int → World → Prop),
                                                                                                                            ∃ (k84 : Nat),
                                                                                                                              y83 k84 (0 : Int) w82 ∧
                                                                                                                                ∀ (k85 : Nat) (n86 : Int) (w87 : World),
                                                                                                                                  y83 k85 n86 w87 →
                                                                                                                                    bcase (decide (n86 < (k77 : Int)))
                                                                                                                                      (∀ (y89 : Option Addr → Nat → Nat → World → Prop),
                                                                                                                                        (∀ (p90 : Option Addr) (k91 k92 : Nat) (w93 : World),
                                                                                                                                            (∀ (y94 : Bool → World → Prop),
                                                                                                                                                (∀ (b95 : Bool) (w96 : World),
                                                                                                                                                    bcase b95
                                                                                                                                                        (R (Ending.returned (Value.bool false))
                                                                                                                                                          w96)
                                                                                                                                                        (∃ (k97 : Nat),
                                                                                                                                                          k97 < k85 ∧
                                                                                                                                                            y83 k97
                                                                                                                                                              (IntKind.wrap IntKind.i64
                                                                                                                                                                (n86 + (1 : Int)))
                                                                                                                                                              w96) →
                                                                                                                                                      y94 b95 w96) →
                                                                                                                                                  ∃ (ad100 : Addr),
                                                                                                                                                    p76 = some ad100 ∧
                                                                                                                                                      ((0 : Int) ≤ n86 ∧ n86 < (k77 : Int)) ∧
                                                                                                                                                        ∃ (n101 : Int),
                                                                                                                                                          World.cell? w93
                                                                                                                                                                (Addr.add
                                                                                                                                                                  (Addr.add ad100
                                                                                                                                                                    (Int.toNat n86 * 2))
                                                                                                                                                                  0) =
                                                                                                                                                              some
                                                                                                                                                                (Value.int IntKind.i64 n101) ∧
                                                                                                                                                            bcase
                                                                                                                                                              (!decide
                                                                                                                                                                  (n101 =
                                                                                                                                                                    IntKind.wrap IntKind.i64
                                                                                                                                                                      (n86 + (1 : Int))))
                                                                                                                                                              (∀ (w102 : World),
                                                                                                                                                                Step w93 w102 [] [] →
                                                                                                                                                                  y94 true w102)
                                                                                                                                                              (∃ (ad104 : Addr),
                                                                                                                                                                p76 = some ad104 ∧
                                                                                                                                                                  ((0 : Int) ≤ n86 ∧ n86 < (k77 : Int)) ∧
                                                                                                                                                                    ∃ (p105 : Option Addr),
                                                                                                                                                                      ∃ (k106 : Nat),
                                                                                                                                                                        ∃ (k107 : Nat),
                                                                                                                                                                          World.cell? w93
                                                                                                                                                                                (Addr.add
                                                                                                                                                                                  (Addr.add ad104
                                                                                                                                                                                    (Int.toNat n86 *
                                                                                                                                                                                      2))
                                                                                                                                                                                  1) =
                                                                                                                                                                              some
                                                                                                                                                                                (Value.slice p105 k106
                                                                                                                                                                                  k107) ∧
                                                                                                                                                                            ∃ (l108 : List UInt8),
                                                                                                                                                                              List.length l108 = k106 ∧
                                                                                                                                                                                (∀ (k109 : Nat),
                                                                                                                                                                                    k109 < k106 →
                                                                                                                                                                                      ∃ (ad111 : Addr),
                                                                                                                                                                                        p105 =
                                                                                                                                                                                            some
                                                                                                                                                                                              ad111 ∧
                                                                                                                                                                                          World.cell?
                                                                                                                                                                                              w93
                                                                                                                                                                                              (Addr.add
                                                                                                                                                                                                ad111
                                                                                                                                                                                                k109) =
                                                                                                                                                                                            some
                                                                                                                                                                                              (Value.int
                                                                                                                                                                                                IntKind.u8
                                                                                                                                                                                                ((UInt8.toNat
                                                                                                                                                                                                    (List.getD
                                                                                                                                                                                                      l108
                                                                                                                                                                                                      k109
                                                                                                                                                                                                      (0 :
                                                                                                                                                                                                        UInt8))) : Int))) ∧
                                                                                                                                                                                  ∃ (l112 : List UInt8),
                                                                                                                                                                                    List.length l112 =
                                                                                                                                                                                        k91 ∧
                                                                                                                                                                                      (∀ (k113 : Nat),
                                                                                                                                                                                          k113 < k91 →
                                                                                                                                                                                            ∃ (ad115 :
                                                                                                                                                                                              Addr),
                                                                                                                                                                                              p90 =
                                                                                                                                                                                                  some
                                                                                                                                                                                                    ad115 ∧
                                                                                                                                                                                                World.cell?
                                                                                                                                                                                                    w93
                                                                                                                                                                                                    (Addr.add
                                                                                                                                                                                                      ad115
                                                                                                                                                                                                      k113) =
                                                                                                                                                                                                  some
                                                                                                                                                                                                    (Value.int
                                                                                                                                                                                                      IntKind.u8
                                                                                                                                                                                                      ((UInt8.toNat
                                                                                                                                                                                                          (List.getD
                                                                                                                                                                                                            l112
                                                                                                                                                                                                            k113
                                                                                                                                                                                                            (0 :
                                                                                                                                                                                                              UInt8))) : Int))) ∧
                                                                                                                                                                                        ∀
                                                                                                                                                                                          (w116 :
                                                                                                                                                                                            World),
                                                                                                                                                                                          Step w93
                                                                                                                                                                                              w116 [] [] →
                                                                                                                                                                                            y94
                                                                                                                                                                                              (!decide
                                                                                                                                                                                                  ((ByteArray.mk (Array.mk l108)) =
                                                                                                                                                                                                    (ByteArray.mk (Array.mk l112))))
                                                                                                                                                                                              w116)) →
                                                                                                                                              y89 p90 k91 k92 w93) →
                                                                                                                                          bcase (decide (n86 < (k28 : Int)))
                                                                                                                                            (∃ (ad120 : Addr),
                                                                                                                                              p27 = some ad120 ∧
                                                                                                                                                ((0 : Int) ≤ n86 ∧ n86 < (k28 : Int)) ∧
                                                                                                                                                  ∃ (p121 : Option Addr),
                                                                                                                                                    ∃ (k122 : Nat),
                                                                                                                                                      ∃ (k123 : Nat),
                                                                                                                                                        World.cell? w87
                                                                                                                                                              (Addr.add ad120
                                                                                                                                                                (Int.toNat n86 * 1)) =
                                                                                                                                                            some (Value.slice p121 k122 k123) ∧
                                                                                                                                                          y89 p121 k122 k123 w87)
                                                                                                                                            (y89 p30 k31 k32 w87))
                                                                                                                                      (Calls Proofs.Try.prog (37 : Nat)
                                                                                                                                        { toList := [Value.pointer p75] } w87
                                                                                                                                        fun (e124 : Ending) (w125 : World) =>
                                                                                                                                        ∃ (n126 : Int),
                                                                                                                                          e124 = Ending.returned (Value.int IntKind.i64 n126) ∧
                                                                                                                                            R
                                                                                                                                              (Ending.returned
                                                                                                                                                (Value.bool
                                                                                                                                                  (decide
                                                                                                                                                    (n126 =
                                                                                                                                                      IntKind.wrap IntKind.i64
                                                                                                                                                        ((k77 : Int) + (1 : Int))))))
                                                                                                                                              w125)) →
                                                                                                                        y80 b81 w82) →
                                                                                                                    bcase (!decide (n79 = (0 : Int))) (y80 true w74)
                                                                                                                      (bcase (Option.isNone p75) (y80 true w74)
                                                                                                                        (bcase (decide ((k77 : Int) < (k28 : Int))) (y80 true w74)
                                                                                                                          (bcase
                                                                                                                            (decide (IntKind.wrap IntKind.i64 ((k28 : Int) + (1 : Int)) < (k77 : Int)))
                                                                                                                            (y80 true w74)
                                                                                                                            (bcase (decide ((k28 : Int) < (k77 : Int))) (y80 (!b33) w74)
                                                                                                                              (y80 false w74))))))) →
                                                                                y37 b38 w39) →
                                                                            bcase (decide (n34 < (listsL : Int)))
                                                                              (bcase (decide (n34 < (12 : Int))) (y37 (!b33) w35) (y37 false w35)) (y37 false w35)) →
                                                            y21 b22 w23) →
                                                        bcase (!decide (n20 = (0 : Int))) (y21 true w15)
                                                          (bcase (Option.isNone p16) (y21 true w15)
                                                            (((0 : Int) ≤ (0 : Int) ∧ (0 : Int) < ((3 : Nat) : Int)) ∧
                                                              (70 : Int) ≠ (0 : Int) ∧
                                                                Calls Proofs.Try.prog (29 : Nat)
                                                                  {
                                                                    toList :=
                                                                      [Value.pointer p9,
                                                                        Value.int IntKind.i64 (IntKind.wrap IntKind.i64 (Int.tmod (IntKind.wrap IntKind.u64 cuts0) (70 : Int)))] }
                                                                  w15 fun (e133 : Ending) (w134 : World) =>
                                                                  ∃ (n135 : Int),
                                                                    e133 = Ending.returned (Value.int IntKind.i64 n135) ∧
                                                                      Keep [k1] w15 w134 ∧ y21 (!decide (n135 = (0 : Int))) w134))) →
                                  y11 b12 w13) →
                              bcase (!decide (n10 = (0 : Int))) (y11 true w8) (y11 (Option.isNone p9) w8))
theorem rhizomelaw04_LogWhole.link {listsA : Option Addr} {listsL listsC : Nat} {keepA : Option Addr} {keepL keepC : Nat} {cuts0 : Int} {cuts1 : Int} {cuts2 : Int} {R : Ending → World → Prop} {w : World} (h : rhizomelaw04_LogWhole.vc listsA listsL listsC keepA keepL keepC cuts0 cuts1 cuts2 R w) : Calls Go.Proofs.Try.prog 11 #[.slice listsA listsL listsC, .slice keepA keepL keepC, (.agg #[.int .i64 cuts0, .int .i64 cuts1, .int .i64 cuts2] : Value)] w R :=
  calls_of pf (fn := Go.Proofs.Try.f11) (ann := .s (.n) (.s (.s (.n) (.c (.s (.n) (.n)) (.n))) (.s (.n) (.s (.j ⟨[], [], [0], [(32, .l (.b))], []⟩ (.n) (.c (.s (.n) (.n)) (.n))) (.s (.n) (.s (.j ⟨[], [], [0], [(54, .l (.b))], []⟩ (.n) (.c (.s (.n) (.n)) (.n))) (.s (.n) (.s (.n) (.s (.n) (.s (.s (.n) (.b (.l ⟨[], [], [0], [(11, .l (.sl)), (12, .l (.sl)), (13, .l (.b)), (14, .l (.i .i64))], []⟩ (.s (.j ⟨[], [], [0], [(66, .l (.b))], []⟩ (.n) (.c (.n) (.n))) (.j ⟨[], [], [0], [(11, .l (.sl)), (12, .l (.sl)), (13, .l (.b))], []⟩ (.b (.s (.d [0]) (.s (.n) (.b (.s (.n) (.c (.n) (.s (.n) (.c (.n) (.n))))))))) (.n)))))) (.s (.n) (.s (.s (.n) (.c (.s (.n) (.n)) (.n))) (.s (.n) (.s (.j ⟨[], [], [], [(138, .l (.b))], []⟩ (.n) (.c (.s (.n) (.n)) (.n))) (.s (.s (.n) (.b (.l ⟨[], [], [], [(141, .l (.i .i64))], []⟩ (.s (.n) (.s (.c (.n) (.n)) (.s (.b (.s (.n) (.s (.n) (.j ⟨[], [], [], [(20, .l (.sl))], []⟩ (.s (.n) (.c (.n) (.n))) (.j ⟨[], [], [], [(171, .l (.b))], []⟩ (.n) (.c (.s (.n) (.n)) (.n))))))) (.n))))))) (.s (.n) (.n))))))))))))))))) (mp := false) (args := [.v (.slice listsA listsL listsC), .v (.slice keepA keepL keepC), .v (.agg #[.int .i64 cuts0, .int .i64 cuts1, .int .i64 cuts2])]) Go.Proofs.Try.func11 (c := Go.Proofs.Try.f11.body.getD .skip) (by kernel_rfl) (by kernel_rfl) (Eq.mp (by kernel_rfl) h)
theorem rhizomelaw04_LogWhole.body : BodyOk Go.Proofs.Try.prog 11 := ⟨Go.Proofs.Try.f11, Go.Proofs.Try.func11, by kernel_rfl, pf.ng _ _ Go.Proofs.Try.func11⟩

end Go.Proofs.Ytcaamecdhbgknaa.VC
