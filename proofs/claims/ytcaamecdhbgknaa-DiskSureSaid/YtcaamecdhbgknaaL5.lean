/- What is to be shown of functions' texts, printed by a program of this session's repo; that it gives the functions' contracts is checked by the kernel. -/
import Derived.Test.YtcaamecdhbgknaaProg
import Derived.Test.YtcaamecdhbgknaaPf
namespace Go.Proofs.Ytcaamecdhbgknaa.VC
open Go Go.V
set_option maxRecDepth 1000000
set_option linter.unusedVariables false

/-! ### rhizome/rhizomelaw03.DiskSure: function 5 -/
def rhizomelaw03_DiskSure.vc (writesA : Option Addr) (writesL writesC : Nat) (keepA : Option Addr) (keepL keepC : Nat) (at0 : Int) (at1 : Int) (R : Ending → World → Prop) (w : World) : Prop :=
  ∀ (k1 : Nat) (w2 : World),
    Step w w2 [] [k1] →
      Calls Proofs.Try.prog (19 : Nat) { toList := [] } w2 fun (e4 : Ending) (w5 : World) =>
        ∃ (b6 : Bool),
          e4 = Ending.returned (Value.bool b6) ∧
            Keep [k1] w2 w5 ∧
              bcase (!b6) (R (Ending.returned (Value.bool false)) w5)
                (Calls Proofs.Try.prog (20 : Nat) { toList := [Value.int IntKind.i64 (12 : Int)] } w5 fun (e7 : Ending) (w8 : World) =>
                  ∃ (p9 : Option Addr),
                    ∃ (n10 : Int),
                      e7 = Ending.returned (Value.tuple { toList := [Value.pointer p9, Value.int IntKind.i64 n10] }) ∧
                        Keep [k1] w5 w8 ∧
                          ∀ (y11 : Bool → World → Prop),
                            (∀ (b12 : Bool) (w13 : World),
                                bcase b12 (R (Ending.returned (Value.bool false)) w13)
                                    (∃ (y14 : Nat → Int → World → Prop),
                                      ∃ (k15 : Nat),
                                        y14 k15 (0 : Int) w13 ∧
                                          ∀ (k16 : Nat) (n17 : Int) (w18 : World),
                                            y14 k16 n17 w18 →
                                              bcase (decide (n17 < (6 : Int)))
                                                (∀ (k20 : Nat) (w21 : World),
                                                  Step w18 w21 [] [k20] →
                                                    Blk w21 k20
                                                        (spl
                                                          (spl (reps [Value.int IntKind.u8 (0 : Int)] 2) 0
                                                            [Value.int IntKind.u8 (IntKind.wrap IntKind.u8 (IntKind.wrap IntKind.i64 (n17 + (1 : Int))))])
                                                          1 [Value.int IntKind.u8 (7 : Int)]) →
                                                      Calls Proofs.Try.prog (24 : Nat) { toList := [Value.slice (some { block := k20, off := 0 }) 2 2] } w21
                                                        fun (e24 : Ending) (w25 : World) =>
                                                        ∃ (p26 : Option Addr),
                                                          ∃ (k27 : Nat),
                                                            ∃ (k28 : Nat),
                                                              e24 = Ending.returned (Value.slice p26 k27 k28) ∧
                                                                Keep [k1] w21 w25 ∧
                                                                  Calls Proofs.Try.prog (23 : Nat) { toList := [Value.pointer p9, Value.int IntKind.i64 n17, Value.slice p26 k27 k28] }
                                                                    w25 fun (e29 : Ending) (w30 : World) =>
                                                                    ∃ (n31 : Int),
                                                                      e29 = Ending.returned (Value.int IntKind.i64 n31) ∧
                                                                        Keep [k1] w25 w30 ∧
                                                                          bcase (!decide (n31 = (0 : Int))) (R (Ending.returned (Value.bool false)) w30)
                                                                            (∃ (k32 : Nat), k32 < k16 ∧ y14 k32 (IntKind.wrap IntKind.i64 (n17 + (1 : Int))) w30))
                                                (Calls Proofs.Try.prog (27 : Nat) { toList := [Value.pointer p9] } w18 fun (e33 : Ending) (w34 : World) =>
                                                  ∃ (n35 : Int),
                                                    e33 = Ending.returned (Value.int IntKind.i64 n35) ∧
                                                      Keep [k1] w18 w34 ∧
                                                        bcase (!decide (n35 = (0 : Int))) (R (Ending.returned (Value.bool false)) w34)
                                                          (∀ (k36 : Nat) (w37 : World),
                                                            Step w34 w37 [] [k36] →
                                                              Blk w37 k36
                                                                  (reps [Value.slice none 0 0] 12) →
                                                                ∃ (y40 : Nat → Int → World → Prop),
                                                                  ∃ (k41 : Nat),
                                                                    y40 k41 (0 : Int) w37 ∧
                                                                      ∀ (k42 : Nat) (n43 : Int) (w44 : World),
                                                                        y40 k42 n43 w44 →
                                                                          ∀ (y46 : Bool → World → Prop),
                                                                            (∀ (b47 : Bool) (w48 : World),
                                                                                bcase b47
                                                                                    (∀ (y49 : World → Prop),
                                                                                      (∀ (w50 : World),
                                                                                          (∃ (k51 : Nat), k51 < k42 ∧ y40 k51 (IntKind.wrap IntKind.i64 (n43 + (1 : Int))) w50) → y49 w50) →
                                                                                        ∃ (ad54 : Addr),
                                                                                          writesA = some ad54 ∧
                                                                                            ((0 : Int) ≤ n43 ∧ n43 < (writesL : Int)) ∧
                                                                                              ∃ (p55 : Option Addr),
                                                                                                ∃ (k56 : Nat),
                                                                                                  ∃ (k57 : Nat),
                                                                                                    World.cell? w48 (Addr.add ad54 (Int.toNat n43 * 1)) =
                                                                                                        some (Value.slice p55 k56 k57) ∧
                                                                                                      bcase (decide ((k56 : Int) = (0 : Int))) (y49 w48)
                                                                                                        (∃ (ad58 : Addr),
                                                                                                          p55 = some ad58 ∧
                                                                                                            ((0 : Int) ≤ (0 : Int) ∧ (0 : Int) < (k56 : Int)) ∧
                                                                                                              ∃ (n59 : Int),
                                                                                                                World.cell? w48 (Addr.add ad58 0) =
                                                                                                                    some (Value.int IntKind.u8 n59) ∧
                                                                                                                  (12 : Int) ≠ (0 : Int) ∧
                                                                                                                    Calls Proofs.Try.prog (24 : Nat) { toList := [Value.slice p55 k56 k57] } w48
                                                                                                                      fun (e60 : Ending) (w61 : World) =>
                                                                                                                      ∃ (p62 : Option Addr),
                                                                                                                        ∃ (k63 : Nat),
                                                                                                                          ∃ (k64 : Nat),
                                                                                                                            e60 = Ending.returned (Value.slice p62 k63 k64) ∧
                                                                                                                              Keep [k1] w48 w61 ∧
                                                                                                                                ((0 : Int) ≤ Int.tmod (IntKind.wrap IntKind.i64 n59) (12 : Int) ∧
                                                                                                                                    Int.tmod (IntKind.wrap IntKind.i64 n59) (12 : Int) <
                                                                                                                                      ((12 : Nat) : Int)) ∧
                                                                                                                                  ∃ (l65 : List Value),
                                                                                                                                    Blk w61
                                                                                                                                        (Addr.block
                                                                                                                                          (Addr.add { block := k36, off := 0 }
                                                                                                                                            (Int.toNat
                                                                                                                                                (Int.tmod (IntKind.wrap IntKind.i64 n59)
                                                                                                                                                  (12 : Int)) *
                                                                                                                                              1)))
                                                                                                                                        l65 ∧
                                                                                                                                      Addr.spot
                                                                                                                                            (Addr.add { block := k36, off := 0 }
                                                                                                                                              (Int.toNat
                                                                                                                                                  (Int.tmod (IntKind.wrap IntKind.i64 n59)
                                                                                                                                                    (12 : Int)) *
                                                                                                                                                1)) =
                                                                                                                                          none ∧
                                                                                                                                        Addr.off
                                                                                                                                                (Addr.add { block := k36, off := 0 }
                                                                                                                                                  (Int.toNat
                                                                                                                                                      (Int.tmod (IntKind.wrap IntKind.i64 n59)
                                                                                                                                                        (12 : Int)) *
                                                                                                                                                    1)) +
                                                                                                                                              List.length [Value.slice p62 k63 k64] ≤
                                                                                                                                            List.length l65 ∧
                                                                                                                                          ¬Addr.block
                                                                                                                                                  (Addr.add { block := k36, off := 0 }
                                                                                                                                                    (Int.toNat
                                                                                                                                                        (Int.tmod (IntKind.wrap IntKind.i64 n59)
                                                                                                                                                          (12 : Int)) *
                                                                                                                                                      1)) ∈
                                                                                                                                                [k1] ∧
                                                                                                                                            ∀ (w66 : World),
                                                                                                                                              Upd w61 w66
                                                                                                                                                  (Addr.block
                                                                                                                                                    (Addr.add { block := k36, off := 0 }
                                                                                                                                                      (Int.toNat
                                                                                                                                                          (Int.tmod (IntKind.wrap IntKind.i64 n59)
                                                                                                                                                            (12 : Int)) *
                                                                                                                                                        1)))
                                                                                                                                                  (sets l65
                                                                                                                                                    (Addr.off
                                                                                                                                                      (Addr.add { block := k36, off := 0 }
                                                                                                                                                        (Int.toNat
                                                                                                                                                            (Int.tmod (IntKind.wrap IntKind.i64 n59)
                                                                                                                                                              (12 : Int)) *
                                                                                                                                                          1)))
                                                                                                                                                    [Value.slice p62 k63 k64]) →
                                                                                                                                                ((0 : Int) ≤
                                                                                                                                                      Int.tmod (IntKind.wrap IntKind.i64 n59)
                                                                                                                                                        (12 : Int) ∧
                                                                                                                                                    Int.tmod (IntKind.wrap IntKind.i64 n59)
                                                                                                                                                        (12 : Int) <
                                                                                                                                                      ((12 : Nat) : Int)) ∧
                                                                                                                                                  ∃ (p68 : Option Addr),
                                                                                                                                                    ∃ (k69 : Nat),
                                                                                                                                                      ∃ (k70 : Nat),
                                                                                                                                                        World.cell? w66
                                                                                                                                                              (Addr.add
                                                                                                                                                                { block := k36, off := 0 }
                                                                                                                                                                (Int.toNat
                                                                                                                                                                    (Int.tmod
                                                                                                                                                                      (IntKind.wrap IntKind.i64 n59)
                                                                                                                                                                      (12 : Int)) *
                                                                                                                                                                  1)) =
                                                                                                                                                            some (Value.slice p68 k69 k70) ∧
                                                                                                                                                          Calls Proofs.Try.prog (23 : Nat)
                                                                                                                                                            {
                                                                                                                                                              toList :=
                                                                                                                                                                [Value.pointer p9,
                                                                                                                                                                  Value.int IntKind.i64
                                                                                                                                                                    (Int.tmod
                                                                                                                                                                      (IntKind.wrap IntKind.i64 n59)
                                                                                                                                                                      (12 : Int)),
                                                                                                                                                                  Value.slice p68 k69 k70] }
                                                                                                                                                            w66 fun (e71 : Ending) (w72 : World) =>
                                                                                                                                                            ∃ (n73 : Int),
                                                                                                                                                              e71 =
                                                                                                                                                                  Ending.returned
                                                                                                                                                                    (Value.int IntKind.i64 n73) ∧
                                                                                                                                                                Keep [k1] w66 w72 ∧
                                                                                                                                                                  bcase
                                                                                                                                                                    (!decide (n73 = (0 : Int)))
                                                                                                                                                                    (R
                                                                                                                                                                      (Ending.returned
                                                                                                                                                                        (Value.bool false))
                                                                                                                                                                      w72)
                                                                                                                                                                    (y49 w72)))
                                                                                    (((0 : Int) ≤ (0 : Int) ∧ (0 : Int) < ((2 : Nat) : Int)) ∧
                                                                                      ((0 : Int) ≤ (1 : Int) ∧ (1 : Int) < ((2 : Nat) : Int)) ∧
                                                                                        Calls Proofs.Try.prog (28 : Nat)
                                                                                          {
                                                                                            toList :=
                                                                                              [Value.pointer p9, Value.slice keepA keepL keepC, Value.int IntKind.i64 at0,
                                                                                                Value.int IntKind.i64 at1] }
                                                                                          w48 fun (e74 : Ending) (w75 : World) =>
                                                                                          ∃ (p76 : Option Addr),
                                                                                            e74 = Ending.returned (Value.pointer p76) ∧
                                                                                              Keep [k1] w48 w75 ∧
                                                                                                bcase (Option.isNone p76) (R (Ending.returned (Value.bool false)) w75)
                                                                                                  (∃ (y77 : Nat → Int → Int → World → Prop),
                                                                                                    ∃ (k78 : Nat),
                                                                                                      y77 k78 (0 : Int) (0 : Int) w75 ∧
                                                                                                        ∀ (k79 : Nat) (n80 n81 : Int) (w82 : World),
                                                                                                          y77 k79 n80 n81 w82 →
                                                                                                            bcase (decide (n81 < (12 : Int)))
                                                                                                              (∀ (y84 : Int → World → Prop),
                                                                                                                (∀ (n85 : Int) (w86 : World),
                                                                                                                    (∃ (k87 : Nat),
                                                                                                                        k87 < k79 ∧ y77 k87 n85 (IntKind.wrap IntKind.i64 (n81 + (1 : Int))) w86) →
                                                                                                                      y84 n85 w86) →
                                                                                                                  ((0 : Int) ≤ (64 : Int) ∧
                                                                                                                      (64 : Int) ≤ (64 : Int) ∧
                                                                                                                        ((1 : Nat) : Int) * (64 : Int) ≤ (281474976710656 : Int) ∧
                                                                                                                          (64 : Int) ≤ (281474976710656 : Int)) ∧
                                                                                                                    ∀ (w90 : World) (k91 : Nat),
                                                                                                                      Step w82 w90 [] [k91] →
                                                                                                                        Blk w90 k91 (reps [Value.int IntKind.u8 (0 : Int)] 64) →
                                                                                                                          ∀ (y94 : Option Addr → Nat → Nat → World → Prop),
                                                                                                                            (∀ (p95 : Option Addr) (k96 k97 : Nat) (w98 : World),
                                                                                                                                (Calls Proofs.Try.prog (22 : Nat)
                                                                                                                                    { toList := [Value.pointer p76, Value.int IntKind.i64 n81] }
                                                                                                                                    w98 fun (e99 : Ending) (w100 : World) =>
                                                                                                                                    ∃ (p101 : Option Addr),
                                                                                                                                      ∃ (k102 : Nat),
                                                                                                                                        ∃ (k103 : Nat),
                                                                                                                                          ∃ (n104 : Int),
                                                                                                                                            e99 =
                                                                                                                                                Ending.returned
                                                                                                                                                  (Value.tuple
                                                                                                                                                    {
                                                                                                                                                      toList :=
                                                                                                                                                        [Value.slice p101 k102 k103,
                                                                                                                                                          Value.int IntKind.i64 n104] }) ∧
                                                                                                                                              ∀ (y105 : Bool → World → Prop),
                                                                                                                                                (∀ (b106 : Bool) (w107 : World),
                                                                                                                                                    bcase b106
                                                                                                                                                        (R (Ending.returned (Value.bool false))
                                                                                                                                                          w107)
                                                                                                                                                        (∃ (l108 : List UInt8),
                                                                                                                                                          List.length l108 = k102 ∧
                                                                                                                                                            (∀ (k109 : Nat),
                                                                                                                                                                k109 < k102 →
                                                                                                                                                                  ∃ (ad111 : Addr),
                                                                                                                                                                    p101 = some ad111 ∧
                                                                                                                                                                      World.cell? w107
                                                                                                                                                                          (Addr.add ad111 k109) =
                                                                                                                                                                        some
                                                                                                                                                                          (Value.int IntKind.u8
                                                                                                                                                                            ((UInt8.toNat
                                                                                                                                                                                (List.getD l108 k109
                                                                                                                                                                                  (0 : UInt8))) : Int))) ∧
                                                                                                                                                              ∃ (l112 : List UInt8),
                                                                                                                                                                List.length l112 = k96 ∧
                                                                                                                                                                  (∀ (k113 : Nat),
                                                                                                                                                                      k113 < k96 →
                                                                                                                                                                        ∃ (ad115 : Addr),
                                                                                                                                                                          p95 = some ad115 ∧
                                                                                                                                                                            World.cell? w107
                                                                                                                                                                                (Addr.add ad115 k113) =
                                                                                                                                                                              some
                                                                                                                                                                                (Value.int
                                                                                                                                                                                  IntKind.u8
                                                                                                                                                                                  ((UInt8.toNat
                                                                                                                                                                                      (List.getD l112 k113
                                                                                                                                                                                        (0 : UInt8))) : Int))) ∧
                                                                                                                                                                    bcase
                                                                                                                                                                      (decide
                                                                                                                                                                        ((ByteArray.mk (Array.mk l108)) =
                                                                                                                                                                          (ByteArray.mk (Array.mk l112))))
                                                                                                                                                                      (y84 n80 w107)
                                                                                                                                                                      (((0 : Int) ≤ n81 ∧
                                                                                                                                                                          n81 < ((12 : Nat) : Int)) ∧
                                                                                                                                                                        ∃ (p116 : Option Addr),
                                                                                                                                                                          ∃ (k117 : Nat),
                                                                                                                                                                            ∃ (k118 : Nat),
                                                                                                                                                                              World.cell? w107
                                                                                                                                                                                    (Addr.add
                                                                                                                                                                                      { block := k36,
                                                                                                                                                                                        off := 0 }
                                                                                                                                                                                      (Int.toNat n81 *
                                                                                                                                                                                        1)) =
                                                                                                                                                                                  some
                                                                                                                                                                                    (Value.slice p116
                                                                                                                                                                                      k117 k118) ∧
                                                                                                                                                                                bcase
                                                                                                                                                                                  (Option.isNone p116)
                                                                                                                                                                                  (R
                                                                                                                                                                                    (Ending.returned
                                                                                                                                                                                      (Value.bool
                                                                                                                                                                                        false))
                                                                                                                                                                                    w107)
                                                                                                                                                                                  (∃ (l119 : List UInt8),
                                                                                                                                                                                    List.length l119 =
                                                                                                                                                                                        k102 ∧
                                                                                                                                                                                      (∀ (k120 : Nat),
                                                                                                                                                                                          k120 < k102 →
                                                                                                                                                                                            ∃ (ad122 :
                                                                                                                                                                                              Addr),
                                                                                                                                                                                              p101 =
                                                                                                                                                                                                  some
                                                                                                                                                                                                    ad122 ∧
                                                                                                                                                                                                World.cell?
                                                                                                                                                                                                    w107
                                                                                                                                                                                                    (Addr.add
                                                                                                                                                                                                      ad122
                                                                                                                                                                                                      k120) =
                                                                                                                                                                                                  some
                                                                                                                                                                                                    (Value.int
                                                                                                                                                                                                      IntKind.u8
                                                                                                                                                                                                      ((UInt8.toNat
                                                                                                                                                                                                          (List.getD
                                                                                                                                                                                                            l119
                                                                                                                                                                                                            k120
                                                                                                                                                                                                            (0 :
                                                                                                                                                                                                              UInt8))) : Int))) ∧
                                                                                                                                                                                        ((0 : Int) ≤ n81 ∧
                                                                                                                                                                                            n81 <
                                                                                                                                                                                              ((nat_lit
                                                                                                                                                                                                  12) : Int)) ∧
                                                                                                                                                                                          ∃ (p123 :
                                                                                                                                                                                            Option
                                                                                                                                                                                              Addr),
                                                                                                                                                                                            ∃ (k124 :
                                                                                                                                                                                              Nat),
                                                                                                                                                                                              ∃ (k125 :
                                                                                                                                                                                                Nat),
                                                                                                                                                                                                World.cell?
                                                                                                                                                                                                      w107
                                                                                                                                                                                                      (Addr.add
                                                                                                                                                                                                        {
                                                                                                                                                                                                          block :=
                                                                                                                                                                                                            k36,
                                                                                                                                                                                                          off :=
                                                                                                                                                                                                            nat_lit
                                                                                                                                                                                                              0 }
                                                                                                                                                                                                        (Int.toNat
                                                                                                                                                                                                            n81 *
                                                                                                                                                                                                          nat_lit
                                                                                                                                                                                                            1)) =
                                                                                                                                                                                                    some
                                                                                                                                                                                                      (Value.slice
                                                                                                                                                                                                        p123
                                                                                                                                                                                                        k124
                                                                                                                                                                                                        k125) ∧
                                                                                                                                                                                                  ∃ (l126
                                                                                                                                                                                                    :
                                                                                                                                                                                                    List
                                                                                                                                                                                                      UInt8),
                                                                                                                                                                                                    List.length
                                                                                                                                                                                                          l126 =
                                                                                                                                                                                                        k124 ∧
                                                                                                                                                                                                      (∀
                                                                                                                                                                                                          (k127 :
                                                                                                                                                                                                            Nat),
                                                                                                                                                                                                          k127 <
                                                                                                                                                                                                              k124 →
                                                                                                                                                                                                            ∃
                                                                                                                                                                                                              (ad129
                                                                                                                                                                                                              :
                                                                                                                                                                                                              Addr),
                                                                                                                                                                                                              p123 =
                                                                                                                                                                                                                  some
                                                                                                                                                                                                                    ad129 ∧
                                                                                                                                                                                                                World.cell?
                                                                                                                                                                                                                    w107
                                                                                                                                                                                                                    (Addr.add
                                                                                                                                                                                                                      ad129
                                                                                                                                                                                                                      k127) =
                                                                                                                                                                                                                  some
                                                                                                                                                                                                                    (Value.int
                                                                                                                                                                                                                      IntKind.u8
                                                                                                                                                                                                                      ((UInt8.toNat
                                                                                                                                                                                                                          (List.getD
                                                                                                                                                                                                                            l126
                                                                                                                                                                                                                            k127
                                                                                                                                                                                                                            (0 :
                                                                                                                                                                                                                              UInt8))) : Int))) ∧
                                                                                                                                                                                                        bcase
                                                                                                                                                                                                          (decide
                                                                                                                                                                                                            ((ByteArray.mk (Array.mk l119)) =
                                                                                                                                                                                                              (ByteArray.mk (Array.mk l126))))
                                                                                                                                                                                                          (∀
                                                                                                                                                                                                            (w130 :
                                                                                                                                                                                                              World),
                                                                                                                                                                                                            Step
                                                                                                                                                                                                                w107
                                                                                                                                                                                                                w130
                                                                                                                                                                                                                []
                                                                                                                                                                                                                [] →
                                                                                                                                                                                                              y84
                                                                                                                                                                                                                (IntKind.wrap
                                                                                                                                                                                                                  IntKind.i64
                                                                                                                                                                                                                  (n80 +
                                                                                                                                                                                                                    (1 :
                                                                                                                                                                                                                      Int)))
                                                                                                                                                                                                                w130)
                                                                                                                                                                                                          (∃
                                                                                                                                                                                                            (y132
                                                                                                                                                                                                            :
                                                                                                                                                                                                            Nat →
                                                                                                                                                                                                              Int →
                                                                                                                                                                                                                World →
                                                                                                                                                                                                                  Prop),
                                                                                                                                                                                                            ∃
                                                                                                                                                                                                              (k133
                                                                                                                                                                                                              :
                                                                                                                                                                                                              Nat),
                                                                                                                                                                                                              (∀
                                                                                                                                                                                                                  (w134 :
                                                                                                                                                                                                                    World),
                                                                                                                                                                                                                  Step
                                                                                                                                                                                                                      w107
                                                                                                                                                                                                                      w134
                                                                                                                                                                                                                      []
                                                                                                                                                                                                                      [] →
                                                                                                                                                                                                                    y132
                                                                                                                                                                                                                      k133
                                                                                                                                                                                                                      (0 :
                                                                                                                                                                                                                        Int)
                                                                                                                                                                                                                      w134) ∧
                                                                                                                                                                                                                ∀
                                                                                                                                                                                                                  (k136 :
                                                                                                                                                                                                                    Nat)
                                                                                                                                                                                                                  (n137 :
                                                                                                                                                                                                                    Int)
                                                                                                                                                                                                                  (w138 :
                                                                                                                                                                                                                    World),
                                                                                                                                                                                                                  y132
                                                                                                                                                                                                                      k136
                                                                                                                                                                                                                      n137
                                                                                                                                                                                                                      w138 →
                                                                                                                                                                                                                    ∀
                                                                                                                                                                                                                      (y140 :
                                                                                                                                                                                                                        Bool →
                                                                                                                                                                                                                          World →
                                                                                                                                                                                                                            Prop),
                                                                                                                                                                                                                      (∀
                                                                                                                                                                                                                          (b141 :
                                                                                                                                                                                                                            Bool)
                                                                                                                                                                                                                          (w142 :
                                                                                                                                                                                                                            World),
                                                                                                                                                                                                                          bcase
                                                                                                                                                                                                                              b141
                                                                                                                                                                                                                              (∃
                                                                                                                                                                                                                                (k143
                                                                                                                                                                                                                                :
                                                                                                                                                                                                                                Nat),
                                                                                                                                                                                                                                k143 <
                                                                                                                                                                                                                                    k136 ∧
                                                                                                                                                                                                                                  y132
                                                                                                                                                                                                                                    k143
                                                                                                                                                                                                                                    (IntKind.wrap
                                                                                                                                                                                                                                      IntKind.i64
                                                                                                                                                                                                                                      (n137 +
                                                                                                                                                                                                                                        (1 :
                                                                                                                                                                                                                                          Int)))
                                                                                                                                                                                                                                    w142)
                                                                                                                                                                                                                              (((0 :
                                                                                                                                                                                                                                      Int) ≤
                                                                                                                                                                                                                                    n137 ∧
                                                                                                                                                                                                                                  n137 ≤
                                                                                                                                                                                                                                      (k102 : Int) ∧
                                                                                                                                                                                                                                    (k102 : Int) ≤
                                                                                                                                                                                                                                      (k103 : Int)) ∧
                                                                                                                                                                                                                                ∃
                                                                                                                                                                                                                                  (l144
                                                                                                                                                                                                                                  :
                                                                                                                                                                                                                                  List
                                                                                                                                                                                                                                    UInt8),
                                                                                                                                                                                                                                  List.length
                                                                                                                                                                                                                                        l144 =
                                                                                                                                                                                                                                      Int.toNat
                                                                                                                                                                                                                                          (k102 : Int) -
                                                                                                                                                                                                                                        Int.toNat
                                                                                                                                                                                                                                          n137 ∧
                                                                                                                                                                                                                                    (∀
                                                                                                                                                                                                                                        (k145 :
                                                                                                                                                                                                                                          Nat),
                                                                                                                                                                                                                                        k145 <
                                                                                                                                                                                                                                            Int.toNat
                                                                                                                                                                                                                                                (k102 : Int) -
                                                                                                                                                                                                                                              Int.toNat
                                                                                                                                                                                                                                                n137 →
                                                                                                                                                                                                                                          ∃
                                                                                                                                                                                                                                            (ad147
                                                                                                                                                                                                                                            :
                                                                                                                                                                                                                                            Addr),
                                                                                                                                                                                                                                            subA
                                                                                                                                                                                                                                                  p101
                                                                                                                                                                                                                                                  (Int.toNat
                                                                                                                                                                                                                                                    n137)
                                                                                                                                                                                                                                                  k103
                                                                                                                                                                                                                                                  (nat_lit
                                                                                                                                                                                                                                                    1) =
                                                                                                                                                                                                                                                some
                                                                                                                                                                                                                                                  ad147 ∧
                                                                                                                                                                                                                                              World.cell?
                                                                                                                                                                                                                                                  w142
                                                                                                                                                                                                                                                  (Addr.add
                                                                                                                                                                                                                                                    ad147
                                                                                                                                                                                                                                                    k145) =
                                                                                                                                                                                                                                                some
                                                                                                                                                                                                                                                  (Value.int
                                                                                                                                                                                                                                                    IntKind.u8
                                                                                                                                                                                                                                                    ((UInt8.toNat
                                                                                                                                                                                                                                                        (List.getD
                                                                                                                                                                                                                                                          l144
                                                                                                                                                                                                                                                          k145
                                                                                                                                                                                                                                                          (0 :
                                                                                                                                                                                                                                                            UInt8))) : Int))) ∧
                                                                                                                                                                                                                                      ((0 :
                                                                                                                                                                                                                                              Int) ≤
                                                                                                                                                                                                                                            n137 ∧
                                                                                                                                                                                                                                          n137 ≤
                                                                                                                                                                                                                                              (k96 : Int) ∧
                                                                                                                                                                                                                                            (k96 : Int) ≤
                                                                                                                                                                                                                                              (k97 : Int)) ∧
                                                                                                                                                                                                                                        ∃
                                                                                                                                                                                                                                          (l148
                                                                                                                                                                                                                                          :
                                                                                                                                                                                                                                          List
                                                                                                                                                                                                                                            UInt8),
                                                                                                                                                                                                                                          List.length
                                                                                                                                                                                                                                                l148 =
                                                                                                                                                                                                                                              Int.toNat
                                                                                                                                                                                                                                                  (k96 : Int) -
                                                                                                                                                                                                                                                Int.toNat
                                                                                                                                                                                                                                                  n137 ∧
                                                                                                                                                                                                                                            (∀
                                                                                                                                                                                                                                                (k149 :
                                                                                                                                                                                                                                                  Nat),
                                                                                                                                                                                                                                                k149 <
                                                                                                                                                                                                                                                    Int.toNat
                                                                                                                                                                                                                                                        (k96 : Int) -
                                                                                                                                                                                                                                                      Int.toNat
                                                                                                                                                                                                                                                        n137 →
                                                                                                                                                                                                                                                  ∃
                                                                                                                                                                                                                                                    (ad151
                                                                                                                                                                                                                                                    :
                                                                                                                                                                                                                                                    Addr),
                                                                                                                                                                                                                                                    subA
                                                                                                                                                                                                                                                          p95
                                                                                                                                                                                                                                                          (Int.toNat
                                                                                                                                                                                                                                                            n137)
                                                                                                                                                                                                                                                          k97
                                                                                                                                                                                                                                                          (nat_lit
                                                                                                                                                                                                                                                            1) =
                                                                                                                                                                                                                                                        some
                                                                                                                                                                                                                                                          ad151 ∧
                                                                                                                                                                                                                                                      World.cell?
                                                                                                                                                                                                                                                          w142
                                                                                                                                                                                                                                                          (Addr.add
                                                                                                                                                                                                                                                            ad151
                                                                                                                                                                                                                                                            k149) =
                                                                                                                                                                                                                                                        some
                                                                                                                                                                                                                                                          (Value.int
                                                                                                                                                                                                                                                            IntKind.u8
                                                                                                                                                                                                                                                            ((UInt8.toNat
                                                                                                                                                                                                                                                                (List.getD
                                                                                                                                                                                                                                                                  l148
                                                                                                                                                                                                                                                                  k149
                                                                                                                                                                                                                                                                  (0 :
                                                                                                                                                                                                                                                                    UInt8))) : Int))) ∧
                                                                                                                                                                                                                                              bcase
                                                                                                                                                                                                                                                (!decide
                                                                                                                                                                                                                                                    ((ByteArray.mk (Array.mk l144)) =
                                                                                                                                                                                                                                                      (ByteArray.mk (Array.mk l148))))
                                                                                                                                                                                                                                                (∀
                                                                                                                                                                                                                                                  (w152 :
                                                                                                                                                                                                                                                    World),
                                                                                                                                                                                                                                                  Step
                                                                                                                                                                                                                                                      w142
                                                                                                                                                                                                                                                      w152
                                                                                                                                                                                                                                                      []
                                                                                                                                                                                                                                                      [] →
                                                                                                                                                                                                                                                    R
                                                                                                                                                                                                                                                      (Ending.returned
                                                                                                                                                                                                                                                        (Value.bool
                                                                                                                                                                                                                                                          false))
                                                                                                                                                                                                                                                      w152)
                                                                                                                                                                                                                                                (∀
                                                                                                                                                                                                                                                  (w154 :
                                                                                                                                                                                                                                                    World),
                                                                                                                                                                                                                                                  Step
                                                                                                                                                                                                                                                      w142
                                                                                                                                                                                                                                                      w154
                                                                                                                                                                                                                                                      []
                                                                                                                                                                                                                                                      [] →
                                                                                                                                                                                                                                                    y84
                                                                                                                                                                                                                                                      n80
                                                                                                                                                                                                                                                      w154)) →
                                                                                                                                                                                                                            y140
                                                                                                                                                                                                                              b141
                                                                                                                                                                                                                              w142) →
                                                                                                                                                                                                                        bcase
                                                                                                                                                                                                                          (decide
                                                                                                                                                                                                                            (n137 <
                                                                                                                                                                                                                              (64 :
                                                                                                                                                                                                                                Int)))
                                                                                                                                                                                                                          (∃
                                                                                                                                                                                                                            (ad158
                                                                                                                                                                                                                            :
                                                                                                                                                                                                                            Addr),
                                                                                                                                                                                                                            p101 =
                                                                                                                                                                                                                                some
                                                                                                                                                                                                                                  ad158 ∧
                                                                                                                                                                                                                              ((0 :
                                                                                                                                                                                                                                      Int) ≤
                                                                                                                                                                                                                                    n137 ∧
                                                                                                                                                                                                                                  n137 <
                                                                                                                                                                                                                                    (k102 : Int)) ∧
                                                                                                                                                                                                                                ∃
                                                                                                                                                                                                                                  (n159
                                                                                                                                                                                                                                  :
                                                                                                                                                                                                                                  Int),
                                                                                                                                                                                                                                  World.cell?
                                                                                                                                                                                                                                        w138
                                                                                                                                                                                                                                        (Addr.add
                                                                                                                                                                                                                                          ad158
                                                                                                                                                                                                                                          (Int.toNat
                                                                                                                                                                                                                                              n137 *
                                                                                                                                                                                                                                            nat_lit
                                                                                                                                                                                                                                              1)) =
                                                                                                                                                                                                                                      some
                                                                                                                                                                                                                                        (Value.int
                                                                                                                                                                                                                                          IntKind.u8
                                                                                                                                                                                                                                          n159) ∧
                                                                                                                                                                                                                                    ((0 :
                                                                                                                                                                                                                                            Int) ≤
                                                                                                                                                                                                                                          n81 ∧
                                                                                                                                                                                                                                        n81 <
                                                                                                                                                                                                                                          ((nat_lit
                                                                                                                                                                                                                                              12) : Int)) ∧
                                                                                                                                                                                                                                      ∃
                                                                                                                                                                                                                                        (p160
                                                                                                                                                                                                                                        :
                                                                                                                                                                                                                                        Option
                                                                                                                                                                                                                                          Addr),
                                                                                                                                                                                                                                        ∃
                                                                                                                                                                                                                                          (k161
                                                                                                                                                                                                                                          :
                                                                                                                                                                                                                                          Nat),
                                                                                                                                                                                                                                          ∃
                                                                                                                                                                                                                                            (k162
                                                                                                                                                                                                                                            :
                                                                                                                                                                                                                                            Nat),
                                                                                                                                                                                                                                            World.cell?
                                                                                                                                                                                                                                                  w138
                                                                                                                                                                                                                                                  (Addr.add
                                                                                                                                                                                                                                                    {
                                                                                                                                                                                                                                                      block :=
                                                                                                                                                                                                                                                        k36,
                                                                                                                                                                                                                                                      off :=
                                                                                                                                                                                                                                                        nat_lit
                                                                                                                                                                                                                                                          0 }
                                                                                                                                                                                                                                                    (Int.toNat
                                                                                                                                                                                                                                                        n81 *
                                                                                                                                                                                                                                                      nat_lit
                                                                                                                                                                                                                                                        1)) =
                                                                                                                                                                                                                                                some
                                                                                                                                                                                                                                                  (Value.slice
                                                                                                                                                                                                                                                    p160
                                                                                                                                                                                                                                                    k161
                                                                                                                                                                                                                                                    k162) ∧
                                                                                                                                                                                                                                              ∃
                                                                                                                                                                                                                                                (ad163
                                                                                                                                                                                                                                                :
                                                                                                                                                                                                                                                Addr),
                                                                                                                                                                                                                                                p160 =
                                                                                                                                                                                                                                                    some
                                                                                                                                                                                                                                                      ad163 ∧
                                                                                                                                                                                                                                                  ((0 :
                                                                                                                                                                                                                                                          Int) ≤
                                                                                                                                                                                                                                                        n137 ∧
                                                                                                                                                                                                                                                      n137 <
                                                                                                                                                                                                                                                        (k161 : Int)) ∧
                                                                                                                                                                                                                                                    ∃
                                                                                                                                                                                                                                                      (n164
                                                                                                                                                                                                                                                      :
                                                                                                                                                                                                                                                      Int),
                                                                                                                                                                                                                                                      World.cell?
                                                                                                                                                                                                                                                            w138
                                                                                                                                                                                                                                                            (Addr.add
                                                                                                                                                                                                                                                              ad163
                                                                                                                                                                                                                                                              (Int.toNat
                                                                                                                                                                                                                                                                  n137 *
                                                                                                                                                                                                                                                                nat_lit
                                                                                                                                                                                                                                                                  1)) =
                                                                                                                                                                                                                                                          some
                                                                                                                                                                                                                                                            (Value.int
                                                                                                                                                                                                                                                              IntKind.u8
                                                                                                                                                                                                                                                              n164) ∧
                                                                                                                                                                                                                                                        ∀
                                                                                                                                                                                                                                                          (w165 :
                                                                                                                                                                                                                                                            World),
                                                                                                                                                                                                                                                          Step
                                                                                                                                                                                                                                                              w138
                                                                                                                                                                                                                                                              w165
                                                                                                                                                                                                                                                              []
                                                                                                                                                                                                                                                              [] →
                                                                                                                                                                                                                                                            y140
                                                                                                                                                                                                                                                              (decide
                                                                                                                                                                                                                                                                (n159 =
                                                                                                                                                                                                                                                                  n164))
                                                                                                                                                                                                                                                              w165)
                                                                                                                                                                                                                          (∀
                                                                                                                                                                                                                            (w167 :
                                                                                                                                                                                                                              World),
                                                                                                                                                                                                                            Step
                                                                                                                                                                                                                                w138
                                                                                                                                                                                                                                w167
                                                                                                                                                                                                                                []
                                                                                                                                                                                                                                [] →
                                                                                                                                                                                                                              y140
                                                                                                                                                                                                                                false
                                                                                                                                                                                                                                w167))))) →
                                                                                                                                                      y105 b106 w107) →
                                                                                                                                                  bcase (!decide (n104 = (0 : Int)))
                                                                                                                                                    (y105 true w100)
                                                                                                                                                    (y105 (!decide ((k102 : Int) = (64 : Int)))
                                                                                                                                                      w100)) →
                                                                                                                                  y94 p95 k96 k97 w98) →
                                                                                                                              bcase (decide (n81 < (6 : Int)))
                                                                                                                                (∀ (k173 : Nat) (w174 : World),
                                                                                                                                  Step w90 w174 [] [k173] →
                                                                                                                                    Blk w174 k173
                                                                                                                                        (spl
                                                                                                                                          (spl
                                                                                                                                            (reps [Value.int IntKind.u8 (0 : Int)] 2)
                                                                                                                                            0
                                                                                                                                            [Value.int IntKind.u8
                                                                                                                                                (IntKind.wrap IntKind.u8
                                                                                                                                                  (IntKind.wrap IntKind.i64 (n81 + (1 : Int))))])
                                                                                                                                          1 [Value.int IntKind.u8 (7 : Int)]) →
                                                                                                                                      Calls Proofs.Try.prog (24 : Nat)
                                                                                                                                        {
                                                                                                                                          toList :=
                                                                                                                                            [Value.slice
                                                                                                                                                (some { block := k173, off := 0 })
                                                                                                                                                2 2] }
                                                                                                                                        w174 fun (e177 : Ending) (w178 : World) =>
                                                                                                                                        ∃ (p179 : Option Addr),
                                                                                                                                          ∃ (k180 : Nat),
                                                                                                                                            ∃ (k181 : Nat),
                                                                                                                                              e177 = Ending.returned (Value.slice p179 k180 k181) ∧
                                                                                                                                                y94 p179 k180 k181 w178)
                                                                                                                                (y94 (some { block := k91, off := 0 }) 64
                                                                                                                                  64 w90))
                                                                                                              (∀ (y182 : Bool → World → Prop),
                                                                                                                (∀ (b183 : Bool) (w184 : World),
                                                                                                                    R (Ending.returned (Value.bool b183)) w184 → y182 b183 w184) →
                                                                                                                  bcase (decide (n80 ≤ (12 : Int)))
                                                                                                                    (Calls Proofs.Try.prog (26 : Nat) { toList := [Value.pointer p76] } w82
                                                                                                                      fun (e187 : Ending) (w188 : World) =>
                                                                                                                      ∃ (p189 : Option Addr),
                                                                                                                        ∃ (k190 : Nat),
                                                                                                                          ∃ (k191 : Nat),
                                                                                                                            e187 = Ending.returned (Value.slice p189 k190 k191) ∧
                                                                                                                              bcase (decide ((k190 : Int) = (0 : Int)))
                                                                                                                                (Calls Proofs.Try.prog (25 : Nat)
                                                                                                                                  { toList := [Value.pointer p76] } w188
                                                                                                                                  fun (e192 : Ending) (w193 : World) =>
                                                                                                                                  ∃ (n194 : Int),
                                                                                                                                    e192 = Ending.returned (Value.int IntKind.i64 n194) ∧
                                                                                                                                      y182 (decide (n194 = (0 : Int))) w193)
                                                                                                                                (y182 false w188))
                                                                                                                    (y182 false w82)))) →
                                                                                  y46 b47 w48) →
                                                                              bcase (decide (n43 < (writesL : Int))) (y46 (decide (n43 < (30 : Int))) w44) (y46 false w44)))) →
                                  y11 b12 w13) →
                              bcase (!decide (n10 = (0 : Int))) (y11 true w8) (y11 (Option.isNone p9) w8))
theorem rhizomelaw03_DiskSure.link {writesA : Option Addr} {writesL writesC : Nat} {keepA : Option Addr} {keepL keepC : Nat} {at0 : Int} {at1 : Int} {R : Ending → World → Prop} {w : World} (h : rhizomelaw03_DiskSure.vc writesA writesL writesC keepA keepL keepC at0 at1 R w) : Calls Go.Proofs.Try.prog 5 #[.slice writesA writesL writesC, .slice keepA keepL keepC, (.agg #[.int .i64 at0, .int .i64 at1] : Value)] w R :=
  calls_of pf (fn := Go.Proofs.Try.f5) (ann := .s (.n) (.s (.s (.n) (.c (.s (.n) (.n)) (.n))) (.s (.n) (.s (.j ⟨[], [], [0], [(32, .l (.b))], []⟩ (.n) (.c (.s (.n) (.n)) (.n))) (.s (.s (.n) (.b (.l ⟨[], [], [0], [(9, .l (.i .i64))], []⟩ (.s (.s (.n) (.c (.n) (.n))) (.s (.b (.s (.n) (.c (.s (.n) (.n)) (.n)))) (.n)))))) (.s (.s (.n) (.c (.s (.n) (.n)) (.n))) (.s (.n) (.s (.s (.n) (.b (.l ⟨[], [], [0], [(11, .l (.i .i64))], []⟩ (.s (.j ⟨[], [], [0], [(56, .l (.b))], []⟩ (.n) (.c (.n) (.n))) (.j ⟨[], [], [0], [], []⟩ (.b (.s (.n) (.s (.s (.n) (.c (.n) (.n))) (.s (.n) (.s (.n) (.s (.n) (.c (.s (.n) (.n)) (.n)))))))) (.n)))))) (.s (.n) (.s (.s (.n) (.c (.s (.n) (.n)) (.n))) (.s (.n) (.s (.s (.n) (.b (.l ⟨[], [], [], [(15, .l (.i .i64)), (16, .l (.i .i64))], []⟩ (.s (.s (.n) (.c (.n) (.n))) (.j ⟨[], [], [], [(15, .l (.i .i64))], []⟩ (.b (.s (.n) (.j ⟨[], [], [], [(17, .l (.sl))], []⟩ (.s (.n) (.c (.n) (.n))) (.s (.n) (.s (.j ⟨[], [], [], [(115, .l (.b))], []⟩ (.n) (.c (.s (.n) (.n)) (.n))) (.s (.s (.n) (.c (.n) (.n))) (.s (.s (.n) (.c (.s (.n) (.n)) (.n))) (.s (.s (.n) (.c (.s (.n) (.n)) (.n))) (.s (.n) (.s (.b (.l ⟨[], [], [], [(20, .l (.i .i64))], []⟩ (.s (.j ⟨[], [], [], [(148, .l (.b))], []⟩ (.n) (.c (.n) (.n))) (.b (.n))))) (.s (.n) (.c (.s (.n) (.n)) (.n))))))))))))) (.n)))))) (.j ⟨[], [], [], [(6, .l (.b))], []⟩ (.n) (.n)))))))))))))) (mp := false) (args := [.v (.slice writesA writesL writesC), .v (.slice keepA keepL keepC), .v (.agg #[.int .i64 at0, .int .i64 at1])]) Go.Proofs.Try.func5 (c := Go.Proofs.Try.f5.body.getD .skip) (by kernel_rfl) (by kernel_rfl) (Eq.mp (by kernel_rfl) h)
theorem rhizomelaw03_DiskSure.body : BodyOk Go.Proofs.Try.prog 5 := ⟨Go.Proofs.Try.f5, Go.Proofs.Try.func5, by kernel_rfl, pf.ng _ _ Go.Proofs.Try.func5⟩

end Go.Proofs.Ytcaamecdhbgknaa.VC
