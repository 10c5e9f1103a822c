/- What is to be shown of functions' texts, printed by a program of this session's repo; that it gives the functions' contracts is checked by the kernel. -/
import Derived.Test.YtcaamecdhbgknaaProg
import Derived.Test.YtcaamecdhbgknaaPf
namespace Go.Proofs.Ytcaamecdhbgknaa.VC
open Go Go.V
set_option maxRecDepth 1000000
set_option linter.unusedVariables false

/-! ### rhizome/rhizomelaw04.LogResets: function 14 -/
def rhizomelaw04_LogResets.vc (listsA : Option Addr) (listsL listsC : Nat) (keepA : Option Addr) (keepL keepC : Nat) (cuts0 : Int) (cuts1 : Int) (cuts2 : Int) (R : Ending → World → Prop) (w : World) : Prop :=
  ∀ (k1 : Nat) (w2 : World),
    Step w w2 [] [k1] →
      Calls Proofs.Try.prog (33 : Nat) { toList := [] } w2 fun (e4 : Ending) (w5 : World) =>
        ∃ (b6 : Bool),
          e4 = Ending.returned (Value.bool b6) ∧
            Keep [k1] w2 w5 ∧
              bcase (!b6) (R (Ending.returned (Value.bool false)) w5)
                (Calls Proofs.Try.prog (20 : Nat) { toList := [Value.int IntKind.i64 (60 : Int)] } w5 fun (e7 : Ending) (w8 : World) =>
                  ∃ (p9 : Option Addr),
                    ∃ (n10 : Int),
                      e7 = Ending.returned (Value.tuple { toList := [Value.pointer p9, Value.int IntKind.i64 n10] }) ∧
                        Keep [k1] w5 w8 ∧
                          ∀ (y11 : Bool → World → Prop),
                            (∀ (b12 : Bool) (w13 : World),
                                bcase b12 (R (Ending.returned (Value.bool false)) w13)
                                    (Calls Proofs.Try.prog (34 : Nat) { toList := [Value.pointer p9, Value.int IntKind.i64 (0 : Int), Value.int IntKind.i64 (60 : Int)] } w13
                                      fun (e14 : Ending) (w15 : World) =>
                                      ∃ (p16 : Option Addr),
                                        ∃ (p17 : Option Addr),
                                          ∃ (k18 : Nat),
                                            ∃ (k19 : Nat),
                                              ∃ (n20 : Int),
                                                e14 = Ending.returned (Value.tuple { toList := [Value.pointer p16, Value.slice p17 k18 k19, Value.int IntKind.i64 n20] }) ∧
                                                  Keep [k1] w13 w15 ∧
                                                    ∀ (y21 : Bool → World → Prop),
                                                      (∀ (b22 : Bool) (w23 : World),
                                                          bcase b22 (R (Ending.returned (Value.bool false)) w23)
                                                              (∃ (y24 : Nat → Option Addr → Nat → Nat → Int → World → Prop),
                                                                ∃ (k25 : Nat),
                                                                  y24 k25 none 0 0 (0 : Int) w23 ∧
                                                                    ∀ (k26 : Nat) (p27 : Option Addr) (k28 k29 : Nat) (n30 : Int) (w31 : World),
                                                                      y24 k26 p27 k28 k29 n30 w31 →
                                                                        ∀ (y33 : Bool → World → Prop),
                                                                          (∀ (b34 : Bool) (w35 : World),
                                                                              bcase b34
                                                                                  (∀ (y36 : Option Addr → Nat → Nat → World → Prop),
                                                                                    (∀ (p37 : Option Addr) (k38 k39 : Nat) (w40 : World),
                                                                                        (∃ (k41 : Nat), k41 < k26 ∧ y24 k41 p37 k38 k39 (IntKind.wrap IntKind.i64 (n30 + (1 : Int))) w40) →
                                                                                          y36 p37 k38 k39 w40) →
                                                                                      ∃ (ad44 : Addr),
                                                                                        listsA = some ad44 ∧
                                                                                          ((0 : Int) ≤ n30 ∧ n30 < (listsL : Int)) ∧
                                                                                            ∃ (p45 : Option Addr),
                                                                                              ∃ (k46 : Nat),
                                                                                                ∃ (k47 : Nat),
                                                                                                  World.cell? w35 (Addr.add ad44 (Int.toNat n30 * 1)) =
                                                                                                      some (Value.slice p45 k46 k47) ∧
                                                                                                    ∃ (ad48 : Addr),
                                                                                                      listsA = some ad48 ∧
                                                                                                        ((0 : Int) ≤ n30 ∧ n30 < (listsL : Int)) ∧
                                                                                                          ∃ (p49 : Option Addr),
                                                                                                            ∃ (k50 : Nat),
                                                                                                              ∃ (k51 : Nat),
                                                                                                                World.cell? w35 (Addr.add ad48 (Int.toNat n30 * 1)) =
                                                                                                                    some (Value.slice p49 k50 k51) ∧
                                                                                                                  ((0 : Int) ≤ (0 : Int) ∧
                                                                                                                      ((0 : Int) ≤ if (200 : Int) < (k50 : Int) then (200 : Int) else (k50 : Int)) ∧
                                                                                                                        (if (200 : Int) < (k50 : Int) then (200 : Int) else (k50 : Int)) ≤ (k47 : Int)) ∧
                                                                                                                    ∀ (w52 : World),
                                                                                                                      Step w35 w52 [] [] →
                                                                                                                        Calls Proofs.Try.prog (35 : Nat)
                                                                                                                          {
                                                                                                                            toList :=
                                                                                                                              [Value.pointer p16,
                                                                                                                                Value.slice (subA p45 0 k47 1)
                                                                                                                                  (Int.toNat (if (200 : Int) < (k50 : Int) then (200 : Int) else (k50 : Int)) -
                                                                                                                                    0)
                                                                                                                                  (k47 - 0)] }
                                                                                                                          w52 fun (e54 : Ending) (w55 : World) =>
                                                                                                                          ∃ (n56 : Int),
                                                                                                                            e54 = Ending.returned (Value.int IntKind.i64 n56) ∧
                                                                                                                              Keep [k1] w52 w55 ∧
                                                                                                                                bcase (decide (n56 = (0 : Int)))
                                                                                                                                  (∀ (k57 : Nat),
                                                                                                                                    appendP false [] [k57] [k1, k57] w55 p27 k28 k29 1
                                                                                                                                      (spl
                                                                                                                                        (reps [Value.slice none 0 0]
                                                                                                                                          1)
                                                                                                                                        0
                                                                                                                                        [Value.slice (subA p45 0 k47 1)
                                                                                                                                            (Int.toNat
                                                                                                                                                (if (200 : Int) < (k50 : Int) then (200 : Int) else (k50 : Int)) -
                                                                                                                                              0)
                                                                                                                                            (k47 - 0)])
                                                                                                                                      1 24
                                                                                                                                      [Value.slice none 0 0]
                                                                                                                                      fun (w58 : World) (p59 : Option Addr) (k60 k61 : Nat) =>
                                                                                                                                      y36 p59 k60 k61 w58)
                                                                                                                                  (y36 p27 k28 k29 w55))
                                                                                  (((0 : Int) ≤ (0 : Int) ∧ (0 : Int) < ((3 : Nat) : Int)) ∧
                                                                                    (50 : Int) ≠ (0 : Int) ∧
                                                                                      Calls Proofs.Try.prog (29 : Nat)
                                                                                        {
                                                                                          toList :=
                                                                                            [Value.pointer p9,
                                                                                              Value.int IntKind.i64
                                                                                                (IntKind.wrap IntKind.i64 (Int.tmod (IntKind.wrap IntKind.u64 cuts0) (50 : Int)))] }
                                                                                        w35 fun (e62 : Ending) (w63 : World) =>
                                                                                        ∃ (n64 : Int),
                                                                                          e62 = Ending.returned (Value.int IntKind.i64 n64) ∧
                                                                                            Keep [k1] w35 w63 ∧
                                                                                              bcase (!decide (n64 = (0 : Int))) (R (Ending.returned (Value.bool false)) w63)
                                                                                                (Calls Proofs.Try.prog (43 : Nat)
                                                                                                  { toList := [Value.pointer p16, Value.int IntKind.i64 (40 : Int)] } w63
                                                                                                  fun (e65 : Ending) (w66 : World) =>
                                                                                                  ∃ (n67 : Int),
                                                                                                    e65 = Ending.returned (Value.int IntKind.i64 n67) ∧
                                                                                                      Keep [k1] w63 w66 ∧
                                                                                                        ((0 : Int) ≤ (1 : Int) ∧ (1 : Int) < ((3 : Nat) : Int)) ∧
                                                                                                          ((0 : Int) ≤ (2 : Int) ∧ (2 : Int) < ((3 : Nat) : Int)) ∧
                                                                                                            Calls Proofs.Try.prog (28 : Nat)
                                                                                                              {
                                                                                                                toList :=
                                                                                                                  [Value.pointer p9, Value.slice keepA keepL keepC,
                                                                                                                    Value.int IntKind.i64 cuts1, Value.int IntKind.i64 cuts2] }
                                                                                                              w66 fun (e68 : Ending) (w69 : World) =>
                                                                                                              ∃ (p70 : Option Addr),
                                                                                                                e68 = Ending.returned (Value.pointer p70) ∧
                                                                                                                  Keep [k1] w66 w69 ∧
                                                                                                                    bcase (Option.isNone p70) (R (Ending.returned (Value.bool false)) w69)
                                                                                                                      (Calls Proofs.Try.prog (34 : Nat)
                                                                                                                        {
                                                                                                                          toList :=
                                                                                                                            [Value.pointer p70, Value.int IntKind.i64 (0 : Int),
                                                                                                                              Value.int IntKind.i64 (60 : Int)] }
                                                                                                                        w69 fun (e71 : Ending) (w72 : World) =>
                                                                                                                        ∃ (p73 : Option Addr),
                                                                                                                          ∃ (p74 : Option Addr),
                                                                                                                            ∃ (k75 : Nat),
                                                                                                                              ∃ (k76 : Nat),
                                                                                                                                ∃ (n77 : Int),
                                                                                                                                  e71 =
                                                                                                                                      Ending.returned
                                                                                                                                        (Value.tuple
                                                                                                                                          {
                                                                                                                                            toList :=
                                                                                                                                              [Value.pointer p73, Value.slice p74 k75 k76,
                                                                                                                                                Value.int IntKind.i64 n77] }) ∧
                                                                                                                                    Keep [k1] w69 w72 ∧
                                                                                                                                      ∀ (y78 : Bool → World → Prop),
                                                                                                                                        (∀ (b79 : Bool) (w80 : World),
                                                                                                                                            bcase b79
                                                                                                                                                (R (Ending.returned (Value.bool false)) w80)
                                                                                                                                                (∃ (y81 : Nat → Int → World → Prop),
                                                                                                                                                  ∃ (k82 : Nat),
                                                                                                                                                    y81 k82 (0 : Int) w80 ∧
                                                                                                                                                      ∀ (k83 : Nat) (n84 : Int) (w85 : World),
                                                                                                                                                        y81 k83 n84 w85 →
                                                                                                                                                          bcase (decide (n84 < (k75 : Int)))
                                                                                                                                                            (∀ (y87 : Bool → World → Prop),
                                                                                                                                                              (∀ (b88 : Bool) (w89 : World),
                                                                                                                                                                  bcase b88
                                                                                                                                                                      (R
                                                                                                                                                                        (Ending.returned
                                                                                                                                                                          (Value.bool false))
                                                                                                                                                                        w89)
                                                                                                                                                                      (∃ (k90 : Nat),
                                                                                                                                                                        k90 < k83 ∧
                                                                                                                                                                          y81 k90
                                                                                                                                                                            (IntKind.wrap
                                                                                                                                                                              IntKind.i64
                                                                                                                                                                              (n84 + (1 : Int)))
                                                                                                                                                                            w89) →
                                                                                                                                                                    y87 b88 w89) →
                                                                                                                                                                ∃ (ad93 : Addr),
                                                                                                                                                                  p74 = some ad93 ∧
                                                                                                                                                                    ((0 : Int) ≤ n84 ∧ n84 < (k75 : Int)) ∧
                                                                                                                                                                      ∃ (n94 : Int),
                                                                                                                                                                        World.cell? w85
                                                                                                                                                                              (Addr.add
                                                                                                                                                                                (Addr.add ad93
                                                                                                                                                                                  (Int.toNat n84 *
                                                                                                                                                                                    2))
                                                                                                                                                                                0) =
                                                                                                                                                                            some
                                                                                                                                                                              (Value.int IntKind.i64
                                                                                                                                                                                n94) ∧
                                                                                                                                                                          bcase
                                                                                                                                                                            (!decide
                                                                                                                                                                                (n94 =
                                                                                                                                                                                  IntKind.wrap
                                                                                                                                                                                    IntKind.i64
                                                                                                                                                                                    (n84 + (1 : Int))))
                                                                                                                                                                            (∀ (w95 : World),
                                                                                                                                                                              Step w85 w95 [] [] →
                                                                                                                                                                                y87 true w95)
                                                                                                                                                                            (∃ (ad97 : Addr),
                                                                                                                                                                              p74 = some ad97 ∧
                                                                                                                                                                                ((0 : Int) ≤ n84 ∧
                                                                                                                                                                                    n84 < (k75 : Int)) ∧
                                                                                                                                                                                  ∃ (p98 :
                                                                                                                                                                                    Option Addr),
                                                                                                                                                                                    ∃ (k99 : Nat),
                                                                                                                                                                                      ∃ (k100 : Nat),
                                                                                                                                                                                        World.cell? w85
                                                                                                                                                                                              (Addr.add
                                                                                                                                                                                                (Addr.add
                                                                                                                                                                                                  ad97
                                                                                                                                                                                                  (Int.toNat
                                                                                                                                                                                                      n84 *
                                                                                                                                                                                                    nat_lit
                                                                                                                                                                                                      2))
                                                                                                                                                                                                (nat_lit
                                                                                                                                                                                                  1)) =
                                                                                                                                                                                            some
                                                                                                                                                                                              (Value.slice
                                                                                                                                                                                                p98 k99
                                                                                                                                                                                                k100) ∧
                                                                                                                                                                                          ∃ (l101 :
                                                                                                                                                                                            List UInt8),
                                                                                                                                                                                            List.length
                                                                                                                                                                                                  l101 =
                                                                                                                                                                                                k99 ∧
                                                                                                                                                                                              (∀
                                                                                                                                                                                                  (k102 :
                                                                                                                                                                                                    Nat),
                                                                                                                                                                                                  k102 <
                                                                                                                                                                                                      k99 →
                                                                                                                                                                                                    ∃
                                                                                                                                                                                                      (ad104
                                                                                                                                                                                                      :
                                                                                                                                                                                                      Addr),
                                                                                                                                                                                                      p98 =
                                                                                                                                                                                                          some
                                                                                                                                                                                                            ad104 ∧
                                                                                                                                                                                                        World.cell?
                                                                                                                                                                                                            w85
                                                                                                                                                                                                            (Addr.add
                                                                                                                                                                                                              ad104
                                                                                                                                                                                                              k102) =
                                                                                                                                                                                                          some
                                                                                                                                                                                                            (Value.int
                                                                                                                                                                                                              IntKind.u8
                                                                                                                                                                                                              ((UInt8.toNat
                                                                                                                                                                                                                  (List.getD
                                                                                                                                                                                                                    l101
                                                                                                                                                                                                                    k102
                                                                                                                                                                                                                    (0 :
                                                                                                                                                                                                                      UInt8))) : Int))) ∧
                                                                                                                                                                                                ∃ (ad105 :
                                                                                                                                                                                                  Addr),
                                                                                                                                                                                                  p27 =
                                                                                                                                                                                                      some
                                                                                                                                                                                                        ad105 ∧
                                                                                                                                                                                                    ((0 :
                                                                                                                                                                                                            Int) ≤
                                                                                                                                                                                                          n84 ∧
                                                                                                                                                                                                        n84 <
                                                                                                                                                                                                          (k28 : Int)) ∧
                                                                                                                                                                                                      ∃
                                                                                                                                                                                                        (p106
                                                                                                                                                                                                        :
                                                                                                                                                                                                        Option
                                                                                                                                                                                                          Addr),
                                                                                                                                                                                                        ∃
                                                                                                                                                                                                          (k107
                                                                                                                                                                                                          :
                                                                                                                                                                                                          Nat),
                                                                                                                                                                                                          ∃
                                                                                                                                                                                                            (k108
                                                                                                                                                                                                            :
                                                                                                                                                                                                            Nat),
                                                                                                                                                                                                            World.cell?
                                                                                                                                                                                                                  w85
                                                                                                                                                                                                                  (Addr.add
                                                                                                                                                                                                                    ad105
                                                                                                                                                                                                                    (Int.toNat
                                                                                                                                                                                                                        n84 *
                                                                                                                                                                                                                      nat_lit
                                                                                                                                                                                                                        1)) =
                                                                                                                                                                                                                some
                                                                                                                                                                                                                  (Value.slice
                                                                                                                                                                                                                    p106
                                                                                                                                                                                                                    k107
                                                                                                                                                                                                                    k108) ∧
                                                                                                                                                                                                              ∃
                                                                                                                                                                                                                (l109
                                                                                                                                                                                                                :
                                                                                                                                                                                                                List
                                                                                                                                                                                                                  UInt8),
                                                                                                                                                                                                                List.length
                                                                                                                                                                                                                      l109 =
                                                                                                                                                                                                                    k107 ∧
                                                                                                                                                                                                                  (∀
                                                                                                                                                                                                                      (k110 :
                                                                                                                                                                                                                        Nat),
                                                                                                                                                                                                                      k110 <
                                                                                                                                                                                                                          k107 →
                                                                                                                                                                                                                        ∃
                                                                                                                                                                                                                          (ad112
                                                                                                                                                                                                                          :
                                                                                                                                                                                                                          Addr),
                                                                                                                                                                                                                          p106 =
                                                                                                                                                                                                                              some
                                                                                                                                                                                                                                ad112 ∧
                                                                                                                                                                                                                            World.cell?
                                                                                                                                                                                                                                w85
                                                                                                                                                                                                                                (Addr.add
                                                                                                                                                                                                                                  ad112
                                                                                                                                                                                                                                  k110) =
                                                                                                                                                                                                                              some
                                                                                                                                                                                                                                (Value.int
                                                                                                                                                                                                                                  IntKind.u8
                                                                                                                                                                                                                                  ((UInt8.toNat
                                                                                                                                                                                                                                      (List.getD
                                                                                                                                                                                                                                        l109
                                                                                                                                                                                                                                        k110
                                                                                                                                                                                                                                        (0 :
                                                                                                                                                                                                                                          UInt8))) : Int))) ∧
                                                                                                                                                                                                                    ∀
                                                                                                                                                                                                                      (w113 :
                                                                                                                                                                                                                        World),
                                                                                                                                                                                                                      Step
                                                                                                                                                                                                                          w85
                                                                                                                                                                                                                          w113
                                                                                                                                                                                                                          []
                                                                                                                                                                                                                          [] →
                                                                                                                                                                                                                        y87
                                                                                                                                                                                                                          (!decide
                                                                                                                                                                                                                              ((ByteArray.mk (Array.mk l101)) =
                                                                                                                                                                                                                                (ByteArray.mk (Array.mk l109))))
                                                                                                                                                                                                                          w113))
                                                                                                                                                            (∀ (y115 : Bool → World → Prop),
                                                                                                                                                              (∀ (b116 : Bool) (w117 : World),
                                                                                                                                                                  R
                                                                                                                                                                      (Ending.returned
                                                                                                                                                                        (Value.bool b116))
                                                                                                                                                                      w117 →
                                                                                                                                                                    y115 b116 w117) →
                                                                                                                                                                bcase
                                                                                                                                                                  (!decide (n67 = (0 : Int)))
                                                                                                                                                                  (y115 true w85)
                                                                                                                                                                  (Calls Proofs.Try.prog (37 : Nat)
                                                                                                                                                                    { toList := [Value.pointer p16] }
                                                                                                                                                                    w85
                                                                                                                                                                    fun (e120 : Ending)
                                                                                                                                                                      (w121 : World) =>
                                                                                                                                                                    ∃ (n122 : Int),
                                                                                                                                                                      e120 =
                                                                                                                                                                          Ending.returned
                                                                                                                                                                            (Value.int IntKind.i64
                                                                                                                                                                              n122) ∧
                                                                                                                                                                        y115
                                                                                                                                                                          (decide
                                                                                                                                                                            (n122 = (40 : Int)))
                                                                                                                                                                          w121))) →
                                                                                                                                              y78 b79 w80) →
                                                                                                                                          bcase (!decide (n77 = (0 : Int)))
                                                                                                                                            (y78 true w72)
                                                                                                                                            (bcase (Option.isNone p73) (y78 true w72)
                                                                                                                                              (bcase (decide ((k28 : Int) < (k75 : Int)))
                                                                                                                                                (y78 true w72)
                                                                                                                                                (bcase (decide (n67 = (0 : Int)))
                                                                                                                                                  (y78 (!decide ((k75 : Int) = (0 : Int))) w72)
                                                                                                                                                  (y78 false w72))))))) →
                                                                                y33 b34 w35) →
                                                                            bcase (decide (n30 < (listsL : Int))) (y33 (decide (n30 < (8 : Int))) w31) (y33 false w31)) →
                                                            y21 b22 w23) →
                                                        bcase (!decide (n20 = (0 : Int))) (y21 true w15) (y21 (Option.isNone p16) w15)) →
                                  y11 b12 w13) →
                              bcase (!decide (n10 = (0 : Int))) (y11 true w8) (y11 (Option.isNone p9) w8))
theorem rhizomelaw04_LogResets.link {listsA : Option Addr} {listsL listsC : Nat} {keepA : Option Addr} {keepL keepC : Nat} {cuts0 : Int} {cuts1 : Int} {cuts2 : Int} {R : Ending → World → Prop} {w : World} (h : rhizomelaw04_LogResets.vc listsA listsL listsC keepA keepL keepC cuts0 cuts1 cuts2 R w) : Calls Go.Proofs.Try.prog 14 #[.slice listsA listsL listsC, .slice keepA keepL keepC, (.agg #[.int .i64 cuts0, .int .i64 cuts1, .int .i64 cuts2] : Value)] w R :=
  calls_of pf (fn := Go.Proofs.Try.f14) (ann := .s (.n) (.s (.s (.n) (.c (.s (.n) (.n)) (.n))) (.s (.n) (.s (.j ⟨[], [], [0], [(30, .l (.b))], []⟩ (.n) (.c (.s (.n) (.n)) (.n))) (.s (.n) (.s (.j ⟨[], [], [0], [(42, .l (.b))], []⟩ (.n) (.c (.s (.n) (.n)) (.n))) (.s (.n) (.s (.s (.n) (.b (.l ⟨[], [], [0], [(11, .l (.sl)), (12, .l (.i .i64))], []⟩ (.s (.j ⟨[], [], [0], [(50, .l (.b))], []⟩ (.n) (.c (.n) (.n))) (.j ⟨[], [], [0], [(11, .l (.sl))], []⟩ (.b (.s (.d [0]) (.s (.n) (.c (.n) (.n))))) (.n)))))) (.s (.s (.n) (.c (.s (.n) (.n)) (.n))) (.s (.n) (.s (.n) (.s (.s (.n) (.c (.s (.n) (.n)) (.n))) (.s (.n) (.s (.j ⟨[], [], [], [(118, .l (.b))], []⟩ (.n) (.c (.s (.n) (.n)) (.n))) (.s (.s (.n) (.b (.l ⟨[], [], [], [(121, .l (.i .i64))], []⟩ (.s (.n) (.s (.c (.n) (.n)) (.s (.b (.s (.n) (.j ⟨[], [], [], [(145, .l (.b))], []⟩ (.n) (.c (.s (.n) (.n)) (.n))))) (.n))))))) (.j ⟨[], [], [], [(6, .l (.b))], []⟩ (.n) (.n))))))))))))))))) (mp := false) (args := [.v (.slice listsA listsL listsC), .v (.slice keepA keepL keepC), .v (.agg #[.int .i64 cuts0, .int .i64 cuts1, .int .i64 cuts2])]) Go.Proofs.Try.func14 (c := Go.Proofs.Try.f14.body.getD .skip) (by kernel_rfl) (by kernel_rfl) (Eq.mp (by kernel_rfl) h)
theorem rhizomelaw04_LogResets.body : BodyOk Go.Proofs.Try.prog 14 := ⟨Go.Proofs.Try.f14, Go.Proofs.Try.func14, by kernel_rfl, pf.ng _ _ Go.Proofs.Try.func14⟩

end Go.Proofs.Ytcaamecdhbgknaa.VC
