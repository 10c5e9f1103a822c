/- What is to be shown of functions' texts, printed by a program of this session's repo; that it gives the functions' contracts is checked by the kernel. -/
import Derived.Test.YtcaamecdhbgknaaProg
import Derived.Test.YtcaamecdhbgknaaPf
namespace Go.Proofs.Ytcaamecdhbgknaa.VC
open Go Go.V
set_option maxRecDepth 1000000
set_option linter.unusedVariables false

/-! ### rhizome/rhizomelaw04.LogAgain: function 12 -/
def rhizomelaw04_LogAgain.vc (listsA : Option Addr) (listsL listsC : Nat) (keepA : Option Addr) (keepL keepC : Nat) (cuts0 : Int) (cuts1 : Int) (cuts2 : Int) (cuts3 : Int) (R : Ending → World → Prop) (w : World) : Prop :=
  ∀ (k1 : Nat) (w2 : World),
    Step w w2 [] [k1] →
      Calls Proofs.Try.prog (33 : Nat) { toList := [] } w2 fun (e4 : Ending) (w5 : World) =>
        ∃ (b6 : Bool),
          e4 = Ending.returned (Value.bool b6) ∧
            Keep [k1] w2 w5 ∧
              bcase (!b6) (R (Ending.returned (Value.bool false)) w5)
                (Calls Proofs.Try.prog (20 : Nat) { toList := [Value.int IntKind.i64 (40 : Int)] } w5 fun (e7 : Ending) (w8 : World) =>
                  ∃ (p9 : Option Addr),
                    ∃ (n10 : Int),
                      e7 = Ending.returned (Value.tuple { toList := [Value.pointer p9, Value.int IntKind.i64 n10] }) ∧
                        Keep [k1] w5 w8 ∧
                          ∀ (y11 : Bool → World → Prop),
                            (∀ (b12 : Bool) (w13 : World),
                                bcase b12 (R (Ending.returned (Value.bool false)) w13)
                                    (Calls Proofs.Try.prog (34 : Nat) { toList := [Value.pointer p9, Value.int IntKind.i64 (0 : Int), Value.int IntKind.i64 (40 : Int)] } w13
                                      fun (e14 : Ending) (w15 : World) =>
                                      ∃ (p16 : Option Addr),
                                        ∃ (p17 : Option Addr),
                                          ∃ (k18 : Nat),
                                            ∃ (k19 : Nat),
                                              ∃ (n20 : Int),
                                                e14 = Ending.returned (Value.tuple { toList := [Value.pointer p16, Value.slice p17 k18 k19, Value.int IntKind.i64 n20] }) ∧
                                                  Keep [k1] w13 w15 ∧
                                                    ∀ (y21 : Bool → World → Prop),
                                                      (∀ (b22 : Bool) (w23 : World),
                                                          bcase b22 (R (Ending.returned (Value.bool false)) w23)
                                                              (∃ (y24 : Nat → Int → World → Prop),
                                                                ∃ (k25 : Nat),
                                                                  y24 k25 (0 : Int) w23 ∧
                                                                    ∀ (k26 : Nat) (n27 : Int) (w28 : World),
                                                                      y24 k26 n27 w28 →
                                                                        ∀ (y30 : Bool → World → Prop),
                                                                          (∀ (b31 : Bool) (w32 : World),
                                                                              bcase b31
                                                                                  (∃ (ad33 : Addr),
                                                                                    listsA = some ad33 ∧
                                                                                      ((0 : Int) ≤ n27 ∧ n27 < (listsL : Int)) ∧
                                                                                        ∃ (p34 : Option Addr),
                                                                                          ∃ (k35 : Nat),
                                                                                            ∃ (k36 : Nat),
                                                                                              World.cell? w32 (Addr.add ad33 (Int.toNat n27 * 1)) =
                                                                                                  some (Value.slice p34 k35 k36) ∧
                                                                                                ∃ (ad37 : Addr),
                                                                                                  listsA = some ad37 ∧
                                                                                                    ((0 : Int) ≤ n27 ∧ n27 < (listsL : Int)) ∧
                                                                                                      ∃ (p38 : Option Addr),
                                                                                                        ∃ (k39 : Nat),
                                                                                                          ∃ (k40 : Nat),
                                                                                                            World.cell? w32 (Addr.add ad37 (Int.toNat n27 * 1)) =
                                                                                                                some (Value.slice p38 k39 k40) ∧
                                                                                                              ((0 : Int) ≤ (0 : Int) ∧
                                                                                                                  ((0 : Int) ≤ if (300 : Int) < (k39 : Int) then (300 : Int) else (k39 : Int)) ∧
                                                                                                                    (if (300 : Int) < (k39 : Int) then (300 : Int) else (k39 : Int)) ≤ (k36 : Int)) ∧
                                                                                                                ∀ (w41 : World),
                                                                                                                  Step w32 w41 [] [] →
                                                                                                                    Calls Proofs.Try.prog (35 : Nat)
                                                                                                                      {
                                                                                                                        toList :=
                                                                                                                          [Value.pointer p16,
                                                                                                                            Value.slice (subA p34 0 k36 1)
                                                                                                                              (Int.toNat (if (300 : Int) < (k39 : Int) then (300 : Int) else (k39 : Int)) - 0)
                                                                                                                              (k36 - 0)] }
                                                                                                                      w41 fun (e43 : Ending) (w44 : World) =>
                                                                                                                      ∃ (n45 : Int),
                                                                                                                        e43 = Ending.returned (Value.int IntKind.i64 n45) ∧
                                                                                                                          Keep [k1] w41 w44 ∧
                                                                                                                            ∃ (k46 : Nat),
                                                                                                                              k46 < k26 ∧ y24 k46 (IntKind.wrap IntKind.i64 (n27 + (1 : Int))) w44)
                                                                                  (((0 : Int) ≤ (1 : Int) ∧ (1 : Int) < ((4 : Nat) : Int)) ∧
                                                                                    ((0 : Int) ≤ (2 : Int) ∧ (2 : Int) < ((4 : Nat) : Int)) ∧
                                                                                      Calls Proofs.Try.prog (28 : Nat)
                                                                                        {
                                                                                          toList :=
                                                                                            [Value.pointer p9, Value.slice keepA keepL keepC, Value.int IntKind.i64 cuts1,
                                                                                              Value.int IntKind.i64 cuts2] }
                                                                                        w32 fun (e47 : Ending) (w48 : World) =>
                                                                                        ∃ (p49 : Option Addr),
                                                                                          e47 = Ending.returned (Value.pointer p49) ∧
                                                                                            Keep [k1] w32 w48 ∧
                                                                                              bcase (Option.isNone p49) (R (Ending.returned (Value.bool false)) w48)
                                                                                                (Calls Proofs.Try.prog (28 : Nat)
                                                                                                  {
                                                                                                    toList :=
                                                                                                      [Value.pointer p49, Value.slice none 0 0,
                                                                                                        Value.int IntKind.i64 (-1 : Int), Value.int IntKind.i64 (0 : Int)] }
                                                                                                  w48 fun (e50 : Ending) (w51 : World) =>
                                                                                                  ∃ (p52 : Option Addr),
                                                                                                    e50 = Ending.returned (Value.pointer p52) ∧
                                                                                                      Keep [k1] w48 w51 ∧
                                                                                                        Calls Proofs.Try.prog (34 : Nat)
                                                                                                          {
                                                                                                            toList :=
                                                                                                              [Value.pointer p49, Value.int IntKind.i64 (0 : Int),
                                                                                                                Value.int IntKind.i64 (40 : Int)] }
                                                                                                          w51 fun (e53 : Ending) (w54 : World) =>
                                                                                                          ∃ (p55 : Option Addr),
                                                                                                            ∃ (p56 : Option Addr),
                                                                                                              ∃ (k57 : Nat),
                                                                                                                ∃ (k58 : Nat),
                                                                                                                  ∃ (n59 : Int),
                                                                                                                    e53 =
                                                                                                                        Ending.returned
                                                                                                                          (Value.tuple
                                                                                                                            {
                                                                                                                              toList :=
                                                                                                                                [Value.pointer p55, Value.slice p56 k57 k58,
                                                                                                                                  Value.int IntKind.i64 n59] }) ∧
                                                                                                                      Keep [k1] w51 w54 ∧
                                                                                                                        ∀ (y60 : Bool → World → Prop),
                                                                                                                          (∀ (b61 : Bool) (w62 : World),
                                                                                                                              bcase b61 (R (Ending.returned (Value.bool false)) w62)
                                                                                                                                  (∃ (y63 : Nat → Option Addr → Int → World → Prop),
                                                                                                                                    ∃ (k64 : Nat),
                                                                                                                                      y63 k64 p52 (0 : Int) w62 ∧
                                                                                                                                        ∀ (k65 : Nat) (p66 : Option Addr) (n67 : Int) (w68 : World),
                                                                                                                                          y63 k65 p66 n67 w68 →
                                                                                                                                            bcase (decide (n67 < (4 : Int)))
                                                                                                                                              (((0 : Int) ≤ (3 : Int) ∧ (3 : Int) < ((4 : Nat) : Int)) ∧
                                                                                                                                                (6 : Int) ≠ (0 : Int) ∧
                                                                                                                                                  Calls Proofs.Try.prog (29 : Nat)
                                                                                                                                                    {
                                                                                                                                                      toList :=
                                                                                                                                                        [Value.pointer p66,
                                                                                                                                                          Value.int IntKind.i64
                                                                                                                                                            (IntKind.wrap IntKind.i64
                                                                                                                                                              (Int.tmod
                                                                                                                                                                (IntKind.wrap IntKind.u64
                                                                                                                                                                  (IntKind.wrap IntKind.i64
                                                                                                                                                                    (cuts3 + n67)))
                                                                                                                                                                (6 : Int)))] }
                                                                                                                                                    w68 fun (e70 : Ending) (w71 : World) =>
                                                                                                                                                    ∃ (n72 : Int),
                                                                                                                                                      e70 =
                                                                                                                                                          Ending.returned
                                                                                                                                                            (Value.int IntKind.i64 n72) ∧
                                                                                                                                                        Keep [k1] w68 w71 ∧
                                                                                                                                                          Calls Proofs.Try.prog (34 : Nat)
                                                                                                                                                            {
                                                                                                                                                              toList :=
                                                                                                                                                                [Value.pointer p66,
                                                                                                                                                                  Value.int IntKind.i64 (0 : Int),
                                                                                                                                                                  Value.int IntKind.i64
                                                                                                                                                                    (40 : Int)] }
                                                                                                                                                            w71 fun (e73 : Ending) (w74 : World) =>
                                                                                                                                                            ∃ (p75 : Option Addr),
                                                                                                                                                              ∃ (p76 : Option Addr),
                                                                                                                                                                ∃ (k77 : Nat),
                                                                                                                                                                  ∃ (k78 : Nat),
                                                                                                                                                                    ∃ (n79 : Int),
                                                                                                                                                                      e73 =
                                                                                                                                                                          Ending.returned
                                                                                                                                                                            (Value.tuple
                                                                                                                                                                              {
                                                                                                                                                                                toList :=
                                                                                                                                                                                  [Value.pointer p75,
                                                                                                                                                                                    Value.slice p76 k77
                                                                                                                                                                                      k78,
                                                                                                                                                                                    Value.int
                                                                                                                                                                                      IntKind.i64
                                                                                                                                                                                      n79] }) ∧
                                                                                                                                                                        Keep [k1] w71 w74 ∧
                                                                                                                                                                          ((0 : Int) ≤ (1 : Int) ∧
                                                                                                                                                                              (1 : Int) < ((4 : Nat) : Int)) ∧
                                                                                                                                                                            ((0 : Int) ≤ (2 : Int) ∧
                                                                                                                                                                                (2 : Int) <
                                                                                                                                                                                  ((4 : Nat) : Int)) ∧
                                                                                                                                                                              Calls Proofs.Try.prog
                                                                                                                                                                                (28 : Nat)
                                                                                                                                                                                {
                                                                                                                                                                                  toList :=
                                                                                                                                                                                    [Value.pointer p66,
                                                                                                                                                                                      Value.slice keepA
                                                                                                                                                                                        keepL keepC,
                                                                                                                                                                                      Value.int
                                                                                                                                                                                        IntKind.i64
                                                                                                                                                                                        (IntKind.wrap
                                                                                                                                                                                          IntKind.i64
                                                                                                                                                                                          (cuts1 - n67)),
                                                                                                                                                                                      Value.int
                                                                                                                                                                                        IntKind.i64
                                                                                                                                                                                        cuts2] }
                                                                                                                                                                                w74
                                                                                                                                                                                fun (e80 : Ending)
                                                                                                                                                                                  (w81 : World) =>
                                                                                                                                                                                ∃ (p82 : Option Addr),
                                                                                                                                                                                  e80 =
                                                                                                                                                                                      Ending.returned
                                                                                                                                                                                        (Value.pointer
                                                                                                                                                                                          p82) ∧
                                                                                                                                                                                    Keep [k1] w74
                                                                                                                                                                                        w81 ∧
                                                                                                                                                                                      bcase
                                                                                                                                                                                        (Option.isNone
                                                                                                                                                                                          p82)
                                                                                                                                                                                        (R
                                                                                                                                                                                          (Ending.returned
                                                                                                                                                                                            (Value.bool
                                                                                                                                                                                              false))
                                                                                                                                                                                          w81)
                                                                                                                                                                                        (∃ (k83 : Nat),
                                                                                                                                                                                          k83 < k65 ∧
                                                                                                                                                                                            y63 k83 p82
                                                                                                                                                                                              (IntKind.wrap
                                                                                                                                                                                                IntKind.i64
                                                                                                                                                                                                (n67 +
                                                                                                                                                                                                  (1 :
                                                                                                                                                                                                    Int)))
                                                                                                                                                                                              w81))
                                                                                                                                              (Calls Proofs.Try.prog (34 : Nat)
                                                                                                                                                {
                                                                                                                                                  toList :=
                                                                                                                                                    [Value.pointer p66,
                                                                                                                                                      Value.int IntKind.i64 (0 : Int),
                                                                                                                                                      Value.int IntKind.i64 (40 : Int)] }
                                                                                                                                                w68 fun (e84 : Ending) (w85 : World) =>
                                                                                                                                                ∃ (p86 : Option Addr),
                                                                                                                                                  ∃ (p87 : Option Addr),
                                                                                                                                                    ∃ (k88 : Nat),
                                                                                                                                                      ∃ (k89 : Nat),
                                                                                                                                                        ∃ (n90 : Int),
                                                                                                                                                          e84 =
                                                                                                                                                              Ending.returned
                                                                                                                                                                (Value.tuple
                                                                                                                                                                  {
                                                                                                                                                                    toList :=
                                                                                                                                                                      [Value.pointer p86,
                                                                                                                                                                        Value.slice p87 k88 k89,
                                                                                                                                                                        Value.int IntKind.i64
                                                                                                                                                                          n90] }) ∧
                                                                                                                                                            Keep [k1] w68 w85 ∧
                                                                                                                                                              ∀ (y91 : Bool → World → Prop),
                                                                                                                                                                (∀ (b92 : Bool) (w93 : World),
                                                                                                                                                                    bcase b92
                                                                                                                                                                        (R
                                                                                                                                                                          (Ending.returned
                                                                                                                                                                            (Value.bool false))
                                                                                                                                                                          w93)
                                                                                                                                                                        (∃ (y94 :
                                                                                                                                                                          Nat → Int → World → Prop),
                                                                                                                                                                          ∃ (k95 : Nat),
                                                                                                                                                                            y94 k95 (0 : Int) w93 ∧
                                                                                                                                                                              ∀ (k96 : Nat) (n97 : Int)
                                                                                                                                                                                (w98 : World),
                                                                                                                                                                                y94 k96 n97 w98 →
                                                                                                                                                                                  bcase
                                                                                                                                                                                    (decide
                                                                                                                                                                                      (n97 < (k88 : Int)))
                                                                                                                                                                                    (∀
                                                                                                                                                                                      (y100 :
                                                                                                                                                                                        Bool →
                                                                                                                                                                                          World →
                                                                                                                                                                                            Prop),
                                                                                                                                                                                      (∀ (b101 : Bool)
                                                                                                                                                                                          (w102 :
                                                                                                                                                                                            World),
                                                                                                                                                                                          bcase b101
                                                                                                                                                                                              (R
                                                                                                                                                                                                (Ending.returned
                                                                                                                                                                                                  (Value.bool
                                                                                                                                                                                                    false))
                                                                                                                                                                                                w102)
                                                                                                                                                                                              (∃ (k103 :
                                                                                                                                                                                                Nat),
                                                                                                                                                                                                k103 <
                                                                                                                                                                                                    k96 ∧
                                                                                                                                                                                                  y94 k103
                                                                                                                                                                                                    (IntKind.wrap
                                                                                                                                                                                                      IntKind.i64
                                                                                                                                                                                                      (n97 +
                                                                                                                                                                                                        (1 :
                                                                                                                                                                                                          Int)))
                                                                                                                                                                                                    w102) →
                                                                                                                                                                                            y100 b101
                                                                                                                                                                                              w102) →
                                                                                                                                                                                        ∃ (ad106 :
                                                                                                                                                                                          Addr),
                                                                                                                                                                                          p87 =
                                                                                                                                                                                              some
                                                                                                                                                                                                ad106 ∧
                                                                                                                                                                                            ((0 : Int) ≤
                                                                                                                                                                                                  n97 ∧
                                                                                                                                                                                                n97 <
                                                                                                                                                                                                  (k88 : Int)) ∧
                                                                                                                                                                                              ∃ (n107 :
                                                                                                                                                                                                Int),
                                                                                                                                                                                                World.cell?
                                                                                                                                                                                                      w98
                                                                                                                                                                                                      (Addr.add
                                                                                                                                                                                                        (Addr.add
                                                                                                                                                                                                          ad106
                                                                                                                                                                                                          (Int.toNat
                                                                                                                                                                                                              n97 *
                                                                                                                                                                                                            nat_lit
                                                                                                                                                                                                              2))
                                                                                                                                                                                                        (nat_lit
                                                                                                                                                                                                          0)) =
                                                                                                                                                                                                    some
                                                                                                                                                                                                      (Value.int
                                                                                                                                                                                                        IntKind.i64
                                                                                                                                                                                                        n107) ∧
                                                                                                                                                                                                  ∃ (ad108
                                                                                                                                                                                                    :
                                                                                                                                                                                                    Addr),
                                                                                                                                                                                                    p56 =
                                                                                                                                                                                                        some
                                                                                                                                                                                                          ad108 ∧
                                                                                                                                                                                                      ((0 :
                                                                                                                                                                                                              Int) ≤
                                                                                                                                                                                                            n97 ∧
                                                                                                                                                                                                          n97 <
                                                                                                                                                                                                            (k57 : Int)) ∧
                                                                                                                                                                                                        ∃
                                                                                                                                                                                                          (n109
                                                                                                                                                                                                          :
                                                                                                                                                                                                          Int),
                                                                                                                                                                                                          World.cell?
                                                                                                                                                                                                                w98
                                                                                                                                                                                                                (Addr.add
                                                                                                                                                                                                                  (Addr.add
                                                                                                                                                                                                                    ad108
                                                                                                                                                                                                                    (Int.toNat
                                                                                                                                                                                                                        n97 *
                                                                                                                                                                                                                      nat_lit
                                                                                                                                                                                                                        2))
                                                                                                                                                                                                                  (nat_lit
                                                                                                                                                                                                                    0)) =
                                                                                                                                                                                                              some
                                                                                                                                                                                                                (Value.int
                                                                                                                                                                                                                  IntKind.i64
                                                                                                                                                                                                                  n109) ∧
                                                                                                                                                                                                            bcase
                                                                                                                                                                                                              (!decide
                                                                                                                                                                                                                  (n107 =
                                                                                                                                                                                                                    n109))
                                                                                                                                                                                                              (∀
                                                                                                                                                                                                                (w110 :
                                                                                                                                                                                                                  World),
                                                                                                                                                                                                                Step
                                                                                                                                                                                                                    w98
                                                                                                                                                                                                                    w110
                                                                                                                                                                                                                    []
                                                                                                                                                                                                                    [] →
                                                                                                                                                                                                                  y100
                                                                                                                                                                                                                    true
                                                                                                                                                                                                                    w110)
                                                                                                                                                                                                              (∃
                                                                                                                                                                                                                (ad112
                                                                                                                                                                                                                :
                                                                                                                                                                                                                Addr),
                                                                                                                                                                                                                p87 =
                                                                                                                                                                                                                    some
                                                                                                                                                                                                                      ad112 ∧
                                                                                                                                                                                                                  ((0 :
                                                                                                                                                                                                                          Int) ≤
                                                                                                                                                                                                                        n97 ∧
                                                                                                                                                                                                                      n97 <
                                                                                                                                                                                                                        (k88 : Int)) ∧
                                                                                                                                                                                                                    ∃
                                                                                                                                                                                                                      (p113
                                                                                                                                                                                                                      :
                                                                                                                                                                                                                      Option
                                                                                                                                                                                                                        Addr),
                                                                                                                                                                                                                      ∃
                                                                                                                                                                                                                        (k114
                                                                                                                                                                                                                        :
                                                                                                                                                                                                                        Nat),
                                                                                                                                                                                                                        ∃
                                                                                                                                                                                                                          (k115
                                                                                                                                                                                                                          :
                                                                                                                                                                                                                          Nat),
                                                                                                                                                                                                                          World.cell?
                                                                                                                                                                                                                                w98
                                                                                                                                                                                                                                (Addr.add
                                                                                                                                                                                                                                  (Addr.add
                                                                                                                                                                                                                                    ad112
                                                                                                                                                                                                                                    (Int.toNat
                                                                                                                                                                                                                                        n97 *
                                                                                                                                                                                                                                      nat_lit
                                                                                                                                                                                                                                        2))
                                                                                                                                                                                                                                  (nat_lit
                                                                                                                                                                                                                                    1)) =
                                                                                                                                                                                                                              some
                                                                                                                                                                                                                                (Value.slice
                                                                                                                                                                                                                                  p113
                                                                                                                                                                                                                                  k114
                                                                                                                                                                                                                                  k115) ∧
                                                                                                                                                                                                                            ∃
                                                                                                                                                                                                                              (l116
                                                                                                                                                                                                                              :
                                                                                                                                                                                                                              List
                                                                                                                                                                                                                                UInt8),
                                                                                                                                                                                                                              List.length
                                                                                                                                                                                                                                    l116 =
                                                                                                                                                                                                                                  k114 ∧
                                                                                                                                                                                                                                (∀
                                                                                                                                                                                                                                    (k117 :
                                                                                                                                                                                                                                      Nat),
                                                                                                                                                                                                                                    k117 <
                                                                                                                                                                                                                                        k114 →
                                                                                                                                                                                                                                      ∃
                                                                                                                                                                                                                                        (ad119
                                                                                                                                                                                                                                        :
                                                                                                                                                                                                                                        Addr),
                                                                                                                                                                                                                                        p113 =
                                                                                                                                                                                                                                            some
                                                                                                                                                                                                                                              ad119 ∧
                                                                                                                                                                                                                                          World.cell?
                                                                                                                                                                                                                                              w98
                                                                                                                                                                                                                                              (Addr.add
                                                                                                                                                                                                                                                ad119
                                                                                                                                                                                                                                                k117) =
                                                                                                                                                                                                                                            some
                                                                                                                                                                                                                                              (Value.int
                                                                                                                                                                                                                                                IntKind.u8
                                                                                                                                                                                                                                                ((UInt8.toNat
                                                                                                                                                                                                                                                    (List.getD
                                                                                                                                                                                                                                                      l116
                                                                                                                                                                                                                                                      k117
                                                                                                                                                                                                                                                      (0 :
                                                                                                                                                                                                                                                        UInt8))) : Int))) ∧
                                                                                                                                                                                                                                  ∃
                                                                                                                                                                                                                                    (ad120
                                                                                                                                                                                                                                    :
                                                                                                                                                                                                                                    Addr),
                                                                                                                                                                                                                                    p56 =
                                                                                                                                                                                                                                        some
                                                                                                                                                                                                                                          ad120 ∧
                                                                                                                                                                                                                                      ((0 :
                                                                                                                                                                                                                                              Int) ≤
                                                                                                                                                                                                                                            n97 ∧
                                                                                                                                                                                                                                          n97 <
                                                                                                                                                                                                                                            (k57 : Int)) ∧
                                                                                                                                                                                                                                        ∃
                                                                                                                                                                                                                                          (p121
                                                                                                                                                                                                                                          :
                                                                                                                                                                                                                                          Option
                                                                                                                                                                                                                                            Addr),
                                                                                                                                                                                                                                          ∃
                                                                                                                                                                                                                                            (k122
                                                                                                                                                                                                                                            :
                                                                                                                                                                                                                                            Nat),
                                                                                                                                                                                                                                            ∃
                                                                                                                                                                                                                                              (k123
                                                                                                                                                                                                                                              :
                                                                                                                                                                                                                                              Nat),
                                                                                                                                                                                                                                              World.cell?
                                                                                                                                                                                                                                                    w98
                                                                                                                                                                                                                                                    (Addr.add
                                                                                                                                                                                                                                                      (Addr.add
                                                                                                                                                                                                                                                        ad120
                                                                                                                                                                                                                                                        (Int.toNat
                                                                                                                                                                                                                                                            n97 *
                                                                                                                                                                                                                                                          nat_lit
                                                                                                                                                                                                                                                            2))
                                                                                                                                                                                                                                                      (nat_lit
                                                                                                                                                                                                                                                        1)) =
                                                                                                                                                                                                                                                  some
                                                                                                                                                                                                                                                    (Value.slice
                                                                                                                                                                                                                                                      p121
                                                                                                                                                                                                                                                      k122
                                                                                                                                                                                                                                                      k123) ∧
                                                                                                                                                                                                                                                ∃
                                                                                                                                                                                                                                                  (l124
                                                                                                                                                                                                                                                  :
                                                                                                                                                                                                                                                  List
                                                                                                                                                                                                                                                    UInt8),
                                                                                                                                                                                                                                                  List.length
                                                                                                                                                                                                                                                        l124 =
                                                                                                                                                                                                                                                      k122 ∧
                                                                                                                                                                                                                                                    (∀
                                                                                                                                                                                                                                                        (k125 :
                                                                                                                                                                                                                                                          Nat),
                                                                                                                                                                                                                                                        k125 <
                                                                                                                                                                                                                                                            k122 →
                                                                                                                                                                                                                                                          ∃
                                                                                                                                                                                                                                                            (ad127
                                                                                                                                                                                                                                                            :
                                                                                                                                                                                                                                                            Addr),
                                                                                                                                                                                                                                                            p121 =
                                                                                                                                                                                                                                                                some
                                                                                                                                                                                                                                                                  ad127 ∧
                                                                                                                                                                                                                                                              World.cell?
                                                                                                                                                                                                                                                                  w98
                                                                                                                                                                                                                                                                  (Addr.add
                                                                                                                                                                                                                                                                    ad127
                                                                                                                                                                                                                                                                    k125) =
                                                                                                                                                                                                                                                                some
                                                                                                                                                                                                                                                                  (Value.int
                                                                                                                                                                                                                                                                    IntKind.u8
                                                                                                                                                                                                                                                                    ((UInt8.toNat
                                                                                                                                                                                                                                                                        (List.getD
                                                                                                                                                                                                                                                                          l124
                                                                                                                                                                                                                                                                          k125
                                                                                                                                                                                                                                                                          (0 :
                                                                                                                                                                                                                                                                            UInt8))) : Int))) ∧
                                                                                                                                                                                                                                                      ∀
                                                                                                                                                                                                                                                        (w128 :
                                                                                                                                                                                                                                                          World),
                                                                                                                                                                                                                                                        Step
                                                                                                                                                                                                                                                            w98
                                                                                                                                                                                                                                                            w128
                                                                                                                                                                                                                                                            []
                                                                                                                                                                                                                                                            [] →
                                                                                                                                                                                                                                                          y100
                                                                                                                                                                                                                                                            (!decide
                                                                                                                                                                                                                                                                ((ByteArray.mk (Array.mk l116)) =
                                                                                                                                                                                                                                                                  (ByteArray.mk (Array.mk l124))))
                                                                                                                                                                                                                                                            w128))
                                                                                                                                                                                    (R
                                                                                                                                                                                      (Ending.returned
                                                                                                                                                                                        (Value.bool
                                                                                                                                                                                          true))
                                                                                                                                                                                      w98)) →
                                                                                                                                                                      y91 b92 w93) →
                                                                                                                                                                  bcase
                                                                                                                                                                    (!decide (n90 = (0 : Int)))
                                                                                                                                                                    (y91 true w85)
                                                                                                                                                                    (bcase (Option.isNone p86)
                                                                                                                                                                      (y91 true w85)
                                                                                                                                                                      (bcase
                                                                                                                                                                        (!decide ((k88 : Int) = (k57 : Int)))
                                                                                                                                                                        (y91 true w85)
                                                                                                                                                                        (Calls Proofs.Try.prog
                                                                                                                                                                          (37 : Nat)
                                                                                                                                                                          {
                                                                                                                                                                            toList :=
                                                                                                                                                                              [Value.pointer p86] }
                                                                                                                                                                          w85
                                                                                                                                                                          fun (e132 : Ending)
                                                                                                                                                                            (w133 : World) =>
                                                                                                                                                                          ∃ (n134 : Int),
                                                                                                                                                                            e132 =
                                                                                                                                                                                Ending.returned
                                                                                                                                                                                  (Value.int
                                                                                                                                                                                    IntKind.i64 n134) ∧
                                                                                                                                                                              Keep [k1] w85 w133 ∧
                                                                                                                                                                                y91
                                                                                                                                                                                  (!decide
                                                                                                                                                                                      (n134 =
                                                                                                                                                                                        IntKind.wrap
                                                                                                                                                                                          IntKind.i64
                                                                                                                                                                                          ((k88 : Int) +
                                                                                                                                                                                            (1 : Int))))
                                                                                                                                                                                  w133))))) →
                                                                                                                                y60 b61 w62) →
                                                                                                                            bcase (!decide (n59 = (0 : Int))) (y60 true w54)
                                                                                                                              (y60 (Option.isNone p52) w54))) →
                                                                                y30 b31 w32) →
                                                                            bcase (decide (n27 < (listsL : Int))) (y30 (decide (n27 < (12 : Int))) w28) (y30 false w28)) →
                                                            y21 b22 w23) →
                                                        bcase (!decide (n20 = (0 : Int))) (y21 true w15)
                                                          (bcase (Option.isNone p16) (y21 true w15)
                                                            (((0 : Int) ≤ (0 : Int) ∧ (0 : Int) < ((4 : Nat) : Int)) ∧
                                                              (60 : Int) ≠ (0 : Int) ∧
                                                                Calls Proofs.Try.prog (29 : Nat)
                                                                  {
                                                                    toList :=
                                                                      [Value.pointer p9,
                                                                        Value.int IntKind.i64 (IntKind.wrap IntKind.i64 (Int.tmod (IntKind.wrap IntKind.u64 cuts0) (60 : Int)))] }
                                                                  w15 fun (e141 : Ending) (w142 : World) =>
                                                                  ∃ (n143 : Int),
                                                                    e141 = Ending.returned (Value.int IntKind.i64 n143) ∧
                                                                      Keep [k1] w15 w142 ∧ y21 (!decide (n143 = (0 : Int))) w142))) →
                                  y11 b12 w13) →
                              bcase (!decide (n10 = (0 : Int))) (y11 true w8) (y11 (Option.isNone p9) w8))
theorem rhizomelaw04_LogAgain.link {listsA : Option Addr} {listsL listsC : Nat} {keepA : Option Addr} {keepL keepC : Nat} {cuts0 : Int} {cuts1 : Int} {cuts2 : Int} {cuts3 : Int} {R : Ending → World → Prop} {w : World} (h : rhizomelaw04_LogAgain.vc listsA listsL listsC keepA keepL keepC cuts0 cuts1 cuts2 cuts3 R w) : Calls Go.Proofs.Try.prog 12 #[.slice listsA listsL listsC, .slice keepA keepL keepC, (.agg #[.int .i64 cuts0, .int .i64 cuts1, .int .i64 cuts2, .int .i64 cuts3] : Value)] w R :=
  calls_of pf (fn := Go.Proofs.Try.f12) (ann := .s (.n) (.s (.s (.n) (.c (.s (.n) (.n)) (.n))) (.s (.n) (.s (.j ⟨[], [], [0], [(31, .l (.b))], []⟩ (.n) (.c (.s (.n) (.n)) (.n))) (.s (.n) (.s (.j ⟨[], [], [0], [(53, .l (.b))], []⟩ (.n) (.c (.s (.n) (.n)) (.n))) (.s (.s (.n) (.b (.l ⟨[], [], [0], [(11, .l (.i .i64))], []⟩ (.s (.j ⟨[], [], [0], [(61, .l (.b))], []⟩ (.n) (.c (.n) (.n))) (.s (.b (.d [0])) (.n)))))) (.s (.n) (.s (.s (.n) (.c (.s (.n) (.n)) (.n))) (.s (.n) (.s (.n) (.s (.j ⟨[], [], [0], [(99, .l (.b))], []⟩ (.n) (.c (.s (.n) (.n)) (.n))) (.s (.s (.n) (.b (.l ⟨[], [], [0], [(13, .l (.p)), (16, .l (.i .i64))], []⟩ (.s (.s (.n) (.c (.n) (.n))) (.s (.b (.s (.n) (.s (.n) (.s (.n) (.s (.n) (.c (.s (.n) (.n)) (.n))))))) (.n)))))) (.s (.n) (.s (.j ⟨[], [], [], [(152, .l (.b))], []⟩ (.n) (.c (.s (.n) (.n)) (.n))) (.s (.s (.n) (.b (.l ⟨[], [], [], [(155, .l (.i .i64))], []⟩ (.s (.n) (.s (.c (.n) (.n)) (.s (.b (.s (.n) (.j ⟨[], [], [], [(183, .l (.b))], []⟩ (.n) (.c (.s (.n) (.n)) (.n))))) (.n))))))) (.s (.n) (.n)))))))))))))))))) (mp := false) (args := [.v (.slice listsA listsL listsC), .v (.slice keepA keepL keepC), .v (.agg #[.int .i64 cuts0, .int .i64 cuts1, .int .i64 cuts2, .int .i64 cuts3])]) Go.Proofs.Try.func12 (c := Go.Proofs.Try.f12.body.getD .skip) (by kernel_rfl) (by kernel_rfl) (Eq.mp (by kernel_rfl) h)
theorem rhizomelaw04_LogAgain.body : BodyOk Go.Proofs.Try.prog 12 := ⟨Go.Proofs.Try.f12, Go.Proofs.Try.func12, by kernel_rfl, pf.ng _ _ Go.Proofs.Try.func12⟩

end Go.Proofs.Ytcaamecdhbgknaa.VC
