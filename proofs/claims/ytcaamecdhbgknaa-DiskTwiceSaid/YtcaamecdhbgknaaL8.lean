/- What is to be shown of functions' texts, printed by a program of this session's repo; that it gives the functions' contracts is checked by the kernel. -/
import Derived.Test.YtcaamecdhbgknaaProg
import Derived.Test.YtcaamecdhbgknaaPf
namespace Go.Proofs.Ytcaamecdhbgknaa.VC
open Go Go.V
set_option maxRecDepth 1000000
set_option linter.unusedVariables false

/-! ### rhizome/rhizomelaw03.DiskTwice: function 8 -/
def rhizomelaw03_DiskTwice.vc (scriptA : Option Addr) (scriptL scriptC : Nat) (keepA : Option Addr) (keepL keepC : Nat) (at0 : Int) (at1 : Int) (R : Ending → World → Prop) (w : World) : Prop :=
  ∀ (k1 : Nat) (w2 : World),
    Step w w2 [] [k1] →
      Calls Proofs.Try.prog (19 : Nat) { toList := [] } w2 fun (e4 : Ending) (w5 : World) =>
        ∃ (b6 : Bool),
          e4 = Ending.returned (Value.bool b6) ∧
            Keep [k1] w2 w5 ∧
              bcase (!b6) (R (Ending.returned (Value.bool false)) w5)
                (Calls Proofs.Try.prog (20 : Nat) { toList := [Value.int IntKind.i64 (9 : Int)] } w5 fun (e7 : Ending) (w8 : World) =>
                  ∃ (p9 : Option Addr),
                    ∃ (n10 : Int),
                      e7 = Ending.returned (Value.tuple { toList := [Value.pointer p9, Value.int IntKind.i64 n10] }) ∧
                        Keep [k1] w5 w8 ∧
                          Calls Proofs.Try.prog (30 : Nat) { toList := [Value.int IntKind.i64 (9 : Int)] } w8 fun (e11 : Ending) (w12 : World) =>
                            ∃ (p13 : Option Addr),
                              ∃ (k14 : Nat),
                                ∃ (k15 : Nat),
                                  ∃ (p16 : Option Addr),
                                    ∃ (k17 : Nat),
                                      ∃ (k18 : Nat),
                                        ∃ (p19 : Option Addr),
                                          ∃ (k20 : Nat),
                                            ∃ (k21 : Nat),
                                              ∃ (n22 : Int),
                                                ∃ (n23 : Int),
                                                  ∃ (n24 : Int),
                                                    e11 =
                                                        Ending.returned
                                                          (Value.tuple
                                                            {
                                                              toList :=
                                                                [Value.agg
                                                                    {
                                                                      toList :=
                                                                        [Value.slice p13 k14 k15, Value.slice p16 k17 k18, Value.slice p19 k20 k21, Value.int IntKind.i64 n22,
                                                                          Value.int IntKind.i64 n23] },
                                                                  Value.int IntKind.i64 n24] }) ∧
                                                      Keep [k1] w8 w12 ∧
                                                        ∀ (k25 : Nat) (y26 : Bool → World → Prop),
                                                          (∀ (b27 : Bool) (w28 : World),
                                                              bcase b27 (R (Ending.returned (Value.bool false)) w28)
                                                                  (∃ (y29 :
                                                                    Nat →
                                                                      Option Addr →
                                                                        Bool → Int → Option Addr → Nat → Nat → Option Addr → Nat → Nat → Option Addr → Nat → Nat → Int → Int → World → Prop),
                                                                    ∃ (k30 : Nat),
                                                                      y29 k30 p9 true (0 : Int) p13 k14 k15 p16 k17 k18 p19 k20 k21 n22 n23 w28 ∧
                                                                        ∀ (k31 : Nat) (p32 : Option Addr) (b33 : Bool) (n34 : Int) (p35 : Option Addr) (k36 k37 : Nat) (p38 : Option Addr)
                                                                          (k39 k40 : Nat) (p41 : Option Addr) (k42 k43 : Nat) (n44 n45 : Int) (w46 : World),
                                                                          y29 k31 p32 b33 n34 p35 k36 k37 p38 k39 k40 p41 k42 k43 n44 n45 w46 →
                                                                            ∀ (y48 : Bool → World → Prop),
                                                                              (∀ (b49 : Bool) (w50 : World),
                                                                                  bcase b49
                                                                                      (∃ (ad51 : Addr),
                                                                                        scriptA = some ad51 ∧
                                                                                          ((0 : Int) ≤ n34 ∧ n34 < (scriptL : Int)) ∧
                                                                                            ∃ (n52 : Int),
                                                                                              ∃ (n53 : Int),
                                                                                                ∃ (n54 : Int),
                                                                                                  ∃ (p55 : Option Addr),
                                                                                                    ∃ (k56 : Nat),
                                                                                                      ∃ (k57 : Nat),
                                                                                                        ∃ (b58 : Bool),
                                                                                                          ∃ (p59 : Option Addr),
                                                                                                            ∃ (k60 : Nat),
                                                                                                              ∃ (k61 : Nat),
                                                                                                                (World.cell? w50
                                                                                                                        (Addr.add (Addr.add ad51 (Int.toNat n34 * 6)) 0) =
                                                                                                                      some (Value.int IntKind.i64 n52) ∧
                                                                                                                    World.cell? w50
                                                                                                                          (Addr.add (Addr.add ad51 (Int.toNat n34 * 6)) 1) =
                                                                                                                        some (Value.int IntKind.i64 n53) ∧
                                                                                                                      World.cell? w50
                                                                                                                            (Addr.add (Addr.add ad51 (Int.toNat n34 * 6)) 2) =
                                                                                                                          some (Value.int IntKind.i64 n54) ∧
                                                                                                                        World.cell? w50
                                                                                                                              (Addr.add (Addr.add ad51 (Int.toNat n34 * 6)) 3) =
                                                                                                                            some (Value.slice p55 k56 k57) ∧
                                                                                                                          World.cell? w50
                                                                                                                                (Addr.add (Addr.add ad51 (Int.toNat n34 * 6)) 4) =
                                                                                                                              some (Value.bool b58) ∧
                                                                                                                            World.cell? w50
                                                                                                                                  (Addr.add (Addr.add ad51 (Int.toNat n34 * 6))
                                                                                                                                    5) =
                                                                                                                                some (Value.slice p59 k60 k61) ∧
                                                                                                                              True) ∧
                                                                                                                  ∀ (w62 : World),
                                                                                                                    Step w50 w62 [] [] →
                                                                                                                      Calls Proofs.Try.prog (31 : Nat)
                                                                                                                        {
                                                                                                                          toList :=
                                                                                                                            [Value.pointer p32,
                                                                                                                              Value.agg
                                                                                                                                {
                                                                                                                                  toList :=
                                                                                                                                    [Value.slice p35 k36 k37, Value.slice p38 k39 k40,
                                                                                                                                      Value.slice p41 k42 k43, Value.int IntKind.i64 n44,
                                                                                                                                      Value.int IntKind.i64 n45] },
                                                                                                                              Value.agg
                                                                                                                                {
                                                                                                                                  toList :=
                                                                                                                                    [Value.int IntKind.i64 n52, Value.int IntKind.i64 n53,
                                                                                                                                      Value.int IntKind.i64 n54, Value.slice p55 k56 k57,
                                                                                                                                      Value.bool b58, Value.slice p59 k60 k61] }] }
                                                                                                                        w62 fun (e64 : Ending) (w65 : World) =>
                                                                                                                        ∃ (p66 : Option Addr),
                                                                                                                          ∃ (p67 : Option Addr),
                                                                                                                            ∃ (k68 : Nat),
                                                                                                                              ∃ (k69 : Nat),
                                                                                                                                ∃ (p70 : Option Addr),
                                                                                                                                  ∃ (k71 : Nat),
                                                                                                                                    ∃ (k72 : Nat),
                                                                                                                                      ∃ (p73 : Option Addr),
                                                                                                                                        ∃ (k74 : Nat),
                                                                                                                                          ∃ (k75 : Nat),
                                                                                                                                            ∃ (n76 : Int),
                                                                                                                                              ∃ (n77 : Int),
                                                                                                                                                ∃ (b78 : Bool),
                                                                                                                                                  e64 =
                                                                                                                                                      Ending.returned
                                                                                                                                                        (Value.tuple
                                                                                                                                                          {
                                                                                                                                                            toList :=
                                                                                                                                                              [Value.pointer p66,
                                                                                                                                                                Value.agg
                                                                                                                                                                  {
                                                                                                                                                                    toList :=
                                                                                                                                                                      [Value.slice p67 k68 k69,
                                                                                                                                                                        Value.slice p70 k71 k72,
                                                                                                                                                                        Value.slice p73 k74 k75,
                                                                                                                                                                        Value.int IntKind.i64 n76,
                                                                                                                                                                        Value.int IntKind.i64
                                                                                                                                                                          n77] },
                                                                                                                                                                Value.bool b78] }) ∧
                                                                                                                                                    Keep [k1, k25] w62 w65 ∧
                                                                                                                                                      ∃ (k79 : Nat),
                                                                                                                                                        k79 < k31 ∧
                                                                                                                                                          ∀ (w80 : World),
                                                                                                                                                            Step w65 w80 [k25] [] →
                                                                                                                                                              y29 k79 p66 b78
                                                                                                                                                                (IntKind.wrap IntKind.i64
                                                                                                                                                                  (n34 + (1 : Int)))
                                                                                                                                                                p67 k68 k69 p70 k71 k72 p73 k74 k75 n76
                                                                                                                                                                n77 w80)
                                                                                      (bcase (!b33) (R (Ending.returned (Value.bool false)) w50)
                                                                                        (((0 : Int) ≤ (0 : Int) ∧ (0 : Int) < ((2 : Nat) : Int)) ∧
                                                                                          ((0 : Int) ≤ (1 : Int) ∧ (1 : Int) < ((2 : Nat) : Int)) ∧
                                                                                            Calls Proofs.Try.prog (28 : Nat)
                                                                                              {
                                                                                                toList :=
                                                                                                  [Value.pointer p32, Value.slice keepA keepL keepC, Value.int IntKind.i64 at0,
                                                                                                    Value.int IntKind.i64 at1] }
                                                                                              w50 fun (e82 : Ending) (w83 : World) =>
                                                                                              ∃ (p84 : Option Addr),
                                                                                                e82 = Ending.returned (Value.pointer p84) ∧
                                                                                                  Keep [k1, k25] w50 w83 ∧
                                                                                                    bcase (Option.isNone p84) (R (Ending.returned (Value.bool false)) w83)
                                                                                                      (((0 : Int) ≤ (1 : Int) ∧ (1 : Int) < ((2 : Nat) : Int)) ∧
                                                                                                        ((0 : Int) ≤ (0 : Int) ∧ (0 : Int) < ((2 : Nat) : Int)) ∧
                                                                                                          Calls Proofs.Try.prog (28 : Nat)
                                                                                                            {
                                                                                                              toList :=
                                                                                                                [Value.pointer p84, Value.slice keepA keepL keepC, Value.int IntKind.i64 at1,
                                                                                                                  Value.int IntKind.i64 at0] }
                                                                                                            w83 fun (e85 : Ending) (w86 : World) =>
                                                                                                            ∃ (p87 : Option Addr),
                                                                                                              e85 = Ending.returned (Value.pointer p87) ∧
                                                                                                                Keep [k1, k25] w83 w86 ∧
                                                                                                                  ∀ (y88 : Bool → World → Prop),
                                                                                                                    (∀ (b89 : Bool) (w90 : World),
                                                                                                                        bcase b89 (R (Ending.returned (Value.bool false)) w90)
                                                                                                                            (Calls Proofs.Try.prog (28 : Nat)
                                                                                                                              {
                                                                                                                                toList :=
                                                                                                                                  [Value.pointer p84,
                                                                                                                                    Value.slice none 0 0,
                                                                                                                                    Value.int IntKind.i64 (0 : Int),
                                                                                                                                    Value.int IntKind.i64 (64 : Int)] }
                                                                                                                              w90 fun (e91 : Ending) (w92 : World) =>
                                                                                                                              ∃ (p93 : Option Addr),
                                                                                                                                e91 = Ending.returned (Value.pointer p93) ∧
                                                                                                                                  ∃ (y94 : Nat → Int → World → Prop),
                                                                                                                                    ∃ (k95 : Nat),
                                                                                                                                      y94 k95 (1 : Int) w92 ∧
                                                                                                                                        ∀ (k96 : Nat) (n97 : Int) (w98 : World),
                                                                                                                                          y94 k96 n97 w98 →
                                                                                                                                            bcase (decide (n97 < (9 : Int)))
                                                                                                                                              (Calls Proofs.Try.prog (22 : Nat)
                                                                                                                                                {
                                                                                                                                                  toList :=
                                                                                                                                                    [Value.pointer p84,
                                                                                                                                                      Value.int IntKind.i64 n97] }
                                                                                                                                                w98 fun (e100 : Ending) (w101 : World) =>
                                                                                                                                                ∃ (p102 : Option Addr),
                                                                                                                                                  ∃ (k103 : Nat),
                                                                                                                                                    ∃ (k104 : Nat),
                                                                                                                                                      ∃ (n105 : Int),
                                                                                                                                                        e100 =
                                                                                                                                                            Ending.returned
                                                                                                                                                              (Value.tuple
                                                                                                                                                                {
                                                                                                                                                                  toList :=
                                                                                                                                                                    [Value.slice p102 k103 k104,
                                                                                                                                                                      Value.int IntKind.i64
                                                                                                                                                                        n105] }) ∧
                                                                                                                                                          Calls Proofs.Try.prog (22 : Nat)
                                                                                                                                                            {
                                                                                                                                                              toList :=
                                                                                                                                                                [Value.pointer p87,
                                                                                                                                                                  Value.int IntKind.i64 n97] }
                                                                                                                                                            w101
                                                                                                                                                            fun (e106 : Ending) (w107 : World) =>
                                                                                                                                                            ∃ (p108 : Option Addr),
                                                                                                                                                              ∃ (k109 : Nat),
                                                                                                                                                                ∃ (k110 : Nat),
                                                                                                                                                                  ∃ (n111 : Int),
                                                                                                                                                                    e106 =
                                                                                                                                                                        Ending.returned
                                                                                                                                                                          (Value.tuple
                                                                                                                                                                            {
                                                                                                                                                                              toList :=
                                                                                                                                                                                [Value.slice p108 k109
                                                                                                                                                                                    k110,
                                                                                                                                                                                  Value.int
                                                                                                                                                                                    IntKind.i64
                                                                                                                                                                                    n111] }) ∧
                                                                                                                                                                      ∀ (y112 : Bool → World → Prop),
                                                                                                                                                                        (∀ (b113 : Bool)
                                                                                                                                                                            (w114 : World),
                                                                                                                                                                            bcase b113
                                                                                                                                                                                (R
                                                                                                                                                                                  (Ending.returned
                                                                                                                                                                                    (Value.bool
                                                                                                                                                                                      false))
                                                                                                                                                                                  w114)
                                                                                                                                                                                (∃ (k115 : Nat),
                                                                                                                                                                                  k115 < k96 ∧
                                                                                                                                                                                    y94 k115
                                                                                                                                                                                      (IntKind.wrap
                                                                                                                                                                                        IntKind.i64
                                                                                                                                                                                        (n97 + (1 : Int)))
                                                                                                                                                                                      w114) →
                                                                                                                                                                              y112 b113 w114) →
                                                                                                                                                                          ∃ (l118 : List UInt8),
                                                                                                                                                                            List.length l118 = k103 ∧
                                                                                                                                                                              (∀ (k119 : Nat),
                                                                                                                                                                                  k119 < k103 →
                                                                                                                                                                                    ∃ (ad121 : Addr),
                                                                                                                                                                                      p102 =
                                                                                                                                                                                          some
                                                                                                                                                                                            ad121 ∧
                                                                                                                                                                                        World.cell?
                                                                                                                                                                                            w107
                                                                                                                                                                                            (Addr.add
                                                                                                                                                                                              ad121
                                                                                                                                                                                              k119) =
                                                                                                                                                                                          some
                                                                                                                                                                                            (Value.int
                                                                                                                                                                                              IntKind.u8
                                                                                                                                                                                              ((UInt8.toNat
                                                                                                                                                                                                  (List.getD
                                                                                                                                                                                                    l118
                                                                                                                                                                                                    k119
                                                                                                                                                                                                    (0 :
                                                                                                                                                                                                      UInt8))) : Int))) ∧
                                                                                                                                                                                ∃ (l122 : List UInt8),
                                                                                                                                                                                  List.length l122 =
                                                                                                                                                                                      k109 ∧
                                                                                                                                                                                    (∀ (k123 : Nat),
                                                                                                                                                                                        k123 < k109 →
                                                                                                                                                                                          ∃ (ad125 :
                                                                                                                                                                                            Addr),
                                                                                                                                                                                            p108 =
                                                                                                                                                                                                some
                                                                                                                                                                                                  ad125 ∧
                                                                                                                                                                                              World.cell?
                                                                                                                                                                                                  w107
                                                                                                                                                                                                  (Addr.add
                                                                                                                                                                                                    ad125
                                                                                                                                                                                                    k123) =
                                                                                                                                                                                                some
                                                                                                                                                                                                  (Value.int
                                                                                                                                                                                                    IntKind.u8
                                                                                                                                                                                                    ((UInt8.toNat
                                                                                                                                                                                                        (List.getD
                                                                                                                                                                                                          l122
                                                                                                                                                                                                          k123
                                                                                                                                                                                                          (0 :
                                                                                                                                                                                                            UInt8))) : Int))) ∧
                                                                                                                                                                                      bcase
                                                                                                                                                                                        (!decide
                                                                                                                                                                                            ((ByteArray.mk (Array.mk l118)) =
                                                                                                                                                                                              (ByteArray.mk (Array.mk l122))))
                                                                                                                                                                                        (y112 true
                                                                                                                                                                                          w107)
                                                                                                                                                                                        (y112
                                                                                                                                                                                          (Option.isNone
                                                                                                                                                                                            p93)
                                                                                                                                                                                          w107))
                                                                                                                                              (Calls Proofs.Try.prog (22 : Nat)
                                                                                                                                                {
                                                                                                                                                  toList :=
                                                                                                                                                    [Value.pointer p84,
                                                                                                                                                      Value.int IntKind.i64 (0 : Int)] }
                                                                                                                                                w98 fun (e126 : Ending) (w127 : World) =>
                                                                                                                                                ∃ (p128 : Option Addr),
                                                                                                                                                  ∃ (k129 : Nat),
                                                                                                                                                    ∃ (k130 : Nat),
                                                                                                                                                      ∃ (n131 : Int),
                                                                                                                                                        e126 =
                                                                                                                                                            Ending.returned
                                                                                                                                                              (Value.tuple
                                                                                                                                                                {
                                                                                                                                                                  toList :=
                                                                                                                                                                    [Value.slice p128 k129 k130,
                                                                                                                                                                      Value.int IntKind.i64
                                                                                                                                                                        n131] }) ∧
                                                                                                                                                          Calls Proofs.Try.prog (22 : Nat)
                                                                                                                                                            {
                                                                                                                                                              toList :=
                                                                                                                                                                [Value.pointer p93,
                                                                                                                                                                  Value.int IntKind.i64 (0 : Int)] }
                                                                                                                                                            w127
                                                                                                                                                            fun (e132 : Ending) (w133 : World) =>
                                                                                                                                                            ∃ (p134 : Option Addr),
                                                                                                                                                              ∃ (k135 : Nat),
                                                                                                                                                                ∃ (k136 : Nat),
                                                                                                                                                                  ∃ (n137 : Int),
                                                                                                                                                                    e132 =
                                                                                                                                                                        Ending.returned
                                                                                                                                                                          (Value.tuple
                                                                                                                                                                            {
                                                                                                                                                                              toList :=
                                                                                                                                                                                [Value.slice p134 k135
                                                                                                                                                                                    k136,
                                                                                                                                                                                  Value.int
                                                                                                                                                                                    IntKind.i64
                                                                                                                                                                                    n137] }) ∧
                                                                                                                                                                      ∃ (l138 : List UInt8),
                                                                                                                                                                        List.length l138 = k129 ∧
                                                                                                                                                                          (∀ (k139 : Nat),
                                                                                                                                                                              k139 < k129 →
                                                                                                                                                                                ∃ (ad141 : Addr),
                                                                                                                                                                                  p128 =
                                                                                                                                                                                      some ad141 ∧
                                                                                                                                                                                    World.cell? w133
                                                                                                                                                                                        (Addr.add ad141
                                                                                                                                                                                          k139) =
                                                                                                                                                                                      some
                                                                                                                                                                                        (Value.int
                                                                                                                                                                                          IntKind.u8
                                                                                                                                                                                          ((UInt8.toNat
                                                                                                                                                                                              (List.getD
                                                                                                                                                                                                l138 k139
                                                                                                                                                                                                (0 :
                                                                                                                                                                                                  UInt8))) : Int))) ∧
                                                                                                                                                                            ∃ (l142 : List UInt8),
                                                                                                                                                                              List.length l142 = k135 ∧
                                                                                                                                                                                (∀ (k143 : Nat),
                                                                                                                                                                                    k143 < k135 →
                                                                                                                                                                                      ∃ (ad145 : Addr),
                                                                                                                                                                                        p134 =
                                                                                                                                                                                            some
                                                                                                                                                                                              ad145 ∧
                                                                                                                                                                                          World.cell?
                                                                                                                                                                                              w133
                                                                                                                                                                                              (Addr.add
                                                                                                                                                                                                ad145
                                                                                                                                                                                                k143) =
                                                                                                                                                                                            some
                                                                                                                                                                                              (Value.int
                                                                                                                                                                                                IntKind.u8
                                                                                                                                                                                                ((UInt8.toNat
                                                                                                                                                                                                    (List.getD
                                                                                                                                                                                                      l142
                                                                                                                                                                                                      k143
                                                                                                                                                                                                      (0 :
                                                                                                                                                                                                        UInt8))) : Int))) ∧
                                                                                                                                                                                  R
                                                                                                                                                                                    (Ending.returned
                                                                                                                                                                                      (Value.bool
                                                                                                                                                                                        (decide
                                                                                                                                                                                          ((ByteArray.mk (Array.mk l138)) =
                                                                                                                                                                                            (ByteArray.mk (Array.mk l142))))))
                                                                                                                                                                                    w133)) →
                                                                                                                          y88 b89 w90) →
                                                                                                                      bcase (Option.isNone p87) (y88 true w86)
                                                                                                                        (Calls Proofs.Try.prog (29 : Nat)
                                                                                                                          { toList := [Value.pointer p84, Value.int IntKind.i64 (0 : Int)] } w86
                                                                                                                          fun (e148 : Ending) (w149 : World) =>
                                                                                                                          ∃ (n150 : Int),
                                                                                                                            e148 = Ending.returned (Value.int IntKind.i64 n150) ∧
                                                                                                                              Keep [k1, k25] w86 w149 ∧
                                                                                                                                bcase (!decide (n150 = (0 : Int))) (y88 true w149)
                                                                                                                                  (∀ (k151 : Nat) (w152 : World),
                                                                                                                                    Step w149 w152 [] [k151] →
                                                                                                                                      Blk w152 k151
                                                                                                                                          (spl
                                                                                                                                            (reps [Value.int IntKind.u8 (0 : Int)] 1)
                                                                                                                                            0 [Value.int IntKind.u8 (5 : Int)]) →
                                                                                                                                        Calls Proofs.Try.prog (24 : Nat)
                                                                                                                                          {
                                                                                                                                            toList :=
                                                                                                                                              [Value.slice
                                                                                                                                                  (some { block := k151, off := 0 })
                                                                                                                                                  1 1] }
                                                                                                                                          w152 fun (e155 : Ending) (w156 : World) =>
                                                                                                                                          ∃ (p157 : Option Addr),
                                                                                                                                            ∃ (k158 : Nat),
                                                                                                                                              ∃ (k159 : Nat),
                                                                                                                                                e155 =
                                                                                                                                                    Ending.returned (Value.slice p157 k158 k159) ∧
                                                                                                                                                  Keep [k1, k25] w152 w156 ∧
                                                                                                                                                    Calls Proofs.Try.prog (23 : Nat)
                                                                                                                                                      {
                                                                                                                                                        toList :=
                                                                                                                                                          [Value.pointer p87,
                                                                                                                                                            Value.int IntKind.i64 (0 : Int),
                                                                                                                                                            Value.slice p157 k158 k159] }
                                                                                                                                                      w156 fun (e160 : Ending) (w161 : World) =>
                                                                                                                                                      ∃ (n162 : Int),
                                                                                                                                                        e160 =
                                                                                                                                                            Ending.returned
                                                                                                                                                              (Value.int IntKind.i64 n162) ∧
                                                                                                                                                          Keep [k1, k25] w156 w161 ∧
                                                                                                                                                            y88 (!decide (n162 = (0 : Int)))
                                                                                                                                                              w161))))) →
                                                                                    y48 b49 w50) →
                                                                                bcase b33
                                                                                  (bcase (decide (n34 < (scriptL : Int))) (y48 (decide (n34 < (40 : Int))) w46) (y48 false w46))
                                                                                  (y48 false w46)) →
                                                                y26 b27 w28) →
                                                            bcase (!decide (n10 = (0 : Int))) (∀ (w167 : World), Step w12 w167 [] [k25] → y26 true w167)
                                                              (∀ (w169 : World), Step w12 w169 [] [k25] → y26 (Option.isNone p9) w169))
theorem rhizomelaw03_DiskTwice.link {scriptA : Option Addr} {scriptL scriptC : Nat} {keepA : Option Addr} {keepL keepC : Nat} {at0 : Int} {at1 : Int} {R : Ending → World → Prop} {w : World} (h : rhizomelaw03_DiskTwice.vc scriptA scriptL scriptC keepA keepL keepC at0 at1 R w) : Calls Go.Proofs.Try.prog 8 #[.slice scriptA scriptL scriptC, .slice keepA keepL keepC, (.agg #[.int .i64 at0, .int .i64 at1] : Value)] w R :=
  calls_of pf (fn := Go.Proofs.Try.f8) (ann := .s (.n) (.s (.s (.n) (.c (.s (.n) (.n)) (.n))) (.s (.n) (.s (.n) (.s (.j ⟨[], [], [0, 1], [(40, .l (.b))], []⟩ (.n) (.c (.s (.n) (.n)) (.n))) (.s (.n) (.s (.s (.n) (.b (.l ⟨[], [], [0], [(7, .l (.p)), (11, .l (.b)), (12, .l (.i .i64))], [(1, [.sl, .sl, .sl, .i .i64, .i .i64])]⟩ (.s (.j ⟨[], [], [0, 1], [(51, .l (.b))], []⟩ (.n) (.c (.n) (.n))) (.s (.b (.d [0])) (.n)))))) (.s (.s (.n) (.c (.s (.n) (.n)) (.n))) (.s (.n) (.s (.s (.n) (.c (.s (.n) (.n)) (.n))) (.s (.n) (.s (.j ⟨[], [], [], [(96, .l (.b))], []⟩ (.n) (.c (.s (.n) (.n)) (.n))) (.s (.n) (.s (.s (.n) (.b (.l ⟨[], [], [], [(16, .l (.i .i64))], []⟩ (.s (.s (.n) (.c (.n) (.n))) (.s (.b (.s (.n) (.s (.n) (.j ⟨[], [], [], [(123, .l (.b))], []⟩ (.n) (.c (.s (.n) (.n)) (.n)))))) (.n)))))) (.s (.n) (.s (.n) (.s (.n) (.n)))))))))))))))))) (mp := false) (args := [.v (.slice scriptA scriptL scriptC), .v (.slice keepA keepL keepC), .v (.agg #[.int .i64 at0, .int .i64 at1])]) Go.Proofs.Try.func8 (c := Go.Proofs.Try.f8.body.getD .skip) (by kernel_rfl) (by kernel_rfl) (Eq.mp (by kernel_rfl) h)
theorem rhizomelaw03_DiskTwice.body : BodyOk Go.Proofs.Try.prog 8 := ⟨Go.Proofs.Try.f8, Go.Proofs.Try.func8, by kernel_rfl, pf.ng _ _ Go.Proofs.Try.func8⟩

end Go.Proofs.Ytcaamecdhbgknaa.VC
