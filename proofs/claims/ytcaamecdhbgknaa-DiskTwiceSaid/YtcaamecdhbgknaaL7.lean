/- What is to be shown of functions' texts, printed by a program of this session's repo; that it gives the functions' contracts is checked by the kernel. -/
import Derived.Test.YtcaamecdhbgknaaProg
import Derived.Test.YtcaamecdhbgknaaPf
namespace Go.Proofs.Ytcaamecdhbgknaa.VC
open Go Go.V
set_option maxRecDepth 1000000
set_option linter.unusedVariables false

/-! ### rhizome/rhizomelaw03.DiskPlays: function 7 -/
def rhizomelaw03_DiskPlays.vc (n : Int) (scriptA : Option Addr) (scriptL scriptC : Nat) (R : Ending → World → Prop) (w : World) : Prop :=
  Calls Proofs.Try.prog (19 : Nat) { toList := [] } w fun (e1 : Ending) (w2 : World) =>
    ∃ (b3 : Bool),
      e1 = Ending.returned (Value.bool b3) ∧
        bcase (!b3) (R (Ending.returned (Value.bool false)) w2)
          (∀ (y4 : Int → World → Prop),
            (∀ (n5 : Int) (w6 : World),
                (Calls Proofs.Try.prog (20 : Nat) { toList := [Value.int IntKind.i64 n5] } w6 fun (e7 : Ending) (w8 : World) =>
                    ∃ (p9 : Option Addr),
                      ∃ (n10 : Int),
                        e7 = Ending.returned (Value.tuple { toList := [Value.pointer p9, Value.int IntKind.i64 n10] }) ∧
                          Calls Proofs.Try.prog (30 : Nat) { toList := [Value.int IntKind.i64 n5] } w8 fun (e11 : Ending) (w12 : World) =>
                            ∃ (p13 : Option Addr),
                              ∃ (k14 : Nat),
                                ∃ (k15 : Nat),
                                  ∃ (p16 : Option Addr),
                                    ∃ (k17 : Nat),
                                      ∃ (k18 : Nat),
                                        ∃ (p19 : Option Addr),
                                          ∃ (k20 : Nat),
                                            ∃ (k21 : Nat),
                                              ∃ (n22 : Int),
                                                ∃ (n23 : Int),
                                                  ∃ (n24 : Int),
                                                    e11 =
                                                        Ending.returned
                                                          (Value.tuple
                                                            {
                                                              toList :=
                                                                [Value.agg
                                                                    {
                                                                      toList :=
                                                                        [Value.slice p13 k14 k15, Value.slice p16 k17 k18, Value.slice p19 k20 k21, Value.int IntKind.i64 n22,
                                                                          Value.int IntKind.i64 n23] },
                                                                  Value.int IntKind.i64 n24] }) ∧
                                                      ∀ (k25 : Nat) (y26 : Bool → World → Prop),
                                                        (∀ (b27 : Bool) (w28 : World),
                                                            bcase b27 (R (Ending.returned (Value.bool false)) w28)
                                                                (∃ (y29 :
                                                                  Nat →
                                                                    Option Addr →
                                                                      Int → Option Addr → Nat → Nat → Option Addr → Nat → Nat → Option Addr → Nat → Nat → Int → Int → World → Prop),
                                                                  ∃ (k30 : Nat),
                                                                    y29 k30 p9 (0 : Int) p13 k14 k15 p16 k17 k18 p19 k20 k21 n22 n23 w28 ∧
                                                                      ∀ (k31 : Nat) (p32 : Option Addr) (n33 : Int) (p34 : Option Addr) (k35 k36 : Nat) (p37 : Option Addr) (k38 k39 : Nat)
                                                                        (p40 : Option Addr) (k41 k42 : Nat) (n43 n44 : Int) (w45 : World),
                                                                        y29 k31 p32 n33 p34 k35 k36 p37 k38 k39 p40 k41 k42 n43 n44 w45 →
                                                                          ∀ (y47 : Bool → World → Prop),
                                                                            (∀ (b48 : Bool) (w49 : World),
                                                                                bcase b48
                                                                                    (∃ (ad50 : Addr),
                                                                                      scriptA = some ad50 ∧
                                                                                        ((0 : Int) ≤ n33 ∧ n33 < (scriptL : Int)) ∧
                                                                                          ∃ (n51 : Int),
                                                                                            ∃ (n52 : Int),
                                                                                              ∃ (n53 : Int),
                                                                                                ∃ (p54 : Option Addr),
                                                                                                  ∃ (k55 : Nat),
                                                                                                    ∃ (k56 : Nat),
                                                                                                      ∃ (b57 : Bool),
                                                                                                        ∃ (p58 : Option Addr),
                                                                                                          ∃ (k59 : Nat),
                                                                                                            ∃ (k60 : Nat),
                                                                                                              (World.cell? w49
                                                                                                                      (Addr.add (Addr.add ad50 (Int.toNat n33 * 6)) 0) =
                                                                                                                    some (Value.int IntKind.i64 n51) ∧
                                                                                                                  World.cell? w49
                                                                                                                        (Addr.add (Addr.add ad50 (Int.toNat n33 * 6)) 1) =
                                                                                                                      some (Value.int IntKind.i64 n52) ∧
                                                                                                                    World.cell? w49
                                                                                                                          (Addr.add (Addr.add ad50 (Int.toNat n33 * 6)) 2) =
                                                                                                                        some (Value.int IntKind.i64 n53) ∧
                                                                                                                      World.cell? w49
                                                                                                                            (Addr.add (Addr.add ad50 (Int.toNat n33 * 6)) 3) =
                                                                                                                          some (Value.slice p54 k55 k56) ∧
                                                                                                                        World.cell? w49
                                                                                                                              (Addr.add (Addr.add ad50 (Int.toNat n33 * 6)) 4) =
                                                                                                                            some (Value.bool b57) ∧
                                                                                                                          World.cell? w49
                                                                                                                                (Addr.add (Addr.add ad50 (Int.toNat n33 * 6)) 5) =
                                                                                                                              some (Value.slice p58 k59 k60) ∧
                                                                                                                            True) ∧
                                                                                                                ∀ (w61 : World),
                                                                                                                  Step w49 w61 [] [] →
                                                                                                                    Calls Proofs.Try.prog (31 : Nat)
                                                                                                                      {
                                                                                                                        toList :=
                                                                                                                          [Value.pointer p32,
                                                                                                                            Value.agg
                                                                                                                              {
                                                                                                                                toList :=
                                                                                                                                  [Value.slice p34 k35 k36, Value.slice p37 k38 k39,
                                                                                                                                    Value.slice p40 k41 k42, Value.int IntKind.i64 n43,
                                                                                                                                    Value.int IntKind.i64 n44] },
                                                                                                                            Value.agg
                                                                                                                              {
                                                                                                                                toList :=
                                                                                                                                  [Value.int IntKind.i64 n51, Value.int IntKind.i64 n52,
                                                                                                                                    Value.int IntKind.i64 n53, Value.slice p54 k55 k56,
                                                                                                                                    Value.bool b57, Value.slice p58 k59 k60] }] }
                                                                                                                      w61 fun (e63 : Ending) (w64 : World) =>
                                                                                                                      ∃ (p65 : Option Addr),
                                                                                                                        ∃ (p66 : Option Addr),
                                                                                                                          ∃ (k67 : Nat),
                                                                                                                            ∃ (k68 : Nat),
                                                                                                                              ∃ (p69 : Option Addr),
                                                                                                                                ∃ (k70 : Nat),
                                                                                                                                  ∃ (k71 : Nat),
                                                                                                                                    ∃ (p72 : Option Addr),
                                                                                                                                      ∃ (k73 : Nat),
                                                                                                                                        ∃ (k74 : Nat),
                                                                                                                                          ∃ (n75 : Int),
                                                                                                                                            ∃ (n76 : Int),
                                                                                                                                              ∃ (b77 : Bool),
                                                                                                                                                e63 =
                                                                                                                                                    Ending.returned
                                                                                                                                                      (Value.tuple
                                                                                                                                                        {
                                                                                                                                                          toList :=
                                                                                                                                                            [Value.pointer p65,
                                                                                                                                                              Value.agg
                                                                                                                                                                {
                                                                                                                                                                  toList :=
                                                                                                                                                                    [Value.slice p66 k67 k68,
                                                                                                                                                                      Value.slice p69 k70 k71,
                                                                                                                                                                      Value.slice p72 k73 k74,
                                                                                                                                                                      Value.int IntKind.i64 n75,
                                                                                                                                                                      Value.int IntKind.i64 n76] },
                                                                                                                                                              Value.bool b77] }) ∧
                                                                                                                                                  Keep [k25] w61 w64 ∧
                                                                                                                                                    ∀ (y78 : Bool → World → Prop),
                                                                                                                                                      (∀ (b79 : Bool) (w80 : World),
                                                                                                                                                          bcase b79
                                                                                                                                                              (R
                                                                                                                                                                (Ending.returned
                                                                                                                                                                  (Value.bool false))
                                                                                                                                                                w80)
                                                                                                                                                              (∃ (k81 : Nat),
                                                                                                                                                                k81 < k31 ∧
                                                                                                                                                                  y29 k81 p65
                                                                                                                                                                    (IntKind.wrap IntKind.i64
                                                                                                                                                                      (n33 + (1 : Int)))
                                                                                                                                                                    p66 k67 k68 p69 k70 k71 p72 k73 k74
                                                                                                                                                                    n75 n76 w80) →
                                                                                                                                                            y78 b79 w80) →
                                                                                                                                                        bcase (!b77)
                                                                                                                                                          (∀ (w84 : World),
                                                                                                                                                            Step w64 w84 [k25] [] →
                                                                                                                                                              y78 true w84)
                                                                                                                                                          (∀ (w86 : World),
                                                                                                                                                            Step w64 w86 [k25] [] →
                                                                                                                                                              Calls Proofs.Try.prog (32 : Nat)
                                                                                                                                                                {
                                                                                                                                                                  toList :=
                                                                                                                                                                    [Value.pointer p65,
                                                                                                                                                                      Value.agg
                                                                                                                                                                        {
                                                                                                                                                                          toList :=
                                                                                                                                                                            List.take 5
                                                                                                                                                                              (List.drop 0
                                                                                                                                                                                (sets
                                                                                                                                                                                  [Value.slice p34 k35
                                                                                                                                                                                      k36,
                                                                                                                                                                                    Value.slice p37 k38
                                                                                                                                                                                      k39,
                                                                                                                                                                                    Value.slice p40 k41
                                                                                                                                                                                      k42,
                                                                                                                                                                                    Value.int
                                                                                                                                                                                      IntKind.i64 n43,
                                                                                                                                                                                    Value.int
                                                                                                                                                                                      IntKind.i64 n44]
                                                                                                                                                                                  0
                                                                                                                                                                                  [Value.slice p66 k67
                                                                                                                                                                                      k68,
                                                                                                                                                                                    Value.slice p69 k70
                                                                                                                                                                                      k71,
                                                                                                                                                                                    Value.slice p72 k73
                                                                                                                                                                                      k74,
                                                                                                                                                                                    Value.int
                                                                                                                                                                                      IntKind.i64 n75,
                                                                                                                                                                                    Value.int
                                                                                                                                                                                      IntKind.i64
                                                                                                                                                                                      n76])) }] }
                                                                                                                                                                w86
                                                                                                                                                                fun (e88 : Ending) (w89 : World) =>
                                                                                                                                                                ∃ (b90 : Bool),
                                                                                                                                                                  e88 =
                                                                                                                                                                      Ending.returned
                                                                                                                                                                        (Value.bool b90) ∧
                                                                                                                                                                    Keep [k25] w86 w89 ∧
                                                                                                                                                                      y78 (!b90) w89))
                                                                                    (R (Ending.returned (Value.bool true)) w49) →
                                                                                  y47 b48 w49) →
                                                                              bcase (!Option.isNone p32)
                                                                                (bcase (decide (n33 < (scriptL : Int))) (y47 (decide (n33 < (80 : Int))) w45) (y47 false w45))
                                                                                (y47 false w45)) →
                                                              y26 b27 w28) →
                                                          bcase (!decide (n10 = n24)) (∀ (w95 : World), Step w12 w95 [] [k25] → y26 true w95)
                                                            (∀ (w97 : World), Step w12 w97 [] [k25] → y26 (!Option.isNone p9 == !decide (n24 = (0 : Int))) w97)) →
                  y4 n5 w6) →
              ∀ (y101 : Bool → World → Prop),
                (∀ (b102 : Bool) (w103 : World), bcase b102 (y4 (40 : Int) w103) (y4 n w103) → y101 b102 w103) →
                  bcase (decide ((40 : Int) < n)) (y101 (decide (n ≤ (4096 : Int))) w2) (y101 false w2))
theorem rhizomelaw03_DiskPlays.link {n : Int} {scriptA : Option Addr} {scriptL scriptC : Nat} {R : Ending → World → Prop} {w : World} (h : rhizomelaw03_DiskPlays.vc n scriptA scriptL scriptC R w) : Calls Go.Proofs.Try.prog 7 #[.int .i64 n, .slice scriptA scriptL scriptC] w R :=
  calls_of pf (fn := Go.Proofs.Try.f7) (ann := .s (.n) (.s (.s (.n) (.c (.s (.n) (.n)) (.n))) (.j ⟨[], [], [], [(0, .l (.i .i64))], []⟩ (.j ⟨[], [], [], [(18, .l (.b))], []⟩ (.n) (.c (.n) (.n))) (.s (.n) (.s (.n) (.s (.j ⟨[], [], [0], [(38, .l (.b))], []⟩ (.n) (.c (.s (.n) (.n)) (.n))) (.s (.s (.n) (.b (.l ⟨[], [], [], [(5, .l (.p)), (9, .l (.i .i64))], [(0, [.sl, .sl, .sl, .i .i64, .i .i64])]⟩ (.s (.j ⟨[], [], [0], [(50, .l (.b))], []⟩ (.n) (.c (.n) (.n))) (.s (.b (.s (.n) (.s (.n) (.j ⟨[], [], [0], [(71, .l (.b))], []⟩ (.n) (.c (.s (.n) (.n)) (.n)))))) (.n)))))) (.s (.n) (.n))))))))) (mp := false) (args := [.v (.int .i64 n), .v (.slice scriptA scriptL scriptC)]) Go.Proofs.Try.func7 (c := Go.Proofs.Try.f7.body.getD .skip) (by kernel_rfl) (by kernel_rfl) (Eq.mp (by kernel_rfl) h)
theorem rhizomelaw03_DiskPlays.body : BodyOk Go.Proofs.Try.prog 7 := ⟨Go.Proofs.Try.f7, Go.Proofs.Try.func7, by kernel_rfl, pf.ng _ _ Go.Proofs.Try.func7⟩

end Go.Proofs.Ytcaamecdhbgknaa.VC
