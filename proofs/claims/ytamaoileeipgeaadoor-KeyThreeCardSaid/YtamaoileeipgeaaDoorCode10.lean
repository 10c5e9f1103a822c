/- KeyThree: the plain law. -/
import Derived.Test.YtamaoileeipgeaaDoorCode8
import Derived.Test.YtamaoileeipgeaaDoorXKey13
namespace Go.Proofs.YtamaoileeipgeaaDoor.XKey
open Go.RowKit Go.Proofs.YtamaoileeipgeaaDoorW.PrintWords Go.Proofs.YtamaoileeipgeaaDoorW.PrintLast Go.Proofs.YtamaoileeipgeaaDoorW.PrintMore
set_option linter.unusedVariables false
set_option linter.unusedSimpArgs false

theorem cmpI_trans : ∀ a b c : List Int, cmpI a b ≤ 0 → cmpI b c ≤ 0 → cmpI a c ≤ 0
  | [], _, [], _, _ => by show (0 : Int) ≤ 0; decide
  | [], _, _ :: _, _, _ => by show (-1 : Int) ≤ 0; decide
  | _ :: _, [], _, h, _ => absurd h (by show ¬ (1 : Int) ≤ 0; decide)
  | _ :: _, _ :: _, [], _, h => absurd h (by show ¬ (1 : Int) ≤ 0; decide)
  | x :: a, y :: b, z :: c, h1, h2 => by
    rcases Int.lt_trichotomy x y with d | d | d
    · rcases Int.lt_trichotomy y z with e | e | e
      · rw [cmpI_lt _ _ _ _ (by omega : x < z)]; decide
      · rw [cmpI_lt _ _ _ _ (by omega : x < z)]; decide
      · rw [cmpI_gt _ _ _ _ e] at h2; exact absurd h2 (by decide)
    · subst d
      rcases Int.lt_trichotomy x z with e | e | e
      · rw [cmpI_lt _ _ _ _ e]; decide
      · subst e
        rw [cmpI_eq] at h1 h2 ⊢
        exact cmpI_trans a b c h1 h2
      · rw [cmpI_gt _ _ _ _ e] at h2; exact absurd h2 (by decide)
    · rw [cmpI_gt _ _ _ _ d] at h1; exact absurd h1 (by decide)
theorem kPart_self (x : S31) : kPart x x = 0 := by
  have := kPart_swap x x
  omega
theorem kCmp_self (a : List S31) : kCmp a a = 0 := by
  have := kCmp_swap a a
  omega
theorem kCmp_more : ∀ (a : List S31) (p : S31), kCmp a (a ++ [p]) = -1
  | [], p => rfl
  | x :: a, p => by rw [List.cons_append, kCmp, if_pos (kPart_self x), kCmp_more a p]
theorem three_j0t (a b c : List S31) : Ev (fun k => rhizomelaw01_KeyThree.j0 k a b c true) true :=
  Ev.step (f := fun k => (rhizomelaw01_awake.f k).bind fun t => some t) (fun k => by rw [rhizomelaw01_KeyThree.j0, if_pos rfl]) (Ev.bind awake_ev (Ev.now _))
theorem three_l0 (a c : List S31) (ha : a.length ≤ 60) (hc : c.length ≤ 60) : ∀ (m i : Nat), c.length - i = m → i ≤ c.length → Ev (fun k => rhizomelaw01_KeyThree.l0 k a c (c.length : Int) (i : Int)) true
  | 0, i, hm, hi => by
    refine Ev.step (f := fun _ => some true) (fun k => ?_) (Ev.now _)
    rw [rhizomelaw01_KeyThree.l0, if_neg (by omega)]
    show (some (kCmp a a)).bind _ = _
    rw [Option.bind_some, kCmp_self]; rfl
  | m + 1, i, hm, hi => by
    refine Ev.step (fun k => ?_) (three_l0 a c ha hc m (i + 1) (by omega) (by omega))
    have ho : rhizomelaw01_own.f a = some a := by
      unfold rhizomelaw01_own.f
      rw [Option.bind_some, if_pos (by rw [List.length_nil]; omega), List.nil_append]
    have hk : ∀ x y : List S31, key_Cmp.f x y = some (kCmp x y) := fun _ _ => rfl
    rw [rhizomelaw01_KeyThree.l0, if_pos (by omega), if_pos (by omega), if_pos (by omega), ho, Option.bind_some, Option.bind_some, if_pos (by rw [List.length_singleton]; omega), hk, Option.bind_some, kCmp_more, if_pos rfl, Option.bind_some, Option.bind_some, if_pos (by rw [List.length_singleton]; omega), hk, Option.bind_some, kCmp_swap, kCmp_more, if_pos (by decide), wrap_succ i (by omega)]
theorem three_j1 (a c : List S31) (ha : a.length ≤ 60) (hc : c.length ≤ 60) : Ev (fun k => rhizomelaw01_KeyThree.j1 k a c false) true :=
  Ev.step (fun k => by rw [rhizomelaw01_KeyThree.j1, if_neg (by decide)]; rfl) (three_l0 a c ha hc c.length 0 (by omega) (by omega))
theorem three_pure (a b c : List S31) (la : a.length < 4611686018427387904) (lb : b.length < 4611686018427387904) (lc : c.length < 4611686018427387904) (ha : ∀ p ∈ a, In64q p) (hb : ∀ p ∈ b, In64q p) (hc : ∀ p ∈ c, In64q p) : Ev (fun k => rhizomelaw01_KeyThree.f k a b c) true := by
  unfold rhizomelaw01_KeyThree.f
  refine Ev.bind awake_ev ?_
  simp only [if_true]
  obtain ⟨fa, hfa, ha60⟩ := few_ev a la
  obtain ⟨fb, hfb, hb60⟩ := few_ev b lb
  obtain ⟨fc, hfc, hc60⟩ := few_ev c lc
  refine Ev.bind hfa ?_
  cases fa with
  | false =>
    simp only [Bool.false_eq_true, if_false]
    exact three_j0t a b c
  | true =>
    have ha60 := ha60 rfl
    simp only [if_true]
    refine Ev.bind hfb ?_
    cases fb with
    | false =>
      simp only [Bool.false_eq_true, if_false]
      exact three_j0t a b c
    | true =>
      simp only [if_true]
      refine Ev.bind hfc ?_
      cases fc with
      | false => exact three_j0t a b c
      | true =>
        have hc60 := hc60 rfl
        show Ev (fun k => rhizomelaw01_KeyThree.j0 k a b c false) true
        have hk : ∀ x y : List S31, key_Cmp.f x y = some (kCmp x y) := fun _ _ => rfl
        have hgo := three_j1 a c ha60 hc60
        refine Ev.step (fun k => ?_) hgo
        rw [rhizomelaw01_KeyThree.j0, if_neg (by decide), hk, Option.bind_some]
        by_cases c1 : kCmp a b ≤ 0
        · rw [if_pos c1, hk, Option.bind_some]
          by_cases c2 : kCmp b c ≤ 0
          · rw [if_pos c2, hk, Option.bind_some]
            have := cmpI_trans (a.flatMap kbp) (b.flatMap kbp) (c.flatMap kbp) (by rw [cmpI_key a b ha hb]; exact c1) (by rw [cmpI_key b c hb hc]; exact c2)
            rw [cmpI_key a c ha hc] at this
            rw [decide_eq_false (by omega)]
          · rw [if_neg c2]
        · rw [if_neg c1]
end Go.Proofs.YtamaoileeipgeaaDoor.XKey
