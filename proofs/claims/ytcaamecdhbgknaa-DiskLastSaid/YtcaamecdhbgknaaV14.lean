/- A region whose order is drawn: what hangs on no order is done first; of the rest all orders are gone through. -/
import Derived.Test.YtcaamecdhbgknaaV13
namespace Go.V
open Go.RowKit
set_option linter.unusedVariables false
set_option linter.unusedSimpArgs false

section
variable {P : Program} {ops : Array Oper} {Q : Exit → Act → World → Prop} {SR : Nat → World → World → Prop}

/-- All orders; with each step what it does to the world. -/
def wpAnyE (P : Program) (ops : Array Oper) (Q : Exit → Act → World → Prop) (SR : Nat → World → World → Prop) : Nat → Array Bool → Act → World → Prop
  | 0, listed, a, w => Region.ready .any ops listed = [] ∧ Q .normal a w
  | fuel + 1, listed, a, w =>
    (Region.ready .any ops listed = [] → Q .normal a w) ∧
    ∀ i ∈ Region.ready .any ops listed, wpOp P ops Q i (fun a' w' => SR i w w' ∧ wpAnyE P ops Q SR fuel (listed.setIfInBounds i true) a' w') a w

theorem wpAnyE_any : ∀ (fuel : Nat) (listed : Array Bool) (a : Act) (w : World), wpAnyE P ops Q SR fuel listed a w → wpAny P .any ops Q fuel listed a w
  | 0, _, _, _, h => h
  | fuel + 1, listed, a, w, h => ⟨h.1, fun i hi => wpOp_mono (fun a' w' h' => wpAnyE_any fuel _ _ _ h'.2) (h.2 i hi)⟩

def FSame (ops : Array Oper) (o : Oper) (a a' : Act) : Prop := execOp a'.eval o = execOp a.eval o ∧ Region.wanted o (yielded ops a'.tmps) = Region.wanted o (yielded ops a.tmps)

theorem wpOp_putF {j : Nat} {oi oj : Oper} {v : Value} (hj : ops[j]? = some oj) (hap : oi.apart ops oj = true)
    (hsi : ∀ cs b, oi.op ≠ .select cs b) (hsj : ∀ cs b, oj.op ≠ .select cs b)
    (hQ : ∀ c a w, Q (.panic c) (a.put oi.dst v) w → Q (.panic c) a w) {K : Act → World → Prop} {a : Act} {w : World}
    (h : wpOp P ops Q j K (a.put oi.dst v) w) :
    wpOp P ops Q j (fun a' w' => FSame ops oi a a' ∧ K (a'.put oi.dst v) w') a w := by
  obtain ⟨h1, h2, h3⟩ := Oper.apart_spec hap
  have keep : ∀ u, FSame ops oi a (a.put oj.dst u) := fun u => ⟨execOp_put oi hsi a oj.dst u h3, wanted_put oi a oj.dst u h3⟩
  have keepD : ∀ d u, FSame ops oi a (({ a with defers := d :: a.defers } : Act).put oj.dst u) := fun d u =>
    ⟨(execOp_put oi hsi { a with defers := d :: a.defers } oj.dst u h3).trans rfl, (wanted_put oi { a with defers := d :: a.defers } oj.dst u h3).trans rfl⟩
  unfold wpOp at *
  simp only [hj] at *
  rw [wanted_put oj a oi.dst v h1] at h
  split
  · rename_i hw
    simp only [hw, if_true] at h
    rcases h with h | ⟨hasks, hlets⟩
    case inr => exact .inr ⟨by unfold Oper.asks at *; rw [execOp_put oj hsj a oi.dst v h1] at hasks; exact hasks, hlets⟩
    refine .inl ?_
    unfold Oper.wp at *
    rw [execOp_put oj hsj a oi.dst v h1] at h
    generalize (execOp a.eval oj).run P w = r at *
    cases r with
    | ok n w' =>
      cases n <;> simp only [Oper.upon] at h ⊢
      case value u => exact ⟨keep u, by rw [← Act.put_comm a v u h2]; exact h⟩
      case skip => exact ⟨keep _, by rw [← Act.put_comm a v undef h2]; exact h⟩
      case defer d =>
        refine ⟨keepD d _, ?_⟩
        rw [← Act.put_comm _ v undef h2, ← Act.put_defers]
        exact h
      case enter f args =>
        refine Calls.mono h fun e w'' he => ?_
        cases e with
        | returned u => exact ⟨keep u, by rw [← Act.put_comm a v u h2]; exact he⟩
        | panicked c => exact hQ _ _ _ he
        | outgrown => exact he
      case row row args => exact Rows.mono h fun u w'' he => ⟨keep u, by rw [← Act.put_comm a v u h2]; exact he⟩
    | halt x w' =>
      cases x <;> simp only [Oper.upon] at h ⊢
      case panic u => exact hQ _ _ _ h
  · rename_i hw
    simp only [hw] at h
    exact ⟨keep _, by rw [← Act.put_comm a v undef h2]; exact h⟩

def YJ (P : Program) (ops : Array Oper) (o : Oper) (v : Value) (a : Act) (J : World → Prop) : Prop :=
  (Region.wanted o (yielded ops a.tmps) = true ∧ Yld P o a J v) ∨ (Region.wanted o (yielded ops a.tmps) = false ∧ v = undef)

theorem YJ.wpOp {i : Nat} {o : Oper} {v : Value} {a : Act} {J : World → Prop} (hi : ops[i]? = some o) (hy : YJ P ops o v a J)
    {K : Act → World → Prop} {w : World} (hJ : J w) (h : K (a.put o.dst v) w) : wpOp P ops Q i K a w := by
  unfold Go.wpOp
  simp only [hi]
  rcases hy with ⟨hw, hv⟩ | ⟨hw, rfl⟩
  · simp only [hw, if_true, Oper.wp, hv w hJ, Oper.upon]; exact .inl h
  · simp only [hw, Bool.false_eq_true, if_false]; exact h
theorem YJ.same {o : Oper} {v : Value} {a a' : Act} {J : World → Prop} (hy : YJ P ops o v a J) (h : FSame ops o a a') : YJ P ops o v a' J := by
  unfold YJ Yld at *
  rw [h.1, h.2]
  exact hy

def Lst (listed : Array Bool) (j : Nat) : Prop := listed.getD j false = true
/-- What is done stands on what is done. -/
def Closed (ops : Array Oper) (listed : Array Bool) : Prop := ∀ (j : Nat) o, ops[j]? = some o → Lst listed j → ∀ e ∈ o.after, Region.binds .any e = true → Lst listed e.on
/-- D tells, of each operation, whether it stands behind operation i. -/
def chkD (ops : Array Oper) (i : Nat) (D : List Bool) : Bool :=
  (List.range ops.size).all fun j => !D.getD j false || match ops[j]? with
    | some o => o.after.any fun e => Region.binds .any e && (Nat.blt e.on j && (Nat.beq e.on i || D.getD e.on false))
    | none => false
theorem chkD_spec {i : Nat} {D : List Bool} (h : chkD ops i D = true) (j : Nat) (hj : D.getD j false = true) (hjs : j < ops.size) :
    ∃ o e, ops[j]? = some o ∧ e ∈ o.after ∧ Region.binds .any e = true ∧ e.on < j ∧ (e.on = i ∨ D.getD e.on false = true) := by
  simp only [chkD, List.all_eq_true, List.mem_range] at h
  have h1 := h j hjs
  rw [hj] at h1
  simp only [Bool.not_true, Bool.false_or] at h1
  split at h1
  · rename_i o ho
    obtain ⟨e, he, hb⟩ := Array.any_eq_true'.1 h1
    simp only [Bool.and_eq_true, Bool.or_eq_true] at hb
    obtain ⟨b1, b2, b3⟩ := hb
    refine ⟨o, e, ho, he, b1, by have : Nat.ble (e.on + 1) j = true := b2
                                 exact Nat.le_of_ble_eq_true this, ?_⟩
    rcases b3 with b3 | b3
    · exact .inl (Nat.eq_of_beq_eq_true b3)
    · exact .inr b3
  · cases h1
theorem lst_lt {listed : Array Bool} {j : Nat} (h : Lst listed j) : j < listed.size := by
  rcases Nat.lt_or_ge j listed.size with z | z
  · exact z
  · simp [Lst, Array.getElem?_eq_none z] at h
theorem not_behind {i : Nat} {D : List Bool} {listed : Array Bool} (h : chkD ops i D = true) (hc : Closed ops listed) (hi : ¬ Lst listed i) (hsz : listed.size = ops.size) :
    ∀ n (k : Nat), k ≤ n → D.getD k false = true → ¬ Lst listed k := by
  intro n
  induction n with
  | zero =>
    intro k hk hD hl
    obtain ⟨o, e, _, _, _, h5, _⟩ := chkD_spec h k hD (by rw [← hsz]; exact lst_lt hl)
    omega
  | succ n ih =>
    intro k hk hD hl
    obtain ⟨o, e, h1, h2, h3, h5, h6⟩ := chkD_spec h k hD (by rw [← hsz]; exact lst_lt hl)
    have hl' := hc k o h1 hl e h2 h3
    rcases h6 with h6 | h6
    · exact hi (h6 ▸ hl')
    · exact ih e.on (by omega) h6 hl'

theorem firstE {i : Nat} {oi : Oper} {v : Value} {J : World → Prop} {D : List Bool} {pre : Nat → Prop} (hi : ops[i]? = some oi) (hsel : ∀ (j : Nat) (o : Oper) cs b, ops[j]? = some o → o.op ≠ .select cs b)
    (hQ : ∀ c a w, Q (.panic c) (a.put oi.dst v) w → Q (.panic c) a w) (hD : chkD ops i D = true) (hJ : ∀ j w w', pre j → SR j w w' → J w → J w') (hSR : ∀ w, SR i w w) :
    ∀ (fuel : Nat) (listed : Array Bool) (a : Act) (w : World), listed.size = ops.size → Closed ops listed →
      (∀ j oj, ops[j]? = some oj → j ≠ i → listed.getD j true = false → D.getD j false = false → oi.apart ops oj = true ∧ pre j) →
      i ∈ Region.ready .any ops listed → J w → YJ P ops oi v a J →
      wpAnyE P ops Q SR fuel (listed.setIfInBounds i true) (a.put oi.dst v) w → wpAnyE P ops Q SR (fuel + 1) listed a w := by
  intro fuel
  induction fuel with
  | zero =>
    intro listed a w hsz hc hfree hr hjw hy H
    refine ⟨fun h => (by rw [h] at hr; cases hr), fun j hj => ?_⟩
    by_cases hji : j = i
    · subst hji; exact hy.wpOp hi hjw ⟨hSR w, H⟩
    · have := ready_mono hj hji
      rw [H.1] at this
      cases this
  | succ fuel ih =>
    intro listed a w hsz hc hfree hr hjw hy H
    refine ⟨fun h => (by rw [h] at hr; cases hr), fun j hj => ?_⟩
    by_cases hji : j = i
    · subst hji; exact hy.wpOp hi hjw ⟨hSR w, H⟩
    · have h1 := H.2 j (ready_mono hj hji)
      obtain ⟨hjun, oj, hoj, hall⟩ := mem_ready.1 hj
      have hiun : ¬ Lst listed i := fun hl => by
        have h0 := (mem_ready.1 hr).1
        have hlt := lst_lt hl
        simp [Lst, hlt] at hl
        simp [hlt] at h0
        rw [h0] at hl; cases hl
      have hjD : D.getD j false = false := by
        cases hDj : D.getD j false with
        | false => rfl
        | true =>
          obtain ⟨o, e, h1, h2, h3, h5, h6⟩ := chkD_spec hD j hDj (Array.getElem?_eq_some_iff.1 hoj).1
          rw [hoj] at h1; injection h1 with h1; subst h1
          have hl : Lst listed e.on := hall e h2 h3
          rcases h6 with h6 | h6
          · exact absurd (h6 ▸ hl) hiun
          · exact absurd hl (not_behind hD hc hiun hsz e.on e.on (Nat.le_refl _) h6)
      obtain ⟨hap, hpre⟩ := hfree j oj hoj hji hjun hjD
      have h2 := wpOp_putF hoj hap (fun cs b => hsel i oi cs b hi) (fun cs b => hsel j oj cs b hoj) hQ h1
      have hc' : Closed ops (listed.setIfInBounds j true) := fun k o hk hl e he hb => by
        by_cases hkj : j = k
        · subst hkj
          rw [hoj] at hk; injection hk with hk; subst hk
          exact getD_set_true (hall e he hb)
        · have : Lst listed k := by unfold Lst at hl ⊢; rw [getD_set_ne false hkj] at hl; exact hl
          exact getD_set_true (hc k o hk this e he hb)
      have hfree' : ∀ k ok, ops[k]? = some ok → k ≠ i → (listed.setIfInBounds j true).getD k true = false → D.getD k false = false → oi.apart ops ok = true ∧ pre k := fun k ok hk hki hun hno => by
        refine hfree k ok hk hki ?_ hno
        by_cases hjk : j = k
        · subst hjk; exact hjun
        · rw [getD_set_ne true hjk] at hun; exact hun
      refine wpOp_mono (fun a' w' h3 => ?_) h2
      obtain ⟨hF, hs, h3⟩ := h3
      refine ⟨hs, ih (listed.setIfInBounds j true) a' w' (by simp [hsz]) hc' hfree' (ready_mono hr (Ne.symm hji)) (hJ j w w' hpre hs hjw) (hy.same hF) ?_⟩
      rw [Array.setIfInBounds_comm _ _ hji]
      exact h3
end
end Go.V
