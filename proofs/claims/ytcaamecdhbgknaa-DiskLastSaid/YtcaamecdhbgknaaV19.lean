/- What is shown of a function's text holds of the function. -/
import Derived.Test.YtcaamecdhbgknaaV18
namespace Go.V
open Go.RowKit
set_option linter.unusedVariables false
set_option linter.unusedSimpArgs false

/-- What holds where a piece of code has ended. -/
def Post (qp : Option (List PanicEntry → World → Prop)) (s0 : St) (ds : List (Option Nat)) (a0 : Act) (Q : Exit → St → World → Prop) : Exit → Act → World → Prop
  | .normal, a, w => Nrm s0 ds a0 (Q .normal) a w
  | .exit id, a, w => Nrm s0 ds a0 (Q (.exit id)) a w
  | .ret, a, w => Nrm s0 ds a0 (Q .ret) a w
  | .panic chain, a, w => a.defers = [] ∧ ∃ q, qp = some q ∧ q chain w
  | _, _, _ => False

theorem allFL_app {ls : List Lf} : ∀ {R : Type} {f : FnL ls R} {K : List Value → R → Prop} {vs : List Value} {g : R}, allFL ls f K → appL ls f vs = some g → K vs g := by
  induction ls with
  | nil =>
    intro R f K vs g h hg
    cases vs with
    | nil => have hg : f = g := Option.some.inj hg; rw [← hg]; exact h
    | cons x vs => simp [appL] at hg
  | cons l ls ih =>
    intro R f K vs g h hg
    cases vs with
    | nil => cases l <;> simp [appL] at hg
    | cons x vs =>
      cases l with
      | i k =>
        cases x <;> simp only [appL, reduceCtorEq] at hg
        rename_i k' n
        split at hg
        · rename_i hk
          obtain rfl := of_decide_eq_true hk
          have h1 := (show ∀ n : Int, allFL ls (f n) fun vs g => K (.int k n :: vs) g from h) n
          exact ih (f := f n) (K := fun vs g => K (.int k n :: vs) g) h1 hg
        · cases hg
      | b =>
        cases x <;> simp only [appL, reduceCtorEq] at hg
        rename_i y
        exact ih (f := f y) (K := fun vs g => K (.bool y :: vs) g) (h y) hg
      | s =>
        cases x <;> simp only [appL, reduceCtorEq] at hg
        rename_i y
        exact ih (f := f y) (K := fun vs g => K (.string y :: vs) g) (h y) hg
      | p =>
        cases x <;> simp only [appL, reduceCtorEq] at hg
        rename_i y
        exact ih (f := f y) (K := fun vs g => K (.pointer y :: vs) g) (h y) hg
      | sl =>
        cases x <;> simp only [appL, reduceCtorEq] at hg
        rename_i y l c
        exact ih (f := f y l c) (K := fun vs g => K (.slice y l c :: vs) g) (h y l c) hg
      | m =>
        cases x <;> simp only [appL, reduceCtorEq] at hg
        rename_i y
        exact ih (f := f y) (K := fun vs g => K (.map y :: vs) g) (h y) hg
theorem allFS_app {ss : List Sh} : ∀ {R : Type} {f : FnS ss R} {K : List AV → R → Prop} {xs : List AV} {g : R}, allFS ss f K → appS ss f xs = some g → ∃ ys, Conv ss xs ys ∧ K ys g := by
  induction ss with
  | nil =>
    intro R f K xs g h hg
    cases xs with
    | nil => have hg : f = g := Option.some.inj hg; rw [← hg]; exact ⟨[], .nil, h⟩
    | cons x xs => simp [appS] at hg
  | cons sh ss ih =>
    intro R f K xs g h hg
    cases xs with
    | nil => cases sh <;> simp [appS] at hg
    | cons x xs =>
      cases sh with
      | l lf =>
        simp only [appS] at hg
        split at hg
        · rename_i y hy
          split at hg
          · rename_i g' hg'
            have h1 := allFL_app (ls := [lf]) (f := f) (K := fun vs g => match vs with | [y] => allFS ss g fun avs h => K (.v y :: avs) h | _ => True) h hg'
            obtain ⟨ys, c1, c2⟩ := ih (f := g') (K := fun avs h => K (.v y :: avs) h) h1 hg
            exact ⟨_, .l hy c1, c2⟩
          · cases hg
        · cases hg
      | g ls =>
        cases x with
        | v y =>
          cases y with
          | agg cs =>
            simp only [appS] at hg
            split at hg
            · rename_i g' hg'
              have h1 := allFL_app (ls := ls) (f := f) (K := fun vs g => allFS ss g fun avs h => K (.v (.agg vs.toArray) :: avs) h) h hg'
              obtain ⟨ys, c1, c2⟩ := ih (f := g') (K := fun avs h => K (.v (.agg cs.toList.toArray) :: avs) h) h1 hg
              exact ⟨_, .g c1, by simpa using c2⟩
            · cases hg
          | _ => simp [appS] at hg
        | _ => simp [appS] at hg
      | a =>
        cases x with
        | a ad =>
          simp only [appS] at hg
          obtain ⟨ys, c1, c2⟩ := ih (f := f ad) (K := fun avs h => K (.a ad :: avs) h) (h ad) hg
          exact ⟨_, .a c1, c2⟩
        | _ => simp [appS] at hg
      | x =>
        simp only [appS] at hg
        split at hg
        · rename_i y hy
          obtain ⟨ys, c1, c2⟩ := ih (f := f y) (K := fun avs h => K (.v y :: avs) h) (h y) hg
          exact ⟨_, .x hy c1, c2⟩
        · cases hg

section
variable {P : Program} {qp : Option (List PanicEntry → World → Prop)}

theorem pubAll_sound {ks : List Nat} : ∀ {s : St} {v : World} {K : St → World → Prop} {a : Act} {w : World}, pubAll s v ks K → Rel s v a w → ∃ s' v', Rel s' v' a w ∧ Ext s s' ∧ K s' v' := by
  induction ks with
  | nil => intro s v K a w h hr; exact ⟨s, v, hr, Ext.refl _, h⟩
  | cons k ks ih =>
    intro s v K a w h hr
    obtain ⟨pb, s', _, r1, e1, h1⟩ := pub_sound h hr
    obtain ⟨s2, v2, r2, e2, h2⟩ := ih h1 r1
    exact ⟨s2, v2, r2, e1.trans e2, h2⟩

theorem atS_sound {c : Cut} {J : FnS c.shs (World → Prop)} {sb s : St} {v : World} {a : Act} {w : World} (h : atS c J sb s v) (hr : Rel s v a w) :
    ∃ s1 g, appS c.shs J (c.avs s1) = some g ∧ g w ∧ Rel s1 w a w ∧ Ext s s1 ∧ stabOk sb s1 c.keep = true := by
  obtain ⟨s0, v0, r0, e0, h0⟩ := pubSlots_sound h hr
  obtain ⟨r1, e1, h1⟩ := sync_sound h0 r0
  split at h1
  · rename_i hst
    split at h1
    · rename_i g hg
      exact ⟨_, g, hg, h1, r1, e0.trans e1, hst⟩
    · exact h1.elim
  · exact h1.elim
theorem atS_lam {c : Cut} {F : List AV → World → Prop} {sb s : St} {v : World} {a : Act} {w : World} (h : atS c (lamS c.shs F) sb s v) (hr : Rel s v a w) :
    ∃ s1 ys, Conv c.shs (c.avs s1) ys ∧ F ys w ∧ Rel s1 w a w ∧ Ext s s1 ∧ stabOk sb s1 c.keep = true := by
  obtain ⟨s1, g, hg, h1, r1, e1, hst⟩ := atS_sound h hr
  obtain ⟨ys, hc, rfl⟩ := appS_lam hg
  exact ⟨s1, ys, hc, h1, r1, e1, hst⟩

theorem Nrm.up {s0 s : St} {ds ds' : List (Option Nat)} {a0 a : Act} {K : St → World → Prop} {a' : Act} {w' : World} (h : Nrm s ds a K a' w') (he : Ext s0 s) (hs : SameOut ds' a0 a) (hd : ∀ x ∈ ds, x ∈ ds') : Nrm s0 ds' a0 K a' w' := by
  obtain ⟨s', v', h1, h2, h3, h4⟩ := h
  exact ⟨s', v', h1, he.trans h2, hs.trans (h3.mono hd), h4⟩

theorem vc_sound (hP : PF P) : ∀ (c : Code) (ann : Ann) (Q : Exit → St → World → Prop) {s : St} {v : World} {a : Act} {w : World}, vc P qp c ann Q s v → Rel s v a w → c.wp P (Post qp s (writes c) a Q) a w := by
  intro c
  induction c with
  | skip => intro ann Q s v a w h hr; exact wp_skip ⟨s, v, hr, Ext.refl _, SameOut.refl _ _, h⟩
  | label l => intro ann Q s v a w h hr; exact wp_label ⟨s, v, hr, Ext.refl _, SameOut.refl _ _, h⟩
  | exit id => intro ann Q s v a w h hr; exact wp_exit ⟨s, v, hr, Ext.refl _, SameOut.refl _ _, h⟩
  | ret => intro ann Q s v a w h hr; exact wp_ret ⟨s, v, hr, Ext.refl _, SameOut.refl _ _, h⟩
  | goto l => intro ann Q s v a w h hr; exact h.elim
  | refuse why => intro ann Q s v a w h hr; exact h.elim
  | rangeFunc f ps x y _ _ => intro ann Q s v a w h hr; exact h.elim
  | scope x _ => intro ann Q s v a w h hr; exact h.elim
  | region id ops draw =>
    intro ann Q s v a w h hr
    have hQ : ∀ chain (a' : Act) w', (∃ q, qp = some q ∧ q chain w') → a'.defers = [] → Post qp s (writes (.region id ops draw)) a Q (.panic chain) a' w' := fun chain a' w' hq hd => ⟨hd, hq⟩
    cases draw with
    | false =>
      refine wp_region_list (vcOps_sound (ds := writes (.region id ops false)) hP ops.toList (fun o ho => List.mem_map.2 ⟨o, ho, rfl⟩) h hr (Ext.refl _) (SameOut.refl _ _) hQ (fun a' w' hn => hn))
    | true =>
      simp only [vc] at h
      cases hns : Region.noSelect ops with
      | false => rw [hns] at h; exact h.elim
      | true =>
        rw [hns] at h
        refine wp_region_any hP.mixed ?_
        have r0 : Rel { s with clean := false } v a { w with drawn := w.drawn + 1 } := ⟨hr.defers, hr.size, hr.env, hr.priv, hr.inj, ⟨hr.step.os, hr.step.tape, hr.step.output, hr.step.size, hr.step.blk, hr.step.new, hr.step.nd⟩, (fun h => by cases h), hr.lnk⟩
        have hx : Ext s { s with clean := false } := Ext.of_hp rfl
        have := vcD_sound (ds := writes (.region id ops true)) (a0 := a) (s0 := s) (Q := Post qp s (writes (.region id ops true)) a Q) hP hns (fun o ho => List.mem_map.2 ⟨o, ho, rfl⟩) hQ
          (fun c a' w' dst x hp => ⟨by have := hp.1; cases dst <;> exact this, hp.2⟩) (fun a' w' hn => hn) _ _ h r0 hx hx (SameOut.refl _ _)
          (fun j o _ hl => by
            exfalso
            unfold Lst at hl
            by_cases hj : j < ops.toList.length
            · simp at hj; simp [hj] at hl
            · simp at hj; simp [hj] at hl) (by simp) ops.size (by
              unfold rem
              refine Nat.le_trans (List.length_filter_le _ _) ?_
              simp)
        have h2 := wpAnyE_any _ _ _ _ this
        have e : (List.replicate ops.toList.length false).toArray = Array.replicate ops.size false := by simp
        rw [e] at h2
        exact h2
  | seq x y ihx ihy =>
    intro ann Q s v a w h hr
    have hwx : ∀ d ∈ writes x, d ∈ writes (.seq x y) := fun d hd => List.mem_append_left _ hd
    have hwy : ∀ d ∈ writes y, d ∈ writes (.seq x y) := fun d hd => List.mem_append_right _ hd
    have plain : ∀ (a1 b1 : Ann), vc P qp x a1 (fun e s' v' => match e with
        | .normal => vc P qp y b1 Q s' v'
        | e => Q e s' v') s v → (Code.seq x y).wp P (Post qp s (writes (.seq x y)) a Q) a w := fun a1 b1 h => by
      refine wp_seq (wp_mono (ihx a1 _ h hr) fun e a' w' hp => ?_)
      cases e with
      | normal =>
        obtain ⟨s', v', r1, e1, so1, h1⟩ := hp
        refine wp_mono (ihy b1 Q h1 r1) fun e a2 w2 hp2 => ?_
        cases e with
        | normal => exact hp2.up e1 (so1.mono hwx) hwy
        | exit id => exact hp2.up e1 (so1.mono hwx) hwy
        | ret => exact hp2.up e1 (so1.mono hwx) hwy
        | panic ch => exact hp2
        | goto l => exact hp2
        | outgrown => exact hp2
      | exit id => exact hp.up (Ext.refl _) (SameOut.refl _ _) hwx
      | ret => exact hp.up (Ext.refl _) (SameOut.refl _ _) hwx
      | panic ch => exact hp
      | goto l => exact hp
      | outgrown => exact hp
    cases ann with
    | j c a1 b1 =>
      simp only [vc] at h
      obtain ⟨s1, v1, r1, e1, h1⟩ := pubAll_sound h hr
      have h2 := h1 (lamS c.shs fun avs w => vc P qp y b1 Q (c.st s1 (writes x) avs) w) (allFS_lam fun avs w hw => hw)
      refine wp_seq (wp_mono (ihx a1 _ h2 r1) fun e a' w' hp => ?_)
      cases e with
      | normal =>
        obtain ⟨s', v', r2, e2, so2, h3⟩ := hp
        obtain ⟨s3, ys, hc, hF, r3, e3, hst⟩ := atS_lam h3 r2
        obtain ⟨r4, e4⟩ := cut_rel r1 r3 (e2.trans e3) so2 hst hc
        refine wp_mono (ihy b1 Q hF r4) fun e a2 w2 hp2 => ?_
        cases e with
        | normal => exact hp2.up (e1.trans e4) (so2.mono hwx) hwy
        | exit id => exact hp2.up (e1.trans e4) (so2.mono hwx) hwy
        | ret => exact hp2.up (e1.trans e4) (so2.mono hwx) hwy
        | panic ch => exact hp2
        | goto l => exact hp2
        | outgrown => exact hp2
      | exit id => exact hp.up e1 (SameOut.refl _ _) hwx
      | ret => exact hp.up e1 (SameOut.refl _ _) hwx
      | panic ch => exact hp
      | goto l => exact hp
      | outgrown => exact hp
    | s a1 b1 => exact plain a1 b1 h
    | n => exact plain .n .n h
    | c _ _ => exact plain .n .n h
    | b _ => exact plain .n .n h
    | l _ _ => exact plain .n .n h
    | d _ => exact plain .n .n h
  | cond c x y ihx ihy =>
    intro ann Q s v a w h hr
    have hwx : ∀ d ∈ writes x, d ∈ writes (.cond c x y) := fun d hd => List.mem_append_left _ hd
    have hwy : ∀ d ∈ writes y, d ∈ writes (.cond c x y) := fun d hd => List.mem_append_right _ hd
    have up : ∀ {s1 : St} {ds : List (Option Nat)}, (∀ d ∈ ds, d ∈ writes (.cond c x y)) → Ext s s1 → ∀ e a' w', Post qp s1 ds a Q e a' w' → Post qp s (writes (.cond c x y)) a Q e a' w' := fun hd he e a' w' hp => by
      cases e with
      | normal => exact hp.up he (SameOut.refl _ _) hd
      | exit id => exact hp.up he (SameOut.refl _ _) hd
      | ret => exact hp.up he (SameOut.refl _ _) hd
      | panic ch => exact hp
      | goto l => exact hp
      | outgrown => exact hp
    have hc := hr.evc c
    have know : ∀ b, a.eval c = .bool b → Rel (s.know c b) v a w ∧ Ext s (s.know c b) := fun b hb => by
      cases c with
      | tmp t => exact ⟨hr.put_same (x := .t b) hb, Ext.of_hp rfl⟩
      | const c => exact ⟨hr, Ext.refl _⟩
      | global g => exact ⟨hr, Ext.refl _⟩
      | func f => exact ⟨hr, Ext.refl _⟩
    simp only [vc] at h
    split at h
    · rename_i e
      rw [e] at hc
      exact wp_cond_true hc (wp_mono (ihx _ Q h hr) (up hwx (Ext.refl _)))
    · rename_i e
      rw [e] at hc
      exact wp_cond_false hc (wp_mono (ihy _ Q h hr) (up hwy (Ext.refl _)))
    · rename_i t e
      rw [e] at hc
      have hc : a.eval c = .bool t := hc
      obtain ⟨r1, e1⟩ := know t hc
      cases t with
      | true => exact wp_cond_true hc (wp_mono (ihx _ Q (h.1 rfl) r1) (up hwx e1))
      | false => exact wp_cond_false hc (wp_mono (ihy _ Q (h.2 rfl) r1) (up hwy e1))
    · exact h.elim
  | block id x ih =>
    intro ann Q s v a w h hr
    simp only [vc] at h
    refine wp_block (wp_mono (ih _ _ h hr) fun e a' w' hp => ?_)
    cases e with
    | normal => exact hp
    | exit id' =>
      obtain ⟨s', v', r1, e1, so1, h1⟩ := hp
      by_cases hid : id' = id
      · subst hid
        have hb : Nat.beq id' id' = true := Nat.beq_refl _
        simp only [hb] at h1
        simp only [Exit.inBlock, if_true]
        exact ⟨s', v', r1, e1, so1, h1⟩
      · have hb : Nat.beq id' id = false := by
          cases hb : Nat.beq id' id with
          | false => rfl
          | true => exact absurd (Nat.eq_of_beq_eq_true hb) hid
        simp only [hb] at h1
        simp only [Exit.inBlock, hid, if_false]
        exact ⟨s', v', r1, e1, so1, h1⟩
    | ret => exact hp
    | panic ch => exact hp
    | goto l => exact hp
    | outgrown => exact hp
  | loop x ih =>
    intro ann Q s v a w h hr
    cases ann with
    | l c a1 =>
      simp only [vc] at h
      obtain ⟨s1, v1, r1, e1, I, n0, h0, hround⟩ := pubAll_sound h hr
      -- the relation, of frames and worlds
      let J : Nat → Act → World → Prop := fun n a' w' => ∃ s' v', Rel s' v' a' w' ∧ Ext s1 s' ∧ SameOut (writes x) a a' ∧ atS c (I n) s1 s' v'
      refine wp_loop_ghost J n0 ⟨s1, v1, r1, Ext.refl _, SameOut.refl _ _, h0⟩ fun n a' w' hJ => ?_
      obtain ⟨s', v', r2, e2, so2, hat⟩ := hJ
      obtain ⟨s3, g, hg, h3, r3, e3, hst⟩ := atS_sound hat r2
      obtain ⟨ys, hc, hk⟩ := allFS_app (hround n) hg
      obtain ⟨r4, e4⟩ := cut_rel r1 r3 (e2.trans e3) so2 hst hc
      refine wp_mono (ih a1 _ (hk w' h3) r4) fun e a2 w2 hp => ?_
      cases e with
      | normal =>
        obtain ⟨s5, v5, r5, e5, so5, n', hn', hat'⟩ := hp
        exact ⟨n', hn', s5, v5, r5, e4.trans e5, so2.trans so5, hat'⟩
      | exit id => exact hp.up (e1.trans e4) so2 (fun _ h => h)
      | ret => exact hp.up (e1.trans e4) so2 (fun _ h => h)
      | panic ch => exact hp
      | goto l => exact hp
      | outgrown => exact hp
    | n => exact h.elim
    | s _ _ => exact h.elim
    | j _ _ _ => exact h.elim
    | c _ _ => exact h.elim
    | b _ => exact h.elim
    | d _ => exact h.elim

end
end Go.V
