/- The locks: the reference's lists against the table's model: releasing, who stops whom. -/
import Derived.Test.YtnimejocaaekaaaQD
import Derived.Test.YtnimejocaaekaaaQ9
namespace Go.Proofs.Ytnimejocaaekaaa.Lock
open Go Go.V
set_option linter.unusedVariables false
set_option linter.unusedSimpArgs false
set_option maxRecDepth 20000

variable {h q : List LK} {W : Int → Option Int} {M : Int → IM}
def lgr : Nat → List LK → List LK → Int → (List LK × List LK) × List Int
  | 0, h, q, _ => ((h, q), [])
  | n + 1, h, q, i => match q.find? (onI i) with
    | none => ((h, q), [])
    | some l => if lfits h l = true then ((lgr n (lhold h l) (q.eraseP (onI i)) i).1, l.s :: (lgr n (lhold h l) (q.eraseP (onI i)) i).2) else ((h, q), [])
theorem qOf_find {q : List LK} {i : Int} {l : LK} (h : q.find? (onI i) = some l) : qOf q i = prL l :: qOf (q.eraseP (onI i)) i ∧ ∀ j, j ≠ i → qOf (q.eraseP (onI i)) j = qOf q j := by
  induction q with
  | nil => cases h
  | cons a q ih =>
    rw [List.find?_cons] at h
    rw [List.eraseP_cons]
    cases ha : onI i a with
    | true =>
      rw [ha] at h; injection h with h; subst h
      refine ⟨by simp [qOf, List.filter_cons, ha], fun j hj => ?_⟩
      have : onI j a = false := by simp only [onI, decide_eq_true_eq] at ha; simp [onI, ha, Ne.symm hj]
      simp [qOf, List.filter_cons, this]
    | false =>
      rw [ha] at h
      obtain ⟨h1, h2⟩ := ih h
      refine ⟨?_, fun j hj => ?_⟩
      · simp only [cond_false]
        unfold qOf at h1 ⊢
        rw [List.filter_cons, List.filter_cons, ha]
        simpa using h1
      · have := h2 j hj
        simp only [cond_false]
        unfold qOf at this ⊢
        rw [List.filter_cons, List.filter_cons]
        split <;> simp [this]
theorem qOf_none {q : List LK} {i : Int} (h : q.find? (onI i) = none) : qOf q i = [] := by
  unfold qOf
  rw [List.map_eq_nil_iff, List.filter_eq_nil_iff]
  exact fun a ha => List.find?_eq_none.1 h a ha
theorem RT.hold1 (r : RT h q M) {l : LK} (hl : q.find? (onI l.item) = some l) : RT (lhold h l) (q.eraseP (onI l.item)) (setM M l.item ⟨hold (M l.item).H (prL l), qOf (q.eraseP (onI l.item)) l.item⟩) := by
  obtain ⟨h1, h2⟩ := qOf_find hl
  refine ⟨lhold_nd r.hn _, r.qn.sublist (List.Sublist.map _ List.eraseP_sublist), fun j t => ?_, fun j => ?_⟩
  · rw [lheld_lhold r.hn]
    unfold setM
    by_cases hj : j = l.item
    · rw [if_pos hj, hj]
      show hold (M l.item).H (l.s, l.alone) t = _
      unfold hold
      rw [r.H]
      by_cases ht : t = l.s
      · simp [ht, Bool.or_comm]
      · simp [ht]
    · rw [if_neg hj, if_neg (fun h => hj h.2), r.H]
  · unfold setM
    by_cases hj : j = l.item
    · rw [if_pos hj, hj]
    · rw [if_neg hj, h2 j hj]; exact r.Q j
theorem setM_setM (M : Int → IM) (i : Int) (a b : IM) : setM (setM M i a) i b = setM M i b := by
  funext j; unfold setM; split <;> rfl
theorem setM_at (M : Int → IM) (i : Int) (a : IM) : setM M i a i = a := by unfold setM; rw [if_pos rfl]
theorem lgr_R (i : Int) : ∀ (n : Nat) (h q : List LK) (M : Int → IM), RT h q M → (qOf q i).length ≤ n → RT (lgr n h q i).1.1 (lgr n h q i).1.2 (setM M i (grant (M i).H (M i).Q).1) ∧ (lgr n h q i).2 = (grant (M i).H (M i).Q).2 := by
  have stop : ∀ (h q : List LK) (M : Int → IM), RT h q M → qOf q i = [] → RT h q (setM M i (grant (M i).H (M i).Q).1) ∧ [] = (grant (M i).H (M i).Q).2 := fun h q M r hq => by
    have hQ : (M i).Q = [] := (r.Q i).trans hq
    have e : (⟨(M i).H, []⟩ : IM) = M i := by rw [← hQ]
    rw [hQ, grant]
    refine ⟨?_, rfl⟩
    show RT h q (setM M i ⟨(M i).H, []⟩)
    rw [e, setM_same]; exact r
  intro n
  induction n with
  | zero => intro h q M r hl; exact stop h q M r (List.length_eq_zero_iff.1 (by omega))
  | succ n ih =>
    intro h q M r hl
    rw [lgr]
    cases hf : q.find? (onI i) with
    | none => exact stop h q M r (qOf_none hf)
    | some l =>
      have hli : l.item = i := by have := List.find?_some hf; simpa [onI] using this
      subst hli
      obtain ⟨h1, h2⟩ := qOf_find hf
      have hQ : (M l.item).Q = prL l :: qOf (q.eraseP (onI l.item)) l.item := (r.Q _).trans h1
      have hfit := r.fits l.s l.item l.alone
      rw [hQ, grant]
      by_cases hb : lfits h l = true
      · have hb' : Lock.fits (M l.item).H (prL l) := hfit.1 hb
        simp only [if_pos hb, if_pos hb']
        rw [h1] at hl
        have := ih _ _ _ (r.hold1 hf) (by simpa using hl)
        rw [setM_setM, setM_at] at this
        exact ⟨this.1, by rw [this.2]; rfl⟩
      · have hb' : ¬ Lock.fits (M l.item).H (prL l) := fun h => hb (hfit.2 h)
        simp only [if_neg hb, if_neg hb']
        have e : (⟨(M l.item).H, prL l :: qOf (q.eraseP (onI l.item)) l.item⟩ : IM) = M l.item := by rw [← hQ]
        refine ⟨?_, trivial⟩
        rw [e, setM_same]; exact r

theorem lt_ext : ∀ {l m : List Int}, l.Pairwise (· < ·) → m.Pairwise (· < ·) → (∀ x, x ∈ l ↔ x ∈ m) → l = m
  | [], [], _, _, _ => rfl
  | [], b :: m, _, _, h => absurd ((h b).2 List.mem_cons_self) (by simp)
  | a :: l, [], _, _, h => absurd ((h a).1 List.mem_cons_self) (by simp)
  | a :: l, b :: m, hl, hm, h => by
    rw [List.pairwise_cons] at hl hm
    have e : a = b := by
      rcases List.mem_cons.1 ((h a).1 List.mem_cons_self) with e | e
      · exact e
      · rcases List.mem_cons.1 ((h b).2 List.mem_cons_self) with e' | e'
        · exact e'.symm
        · have := hl.1 b e'; have := hm.1 a e; omega
    subst e
    rw [lt_ext hl.2 hm.2 fun x => ?_]
    constructor
    · intro hx
      rcases List.mem_cons.1 ((h x).1 (List.mem_cons_of_mem _ hx)) with e | e
      · subst e; have := hl.1 x hx; omega
      · exact e
    · intro hx
      rcases List.mem_cons.1 ((h x).2 (List.mem_cons_of_mem _ hx)) with e | e
      · subst e; have := hm.1 x hx; omega
      · exact e
theorem snoc_ind {α : Type} {P : List α → Prop} (h0 : P []) (h1 : ∀ l x, P l → P (l ++ [x])) (l : List α) : P l := by
  have : ∀ l : List α, P l.reverse := fun l => by
    induction l with
    | nil => exact h0
    | cons a l ih => rw [List.reverse_cons]; exact h1 _ _ ih
  have := this l.reverse
  rwa [List.reverse_reverse] at this
theorem pw_snoc {l : List Int} {x : Int} : (l ++ [x]).Pairwise (· < ·) ↔ l.Pairwise (· < ·) ∧ ∀ a ∈ l, a < x := by
  rw [List.pairwise_append]; simp
theorem rst_spec (n : Int) (l : List Int) : l.Pairwise (· < ·) → n ∉ l → (rst n l).1.Pairwise (· < ·) ∧ ((rst n l).2 = true ↔ ∃ x ∈ l, n < x) ∧ ∀ x, x ∈ (rst n l).1 ↔ x ∈ l ∨ (x = n ∧ (rst n l).2 = true) := by
  refine snoc_ind (P := fun l => l.Pairwise (· < ·) → n ∉ l → (rst n l).1.Pairwise (· < ·) ∧ ((rst n l).2 = true ↔ ∃ x ∈ l, n < x) ∧ ∀ x, x ∈ (rst n l).1 ↔ x ∈ l ∨ (x = n ∧ (rst n l).2 = true)) ?_ ?_ l
  · intro _ _; simp [rst]
  · intro l y ih hp hn
    rw [pw_snoc] at hp
    have hny : n ≠ y := fun e => hn (by simp [e])
    obtain ⟨i1, i2, i3⟩ := ih hp.1 (fun h => hn (List.mem_append_left _ h))
    rw [rst_snoc]
    unfold rstep
    cases hd : (rst n l).2 with
    | true =>
      rw [hd] at i2 i3
      obtain ⟨z, hz, hz2⟩ := i2.1 rfl
      have := hp.2 z hz
      rw [if_neg (by simp)]
      refine ⟨pw_snoc.2 ⟨i1, fun a ha => ?_⟩, by simp; exact .inl ⟨z, hz, hz2⟩, fun x => ?_⟩
      · rcases (i3 a).1 ha with h | ⟨h, _⟩
        · exact hp.2 a h
        · omega
      · simp only [List.mem_append, List.mem_singleton, i3]
        constructor
        · rintro ((h | h) | h)
          · exact .inl (.inl h)
          · exact .inr h
          · exact .inl (.inr h)
        · rintro ((h | h) | h)
          · exact .inl (.inl h)
          · exact .inr h
          · exact .inl (.inr h)
    | false =>
      rw [hd] at i2 i3
      have hno : ∀ a ∈ l, a < n := fun a ha => by
        have h1 : ¬ n < a := fun h => by have := i2.2 ⟨a, ha, h⟩; cases this
        have h2 : a ≠ n := fun e => hn (by simp [← e, ha])
        omega
      have i3' : ∀ x, x ∈ (rst n l).1 ↔ x ∈ l := fun x => by rw [i3]; simp
      by_cases hy : n < y
      · rw [if_pos (by simp [hy])]
        refine ⟨?_, by simp; exact .inr hy, fun x => ?_⟩
        · rw [pw_snoc, pw_snoc]
          refine ⟨⟨i1, fun a ha => hno a ((i3' a).1 ha)⟩, fun a ha => ?_⟩
          rcases List.mem_append.1 ha with h | h
          · exact hp.2 a ((i3' a).1 h)
          · rw [List.mem_singleton.1 h]; exact hy
        · simp only [List.mem_append, List.mem_singleton, i3']
          constructor
          · rintro ((h | h) | h)
            · exact .inl (.inl h)
            · exact .inr ⟨h, trivial⟩
            · exact .inl (.inr h)
          · rintro ((h | h) | ⟨h, _⟩)
            · exact .inl (.inl h)
            · exact .inr h
            · exact .inl (.inr h)
      · rw [if_neg (by simp [hy])]
        refine ⟨pw_snoc.2 ⟨i1, fun a ha => hp.2 a ((i3' a).1 ha)⟩, ?_, fun x => by simp [i3']⟩
        constructor
        · intro h; cases h
        · rintro ⟨x, hx, hnx⟩
          rcases List.mem_append.1 hx with h | h
          · have := hno x h; omega
          · rw [List.mem_singleton.1 h] at hnx; exact absurd hnx hy
theorem risL_spec {l : List Int} (hp : l.Pairwise (· < ·)) (n : Int) : (risL l n).Pairwise (· < ·) ∧ ∀ x, x ∈ risL l n ↔ x = n ∨ x ∈ l := by
  unfold risL
  by_cases hn : n ∈ l
  · rw [if_pos hn]
    refine ⟨hp, fun x => ⟨.inr, ?_⟩⟩
    rintro (rfl | h)
    · exact hn
    · exact h
  · rw [if_neg hn]
    obtain ⟨h1, h2, h3⟩ := rst_spec n l hp hn
    by_cases hd : (rst n l).2 = true
    · rw [if_pos hd]
      refine ⟨h1, fun x => ?_⟩
      rw [h3, hd]; simp [or_comm]
    · rw [if_neg hd]
      have hle : ∀ a ∈ l, a < n := fun a ha => by
        have h4 : ¬ n < a := fun h => hd (h2.2 ⟨a, ha, h⟩)
        have h5 : a ≠ n := fun e => hn (by rw [← e]; exact ha)
        omega
      have h3' : ∀ x, x ∈ (rst n l).1 ↔ x ∈ l := fun x => by rw [h3]; simp [hd]
      refine ⟨pw_snoc.2 ⟨h1, fun a ha => hle a ((h3' a).1 ha)⟩, fun x => ?_⟩
      rw [List.mem_append, List.mem_singleton, h3', or_comm]
def risAll (l : List Int) (ns : List Int) : List Int := ns.foldl risL l
theorem risAll_spec (ns : List Int) : ∀ {l : List Int}, l.Pairwise (· < ·) → (risAll l ns).Pairwise (· < ·) ∧ ∀ x, x ∈ risAll l ns ↔ x ∈ ns ∨ x ∈ l := by
  induction ns with
  | nil => intro l h; exact ⟨h, fun x => by simp [risAll]⟩
  | cons n ns ih =>
    intro l h
    obtain ⟨h1, h2⟩ := risL_spec h n
    obtain ⟨h3, h4⟩ := ih h1
    refine ⟨h3, fun x => ?_⟩
    show x ∈ risAll (risL l n) ns ↔ _
    rw [h4, h2, List.mem_cons, ← or_assoc, or_comm (a := x ∈ ns)]
theorem risAll_snoc (l ns : List Int) (n : Int) : risAll l (ns ++ [n]) = risL (risAll l ns) n := by simp [risAll]

def isS (s : Int) (a : LK) : Bool := decide (a.s = s)
def ritems (h q : List LK) (s : Int) : List Int := risAll (risAll [] ((h.filter (isS s)).map (·.item))) ((q.filter (isS s)).map (·.item))
abbrev LR := (List LK × List LK) × List Int
def lrun (x : LR) (i : Int) : LR := ((lgr x.1.2.length x.1.1 x.1.2 i).1, x.2 ++ (lgr x.1.2.length x.1.1 x.1.2 i).2)
def lrel (h q : List LK) (s : Int) : LR := (ritems h q s).foldl lrun ((h.filter fun a => !isS s a, q.filter fun a => !isS s a), [])
theorem lheld_drop (l : List LK) (s i t : Int) : lheld (l.filter fun a => !isS s a) t i = if t = s then none else lheld l t i := by
  induction l with
  | nil => simp [lheld_eq]
  | cons b l ih =>
    rw [List.filter_cons, lheld_cons]
    cases hb : isS s b with
    | true =>
      have hb' : b.s = s := by simpa [isS] using hb
      rw [if_neg (by simp), ih]
      by_cases h : t = s
      · rw [if_pos h, if_pos h]
      · rw [if_neg h, if_neg h, if_neg]
        intro h2
        exact h ((isL_iff.1 h2).1.symm.trans hb')
    | false =>
      have hb' : b.s ≠ s := by simpa [isS] using hb
      rw [if_pos (by simp), lheld_cons, ih]
      by_cases h2 : isL t i b = true
      · rw [if_pos h2, if_pos h2, if_neg (fun e => hb' ((isL_iff.1 h2).1.trans e))]
      · rw [if_neg h2, if_neg h2]
theorem qOf_drop (q : List LK) (s i : Int) : qOf (q.filter fun a => !isS s a) i = (qOf q i).filter fun a => !decide (a.1 = s) := by
  induction q with
  | nil => rfl
  | cons a q ih =>
    unfold qOf at ih ⊢
    rw [List.filter_cons, List.filter_cons]
    cases hs : isS s a with
    | true =>
      have hs' : a.s = s := by simpa [isS] using hs
      rw [if_neg (by simp), ih]
      split
      · simp [prL, hs']
      · rfl
    | false =>
      have hs' : a.s ≠ s := by simpa [isS] using hs
      rw [if_pos (by simp), List.filter_cons]
      split
      · rw [List.map_cons, List.map_cons, List.filter_cons, if_pos (by simp [prL, hs']), ih]
      · exact ih
theorem RT.drop (r : RT h q M) (s : Int) : RT (h.filter fun a => !isS s a) (q.filter fun a => !isS s a) (fun i => ⟨drop (M i).H s, (M i).Q.filter fun a => !decide (a.1 = s)⟩) := by
  refine ⟨r.hn.sublist (List.Sublist.map _ List.filter_sublist), r.qn.sublist (List.Sublist.map _ List.filter_sublist), fun i t => ?_, fun i => ?_⟩
  · rw [lheld_drop]
    show Lock.drop (M i).H s t = _
    unfold Lock.drop
    rw [r.H]
  · rw [qOf_drop, ← r.Q]
theorem qOf_le (q : List LK) (i : Int) : (qOf q i).length ≤ q.length := by
  unfold qOf; rw [List.length_map]; exact List.length_filter_le _ _
theorem lrun_R (M : Int → IM) (s : Int) : ∀ (L : List Int) (P : List Int) (x : LR), (P ++ L).Nodup → RT x.1.1 x.1.2 (fun i => if i ∈ P then (rel s (M i)).1 else ⟨drop (M i).H s, (M i).Q.filter fun a => !decide (a.1 = s)⟩) → x.2 = P.flatMap (fun i => (rel s (M i)).2) →
    RT (L.foldl lrun x).1.1 (L.foldl lrun x).1.2 (fun i => if i ∈ P ++ L then (rel s (M i)).1 else ⟨drop (M i).H s, (M i).Q.filter fun a => !decide (a.1 = s)⟩) ∧ (L.foldl lrun x).2 = (P ++ L).flatMap (fun i => (rel s (M i)).2)
  | [], P, x, hn, r, hx => by simpa using ⟨r, hx⟩
  | i :: L, P, x, hn, r, hx => by
    have e : P ++ i :: L = (P ++ [i]) ++ L := by simp
    rw [e] at hn ⊢
    rw [List.foldl_cons]
    have hiP : i ∉ P := by
      have := (List.nodup_append.1 (List.nodup_append.1 hn).1).2.2
      intro h; exact this i h i (by simp) rfl
    obtain ⟨g1, g2⟩ := lgr_R i x.1.2.length x.1.1 x.1.2 _ r (qOf_le _ _)
    refine lrun_R M s L (P ++ [i]) (lrun x i) hn ?_ ?_
    · have e2 : (fun j => if j ∈ P ++ [i] then (rel s (M j)).1 else ⟨drop (M j).H s, (M j).Q.filter fun a => !decide (a.1 = s)⟩) = setM (fun j => if j ∈ P then (rel s (M j)).1 else ⟨drop (M j).H s, (M j).Q.filter fun a => !decide (a.1 = s)⟩) i (rel s (M i)).1 := by
        funext j
        unfold setM
        by_cases hj : j = i
        · subst hj; simp
        · simp [hj]
      rw [e2]
      simp only [if_neg hiP] at g1
      exact g1
    · simp only [if_neg hiP] at g2
      show x.2 ++ _ = _
      rw [g2, hx, List.flatMap_append]
      simp [rel]
theorem lrel_R (r : RT h q M) (s : Int) {K : List Int} (hK : K.Pairwise (· < ·)) (hin : ∀ i, inv M s i → i ∈ K) : RT (lrel h q s).1.1 (lrel h q s).1.2 (relM M s K) ∧ (lrel h q s).2 = outs M s K := by
  obtain ⟨s1, s2⟩ := risAll_spec ((h.filter (isS s)).map (·.item)) (l := []) List.Pairwise.nil
  obtain ⟨t1, t2⟩ := risAll_spec ((q.filter (isS s)).map (·.item)) s1
  have hmem : ∀ i, i ∈ ritems h q s ↔ inv M s i := fun i => by
    show i ∈ risAll _ _ ↔ _
    rw [t2, s2]
    unfold inv
    rw [r.H, r.Q]
    constructor
    · rintro (hq | hh | hh)
      · obtain ⟨a, ha, rfl⟩ := List.mem_map.1 hq
        obtain ⟨a1, a2⟩ := List.mem_filter.1 ha
        exact .inr ⟨(a.s, a.alone), qOf_mem.2 a1, by simpa [isS] using a2⟩
      · obtain ⟨a, ha, rfl⟩ := List.mem_map.1 hh
        obtain ⟨a1, a2⟩ := List.mem_filter.1 ha
        have e : a.s = s := by simpa [isS] using a2
        left; rw [← e, (lheld_mem r.hn a).1 a1]; rfl
      · cases hh
    · rintro (hh | ⟨a, ha, e⟩)
      · cases hl : lheld h s i with
        | none => rw [hl] at hh; cases hh
        | some al =>
          have := lheld_some hl
          exact .inr (.inl (List.mem_map.2 ⟨_, List.mem_filter.2 ⟨this, by simp [isS]⟩, rfl⟩))
      · obtain ⟨a1, a2⟩ := a
        have := qOf_mem.1 ha
        have e : a1 = s := e
        exact .inl (List.mem_map.2 ⟨_, List.mem_filter.2 ⟨this, by simp [isS, e]⟩, rfl⟩)
  have hnd : (ritems h q s).Nodup := t1.imp (fun h => by omega)
  obtain ⟨g1, g2⟩ := lrun_R M s (ritems h q s) [] ((h.filter fun a => !isS s a, q.filter fun a => !isS s a), []) (by simpa using hnd) (by simpa using r.drop s) rfl
  rw [List.nil_append] at g1 g2
  have hno : ∀ i, ¬ inv M s i → (⟨drop (M i).H s, (M i).Q.filter fun a => !decide (a.1 = s)⟩ : IM) = M i := fun i hi => by
    have e1 : drop (M i).H s = (M i).H := by
      funext t; unfold Lock.drop
      split
      · rename_i e; subst e
        cases hh : (M i).H t with
        | none => rfl
        | some b => exact absurd (.inl (by rw [hh]; rfl)) hi
      · rfl
    have e2 : ((M i).Q.filter fun a => !decide (a.1 = s)) = (M i).Q := List.filter_eq_self.2 fun a ha => by simpa using fun e => hi (.inr ⟨a, ha, e⟩)
    rw [e1, e2]
  constructor
  · have e : (fun i => if i ∈ ritems h q s then (rel s (M i)).1 else ⟨drop (M i).H s, (M i).Q.filter fun a => !decide (a.1 = s)⟩) = relM M s K := by
      funext i
      unfold relM relI
      by_cases hi : inv M s i
      · rw [if_pos ((hmem i).2 hi), if_pos (hin i hi), if_pos hi]
      · rw [if_neg (fun h => hi ((hmem i).1 h)), hno i hi]
        split
        · rfl
        · rfl
    rw [← e]; exact g1
  · show ((ritems h q s).foldl lrun _).2 = _
    rw [g2]
    classical
    have e : ritems h q s = K.filter fun i => decide (inv M s i) := lt_ext t1 (hK.filter _) fun i => by
      rw [hmem, List.mem_filter]
      exact ⟨fun h => ⟨hin i h, by simpa using h⟩, fun h => by simpa using h.2⟩
    rw [e]
    unfold outs
    clear e g1 g2 hmem hin hK hnd
    induction K with
    | nil => rfl
    | cons i K ih =>
      rw [List.filter_cons, List.flatMap_cons]
      by_cases hi : inv M s i
      · rw [if_pos (by simpa using hi), List.flatMap_cons, ih]
        congr 1
        unfold relI; rw [if_pos hi]
      · rw [if_neg (by simpa using hi), ih]
        unfold relI; rw [if_neg hi]; rfl

/-- Who stops a session, by the lists. -/
def stopL (l a : LK) : Bool := decide (a.item = l.item) && !decide (a.s = l.s) && (a.alone || l.alone)
def lblock (h q : List LK) (s : Int) : List Int := match q.find? (isS s) with
  | none => []
  | some l => risAll (risAll [] ((h.filter (stopL l)).map (·.s))) (((q.takeWhile fun a => !isS s a).filter (onI l.item)).map (·.s))
theorem lblock_none (h : List LK) {q : List LK} {s : Int} (hw : waitL q s = none) : lblock h q s = [] := by
  unfold waitL at hw
  rw [Option.map_eq_none_iff] at hw
  unfold lblock
  have : q.find? (isS s) = none := hw
  rw [this]
theorem tw_find {q : List LK} {s : Int} {l : LK} (h : q.find? (isS s) = some l) : ∃ post, q = (q.takeWhile fun a => !isS s a) ++ l :: post ∧ l.s = s ∧ ∀ a ∈ (q.takeWhile fun a => !isS s a), a.s ≠ s := by
  induction q with
  | nil => cases h
  | cons a q ih =>
    rw [List.find?_cons] at h
    rw [List.takeWhile_cons]
    cases ha : isS s a with
    | true =>
      rw [ha] at h; injection h with h; subst h
      exact ⟨q, by simp, by simpa [isS] using ha, by simp⟩
    | false =>
      rw [ha] at h
      obtain ⟨post, h1, h2, h3⟩ := ih h
      refine ⟨post, ?_, h2, ?_⟩
      · simp only [Bool.not_false, if_true, List.cons_append]
        exact congrArg _ h1
      · simp only [Bool.not_false, if_true, List.mem_cons]
        rintro b (rfl | hb)
        · simpa [isS] using ha
        · exact h3 b hb
theorem lblock_R (r : RT h q M) (ok : TOk W M) {s i : Int} {al : Bool} (hw : W s = some i) (hm : (s, al) ∈ (M i).Q) {l : List Int} (hl : l.Pairwise (· < ·)) (hb : ∀ x, x ∈ l ↔ blocks (M i) s al x) : l = lblock h q s := by
  rw [r.Q] at hm
  have hm := qOf_mem.1 hm
  have hf : q.find? (isS s) = some ⟨s, i, al⟩ := find_s r.qn hm
  obtain ⟨post, e, _, hno⟩ := tw_find hf
  unfold lblock
  rw [hf]
  obtain ⟨s1, s2⟩ := risAll_spec ((h.filter (stopL ⟨s, i, al⟩)).map (·.s)) (l := []) List.Pairwise.nil
  obtain ⟨t1, t2⟩ := risAll_spec (((q.takeWhile fun a => !isS s a).filter (onI i)).map (·.s)) s1
  refine lt_ext hl t1 fun x => ?_
  show _ ↔ x ∈ risAll _ _
  rw [hb, t2, s2]
  unfold blocks stopsP
  have hQ : (M i).Q = qOf (q.takeWhile fun a => !isS s a) i ++ (s, al) :: qOf post i := by
    rw [r.Q]
    conv => lhs; rw [e]
    rw [qOf_app]
    congr 1
    show qOf ([⟨s, i, al⟩] ++ post) i = _
    rw [qOf_app, qOf_one, if_pos rfl]; rfl
  have e1 : (∃ has, (M i).H x = some has ∧ x ≠ s ∧ (has = true ∨ al = true)) ↔ x ∈ (h.filter (stopL ⟨s, i, al⟩)).map (·.s) := by
    rw [r.H, List.mem_map]
    constructor
    · rintro ⟨has, h1, h2, h3⟩
      exact ⟨_, List.mem_filter.2 ⟨lheld_some h1, by simp [stopL, h2, h3]⟩, rfl⟩
    · rintro ⟨a, ha, rfl⟩
      obtain ⟨h1, h2⟩ := List.mem_filter.1 ha
      simp only [stopL, Bool.and_eq_true, Bool.not_eq_true', decide_eq_true_eq, decide_eq_false_iff_not, Bool.or_eq_true] at h2
      exact ⟨a.alone, by rw [← h2.1.1]; exact (lheld_mem r.hn a).1 h1, h2.1.2, h2.2⟩
  have e2 : ((qOf (q.takeWhile fun a => !isS s a) i).map (·.1)) = ((q.takeWhile fun a => !isS s a).filter (onI i)).map (·.s) := by
    unfold qOf; rw [List.map_map]; rfl
  have hno2 : ∀ a ∈ qOf (q.takeWhile fun a => !isS s a) i, a.1 ≠ s := fun a ha => by
    obtain ⟨a1, a2⟩ := a
    exact hno _ (qOf_mem.1 ha)
  rw [e1, ← e2]
  have e3 : (∃ j, ∃ hj : j < (M i).Q.length, (M i).Q[j].1 = s ∧ (∀ a ∈ (M i).Q.take j, a.1 ≠ s) ∧ x ∈ ((M i).Q.take j).map (·.1)) ↔ x ∈ (qOf (q.takeWhile fun a => !isS s a) i).map (·.1) := by
    constructor
    · rintro ⟨j, hj, h1, h2, h3⟩
      have : j = (qOf (q.takeWhile fun a => !isS s a) i).length := by
        rcases Nat.lt_trichotomy j (qOf (q.takeWhile fun a => !isS s a) i).length with hh | hh | hh
        · have := hno2 _ (List.getElem_mem hh)
          simp only [hQ, List.getElem_append_left hh] at h1
          exact absurd h1 this
        · exact hh
        · exfalso
          refine h2 (s, al) ?_ rfl
          rw [hQ, List.mem_take_iff_getElem]
          refine ⟨(qOf (q.takeWhile fun a => !isS s a) i).length, by rw [hQ] at hj; omega, ?_⟩
          simp
      subst this
      rw [hQ, List.take_left] at h3
      exact h3
    · intro hx
      refine ⟨(qOf (q.takeWhile fun a => !isS s a) i).length, by rw [hQ]; simp, ?_, ?_, ?_⟩
      · simp [hQ]
      · rw [hQ, List.take_left]; exact hno2
      · rw [hQ, List.take_left]; exact hx
  rw [e3, or_comm]
  simp
end Go.Proofs.Ytnimejocaaekaaa.Lock
