/- The locks: the reference's lists against the table's model: holding, asking. -/
import Derived.Test.YtnimejocaaekaaaQT
import Derived.Test.YtnimejocaaekaaaQC
namespace Go.Proofs.Ytnimejocaaekaaa.Lock
open Go Go.V
set_option linter.unusedVariables false
set_option linter.unusedSimpArgs false
set_option maxRecDepth 20000

def isL (s i : Int) (a : LK) : Bool := decide (a.s = s) && decide (a.item = i)
theorem isL_iff {s i : Int} {a : LK} : isL s i a = true ↔ a.s = s ∧ a.item = i := by simp [isL]
def keyL (a : LK) : Int × Int := (a.s, a.item)
def prL (a : LK) : AskM := (a.s, a.alone)
def onI (i : Int) (a : LK) : Bool := decide (a.item = i)
def qOf (q : List LK) (i : Int) : List AskM := (q.filter (onI i)).map prL
theorem lheld_eq (l : List LK) (s i : Int) : lheld l s i = (l.find? (isL s i)).map (·.alone) := rfl
theorem lheld_cons (a : LK) (l : List LK) (s i : Int) : lheld (a :: l) s i = if isL s i a = true then some a.alone else lheld l s i := by
  rw [lheld_eq, List.find?_cons, lheld_eq]
  cases isL s i a <;> simp
theorem lheld_app (l m : List LK) (s i : Int) : lheld (l ++ m) s i = (lheld l s i).or (lheld m s i) := by
  rw [lheld_eq, List.find?_append, lheld_eq, lheld_eq]
  cases l.find? (isL s i) <;> simp
theorem lheld_mem {l : List LK} (hn : (l.map keyL).Nodup) (a : LK) : a ∈ l ↔ lheld l a.s a.item = some a.alone := by
  induction l with
  | nil => simp [lheld_eq]
  | cons b l ih =>
    rw [List.map_cons, List.nodup_cons] at hn
    rw [lheld_cons, List.mem_cons]
    cases h : isL a.s a.item b with
    | true =>
      have h' := isL_iff.1 h
      rw [if_pos rfl]
      constructor
      · rintro (rfl | hm)
        · rfl
        · exact absurd (List.mem_map.2 ⟨a, hm, by simp [keyL, h'.1, h'.2]⟩) hn.1
      · intro e
        left
        injection e with e
        cases a; cases b; simp at h' e; simp [h'.1, h'.2, e]
    | false =>
      rw [if_neg (by simp), ← ih hn.2]
      constructor
      · rintro (rfl | hm)
        · rw [isL_iff.2 ⟨rfl, rfl⟩] at h; cases h
        · exact hm
      · exact .inr
theorem lheld_some {l : List LK} {s i : Int} {al : Bool} (h : lheld l s i = some al) : ⟨s, i, al⟩ ∈ l := by
  rw [lheld_eq] at h
  cases hf : l.find? (isL s i) with
  | none => rw [hf] at h; cases h
  | some a =>
    rw [hf] at h; injection h with h
    have h1 := List.find?_some hf
    have h2 := List.mem_of_find?_eq_some hf
    have h3 := isL_iff.1 h1
    cases a; simp at h3 h; rw [← h3.1, ← h3.2, ← h]; exact h2

def lhold (l : List LK) (a : LK) : List LK := l.filter (fun h => !isL a.s a.item h) ++ [⟨a.s, a.item, a.alone || l.any fun h => isL a.s a.item h && h.alone⟩]
theorem lheld_filter (l : List LK) (s i s' i' : Int) : lheld (l.filter fun h => !isL s i h) s' i' = if s' = s ∧ i' = i then none else lheld l s' i' := by
  induction l with
  | nil => simp [lheld_eq]
  | cons b l ih =>
    rw [List.filter_cons, lheld_cons]
    cases hb : isL s i b with
    | true =>
      have hb' := isL_iff.1 hb
      rw [if_neg (by simp), ih]
      by_cases h : s' = s ∧ i' = i
      · rw [if_pos h, if_pos h]
      · rw [if_neg h, if_neg h, if_neg]
        intro h2
        have := isL_iff.1 h2
        exact h ⟨this.1.symm.trans hb'.1, this.2.symm.trans hb'.2⟩
    | false =>
      rw [if_pos (by simp), lheld_cons, ih]
      by_cases h2 : isL s' i' b = true
      · rw [if_pos h2, if_pos h2, if_neg]
        rintro ⟨rfl, rfl⟩; rw [h2] at hb; cases hb
      · rw [if_neg h2, if_neg h2]
theorem any_alone {l : List LK} (hn : (l.map keyL).Nodup) (s i : Int) : (l.any fun h => isL s i h && h.alone) = (lheld l s i).getD false := by
  cases h : lheld l s i with
  | none =>
    rw [Option.getD_none, List.any_eq_false]
    intro a ha
    simp only [Bool.and_eq_true, not_and]
    intro h1
    have := isL_iff.1 h1
    have := (lheld_mem hn a).1 ha
    rw [‹a.s = s ∧ a.item = i›.1, ‹a.s = s ∧ a.item = i›.2, h] at this; cases this
  | some al =>
    rw [Option.getD_some]
    have hm := lheld_some h
    cases al with
    | true => rw [List.any_eq_true]; exact ⟨_, hm, by simp [isL]⟩
    | false =>
      rw [List.any_eq_false]
      intro a ha
      simp only [Bool.and_eq_true, not_and]
      intro h1 h2
      have h3 := isL_iff.1 h1
      have := (lheld_mem hn a).1 ha
      rw [h3.1, h3.2, h, h2] at this; cases this
theorem lheld_lhold {l : List LK} (hn : (l.map keyL).Nodup) (a : LK) (s i : Int) : lheld (lhold l a) s i = if s = a.s ∧ i = a.item then some (a.alone || (lheld l a.s a.item).getD false) else lheld l s i := by
  unfold lhold
  rw [lheld_app, lheld_filter, lheld_cons, any_alone hn]
  by_cases h : s = a.s ∧ i = a.item
  · rw [if_pos h, if_pos h, if_pos (by rw [isL_iff]; exact ⟨h.1.symm, h.2.symm⟩)]; simp
  · rw [if_neg h, if_neg h, if_neg (by rw [isL_iff]; exact fun h2 => h ⟨h2.1.symm, h2.2.symm⟩)]
    simp [lheld_eq]
theorem lhold_nd {l : List LK} (hn : (l.map keyL).Nodup) (a : LK) : ((lhold l a).map keyL).Nodup := by
  unfold lhold
  rw [List.map_append, List.nodup_append]
  refine ⟨hn.sublist (List.Sublist.map _ List.filter_sublist), by simp, ?_⟩
  intro x hx y hy
  obtain ⟨b, hb, rfl⟩ := List.mem_map.1 hx
  simp only [List.map_cons, List.map_nil, List.mem_singleton] at hy
  subst hy
  have := (List.mem_filter.1 hb).2
  intro e
  simp only [keyL, Prod.mk.injEq] at e
  rw [isL_iff.2 ⟨e.1, e.2⟩] at this; cases this

/-- The reference's lists are the table's model. -/
structure RT (h q : List LK) (M : Int → IM) : Prop where
  hn : (h.map keyL).Nodup
  qn : (q.map (·.s)).Nodup
  H : ∀ i s, (M i).H s = lheld h s i
  Q : ∀ i, (M i).Q = qOf q i
variable {h q : List LK} {W : Int → Option Int} {M : Int → IM}
theorem RT.empty : RT [] [] (fun _ => IM.none) := ⟨by simp, by simp, fun _ _ => rfl, fun _ => rfl⟩
theorem qOf_mem {q : List LK} {s i : Int} {al : Bool} : (s, al) ∈ qOf q i ↔ ⟨s, i, al⟩ ∈ q := by
  unfold qOf
  rw [List.mem_map]
  constructor
  · rintro ⟨a, ha, e⟩
    obtain ⟨h1, h2⟩ := List.mem_filter.1 ha
    simp only [onI, decide_eq_true_eq] at h2
    simp only [prL, Prod.mk.injEq] at e
    cases a; simp at h2 e; rw [← h2, ← e.1, ← e.2]; exact h1
  · intro hm
    exact ⟨_, List.mem_filter.2 ⟨hm, by simp [onI]⟩, rfl⟩
theorem RT.fits (r : RT h q M) (s i : Int) (al : Bool) : lfits h ⟨s, i, al⟩ = true ↔ fits (M i).H (s, al) := by
  unfold lfits Lock.fits
  rw [List.all_eq_true]
  constructor
  · intro hall x b hx hne
    rw [r.H] at hx
    have := hall _ (lheld_some hx)
    simp only [decide_true, Bool.true_and] at this
    have hne : ¬ x = s := hne
    simp [hne] at this
    simpa using this
  · intro hf a ha
    have hm := (lheld_mem r.hn a).1 ha
    by_cases hi : a.item = i
    · by_cases hs : a.s = s
      · simp [hs]
      · have := hf a.s a.alone (by rw [r.H, ← hi]; exact hm) hs
        have h2 : al = false := this.2
        simp [this.1, h2]
    · simp [hi]
/-- For which item a session waits. -/
def waitL (q : List LK) (s : Int) : Option Int := (q.find? fun a => decide (a.s = s)).map (·.item)
theorem find_s {q : List LK} (hn : (q.map (·.s)).Nodup) {a : LK} (ha : a ∈ q) : q.find? (fun b => decide (b.s = a.s)) = some a := by
  induction q with
  | nil => cases ha
  | cons b q ih =>
    rw [List.map_cons, List.nodup_cons] at hn
    rw [List.find?_cons]
    rcases List.mem_cons.1 ha with rfl | ha
    · simp
    · have : b.s ≠ a.s := fun e => hn.1 (List.mem_map.2 ⟨a, ha, e.symm⟩)
      simp [this, ih hn.2 ha]
theorem RT.waits (r : RT h q M) (ok : TOk W M) (s : Int) : W s = waitL q s := by
  unfold waitL
  cases hf : q.find? fun a => decide (a.s = s) with
  | none =>
    have hno := List.find?_eq_none.1 hf
    cases hw : W s with
    | none => rfl
    | some i =>
      obtain ⟨al, hm⟩ := (ok.one s i).1 hw
      rw [r.Q, qOf_mem] at hm
      exact absurd (decide_eq_true rfl) (hno _ hm)
  | some a =>
    have h1 := List.find?_some hf
    have h2 := List.mem_of_find?_eq_some hf
    simp only [decide_eq_true_eq] at h1
    rw [Option.map_some, ok.one]
    refine ⟨a.alone, ?_⟩
    rw [r.Q, qOf_mem, ← h1]; exact h2

def lput (h q : List LK) (l : LK) : List LK :=
  if (lheld h l.s l.item).isSome = true then q.takeWhile (fun a => !(onI l.item a && !(lheld h a.s l.item).isSome)) ++ [l] ++ q.dropWhile (fun a => !(onI l.item a && !(lheld h a.s l.item).isSome)) else q ++ [l]
theorem qOf_app (p q : List LK) (i : Int) : qOf (p ++ q) i = qOf p i ++ qOf q i := by simp [qOf]
theorem qOf_one (a : LK) (i : Int) : qOf [a] i = if a.item = i then [(a.s, a.alone)] else [] := by
  unfold qOf
  by_cases h : a.item = i <;> simp [List.filter_cons, onI, h, prL]
theorem tw_filter (f p : LK → Bool) (P : AskM → Bool) (hp : ∀ a, f a = true → p a = P (prL a)) (hq : ∀ a, f a = false → p a = true) (q : List LK) :
    ((q.takeWhile p).filter f).map prL = ((q.filter f).map prL).takeWhile P ∧ ((q.dropWhile p).filter f).map prL = ((q.filter f).map prL).dropWhile P := by
  induction q with
  | nil => simp
  | cons a q ih =>
    rw [List.takeWhile_cons, List.dropWhile_cons]
    cases hf : f a with
    | false =>
      rw [hq a hf]
      simp only [if_true, List.filter_cons, hf, Bool.false_eq_true, if_false]
      exact ih
    | true =>
      cases hpa : p a with
      | true =>
        have : P (prL a) = true := by rw [← hp a hf, hpa]
        simp only [if_true, List.filter_cons, hf, List.map_cons, List.takeWhile_cons, List.dropWhile_cons, this]
        exact ⟨by rw [ih.1], ih.2⟩
      | false =>
        have : P (prL a) = false := by rw [← hp a hf, hpa]
        simp [List.filter_cons, hf, List.takeWhile_cons, List.dropWhile_cons, this]
theorem take_tw {α : Type} (p : α → Bool) (l : List α) : l.take (l.takeWhile p).length = l.takeWhile p ∧ l.drop (l.takeWhile p).length = l.dropWhile p := by
  induction l with
  | nil => simp
  | cons a l ih =>
    rw [List.takeWhile_cons, List.dropWhile_cons]
    cases p a <;> simp [ih.1, ih.2]
theorem putQ_eq (H : Holders) (Q : List AskM) (a : AskM) : putQ H Q a = if (H a.1).isSome = true then Q.takeWhile (fun q => (H q.1).isSome) ++ [a] ++ Q.dropWhile (fun q => (H q.1).isSome) else Q ++ [a] := by
  unfold putQ placeQ
  split
  · rw [(take_tw _ Q).1, (take_tw _ Q).2]
  · simp
theorem lput_mem {h q : List LK} {l x : LK} : x ∈ lput h q l ↔ x = l ∨ x ∈ q := by
  unfold lput
  split
  · have : ∀ p : LK → Bool, x ∈ q ↔ x ∈ q.takeWhile p ∨ x ∈ q.dropWhile p := fun p => by rw [← List.mem_append, List.takeWhile_append_dropWhile]
    rw [List.mem_append, List.mem_append, List.mem_singleton, this]
    constructor
    · rintro ((h | h) | h)
      · exact .inr (.inl h)
      · exact .inl h
      · exact .inr (.inr h)
    · rintro (h | h | h)
      · exact .inl (.inr h)
      · exact .inl (.inl h)
      · exact .inr h
  · simp [or_comm]
theorem lput_perm (h q : List LK) (l : LK) : (lput h q l).Perm (l :: q) := by
  unfold lput
  split
  · have := @List.takeWhile_append_dropWhile LK (fun a => !(onI l.item a && !(lheld h a.s l.item).isSome)) q
    conv => rhs; rw [← this]
    rw [List.append_assoc, List.singleton_append]
    exact List.perm_middle
  · exact (List.perm_append_singleton l q)
theorem lput_q (r : RT h q M) (l : LK) (i : Int) : qOf (lput h q l) i = if i = l.item then putQ (M i).H (M i).Q (l.s, l.alone) else qOf q i := by
  have hH : (M l.item).H = fun s => lheld h s l.item := funext fun s => r.H _ _
  by_cases hi : i = l.item
  · subst hi
    rw [if_pos rfl, putQ_eq, hH, r.Q]
    unfold lput
    show _ = if (lheld h l.s l.item).isSome = true then _ else _
    by_cases hs : (lheld h l.s l.item).isSome = true
    · rw [if_pos hs, if_pos hs, qOf_app, qOf_app, qOf_one, if_pos rfl]
      obtain ⟨e1, e2⟩ := tw_filter (onI l.item) (fun a => !(onI l.item a && !(lheld h a.s l.item).isSome)) (fun q => (lheld h q.1 l.item).isSome) (fun a ha => by simp [ha, prL]) (fun a ha => by simp [ha]) q
      unfold qOf
      rw [e1, e2]
    · rw [if_neg hs, if_neg hs, qOf_app, qOf_one, if_pos rfl]
  · rw [if_neg hi]
    have hne : ¬ l.item = i := fun e => hi e.symm
    unfold lput
    split
    · have := @List.takeWhile_append_dropWhile LK (fun a => !(onI l.item a && !(lheld h a.s l.item).isSome)) q
      conv => rhs; rw [← this]
      rw [qOf_app, qOf_app, qOf_one, if_neg hne, qOf_app, List.append_nil]
    · rw [qOf_app, qOf_one, if_neg hne, List.append_nil]

def lask (h q : List LK) (s i : Int) (al : Bool) : (List LK × List LK) × Int :=
  if s < 1 ∨ 16 < s then ((h, q), 1) else if (waitL q s).isSome = true then ((h, q), 171) else
  if (lheld h s i).isSome = true ∧ ((lheld h s i).getD false = true ∨ al = false) then ((h, q), 0) else
  if lfits h ⟨s, i, al⟩ = true ∧ ((lheld h s i).isSome = true ∨ q.any (onI i) = false) then ((lhold h ⟨s, i, al⟩, q), 0) else
  ((h, lput h q ⟨s, i, al⟩), 160)
theorem qOf_nil (q : List LK) (i : Int) : q.any (onI i) = false ↔ qOf q i = [] := by
  unfold qOf
  rw [List.map_eq_nil_iff, List.filter_eq_nil_iff, List.any_eq_false]
theorem lask_R (r : RT h q M) (ok : TOk W M) (s i : Int) (al : Bool) : RT (lask h q s i al).1.1 (lask h q s i al).1.2 (ask W M s i al).2.1 ∧ (lask h q s i al).2 = (ask W M s i al).2.2 := by
  unfold lask ask
  by_cases h1 : s < 1 ∨ 16 < s
  · rw [if_pos h1, if_pos h1]; exact ⟨r, rfl⟩
  rw [if_neg h1, if_neg h1, r.waits ok s]
  by_cases h2 : (waitL q s).isSome = true
  · rw [if_pos h2, if_pos h2]; exact ⟨r, rfl⟩
  rw [if_neg h2, if_neg h2, r.H]
  by_cases h3 : (lheld h s i).isSome = true ∧ ((lheld h s i).getD false = true ∨ al = false)
  · rw [if_pos h3, if_pos h3]; exact ⟨r, rfl⟩
  rw [if_neg h3, if_neg h3]
  have e4 : (lfits h ⟨s, i, al⟩ = true ∧ ((lheld h s i).isSome = true ∨ q.any (onI i) = false)) ↔ (fits (M i).H (s, al) ∧ ((lheld h s i).isSome = true ∨ (M i).Q = [])) := by rw [r.fits, qOf_nil, r.Q]
  by_cases h4 : fits (M i).H (s, al) ∧ ((lheld h s i).isSome = true ∨ (M i).Q = [])
  · rw [if_pos (e4.2 h4), if_pos h4]
    refine ⟨⟨lhold_nd r.hn _, r.qn, fun j t => ?_, fun j => ?_⟩, rfl⟩
    · rw [lheld_lhold r.hn]
      show (setM M i _ j).H t = _
      unfold setM
      by_cases hj : j = i
      · subst hj
        rw [if_pos rfl]
        show hold (M j).H (s, al) t = _
        unfold hold
        rw [r.H]
        by_cases ht : t = s
        · simp [ht, Bool.or_comm]
        · simp [ht]
      · rw [if_neg hj, if_neg (fun h => hj h.2), r.H]
    · show (setM M i _ j).Q = _
      unfold setM
      split
      · rename_i e; rw [e]; exact r.Q i
      · exact r.Q j
  · rw [if_neg (fun h => h4 (e4.1 h)), if_neg h4]
    refine ⟨⟨r.hn, ?_, fun j t => ?_, fun j => ?_⟩, rfl⟩
    · rw [((lput_perm h q ⟨s, i, al⟩).map (·.s)).nodup_iff, List.map_cons, List.nodup_cons]
      refine ⟨fun hm => h2 ?_, r.qn⟩
      obtain ⟨a, ha, e⟩ := List.mem_map.1 hm
      unfold waitL
      rw [Option.isSome_map, List.find?_isSome]
      exact ⟨a, ha, by simpa using e⟩
    · show (setM M i _ j).H t = _
      unfold setM
      split
      · rename_i e; rw [e]; exact r.H i t
      · exact r.H j t
    · rw [lput_q r]
      show (setM M i _ j).Q = _
      unfold setM
      by_cases hj : j = i
      · rw [if_pos hj, if_pos hj, hj]
      · rw [if_neg hj, if_neg hj]; exact r.Q j
end Go.Proofs.Ytnimejocaaekaaa.Lock
