/- The operations that write memory, make memory, or call. -/
import Derived.Test.YtcaamecdhbgknaaV6
namespace Go.V
open Go.RowKit
set_option linter.unusedVariables false
set_option linter.unusedSimpArgs false

/-- These cells are read from an address on. -/
def Row (v : World) (p : Option Addr) (xs : List Value) : Prop := (∀ j u, xs[j]? = some u → ∃ ad, p = some ad ∧ v.cell? (ad.add j) = some u) ∧ ∀ u ∈ xs, u.oneCell' = true

theorem spl_one (cs : List Value) (off : Nat) (x : Value) (h : off < cs.length) : spl cs off [x] = cs.set off x := by
  unfold spl
  rw [List.set_eq_take_append_cons_drop, if_pos h]
  simp
def sets (cs : List Value) (off : Nat) (xs : List Value) : List Value :=
  match xs with
  | [x] => cs.set off x
  | xs => spl cs off xs
theorem sets_eq (cs : List Value) (off : Nat) (xs : List Value) (h : off + xs.length ≤ cs.length) : sets cs off xs = spl cs off xs := by
  unfold sets
  split
  · rw [spl_one]; simp at h; omega
  · rfl

section
variable {P : Program} {o : Oper} {s : St} {v : World} {K : St → World → Prop} {a : Act} {w : World} {Q : Exit → Act → World → Prop}

/-! ### stores -/
theorem run_storeCells_row {b off : Nat} {cs xs : List Value} {T : TypeId} {f : Nat × Nat} (hb : w.heap[b]? = some (.cells cs.toArray T f)) (hf : f.2 ≤ f.1 ∨ off + xs.length ≤ f.1) (hl : off + xs.length ≤ cs.length) (h1 : ∀ x ∈ xs, x.oneCell' = true) :
    ∃ w', (storeCells ⟨b, off, none⟩ xs).run P w = .ok () w' ∧ w'.os = w.os ∧ w'.tape = w.tape ∧ w'.output = w.output ∧ w'.heap.size = w.heap.size ∧ (∀ b', b' ≠ b → w'.heap[b']? = w.heap[b']?) ∧ w'.heap[b]? = some (.cells (spl cs off xs).toArray T f) := by
  have key : ∀ (xs : List Value) (i : Nat) (cur : Array Value) (w : World), w.heap[b]? = some (.cells cur T f) → (f.2 ≤ f.1 ∨ off + i + xs.length ≤ f.1) → off + i + xs.length ≤ cur.size → (∀ v ∈ xs, v.oneCell' = true) →
      (storeCells ⟨b, off, none⟩ xs i).run P w = .ok () (w.setRow b (cur.toList.take (off + i) ++ xs ++ cur.toList.drop (off + i + xs.length)).toArray) := by
    intro xs
    induction xs with
    | nil =>
      intro i cur w hg _ _ _
      simp only [storeCells, List.append_nil, List.length_nil, Nat.add_zero, List.take_append_drop, Array.toArray_toList]
      rw [setRow_self w b cur T f hg]
      rfl
    | cons x rest ih =>
      intro i cur w hg hfz hl h1
      have hi : off + i < cur.size := by simp at hl; omega
      have hadd : (⟨b, off, none⟩ : Addr).add i = ⟨b, off + i, none⟩ := add_mk _ _ _
      have hcell : w.cell? ⟨b, off + i, none⟩ = some cur[off + i] := by simp [World.cell?, hg, hi]
      have hfro : w.frozen? ⟨b, off + i, none⟩ = false := by
        obtain ⟨lo, hi'⟩ := f
        simp only [World.frozen?, hg, Bool.and_eq_false_iff, decide_eq_false_iff_not]
        simp only [List.length_cons] at hfz
        omega
      have hst : (store ((⟨b, off, none⟩ : Addr).add i) x).run P w = .ok () (w.setRow b (cur.setIfInBounds (off + i) x)) := by
        rw [hadd, run_store P w _ x _ (h1 x (by simp)), hcell]
        simp [hfro, setCell_eq_setRow w b (off + i) cur T f x hg]
      have ih' := ih (i + 1) (cur.setIfInBounds (off + i) x) (w.setRow b (cur.setIfInBounds (off + i) x)) (setRow_heap w b cur _ T _ hg) (by simp at hfz ⊢; omega) (by simp at hl ⊢; omega) (fun y hy => h1 y (by simp [hy]))
      simp only [storeCells, Sem.run_bind, hst, Result.andThen_ok, ih', setRow_setRow]
      congr 3
      have e := list_seg_step cur.toList (off + i) x rest (by simp at hl ⊢; omega)
      simpa [Array.toList_setIfInBounds, Nat.add_assoc] using e
  have := key xs 0 cs.toArray w hb (by simpa using hf) (by simpa using hl) h1
  refine ⟨_, this, rfl, rfl, rfl, by simp [World.setRow], fun b' hb' => ?_, ?_⟩
  · simp only [World.setRow, Array.getElem?_modify]
    rw [if_neg (by omega)]
  · rw [setRow_heap w b _ _ T f hb]
    simp [spl]

def addMod (s : St) (k b : Nat) : List (Nat × Nat) :=
  bif (s.news.any fun p => Nat.beq p.1 k) || (s.mods.any fun p => Nat.beq p.1 k) then s.mods else (k, b) :: s.mods
def St.setPB (s : St) (k : Nat) (pb : PB) (cs : List Value) : St := { s with hp := s.hp.set k (some ⟨pb.b, pb.ver + 1, cs⟩), mods := addMod s k pb.b, clean := false }

theorem Rel.setPB (hr : Rel s v a w) {k : Nat} {pb : PB} (hk : s.hp[k]? = some (some pb)) {cs : List Value} {w' : World} {T : TypeId} (h1 : w'.os = w.os) (h2 : w'.tape = w.tape) (h3 : w'.output = w.output) (h4 : w'.heap.size = w.heap.size)
    (h5 : ∀ b', b' ≠ pb.b → w'.heap[b']? = w.heap[b']?) (h6 : w'.heap[pb.b]? = some (.cells cs.toArray T (0, 0))) : Rel (s.setPB k pb cs) v a w' ∧ Ext s (s.setPB k pb cs) := by
  have hlt : k < s.hp.length := by
    rcases Nat.lt_or_ge k s.hp.length with z | z
    · exact z
    · rw [List.getElem?_eq_none z] at hk; cases hk
  have hself : (s.hp.set k (some (⟨pb.b, pb.ver + 1, cs⟩ : PB)))[k]? = some (some ⟨pb.b, pb.ver + 1, cs⟩) := List.getElem?_set_self hlt
  have hoth : ∀ k', k ≠ k' → (s.hp.set k (some (⟨pb.b, pb.ver + 1, cs⟩ : PB)))[k']? = s.hp[k']? := fun k' hne => List.getElem?_set_ne hne
  have lift : ∀ (j : Nat) p, (s.setPB k pb cs).hp[j]? = some (some p) → ∃ p', s.hp[j]? = some (some p') ∧ p'.b = p.b := fun j p hj => by
    have hj : (s.hp.set k (some (⟨pb.b, pb.ver + 1, cs⟩ : PB)))[j]? = some (some p) := hj
    by_cases e : k = j
    · subst e; rw [hself] at hj; injection hj with hj; injection hj with hj; subst hj; exact ⟨pb, hk, rfl⟩
    · rw [hoth j e] at hj; exact ⟨p, hj, rfl⟩
  refine ⟨⟨hr.defers, hr.size, fun t => ?_, fun k' pb' h => ?_, fun k1 k2 p1 p2 hne e1 e2 => ?_, ⟨h1.trans hr.step.os, h2.trans hr.step.tape, h3.trans hr.step.output, by rw [h4]; exact hr.step.size, fun b hb hm => ?_, fun b hb => by rw [h4]; exact hr.step.new b hb, hr.step.nd⟩, (fun h => by cases h), fun k' b hkb => ?_⟩, ⟨by simp [St.setPB], fun k' pb1 pb2 e1 e2 => ?_, fun k' e1 => ?_⟩⟩
  · have := hr.env t
    show AVok _ (s.get t) _
    cases e : s.get t with
    | no => trivial
    | v y => rw [e] at this; exact this
    | a ad => rw [e] at this; exact this
    | t b => rw [e] at this; exact this
    | r k' off =>
      rw [e] at this
      obtain ⟨q, q1, q2⟩ := this
      by_cases hkk : k = k'
      · subst hkk
        rw [hk] at q1; injection q1 with q1; injection q1 with q1; subst q1
        exact ⟨_, hself, q2⟩
      · exact ⟨q, (hoth k' hkk).trans q1, q2⟩
    | q k' off =>
      rw [e] at this
      obtain ⟨q, q1, q2⟩ := this
      by_cases hkk : k = k'
      · subst hkk
        rw [hk] at q1; injection q1 with q1; injection q1 with q1; subst q1
        exact ⟨_, hself, q2⟩
      · exact ⟨q, (hoth k' hkk).trans q1, q2⟩
  · have h : (s.hp.set k (some (⟨pb.b, pb.ver + 1, cs⟩ : PB)))[k']? = some (some pb') := h
    by_cases e : k = k'
    · subst e; rw [hself] at h; injection h with h; injection h with h; subst h; exact ⟨T, h6⟩
    · rw [hoth k' e] at h
      obtain ⟨T', hT⟩ := hr.priv k' pb' h
      exact ⟨T', by rw [h5 _ (hr.inj k' k pb' pb (fun e' => e e'.symm) h hk)]; exact hT⟩
  · obtain ⟨q1, g1, g2⟩ := lift k1 p1 e1
    obtain ⟨q2, g3, g4⟩ := lift k2 p2 e2
    rw [← g2, ← g4]
    exact hr.inj k1 k2 q1 q2 hne g1 g3
  · have hm' : b ∉ (addMod s k pb.b).map (·.2) := hm
    have hne : b ≠ pb.b := fun e => by
      subst e
      unfold addMod at hm'
      cases hc : ((s.news.any fun p => Nat.beq p.1 k) || (s.mods.any fun p => Nat.beq p.1 k)) with
      | false => rw [hc] at hm'; simp at hm'
      | true =>
        rw [hc] at hm'
        simp only [Bool.or_eq_true, List.any_eq_true] at hc
        rcases hc with ⟨⟨k', b'⟩, hx, hy⟩ | ⟨⟨k', b'⟩, hx, hy⟩
        · obtain rfl : k' = k := Nat.eq_of_beq_eq_true hy
          have e := (hr.lnk k' b' (.inl hx)).2 pb hk
          have := (hr.step.new b' (List.mem_map.2 ⟨_, hx, rfl⟩)).1
          omega
        · obtain rfl : k' = k := Nat.eq_of_beq_eq_true hy
          have e := (hr.lnk k' b' (.inr hx)).2 pb hk
          exact hm' (List.mem_map.2 ⟨_, hx, e.symm⟩)
    rw [h5 b hne]
    refine hr.step.blk b hb fun hmm => hm' ?_
    unfold addMod
    cases ((s.news.any fun p => Nat.beq p.1 k) || (s.mods.any fun p => Nat.beq p.1 k)) with
    | true => exact hmm
    | false => simp only [cond_false, List.map_cons, List.mem_cons]; exact .inr hmm
  · have hkb' : (k', b) = (k, pb.b) ∨ (k', b) ∈ s.news ∨ (k', b) ∈ s.mods := by
      rcases hkb with hkb | hkb
      · exact .inr (.inl hkb)
      · have hkb : (k', b) ∈ addMod s k pb.b := hkb
        unfold addMod at hkb
        cases hc : ((s.news.any fun p => Nat.beq p.1 k) || (s.mods.any fun p => Nat.beq p.1 k)) with
        | true => rw [hc] at hkb; exact .inr (.inr hkb)
        | false => rw [hc] at hkb; rcases List.mem_cons.1 hkb with e | e
                   · exact .inl e
                   · exact .inr (.inr e)
    rcases hkb' with e | e
    · injection e with e1 e2; subst e1; subst e2
      refine ⟨by simp [St.setPB]; exact hlt, fun p hp => ?_⟩
      obtain ⟨q, g1, g2⟩ := lift k' p hp
      rw [hk] at g1; injection g1 with g1; injection g1 with g1; subst g1; exact g2.symm
    · obtain ⟨g1, g2⟩ := hr.lnk k' b e
      refine ⟨by simp [St.setPB]; exact g1, fun p hp => ?_⟩
      obtain ⟨q, g3, g4⟩ := lift k' p hp
      rw [← g4]; exact g2 q g3
  · have e2 : (s.hp.set k (some (⟨pb.b, pb.ver + 1, cs⟩ : PB)))[k']? = some (some pb2) := e2
    by_cases e : k = k'
    · subst e
      rw [hself] at e2; injection e2 with e2; injection e2 with e2; subst e2
      rw [hk] at e1; injection e1 with e1; injection e1 with e1; subst e1
      exact ⟨rfl, by simp, fun h => by simp at h⟩
    · rw [hoth k' e, e1] at e2; injection e2 with e2; injection e2 with e2; subst e2
      exact ⟨rfl, Nat.le_refl _, fun _ => rfl⟩
  · show (s.hp.set k (some _))[k']? = some none
    by_cases e : k = k'
    · subst e; rw [hk] at e1; injection e1 with e1; cases e1
    · rw [List.getElem?_set_ne e]; exact e1

/-- The cells of a value of a type. -/
def cellsT (P : Program) (t : TypeId) (x : Value) : Option (List Value) :=
  match aggOf P t with
  | some (true, n) => match x with
    | .agg cs => match Nat.beq cs.toList.length n, cs.toList.all (·.oneCell') with
      | true, true => some cs.toList
      | _, _ => none
    | _ => none
  | some (false, n) => match Nat.beq n 1, x.oneCell' with
    | true, true => some [x]
    | _, _ => none
  | none => none
theorem cellsT_sound {t : TypeId} {x : Value} {cs : List Value} (h : cellsT P t x = some cs) : x.cells.toList = cs ∧ (∀ w, (sizeOf t).run P w = .ok cs.length w) ∧ ∀ y ∈ cs, y.oneCell' = true := by
  unfold cellsT at h
  split at h
  · rename_i n ha
    split at h
    · rename_i c
      split at h
      · rename_i e1 e2
        injection h with h; subst h
        have := Nat.eq_of_beq_eq_true e1
        exact ⟨rfl, fun w => by rw [this]; exact (aggOf_isAgg ha w).2, List.all_eq_true.1 e2⟩
      · cases h
    · cases h
  · rename_i n ha
    split at h
    · rename_i e1 e2
      injection h with h; subst h
      have := Nat.eq_of_beq_eq_true e1
      refine ⟨?_, fun w => by have h := (aggOf_isAgg ha w).2; rw [this] at h; exact h, by simpa using e2⟩
      cases x <;> first | rfl | (simp [Value.oneCell'] at e2)
    · cases h
  · cases h

def pubStore (s : St) (v : World) (ad : Addr) (xs : List Value) (K : St → World → Prop) : Prop :=
  sync s v fun s v => ∃ cs, Blk v ad.block cs ∧ ad.spot = none ∧ ad.off + xs.length ≤ cs.length ∧ noPriv s ad.block (∀ w, Upd v w ad.block (sets cs ad.off xs) → K s w)

theorem Rel.upd {b : Nat} {cs : List Value} {w' : World} (hr : Rel s w a w) (hm : s.mods = []) (hn : s.news = []) (h : Upd w w' b cs) (hp : b ∉ s.privs) : Rel s w' a w' := by
  refine ⟨hr.defers, hr.size, hr.env, fun k pb hk => ?_, hr.inj, by rw [hn]; exact Step.refl _ _, fun _ => rfl, fun k b hkb => by rw [hm, hn] at hkb; rcases hkb with e | e <;> cases e⟩
  obtain ⟨T, hT⟩ := hr.priv k pb hk
  refine ⟨T, ?_⟩
  rw [h.oth _ (fun e => hp ?_)]
  · exact hT
  · unfold St.privs
    rw [List.mem_filterMap]
    exact ⟨some pb, List.mem_of_getElem? hk, by simp [e]⟩

theorem pubStore_sound {ad : Addr} {xs : List Value} (h : pubStore s v ad xs K) (hr : Rel s v a w) (h1 : ∀ x ∈ xs, x.oneCell' = true) :
    ∃ w' s', (storeCells ad xs).run P w = .ok () w' ∧ Rel s' w' a w' ∧ Ext s s' ∧ K s' w' := by
  obtain ⟨r1, e1, cs, hb, hsp, hl, hk⟩ := sync_sound h hr
  obtain ⟨hpr, hk2⟩ := noPriv_sound hk
  clear hk
  obtain ⟨T, lo, hi, hb, hf⟩ := hb
  obtain ⟨ab, ao, asp⟩ := ad
  simp only at hsp hb hl hk2 hpr
  subst hsp
  obtain ⟨w', hrun, g1, g2, g3, g4, g5, g6⟩ := run_storeCells_row (P := P) (off := ao) (xs := xs) hb (by simp only; omega) hl h1
  have hu : Upd w w' ab (sets cs ao xs) := ⟨g1, g2, g3, g4, g5, T, lo, hi, by rw [sets_eq _ _ _ hl]; exact g6, by
    rw [sets_eq _ _ _ hl]
    have : (spl cs ao xs).length = cs.length := by unfold spl; simp; omega
    omega⟩
  exact ⟨w', _, hrun, r1.upd rfl rfl hu hpr, e1, hk2 w' hu⟩

/-- A row of more than eight. -/
def bigN (P : Program) (t : TypeId) : Option Nat := match P.underlying t with
  | some (.array n _) => match Nat.ble n 8 with
    | true => none
    | false => match aggOf P t with
      | some (true, m) => some m
      | _ => none
  | _ => none
theorem bigN_agg {t : TypeId} {n : Nat} (h : bigN P t = some n) : aggOf P t = some (true, n) := by
  unfold bigN at h
  split at h
  · split at h
    · cases h
    · split at h
      · rename_i m hm; injection h with h; subst h; exact hm
      · cases h
  · cases h
def pubStoreT (P : Program) (s : St) (v : World) (t : TypeId) (ad : Addr) (yv : Value) (K : St → World → Prop) : Prop :=
  match bigN P t with
  | some n => ∃ l : List Value, yv = .agg l.toArray ∧ l.length = n ∧ (∀ y ∈ l, y.oneCell' = true) ∧ pubStore s v ad l K
  | none => match cellsT P t yv with
    | some cs => pubStore s v ad cs K
    | none => ∃ cs, cellsT P t yv = some cs ∧ pubStore s v ad cs K

def storeR (P : Program) (s : St) (v : World) (t : TypeId) (x y : Operand) (K : St → World → Prop) : Prop :=
  useV s v y fun s v yv => match s.ev x with
    | .r k off => match s.hp.getD k none, cellsT P t yv with
      | some pb, some cs => match Nat.ble (off + cs.length) pb.cs.length with
        | true => K (s.setPB k pb (sets pb.cs off cs)) v
        | false => False
      | _, _ => False
    | .a ad => pubStoreT P s v t ad yv K
    | .v z => ∃ ad, z = .pointer (some ad) ∧ pubStoreT P s v t ad yv K
    | _ => False

theorem R_store {t : TypeId} {x y : Operand} (ho : o.op = .store t x y) (h : storeR P s v t x y (fun s v => K (s.put o.dst .no) v)) (hr : Rel s v a w) : o.wp P a w (P1 Tt s a o.dst K) Q := by
  obtain ⟨s1, v1, r1, e1, h1⟩ := useV_sound h hr
  have hx := r1.ev x
  have pubcase : ∀ ad cs, a.eval x = .pointer (some ad) → cellsT P t (a.eval y) = some cs → pubStore s1 v1 ad cs (fun s v => K (s.put o.dst .no) v) → o.wp P a w (P1 Tt s a o.dst K) Q := fun ad cs hx hc hp => by
    obtain ⟨c1, c2, c3⟩ := cellsT_sound hc
    obtain ⟨w', s', g1, g2, g3, g4⟩ := pubStore_sound (P := P) hp r1 c3
    refine wp_skipped (w' := w') ?_ (P1.mk trivial g2 (e1.trans g3) (x := .no) trivial g4)
    have hl : (a.eval y).cells.size = cs.length := by rw [← c1]; simp
    simp only [execOp, ho, Instr.storeAt, Instr.sureAddr, hx, storeVar, Sem.run_bind, Sem.run_pure, Result.andThen_ok, c2, hl, c1]
    simp [g1]
  have both : ∀ ad, a.eval x = .pointer (some ad) → pubStoreT P s1 v1 t ad (a.eval y) (fun s v => K (s.put o.dst .no) v) → o.wp P a w (P1 Tt s a o.dst K) Q := fun ad hx hp => by
    unfold pubStoreT at hp
    split at hp
    · rename_i n hn
      obtain ⟨l, hy, hl, ho1, hp⟩ := hp
      refine pubcase ad l hx ?_ hp
      unfold cellsT
      rw [bigN_agg hn, hy]
      simp only
      have e1 : Nat.beq l.toArray.toList.length n = true := by rw [show l.toArray.toList.length = n from hl]; exact Nat.beq_refl n
      have e2 : l.toArray.toList.all (·.oneCell') = true := List.all_eq_true.2 ho1
      rw [e1, e2]
    · split at hp
      · rename_i cs hc; exact pubcase ad cs hx hc hp
      · obtain ⟨cs, hc, hp⟩ := hp; exact pubcase ad cs hx hc hp
  cases e : s1.ev x with
  | no => simp only [e] at h1
  | q k n => simp only [e] at h1
  | t b => simp only [e] at h1
  | a ad =>
    simp only [e] at h1; rw [e] at hx
    exact both ad hx h1
  | v z =>
    simp only [e] at h1; rw [e] at hx
    obtain ⟨ad, rfl, h1⟩ := h1
    exact both ad hx h1
  | r k off =>
    simp only [e] at h1; rw [e] at hx
    obtain ⟨pb, hk, hv⟩ := hx
    have hg : s1.hp.getD k none = some pb := by rw [List.getD_eq_getElem?_getD, hk]; rfl
    rw [hg] at h1
    split at h1
    · rename_i pb' cs e2 hc
      injection e2 with e2; subst e2
      split at h1
      · rename_i hb
        have hle : off + cs.length ≤ pb.cs.length := Nat.le_of_ble_eq_true hb
        obtain ⟨c1, c2, c3⟩ := cellsT_sound hc
        obtain ⟨T, hT⟩ := r1.priv k pb hk
        obtain ⟨w', hrun, g1, g2, g3, g4, g5, g6⟩ := run_storeCells_row (P := P) (off := off) (xs := cs) hT (.inl (Nat.le_refl _)) hle c3
        rw [← sets_eq _ _ _ hle] at g6
        obtain ⟨r2, x2⟩ := r1.setPB hk g1 g2 g3 g4 g5 g6
        refine wp_skipped (w' := w') ?_ (P1.mk trivial r2 (e1.trans x2) (x := .no) trivial h1)
        have hl : (a.eval y).cells.size = cs.length := by rw [← c1]; simp
        simp only [execOp, ho, Instr.storeAt, Instr.sureAddr, hv, storeVar, Sem.run_bind, Sem.run_pure, Result.andThen_ok, c2, hl, c1]
        simp [hrun]
      · exact h1.elim
    · exact h1.elim

end
end Go.V
