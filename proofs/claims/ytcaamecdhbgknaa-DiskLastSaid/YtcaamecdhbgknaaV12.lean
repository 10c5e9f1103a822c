/- Ranging over maps, calls; every operation under one name. -/
import Derived.Test.YtcaamecdhbgknaaV11
namespace Go.V
open Go.RowKit
set_option linter.unusedVariables false
set_option linter.unusedSimpArgs false

section
variable {P : Program} {o : Oper} {s : St} {v : World} {K : St → World → Prop} {a : Act} {w : World} {Q : Exit → Act → World → Prop}

/-- Block r goes over map m, which holds l; the keys 'done' have come. -/
def IterG {κ : Type} [DecidableEq κ] (enc : κ → Value) (w : World) (r m : Nat) (l : List (κ × Value)) (done : List κ) : Prop :=
  ∃ es clock since seen last, w.heap[r]? = some (.mapIter (some m) since seen last) ∧ w.heap[m]? = some (.map es clock) ∧ es.toList.map (fun e => (e.key, e.val)) = l.map (fun p => (enc p.1, p.2)) ∧
    (∀ e ∈ es.toList, e.born < clock ∧ e.born < since ∧ e.born < last) ∧ (es.toList.map (·.born)).Nodup ∧ (l.map (·.1)).Nodup ∧
    (∀ (j : Nat) e p, es[j]? = some e → l[j]? = some p → (e.born ∈ seen ↔ p.1 ∈ done))
def IterO {κ : Type} [DecidableEq κ] (enc : κ → Value) (w : World) (r : Nat) (m : Option Nat) (l : List (κ × Value)) (done : List κ) : Prop :=
  match m with
  | none => l = [] ∧ ∃ since seen last, w.heap[r]? = some (.mapIter none since seen last)
  | some m => IterG enc w r m l done

def rangeG (s : St) (v : World) (dst : Option Nat) {κ : Type} [DecidableEq κ] (enc : κ → Value) (m : Option Nat) (K : St → World → Prop) : Prop :=
  ∃ l, MapO enc v m l ∧ noModM s m (newPub s v (fun w b => IterO enc w b m l []) fun s w b => K (s.put dst (.a ⟨b, 0, none⟩)) w)
def rangeR0 (P : Program) (s : St) (v : World) (dst : Option Nat) (t : TypeId) (x : Operand) (K : St → World → Prop) : Prop :=
  match P.underlying t, s.val x with
  | some (.map tk _), some (.map m) => match P.underlying tk with
    | some (.int kd) => rangeG s v dst (Value.int kd) m K
    | some .string => rangeG s v dst Value.string m K
    | _ => False
  | _, _ => False
theorem rangeG_sound {κ : Type} [DecidableEq κ] {enc : κ → Value} {t tk e : TypeId} {x : Operand} {m : Option Nat} (ho : o.op = .range t x) (hu : P.underlying t = some (.map tk e)) (hx : a.eval x = .map m) (h : rangeG s v o.dst enc m K) (hr : Rel s v a w) :
    o.wp P a w (P1 (Ext0 w) s a o.dst K) Q := by
  obtain ⟨l, hm, h⟩ := h
  obtain ⟨hmod, h⟩ := noModM_sound h
  cases m with
  | none =>
    obtain rfl : l = [] := hm
    obtain ⟨g1, g2, g3, g4, g5, g6⟩ := alloc_facts w (.mapIter none 0 #[] 0)
    obtain ⟨r1, h1⟩ := newPub_sound h hr _ g1 g2 g3 g4 g5 ⟨rfl, _, _, _, g6⟩
    refine wp_value (x := .pointer (some ⟨w.heap.size, 0, none⟩)) (w' := w.alloc (.mapIter none 0 #[] 0)) ?_ (P1.mk ⟨by omega, g5⟩ r1 (Ext.of_hp rfl) (x := .a _) rfl h1)
    simp [execOp, ho, Instr.range, run_underlying hu, hx]
  | some b =>
    obtain ⟨es, clock, hb, hl, hborn, hnd, hkeys⟩ := hm
    have hb' := Sees.map (hr.sees (Ext0.refl w)) hb (hmod b rfl)
    have hg : (getObj b).run P w = .ok (.map es clock) w := by simp [getObj, Sem.run, hb']
    obtain ⟨g1, g2, g3, g4, g5, g6⟩ := alloc_facts w (.mapIter (some b) clock #[] clock)
    obtain ⟨r1, h1⟩ := newPub_sound h hr _ g1 g2 g3 g4 g5 (show IterO enc _ _ _ _ _ from ⟨es, clock, clock, #[], clock, g6, by rw [g5 b (Array.getElem?_eq_some_iff.1 hb').1]; exact hb', hl, fun e he => ⟨hborn e he, hborn e he, hborn e he⟩, hnd, hkeys, fun j e p _ _ => by simp⟩)
    refine wp_value (x := .pointer (some ⟨w.heap.size, 0, none⟩)) (w' := w.alloc (.mapIter (some b) clock #[] clock)) ?_ (P1.mk ⟨by omega, g5⟩ r1 (Ext.of_hp rfl) (x := .a _) rfl h1)
    simp [execOp, ho, Instr.range, run_underlying hu, hx, hg]
theorem R_range0 {t : TypeId} {x : Operand} (ho : o.op = .range t x) (h : rangeR0 P s v o.dst t x K) (hr : Rel s v a w) : o.wp P a w (P1 (Ext0 w) s a o.dst K) Q := by
  unfold rangeR0 at h
  split at h
  · rename_i tk te m hu hx
    split at h
    · exact rangeG_sound ho hu (val_sound hx hr) h hr
    · exact rangeG_sound ho hu (val_sound hx hr) h hr
    · exact h.elim
  · exact h.elim

def allL : List Lf → (List Value → Prop) → Prop
  | [], K => K []
  | .i k :: ls, K => ∀ n : Int, allL ls fun vs => K (.int k n :: vs)
  | .b :: ls, K => ∀ x : Bool, allL ls fun vs => K (.bool x :: vs)
  | .s :: ls, K => ∀ x : ByteArray, allL ls fun vs => K (.string x :: vs)
  | .p :: ls, K => ∀ x : Option Addr, allL ls fun vs => K (.pointer x :: vs)
  | .sl :: ls, K => ∀ (x : Option Addr) (l c : Nat), allL ls fun vs => K (.slice x l c :: vs)
  | .m :: ls, K => ∀ x : Option Nat, allL ls fun vs => K (.map x :: vs)
theorem allL_sound {ls : List Lf} : ∀ {K K' : List Value → Prop}, allL ls K → exL ls K' → ∃ vs, K vs ∧ K' vs := by
  induction ls with
  | nil => intro K K' h h'; exact ⟨[], h, h'⟩
  | cons l ls ih =>
    intro K K' h h'
    cases l <;> simp only [allL, exL] at h h'
    case sl =>
      obtain ⟨x, l, c, h'⟩ := h'
      obtain ⟨vs, h1, h2⟩ := ih (h x l c) h'
      exact ⟨_, h1, h2⟩
    all_goals
      obtain ⟨x, h'⟩ := h'
      obtain ⟨vs, h1, h2⟩ := ih (h x) h'
      exact ⟨_, h1, h2⟩
/-- Of all values of a type. -/
def allT (P : Program) (t : TypeId) (K : Value → Prop) : Prop :=
  match aggOf P t with
  | some (true, n) => match leafs P 6 t with
    | some ls => allL ls fun vs => K (.agg vs.toArray)
    | none => ∀ l : List Value, l.length = n → K (.agg l.toArray)
  | some (false, _) => match P.underlying t with
    | some d => match Lf.of d with
      | some lf => allL [lf] fun vs => match vs with
        | [x] => K x
        | _ => True
      | none => ∀ x : Value, K x
    | none => False
  | none => False
/-- A value that is of a type by sight. -/
def IsT (P : Program) (t : TypeId) (y : Value) : Prop := exT P t fun x => x = y
theorem allT_sound {t : TypeId} {K : Value → Prop} {y : Value} (h : allT P t K) (hy : IsT P t y) : K y := by
  unfold allT at h
  unfold IsT exT at hy
  split at h
  · rename_i n ha
    rw [ha] at hy
    simp only at hy
    split at h
    · rename_i ls hl
      rw [hl] at hy
      obtain ⟨vs, h1, h2⟩ := allL_sound h hy
      rw [← h2]; exact h1
    · rename_i hl
      rw [hl] at hy
      obtain ⟨l, h1, h2⟩ := hy
      rw [← h2]; exact h l h1
  · rename_i n ha
    rw [ha] at hy
    simp only at hy
    split at h
    · rename_i d hd
      rw [hd] at hy
      simp only at hy
      split at h
      · rename_i lf hl
        rw [hl] at hy
        obtain ⟨vs, h1, h2⟩ := allL_sound h hy
        split at h2
        · rw [← h2]; exact h1
        · exact h2.elim
      · rename_i hl
        rw [hl] at hy
        exact h y
    · exact h.elim
  · exact h.elim

/-- Of what type the map is over which an iterator goes: a hint alone. -/
def St.hint (s : St) (dst : Option Nat) (t : Nat) : St := match dst with
  | some d => { s with its := (d, t) :: s.its }
  | none => s
theorem Rel.hint {s : St} {v w : World} {a : Act} (h : Rel s v a w) (dst : Option Nat) (t : Nat) : Rel (s.hint dst t) v a w := by
  cases dst with
  | none => exact h
  | some d => exact ⟨h.defers, h.size, h.env, h.priv, h.inj, h.step, h.clean, h.lnk⟩
def findIt : List (Nat × Nat) → Nat → Option Nat
  | [], _ => none
  | (d, t) :: l, x => match Nat.beq d x with
    | true => some t
    | false => findIt l x
def St.itOf (P : Program) (s : St) (x : Operand) : Option (TypeId × TypeId) := match x with
  | .tmp t => match findIt s.its t with
    | some ty => match P.underlying ty with
      | some (.map tk te) => some (tk, te)
      | _ => none
    | none => none
  | _ => none
def rangeR (P : Program) (s : St) (v : World) (dst : Option Nat) (t : TypeId) (x : Operand) (K : St → World → Prop) : Prop :=
  rangeR0 P s v dst t x fun s v => K (s.hint dst t) v
theorem R_range {t : TypeId} {x : Operand} (ho : o.op = .range t x) (h : rangeR P s v o.dst t x K) (hr : Rel s v a w) : o.wp P a w (P1 (Ext0 w) s a o.dst K) Q := by
  refine Oper.wp_mono (fun a' w' h => ?_) (R_range0 ho h hr)
  obtain ⟨s', v', h1, h2, h3, h4⟩ := h
  exact ⟨_, v', h1.hint o.dst t, h2.trans (Ext.of_hp (by cases o.dst <;> rfl)), h3, h4⟩

/-- What the iterator stands at. -/
def Cur (P : Program) (w : World) (r : Nat) (k x : Value) : Prop := ∀ sp, (Instr.entry (.pointer (some ⟨r, 0, sp⟩))).run P w = .ok (.tuple #[k, x]) w

/-- From v to w an iterator took a step. -/
structure IStep (v w : World) (r : Nat) : Prop where
  os : w.os = v.os
  tape : w.tape = v.tape
  output : w.output = v.output
  size : w.heap.size = v.heap.size
  oth : ∀ b', b' ≠ r → w.heap[b']? = v.heap[b']?

def nextG (P : Program) (s : St) (v : World) (dst : Option Nat) {κ : Type} [DecidableEq κ] (enc : κ → Value) (te : TypeId) (r : Nat) (K : St → World → Prop) : Prop :=
  sync s v fun s v => ∃ m l done, IterO enc v r m l done ∧ (∀ p ∈ l, IsT P te p.2) ∧
    (∀ k, allT P te fun x => (k, x) ∈ l → k ∉ done → ∀ w, IStep v w r → IterO enc w r m l (k :: done) → Cur P w r (enc k) x → K (s.put dst (.v (.tuple #[.bool true, enc k, x]))) w) ∧
    ((∀ p ∈ l, p.1 ∈ done) → ∀ w, IStep v w r → IterO enc w r m l done → K (s.put dst (.v (.tuple #[.bool false]))) w)
def nextR (P : Program) (s : St) (v : World) (dst : Option Nat) (x : Operand) (isString : Bool) (K : St → World → Prop) : Prop :=
  match isString, s.ev x, s.itOf P x with
  | false, .a ad, some (tk, te) => match ad.off with
    | 0 => match P.underlying tk with
      | some (.int kd) => nextG P s v dst (Value.int kd) te ad.block K
      | some .string => nextG P s v dst Value.string te ad.block K
      | _ => False
    | _ => False
  | _, _, _ => False
def entryG (P : Program) (s : St) (v : World) (dst : Option Nat) {κ : Type} (enc : κ → Value) (te : TypeId) (r : Nat) (K : St → World → Prop) : Prop :=
  sync s v fun s v => ∃ k, exT P te fun x => Cur P v r (enc k) x ∧ K (s.put dst (.v (.tuple #[enc k, x]))) v
def entryR (P : Program) (s : St) (v : World) (dst : Option Nat) (x : Operand) (K : St → World → Prop) : Prop :=
  match s.ev x, s.itOf P x with
  | .a ad, some (tk, te) => match ad.off with
    | 0 => match P.underlying tk with
      | some (.int kd) => entryG P s v dst (Value.int kd) te ad.block K
      | some .string => entryG P s v dst Value.string te ad.block K
      | _ => False
    | _ => False
  | _, _ => False
theorem entryG_sound {κ : Type} {enc : κ → Value} {te : TypeId} {x : Operand} {r : Nat} {sp : Option Nat} (ho : o.op = .entry x) (hx : a.eval x = .pointer (some ⟨r, 0, sp⟩)) (h : entryG P s v o.dst enc te r K) (hr : Rel s v a w) :
    o.wp P a w (P1 (Ext0 w) s a o.dst K) Q := by
  obtain ⟨r1, e1, k, h1⟩ := sync_sound h hr
  obtain ⟨y, hc, hk⟩ := exT_sound h1
  refine wp_value (x := .tuple #[enc k, y]) (w' := w) ?_ (P1.mk (Ext0.refl w) r1 e1 (x := .v _) rfl hk)
  simp only [execOp, ho, hx]
  rw [Sem.run_bind, hc sp]
  rfl
theorem R_entry {x : Operand} (ho : o.op = .entry x) (h : entryR P s v o.dst x K) (hr : Rel s v a w) : o.wp P a w (P1 (Ext0 w) s a o.dst K) Q := by
  unfold entryR at h
  split at h
  · rename_i ad tk te hx ht
    have hx' := hr.ev x
    rw [hx] at hx'; have hx' : a.eval x = _ := hx'
    split at h
    · rename_i hoff
      obtain ⟨ab, ao, asp⟩ := ad
      simp only at hoff h
      subst hoff
      split at h
      · exact entryG_sound ho hx' h hr
      · exact entryG_sound ho hx' h hr
      · exact h.elim
    · exact h.elim
  · exact h.elim

theorem nextG_sound {κ : Type} [DecidableEq κ] {enc : κ → Value} {te : TypeId} {x : Operand} {r : Nat} {sp : Option Nat} (ho : o.op = .next x false) (hx : a.eval x = .pointer (some ⟨r, 0, sp⟩)) (h : nextG P s v o.dst enc te r K) (hr : Rel s v a w) :
    o.wp P a w (P1 Tt s a o.dst K) Q := by
  obtain ⟨r1, e1, m, l, done, hit, hty, hk1, hk2⟩ := sync_sound h hr
  have relI : ∀ w', IStep w w' r → (∃ sz sn ls mm, w.heap[r]? = some (.mapIter mm sz sn ls)) → Rel s.synced w' a w' := fun w' hs hir => by
    obtain ⟨sz, sn, ls, mm, hir⟩ := hir
    refine ⟨r1.defers, r1.size, r1.env, fun k pb hk => ?_, r1.inj, Step.refl _ _, fun _ => rfl, fun k b hkb => by rcases hkb with e | e <;> cases e⟩
    obtain ⟨T, hT⟩ := r1.priv k pb hk
    exact ⟨T, by rw [hs.oth _ (fun e => by rw [e, hir] at hT; injection hT with hT; cases hT)]; exact hT⟩
  cases m with
  | none =>
    obtain ⟨rfl, since, seen, last, hir⟩ := hit
    have hs : IStep w w.drew r := ⟨rfl, rfl, rfl, rfl, fun _ _ => rfl⟩
    have hs0 : IStep w w r := ⟨rfl, rfl, rfl, rfl, fun _ _ => rfl⟩
    have hg : (getObj r).run P w = .ok (.mapIter none since seen last) w := by simp [getObj, Sem.run, hir]
    refine wp_value (x := .tuple #[.bool false]) (w' := w) ?_ (P1.mk trivial (relI w hs0 ⟨_, _, _, _, hir⟩) e1 (x := .v _) rfl (hk2 (by simp) w hs0 ⟨rfl, _, _, _, hir⟩))
    simp [execOp, ho, hx, Instr.next, hg]
  | some m =>
    obtain ⟨es, clock, since, seen, last, hir, hb, hl, hborn, hnd, hkeys, hseen⟩ := hit
    have hg : (getObj r).run P w = .ok (.mapIter (some m) since seen last) w := by simp [getObj, Sem.run, hir]
    have hg2 : (getObj m).run P w = .ok (.map es clock) w := by simp [getObj, Sem.run, hb]
    have hmr : m ≠ r := fun e => by rw [e, hir] at hb; injection hb with hb; cases hb
    have hodd : (!seen.isEmpty && !es.isEmpty && es.all (·.born ≥ last)) = false := by
      by_cases he : es.isEmpty = true
      · simp [he]
      · have hpos : 0 < es.size := by
          rcases Nat.eq_zero_or_pos es.size with h | h
          · exact absurd (by simpa using h) he
          · exact h
        have : (es.all (·.born ≥ last)) = false := by
          rw [Bool.eq_false_iff]
          intro hc
          rw [Array.all_eq_true] at hc
          have h1 := hc 0 hpos
          have h2 := (hborn es[0] (by simp)).2.2
          simp only [decide_eq_true_eq] at h1
          omega
        simp [this]
    let left := es.filter fun e => !seen.contains e.born
    have hold : left.filter (·.born < since) = left := by
      apply Array.ext'
      rw [Array.toList_filter, List.filter_eq_self]
      intro e he
      simp only [left, Array.toList_filter, List.mem_filter] at he
      simpa using (hborn e he.1).2.1
    have hnew : left.filter (·.born ≥ since) = #[] := by
      apply Array.ext'
      rw [Array.toList_filter, List.filter_eq_nil_iff.2]
      intro e he
      simp only [left, Array.toList_filter, List.mem_filter] at he
      have := (hborn e he.1).2.1
      simp; omega
    by_cases hleft : left.isEmpty = true
    · have hall : ∀ p ∈ l, p.1 ∈ done := by
        intro p hp
        obtain ⟨j, hj, hpj⟩ := List.mem_iff_getElem.1 hp
        have hlen : es.toList.length = l.length := by simpa using congrArg List.length hl
        have hje : j < es.size := by simpa using (by omega : j < es.toList.length)
        refine (hseen j es[j] p (by simp) (by rw [List.getElem?_eq_getElem hj, hpj])).1 ?_
        by_cases hc : es[j].born ∈ seen
        · exact hc
        · exfalso
          have : es[j] ∈ left := by
            simp only [left, Array.mem_filter]
            exact ⟨by simp, by simpa using hc⟩
          have hz : left = #[] := by simpa using hleft
          rw [hz] at this; simp at this
      have hz : left = #[] := by simpa using hleft
      have hs0 : IStep w w r := ⟨rfl, rfl, rfl, rfl, fun _ _ => rfl⟩
      refine wp_value (x := .tuple #[.bool false]) (w' := w) ?_ (P1.mk trivial (relI w hs0 ⟨_, _, _, _, hir⟩) e1 (x := .v _) rfl (hk2 hall w hs0 ⟨es, clock, since, seen, last, hir, hb, hl, hborn, hnd, hkeys, hseen⟩))
      have hz' : (es.filter fun e => !seen.contains e.born) = #[] := hz
      simp only [execOp, ho, hx, Instr.next, Sem.run_bind, hg, Result.andThen_ok, hg2, hodd, Bool.false_eq_true, if_false, hz']
      simp [Question.forced]
    · have hpos : 0 < left.size := by
        rcases Nat.eq_zero_or_pos left.size with h | h
        · exact absurd (by simpa using h) hleft
        · exact h
      have hne : left.isEmpty = false := by simpa using hleft
      obtain ⟨idx, w1, hch, hidx, hw1⟩ : ∃ idx w1, (choose (.mapNext left.size)).run P w = .ok idx w1 ∧ idx < left.size ∧ (w1 = w ∨ w1 = w.drew) := by
        rw [run_choose]
        by_cases hf : (Question.mapNext left.size).forced = true
        · exact ⟨0, w, by rw [if_pos hf], hpos, .inl rfl⟩
        · exact ⟨_, w.drew, by rw [if_neg hf]; rfl, Nat.mod_lt _ hpos, .inr rfl⟩
      have heap1 : w1.heap = w.heap := by rcases hw1 with rfl | rfl <;> rfl
      obtain ⟨e, he⟩ : ∃ e, left[idx]? = some e := ⟨_, Array.getElem?_eq_getElem hidx⟩
      have hmem : e ∈ left := Array.mem_of_getElem? he
      obtain ⟨hees, hns⟩ : e ∈ es ∧ ¬ e.born ∈ seen := by
        simp only [left, Array.mem_filter] at hmem
        exact ⟨hmem.1, by simpa using hmem.2⟩
      obtain ⟨j, hj, hje⟩ := Array.mem_iff_getElem.1 hees
      have hlen : es.toList.length = l.length := by simpa using congrArg List.length hl
      have hjl : j < l.length := by rw [← hlen]; simpa using hj
      have hkv : ∀ (i : Nat) (hi : i < es.size) (hi' : i < l.length), es[i].key = enc l[i].1 ∧ es[i].val = l[i].2 := fun i hi hi' => by
        have := congrArg (fun q => q[i]?) hl
        simp only [List.getElem?_map, List.getElem?_eq_getElem hi'] at this
        rw [List.getElem?_eq_getElem (by simpa using hi)] at this
        simpa using this
      obtain ⟨k1, k2⟩ := hkv j hj hjl
      rw [hje] at k1 k2
      have hnd' : l[j].1 ∉ done := fun hd => hns ((hseen j e l[j] (by rw [Array.getElem?_eq_getElem hj, hje]) (List.getElem?_eq_getElem hjl)).2 hd)
      obtain ⟨w', hrun, g1, g2, g3, g4, g5, g6⟩ : ∃ w', (setObj r (.mapIter (some m) since (seen.push e.born) clock)).run P w1 = .ok () w' ∧ w'.os = w.os ∧ w'.tape = w.tape ∧ w'.output = w.output ∧ w'.heap.size = w.heap.size ∧ (∀ b', b' ≠ r → w'.heap[b']? = w.heap[b']?) ∧ w'.heap[r]? = some (.mapIter (some m) since (seen.push e.born) clock) := by
        refine ⟨{ w1 with heap := w1.heap.setIfInBounds r (.mapIter (some m) since (seen.push e.born) clock) }, by simp [setObj, Sem.run, heap1, hir], ?_, ?_, ?_, by simp [heap1], fun b' hb' => ?_, ?_⟩
        · rcases hw1 with rfl | rfl <;> rfl
        · rcases hw1 with rfl | rfl <;> rfl
        · rcases hw1 with rfl | rfl <;> rfl
        · show (w1.heap.setIfInBounds r _)[b']? = _
          rw [Array.getElem?_setIfInBounds_ne (fun e => hb' e.symm), heap1]
        · show (w1.heap.setIfInBounds r _)[r]? = _
          have := (Array.getElem?_eq_some_iff.1 hir).1
          simp [heap1, this]
      have hs : IStep w w' r := ⟨g1, g2, g3, g4, g5⟩
      have hit' : IterO enc w' r (some m) l (l[j].1 :: done) := by
        refine ⟨es, clock, since, seen.push e.born, clock, g6, by rw [g5 m hmr]; exact hb, hl, fun e he => ⟨(hborn e he).1, (hborn e he).2.1, (hborn e he).1⟩, hnd, hkeys, fun j' e' p' he' hp' => ?_⟩
        have hold' := hseen j' e' p' he' hp'
        have hj' : j' < es.size := (Array.getElem?_eq_some_iff.1 he').1
        have hj'l : j' < l.length := (List.getElem?_eq_some_iff.1 hp').1
        have heq : e'.born = e.born ↔ j' = j := by
          have he'' : es[j'] = e' := (Array.getElem?_eq_some_iff.1 he').2
          constructor
          · intro h
            have h1 : (es.toList.map (·.born))[j']'(by simpa using hj') = (es.toList.map (·.born))[j]'(by simpa using hj) := by simp [he'', hje, h]
            exact (List.getElem_inj hnd).1 h1
          · rintro rfl; rw [← he'', hje]
        have heq2 : p'.1 = l[j].1 ↔ j' = j := by
          have hp'' : l[j'] = p' := (List.getElem?_eq_some_iff.1 hp').2
          constructor
          · intro h
            have h1 : (l.map (·.1))[j']'(by simpa using hj'l) = (l.map (·.1))[j]'(by simpa using hjl) := by simp [hp'', h]
            exact (List.getElem_inj hkeys).1 h1
          · rintro rfl; rw [← hp'']
        simp only [Array.mem_push, List.mem_cons]
        rw [hold', heq, heq2]
        exact or_comm
      have hcur : Cur P w' r (enc l[j].1) l[j].2 := fun sp => by
        have hgr : (getObj r).run P w' = .ok (.mapIter (some m) since (seen.push e.born) clock) w' := by simp [getObj, Sem.run, g6]
        have hgm : (getObj m).run P w' = .ok (.map es clock) w' := by simp [getObj, Sem.run, (g5 m hmr).trans hb]
        have hfind : es.find? (fun y => y.born == e.born) = some e := by
          cases hf : es.find? (fun y => y.born == e.born) with
          | none =>
            rw [Array.find?_eq_none] at hf
            exact absurd (by simp) (hf e hees)
          | some e' =>
            have hp : (e'.born == e.born) = true := by simpa using Array.find?_some hf
            have hp : e'.born = e.born := by simpa using hp
            obtain ⟨j', hj', hje'⟩ := Array.mem_iff_getElem.1 (Array.mem_of_find?_eq_some hf)
            have h1 : (es.toList.map (·.born))[j']'(by simpa using hj') = (es.toList.map (·.born))[j]'(by simpa using hj) := by simp [hje', hje, hp]
            have := (List.getElem_inj hnd).1 h1
            subst this
            rw [← hje', hje]
        simp only [Instr.entry, Sem.run_bind, hgr, Result.andThen_ok, hgm]
        simp [hgm, Result.andThen_ok, hfind, k1, k2]
      have hval := allT_sound (hk1 l[j].1) (hty l[j] (List.getElem_mem hjl)) (by exact List.getElem_mem hjl) hnd' w' hs hit' hcur
      refine wp_value (x := .tuple #[.bool true, enc l[j].1, l[j].2]) (w' := w') ?_ (P1.mk trivial (relI w' hs ⟨_, _, _, _, hir⟩) e1 (x := .v _) rfl hval)
      have hcand : ((if (left.filter (·.born < since)).isEmpty then #[none] else #[]) ++ (left.filter (·.born < since) ++ left.filter (·.born ≥ since)).map some) = left.map some := by
        rw [hold, hnew]; simp [hne]
      have hcand' : ((if ((es.filter fun e => !seen.contains e.born).filter (·.born < since)).isEmpty then #[none] else #[]) ++ ((es.filter fun e => !seen.contains e.born).filter (·.born < since) ++ (es.filter fun e => !seen.contains e.born).filter (·.born ≥ since)).map some) = left.map some := hcand
      simp only [execOp, ho, hx, Instr.next, Sem.run_bind, hg, Result.andThen_ok, hg2, hodd, Bool.false_eq_true, if_false, hcand', Array.size_map, hch]
      simp [he, hrun, k1, k2]

theorem R_next {x : Operand} {b : Bool} (ho : o.op = .next x b) (h : nextR P s v o.dst x b K) (hr : Rel s v a w) : o.wp P a w (P1 Tt s a o.dst K) Q := by
  unfold nextR at h
  split at h
  · rename_i ad tk te hx ht
    have hx' := hr.ev x
    rw [hx] at hx'; have hx' : a.eval x = _ := hx'
    split at h
    · rename_i hoff
      obtain ⟨ab, ao, asp⟩ := ad
      simp only at hoff h
      subst hoff
      split at h
      · exact nextG_sound ho hx' h hr
      · exact nextG_sound ho hx' h hr
      · exact h.elim
    · exact h.elim
  · exact h.elim

/-! ### calls -/
def exTs (P : Program) : List TypeId → (List Value → Prop) → Prop
  | [], K => K []
  | t :: ts, K => exT P t fun x => exTs P ts fun xs => K (x :: xs)
theorem exTs_sound {ts : List TypeId} : ∀ {K : List Value → Prop}, exTs P ts K → ∃ xs, K xs := by
  induction ts with
  | nil => intro K h; exact ⟨[], h⟩
  | cons t ts ih =>
    intro K h
    obtain ⟨x, h⟩ := exT_sound h
    obtain ⟨xs, h⟩ := ih h
    exact ⟨_, h⟩
/-- A call came back with a value of its type. -/
def retT (P : Program) (t : TypeId) (e : Ending) (K : Value → Prop) : Prop :=
  match P.underlying t with
  | some (.tuple ts) => exTs P ts.toList fun xs => e = .returned (.tuple xs.toArray) ∧ K (.tuple xs.toArray)
  | _ => exT P t fun x => e = .returned x ∧ K x
theorem retT_sound {t : TypeId} {e : Ending} {K : Value → Prop} (h : retT P t e K) : ∃ x, e = .returned x ∧ K x := by
  unfold retT at h
  split at h
  · obtain ⟨xs, h⟩ := exTs_sound h; exact ⟨_, h⟩
  · exact exT_sound h
def keepP (s : St) (v w : World) (p : Prop) : Prop :=
  match s.privs with
  | [] => p
  | ps => Keep ps v w ∧ p
theorem keepP_sound {s : St} {v w : World} {p : Prop} (h : keepP s v w p) : Keep s.privs v w ∧ p := by
  unfold keepP at h
  split at h
  · rename_i e; rw [e]; exact ⟨(fun b hb => by cases hb), h⟩
  · exact h
/-- A function of the program's own that has a body. -/
def BodyOk (P : Program) (f : FuncId) : Prop := ∃ fn, P.funcs[f]? = some fn ∧ fn.body.isNone = false ∧ (fn.name == "runtime.NumGoroutine") = false
def callW (P : Program) (qp : Option (List PanicEntry → World → Prop)) (s : St) (v : World) (dst : Option Nat) (t : TypeId) (f : FuncId) (args : List Value) (K : St → World → Prop) : Prop :=
  sync s v fun s w => Calls P f args.toArray w fun e w' => match qp with
    | none => retT P t e fun x => keepP s w w' (K (s.put dst (.v x)) w')
    | some qp => (∃ chain, e = .panicked chain ∧ qp chain w') ∨ retT P t e fun x => keepP s w w' (K (s.put dst (.v x)) w')
def callR (P : Program) (qp : Option (List PanicEntry → World → Prop)) (s : St) (v : World) (dst : Option Nat) (t : TypeId) (f : Operand) (args : List Operand) (K : St → World → Prop) : Prop :=
  match f with
  | .func f => match P.funcs[f]? with
    | some fn => match fn.body with
      | some _ => useVs s v args fun s v xs => callW P qp s v dst t f xs K
      | none => useVs s v args fun s v xs => sync s v fun s w => ∃ x w', (callFunc f xs.toArray).run P w = .ok (.value x) w' ∧ keepP s w w' (K (s.put dst (.v x)) w')
    | none => False
  | f => useVs s v (f :: args) fun s v xs => match xs with
    | .func (.func f) first cap :: xs => BodyOk P f ∧ callW P qp s v dst t f (first.toList ++ xs ++ cap.toList) K
    | _ => False

theorem Rel.kept {w' : World} (hr : Rel s w a w) (hm : s.mods = []) (hn : s.news = []) (hk : Keep s.privs w w') : Rel s w' a w' := by
  refine ⟨hr.defers, hr.size, hr.env, fun k pb h => ?_, hr.inj, by rw [hn]; exact Step.refl _ _, fun _ => rfl, fun k b hkb => by rw [hm, hn] at hkb; rcases hkb with e | e <;> cases e⟩
  obtain ⟨T, hT⟩ := hr.priv k pb h
  refine ⟨T, ?_⟩
  rw [hk pb.b (by unfold St.privs; rw [List.mem_filterMap]; exact ⟨some pb, List.mem_of_getElem? h, rfl⟩)]
  exact hT

theorem callW_sound {qp : Option (List PanicEntry → World → Prop)} {s0 : St} {f : FuncId} {args : List Value} (hb : BodyOk P f) (he : Ext s0 s) (h : callW P qp s v o.dst o.type f args K) (hr : Rel s v a w)
    (hrun : (execOp a.eval o).run P w = (callFunc f args.toArray).run P w) (hQ : ∀ chain w', (∃ q, qp = some q ∧ q chain w') → Q (.panic chain) a w') : o.wp P a w (P1 Tt s0 a o.dst K) Q := by
  obtain ⟨r1, e1, hk⟩ := sync_sound h hr
  obtain ⟨fn, hf, hbody, hname⟩ := hb
  have hcf : (callFunc f args.toArray).run P w = .ok (.enter f args.toArray) w := by
    simp only [callFunc, Sem.run_bind, run_program, Result.andThen_ok, hf, hname, hbody, Bool.false_eq_true, if_false]
    rfl
  unfold Oper.wp
  rw [hrun, hcf]
  refine Calls.mono hk fun e w' hR => ?_
  have ret : retT P o.type e (fun x => keepP s.synced w w' (K (s.synced.put o.dst (.v x)) w')) → ∃ x, e = .returned x ∧ P1 Tt s0 a o.dst K (a.put o.dst x) w' := fun hR => by
    obtain ⟨x, rfl, hx⟩ := retT_sound hR
    obtain ⟨hkeep, hx⟩ := keepP_sound hx
    exact ⟨x, rfl, P1.mk trivial (r1.kept rfl rfl hkeep) (he.trans e1) (x := .v x) rfl hx⟩
  have key : (∃ chain, e = .panicked chain ∧ ∃ q, qp = some q ∧ q chain w') ∨ ∃ x, e = .returned x ∧ P1 Tt s0 a o.dst K (a.put o.dst x) w' := by
    cases qp with
    | none => exact .inr (ret hR)
    | some q =>
      rcases hR with ⟨chain, rfl, hq⟩ | hR
      · exact .inl ⟨chain, rfl, q, rfl, hq⟩
      · exact .inr (ret hR)
  rcases key with ⟨chain, rfl, hq⟩ | ⟨x, rfl, hx⟩
  · exact hQ chain w' hq
  · exact hx

theorem R_call {qp : Option (List PanicEntry → World → Prop)} {f : Operand} {args : Array Operand} {ts : Array TypeId} (hNG : ∀ (f : Nat) (fn : Func), P.funcs[f]? = some fn → (fn.name == "runtime.NumGoroutine") = false)
    (ho : o.op = .call { callee := .value f, args := args, argTypes := ts }) (h : callR P qp s v o.dst o.type f args.toList K) (hr : Rel s v a w)
    (hQ : ∀ chain w', (∃ q, qp = some q ∧ q chain w') → Q (.panic chain) a w') : o.wp P a w (P1 Tt s a o.dst K) Q := by
  have dyn : ∀ f, f = f → o.op = .call { callee := .value f, args := args, argTypes := ts } → (useVs s v (f :: args.toList) fun s v xs => match xs with
    | .func (.func f) first cap :: xs => BodyOk P f ∧ callW P qp s v o.dst o.type f (first.toList ++ xs ++ cap.toList) K
    | _ => False) → o.wp P a w (P1 Tt s a o.dst K) Q := fun f _ ho h => by
    obtain ⟨s1, v1, r1, e1, h1⟩ := useVs_sound h hr
    simp only [List.map_cons] at h1
    split at h1
    · rename_i fid first cap xs e
      simp only [List.cons.injEq] at e
      obtain ⟨ef, ex⟩ := e
      obtain ⟨hb, h1⟩ := h1
      refine callW_sound hb e1 h1 r1 ?_ hQ
      have harr : first ++ args.map a.eval ++ cap = (first.toList ++ xs ++ cap.toList).toArray := by
        apply Array.ext'; simp [ex]
      simp [execOp, ho, resolve, ef, Deferred.ofValue, invoke, harr]
    · exact h1.elim
  cases f with
  | func fid =>
    unfold callR at h
    simp only at h
    cases hf : P.funcs[fid]? with
    | none => rw [hf] at h; exact h.elim
    | some fn =>
      rw [hf] at h
      simp only at h
      have hrun : (execOp a.eval o).run P w = (callFunc fid (args.toList.map a.eval).toArray).run P w := by
        have harr : args.map a.eval = (args.toList.map a.eval).toArray := by apply Array.ext'; simp
        simp [execOp, ho, resolve, Act.eval, Deferred.ofValue, invoke]
        rw [harr]
      cases hbd : fn.body with
      | some c =>
        rw [hbd] at h
        obtain ⟨s1, v1, r1, e1, h1⟩ := useVs_sound h hr
        exact callW_sound ⟨fn, hf, by rw [hbd]; rfl, hNG fid fn hf⟩ e1 h1 r1 hrun hQ
      | none =>
        rw [hbd] at h
        obtain ⟨s1, v1, r1, e1, h1⟩ := useVs_sound h hr
        obtain ⟨r2, e2, x, w', hx, hk⟩ := sync_sound h1 r1
        obtain ⟨hkeep, hk⟩ := keepP_sound hk
        exact wp_value (x := x) (w' := w') (by rw [hrun]; exact hx) (P1.mk trivial (r2.kept rfl rfl hkeep) (e1.trans e2) (x := .v x) rfl hk)
  | tmp t => exact dyn _ rfl ho h
  | const c => exact dyn _ rfl ho h
  | global g => exact dyn _ rfl ho h

end
end Go.V
