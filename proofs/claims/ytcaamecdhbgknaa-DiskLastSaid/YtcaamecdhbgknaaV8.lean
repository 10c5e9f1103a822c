/- The operations that make memory, write maps, or append. -/
import Derived.Test.YtcaamecdhbgknaaV7
namespace Go.V
open Go.RowKit
set_option linter.unusedVariables false
set_option linter.unusedSimpArgs false

section
variable {P : Program} {o : Oper} {s : St} {v : World} {K : St → World → Prop} {a : Act} {w : World} {Q : Exit → Act → World → Prop}

/-- A new block that all know. -/
def newPub (s : St) (v : World) (I : World → Nat → Prop) (K : St → World → Nat → Prop) : Prop :=
  ∀ w b, Step v w (s.mods.map (·.2)) (b :: s.news.map (·.2)) → I w b → K s.synced w b

theorem newPub_sound {I : World → Nat → Prop} {K : St → World → Nat → Prop} (h : newPub s v I K) (hr : Rel s v a w) (w' : World) (h1 : w'.os = w.os) (h2 : w'.tape = w.tape) (h3 : w'.output = w.output) (h4 : w'.heap.size = w.heap.size + 1)
    (h5 : ∀ b, b < w.heap.size → w'.heap[b]? = w.heap[b]?) (hi : I w' w.heap.size) : Rel s.synced w' a w' ∧ K s.synced w' w.heap.size := by
  have hs := hr.step.size
  refine ⟨⟨hr.defers, hr.size, hr.synced.env, fun k pb hk => ?_, hr.inj, Step.refl _ _, fun _ => rfl, fun k b hk => by rcases hk with hk | hk <;> cases hk⟩, h w' w.heap.size ⟨h1.trans hr.step.os, h2.trans hr.step.tape, h3.trans hr.step.output, by omega, fun b hb hm => ?_, fun b hb => ?_, ?_⟩ hi⟩
  · obtain ⟨T, hT⟩ := hr.priv k pb hk
    exact ⟨T, by rw [h5 _ (Array.getElem?_eq_some_iff.1 hT).1]; exact hT⟩
  · rw [h5 b (by omega)]; exact hr.step.blk b hb hm
  · rcases List.mem_cons.1 hb with rfl | hb
    · omega
    · have := hr.step.new b hb; omega
  · exact List.nodup_cons.2 ⟨fun hm => Nat.lt_irrefl _ (hr.step.new _ hm).2, hr.step.nd⟩

theorem alloc_facts (w : World) (o : Obj) : (w.alloc o).os = w.os ∧ (w.alloc o).tape = w.tape ∧ (w.alloc o).output = w.output ∧ (w.alloc o).heap.size = w.heap.size + 1 ∧ (∀ b, b < w.heap.size → (w.alloc o).heap[b]? = w.heap[b]?) ∧ (w.alloc o).heap[w.heap.size]? = some o := by
  refine ⟨rfl, rfl, rfl, by simp, fun b hb => Below.heap_alloc _ _ _ hb, ?_⟩
  show (w.heap.push o)[w.heap.size]? = _
  simp

/-! maps -/
def makeMapR (s : St) (v : World) (dst : Option Nat) (K : St → World → Prop) : Prop :=
  newPub s v (fun w b => w.heap[b]? = some (.map #[] 0)) fun s w b => K (s.put dst (.v (.map (some b)))) w
theorem R_makeMap {t : TypeId} (ho : o.op = .makeMap t none) (h : makeMapR s v o.dst K) (hr : Rel s v a w) : o.wp P a w (P1 (Ext0 w) s a o.dst K) Q := by
  obtain ⟨g1, g2, g3, g4, g5, g6⟩ := alloc_facts w (.map #[] 0)
  obtain ⟨r1, h1⟩ := newPub_sound h hr _ g1 g2 g3 g4 g5 g6
  refine wp_value (x := .map (some w.heap.size)) (w' := w.alloc (.map #[] 0)) ?_ (P1.mk ⟨by omega, g5⟩ r1 (Ext.of_hp rfl) (x := .v _) rfl h1)
  simp [execOp, ho, Instr.makeMap]

/-- From v to w just map m has turned: it holds these. -/
structure MUpd {κ : Type} [DecidableEq κ] (enc : κ → Value) (v w : World) (m : Nat) (l : List (κ × Value)) : Prop where
  os : w.os = v.os
  tape : w.tape = v.tape
  output : w.output = v.output
  size : w.heap.size = v.heap.size
  oth : ∀ b', b' ≠ m → w.heap[b']? = v.heap[b']?
  map : MapG enc w m l

def mapUpdG (s : St) (v : World) {κ : Type} [DecidableEq κ] (enc : κ → Value) (m : Option Nat) (f : List (κ × Value) → List (κ × Value)) (K : St → World → Prop) : Prop :=
  sync s v fun s v => ∃ b l, m = some b ∧ MapG enc v b l ∧ ∀ w, MUpd enc v w b (f l) → K s w

theorem Rel.mupd {κ : Type} [DecidableEq κ] {enc : κ → Value} {m : Nat} {l l' : List (κ × Value)} {w' : World} (hr : Rel s w a w) (hm : s.mods = []) (hn : s.news = []) (h0 : MapG enc w m l) (h : MUpd enc w w' m l') : Rel s w' a w' := by
  obtain ⟨es, clock, hb, _⟩ := h0
  refine ⟨hr.defers, hr.size, hr.env, fun k pb hk => ?_, hr.inj, by rw [hn]; exact Step.refl _ _, fun _ => rfl, fun k b hkb => by rw [hm, hn] at hkb; rcases hkb with e | e <;> cases e⟩
  obtain ⟨T, hT⟩ := hr.priv k pb hk
  refine ⟨T, ?_⟩
  rw [h.oth _ (fun e => by rw [e, hb] at hT; injection hT with hT; cases hT)]
  exact hT

theorem setObj_facts {m : Nat} {es : Array MapEntry} {clock : Nat} (hb : w.heap[m]? = some (.map es clock)) (o' : Obj) :
    ∃ w', (setObj m o').run P w = .ok () w' ∧ w'.os = w.os ∧ w'.tape = w.tape ∧ w'.output = w.output ∧ w'.heap.size = w.heap.size ∧ (∀ b', b' ≠ m → w'.heap[b']? = w.heap[b']?) ∧ w'.heap[m]? = some o' := by
  refine ⟨{ w with heap := w.heap.setIfInBounds m o' }, by simp [setObj, Sem.run, hb], rfl, rfl, rfl, by simp, fun b' hb' => ?_, ?_⟩
  · show (w.heap.setIfInBounds m o')[b']? = _
    rw [Array.getElem?_setIfInBounds_ne (fun e => hb' e.symm)]
  · show (w.heap.setIfInBounds m o')[m]? = _
    have := (Array.getElem?_eq_some_iff.1 hb).1
    simp [this]

section
variable {κ : Type} [DecidableEq κ] {enc : κ → Value}
theorem lookI_none : ∀ (l : List (κ × Value)) (a : κ) (y : Value) (i : Nat), lookI l a i = none → updM l a y = l ++ [(a, y)] ∧ delM l a = l ∧ a ∉ l.map (·.1)
  | [], _, _, _, _ => ⟨rfl, rfl, by simp⟩
  | (k, x) :: l, a, y, i, h => by
    simp only [lookI] at h
    split at h
    · cases h
    · rename_i hk
      obtain ⟨h1, h2, h3⟩ := lookI_none l a y (i + 1) h
      exact ⟨by simp [updM, hk, h1], by simp [delM, hk, h2], by simp [hk]; simpa using h3⟩
theorem lookI_some : ∀ (l : List (κ × Value)) (a : κ) (y : Value) (i j : Nat) (x : Value), lookI l a i = some (j, x) → ∃ n, j = i + n ∧ n < l.length ∧ updM l a y = l.set n (a, y) ∧ delM l a = l.eraseIdx n ∧ l[n]? = some (a, x)
  | [], _, _, _, _, _, h => by simp [lookI] at h
  | (k, z) :: l, a, y, i, j, x, h => by
    simp only [lookI] at h
    split at h
    · rename_i hk
      simp only [Option.some.injEq, Prod.mk.injEq] at h
      obtain ⟨rfl, rfl⟩ := h
      exact ⟨0, by simp, by simp, by simp [updM, hk], by simp [delM, hk], by simp [hk]⟩
    · rename_i hk
      obtain ⟨n, rfl, h2, h3, h4, h5⟩ := lookI_some l a y (i + 1) j x h
      exact ⟨n + 1, by omega, by simp; exact h2, by simp [updM, hk, h3], by simp [delM, hk, h4], by simpa using h5⟩

theorem nodup_updM {l : List (κ × Value)} (h : (l.map (·.1)).Nodup) (a : κ) (y : Value) : ((updM l a y).map (·.1)).Nodup := by
  cases hl : lookI l a 0 with
  | none =>
    obtain ⟨h1, _, h3⟩ := lookI_none l a y 0 hl
    rw [h1]
    simp only [List.map_append, List.map_cons, List.map_nil]
    rw [List.nodup_append]
    exact ⟨h, by simp, fun b hb c hc => by simp at hc; subst hc; intro e; subst e; exact h3 hb⟩
  | some jx =>
    obtain ⟨j, x⟩ := jx
    obtain ⟨n, _, h2, h3, _, h5⟩ := lookI_some l a y 0 j x hl
    rw [h3, List.map_set]
    have : (l.map (·.1)).set n a = l.map (·.1) := by
      apply List.ext_getElem?
      intro i
      by_cases e : n = i
      · subst e; rw [List.getElem?_set_self (by simpa using h2), List.getElem?_map, h5]; rfl
      · rw [List.getElem?_set_ne e]
    rw [this]; exact h
theorem nodup_delM {l : List (κ × Value)} (h : (l.map (·.1)).Nodup) (a : κ) : ((delM l a).map (·.1)).Nodup := by
  have : (delM l a).Sublist l := by
    induction l with
    | nil => exact .slnil
    | cons p l ih =>
      obtain ⟨k, x⟩ := p
      simp only [delM]
      split
      · exact List.sublist_cons_self _ _
      · exact (ih (List.nodup_cons.1 h).2).cons_cons _
  exact (this.map _).nodup h

variable {t tk e : TypeId} {d : TypeDesc}
theorem run_mapUpdate (hu : P.underlying t = some (.map tk e)) (hd : P.underlying tk = some d) (he : KeyEnc d enc) (hdk : (∃ k, d = .int k) ∨ d = .string) {m : Nat} {l : List (κ × Value)} (hm : MapG enc w m l) (k : κ) (x : Value) :
    ∃ w', (Instr.mapUpdate t (.map (some m)) (enc k) x).run P w = .ok () w' ∧ MUpd enc w w' m (updM l k x) := by
  obtain ⟨es, clock, hb, hl, hborn, hnd, hkeys⟩ := hm
  have e0 := checkKey_plain (P := P) hd hdk false (enc k) 9999 w
  have e1 := run_findKey (P := P) hd he hl k w
  have hg : (getObj m).run P w = .ok (.map es clock) w := by simp [getObj, Sem.run, hb]
  cases h3 : lookI l k 0 with
  | none =>
    rw [h3] at e1
    obtain ⟨u1, _, u3⟩ := lookI_none l k x 0 h3
    obtain ⟨w', hrun, g1, g2, g3, g4, g5, g6⟩ := setObj_facts (P := P) hb (.map (es.push { key := enc k, val := x, born := clock }) (clock + 1))
    refine ⟨w', by simp [Instr.mapUpdate, run_underlying hu, hg, e0, e1, hrun], ⟨g1, g2, g3, g4, g5, _, _, g6, ?_, ?_, ?_, nodup_updM hkeys k x⟩⟩
    · rw [u1]; simp [hl]
    · intro en hen
      simp only [Array.toList_push, List.mem_append, List.mem_singleton] at hen
      rcases hen with hen | rfl
      · have := hborn en hen; omega
      · simp
    · simp only [Array.toList_push, List.map_append, List.map_cons, List.map_nil]
      rw [List.nodup_append]
      refine ⟨hnd, by simp, fun b hb' c hc => ?_⟩
      simp at hc; subst hc
      obtain ⟨en, hen, rfl⟩ := List.mem_map.1 hb'
      have := hborn en hen
      omega
  | some jx =>
    obtain ⟨j, y⟩ := jx
    rw [h3] at e1
    obtain ⟨n, hj, hn, u1, _, u3⟩ := lookI_some l k x 0 j y h3
    obtain rfl : j = n := by omega
    have hlen : es.toList.length = l.length := by simpa using congrArg List.length hl
    have hjl : j < es.size := by simpa using (by omega : j < es.toList.length)
    have hkey : es[j].key = enc k := by
      have := congrArg (fun q => q[j]?) hl
      simp only [List.getElem?_map, u3] at this
      rw [List.getElem?_eq_getElem (by omega)] at this
      simp at this
      exact this.1
    obtain ⟨w', hrun, g1, g2, g3, g4, g5, g6⟩ := setObj_facts (P := P) hb (.map (es.modify j fun e => { e with key := enc k, val := x }) clock)
    have hstay : (Instr.keyThatStays (enc k) (enc k)).run P w = .ok (enc k) w := by
      have := he.2 k k
      simp [Instr.keyThatStays, this]
    refine ⟨w', by simp [Instr.mapUpdate, run_underlying hu, hg, e0, e1, hjl, hkey, hstay, hrun], ⟨g1, g2, g3, g4, g5, _, _, g6, ?_, ?_, ?_, nodup_updM hkeys k x⟩⟩
    · rw [u1, List.map_set, ← hl]
      apply List.ext_getElem?
      intro i
      by_cases e : j = i
      · subst e; simp [Array.getElem?_modify, hjl]
      · rw [List.getElem?_set_ne e]; simp [Array.getElem?_modify, e]
    · intro en hen
      obtain ⟨i, hi, rfl⟩ := List.mem_iff_getElem.1 hen
      simp only [Array.getElem_toList, Array.getElem_modify]
      have hi' : i < es.size := by simpa using hi
      have := hborn (es[i]'hi') (by simp)
      split <;> exact this
    · have : (es.modify j fun e => { e with key := enc k, val := x }).toList.map (·.born) = es.toList.map (·.born) := by
        apply List.ext_getElem?
        intro i
        simp only [List.getElem?_map, Array.getElem?_toList, Array.getElem?_modify]
        split
        · cases es[i]? <;> rfl
        · rfl
      rw [this]; exact hnd

theorem run_mapDelete {ty t2 : TypeId} (hu : P.underlying t = some (.map tk e)) (hd : P.underlying tk = some d) (he : KeyEnc d enc) (hdk : (∃ k, d = .int k) ∨ d = .string) {m : Nat} {l : List (κ × Value)} (hm : MapG enc w m l) (k : κ) :
    ∃ w', (Builtin.delete_ #[t, t2] ty #[.map (some m), enc k]).run P w = .ok (.tuple #[]) w' ∧ MUpd enc w w' m (delM l k) := by
  obtain ⟨es, clock, hb, hl, hborn, hnd, hkeys⟩ := hm
  have e0 := checkKey_plain (P := P) hd hdk es.isEmpty (enc k) 9999 w
  have e1 := run_findKey (P := P) hd he hl k w
  have hg : (getObj m).run P w = .ok (.map es clock) w := by simp [getObj, Sem.run, hb]
  cases h3 : lookI l k 0 with
  | none =>
    rw [h3] at e1
    obtain ⟨_, u2, u3⟩ := lookI_none l k (.bool true) 0 h3
    obtain ⟨w', hrun, g1, g2, g3, g4, g5, g6⟩ := setObj_facts (P := P) hb (.map es clock)
    refine ⟨w', by simp [Builtin.delete_, run_underlying hu, hg, e0, e1, hrun], ⟨g1, g2, g3, g4, g5, _, _, g6, by rw [u2]; exact hl, hborn, hnd, nodup_delM hkeys k⟩⟩
  | some jx =>
    obtain ⟨j, y⟩ := jx
    rw [h3] at e1
    obtain ⟨n, hj, hn, _, u1, u3⟩ := lookI_some l k (.bool true) 0 j y h3
    obtain rfl : j = n := by omega
    have hlen : es.toList.length = l.length := by simpa using congrArg List.length hl
    obtain ⟨w', hrun, g1, g2, g3, g4, g5, g6⟩ := setObj_facts (P := P) hb (.map (es.eraseIdxIfInBounds j) clock)
    have he2 : (es.eraseIdxIfInBounds j).toList = es.toList.eraseIdx j := by
      have hjl : j < es.size := by simpa using (by omega : j < es.toList.length)
      simp [Array.eraseIdxIfInBounds, hjl]
    refine ⟨w', by simp [Builtin.delete_, run_underlying hu, hg, e0, e1, hrun], ⟨g1, g2, g3, g4, g5, _, _, g6, ?_, ?_, ?_, nodup_delM hkeys k⟩⟩
    · rw [u1, he2]; simp only [List.eraseIdx_eq_take_drop_succ, List.map_append, List.map_take, List.map_drop, hl]
    · intro en hen
      rw [he2] at hen
      exact hborn en ((List.eraseIdx_sublist _ _).subset hen)
    · rw [he2]
      exact ((List.eraseIdx_sublist _ _).map _).nodup hnd
theorem run_mapClear {ty : TypeId} (hu : P.underlying t = some (.map tk e)) {m : Nat} {l : List (κ × Value)} (hm : MapG enc w m l) :
    ∃ w', (Builtin.clear_ #[t] ty #[.map (some m)]).run P w = .ok (.tuple #[]) w' ∧ MUpd enc w w' m ([] : List (κ × Value)) := by
  obtain ⟨es, clock, hb, hl, hborn, hnd, hkeys⟩ := hm
  have hg : (getObj m).run P w = .ok (.map es clock) w := by simp [getObj, Sem.run, hb]
  obtain ⟨w', hrun, g1, g2, g3, g4, g5, g6⟩ := setObj_facts (P := P) hb (.map #[] clock)
  exact ⟨w', by simp [Builtin.clear_, run_underlying hu, hg, hrun], ⟨g1, g2, g3, g4, g5, _, _, g6, by simp, by simp, by simp, by simp⟩⟩
end

end
end Go.V
