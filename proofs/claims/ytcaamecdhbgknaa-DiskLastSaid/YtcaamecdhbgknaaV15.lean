/- A region whose order is drawn, the rule. -/
import Derived.Test.YtcaamecdhbgknaaV14
namespace Go.V
open Go.RowKit
set_option linter.unusedVariables false
set_option linter.unusedSimpArgs false

section
variable {P : Program} {s : St} {v : World} {K : St → World → Prop} {a : Act} {w : World} {Q : Exit → Act → World → Prop} {qp : Option (List PanicEntry → World → Prop)}

def readyL (ops : List Oper) (listed : List Bool) : List Nat :=
  (List.range ops.length).filter fun i => !listed.getD i true && match ops[i]? with
    | some o => o.after.toList.all fun e => !Region.binds .any e || listed.getD e.on false
    | none => false
theorem ready_eq (ops : Array Oper) (listed : List Bool) : Region.ready .any ops listed.toArray = readyL ops.toList listed := by
  unfold Region.ready readyL
  rw [Array.length_toList]
  congr 1
  funext i
  rw [Array.getElem?_toList]
  cases ops[i]? with
  | none => simp
  | some o => simp [← Array.all_toList]

def descL (ops : List Oper) (i : Nat) : List Bool :=
  (List.range ops.length).foldl (fun D j => D ++ [match ops[j]? with
    | some o => o.after.toList.any fun e => Region.binds .any e && (Nat.beq e.on i || D.getD e.on false)
    | none => false]) []
def chkDL (ops : List Oper) (i : Nat) (D : List Bool) : Bool :=
  (List.range ops.length).all fun j => !D.getD j false || match ops[j]? with
    | some o => o.after.toList.any fun e => Region.binds .any e && (Nat.blt e.on j && (Nat.beq e.on i || D.getD e.on false))
    | none => false
theorem chkDL_eq (ops : Array Oper) (i : Nat) (D : List Bool) : chkDL ops.toList i D = chkD ops i D := by
  unfold chkDL chkD
  rw [Array.length_toList]
  congr 1
  funext j
  rw [Array.getElem?_toList]
  cases ops[j]? with
  | none => rfl
  | some o => simp [← Array.any_toList]

/-- Operation i hangs on no order: of all that may be done ahead of it none writes or reads what it reads or writes. -/
def freeOk (ops : List Oper) (listed : List Bool) (i : Nat) (oi : Oper) (mild : Bool) : Bool :=
  let D := descL ops i
  chkDL ops i D && (List.range ops.length).all fun j => Nat.beq j i || listed.getD j true || D.getD j false || match ops[j]? with
    | some oj => oi.apart ops.toArray oj && (!mild || mildK oj.op)
    | none => true

inductive GS where
  | yes | no | bad
  | split (d : Nat) (b : Bool)
def guardS (ops : List Oper) (s : St) (o : Oper) : GS :=
  match o.guard with
  | none => .yes
  | some (j, want) => match ops[j]? with
    | some oj => match oj.dst with
      | some d => match s.get d with
        | .t b => match b, want with
          | true, true => .yes
          | false, false => .yes
          | _, _ => .no
        | .v (.bool b) => .split d b
        | .v (.tuple _) => .no
        | _ => .bad
      | none => .bad
    | none => .bad

def staticOf (P : Program) (ops : List Oper) (stab : List Nat) (listed : List Bool) (s : St) (v : World) (go : List Bool → St → Prop) (i : Nat) : Option Prop :=
  match ops[i]? with
  | none => none
  | some o => match guardS ops s o with
    | .bad => none
    | .split d b => some (bcase b (go listed (s.put (some d) (.t true))) (go listed (s.put (some d) (.t false))))
    | .no => match freeOk ops listed i o false with
      | true => some (go (listed.set i true) (s.put o.dst (.v undef)))
      | false => none
    | .yes => match pvc P s o.op fun av => go (listed.set i true) (s.put o.dst av) with
      | some p => match freeOk ops listed i o false with
        | true => some p
        | false => none
      | none => match rvc P s o.op fun av => go (listed.set i true) (s.put o.dst av) with
        | some (k, p) => match stab.contains k && freeOk ops listed i o false with
          | true => some p
          | false => none
        | none => match qvc P s v o.op fun av => go (listed.set i true) (s.put o.dst av) with
          | some p => match freeOk ops listed i o true with
            | true => some p
            | false => none
          | none => none
def firstSome (f : Nat → Option Prop) : List Nat → Option Prop
  | [] => none
  | i :: r => match f i with
    | some p => some p
    | none => firstSome f r
def allB (f : Nat → Prop) : List Nat → Prop
  | [] => False
  | [i] => f i
  | i :: r => f i ∧ allB f r
/-- The private blocks 'stab' are as they were when the region began. -/
def stabOk (sr s : St) (stab : List Nat) : Bool := stab.all fun k => match sr.hp.getD k none, s.hp.getD k none with
  | some p, some q => Nat.beq p.ver q.ver
  | _, _ => false

def vcD (P : Program) (qp : Option (List PanicEntry → World → Prop)) (ops : List Oper) (sr : St) (stab : List Nat) : Nat → List Bool → St → World → (St → World → Prop) → Prop
  | 0, _, _, _, _ => False
  | n + 1, listed, s, v, K => match stabOk sr s stab with
    | false => False
    | true => match readyL ops listed with
      | [] => K s v
      | i :: r => match firstSome (staticOf P ops stab listed s v fun listed s => vcD P qp ops sr stab n listed s v K) (i :: r) with
        | some p => p
        | none => allB (fun i => match ops[i]? with
          | none => False
          | some o => match guardS ops s o with
            | .yes => vcOp P qp o s v fun s v => vcD P qp ops sr stab n (listed.set i true) s v K
            | .no => vcD P qp ops sr stab n (listed.set i true) (s.put o.dst (.v undef)) v K
            | _ => False) (i :: r)

def rem (listed : List Bool) : Nat := (listed.filter fun b => !b).length
theorem rem_set : ∀ {listed : List Bool} {i : Nat}, listed[i]? = some false → rem (listed.set i true) + 1 = rem listed
  | [], i, h => by simp at h
  | b :: l, 0, h => by
    simp at h; subst h
    simp [rem]
  | b :: l, i + 1, h => by
    have := rem_set (listed := l) (i := i) (by simpa using h)
    cases b <;> simp [rem] at this ⊢ <;> omega

theorem guardS_sound {ops : Array Oper} {o : Oper} (hr : Rel s v a w) :
    (guardS ops.toList s o = .yes → Region.wanted o (yielded ops a.tmps) = true) ∧ (guardS ops.toList s o = .no → Region.wanted o (yielded ops a.tmps) = false) ∧
    (∀ d b, guardS ops.toList s o = .split d b → a.tmps.getD d undef = .bool b) := by
  unfold guardS
  split
  · rename_i hg
    exact ⟨(fun _ => by simp [Region.wanted, hg]), (fun h => by cases h), (fun d b h => by cases h)⟩
  · rename_i j want hg
    split
    · rename_i oj hj
      split
      · rename_i d hd
        have hw : Region.wanted o (yielded ops a.tmps) = (yielded ops a.tmps j == some want) := by simp [Region.wanted, hg]
        have hy := yielded_of (tmps := a.tmps) (by rw [← hj]; simp : ops[j]? = some oj) hd
        have henv := hr.env d
        have getq : ∀ b, a.tmps.getD d undef = .bool b → yielded ops a.tmps j = some b := fun b hb => by
          rw [hy]
          by_cases hlt : d < a.tmps.size
          · simp [hlt] at hb ⊢; rw [hb]
          · simp [hlt, undef] at hb
        split
        · rename_i b e
          rw [e] at henv
          have hb := getq b henv
          rw [hw, hb]
          cases b <;> cases want <;> simp
        · rename_i b e
          rw [e] at henv
          refine ⟨(fun h => by cases h), (fun h => by cases h), fun d' b' h => ?_⟩
          injection h with h1 h2; subst h1; subst h2
          exact henv
        · rename_i c e
          rw [e] at henv
          have henv : a.tmps.getD d undef = .tuple c := henv
          have hn : yielded ops a.tmps j = none := by
            rw [hy]
            by_cases hlt : d < a.tmps.size
            · simp [hlt] at henv ⊢; rw [henv]
            · simp [hlt]
          exact ⟨(fun h => by cases h), (fun _ => by rw [hw, hn]; rfl), (fun d b h => by cases h)⟩
        · exact ⟨(fun h => by cases h), (fun h => by cases h), (fun d b h => by cases h)⟩
      · exact ⟨(fun h => by cases h), (fun h => by cases h), (fun d b h => by cases h)⟩
    · exact ⟨(fun h => by cases h), (fun h => by cases h), (fun d b h => by cases h)⟩

def JL (sr : St) (stab : List Nat) (w : World) : Prop := ∀ k ∈ stab, ∀ pb, sr.hp[k]? = some (some pb) → ∃ T f, w.heap[pb.b]? = some (.cells pb.cs.toArray T f)
theorem stabOk_sound {sr : St} {stab : List Nat} (h : stabOk sr s stab = true) (he : Ext sr s) (hr : Rel s v a w) : JL sr stab w := by
  intro k hk pb hpb
  simp only [stabOk, List.all_eq_true] at h
  have h1 := h k hk
  have hg : sr.hp.getD k none = some pb := by rw [List.getD_eq_getElem?_getD, hpb]; rfl
  rw [hg] at h1
  split at h1
  · rename_i p q e1 e2
    injection e1 with e1; subst e1
    have hq := hp_getD e2
    have hv := Nat.eq_of_beq_eq_true h1
    have := (he.num k pb q hpb hq).2.2 hv.symm
    subst this
    obtain ⟨T, hT⟩ := hr.priv k _ hq
    exact ⟨T, _, hT⟩
  · cases h1

theorem freeOk_sound {ops : Array Oper} {listed : List Bool} {i : Nat} {oi : Oper} {mild : Bool} (h : freeOk ops.toList listed i oi mild = true) :
    ∃ D, chkD ops i D = true ∧ ∀ (j : Nat) oj, ops[j]? = some oj → j ≠ i → listed.toArray.getD j true = false → D.getD j false = false → oi.apart ops oj = true ∧ (mild = true → mildK oj.op = true) := by
  simp only [freeOk, Bool.and_eq_true, List.all_eq_true, List.mem_range] at h
  refine ⟨_, by rw [← chkDL_eq]; exact h.1, fun j oj hj hne hl hD => ?_⟩
  have hjs := (Array.getElem?_eq_some_iff.1 hj).1
  have h1 := h.2 j (by simpa using hjs)
  have e1 : Nat.beq j i = false := by
    cases hb : Nat.beq j i with
    | false => rfl
    | true => exact absurd (Nat.eq_of_beq_eq_true hb) hne
  have e2 : listed.getD j true = false := by simpa [List.getD_eq_getElem?_getD] using hl
  rw [e1, e2, hD, Array.getElem?_toList, hj] at h1
  simp only [Bool.or_false, Bool.false_or, Bool.and_eq_true, Bool.or_eq_true, Bool.not_eq_true'] at h1
  refine ⟨by simpa using h1.1, fun hm => ?_⟩
  rcases h1.2 with h2 | h2
  · rw [hm] at h2; cases h2
  · exact h2

theorem firstSome_spec {f : Nat → Option Prop} : ∀ {l : List Nat} {p : Prop}, firstSome f l = some p → ∃ i ∈ l, f i = some p
  | [], p, h => by cases h
  | i :: r, p, h => by
    simp only [firstSome] at h
    cases e : f i with
    | some q => rw [e] at h; injection h with h; subst h; exact ⟨i, by simp, e⟩
    | none =>
      rw [e] at h
      obtain ⟨j, hj, he⟩ := firstSome_spec h
      exact ⟨j, by simp [hj], he⟩
theorem allB_spec {f : Nat → Prop} : ∀ {l : List Nat}, allB f l → ∀ i ∈ l, f i
  | [], h, i, hi => by cases hi
  | [j], h, i, hi => by simp at hi; subst hi; exact h
  | j :: k :: r, h, i, hi => by
    rcases List.mem_cons.1 hi with rfl | hi
    · exact h.1
    · exact allB_spec h.2 i hi

theorem vcD_sound (hP : PF P) {ops : Array Oper} (hns : Region.noSelect ops = true) {ds : List (Option Nat)} {a0 : Act} {s0 sr : St} {stab : List Nat} (hds : ∀ o ∈ ops.toList, o.dst ∈ ds)
    (hQ : ∀ chain a w', (∃ q, qp = some q ∧ q chain w') → a.defers = [] → Q (.panic chain) a w') (hQp : ∀ c (a : Act) w dst x, Q (.panic c) (a.put dst x) w → Q (.panic c) a w) (hN : ∀ a' w', Nrm s0 ds a0 K a' w' → Q .normal a' w') :
    ∀ (n : Nat) (listed : List Bool) {s : St} {v : World} {a : Act} {w : World}, vcD P qp ops.toList sr stab n listed s v K → Rel s v a w → Ext sr s → Ext s0 s → SameOut ds a0 a → Closed ops listed.toArray → listed.length = ops.size →
      ∀ m, rem listed ≤ m → wpAnyE P ops Q (fun i w w' => (∀ o, ops[i]? = some o → mildK o.op = true → Ext0 w w') ∧ (JL sr stab w → JL sr stab w')) m listed.toArray a w
  | 0, listed, s, v, a, w, h, _, _, _, _, _, _, _, _ => h.elim
  | n + 1, listed, s, v, a, w, h, hr, hxr, hx0, hso, hcl, hlen, m, hm => by
    simp only [vcD] at h
    split at h
    · exact h.elim
    · rename_i hst
      have hjl := stabOk_sound hst hxr hr
      have hrdy := ready_eq ops listed
      split at h
      · rename_i hnil
        rw [hnil] at hrdy
        have hq : Q .normal a w := hN a w ⟨s, v, hr, hx0, hso, h⟩
        cases m with
        | zero => exact ⟨hrdy, hq⟩
        | succ m => exact ⟨fun _ => hq, by rw [hrdy]; simp⟩
      · rename_i i0 r0 hcons
        rw [hcons] at hrdy
        -- of whatever is ready
        have facts : ∀ i ∈ i0 :: r0, ∃ o, ops[i]? = some o ∧ listed[i]? = some false ∧ o.dst ∈ ds ∧ Closed ops (listed.set i true).toArray ∧ (listed.set i true).length = ops.size ∧ rem (listed.set i true) + 1 = rem listed := fun i hi => by
          have hir : i ∈ Region.ready .any ops listed.toArray := by rw [hrdy]; exact hi
          obtain ⟨hun, o, ho, hall⟩ := mem_ready.1 hir
          have hlt : i < listed.length := by rw [hlen]; exact (Array.getElem?_eq_some_iff.1 ho).1
          have hf : listed[i]? = some false := by
            rw [List.getElem?_eq_getElem hlt]
            simp [hlt] at hun
            rw [hun]
          refine ⟨o, ho, hf, hds o (Array.mem_def.1 (Array.mem_of_getElem? ho)), fun k ok hk hl e he hb => ?_, by simp [hlen], rem_set hf⟩
          have hset : (listed.set i true).toArray = listed.toArray.setIfInBounds i true := by simp
          rw [hset] at hl ⊢
          by_cases hki : i = k
          · subst hki
            rw [ho] at hk; injection hk with hk; subst hk
            exact getD_set_true (hall e he hb)
          · have : Lst listed.toArray k := by unfold Lst at hl ⊢; rw [getD_set_ne false hki] at hl; exact hl
            exact getD_set_true (hcl k ok hk this e he hb)
        split at h
        · rename_i p hp
          obtain ⟨i, hi, hstat⟩ := firstSome_spec hp
          obtain ⟨o, ho, hf, hdo, hcl', hlen', hrem⟩ := facts i hi
          have hir : i ∈ Region.ready .any ops listed.toArray := by rw [hrdy]; exact hi
          have hset : (listed.set i true).toArray = listed.toArray.setIfInBounds i true := by simp
          obtain ⟨m', rfl⟩ : ∃ m', m = m' + 1 := ⟨m - 1, by omega⟩
          -- a step that hangs on no order
          have take : ∀ (J : World → Prop) (x : Value) (av : AV) (mild : Bool), freeOk ops.toList listed i o mild = true → J w → YJ P ops o x a J → AVok s av x →
              (∀ (j : Nat) oj w w', ops[j]? = some oj → (mild = true → mildK oj.op = true) → (∀ o, ops[j]? = some o → mildK o.op = true → Ext0 w w') ∧ (JL sr stab w → JL sr stab w') → J w → J w') →
              vcD P qp ops.toList sr stab n (listed.set i true) (s.put o.dst av) v K → wpAnyE P ops Q (fun i w w' => (∀ o, ops[i]? = some o → mildK o.op = true → Ext0 w w') ∧ (JL sr stab w → JL sr stab w')) (m' + 1) listed.toArray a w := fun J x av mild hfree hJ hy hav hJs hk => by
            obtain ⟨D, hD, hfr⟩ := freeOk_sound hfree
            have ih := vcD_sound hP hns hds hQ hQp hN n (listed.set i true) hk (hr.put o.dst hav) (hxr.trans (Ext.of_hp (by cases o.dst <;> rfl))) (hx0.trans (Ext.of_hp (by cases o.dst <;> rfl))) (hso.trans (SameOut.put a o.dst x ds hdo)) hcl' hlen' m' (by omega)
            rw [hset] at ih
            refine firstE (pre := fun j => ∃ oj, ops[j]? = some oj ∧ (mild = true → mildK oj.op = true)) (J := J) ho (Region.noSelect_spec hns) (fun c a w => hQp c a w o.dst x) hD ?_ (fun w => ⟨fun _ _ _ => Ext0.refl w, id⟩) m' listed.toArray a w (by simp [hlen]) hcl ?_ hir hJ hy ih
            · intro j w1 w2 ⟨oj, hoj, hmj⟩ hs hj
              exact hJs j oj w1 w2 hoj hmj hs hj
            · intro j oj hj hne hl hDj
              obtain ⟨g1, g2⟩ := hfr j oj hj hne hl hDj
              exact ⟨g1, oj, hj, g2⟩
          simp only [staticOf, Array.getElem?_toList, ho] at hstat
          obtain ⟨gy, gn, gs⟩ := guardS_sound (ops := ops) (o := o) hr
          split at hstat
          · cases hstat
          · rename_i d b hsp
            injection hstat with hstat; subst hstat
            have hv := gs d b hsp
            have hx : Ext s (s.put (some d) (.t b)) := Ext.of_hp rfl
            have hk : vcD P qp ops.toList sr stab n listed (s.put (some d) (.t b)) v K := by
              cases b
              · exact h.2 rfl
              · exact h.1 rfl
            exact vcD_sound hP hns hds hQ hQp hN n listed hk (hr.put_same hv) (hxr.trans hx) (hx0.trans hx) hso hcl hlen (m' + 1) hm
          · rename_i hno
            split at hstat
            · rename_i hfree
              injection hstat with hstat; subst hstat
              exact take (fun _ => True) undef (.v undef) false hfree trivial (.inr ⟨gn hno, rfl⟩) rfl (fun _ _ _ _ _ _ _ _ => trivial) h
            · cases hstat
          · rename_i hyes
            have hw := gy hyes
            split at hstat
            · rename_i q hq
              split at hstat
              · rename_i hfree
                injection hstat with hstat; subst hstat
                obtain ⟨x, av, hy, hav, hk⟩ := pvc_sound hq h hr
                exact take (fun _ => True) x av false hfree trivial (.inl ⟨hw, hy⟩) hav (fun _ _ _ _ _ _ _ _ => trivial) hk
              · cases hstat
            · split at hstat
              · rename_i k q hq
                split at hstat
                · rename_i hfree
                  injection hstat with hstat; subst hstat
                  simp only [Bool.and_eq_true, List.contains_eq_mem, decide_eq_true_eq] at hfree
                  obtain ⟨pb, x, av, hkp, hy, hav, hk⟩ := rvc_sound hq h hr
                  -- the block is as it was when the region began
                  obtain ⟨pr, hpr⟩ : ∃ pr, sr.hp[k]? = some (some pr) := by
                    have h1 := List.all_eq_true.1 hst k hfree.1
                    split at h1
                    · rename_i p q' e1 e2; exact ⟨p, hp_getD e1⟩
                    · cases h1
                  have hsame : pb = pr := by
                    have h1 := List.all_eq_true.1 hst k hfree.1
                    have e1 : sr.hp.getD k none = some pr := by rw [List.getD_eq_getElem?_getD, hpr]; rfl
                    have e2 : s.hp.getD k none = some pb := by rw [List.getD_eq_getElem?_getD, hkp]; rfl
                    rw [e1, e2] at h1
                    exact (hxr.num k pr pb hpr hkp).2.2 (Nat.eq_of_beq_eq_true h1).symm
                  subst hsame
                  exact take (JL sr stab) x av false hfree.2 hjl (.inl ⟨hw, fun w' hj => hy w' (hj k hfree.1 pb hpr)⟩) hav (fun _ _ _ _ _ _ hs hj => hs.2 hj) hk
                · cases hstat
              · split at hstat
                · rename_i q hq
                  split at hstat
                  · rename_i hfree
                    injection hstat with hstat; subst hstat
                    obtain ⟨x, av, hy, hav, hk⟩ := qvc_sound hq h hr
                    refine take (fun w' => Ext0 w w') x av true hfree (Ext0.refl w) (.inl ⟨hw, fun w' hj => hy w' (hr.sees hj)⟩) hav (fun j oj w1 w2 hoj hmj hs hj => ?_) hk
                    have := hs.1 oj hoj (hmj rfl)
                    exact ⟨Nat.le_trans hj.1 this.1, fun b hb => (this.2 b (Nat.lt_of_lt_of_le hb hj.1)).trans (hj.2 b hb)⟩
                  · cases hstat
                · cases hstat
        · rename_i hnone
          obtain ⟨m', rfl⟩ : ∃ m', m = m' + 1 := ⟨m - 1, by obtain ⟨_, _, _, _, _, _, hrem⟩ := facts i0 (by simp); omega⟩
          refine ⟨(fun h0 => by rw [hrdy] at h0; cases h0), fun i hi => ?_⟩
          rw [hrdy] at hi
          have h1 := allB_spec h i hi
          obtain ⟨o, ho, hf, hdo, hcl', hlen', hrem⟩ := facts i hi
          have hset : (listed.set i true).toArray = listed.toArray.setIfInBounds i true := by simp
          simp only [Array.getElem?_toList, ho] at h1
          obtain ⟨gy, gn, gs⟩ := guardS_sound (ops := ops) (o := o) hr
          unfold wpOp
          simp only [ho]
          split at h1
          · rename_i hyes
            rw [if_pos (gy hyes)]
            refine .inl (Oper.wp_mono (fun a' w' hp => ?_) (vcOp_sound hP h1 hr (fun chain w' hq => hQ chain a w' hq hr.defers)))
            obtain ⟨s', v', g1, g2, g3, ⟨x, rfl⟩, hem⟩ := hp
            have ih := vcD_sound hP hns hds hQ hQp hN n (listed.set i true) g3 g1 (hxr.trans g2) (hx0.trans g2) (hso.trans (SameOut.put a o.dst x ds hdo)) hcl' hlen' m' (by omega)
            rw [hset] at ih
            refine ⟨⟨fun o' ho' hmd => ?_, fun _ => ?_⟩, ih⟩
            · cases ho'; exact hem hmd
            · cases n with
              | zero => exact g3.elim
              | succ n =>
                simp only [vcD] at g3
                split at g3
                · exact g3.elim
                · rename_i hst'; exact stabOk_sound hst' (hxr.trans g2) g1
          · rename_i hno
            rw [if_neg (by rw [gn hno]; simp)]
            have ih := vcD_sound hP hns hds hQ hQp hN n (listed.set i true) h1 (hr.put o.dst (x := .v undef) (z := undef) rfl) (hxr.trans (Ext.of_hp (by cases o.dst <;> rfl))) (hx0.trans (Ext.of_hp (by cases o.dst <;> rfl))) (hso.trans (SameOut.put a o.dst undef ds hdo)) hcl' hlen' m' (by omega)
            rw [hset] at ih
            exact ⟨⟨fun _ _ _ => Ext0.refl w, id⟩, ih⟩
          · exact h1.elim

end
end Go.V
