/- Every operation under one name; a region in the order of its text. -/
import Derived.Test.YtcaamecdhbgknaaV12
namespace Go.V
open Go.RowKit
set_option linter.unusedVariables false
set_option linter.unusedSimpArgs false

/-- What must be known of a program. -/
structure PF (P : Program) : Prop where
  ng : ∀ (f : Nat) (fn : Func), P.funcs[f]? = some fn → (fn.name == "runtime.NumGoroutine") = false
  mixed : P.follows .mixedOrders = true

/-- Operations that turn no block that was there. -/
def mildK : Op → Bool
  | .store .. | .mapUpdate .. | .insert .. | .next .. => false
  | .call c => match c.callee with
    | .builtin .len | .builtin .cap | .builtin .min | .builtin .max => true
    | _ => false
  | _ => true

/-- Slots whose private blocks become known. -/
def pubSlots (s : St) (v : World) : List Nat → (St → World → Prop) → Prop
  | [], K => K s v
  | t :: ts, K => match s.get t with
    | .r k _ => pub s v k fun s v _ => pubSlots s v ts K
    | .q k _ => pub s v k fun s v _ => pubSlots s v ts K
    | _ => pubSlots s v ts K

theorem pubSlots_sound {ts : List Nat} : ∀ {s : St} {v : World} {K : St → World → Prop} {a : Act} {w : World}, pubSlots s v ts K → Rel s v a w → ∃ s' v', Rel s' v' a w ∧ Ext s s' ∧ K s' v' := by
  induction ts with
  | nil => intro s v K a w h hr; exact ⟨s, v, hr, Ext.refl _, h⟩
  | cons t ts ih =>
    intro s v K a w h hr
    unfold pubSlots at h
    split at h
    · obtain ⟨pb, s', _, r1, e1, h1⟩ := pub_sound h hr
      obtain ⟨s2, v2, r2, e2, h2⟩ := ih h1 r1
      exact ⟨s2, v2, r2, e1.trans e2, h2⟩
    · obtain ⟨pb, s', _, r1, e1, h1⟩ := pub_sound h hr
      obtain ⟨s2, v2, r2, e2, h2⟩ := ih h1 r1
      exact ⟨s2, v2, r2, e1.trans e2, h2⟩
    · exact ih h hr

def bigK (P : Program) (e : TypeId) (dst : Option Nat) (K : St → World → Prop) (s : St) (v : World) : Prop := match bigN P e with
  | some _ => match dst with
    | some t => pubSlots s v [t] K
    | none => K s v
  | none => K s v
theorem bigK_sound {P : Program} {e : TypeId} {dst : Option Nat} {K : St → World → Prop} {s : St} {v : World} {a : Act} {w : World} (h : bigK P e dst K s v) (hr : Rel s v a w) : ∃ s' v', Rel s' v' a w ∧ Ext s s' ∧ K s' v' := by
  unfold bigK at h
  split at h
  · split at h
    · exact pubSlots_sound h hr
    · exact ⟨s, v, hr, Ext.refl _, h⟩
  · exact ⟨s, v, hr, Ext.refl _, h⟩

section
variable {P : Program} {o : Oper} {s : St} {v : World} {K : St → World → Prop} {a : Act} {w : World} {Q : Exit → Act → World → Prop} {qp : Option (List PanicEntry → World → Prop)}

def loudR (P : Program) (qp : Option (List PanicEntry → World → Prop)) (o : Oper) (s : St) (v : World) (K : St → World → Prop) : Prop :=
  match o.op with
  | .alloc e => allocR P s v o.dst e (bigK P e o.dst K)
  | .box e x => boxR s v o.dst x (bigK P e o.dst K)
  | .store t x y => storeR P s v t x y fun s v => K (s.put o.dst .no) v
  | .makeMap t none => makeMapR s v o.dst K
  | .makeSlice t l c => makeSliceR P s v o.dst t l c K
  | .buildSlice t n parts => buildSliceR P s v o.dst t n parts.toList K
  | .mapUpdate t m k x => mapUpdR P s v t m k x fun s v => K (s.put o.dst .no) v
  | .range t x => rangeR P s v o.dst t x K
  | .next x b => nextR P s v o.dst x b K
  | .entry x => entryR P s v o.dst x K
  | .call c => match c.callee with
    | .value f => callR P qp s v o.dst o.type f c.args.toList K
    | .builtin .append => match c.args.toList, c.argTypes.toList with
      | [x, y], [t, tx] => appendR P s v o.dst t tx x y K
      | _, _ => False
    | .builtin .copy => match c.args.toList, c.argTypes.toList with
      | [x, y], [t, _] => copyR P s v o.dst t x y K
      | _, _ => False
    | .builtin .delete => match c.args.toList, c.argTypes.toList with
      | [m, k], [t, _] => delR P s v t m k fun s v => K (s.put o.dst .no) v
      | _, _ => False
    | .builtin .clear => match c.args.toList, c.argTypes.toList with
      | [m], [t] => clearR P s v t m fun s v => K (s.put o.dst .no) v
      | _, _ => False
    | _ => useVs s v o.op.operands.toList fun s v _ => match pvc P s o.op fun av => K (s.put o.dst av) v with
      | some p => p
      | none => False
  | .convert a b x => match P.underlying a with
    | some .string => bytesR P s v o.dst a b x K
    | _ => useVs s v [x] fun s v _ => match qvc P s v o.op fun av => K (s.put o.dst av) v with
      | some p => p
      | none => False
  | op => useVs s v op.operands.toList fun s v _ => match pvc P s op fun av => K (s.put o.dst av) v with
    | some p => p
    | none => False

/-- What is to be shown ahead of an operation. -/
def vcOp (P : Program) (qp : Option (List PanicEntry → World → Prop)) (o : Oper) (s : St) (v : World) (K : St → World → Prop) : Prop :=
  match pvc P s o.op fun av => K (s.put o.dst av) v with
  | some p => p
  | none => match rvc P s o.op fun av => K (s.put o.dst av) v with
    | some (_, p) => p
    | none => match qvc P s v o.op fun av => K (s.put o.dst av) v with
      | some p => p
      | none => loudR P qp o s v K

theorem P1.weaken {E E' : World → Prop} {dst : Option Nat} {a' : Act} {w' : World} (h : P1 E s a dst K a' w') (he : E w' → E' w') : P1 E' s a dst K a' w' := by
  obtain ⟨s', v', h1, h2, h3, h4, h5⟩ := h
  exact ⟨s', v', h1, h2, h3, h4, he h5⟩

def Em (o : Oper) (w w' : World) : Prop := mildK o.op = true → Ext0 w w'

theorem pure_wp {s0 : St} {pr : Prop} (he : Ext s0 s) (h : pvc P s o.op (fun av => K (s.put o.dst av) v) = some pr) (hp : pr) (hr : Rel s v a w) : o.wp P a w (P1 (Em o w) s0 a o.dst K) Q := by
  obtain ⟨x, av, hy, ha, hk⟩ := pvc_sound h hp hr
  exact wp_value (hy w trivial) (P1.mk (fun _ => Ext0.refl w) hr he ha hk)

theorem P1.big {e : TypeId} {E : World → Prop} {dst : Option Nat} {a' : Act} {w' : World} (h : P1 E s a dst (bigK P e dst K) a' w') : P1 E s a dst K a' w' := by
  obtain ⟨s', v', h1, h2, h3, h4, h5⟩ := h
  obtain ⟨s2, v2, r2, e2, k2⟩ := bigK_sound h3 h1
  exact ⟨s2, v2, r2, h2.trans e2, k2, h4, h5⟩

theorem loudR_sound (hP : PF P) (h : loudR P qp o s v K) (hr : Rel s v a w) (hQ : ∀ chain w', (∃ q, qp = some q ∧ q chain w') → Q (.panic chain) a w') : o.wp P a w (P1 (Em o w) s a o.dst K) Q := by
  have up : ∀ {E : World → Prop}, (∀ w', E w' → Em o w w') → o.wp P a w (P1 E s a o.dst K) Q → o.wp P a w (P1 (Em o w) s a o.dst K) Q := fun he h => Oper.wp_mono (fun _ _ h => h.weaken (he _)) h
  have hard : mildK o.op = false → o.wp P a w (P1 Tt s a o.dst K) Q → o.wp P a w (P1 (Em o w) s a o.dst K) Q := fun hm => up (fun w' _ hc => by rw [hm] at hc; cases hc)
  have soft : o.wp P a w (P1 (Ext0 w) s a o.dst K) Q → o.wp P a w (P1 (Em o w) s a o.dst K) Q := up (fun w' he _ => he)
  have fall : ∀ (xs : List Operand), (useVs s v xs fun s v _ => match pvc P s o.op fun av => K (s.put o.dst av) v with | some p => p | none => False) → o.wp P a w (P1 (Em o w) s a o.dst K) Q := fun xs h => by
    obtain ⟨s1, v1, r1, e1, h1⟩ := useVs_sound h hr
    split at h1
    · rename_i p hp; exact pure_wp e1 hp h1 r1
    · exact h1.elim
  unfold loudR at h
  split at h
  · rename_i e ho; exact soft (Oper.wp_mono (fun _ _ h => P1.big h) (R_alloc ho h hr))
  · rename_i e x ho; exact soft (Oper.wp_mono (fun _ _ h => P1.big h) (R_box ho h hr))
  · rename_i t x y ho; exact hard (by rw [ho]; rfl) (R_store ho h hr)
  · rename_i t ho; exact soft (R_makeMap ho h hr)
  · rename_i t l c ho; exact soft (R_makeSlice ho h hr)
  · rename_i t n parts ho; exact soft (R_buildSlice ho h hr)
  · rename_i t m k x ho; exact hard (by rw [ho]; rfl) (R_mapUpdate ho h hr)
  · rename_i t x ho; exact soft (R_range ho h hr)
  · rename_i x b ho; exact hard (by rw [ho]; rfl) (R_next ho h hr)
  · rename_i x ho; exact soft (R_entry ho h hr)
  · rename_i c ho
    obtain ⟨cal, args, ts⟩ := c
    simp only at h
    split at h
    · rename_i f
      exact hard (by rw [ho]; rfl) (R_call hP.ng ho h hr hQ)
    · split at h
      · rename_i x y t tx e1 e2
        obtain rfl : args = #[x, y] := Array.ext' e1
        obtain rfl : ts = #[t, tx] := Array.ext' e2
        exact hard (by rw [ho]; rfl) (R_append ho h hr)
      · exact h.elim
    · split at h
      · rename_i x y t tx e1 e2
        obtain rfl : args = #[x, y] := Array.ext' e1
        obtain rfl : ts = #[t, tx] := Array.ext' e2
        exact hard (by rw [ho]; rfl) (R_copy ho h hr)
      · exact h.elim
    · split at h
      · rename_i x y t tx e1 e2
        obtain rfl : args = #[x, y] := Array.ext' e1
        obtain rfl : ts = #[t, tx] := Array.ext' e2
        exact hard (by rw [ho]; rfl) (R_delete ho ⟨_, rfl⟩ h hr)
      · exact h.elim
    · split at h
      · rename_i x t e1 e2
        obtain rfl : args = #[x] := Array.ext' e1
        obtain rfl : ts = #[t] := Array.ext' e2
        exact hard (by rw [ho]; rfl) (R_clear ho h hr)
      · exact h.elim
    · exact fall _ h
  · rename_i c b x ho
    split at h
    · exact soft (R_bytes ho h hr)
    · obtain ⟨s1, v1, r1, e1, h1⟩ := useVs_sound h hr
      split at h1
      · rename_i p hp
        obtain ⟨x, av, hy, ha, hk⟩ := qvc_sound hp h1 r1
        exact wp_value (hy w (r1.sees (Ext0.refl w))) (P1.mk (fun _ => Ext0.refl w) r1 e1 ha hk)
      · exact h1.elim
  · exact fall _ h

theorem vcOp_sound (hP : PF P) (h : vcOp P qp o s v K) (hr : Rel s v a w) (hQ : ∀ chain w', (∃ q, qp = some q ∧ q chain w') → Q (.panic chain) a w') : o.wp P a w (P1 (Em o w) s a o.dst K) Q := by
  unfold vcOp at h
  split at h
  · rename_i p hp; exact pure_wp (Ext.refl _) hp h hr
  · split at h
    · rename_i k p hp
      obtain ⟨pb, x, av, hk, hy, ha, hK⟩ := rvc_sound hp h hr
      obtain ⟨T, hT⟩ := hr.priv k pb hk
      exact wp_value (hy w ⟨T, _, hT⟩) (P1.mk (fun _ => Ext0.refl w) hr (Ext.refl _) ha hK)
    · split at h
      · rename_i p hp
        obtain ⟨x, av, hy, ha, hk⟩ := qvc_sound hp h hr
        exact wp_value (hy w (hr.sees (Ext0.refl w))) (P1.mk (fun _ => Ext0.refl w) hr (Ext.refl _) ha hk)
      · exact loudR_sound hP h hr hQ

/-! ### guards -/
/-- Both ways of a truth value. -/
def bcase (b : Bool) (x y : Prop) : Prop := (b = true → x) ∧ (b = false → y)

/-- An operation that is done only if a truth value, reckoned by operation j, is so. -/
def guardP (ops : List Oper) (s : St) (o : Oper) (yes no : St → Prop) : Prop :=
  match o.guard with
  | none => yes s
  | some (j, want) => match ops[j]? with
    | some oj => match oj.dst with
      | some d => match s.get d with
        | .t b => match b, want with
          | true, true => yes s
          | false, false => yes s
          | _, _ => no s
        | .v (.bool b) => match want with
          | true => bcase b (yes (s.put (some d) (.t true))) (no (s.put (some d) (.t false)))
          | false => bcase b (no (s.put (some d) (.t true))) (yes (s.put (some d) (.t false)))
        | .v (.tuple _) => no s
        | _ => False
      | none => False
    | none => False

theorem yielded_of {ops : Array Oper} {tmps : Array Value} {j d : Nat} {oj : Oper} (h1 : ops[j]? = some oj) (h2 : oj.dst = some d) : yielded ops tmps j = match tmps[d]? with
    | some (.bool b) => some b
    | _ => none := by
  simp only [yielded, h1, h2, Option.bind_some]
  rfl

theorem Rel.put_same {d : Nat} {x : AV} (hr : Rel s v a w) (hx : AVok s x (a.tmps.getD d undef)) : Rel (s.put (some d) x) v a w := by
  have h := hr.put (some d) hx
  have e : a.put (some d) (a.tmps.getD d undef) = a := by
    obtain ⟨t, df⟩ := a
    simp only [Act.put] at *
    congr 1
    apply Array.ext_getElem?
    intro i
    by_cases e : d = i
    · subst e
      by_cases hd : d < t.size
      · simp [hd]
      · simp [hd]
    · rw [Array.getElem?_setIfInBounds_ne e]
  rw [e] at h; exact h

theorem guardP_sound {ops : Array Oper} {yes no : St → Prop} (h : guardP ops.toList s o yes no) (hr : Rel s v a w) :
    ∃ s', Rel s' v a w ∧ Ext s s' ∧ (if Region.wanted o (yielded ops a.tmps) = true then yes s' else no s') := by
  unfold guardP at h
  split at h
  · rename_i hg
    refine ⟨s, hr, Ext.refl _, ?_⟩
    simp [Region.wanted, hg]; exact h
  · rename_i j want hg
    split at h
    · rename_i oj hj
      split at h
      · rename_i d hd
        have hw : Region.wanted o (yielded ops a.tmps) = (yielded ops a.tmps j == some want) := by simp [Region.wanted, hg]
        have hy := yielded_of (tmps := a.tmps) (by rw [← hj]; simp : ops[j]? = some oj) hd
        have henv := hr.env d
        have getq : ∀ b, a.tmps.getD d undef = .bool b → yielded ops a.tmps j = some b := fun b hb => by
          rw [hy]
          by_cases hlt : d < a.tmps.size
          · simp [hlt] at hb ⊢; rw [hb]
          · simp [hlt, undef] at hb
        split at h
        · rename_i b e
          rw [e] at henv
          have hb := getq b henv
          refine ⟨s, hr, Ext.refl _, ?_⟩
          rw [hw, hb]
          split at h
          · simpa using h
          · simpa using h
          · rename_i n1 n2
            have hne : ¬ (b = want) := fun e => by cases b <;> cases want <;> simp_all
            simp [hne]; exact h
        · rename_i b e
          rw [e] at henv
          have henv : a.tmps.getD d undef = .bool b := henv
          have hb := getq b henv
          have hx : Ext s (s.put (some d) (.t b)) := Ext.of_hp rfl
          refine ⟨s.put (some d) (.t b), hr.put_same henv, hx, ?_⟩
          rw [hw, hb]
          split at h
          · cases b
            · simpa using h.2 rfl
            · simpa using h.1 rfl
          · cases b
            · simpa using h.2 rfl
            · simpa using h.1 rfl
        · rename_i c e
          rw [e] at henv
          have henv : a.tmps.getD d undef = .tuple c := henv
          have hn : yielded ops a.tmps j = none := by
            rw [hy]
            by_cases hlt : d < a.tmps.size
            · simp [hlt] at henv ⊢; rw [henv]
            · simp [hlt]
          refine ⟨s, hr, Ext.refl _, ?_⟩
          rw [hw, hn]; simpa using h
        · exact h.elim
      · exact h.elim
    · exact h.elim

/-! ### a region in the order of its text -/
def vcOps (P : Program) (qp : Option (List PanicEntry → World → Prop)) (ops : List Oper) : List Oper → St → World → (St → World → Prop) → Prop
  | [], s, v, K => K s v
  | o :: rest, s, v, K => guardP ops s o (fun s => vcOp P qp o s v fun s v => vcOps P qp ops rest s v K) (fun s => vcOps P qp ops rest (s.put o.dst (.v undef)) v K)

def SameOut (ds : List (Option Nat)) (a a' : Act) : Prop := a'.tmps.size = a.tmps.size ∧ ∀ t, some t ∉ ds → a'.tmps.getD t undef = a.tmps.getD t undef
theorem SameOut.refl (ds : List (Option Nat)) (a : Act) : SameOut ds a a := ⟨rfl, fun _ _ => rfl⟩
theorem SameOut.put (a : Act) (dst : Option Nat) (x : Value) (ds : List (Option Nat)) (h : dst ∈ ds) : SameOut ds a (a.put dst x) := by
  refine ⟨by cases dst <;> simp [Act.put], fun t ht => ?_⟩
  cases dst with
  | none => rfl
  | some d =>
    have : d ≠ t := fun e => ht (e ▸ h)
    simp [Act.put, Array.getElem?_setIfInBounds_ne this]
theorem SameOut.trans {ds : List (Option Nat)} {a b c : Act} (h : SameOut ds a b) (k : SameOut ds b c) : SameOut ds a c := ⟨k.1.trans h.1, fun t ht => (k.2 t ht).trans (h.2 t ht)⟩
theorem SameOut.mono {ds ds' : List (Option Nat)} {a b : Act} (h : SameOut ds a b) (hd : ∀ x ∈ ds, x ∈ ds') : SameOut ds' a b := ⟨h.1, fun t ht => h.2 t fun hm => ht (hd _ hm)⟩

/-- What holds where a piece of code has come to an end of its own. -/
def Nrm (s : St) (ds : List (Option Nat)) (a : Act) (K : St → World → Prop) (a' : Act) (w' : World) : Prop := ∃ s' v', Rel s' v' a' w' ∧ Ext s s' ∧ SameOut ds a a' ∧ K s' v'

theorem vcOps_sound (hP : PF P) {ops : Array Oper} {ds : List (Option Nat)} {a0 : Act} {s0 : St} : ∀ (l : List Oper) {s : St} {v : World} {a : Act} {w : World}, (∀ o ∈ l, o.dst ∈ ds) → vcOps P qp ops.toList l s v K → Rel s v a w → Ext s0 s → SameOut ds a0 a →
    (∀ chain a w', (∃ q, qp = some q ∧ q chain w') → a.defers = [] → Q (.panic chain) a w') → (∀ a' w', Nrm s0 ds a0 K a' w' → Q .normal a' w') → wpList P ops Q l a w
  | [], s, v, a, w, _, h, hr, he, hs, hQ, hN => hN a w ⟨s, v, hr, he, hs, h⟩
  | o :: rest, s, v, a, w, hd, h, hr, he, hs, hQ, hN => by
    obtain ⟨s1, r1, e1, h1⟩ := guardP_sound h hr
    have hdo := hd o (by simp)
    have hdr : ∀ o ∈ rest, o.dst ∈ ds := fun x hx => hd x (by simp [hx])
    simp only [wpList]
    split
    · rename_i hw
      rw [if_pos hw] at h1
      refine .inl (Oper.wp_mono (fun a' w' hp => ?_) (vcOp_sound hP h1 r1 (fun chain w' hq => hQ chain a w' hq r1.defers)))
      obtain ⟨s', v', g1, g2, g3, ⟨x, rfl⟩, _⟩ := hp
      exact vcOps_sound hP rest hdr g3 g1 ((he.trans e1).trans g2) (hs.trans (SameOut.put a o.dst x ds hdo)) hQ hN
    · rename_i hw
      rw [if_neg hw] at h1
      have r2 := r1.put o.dst (x := .v undef) (z := undef) rfl
      exact vcOps_sound hP rest hdr h1 r2 ((he.trans e1).trans (Ext.of_hp (by cases o.dst <;> rfl))) (hs.trans (SameOut.put a o.dst undef ds hdo)) hQ hN

end
end Go.V
