/- Texts of this session's repo, laid together: V1 V2 V3 V4 V5 V6 V7 V8 V9 V10. -/
import Derived.WalkKit
import Derived.Orders
import Derived.KernelRfl
import Derived.Deep.AppendSrc
import Derived.Lib.FrozenHead
import Derived.Laws.MakeOwn
import Derived.Lib.IndexEntry
section
/- What is known of a frame and of the memory while a function's text is gone through: slots with known values, blocks that nobody else knows. -/
namespace Go.V
open Go.RowKit
set_option linter.unusedVariables false

/-- What is known of a slot: nothing; its value; an address; an address into the private block number k of the list; a slice that is the whole private block number k, n elements; a truth value that was parted on. -/
inductive AV where
  | no
  | v (x : Value)
  | a (ad : Addr)
  | r (k off : Nat)
  | q (k n : Nat)
  | t (b : Bool)

/-- A private block: its number, how often it was written, its cells. -/
structure PB where
  b : Nat
  ver : Nat
  cs : List Value

structure St where
  env : List AV
  hp : List (Option PB)
  mods : List (Nat × Nat)
  news : List (Nat × Nat)
  clean : Bool
  its : List (Nat × Nat) := []
  dfs : List Nat := []

/-- What is among the deferred calls: the marks of ranges over functions. -/
def coll (l : List Nat) : List Deferred := l.map fun r => { target := .collected r, args := #[] }

def St.get (s : St) (t : Nat) : AV := s.env.getD t .no
/-- As it stands, a truth value that was parted on included. -/
def St.evc (s : St) : Operand → AV
  | .tmp t => s.get t
  | .const (.bool b) => .t b
  | .const x => .v x
  | .global g => .a ⟨g, 0, none⟩
  | .func f => .v (.func (.func f) #[] #[])
def AV.plain : AV → AV
  | .t b => .v (.bool b)
  | x => x
def St.ev (s : St) : Operand → AV
  | .tmp t => (s.get t).plain
  | .const x => .v x
  | .global g => .a ⟨g, 0, none⟩
  | .func f => .v (.func (.func f) #[] #[])
def St.put (s : St) (dst : Option Nat) (x : AV) : St :=
  match dst with
  | some d => { s with env := s.env.set d x }
  | none => s
def St.synced (s : St) : St := { s with mods := [], news := [], clean := true }
def St.privs (s : St) : List Nat := s.hp.filterMap fun x => x.map PB.b

/-- From world v to world w: only the blocks 'mods' have turned; 'news' have been made. -/
structure Step (v w : World) (mods news : List Nat) : Prop where
  os : w.os = v.os
  tape : w.tape = v.tape
  output : w.output = v.output
  size : v.heap.size ≤ w.heap.size
  blk : ∀ b, b < v.heap.size → b ∉ mods → w.heap[b]? = v.heap[b]?
  new : ∀ b ∈ news, v.heap.size ≤ b ∧ b < w.heap.size
  nd : news.Nodup

/-- Block b is a row of these cells, each of which may be written. -/
def Blk (w : World) (b : Nat) (cs : List Value) : Prop :=
  ∃ T lo hi, w.heap[b]? = some (.cells cs.toArray T (lo, hi)) ∧ (hi ≤ lo ∨ cs.length ≤ lo)

/-- No cell of block b is frozen. -/
def Plain (w : World) (b : Nat) : Prop := ∀ cs T lo hi, w.heap[b]? = some (.cells cs T (lo, hi)) → hi ≤ lo
/-- From v to w block b was marked. -/
structure Mark (v w : World) (b : Nat) (cs : List Value) : Prop where
  os : w.os = v.os
  tape : w.tape = v.tape
  output : w.output = v.output
  size : w.heap.size = v.heap.size
  oth : ∀ b', b' ≠ b → w.heap[b']? = v.heap[b']?
  blk : Blk w b cs
/-- From v to w just the cells of block b have turned. -/
structure Upd (v w : World) (b : Nat) (cs : List Value) : Prop where
  os : w.os = v.os
  tape : w.tape = v.tape
  output : w.output = v.output
  size : w.heap.size = v.heap.size
  oth : ∀ b', b' ≠ b → w.heap[b']? = v.heap[b']?
  blk : Blk w b cs
  pl : Plain v b → Plain w b
theorem Upd.mark {v w : World} {b : Nat} {cs : List Value} (h : Upd v w b cs) : Mark v w b cs := ⟨h.os, h.tape, h.output, h.size, h.oth, h.blk⟩
theorem Plain.kept {v w : World} {b : Nat} {cs cs' : Array Value} {T : TypeId} {f : Nat × Nat} (hv : v.heap[b]? = some (.cells cs T f)) (hw : w.heap[b]? = some (.cells cs' T f)) (h : Plain v b) : Plain w b := fun c T' lo hi e => by
  rw [hw] at e
  injection e with e
  injection e with e1 e2 e3
  subst e3
  exact h _ _ _ _ hv
theorem Plain.of {w : World} {b : Nat} {cs : Array Value} {T : TypeId} {lo hi : Nat} (hw : w.heap[b]? = some (.cells cs T (lo, hi))) (h : hi ≤ lo) : Plain w b := fun c T' lo' hi' e => by
  rw [hw] at e
  injection e with e
  injection e with e1 e2 e3
  injection e3 with e3 e4
  omega

def Keep (bs : List Nat) (v w : World) : Prop := ∀ b ∈ bs, w.heap[b]? = v.heap[b]?

def AVok (s : St) : AV → Value → Prop
  | .no, _ => True
  | .v y, x => x = y
  | .a ad, x => x = .pointer (some ad)
  | .r k off, x => ∃ pb, s.hp[k]? = some (some pb) ∧ x = .pointer (some ⟨pb.b, off, none⟩)
  | .q k n, x => ∃ pb, s.hp[k]? = some (some pb) ∧ x = .slice (some ⟨pb.b, 0, none⟩) n n
  | .t b, x => x = .bool b

structure Rel (s : St) (v : World) (a : Act) (w : World) : Prop where
  defers : a.defers = coll s.dfs
  size : a.tmps.size = s.env.length
  env : ∀ t, AVok s (s.get t) (a.tmps.getD t undef)
  priv : ∀ (k : Nat) pb, s.hp[k]? = some (some pb) → ∃ T, w.heap[pb.b]? = some (.cells pb.cs.toArray T (0, 0))
  inj : ∀ (k k' : Nat) pb pb', k ≠ k' → s.hp[k]? = some (some pb) → s.hp[k']? = some (some pb') → pb.b ≠ pb'.b
  step : Step v w (s.mods.map (·.2)) (s.news.map (·.2))
  clean : s.clean = true → w = v
  lnk : ∀ k b, (k, b) ∈ s.news ∨ (k, b) ∈ s.mods → k < s.hp.length ∧ ∀ pb, s.hp[k]? = some (some pb) → pb.b = b

/-- Private blocks keep their numbers. -/
structure Ext (s s' : St) : Prop where
  len : s.hp.length ≤ s'.hp.length
  num : ∀ (k : Nat) pb pb', s.hp[k]? = some (some pb) → s'.hp[k]? = some (some pb') → pb'.b = pb.b ∧ pb.ver ≤ pb'.ver ∧ (pb'.ver = pb.ver → pb' = pb)
  gone : ∀ (k : Nat), s.hp[k]? = some none → s'.hp[k]? = some none

theorem Ext.refl (s : St) : Ext s s := ⟨Nat.le_refl _, fun k pb pb' h h' => by rw [h] at h'; injection h' with h'; injection h' with h'; subst h'; exact ⟨rfl, Nat.le_refl _, fun _ => rfl⟩, fun _ h => h⟩
theorem Ext.of_hp {s s' : St} (h : s'.hp = s.hp) : Ext s s' := by
  refine ⟨by rw [h]; exact Nat.le_refl _, fun k pb pb' h1 h2 => ?_, fun k h1 => by rw [h]; exact h1⟩
  rw [h, h1] at h2; injection h2 with h2; injection h2 with h2; subst h2; exact ⟨rfl, Nat.le_refl _, fun _ => rfl⟩
theorem Ext.trans {s1 s2 s3 : St} (h : Ext s1 s2) (k : Ext s2 s3) : Ext s1 s3 := by
  refine ⟨Nat.le_trans h.len k.len, fun i pb pb' h1 h2 => ?_, fun i h1 => k.gone i (h.gone i h1)⟩
  have hi : i < s1.hp.length := by
    rcases Nat.lt_or_ge i s1.hp.length with z | z
    · exact z
    · rw [List.getElem?_eq_none z] at h1; cases h1
  have hi2 : i < s2.hp.length := Nat.lt_of_lt_of_le hi h.len
  obtain ⟨x, hx⟩ : ∃ x, s2.hp[i]? = some x := ⟨_, List.getElem?_eq_getElem hi2⟩
  cases x with
  | none => rw [k.gone i hx] at h2; cases h2
  | some q =>
    obtain ⟨a1, a2, a3⟩ := k.num i q pb' hx h2
    obtain ⟨b1, b2, b3⟩ := h.num i pb q h1 hx
    refine ⟨a1.trans b1, by omega, fun e => ?_⟩
    have e1 : q.ver = pb.ver := by omega
    rw [a3 (by omega), b3 e1]

theorem Step.refl (v : World) (mods : List Nat) : Step v v mods [] := ⟨rfl, rfl, rfl, Nat.le_refl _, fun _ _ _ => rfl, (fun _ h => by cases h), List.nodup_nil⟩

theorem getD_of_lt {l : List AV} {t : Nat} (h : t < l.length) : l.getD t .no = l[t] := by simp [List.getD, h]

theorem AVok.plain {s : St} {x : AV} {z : Value} (h : AVok s x z) : AVok s x.plain z := by
  cases x <;> exact h
theorem Rel.evc {s : St} {v : World} {a : Act} {w : World} (h : Rel s v a w) (o : Operand) : AVok s (s.evc o) (a.eval o) := by
  cases o with
  | tmp t => exact h.env t
  | const x => cases x <;> rfl
  | global g => rfl
  | func f => rfl
theorem Rel.ev {s : St} {v : World} {a : Act} {w : World} (h : Rel s v a w) (o : Operand) : AVok s (s.ev o) (a.eval o) := by
  cases o with
  | tmp t => exact (h.env t).plain
  | const x => rfl
  | global g => rfl
  | func f => rfl

theorem AVok.put {s : St} {dst : Option Nat} {x y : AV} {z : Value} (h : AVok s y z) : AVok (s.put dst x) y z := by
  have e : (s.put dst x).hp = s.hp := by cases dst <;> rfl
  cases y with
  | no => trivial
  | v y => exact h
  | a ad => exact h
  | r k off => obtain ⟨pb, h1, h2⟩ := h; exact ⟨pb, by rw [e]; exact h1, h2⟩
  | q k n => obtain ⟨pb, h1, h2⟩ := h; exact ⟨pb, by rw [e]; exact h1, h2⟩
  | t b => exact h

theorem Rel.put {s : St} {v : World} {a : Act} {w : World} (h : Rel s v a w) (dst : Option Nat) {x : AV} {z : Value} (hx : AVok s x z) :
    Rel (s.put dst x) v (a.put dst z) w := by
  cases dst with
  | none => exact h
  | some d =>
    refine ⟨h.defers, ?_, fun t => ?_, h.priv, h.inj, h.step, h.clean, h.lnk⟩
    · simp [Act.put, St.put, h.size]
    · by_cases hd : d = t
      · subst hd
        by_cases hl : d < s.env.length
        · have e1 : (s.put (some d) x).get d = x := by simp [St.put, St.get, List.getD, hl]
          have e2 : (a.put (some d) z).tmps.getD d undef = z := by simp [Act.put, h.size, hl]
          rw [e1, e2]; exact hx.put
        · have e1 : (s.put (some d) x).get d = .no := by
            have : (s.env.set d x)[d]? = none := List.getElem?_eq_none (by simp; omega)
            simp [St.put, St.get, List.getD, hl]
          rw [e1]; trivial
      · have e1 : (s.put (some d) x).get t = s.get t := by simp [St.put, St.get, List.getD, List.getElem?_set_ne hd]
        have e2 : (a.put (some d) z).tmps.getD t undef = a.tmps.getD t undef := by simp [Act.put, Array.getElem?_setIfInBounds_ne hd]
        rw [e1, e2]; exact (h.env t).put

theorem Rel.synced {s : St} {v : World} {a : Act} {w : World} (h : Rel s v a w) : Rel s.synced w a w :=
  ⟨h.defers, h.size, fun t => by
    have := h.env t
    show AVok s.synced (s.get t) _
    cases e : s.get t with
    | no => trivial
    | v y => rw [e] at this; exact this
    | a ad => rw [e] at this; exact this
    | r k off => rw [e] at this; exact this
    | q k n => rw [e] at this; exact this
    | t b => rw [e] at this; exact this, h.priv, h.inj, Step.refl _ _, fun _ => rfl, fun k b hk => by rcases hk with hk | hk <;> cases hk⟩

/-- On to a world that is known as it is. -/
def sync (s : St) (v : World) (K : St → World → Prop) : Prop :=
  match s.clean with
  | true => K s.synced v
  | false => ∀ w, Step v w (s.mods.map (·.2)) (s.news.map (·.2)) → K s.synced w

theorem sync_sound {s : St} {v : World} {K : St → World → Prop} {a : Act} {w : World} (h : sync s v K) (hr : Rel s v a w) :
    Rel s.synced w a w ∧ Ext s s.synced ∧ K s.synced w := by
  refine ⟨hr.synced, Ext.of_hp rfl, ?_⟩
  unfold sync at h
  cases hc : s.clean with
  | true => rw [hc] at h; rw [hr.clean hc]; exact h
  | false => rw [hc] at h; exact h w hr.step

def substAV (k b : Nat) : AV → AV
  | .r k' off => bif Nat.beq k' k then .a ⟨b, off, none⟩ else .r k' off
  | .q k' n => bif Nat.beq k' k then .v (.slice (some ⟨b, 0, none⟩) n n) else .q k' n
  | x => x
def St.unpriv (s : St) (k b : Nat) : St := { s with hp := s.hp.set k none, env := s.env.map (substAV k b) }

/-- A private block becomes known to all. -/
def pub (s : St) (v : World) (k : Nat) (K : St → World → Nat → Prop) : Prop :=
  match s.hp.getD k none with
  | some pb => sync s v fun s v => Blk v pb.b pb.cs → K (s.unpriv k pb.b) v pb.b
  | none => False

theorem Rel.unpriv {s : St} {v : World} {a : Act} {w : World} (h : Rel s v a w) {k : Nat} {pb : PB} (hk : s.hp[k]? = some (some pb)) : Rel (s.unpriv k pb.b) v a w := by
  refine ⟨h.defers, by simp [St.unpriv, h.size], fun t => ?_, fun k' pb' h' => ?_, fun k1 k2 p1 p2 hne h1 h2 => ?_, h.step, h.clean, fun k' b' hkb => ⟨by simpa [St.unpriv] using (h.lnk k' b' hkb).1, fun pb' h' => ?_⟩⟩
  · have e : (s.unpriv k pb.b).get t = substAV k pb.b (s.get t) := by
      simp only [St.unpriv, St.get, List.getD, List.getElem?_map]
      cases s.env[t]? <;> rfl
    rw [e]
    have := h.env t
    cases e2 : s.get t with
    | no => trivial
    | v y => rw [e2] at this; exact this
    | a ad => rw [e2] at this; exact this
    | t b => rw [e2] at this; exact this
    | r k' off =>
      rw [e2] at this
      obtain ⟨q, h1, h2⟩ := this
      simp only [substAV]
      by_cases hkk : k' = k
      · subst hkk
        rw [hk] at h1; injection h1 with h1; injection h1 with h1; subst h1
        have : Nat.beq k' k' = true := Nat.beq_refl _
        rw [this]; exact h2
      · have : Nat.beq k' k = false := by
          cases hb : Nat.beq k' k with
          | false => rfl
          | true => exact absurd (Nat.eq_of_beq_eq_true hb) hkk
        rw [this]
        refine ⟨q, ?_, h2⟩
        show (s.hp.set k none)[k']? = _
        rw [List.getElem?_set_ne (fun e => hkk e.symm)]; exact h1
    | q k' n =>
      rw [e2] at this
      obtain ⟨q, h1, h2⟩ := this
      simp only [substAV]
      by_cases hkk : k' = k
      · subst hkk
        rw [hk] at h1; injection h1 with h1; injection h1 with h1; subst h1
        have : Nat.beq k' k' = true := Nat.beq_refl _
        rw [this]; exact h2
      · have : Nat.beq k' k = false := by
          cases hb : Nat.beq k' k with
          | false => rfl
          | true => exact absurd (Nat.eq_of_beq_eq_true hb) hkk
        rw [this]
        refine ⟨q, ?_, h2⟩
        show (s.hp.set k none)[k']? = _
        rw [List.getElem?_set_ne (fun e => hkk e.symm)]; exact h1
  · have hne : k ≠ k' := fun e => by
      subst e
      have : (s.hp.set k none)[k]? = some (some pb') := h'
      rw [List.getElem?_set_self (by
        rcases Nat.lt_or_ge k s.hp.length with z | z
        · exact z
        · rw [List.getElem?_eq_none z] at hk; cases hk)] at this
      cases this
    have : (s.hp.set k none)[k']? = some (some pb') := h'
    rw [List.getElem?_set_ne hne] at this
    exact h.priv k' pb' this
  · have lift : ∀ (j : Nat) p, (s.unpriv k pb.b).hp[j]? = some (some p) → s.hp[j]? = some (some p) := fun j p hj => by
      have hj' : (s.hp.set k none)[j]? = some (some p) := hj
      by_cases e : k = j
      · subst e
        rw [List.getElem?_set_self (by
          rcases Nat.lt_or_ge k s.hp.length with z | z
          · exact z
          · rw [List.getElem?_eq_none z] at hk; cases hk)] at hj'
        cases hj'
      · rwa [List.getElem?_set_ne e] at hj'
    exact h.inj k1 k2 p1 p2 hne (lift _ _ h1) (lift _ _ h2)
  · have hj' : (s.hp.set k none)[k']? = some (some pb') := h'
    by_cases e : k = k'
    · subst e
      rw [List.getElem?_set_self (by
        rcases Nat.lt_or_ge k s.hp.length with z | z
        · exact z
        · rw [List.getElem?_eq_none z] at hk; cases hk)] at hj'
      cases hj'
    · rw [List.getElem?_set_ne e] at hj'
      exact (h.lnk k' b' hkb).2 pb' hj'

theorem Ext.unpriv (s : St) (k b : Nat) : Ext s (s.unpriv k b) := by
  refine ⟨by simp [St.unpriv], fun i pb pb' h1 h2 => ?_, fun i h1 => ?_⟩
  · have h2' : (s.hp.set k none)[i]? = some (some pb') := h2
    by_cases e : k = i
    · subst e
      rw [List.getElem?_set_self (by
        rcases Nat.lt_or_ge k s.hp.length with z | z
        · exact z
        · rw [List.getElem?_eq_none z] at h1; cases h1)] at h2'
      cases h2'
    · rw [List.getElem?_set_ne e, h1] at h2'; injection h2' with h2'; injection h2' with h2'; subst h2'; exact ⟨rfl, Nat.le_refl _, fun _ => rfl⟩
  · show (s.hp.set k none)[i]? = _
    by_cases e : k = i
    · subst e
      rw [List.getElem?_set_self (by
        rcases Nat.lt_or_ge k s.hp.length with z | z
        · exact z
        · rw [List.getElem?_eq_none z] at h1; cases h1)]
    · rw [List.getElem?_set_ne e]; exact h1

theorem hp_getD {s : St} {k : Nat} {pb : PB} (h : s.hp.getD k none = some pb) : s.hp[k]? = some (some pb) := by
  rw [List.getD_eq_getElem?_getD] at h
  cases e : s.hp[k]? with
  | none => rw [e] at h; cases h
  | some x => rw [e] at h; simp at h; rw [h]

theorem Blk.of_cells {w : World} {b : Nat} {cs : List Value} {T : TypeId} (h : w.heap[b]? = some (.cells cs.toArray T (0, 0))) : Blk w b cs := ⟨T, 0, 0, h, .inl (Nat.le_refl _)⟩

theorem pub_sound {s : St} {v : World} {k : Nat} {K : St → World → Nat → Prop} {a : Act} {w : World} (h : pub s v k K) (hr : Rel s v a w) :
    ∃ pb s', s.hp[k]? = some (some pb) ∧ Rel s' w a w ∧ Ext s s' ∧ K s' w pb.b := by
  unfold pub at h
  cases e : s.hp.getD k none with
  | none => rw [e] at h; exact h.elim
  | some pb =>
    rw [e] at h
    have hk := hp_getD e
    obtain ⟨h1, h2, h3⟩ := sync_sound h hr
    obtain ⟨T, hT⟩ := h1.priv k pb hk
    exact ⟨pb, _, hk, h1.unpriv (k := k) (pb := pb) hk, h2.trans (Ext.unpriv _ _ _), h3 (Blk.of_cells hT)⟩

/-- An operand's value is handed on: an address into a private block becomes known. -/
def useV (s : St) (v : World) (o : Operand) (K : St → World → Value → Prop) : Prop :=
  match s.ev o with
  | .v x => K s v x
  | .a ad => K s v (.pointer (some ad))
  | .r k off => pub s v k fun s v b => K s v (.pointer (some ⟨b, off, none⟩))
  | .q k n => pub s v k fun s v b => K s v (.slice (some ⟨b, 0, none⟩) n n)
  | .t b => K s v (.bool b)
  | .no => False

theorem useV_sound {s : St} {v : World} {o : Operand} {K : St → World → Value → Prop} {a : Act} {w : World} (h : useV s v o K) (hr : Rel s v a w) :
    ∃ s' v', Rel s' v' a w ∧ Ext s s' ∧ K s' v' (a.eval o) := by
  have he := hr.ev o
  unfold useV at h
  cases e : s.ev o with
  | no => rw [e] at h; exact h.elim
  | v x => rw [e] at h he; exact ⟨s, v, hr, Ext.refl _, by rw [show a.eval o = x from he]; exact h⟩
  | a ad => rw [e] at h he; exact ⟨s, v, hr, Ext.refl _, by rw [show a.eval o = _ from he]; exact h⟩
  | t b => rw [e] at h he; exact ⟨s, v, hr, Ext.refl _, by rw [show a.eval o = _ from he]; exact h⟩
  | r k off =>
    rw [e] at h he
    obtain ⟨pb, hk, hv⟩ := he
    obtain ⟨pb', s', hk', hr', hx, hK⟩ := pub_sound h hr
    rw [hk] at hk'; injection hk' with hk'; injection hk' with hk'; subst hk'
    exact ⟨s', w, hr', hx, by rw [hv]; exact hK⟩
  | q k n =>
    rw [e] at h he
    obtain ⟨pb, hk, hv⟩ := he
    obtain ⟨pb', s', hk', hr', hx, hK⟩ := pub_sound h hr
    rw [hk] at hk'; injection hk' with hk'; injection hk' with hk'; subst hk'
    exact ⟨s', w, hr', hx, by rw [hv]; exact hK⟩

def useVs (s : St) (v : World) : List Operand → (St → World → List Value → Prop) → Prop
  | [], K => K s v []
  | o :: os, K => useV s v o fun s v x => useVs s v os fun s v xs => K s v (x :: xs)

theorem useVs_sound {os : List Operand} : ∀ {s : St} {v : World} {K : St → World → List Value → Prop} {a : Act} {w : World}, useVs s v os K → Rel s v a w →
    ∃ s' v', Rel s' v' a w ∧ Ext s s' ∧ K s' v' (os.map a.eval) := by
  induction os with
  | nil => intro s v K a w h hr; exact ⟨s, v, hr, Ext.refl _, h⟩
  | cons o os ih =>
    intro s v K a w h hr
    obtain ⟨s1, v1, r1, e1, h1⟩ := useV_sound h hr
    obtain ⟨s2, v2, r2, e2, h2⟩ := ih h1 r1
    exact ⟨s2, v2, r2, e1.trans e2, h2⟩

/-- What holds behind an operation. -/
def P1 (E : World → Prop) (s : St) (a : Act) (dst : Option Nat) (K : St → World → Prop) (a' : Act) (w' : World) : Prop :=
  ∃ s' v', Rel s' v' a' w' ∧ Ext s s' ∧ K s' v' ∧ (∃ x, a' = a.put dst x) ∧ E w'
abbrev Tt : World → Prop := fun _ => True

theorem P1.mk {E : World → Prop} {s s1 : St} {a : Act} {dst : Option Nat} {K : St → World → Prop} {v1 w' : World} {x : AV} {z : Value} (hE : E w') (hr : Rel s1 v1 a w') (he : Ext s s1) (hx : AVok s1 x z)
    (hK : K (s1.put dst x) v1) : P1 E s a dst K (a.put dst z) w' :=
  ⟨_, _, hr.put dst hx, he.trans (Ext.of_hp (by cases dst <;> rfl)), hK, ⟨z, rfl⟩, hE⟩

end Go.V

end
section
/- The operations one by one: what is to be shown ahead of each, so that what stands behind it holds. -/
namespace Go.V
open Go.RowKit
set_option linter.unusedVariables false
set_option linter.unusedSimpArgs false

inductive Lf where
  | i (k : IntKind) | b | s | p | sl | m

def Lf.of : TypeDesc → Option Lf
  | .int k => some (.i k)
  | .bool => some .b
  | .string => some .s
  | .pointer _ => some .p
  | .slice _ => some .sl
  | .map _ _ => some .m
  | _ => none

def leafsAll (g : TypeId → Option (List Lf)) : List Field → Option (List Lf)
  | [] => some []
  | f :: fs => match g f.type, leafsAll g fs with
    | some a, some b => some (a ++ b)
    | _, _ => none

/-- The cells of a variable of a type, by kind; none: it is too large, or of another kind. -/
def leafs (P : Program) : Nat → TypeId → Option (List Lf)
  | 0, _ => none
  | n + 1, t => match P.underlying t with
    | some (.struct fs) => leafsAll (leafs P n) fs.toList
    | some (.array m e) => match Nat.ble m 8 with
      | true => match leafs P n e with
        | some l => some (List.replicate m l).flatten
        | none => none
      | false => none
    | some d => match Lf.of d with
      | some l => some [l]
      | none => none
    | none => none

/-- Is a type a struct or an array; how many cells has it. -/
def aggOf (P : Program) (t : TypeId) : Option (Bool × Nat) :=
  match P.underlying t, P.info? t with
  | some (.struct _), some i => some (true, i.size)
  | some (.array _ _), some i => some (true, i.size)
  | some _, some i => some (false, i.size)
  | _, _ => none

def exL : List Lf → (List Value → Prop) → Prop
  | [], K => K []
  | .i k :: ls, K => ∃ n : Int, exL ls fun vs => K (.int k n :: vs)
  | .b :: ls, K => ∃ x : Bool, exL ls fun vs => K (.bool x :: vs)
  | .s :: ls, K => ∃ x : ByteArray, exL ls fun vs => K (.string x :: vs)
  | .p :: ls, K => ∃ x : Option Addr, exL ls fun vs => K (.pointer x :: vs)
  | .sl :: ls, K => ∃ (x : Option Addr) (l c : Nat), exL ls fun vs => K (.slice x l c :: vs)
  | .m :: ls, K => ∃ x : Option Nat, exL ls fun vs => K (.map x :: vs)

theorem exL_sound {ls : List Lf} : ∀ {K : List Value → Prop}, exL ls K → ∃ vs, vs.length = ls.length ∧ (∀ x ∈ vs, x.oneCell' = true) ∧ K vs := by
  induction ls with
  | nil => intro K h; exact ⟨[], rfl, by simp, h⟩
  | cons l ls ih =>
    intro K h
    cases l <;> simp only [exL] at h
    case sl =>
      obtain ⟨x, l, c, h⟩ := h
      obtain ⟨vs, h1, h2, h3⟩ := ih h
      exact ⟨_ :: vs, by simp [h1], by simpa [Value.oneCell'] using h2, h3⟩
    all_goals
      obtain ⟨x, h⟩ := h
      obtain ⟨vs, h1, h2, h3⟩ := ih h
      exact ⟨_ :: vs, by simp [h1], by simpa [Value.oneCell'] using h2, h3⟩

def cellsAt (v : World) (ad : Addr) : Nat → List Value → Prop
  | _, [] => True
  | i, x :: xs => v.cell? (ad.add i) = some x ∧ cellsAt v ad (i + 1) xs

theorem cellsAt_get {v : World} {ad : Addr} {vs : List Value} : ∀ {i : Nat}, cellsAt v ad i vs → ∀ j u, vs[j]? = some u → v.cell? (ad.add (i + j)) = some u := by
  induction vs with
  | nil => intro i h j u hu; simp at hu
  | cons x xs ih =>
    intro i h j u hu
    cases j with
    | zero => simp at hu; subst hu; exact h.1
    | succ j => simp at hu; have := ih h.2 j u hu; rwa [show i + 1 + j = i + (j + 1) by omega] at this

def noMod (s : St) (ad : Addr) (p : Prop) : Prop :=
  match s.mods with
  | [] => p
  | ms => ad.block ∉ ms.map (·.2) ∧ p
theorem noMod_sound {s : St} {ad : Addr} {p : Prop} (h : noMod s ad p) : ad.block ∉ s.mods.map (·.2) ∧ p := by
  unfold noMod at h
  split at h
  · rename_i e; rw [e]; exact ⟨by simp, h⟩
  · exact h
def noPriv (s : St) (b : Nat) (p : Prop) : Prop :=
  match s.privs with
  | [] => p
  | ps => b ∉ ps ∧ p
theorem noPriv_sound {s : St} {b : Nat} {p : Prop} (h : noPriv s b p) : b ∉ s.privs ∧ p := by
  unfold noPriv at h
  split at h
  · rename_i e; rw [e]; exact ⟨by simp, h⟩
  · exact h

theorem Step.cell {v w : World} {mods news : List Nat} (h : Step v w mods news) {ad : Addr} {x : Value} (hx : v.cell? ad = some x) (hm : ad.block ∉ mods) : w.cell? ad = some x := by
  have hl := World.block_lt_of_cell? v ad hx
  rw [World.cell?_of_block (w := v) (h.blk ad.block hl hm)]; exact hx

/-- There is a value of a type. -/
def exT (P : Program) (t : TypeId) (K : Value → Prop) : Prop :=
  match aggOf P t with
  | some (true, n) => match leafs P 6 t with
    | some ls => exL ls fun vs => K (.agg vs.toArray)
    | none => ∃ l : List Value, l.length = n ∧ K (.agg l.toArray)
  | some (false, _) => match P.underlying t with
    | some d => match Lf.of d with
      | some lf => exL [lf] fun vs => match vs with
        | [x] => K x
        | _ => False
      | none => ∃ x : Value, K x
    | none => False
  | none => False
theorem exT_sound {P : Program} {t : TypeId} {K : Value → Prop} (h : exT P t K) : ∃ x, K x := by
  unfold exT at h
  split at h
  · split at h
    · obtain ⟨vs, _, _, hk⟩ := exL_sound h; exact ⟨_, hk⟩
    · obtain ⟨l, _, hk⟩ := h; exact ⟨_, hk⟩
  · split at h
    · split at h
      · obtain ⟨vs, _, _, hk⟩ := exL_sound h
        split at hk
        · exact ⟨_, hk⟩
        · exact hk.elim
      · exact h
    · exact h.elim
  · exact h.elim

/-- What v says of the blocks that are not private holds of w. -/
def Sees (s : St) (v w : World) : Prop := ∀ b, b < v.heap.size → b ∉ s.mods.map (·.2) → w.heap[b]? = v.heap[b]?
def Ext0 (w w' : World) : Prop := w.heap.size ≤ w'.heap.size ∧ ∀ b, b < w.heap.size → w'.heap[b]? = w.heap[b]?
theorem Ext0.refl (w : World) : Ext0 w w := ⟨Nat.le_refl _, fun _ _ => rfl⟩
theorem Rel.sees {s : St} {v : World} {a : Act} {w w' : World} (hr : Rel s v a w) (h : Ext0 w w') : Sees s v w' :=
  fun b hb hm => (h.2 b (Nat.lt_of_lt_of_le hb hr.step.size)).trans (hr.step.blk b hb hm)
theorem Sees.cell {s : St} {v w : World} (h : Sees s v w) {ad : Addr} {x : Value} (hx : v.cell? ad = some x) (hm : ad.block ∉ s.mods.map (·.2)) : w.cell? ad = some x := by
  have hl := World.block_lt_of_cell? v ad hx
  rw [World.cell?_of_block (w := v) (h ad.block hl hm)]; exact hx

/-- A load of a variable of type t from memory that is known to all. -/
def pubLoad (P : Program) (s : St) (v : World) (t : TypeId) (ad : Addr) (K : Value → Prop) : Prop :=
  match aggOf P t with
  | some (true, n) => match leafs P 6 t with
    | some ls => match Nat.beq ls.length n with
      | true => exL ls fun vs => cellsAt v ad 0 vs ∧ noMod s ad (K (.agg vs.toArray))
      | false => False
    | none => ∃ l : List Value, l.length = n ∧ (∀ i, i < n → v.cell? (ad.add i) = l[i]?) ∧ noMod s ad (K (.agg l.toArray))
  | some (false, _) => match P.underlying t with
    | some d => match Lf.of d with
      | some lf => exL [lf] fun vs => match vs with
        | [x] => v.cell? ad = some x ∧ noMod s ad (K x)
        | _ => False
      | none => ∃ x : Value, v.cell? ad = some x ∧ noMod s ad (K x)
    | none => False
  | none => False

theorem aggOf_isAgg {P : Program} {t : TypeId} {b : Bool} {n : Nat} (h : aggOf P t = some (b, n)) (w : World) : (isAgg t).run P w = .ok b w ∧ (sizeOf t).run P w = .ok n w := by
  unfold aggOf at h
  cases hu : P.underlying t with
  | none => rw [hu] at h; simp at h
  | some d =>
    cases hi : P.info? t with
    | none => rw [hu, hi] at h; cases d <;> simp at h
    | some i =>
      rw [hu, hi] at h
      cases d <;> (simp only [Option.some.injEq, Prod.mk.injEq] at h; obtain ⟨rfl, rfl⟩ := h; exact ⟨by simp [isAgg, run_underlying hu], by simp [sizeOf, typeInfo, hi]⟩)

theorem pubLoad_sound {P : Program} {s : St} {v : World} {t : TypeId} {ad : Addr} {K : Value → Prop} (h : pubLoad P s v t ad K) :
    ∃ x, (∀ w, Sees s v w → (loadVar t ad).run P w = .ok x w) ∧ K x := by
  unfold pubLoad at h
  cases ha : aggOf P t with
  | none => rw [ha] at h; exact h.elim
  | some bn =>
    obtain ⟨b, n⟩ := bn
    rw [ha] at h
    have hh := aggOf_isAgg ha
    cases b with
    | true =>
      simp only at h
      cases hl : leafs P 6 t with
      | some ls =>
        rw [hl] at h
        simp only at h
        cases hb : Nat.beq ls.length n with
        | false => rw [hb] at h; exact h.elim
        | true =>
          rw [hb] at h
          obtain ⟨vs, hlen, _, hc, hk⟩ := exL_sound h
          obtain ⟨hm, hk⟩ := noMod_sound hk
          have hn : vs.length = n := by rw [hlen]; exact Nat.eq_of_beq_eq_true hb
          refine ⟨_, fun w hr => ?_, hk⟩
          obtain ⟨h1, h2⟩ := hh w
          have := run_loadCells_list (P := P) (w := w) ad vs (fun j u hu => by
            have := cellsAt_get hc j u hu
            rw [Nat.zero_add] at this
            exact hr.cell this (by unfold Addr.add; split <;> exact hm))
          simp only [loadVar, Sem.run_bind, h1, Result.andThen_ok, if_true, h2, Sem.run_pure]
          rw [← hn, this]; rfl
      | none =>
        rw [hl] at h
        obtain ⟨l, hlen, hc, hk⟩ := h
        obtain ⟨hm, hk⟩ := noMod_sound hk
        refine ⟨_, fun w hr => ?_, hk⟩
        obtain ⟨h1, h2⟩ := hh w
        have := run_loadCells_list (P := P) (w := w) ad l (fun j u hu => by
          have hj : j < n := by
            rcases Nat.lt_or_ge j l.length with z | z
            · omega
            · rw [List.getElem?_eq_none z] at hu; cases hu
          have := hc j hj
          rw [hu] at this
          exact hr.cell this (by unfold Addr.add; split <;> exact hm))
        simp only [loadVar, Sem.run_bind, h1, Result.andThen_ok, if_true, h2, Sem.run_pure]
        rw [← hlen, this]; rfl
    | false =>
      simp only at h
      cases hu : P.underlying t with
      | none => rw [hu] at h; exact h.elim
      | some d =>
        rw [hu] at h
        simp only at h
        cases hd : Lf.of d with
        | none =>
          rw [hd] at h
          obtain ⟨x, hc, hk⟩ := h
          obtain ⟨hm, hk⟩ := noMod_sound hk
          refine ⟨x, fun w hr => ?_, hk⟩
          obtain ⟨h1, h2⟩ := hh w
          simp [loadVar, h1, hr.cell hc hm]
        | some lf =>
          rw [hd] at h
          obtain ⟨vs, hlen, _, hk⟩ := exL_sound h
          match vs, hlen, hk with
          | [x], _, hk =>
            obtain ⟨hc, hk⟩ := hk
            obtain ⟨hm, hk⟩ := noMod_sound hk
            refine ⟨x, fun w hr => ?_, hk⟩
            obtain ⟨h1, h2⟩ := hh w
            simp [loadVar, h1, hr.cell hc hm]

theorem add_mk (b o n : Nat) : (⟨b, o, none⟩ : Addr).add n = ⟨b, o + n, none⟩ := by
  unfold Addr.add
  split
  · rename_i h; simp [h]
  · rfl
theorem cell_of_cells {w : World} {b : Nat} {cs : List Value} {T : TypeId} {f : Nat × Nat} (h : w.heap[b]? = some (.cells cs.toArray T f)) (o : Nat) : w.cell? ⟨b, o, none⟩ = cs[o]? := by
  simp [World.cell?, h]

section ops
variable {P : Program} {o : Oper} {s : St} {v : World} {K : St → World → Prop} {a : Act} {w : World} {Q : Exit → Act → World → Prop}

theorem wp_value {next : Act → World → Prop} {x : Value} {w' : World} (h : (execOp a.eval o).run P w = .ok (.value x) w') (hn : next (a.put o.dst x) w') : o.wp P a w next Q := by
  unfold Oper.wp; rw [h]; exact hn
theorem wp_skipped {next : Act → World → Prop} {w' : World} (h : (execOp a.eval o).run P w = .ok .skip w') (hn : next (a.put o.dst undef) w') : o.wp P a w next Q := by
  unfold Oper.wp; rw [h]; exact hn

/-! A value that an operation yields in every world of a kind. -/
def Yld (P : Program) (o : Oper) (a : Act) (I : World → Prop) (x : Value) : Prop := ∀ w, I w → (execOp a.eval o).run P w = .ok (.value x) w

/-! a new private block -/
def St.newPB (s : St) (b : Nat) (cells : List Value) : St := { s with hp := s.hp ++ [some ⟨b, 0, cells⟩], news := (s.hp.length, b) :: s.news, clean := false }
def newPriv (s : St) (v : World) (dst : Option Nat) (cells : List Value) (x : Nat → AV) (K : St → World → Prop) : Prop :=
  ∀ b : Nat, K ((s.newPB b cells).put dst (x s.hp.length)) v

theorem Rel.alloc (hr : Rel s v a w) (cells : List Value) (T : TypeId) :
    Rel (s.newPB w.heap.size cells) v a (w.alloc (.cells cells.toArray T)) := by
  have hat : ∀ b, b < w.heap.size → (w.alloc (.cells cells.toArray T)).heap[b]? = w.heap[b]? := fun b hb => Below.heap_alloc _ _ _ hb
  have hnew : (w.alloc (.cells cells.toArray T)).heap[w.heap.size]? = some (.cells cells.toArray T (0, 0)) := by
    show (w.heap.push _)[w.heap.size]? = _
    simp
  have hold : ∀ (k : Nat) pb, s.hp[k]? = some (some pb) → pb.b < w.heap.size := fun k pb hk => by
    obtain ⟨T', hT⟩ := hr.priv k pb hk
    exact (Array.getElem?_eq_some_iff.1 hT).1
  have hlk : ∀ (k : Nat) pb, (s.hp ++ [some (⟨w.heap.size, 0, cells⟩ : PB)])[k]? = some (some pb) → s.hp[k]? = some (some pb) ∨ (k = s.hp.length ∧ pb = ⟨w.heap.size, 0, cells⟩) := fun k pb hk => by
    rcases Nat.lt_trichotomy k s.hp.length with z | z | z
    · rw [List.getElem?_append_left z] at hk; exact .inl hk
    · subst z; rw [List.getElem?_append_right (Nat.le_refl _)] at hk; simp at hk; exact .inr ⟨rfl, hk.symm⟩
    · rw [List.getElem?_eq_none (by simp; omega)] at hk; cases hk
  refine ⟨hr.defers, hr.size, fun t => ?_, fun k pb hk => ?_, fun k k' pb pb' hne h1 h2 => ?_, ⟨hr.step.os, hr.step.tape, hr.step.output, ?_, fun b hb hm => ?_, fun b hb => ?_, ?_⟩, (fun h => by cases h), fun k b hkb => ?_⟩
  · have := hr.env t
    show AVok _ (s.get t) _
    cases e : s.get t with
    | no => trivial
    | v y => rw [e] at this; exact this
    | a ad => rw [e] at this; exact this
    | t b => rw [e] at this; exact this
    | r k off =>
      rw [e] at this
      obtain ⟨pb, h1, h2⟩ := this
      refine ⟨pb, ?_, h2⟩
      show (s.hp ++ [_])[k]? = _
      rw [List.getElem?_append_left (by
        rcases Nat.lt_or_ge k s.hp.length with z | z
        · exact z
        · rw [List.getElem?_eq_none z] at h1; cases h1)]
      exact h1
    | q k off =>
      rw [e] at this
      obtain ⟨pb, h1, h2⟩ := this
      refine ⟨pb, ?_, h2⟩
      show (s.hp ++ [_])[k]? = _
      rw [List.getElem?_append_left (by
        rcases Nat.lt_or_ge k s.hp.length with z | z
        · exact z
        · rw [List.getElem?_eq_none z] at h1; cases h1)]
      exact h1
  · rcases hlk k pb hk with h | ⟨_, rfl⟩
    · obtain ⟨T', hT⟩ := hr.priv k pb h
      exact ⟨T', by rw [hat _ (hold k pb h)]; exact hT⟩
    · exact ⟨T, hnew⟩
  · rcases hlk k pb h1 with h | ⟨rfl, rfl⟩
    · rcases hlk k' pb' h2 with h' | ⟨rfl, rfl⟩
      · exact hr.inj k k' pb pb' hne h h'
      · exact Nat.ne_of_lt (hold k pb h)
    · rcases hlk k' pb' h2 with h' | ⟨rfl, rfl⟩
      · exact (Nat.ne_of_lt (hold k' pb' h')).symm
      · exact absurd rfl hne
  · have := hr.step.size; simp; omega
  · have := hr.step.size; rw [hat b (by omega)]; exact hr.step.blk b hb hm
  · have hs := hr.step.size
    have hb : b ∈ w.heap.size :: s.news.map (·.2) := hb
    simp only [List.mem_cons] at hb
    rcases hb with rfl | hb
    · simp; omega
    · have := hr.step.new b hb; simp; omega
  · refine List.nodup_cons.2 ⟨fun hm => ?_, hr.step.nd⟩
    exact Nat.lt_irrefl w.heap.size (hr.step.new _ hm).2
  · have hkb' : (k, b) = (s.hp.length, w.heap.size) ∨ (k, b) ∈ s.news ∨ (k, b) ∈ s.mods := by
      rcases hkb with hkb | hkb
      · have hkb : (k, b) ∈ (s.hp.length, w.heap.size) :: s.news := hkb
        rcases List.mem_cons.1 hkb with e | e
        · exact .inl e
        · exact .inr (.inl e)
      · exact .inr (.inr hkb)
    rcases hkb' with e | e
    · injection e with e1 e2
      subst e1; subst e2
      refine ⟨by simp [St.newPB], fun pb h' => ?_⟩
      rcases hlk _ pb h' with h | ⟨_, rfl⟩
      · rw [List.getElem?_eq_none (Nat.le_refl _)] at h; cases h
      · rfl
    · obtain ⟨h1, h2⟩ := hr.lnk k b e
      refine ⟨by simp [St.newPB]; omega, fun pb h' => ?_⟩
      rcases hlk k pb h' with h | ⟨rfl, rfl⟩
      · exact h2 pb h
      · exact absurd h1 (Nat.lt_irrefl _)

theorem newPriv_sound {dst : Option Nat} {cells : List Value} {x : Nat → AV} (h : newPriv s v dst cells x K) (hr : Rel s v a w) (T : TypeId) {z : Value}
    (hx : ∀ s' : St, s'.hp[s.hp.length]? = some (some ⟨w.heap.size, 0, cells⟩) → AVok s' (x s.hp.length) z) : P1 (Ext0 w) s a dst K (a.put dst z) (w.alloc (.cells cells.toArray T)) := by
  have r1 := hr.alloc cells T
  refine P1.mk ⟨by simp, fun b hb => Below.heap_alloc _ _ _ hb⟩ r1 ⟨by simp [St.newPB], fun k pb pb' h1 h2 => ?_, fun k h1 => ?_⟩ (hx _ (by simp [St.newPB])) (h w.heap.size)
  · have hlt : k < s.hp.length := by
      rcases Nat.lt_or_ge k s.hp.length with z | z
      · exact z
      · rw [List.getElem?_eq_none z] at h1; cases h1
    have h2' : (s.hp ++ [some (⟨w.heap.size, 0, cells⟩ : PB)])[k]? = some (some pb') := h2
    rw [List.getElem?_append_left hlt, h1] at h2'
    injection h2' with h2'; injection h2' with h2'; subst h2'; exact ⟨rfl, Nat.le_refl _, fun _ => rfl⟩
  · have hlt : k < s.hp.length := by
      rcases Nat.lt_or_ge k s.hp.length with z | z
      · exact z
      · rw [List.getElem?_eq_none z] at h1; cases h1
    show (s.hp ++ [_])[k]? = _
    rw [List.getElem?_append_left hlt]; exact h1

def zeroOf (P : Program) (t : TypeId) : Option Value := match P.info? t with
  | some i => i.zero
  | none => none
theorem run_zero {t : TypeId} {z : Value} (h : zeroOf P t = some z) : (zeroValue t).run P w = .ok z w := by
  unfold zeroOf at h
  cases hi : P.info? t with
  | none => rw [hi] at h; cases h
  | some i => rw [hi] at h; simp [zeroValue, typeInfo, hi, h]

def allocR (P : Program) (s : St) (v : World) (dst : Option Nat) (e : TypeId) (K : St → World → Prop) : Prop :=
  match zeroOf P e with
  | some z => newPriv s v dst z.cells.toList (fun k => .r k 0) K
  | none => False
theorem R_alloc {e : TypeId} (ho : o.op = .alloc e) (h : allocR P s v o.dst e K) (hr : Rel s v a w) : o.wp P a w (P1 (Ext0 w) s a o.dst K) Q := by
  unfold allocR at h
  cases hz : zeroOf P e with
  | none => rw [hz] at h; exact h.elim
  | some z =>
    rw [hz] at h
    refine wp_value (x := .pointer (some ⟨w.heap.size, 0, none⟩)) (w' := w.alloc (.cells z.cells e)) ?_ ?_
    · simp [execOp, ho, Instr.alloc, run_zero hz, newVar, newRow]
    · have := newPriv_sound h hr e (z := .pointer (some ⟨w.heap.size, 0, none⟩)) (fun s' hs => show ∃ pb, _ ∧ _ from ⟨_, hs, rfl⟩)
      simpa using this

def boxR (s : St) (v : World) (dst : Option Nat) (x : Operand) (K : St → World → Prop) : Prop :=
  useV s v x fun s v x => newPriv s v dst x.cells.toList (fun k => .r k 0) K
theorem P1.ext {E : World → Prop} {s1 : St} {dst : Option Nat} {a' : Act} {w' : World} (he : Ext s s1) (h : P1 E s1 a dst K a' w') : P1 E s a dst K a' w' := by
  obtain ⟨s', v', h1, h2, h3⟩ := h
  exact ⟨s', v', h1, he.trans h2, h3⟩
theorem R_box {e : TypeId} {x : Operand} (ho : o.op = .box e x) (h : boxR s v o.dst x K) (hr : Rel s v a w) : o.wp P a w (P1 (Ext0 w) s a o.dst K) Q := by
  obtain ⟨s1, v1, r1, e1, h1⟩ := useV_sound h hr
  refine wp_value (x := .pointer (some ⟨w.heap.size, 0, none⟩)) (w' := w.alloc (.cells (a.eval x).cells e)) ?_ ?_
  · simp [execOp, ho, Instr.box, newVar, newRow]
  · have := newPriv_sound h1 r1 e (z := .pointer (some ⟨w.heap.size, 0, none⟩)) (fun s' hs => show ∃ pb, _ ∧ _ from ⟨_, hs, rfl⟩)
    exact P1.ext e1 (by simpa using this)

end ops
end Go.V

end
section
/- The operations that only reckon with what the frame holds: their values, and what must hold for them. -/
namespace Go.V
open Go.RowKit
set_option linter.unusedVariables false
set_option linter.unusedSimpArgs false

def St.val (s : St) (o : Operand) : Option Value :=
  match s.ev o with
  | .v x => some x
  | .a ad => some (.pointer (some ad))
  | _ => none
theorem val_sound {s : St} {v : World} {a : Act} {w : World} {o : Operand} {x : Value} (h : s.val o = some x) (hr : Rel s v a w) : a.eval o = x := by
  have he := hr.ev o
  unfold St.val at h
  split at h
  · rename_i y e; rw [e] at he; injection h with h; subst h; exact he
  · rename_i y e; rw [e] at he; injection h with h; subst h; exact he
  · cases h
def St.vals (s : St) : List Operand → Option (List Value)
  | [] => some []
  | o :: os => match s.val o with
    | some x => match s.vals os with
      | some xs => some (x :: xs)
      | none => none
    | none => none
theorem vals_sound {s : St} {v : World} {a : Act} {w : World} {os : List Operand} : ∀ {xs : List Value}, s.vals os = some xs → Rel s v a w → os.map a.eval = xs := by
  induction os with
  | nil => intro xs h _; simp [St.vals] at h; simp [h]
  | cons o os ih =>
    intro xs h hr
    simp only [St.vals] at h
    cases e1 : s.val o with
    | none => rw [e1] at h; cases h
    | some x =>
      rw [e1] at h
      cases e2 : s.vals os with
      | none => rw [e2] at h; cases h
      | some ys => rw [e2] at h; injection h with h; subst h; simp [val_sound e1 hr, ih e2 hr]

def sizeOfN (P : Program) (t : TypeId) : Option Nat := match P.info? t with
  | some i => some i.size
  | none => none
theorem run_sizeN {P : Program} {t : TypeId} {n : Nat} (h : sizeOfN P t = some n) (w : World) : (sizeOf t).run P w = .ok n w := by
  unfold sizeOfN at h
  cases hi : P.info? t with
  | none => rw [hi] at h; cases h
  | some i => rw [hi] at h; injection h with h; simp [sizeOf, typeInfo, hi, h]

def pickAV (t : Bool) : AV → AV → AV
  | .v (.bool p), .v (.bool q) => .v (.bool (bif t then p else q))
  | .v (.int k p), .v (.int k' q) => if k = k' then .v (.int k (bif t then p else q)) else .no
  | .v (.string p), .v (.string q) => .v (.string (bif t then p else q))
  | x, y => match t with
    | true => x
    | false => y
theorem pickAV_ok {s : St} {t : Bool} {x y : AV} {xv yv : Value} (hx : AVok s x xv) (hy : AVok s y yv) : AVok s (pickAV t x y) (if t then xv else yv) := by
  unfold pickAV
  split
  · cases t
    · simpa using hy
    · simpa using hx
  · split
    · rename_i e; subst e
      cases t
      · simpa using hy
      · simpa using hx
    · trivial
  · cases t
    · simpa using hy
    · simpa using hx
  · cases t
    · simpa using hy
    · simpa using hx

def fieldOff (P : Program) (t : TypeId) (f : Nat) : Option Nat :=
  match P.underlying t with
  | some (.struct fs) => match fs[f]? with
    | some fl => match sizeOfN P fl.type with
      | some (_ + 1) => some fl.offset
      | _ => none
    | none => none
  | _ => none
theorem run_fieldAt {P : Program} {t : TypeId} {f off : Nat} (h : fieldOff P t f = some off) (ad : Addr) (w : World) :
    (Instr.fieldAt t (.pointer (some ad)) f).run P w = .ok (.pointer (some (ad.add off))) w := by
  unfold fieldOff at h
  cases hu : P.underlying t with
  | none => rw [hu] at h; simp at h
  | some d =>
    rw [hu] at h
    cases d <;> simp only [reduceCtorEq] at h
    case struct fs =>
      cases hf : fs[f]? with
      | none => rw [hf] at h; cases h
      | some fl =>
        rw [hf] at h
        simp only at h
        cases hz : sizeOfN P fl.type with
        | none => rw [hz] at h; cases h
        | some n =>
          rw [hz] at h
          cases n with
          | zero => simp at h
          | succ n =>
            simp at h; subst h
            simp [Instr.fieldAt, run_underlying hu, hf, Instr.sureAddr, fieldPlace, run_sizeN hz]

def intBin (op : BinOp) (k : IntKind) (p q : Int) (K : Value → Prop) : Option Prop :=
  match op with
  | .add => some (K (.int k (k.wrap (p + q))))
  | .sub => some (K (.int k (k.wrap (p - q))))
  | .mul => some (K (.int k (k.wrap (p * q))))
  | .quo => some (q ≠ 0 ∧ K (.int k (k.wrap (p.tdiv q))))
  | .rem => some (q ≠ 0 ∧ K (.int k (p.tmod q)))
  | .and => some (K (.int k (bits .and k p q)))
  | .or => some (K (.int k (bits .or k p q)))
  | .xor => some (K (.int k (bits .xor k p q)))
  | .andNot => some (K (.int k (bits .andNot k p q)))
  | .eql => some (K (.bool (decide (p = q))))
  | .neq => some (K (.bool (!decide (p = q))))
  | .lss => some (K (.bool (decide (p < q))))
  | .leq => some (K (.bool (decide (p ≤ q))))
  | .gtr => some (K (.bool (decide (q < p))))
  | .geq => some (K (.bool (decide (q ≤ p))))
  | _ => none
def strBin (op : BinOp) (p q : ByteArray) (K : Value → Prop) : Option Prop :=
  match op with
  | .add => some ((p.size + q.size ≤ 9223372036854775807) ∧ K (.string (p ++ q)))
  | .eql => some (K (.bool (decide (p = q))))
  | .neq => some (K (.bool (!decide (p = q))))
  | .lss => some (K (.bool (Op.bytesLess p.data.toList q.data.toList)))
  | .leq => some (K (.bool (Op.bytesLess p.data.toList q.data.toList || decide (p = q))))
  | .gtr => some (K (.bool (!(Op.bytesLess p.data.toList q.data.toList || decide (p = q)))))
  | .geq => some (K (.bool (!Op.bytesLess p.data.toList q.data.toList)))
  | _ => none
/-- Equality of what is neither a number nor a text. -/
def eqAV (d : TypeDesc) (x y : AV) : Option Bool :=
  match d with
  | .bool => match x, y with
    | .v (.bool p), .v (.bool q) => some (p == q)
    | _, _ => none
  | .pointer _ => match y with
    | .v (.pointer none) => match x with
      | .v (.pointer p) => some p.isNone
      | .a _ => some false
      | .r _ _ => some false
      | _ => none
    | _ => none
  | .slice _ => match y with
    | .v (.slice none _ _) => match x with
      | .v (.slice p _ _) => some p.isNone
      | .q _ _ => some false
      | _ => none
    | _ => none
  | .map _ _ => match y with
    | .v (.map none) => match x with
      | .v (.map p) => some p.isNone
      | _ => none
    | _ => none
  | _ => none
/-- Equality of numbers, texts, truth values. -/
def eqLf (d : TypeDesc) (x y : Value) : Option Bool :=
  match d, x, y with
  | .int _, .int k p, .int k' q => if k = k' then some (decide (p = q)) else none
  | .string, .string p, .string q => some (decide (p = q))
  | .bool, .bool p, .bool q => some (p == q)
  | _, _, _ => none
def cutL (xs : List Value) (off n : Nat) : List Value := (xs.drop off).take n
def eqFs (P : Program) (rec : TypeId → List Value → List Value → Option (List Bool)) (xs ys : List Value) : List Field → Option (List Bool)
  | [] => some []
  | f :: fs => match f.name == "_" with
    | true => eqFs P rec xs ys fs
    | false => match aggOf P f.type with
      | some (_, n) => match rec f.type (cutL xs f.offset n) (cutL ys f.offset n) with
        | some a => match eqFs P rec xs ys fs with
          | some b => some (a ++ b)
          | none => none
        | none => none
      | none => none
def eqEs (rec : TypeId → List Value → List Value → Option (List Bool)) (e : TypeId) (n : Nat) (xs ys : List Value) : Nat → Nat → Option (List Bool)
  | _, 0 => some []
  | i, k + 1 => match rec e (cutL xs (i * n) n) (cutL ys (i * n) n) with
    | some a => match eqEs rec e n xs ys (i + 1) k with
      | some b => some (a ++ b)
      | none => none
    | none => none
/-- Equality of structs and arrays of such, cell by cell. -/
def eqCs (P : Program) : Nat → TypeId → List Value → List Value → Option (List Bool)
  | 0, _, _, _ => none
  | d + 1, t, xs, ys => match P.underlying t with
    | some (.struct fs) => match P.stoodInHeld t with
      | true => none
      | false => eqFs P (eqCs P d) xs ys fs.toList
    | some (.array m e) => match aggOf P e with
      | some (_, n) => eqEs (eqCs P d) e n xs ys 0 m
      | none => none
    | some u => match xs, ys with
      | [x], [y] => match eqLf u x y with
        | some b => some [b]
        | none => none
      | _, _ => none
    | none => none
def conj : List Bool → Bool
  | [] => true
  | [b] => b
  | b :: bs => b && conj bs
def valOf (P : Program) (t : TypeId) (cs : List Value) : Option Value := match aggOf P t with
  | some (true, _) => some (.agg cs.toArray)
  | some (false, _) => cs[0]?
  | none => none
def aggEqR (P : Program) (op : BinOp) (t : TypeId) (xs ys : List Value) (K : AV → Prop) : Option Prop :=
  match P.eqGuardType P.depth t with
  | true => none
  | false => match aggOf P t with
    | some (true, _) => match eqCs P 8 t xs ys with
      | some bs => match op with
        | .eql => some (K (.v (.bool (conj bs))))
        | .neq => some (K (.v (.bool !(conj bs))))
        | _ => none
      | none => none
    | _ => none
def binR (P : Program) (op : BinOp) (t : TypeId) (x y : AV) (K : AV → Prop) : Option Prop :=
  match op with
  | .shl => match x, y with
    | .v (.int k p), .v (.int _ q) => some (0 ≤ q ∧ K (.v (.int k (k.wrap (p * 2 ^ (min q.toNat k.bits))))))
    | _, _ => none
  | .shr => match x, y with
    | .v (.int k p), .v (.int _ q) => some (0 ≤ q ∧ K (.v (.int k (p.fdiv (2 ^ (min q.toNat k.bits))))))
    | _, _ => none
  | op => match x, y with
    | .v (.int k p), .v (.int k' q) => if k = k' then intBin op k p q fun z => K (.v z) else none
    | .v (.string p), .v (.string q) => strBin op p q fun z => K (.v z)
    | .v (.agg p), .v (.agg q) => aggEqR P op t p.toList q.toList K
    | x, y => match P.underlying t with
      | some d => match eqAV d x y with
        | some b => match op with
          | .eql => some (K (.v (.bool b)))
          | .neq => some (K (.v (.bool !b)))
          | _ => none
        | none => none
      | none => none

def unR (op : UnOp) (x : AV) (K : AV → Prop) : Option Prop :=
  match op, x with
  | .not, .v (.bool b) => some (K (.v (.bool !b)))
  | .neg, .v (.int k n) => some (K (.v (.int k (k.wrap (0 - n)))))
  | .plus, _ => none
  | _, _ => none

def convR (P : Program) (src dst : TypeId) (x : AV) (K : AV → Prop) : Option Prop :=
  match P.underlying src, P.underlying dst, x with
  | some _, some (.int k), .v (.int _ n) => some (K (.v (.int k (k.wrap n))))
  | some _, some .string, .v (.string s) => some (K (.v (.string s)))
  | _, _, _ => none

def byteAt (s : ByteArray) (n : Int) : Int := (s.data.toList.getD n.toNat 0).toNat

/-- An address behind l elements of size z; where nothing is left behind it, it stays. -/
def subA (a : Option Addr) (l m z : Nat) : Option Addr := if m = l then a else a.map (·.add (l * z))

def optInt (s : St) (d : Int) : Option Operand → Option Int
  | none => some d
  | some o => match s.val o with
    | some (.int _ n) => some n
    | _ => none

def sliceR (P : Program) (s : St) (t : TypeId) (x : Operand) (lo hi mx : Option Operand) (K : AV → Prop) : Option Prop :=
  match P.underlying t with
  | some .string => match s.val x, mx with
    | some (.string b), none => match optInt s 0 lo, optInt s b.size hi with
      | some l, some h => some ((0 ≤ l ∧ l ≤ h ∧ h ≤ b.size) ∧ K (.v (.string (b.extract l.toNat h.toNat))))
      | _, _ => none
    | _, _ => none
  | some (.slice e) => match s.val x, sizeOfN P e with
    | some (.slice a n c), some z => match mx with
      | none => match optInt s 0 lo, optInt s n hi with
        | some l, some h => some ((0 ≤ l ∧ l ≤ h ∧ h ≤ c) ∧ K (.v (.slice (subA a l.toNat c z) (h.toNat - l.toNat) (c - l.toNat))))
        | _, _ => none
      | some _ => match optInt s 0 lo, hi, optInt s n hi, optInt s c mx with
        | some l, some _, some h, some m => some ((0 ≤ l ∧ l ≤ h ∧ h ≤ m ∧ m ≤ c) ∧ K (.v (.slice (subA a l.toNat m.toNat z) (h.toNat - l.toNat) (m.toNat - l.toNat))))
        | _, _, _, _ => none
    | _, _ => none
  | some (.array n e) => match s.ev x, sizeOfN P e, mx with
    | .a ad, some z, none => match optInt s 0 lo, optInt s n hi with
      | some l, some h => some ((0 ≤ l ∧ l ≤ h ∧ h ≤ n) ∧ K (.v (.slice (subA (some ad) l.toNat n z) (h.toNat - l.toNat) (n - l.toNat))))
      | _, _ => none
    | _, _, _ => none
  | _ => none

def indexAddrR (P : Program) (s : St) (t : TypeId) (x i : Operand) (K : AV → Prop) : Option Prop :=
  match P.underlying t with
  | some (.slice e) => match s.val x, s.val i, sizeOfN P e with
    | some (.slice a l _), some (.int _ n), some z => some (∃ ad, a = some ad ∧ (0 ≤ n ∧ n < l) ∧ K (.a (ad.add (n.toNat * z))))
    | _, _, _ => none
  | some (.array len e) => match s.ev x, sizeOfN P e with
    | .a ad, some z => match s.val i with
      | some (.int _ n) => some ((0 ≤ n ∧ n < len) ∧ K (.a (ad.add (n.toNat * z))))
      | _ => none
    | .v y, some z => match s.val i with
      | some (.int _ n) => some (∃ ad, y = .pointer (some ad) ∧ (0 ≤ n ∧ n < len) ∧ K (.a (ad.add (n.toNat * z))))
      | _ => none
    | .r k off, some z => match i with
      | .const (.int _ n) => some ((0 ≤ n ∧ n < len) ∧ K (.r k (off + n.toNat * z)))
      | _ => none
    | _, _ => none
  | _ => none

def indexR (P : Program) (s : St) (t : TypeId) (x i : Operand) (K : AV → Prop) : Option Prop :=
  match P.underlying t with
  | some .string => match s.val x, s.val i with
    | some (.string b), some (.int _ n) => some ((0 ≤ n ∧ n < b.size) ∧ K (.v (.int .u8 (byteAt b n))))
    | _, _ => none
  | some (.array len e) => match s.val x, s.val i, aggOf P e with
    | some (.agg cs), some (.int _ n), some (false, m) => match P.underlying e with
      | some d => match Lf.of d with
        | some lf => some ((0 ≤ n ∧ n < len) ∧ exL [lf] fun vs => match vs with
          | [y] => cs[n.toNat * m]? = some y ∧ K (.v y)
          | _ => False)
        | none => none
      | none => none
    | _, _, _ => none
  | _ => none

def fieldR (P : Program) (s : St) (t : TypeId) (x : Operand) (f : Nat) (K : AV → Prop) : Option Prop :=
  match P.underlying t with
  | some (.struct fs) => match fs[f]?, s.val x with
    | some fl, some (.agg cs) => match aggOf P fl.type with
      | some (true, n) => some (K (.v (.agg (cs.extract fl.offset (fl.offset + n)))))
      | some (false, _) => match cs[fl.offset]? with
        | some y => some (K (.v y))
        | none => none
      | none => none
    | _, _ => none
  | _ => none

def builtinR (s : St) (b : Builtin) (args : List Operand) (d : Option TypeDesc) (K : AV → Prop) : Option Prop :=
  match b, args with
  | .len, [x] => match d, s.ev x with
    | some .string, .v (.string t) => some (K (.v (.int .i64 t.size)))
    | some (.slice _), .v (.slice _ n _) => some (K (.v (.int .i64 n)))
    | some (.slice _), .q _ n => some (K (.v (.int .i64 n)))
    | some (.array n _), _ => some (K (.v (.int .i64 n)))
    | _, _ => none
  | .cap, [x] => match d, s.ev x with
    | some (.slice _), .v (.slice _ _ c) => some (K (.v (.int .i64 c)))
    | some (.array n _), _ => some (K (.v (.int .i64 n)))
    | _, _ => none
  | .min, [x, y] => match s.ev x, s.ev y with
    | .v (.int k p), .v (.int _ q) => some (K (.v (.int k (if q < p then q else p))))
    | _, _ => none
  | .max, [x, y] => match s.ev x, s.ev y with
    | .v (.int k p), .v (.int _ q) => some (K (.v (.int k (if q > p then q else p))))
    | _, _ => none
  | _, _ => none

def partsR (s : St) : List (Nat × Operand) → Option (List (Nat × Value))
  | [] => some []
  | (i, o) :: l => match s.val o, partsR s l with
    | some x, some xs => some ((i, x) :: xs)
    | _, _ => none
def placesR (P : Program) : List Field → Option (List (Nat × Nat))
  | [] => some []
  | f :: fs => match sizeOfN P f.type, placesR P fs with
    | some n, some l => some ((f.offset, n) :: l)
    | _, _ => none
def spl (cs : List Value) (off : Nat) (xs : List Value) : List Value := cs.take off ++ xs ++ cs.drop (off + xs.length)
/-- An aggregate out of its parts. -/
def fillL (place : Nat → Option (Nat × Nat)) (cells : List Value) : List (Nat × Value) → Option (List Value)
  | [] => some cells
  | (i, v) :: rest => match place i with
    | none => none
    | some (off, size) => match Nat.beq v.cells.toList.length size, Nat.ble (off + v.cells.toList.length) cells.length with
      | true, true => fillL place (spl cells off v.cells.toList) rest
      | _, _ => none
def buildR (P : Program) (s : St) (t : TypeId) (parts : List (Nat × Operand)) (K : AV → Prop) : Option Prop :=
  match zeroOf P t, partsR s parts with
  | some z, some ps => match P.underlying t with
    | some (.struct fs) => match placesR P fs.toList with
      | some pl => match fillL (fun i => pl[i]?) z.cells.toList ps with
        | some cs => some (K (.v (.agg cs.toArray)))
        | none => none
      | none => none
    | some (.array _ e) => match sizeOfN P e with
      | some n => match fillL (fun i => some (i * n, n)) z.cells.toList ps with
        | some cs => some (K (.v (.agg cs.toArray)))
        | none => none
      | none => none
    | _ => none
  | _, _ => none

/-- Operations whose value hangs on the frame alone. -/
def pvc (P : Program) (s : St) (op : Op) (K : AV → Prop) : Option Prop :=
  match op with
  | .move x => some (K (s.evc x))
  | .assign x => some (K (s.evc x))
  | .pick c x y => match s.evc c with
    | .t true => some (K (s.evc x))
    | .t false => some (K (s.evc y))
    | .v (.bool t) => some (K (pickAV t (s.ev x) (s.ev y)))
    | _ => none
  | .nilCheck x => match s.ev x with
    | .r k off => some (K (.r k off))
    | .a ad => some (K (.a ad))
    | .v y => some (∃ ad, y = .pointer (some ad) ∧ K (.a ad))
    | _ => none
  | .fieldAddr t x f => match fieldOff P t f with
    | none => none
    | some off => match s.ev x with
      | .r k o => some (K (.r k (o + off)))
      | .a ad => some (K (.a (ad.add off)))
      | .v y => some (∃ ad, y = .pointer (some ad) ∧ K (.a (ad.add off)))
      | _ => none
  | .indexAddr t x i => indexAddrR P s t x i K
  | .index t x i => indexR P s t x i K
  | .field t x f => fieldR P s t x f K
  | .binOp op t x y _ => binR P op t (s.ev x) (s.ev y) K
  | .unOp op _ x => unR op (s.ev x) K
  | .convert a b x => convR P a b (s.ev x) K
  | .makeInterface t x => match P.underlying t, s.val x with
    | some (.interface _), _ => none
    | some _, some y => some (K (.v (.iface t y)))
    | _, _ => none
  | .makeFunc fn first cap => match s.vals first.toList, s.vals cap.toList with
    | some xs, some ys => some (K (.v (.func fn xs.toArray ys.toArray)))
    | _, _ => none
  | .extract x i => match s.val x with
    | some (.tuple vs) => match vs[i]? with
      | some y => some (K (.v y))
      | none => none
    | _ => none
  | .slice t x lo hi mx => sliceR P s t x lo hi mx K
  | .build t parts => buildR P s t parts.toList K
  | .sliceToArrayPointer t x => match P.underlying t, s.val x with
    | some (.array n _), some (.slice a l _) => some (n ≤ l ∧ K (.v (.pointer a)))
    | _, _ => none
  | .call c => match c.callee with
    | .builtin b => builtinR s b c.args.toList (match c.argTypes[0]? with
      | some t => P.underlying t
      | none => none) K
    | _ => none
  | _ => none

end Go.V

end
section
/- What is reckoned of the frame alone is what the machine reckons, in every world. -/
namespace Go.V
open Go.RowKit
set_option linter.unusedVariables false
set_option linter.unusedSimpArgs false
section
variable {P : Program} {o : Oper} {s : St} {v : World} {a : Act} {w : World}

def Got (P : Program) (s : St) (o : Oper) (a : Act) (K : AV → Prop) : Prop := ∃ x av, Yld P o a (fun _ => True) x ∧ AVok s av x ∧ K av

theorem got {K : AV → Prop} {x : Value} {av : AV} (h : ∀ w, (execOp a.eval o).run P w = .ok (.value x) w) (h1 : AVok s av x) (h2 : K av) : Got P s o a K := ⟨x, av, fun w _ => h w, h1, h2⟩

theorem toList_eq (p q : ByteArray) : (p.data.toList == q.data.toList) = decide (p = q) := by
  rw [Bool.eq_iff_iff]
  simp only [beq_iff_eq, decide_eq_true_eq]
  constructor
  · intro h; cases p; cases q; congr; exact Array.toList_inj.1 h
  · intro h; rw [h]

theorem eqGuard_quiet {op : BinOp} {t : TypeId} {x y : Operand} {p q : Value} (h1 : ∀ c, p ≠ .agg c) (h2 : p ≠ .nilIface) (w : World) : (eqGuard op t x y p q).run P w = .ok () w := by
  unfold eqGuard
  cases p <;> first | exact absurd rfl h2 | exact absurd rfl (h1 _) | (cases op <;> simp)

theorem run_intBin {op : BinOp} {t : TypeId} {k : IntKind} {p q : Int} {K : Value → Prop} {pr : Prop} (h : intBin op k p q K = some pr) (hp : pr) : ∃ z, K z ∧ ∀ w, (binOp op t (.int k p) (.int k q)).run P w = .ok z w := by
  cases op <;> simp only [intBin, Option.some.injEq, reduceCtorEq] at h <;> subst h
  case quo => exact ⟨_, hp.2, fun w => by simp [binOp, Op.intDiv, hp.1]⟩
  case rem => exact ⟨_, hp.2, fun w => by simp [binOp, Op.intDiv, hp.1]⟩
  case and => exact ⟨_, hp, fun w => by simp [binOp, intBits_and]⟩
  case or => exact ⟨_, hp, fun w => by simp [binOp, intBits_or]⟩
  case xor => exact ⟨_, hp, fun w => by simp [binOp, intBits_xor]⟩
  case andNot => exact ⟨_, hp, fun w => by simp [binOp, intBits_andNot]⟩
  all_goals (refine ⟨_, hp, fun w => ?_⟩; simp [binOp, Op.intArith, Op.intCmp])
  all_goals (first | rfl | (simp [bne]; done) | (rw [Bool.eq_iff_iff]; simp))
theorem run_strBin {op : BinOp} {t : TypeId} {p q : ByteArray} {K : Value → Prop} {pr : Prop} (h : strBin op p q K = some pr) (hp : pr) : ∃ z, K z ∧ ∀ w, (binOp op t (.string p) (.string q)).run P w = .ok z w := by
  cases op <;> simp only [strBin, Option.some.injEq, reduceCtorEq] at h <;> subst h
  case add =>
    refine ⟨_, hp.2, fun w => ?_⟩
    have : ¬ (((p.size + q.size : Nat) : Int) > IntKind.i64.max) := by
      have := hp.1
      have e : IntKind.i64.max = 9223372036854775807 := by decide
      rw [e]; omega
    simp only [binOp, Op.stringOp, this, if_false]; rfl
  all_goals (refine ⟨_, hp, fun w => ?_⟩; simp only [binOp, Op.stringOp, ByteArray.toList_eq, toList_eq]; rfl)

theorem eqIn_bool {t : TypeId} (n : Nat) (p q : Bool) (hd : P.underlying t = some .bool) (w : World) : (Op.equalIn (n + 1) t (.bool p) (.bool q)).run P w = .ok (p == q) w := by simp [Op.equalIn, run_underlying hd]
theorem eqIn_ptr {t e : TypeId} (n : Nat) (p : Option Addr) (hd : P.underlying t = some (.pointer e)) (w : World) : (Op.equalIn (n + 1) t (.pointer p) (.pointer none)).run P w = .ok p.isNone w := by
  cases p <;> simp [Op.equalIn, run_underlying hd]
theorem eqIn_slice {t e : TypeId} (n : Nat) (p : Option Addr) (l c l' c' : Nat) (hd : P.underlying t = some (.slice e)) (w : World) : (Op.equalIn (n + 1) t (.slice p l c) (.slice none l' c')).run P w = .ok p.isNone w := by
  cases p <;> simp [Op.equalIn, run_underlying hd]
theorem eqIn_map {t k e : TypeId} (n : Nat) (p : Option Nat) (hd : P.underlying t = some (.map k e)) (w : World) : (Op.equalIn (n + 1) t (.map p) (.map none)).run P w = .ok p.isNone w := by
  cases p <;> simp [Op.equalIn, run_underlying hd]

/-- No number, no text, no aggregate, not nil of an interface. -/
def Odd : Value → Bool
  | .int .. | .string _ | .float .. | .complex .. | .agg _ | .nilIface => false
  | _ => true

theorem run_eqAV {t : TypeId} {d : TypeDesc} {x y : AV} {p q : Value} {b : Bool} (hd : P.underlying t = some d) (h : eqAV d x y = some b) (hx : AVok s x p) (hy : AVok s y q) (w : World) :
    (Op.equal t p q).run P w = .ok b w ∧ Odd p = true := by
  unfold eqAV at h
  split at h
  · split at h
    · injection h with h; subst h
      obtain rfl : p = _ := hx
      obtain rfl : q = _ := hy
      exact ⟨eqIn_bool 9999 _ _ hd w, rfl⟩
    · cases h
  · split at h
    · obtain rfl : q = _ := hy
      split at h
      · injection h with h; subst h
        obtain rfl : p = _ := hx
        exact ⟨eqIn_ptr 9999 _ hd w, rfl⟩
      · injection h with h; subst h
        obtain rfl : p = _ := hx
        exact ⟨eqIn_ptr 9999 _ hd w, rfl⟩
      · injection h with h; subst h
        obtain ⟨pb, _, rfl⟩ := hx
        exact ⟨eqIn_ptr 9999 _ hd w, rfl⟩
      · cases h
    · cases h
  · split at h
    · obtain rfl : q = _ := hy
      split at h
      · injection h with h; subst h
        obtain rfl : p = _ := hx
        exact ⟨eqIn_slice 9999 _ _ _ _ _ hd w, rfl⟩
      · injection h with h; subst h
        obtain ⟨pb, _, rfl⟩ := hx
        exact ⟨eqIn_slice 9999 _ _ _ _ _ hd w, rfl⟩
      · cases h
    · cases h
  · split at h
    · obtain rfl : q = _ := hy
      split at h
      · injection h with h; subst h
        obtain rfl : p = _ := hx
        exact ⟨eqIn_map 9999 _ hd w, rfl⟩
      · cases h
    · cases h
  · cases h
theorem binOp_eql_odd {t : TypeId} {p q : Value} {b : Bool} (h : (Op.equal t p q).run P w = .ok b w) (ho : Odd p = true) : (binOp .eql t p q).run P w = .ok (.bool b) w := by
  cases p <;> first | (simp [Odd] at ho; done) | (simp only [binOp, Sem.run_bind, h, Result.andThen_ok]; rfl)
theorem binOp_neq_odd {t : TypeId} {p q : Value} {b : Bool} (h : (Op.equal t p q).run P w = .ok b w) (ho : Odd p = true) : (binOp .neq t p q).run P w = .ok (.bool !b) w := by
  cases p <;> first | (simp [Odd] at ho; done) | (simp only [binOp, Sem.run_bind, h, Result.andThen_ok]; rfl)

theorem conj_cons (b : Bool) (bs : List Bool) : conj (b :: bs) = (b && conj bs) := by cases bs <;> simp [conj]
theorem conj_app (a b : List Bool) : conj (a ++ b) = (conj a && conj b) := by
  induction a with
  | nil => simp [conj]
  | cons x a ih => rw [List.cons_append, conj_cons, conj_cons, ih, Bool.and_assoc]
theorem part_run {t : TypeId} {b : Bool} {n off : Nat} {xs : List Value} {v : Value} (ha : aggOf P t = some (b, n)) (hv : valOf P t (cutL xs off n) = some v) (w : World) : (part t xs.toArray off).run P w = .ok v w := by
  obtain ⟨h1, h2⟩ := aggOf_isAgg ha w
  unfold valOf at hv
  rw [ha] at hv
  unfold part
  cases b with
  | true =>
    simp only at hv
    injection hv with hv; subst hv
    simp only [Sem.run_bind, h1, Result.andThen_ok, if_true, h2, Sem.run_pure]
    congr 2
    simp [cutL, List.extract_toArray, List.extract_eq_take_drop]
  | false =>
    simp only at hv
    have : xs[off]? = some v := by
      unfold cutL at hv
      rw [List.getElem?_take] at hv
      split at hv
      · rw [List.getElem?_drop] at hv; exact hv
      · cases hv
    simp [h1, this]
theorem eqLf_run {t : TypeId} {d : TypeDesc} {x y : Value} {b : Bool} (hd : P.underlying t = some d) (h : eqLf d x y = some b) (n : Nat) (w : World) : (Op.equalIn (n + 1) t x y).run P w = .ok b w := by
  unfold eqLf at h
  split at h
  · split at h
    · rename_i e; subst e; injection h with h; subst h
      simp [Op.equalIn, run_underlying hd]
      rfl
    · cases h
  · rename_i p q
    injection h with h; subst h
    simp only [Op.equalIn, Sem.run_bind, run_underlying hd, Result.andThen_ok, Sem.run_pure]
    congr 1
    rw [Bool.eq_iff_iff]
    constructor
    · intro h
      have h : (p.data == q.data) = true := h
      rw [beq_iff_eq] at h
      cases p; cases q; simp at h; simp [h]
    · intro h
      have h := of_decide_eq_true h
      show (p.data == q.data) = true
      rw [h]; exact beq_self_eq_true _
  · injection h with h; subst h
    simp [Op.equalIn, run_underlying hd]
  · cases h
theorem eqCs_leaf {t : TypeId} {u : TypeDesc} {m : Nat} {b : Bool} (hd : P.underlying t = some u) (ha : aggOf P t = some (b, m)) (h1 : ∀ fs, u ≠ .struct fs) (h2 : ∀ n e, u ≠ .array n e) : b = false := by
  unfold aggOf at ha
  rw [hd] at ha
  cases hi : P.info? t with
  | none => rw [hi] at ha; cases u <;> simp at ha
  | some i => rw [hi] at ha; cases u <;> simp at ha <;> first | exact ha.1.symm | exact absurd rfl (h1 _) | exact absurd rfl (h2 _ _) | exact ha.1
theorem eqCs_val {d : Nat} {t : TypeId} {b : Bool} {n : Nat} {xs ys : List Value} {bs : List Bool} (h : eqCs P d t xs ys = some bs) (ha : aggOf P t = some (b, n)) : ∃ v u, valOf P t xs = some v ∧ valOf P t ys = some u := by
  unfold valOf
  rw [ha]
  cases b with
  | true => exact ⟨_, _, rfl, rfl⟩
  | false =>
    cases d with
    | zero => cases h
    | succ d =>
      rw [eqCs] at h
      split at h
      · rename_i hd
        unfold aggOf at ha
        rw [hd] at ha
        cases hi : P.info? t <;> rw [hi] at ha <;> simp at ha
      · rename_i hd
        unfold aggOf at ha
        rw [hd] at ha
        cases hi : P.info? t <;> rw [hi] at ha <;> simp at ha
      · split at h
        · exact ⟨_, _, rfl, rfl⟩
        · cases h
      · cases h
theorem fs_loop {rec : TypeId → List Value → List Value → Option (List Bool)} {F : TypeId → Value → Value → Sem Bool} {w : World} {xs ys : List Value}
    (hrec : ∀ t b n xs ys bs, rec t xs ys = some bs → aggOf P t = some (b, n) → ∃ v u, valOf P t xs = some v ∧ valOf P t ys = some u ∧ (F t v u).run P w = .ok (conj bs) w) :
    ∀ (fs : List Field) (bs : List Bool), eqFs P rec xs ys fs = some bs → ∃ r, (forIn fs ((none : Option Bool), ()) fun (f : Field) _ =>
            if f.name = "_" then pure (ForInStep.yield ((none : Option Bool), ()))
            else do
              let a ← part f.type xs.toArray f.offset
              let b ← part f.type ys.toArray f.offset
              let c ← F f.type a b
              if c = false then pure (ForInStep.done (some false, ())) else pure (ForInStep.yield (none, ()))).run P w = .ok (r, ()) w ∧ r = if conj bs = true then none else some false
  | [], bs, h => by
    injection h with h; subst h
    exact ⟨none, by simp, rfl⟩
  | f :: fs, bs, h => by
    rw [eqFs] at h
    split at h
    · rename_i hn
      obtain ⟨r, hr, e⟩ := fs_loop hrec fs bs h
      refine ⟨r, ?_, e⟩
      have : f.name = "_" := by simpa using hn
      simp only [List.forIn_cons, this, if_true, pure_bind]
      exact hr
    · rename_i hn
      have hn : ¬ f.name = "_" := by simpa using hn
      split at h
      · rename_i b n ha
        split at h
        · rename_i a hx
          split at h
          · rename_i c hc
            injection h with h; subst h
            obtain ⟨v, u, hv, hu, hF⟩ := hrec _ _ _ _ _ _ hx ha
            obtain ⟨r, hr, e⟩ := fs_loop hrec fs c hc
            have p1 := part_run ha hv w
            have p2 := part_run ha hu w
            rw [conj_app]
            cases hb : conj a with
            | true =>
              rw [hb] at hF
              refine ⟨r, ?_, by simpa using e⟩
              simp only [List.forIn_cons, hn, if_false, Sem.run_bind, p1, p2, hF, Result.andThen_ok, Bool.true_eq_false, Sem.run_pure]
              exact hr
            | false =>
              rw [hb] at hF
              refine ⟨some false, ?_, by simp⟩
              simp [List.forIn_cons, hn, p1, p2, hF]
          · cases h
        · cases h
      · cases h
theorem es_loop {rec : TypeId → List Value → List Value → Option (List Bool)} {F : Value → Value → Sem Bool} {w : World} {xs ys : List Value} {e : TypeId} {b : Bool} {n : Nat} (ha : aggOf P e = some (b, n))
    (hrec : ∀ xs ys bs, rec e xs ys = some bs → ∃ v u, valOf P e xs = some v ∧ valOf P e ys = some u ∧ (F v u).run P w = .ok (conj bs) w) :
    ∀ (k i : Nat) (bs : List Bool), eqEs rec e n xs ys i k = some bs → ∃ r, (forIn (List.range' i k) ((none : Option Bool), ()) fun i _ => do
              let a ← part e xs.toArray (i * n)
              let b ← part e ys.toArray (i * n)
              let c ← F a b
              if c = false then pure (ForInStep.done (some false, ())) else pure (ForInStep.yield (none, ()))).run P w = .ok (r, ()) w ∧ r = if conj bs = true then none else some false
  | 0, i, bs, h => by
    injection h with h; subst h
    exact ⟨none, by simp, rfl⟩
  | k + 1, i, bs, h => by
    rw [eqEs] at h
    split at h
    · rename_i a hx
      split at h
      · rename_i c hc
        injection h with h; subst h
        obtain ⟨v, u, hv, hu, hF⟩ := hrec _ _ _ hx
        obtain ⟨r, hr, e⟩ := es_loop ha hrec k (i + 1) c hc
        have p1 := part_run ha hv w
        have p2 := part_run ha hu w
        rw [conj_app]
        cases hb : conj a with
        | true =>
          rw [hb] at hF
          refine ⟨r, ?_, by simpa using e⟩
          simp only [List.range'_succ, List.forIn_cons, Sem.run_bind, p1, p2, hF, Result.andThen_ok, Bool.true_eq_false, if_false, Sem.run_pure]
          exact hr
        | false =>
          rw [hb] at hF
          refine ⟨some false, ?_, by simp⟩
          simp [List.range'_succ, List.forIn_cons, p1, p2, hF]
      · cases h
    · cases h
theorem eqCs_run (w : World) : ∀ (d : Nat) (t : TypeId) (b : Bool) (n : Nat) (xs ys : List Value) (bs : List Bool), eqCs P d t xs ys = some bs → aggOf P t = some (b, n) → ∃ v u, valOf P t xs = some v ∧ valOf P t ys = some u ∧ ∀ m, d ≤ m → (Op.equalIn m t v u).run P w = .ok (conj bs) w := by
  intro d
  induction d with
  | zero => intro t b n xs ys bs h; cases h
  | succ d ih =>
    intro t b n xs ys bs h ha
    obtain ⟨v, u, hv, hu⟩ := eqCs_val h ha
    refine ⟨v, u, hv, hu, fun m hm => ?_⟩
    obtain ⟨m, rfl⟩ : ∃ k, m = k + 1 := ⟨m - 1, by omega⟩
    rw [eqCs] at h
    unfold valOf at hv hu
    rw [ha] at hv hu
    split at h
    · rename_i fs hd
      have hb : b = true := by
        unfold aggOf at ha
        rw [hd] at ha
        cases hi : P.info? t <;> rw [hi] at ha <;> simp at ha
        exact ha.1
      subst hb
      injection hv with hv; injection hu with hu; subst hv; subst hu
      split at h
      · cases h
      · rename_i hs
        obtain ⟨r, hr, e⟩ := fs_loop (P := P) (rec := eqCs P d) (F := Op.equalIn m) (w := w) (xs := xs) (ys := ys) (fun t b n xs ys bs h ha => by
          obtain ⟨v, u, hv, hu, hF⟩ := ih t b n xs ys bs h ha
          exact ⟨v, u, hv, hu, hF m (by omega)⟩) fs.toList bs h
        simp [Op.equalIn, run_underlying hd, hs]
        rw [← Array.forIn_toList]
        rw [hr]
        subst e
        cases conj bs <;> simp
    · rename_i k e hd
      have hb : b = true := by
        unfold aggOf at ha
        rw [hd] at ha
        cases hi : P.info? t <;> rw [hi] at ha <;> simp at ha
        exact ha.1
      subst hb
      injection hv with hv; injection hu with hu; subst hv; subst hu
      split at h
      · rename_i b' n' ha'
        obtain ⟨r, hr, e⟩ := es_loop (P := P) (rec := eqCs P d) (F := Op.equalIn m e) (w := w) (xs := xs) (ys := ys) ha' (fun xs ys bs h => by
          obtain ⟨v, u, hv, hu, hF⟩ := ih e b' n' xs ys bs h ha'
          exact ⟨v, u, hv, hu, hF m (by omega)⟩) k 0 bs h
        obtain ⟨_, h2⟩ := aggOf_isAgg ha' w
        simp [Op.equalIn, run_underlying hd, h2]
        rw [hr]
        subst e
        cases conj bs <;> simp
      · cases h
    · rename_i u' h1 h2 hd
      have hb : b = false := eqCs_leaf hd ha h1 h2
      subst hb
      split at h
      · rename_i x y
        split at h
        · rename_i b' hb'
          injection h with h; subst h
          simp at hv hu
          subst hv; subst hu
          exact eqLf_run hd hb' m w
        · cases h
      · cases h
    · cases h
theorem eqGuard_agg {op : BinOp} {t : TypeId} {x y : Operand} {p q : Array Value} (h : P.eqGuardType P.depth t = false) (w : World) : (eqGuard op t x y (.agg p) (.agg q)).run P w = .ok () w := by
  unfold eqGuard
  cases op <;> simp [h]
theorem aggEq_run {op : BinOp} {t : TypeId} {p q : Array Value} {K : AV → Prop} {pr : Prop} (h : aggEqR P op t p.toList q.toList K = some pr) (hp : pr) :
    ∃ b, K (.v (.bool b)) ∧ (∀ x y w, (eqGuard op t x y (.agg p) (.agg q)).run P w = .ok () w) ∧ ∀ w, (binOp op t (.agg p) (.agg q)).run P w = .ok (.bool b) w := by
  unfold aggEqR at h
  split at h
  · cases h
  · rename_i hg
    split at h
    · rename_i n ha
      split at h
      · rename_i bs hb
        have run : ∀ w, (Op.equal t (.agg p) (.agg q)).run P w = .ok (conj bs) w := fun w => by
          obtain ⟨v, u, hv, hu, hr⟩ := eqCs_run w _ _ _ _ _ _ _ hb ha
          unfold valOf at hv hu
          rw [ha] at hv hu
          injection hv with hv; injection hu with hu
          subst hv; subst hu
          exact hr 10000 (by omega)
        split at h
        · injection h with h; subst h
          exact ⟨_, hp, fun x y w => eqGuard_agg hg w, fun w => by simp only [binOp, Sem.run_bind, run w, Result.andThen_ok]; rfl⟩
        · injection h with h; subst h
          exact ⟨_, hp, fun x y w => eqGuard_agg hg w, fun w => by simp only [binOp, Sem.run_bind, run w, Result.andThen_ok]; rfl⟩
        · cases h
      · cases h
    · cases h
theorem binR_got {op : BinOp} {t yt : TypeId} {x y : Operand} {K : AV → Prop} {pr : Prop} (ho : o.op = .binOp op t x y yt) (h : binR P op t (s.ev x) (s.ev y) K = some pr) (hp : pr) (hr : Rel s v a w) : Got P s o a K := by
  have hx := hr.ev x
  have hy := hr.ev y
  have run : ∀ z, (∀ c, a.eval x ≠ .agg c) → a.eval x ≠ .nilIface → (∀ w, (binOp op t (a.eval x) (a.eval y)).run P w = .ok z w) → ∀ w, (execOp a.eval o).run P w = .ok (.value z) w := fun z h1 h2 h3 w => by
    simp [execOp, ho, eqGuard_quiet h1 h2, h3]
  unfold binR at h
  split at h
  · split at h
    · rename_i k p k' q ex ey
      rw [ex] at hx; rw [ey] at hy
      have hx : a.eval x = _ := hx
      have hy : a.eval y = _ := hy
      injection h with h; subst h
      refine got (run (.int k (k.wrap (p * 2 ^ (min q.toNat k.bits)))) (by simp [hx]) (by simp [hx]) (fun w => ?_)) (av := .v _) rfl hp.2
      have : ¬ q < 0 := by have := hp.1; omega
      simp [hx, hy, binOp, Op.shift, this]
    · cases h
  · split at h
    · rename_i k p k' q ex ey
      rw [ex] at hx; rw [ey] at hy
      have hx : a.eval x = _ := hx
      have hy : a.eval y = _ := hy
      injection h with h; subst h
      refine got (run (.int k (p.fdiv (2 ^ (min q.toNat k.bits)))) (by simp [hx]) (by simp [hx]) (fun w => ?_)) (av := .v _) rfl hp.2
      have : ¬ q < 0 := by have := hp.1; omega
      simp [hx, hy, binOp, Op.shift, this]
    · cases h
  · split at h
    · rename_i k p k' q ex ey
      rw [ex] at hx; rw [ey] at hy
      have hx : a.eval x = _ := hx
      have hy : a.eval y = _ := hy
      split at h
      · rename_i e; subst e
        obtain ⟨z, hz, hrun⟩ := run_intBin (P := P) (t := t) h hp
        exact got (run z (by simp [hx]) (by simp [hx]) (fun w => by rw [hx, hy]; exact hrun w)) (av := .v z) rfl hz
      · cases h
    · rename_i p q ex ey
      rw [ex] at hx; rw [ey] at hy
      have hx : a.eval x = _ := hx
      have hy : a.eval y = _ := hy
      obtain ⟨z, hz, hrun⟩ := run_strBin (P := P) (t := t) h hp
      exact got (run z (by simp [hx]) (by simp [hx]) (fun w => by rw [hx, hy]; exact hrun w)) (av := .v z) rfl hz
    · rename_i p q ex ey
      rw [ex] at hx; rw [ey] at hy
      have hx : a.eval x = _ := hx
      have hy : a.eval y = _ := hy
      obtain ⟨b, hz, hg, hrun⟩ := aggEq_run h hp
      exact got (x := .bool b) (fun w => by simp [execOp, ho, hx, hy, hg x y w, hrun w]) (av := .v (.bool b)) rfl hz
    · split at h
      · rename_i d hd
        split at h
        · rename_i b hb
          have e := fun w => run_eqAV (P := P) (s := s) hd hb hx hy w
          have g1 : ∀ c, a.eval x ≠ .agg c := fun c hc => by have := (e w).2; rw [hc] at this; simp [Odd] at this
          have g2 : a.eval x ≠ .nilIface := fun hc => by have := (e w).2; rw [hc] at this; simp [Odd] at this
          split at h
          · injection h with h; subst h
            exact got (run (.bool b) g1 g2 (fun w => binOp_eql_odd (e w).1 (e w).2)) (av := .v _) rfl hp
          · injection h with h; subst h
            exact got (run (.bool !b) g1 g2 (fun w => binOp_neq_odd (e w).1 (e w).2)) (av := .v _) rfl hp
          · cases h
        · cases h
      · cases h

end
end Go.V

end
section
/- What is reckoned of the frame alone, the rest of it. -/
namespace Go.V
open Go.RowKit
set_option linter.unusedVariables false
set_option linter.unusedSimpArgs false
section
variable {P : Program} {o : Oper} {s : St} {v : World} {a : Act} {w : World}

theorem unR_got {op : UnOp} {t : TypeId} {x : Operand} {K : AV → Prop} {pr : Prop} (ho : o.op = .unOp op t x) (h : unR op (s.ev x) K = some pr) (hp : pr) (hr : Rel s v a w) : Got P s o a K := by
  have hx := hr.ev x
  unfold unR at h
  split at h
  · rename_i b e
    rw [e] at hx; have hx : a.eval x = _ := hx
    injection h with h; subst h
    exact got (fun w => by simp [execOp, ho, hx, Op.unary]) (av := .v _) rfl hp
  · rename_i k n e
    rw [e] at hx; have hx : a.eval x = _ := hx
    injection h with h; subst h
    exact got (fun w => by simp [execOp, ho, hx, Op.unary, Op.intArith]) (av := .v _) rfl hp
  · cases h
  · cases h

theorem convR_got {src dst : TypeId} {x : Operand} {K : AV → Prop} {pr : Prop} (ho : o.op = .convert src dst x) (h : convR P src dst (s.ev x) K = some pr) (hp : pr) (hr : Rel s v a w) : Got P s o a K := by
  have hx := hr.ev x
  unfold convR at h
  split at h
  · rename_i d k n m e1 e2 e
    rw [e] at hx; have hx : a.eval x = _ := hx
    injection h with h; subst h
    exact got (fun w => by simp [execOp, ho, hx, convert, run_underlying e1, run_underlying e2, Conv.intToInt]) (av := .v _) rfl hp
  · rename_i d m e1 e2 e
    rw [e] at hx; have hx : a.eval x = _ := hx
    injection h with h; subst h
    exact got (fun w => by simp [execOp, ho, hx, convert, run_underlying e1, run_underlying e2]) (av := .v _) rfl hp
  · cases h

theorem optInt_sound {d n : Int} {x : Option Operand} (h : optInt s d x = some n) (hr : Rel s v a w) : (x = none ∧ n = d) ∨ ∃ y k, x = some y ∧ a.eval y = .int k n := by
  unfold optInt at h
  split at h
  · injection h with h; exact .inl ⟨rfl, h.symm⟩
  · rename_i y
    split at h
    · rename_i k m e; injection h with h; subst h; exact .inr ⟨y, k, rfl, val_sound e hr⟩
    · cases h

theorem run_bound {k : IntKind} {n : Int} {y : Nat} {c : BoundsCode} (h0 : 0 ≤ n) (h1 : n ≤ y) (w : World) : (Instr.sliceBound (.int k n) y c).run P w = .ok n.toNat w := by
  simp [Instr.sliceBound, asIntOf, h0, h1]

theorem run_bounds2 {b : Bool} {n c : Nat} {l h : Int} {lo hi : Option Operand} (hl : optInt s 0 lo = some l) (hh : optInt s n hi = some h) (hr : Rel s v a w) (h0 : 0 ≤ l) (h1 : l ≤ h) (h2 : h ≤ c) (w : World) :
    (Instr.sliceBounds b n c (lo.map a.eval) (hi.map a.eval) none).run P w = .ok (l.toNat, h.toNat, c) w := by
  rcases optInt_sound hl hr with ⟨rfl, rfl⟩ | ⟨y, k, rfl, e⟩ <;> rcases optInt_sound hh hr with ⟨rfl, rfl⟩ | ⟨y', k', rfl, e'⟩
  · simp [Instr.sliceBounds]
  · cases b <;> simp [Instr.sliceBounds, e', run_bound (by omega) h2]
  · cases b <;> simp [Instr.sliceBounds, e, run_bound h0 h1]
  · have hh : l ≤ (h.toNat : Int) := by omega
    cases b <;> simp [Instr.sliceBounds, e, e', run_bound (P := P) (k := k') (by omega) h2, run_bound (P := P) (k := k) h0 hh]

theorem run_bounds3 {n c : Nat} {l h m : Int} {lo hi mx : Option Operand} {y : Operand} (hl : optInt s 0 lo = some l) (hhi : hi = some y) (hh : optInt s n hi = some h) (hmx : mx ≠ none) (hm : optInt s c mx = some m) (hr : Rel s v a w) (h0 : 0 ≤ l) (h1 : l ≤ h) (h2 : h ≤ m) (h3 : m ≤ c) (w : World) :
    (Instr.sliceBounds true n c (lo.map a.eval) (hi.map a.eval) (mx.map a.eval)).run P w = .ok (l.toNat, h.toNat, m.toNat) w := by
  rcases optInt_sound hm hr with ⟨rfl, rfl⟩ | ⟨ym, km, rfl, em⟩
  · exact absurd rfl hmx
  subst hhi
  rcases optInt_sound hh hr with ⟨hx, _⟩ | ⟨y', k', hx, e'⟩
  · cases hx
  injection hx with hx; subst hx
  have a1 : h ≤ (m.toNat : Int) := by omega
  have a2 : l ≤ (h.toNat : Int) := by omega
  rcases optInt_sound hl hr with ⟨rfl, rfl⟩ | ⟨yl, k, rfl, e⟩
  · simp [Instr.sliceBounds, em, e', run_bound (P := P) (k := km) (by omega) h3, run_bound (P := P) (k := k') (by omega) a1]
  · simp [Instr.sliceBounds, em, e', e, run_bound (P := P) (k := km) (by omega) h3, run_bound (P := P) (k := k') (by omega) a1, run_bound (P := P) (k := k) h0 a2]

theorem sliceR_got {t : TypeId} {x : Operand} {lo hi mx : Option Operand} {K : AV → Prop} {pr : Prop} (ho : o.op = .slice t x lo hi mx) (h : sliceR P s t x lo hi mx K = some pr) (hp : pr) (hr : Rel s v a w) : Got P s o a K := by
  unfold sliceR at h
  split at h
  · rename_i hu
    split at h
    · rename_i b hx
      split at h
      · rename_i l hh hl hhi
        injection h with h; subst h
        obtain ⟨⟨h0, h1, h2⟩, hk⟩ := hp
        refine got (fun w => ?_) (av := .v _) rfl hk
        have hx' := val_sound hx hr
        simp [execOp, ho, hx', Instr.sliceAt, Instr.slice, run_underlying hu, run_bounds2 (P := P) (b := false) hl hhi hr h0 h1 h2]
      · cases h
    · cases h
  · rename_i e hu
    split at h
    · rename_i p n c z hx hz
      split at h
      · split at h
        · rename_i l hh hl hhi
          injection h with h; subst h
          obtain ⟨⟨h0, h1, h2⟩, hk⟩ := hp
          refine got (fun w => ?_) (av := .v _) rfl hk
          have hx' := val_sound hx hr
          simp [execOp, ho, hx', Instr.sliceAt, Instr.slice, run_underlying hu, run_bounds2 (P := P) (b := true) hl hhi hr h0 h1 h2, run_sizeN hz, subA]
        · cases h
      · rename_i ym
        split at h
        · rename_i l _ hh m hl hhi hm
          injection h with h; subst h
          obtain ⟨⟨h0, h1, h2, h3⟩, hk⟩ := hp
          refine got (fun w => ?_) (av := .v _) rfl hk
          have hx' := val_sound hx hr
          have := run_bounds3 (P := P) hl rfl hm (by simp) hhi hr h0 h1 h2 h3
          simp only [Option.map_some] at this
          simp [execOp, ho, hx', Instr.sliceAt, Instr.slice, run_underlying hu, this, run_sizeN hz, subA]
        · cases h
    · cases h
  · rename_i n e hu
    split at h
    · rename_i ad z hx hz
      split at h
      · rename_i l hh hl hhi
        injection h with h; subst h
        obtain ⟨⟨h0, h1, h2⟩, hk⟩ := hp
        refine got (fun w => ?_) (av := .v _) rfl hk
        have hx' := hr.ev x
        rw [hx] at hx'
        have hx' : a.eval x = _ := hx'
        simp [execOp, ho, hx', Instr.sliceAt, Instr.sureAddr, run_underlying hu, run_bounds2 (P := P) (b := false) hl hhi hr h0 h1 h2, run_sizeN hz, subA]
        split <;> rfl
      · cases h
    · cases h
  · cases h

theorem indexAddrR_got {t : TypeId} {x i : Operand} {K : AV → Prop} {pr : Prop} (ho : o.op = .indexAddr t x i) (h : indexAddrR P s t x i K = some pr) (hp : pr) (hr : Rel s v a w) : Got P s o a K := by
  unfold indexAddrR at h
  split at h
  · rename_i e hu
    split at h
    · rename_i p l c k n z hx hi hz
      injection h with h; subst h
      obtain ⟨ad, rfl, ⟨h0, h1⟩, hk⟩ := hp
      refine got (fun w => ?_) (av := .a _) rfl hk
      simp [execOp, ho, val_sound hx hr, val_sound hi hr, Instr.indexAt, run_underlying hu, asIntOf, h0, h1, run_sizeN hz]
    · cases h
  · rename_i len e hu
    split at h
    · rename_i ad z hx hz
      split at h
      · rename_i k n hi
        injection h with h; subst h
        obtain ⟨⟨h0, h1⟩, hk⟩ := hp
        have hx' := hr.ev x
        rw [hx] at hx'; have hx' : a.eval x = _ := hx'
        refine got (fun w => ?_) (av := .a _) rfl hk
        simp [execOp, ho, hx', val_sound hi hr, Instr.indexAt, run_underlying hu, asIntOf, Instr.sureAddr, h0, h1, run_sizeN hz]
      · cases h
    · rename_i y z hx hz
      split at h
      · rename_i k n hi
        injection h with h; subst h
        obtain ⟨ad, rfl, ⟨h0, h1⟩, hk⟩ := hp
        have hx' := hr.ev x
        rw [hx] at hx'; have hx' : a.eval x = _ := hx'
        refine got (fun w => ?_) (av := .a _) rfl hk
        simp [execOp, ho, hx', val_sound hi hr, Instr.indexAt, run_underlying hu, asIntOf, Instr.sureAddr, h0, h1, run_sizeN hz]
      · cases h
    · rename_i k off z hx hz
      split at h
      · rename_i kn n
        injection h with h; subst h
        obtain ⟨⟨h0, h1⟩, hk⟩ := hp
        have hx' := hr.ev x
        rw [hx] at hx'
        obtain ⟨pb, hpb, hx'⟩ := hx'
        refine got (fun w => ?_) (av := .r _ _) ⟨pb, hpb, rfl⟩ hk
        have hc : a.eval (.const (.int kn n)) = .int kn n := rfl
        simp [execOp, ho, hx', hc, Instr.indexAt, run_underlying hu, asIntOf, Instr.sureAddr, h0, h1, run_sizeN hz, add_mk]
      · cases h
    · cases h
  · cases h

theorem indexR_got {t : TypeId} {x i : Operand} {K : AV → Prop} {pr : Prop} (ho : o.op = .index t x i) (h : indexR P s t x i K = some pr) (hp : pr) (hr : Rel s v a w) : Got P s o a K := by
  unfold indexR at h
  split at h
  · rename_i hu
    split at h
    · rename_i b k n hx hi
      injection h with h; subst h
      obtain ⟨⟨h0, h1⟩, hk⟩ := hp
      refine got (fun w => ?_) (av := .v _) rfl hk
      obtain ⟨y, hy⟩ : ∃ y, b.data.toList.getD n.toNat 0 = y := ⟨_, rfl⟩
      have e : b[n.toNat]? = some y := by
        rw [← hy]
        have hlt : n.toNat < b.data.toList.length := by
          have : b.data.toList.length = b.size := Array.length_toList
          omega
        have h2 : n.toNat < b.size := by omega
        rw [List.getD_eq_getElem?_getD, List.getElem?_eq_getElem hlt, getElem?_pos b n.toNat h2]
        rfl
      simp only [execOp, ho, val_sound hx hr, val_sound hi hr, Instr.index, Sem.run_bind, run_underlying hu, asIntOf, Sem.run_pure, Result.andThen_ok, h0, if_true, e, byteAt, hy]
    · cases h
  · rename_i len e hu
    split at h
    · rename_i cs k n m hx hi ha
      split at h
      · rename_i d hd
        split at h
        · rename_i lf hl
          injection h with h; subst h
          obtain ⟨⟨h0, h1⟩, hk⟩ := hp
          obtain ⟨vs, hlen, _, hk⟩ := exL_sound hk
          match vs, hlen, hk with
          | [y], _, hk =>
            obtain ⟨hc, hk⟩ := hk
            refine got (fun w => ?_) (av := .v y) rfl hk
            have hs : ∀ w, (isAgg e).run P w = .ok false w ∧ (sizeOf e).run P w = .ok m w := fun w => aggOf_isAgg ha w
            have h1' : n < (len : Int) := h1
            have hc' : cs[n.toNat * m]? = some y := hc
            simp [execOp, ho, val_sound hx hr, val_sound hi hr, Instr.index, run_underlying hu, asIntOf, h0, h1', (hs w).1, (hs w).2, part, hc']
        · cases h
      · cases h
    · cases h
  · cases h

theorem fieldR_got {t : TypeId} {x : Operand} {f : Nat} {K : AV → Prop} {pr : Prop} (ho : o.op = .field t x f) (h : fieldR P s t x f K = some pr) (hp : pr) (hr : Rel s v a w) : Got P s o a K := by
  unfold fieldR at h
  split at h
  · rename_i fs hu
    split at h
    · rename_i fl cs hf hx
      split at h
      · rename_i n ha
        injection h with h; subst h
        refine got (fun w => ?_) (av := .v _) rfl hp
        obtain ⟨h1, h2⟩ := aggOf_isAgg ha w
        simp [execOp, ho, val_sound hx hr, Instr.field, run_underlying hu, hf, asAgg, part, h1, h2]
      · rename_i n ha
        split at h
        · rename_i y hy
          injection h with h; subst h
          refine got (fun w => ?_) (av := .v _) rfl hp
          obtain ⟨h1, h2⟩ := aggOf_isAgg ha w
          simp [execOp, ho, val_sound hx hr, Instr.field, run_underlying hu, hf, asAgg, part, h1, hy]
        · cases h
      · cases h
    · cases h
  · cases h

theorem builtinR_got {b : Builtin} {args : Array Operand} {ts : Array TypeId} {K : AV → Prop} {pr : Prop} (ho : o.op = .call { callee := .builtin b, args := args, argTypes := ts })
    (h : builtinR s b args.toList (match ts[0]? with | some t => P.underlying t | none => none) K = some pr) (hp : pr) (hr : Rel s v a w) : Got P s o a K := by
  obtain ⟨args⟩ := args
  simp only at h
  unfold builtinR at h
  split at h
  · rename_i x
    split at h
    all_goals first | (cases h; done) | skip
    all_goals
      (first
       | (rename_i hd hx
          injection h with h; subst h
          cases hts : ts[0]? with
          | none => rw [hts] at hd; cases hd
          | some t =>
            rw [hts] at hd
            have hd : P.underlying t = _ := hd
            have hx' := hr.ev x
            rw [hx] at hx'
            refine got (fun w => ?_) (av := .v _) rfl hp
            first
            | (have hx' : a.eval x = _ := hx'
               simp [execOp, ho, resolve, invoke, builtin, Builtin.len_, hts, run_underlying hd, hx', goInt]; done)
            | (obtain ⟨pb, _, hx'⟩ := hx'
               simp [execOp, ho, resolve, invoke, builtin, Builtin.len_, hts, run_underlying hd, hx', goInt]; done))
       | (rename_i hd
          injection h with h; subst h
          cases hts : ts[0]? with
          | none => rw [hts] at hd; cases hd
          | some t =>
            rw [hts] at hd
            have hd : P.underlying t = _ := hd
            refine got (fun w => ?_) (av := .v _) rfl hp
            simp [execOp, ho, resolve, invoke, builtin, Builtin.len_, hts, run_underlying hd, goInt]; done))
  · rename_i x
    split at h
    all_goals first | (cases h; done) | skip
    all_goals
      (first
       | (rename_i hd hx
          injection h with h; subst h
          cases hts : ts[0]? with
          | none => rw [hts] at hd; cases hd
          | some t =>
            rw [hts] at hd
            have hd : P.underlying t = _ := hd
            have hx' := hr.ev x
            rw [hx] at hx'
            refine got (fun w => ?_) (av := .v _) rfl hp
            first
            | (have hx' : a.eval x = _ := hx'
               simp [execOp, ho, resolve, invoke, builtin, Builtin.cap_, hts, run_underlying hd, hx', goInt]; done)
            | (obtain ⟨pb, _, hx'⟩ := hx'
               simp [execOp, ho, resolve, invoke, builtin, Builtin.cap_, hts, run_underlying hd, hx', goInt]; done))
       | (rename_i hd
          injection h with h; subst h
          cases hts : ts[0]? with
          | none => rw [hts] at hd; cases hd
          | some t =>
            rw [hts] at hd
            have hd : P.underlying t = _ := hd
            refine got (fun w => ?_) (av := .v _) rfl hp
            simp [execOp, ho, resolve, invoke, builtin, Builtin.cap_, hts, run_underlying hd, goInt]; done))
  · rename_i x y
    split at h
    · rename_i k p k' q hx hy
      injection h with h; subst h
      have hx' := hr.ev x
      have hy' := hr.ev y
      rw [hx] at hx'; rw [hy] at hy'
      have hx' : a.eval x = _ := hx'
      have hy' : a.eval y = _ := hy'
      refine got (fun w => ?_) (av := .v _) rfl hp
      simp [execOp, ho, resolve, invoke, builtin, Builtin.min_, Builtin.min2, hx', hy']
    · cases h
  · rename_i x y
    split at h
    · rename_i k p k' q hx hy
      injection h with h; subst h
      have hx' := hr.ev x
      have hy' := hr.ev y
      rw [hx] at hx'; rw [hy] at hy'
      have hx' : a.eval x = _ := hx'
      have hy' : a.eval y = _ := hy'
      refine got (fun w => ?_) (av := .v _) rfl hp
      simp [execOp, ho, resolve, invoke, builtin, Builtin.max_, Builtin.max2, hx', hy']
    · cases h
  · cases h

theorem partsR_sound {l : List (Nat × Operand)} : ∀ {ps : List (Nat × Value)}, partsR s l = some ps → Rel s v a w → l.map (fun p => (p.1, a.eval p.2)) = ps := by
  induction l with
  | nil => intro ps h _; simp [partsR] at h; simp [h]
  | cons x l ih =>
    intro ps h hr
    obtain ⟨i, y⟩ := x
    simp only [partsR] at h
    split at h
    · rename_i z zs h1 h2
      injection h with h; subst h
      simp [val_sound h1 hr, ih h2 hr]
    · cases h
theorem placesR_sound {l : List Field} : ∀ {pl : List (Nat × Nat)}, placesR P l = some pl → ∀ w, (l.mapM (m := Sem) fun f => do pure (f.offset, ← sizeOf f.type)).run P w = .ok pl w := by
  induction l with
  | nil => intro pl h w; simp [placesR] at h; subst h; rfl
  | cons f l ih =>
    intro pl h w
    simp only [placesR] at h
    split at h
    · rename_i n zs h1 h2
      injection h with h; subst h
      have := ih h2 w
      simp only [map_pure, bind_pure_comp] at this
      simp [List.mapM_cons, run_sizeN h1, this]
    · cases h
theorem spl_arr (cs : Array Value) (off : Nat) (xs : List Value) (h : off + xs.length ≤ cs.size) : (xs.zipIdx.foldl (fun cs (c, j) => cs.setIfInBounds (off + j) c) cs) = (spl cs.toList off xs).toArray := by
  have key : ∀ (xs : List Value) (k : Nat) (cs : Array Value), off + k + xs.length ≤ cs.size → ((xs.zipIdx k).foldl (fun cs (c, j) => cs.setIfInBounds (off + j) c) cs) = (cs.toList.take (off + k) ++ xs ++ cs.toList.drop (off + k + xs.length)).toArray := by
    intro xs
    induction xs with
    | nil => intro k cs h; simp
    | cons x xs ih =>
      intro k cs h
      simp only [List.zipIdx_cons, List.foldl_cons]
      rw [ih (k + 1) (cs.setIfInBounds (off + k) x) (by simp at h ⊢; omega)]
      have e := list_seg_step cs.toList (off + k) x xs (by simp at h ⊢; omega)
      simpa [Array.toList_setIfInBounds, Nat.add_assoc] using e
  have := key xs 0 cs (by omega)
  simpa [spl] using this
theorem fillL_sound {place : Nat → Option (Nat × Nat)} {ps : List (Nat × Value)} : ∀ {cells : Array Value} {cs : List Value}, fillL place cells.toList ps = some cs → Instr.fill place cells ps = some cs.toArray := by
  induction ps with
  | nil => intro cells cs h; simp [fillL] at h; subst h; simp [Instr.fill]
  | cons p ps ih =>
    intro cells cs h
    obtain ⟨i, x⟩ := p
    simp only [fillL] at h
    cases hp : place i with
    | none => rw [hp] at h; cases h
    | some os =>
      obtain ⟨off, size⟩ := os
      rw [hp] at h
      simp only at h
      split at h
      · rename_i h1 h2
        have h1 := Nat.eq_of_beq_eq_true h1
        have h2 := Nat.le_of_ble_eq_true h2
        simp only [Array.length_toList] at h1 h2
        have e := spl_arr cells off x.cells.toList (by simpa using h2)
        simp only [Instr.fill, hp]
        have hn : ¬ (x.cells.size ≠ size ∨ off + x.cells.size > cells.size) := by omega
        have hz : x.cells.zipIdx.foldl (fun cs (c, j) => cs.setIfInBounds (off + j) c) cells = (spl cells.toList off x.cells.toList).toArray := by
          rw [← e, ← Array.foldl_toList, Array.toList_zipIdx]
        simp only [Bool.or_eq_true, decide_eq_true_eq, hn, if_false]
        rw [hz]
        exact ih (by simpa using h)
      · cases h
theorem buildR_got {t : TypeId} {parts : Array (Nat × Operand)} {K : AV → Prop} {pr : Prop} (ho : o.op = .build t parts) (h : buildR P s t parts.toList K = some pr) (hp : pr) (hr : Rel s v a w) : Got P s o a K := by
  unfold buildR at h
  split at h
  · rename_i z ps hz hps
    have e1 := partsR_sound hps hr
    have e2 : (parts.map fun (i, x) => (i, a.eval x)).toList = ps := by rw [← e1]; simp
    split at h
    · rename_i fs hu
      split at h
      · rename_i pl hpl
        split at h
        · rename_i cs hcs
          injection h with h; subst h
          refine got (fun w => ?_) (av := .v _) rfl hp
          have hm : (fs.mapM (m := Sem) fun f => do pure (f.offset, ← sizeOf f.type)).run P w = .ok pl.toArray w := by
            have := placesR_sound hpl w
            rw [Array.mapM_eq_mapM_toList]
            simp only [Sem.run_map, this, Result.andThen_ok]
          have hf := fillL_sound (cells := z.cells) hcs
          simp only [map_pure, bind_pure_comp] at hm
          simp [execOp, ho, Instr.build, run_zero hz, run_underlying hu, hm, e1, hf]
        · cases h
      · cases h
    · rename_i n e hu
      split at h
      · rename_i sz hsz
        split at h
        · rename_i cs hcs
          injection h with h; subst h
          refine got (fun w => ?_) (av := .v _) rfl hp
          have hf := fillL_sound (cells := z.cells) hcs
          simp [execOp, ho, Instr.build, run_zero hz, run_underlying hu, run_sizeN hsz, e1, hf]
        · cases h
      · cases h
    · cases h
  · cases h

/-- What is reckoned of the frame alone. -/
theorem pvc_sound {K : AV → Prop} {pr : Prop} (h : pvc P s o.op K = some pr) (hp : pr) (hr : Rel s v a w) : Got P s o a K := by
  unfold pvc at h
  split at h
  · rename_i x ho
    injection h with h; subst h
    exact got (fun w => by simp [execOp, ho]) (hr.evc x) hp
  · rename_i x ho
    injection h with h; subst h
    exact got (fun w => by simp [execOp, ho]) (hr.evc x) hp
  · rename_i c x y ho
    have hc := hr.evc c
    split at h
    · rename_i e
      injection h with h; subst h
      rw [e] at hc
      have hc : a.eval c = .bool true := hc
      exact got (x := a.eval x) (fun w => by simp [execOp, ho, hc, asBool]) (hr.evc x) hp
    · rename_i e
      injection h with h; subst h
      rw [e] at hc
      have hc : a.eval c = .bool false := hc
      exact got (x := a.eval y) (fun w => by simp [execOp, ho, hc, asBool]) (hr.evc y) hp
    · rename_i t e
      injection h with h; subst h
      rw [e] at hc
      have hc : a.eval c = .bool t := hc
      exact got (x := if t then a.eval x else a.eval y) (fun w => by simp [execOp, ho, hc, asBool]) (pickAV_ok (hr.ev x) (hr.ev y)) hp
    · cases h
  · rename_i x ho
    have hx := hr.ev x
    split at h
    · rename_i k off e
      injection h with h; subst h
      rw [e] at hx
      obtain ⟨pb, h1, h2⟩ := hx
      exact got (fun w => by simp [execOp, ho, h2]) (av := .r k off) ⟨pb, h1, rfl⟩ hp
    · rename_i ad e
      injection h with h; subst h
      rw [e] at hx; have hx : a.eval x = _ := hx
      exact got (fun w => by simp [execOp, ho, hx]) (av := .a ad) rfl hp
    · rename_i y e
      injection h with h; subst h
      rw [e] at hx; have hx : a.eval x = _ := hx
      obtain ⟨ad, rfl, hk⟩ := hp
      exact got (fun w => by simp [execOp, ho, hx]) (av := .a ad) rfl hk
    · cases h
  · rename_i t x f ho
    have hx := hr.ev x
    split at h
    · cases h
    · rename_i off hoff
      split at h
      · rename_i k oo e
        injection h with h; subst h
        rw [e] at hx
        obtain ⟨pb, h1, h2⟩ := hx
        exact got (fun w => by simp [execOp, ho, h2, run_fieldAt hoff, add_mk]) (av := .r k _) ⟨pb, h1, rfl⟩ hp
      · rename_i ad e
        injection h with h; subst h
        rw [e] at hx; have hx : a.eval x = _ := hx
        exact got (fun w => by simp [execOp, ho, hx, run_fieldAt hoff]) (av := .a _) rfl hp
      · rename_i y e
        injection h with h; subst h
        rw [e] at hx; have hx : a.eval x = _ := hx
        obtain ⟨ad, rfl, hk⟩ := hp
        exact got (fun w => by simp [execOp, ho, hx, run_fieldAt hoff]) (av := .a _) rfl hk
      · cases h
  · rename_i t x i ho; exact indexAddrR_got ho h hp hr
  · rename_i t x i ho; exact indexR_got ho h hp hr
  · rename_i t x f ho; exact fieldR_got ho h hp hr
  · rename_i op t x y yt ho; exact binR_got ho h hp hr
  · rename_i op t x ho; exact unR_got ho h hp hr
  · rename_i c d x ho; exact convR_got ho h hp hr
  · rename_i t x ho
    split at h
    · cases h
    · rename_i d y hni hu hy
      injection h with h; subst h
      refine got (fun w => ?_) (av := .v _) rfl hp
      simp only [execOp, ho, Instr.makeInterface, Sem.run_bind, run_underlying hu, Result.andThen_ok, val_sound hy hr]
      cases d <;> first | rfl | (exact absurd hu (by intro hc; exact hni _ rfl))
    · cases h
  · rename_i fn first cap ho
    split at h
    · rename_i xs ys h1 h2
      injection h with h; subst h
      have e1 := vals_sound h1 hr
      have e2 := vals_sound h2 hr
      refine got (fun w => ?_) (av := .v _) rfl hp
      have f1 : first.map a.eval = xs.toArray := by apply Array.ext'; rw [Array.toList_map]; exact e1
      have f2 : cap.map a.eval = ys.toArray := by apply Array.ext'; rw [Array.toList_map]; exact e2
      simp [execOp, ho, Instr.makeFunc, f1, f2]
    · cases h
  · rename_i x i ho
    split at h
    · rename_i vs e
      split at h
      · rename_i y hy
        injection h with h; subst h
        exact got (fun w => by simp [execOp, ho, val_sound e hr, Instr.extract, hy]) (av := .v y) rfl hp
      · cases h
    · cases h
  · rename_i t x lo hi mx ho; exact sliceR_got ho h hp hr
  · rename_i t parts ho; exact buildR_got ho h hp hr
  · rename_i t x ho
    split at h
    · rename_i n e ad l c hu hx
      injection h with h; subst h
      have hn : ¬ l < n := by have := hp.1; omega
      exact got (fun w => by simp [execOp, ho, val_sound hx hr, Instr.arrayAt, run_underlying hu, hn]) (av := .v _) rfl hp.2
    · cases h
  · rename_i c ho
    split at h
    · rename_i b hb
      obtain ⟨cal, args, ts⟩ := c
      simp only at hb
      subst hb
      exact builtinR_got ho h hp hr
    · cases h
  · cases h

end
end Go.V

end
section
/- Maps as lists of keys and values; the operations that read memory. -/
namespace Go.V
open Go.RowKit
set_option linter.unusedVariables false
set_option linter.unusedSimpArgs false

/-! ### Maps -/
section maps
variable {κ : Type} [DecidableEq κ]

def lookI : List (κ × Value) → κ → Nat → Option (Nat × Value)
  | [], _, _ => none
  | (k, x) :: l, a, i => if a = k then some (i, x) else lookI l a (i + 1)
/-- What a map holds at a key. -/
def look : List (κ × Value) → κ → Option Value
  | [], _ => none
  | (k, x) :: l, a => if a = k then some x else look l a
def updM : List (κ × Value) → κ → Value → List (κ × Value)
  | [], a, y => [(a, y)]
  | (k, x) :: l, a, y => if a = k then (a, y) :: l else (k, x) :: updM l a y
def delM : List (κ × Value) → κ → List (κ × Value)
  | [], _ => []
  | (k, x) :: l, a => if a = k then l else (k, x) :: delM l a

/-- The keys are told apart by sight. -/
def KeyEnc (d : TypeDesc) (enc : κ → Value) : Prop :=
  (∀ a b, Instr.sameNow d (enc a) (enc b) = some (decide (a = b))) ∧ (∀ a b, Instr.sameBits 10000 (enc a) (enc b) = decide (a = b))

/-- Block m is a map that holds just these. -/
def MapG (enc : κ → Value) (w : World) (m : Nat) (l : List (κ × Value)) : Prop :=
  ∃ es clock, w.heap[m]? = some (.map es clock) ∧ es.toList.map (fun e => (e.key, e.val)) = l.map (fun p => (enc p.1, p.2)) ∧
    (∀ e ∈ es.toList, e.born < clock) ∧ (es.toList.map (·.born)).Nodup ∧ (l.map (·.1)).Nodup
/-- A map, or nil. -/
def MapO (enc : κ → Value) (w : World) (m : Option Nat) (l : List (κ × Value)) : Prop :=
  match m with
  | none => l = []
  | some b => MapG enc w b l

theorem keyEnc_int (k : IntKind) : KeyEnc (.int k) (Value.int k) := by
  refine ⟨fun a b => ?_, fun a b => ?_⟩
  · simp [Instr.sameNow]; rfl
  · simp [Instr.sameBits]; rfl
theorem keyEnc_str : KeyEnc .string Value.string := by
  refine ⟨fun a b => ?_, fun a b => ?_⟩
  · simp only [Instr.sameNow]; rw [beq_toListBytes, ByteArray.toList_eq, ByteArray.toList_eq, toList_eq]
  · simp only [Instr.sameBits]; rw [beq_toListBytes, ByteArray.toList_eq, ByteArray.toList_eq, toList_eq]

theorem findNow_enc {d : TypeDesc} {enc : κ → Value} (he : KeyEnc d enc) (a : κ) : ∀ (es : List MapEntry) (l : List (κ × Value)) (i : Nat), es.map (fun e => (e.key, e.val)) = l.map (fun p => (enc p.1, p.2)) →
    Instr.findNow d (enc a) es i = some (lookI l a i)
  | [], [], i, _ => rfl
  | [], p :: l, i, h => by simp at h
  | e :: es, [], i, h => by simp at h
  | e :: es, (k, x) :: l, i, h => by
    simp only [List.map_cons, List.cons.injEq, Prod.mk.injEq] at h
    obtain ⟨⟨h1, h2⟩, h3⟩ := h
    simp only [Instr.findNow, h1, he.1, lookI]
    by_cases hk : a = k
    · simp [hk, h2]
    · simp [hk, findNow_enc he a es l (i + 1) h3]
theorem look_of_lookI : ∀ (l : List (κ × Value)) (a : κ) (i : Nat), (lookI l a i).map (·.2) = look l a
  | [], _, _ => rfl
  | (k, x) :: l, a, i => by
    simp only [lookI, look]
    split
    · rfl
    · exact look_of_lookI l a (i + 1)
end maps

theorem checkKey_plain {P : Program} {t : TypeId} {d : TypeDesc} (hd : P.underlying t = some d) (hk : (∃ k, d = .int k) ∨ d = .string) (b : Bool) (x : Value) (n : Nat) (w : World) :
    (Instr.checkKey b (n + 1) t x).run P w = .ok () w := by
  rcases hk with ⟨k, rfl⟩ | rfl <;> simp [Instr.checkKey, run_underlying hd]

section find
variable {P : Program} {κ : Type} [DecidableEq κ] {t : TypeId} {d : TypeDesc} {enc : κ → Value}
theorem run_findKey (hd : P.underlying t = some d) (he : KeyEnc d enc) {es : Array MapEntry} {l : List (κ × Value)} (h : es.toList.map (fun e => (e.key, e.val)) = l.map (fun p => (enc p.1, p.2))) (a : κ) (w : World) :
    (Instr.findKey t (enc a) es.toList).run P w = .ok (lookI l a 0) w := by
  simp only [Instr.findKey, Sem.run_bind, run_underlying hd, Result.andThen_ok, findNow_enc he a es.toList l 0 h]
  rfl
end find

/-- A look into a map: the value that is there, or the zero value. -/
def LookRel {κ : Type} [DecidableEq κ] (l : List (κ × Value)) (a : κ) (z x : Value) (ok : Bool) : Prop :=
  (ok = true ∧ look l a = some x) ∨ (ok = false ∧ look l a = none ∧ x = z)
def noModM (s : St) (m : Option Nat) (p : Prop) : Prop :=
  match s.mods with
  | [] => p
  | ms => (∀ b, m = some b → b ∉ ms.map (·.2)) ∧ p
theorem noModM_sound {s : St} {m : Option Nat} {p : Prop} (h : noModM s m p) : (∀ b, m = some b → b ∉ s.mods.map (·.2)) ∧ p := by
  unfold noModM at h
  split at h
  · rename_i e; rw [e]; exact ⟨by simp, h⟩
  · exact h

/-- The same over a number of cells: of no cell there is nothing to know. -/
def noModN (s : St) (n : Nat) (m : Option Nat) (p : Prop) : Prop :=
  match s.mods with
  | [] => p
  | ms => (0 < n → ∀ b, m = some b → b ∉ ms.map (·.2)) ∧ p
theorem noModN_sound {s : St} {n : Nat} {m : Option Nat} {p : Prop} (h : noModN s n m p) : (0 < n → ∀ b, m = some b → b ∉ s.mods.map (·.2)) ∧ p := by
  unfold noModN at h
  split at h
  · rename_i e; rw [e]; exact ⟨by simp, h⟩
  · exact h

def lookG (P : Program) (s : St) (v : World) {κ : Type} [DecidableEq κ] (enc : κ → Value) (m : Option Nat) (a : κ) (e : TypeId) (ok : Bool) (K : AV → Prop) : Option Prop :=
  match zeroOf P e with
  | some z => some (∃ l, MapO enc v m l ∧ noModM s m (match ok with
    | true => exT P e fun x => ∃ b, LookRel l a z x b ∧ K (.v (.tuple #[x, .bool b]))
    | false => exT P e fun x => (∃ b, LookRel l a z x b) ∧ K (.v x)))
  | none => none

/-- The operations that read memory that is known to all. -/
def qvc (P : Program) (s : St) (v : World) (op : Op) (K : AV → Prop) : Option Prop :=
  match op with
  | .load t x => match s.ev x with
    | .a ad => some (pubLoad P s v t ad fun x => K (.v x))
    | .v y => some (∃ ad, y = .pointer (some ad) ∧ pubLoad P s v t ad fun x => K (.v x))
    | _ => none
  | .lookup t m i ok => match P.underlying t, s.val m, s.val i with
    | some (.map k e), some (.map mm), some key => match P.underlying k, key with
      | some (.int kd), .int kd' n => if kd = kd' then lookG P s v (Value.int kd) mm n e ok K else none
      | some .string, .string n => lookG P s v Value.string mm n e ok K
      | _, _ => none
    | _, _, _ => none
  | .convert a b x => match P.underlying a, P.underlying b, s.val x with
    | some (.slice e), some .string, some (.slice p n c) => match P.underlying e with
      | some (.int .u8) => some (∃ bs : List UInt8, bs.length = n ∧ (∀ i, i < n → ∃ ad, p = some ad ∧ v.cell? (ad.add i) = some (.int .u8 ((bs.getD i 0).toNat : Int))) ∧
          noModN s n (p.map (·.block)) (K (.v (.string ⟨bs.toArray⟩))))
      | _ => none
    | _, _, _ => none
  | .call c => match c.callee, c.args.toList, c.argTypes.toList with
    | .builtin .len, [x], [t] => match P.underlying t, s.val x with
      | some (.map k e), some (.map mm) => match P.underlying k with
        | some (.int kd) => some (∃ l, MapO (Value.int kd) v mm l ∧ noModM s mm (K (.v (.int .i64 l.length))))
        | some .string => some (∃ l, MapO Value.string v mm l ∧ noModM s mm (K (.v (.int .i64 l.length))))
        | _ => none
      | _, _ => none
    | _, _, _ => none
  | _ => none

/-- A load out of a private block. -/
def rvc (P : Program) (s : St) (op : Op) (K : AV → Prop) : Option (Nat × Prop) :=
  match op with
  | .load t x => match s.ev x with
    | .r k off => match s.hp.getD k none with
      | some pb => match aggOf P t with
        | some (true, n) => match Nat.ble (off + n) pb.cs.length with
          | true => some (k, K (.v (.agg ((pb.cs.drop off).take n).toArray)))
          | false => none
        | some (false, _) => match pb.cs[off]? with
          | some c => some (k, K (.v c))
          | none => none
        | none => none
      | none => none
    | _ => none
  | _ => none

section
variable {P : Program} {o : Oper} {s : St} {v : World} {a : Act} {w : World}

theorem rvc_sound {K : AV → Prop} {k : Nat} {pr : Prop} (h : rvc P s o.op K = some (k, pr)) (hp : pr) (hr : Rel s v a w) :
    ∃ pb x av, s.hp[k]? = some (some pb) ∧ Yld P o a (fun w' => ∃ T f, w'.heap[pb.b]? = some (.cells pb.cs.toArray T f)) x ∧ AVok s av x ∧ K av := by
  unfold rvc at h
  split at h
  · rename_i t x ho
    have hx := hr.ev x
    split at h
    · rename_i k' off e
      rw [e] at hx
      obtain ⟨pb, hk, hv⟩ := hx
      have hg : s.hp.getD k' none = some pb := by rw [List.getD_eq_getElem?_getD, hk]; rfl
      rw [hg] at h
      simp only at h
      cases ha : aggOf P t with
      | none => rw [ha] at h; cases h
      | some bn =>
        obtain ⟨b, n⟩ := bn
        rw [ha] at h
        cases b with
        | true =>
          simp only at h
          cases hb : Nat.ble (off + n) pb.cs.length with
          | false => rw [hb] at h; cases h
          | true =>
            rw [hb] at h
            simp only [Option.some.injEq, Prod.mk.injEq] at h
            obtain ⟨rfl, rfl⟩ := h
            have hle : off + n ≤ pb.cs.length := Nat.le_of_ble_eq_true hb
            have hl : ((pb.cs.drop off).take n).length = n := by simp; omega
            refine ⟨pb, _, _, hk, fun w' hw => ?_, (show AVok s (.v _) _ from rfl), hp⟩
            obtain ⟨T, f, hT⟩ := hw
            obtain ⟨h1, h2⟩ := aggOf_isAgg ha w'
            have := run_loadCells_list (P := P) (w := w') ⟨pb.b, off, none⟩ ((pb.cs.drop off).take n) (fun j u hu => by
              rw [add_mk, cell_of_cells hT]
              rw [List.getElem?_take] at hu
              split at hu
              · rwa [List.getElem?_drop] at hu
              · cases hu)
            rw [hl] at this
            simp [execOp, ho, Instr.loadAt, Instr.sureAddr, hv, loadVar, h1, h2, this]
        | false =>
          simp only at h
          cases hc : pb.cs[off]? with
          | none => rw [hc] at h; cases h
          | some c =>
            rw [hc] at h
            simp only [Option.some.injEq, Prod.mk.injEq] at h
            obtain ⟨rfl, rfl⟩ := h
            refine ⟨pb, _, _, hk, fun w' hw => ?_, (show AVok s (.v _) _ from rfl), hp⟩
            obtain ⟨T, f, hT⟩ := hw
            obtain ⟨h1, h2⟩ := aggOf_isAgg ha w'
            have : w'.cell? ⟨pb.b, off, none⟩ = some c := by rw [cell_of_cells hT]; exact hc
            simp [execOp, ho, Instr.loadAt, Instr.sureAddr, hv, loadVar, h1, this]
    · cases h
  · cases h

theorem Sees.map {m : Nat} {o : Obj} (h : Sees s v w) (hv : v.heap[m]? = some o) (hm : m ∉ s.mods.map (·.2)) : w.heap[m]? = some o := by
  rw [h m (Array.getElem?_eq_some_iff.1 hv).1 hm]; exact hv

theorem lookG_sound {κ : Type} [DecidableEq κ] {enc : κ → Value} {t tk e : TypeId} {d : TypeDesc} {m : Option Nat} {n : κ} {ok : Bool} {K : AV → Prop} {pr : Prop}
    (hu : P.underlying t = some (.map tk e)) (hd : P.underlying tk = some d) (he : KeyEnc d enc) (hdk : (∃ k, d = .int k) ∨ d = .string) (h : lookG P s v enc m n e ok K = some pr) (hp : pr) :
    ∃ x, (∀ w, Sees s v w → (Instr.lookup t (.map m) (enc n) ok).run P w = .ok x w) ∧ K (.v x) := by
  unfold lookG at h
  split at h
  · rename_i z hz
    injection h with h; subst h
    obtain ⟨l, hm, hk⟩ := hp
    obtain ⟨hmod, hk⟩ := noModM_sound hk
    have run : ∀ w, Sees s v w → ∀ b, (Instr.lookup t (.map m) (enc n) b).run P w = .ok (if b then .tuple #[(look l n).getD z, .bool (look l n).isSome] else (look l n).getD z) w := fun w hs b => by
      cases m with
      | none =>
        obtain rfl : l = [] := hm
        have e0 := checkKey_plain hd hdk true (enc n) 9999 w
        have e1 : (Instr.findKey tk (enc n) []).run P w = .ok none w := run_findKey (es := #[]) (l := ([] : List (κ × Value))) hd he rfl n w
        cases b <;> simp [Instr.lookup, run_underlying hu, e0, e1, run_zero hz, look]
      | some b' =>
        obtain ⟨es, clock, hb, hl, _⟩ := hm
        have hb' := Sees.map hs hb (hmod b' rfl)
        have e0 := checkKey_plain hd hdk es.isEmpty (enc n) 9999 w
        have e1 := run_findKey (P := P) hd he hl n w
        have hg : (getObj b').run P w = .ok (.map es clock) w := by simp [getObj, Sem.run, hb']
        have e2 := look_of_lookI l n 0
        cases h3 : lookI l n 0 with
        | none =>
          rw [h3] at e1 e2
          simp only [Option.map_none] at e2
          cases b <;> simp [Instr.lookup, run_underlying hu, hg, e0, e1, run_zero hz, ← e2]
        | some ix =>
          rw [h3] at e1 e2
          simp only [Option.map_some] at e2
          cases b <;> simp [Instr.lookup, run_underlying hu, hg, e0, e1, ← e2]
    have rel : ∀ x b, LookRel l n z x b → (look l n).getD z = x ∧ (look l n).isSome = b := fun x b h => by
      rcases h with ⟨rfl, h⟩ | ⟨rfl, h, rfl⟩ <;> simp [h]
    cases ok with
    | true =>
      obtain ⟨x, b, hr, hk⟩ := exT_sound hk
      obtain ⟨e1, e2⟩ := rel x b hr
      exact ⟨_, fun w hs => by have := run w hs true; rw [e1, e2] at this; exact this, hk⟩
    | false =>
      obtain ⟨x, ⟨b, hr⟩, hk⟩ := exT_sound hk
      obtain ⟨e1, e2⟩ := rel x b hr
      exact ⟨_, fun w hs => by have := run w hs false; rw [e1] at this; exact this, hk⟩
  · cases h

theorem mapO_len {κ : Type} [DecidableEq κ] {enc : κ → Value} {t tk e ty : TypeId} {m : Option Nat} {l : List (κ × Value)} (hu : P.underlying t = some (.map tk e)) (hm : MapO enc v m l) (hmod : ∀ b, m = some b → b ∉ s.mods.map (·.2)) (w : World) (hs : Sees s v w) :
    (Builtin.len_ #[t] ty #[.map m]).run P w = .ok (.int .i64 l.length) w := by
  cases m with
  | none => obtain rfl : l = [] := hm; simp [Builtin.len_, run_underlying hu, goInt]
  | some b =>
    obtain ⟨es, clock, hb, hl, _⟩ := hm
    have hb' := Sees.map hs hb (hmod b rfl)
    have hg : (getObj b).run P w = .ok (.map es clock) w := by simp [getObj, Sem.run, hb']
    have e : es.size = l.length := by have := congrArg List.length hl; simpa using this
    simp [Builtin.len_, run_underlying hu, hg, goInt, e]

theorem run_bytes {src dst e : TypeId} (hs : P.underlying src = some (.slice e)) (he : P.underlying e = some (.int .u8)) (hd : P.underlying dst = some .string) (bs : List UInt8) (p : Option Addr) (w : World)
    (h : ∀ i, i < bs.length → ∃ ad, p = some ad ∧ w.cell? (ad.add i) = some (.int .u8 ((bs.getD i 0).toNat : Int))) (c : Nat) :
    (convert src dst (.slice p bs.length c)).run P w = .ok (.string ⟨bs.toArray⟩) w := by
  cases p with
  | none =>
    have : bs = [] := by
      cases bs with
      | nil => rfl
      | cons x xs => obtain ⟨ad, e, _⟩ := h 0 (by simp); cases e
    subst this
    exact run_convert_bytes_nil (w := w) src e hs he _ _ dst hd
  | some ad =>
    refine run_convert_bytes_back w src dst e ad c bs hs he hd (fun j hj => ?_)
    obtain ⟨ad', e, hc⟩ := h j hj
    injection e with e; subst e
    rw [hc]; simp [List.getD, hj]

/-- The operations that read memory. -/
theorem qvc_sound {K : AV → Prop} {pr : Prop} (h : qvc P s v o.op K = some pr) (hp : pr) (hr : Rel s v a w) : ∃ x av, Yld P o a (Sees s v) x ∧ AVok s av x ∧ K av := by
  unfold qvc at h
  split at h
  · rename_i t x ho
    have hx := hr.ev x
    split at h
    · rename_i ad e
      injection h with h; subst h
      rw [e] at hx; have hx : a.eval x = _ := hx
      obtain ⟨y, hy, hk⟩ := pubLoad_sound hp
      exact ⟨y, .v y, fun w' hs => by simp [execOp, ho, Instr.loadAt, Instr.sureAddr, hx, hy w' hs], rfl, hk⟩
    · rename_i y e
      injection h with h; subst h
      rw [e] at hx; have hx : a.eval x = _ := hx
      obtain ⟨ad, rfl, hp⟩ := hp
      obtain ⟨y, hy, hk⟩ := pubLoad_sound hp
      exact ⟨y, .v y, fun w' hs => by simp [execOp, ho, Instr.loadAt, Instr.sureAddr, hx, hy w' hs], rfl, hk⟩
    · cases h
  · rename_i t m i ok ho
    split at h
    · rename_i k e mm key hu hm hi
      split at h
      · rename_i kd kd' n hd
        split at h
        · rename_i ek; subst ek
          obtain ⟨x, hx, hk⟩ := lookG_sound hu hd (keyEnc_int kd) (.inl ⟨kd, rfl⟩) h hp
          exact ⟨x, .v x, fun w' hs => by simp [execOp, ho, val_sound hm hr, val_sound hi hr, hx w' hs], rfl, hk⟩
        · cases h
      · rename_i n hd
        obtain ⟨x, hx, hk⟩ := lookG_sound hu hd keyEnc_str (.inr rfl) h hp
        exact ⟨x, .v x, fun w' hs => by simp [execOp, ho, val_sound hm hr, val_sound hi hr, hx w' hs], rfl, hk⟩
      · cases h
    · cases h
  · rename_i src dst x ho
    split at h
    · rename_i e p n c hs hd hx
      split at h
      · rename_i he
        injection h with h; subst h
        obtain ⟨bs, rfl, hc, hk⟩ := hp
        obtain ⟨hmod, hk⟩ := noModN_sound hk
        refine ⟨_, .v _, fun w' hsee => ?_, rfl, hk⟩
        have := run_bytes (P := P) hs he hd bs p w' (fun i hi => by
          obtain ⟨ad, hpa, hcell⟩ := hc i hi
          refine ⟨ad, hpa, hsee.cell hcell ?_⟩
          have := hmod (by omega) ad.block (by rw [hpa]; rfl)
          unfold Addr.add; split <;> exact this) c
        simp [execOp, ho, val_sound hx hr, this]
      · cases h
    · cases h
  · rename_i c ho
    split at h
    · rename_i x t e1 e2 e3
      split at h
      · rename_i k e mm hu hx
        obtain ⟨cal, args, ts⟩ := c
        simp only at e1 e2 e3
        subst e1
        obtain rfl : args = #[x] := Array.ext' e2
        obtain rfl : ts = #[t] := Array.ext' e3
        split at h
        · rename_i kd hd
          injection h with h; subst h
          obtain ⟨l, hm, hk⟩ := hp
          obtain ⟨hmod, hk⟩ := noModM_sound hk
          exact ⟨_, .v _, fun w' hs => by simp [execOp, ho, resolve, invoke, builtin, val_sound hx hr, mapO_len (P := P) hu hm hmod w' hs], rfl, hk⟩
        · rename_i hd
          injection h with h; subst h
          obtain ⟨l, hm, hk⟩ := hp
          obtain ⟨hmod, hk⟩ := noModM_sound hk
          exact ⟨_, .v _, fun w' hs => by simp [execOp, ho, resolve, invoke, builtin, val_sound hx hr, mapO_len (P := P) hu hm hmod w' hs], rfl, hk⟩
        · cases h
      · cases h
    · cases h
  · cases h

end
end Go.V

end
section
/- The operations that write memory, make memory, or call. -/
namespace Go.V
open Go.RowKit
set_option linter.unusedVariables false
set_option linter.unusedSimpArgs false

/-- These cells are read from an address on. -/
def Row (v : World) (p : Option Addr) (xs : List Value) : Prop := (∀ j u, xs[j]? = some u → ∃ ad, p = some ad ∧ v.cell? (ad.add j) = some u) ∧ ∀ u ∈ xs, u.oneCell' = true

theorem spl_one (cs : List Value) (off : Nat) (x : Value) (h : off < cs.length) : spl cs off [x] = cs.set off x := by
  unfold spl
  rw [List.set_eq_take_append_cons_drop, if_pos h]
  simp
def sets (cs : List Value) (off : Nat) (xs : List Value) : List Value :=
  match xs with
  | [x] => cs.set off x
  | xs => spl cs off xs
theorem sets_eq (cs : List Value) (off : Nat) (xs : List Value) (h : off + xs.length ≤ cs.length) : sets cs off xs = spl cs off xs := by
  unfold sets
  split
  · rw [spl_one]; simp at h; omega
  · rfl

section
variable {P : Program} {o : Oper} {s : St} {v : World} {K : St → World → Prop} {a : Act} {w : World} {Q : Exit → Act → World → Prop}

/-! ### stores -/
theorem run_storeCells_row {b off : Nat} {cs xs : List Value} {T : TypeId} {f : Nat × Nat} (hb : w.heap[b]? = some (.cells cs.toArray T f)) (hf : f.2 ≤ f.1 ∨ off + xs.length ≤ f.1) (hl : off + xs.length ≤ cs.length) (h1 : ∀ x ∈ xs, x.oneCell' = true) :
    ∃ w', (storeCells ⟨b, off, none⟩ xs).run P w = .ok () w' ∧ w'.os = w.os ∧ w'.tape = w.tape ∧ w'.output = w.output ∧ w'.heap.size = w.heap.size ∧ (∀ b', b' ≠ b → w'.heap[b']? = w.heap[b']?) ∧ w'.heap[b]? = some (.cells (spl cs off xs).toArray T f) := by
  have key : ∀ (xs : List Value) (i : Nat) (cur : Array Value) (w : World), w.heap[b]? = some (.cells cur T f) → (f.2 ≤ f.1 ∨ off + i + xs.length ≤ f.1) → off + i + xs.length ≤ cur.size → (∀ v ∈ xs, v.oneCell' = true) →
      (storeCells ⟨b, off, none⟩ xs i).run P w = .ok () (w.setRow b (cur.toList.take (off + i) ++ xs ++ cur.toList.drop (off + i + xs.length)).toArray) := by
    intro xs
    induction xs with
    | nil =>
      intro i cur w hg _ _ _
      simp only [storeCells, List.append_nil, List.length_nil, Nat.add_zero, List.take_append_drop, Array.toArray_toList]
      rw [setRow_self w b cur T f hg]
      rfl
    | cons x rest ih =>
      intro i cur w hg hfz hl h1
      have hi : off + i < cur.size := by simp at hl; omega
      have hadd : (⟨b, off, none⟩ : Addr).add i = ⟨b, off + i, none⟩ := add_mk _ _ _
      have hcell : w.cell? ⟨b, off + i, none⟩ = some cur[off + i] := by simp [World.cell?, hg, hi]
      have hfro : w.frozen? ⟨b, off + i, none⟩ = false := by
        obtain ⟨lo, hi'⟩ := f
        simp only [World.frozen?, hg, Bool.and_eq_false_iff, decide_eq_false_iff_not]
        simp only [List.length_cons] at hfz
        omega
      have hst : (store ((⟨b, off, none⟩ : Addr).add i) x).run P w = .ok () (w.setRow b (cur.setIfInBounds (off + i) x)) := by
        rw [hadd, run_store P w _ x _ (h1 x (by simp)), hcell]
        simp [hfro, setCell_eq_setRow w b (off + i) cur T f x hg]
      have ih' := ih (i + 1) (cur.setIfInBounds (off + i) x) (w.setRow b (cur.setIfInBounds (off + i) x)) (setRow_heap w b cur _ T _ hg) (by simp at hfz ⊢; omega) (by simp at hl ⊢; omega) (fun y hy => h1 y (by simp [hy]))
      simp only [storeCells, Sem.run_bind, hst, Result.andThen_ok, ih', setRow_setRow]
      congr 3
      have e := list_seg_step cur.toList (off + i) x rest (by simp at hl ⊢; omega)
      simpa [Array.toList_setIfInBounds, Nat.add_assoc] using e
  have := key xs 0 cs.toArray w hb (by simpa using hf) (by simpa using hl) h1
  refine ⟨_, this, rfl, rfl, rfl, by simp [World.setRow], fun b' hb' => ?_, ?_⟩
  · simp only [World.setRow, Array.getElem?_modify]
    rw [if_neg (by omega)]
  · rw [setRow_heap w b _ _ T f hb]
    simp [spl]

def addMod (s : St) (k b : Nat) : List (Nat × Nat) :=
  bif (s.news.any fun p => Nat.beq p.1 k) || (s.mods.any fun p => Nat.beq p.1 k) then s.mods else (k, b) :: s.mods
def St.setPB (s : St) (k : Nat) (pb : PB) (cs : List Value) : St := { s with hp := s.hp.set k (some ⟨pb.b, pb.ver + 1, cs⟩), mods := addMod s k pb.b, clean := false }

theorem Rel.setPB (hr : Rel s v a w) {k : Nat} {pb : PB} (hk : s.hp[k]? = some (some pb)) {cs : List Value} {w' : World} {T : TypeId} (h1 : w'.os = w.os) (h2 : w'.tape = w.tape) (h3 : w'.output = w.output) (h4 : w'.heap.size = w.heap.size)
    (h5 : ∀ b', b' ≠ pb.b → w'.heap[b']? = w.heap[b']?) (h6 : w'.heap[pb.b]? = some (.cells cs.toArray T (0, 0))) : Rel (s.setPB k pb cs) v a w' ∧ Ext s (s.setPB k pb cs) := by
  have hlt : k < s.hp.length := by
    rcases Nat.lt_or_ge k s.hp.length with z | z
    · exact z
    · rw [List.getElem?_eq_none z] at hk; cases hk
  have hself : (s.hp.set k (some (⟨pb.b, pb.ver + 1, cs⟩ : PB)))[k]? = some (some ⟨pb.b, pb.ver + 1, cs⟩) := List.getElem?_set_self hlt
  have hoth : ∀ k', k ≠ k' → (s.hp.set k (some (⟨pb.b, pb.ver + 1, cs⟩ : PB)))[k']? = s.hp[k']? := fun k' hne => List.getElem?_set_ne hne
  have lift : ∀ (j : Nat) p, (s.setPB k pb cs).hp[j]? = some (some p) → ∃ p', s.hp[j]? = some (some p') ∧ p'.b = p.b := fun j p hj => by
    have hj : (s.hp.set k (some (⟨pb.b, pb.ver + 1, cs⟩ : PB)))[j]? = some (some p) := hj
    by_cases e : k = j
    · subst e; rw [hself] at hj; injection hj with hj; injection hj with hj; subst hj; exact ⟨pb, hk, rfl⟩
    · rw [hoth j e] at hj; exact ⟨p, hj, rfl⟩
  refine ⟨⟨hr.defers, hr.size, fun t => ?_, fun k' pb' h => ?_, fun k1 k2 p1 p2 hne e1 e2 => ?_, ⟨h1.trans hr.step.os, h2.trans hr.step.tape, h3.trans hr.step.output, by rw [h4]; exact hr.step.size, fun b hb hm => ?_, fun b hb => by rw [h4]; exact hr.step.new b hb, hr.step.nd⟩, (fun h => by cases h), fun k' b hkb => ?_⟩, ⟨by simp [St.setPB], fun k' pb1 pb2 e1 e2 => ?_, fun k' e1 => ?_⟩⟩
  · have := hr.env t
    show AVok _ (s.get t) _
    cases e : s.get t with
    | no => trivial
    | v y => rw [e] at this; exact this
    | a ad => rw [e] at this; exact this
    | t b => rw [e] at this; exact this
    | r k' off =>
      rw [e] at this
      obtain ⟨q, q1, q2⟩ := this
      by_cases hkk : k = k'
      · subst hkk
        rw [hk] at q1; injection q1 with q1; injection q1 with q1; subst q1
        exact ⟨_, hself, q2⟩
      · exact ⟨q, (hoth k' hkk).trans q1, q2⟩
    | q k' off =>
      rw [e] at this
      obtain ⟨q, q1, q2⟩ := this
      by_cases hkk : k = k'
      · subst hkk
        rw [hk] at q1; injection q1 with q1; injection q1 with q1; subst q1
        exact ⟨_, hself, q2⟩
      · exact ⟨q, (hoth k' hkk).trans q1, q2⟩
  · have h : (s.hp.set k (some (⟨pb.b, pb.ver + 1, cs⟩ : PB)))[k']? = some (some pb') := h
    by_cases e : k = k'
    · subst e; rw [hself] at h; injection h with h; injection h with h; subst h; exact ⟨T, h6⟩
    · rw [hoth k' e] at h
      obtain ⟨T', hT⟩ := hr.priv k' pb' h
      exact ⟨T', by rw [h5 _ (hr.inj k' k pb' pb (fun e' => e e'.symm) h hk)]; exact hT⟩
  · obtain ⟨q1, g1, g2⟩ := lift k1 p1 e1
    obtain ⟨q2, g3, g4⟩ := lift k2 p2 e2
    rw [← g2, ← g4]
    exact hr.inj k1 k2 q1 q2 hne g1 g3
  · have hm' : b ∉ (addMod s k pb.b).map (·.2) := hm
    have hne : b ≠ pb.b := fun e => by
      subst e
      unfold addMod at hm'
      cases hc : ((s.news.any fun p => Nat.beq p.1 k) || (s.mods.any fun p => Nat.beq p.1 k)) with
      | false => rw [hc] at hm'; simp at hm'
      | true =>
        rw [hc] at hm'
        simp only [Bool.or_eq_true, List.any_eq_true] at hc
        rcases hc with ⟨⟨k', b'⟩, hx, hy⟩ | ⟨⟨k', b'⟩, hx, hy⟩
        · obtain rfl : k' = k := Nat.eq_of_beq_eq_true hy
          have e := (hr.lnk k' b' (.inl hx)).2 pb hk
          have := (hr.step.new b' (List.mem_map.2 ⟨_, hx, rfl⟩)).1
          omega
        · obtain rfl : k' = k := Nat.eq_of_beq_eq_true hy
          have e := (hr.lnk k' b' (.inr hx)).2 pb hk
          exact hm' (List.mem_map.2 ⟨_, hx, e.symm⟩)
    rw [h5 b hne]
    refine hr.step.blk b hb fun hmm => hm' ?_
    unfold addMod
    cases ((s.news.any fun p => Nat.beq p.1 k) || (s.mods.any fun p => Nat.beq p.1 k)) with
    | true => exact hmm
    | false => simp only [cond_false, List.map_cons, List.mem_cons]; exact .inr hmm
  · have hkb' : (k', b) = (k, pb.b) ∨ (k', b) ∈ s.news ∨ (k', b) ∈ s.mods := by
      rcases hkb with hkb | hkb
      · exact .inr (.inl hkb)
      · have hkb : (k', b) ∈ addMod s k pb.b := hkb
        unfold addMod at hkb
        cases hc : ((s.news.any fun p => Nat.beq p.1 k) || (s.mods.any fun p => Nat.beq p.1 k)) with
        | true => rw [hc] at hkb; exact .inr (.inr hkb)
        | false => rw [hc] at hkb; rcases List.mem_cons.1 hkb with e | e
                   · exact .inl e
                   · exact .inr (.inr e)
    rcases hkb' with e | e
    · injection e with e1 e2; subst e1; subst e2
      refine ⟨by simp [St.setPB]; exact hlt, fun p hp => ?_⟩
      obtain ⟨q, g1, g2⟩ := lift k' p hp
      rw [hk] at g1; injection g1 with g1; injection g1 with g1; subst g1; exact g2.symm
    · obtain ⟨g1, g2⟩ := hr.lnk k' b e
      refine ⟨by simp [St.setPB]; exact g1, fun p hp => ?_⟩
      obtain ⟨q, g3, g4⟩ := lift k' p hp
      rw [← g4]; exact g2 q g3
  · have e2 : (s.hp.set k (some (⟨pb.b, pb.ver + 1, cs⟩ : PB)))[k']? = some (some pb2) := e2
    by_cases e : k = k'
    · subst e
      rw [hself] at e2; injection e2 with e2; injection e2 with e2; subst e2
      rw [hk] at e1; injection e1 with e1; injection e1 with e1; subst e1
      exact ⟨rfl, by simp, fun h => by simp at h⟩
    · rw [hoth k' e, e1] at e2; injection e2 with e2; injection e2 with e2; subst e2
      exact ⟨rfl, Nat.le_refl _, fun _ => rfl⟩
  · show (s.hp.set k (some _))[k']? = some none
    by_cases e : k = k'
    · subst e; rw [hk] at e1; injection e1 with e1; cases e1
    · rw [List.getElem?_set_ne e]; exact e1

/-- The cells of a value of a type. -/
def cellsT (P : Program) (t : TypeId) (x : Value) : Option (List Value) :=
  match aggOf P t with
  | some (true, n) => match x with
    | .agg cs => match Nat.beq cs.toList.length n, cs.toList.all (·.oneCell') with
      | true, true => some cs.toList
      | _, _ => none
    | _ => none
  | some (false, n) => match Nat.beq n 1, x.oneCell' with
    | true, true => some [x]
    | _, _ => none
  | none => none
theorem cellsT_sound {t : TypeId} {x : Value} {cs : List Value} (h : cellsT P t x = some cs) : x.cells.toList = cs ∧ (∀ w, (sizeOf t).run P w = .ok cs.length w) ∧ ∀ y ∈ cs, y.oneCell' = true := by
  unfold cellsT at h
  split at h
  · rename_i n ha
    split at h
    · rename_i c
      split at h
      · rename_i e1 e2
        injection h with h; subst h
        have := Nat.eq_of_beq_eq_true e1
        exact ⟨rfl, fun w => by rw [this]; exact (aggOf_isAgg ha w).2, List.all_eq_true.1 e2⟩
      · cases h
    · cases h
  · rename_i n ha
    split at h
    · rename_i e1 e2
      injection h with h; subst h
      have := Nat.eq_of_beq_eq_true e1
      refine ⟨?_, fun w => by have h := (aggOf_isAgg ha w).2; rw [this] at h; exact h, by simpa using e2⟩
      cases x <;> first | rfl | (simp [Value.oneCell'] at e2)
    · cases h
  · cases h

def pubStore (s : St) (v : World) (ad : Addr) (xs : List Value) (K : St → World → Prop) : Prop :=
  sync s v fun s v => ∃ cs, Blk v ad.block cs ∧ ad.spot = none ∧ ad.off + xs.length ≤ cs.length ∧ noPriv s ad.block (∀ w, Upd v w ad.block (sets cs ad.off xs) → K s w)

theorem Rel.mark {b : Nat} {cs : List Value} {w' : World} (hr : Rel s w a w) (hm : s.mods = []) (hn : s.news = []) (h : Mark w w' b cs) (hp : b ∉ s.privs) : Rel s w' a w' := by
  refine ⟨hr.defers, hr.size, hr.env, fun k pb hk => ?_, hr.inj, by rw [hn]; exact Step.refl _ _, fun _ => rfl, fun k b hkb => by rw [hm, hn] at hkb; rcases hkb with e | e <;> cases e⟩
  obtain ⟨T, hT⟩ := hr.priv k pb hk
  refine ⟨T, ?_⟩
  rw [h.oth _ (fun e => hp ?_)]
  · exact hT
  · unfold St.privs
    rw [List.mem_filterMap]
    exact ⟨some pb, List.mem_of_getElem? hk, by simp [e]⟩
theorem Rel.upd {b : Nat} {cs : List Value} {w' : World} (hr : Rel s w a w) (hm : s.mods = []) (hn : s.news = []) (h : Upd w w' b cs) (hp : b ∉ s.privs) : Rel s w' a w' := hr.mark hm hn h.mark hp

theorem pubStore_sound {ad : Addr} {xs : List Value} (h : pubStore s v ad xs K) (hr : Rel s v a w) (h1 : ∀ x ∈ xs, x.oneCell' = true) :
    ∃ w' s', (storeCells ad xs).run P w = .ok () w' ∧ Rel s' w' a w' ∧ Ext s s' ∧ K s' w' := by
  obtain ⟨r1, e1, cs, hb, hsp, hl, hk⟩ := sync_sound h hr
  obtain ⟨hpr, hk2⟩ := noPriv_sound hk
  clear hk
  obtain ⟨T, lo, hi, hb, hf⟩ := hb
  obtain ⟨ab, ao, asp⟩ := ad
  simp only at hsp hb hl hk2 hpr
  subst hsp
  obtain ⟨w', hrun, g1, g2, g3, g4, g5, g6⟩ := run_storeCells_row (P := P) (off := ao) (xs := xs) hb (by simp only; omega) hl h1
  have hu : Upd w w' ab (sets cs ao xs) := ⟨g1, g2, g3, g4, g5, ⟨T, lo, hi, by rw [sets_eq _ _ _ hl]; exact g6, by
    rw [sets_eq _ _ _ hl]
    have : (spl cs ao xs).length = cs.length := by unfold spl; simp; omega
    omega⟩, Plain.kept hb g6⟩
  exact ⟨w', _, hrun, r1.upd rfl rfl hu hpr, e1, hk2 w' hu⟩

/-- A row of more than eight. -/
def bigN (P : Program) (t : TypeId) : Option Nat := match P.underlying t with
  | some (.array n _) => match Nat.ble n 8 with
    | true => none
    | false => match aggOf P t with
      | some (true, m) => some m
      | _ => none
  | _ => none
theorem bigN_agg {t : TypeId} {n : Nat} (h : bigN P t = some n) : aggOf P t = some (true, n) := by
  unfold bigN at h
  split at h
  · split at h
    · cases h
    · split at h
      · rename_i m hm; injection h with h; subst h; exact hm
      · cases h
  · cases h
def pubStoreT (P : Program) (s : St) (v : World) (t : TypeId) (ad : Addr) (yv : Value) (K : St → World → Prop) : Prop :=
  match bigN P t with
  | some n => ∃ l : List Value, yv = .agg l.toArray ∧ l.length = n ∧ (∀ y ∈ l, y.oneCell' = true) ∧ pubStore s v ad l K
  | none => match cellsT P t yv with
    | some cs => pubStore s v ad cs K
    | none => ∃ cs, cellsT P t yv = some cs ∧ pubStore s v ad cs K

def storeR (P : Program) (s : St) (v : World) (t : TypeId) (x y : Operand) (K : St → World → Prop) : Prop :=
  useV s v y fun s v yv => match s.ev x with
    | .r k off => match s.hp.getD k none, cellsT P t yv with
      | some pb, some cs => match Nat.ble (off + cs.length) pb.cs.length with
        | true => K (s.setPB k pb (sets pb.cs off cs)) v
        | false => False
      | _, _ => False
    | .a ad => pubStoreT P s v t ad yv K
    | .v z => ∃ ad, z = .pointer (some ad) ∧ pubStoreT P s v t ad yv K
    | _ => False

theorem R_store {t : TypeId} {x y : Operand} (ho : o.op = .store t x y) (h : storeR P s v t x y (fun s v => K (s.put o.dst .no) v)) (hr : Rel s v a w) : o.wp P a w (P1 Tt s a o.dst K) Q := by
  obtain ⟨s1, v1, r1, e1, h1⟩ := useV_sound h hr
  have hx := r1.ev x
  have pubcase : ∀ ad cs, a.eval x = .pointer (some ad) → cellsT P t (a.eval y) = some cs → pubStore s1 v1 ad cs (fun s v => K (s.put o.dst .no) v) → o.wp P a w (P1 Tt s a o.dst K) Q := fun ad cs hx hc hp => by
    obtain ⟨c1, c2, c3⟩ := cellsT_sound hc
    obtain ⟨w', s', g1, g2, g3, g4⟩ := pubStore_sound (P := P) hp r1 c3
    refine wp_skipped (w' := w') ?_ (P1.mk trivial g2 (e1.trans g3) (x := .no) trivial g4)
    have hl : (a.eval y).cells.size = cs.length := by rw [← c1]; simp
    simp only [execOp, ho, Instr.storeAt, Instr.sureAddr, hx, storeVar, Sem.run_bind, Sem.run_pure, Result.andThen_ok, c2, hl, c1]
    simp [g1]
  have both : ∀ ad, a.eval x = .pointer (some ad) → pubStoreT P s1 v1 t ad (a.eval y) (fun s v => K (s.put o.dst .no) v) → o.wp P a w (P1 Tt s a o.dst K) Q := fun ad hx hp => by
    unfold pubStoreT at hp
    split at hp
    · rename_i n hn
      obtain ⟨l, hy, hl, ho1, hp⟩ := hp
      refine pubcase ad l hx ?_ hp
      unfold cellsT
      rw [bigN_agg hn, hy]
      simp only
      have e1 : Nat.beq l.toArray.toList.length n = true := by rw [show l.toArray.toList.length = n from hl]; exact Nat.beq_refl n
      have e2 : l.toArray.toList.all (·.oneCell') = true := List.all_eq_true.2 ho1
      rw [e1, e2]
    · split at hp
      · rename_i cs hc; exact pubcase ad cs hx hc hp
      · obtain ⟨cs, hc, hp⟩ := hp; exact pubcase ad cs hx hc hp
  cases e : s1.ev x with
  | no => simp only [e] at h1
  | q k n => simp only [e] at h1
  | t b => simp only [e] at h1
  | a ad =>
    simp only [e] at h1; rw [e] at hx
    exact both ad hx h1
  | v z =>
    simp only [e] at h1; rw [e] at hx
    obtain ⟨ad, rfl, h1⟩ := h1
    exact both ad hx h1
  | r k off =>
    simp only [e] at h1; rw [e] at hx
    obtain ⟨pb, hk, hv⟩ := hx
    have hg : s1.hp.getD k none = some pb := by rw [List.getD_eq_getElem?_getD, hk]; rfl
    rw [hg] at h1
    split at h1
    · rename_i pb' cs e2 hc
      injection e2 with e2; subst e2
      split at h1
      · rename_i hb
        have hle : off + cs.length ≤ pb.cs.length := Nat.le_of_ble_eq_true hb
        obtain ⟨c1, c2, c3⟩ := cellsT_sound hc
        obtain ⟨T, hT⟩ := r1.priv k pb hk
        obtain ⟨w', hrun, g1, g2, g3, g4, g5, g6⟩ := run_storeCells_row (P := P) (off := off) (xs := cs) hT (.inl (Nat.le_refl _)) hle c3
        rw [← sets_eq _ _ _ hle] at g6
        obtain ⟨r2, x2⟩ := r1.setPB hk g1 g2 g3 g4 g5 g6
        refine wp_skipped (w' := w') ?_ (P1.mk trivial r2 (e1.trans x2) (x := .no) trivial h1)
        have hl : (a.eval y).cells.size = cs.length := by rw [← c1]; simp
        simp only [execOp, ho, Instr.storeAt, Instr.sureAddr, hv, storeVar, Sem.run_bind, Sem.run_pure, Result.andThen_ok, c2, hl, c1]
        simp [hrun]
      · exact h1.elim
    · exact h1.elim

end
end Go.V

end
section
/- The operations that make memory, write maps, or append. -/
namespace Go.V
open Go.RowKit
set_option linter.unusedVariables false
set_option linter.unusedSimpArgs false

section
variable {P : Program} {o : Oper} {s : St} {v : World} {K : St → World → Prop} {a : Act} {w : World} {Q : Exit → Act → World → Prop}

/-- A new block that all know. -/
def newPub (s : St) (v : World) (I : World → Nat → Prop) (K : St → World → Nat → Prop) : Prop :=
  ∀ w b, Step v w (s.mods.map (·.2)) (b :: s.news.map (·.2)) → I w b → K s.synced w b

theorem newPub_sound {I : World → Nat → Prop} {K : St → World → Nat → Prop} (h : newPub s v I K) (hr : Rel s v a w) (w' : World) (h1 : w'.os = w.os) (h2 : w'.tape = w.tape) (h3 : w'.output = w.output) (h4 : w'.heap.size = w.heap.size + 1)
    (h5 : ∀ b, b < w.heap.size → w'.heap[b]? = w.heap[b]?) (hi : I w' w.heap.size) : Rel s.synced w' a w' ∧ K s.synced w' w.heap.size := by
  have hs := hr.step.size
  refine ⟨⟨hr.defers, hr.size, hr.synced.env, fun k pb hk => ?_, hr.inj, Step.refl _ _, fun _ => rfl, fun k b hk => by rcases hk with hk | hk <;> cases hk⟩, h w' w.heap.size ⟨h1.trans hr.step.os, h2.trans hr.step.tape, h3.trans hr.step.output, by omega, fun b hb hm => ?_, fun b hb => ?_, ?_⟩ hi⟩
  · obtain ⟨T, hT⟩ := hr.priv k pb hk
    exact ⟨T, by rw [h5 _ (Array.getElem?_eq_some_iff.1 hT).1]; exact hT⟩
  · rw [h5 b (by omega)]; exact hr.step.blk b hb hm
  · rcases List.mem_cons.1 hb with rfl | hb
    · omega
    · have := hr.step.new b hb; omega
  · exact List.nodup_cons.2 ⟨fun hm => Nat.lt_irrefl _ (hr.step.new _ hm).2, hr.step.nd⟩

theorem alloc_facts (w : World) (o : Obj) : (w.alloc o).os = w.os ∧ (w.alloc o).tape = w.tape ∧ (w.alloc o).output = w.output ∧ (w.alloc o).heap.size = w.heap.size + 1 ∧ (∀ b, b < w.heap.size → (w.alloc o).heap[b]? = w.heap[b]?) ∧ (w.alloc o).heap[w.heap.size]? = some o := by
  refine ⟨rfl, rfl, rfl, by simp, fun b hb => Below.heap_alloc _ _ _ hb, ?_⟩
  show (w.heap.push o)[w.heap.size]? = _
  simp

/-! maps -/
def makeMapR (s : St) (v : World) (dst : Option Nat) (K : St → World → Prop) : Prop :=
  newPub s v (fun w b => w.heap[b]? = some (.map #[] 0)) fun s w b => K (s.put dst (.v (.map (some b)))) w
theorem R_makeMap {t : TypeId} (ho : o.op = .makeMap t none) (h : makeMapR s v o.dst K) (hr : Rel s v a w) : o.wp P a w (P1 (Ext0 w) s a o.dst K) Q := by
  obtain ⟨g1, g2, g3, g4, g5, g6⟩ := alloc_facts w (.map #[] 0)
  obtain ⟨r1, h1⟩ := newPub_sound h hr _ g1 g2 g3 g4 g5 g6
  refine wp_value (x := .map (some w.heap.size)) (w' := w.alloc (.map #[] 0)) ?_ (P1.mk ⟨by omega, g5⟩ r1 (Ext.of_hp rfl) (x := .v _) rfl h1)
  simp [execOp, ho, Instr.makeMap]

/-- From v to w just map m has turned: it holds these. -/
structure MUpd {κ : Type} [DecidableEq κ] (enc : κ → Value) (v w : World) (m : Nat) (l : List (κ × Value)) : Prop where
  os : w.os = v.os
  tape : w.tape = v.tape
  output : w.output = v.output
  size : w.heap.size = v.heap.size
  oth : ∀ b', b' ≠ m → w.heap[b']? = v.heap[b']?
  map : MapG enc w m l
  bo : ∀ es clock, v.heap[m]? = some (.map es clock) → es.size = l.length → ∃ es', w.heap[m]? = some (.map es' clock) ∧ es'.toList.map (·.born) = es.toList.map (·.born)

def mapUpdG (s : St) (v : World) {κ : Type} [DecidableEq κ] (enc : κ → Value) (m : Option Nat) (f : List (κ × Value) → List (κ × Value)) (K : St → World → Prop) : Prop :=
  sync s v fun s v => ∃ b l, m = some b ∧ MapG enc v b l ∧ ∀ w, MUpd enc v w b (f l) → K s w

theorem Rel.mupd {κ : Type} [DecidableEq κ] {enc : κ → Value} {m : Nat} {l l' : List (κ × Value)} {w' : World} (hr : Rel s w a w) (hm : s.mods = []) (hn : s.news = []) (h0 : MapG enc w m l) (h : MUpd enc w w' m l') : Rel s w' a w' := by
  obtain ⟨es, clock, hb, _⟩ := h0
  refine ⟨hr.defers, hr.size, hr.env, fun k pb hk => ?_, hr.inj, by rw [hn]; exact Step.refl _ _, fun _ => rfl, fun k b hkb => by rw [hm, hn] at hkb; rcases hkb with e | e <;> cases e⟩
  obtain ⟨T, hT⟩ := hr.priv k pb hk
  refine ⟨T, ?_⟩
  rw [h.oth _ (fun e => by rw [e, hb] at hT; injection hT with hT; cases hT)]
  exact hT

theorem setObj_facts {m : Nat} {es : Array MapEntry} {clock : Nat} (hb : w.heap[m]? = some (.map es clock)) (o' : Obj) :
    ∃ w', (setObj m o').run P w = .ok () w' ∧ w'.os = w.os ∧ w'.tape = w.tape ∧ w'.output = w.output ∧ w'.heap.size = w.heap.size ∧ (∀ b', b' ≠ m → w'.heap[b']? = w.heap[b']?) ∧ w'.heap[m]? = some o' := by
  refine ⟨{ w with heap := w.heap.setIfInBounds m o' }, by simp [setObj, Sem.run, hb], rfl, rfl, rfl, by simp, fun b' hb' => ?_, ?_⟩
  · show (w.heap.setIfInBounds m o')[b']? = _
    rw [Array.getElem?_setIfInBounds_ne (fun e => hb' e.symm)]
  · show (w.heap.setIfInBounds m o')[m]? = _
    have := (Array.getElem?_eq_some_iff.1 hb).1
    simp [this]

section
variable {κ : Type} [DecidableEq κ] {enc : κ → Value}
theorem lookI_none : ∀ (l : List (κ × Value)) (a : κ) (y : Value) (i : Nat), lookI l a i = none → updM l a y = l ++ [(a, y)] ∧ delM l a = l ∧ a ∉ l.map (·.1)
  | [], _, _, _, _ => ⟨rfl, rfl, by simp⟩
  | (k, x) :: l, a, y, i, h => by
    simp only [lookI] at h
    split at h
    · cases h
    · rename_i hk
      obtain ⟨h1, h2, h3⟩ := lookI_none l a y (i + 1) h
      exact ⟨by simp [updM, hk, h1], by simp [delM, hk, h2], by simp [hk]; simpa using h3⟩
theorem lookI_some : ∀ (l : List (κ × Value)) (a : κ) (y : Value) (i j : Nat) (x : Value), lookI l a i = some (j, x) → ∃ n, j = i + n ∧ n < l.length ∧ updM l a y = l.set n (a, y) ∧ delM l a = l.eraseIdx n ∧ l[n]? = some (a, x)
  | [], _, _, _, _, _, h => by simp [lookI] at h
  | (k, z) :: l, a, y, i, j, x, h => by
    simp only [lookI] at h
    split at h
    · rename_i hk
      simp only [Option.some.injEq, Prod.mk.injEq] at h
      obtain ⟨rfl, rfl⟩ := h
      exact ⟨0, by simp, by simp, by simp [updM, hk], by simp [delM, hk], by simp [hk]⟩
    · rename_i hk
      obtain ⟨n, rfl, h2, h3, h4, h5⟩ := lookI_some l a y (i + 1) j x h
      exact ⟨n + 1, by omega, by simp; exact h2, by simp [updM, hk, h3], by simp [delM, hk, h4], by simpa using h5⟩

theorem nodup_updM {l : List (κ × Value)} (h : (l.map (·.1)).Nodup) (a : κ) (y : Value) : ((updM l a y).map (·.1)).Nodup := by
  cases hl : lookI l a 0 with
  | none =>
    obtain ⟨h1, _, h3⟩ := lookI_none l a y 0 hl
    rw [h1]
    simp only [List.map_append, List.map_cons, List.map_nil]
    rw [List.nodup_append]
    exact ⟨h, by simp, fun b hb c hc => by simp at hc; subst hc; intro e; subst e; exact h3 hb⟩
  | some jx =>
    obtain ⟨j, x⟩ := jx
    obtain ⟨n, _, h2, h3, _, h5⟩ := lookI_some l a y 0 j x hl
    rw [h3, List.map_set]
    have : (l.map (·.1)).set n a = l.map (·.1) := by
      apply List.ext_getElem?
      intro i
      by_cases e : n = i
      · subst e; rw [List.getElem?_set_self (by simpa using h2), List.getElem?_map, h5]; rfl
      · rw [List.getElem?_set_ne e]
    rw [this]; exact h
theorem nodup_delM {l : List (κ × Value)} (h : (l.map (·.1)).Nodup) (a : κ) : ((delM l a).map (·.1)).Nodup := by
  have : (delM l a).Sublist l := by
    induction l with
    | nil => exact .slnil
    | cons p l ih =>
      obtain ⟨k, x⟩ := p
      simp only [delM]
      split
      · exact List.sublist_cons_self _ _
      · exact (ih (List.nodup_cons.1 h).2).cons_cons _
  exact (this.map _).nodup h

variable {t tk e : TypeId} {d : TypeDesc}
theorem run_mapUpdate (hu : P.underlying t = some (.map tk e)) (hd : P.underlying tk = some d) (he : KeyEnc d enc) (hdk : (∃ k, d = .int k) ∨ d = .string) {m : Nat} {l : List (κ × Value)} (hm : MapG enc w m l) (k : κ) (x : Value) :
    ∃ w', (Instr.mapUpdate t (.map (some m)) (enc k) x).run P w = .ok () w' ∧ MUpd enc w w' m (updM l k x) := by
  obtain ⟨es, clock, hb, hl, hborn, hnd, hkeys⟩ := hm
  have e0 := checkKey_plain (P := P) hd hdk false (enc k) 9999 w
  have e1 := run_findKey (P := P) hd he hl k w
  have hg : (getObj m).run P w = .ok (.map es clock) w := by simp [getObj, Sem.run, hb]
  cases h3 : lookI l k 0 with
  | none =>
    rw [h3] at e1
    obtain ⟨u1, _, u3⟩ := lookI_none l k x 0 h3
    obtain ⟨w', hrun, g1, g2, g3, g4, g5, g6⟩ := setObj_facts (P := P) hb (.map (es.push { key := enc k, val := x, born := clock }) (clock + 1))
    refine ⟨w', by simp [Instr.mapUpdate, run_underlying hu, hg, e0, e1, hrun], ⟨g1, g2, g3, g4, g5, ⟨_, _, g6, ?_, ?_, ?_, nodup_updM hkeys k x⟩, fun es2 c2 hb2 hz => by
      rw [hb] at hb2; injection hb2 with hb2; injection hb2 with hb2; subst hb2
      have : es.toList.length = l.length := by simpa using congrArg List.length hl
      rw [u1, List.length_append, List.length_singleton] at hz
      simp at this; omega⟩⟩
    · rw [u1]; simp [hl]
    · intro en hen
      simp only [Array.toList_push, List.mem_append, List.mem_singleton] at hen
      rcases hen with hen | rfl
      · have := hborn en hen; omega
      · simp
    · simp only [Array.toList_push, List.map_append, List.map_cons, List.map_nil]
      rw [List.nodup_append]
      refine ⟨hnd, by simp, fun b hb' c hc => ?_⟩
      simp at hc; subst hc
      obtain ⟨en, hen, rfl⟩ := List.mem_map.1 hb'
      have := hborn en hen
      omega
  | some jx =>
    obtain ⟨j, y⟩ := jx
    rw [h3] at e1
    obtain ⟨n, hj, hn, u1, _, u3⟩ := lookI_some l k x 0 j y h3
    obtain rfl : j = n := by omega
    have hlen : es.toList.length = l.length := by simpa using congrArg List.length hl
    have hjl : j < es.size := by simpa using (by omega : j < es.toList.length)
    have hkey : es[j].key = enc k := by
      have := congrArg (fun q => q[j]?) hl
      simp only [List.getElem?_map, u3] at this
      rw [List.getElem?_eq_getElem (by omega)] at this
      simp at this
      exact this.1
    obtain ⟨w', hrun, g1, g2, g3, g4, g5, g6⟩ := setObj_facts (P := P) hb (.map (es.modify j fun e => { e with key := enc k, val := x }) clock)
    have hstay : (Instr.keyThatStays (enc k) (enc k)).run P w = .ok (enc k) w := by
      have := he.2 k k
      simp [Instr.keyThatStays, this]
    refine ⟨w', by simp [Instr.mapUpdate, run_underlying hu, hg, e0, e1, hjl, hkey, hstay, hrun], ⟨g1, g2, g3, g4, g5, ⟨_, _, g6, ?_, ?_, ?_, nodup_updM hkeys k x⟩, fun es2 c2 hb2 hz => by
      rw [hb] at hb2; injection hb2 with hb2; injection hb2 with hb2 hb3; subst hb2; subst hb3
      refine ⟨_, g6, ?_⟩
      apply List.ext_getElem?
      intro i
      simp only [List.getElem?_map, Array.getElem?_toList, Array.getElem?_modify]
      split
      · cases es[i]? <;> rfl
      · rfl⟩⟩
    · rw [u1, List.map_set, ← hl]
      apply List.ext_getElem?
      intro i
      by_cases e : j = i
      · subst e; simp [Array.getElem?_modify, hjl]
      · rw [List.getElem?_set_ne e]; simp [Array.getElem?_modify, e]
    · intro en hen
      obtain ⟨i, hi, rfl⟩ := List.mem_iff_getElem.1 hen
      simp only [Array.getElem_toList, Array.getElem_modify]
      have hi' : i < es.size := by simpa using hi
      have := hborn (es[i]'hi') (by simp)
      split <;> exact this
    · have : (es.modify j fun e => { e with key := enc k, val := x }).toList.map (·.born) = es.toList.map (·.born) := by
        apply List.ext_getElem?
        intro i
        simp only [List.getElem?_map, Array.getElem?_toList, Array.getElem?_modify]
        split
        · cases es[i]? <;> rfl
        · rfl
      rw [this]; exact hnd

theorem run_mapDelete {ty t2 : TypeId} (hu : P.underlying t = some (.map tk e)) (hd : P.underlying tk = some d) (he : KeyEnc d enc) (hdk : (∃ k, d = .int k) ∨ d = .string) {m : Nat} {l : List (κ × Value)} (hm : MapG enc w m l) (k : κ) :
    ∃ w', (Builtin.delete_ #[t, t2] ty #[.map (some m), enc k]).run P w = .ok (.tuple #[]) w' ∧ MUpd enc w w' m (delM l k) := by
  obtain ⟨es, clock, hb, hl, hborn, hnd, hkeys⟩ := hm
  have e0 := checkKey_plain (P := P) hd hdk es.isEmpty (enc k) 9999 w
  have e1 := run_findKey (P := P) hd he hl k w
  have hg : (getObj m).run P w = .ok (.map es clock) w := by simp [getObj, Sem.run, hb]
  cases h3 : lookI l k 0 with
  | none =>
    rw [h3] at e1
    obtain ⟨_, u2, u3⟩ := lookI_none l k (.bool true) 0 h3
    obtain ⟨w', hrun, g1, g2, g3, g4, g5, g6⟩ := setObj_facts (P := P) hb (.map es clock)
    refine ⟨w', by simp [Builtin.delete_, run_underlying hu, hg, e0, e1, hrun], ⟨g1, g2, g3, g4, g5, ⟨_, _, g6, by rw [u2]; exact hl, hborn, hnd, nodup_delM hkeys k⟩, fun es2 c2 hb2 hz => by
      rw [hb] at hb2; injection hb2 with hb2; injection hb2 with hb2 hb3; subst hb2; subst hb3
      exact ⟨_, g6, rfl⟩⟩⟩
  | some jx =>
    obtain ⟨j, y⟩ := jx
    rw [h3] at e1
    obtain ⟨n, hj, hn, _, u1, u3⟩ := lookI_some l k (.bool true) 0 j y h3
    obtain rfl : j = n := by omega
    have hlen : es.toList.length = l.length := by simpa using congrArg List.length hl
    obtain ⟨w', hrun, g1, g2, g3, g4, g5, g6⟩ := setObj_facts (P := P) hb (.map (es.eraseIdxIfInBounds j) clock)
    have he2 : (es.eraseIdxIfInBounds j).toList = es.toList.eraseIdx j := by
      have hjl : j < es.size := by simpa using (by omega : j < es.toList.length)
      simp [Array.eraseIdxIfInBounds, hjl]
    refine ⟨w', by simp [Builtin.delete_, run_underlying hu, hg, e0, e1, hrun], ⟨g1, g2, g3, g4, g5, ⟨_, _, g6, ?_, ?_, ?_, nodup_delM hkeys k⟩, fun es2 c2 hb2 hz => by
      rw [hb] at hb2; injection hb2 with hb2; injection hb2 with hb2; subst hb2
      rw [u1, List.length_eraseIdx, if_pos hn] at hz
      simp at hlen; omega⟩⟩
    · rw [u1, he2]; simp only [List.eraseIdx_eq_take_drop_succ, List.map_append, List.map_take, List.map_drop, hl]
    · intro en hen
      rw [he2] at hen
      exact hborn en ((List.eraseIdx_sublist _ _).subset hen)
    · rw [he2]
      exact ((List.eraseIdx_sublist _ _).map _).nodup hnd
theorem run_mapClear {ty : TypeId} (hu : P.underlying t = some (.map tk e)) {m : Nat} {l : List (κ × Value)} (hm : MapG enc w m l) :
    ∃ w', (Builtin.clear_ #[t] ty #[.map (some m)]).run P w = .ok (.tuple #[]) w' ∧ MUpd enc w w' m ([] : List (κ × Value)) := by
  obtain ⟨es, clock, hb, hl, hborn, hnd, hkeys⟩ := hm
  have hg : (getObj m).run P w = .ok (.map es clock) w := by simp [getObj, Sem.run, hb]
  obtain ⟨w', hrun, g1, g2, g3, g4, g5, g6⟩ := setObj_facts (P := P) hb (.map #[] clock)
  exact ⟨w', by simp [Builtin.clear_, run_underlying hu, hg, hrun], ⟨g1, g2, g3, g4, g5, ⟨_, _, g6, by simp, by simp, by simp, by simp⟩, fun es2 c2 hb2 hz => by
    rw [hb] at hb2; injection hb2 with hb2; injection hb2 with hb2 hb3; subst hb2; subst hb3
    have : es = #[] := Array.eq_empty_of_size_eq_zero hz
    subst this
    exact ⟨_, g6, rfl⟩⟩⟩
end

end
end Go.V

end
section
/- Slices that are made, grown and copied; maps that are written; calls. -/
namespace Go.V
open Go.RowKit
set_option linter.unusedVariables false
set_option linter.unusedSimpArgs false

section
variable {P : Program} {o : Oper} {s : St} {v : World} {K : St → World → Prop} {a : Act} {w : World} {Q : Exit → Act → World → Prop}

/-! ### maps -/
def mapUpdR (P : Program) (s : St) (v : World) (t : TypeId) (m k x : Operand) (K : St → World → Prop) : Prop :=
  useVs s v [m, k, x] fun s v xs => match xs with
    | [.map mm, key, val] => match P.underlying t with
      | some (.map tk _) => match P.underlying tk, key with
        | some (.int kd), .int kd' n => match decide (kd = kd') with
          | true => mapUpdG s v (Value.int kd) mm (fun l => updM l n val) K
          | false => False
        | some .string, .string n => mapUpdG s v Value.string mm (fun l => updM l n val) K
        | _, _ => False
      | _ => False
    | _ => False
theorem mapUpdG_sound {κ : Type} [DecidableEq κ] {enc : κ → Value} {mm : Option Nat} {f : List (κ × Value) → List (κ × Value)} (h : mapUpdG s v enc mm f K) (hr : Rel s v a w) :
    ∃ m l, mm = some m ∧ MapG enc w m l ∧ ∀ w', MUpd enc w w' m (f l) → ∃ s', Rel s' w' a w' ∧ Ext s s' ∧ K s' w' := by
  obtain ⟨r1, e1, m, l, hm, hg, hk⟩ := sync_sound h hr
  exact ⟨m, l, hm, hg, fun w' hu => ⟨_, r1.mupd rfl rfl hg hu, e1, hk w' hu⟩⟩
theorem R_mapUpdate {t : TypeId} {m k x : Operand} (ho : o.op = .mapUpdate t m k x) (h : mapUpdR P s v t m k x (fun s v => K (s.put o.dst .no) v)) (hr : Rel s v a w) : o.wp P a w (P1 Tt s a o.dst K) Q := by
  obtain ⟨s1, v1, r1, e1, h1⟩ := useVs_sound h hr
  simp only [List.map_cons, List.map_nil] at h1
  split at h1
  · rename_i mm key val e
    simp only [List.cons.injEq, and_true] at e
    obtain ⟨em, ek, ex⟩ := e
    split at h1
    · rename_i tk te hu
      split at h1
      · rename_i kd kd' n hd
        split at h1
        · rename_i hkd
          obtain rfl := of_decide_eq_true hkd
          obtain ⟨b, l, rfl, hg, hk⟩ := mapUpdG_sound h1 r1
          obtain ⟨w', hrun, hu'⟩ := run_mapUpdate (P := P) hu hd (keyEnc_int kd) (.inl ⟨_, rfl⟩) hg n val
          obtain ⟨s', g1, g2, g3⟩ := hk w' hu'
          exact wp_skipped (w' := w') (by simp [execOp, ho, em, ek, ex, hrun]) (P1.mk trivial g1 (e1.trans g2) (x := .no) trivial g3)
        · exact h1.elim
      · rename_i n hd
        obtain ⟨b, l, rfl, hg, hk⟩ := mapUpdG_sound h1 r1
        obtain ⟨w', hrun, hu'⟩ := run_mapUpdate (P := P) hu hd keyEnc_str (.inr rfl) hg n val
        obtain ⟨s', g1, g2, g3⟩ := hk w' hu'
        exact wp_skipped (w' := w') (by simp [execOp, ho, em, ek, ex, hrun]) (P1.mk trivial g1 (e1.trans g2) (x := .no) trivial g3)
      · exact h1.elim
    · exact h1.elim
  · exact h1.elim

def delR (P : Program) (s : St) (v : World) (t : TypeId) (m k : Operand) (K : St → World → Prop) : Prop :=
  useVs s v [m, k] fun s v xs => match xs with
    | [.map mm, key] => match P.underlying t with
      | some (.map tk _) => match P.underlying tk, key with
        | some (.int kd), .int kd' n => match decide (kd = kd') with
          | true => mapUpdG s v (Value.int kd) mm (fun l => delM l n) K
          | false => False
        | some .string, .string n => mapUpdG s v Value.string mm (fun l => delM l n) K
        | _, _ => False
      | _ => False
    | _ => False
theorem R_delete {t : TypeId} {ts : Array TypeId} {m k : Operand} (ho : o.op = .call { callee := .builtin .delete, args := #[m, k], argTypes := ts }) (ht : ∃ t2, ts = #[t, t2]) (h : delR P s v t m k (fun s v => K (s.put o.dst .no) v)) (hr : Rel s v a w) : o.wp P a w (P1 Tt s a o.dst K) Q := by
  obtain ⟨t2, rfl⟩ := ht
  obtain ⟨s1, v1, r1, e1, h1⟩ := useVs_sound h hr
  simp only [List.map_cons, List.map_nil] at h1
  split at h1
  · rename_i mm key e
    simp only [List.cons.injEq, and_true] at e
    obtain ⟨em, ek⟩ := e
    split at h1
    · rename_i tk te hu
      split at h1
      · rename_i kd kd' n hd
        split at h1
        · rename_i hkd
          obtain rfl := of_decide_eq_true hkd
          obtain ⟨b, l, rfl, hg, hk⟩ := mapUpdG_sound h1 r1
          obtain ⟨w', hrun, hu'⟩ := run_mapDelete (P := P) (t2 := t2) (ty := o.type) hu hd (keyEnc_int kd) (.inl ⟨_, rfl⟩) hg n
          obtain ⟨s', g1, g2, g3⟩ := hk w' hu'
          exact wp_value (x := .tuple #[]) (w' := w') (by simp [execOp, ho, resolve, invoke, builtin, em, ek, hrun]) (P1.mk trivial g1 (e1.trans g2) (x := .no) trivial g3)
        · exact h1.elim
      · rename_i n hd
        obtain ⟨b, l, rfl, hg, hk⟩ := mapUpdG_sound h1 r1
        obtain ⟨w', hrun, hu'⟩ := run_mapDelete (P := P) (t2 := t2) (ty := o.type) hu hd keyEnc_str (.inr rfl) hg n
        obtain ⟨s', g1, g2, g3⟩ := hk w' hu'
        exact wp_value (x := .tuple #[]) (w' := w') (by simp [execOp, ho, resolve, invoke, builtin, em, ek, hrun]) (P1.mk trivial g1 (e1.trans g2) (x := .no) trivial g3)
      · exact h1.elim
    · exact h1.elim
  · exact h1.elim

def clearR (P : Program) (s : St) (v : World) (t : TypeId) (m : Operand) (K : St → World → Prop) : Prop :=
  useVs s v [m] fun s v xs => match xs with
    | [.map mm] => match P.underlying t with
      | some (.map tk _) => match P.underlying tk with
        | some (.int kd) => mapUpdG s v (Value.int kd) mm (fun _ => []) K
        | some .string => mapUpdG s v Value.string mm (fun _ => []) K
        | _ => False
      | _ => False
    | _ => False
theorem R_clear {t : TypeId} {m : Operand} (ho : o.op = .call { callee := .builtin .clear, args := #[m], argTypes := #[t] }) (h : clearR P s v t m (fun s v => K (s.put o.dst .no) v)) (hr : Rel s v a w) : o.wp P a w (P1 Tt s a o.dst K) Q := by
  obtain ⟨s1, v1, r1, e1, h1⟩ := useVs_sound h hr
  simp only [List.map_cons, List.map_nil] at h1
  split at h1
  · rename_i mm e
    simp only [List.cons.injEq, and_true] at e
    split at h1
    · rename_i tk te hu
      split at h1
      · rename_i kd hd
        obtain ⟨b, l, rfl, hg, hk⟩ := mapUpdG_sound h1 r1
        obtain ⟨w', hrun, hu'⟩ := run_mapClear (P := P) (ty := o.type) hu hg
        obtain ⟨s', g1, g2, g3⟩ := hk w' hu'
        exact wp_value (x := .tuple #[]) (w' := w') (by simp [execOp, ho, resolve, invoke, builtin, e, hrun]) (P1.mk trivial g1 (e1.trans g2) (x := .no) trivial g3)
      · rename_i hd
        obtain ⟨b, l, rfl, hg, hk⟩ := mapUpdG_sound h1 r1
        obtain ⟨w', hrun, hu'⟩ := run_mapClear (P := P) (ty := o.type) hu hg
        obtain ⟨s', g1, g2, g3⟩ := hk w' hu'
        exact wp_value (x := .tuple #[]) (w' := w') (by simp [execOp, ho, resolve, invoke, builtin, e, hrun]) (P1.mk trivial g1 (e1.trans g2) (x := .no) trivial g3)
      · exact h1.elim
    · exact h1.elim
  · exact h1.elim

/-! ### slices -/
def reps (z : List Value) : Nat → List Value
  | 0 => []
  | n + 1 => z ++ reps z n
theorem reps_length (z : List Value) : ∀ n, (reps z n).length = n * z.length
  | 0 => by simp [reps]
  | n + 1 => by simp [reps, reps_length z n, Nat.succ_mul]; omega
theorem reps_get (z : List Value) : ∀ (n i : Nat), i < n * z.length → (reps z n)[i]? = z[i % z.length]?
  | 0, i, h => by simp at h
  | n + 1, i, h => by
    by_cases hi : i < z.length
    · rw [reps, List.getElem?_append_left hi, Nat.mod_eq_of_lt hi]
    · have hs : (n + 1) * z.length = n * z.length + z.length := Nat.succ_mul n z.length
      rw [reps, List.getElem?_append_right (by omega), reps_get z n (i - z.length) (by omega)]
      congr 1
      exact (Nat.mod_eq_sub_mod (by omega)).symm
theorem zero_reps (z : Array Value) (n : Nat) : Builtin.zeroCells z n = (reps z.toList n).toArray := by
  apply Array.ext'
  apply List.ext_getElem?
  intro i
  simp only [Builtin.zeroCells, Array.toList_map, Array.toList_range, List.getElem?_map]
  by_cases hi : i < n * z.size
  · rw [reps_get z.toList n i (by simpa using hi)]
    have hz : 0 < z.size := by
      rcases Nat.eq_zero_or_pos z.size with h | h
      · rw [h] at hi; simp at hi
      · exact h
    have hm : i % z.size < z.size := Nat.mod_lt _ hz
    simp [hi, hm]
  · have h2 : (reps z.toList n).length ≤ i := by rw [reps_length]; simpa using hi
    rw [List.getElem?_eq_none h2]
    simp [hi]

/-- A block that has just been made: its cells; none of them is frozen. -/
def Made (w : World) (b : Nat) (cs : List Value) : Prop := Blk w b cs ∧ Plain w b
def makeSliceR (P : Program) (s : St) (v : World) (dst : Option Nat) (t : TypeId) (l c : Operand) (K : St → World → Prop) : Prop :=
  match P.underlying t, s.val l, s.val c with
  | some (.slice e), some (.int _ l), some (.int _ c) => match P.info? e with
    | some i => match i.zero with
      | some z => match Nat.beq z.cells.toList.length i.size with
        | true => (0 ≤ l ∧ l ≤ c ∧ i.bytes * c ≤ 281474976710656 ∧ c ≤ 281474976710656) ∧
            newPub s v (fun w b => Made w b (reps z.cells.toList c.toNat)) fun s w b => K (s.put dst (.v (.slice (some ⟨b, 0, none⟩) l.toNat c.toNat))) w
        | false => False
      | none => False
    | none => False
  | _, _, _ => False
theorem R_makeSlice {t : TypeId} {l c : Operand} (ho : o.op = .makeSlice t l c) (h : makeSliceR P s v o.dst t l c K) (hr : Rel s v a w) : o.wp P a w (P1 (Ext0 w) s a o.dst K) Q := by
  unfold makeSliceR at h
  split at h
  · rename_i e kl ln kc cn hu hl hc
    split at h
    · rename_i i hi
      split at h
      · rename_i z hz
        split at h
        · rename_i hsz
          have hsz := Nat.eq_of_beq_eq_true hsz
          obtain ⟨⟨h0, h1, h2, h3⟩, hk⟩ := h
          have hrun := run_make (P := P) (w := w) t e i z hu hi hz kl kc ln cn h0 h1 h2 (by omega)
          have hz' : madeCells z.cells (cn.toNat * i.size) = (reps z.cells.toList cn.toNat).toArray := by
            rw [← zero_reps]
            have : z.cells.size = i.size := by simpa using hsz
            simp only [madeCells, Builtin.zeroCells, this]
          rw [hz'] at hrun
          obtain ⟨g1, g2, g3, g4, g5, g6⟩ := alloc_facts w (.cells (reps z.cells.toList cn.toNat).toArray e)
          obtain ⟨r1, k1⟩ := newPub_sound hk hr _ g1 g2 g3 g4 g5 ⟨Blk.of_cells g6, Plain.of g6 (Nat.le_refl _)⟩
          refine wp_value (x := .slice (some ⟨w.heap.size, 0, none⟩) ln.toNat cn.toNat) (w' := w.alloc (.cells (reps z.cells.toList cn.toNat).toArray e)) ?_ (P1.mk ⟨by omega, g5⟩ r1 (Ext.of_hp rfl) (x := .v _) rfl k1)
          simp [execOp, ho, val_sound hl hr, val_sound hc hr, hrun]
        · exact h.elim
      · exact h.elim
    · exact h.elim
  · exact h.elim

/-- A slice that is written out: its row is private. -/
def sliceParts (size : Nat) (cells : List Value) (ps : List (Nat × Value)) : Option (List Value) := fillL (fun i => some (i * size, size)) cells ps
def buildSliceR (P : Program) (s : St) (v : World) (dst : Option Nat) (t : TypeId) (n : Nat) (parts : List (Nat × Operand)) (K : St → World → Prop) : Prop :=
  useVs s v (parts.map (·.2)) fun s v xs => match P.underlying t with
    | some (.slice e) => match sizeOfN P e, zeroOf P e with
      | some (sz + 1), some z => match Nat.beq z.cells.toList.length (sz + 1), Nat.ble (n * (sz + 1)) 16777216, sliceParts (sz + 1) (reps z.cells.toList n) ((parts.map (·.1)).zip xs) with
        | true, true, some cs => newPriv s v dst cs (fun k => .q k n) K
        | _, _, _ => False
      | _, _ => False
    | _ => False
theorem R_buildSlice {t : TypeId} {n : Nat} {parts : Array (Nat × Operand)} (ho : o.op = .buildSlice t n parts) (h : buildSliceR P s v o.dst t n parts.toList K) (hr : Rel s v a w) : o.wp P a w (P1 (Ext0 w) s a o.dst K) Q := by
  obtain ⟨s1, v1, r1, e1, h1⟩ := useVs_sound h hr
  split at h1
  · rename_i e hu
    split at h1
    · rename_i sz z hsz hz
      split at h1
      · rename_i cs b1 b2 hcs
        have b1 := Nat.eq_of_beq_eq_true b1
        have b2 := Nat.le_of_ble_eq_true b2
        have eparts : (parts.toList.map (·.1)).zip ((parts.toList.map (·.2)).map a.eval) = parts.toList.map fun p => (p.1, a.eval p.2) := by
          rw [List.map_map, List.zip_map_left, List.zip_map_right]
          induction parts.toList with
          | nil => rfl
          | cons p l ih => simp_all
        rw [eparts] at hcs
        have hmade : (Array.range (n * (sz + 1))).map (z.cells[· % z.cells.size]!) = (reps z.cells.toList n).toArray := by
          rw [← zero_reps]
          have : z.cells.size = sz + 1 := by simpa using b1
          simp only [Builtin.zeroCells, this]
        have hf := fillL_sound (place := fun i => some (i * (sz + 1), sz + 1)) (cells := (reps z.cells.toList n).toArray) (cs := cs) (ps := parts.toList.map fun p => (p.1, a.eval p.2)) (by simpa [sliceParts] using hcs)
        refine wp_value (x := .slice (some ⟨w.heap.size, 0, none⟩) n n) (w' := w.alloc (.cells cs.toArray e)) ?_ ?_
        · have hb : ¬ (n * (sz + 1) > 2 ^ 24) := by omega
          have hp : (parts.map fun (i, x) => (i, a.eval x)).toList = parts.toList.map fun p => (p.1, a.eval p.2) := by simp
          by_cases h0 : n * (sz + 1) = 0
          · have hn : n = 0 := by
              rcases Nat.eq_zero_or_pos n with h | h
              · exact h
              · have : 0 < n * (sz + 1) := Nat.mul_pos h (Nat.succ_pos sz)
                omega
            subst hn
            have hr0 : (Array.map (fun x : Nat => (default : Value)) (Array.range 0)) = (reps z.cells.toList 0).toArray := by simp [reps]
            simp only [execOp, ho, Instr.buildSlice, Sem.run_bind, run_underlying hu, Result.andThen_ok, run_sizeN hsz, hb, if_false, h0, if_true, Sem.run_pure, Nat.succ_eq_add_one, hp]
            simp
            rw [hr0, hf]
            simp [newRow]
          · simp only [execOp, ho, Instr.buildSlice, Sem.run_bind, run_underlying hu, Result.andThen_ok, run_sizeN hsz, hb, if_false, h0, run_zero hz, Sem.run_pure, Nat.succ_eq_add_one, hmade, hp, hf]
            simp [newRow]
        · exact P1.ext e1 (newPriv_sound h1 r1 e (z := .slice (some ⟨w.heap.size, 0, none⟩) n n) (fun s' hs => show ∃ pb, _ ∧ _ from ⟨_, hs, rfl⟩))
      · exact h1.elim
    · exact h1.elim
  · exact h1.elim

end
end Go.V

end
section
/- append, copy, and bytes out of a text. -/
namespace Go.V
open Go.RowKit
set_option linter.unusedVariables false
set_option linter.unusedSimpArgs false

section
variable {P : Program} {o : Oper} {s : St} {v : World} {K : St → World → Prop} {a : Act} {w : World} {Q : Exit → Act → World → Prop}

inductive ASrc (P : Program) (i : TypeInfo) (z : Value) (tx : TypeId) (w : World) : Value → Nat → List Value → Prop
  | plain (x : Value) (n : Nat) (xs : List Value) (hk : (∃ e', P.underlying tx = some (.slice e')) ∨ P.underlying tx = some .string) (hlen : ∀ w', (Builtin.lenOf x).run P w' = .ok n w')
      (hc : ∀ w', Ext0 w w' → (Builtin.firstCells i.size n x).run P w' = .ok xs.toArray w') : ASrc P i z tx w x n xs
  | zeros (kq kn : IntKind) (n : Nat) (htn : P.underlying tx = some (.int kn)) (hn : n * i.bytes ≤ 281474976710656) (h63 : n ≤ 9223372036854775807) (hz : z.cells.toList.length = i.size) :
      ASrc P i z tx w (.int kq n) n (reps z.cells.toList n)

theorem reps_nil_of {z : List Value} {n : Nat} (h : n * z.length = 0) : reps z n = [] := by
  have := reps_length z n
  rw [h] at this
  exact List.eq_nil_of_length_eq_zero this

variable {t tx ty e : TypeId} {i : TypeInfo} {z : Value}
theorem run_append_room_any (ht : P.underlying t = some (.slice e)) (hi : P.info? e = some i) (hz : i.zero = some z) {x : Value} {n : Nat} {xs : List Value} (hs : ASrc P i z tx w x n xs) (base : Option Addr) (l c : Nat) (hroom : l + n ≤ c) :
    (Builtin.append_ #[t, tx] ty #[.slice base l c, x]).run P w = match base with
      | some ad => ((storeCells (ad.add (l * i.size)) xs).run P w).andThen fun _ w' => .ok (.slice base (l + n) c) w'
      | none => .ok (.slice base (l + n) c) w := by
  cases hs with
  | plain x n xs hk hlen hc =>
    have hcw := hc w (Ext0.refl w)
    rcases hk with ⟨e', hk⟩ | hk <;>
      (cases base <;> simp [Builtin.append_, run_underlying ht, run_underlying hk, sizeOf, typeInfo, hi, hlen, hcw, hroom])
  | zeros kq kn n htn hn h63 hsz =>
    have hw : IntKind.i64.wrap (n : Int) = n := by rw [IntKind.wrap_i64]; omega
    have hneg : ¬ ((n : Int) < 0) := by omega
    have h48i : ¬ (281474976710656 < (n : Int) * (i.bytes : Int)) := by rw [← Int.natCast_mul]; omega
    by_cases h0 : n * i.size = 0
    · have hx : reps z.cells.toList n = [] := reps_nil_of (by rw [hsz]; exact h0)
      rw [hx]
      cases base <;> simp [Builtin.append_, run_underlying ht, run_underlying htn, sizeOf, typeInfo, zeroValue, hi, hz, asInt, asIntOf, hw, hneg, h48i, hroom, h0]
    · cases base <;> simp [Builtin.append_, run_underlying ht, run_underlying htn, sizeOf, typeInfo, zeroValue, hi, hz, asInt, asIntOf, hw, hneg, h48i, hroom, h0, zero_reps]

theorem run_append_grow_any (ht : P.underlying t = some (.slice e)) (hi : P.info? e = some i) (hz : i.zero = some z) {x : Value} {n : Nat} {xs : List Value} (hs : ASrc P i z tx w x n xs) (base : Option Addr) (l c : Nat) (olds : List Value)
    (hold : (Builtin.firstCells i.size l (.slice base l c)).run P w.drew = .ok olds.toArray w.drew) (hg : c < l + n) (h63 : l + n ≤ 9223372036854775807) (hfit : Builtin.nextslicecap (l + n) c * i.bytes ≤ 281474976710656) :
    (Builtin.append_ #[t, tx] ty #[.slice base l c, x]).run P w =
      .ok (.slice (some ⟨w.heap.size, 0, none⟩) (l + n) (grownCap w (l + n) c e))
        (w.drew.alloc (.cells (olds ++ xs ++ reps z.cells.toList (grownCap w (l + n) c e - (l + n))).toArray e)) := by
  have hn : ¬ (l + n ≤ c) := by omega
  have h63' : ¬ (9223372036854775807 < ((l : Int) + (n : Int))) := by omega
  have h48' : ¬ (281474976710656 < Builtin.nextslicecap (l + n) c * i.bytes) := by omega
  have hdrew : Ext0 w w.drew := ⟨Nat.le_refl _, fun _ _ => rfl⟩
  cases hs with
  | plain x n xs hk hlen hc =>
    have hcw := hc w.drew hdrew
    rcases hk with ⟨e', hk⟩ | hk <;>
      (simp [Builtin.append_, run_underlying ht, run_underlying hk, sizeOf, typeInfo, zeroValue, hi, hz, hlen, hn, h63', h48', Question.forced, hcw, hold, newRow, grownCap, zero_reps])
  | zeros kq kn n htn hnb h63b hsz =>
    have hw : IntKind.i64.wrap (n : Int) = n := by rw [IntKind.wrap_i64]; omega
    have hneg : ¬ ((n : Int) < 0) := by omega
    have h48i : ¬ (281474976710656 < (n : Int) * (i.bytes : Int)) := by rw [← Int.natCast_mul]; omega
    by_cases h0 : n * i.size = 0
    · have hx : reps z.cells.toList n = [] := reps_nil_of (by rw [hsz]; exact h0)
      rw [hx]
      simp [Builtin.append_, run_underlying ht, run_underlying htn, sizeOf, typeInfo, zeroValue, hi, hz, asInt, asIntOf, hw, hneg, h48i, hn, h0, h63', h48', Question.forced, hold, newRow, grownCap, zero_reps]
    · simp [Builtin.append_, run_underlying ht, run_underlying htn, sizeOf, typeInfo, zeroValue, hi, hz, asInt, asIntOf, hw, hneg, h48i, hn, h0, h63', h48', Question.forced, hold, newRow, grownCap, zero_reps]

/-- On to the world as it is. -/
def syncC (cl : Bool) (mods news : List Nat) (v : World) (K : World → Prop) : Prop :=
  match cl with
  | true => K v
  | false => ∀ w, Step v w mods news → K w
theorem syncC_sound {K : World → Prop} (h : syncC s.clean (s.mods.map (·.2)) (s.news.map (·.2)) v K) (hr : Rel s v a w) : K w := by
  unfold syncC at h
  cases hc : s.clean with
  | true => rw [hc] at h; rw [hr.clean hc]; exact h
  | false => rw [hc] at h; exact h w hr.step

/-- append(base[:l:c], the n elements whose cells are xs): K of the world and the slice. -/
def appendP (cl : Bool) (mods news privs : List Nat) (v : World) (base : Option Addr) (l c n : Nat) (xs : List Value) (sz bytes : Nat) (z : List Value) (K : World → Option Addr → Nat → Nat → Prop) : Prop :=
  (l + n) * bytes ≤ 140737488355328 ∧ l + n ≤ 9223372036854775807 ∧
  (l + n ≤ c → syncC cl mods news v fun w => (xs = [] ∧ K w base (l + n) c) ∨
    ∃ ad cs, base = some ad ∧ ad.spot = none ∧ Blk w ad.block cs ∧ ad.off + l * sz + xs.length ≤ cs.length ∧ ad.block ∉ privs ∧ ∀ w', Upd w w' ad.block (sets cs (ad.off + l * sz) xs) → K w' base (l + n) c) ∧
  (c < l + n → ∃ olds : List Value, olds.length = l * sz ∧ Row v base olds ∧ (∀ b, base.map (·.block) = some b → b ∉ mods) ∧
    ∀ w b cap, Step v w mods (b :: news) → l + n ≤ cap → Blk w b (olds ++ xs ++ reps z (cap - (l + n))) → Plain w b → K w (some ⟨b, 0, none⟩) (l + n) cap)

theorem Row.firstCells {base : Option Addr} {olds : List Value} {l c sz : Nat} (h : Row v base olds) (hl : olds.length = l * sz) (hm : ∀ b, base.map (·.block) = some b → b ∉ s.mods.map (·.2)) (hs : Sees s v w) :
    (Builtin.firstCells sz l (.slice base l c)).run P w = .ok olds.toArray w := by
  cases base with
  | none =>
    have : olds = [] := by
      cases olds with
      | nil => rfl
      | cons x xs => obtain ⟨ad, e, _⟩ := h.1 0 x rfl; cases e
    subst this
    rfl
  | some ad =>
    refine run_firstCells_some (P := P) (w := w) sz l ad l c olds hl (fun j u hu => ?_)
    obtain ⟨ad', e, hc⟩ := h.1 j u hu
    injection e with e; subst e
    refine hs.cell hc ?_
    have := hm ad.block rfl
    unfold Addr.add; split <;> exact this

theorem appendP_sound {base : Option Addr} {l c n : Nat} {xs : List Value} {x : Value} {K' : World → Option Addr → Nat → Nat → Prop} (ht : P.underlying t = some (.slice e)) (hi : P.info? e = some i) (hz : i.zero = some z)
    (hsrc : ASrc P i z tx w x n xs) (hone : ∀ y ∈ xs, y.oneCell' = true) (h : appendP s.clean (s.mods.map (·.2)) (s.news.map (·.2)) s.privs v base l c n xs i.size i.bytes z.cells.toList K') (hr : Rel s v a w) :
    ∃ w' b' l' c', (Builtin.append_ #[t, tx] ty #[.slice base l c, x]).run P w = .ok (.slice b' l' c') w' ∧ Rel s.synced w' a w' ∧ K' w' b' l' c' := by
  obtain ⟨h1, h2, h3, h4⟩ := h
  by_cases hroom : l + n ≤ c
  · have hrun := run_append_room_any (P := P) (ty := ty) (w := w) ht hi hz hsrc base l c hroom
    rcases syncC_sound (h3 hroom) hr with ⟨rfl, hk⟩ | ⟨ad, cs, rfl, hsp, hb, hl, hp, hk⟩
    · refine ⟨w, base, l + n, c, ?_, hr.synced, hk⟩
      rw [hrun]
      cases base with
      | none => rfl
      | some ad => simp [storeCells]
    · obtain ⟨T, lo, hi', hb, hf⟩ := hb
      obtain ⟨ab, ao, asp⟩ := ad
      simp only at hsp hb hl hp hk
      subst hsp
      obtain ⟨w', hst, g1, g2, g3, g4, g5, g6⟩ := run_storeCells_row (P := P) (off := ao + l * i.size) (xs := xs) hb (by simp only; omega) hl hone
      have hu : Upd w w' ab (sets cs (ao + l * i.size) xs) := ⟨g1, g2, g3, g4, g5, ⟨T, lo, hi', by rw [sets_eq _ _ _ hl]; exact g6, by
        rw [sets_eq _ _ _ hl]
        have : (spl cs (ao + l * i.size) xs).length = cs.length := by unfold spl; simp; omega
        omega⟩, Plain.kept hb g6⟩
      refine ⟨w', _, _, _, ?_, hr.synced.upd rfl rfl hu hp, hk w' hu⟩
      rw [hrun]
      simp only [add_mk, hst, Result.andThen_ok]
  · have hg : c < l + n := by omega
    obtain ⟨olds, ho1, ho2, ho3, ho4⟩ := h4 hg
    have hdrew : Ext0 w w.drew := ⟨Nat.le_refl _, fun _ _ => rfl⟩
    have hold := ho2.firstCells (P := P) (c := c) ho1 ho3 (hr.sees hdrew)
    have hrun := run_append_grow_any (P := P) (ty := ty) (w := w) ht hi hz hsrc base l c olds hold hg h2 (growslice_fits hg h1)
    obtain ⟨g1, g2, g3, g4, g5, g6⟩ := alloc_facts w.drew (.cells (olds ++ xs ++ reps z.cells.toList (grownCap w (l + n) c e - (l + n))).toArray e)
    have hnp : newPub s v (fun w' b => ∃ cap, l + n ≤ cap ∧ cap = grownCap w (l + n) c e ∧ Blk w' b (olds ++ xs ++ reps z.cells.toList (cap - (l + n))) ∧ Plain w' b) (fun _ w' b => K' w' (some ⟨b, 0, none⟩) (l + n) (grownCap w (l + n) c e)) := by
      intro w' b hst hI
      obtain ⟨cap, hc1, hc2, hc3, hc4⟩ := hI
      subst hc2
      exact ho4 w' b _ hst hc1 hc3 hc4
    obtain ⟨r1, hk⟩ := newPub_sound hnp hr _ g1 g2 g3 g4 g5 ⟨_, grownCap_ge _ _ _ _, rfl, Blk.of_cells g6, .of g6 (Nat.le_refl _)⟩
    exact ⟨_, _, _, _, hrun, r1, hk⟩

end
end Go.V

end
