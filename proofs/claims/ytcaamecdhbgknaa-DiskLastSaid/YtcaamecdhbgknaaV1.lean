/- What is known of a frame and of the memory while a function's text is gone through: slots with known values, blocks that nobody else knows. -/
import Derived.WalkKit
import Derived.Orders
import Derived.KernelRfl
namespace Go.V
open Go.RowKit
set_option linter.unusedVariables false

/-- What is known of a slot: nothing; its value; an address; an address into the private block number k of the list; a slice that is the whole private block number k, n elements; a truth value that was parted on. -/
inductive AV where
  | no
  | v (x : Value)
  | a (ad : Addr)
  | r (k off : Nat)
  | q (k n : Nat)
  | t (b : Bool)

/-- A private block: its number, how often it was written, its cells. -/
structure PB where
  b : Nat
  ver : Nat
  cs : List Value

structure St where
  env : List AV
  hp : List (Option PB)
  mods : List (Nat × Nat)
  news : List (Nat × Nat)
  clean : Bool
  its : List (Nat × Nat) := []

def St.get (s : St) (t : Nat) : AV := s.env.getD t .no
/-- As it stands, a truth value that was parted on included. -/
def St.evc (s : St) : Operand → AV
  | .tmp t => s.get t
  | .const (.bool b) => .t b
  | .const x => .v x
  | .global g => .a ⟨g, 0, none⟩
  | .func f => .v (.func (.func f) #[] #[])
def AV.plain : AV → AV
  | .t b => .v (.bool b)
  | x => x
def St.ev (s : St) : Operand → AV
  | .tmp t => (s.get t).plain
  | .const x => .v x
  | .global g => .a ⟨g, 0, none⟩
  | .func f => .v (.func (.func f) #[] #[])
def St.put (s : St) (dst : Option Nat) (x : AV) : St :=
  match dst with
  | some d => { s with env := s.env.set d x }
  | none => s
def St.synced (s : St) : St := { s with mods := [], news := [], clean := true }
def St.privs (s : St) : List Nat := s.hp.filterMap fun x => x.map PB.b

/-- From world v to world w: only the blocks 'mods' have turned; 'news' have been made. -/
structure Step (v w : World) (mods news : List Nat) : Prop where
  os : w.os = v.os
  tape : w.tape = v.tape
  output : w.output = v.output
  size : v.heap.size ≤ w.heap.size
  blk : ∀ b, b < v.heap.size → b ∉ mods → w.heap[b]? = v.heap[b]?
  new : ∀ b ∈ news, v.heap.size ≤ b ∧ b < w.heap.size
  nd : news.Nodup

/-- Block b is a row of these cells, each of which may be written. -/
def Blk (w : World) (b : Nat) (cs : List Value) : Prop :=
  ∃ T lo hi, w.heap[b]? = some (.cells cs.toArray T (lo, hi)) ∧ (hi ≤ lo ∨ cs.length ≤ lo)

/-- From v to w just the cells of block b have turned. -/
structure Upd (v w : World) (b : Nat) (cs : List Value) : Prop where
  os : w.os = v.os
  tape : w.tape = v.tape
  output : w.output = v.output
  size : w.heap.size = v.heap.size
  oth : ∀ b', b' ≠ b → w.heap[b']? = v.heap[b']?
  blk : Blk w b cs

def Keep (bs : List Nat) (v w : World) : Prop := ∀ b ∈ bs, w.heap[b]? = v.heap[b]?

def AVok (s : St) : AV → Value → Prop
  | .no, _ => True
  | .v y, x => x = y
  | .a ad, x => x = .pointer (some ad)
  | .r k off, x => ∃ pb, s.hp[k]? = some (some pb) ∧ x = .pointer (some ⟨pb.b, off, none⟩)
  | .q k n, x => ∃ pb, s.hp[k]? = some (some pb) ∧ x = .slice (some ⟨pb.b, 0, none⟩) n n
  | .t b, x => x = .bool b

structure Rel (s : St) (v : World) (a : Act) (w : World) : Prop where
  defers : a.defers = []
  size : a.tmps.size = s.env.length
  env : ∀ t, AVok s (s.get t) (a.tmps.getD t undef)
  priv : ∀ (k : Nat) pb, s.hp[k]? = some (some pb) → ∃ T, w.heap[pb.b]? = some (.cells pb.cs.toArray T (0, 0))
  inj : ∀ (k k' : Nat) pb pb', k ≠ k' → s.hp[k]? = some (some pb) → s.hp[k']? = some (some pb') → pb.b ≠ pb'.b
  step : Step v w (s.mods.map (·.2)) (s.news.map (·.2))
  clean : s.clean = true → w = v
  lnk : ∀ k b, (k, b) ∈ s.news ∨ (k, b) ∈ s.mods → k < s.hp.length ∧ ∀ pb, s.hp[k]? = some (some pb) → pb.b = b

/-- Private blocks keep their numbers. -/
structure Ext (s s' : St) : Prop where
  len : s.hp.length ≤ s'.hp.length
  num : ∀ (k : Nat) pb pb', s.hp[k]? = some (some pb) → s'.hp[k]? = some (some pb') → pb'.b = pb.b ∧ pb.ver ≤ pb'.ver ∧ (pb'.ver = pb.ver → pb' = pb)
  gone : ∀ (k : Nat), s.hp[k]? = some none → s'.hp[k]? = some none

theorem Ext.refl (s : St) : Ext s s := ⟨Nat.le_refl _, fun k pb pb' h h' => by rw [h] at h'; injection h' with h'; injection h' with h'; subst h'; exact ⟨rfl, Nat.le_refl _, fun _ => rfl⟩, fun _ h => h⟩
theorem Ext.of_hp {s s' : St} (h : s'.hp = s.hp) : Ext s s' := by
  refine ⟨by rw [h]; exact Nat.le_refl _, fun k pb pb' h1 h2 => ?_, fun k h1 => by rw [h]; exact h1⟩
  rw [h, h1] at h2; injection h2 with h2; injection h2 with h2; subst h2; exact ⟨rfl, Nat.le_refl _, fun _ => rfl⟩
theorem Ext.trans {s1 s2 s3 : St} (h : Ext s1 s2) (k : Ext s2 s3) : Ext s1 s3 := by
  refine ⟨Nat.le_trans h.len k.len, fun i pb pb' h1 h2 => ?_, fun i h1 => k.gone i (h.gone i h1)⟩
  have hi : i < s1.hp.length := by
    rcases Nat.lt_or_ge i s1.hp.length with z | z
    · exact z
    · rw [List.getElem?_eq_none z] at h1; cases h1
  have hi2 : i < s2.hp.length := Nat.lt_of_lt_of_le hi h.len
  obtain ⟨x, hx⟩ : ∃ x, s2.hp[i]? = some x := ⟨_, List.getElem?_eq_getElem hi2⟩
  cases x with
  | none => rw [k.gone i hx] at h2; cases h2
  | some q =>
    obtain ⟨a1, a2, a3⟩ := k.num i q pb' hx h2
    obtain ⟨b1, b2, b3⟩ := h.num i pb q h1 hx
    refine ⟨a1.trans b1, by omega, fun e => ?_⟩
    have e1 : q.ver = pb.ver := by omega
    rw [a3 (by omega), b3 e1]

theorem Step.refl (v : World) (mods : List Nat) : Step v v mods [] := ⟨rfl, rfl, rfl, Nat.le_refl _, fun _ _ _ => rfl, (fun _ h => by cases h), List.nodup_nil⟩

theorem getD_of_lt {l : List AV} {t : Nat} (h : t < l.length) : l.getD t .no = l[t] := by simp [List.getD, h]

theorem AVok.plain {s : St} {x : AV} {z : Value} (h : AVok s x z) : AVok s x.plain z := by
  cases x <;> exact h
theorem Rel.evc {s : St} {v : World} {a : Act} {w : World} (h : Rel s v a w) (o : Operand) : AVok s (s.evc o) (a.eval o) := by
  cases o with
  | tmp t => exact h.env t
  | const x => cases x <;> rfl
  | global g => rfl
  | func f => rfl
theorem Rel.ev {s : St} {v : World} {a : Act} {w : World} (h : Rel s v a w) (o : Operand) : AVok s (s.ev o) (a.eval o) := by
  cases o with
  | tmp t => exact (h.env t).plain
  | const x => rfl
  | global g => rfl
  | func f => rfl

theorem AVok.put {s : St} {dst : Option Nat} {x y : AV} {z : Value} (h : AVok s y z) : AVok (s.put dst x) y z := by
  have e : (s.put dst x).hp = s.hp := by cases dst <;> rfl
  cases y with
  | no => trivial
  | v y => exact h
  | a ad => exact h
  | r k off => obtain ⟨pb, h1, h2⟩ := h; exact ⟨pb, by rw [e]; exact h1, h2⟩
  | q k n => obtain ⟨pb, h1, h2⟩ := h; exact ⟨pb, by rw [e]; exact h1, h2⟩
  | t b => exact h

theorem Rel.put {s : St} {v : World} {a : Act} {w : World} (h : Rel s v a w) (dst : Option Nat) {x : AV} {z : Value} (hx : AVok s x z) :
    Rel (s.put dst x) v (a.put dst z) w := by
  cases dst with
  | none => exact h
  | some d =>
    refine ⟨h.defers, ?_, fun t => ?_, h.priv, h.inj, h.step, h.clean, h.lnk⟩
    · simp [Act.put, St.put, h.size]
    · by_cases hd : d = t
      · subst hd
        by_cases hl : d < s.env.length
        · have e1 : (s.put (some d) x).get d = x := by simp [St.put, St.get, List.getD, hl]
          have e2 : (a.put (some d) z).tmps.getD d undef = z := by simp [Act.put, h.size, hl]
          rw [e1, e2]; exact hx.put
        · have e1 : (s.put (some d) x).get d = .no := by
            have : (s.env.set d x)[d]? = none := List.getElem?_eq_none (by simp; omega)
            simp [St.put, St.get, List.getD, hl]
          rw [e1]; trivial
      · have e1 : (s.put (some d) x).get t = s.get t := by simp [St.put, St.get, List.getD, List.getElem?_set_ne hd]
        have e2 : (a.put (some d) z).tmps.getD t undef = a.tmps.getD t undef := by simp [Act.put, Array.getElem?_setIfInBounds_ne hd]
        rw [e1, e2]; exact (h.env t).put

theorem Rel.synced {s : St} {v : World} {a : Act} {w : World} (h : Rel s v a w) : Rel s.synced w a w :=
  ⟨h.defers, h.size, fun t => by
    have := h.env t
    show AVok s.synced (s.get t) _
    cases e : s.get t with
    | no => trivial
    | v y => rw [e] at this; exact this
    | a ad => rw [e] at this; exact this
    | r k off => rw [e] at this; exact this
    | q k n => rw [e] at this; exact this
    | t b => rw [e] at this; exact this, h.priv, h.inj, Step.refl _ _, fun _ => rfl, fun k b hk => by rcases hk with hk | hk <;> cases hk⟩

/-- On to a world that is known as it is. -/
def sync (s : St) (v : World) (K : St → World → Prop) : Prop :=
  match s.clean with
  | true => K s.synced v
  | false => ∀ w, Step v w (s.mods.map (·.2)) (s.news.map (·.2)) → K s.synced w

theorem sync_sound {s : St} {v : World} {K : St → World → Prop} {a : Act} {w : World} (h : sync s v K) (hr : Rel s v a w) :
    Rel s.synced w a w ∧ Ext s s.synced ∧ K s.synced w := by
  refine ⟨hr.synced, Ext.of_hp rfl, ?_⟩
  unfold sync at h
  cases hc : s.clean with
  | true => rw [hc] at h; rw [hr.clean hc]; exact h
  | false => rw [hc] at h; exact h w hr.step

def substAV (k b : Nat) : AV → AV
  | .r k' off => bif Nat.beq k' k then .a ⟨b, off, none⟩ else .r k' off
  | .q k' n => bif Nat.beq k' k then .v (.slice (some ⟨b, 0, none⟩) n n) else .q k' n
  | x => x
def St.unpriv (s : St) (k b : Nat) : St := { s with hp := s.hp.set k none, env := s.env.map (substAV k b) }

/-- A private block becomes known to all. -/
def pub (s : St) (v : World) (k : Nat) (K : St → World → Nat → Prop) : Prop :=
  match s.hp.getD k none with
  | some pb => sync s v fun s v => Blk v pb.b pb.cs → K (s.unpriv k pb.b) v pb.b
  | none => False

theorem Rel.unpriv {s : St} {v : World} {a : Act} {w : World} (h : Rel s v a w) {k : Nat} {pb : PB} (hk : s.hp[k]? = some (some pb)) : Rel (s.unpriv k pb.b) v a w := by
  refine ⟨h.defers, by simp [St.unpriv, h.size], fun t => ?_, fun k' pb' h' => ?_, fun k1 k2 p1 p2 hne h1 h2 => ?_, h.step, h.clean, fun k' b' hkb => ⟨by simpa [St.unpriv] using (h.lnk k' b' hkb).1, fun pb' h' => ?_⟩⟩
  · have e : (s.unpriv k pb.b).get t = substAV k pb.b (s.get t) := by
      simp only [St.unpriv, St.get, List.getD, List.getElem?_map]
      cases s.env[t]? <;> rfl
    rw [e]
    have := h.env t
    cases e2 : s.get t with
    | no => trivial
    | v y => rw [e2] at this; exact this
    | a ad => rw [e2] at this; exact this
    | t b => rw [e2] at this; exact this
    | r k' off =>
      rw [e2] at this
      obtain ⟨q, h1, h2⟩ := this
      simp only [substAV]
      by_cases hkk : k' = k
      · subst hkk
        rw [hk] at h1; injection h1 with h1; injection h1 with h1; subst h1
        have : Nat.beq k' k' = true := Nat.beq_refl _
        rw [this]; exact h2
      · have : Nat.beq k' k = false := by
          cases hb : Nat.beq k' k with
          | false => rfl
          | true => exact absurd (Nat.eq_of_beq_eq_true hb) hkk
        rw [this]
        refine ⟨q, ?_, h2⟩
        show (s.hp.set k none)[k']? = _
        rw [List.getElem?_set_ne (fun e => hkk e.symm)]; exact h1
    | q k' n =>
      rw [e2] at this
      obtain ⟨q, h1, h2⟩ := this
      simp only [substAV]
      by_cases hkk : k' = k
      · subst hkk
        rw [hk] at h1; injection h1 with h1; injection h1 with h1; subst h1
        have : Nat.beq k' k' = true := Nat.beq_refl _
        rw [this]; exact h2
      · have : Nat.beq k' k = false := by
          cases hb : Nat.beq k' k with
          | false => rfl
          | true => exact absurd (Nat.eq_of_beq_eq_true hb) hkk
        rw [this]
        refine ⟨q, ?_, h2⟩
        show (s.hp.set k none)[k']? = _
        rw [List.getElem?_set_ne (fun e => hkk e.symm)]; exact h1
  · have hne : k ≠ k' := fun e => by
      subst e
      have : (s.hp.set k none)[k]? = some (some pb') := h'
      rw [List.getElem?_set_self (by
        rcases Nat.lt_or_ge k s.hp.length with z | z
        · exact z
        · rw [List.getElem?_eq_none z] at hk; cases hk)] at this
      cases this
    have : (s.hp.set k none)[k']? = some (some pb') := h'
    rw [List.getElem?_set_ne hne] at this
    exact h.priv k' pb' this
  · have lift : ∀ (j : Nat) p, (s.unpriv k pb.b).hp[j]? = some (some p) → s.hp[j]? = some (some p) := fun j p hj => by
      have hj' : (s.hp.set k none)[j]? = some (some p) := hj
      by_cases e : k = j
      · subst e
        rw [List.getElem?_set_self (by
          rcases Nat.lt_or_ge k s.hp.length with z | z
          · exact z
          · rw [List.getElem?_eq_none z] at hk; cases hk)] at hj'
        cases hj'
      · rwa [List.getElem?_set_ne e] at hj'
    exact h.inj k1 k2 p1 p2 hne (lift _ _ h1) (lift _ _ h2)
  · have hj' : (s.hp.set k none)[k']? = some (some pb') := h'
    by_cases e : k = k'
    · subst e
      rw [List.getElem?_set_self (by
        rcases Nat.lt_or_ge k s.hp.length with z | z
        · exact z
        · rw [List.getElem?_eq_none z] at hk; cases hk)] at hj'
      cases hj'
    · rw [List.getElem?_set_ne e] at hj'
      exact (h.lnk k' b' hkb).2 pb' hj'

theorem Ext.unpriv (s : St) (k b : Nat) : Ext s (s.unpriv k b) := by
  refine ⟨by simp [St.unpriv], fun i pb pb' h1 h2 => ?_, fun i h1 => ?_⟩
  · have h2' : (s.hp.set k none)[i]? = some (some pb') := h2
    by_cases e : k = i
    · subst e
      rw [List.getElem?_set_self (by
        rcases Nat.lt_or_ge k s.hp.length with z | z
        · exact z
        · rw [List.getElem?_eq_none z] at h1; cases h1)] at h2'
      cases h2'
    · rw [List.getElem?_set_ne e, h1] at h2'; injection h2' with h2'; injection h2' with h2'; subst h2'; exact ⟨rfl, Nat.le_refl _, fun _ => rfl⟩
  · show (s.hp.set k none)[i]? = _
    by_cases e : k = i
    · subst e
      rw [List.getElem?_set_self (by
        rcases Nat.lt_or_ge k s.hp.length with z | z
        · exact z
        · rw [List.getElem?_eq_none z] at h1; cases h1)]
    · rw [List.getElem?_set_ne e]; exact h1

theorem hp_getD {s : St} {k : Nat} {pb : PB} (h : s.hp.getD k none = some pb) : s.hp[k]? = some (some pb) := by
  rw [List.getD_eq_getElem?_getD] at h
  cases e : s.hp[k]? with
  | none => rw [e] at h; cases h
  | some x => rw [e] at h; simp at h; rw [h]

theorem Blk.of_cells {w : World} {b : Nat} {cs : List Value} {T : TypeId} (h : w.heap[b]? = some (.cells cs.toArray T (0, 0))) : Blk w b cs := ⟨T, 0, 0, h, .inl (Nat.le_refl _)⟩

theorem pub_sound {s : St} {v : World} {k : Nat} {K : St → World → Nat → Prop} {a : Act} {w : World} (h : pub s v k K) (hr : Rel s v a w) :
    ∃ pb s', s.hp[k]? = some (some pb) ∧ Rel s' w a w ∧ Ext s s' ∧ K s' w pb.b := by
  unfold pub at h
  cases e : s.hp.getD k none with
  | none => rw [e] at h; exact h.elim
  | some pb =>
    rw [e] at h
    have hk := hp_getD e
    obtain ⟨h1, h2, h3⟩ := sync_sound h hr
    obtain ⟨T, hT⟩ := h1.priv k pb hk
    exact ⟨pb, _, hk, h1.unpriv (k := k) (pb := pb) hk, h2.trans (Ext.unpriv _ _ _), h3 (Blk.of_cells hT)⟩

/-- An operand's value is handed on: an address into a private block becomes known. -/
def useV (s : St) (v : World) (o : Operand) (K : St → World → Value → Prop) : Prop :=
  match s.ev o with
  | .v x => K s v x
  | .a ad => K s v (.pointer (some ad))
  | .r k off => pub s v k fun s v b => K s v (.pointer (some ⟨b, off, none⟩))
  | .q k n => pub s v k fun s v b => K s v (.slice (some ⟨b, 0, none⟩) n n)
  | .t b => K s v (.bool b)
  | .no => False

theorem useV_sound {s : St} {v : World} {o : Operand} {K : St → World → Value → Prop} {a : Act} {w : World} (h : useV s v o K) (hr : Rel s v a w) :
    ∃ s' v', Rel s' v' a w ∧ Ext s s' ∧ K s' v' (a.eval o) := by
  have he := hr.ev o
  unfold useV at h
  cases e : s.ev o with
  | no => rw [e] at h; exact h.elim
  | v x => rw [e] at h he; exact ⟨s, v, hr, Ext.refl _, by rw [show a.eval o = x from he]; exact h⟩
  | a ad => rw [e] at h he; exact ⟨s, v, hr, Ext.refl _, by rw [show a.eval o = _ from he]; exact h⟩
  | t b => rw [e] at h he; exact ⟨s, v, hr, Ext.refl _, by rw [show a.eval o = _ from he]; exact h⟩
  | r k off =>
    rw [e] at h he
    obtain ⟨pb, hk, hv⟩ := he
    obtain ⟨pb', s', hk', hr', hx, hK⟩ := pub_sound h hr
    rw [hk] at hk'; injection hk' with hk'; injection hk' with hk'; subst hk'
    exact ⟨s', w, hr', hx, by rw [hv]; exact hK⟩
  | q k n =>
    rw [e] at h he
    obtain ⟨pb, hk, hv⟩ := he
    obtain ⟨pb', s', hk', hr', hx, hK⟩ := pub_sound h hr
    rw [hk] at hk'; injection hk' with hk'; injection hk' with hk'; subst hk'
    exact ⟨s', w, hr', hx, by rw [hv]; exact hK⟩

def useVs (s : St) (v : World) : List Operand → (St → World → List Value → Prop) → Prop
  | [], K => K s v []
  | o :: os, K => useV s v o fun s v x => useVs s v os fun s v xs => K s v (x :: xs)

theorem useVs_sound {os : List Operand} : ∀ {s : St} {v : World} {K : St → World → List Value → Prop} {a : Act} {w : World}, useVs s v os K → Rel s v a w →
    ∃ s' v', Rel s' v' a w ∧ Ext s s' ∧ K s' v' (os.map a.eval) := by
  induction os with
  | nil => intro s v K a w h hr; exact ⟨s, v, hr, Ext.refl _, h⟩
  | cons o os ih =>
    intro s v K a w h hr
    obtain ⟨s1, v1, r1, e1, h1⟩ := useV_sound h hr
    obtain ⟨s2, v2, r2, e2, h2⟩ := ih h1 r1
    exact ⟨s2, v2, r2, e1.trans e2, h2⟩

/-- What holds behind an operation. -/
def P1 (E : World → Prop) (s : St) (a : Act) (dst : Option Nat) (K : St → World → Prop) (a' : Act) (w' : World) : Prop :=
  ∃ s' v', Rel s' v' a' w' ∧ Ext s s' ∧ K s' v' ∧ (∃ x, a' = a.put dst x) ∧ E w'
abbrev Tt : World → Prop := fun _ => True

theorem P1.mk {E : World → Prop} {s s1 : St} {a : Act} {dst : Option Nat} {K : St → World → Prop} {v1 w' : World} {x : AV} {z : Value} (hE : E w') (hr : Rel s1 v1 a w') (he : Ext s s1) (hx : AVok s1 x z)
    (hK : K (s1.put dst x) v1) : P1 E s a dst K (a.put dst z) w' :=
  ⟨_, _, hr.put dst hx, he.trans (Ext.of_hp (by cases dst <;> rfl)), hK, ⟨z, rfl⟩, hE⟩

end Go.V
