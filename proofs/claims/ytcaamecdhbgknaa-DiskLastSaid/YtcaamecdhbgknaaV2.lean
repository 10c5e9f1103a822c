/- The operations one by one: what is to be shown ahead of each, so that what stands behind it holds. -/
import Derived.Test.YtcaamecdhbgknaaV1
import Derived.Deep.AppendSrc
import Derived.Lib.FrozenHead
import Derived.Laws.MakeOwn
namespace Go.V
open Go.RowKit
set_option linter.unusedVariables false
set_option linter.unusedSimpArgs false

inductive Lf where
  | i (k : IntKind) | b | s | p | sl | m

def Lf.of : TypeDesc → Option Lf
  | .int k => some (.i k)
  | .bool => some .b
  | .string => some .s
  | .pointer _ => some .p
  | .slice _ => some .sl
  | .map _ _ => some .m
  | _ => none

def leafsAll (g : TypeId → Option (List Lf)) : List Field → Option (List Lf)
  | [] => some []
  | f :: fs => match g f.type, leafsAll g fs with
    | some a, some b => some (a ++ b)
    | _, _ => none

/-- The cells of a variable of a type, by kind; none: it is too large, or of another kind. -/
def leafs (P : Program) : Nat → TypeId → Option (List Lf)
  | 0, _ => none
  | n + 1, t => match P.underlying t with
    | some (.struct fs) => leafsAll (leafs P n) fs.toList
    | some (.array m e) => match Nat.ble m 8 with
      | true => match leafs P n e with
        | some l => some (List.replicate m l).flatten
        | none => none
      | false => none
    | some d => match Lf.of d with
      | some l => some [l]
      | none => none
    | none => none

/-- Is a type a struct or an array; how many cells has it. -/
def aggOf (P : Program) (t : TypeId) : Option (Bool × Nat) :=
  match P.underlying t, P.info? t with
  | some (.struct _), some i => some (true, i.size)
  | some (.array _ _), some i => some (true, i.size)
  | some _, some i => some (false, i.size)
  | _, _ => none

def exL : List Lf → (List Value → Prop) → Prop
  | [], K => K []
  | .i k :: ls, K => ∃ n : Int, exL ls fun vs => K (.int k n :: vs)
  | .b :: ls, K => ∃ x : Bool, exL ls fun vs => K (.bool x :: vs)
  | .s :: ls, K => ∃ x : ByteArray, exL ls fun vs => K (.string x :: vs)
  | .p :: ls, K => ∃ x : Option Addr, exL ls fun vs => K (.pointer x :: vs)
  | .sl :: ls, K => ∃ (x : Option Addr) (l c : Nat), exL ls fun vs => K (.slice x l c :: vs)
  | .m :: ls, K => ∃ x : Option Nat, exL ls fun vs => K (.map x :: vs)

theorem exL_sound {ls : List Lf} : ∀ {K : List Value → Prop}, exL ls K → ∃ vs, vs.length = ls.length ∧ (∀ x ∈ vs, x.oneCell' = true) ∧ K vs := by
  induction ls with
  | nil => intro K h; exact ⟨[], rfl, by simp, h⟩
  | cons l ls ih =>
    intro K h
    cases l <;> simp only [exL] at h
    case sl =>
      obtain ⟨x, l, c, h⟩ := h
      obtain ⟨vs, h1, h2, h3⟩ := ih h
      exact ⟨_ :: vs, by simp [h1], by simpa [Value.oneCell'] using h2, h3⟩
    all_goals
      obtain ⟨x, h⟩ := h
      obtain ⟨vs, h1, h2, h3⟩ := ih h
      exact ⟨_ :: vs, by simp [h1], by simpa [Value.oneCell'] using h2, h3⟩

def cellsAt (v : World) (ad : Addr) : Nat → List Value → Prop
  | _, [] => True
  | i, x :: xs => v.cell? (ad.add i) = some x ∧ cellsAt v ad (i + 1) xs

theorem cellsAt_get {v : World} {ad : Addr} {vs : List Value} : ∀ {i : Nat}, cellsAt v ad i vs → ∀ j u, vs[j]? = some u → v.cell? (ad.add (i + j)) = some u := by
  induction vs with
  | nil => intro i h j u hu; simp at hu
  | cons x xs ih =>
    intro i h j u hu
    cases j with
    | zero => simp at hu; subst hu; exact h.1
    | succ j => simp at hu; have := ih h.2 j u hu; rwa [show i + 1 + j = i + (j + 1) by omega] at this

def noMod (s : St) (ad : Addr) (p : Prop) : Prop :=
  match s.mods with
  | [] => p
  | ms => ad.block ∉ ms.map (·.2) ∧ p
theorem noMod_sound {s : St} {ad : Addr} {p : Prop} (h : noMod s ad p) : ad.block ∉ s.mods.map (·.2) ∧ p := by
  unfold noMod at h
  split at h
  · rename_i e; rw [e]; exact ⟨by simp, h⟩
  · exact h
def noPriv (s : St) (b : Nat) (p : Prop) : Prop :=
  match s.privs with
  | [] => p
  | ps => b ∉ ps ∧ p
theorem noPriv_sound {s : St} {b : Nat} {p : Prop} (h : noPriv s b p) : b ∉ s.privs ∧ p := by
  unfold noPriv at h
  split at h
  · rename_i e; rw [e]; exact ⟨by simp, h⟩
  · exact h

theorem Step.cell {v w : World} {mods news : List Nat} (h : Step v w mods news) {ad : Addr} {x : Value} (hx : v.cell? ad = some x) (hm : ad.block ∉ mods) : w.cell? ad = some x := by
  have hl := World.block_lt_of_cell? v ad hx
  rw [World.cell?_of_block (w := v) (h.blk ad.block hl hm)]; exact hx

/-- There is a value of a type. -/
def exT (P : Program) (t : TypeId) (K : Value → Prop) : Prop :=
  match aggOf P t with
  | some (true, n) => match leafs P 6 t with
    | some ls => exL ls fun vs => K (.agg vs.toArray)
    | none => ∃ l : List Value, l.length = n ∧ K (.agg l.toArray)
  | some (false, _) => match P.underlying t with
    | some d => match Lf.of d with
      | some lf => exL [lf] fun vs => match vs with
        | [x] => K x
        | _ => False
      | none => ∃ x : Value, K x
    | none => False
  | none => False
theorem exT_sound {P : Program} {t : TypeId} {K : Value → Prop} (h : exT P t K) : ∃ x, K x := by
  unfold exT at h
  split at h
  · split at h
    · obtain ⟨vs, _, _, hk⟩ := exL_sound h; exact ⟨_, hk⟩
    · obtain ⟨l, _, hk⟩ := h; exact ⟨_, hk⟩
  · split at h
    · split at h
      · obtain ⟨vs, _, _, hk⟩ := exL_sound h
        split at hk
        · exact ⟨_, hk⟩
        · exact hk.elim
      · exact h
    · exact h.elim
  · exact h.elim

/-- What v says of the blocks that are not private holds of w. -/
def Sees (s : St) (v w : World) : Prop := ∀ b, b < v.heap.size → b ∉ s.mods.map (·.2) → w.heap[b]? = v.heap[b]?
def Ext0 (w w' : World) : Prop := w.heap.size ≤ w'.heap.size ∧ ∀ b, b < w.heap.size → w'.heap[b]? = w.heap[b]?
theorem Ext0.refl (w : World) : Ext0 w w := ⟨Nat.le_refl _, fun _ _ => rfl⟩
theorem Rel.sees {s : St} {v : World} {a : Act} {w w' : World} (hr : Rel s v a w) (h : Ext0 w w') : Sees s v w' :=
  fun b hb hm => (h.2 b (Nat.lt_of_lt_of_le hb hr.step.size)).trans (hr.step.blk b hb hm)
theorem Sees.cell {s : St} {v w : World} (h : Sees s v w) {ad : Addr} {x : Value} (hx : v.cell? ad = some x) (hm : ad.block ∉ s.mods.map (·.2)) : w.cell? ad = some x := by
  have hl := World.block_lt_of_cell? v ad hx
  rw [World.cell?_of_block (w := v) (h ad.block hl hm)]; exact hx

/-- A load of a variable of type t from memory that is known to all. -/
def pubLoad (P : Program) (s : St) (v : World) (t : TypeId) (ad : Addr) (K : Value → Prop) : Prop :=
  match aggOf P t with
  | some (true, n) => match leafs P 6 t with
    | some ls => match Nat.beq ls.length n with
      | true => exL ls fun vs => cellsAt v ad 0 vs ∧ noMod s ad (K (.agg vs.toArray))
      | false => False
    | none => ∃ l : List Value, l.length = n ∧ (∀ i, i < n → v.cell? (ad.add i) = l[i]?) ∧ noMod s ad (K (.agg l.toArray))
  | some (false, _) => match P.underlying t with
    | some d => match Lf.of d with
      | some lf => exL [lf] fun vs => match vs with
        | [x] => v.cell? ad = some x ∧ noMod s ad (K x)
        | _ => False
      | none => ∃ x : Value, v.cell? ad = some x ∧ noMod s ad (K x)
    | none => False
  | none => False

theorem aggOf_isAgg {P : Program} {t : TypeId} {b : Bool} {n : Nat} (h : aggOf P t = some (b, n)) (w : World) : (isAgg t).run P w = .ok b w ∧ (sizeOf t).run P w = .ok n w := by
  unfold aggOf at h
  cases hu : P.underlying t with
  | none => rw [hu] at h; simp at h
  | some d =>
    cases hi : P.info? t with
    | none => rw [hu, hi] at h; cases d <;> simp at h
    | some i =>
      rw [hu, hi] at h
      cases d <;> (simp only [Option.some.injEq, Prod.mk.injEq] at h; obtain ⟨rfl, rfl⟩ := h; exact ⟨by simp [isAgg, run_underlying hu], by simp [sizeOf, typeInfo, hi]⟩)

theorem pubLoad_sound {P : Program} {s : St} {v : World} {t : TypeId} {ad : Addr} {K : Value → Prop} (h : pubLoad P s v t ad K) :
    ∃ x, (∀ w, Sees s v w → (loadVar t ad).run P w = .ok x w) ∧ K x := by
  unfold pubLoad at h
  cases ha : aggOf P t with
  | none => rw [ha] at h; exact h.elim
  | some bn =>
    obtain ⟨b, n⟩ := bn
    rw [ha] at h
    have hh := aggOf_isAgg ha
    cases b with
    | true =>
      simp only at h
      cases hl : leafs P 6 t with
      | some ls =>
        rw [hl] at h
        simp only at h
        cases hb : Nat.beq ls.length n with
        | false => rw [hb] at h; exact h.elim
        | true =>
          rw [hb] at h
          obtain ⟨vs, hlen, _, hc, hk⟩ := exL_sound h
          obtain ⟨hm, hk⟩ := noMod_sound hk
          have hn : vs.length = n := by rw [hlen]; exact Nat.eq_of_beq_eq_true hb
          refine ⟨_, fun w hr => ?_, hk⟩
          obtain ⟨h1, h2⟩ := hh w
          have := run_loadCells_list (P := P) (w := w) ad vs (fun j u hu => by
            have := cellsAt_get hc j u hu
            rw [Nat.zero_add] at this
            exact hr.cell this (by unfold Addr.add; split <;> exact hm))
          simp only [loadVar, Sem.run_bind, h1, Result.andThen_ok, if_true, h2, Sem.run_pure]
          rw [← hn, this]; rfl
      | none =>
        rw [hl] at h
        obtain ⟨l, hlen, hc, hk⟩ := h
        obtain ⟨hm, hk⟩ := noMod_sound hk
        refine ⟨_, fun w hr => ?_, hk⟩
        obtain ⟨h1, h2⟩ := hh w
        have := run_loadCells_list (P := P) (w := w) ad l (fun j u hu => by
          have hj : j < n := by
            rcases Nat.lt_or_ge j l.length with z | z
            · omega
            · rw [List.getElem?_eq_none z] at hu; cases hu
          have := hc j hj
          rw [hu] at this
          exact hr.cell this (by unfold Addr.add; split <;> exact hm))
        simp only [loadVar, Sem.run_bind, h1, Result.andThen_ok, if_true, h2, Sem.run_pure]
        rw [← hlen, this]; rfl
    | false =>
      simp only at h
      cases hu : P.underlying t with
      | none => rw [hu] at h; exact h.elim
      | some d =>
        rw [hu] at h
        simp only at h
        cases hd : Lf.of d with
        | none =>
          rw [hd] at h
          obtain ⟨x, hc, hk⟩ := h
          obtain ⟨hm, hk⟩ := noMod_sound hk
          refine ⟨x, fun w hr => ?_, hk⟩
          obtain ⟨h1, h2⟩ := hh w
          simp [loadVar, h1, hr.cell hc hm]
        | some lf =>
          rw [hd] at h
          obtain ⟨vs, hlen, _, hk⟩ := exL_sound h
          match vs, hlen, hk with
          | [x], _, hk =>
            obtain ⟨hc, hk⟩ := hk
            obtain ⟨hm, hk⟩ := noMod_sound hk
            refine ⟨x, fun w hr => ?_, hk⟩
            obtain ⟨h1, h2⟩ := hh w
            simp [loadVar, h1, hr.cell hc hm]

theorem add_mk (b o n : Nat) : (⟨b, o, none⟩ : Addr).add n = ⟨b, o + n, none⟩ := by
  unfold Addr.add
  split
  · rename_i h; simp [h]
  · rfl
theorem cell_of_cells {w : World} {b : Nat} {cs : List Value} {T : TypeId} {f : Nat × Nat} (h : w.heap[b]? = some (.cells cs.toArray T f)) (o : Nat) : w.cell? ⟨b, o, none⟩ = cs[o]? := by
  simp [World.cell?, h]

section ops
variable {P : Program} {o : Oper} {s : St} {v : World} {K : St → World → Prop} {a : Act} {w : World} {Q : Exit → Act → World → Prop}

theorem wp_value {next : Act → World → Prop} {x : Value} {w' : World} (h : (execOp a.eval o).run P w = .ok (.value x) w') (hn : next (a.put o.dst x) w') : o.wp P a w next Q := by
  unfold Oper.wp; rw [h]; exact hn
theorem wp_skipped {next : Act → World → Prop} {w' : World} (h : (execOp a.eval o).run P w = .ok .skip w') (hn : next (a.put o.dst undef) w') : o.wp P a w next Q := by
  unfold Oper.wp; rw [h]; exact hn

/-! A value that an operation yields in every world of a kind. -/
def Yld (P : Program) (o : Oper) (a : Act) (I : World → Prop) (x : Value) : Prop := ∀ w, I w → (execOp a.eval o).run P w = .ok (.value x) w

/-! a new private block -/
def St.newPB (s : St) (b : Nat) (cells : List Value) : St := { s with hp := s.hp ++ [some ⟨b, 0, cells⟩], news := (s.hp.length, b) :: s.news, clean := false }
def newPriv (s : St) (v : World) (dst : Option Nat) (cells : List Value) (x : Nat → AV) (K : St → World → Prop) : Prop :=
  ∀ b : Nat, K ((s.newPB b cells).put dst (x s.hp.length)) v

theorem Rel.alloc (hr : Rel s v a w) (cells : List Value) (T : TypeId) :
    Rel (s.newPB w.heap.size cells) v a (w.alloc (.cells cells.toArray T)) := by
  have hat : ∀ b, b < w.heap.size → (w.alloc (.cells cells.toArray T)).heap[b]? = w.heap[b]? := fun b hb => Below.heap_alloc _ _ _ hb
  have hnew : (w.alloc (.cells cells.toArray T)).heap[w.heap.size]? = some (.cells cells.toArray T (0, 0)) := by
    show (w.heap.push _)[w.heap.size]? = _
    simp
  have hold : ∀ (k : Nat) pb, s.hp[k]? = some (some pb) → pb.b < w.heap.size := fun k pb hk => by
    obtain ⟨T', hT⟩ := hr.priv k pb hk
    exact (Array.getElem?_eq_some_iff.1 hT).1
  have hlk : ∀ (k : Nat) pb, (s.hp ++ [some (⟨w.heap.size, 0, cells⟩ : PB)])[k]? = some (some pb) → s.hp[k]? = some (some pb) ∨ (k = s.hp.length ∧ pb = ⟨w.heap.size, 0, cells⟩) := fun k pb hk => by
    rcases Nat.lt_trichotomy k s.hp.length with z | z | z
    · rw [List.getElem?_append_left z] at hk; exact .inl hk
    · subst z; rw [List.getElem?_append_right (Nat.le_refl _)] at hk; simp at hk; exact .inr ⟨rfl, hk.symm⟩
    · rw [List.getElem?_eq_none (by simp; omega)] at hk; cases hk
  refine ⟨hr.defers, hr.size, fun t => ?_, fun k pb hk => ?_, fun k k' pb pb' hne h1 h2 => ?_, ⟨hr.step.os, hr.step.tape, hr.step.output, ?_, fun b hb hm => ?_, fun b hb => ?_, ?_⟩, (fun h => by cases h), fun k b hkb => ?_⟩
  · have := hr.env t
    show AVok _ (s.get t) _
    cases e : s.get t with
    | no => trivial
    | v y => rw [e] at this; exact this
    | a ad => rw [e] at this; exact this
    | t b => rw [e] at this; exact this
    | r k off =>
      rw [e] at this
      obtain ⟨pb, h1, h2⟩ := this
      refine ⟨pb, ?_, h2⟩
      show (s.hp ++ [_])[k]? = _
      rw [List.getElem?_append_left (by
        rcases Nat.lt_or_ge k s.hp.length with z | z
        · exact z
        · rw [List.getElem?_eq_none z] at h1; cases h1)]
      exact h1
    | q k off =>
      rw [e] at this
      obtain ⟨pb, h1, h2⟩ := this
      refine ⟨pb, ?_, h2⟩
      show (s.hp ++ [_])[k]? = _
      rw [List.getElem?_append_left (by
        rcases Nat.lt_or_ge k s.hp.length with z | z
        · exact z
        · rw [List.getElem?_eq_none z] at h1; cases h1)]
      exact h1
  · rcases hlk k pb hk with h | ⟨_, rfl⟩
    · obtain ⟨T', hT⟩ := hr.priv k pb h
      exact ⟨T', by rw [hat _ (hold k pb h)]; exact hT⟩
    · exact ⟨T, hnew⟩
  · rcases hlk k pb h1 with h | ⟨rfl, rfl⟩
    · rcases hlk k' pb' h2 with h' | ⟨rfl, rfl⟩
      · exact hr.inj k k' pb pb' hne h h'
      · exact Nat.ne_of_lt (hold k pb h)
    · rcases hlk k' pb' h2 with h' | ⟨rfl, rfl⟩
      · exact (Nat.ne_of_lt (hold k' pb' h')).symm
      · exact absurd rfl hne
  · have := hr.step.size; simp; omega
  · have := hr.step.size; rw [hat b (by omega)]; exact hr.step.blk b hb hm
  · have hs := hr.step.size
    have hb : b ∈ w.heap.size :: s.news.map (·.2) := hb
    simp only [List.mem_cons] at hb
    rcases hb with rfl | hb
    · simp; omega
    · have := hr.step.new b hb; simp; omega
  · refine List.nodup_cons.2 ⟨fun hm => ?_, hr.step.nd⟩
    exact Nat.lt_irrefl w.heap.size (hr.step.new _ hm).2
  · have hkb' : (k, b) = (s.hp.length, w.heap.size) ∨ (k, b) ∈ s.news ∨ (k, b) ∈ s.mods := by
      rcases hkb with hkb | hkb
      · have hkb : (k, b) ∈ (s.hp.length, w.heap.size) :: s.news := hkb
        rcases List.mem_cons.1 hkb with e | e
        · exact .inl e
        · exact .inr (.inl e)
      · exact .inr (.inr hkb)
    rcases hkb' with e | e
    · injection e with e1 e2
      subst e1; subst e2
      refine ⟨by simp [St.newPB], fun pb h' => ?_⟩
      rcases hlk _ pb h' with h | ⟨_, rfl⟩
      · rw [List.getElem?_eq_none (Nat.le_refl _)] at h; cases h
      · rfl
    · obtain ⟨h1, h2⟩ := hr.lnk k b e
      refine ⟨by simp [St.newPB]; omega, fun pb h' => ?_⟩
      rcases hlk k pb h' with h | ⟨rfl, rfl⟩
      · exact h2 pb h
      · exact absurd h1 (Nat.lt_irrefl _)

theorem newPriv_sound {dst : Option Nat} {cells : List Value} {x : Nat → AV} (h : newPriv s v dst cells x K) (hr : Rel s v a w) (T : TypeId) {z : Value}
    (hx : ∀ s' : St, s'.hp[s.hp.length]? = some (some ⟨w.heap.size, 0, cells⟩) → AVok s' (x s.hp.length) z) : P1 (Ext0 w) s a dst K (a.put dst z) (w.alloc (.cells cells.toArray T)) := by
  have r1 := hr.alloc cells T
  refine P1.mk ⟨by simp, fun b hb => Below.heap_alloc _ _ _ hb⟩ r1 ⟨by simp [St.newPB], fun k pb pb' h1 h2 => ?_, fun k h1 => ?_⟩ (hx _ (by simp [St.newPB])) (h w.heap.size)
  · have hlt : k < s.hp.length := by
      rcases Nat.lt_or_ge k s.hp.length with z | z
      · exact z
      · rw [List.getElem?_eq_none z] at h1; cases h1
    have h2' : (s.hp ++ [some (⟨w.heap.size, 0, cells⟩ : PB)])[k]? = some (some pb') := h2
    rw [List.getElem?_append_left hlt, h1] at h2'
    injection h2' with h2'; injection h2' with h2'; subst h2'; exact ⟨rfl, Nat.le_refl _, fun _ => rfl⟩
  · have hlt : k < s.hp.length := by
      rcases Nat.lt_or_ge k s.hp.length with z | z
      · exact z
      · rw [List.getElem?_eq_none z] at h1; cases h1
    show (s.hp ++ [_])[k]? = _
    rw [List.getElem?_append_left hlt]; exact h1

def zeroOf (P : Program) (t : TypeId) : Option Value := match P.info? t with
  | some i => i.zero
  | none => none
theorem run_zero {t : TypeId} {z : Value} (h : zeroOf P t = some z) : (zeroValue t).run P w = .ok z w := by
  unfold zeroOf at h
  cases hi : P.info? t with
  | none => rw [hi] at h; cases h
  | some i => rw [hi] at h; simp [zeroValue, typeInfo, hi, h]

def allocR (P : Program) (s : St) (v : World) (dst : Option Nat) (e : TypeId) (K : St → World → Prop) : Prop :=
  match zeroOf P e with
  | some z => newPriv s v dst z.cells.toList (fun k => .r k 0) K
  | none => False
theorem R_alloc {e : TypeId} (ho : o.op = .alloc e) (h : allocR P s v o.dst e K) (hr : Rel s v a w) : o.wp P a w (P1 (Ext0 w) s a o.dst K) Q := by
  unfold allocR at h
  cases hz : zeroOf P e with
  | none => rw [hz] at h; exact h.elim
  | some z =>
    rw [hz] at h
    refine wp_value (x := .pointer (some ⟨w.heap.size, 0, none⟩)) (w' := w.alloc (.cells z.cells e)) ?_ ?_
    · simp [execOp, ho, Instr.alloc, run_zero hz, newVar, newRow]
    · have := newPriv_sound h hr e (z := .pointer (some ⟨w.heap.size, 0, none⟩)) (fun s' hs => show ∃ pb, _ ∧ _ from ⟨_, hs, rfl⟩)
      simpa using this

def boxR (s : St) (v : World) (dst : Option Nat) (x : Operand) (K : St → World → Prop) : Prop :=
  useV s v x fun s v x => newPriv s v dst x.cells.toList (fun k => .r k 0) K
theorem P1.ext {E : World → Prop} {s1 : St} {dst : Option Nat} {a' : Act} {w' : World} (he : Ext s s1) (h : P1 E s1 a dst K a' w') : P1 E s a dst K a' w' := by
  obtain ⟨s', v', h1, h2, h3⟩ := h
  exact ⟨s', v', h1, he.trans h2, h3⟩
theorem R_box {e : TypeId} {x : Operand} (ho : o.op = .box e x) (h : boxR s v o.dst x K) (hr : Rel s v a w) : o.wp P a w (P1 (Ext0 w) s a o.dst K) Q := by
  obtain ⟨s1, v1, r1, e1, h1⟩ := useV_sound h hr
  refine wp_value (x := .pointer (some ⟨w.heap.size, 0, none⟩)) (w' := w.alloc (.cells (a.eval x).cells e)) ?_ ?_
  · simp [execOp, ho, Instr.box, newVar, newRow]
  · have := newPriv_sound h1 r1 e (z := .pointer (some ⟨w.heap.size, 0, none⟩)) (fun s' hs => show ∃ pb, _ ∧ _ from ⟨_, hs, rfl⟩)
    exact P1.ext e1 (by simpa using this)

end ops
end Go.V
