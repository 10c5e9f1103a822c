/- Slices that are made, grown and copied; maps that are written; calls. -/
import Derived.Test.YtcaamecdhbgknaaV8
import Derived.Laws.MakeOwn
namespace Go.V
open Go.RowKit
set_option linter.unusedVariables false
set_option linter.unusedSimpArgs false

section
variable {P : Program} {o : Oper} {s : St} {v : World} {K : St → World → Prop} {a : Act} {w : World} {Q : Exit → Act → World → Prop}

/-! ### maps -/
def mapUpdR (P : Program) (s : St) (v : World) (t : TypeId) (m k x : Operand) (K : St → World → Prop) : Prop :=
  useVs s v [m, k, x] fun s v xs => match xs with
    | [.map mm, key, val] => match P.underlying t with
      | some (.map tk _) => match P.underlying tk, key with
        | some (.int kd), .int kd' n => match decide (kd = kd') with
          | true => mapUpdG s v (Value.int kd) mm (fun l => updM l n val) K
          | false => False
        | some .string, .string n => mapUpdG s v Value.string mm (fun l => updM l n val) K
        | _, _ => False
      | _ => False
    | _ => False
theorem mapUpdG_sound {κ : Type} [DecidableEq κ] {enc : κ → Value} {mm : Option Nat} {f : List (κ × Value) → List (κ × Value)} (h : mapUpdG s v enc mm f K) (hr : Rel s v a w) :
    ∃ m l, mm = some m ∧ MapG enc w m l ∧ ∀ w', MUpd enc w w' m (f l) → ∃ s', Rel s' w' a w' ∧ Ext s s' ∧ K s' w' := by
  obtain ⟨r1, e1, m, l, hm, hg, hk⟩ := sync_sound h hr
  exact ⟨m, l, hm, hg, fun w' hu => ⟨_, r1.mupd rfl rfl hg hu, e1, hk w' hu⟩⟩
theorem R_mapUpdate {t : TypeId} {m k x : Operand} (ho : o.op = .mapUpdate t m k x) (h : mapUpdR P s v t m k x (fun s v => K (s.put o.dst .no) v)) (hr : Rel s v a w) : o.wp P a w (P1 Tt s a o.dst K) Q := by
  obtain ⟨s1, v1, r1, e1, h1⟩ := useVs_sound h hr
  simp only [List.map_cons, List.map_nil] at h1
  split at h1
  · rename_i mm key val e
    simp only [List.cons.injEq, and_true] at e
    obtain ⟨em, ek, ex⟩ := e
    split at h1
    · rename_i tk te hu
      split at h1
      · rename_i kd kd' n hd
        split at h1
        · rename_i hkd
          obtain rfl := of_decide_eq_true hkd
          obtain ⟨b, l, rfl, hg, hk⟩ := mapUpdG_sound h1 r1
          obtain ⟨w', hrun, hu'⟩ := run_mapUpdate (P := P) hu hd (keyEnc_int kd) (.inl ⟨_, rfl⟩) hg n val
          obtain ⟨s', g1, g2, g3⟩ := hk w' hu'
          exact wp_skipped (w' := w') (by simp [execOp, ho, em, ek, ex, hrun]) (P1.mk trivial g1 (e1.trans g2) (x := .no) trivial g3)
        · exact h1.elim
      · rename_i n hd
        obtain ⟨b, l, rfl, hg, hk⟩ := mapUpdG_sound h1 r1
        obtain ⟨w', hrun, hu'⟩ := run_mapUpdate (P := P) hu hd keyEnc_str (.inr rfl) hg n val
        obtain ⟨s', g1, g2, g3⟩ := hk w' hu'
        exact wp_skipped (w' := w') (by simp [execOp, ho, em, ek, ex, hrun]) (P1.mk trivial g1 (e1.trans g2) (x := .no) trivial g3)
      · exact h1.elim
    · exact h1.elim
  · exact h1.elim

def delR (P : Program) (s : St) (v : World) (t : TypeId) (m k : Operand) (K : St → World → Prop) : Prop :=
  useVs s v [m, k] fun s v xs => match xs with
    | [.map mm, key] => match P.underlying t with
      | some (.map tk _) => match P.underlying tk, key with
        | some (.int kd), .int kd' n => match decide (kd = kd') with
          | true => mapUpdG s v (Value.int kd) mm (fun l => delM l n) K
          | false => False
        | some .string, .string n => mapUpdG s v Value.string mm (fun l => delM l n) K
        | _, _ => False
      | _ => False
    | _ => False
theorem R_delete {t : TypeId} {ts : Array TypeId} {m k : Operand} (ho : o.op = .call { callee := .builtin .delete, args := #[m, k], argTypes := ts }) (ht : ∃ t2, ts = #[t, t2]) (h : delR P s v t m k (fun s v => K (s.put o.dst .no) v)) (hr : Rel s v a w) : o.wp P a w (P1 Tt s a o.dst K) Q := by
  obtain ⟨t2, rfl⟩ := ht
  obtain ⟨s1, v1, r1, e1, h1⟩ := useVs_sound h hr
  simp only [List.map_cons, List.map_nil] at h1
  split at h1
  · rename_i mm key e
    simp only [List.cons.injEq, and_true] at e
    obtain ⟨em, ek⟩ := e
    split at h1
    · rename_i tk te hu
      split at h1
      · rename_i kd kd' n hd
        split at h1
        · rename_i hkd
          obtain rfl := of_decide_eq_true hkd
          obtain ⟨b, l, rfl, hg, hk⟩ := mapUpdG_sound h1 r1
          obtain ⟨w', hrun, hu'⟩ := run_mapDelete (P := P) (t2 := t2) (ty := o.type) hu hd (keyEnc_int kd) (.inl ⟨_, rfl⟩) hg n
          obtain ⟨s', g1, g2, g3⟩ := hk w' hu'
          exact wp_value (x := .tuple #[]) (w' := w') (by simp [execOp, ho, resolve, invoke, builtin, em, ek, hrun]) (P1.mk trivial g1 (e1.trans g2) (x := .no) trivial g3)
        · exact h1.elim
      · rename_i n hd
        obtain ⟨b, l, rfl, hg, hk⟩ := mapUpdG_sound h1 r1
        obtain ⟨w', hrun, hu'⟩ := run_mapDelete (P := P) (t2 := t2) (ty := o.type) hu hd keyEnc_str (.inr rfl) hg n
        obtain ⟨s', g1, g2, g3⟩ := hk w' hu'
        exact wp_value (x := .tuple #[]) (w' := w') (by simp [execOp, ho, resolve, invoke, builtin, em, ek, hrun]) (P1.mk trivial g1 (e1.trans g2) (x := .no) trivial g3)
      · exact h1.elim
    · exact h1.elim
  · exact h1.elim

def clearR (P : Program) (s : St) (v : World) (t : TypeId) (m : Operand) (K : St → World → Prop) : Prop :=
  useVs s v [m] fun s v xs => match xs with
    | [.map mm] => match P.underlying t with
      | some (.map tk _) => match P.underlying tk with
        | some (.int kd) => mapUpdG s v (Value.int kd) mm (fun _ => []) K
        | some .string => mapUpdG s v Value.string mm (fun _ => []) K
        | _ => False
      | _ => False
    | _ => False
theorem R_clear {t : TypeId} {m : Operand} (ho : o.op = .call { callee := .builtin .clear, args := #[m], argTypes := #[t] }) (h : clearR P s v t m (fun s v => K (s.put o.dst .no) v)) (hr : Rel s v a w) : o.wp P a w (P1 Tt s a o.dst K) Q := by
  obtain ⟨s1, v1, r1, e1, h1⟩ := useVs_sound h hr
  simp only [List.map_cons, List.map_nil] at h1
  split at h1
  · rename_i mm e
    simp only [List.cons.injEq, and_true] at e
    split at h1
    · rename_i tk te hu
      split at h1
      · rename_i kd hd
        obtain ⟨b, l, rfl, hg, hk⟩ := mapUpdG_sound h1 r1
        obtain ⟨w', hrun, hu'⟩ := run_mapClear (P := P) (ty := o.type) hu hg
        obtain ⟨s', g1, g2, g3⟩ := hk w' hu'
        exact wp_value (x := .tuple #[]) (w' := w') (by simp [execOp, ho, resolve, invoke, builtin, e, hrun]) (P1.mk trivial g1 (e1.trans g2) (x := .no) trivial g3)
      · rename_i hd
        obtain ⟨b, l, rfl, hg, hk⟩ := mapUpdG_sound h1 r1
        obtain ⟨w', hrun, hu'⟩ := run_mapClear (P := P) (ty := o.type) hu hg
        obtain ⟨s', g1, g2, g3⟩ := hk w' hu'
        exact wp_value (x := .tuple #[]) (w' := w') (by simp [execOp, ho, resolve, invoke, builtin, e, hrun]) (P1.mk trivial g1 (e1.trans g2) (x := .no) trivial g3)
      · exact h1.elim
    · exact h1.elim
  · exact h1.elim

/-! ### slices -/
def reps (z : List Value) : Nat → List Value
  | 0 => []
  | n + 1 => z ++ reps z n
theorem reps_length (z : List Value) : ∀ n, (reps z n).length = n * z.length
  | 0 => by simp [reps]
  | n + 1 => by simp [reps, reps_length z n, Nat.succ_mul]; omega
theorem reps_get (z : List Value) : ∀ (n i : Nat), i < n * z.length → (reps z n)[i]? = z[i % z.length]?
  | 0, i, h => by simp at h
  | n + 1, i, h => by
    by_cases hi : i < z.length
    · rw [reps, List.getElem?_append_left hi, Nat.mod_eq_of_lt hi]
    · have hs : (n + 1) * z.length = n * z.length + z.length := Nat.succ_mul n z.length
      rw [reps, List.getElem?_append_right (by omega), reps_get z n (i - z.length) (by omega)]
      congr 1
      exact (Nat.mod_eq_sub_mod (by omega)).symm
theorem zero_reps (z : Array Value) (n : Nat) : Builtin.zeroCells z n = (reps z.toList n).toArray := by
  apply Array.ext'
  apply List.ext_getElem?
  intro i
  simp only [Builtin.zeroCells, Array.toList_map, Array.toList_range, List.getElem?_map]
  by_cases hi : i < n * z.size
  · rw [reps_get z.toList n i (by simpa using hi)]
    have hz : 0 < z.size := by
      rcases Nat.eq_zero_or_pos z.size with h | h
      · rw [h] at hi; simp at hi
      · exact h
    have hm : i % z.size < z.size := Nat.mod_lt _ hz
    simp [hi, hm]
  · have h2 : (reps z.toList n).length ≤ i := by rw [reps_length]; simpa using hi
    rw [List.getElem?_eq_none h2]
    simp [hi]

def makeSliceR (P : Program) (s : St) (v : World) (dst : Option Nat) (t : TypeId) (l c : Operand) (K : St → World → Prop) : Prop :=
  match P.underlying t, s.val l, s.val c with
  | some (.slice e), some (.int _ l), some (.int _ c) => match P.info? e with
    | some i => match i.zero with
      | some z => match Nat.beq z.cells.toList.length i.size with
        | true => (0 ≤ l ∧ l ≤ c ∧ i.bytes * c ≤ 281474976710656 ∧ c ≤ 281474976710656) ∧
            newPub s v (fun w b => Blk w b (reps z.cells.toList c.toNat)) fun s w b => K (s.put dst (.v (.slice (some ⟨b, 0, none⟩) l.toNat c.toNat))) w
        | false => False
      | none => False
    | none => False
  | _, _, _ => False
theorem R_makeSlice {t : TypeId} {l c : Operand} (ho : o.op = .makeSlice t l c) (h : makeSliceR P s v o.dst t l c K) (hr : Rel s v a w) : o.wp P a w (P1 (Ext0 w) s a o.dst K) Q := by
  unfold makeSliceR at h
  split at h
  · rename_i e kl ln kc cn hu hl hc
    split at h
    · rename_i i hi
      split at h
      · rename_i z hz
        split at h
        · rename_i hsz
          have hsz := Nat.eq_of_beq_eq_true hsz
          obtain ⟨⟨h0, h1, h2, h3⟩, hk⟩ := h
          have hrun := run_make (P := P) (w := w) t e i z hu hi hz kl kc ln cn h0 h1 h2 (by omega)
          have hz' : madeCells z.cells (cn.toNat * i.size) = (reps z.cells.toList cn.toNat).toArray := by
            rw [← zero_reps]
            have : z.cells.size = i.size := by simpa using hsz
            simp only [madeCells, Builtin.zeroCells, this]
          rw [hz'] at hrun
          obtain ⟨g1, g2, g3, g4, g5, g6⟩ := alloc_facts w (.cells (reps z.cells.toList cn.toNat).toArray e)
          obtain ⟨r1, k1⟩ := newPub_sound hk hr _ g1 g2 g3 g4 g5 (Blk.of_cells g6)
          refine wp_value (x := .slice (some ⟨w.heap.size, 0, none⟩) ln.toNat cn.toNat) (w' := w.alloc (.cells (reps z.cells.toList cn.toNat).toArray e)) ?_ (P1.mk ⟨by omega, g5⟩ r1 (Ext.of_hp rfl) (x := .v _) rfl k1)
          simp [execOp, ho, val_sound hl hr, val_sound hc hr, hrun]
        · exact h.elim
      · exact h.elim
    · exact h.elim
  · exact h.elim

/-- A slice that is written out: its row is private. -/
def sliceParts (size : Nat) (cells : List Value) (ps : List (Nat × Value)) : Option (List Value) := fillL (fun i => some (i * size, size)) cells ps
def buildSliceR (P : Program) (s : St) (v : World) (dst : Option Nat) (t : TypeId) (n : Nat) (parts : List (Nat × Operand)) (K : St → World → Prop) : Prop :=
  useVs s v (parts.map (·.2)) fun s v xs => match P.underlying t with
    | some (.slice e) => match sizeOfN P e, zeroOf P e with
      | some (sz + 1), some z => match Nat.beq z.cells.toList.length (sz + 1), Nat.ble (n * (sz + 1)) 16777216, sliceParts (sz + 1) (reps z.cells.toList n) ((parts.map (·.1)).zip xs) with
        | true, true, some cs => newPriv s v dst cs (fun k => .q k n) K
        | _, _, _ => False
      | _, _ => False
    | _ => False
theorem R_buildSlice {t : TypeId} {n : Nat} {parts : Array (Nat × Operand)} (ho : o.op = .buildSlice t n parts) (h : buildSliceR P s v o.dst t n parts.toList K) (hr : Rel s v a w) : o.wp P a w (P1 (Ext0 w) s a o.dst K) Q := by
  obtain ⟨s1, v1, r1, e1, h1⟩ := useVs_sound h hr
  split at h1
  · rename_i e hu
    split at h1
    · rename_i sz z hsz hz
      split at h1
      · rename_i cs b1 b2 hcs
        have b1 := Nat.eq_of_beq_eq_true b1
        have b2 := Nat.le_of_ble_eq_true b2
        have eparts : (parts.toList.map (·.1)).zip ((parts.toList.map (·.2)).map a.eval) = parts.toList.map fun p => (p.1, a.eval p.2) := by
          rw [List.map_map, List.zip_map_left, List.zip_map_right]
          induction parts.toList with
          | nil => rfl
          | cons p l ih => simp_all
        rw [eparts] at hcs
        have hmade : (Array.range (n * (sz + 1))).map (z.cells[· % z.cells.size]!) = (reps z.cells.toList n).toArray := by
          rw [← zero_reps]
          have : z.cells.size = sz + 1 := by simpa using b1
          simp only [Builtin.zeroCells, this]
        have hf := fillL_sound (place := fun i => some (i * (sz + 1), sz + 1)) (cells := (reps z.cells.toList n).toArray) (cs := cs) (ps := parts.toList.map fun p => (p.1, a.eval p.2)) (by simpa [sliceParts] using hcs)
        refine wp_value (x := .slice (some ⟨w.heap.size, 0, none⟩) n n) (w' := w.alloc (.cells cs.toArray e)) ?_ ?_
        · have hb : ¬ (n * (sz + 1) > 2 ^ 24) := by omega
          have hp : (parts.map fun (i, x) => (i, a.eval x)).toList = parts.toList.map fun p => (p.1, a.eval p.2) := by simp
          by_cases h0 : n * (sz + 1) = 0
          · have hn : n = 0 := by
              rcases Nat.eq_zero_or_pos n with h | h
              · exact h
              · have : 0 < n * (sz + 1) := Nat.mul_pos h (Nat.succ_pos sz)
                omega
            subst hn
            have hr0 : (Array.map (fun x : Nat => (default : Value)) (Array.range 0)) = (reps z.cells.toList 0).toArray := by simp [reps]
            simp only [execOp, ho, Instr.buildSlice, Sem.run_bind, run_underlying hu, Result.andThen_ok, run_sizeN hsz, hb, if_false, h0, if_true, Sem.run_pure, Nat.succ_eq_add_one, hp]
            simp
            rw [hr0, hf]
            simp [newRow]
          · simp only [execOp, ho, Instr.buildSlice, Sem.run_bind, run_underlying hu, Result.andThen_ok, run_sizeN hsz, hb, if_false, h0, run_zero hz, Sem.run_pure, Nat.succ_eq_add_one, hmade, hp, hf]
            simp [newRow]
        · exact P1.ext e1 (newPriv_sound h1 r1 e (z := .slice (some ⟨w.heap.size, 0, none⟩) n n) (fun s' hs => show ∃ pb, _ ∧ _ from ⟨_, hs, rfl⟩))
      · exact h1.elim
    · exact h1.elim
  · exact h1.elim

end
end Go.V
