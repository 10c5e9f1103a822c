/- Texts of this session's repo, laid together: V11 V12 V13 V14 V15 V16 V17 V18 V19 V20. -/
import Derived.Test.YtalegpdnhkopmaaDoorVA
import Derived.Laws.IdiomStrings
import Derived.TacticsIn
import Derived.OrdersIn
import Derived.RangeFuncSeq
import Derived.Deep.LoopGhost
import Derived.RangeFuncRecord
import Derived.Sort.LoopGhostIn
import Derived.Scope
section
/- append as it is written, copy, bytes of a text, ranging over maps. -/
namespace Go.V
open Go.RowKit
set_option linter.unusedVariables false
set_option linter.unusedSimpArgs false

section
variable {P : Program} {o : Oper} {s : St} {v : World} {K : St → World → Prop} {a : Act} {w : World} {Q : Exit → Act → World → Prop}

def noModB (s : St) (p : Option Addr) (q : Prop) : Prop := noModM s (p.map (·.block)) q

def appendR (P : Program) (s : St) (v : World) (dst : Option Nat) (t tx : TypeId) (x y : Operand) (K : St → World → Prop) : Prop :=
  useV s v x fun s v xv => match xv, P.underlying t with
    | .slice base l c, some (.slice e) => match P.info? e with
      | some i => match i.zero with
        | some z =>
          let k := fun (n : Nat) (xs : List Value) => appendP s.clean (s.mods.map (·.2)) (s.news.map (·.2)) s.privs v base l c n xs i.size i.bytes z.cells.toList fun w b l c => K (s.synced.put dst (.v (.slice b l c))) w
          match P.underlying tx, s.ev y with
          | some (.slice _), .q kk n => match s.hp.getD kk none with
            | some pb => match Nat.beq pb.cs.length (n * i.size), pb.cs.all (·.oneCell') with
              | true, true => k n pb.cs
              | _, _ => False
            | none => False
          | some (.slice _), .v (.slice ya n _) => ∃ xs : List Value, xs.length = n * i.size ∧ Row v ya xs ∧ noModB s ya (k n xs)
          | some .string, .v (.string b) => match Nat.beq i.size 1 with
            | true => k b.size (byteCells b)
            | false => False
          | some (.int _), .v (.int _ n) => match Nat.beq z.cells.toList.length i.size, z.cells.toList.all (·.oneCell') with
            | true, true => (0 ≤ n ∧ n * i.bytes ≤ 281474976710656 ∧ n ≤ 9223372036854775807) ∧ k n.toNat (reps z.cells.toList n.toNat)
            | _, _ => False
          | _, _ => False
        | none => False
      | none => False
    | _, _ => False

theorem R_append {t tx : TypeId} {x y : Operand} (ho : o.op = .call { callee := .builtin .append, args := #[x, y], argTypes := #[t, tx] })
    (h : appendR P s v o.dst t tx x y K) (hr : Rel s v a w) : o.wp P a w (P1 Tt s a o.dst K) Q := by
  obtain ⟨s1, v1, r1, e1, h1⟩ := useV_sound h hr
  split at h1
  · rename_i base l c e hx ht
    split at h1
    · rename_i i hi
      split at h1
      · rename_i z hz
        have fin : ∀ (n : Nat) (xs : List Value), ASrc P i z tx w (a.eval y) n xs → (∀ u ∈ xs, u.oneCell' = true) →
            (appendP s1.clean (s1.mods.map (·.2)) (s1.news.map (·.2)) s1.privs v1 base l c n xs i.size i.bytes z.cells.toList fun w b l c => K (s1.synced.put o.dst (.v (.slice b l c))) w) → o.wp P a w (P1 Tt s a o.dst K) Q := fun n xs hs h1c hp => by
          obtain ⟨w', b', l', c', hrun, r2, hk⟩ := appendP_sound (P := P) (ty := o.type) ht hi hz hs h1c hp r1
          refine wp_value (x := .slice b' l' c') (w' := w') ?_ (P1.mk trivial r2 (e1.trans (Ext.of_hp rfl)) (x := .v _) rfl hk)
          simp [execOp, ho, resolve, invoke, builtin, hx, hrun]
        have hy := r1.ev y
        simp only at h1
        split at h1
        · rename_i e' kk n hux hyq
          split at h1
          · rename_i pb hpb
            split at h1
            · rename_i b1 b2
              have b1 := Nat.eq_of_beq_eq_true b1
              have b2 := List.all_eq_true.1 b2
              rw [hyq] at hy
              obtain ⟨pb', hk', hv⟩ := hy
              have hg : s1.hp.getD kk none = some pb' := by rw [List.getD_eq_getElem?_getD, hk']; rfl
              rw [hpb] at hg; injection hg with hg; subst hg
              obtain ⟨T, hT⟩ := r1.priv kk pb hk'
              refine fin n pb.cs ?_ b2 h1
              rw [hv]
              refine .plain _ n _ (.inl ⟨e', hux⟩) (fun w' => rfl) (fun w' hw => run_firstCells_some (P := P) (w := w') i.size n ⟨pb.b, 0, none⟩ n n pb.cs b1 (fun j u hu => ?_))
              rw [add_mk, cell_of_cells (by rw [hw.2 _ (Array.getElem?_eq_some_iff.1 hT).1]; exact hT)]
              simpa using hu
            · exact h1.elim
          · exact h1.elim
        · rename_i e' ya n cy hux hyq
          rw [hyq] at hy
          have hy : a.eval y = _ := hy
          obtain ⟨xs, hxl, hrow, h1⟩ := h1
          obtain ⟨hmod, h1⟩ := noModM_sound h1
          refine fin n xs ?_ hrow.2 h1
          rw [hy]
          exact .plain _ n _ (.inl ⟨e', hux⟩) (fun w' => rfl) (fun w' hw => hrow.firstCells (P := P) hxl hmod (r1.sees hw))
        · rename_i b hux hyq
          split at h1
          · rename_i b1
            have b1 := Nat.eq_of_beq_eq_true b1
            rw [hyq] at hy
            have hy : a.eval y = _ := hy
            refine fin _ _ ?_ (fun u hu => by
              unfold byteCells at hu
              obtain ⟨b, _, rfl⟩ := List.mem_map.1 hu
              rfl) h1
            rw [hy]
            exact .plain _ _ _ (.inr hux) (fun w' => rfl) (fun w' hw => by rw [b1]; exact firstCells_string b w')
          · exact h1.elim
        · rename_i kk kv n hux hyq
          split at h1
          · rename_i b1 hz1
            have hz1 := List.all_eq_true.1 hz1
            have b1 := Nat.eq_of_beq_eq_true b1
            rw [hyq] at hy
            have hy : a.eval y = _ := hy
            obtain ⟨⟨h0, h2, h3⟩, h1⟩ := h1
            refine fin _ _ ?_ (fun u hu => ?_) h1
            · rw [hy]
              have hn : (n : Int) = (n.toNat : Int) := by omega
              rw [hn]
              refine .zeros _ kk n.toNat hux ?_ (by omega) b1
              rw [hn] at h2
              have : ((n.toNat * i.bytes : Nat) : Int) ≤ 281474976710656 := by rw [Int.natCast_mul]; exact h2
              omega
            · have key : ∀ m, ∀ u ∈ reps z.cells.toList m, u.oneCell' = true := by
                intro m
                induction m with
                | zero => intro u hu; cases hu
                | succ m ih =>
                  intro u hu
                  rcases List.mem_append.1 hu with hu | hu
                  · exact hz1 u hu
                  · exact ih u hu
              exact key _ u hu
          · exact h1.elim
        · exact h1.elim
      · exact h1.elim
    · exact h1.elim
  · exact h1.elim

/-! copy(x, y) -/
def copyP (cl : Bool) (mods news privs : List Nat) (v : World) (base : Option Addr) (l : Nat) (ya : Option Addr) (n sz : Nat) (K : World → Nat → Prop) : Prop :=
  ∃ xs : List Value, xs.length = min n l * sz ∧ Row v ya xs ∧ (∀ b, ya.map (·.block) = some b → b ∉ mods) ∧
    syncC cl mods news v fun w => (xs = [] ∧ K w (min n l)) ∨
      ∃ ad cs, base = some ad ∧ ad.spot = none ∧ Blk w ad.block cs ∧ ad.off + xs.length ≤ cs.length ∧ ad.block ∉ privs ∧ ∀ w', Upd w w' ad.block (sets cs ad.off xs) → K w' (min n l)
def copyR (P : Program) (s : St) (v : World) (dst : Option Nat) (t : TypeId) (x y : Operand) (K : St → World → Prop) : Prop :=
  useVs s v [x, y] fun s v xs => match xs, P.underlying t with
    | [.slice base l _, .slice ya n _], some (.slice e) => match sizeOfN P e with
      | some sz => copyP s.clean (s.mods.map (·.2)) (s.news.map (·.2)) s.privs v base l ya n sz fun w m => K (s.synced.put dst (.v (.int .i64 m))) w
      | none => False
    | _, _ => False
theorem R_copy {t tx : TypeId} {x y : Operand} (ho : o.op = .call { callee := .builtin .copy, args := #[x, y], argTypes := #[t, tx] }) (h : copyR P s v o.dst t x y K) (hr : Rel s v a w) : o.wp P a w (P1 Tt s a o.dst K) Q := by
  obtain ⟨s1, v1, r1, e1, h1⟩ := useVs_sound h hr
  simp only [List.map_cons, List.map_nil] at h1
  split at h1
  · rename_i base l c ya n c' e hxy ht
    simp only [List.cons.injEq, and_true] at hxy
    obtain ⟨hx, hy⟩ := hxy
    split at h1
    · rename_i sz hsz
      obtain ⟨xs, hxl, hrow, hmod, h1⟩ := h1
      have h1 := syncC_sound h1 r1
      have hmin : Nat.min n l = min n l := rfl
      have hfc : ∀ (c : Nat), (Builtin.firstCells sz (min n l) (.slice ya n c)).run P w = .ok xs.toArray w := fun c => by
        have h := hrow.firstCells (P := P) (l := min n l) (c := c) hxl hmod (r1.sees (Ext0.refl w))
        cases ya with
        | none => exact h
        | some ad => exact h
      rcases h1 with ⟨rfl, hk⟩ | ⟨ad, cs, rfl, hsp, hb, hl, hp, hk⟩
      · refine wp_value (x := .int .i64 (min n l : Nat)) (w' := w) ?_ (P1.mk trivial r1.synced (e1.trans (Ext.of_hp rfl)) (x := .v _) rfl hk)
        cases base <;> simp [execOp, ho, resolve, invoke, builtin, hx, hy, Builtin.copy_, run_underlying ht, Builtin.lenOf, hmin, run_sizeN hsz, hfc, storeCells, goInt]
      · obtain ⟨T, lo, hi', hb, hf⟩ := hb
        obtain ⟨ab, ao, asp⟩ := ad
        simp only at hsp hb hl hp hk
        subst hsp
        obtain ⟨w', hst, g1, g2, g3, g4, g5, g6⟩ := run_storeCells_row (P := P) (off := ao) (xs := xs) hb (by simp only; omega) hl hrow.2
        have hu : Upd w w' ab (sets cs ao xs) := ⟨g1, g2, g3, g4, g5, ⟨T, lo, hi', by rw [sets_eq _ _ _ hl]; exact g6, by
          rw [sets_eq _ _ _ hl]
          have : (spl cs ao xs).length = cs.length := by unfold spl; simp; omega
          omega⟩, Plain.kept hb g6⟩
        refine wp_value (x := .int .i64 (min n l : Nat)) (w' := w') ?_ (P1.mk trivial (r1.synced.upd rfl rfl hu hp) (e1.trans (Ext.of_hp rfl)) (x := .v _) rfl (hk w' hu))
        simp [execOp, ho, resolve, invoke, builtin, hx, hy, Builtin.copy_, run_underlying ht, Builtin.lenOf, hmin, run_sizeN hsz, hfc, hst, goInt]
    · exact h1.elim
  · exact h1.elim

/-! clear of a slice -/
def clrP (cl : Bool) (mods news privs : List Nat) (v : World) (base : Option Addr) (n : Nat) (z : List Value) (K : World → Prop) : Prop :=
  syncC cl mods news v fun w => (n = 0 ∧ K w) ∨
    ∃ ad cs, base = some ad ∧ ad.spot = none ∧ Blk w ad.block cs ∧ ad.off + n * z.length ≤ cs.length ∧ ad.block ∉ privs ∧ ∀ w', Upd w w' ad.block (sets cs ad.off (reps z n)) → K w'
def clrR (P : Program) (s : St) (v : World) (t : TypeId) (m : Operand) (K : St → World → Prop) : Prop :=
  useVs s v [m] fun s v xs => match xs, P.underlying t with
    | [.slice base n _], some (.slice e) => match zeroOf P e with
      | some z => match z.cells.toList.all (·.oneCell') with
        | true => clrP s.clean (s.mods.map (·.2)) (s.news.map (·.2)) s.privs v base n z.cells.toList fun w => K s.synced w
        | false => False
      | none => False
    | _, _ => False
theorem reps_mem {z : List Value} {u : Value} : ∀ {n : Nat}, u ∈ reps z n → u ∈ z
  | n + 1, h => by
    rcases List.mem_append.1 (show u ∈ z ++ reps z n from h) with h | h
    · exact h
    · exact reps_mem h
theorem R_clr {t : TypeId} {m : Operand} (ho : o.op = .call { callee := .builtin .clear, args := #[m], argTypes := #[t] }) (h : clrR P s v t m (fun s v => K (s.put o.dst .no) v)) (hr : Rel s v a w) : o.wp P a w (P1 Tt s a o.dst K) Q := by
  obtain ⟨s1, v1, r1, e1, h1⟩ := useVs_sound h hr
  simp only [List.map_cons, List.map_nil] at h1
  split at h1
  · rename_i base n c e hxy ht
    simp only [List.cons.injEq, and_true] at hxy
    split at h1
    · rename_i z hz
      split at h1
      · rename_i hall
        have h1 := syncC_sound h1 r1
        have zero : n = 0 → (Builtin.clear_ #[t] o.type #[.slice base n c]).run P w = .ok (.tuple #[]) w := fun hn => by
          subst hn
          cases base <;> simp [Builtin.clear_, run_underlying ht]
        rcases h1 with ⟨hn, hk⟩ | ⟨ad, cs, rfl, hsp, hb, hl, hp, hk⟩
        · exact wp_value (x := .tuple #[]) (w' := w) (by simp [execOp, ho, resolve, invoke, builtin, hxy, zero hn]) (P1.mk trivial r1.synced (e1.trans (Ext.of_hp rfl)) (x := .no) trivial hk)
        · have hlen := reps_length z.cells.toList n
          have hone : ∀ x ∈ reps z.cells.toList n, x.oneCell' = true := fun x hx => List.all_eq_true.1 hall x (reps_mem hx)
          obtain ⟨T, lo, hi', hb, hf⟩ := hb
          obtain ⟨ab, ao, asp⟩ := ad
          simp only at hsp hb hl hp hk
          subst hsp
          obtain ⟨w', hst, g1, g2, g3, g4, g5, g6⟩ := run_storeCells_row (P := P) (off := ao) (xs := reps z.cells.toList n) hb (by simp only; omega) (by omega) hone
          have hu : Upd w w' ab (sets cs ao (reps z.cells.toList n)) := ⟨g1, g2, g3, g4, g5, ⟨T, lo, hi', by rw [sets_eq _ _ _ (by omega)]; exact g6, by
            rw [sets_eq _ _ _ (by omega)]
            have : (spl cs ao (reps z.cells.toList n)).length = cs.length := by unfold spl; simp; omega
            omega⟩, Plain.kept hb g6⟩
          refine wp_value (x := .tuple #[]) (w' := w') ?_ (P1.mk trivial (r1.synced.upd rfl rfl hu hp) (e1.trans (Ext.of_hp rfl)) (x := .no) trivial (hk w' hu))
          cases n with
          | zero =>
            have he : w' = w := by
              have : (storeCells ⟨ab, ao, none⟩ (reps z.cells.toList 0)).run P w = .ok () w := rfl
              rw [this] at hst; injection hst with _ h; exact h.symm
            subst he
            simp [execOp, ho, resolve, invoke, builtin, hxy, zero rfl]
          | succ n =>
            have : (storeCells ⟨ab, ao, none⟩ (Builtin.zeroCells z.cells (n + 1)).toList).run P w = .ok () w' := by
              rw [zero_reps]; exact hst
            simp [execOp, ho, resolve, invoke, builtin, hxy, Builtin.clear_, run_underlying ht, run_zero hz, this]
      · exact h1.elim
    · exact h1.elim
  · exact h1.elim

/-! []byte(s) -/
def bytesR (P : Program) (s : St) (v : World) (dst : Option Nat) (src t : TypeId) (x : Operand) (K : St → World → Prop) : Prop :=
  match P.underlying src, P.underlying t, s.val x with
  | some .string, some (.slice e), some (.string b) => match P.underlying e with
    | some (.int .u8) => ∀ w b' cap, Step v w (s.mods.map (·.2)) (b' :: s.news.map (·.2)) → b.size ≤ cap → Blk w b' (byteCells b ++ List.replicate (cap - b.size) (.int .u8 0)) →
        K (s.synced.put dst (.v (.slice (some ⟨b', 0, none⟩) b.size cap))) w
    | _ => False
  | _, _, _ => False
theorem R_bytes {src t : TypeId} {x : Operand} (ho : o.op = .convert src t x) (h : bytesR P s v o.dst src t x K) (hr : Rel s v a w) : o.wp P a w (P1 (Ext0 w) s a o.dst K) Q := by
  unfold bytesR at h
  split at h
  · rename_i e b hs ht hx
    split at h
    · rename_i he
      have hrun := run_bytes_of_string (P := P) w src t e b hs ht he
      generalize hcap : grownCap w b.size 0 e = cap at hrun
      have hge : b.size ≤ cap := by rw [← hcap]; exact grownCap_ge w b.size 0 e
      have harr : bytesRow b cap = (byteCells b ++ List.replicate (cap - b.size) (Value.int .u8 0)).toArray := by
        apply Array.ext'; simp [bytesRow, byteCells]
      have hlen : (byteCells b ++ List.replicate (cap - b.size) (Value.int .u8 0)).length = cap := by simp [byteCells_length]; omega
      rw [harr] at hrun
      generalize hcells : byteCells b ++ List.replicate (cap - b.size) (Value.int .u8 0) = cells at hrun hlen
      simp only [List.size_toArray, hlen] at hrun
      obtain ⟨g1, g2, g3, g4, g5, g6⟩ := alloc_facts w.drew (.cells cells.toArray e (cap, cap + 1))
      have hnp : newPub s v (fun w' b' => Blk w' b' cells) (fun s w' b' => K (s.put o.dst (.v (.slice (some ⟨b', 0, none⟩) b.size cap))) w') := fun w' b' hst hI => h w' b' cap hst hge (by rw [hcells]; exact hI)
      obtain ⟨r1, hk⟩ := newPub_sound hnp hr (w.drew.alloc (.cells cells.toArray e (cap, cap + 1))) g1 g2 g3 g4 g5 ⟨e, cap, cap + 1, g6, .inr (by omega)⟩
      refine wp_value (x := .slice (some ⟨w.heap.size, 0, none⟩) b.size cap) (w' := w.drew.alloc (.cells cells.toArray e (cap, cap + 1))) ?_ (P1.mk ⟨by rw [g4]; exact Nat.le_succ _, g5⟩ r1 (Ext.of_hp rfl) (x := .v _) rfl hk)
      simp [execOp, ho, val_sound hx hr, hrun]
    · exact h.elim
  · exact h.elim

/-! []byte("..") of a constant: a literal's row, and a mark on it -/
def markR (P : Program) (s : St) (v : World) (dst : Option Nat) (t : TypeId) (x : Operand) (K : St → World → Prop) : Prop :=
  match P.underlying t with
  | some (.slice e) => match P.underlying e, s.ev x with
    | some (.int .u8), .q k n => match s.hp.getD k none with
      | some pb => sync s v fun s v => ∀ w, Mark v w pb.b pb.cs → K ((s.unpriv k pb.b).put dst (.v (.slice (some ⟨pb.b, 0, none⟩) n n))) w
      | none => False
    | _, _ => False
  | _ => False
theorem R_mark {t : TypeId} {x : Operand} (ho : o.op = .convert t t x) (h : markR P s v o.dst t x K) (hr : Rel s v a w) : o.wp P a w (P1 Tt s a o.dst K) Q := by
  unfold markR at h
  split at h
  · rename_i e ht
    split at h
    · rename_i k n he hx
      split at h
      · rename_i pb hk
        have hk := hp_getD hk
        obtain ⟨r1, e1, h1⟩ := sync_sound h hr
        have hv := hr.ev x
        rw [hx] at hv
        obtain ⟨pb', hk', hv⟩ := hv
        rw [hk] at hk'
        injection hk' with hk'
        injection hk' with hk'
        subst hk'
        obtain ⟨T, hT⟩ := r1.priv k pb hk
        have hsh : w.shape? pb.b = some (T, pb.cs.toArray.size) := by unfold World.shape?; rw [hT]
        have hf : (w.freeze ⟨pb.b, pb.cs.toArray.size, none⟩ 1).heap[pb.b]? = some (.cells pb.cs.toArray T (pb.cs.toArray.size, pb.cs.toArray.size + 1)) := by
          unfold World.freeze
          rw [if_neg (by decide)]
          show (w.heap.modify pb.b _)[pb.b]? = _
          rw [Array.getElem?_modify, if_pos rfl, hT]
          rfl
        have hu : Mark w (w.freeze ⟨pb.b, pb.cs.toArray.size, none⟩ 1) pb.b pb.cs := by
          refine ⟨by unfold World.freeze; rw [if_neg (by decide)], by unfold World.freeze; rw [if_neg (by decide)], by unfold World.freeze; rw [if_neg (by decide)], ?_, fun b' hb' => ?_, T, _, _, hf, .inr (by simp)⟩
          · unfold World.freeze
            rw [if_neg (by decide)]
            show (w.heap.modify pb.b _).size = _
            rw [Array.size_modify]
          · unfold World.freeze
            rw [if_neg (by decide)]
            show (w.heap.modify pb.b _)[b']? = _
            rw [Array.getElem?_modify, if_neg (fun e => hb' e.symm)]
        have hnp : pb.b ∉ (s.synced.unpriv k pb.b).privs := by
          intro hm
          unfold St.privs at hm
          rw [List.mem_filterMap] at hm
          obtain ⟨q, hq, hqe⟩ := hm
          cases q with
          | none => simp at hqe
          | some pb2 =>
            simp at hqe
            obtain ⟨j, hj⟩ := List.getElem?_of_mem hq
            have hj : (s.hp.set k none)[j]? = some (some pb2) := hj
            by_cases ejk : k = j
            · subst ejk
              rw [List.getElem?_set] at hj
              simp at hj
            · rw [List.getElem?_set_ne ejk] at hj
              exact r1.inj k j pb pb2 ejk hk hj hqe.symm
        have r2 := (r1.unpriv (k := k) (pb := pb) hk).mark rfl rfl hu hnp
        refine wp_value (x := .slice (some ⟨pb.b, 0, none⟩) n n) (w' := w.freeze ⟨pb.b, pb.cs.toArray.size, none⟩ 1) ?_ (P1.mk trivial r2 (e1.trans (Ext.unpriv _ _ _)) (x := .v _) rfl (h1 _ hu))
        simp only [execOp, ho, hv]
        simp [convert, run_underlying ht, run_underlying he, markStringish, hsh]
      · exact h.elim
    · exact h.elim
  · exact h.elim

end
end Go.V

end
section
/- Ranging over maps, calls; every operation under one name. -/
namespace Go.V
open Go.RowKit
set_option linter.unusedVariables false
set_option linter.unusedSimpArgs false

section
variable {P : Program} {o : Oper} {s : St} {v : World} {K : St → World → Prop} {a : Act} {w : World} {Q : Exit → Act → World → Prop}

/-- Block r goes over map m, which holds l; the keys 'done' have come. -/
def IterG {κ : Type} [DecidableEq κ] (enc : κ → Value) (w : World) (r m : Nat) (l : List (κ × Value)) (done : List κ) : Prop :=
  ∃ es clock since seen last, w.heap[r]? = some (.mapIter (some m) since seen last) ∧ w.heap[m]? = some (.map es clock) ∧ es.toList.map (fun e => (e.key, e.val)) = l.map (fun p => (enc p.1, p.2)) ∧
    (∀ e ∈ es.toList, e.born < clock ∧ e.born < since ∧ e.born < last) ∧ (es.toList.map (·.born)).Nodup ∧ (l.map (·.1)).Nodup ∧
    (∀ (j : Nat) e p, es[j]? = some e → l[j]? = some p → (e.born ∈ seen ↔ p.1 ∈ done))
def IterO {κ : Type} [DecidableEq κ] (enc : κ → Value) (w : World) (r : Nat) (m : Option Nat) (l : List (κ × Value)) (done : List κ) : Prop :=
  match m with
  | none => l = [] ∧ ∃ since seen last, w.heap[r]? = some (.mapIter none since seen last)
  | some m => IterG enc w r m l done

def rangeG (s : St) (v : World) (dst : Option Nat) {κ : Type} [DecidableEq κ] (enc : κ → Value) (m : Option Nat) (K : St → World → Prop) : Prop :=
  ∃ l, MapO enc v m l ∧ noModM s m (newPub s v (fun w b => IterO enc w b m l []) fun s w b => K (s.put dst (.a ⟨b, 0, none⟩)) w)
def rangeR0 (P : Program) (s : St) (v : World) (dst : Option Nat) (t : TypeId) (x : Operand) (K : St → World → Prop) : Prop :=
  match P.underlying t, s.val x with
  | some (.map tk _), some (.map m) => match P.underlying tk with
    | some (.int kd) => rangeG s v dst (Value.int kd) m K
    | some .string => rangeG s v dst Value.string m K
    | _ => False
  | _, _ => False
theorem rangeG_sound {κ : Type} [DecidableEq κ] {enc : κ → Value} {t tk e : TypeId} {x : Operand} {m : Option Nat} (ho : o.op = .range t x) (hu : P.underlying t = some (.map tk e)) (hx : a.eval x = .map m) (h : rangeG s v o.dst enc m K) (hr : Rel s v a w) :
    o.wp P a w (P1 (Ext0 w) s a o.dst K) Q := by
  obtain ⟨l, hm, h⟩ := h
  obtain ⟨hmod, h⟩ := noModM_sound h
  cases m with
  | none =>
    obtain rfl : l = [] := hm
    obtain ⟨g1, g2, g3, g4, g5, g6⟩ := alloc_facts w (.mapIter none 0 #[] 0)
    obtain ⟨r1, h1⟩ := newPub_sound h hr _ g1 g2 g3 g4 g5 ⟨rfl, _, _, _, g6⟩
    refine wp_value (x := .pointer (some ⟨w.heap.size, 0, none⟩)) (w' := w.alloc (.mapIter none 0 #[] 0)) ?_ (P1.mk ⟨by omega, g5⟩ r1 (Ext.of_hp rfl) (x := .a _) rfl h1)
    simp [execOp, ho, Instr.range, run_underlying hu, hx]
  | some b =>
    obtain ⟨es, clock, hb, hl, hborn, hnd, hkeys⟩ := hm
    have hb' := Sees.map (hr.sees (Ext0.refl w)) hb (hmod b rfl)
    have hg : (getObj b).run P w = .ok (.map es clock) w := by simp [getObj, Sem.run, hb']
    obtain ⟨g1, g2, g3, g4, g5, g6⟩ := alloc_facts w (.mapIter (some b) clock #[] clock)
    obtain ⟨r1, h1⟩ := newPub_sound h hr _ g1 g2 g3 g4 g5 (show IterO enc _ _ _ _ _ from ⟨es, clock, clock, #[], clock, g6, by rw [g5 b (Array.getElem?_eq_some_iff.1 hb').1]; exact hb', hl, fun e he => ⟨hborn e he, hborn e he, hborn e he⟩, hnd, hkeys, fun j e p _ _ => by simp⟩)
    refine wp_value (x := .pointer (some ⟨w.heap.size, 0, none⟩)) (w' := w.alloc (.mapIter (some b) clock #[] clock)) ?_ (P1.mk ⟨by omega, g5⟩ r1 (Ext.of_hp rfl) (x := .a _) rfl h1)
    simp [execOp, ho, Instr.range, run_underlying hu, hx, hg]
theorem R_range0 {t : TypeId} {x : Operand} (ho : o.op = .range t x) (h : rangeR0 P s v o.dst t x K) (hr : Rel s v a w) : o.wp P a w (P1 (Ext0 w) s a o.dst K) Q := by
  unfold rangeR0 at h
  split at h
  · rename_i tk te m hu hx
    split at h
    · exact rangeG_sound ho hu (val_sound hx hr) h hr
    · exact rangeG_sound ho hu (val_sound hx hr) h hr
    · exact h.elim
  · exact h.elim

def allL : List Lf → (List Value → Prop) → Prop
  | [], K => K []
  | .i k :: ls, K => ∀ n : Int, allL ls fun vs => K (.int k n :: vs)
  | .b :: ls, K => ∀ x : Bool, allL ls fun vs => K (.bool x :: vs)
  | .s :: ls, K => ∀ x : ByteArray, allL ls fun vs => K (.string x :: vs)
  | .p :: ls, K => ∀ x : Option Addr, allL ls fun vs => K (.pointer x :: vs)
  | .sl :: ls, K => ∀ (x : Option Addr) (l c : Nat), allL ls fun vs => K (.slice x l c :: vs)
  | .m :: ls, K => ∀ x : Option Nat, allL ls fun vs => K (.map x :: vs)
theorem allL_sound {ls : List Lf} : ∀ {K K' : List Value → Prop}, allL ls K → exL ls K' → ∃ vs, K vs ∧ K' vs := by
  induction ls with
  | nil => intro K K' h h'; exact ⟨[], h, h'⟩
  | cons l ls ih =>
    intro K K' h h'
    cases l <;> simp only [allL, exL] at h h'
    case sl =>
      obtain ⟨x, l, c, h'⟩ := h'
      obtain ⟨vs, h1, h2⟩ := ih (h x l c) h'
      exact ⟨_, h1, h2⟩
    all_goals
      obtain ⟨x, h'⟩ := h'
      obtain ⟨vs, h1, h2⟩ := ih (h x) h'
      exact ⟨_, h1, h2⟩
/-- Of all values of a type. -/
def allT (P : Program) (t : TypeId) (K : Value → Prop) : Prop :=
  match aggOf P t with
  | some (true, n) => match leafs P 6 t with
    | some ls => allL ls fun vs => K (.agg vs.toArray)
    | none => ∀ l : List Value, l.length = n → K (.agg l.toArray)
  | some (false, _) => match P.underlying t with
    | some d => match Lf.of d with
      | some lf => allL [lf] fun vs => match vs with
        | [x] => K x
        | _ => True
      | none => ∀ x : Value, K x
    | none => False
  | none => False
/-- A value that is of a type by sight. -/
def IsT (P : Program) (t : TypeId) (y : Value) : Prop := exT P t fun x => x = y
theorem allT_sound {t : TypeId} {K : Value → Prop} {y : Value} (h : allT P t K) (hy : IsT P t y) : K y := by
  unfold allT at h
  unfold IsT exT at hy
  split at h
  · rename_i n ha
    rw [ha] at hy
    simp only at hy
    split at h
    · rename_i ls hl
      rw [hl] at hy
      obtain ⟨vs, h1, h2⟩ := allL_sound h hy
      rw [← h2]; exact h1
    · rename_i hl
      rw [hl] at hy
      obtain ⟨l, h1, h2⟩ := hy
      rw [← h2]; exact h l h1
  · rename_i n ha
    rw [ha] at hy
    simp only at hy
    split at h
    · rename_i d hd
      rw [hd] at hy
      simp only at hy
      split at h
      · rename_i lf hl
        rw [hl] at hy
        obtain ⟨vs, h1, h2⟩ := allL_sound h hy
        split at h2
        · rw [← h2]; exact h1
        · exact h2.elim
      · rename_i hl
        rw [hl] at hy
        exact h y
    · exact h.elim
  · exact h.elim

/-- Of what type the map is over which an iterator goes: a hint alone. -/
def St.hint (s : St) (dst : Option Nat) (t : Nat) : St := match dst with
  | some d => { s with its := (d, t) :: s.its }
  | none => s
theorem Rel.hint {s : St} {v w : World} {a : Act} (h : Rel s v a w) (dst : Option Nat) (t : Nat) : Rel (s.hint dst t) v a w := by
  cases dst with
  | none => exact h
  | some d => exact ⟨h.defers, h.size, h.env, h.priv, h.inj, h.step, h.clean, h.lnk⟩
def findIt : List (Nat × Nat) → Nat → Option Nat
  | [], _ => none
  | (d, t) :: l, x => match Nat.beq d x with
    | true => some t
    | false => findIt l x
def St.itOf (P : Program) (s : St) (x : Operand) : Option (TypeId × TypeId) := match x with
  | .tmp t => match findIt s.its t with
    | some ty => match P.underlying ty with
      | some (.map tk te) => some (tk, te)
      | _ => none
    | none => none
  | _ => none
def rangeR (P : Program) (s : St) (v : World) (dst : Option Nat) (t : TypeId) (x : Operand) (K : St → World → Prop) : Prop :=
  rangeR0 P s v dst t x fun s v => K (s.hint dst t) v
theorem R_range {t : TypeId} {x : Operand} (ho : o.op = .range t x) (h : rangeR P s v o.dst t x K) (hr : Rel s v a w) : o.wp P a w (P1 (Ext0 w) s a o.dst K) Q := by
  refine Oper.wp_mono (fun a' w' h => ?_) (R_range0 ho h hr)
  obtain ⟨s', v', h1, h2, h3, h4⟩ := h
  exact ⟨_, v', h1.hint o.dst t, h2.trans (Ext.of_hp (by cases o.dst <;> rfl)), h3, h4⟩

/-- What the iterator stands at. -/
def Cur (P : Program) (w : World) (r : Nat) (k x : Value) : Prop := ∀ sp, (Instr.entry (.pointer (some ⟨r, 0, sp⟩))).run P w = .ok (.tuple #[k, x]) w

/-- From v to w an iterator took a step. -/
structure IStep (v w : World) (r : Nat) : Prop where
  os : w.os = v.os
  tape : w.tape = v.tape
  output : w.output = v.output
  size : w.heap.size = v.heap.size
  oth : ∀ b', b' ≠ r → w.heap[b']? = v.heap[b']?

def nextG (P : Program) (s : St) (v : World) (dst : Option Nat) {κ : Type} [DecidableEq κ] (enc : κ → Value) (te : TypeId) (r : Nat) (K : St → World → Prop) : Prop :=
  sync s v fun s v => ∃ m l done, IterO enc v r m l done ∧ (∀ p ∈ l, IsT P te p.2) ∧
    (∀ k, allT P te fun x => (k, x) ∈ l → k ∉ done → ∀ w, IStep v w r → IterO enc w r m l (k :: done) → Cur P w r (enc k) x → K (s.put dst (.v (.tuple #[.bool true, enc k, x]))) w) ∧
    ((∀ p ∈ l, p.1 ∈ done) → ∀ w, IStep v w r → IterO enc w r m l done → K (s.put dst (.v (.tuple #[.bool false]))) w)
def nextR (P : Program) (s : St) (v : World) (dst : Option Nat) (x : Operand) (isString : Bool) (K : St → World → Prop) : Prop :=
  match isString, s.ev x, s.itOf P x with
  | false, .a ad, some (tk, te) => match ad.off with
    | 0 => match P.underlying tk with
      | some (.int kd) => nextG P s v dst (Value.int kd) te ad.block K
      | some .string => nextG P s v dst Value.string te ad.block K
      | _ => False
    | _ => False
  | _, _, _ => False
def entryG (P : Program) (s : St) (v : World) (dst : Option Nat) {κ : Type} (enc : κ → Value) (te : TypeId) (r : Nat) (K : St → World → Prop) : Prop :=
  sync s v fun s v => ∃ k, exT P te fun x => Cur P v r (enc k) x ∧ K (s.put dst (.v (.tuple #[enc k, x]))) v
def entryR (P : Program) (s : St) (v : World) (dst : Option Nat) (x : Operand) (K : St → World → Prop) : Prop :=
  match s.ev x, s.itOf P x with
  | .a ad, some (tk, te) => match ad.off with
    | 0 => match P.underlying tk with
      | some (.int kd) => entryG P s v dst (Value.int kd) te ad.block K
      | some .string => entryG P s v dst Value.string te ad.block K
      | _ => False
    | _ => False
  | _, _ => False
theorem entryG_sound {κ : Type} {enc : κ → Value} {te : TypeId} {x : Operand} {r : Nat} {sp : Option Nat} (ho : o.op = .entry x) (hx : a.eval x = .pointer (some ⟨r, 0, sp⟩)) (h : entryG P s v o.dst enc te r K) (hr : Rel s v a w) :
    o.wp P a w (P1 (Ext0 w) s a o.dst K) Q := by
  obtain ⟨r1, e1, k, h1⟩ := sync_sound h hr
  obtain ⟨y, hc, hk⟩ := exT_sound h1
  refine wp_value (x := .tuple #[enc k, y]) (w' := w) ?_ (P1.mk (Ext0.refl w) r1 e1 (x := .v _) rfl hk)
  simp only [execOp, ho, hx]
  rw [Sem.run_bind, hc sp]
  rfl
theorem R_entry {x : Operand} (ho : o.op = .entry x) (h : entryR P s v o.dst x K) (hr : Rel s v a w) : o.wp P a w (P1 (Ext0 w) s a o.dst K) Q := by
  unfold entryR at h
  split at h
  · rename_i ad tk te hx ht
    have hx' := hr.ev x
    rw [hx] at hx'; have hx' : a.eval x = _ := hx'
    split at h
    · rename_i hoff
      obtain ⟨ab, ao, asp⟩ := ad
      simp only at hoff h
      subst hoff
      split at h
      · exact entryG_sound ho hx' h hr
      · exact entryG_sound ho hx' h hr
      · exact h.elim
    · exact h.elim
  · exact h.elim

theorem nextG_sound {κ : Type} [DecidableEq κ] {enc : κ → Value} {te : TypeId} {x : Operand} {r : Nat} {sp : Option Nat} (ho : o.op = .next x false) (hx : a.eval x = .pointer (some ⟨r, 0, sp⟩)) (h : nextG P s v o.dst enc te r K) (hr : Rel s v a w) :
    o.wp P a w (P1 Tt s a o.dst K) Q := by
  obtain ⟨r1, e1, m, l, done, hit, hty, hk1, hk2⟩ := sync_sound h hr
  have relI : ∀ w', IStep w w' r → (∃ sz sn ls mm, w.heap[r]? = some (.mapIter mm sz sn ls)) → Rel s.synced w' a w' := fun w' hs hir => by
    obtain ⟨sz, sn, ls, mm, hir⟩ := hir
    refine ⟨r1.defers, r1.size, r1.env, fun k pb hk => ?_, r1.inj, Step.refl _ _, fun _ => rfl, fun k b hkb => by rcases hkb with e | e <;> cases e⟩
    obtain ⟨T, hT⟩ := r1.priv k pb hk
    exact ⟨T, by rw [hs.oth _ (fun e => by rw [e, hir] at hT; injection hT with hT; cases hT)]; exact hT⟩
  cases m with
  | none =>
    obtain ⟨rfl, since, seen, last, hir⟩ := hit
    have hs : IStep w w.drew r := ⟨rfl, rfl, rfl, rfl, fun _ _ => rfl⟩
    have hs0 : IStep w w r := ⟨rfl, rfl, rfl, rfl, fun _ _ => rfl⟩
    have hg : (getObj r).run P w = .ok (.mapIter none since seen last) w := by simp [getObj, Sem.run, hir]
    refine wp_value (x := .tuple #[.bool false]) (w' := w) ?_ (P1.mk trivial (relI w hs0 ⟨_, _, _, _, hir⟩) e1 (x := .v _) rfl (hk2 (by simp) w hs0 ⟨rfl, _, _, _, hir⟩))
    simp [execOp, ho, hx, Instr.next, hg]
  | some m =>
    obtain ⟨es, clock, since, seen, last, hir, hb, hl, hborn, hnd, hkeys, hseen⟩ := hit
    have hg : (getObj r).run P w = .ok (.mapIter (some m) since seen last) w := by simp [getObj, Sem.run, hir]
    have hg2 : (getObj m).run P w = .ok (.map es clock) w := by simp [getObj, Sem.run, hb]
    have hmr : m ≠ r := fun e => by rw [e, hir] at hb; injection hb with hb; cases hb
    have hodd : (!seen.isEmpty && !es.isEmpty && es.all (·.born ≥ last)) = false := by
      by_cases he : es.isEmpty = true
      · simp [he]
      · have hpos : 0 < es.size := by
          rcases Nat.eq_zero_or_pos es.size with h | h
          · exact absurd (by simpa using h) he
          · exact h
        have : (es.all (·.born ≥ last)) = false := by
          rw [Bool.eq_false_iff]
          intro hc
          rw [Array.all_eq_true] at hc
          have h1 := hc 0 hpos
          have h2 := (hborn es[0] (by simp)).2.2
          simp only [decide_eq_true_eq] at h1
          omega
        simp [this]
    let left := es.filter fun e => !seen.contains e.born
    have hold : left.filter (·.born < since) = left := by
      apply Array.ext'
      rw [Array.toList_filter, List.filter_eq_self]
      intro e he
      simp only [left, Array.toList_filter, List.mem_filter] at he
      simpa using (hborn e he.1).2.1
    have hnew : left.filter (·.born ≥ since) = #[] := by
      apply Array.ext'
      rw [Array.toList_filter, List.filter_eq_nil_iff.2]
      intro e he
      simp only [left, Array.toList_filter, List.mem_filter] at he
      have := (hborn e he.1).2.1
      simp; omega
    by_cases hleft : left.isEmpty = true
    · have hall : ∀ p ∈ l, p.1 ∈ done := by
        intro p hp
        obtain ⟨j, hj, hpj⟩ := List.mem_iff_getElem.1 hp
        have hlen : es.toList.length = l.length := by simpa using congrArg List.length hl
        have hje : j < es.size := by simpa using (by omega : j < es.toList.length)
        refine (hseen j es[j] p (by simp) (by rw [List.getElem?_eq_getElem hj, hpj])).1 ?_
        by_cases hc : es[j].born ∈ seen
        · exact hc
        · exfalso
          have : es[j] ∈ left := by
            simp only [left, Array.mem_filter]
            exact ⟨by simp, by simpa using hc⟩
          have hz : left = #[] := by simpa using hleft
          rw [hz] at this; simp at this
      have hz : left = #[] := by simpa using hleft
      have hs0 : IStep w w r := ⟨rfl, rfl, rfl, rfl, fun _ _ => rfl⟩
      refine wp_value (x := .tuple #[.bool false]) (w' := w) ?_ (P1.mk trivial (relI w hs0 ⟨_, _, _, _, hir⟩) e1 (x := .v _) rfl (hk2 hall w hs0 ⟨es, clock, since, seen, last, hir, hb, hl, hborn, hnd, hkeys, hseen⟩))
      have hz' : (es.filter fun e => !seen.contains e.born) = #[] := hz
      simp only [execOp, ho, hx, Instr.next, Sem.run_bind, hg, Result.andThen_ok, hg2, hodd, Bool.false_eq_true, if_false, hz']
      simp [Question.forced]
    · have hpos : 0 < left.size := by
        rcases Nat.eq_zero_or_pos left.size with h | h
        · exact absurd (by simpa using h) hleft
        · exact h
      have hne : left.isEmpty = false := by simpa using hleft
      obtain ⟨idx, w1, hch, hidx, hw1⟩ : ∃ idx w1, (choose (.mapNext left.size)).run P w = .ok idx w1 ∧ idx < left.size ∧ (w1 = w ∨ w1 = w.drew) := by
        rw [run_choose]
        by_cases hf : (Question.mapNext left.size).forced = true
        · exact ⟨0, w, by rw [if_pos hf], hpos, .inl rfl⟩
        · exact ⟨_, w.drew, by rw [if_neg hf]; rfl, Nat.mod_lt _ hpos, .inr rfl⟩
      have heap1 : w1.heap = w.heap := by rcases hw1 with rfl | rfl <;> rfl
      obtain ⟨e, he⟩ : ∃ e, left[idx]? = some e := ⟨_, Array.getElem?_eq_getElem hidx⟩
      have hmem : e ∈ left := Array.mem_of_getElem? he
      obtain ⟨hees, hns⟩ : e ∈ es ∧ ¬ e.born ∈ seen := by
        simp only [left, Array.mem_filter] at hmem
        exact ⟨hmem.1, by simpa using hmem.2⟩
      obtain ⟨j, hj, hje⟩ := Array.mem_iff_getElem.1 hees
      have hlen : es.toList.length = l.length := by simpa using congrArg List.length hl
      have hjl : j < l.length := by rw [← hlen]; simpa using hj
      have hkv : ∀ (i : Nat) (hi : i < es.size) (hi' : i < l.length), es[i].key = enc l[i].1 ∧ es[i].val = l[i].2 := fun i hi hi' => by
        have := congrArg (fun q => q[i]?) hl
        simp only [List.getElem?_map, List.getElem?_eq_getElem hi'] at this
        rw [List.getElem?_eq_getElem (by simpa using hi)] at this
        simpa using this
      obtain ⟨k1, k2⟩ := hkv j hj hjl
      rw [hje] at k1 k2
      have hnd' : l[j].1 ∉ done := fun hd => hns ((hseen j e l[j] (by rw [Array.getElem?_eq_getElem hj, hje]) (List.getElem?_eq_getElem hjl)).2 hd)
      obtain ⟨w', hrun, g1, g2, g3, g4, g5, g6⟩ : ∃ w', (setObj r (.mapIter (some m) since (seen.push e.born) clock)).run P w1 = .ok () w' ∧ w'.os = w.os ∧ w'.tape = w.tape ∧ w'.output = w.output ∧ w'.heap.size = w.heap.size ∧ (∀ b', b' ≠ r → w'.heap[b']? = w.heap[b']?) ∧ w'.heap[r]? = some (.mapIter (some m) since (seen.push e.born) clock) := by
        refine ⟨{ w1 with heap := w1.heap.setIfInBounds r (.mapIter (some m) since (seen.push e.born) clock) }, by simp [setObj, Sem.run, heap1, hir], ?_, ?_, ?_, by simp [heap1], fun b' hb' => ?_, ?_⟩
        · rcases hw1 with rfl | rfl <;> rfl
        · rcases hw1 with rfl | rfl <;> rfl
        · rcases hw1 with rfl | rfl <;> rfl
        · show (w1.heap.setIfInBounds r _)[b']? = _
          rw [Array.getElem?_setIfInBounds_ne (fun e => hb' e.symm), heap1]
        · show (w1.heap.setIfInBounds r _)[r]? = _
          have := (Array.getElem?_eq_some_iff.1 hir).1
          simp [heap1, this]
      have hs : IStep w w' r := ⟨g1, g2, g3, g4, g5⟩
      have hit' : IterO enc w' r (some m) l (l[j].1 :: done) := by
        refine ⟨es, clock, since, seen.push e.born, clock, g6, by rw [g5 m hmr]; exact hb, hl, fun e he => ⟨(hborn e he).1, (hborn e he).2.1, (hborn e he).1⟩, hnd, hkeys, fun j' e' p' he' hp' => ?_⟩
        have hold' := hseen j' e' p' he' hp'
        have hj' : j' < es.size := (Array.getElem?_eq_some_iff.1 he').1
        have hj'l : j' < l.length := (List.getElem?_eq_some_iff.1 hp').1
        have heq : e'.born = e.born ↔ j' = j := by
          have he'' : es[j'] = e' := (Array.getElem?_eq_some_iff.1 he').2
          constructor
          · intro h
            have h1 : (es.toList.map (·.born))[j']'(by simpa using hj') = (es.toList.map (·.born))[j]'(by simpa using hj) := by simp [he'', hje, h]
            exact (List.getElem_inj hnd).1 h1
          · rintro rfl; rw [← he'', hje]
        have heq2 : p'.1 = l[j].1 ↔ j' = j := by
          have hp'' : l[j'] = p' := (List.getElem?_eq_some_iff.1 hp').2
          constructor
          · intro h
            have h1 : (l.map (·.1))[j']'(by simpa using hj'l) = (l.map (·.1))[j]'(by simpa using hjl) := by simp [hp'', h]
            exact (List.getElem_inj hkeys).1 h1
          · rintro rfl; rw [← hp'']
        simp only [Array.mem_push, List.mem_cons]
        rw [hold', heq, heq2]
        exact or_comm
      have hcur : Cur P w' r (enc l[j].1) l[j].2 := fun sp => by
        have hgr : (getObj r).run P w' = .ok (.mapIter (some m) since (seen.push e.born) clock) w' := by simp [getObj, Sem.run, g6]
        have hgm : (getObj m).run P w' = .ok (.map es clock) w' := by simp [getObj, Sem.run, (g5 m hmr).trans hb]
        have hfind : es.find? (fun y => y.born == e.born) = some e := by
          cases hf : es.find? (fun y => y.born == e.born) with
          | none =>
            rw [Array.find?_eq_none] at hf
            exact absurd (by simp) (hf e hees)
          | some e' =>
            have hp : (e'.born == e.born) = true := by simpa using Array.find?_some hf
            have hp : e'.born = e.born := by simpa using hp
            obtain ⟨j', hj', hje'⟩ := Array.mem_iff_getElem.1 (Array.mem_of_find?_eq_some hf)
            have h1 : (es.toList.map (·.born))[j']'(by simpa using hj') = (es.toList.map (·.born))[j]'(by simpa using hj) := by simp [hje', hje, hp]
            have := (List.getElem_inj hnd).1 h1
            subst this
            rw [← hje', hje]
        simp only [Instr.entry, Sem.run_bind, hgr, Result.andThen_ok, hgm]
        simp [hgm, Result.andThen_ok, hfind, k1, k2]
      have hval := allT_sound (hk1 l[j].1) (hty l[j] (List.getElem_mem hjl)) (by exact List.getElem_mem hjl) hnd' w' hs hit' hcur
      refine wp_value (x := .tuple #[.bool true, enc l[j].1, l[j].2]) (w' := w') ?_ (P1.mk trivial (relI w' hs ⟨_, _, _, _, hir⟩) e1 (x := .v _) rfl hval)
      have hcand : ((if (left.filter (·.born < since)).isEmpty then #[none] else #[]) ++ (left.filter (·.born < since) ++ left.filter (·.born ≥ since)).map some) = left.map some := by
        rw [hold, hnew]; simp [hne]
      have hcand' : ((if ((es.filter fun e => !seen.contains e.born).filter (·.born < since)).isEmpty then #[none] else #[]) ++ ((es.filter fun e => !seen.contains e.born).filter (·.born < since) ++ (es.filter fun e => !seen.contains e.born).filter (·.born ≥ since)).map some) = left.map some := hcand
      simp only [execOp, ho, hx, Instr.next, Sem.run_bind, hg, Result.andThen_ok, hg2, hodd, Bool.false_eq_true, if_false, hcand', Array.size_map, hch]
      simp [he, hrun, k1, k2]

theorem R_next {x : Operand} {b : Bool} (ho : o.op = .next x b) (h : nextR P s v o.dst x b K) (hr : Rel s v a w) : o.wp P a w (P1 Tt s a o.dst K) Q := by
  unfold nextR at h
  split at h
  · rename_i ad tk te hx ht
    have hx' := hr.ev x
    rw [hx] at hx'; have hx' : a.eval x = _ := hx'
    split at h
    · rename_i hoff
      obtain ⟨ab, ao, asp⟩ := ad
      simp only at hoff h
      subst hoff
      split at h
      · exact nextG_sound ho hx' h hr
      · exact nextG_sound ho hx' h hr
      · exact h.elim
    · exact h.elim
  · exact h.elim

/-! ### calls -/
def exTs (P : Program) : List TypeId → (List Value → Prop) → Prop
  | [], K => K []
  | t :: ts, K => exT P t fun x => exTs P ts fun xs => K (x :: xs)
theorem exTs_sound {ts : List TypeId} : ∀ {K : List Value → Prop}, exTs P ts K → ∃ xs, K xs := by
  induction ts with
  | nil => intro K h; exact ⟨[], h⟩
  | cons t ts ih =>
    intro K h
    obtain ⟨x, h⟩ := exT_sound h
    obtain ⟨xs, h⟩ := ih h
    exact ⟨_, h⟩
/-- A call came back with a value of its type. -/
def retT (P : Program) (t : TypeId) (e : Ending) (K : Value → Prop) : Prop :=
  match P.underlying t with
  | some (.tuple ts) => exTs P ts.toList fun xs => e = .returned (.tuple xs.toArray) ∧ K (.tuple xs.toArray)
  | _ => exT P t fun x => e = .returned x ∧ K x
theorem retT_sound {t : TypeId} {e : Ending} {K : Value → Prop} (h : retT P t e K) : ∃ x, e = .returned x ∧ K x := by
  unfold retT at h
  split at h
  · obtain ⟨xs, h⟩ := exTs_sound h; exact ⟨_, h⟩
  · exact exT_sound h
def keepP (s : St) (v w : World) (p : Prop) : Prop :=
  match s.privs with
  | [] => p
  | ps => Keep ps v w ∧ p
theorem keepP_sound {s : St} {v w : World} {p : Prop} (h : keepP s v w p) : Keep s.privs v w ∧ p := by
  unfold keepP at h
  split at h
  · rename_i e; rw [e]; exact ⟨(fun b hb => by cases hb), h⟩
  · exact h
/-- A function of the program's own that has a body. -/
def BodyOk (P : Program) (f : FuncId) : Prop := ∃ fn, P.funcs[f]? = some fn ∧ fn.body.isNone = false ∧ (fn.name == "runtime.NumGoroutine") = false
def callW (P : Program) (qp : Option (List PanicEntry → World → Prop)) (s : St) (v : World) (dst : Option Nat) (t : TypeId) (f : FuncId) (args : List Value) (K : St → World → Prop) : Prop :=
  sync s v fun s w => Calls P f args.toArray w fun e w' => match qp with
    | none => retT P t e fun x => keepP s w w' (K (s.put dst (.v x)) w')
    | some qp => (∃ chain, e = .panicked chain ∧ (match s.dfs with
      | [] => qp chain w'
      | _ => False)) ∨ retT P t e fun x => keepP s w w' (K (s.put dst (.v x)) w')
def callR (P : Program) (qp : Option (List PanicEntry → World → Prop)) (s : St) (v : World) (dst : Option Nat) (t : TypeId) (f : Operand) (args : List Operand) (K : St → World → Prop) : Prop :=
  match f with
  | .func f => match P.funcs[f]? with
    | some fn => match fn.body with
      | some _ => useVs s v args fun s v xs => callW P qp s v dst t f xs K
      | none => useVs s v args fun s v xs => sync s v fun s w => exT P t fun x => ∃ w', (callFunc f xs.toArray).run P w = .ok (.value x) w' ∧ keepP s w w' (K (s.put dst (.v x)) w')
    | none => False
  | f => useVs s v (f :: args) fun s v xs => match xs with
    | .func (.func f) first cap :: xs => BodyOk P f ∧ callW P qp s v dst t f (first.toList ++ xs ++ cap.toList) K
    | _ => False

theorem Rel.kept {w' : World} (hr : Rel s w a w) (hm : s.mods = []) (hn : s.news = []) (hk : Keep s.privs w w') : Rel s w' a w' := by
  refine ⟨hr.defers, hr.size, hr.env, fun k pb h => ?_, hr.inj, by rw [hn]; exact Step.refl _ _, fun _ => rfl, fun k b hkb => by rw [hm, hn] at hkb; rcases hkb with e | e <;> cases e⟩
  obtain ⟨T, hT⟩ := hr.priv k pb h
  refine ⟨T, ?_⟩
  rw [hk pb.b (by unfold St.privs; rw [List.mem_filterMap]; exact ⟨some pb, List.mem_of_getElem? h, rfl⟩)]
  exact hT

theorem callW_sound {qp : Option (List PanicEntry → World → Prop)} {s0 : St} {f : FuncId} {args : List Value} (hb : BodyOk P f) (he : Ext s0 s) (h : callW P qp s v o.dst o.type f args K) (hr : Rel s v a w)
    (hrun : (execOp a.eval o).run P w = (callFunc f args.toArray).run P w) (hQ : ∀ chain w', (∃ q, qp = some q ∧ q chain w') → a.defers = [] → Q (.panic chain) a w') : o.wp P a w (P1 Tt s0 a o.dst K) Q := by
  obtain ⟨r1, e1, hk⟩ := sync_sound h hr
  obtain ⟨fn, hf, hbody, hname⟩ := hb
  have hcf : (callFunc f args.toArray).run P w = .ok (.enter f args.toArray) w := by
    simp only [callFunc, Sem.run_bind, run_program, Result.andThen_ok, hf, hname, hbody, Bool.false_eq_true, if_false]
    rfl
  unfold Oper.wp
  rw [hrun, hcf]
  refine Calls.mono hk fun e w' hR => ?_
  have ret : retT P o.type e (fun x => keepP s.synced w w' (K (s.synced.put o.dst (.v x)) w')) → ∃ x, e = .returned x ∧ P1 Tt s0 a o.dst K (a.put o.dst x) w' := fun hR => by
    obtain ⟨x, rfl, hx⟩ := retT_sound hR
    obtain ⟨hkeep, hx⟩ := keepP_sound hx
    exact ⟨x, rfl, P1.mk trivial (r1.kept rfl rfl hkeep) (he.trans e1) (x := .v x) rfl hx⟩
  have key : (∃ chain, e = .panicked chain ∧ (∃ q, qp = some q ∧ q chain w') ∧ a.defers = []) ∨ ∃ x, e = .returned x ∧ P1 Tt s0 a o.dst K (a.put o.dst x) w' := by
    cases qp with
    | none => exact .inr (ret hR)
    | some q =>
      rcases hR with ⟨chain, rfl, hq⟩ | hR
      · have hd := r1.defers
        split at hq
        · rename_i e0
          rw [e0] at hd
          exact .inl ⟨chain, rfl, ⟨q, rfl, hq⟩, hd⟩
        · exact hq.elim
      · exact .inr (ret hR)
  rcases key with ⟨chain, rfl, hq, hd⟩ | ⟨x, rfl, hx⟩
  · exact hQ chain w' hq hd
  · exact hx

theorem R_call {qp : Option (List PanicEntry → World → Prop)} {f : Operand} {args : Array Operand} {ts : Array TypeId} (hNG : ∀ (f : Nat) (fn : Func), P.funcs[f]? = some fn → (fn.name == "runtime.NumGoroutine") = false)
    (ho : o.op = .call { callee := .value f, args := args, argTypes := ts }) (h : callR P qp s v o.dst o.type f args.toList K) (hr : Rel s v a w)
    (hQ : ∀ chain w', (∃ q, qp = some q ∧ q chain w') → a.defers = [] → Q (.panic chain) a w') : o.wp P a w (P1 Tt s a o.dst K) Q := by
  have dyn : ∀ f, f = f → o.op = .call { callee := .value f, args := args, argTypes := ts } → (useVs s v (f :: args.toList) fun s v xs => match xs with
    | .func (.func f) first cap :: xs => BodyOk P f ∧ callW P qp s v o.dst o.type f (first.toList ++ xs ++ cap.toList) K
    | _ => False) → o.wp P a w (P1 Tt s a o.dst K) Q := fun f _ ho h => by
    obtain ⟨s1, v1, r1, e1, h1⟩ := useVs_sound h hr
    simp only [List.map_cons] at h1
    split at h1
    · rename_i fid first cap xs e
      simp only [List.cons.injEq] at e
      obtain ⟨ef, ex⟩ := e
      obtain ⟨hb, h1⟩ := h1
      refine callW_sound hb e1 h1 r1 ?_ hQ
      have harr : first ++ args.map a.eval ++ cap = (first.toList ++ xs ++ cap.toList).toArray := by
        apply Array.ext'; simp [ex]
      simp [execOp, ho, resolve, ef, Deferred.ofValue, invoke, harr]
    · exact h1.elim
  cases f with
  | func fid =>
    unfold callR at h
    simp only at h
    cases hf : P.funcs[fid]? with
    | none => rw [hf] at h; exact h.elim
    | some fn =>
      rw [hf] at h
      simp only at h
      have hrun : (execOp a.eval o).run P w = (callFunc fid (args.toList.map a.eval).toArray).run P w := by
        have harr : args.map a.eval = (args.toList.map a.eval).toArray := by apply Array.ext'; simp
        simp [execOp, ho, resolve, Act.eval, Deferred.ofValue, invoke]
        rw [harr]
      cases hbd : fn.body with
      | some c =>
        rw [hbd] at h
        obtain ⟨s1, v1, r1, e1, h1⟩ := useVs_sound h hr
        exact callW_sound ⟨fn, hf, by rw [hbd]; rfl, hNG fid fn hf⟩ e1 h1 r1 hrun hQ
      | none =>
        rw [hbd] at h
        obtain ⟨s1, v1, r1, e1, h1⟩ := useVs_sound h hr
        obtain ⟨r2, e2, h2⟩ := sync_sound h1 r1
        obtain ⟨x, w', hx, hk⟩ := exT_sound h2
        obtain ⟨hkeep, hk⟩ := keepP_sound hk
        exact wp_value (x := x) (w' := w') (by rw [hrun]; exact hx) (P1.mk trivial (r2.kept rfl rfl hkeep) (e1.trans e2) (x := .v x) rfl hk)
  | tmp t => exact dyn _ rfl ho h
  | const c => exact dyn _ rfl ho h
  | global g => exact dyn _ rfl ho h

end
end Go.V

end
section
/- Every operation under one name; a region in the order of its text. -/
namespace Go.V
open Go.RowKit
set_option linter.unusedVariables false
set_option linter.unusedSimpArgs false

/-- What must be known of a program. -/
structure PF (P : Program) : Prop where
  ng : ∀ (f : Nat) (fn : Func), P.funcs[f]? = some fn → (fn.name == "runtime.NumGoroutine") = false
  mixed : P.follows .mixedOrders = true

/-- Operations that turn no block that was there. -/
def mildK : Op → Bool
  | .store .. | .mapUpdate .. | .insert .. | .next .. => false
  | .convert a b _ => !(Nat.beq a b)
  | .call c => match c.callee with
    | .builtin .len | .builtin .cap | .builtin .min | .builtin .max => true
    | _ => false
  | _ => true

/-- Slots whose private blocks become known. -/
def pubSlots (s : St) (v : World) : List Nat → (St → World → Prop) → Prop
  | [], K => K s v
  | t :: ts, K => match s.get t with
    | .r k _ => pub s v k fun s v _ => pubSlots s v ts K
    | .q k _ => pub s v k fun s v _ => pubSlots s v ts K
    | _ => pubSlots s v ts K

theorem pubSlots_sound {ts : List Nat} : ∀ {s : St} {v : World} {K : St → World → Prop} {a : Act} {w : World}, pubSlots s v ts K → Rel s v a w → ∃ s' v', Rel s' v' a w ∧ Ext s s' ∧ K s' v' := by
  induction ts with
  | nil => intro s v K a w h hr; exact ⟨s, v, hr, Ext.refl _, h⟩
  | cons t ts ih =>
    intro s v K a w h hr
    unfold pubSlots at h
    split at h
    · obtain ⟨pb, s', _, r1, e1, h1⟩ := pub_sound h hr
      obtain ⟨s2, v2, r2, e2, h2⟩ := ih h1 r1
      exact ⟨s2, v2, r2, e1.trans e2, h2⟩
    · obtain ⟨pb, s', _, r1, e1, h1⟩ := pub_sound h hr
      obtain ⟨s2, v2, r2, e2, h2⟩ := ih h1 r1
      exact ⟨s2, v2, r2, e1.trans e2, h2⟩
    · exact ih h hr

def bigK (P : Program) (e : TypeId) (dst : Option Nat) (K : St → World → Prop) (s : St) (v : World) : Prop := match bigN P e with
  | some _ => match dst with
    | some t => pubSlots s v [t] K
    | none => K s v
  | none => K s v
theorem bigK_sound {P : Program} {e : TypeId} {dst : Option Nat} {K : St → World → Prop} {s : St} {v : World} {a : Act} {w : World} (h : bigK P e dst K s v) (hr : Rel s v a w) : ∃ s' v', Rel s' v' a w ∧ Ext s s' ∧ K s' v' := by
  unfold bigK at h
  split at h
  · split at h
    · exact pubSlots_sound h hr
    · exact ⟨s, v, hr, Ext.refl _, h⟩
  · exact ⟨s, v, hr, Ext.refl _, h⟩

section
variable {P : Program} {o : Oper} {s : St} {v : World} {K : St → World → Prop} {a : Act} {w : World} {Q : Exit → Act → World → Prop} {qp : Option (List PanicEntry → World → Prop)}

def loudR (P : Program) (qp : Option (List PanicEntry → World → Prop)) (o : Oper) (s : St) (v : World) (K : St → World → Prop) : Prop :=
  match o.op with
  | .alloc e => allocR P s v o.dst e (bigK P e o.dst K)
  | .box e x => boxR s v o.dst x (bigK P e o.dst K)
  | .store t x y => storeR P s v t x y fun s v => K (s.put o.dst .no) v
  | .makeMap t none => makeMapR s v o.dst K
  | .makeSlice t l c => makeSliceR P s v o.dst t l c K
  | .buildSlice t n parts => buildSliceR P s v o.dst t n parts.toList K
  | .mapUpdate t m k x => mapUpdR P s v t m k x fun s v => K (s.put o.dst .no) v
  | .range t x => rangeR P s v o.dst t x K
  | .next x b => nextR P s v o.dst x b K
  | .entry x => entryR P s v o.dst x K
  | .call c => match c.callee with
    | .value f => callR P qp s v o.dst o.type f c.args.toList K
    | .builtin .append => match c.args.toList, c.argTypes.toList with
      | [x, y], [t, tx] => appendR P s v o.dst t tx x y K
      | _, _ => False
    | .builtin .copy => match c.args.toList, c.argTypes.toList with
      | [x, y], [t, _] => copyR P s v o.dst t x y K
      | _, _ => False
    | .builtin .delete => match c.args.toList, c.argTypes.toList with
      | [m, k], [t, _] => delR P s v t m k fun s v => K (s.put o.dst .no) v
      | _, _ => False
    | .builtin .clear => match c.args.toList, c.argTypes.toList with
      | [m], [t] => match P.underlying t with
        | some (.slice _) => clrR P s v t m fun s v => K (s.put o.dst .no) v
        | _ => clearR P s v t m fun s v => K (s.put o.dst .no) v
      | _, _ => False
    | _ => useVs s v o.op.operands.toList fun s v _ => match pvc P s o.op fun av => K (s.put o.dst av) v with
      | some p => p
      | none => False
  | .convert a b x => match Nat.beq a b, P.underlying a with
    | true, _ => markR P s v o.dst a x K
    | false, some .string => bytesR P s v o.dst a b x K
    | false, _ => useVs s v [x] fun s v _ => match qvc P s v o.op fun av => K (s.put o.dst av) v with
      | some p => p
      | none => False
  | op => useVs s v op.operands.toList fun s v _ => match pvc P s op fun av => K (s.put o.dst av) v with
    | some p => p
    | none => False

/-- What is to be shown ahead of an operation. -/
def vcOp (P : Program) (qp : Option (List PanicEntry → World → Prop)) (o : Oper) (s : St) (v : World) (K : St → World → Prop) : Prop :=
  match pvc P s o.op fun av => K (s.put o.dst av) v with
  | some p => p
  | none => match rvc P s o.op fun av => K (s.put o.dst av) v with
    | some (_, p) => p
    | none => match qvc P s v o.op fun av => K (s.put o.dst av) v with
      | some p => p
      | none => loudR P qp o s v K

theorem P1.weaken {E E' : World → Prop} {dst : Option Nat} {a' : Act} {w' : World} (h : P1 E s a dst K a' w') (he : E w' → E' w') : P1 E' s a dst K a' w' := by
  obtain ⟨s', v', h1, h2, h3, h4, h5⟩ := h
  exact ⟨s', v', h1, h2, h3, h4, he h5⟩

def Em (o : Oper) (w w' : World) : Prop := mildK o.op = true → Ext0 w w'

theorem pure_wp {s0 : St} {pr : Prop} (he : Ext s0 s) (h : pvc P s o.op (fun av => K (s.put o.dst av) v) = some pr) (hp : pr) (hr : Rel s v a w) : o.wp P a w (P1 (Em o w) s0 a o.dst K) Q := by
  obtain ⟨x, av, hy, ha, hk⟩ := pvc_sound h hp hr
  exact wp_value (hy w trivial) (P1.mk (fun _ => Ext0.refl w) hr he ha hk)

theorem P1.big {e : TypeId} {E : World → Prop} {dst : Option Nat} {a' : Act} {w' : World} (h : P1 E s a dst (bigK P e dst K) a' w') : P1 E s a dst K a' w' := by
  obtain ⟨s', v', h1, h2, h3, h4, h5⟩ := h
  obtain ⟨s2, v2, r2, e2, k2⟩ := bigK_sound h3 h1
  exact ⟨s2, v2, r2, h2.trans e2, k2, h4, h5⟩

theorem loudR_sound (hP : PF P) (h : loudR P qp o s v K) (hr : Rel s v a w) (hQ : ∀ chain w', (∃ q, qp = some q ∧ q chain w') → a.defers = [] → Q (.panic chain) a w') : o.wp P a w (P1 (Em o w) s a o.dst K) Q := by
  have up : ∀ {E : World → Prop}, (∀ w', E w' → Em o w w') → o.wp P a w (P1 E s a o.dst K) Q → o.wp P a w (P1 (Em o w) s a o.dst K) Q := fun he h => Oper.wp_mono (fun _ _ h => h.weaken (he _)) h
  have hard : mildK o.op = false → o.wp P a w (P1 Tt s a o.dst K) Q → o.wp P a w (P1 (Em o w) s a o.dst K) Q := fun hm => up (fun w' _ hc => by rw [hm] at hc; cases hc)
  have soft : o.wp P a w (P1 (Ext0 w) s a o.dst K) Q → o.wp P a w (P1 (Em o w) s a o.dst K) Q := up (fun w' he _ => he)
  have fall : ∀ (xs : List Operand), (useVs s v xs fun s v _ => match pvc P s o.op fun av => K (s.put o.dst av) v with | some p => p | none => False) → o.wp P a w (P1 (Em o w) s a o.dst K) Q := fun xs h => by
    obtain ⟨s1, v1, r1, e1, h1⟩ := useVs_sound h hr
    split at h1
    · rename_i p hp; exact pure_wp e1 hp h1 r1
    · exact h1.elim
  unfold loudR at h
  split at h
  · rename_i e ho; exact soft (Oper.wp_mono (fun _ _ h => P1.big h) (R_alloc ho h hr))
  · rename_i e x ho; exact soft (Oper.wp_mono (fun _ _ h => P1.big h) (R_box ho h hr))
  · rename_i t x y ho; exact hard (by rw [ho]; rfl) (R_store ho h hr)
  · rename_i t ho; exact soft (R_makeMap ho h hr)
  · rename_i t l c ho; exact soft (R_makeSlice ho h hr)
  · rename_i t n parts ho; exact soft (R_buildSlice ho h hr)
  · rename_i t m k x ho; exact hard (by rw [ho]; rfl) (R_mapUpdate ho h hr)
  · rename_i t x ho; exact soft (R_range ho h hr)
  · rename_i x b ho; exact hard (by rw [ho]; rfl) (R_next ho h hr)
  · rename_i x ho; exact soft (R_entry ho h hr)
  · rename_i c ho
    obtain ⟨cal, args, ts⟩ := c
    simp only at h
    split at h
    · rename_i f
      exact hard (by rw [ho]; rfl) (R_call hP.ng ho h hr hQ)
    · split at h
      · rename_i x y t tx e1 e2
        obtain rfl : args = #[x, y] := Array.ext' e1
        obtain rfl : ts = #[t, tx] := Array.ext' e2
        exact hard (by rw [ho]; rfl) (R_append ho h hr)
      · exact h.elim
    · split at h
      · rename_i x y t tx e1 e2
        obtain rfl : args = #[x, y] := Array.ext' e1
        obtain rfl : ts = #[t, tx] := Array.ext' e2
        exact hard (by rw [ho]; rfl) (R_copy ho h hr)
      · exact h.elim
    · split at h
      · rename_i x y t tx e1 e2
        obtain rfl : args = #[x, y] := Array.ext' e1
        obtain rfl : ts = #[t, tx] := Array.ext' e2
        exact hard (by rw [ho]; rfl) (R_delete ho ⟨_, rfl⟩ h hr)
      · exact h.elim
    · split at h
      · rename_i x t e1 e2
        obtain rfl : args = #[x] := Array.ext' e1
        obtain rfl : ts = #[t] := Array.ext' e2
        split at h
        · exact hard (by rw [ho]; rfl) (R_clr ho h hr)
        · exact hard (by rw [ho]; rfl) (R_clear ho h hr)
      · exact h.elim
    · exact fall _ h
  · rename_i c b x ho
    split at h
    · rename_i e
      have e := Nat.eq_of_beq_eq_true e
      subst e
      exact hard (by rw [ho]; simp [mildK]) (R_mark ho h hr)
    · exact soft (R_bytes ho h hr)
    · obtain ⟨s1, v1, r1, e1, h1⟩ := useVs_sound h hr
      split at h1
      · rename_i p hp
        obtain ⟨x, av, hy, ha, hk⟩ := qvc_sound hp h1 r1
        exact wp_value (hy w (r1.sees (Ext0.refl w))) (P1.mk (fun _ => Ext0.refl w) r1 e1 ha hk)
      · exact h1.elim
  · exact fall _ h

theorem vcOp_sound (hP : PF P) (h : vcOp P qp o s v K) (hr : Rel s v a w) (hQ : ∀ chain w', (∃ q, qp = some q ∧ q chain w') → a.defers = [] → Q (.panic chain) a w') : o.wp P a w (P1 (Em o w) s a o.dst K) Q := by
  unfold vcOp at h
  split at h
  · rename_i p hp; exact pure_wp (Ext.refl _) hp h hr
  · split at h
    · rename_i k p hp
      obtain ⟨pb, x, av, hk, hy, ha, hK⟩ := rvc_sound hp h hr
      obtain ⟨T, hT⟩ := hr.priv k pb hk
      exact wp_value (hy w ⟨T, _, hT⟩) (P1.mk (fun _ => Ext0.refl w) hr (Ext.refl _) ha hK)
    · split at h
      · rename_i p hp
        obtain ⟨x, av, hy, ha, hk⟩ := qvc_sound hp h hr
        exact wp_value (hy w (hr.sees (Ext0.refl w))) (P1.mk (fun _ => Ext0.refl w) hr (Ext.refl _) ha hk)
      · exact loudR_sound hP h hr hQ

/-! ### guards -/
/-- Both ways of a truth value. -/
def bcase (b : Bool) (x y : Prop) : Prop := (b = true → x) ∧ (b = false → y)

/-- An operation that is done only if a truth value, reckoned by operation j, is so. -/
def guardP (ops : List Oper) (s : St) (o : Oper) (yes no : St → Prop) : Prop :=
  match o.guard with
  | none => yes s
  | some (j, want) => match ops[j]? with
    | some oj => match oj.dst with
      | some d => match s.get d with
        | .t b => match b, want with
          | true, true => yes s
          | false, false => yes s
          | _, _ => no s
        | .v (.bool b) => match want with
          | true => bcase b (yes (s.put (some d) (.t true))) (no (s.put (some d) (.t false)))
          | false => bcase b (no (s.put (some d) (.t true))) (yes (s.put (some d) (.t false)))
        | .v (.tuple _) => no s
        | _ => False
      | none => False
    | none => False

theorem yielded_of {ops : Array Oper} {tmps : Array Value} {j d : Nat} {oj : Oper} (h1 : ops[j]? = some oj) (h2 : oj.dst = some d) : yielded ops tmps j = match tmps[d]? with
    | some (.bool b) => some b
    | _ => none := by
  simp only [yielded, h1, h2, Option.bind_some]
  rfl

theorem Rel.put_same {d : Nat} {x : AV} (hr : Rel s v a w) (hx : AVok s x (a.tmps.getD d undef)) : Rel (s.put (some d) x) v a w := by
  have h := hr.put (some d) hx
  have e : a.put (some d) (a.tmps.getD d undef) = a := by
    obtain ⟨t, df⟩ := a
    simp only [Act.put] at *
    congr 1
    apply Array.ext_getElem?
    intro i
    by_cases e : d = i
    · subst e
      by_cases hd : d < t.size
      · simp [hd]
      · simp [hd]
    · rw [Array.getElem?_setIfInBounds_ne e]
  rw [e] at h; exact h

theorem guardP_sound {ops : Array Oper} {yes no : St → Prop} (h : guardP ops.toList s o yes no) (hr : Rel s v a w) :
    ∃ s', Rel s' v a w ∧ Ext s s' ∧ (if Region.wanted o (yielded ops a.tmps) = true then yes s' else no s') := by
  unfold guardP at h
  split at h
  · rename_i hg
    refine ⟨s, hr, Ext.refl _, ?_⟩
    simp [Region.wanted, hg]; exact h
  · rename_i j want hg
    split at h
    · rename_i oj hj
      split at h
      · rename_i d hd
        have hw : Region.wanted o (yielded ops a.tmps) = (yielded ops a.tmps j == some want) := by simp [Region.wanted, hg]
        have hy := yielded_of (tmps := a.tmps) (by rw [← hj]; simp : ops[j]? = some oj) hd
        have henv := hr.env d
        have getq : ∀ b, a.tmps.getD d undef = .bool b → yielded ops a.tmps j = some b := fun b hb => by
          rw [hy]
          by_cases hlt : d < a.tmps.size
          · simp [hlt] at hb ⊢; rw [hb]
          · simp [hlt, undef] at hb
        split at h
        · rename_i b e
          rw [e] at henv
          have hb := getq b henv
          refine ⟨s, hr, Ext.refl _, ?_⟩
          rw [hw, hb]
          split at h
          · simpa using h
          · simpa using h
          · rename_i n1 n2
            have hne : ¬ (b = want) := fun e => by cases b <;> cases want <;> simp_all
            simp [hne]; exact h
        · rename_i b e
          rw [e] at henv
          have henv : a.tmps.getD d undef = .bool b := henv
          have hb := getq b henv
          have hx : Ext s (s.put (some d) (.t b)) := Ext.of_hp rfl
          refine ⟨s.put (some d) (.t b), hr.put_same henv, hx, ?_⟩
          rw [hw, hb]
          split at h
          · cases b
            · simpa using h.2 rfl
            · simpa using h.1 rfl
          · cases b
            · simpa using h.2 rfl
            · simpa using h.1 rfl
        · rename_i c e
          rw [e] at henv
          have henv : a.tmps.getD d undef = .tuple c := henv
          have hn : yielded ops a.tmps j = none := by
            rw [hy]
            by_cases hlt : d < a.tmps.size
            · simp [hlt] at henv ⊢; rw [henv]
            · simp [hlt]
          refine ⟨s, hr, Ext.refl _, ?_⟩
          rw [hw, hn]; simpa using h
        · exact h.elim
      · exact h.elim
    · exact h.elim

/-! ### rounds of a range over a function: the same operations in another frame -/
def fr (r : Option Nat) : Fence := { Fence.wide with round := r }
theorem callsIn_fr {r : Option Nat} {n : Nat} {f : FuncId} {args : Array Value} {R : Ending → World → Prop} (h : Calls P f args w R) : CallsIn (fr r) n P f args w R := (callsIn_wide (n := n)).2 h
theorem rowsIn_fr {r : Option Nat} {n : Nat} {row : String} {args : Array Value} {R : Value → World → Prop} (h : Rows P row args w R) : RowsIn (fr r) n P row args w R := fun c cs _ =>
  let ⟨v, w', r, s⟩ := h c cs
  ⟨v, w', r, stepsIn_wide.2 s⟩
theorem roundIn_fr {r : Option Nat} {n l : Nat} {f : FuncId} {tmps : Array Value} {x y : Code} {R : Ending → World → Prop} (h : RoundIn Fence.wide 0 P l f tmps x y w R) : RoundIn (fr r) n P l f tmps x y w R := ⟨trivial, fun c cs _ => h.2 c cs (room_wide _)⟩
theorem oper_in {r : Option Nat} {n : Nat} {N : Act → World → Prop} (hd : r = none ∨ ∀ c, o.op ≠ .defer c) (h : o.wp P a w N Q) : o.wpIn (fr r) n P a w N Q := by
  refine ⟨fun _ _ => trivial, ?_⟩
  have e : Oper.semAt (fr r).round a.eval o = execOp a.eval o := by
    rcases hd with rfl | hd
    · rfl
    · exact Oper.semAt_eq _ _ _ hd
  rw [e]
  unfold Oper.wp at h
  generalize (execOp a.eval o).run P w = res at *
  have hdep : (fr r).depth.isSome = true → 1 ≤ n := fun h => by cases h
  cases res with
  | ok x w' =>
    cases x <;> first
      | exact h
      | exact ⟨hdep, callsIn_fr h⟩
      | exact ⟨hdep, rowsIn_fr h⟩
      | exact h.elim
  | halt x w' => cases x <;> first | exact h | exact h.elim

/-- A call of 'yield': one round of the loop l with these values. -/
def YieldsV (P : Program) (l : Nat) (args : List Value) (w : World) (R : Ending → World → Prop) : Prop := YieldAt Fence.wide 0 P l args.toArray w R
def yieldOf (s : St) (o : Oper) : Option (Nat × List Operand) := match o.op with
  | .call c => match c.callee with
    | .value f => match s.val f with
      | some (.func (.yield l) ⟨[]⟩ ⟨[]⟩) => some (l, c.args.toList)
      | _ => none
    | _ => none
  | _ => none
def vcOpY (P : Program) (qp : Option (List PanicEntry → World → Prop)) (o : Oper) (s : St) (v : World) (K : St → World → Prop) : Prop :=
  match yieldOf s o with
  | some (l, args) => useVs s v args fun s v xs => sync s v fun s w => YieldsV P l xs w fun e w' => retT P o.type e fun x => keepP s w w' (K (s.put o.dst (.v x)) w')
  | none => vcOp P qp o s v K
theorem vcOpY_sound {r : Option Nat} {n : Nat} (hP : PF P) (hd : r = none ∨ ∀ c, o.op ≠ .defer c) (h : vcOpY P qp o s v K) (hr : Rel s v a w) (hQ : ∀ chain w', (∃ q, qp = some q ∧ q chain w') → a.defers = [] → Q (.panic chain) a w') :
    o.wpIn (fr r) n P a w (P1 Tt s a o.dst K) Q := by
  unfold vcOpY at h
  split at h
  · rename_i l args hy
    unfold yieldOf at hy
    split at hy
    · rename_i c ho
      obtain ⟨cal, ar, ts⟩ := c
      simp only at hy
      split at hy
      · rename_i f
        split at hy
        · rename_i l' hf
          simp only [Option.some.injEq, Prod.mk.injEq] at hy
          obtain ⟨rfl, rfl⟩ := hy
          have ef := val_sound hf hr
          obtain ⟨s1, v1, r1, e1, h1⟩ := useVs_sound h hr
          obtain ⟨r2, e2, h2⟩ := sync_sound h1 r1
          obtain ⟨fn, tmps, assign, body, hrun, hround⟩ := h2
          have hex : (execOp a.eval o).run P w = .ok (.round l' fn tmps assign body) w := by
            have harr : (#[] : Array Value) ++ ar.map a.eval ++ #[] = (ar.toList.map a.eval).toArray := by
              apply Array.ext'; simp
            have harr2 : ar.map a.eval = (ar.toList.map a.eval).toArray := by
              apply Array.ext'; simp
            simp only [execOp, ho, resolve, ef, Deferred.ofValue, invoke, Sem.run_bind, Sem.run_pure, Result.andThen_ok]
            simp [harr2, hrun]
          refine ⟨fun _ _ => trivial, ?_⟩
          have e : Oper.semAt (fr r).round a.eval o = execOp a.eval o := Oper.semAt_eq _ _ _ (fun c h => by rw [ho] at h; cases h)
          rw [e, hex, Oper.uponIn_round]
          refine ⟨(fun h => by cases h), RoundIn.mono (roundIn_fr hround) fun e w' hR => ?_⟩
          obtain ⟨x, rfl, hx⟩ := retT_sound hR
          obtain ⟨hkeep, hx⟩ := keepP_sound hx
          exact P1.mk trivial (r2.kept rfl rfl hkeep) (e1.trans e2) (x := .v x) rfl hx
        · cases hy
      · cases hy
    · cases hy
  · exact oper_in hd (Oper.wp_mono (fun _ _ h => h.weaken fun _ => trivial) (vcOp_sound hP h hr hQ))

/-! ### a region in the order of its text -/
def vcOps (P : Program) (qp : Option (List PanicEntry → World → Prop)) (ops : List Oper) : List Oper → St → World → (St → World → Prop) → Prop
  | [], s, v, K => K s v
  | o :: rest, s, v, K => guardP ops s o (fun s => vcOpY P qp o s v fun s v => vcOps P qp ops rest s v K) (fun s => vcOps P qp ops rest (s.put o.dst (.v undef)) v K)

def SameOut (ds : List (Option Nat)) (a a' : Act) : Prop := a'.tmps.size = a.tmps.size ∧ ∀ t, some t ∉ ds → a'.tmps.getD t undef = a.tmps.getD t undef
theorem SameOut.refl (ds : List (Option Nat)) (a : Act) : SameOut ds a a := ⟨rfl, fun _ _ => rfl⟩
theorem SameOut.put (a : Act) (dst : Option Nat) (x : Value) (ds : List (Option Nat)) (h : dst ∈ ds) : SameOut ds a (a.put dst x) := by
  refine ⟨by cases dst <;> simp [Act.put], fun t ht => ?_⟩
  cases dst with
  | none => rfl
  | some d =>
    have : d ≠ t := fun e => ht (e ▸ h)
    simp [Act.put, Array.getElem?_setIfInBounds_ne this]
theorem SameOut.trans {ds : List (Option Nat)} {a b c : Act} (h : SameOut ds a b) (k : SameOut ds b c) : SameOut ds a c := ⟨k.1.trans h.1, fun t ht => (k.2 t ht).trans (h.2 t ht)⟩
theorem SameOut.mono {ds ds' : List (Option Nat)} {a b : Act} (h : SameOut ds a b) (hd : ∀ x ∈ ds, x ∈ ds') : SameOut ds' a b := ⟨h.1, fun t ht => h.2 t fun hm => ht (hd _ hm)⟩

/-- What holds where a piece of code has come to an end of its own. -/
def Nrm (s : St) (ds : List (Option Nat)) (a : Act) (K : St → World → Prop) (a' : Act) (w' : World) : Prop := ∃ s' v', Rel s' v' a' w' ∧ Ext s s' ∧ SameOut ds a a' ∧ K s' v'

theorem vcOps_sound {r : Option Nat} {n : Nat} (hP : PF P) {ops : Array Oper} {ds : List (Option Nat)} {a0 : Act} {s0 : St} : ∀ (l : List Oper) {s : St} {v : World} {a : Act} {w : World}, (∀ o ∈ l, o.dst ∈ ds ∧ (r = none ∨ ∀ c, o.op ≠ .defer c)) → vcOps P qp ops.toList l s v K → Rel s v a w → Ext s0 s → SameOut ds a0 a →
    (∀ chain a w', (∃ q, qp = some q ∧ q chain w') → a.defers = [] → Q (.panic chain) a w') → (∀ a' w', Nrm s0 ds a0 K a' w' → Q .normal a' w') → wpListIn (fr r) n P ops Q l a w
  | [], s, v, a, w, _, h, hr, he, hs, hQ, hN => hN a w ⟨s, v, hr, he, hs, h⟩
  | o :: rest, s, v, a, w, hd, h, hr, he, hs, hQ, hN => by
    obtain ⟨s1, r1, e1, h1⟩ := guardP_sound h hr
    obtain ⟨hdo, hnd⟩ := hd o (by simp)
    have hdr : ∀ o ∈ rest, o.dst ∈ ds ∧ (r = none ∨ ∀ c, o.op ≠ .defer c) := fun x hx => hd x (by simp [hx])
    simp only [wpListIn]
    split
    · rename_i hw
      rw [if_pos hw] at h1
      refine Oper.wpIn_mono (fun a' w' hp => ?_) (vcOpY_sound hP hnd h1 r1 (fun chain w' hq hd => hQ chain a w' hq hd))
      obtain ⟨s', v', g1, g2, g3, ⟨x, rfl⟩, _⟩ := hp
      exact vcOps_sound hP rest hdr g3 g1 ((he.trans e1).trans g2) (hs.trans (SameOut.put a o.dst x ds hdo)) hQ hN
    · rename_i hw
      rw [if_neg hw] at h1
      have r2 := r1.put o.dst (x := .v undef) (z := undef) rfl
      exact ⟨fun _ _ => trivial, vcOps_sound hP rest hdr h1 r2 ((he.trans e1).trans (Ext.of_hp (by cases o.dst <;> rfl))) (hs.trans (SameOut.put a o.dst undef ds hdo)) hQ hN⟩

end
end Go.V

end
section
/- A region whose order is drawn: what hangs on no order is done first; of the rest all orders are gone through. -/
namespace Go.V
open Go.RowKit
set_option linter.unusedVariables false
set_option linter.unusedSimpArgs false

section
variable {P : Program} {ops : Array Oper} {Q : Exit → Act → World → Prop} {SR : Nat → World → World → Prop}

/-- All orders; with each step what it does to the world. -/
def wpAnyE (P : Program) (ops : Array Oper) (Q : Exit → Act → World → Prop) (SR : Nat → World → World → Prop) : Nat → Array Bool → Act → World → Prop
  | 0, listed, a, w => Region.ready .any ops listed = [] ∧ Q .normal a w
  | fuel + 1, listed, a, w =>
    (Region.ready .any ops listed = [] → Q .normal a w) ∧
    ∀ i ∈ Region.ready .any ops listed, wpOp P ops Q i (fun a' w' => SR i w w' ∧ wpAnyE P ops Q SR fuel (listed.setIfInBounds i true) a' w') a w

theorem wpAnyE_any : ∀ (fuel : Nat) (listed : Array Bool) (a : Act) (w : World), wpAnyE P ops Q SR fuel listed a w → wpAny P .any ops Q fuel listed a w
  | 0, _, _, _, h => h
  | fuel + 1, listed, a, w, h => ⟨h.1, fun i hi => wpOp_mono (fun a' w' h' => wpAnyE_any fuel _ _ _ h'.2) (h.2 i hi)⟩

def FSame (ops : Array Oper) (o : Oper) (a a' : Act) : Prop := execOp a'.eval o = execOp a.eval o ∧ Region.wanted o (yielded ops a'.tmps) = Region.wanted o (yielded ops a.tmps)

theorem wpOp_putF {j : Nat} {oi oj : Oper} {v : Value} (hj : ops[j]? = some oj) (hap : oi.apart ops oj = true)
    (hsi : ∀ cs b, oi.op ≠ .select cs b) (hsj : ∀ cs b, oj.op ≠ .select cs b)
    (hQ : ∀ c a w, Q (.panic c) (a.put oi.dst v) w → Q (.panic c) a w) {K : Act → World → Prop} {a : Act} {w : World}
    (h : wpOp P ops Q j K (a.put oi.dst v) w) :
    wpOp P ops Q j (fun a' w' => FSame ops oi a a' ∧ K (a'.put oi.dst v) w') a w := by
  obtain ⟨h1, h2, h3⟩ := Oper.apart_spec hap
  have keep : ∀ u, FSame ops oi a (a.put oj.dst u) := fun u => ⟨execOp_put oi hsi a oj.dst u h3, wanted_put oi a oj.dst u h3⟩
  have keepD : ∀ d u, FSame ops oi a (({ a with defers := d :: a.defers } : Act).put oj.dst u) := fun d u =>
    ⟨(execOp_put oi hsi { a with defers := d :: a.defers } oj.dst u h3).trans rfl, (wanted_put oi { a with defers := d :: a.defers } oj.dst u h3).trans rfl⟩
  unfold wpOp at *
  simp only [hj] at *
  rw [wanted_put oj a oi.dst v h1] at h
  split
  · rename_i hw
    simp only [hw, if_true] at h
    rcases h with h | ⟨hasks, hlets⟩
    case inr => exact .inr ⟨by unfold Oper.asks at *; rw [execOp_put oj hsj a oi.dst v h1] at hasks; exact hasks, hlets⟩
    refine .inl ?_
    unfold Oper.wp at *
    rw [execOp_put oj hsj a oi.dst v h1] at h
    generalize (execOp a.eval oj).run P w = r at *
    cases r with
    | ok n w' =>
      cases n <;> simp only [Oper.upon] at h ⊢
      case value u => exact ⟨keep u, by rw [← Act.put_comm a v u h2]; exact h⟩
      case skip => exact ⟨keep _, by rw [← Act.put_comm a v undef h2]; exact h⟩
      case defer d =>
        refine ⟨keepD d _, ?_⟩
        rw [← Act.put_comm _ v undef h2, ← Act.put_defers]
        exact h
      case enter f args =>
        refine Calls.mono h fun e w'' he => ?_
        cases e with
        | returned u => exact ⟨keep u, by rw [← Act.put_comm a v u h2]; exact he⟩
        | panicked c => exact hQ _ _ _ he
        | outgrown => exact he
      case row row args => exact Rows.mono h fun u w'' he => ⟨keep u, by rw [← Act.put_comm a v u h2]; exact he⟩
    | halt x w' =>
      cases x <;> simp only [Oper.upon] at h ⊢
      case panic u => exact hQ _ _ _ h
  · rename_i hw
    simp only [hw] at h
    exact ⟨keep _, by rw [← Act.put_comm a v undef h2]; exact h⟩

def YJ (P : Program) (ops : Array Oper) (o : Oper) (v : Value) (a : Act) (J : World → Prop) : Prop :=
  (Region.wanted o (yielded ops a.tmps) = true ∧ Yld P o a J v) ∨ (Region.wanted o (yielded ops a.tmps) = false ∧ v = undef)

theorem YJ.wpOp {i : Nat} {o : Oper} {v : Value} {a : Act} {J : World → Prop} (hi : ops[i]? = some o) (hy : YJ P ops o v a J)
    {K : Act → World → Prop} {w : World} (hJ : J w) (h : K (a.put o.dst v) w) : wpOp P ops Q i K a w := by
  unfold Go.wpOp
  simp only [hi]
  rcases hy with ⟨hw, hv⟩ | ⟨hw, rfl⟩
  · simp only [hw, if_true, Oper.wp, hv w hJ, Oper.upon]; exact .inl h
  · simp only [hw, Bool.false_eq_true, if_false]; exact h
theorem YJ.same {o : Oper} {v : Value} {a a' : Act} {J : World → Prop} (hy : YJ P ops o v a J) (h : FSame ops o a a') : YJ P ops o v a' J := by
  unfold YJ Yld at *
  rw [h.1, h.2]
  exact hy

def Lst (listed : Array Bool) (j : Nat) : Prop := listed.getD j false = true
/-- What is done stands on what is done. -/
def Closed (ops : Array Oper) (listed : Array Bool) : Prop := ∀ (j : Nat) o, ops[j]? = some o → Lst listed j → ∀ e ∈ o.after, Region.binds .any e = true → Lst listed e.on
/-- D tells, of each operation, whether it stands behind operation i. -/
def chkD (ops : Array Oper) (i : Nat) (D : List Bool) : Bool :=
  (List.range ops.size).all fun j => !D.getD j false || match ops[j]? with
    | some o => o.after.any fun e => Region.binds .any e && (Nat.blt e.on j && (Nat.beq e.on i || D.getD e.on false))
    | none => false
theorem chkD_spec {i : Nat} {D : List Bool} (h : chkD ops i D = true) (j : Nat) (hj : D.getD j false = true) (hjs : j < ops.size) :
    ∃ o e, ops[j]? = some o ∧ e ∈ o.after ∧ Region.binds .any e = true ∧ e.on < j ∧ (e.on = i ∨ D.getD e.on false = true) := by
  simp only [chkD, List.all_eq_true, List.mem_range] at h
  have h1 := h j hjs
  rw [hj] at h1
  simp only [Bool.not_true, Bool.false_or] at h1
  split at h1
  · rename_i o ho
    obtain ⟨e, he, hb⟩ := Array.any_eq_true'.1 h1
    simp only [Bool.and_eq_true, Bool.or_eq_true] at hb
    obtain ⟨b1, b2, b3⟩ := hb
    refine ⟨o, e, ho, he, b1, by have : Nat.ble (e.on + 1) j = true := b2
                                 exact Nat.le_of_ble_eq_true this, ?_⟩
    rcases b3 with b3 | b3
    · exact .inl (Nat.eq_of_beq_eq_true b3)
    · exact .inr b3
  · cases h1
theorem lst_lt {listed : Array Bool} {j : Nat} (h : Lst listed j) : j < listed.size := by
  rcases Nat.lt_or_ge j listed.size with z | z
  · exact z
  · simp [Lst, Array.getElem?_eq_none z] at h
theorem not_behind {i : Nat} {D : List Bool} {listed : Array Bool} (h : chkD ops i D = true) (hc : Closed ops listed) (hi : ¬ Lst listed i) (hsz : listed.size = ops.size) :
    ∀ n (k : Nat), k ≤ n → D.getD k false = true → ¬ Lst listed k := by
  intro n
  induction n with
  | zero =>
    intro k hk hD hl
    obtain ⟨o, e, _, _, _, h5, _⟩ := chkD_spec h k hD (by rw [← hsz]; exact lst_lt hl)
    omega
  | succ n ih =>
    intro k hk hD hl
    obtain ⟨o, e, h1, h2, h3, h5, h6⟩ := chkD_spec h k hD (by rw [← hsz]; exact lst_lt hl)
    have hl' := hc k o h1 hl e h2 h3
    rcases h6 with h6 | h6
    · exact hi (h6 ▸ hl')
    · exact ih e.on (by omega) h6 hl'

theorem firstE {i : Nat} {oi : Oper} {v : Value} {J : World → Prop} {D : List Bool} {pre : Nat → Prop} (hi : ops[i]? = some oi) (hsel : ∀ (j : Nat) (o : Oper) cs b, ops[j]? = some o → o.op ≠ .select cs b)
    (hQ : ∀ c a w, Q (.panic c) (a.put oi.dst v) w → Q (.panic c) a w) (hD : chkD ops i D = true) (hJ : ∀ j w w', pre j → SR j w w' → J w → J w') (hSR : ∀ w, SR i w w) :
    ∀ (fuel : Nat) (listed : Array Bool) (a : Act) (w : World), listed.size = ops.size → Closed ops listed →
      (∀ j oj, ops[j]? = some oj → j ≠ i → listed.getD j true = false → D.getD j false = false → oi.apart ops oj = true ∧ pre j) →
      i ∈ Region.ready .any ops listed → J w → YJ P ops oi v a J →
      wpAnyE P ops Q SR fuel (listed.setIfInBounds i true) (a.put oi.dst v) w → wpAnyE P ops Q SR (fuel + 1) listed a w := by
  intro fuel
  induction fuel with
  | zero =>
    intro listed a w hsz hc hfree hr hjw hy H
    refine ⟨fun h => (by rw [h] at hr; cases hr), fun j hj => ?_⟩
    by_cases hji : j = i
    · subst hji; exact hy.wpOp hi hjw ⟨hSR w, H⟩
    · have := ready_mono hj hji
      rw [H.1] at this
      cases this
  | succ fuel ih =>
    intro listed a w hsz hc hfree hr hjw hy H
    refine ⟨fun h => (by rw [h] at hr; cases hr), fun j hj => ?_⟩
    by_cases hji : j = i
    · subst hji; exact hy.wpOp hi hjw ⟨hSR w, H⟩
    · have h1 := H.2 j (ready_mono hj hji)
      obtain ⟨hjun, oj, hoj, hall⟩ := mem_ready.1 hj
      have hiun : ¬ Lst listed i := fun hl => by
        have h0 := (mem_ready.1 hr).1
        have hlt := lst_lt hl
        simp [Lst, hlt] at hl
        simp [hlt] at h0
        rw [h0] at hl; cases hl
      have hjD : D.getD j false = false := by
        cases hDj : D.getD j false with
        | false => rfl
        | true =>
          obtain ⟨o, e, h1, h2, h3, h5, h6⟩ := chkD_spec hD j hDj (Array.getElem?_eq_some_iff.1 hoj).1
          rw [hoj] at h1; injection h1 with h1; subst h1
          have hl : Lst listed e.on := hall e h2 h3
          rcases h6 with h6 | h6
          · exact absurd (h6 ▸ hl) hiun
          · exact absurd hl (not_behind hD hc hiun hsz e.on e.on (Nat.le_refl _) h6)
      obtain ⟨hap, hpre⟩ := hfree j oj hoj hji hjun hjD
      have h2 := wpOp_putF hoj hap (fun cs b => hsel i oi cs b hi) (fun cs b => hsel j oj cs b hoj) hQ h1
      have hc' : Closed ops (listed.setIfInBounds j true) := fun k o hk hl e he hb => by
        by_cases hkj : j = k
        · subst hkj
          rw [hoj] at hk; injection hk with hk; subst hk
          exact getD_set_true (hall e he hb)
        · have : Lst listed k := by unfold Lst at hl ⊢; rw [getD_set_ne false hkj] at hl; exact hl
          exact getD_set_true (hc k o hk this e he hb)
      have hfree' : ∀ k ok, ops[k]? = some ok → k ≠ i → (listed.setIfInBounds j true).getD k true = false → D.getD k false = false → oi.apart ops ok = true ∧ pre k := fun k ok hk hki hun hno => by
        refine hfree k ok hk hki ?_ hno
        by_cases hjk : j = k
        · subst hjk; exact hjun
        · rw [getD_set_ne true hjk] at hun; exact hun
      refine wpOp_mono (fun a' w' h3 => ?_) h2
      obtain ⟨hF, hs, h3⟩ := h3
      refine ⟨hs, ih (listed.setIfInBounds j true) a' w' (by simp [hsz]) hc' hfree' (ready_mono hr (Ne.symm hji)) (hJ j w w' hpre hs hjw) (hy.same hF) ?_⟩
      rw [Array.setIfInBounds_comm _ _ hji]
      exact h3
end
end Go.V

end
section
/- A region whose order is drawn, the rule. -/
namespace Go.V
open Go.RowKit
set_option linter.unusedVariables false
set_option linter.unusedSimpArgs false

section
variable {P : Program} {s : St} {v : World} {K : St → World → Prop} {a : Act} {w : World} {Q : Exit → Act → World → Prop} {qp : Option (List PanicEntry → World → Prop)}

def readyL (ops : List Oper) (listed : List Bool) : List Nat :=
  (List.range ops.length).filter fun i => !listed.getD i true && match ops[i]? with
    | some o => o.after.toList.all fun e => !Region.binds .any e || listed.getD e.on false
    | none => false
theorem ready_eq (ops : Array Oper) (listed : List Bool) : Region.ready .any ops listed.toArray = readyL ops.toList listed := by
  unfold Region.ready readyL
  rw [Array.length_toList]
  congr 1
  funext i
  rw [Array.getElem?_toList]
  cases ops[i]? with
  | none => simp
  | some o => simp [← Array.all_toList]

def descL (ops : List Oper) (i : Nat) : List Bool :=
  (List.range ops.length).foldl (fun D j => D ++ [match ops[j]? with
    | some o => o.after.toList.any fun e => Region.binds .any e && (Nat.beq e.on i || D.getD e.on false)
    | none => false]) []
def chkDL (ops : List Oper) (i : Nat) (D : List Bool) : Bool :=
  (List.range ops.length).all fun j => !D.getD j false || match ops[j]? with
    | some o => o.after.toList.any fun e => Region.binds .any e && (Nat.blt e.on j && (Nat.beq e.on i || D.getD e.on false))
    | none => false
theorem chkDL_eq (ops : Array Oper) (i : Nat) (D : List Bool) : chkDL ops.toList i D = chkD ops i D := by
  unfold chkDL chkD
  rw [Array.length_toList]
  congr 1
  funext j
  rw [Array.getElem?_toList]
  cases ops[j]? with
  | none => rfl
  | some o => simp [← Array.any_toList]

/-- Operation i hangs on no order: of all that may be done ahead of it none writes or reads what it reads or writes. -/
def freeOk (ops : List Oper) (listed : List Bool) (i : Nat) (oi : Oper) (mild : Bool) : Bool :=
  let D := descL ops i
  chkDL ops i D && (List.range ops.length).all fun j => Nat.beq j i || listed.getD j true || D.getD j false || match ops[j]? with
    | some oj => oi.apart ops.toArray oj && (!mild || mildK oj.op)
    | none => true

inductive GS where
  | yes | no | bad
  | split (d : Nat) (b : Bool)
def guardS (ops : List Oper) (s : St) (o : Oper) : GS :=
  match o.guard with
  | none => .yes
  | some (j, want) => match ops[j]? with
    | some oj => match oj.dst with
      | some d => match s.get d with
        | .t b => match b, want with
          | true, true => .yes
          | false, false => .yes
          | _, _ => .no
        | .v (.bool b) => .split d b
        | .v (.tuple _) => .no
        | _ => .bad
      | none => .bad
    | none => .bad

def staticOf (P : Program) (ops : List Oper) (stab : List Nat) (listed : List Bool) (s : St) (v : World) (go : List Bool → St → Prop) (i : Nat) : Option Prop :=
  match ops[i]? with
  | none => none
  | some o => match guardS ops s o with
    | .bad => none
    | .split d b => some (bcase b (go listed (s.put (some d) (.t true))) (go listed (s.put (some d) (.t false))))
    | .no => match freeOk ops listed i o false with
      | true => some (go (listed.set i true) (s.put o.dst (.v undef)))
      | false => none
    | .yes => match pvc P s o.op fun av => go (listed.set i true) (s.put o.dst av) with
      | some p => match freeOk ops listed i o false with
        | true => some p
        | false => none
      | none => match rvc P s o.op fun av => go (listed.set i true) (s.put o.dst av) with
        | some (k, p) => match stab.contains k && freeOk ops listed i o false with
          | true => some p
          | false => none
        | none => match qvc P s v o.op fun av => go (listed.set i true) (s.put o.dst av) with
          | some p => match freeOk ops listed i o true with
            | true => some p
            | false => none
          | none => none
def firstSome (f : Nat → Option Prop) : List Nat → Option Prop
  | [] => none
  | i :: r => match f i with
    | some p => some p
    | none => firstSome f r
def allB (f : Nat → Prop) : List Nat → Prop
  | [] => False
  | [i] => f i
  | i :: r => f i ∧ allB f r
/-- The private blocks 'stab' are as they were when the region began. -/
def stabOk (sr s : St) (stab : List Nat) : Bool := stab.all fun k => match sr.hp.getD k none, s.hp.getD k none with
  | some p, some q => Nat.beq p.ver q.ver
  | _, _ => false

def vcD (P : Program) (qp : Option (List PanicEntry → World → Prop)) (ops : List Oper) (sr : St) (stab : List Nat) : Nat → List Bool → St → World → (St → World → Prop) → Prop
  | 0, _, _, _, _ => False
  | n + 1, listed, s, v, K => match stabOk sr s stab with
    | false => False
    | true => match readyL ops listed with
      | [] => K s v
      | i :: r => match firstSome (staticOf P ops stab listed s v fun listed s => vcD P qp ops sr stab n listed s v K) (i :: r) with
        | some p => p
        | none => allB (fun i => match ops[i]? with
          | none => False
          | some o => match guardS ops s o with
            | .yes => vcOp P qp o s v fun s v => vcD P qp ops sr stab n (listed.set i true) s v K
            | .no => vcD P qp ops sr stab n (listed.set i true) (s.put o.dst (.v undef)) v K
            | _ => False) (i :: r)

def rem (listed : List Bool) : Nat := (listed.filter fun b => !b).length
theorem rem_set : ∀ {listed : List Bool} {i : Nat}, listed[i]? = some false → rem (listed.set i true) + 1 = rem listed
  | [], i, h => by simp at h
  | b :: l, 0, h => by
    simp at h; subst h
    simp [rem]
  | b :: l, i + 1, h => by
    have := rem_set (listed := l) (i := i) (by simpa using h)
    cases b <;> simp [rem] at this ⊢ <;> omega

theorem guardS_sound {ops : Array Oper} {o : Oper} (hr : Rel s v a w) :
    (guardS ops.toList s o = .yes → Region.wanted o (yielded ops a.tmps) = true) ∧ (guardS ops.toList s o = .no → Region.wanted o (yielded ops a.tmps) = false) ∧
    (∀ d b, guardS ops.toList s o = .split d b → a.tmps.getD d undef = .bool b) := by
  unfold guardS
  split
  · rename_i hg
    exact ⟨(fun _ => by simp [Region.wanted, hg]), (fun h => by cases h), (fun d b h => by cases h)⟩
  · rename_i j want hg
    split
    · rename_i oj hj
      split
      · rename_i d hd
        have hw : Region.wanted o (yielded ops a.tmps) = (yielded ops a.tmps j == some want) := by simp [Region.wanted, hg]
        have hy := yielded_of (tmps := a.tmps) (by rw [← hj]; simp : ops[j]? = some oj) hd
        have henv := hr.env d
        have getq : ∀ b, a.tmps.getD d undef = .bool b → yielded ops a.tmps j = some b := fun b hb => by
          rw [hy]
          by_cases hlt : d < a.tmps.size
          · simp [hlt] at hb ⊢; rw [hb]
          · simp [hlt, undef] at hb
        split
        · rename_i b e
          rw [e] at henv
          have hb := getq b henv
          rw [hw, hb]
          cases b <;> cases want <;> simp
        · rename_i b e
          rw [e] at henv
          refine ⟨(fun h => by cases h), (fun h => by cases h), fun d' b' h => ?_⟩
          injection h with h1 h2; subst h1; subst h2
          exact henv
        · rename_i c e
          rw [e] at henv
          have henv : a.tmps.getD d undef = .tuple c := henv
          have hn : yielded ops a.tmps j = none := by
            rw [hy]
            by_cases hlt : d < a.tmps.size
            · simp [hlt] at henv ⊢; rw [henv]
            · simp [hlt]
          exact ⟨(fun h => by cases h), (fun _ => by rw [hw, hn]; rfl), (fun d b h => by cases h)⟩
        · exact ⟨(fun h => by cases h), (fun h => by cases h), (fun d b h => by cases h)⟩
      · exact ⟨(fun h => by cases h), (fun h => by cases h), (fun d b h => by cases h)⟩
    · exact ⟨(fun h => by cases h), (fun h => by cases h), (fun d b h => by cases h)⟩

def JL (sr : St) (stab : List Nat) (w : World) : Prop := ∀ k ∈ stab, ∀ pb, sr.hp[k]? = some (some pb) → ∃ T f, w.heap[pb.b]? = some (.cells pb.cs.toArray T f)
theorem stabOk_sound {sr : St} {stab : List Nat} (h : stabOk sr s stab = true) (he : Ext sr s) (hr : Rel s v a w) : JL sr stab w := by
  intro k hk pb hpb
  simp only [stabOk, List.all_eq_true] at h
  have h1 := h k hk
  have hg : sr.hp.getD k none = some pb := by rw [List.getD_eq_getElem?_getD, hpb]; rfl
  rw [hg] at h1
  split at h1
  · rename_i p q e1 e2
    injection e1 with e1; subst e1
    have hq := hp_getD e2
    have hv := Nat.eq_of_beq_eq_true h1
    have := (he.num k pb q hpb hq).2.2 hv.symm
    subst this
    obtain ⟨T, hT⟩ := hr.priv k _ hq
    exact ⟨T, _, hT⟩
  · cases h1

theorem freeOk_sound {ops : Array Oper} {listed : List Bool} {i : Nat} {oi : Oper} {mild : Bool} (h : freeOk ops.toList listed i oi mild = true) :
    ∃ D, chkD ops i D = true ∧ ∀ (j : Nat) oj, ops[j]? = some oj → j ≠ i → listed.toArray.getD j true = false → D.getD j false = false → oi.apart ops oj = true ∧ (mild = true → mildK oj.op = true) := by
  simp only [freeOk, Bool.and_eq_true, List.all_eq_true, List.mem_range] at h
  refine ⟨_, by rw [← chkDL_eq]; exact h.1, fun j oj hj hne hl hD => ?_⟩
  have hjs := (Array.getElem?_eq_some_iff.1 hj).1
  have h1 := h.2 j (by simpa using hjs)
  have e1 : Nat.beq j i = false := by
    cases hb : Nat.beq j i with
    | false => rfl
    | true => exact absurd (Nat.eq_of_beq_eq_true hb) hne
  have e2 : listed.getD j true = false := by simpa [List.getD_eq_getElem?_getD] using hl
  rw [e1, e2, hD, Array.getElem?_toList, hj] at h1
  simp only [Bool.or_false, Bool.false_or, Bool.and_eq_true, Bool.or_eq_true, Bool.not_eq_true'] at h1
  refine ⟨by simpa using h1.1, fun hm => ?_⟩
  rcases h1.2 with h2 | h2
  · rw [hm] at h2; cases h2
  · exact h2

theorem firstSome_spec {f : Nat → Option Prop} : ∀ {l : List Nat} {p : Prop}, firstSome f l = some p → ∃ i ∈ l, f i = some p
  | [], p, h => by cases h
  | i :: r, p, h => by
    simp only [firstSome] at h
    cases e : f i with
    | some q => rw [e] at h; injection h with h; subst h; exact ⟨i, by simp, e⟩
    | none =>
      rw [e] at h
      obtain ⟨j, hj, he⟩ := firstSome_spec h
      exact ⟨j, by simp [hj], he⟩
theorem allB_spec {f : Nat → Prop} : ∀ {l : List Nat}, allB f l → ∀ i ∈ l, f i
  | [], h, i, hi => by cases hi
  | [j], h, i, hi => by simp at hi; subst hi; exact h
  | j :: k :: r, h, i, hi => by
    rcases List.mem_cons.1 hi with rfl | hi
    · exact h.1
    · exact allB_spec h.2 i hi

theorem vcD_sound (hP : PF P) {ops : Array Oper} (hns : Region.noSelect ops = true) {ds : List (Option Nat)} {a0 : Act} {s0 sr : St} {stab : List Nat} (hds : ∀ o ∈ ops.toList, o.dst ∈ ds)
    (hQ : ∀ chain a w', (∃ q, qp = some q ∧ q chain w') → a.defers = [] → Q (.panic chain) a w') (hQp : ∀ c (a : Act) w dst x, Q (.panic c) (a.put dst x) w → Q (.panic c) a w) (hN : ∀ a' w', Nrm s0 ds a0 K a' w' → Q .normal a' w') :
    ∀ (n : Nat) (listed : List Bool) {s : St} {v : World} {a : Act} {w : World}, vcD P qp ops.toList sr stab n listed s v K → Rel s v a w → Ext sr s → Ext s0 s → SameOut ds a0 a → Closed ops listed.toArray → listed.length = ops.size →
      ∀ m, rem listed ≤ m → wpAnyE P ops Q (fun i w w' => (∀ o, ops[i]? = some o → mildK o.op = true → Ext0 w w') ∧ (JL sr stab w → JL sr stab w')) m listed.toArray a w
  | 0, listed, s, v, a, w, h, _, _, _, _, _, _, _, _ => h.elim
  | n + 1, listed, s, v, a, w, h, hr, hxr, hx0, hso, hcl, hlen, m, hm => by
    simp only [vcD] at h
    split at h
    · exact h.elim
    · rename_i hst
      have hjl := stabOk_sound hst hxr hr
      have hrdy := ready_eq ops listed
      split at h
      · rename_i hnil
        rw [hnil] at hrdy
        have hq : Q .normal a w := hN a w ⟨s, v, hr, hx0, hso, h⟩
        cases m with
        | zero => exact ⟨hrdy, hq⟩
        | succ m => exact ⟨fun _ => hq, by rw [hrdy]; simp⟩
      · rename_i i0 r0 hcons
        rw [hcons] at hrdy
        -- of whatever is ready
        have facts : ∀ i ∈ i0 :: r0, ∃ o, ops[i]? = some o ∧ listed[i]? = some false ∧ o.dst ∈ ds ∧ Closed ops (listed.set i true).toArray ∧ (listed.set i true).length = ops.size ∧ rem (listed.set i true) + 1 = rem listed := fun i hi => by
          have hir : i ∈ Region.ready .any ops listed.toArray := by rw [hrdy]; exact hi
          obtain ⟨hun, o, ho, hall⟩ := mem_ready.1 hir
          have hlt : i < listed.length := by rw [hlen]; exact (Array.getElem?_eq_some_iff.1 ho).1
          have hf : listed[i]? = some false := by
            rw [List.getElem?_eq_getElem hlt]
            simp [hlt] at hun
            rw [hun]
          refine ⟨o, ho, hf, hds o (Array.mem_def.1 (Array.mem_of_getElem? ho)), fun k ok hk hl e he hb => ?_, by simp [hlen], rem_set hf⟩
          have hset : (listed.set i true).toArray = listed.toArray.setIfInBounds i true := by simp
          rw [hset] at hl ⊢
          by_cases hki : i = k
          · subst hki
            rw [ho] at hk; injection hk with hk; subst hk
            exact getD_set_true (hall e he hb)
          · have : Lst listed.toArray k := by unfold Lst at hl ⊢; rw [getD_set_ne false hki] at hl; exact hl
            exact getD_set_true (hcl k ok hk this e he hb)
        split at h
        · rename_i p hp
          obtain ⟨i, hi, hstat⟩ := firstSome_spec hp
          obtain ⟨o, ho, hf, hdo, hcl', hlen', hrem⟩ := facts i hi
          have hir : i ∈ Region.ready .any ops listed.toArray := by rw [hrdy]; exact hi
          have hset : (listed.set i true).toArray = listed.toArray.setIfInBounds i true := by simp
          obtain ⟨m', rfl⟩ : ∃ m', m = m' + 1 := ⟨m - 1, by omega⟩
          -- a step that hangs on no order
          have take : ∀ (J : World → Prop) (x : Value) (av : AV) (mild : Bool), freeOk ops.toList listed i o mild = true → J w → YJ P ops o x a J → AVok s av x →
              (∀ (j : Nat) oj w w', ops[j]? = some oj → (mild = true → mildK oj.op = true) → (∀ o, ops[j]? = some o → mildK o.op = true → Ext0 w w') ∧ (JL sr stab w → JL sr stab w') → J w → J w') →
              vcD P qp ops.toList sr stab n (listed.set i true) (s.put o.dst av) v K → wpAnyE P ops Q (fun i w w' => (∀ o, ops[i]? = some o → mildK o.op = true → Ext0 w w') ∧ (JL sr stab w → JL sr stab w')) (m' + 1) listed.toArray a w := fun J x av mild hfree hJ hy hav hJs hk => by
            obtain ⟨D, hD, hfr⟩ := freeOk_sound hfree
            have ih := vcD_sound hP hns hds hQ hQp hN n (listed.set i true) hk (hr.put o.dst hav) (hxr.trans (Ext.of_hp (by cases o.dst <;> rfl))) (hx0.trans (Ext.of_hp (by cases o.dst <;> rfl))) (hso.trans (SameOut.put a o.dst x ds hdo)) hcl' hlen' m' (by omega)
            rw [hset] at ih
            refine firstE (pre := fun j => ∃ oj, ops[j]? = some oj ∧ (mild = true → mildK oj.op = true)) (J := J) ho (Region.noSelect_spec hns) (fun c a w => hQp c a w o.dst x) hD ?_ (fun w => ⟨fun _ _ _ => Ext0.refl w, id⟩) m' listed.toArray a w (by simp [hlen]) hcl ?_ hir hJ hy ih
            · intro j w1 w2 ⟨oj, hoj, hmj⟩ hs hj
              exact hJs j oj w1 w2 hoj hmj hs hj
            · intro j oj hj hne hl hDj
              obtain ⟨g1, g2⟩ := hfr j oj hj hne hl hDj
              exact ⟨g1, oj, hj, g2⟩
          simp only [staticOf, Array.getElem?_toList, ho] at hstat
          obtain ⟨gy, gn, gs⟩ := guardS_sound (ops := ops) (o := o) hr
          split at hstat
          · cases hstat
          · rename_i d b hsp
            injection hstat with hstat; subst hstat
            have hv := gs d b hsp
            have hx : Ext s (s.put (some d) (.t b)) := Ext.of_hp rfl
            have hk : vcD P qp ops.toList sr stab n listed (s.put (some d) (.t b)) v K := by
              cases b
              · exact h.2 rfl
              · exact h.1 rfl
            exact vcD_sound hP hns hds hQ hQp hN n listed hk (hr.put_same hv) (hxr.trans hx) (hx0.trans hx) hso hcl hlen (m' + 1) hm
          · rename_i hno
            split at hstat
            · rename_i hfree
              injection hstat with hstat; subst hstat
              exact take (fun _ => True) undef (.v undef) false hfree trivial (.inr ⟨gn hno, rfl⟩) rfl (fun _ _ _ _ _ _ _ _ => trivial) h
            · cases hstat
          · rename_i hyes
            have hw := gy hyes
            split at hstat
            · rename_i q hq
              split at hstat
              · rename_i hfree
                injection hstat with hstat; subst hstat
                obtain ⟨x, av, hy, hav, hk⟩ := pvc_sound hq h hr
                exact take (fun _ => True) x av false hfree trivial (.inl ⟨hw, hy⟩) hav (fun _ _ _ _ _ _ _ _ => trivial) hk
              · cases hstat
            · split at hstat
              · rename_i k q hq
                split at hstat
                · rename_i hfree
                  injection hstat with hstat; subst hstat
                  simp only [Bool.and_eq_true, List.contains_eq_mem, decide_eq_true_eq] at hfree
                  obtain ⟨pb, x, av, hkp, hy, hav, hk⟩ := rvc_sound hq h hr
                  -- the block is as it was when the region began
                  obtain ⟨pr, hpr⟩ : ∃ pr, sr.hp[k]? = some (some pr) := by
                    have h1 := List.all_eq_true.1 hst k hfree.1
                    split at h1
                    · rename_i p q' e1 e2; exact ⟨p, hp_getD e1⟩
                    · cases h1
                  have hsame : pb = pr := by
                    have h1 := List.all_eq_true.1 hst k hfree.1
                    have e1 : sr.hp.getD k none = some pr := by rw [List.getD_eq_getElem?_getD, hpr]; rfl
                    have e2 : s.hp.getD k none = some pb := by rw [List.getD_eq_getElem?_getD, hkp]; rfl
                    rw [e1, e2] at h1
                    exact (hxr.num k pr pb hpr hkp).2.2 (Nat.eq_of_beq_eq_true h1).symm
                  subst hsame
                  exact take (JL sr stab) x av false hfree.2 hjl (.inl ⟨hw, fun w' hj => hy w' (hj k hfree.1 pb hpr)⟩) hav (fun _ _ _ _ _ _ hs hj => hs.2 hj) hk
                · cases hstat
              · split at hstat
                · rename_i q hq
                  split at hstat
                  · rename_i hfree
                    injection hstat with hstat; subst hstat
                    obtain ⟨x, av, hy, hav, hk⟩ := qvc_sound hq h hr
                    refine take (fun w' => Ext0 w w') x av true hfree (Ext0.refl w) (.inl ⟨hw, fun w' hj => hy w' (hr.sees hj)⟩) hav (fun j oj w1 w2 hoj hmj hs hj => ?_) hk
                    have := hs.1 oj hoj (hmj rfl)
                    exact ⟨Nat.le_trans hj.1 this.1, fun b hb => (this.2 b (Nat.lt_of_lt_of_le hb hj.1)).trans (hj.2 b hb)⟩
                  · cases hstat
                · cases hstat
        · rename_i hnone
          obtain ⟨m', rfl⟩ : ∃ m', m = m' + 1 := ⟨m - 1, by obtain ⟨_, _, _, _, _, _, hrem⟩ := facts i0 (by simp); omega⟩
          refine ⟨(fun h0 => by rw [hrdy] at h0; cases h0), fun i hi => ?_⟩
          rw [hrdy] at hi
          have h1 := allB_spec h i hi
          obtain ⟨o, ho, hf, hdo, hcl', hlen', hrem⟩ := facts i hi
          have hset : (listed.set i true).toArray = listed.toArray.setIfInBounds i true := by simp
          simp only [Array.getElem?_toList, ho] at h1
          obtain ⟨gy, gn, gs⟩ := guardS_sound (ops := ops) (o := o) hr
          unfold wpOp
          simp only [ho]
          split at h1
          · rename_i hyes
            rw [if_pos (gy hyes)]
            refine .inl (Oper.wp_mono (fun a' w' hp => ?_) (vcOp_sound hP h1 hr (fun chain w' hq hd => hQ chain a w' hq hd)))
            obtain ⟨s', v', g1, g2, g3, ⟨x, rfl⟩, hem⟩ := hp
            have ih := vcD_sound hP hns hds hQ hQp hN n (listed.set i true) g3 g1 (hxr.trans g2) (hx0.trans g2) (hso.trans (SameOut.put a o.dst x ds hdo)) hcl' hlen' m' (by omega)
            rw [hset] at ih
            refine ⟨⟨fun o' ho' hmd => ?_, fun _ => ?_⟩, ih⟩
            · cases ho'; exact hem hmd
            · cases n with
              | zero => exact g3.elim
              | succ n =>
                simp only [vcD] at g3
                split at g3
                · exact g3.elim
                · rename_i hst'; exact stabOk_sound hst' (hxr.trans g2) g1
          · rename_i hno
            rw [if_neg (by rw [gn hno]; simp)]
            have ih := vcD_sound hP hns hds hQ hQp hN n (listed.set i true) h1 (hr.put o.dst (x := .v undef) (z := undef) rfl) (hxr.trans (Ext.of_hp (by cases o.dst <;> rfl))) (hx0.trans (Ext.of_hp (by cases o.dst <;> rfl))) (hso.trans (SameOut.put a o.dst undef ds hdo)) hcl' hlen' m' (by omega)
            rw [hset] at ih
            exact ⟨⟨fun _ _ _ => Ext0.refl w, id⟩, ih⟩
          · exact h1.elim

end
end Go.V

end
section
/- A function's text as a whole: joinings, loops, results. -/
namespace Go.V
open Go.RowKit
set_option linter.unusedVariables false
set_option linter.unusedSimpArgs false

/-! ### what is handed on where ways meet -/
inductive Sh where
  | l (x : Lf)
  | g (ls : List Lf)
  | a
  | x

def FnL : List Lf → Type → Type
  | [], R => R
  | .i _ :: ls, R => Int → FnL ls R
  | .b :: ls, R => Bool → FnL ls R
  | .s :: ls, R => ByteArray → FnL ls R
  | .p :: ls, R => Option Addr → FnL ls R
  | .sl :: ls, R => Option Addr → Nat → Nat → FnL ls R
  | .m :: ls, R => Option Nat → FnL ls R
def FnS : List Sh → Type → Type
  | [], R => R
  | .l x :: r, R => FnL [x] (FnS r R)
  | .g ls :: r, R => FnL ls (FnS r R)
  | .a :: r, R => Addr → FnS r R
  | .x :: r, R => Value → FnS r R

def appL : (ls : List Lf) → {R : Type} → FnL ls R → List Value → Option R
  | [], _, f, [] => some f
  | .i k :: ls, _, f, .int k' n :: vs => match decide (k = k') with
    | true => appL ls (f n) vs
    | false => none
  | .b :: ls, _, f, .bool b :: vs => appL ls (f b) vs
  | .s :: ls, _, f, .string b :: vs => appL ls (f b) vs
  | .p :: ls, _, f, .pointer p :: vs => appL ls (f p) vs
  | .sl :: ls, _, f, .slice p l c :: vs => appL ls (f p l c) vs
  | .m :: ls, _, f, .map m :: vs => appL ls (f m) vs
  | _, _, _, _ => none
def AV.value : AV → Option Value
  | .v x => some x
  | .a ad => some (.pointer (some ad))
  | .t b => some (.bool b)
  | _ => none
def appS : (ss : List Sh) → {R : Type} → FnS ss R → List AV → Option R
  | [], _, f, [] => some f
  | .l x :: r, _, f, av :: avs => match av.value with
    | some y => match appL [x] f [y] with
      | some g => appS r g avs
      | none => none
    | none => none
  | .g ls :: r, _, f, .v (.agg cs) :: avs => match appL ls f cs.toList with
    | some g => appS r g avs
    | none => none
  | .a :: r, _, f, .a ad :: avs => appS r (f ad) avs
  | .x :: r, _, f, av :: avs => match av.value with
    | some y => appS r (f y) avs
    | none => none
  | _, _, _, _ => none

def allFL : (ls : List Lf) → {R : Type} → FnL ls R → (List Value → R → Prop) → Prop
  | [], _, f, K => K [] f
  | .i k :: ls, _, f, K => ∀ n : Int, allFL ls (f n) fun vs g => K (.int k n :: vs) g
  | .b :: ls, _, f, K => ∀ x : Bool, allFL ls (f x) fun vs g => K (.bool x :: vs) g
  | .s :: ls, _, f, K => ∀ x : ByteArray, allFL ls (f x) fun vs g => K (.string x :: vs) g
  | .p :: ls, _, f, K => ∀ x : Option Addr, allFL ls (f x) fun vs g => K (.pointer x :: vs) g
  | .sl :: ls, _, f, K => ∀ (x : Option Addr) (l c : Nat), allFL ls (f x l c) fun vs g => K (.slice x l c :: vs) g
  | .m :: ls, _, f, K => ∀ x : Option Nat, allFL ls (f x) fun vs g => K (.map x :: vs) g
def allFS : (ss : List Sh) → {R : Type} → FnS ss R → (List AV → R → Prop) → Prop
  | [], _, f, K => K [] f
  | .l x :: r, _, f, K => allFL [x] f fun vs g => match vs with
    | [y] => allFS r g fun avs h => K (.v y :: avs) h
    | _ => True
  | .g ls :: r, _, f, K => allFL ls f fun vs g => allFS r g fun avs h => K (.v (.agg vs.toArray) :: avs) h
  | .a :: r, _, f, K => ∀ ad, allFS r (f ad) fun avs h => K (.a ad :: avs) h
  | .x :: r, _, f, K => ∀ y, allFS r (f y) fun avs h => K (.v y :: avs) h

def lamL : (ls : List Lf) → {R : Type} → (List Value → R) → FnL ls R
  | [], _, F => F []
  | .i k :: ls, _, F => fun (n : Int) => lamL ls fun vs => F (.int k n :: vs)
  | .b :: ls, _, F => fun (x : Bool) => lamL ls fun vs => F (.bool x :: vs)
  | .s :: ls, _, F => fun (x : ByteArray) => lamL ls fun vs => F (.string x :: vs)
  | .p :: ls, _, F => fun (x : Option Addr) => lamL ls fun vs => F (.pointer x :: vs)
  | .sl :: ls, _, F => fun (x : Option Addr) (l c : Nat) => lamL ls fun vs => F (.slice x l c :: vs)
  | .m :: ls, _, F => fun (x : Option Nat) => lamL ls fun vs => F (.map x :: vs)
def one? : List Value → Value
  | [y] => y
  | _ => undef
def lamS : (ss : List Sh) → {R : Type} → (List AV → R) → FnS ss R
  | [], _, F => F []
  | .l x :: r, _, F => lamL [x] fun vs => lamS r fun avs => F (.v (one? vs) :: avs)
  | .g ls :: r, _, F => lamL ls fun vs => lamS r fun avs => F (.v (.agg vs.toArray) :: avs)
  | .a :: r, _, F => fun (ad : Addr) => lamS r fun avs => F (.a ad :: avs)
  | .x :: r, _, F => fun (y : Value) => lamS r fun avs => F (.v y :: avs)

theorem allFL_lam {ls : List Lf} : ∀ {R : Type} {F : List Value → R} {K : List Value → R → Prop}, (∀ vs, vs.length = ls.length → K vs (F vs)) → allFL ls (lamL ls F) K := by
  induction ls with
  | nil => intro R F K h; exact h [] rfl
  | cons l ls ih =>
    intro R F K h
    cases l with
    | i k => exact fun n => ih (F := fun vs => F ((.int k n) :: vs)) (K := fun vs g => K ((.int k n) :: vs) g) fun vs hv => h _ (by simp [hv])
    | b => exact fun x => ih (F := fun vs => F ((.bool x) :: vs)) (K := fun vs g => K ((.bool x) :: vs) g) fun vs hv => h _ (by simp [hv])
    | s => exact fun x => ih (F := fun vs => F ((.string x) :: vs)) (K := fun vs g => K ((.string x) :: vs) g) fun vs hv => h _ (by simp [hv])
    | p => exact fun x => ih (F := fun vs => F ((.pointer x) :: vs)) (K := fun vs g => K ((.pointer x) :: vs) g) fun vs hv => h _ (by simp [hv])
    | sl => exact fun x l c => ih (F := fun vs => F ((.slice x l c) :: vs)) (K := fun vs g => K ((.slice x l c) :: vs) g) fun vs hv => h _ (by simp [hv])
    | m => exact fun x => ih (F := fun vs => F ((.map x) :: vs)) (K := fun vs g => K ((.map x) :: vs) g) fun vs hv => h _ (by simp [hv])
theorem allFS_lam {ss : List Sh} : ∀ {R : Type} {F : List AV → R} {K : List AV → R → Prop}, (∀ avs, K avs (F avs)) → allFS ss (lamS ss F) K := by
  induction ss with
  | nil => intro R F K h; exact h []
  | cons s ss ih =>
    intro R F K h
    cases s with
    | l x =>
      refine allFL_lam (K := fun vs g => match vs with | [y] => allFS ss g fun avs h => K (.v y :: avs) h | _ => True) fun vs hv => ?_
      match vs, hv with
      | [y], _ => exact ih fun avs => h _
    | g ls => exact allFL_lam (K := fun vs g => allFS ss g fun avs h => K (.v (.agg vs.toArray) :: avs) h) fun vs hv => ih fun avs => h _
    | a => exact fun ad => ih fun avs => h _
    | x => exact fun y => ih fun avs => h _

theorem appL_lam {ls : List Lf} : ∀ {R : Type} {F : List Value → R} {vs : List Value} {g : R}, appL ls (lamL ls F) vs = some g → g = F vs := by
  induction ls with
  | nil =>
    intro R F vs g h
    cases vs with
    | nil => simp [appL, lamL] at h; exact h.symm
    | cons x vs => simp [appL] at h
  | cons l ls ih =>
    intro R F vs g h
    cases vs with
    | nil => cases l <;> simp [appL] at h
    | cons x vs =>
      cases l with
      | i k =>
        cases x <;> simp only [appL, reduceCtorEq] at h
        rename_i k' n
        split at h
        · rename_i hk
          obtain rfl := of_decide_eq_true hk
          exact ih (F := fun vs => F (.int k n :: vs)) h
        · cases h
      | b =>
        cases x <;> simp only [appL, reduceCtorEq] at h
        rename_i y
        exact ih (F := fun vs => F (.bool y :: vs)) h
      | s =>
        cases x <;> simp only [appL, reduceCtorEq] at h
        rename_i y
        exact ih (F := fun vs => F (.string y :: vs)) h
      | p =>
        cases x <;> simp only [appL, reduceCtorEq] at h
        rename_i y
        exact ih (F := fun vs => F (.pointer y :: vs)) h
      | sl =>
        cases x <;> simp only [appL, reduceCtorEq] at h
        rename_i y l c
        exact ih (F := fun vs => F (.slice y l c :: vs)) h
      | m =>
        cases x <;> simp only [appL, reduceCtorEq] at h
        rename_i y
        exact ih (F := fun vs => F (.map y :: vs)) h

/-- What is handed on, by its shape. -/
inductive Conv : List Sh → List AV → List AV → Prop
  | nil : Conv [] [] []
  | l {lf : Lf} {x : AV} {y : Value} {ss : List Sh} {xs ys : List AV} : x.value = some y → Conv ss xs ys → Conv (.l lf :: ss) (x :: xs) (.v y :: ys)
  | g {ls : List Lf} {cs : Array Value} {ss : List Sh} {xs ys : List AV} : Conv ss xs ys → Conv (.g ls :: ss) (.v (.agg cs) :: xs) (.v (.agg cs) :: ys)
  | a {ad : Addr} {ss : List Sh} {xs ys : List AV} : Conv ss xs ys → Conv (.a :: ss) (.a ad :: xs) (.a ad :: ys)
  | x {x : AV} {y : Value} {ss : List Sh} {xs ys : List AV} : x.value = some y → Conv ss xs ys → Conv (.x :: ss) (x :: xs) (.v y :: ys)
theorem appS_lam {ss : List Sh} : ∀ {R : Type} {F : List AV → R} {avs : List AV} {g : R}, appS ss (lamS ss F) avs = some g → ∃ avs', Conv ss avs avs' ∧ g = F avs' := by
  induction ss with
  | nil =>
    intro R F avs g h
    cases avs with
    | nil => simp [appS, lamS] at h; exact ⟨[], .nil, h.symm⟩
    | cons x avs => simp [appS] at h
  | cons sh ss ih =>
    intro R F avs g h
    cases avs with
    | nil => cases sh <;> simp [appS] at h
    | cons x avs =>
      cases sh with
      | l lf =>
        simp only [appS] at h
        split at h
        · rename_i y hy
          split at h
          · rename_i g' hg
            have := appL_lam (F := fun vs => lamS ss fun avs => F (.v (one? vs) :: avs)) hg
            subst this
            obtain ⟨avs', h1, h2⟩ := ih (F := fun avs => F (.v y :: avs)) h
            exact ⟨_, .l hy h1, h2⟩
          · cases h
        · cases h
      | g ls =>
        cases x with
        | v y =>
          cases y with
          | agg cs =>
            simp only [appS] at h
            split at h
            · rename_i g' hg
              have := appL_lam (F := fun vs => lamS ss fun avs => F (.v (.agg vs.toArray) :: avs)) hg
              subst this
              obtain ⟨avs', h1, h2⟩ := ih (F := fun avs => F (.v (.agg cs.toList.toArray) :: avs)) h
              exact ⟨_, .g h1, by simpa using h2⟩
            · cases h
          | _ => simp [appS] at h
        | _ => simp [appS] at h
      | a =>
        cases x with
        | a ad =>
          simp only [appS] at h
          obtain ⟨avs', h1, h2⟩ := ih (F := fun avs => F (.a ad :: avs)) h
          exact ⟨_, .a h1, h2⟩
        | _ => simp [appS] at h
      | x =>
        simp only [appS] at h
        split at h
        · rename_i y hy
          obtain ⟨avs', h1, h2⟩ := ih (F := fun avs => F (.v y :: avs)) h
          exact ⟨_, .x hy h1, h2⟩
        · cases h
theorem Conv.length {ss : List Sh} {xs ys : List AV} (h : Conv ss xs ys) : xs.length = ss.length ∧ ys.length = ss.length := by
  induction h <;> simp_all
theorem Conv.split {s1 s2 : List Sh} : ∀ {x1 x2 ys : List AV}, x1.length = s1.length → Conv (s1 ++ s2) (x1 ++ x2) ys → ∃ y1 y2, ys = y1 ++ y2 ∧ Conv s1 x1 y1 ∧ Conv s2 x2 y2 := by
  induction s1 with
  | nil =>
    intro x1 x2 ys hl h
    have : x1 = [] := List.eq_nil_of_length_eq_zero (by simpa using hl)
    subst this
    exact ⟨[], ys, rfl, .nil, h⟩
  | cons sh s1 ih =>
    intro x1 x2 ys hl h
    cases x1 with
    | nil => simp at hl
    | cons x x1 =>
      have hl1 : x1.length = s1.length := by simpa using hl
      simp only [List.cons_append] at h
      cases h with
      | l hv h => obtain ⟨y1, y2, e, h1, h2⟩ := ih hl1 h; exact ⟨_, y2, by rw [e]; rfl, .l hv h1, h2⟩
      | g h => obtain ⟨y1, y2, e, h1, h2⟩ := ih hl1 h; exact ⟨_, y2, by rw [e]; rfl, .g h1, h2⟩
      | a h => obtain ⟨y1, y2, e, h1, h2⟩ := ih hl1 h; exact ⟨_, y2, by rw [e]; rfl, .a h1, h2⟩
      | x hv h => obtain ⟨y1, y2, e, h1, h2⟩ := ih hl1 h; exact ⟨_, y2, by rw [e]; rfl, .x hv h1, h2⟩
theorem value_ok {s s' : St} {x : AV} {y z : Value} (h : x.value = some y) (hz : AVok s x z) : AVok s' (.v y) z := by
  cases x <;> simp [AV.value] at h <;> (subst h; exact hz)

end Go.V

end
section
/- What is to be shown of a function's text: the rule. -/
namespace Go.V
open Go.RowKit
set_option linter.unusedVariables false
set_option linter.unusedSimpArgs false

/-- Where ways meet, and where a round begins: which slots and which private blocks are handed on; which blocks become known before; which stay as they are. -/
structure Cut where
  ends : List Nat
  pubs : List Nat
  keep : List Nat
  slots : List (Nat × Sh)
  hps : List (Nat × List Lf)
inductive Ann where
  | n
  | s (a b : Ann)
  | j (c : Cut) (a b : Ann)
  | c (a b : Ann)
  | b (a : Ann)
  | l (c : Cut) (a : Ann)
  | d (stab : List Nat)

def Cut.shs (c : Cut) : List Sh := c.slots.map (·.2) ++ c.hps.flatMap fun h => h.2.map Sh.l
def St.cellsOf (s : St) (k n : Nat) : List AV := match s.hp.getD k none with
  | some pb => match Nat.beq pb.cs.length n with
    | true => pb.cs.map AV.v
    | false => [.no]
  | none => [.no]
def Cut.avs (c : Cut) (s : St) : List AV := c.slots.map (fun p => s.get p.1) ++ c.hps.flatMap fun h => s.cellsOf h.1 h.2.length

/-- Truth values that were parted on are as good as others. -/
def dropRef (live : List Nat) : AV → AV
  | .r k off => bif live.any (Nat.beq k) then .r k off else .no
  | .q k n => bif live.any (Nat.beq k) then .q k n else .no
  | x => x
def setAll (env : List AV) : List (Nat × Sh) → List AV → List AV
  | (t, _) :: ss, x :: xs => setAll (env.set t x) ss xs
  | _, _ => env
def vals1 : List AV → List Value
  | [] => []
  | .v x :: l => x :: vals1 l
  | _ :: l => undef :: vals1 l
def setHps (hp : List (Option PB)) : List (Nat × List Lf) → List AV → List (Option PB)
  | (k, ls) :: hs, xs => match hp.getD k none with
    | some pb => setHps (hp.set k (some ⟨pb.b, pb.ver + 1, vals1 (xs.take ls.length)⟩)) hs (xs.drop ls.length)
    | none => setHps hp hs (xs.drop ls.length)
  | [], _ => hp
def dropHps (live : List Nat) : Nat → List (Option PB) → List (Option PB)
  | _, [] => []
  | i, x :: l => (bif live.any (Nat.beq i) then x else none) :: dropHps live (i + 1) l
def inWs (i : Nat) : List (Option Nat) → Bool
  | [] => false
  | some d :: l => Nat.beq d i || inWs i l
  | none :: l => inWs i l
def forget (ws : List (Option Nat)) : Nat → List AV → List AV
  | _, [] => []
  | i, x :: l => (bif inWs i ws then .no else x) :: forget ws (i + 1) l
/-- The state behind a meeting. -/
def Cut.st (c : Cut) (s : St) (ws : List (Option Nat)) (avs : List AV) : St :=
  let live := c.keep ++ c.hps.map (·.1)
  { env := setAll ((forget ws 0 s.env).map (dropRef live)) c.slots (avs.take c.slots.length), hp := setHps (dropHps live 0 s.hp) c.hps (avs.drop c.slots.length), mods := [], news := [], clean := true, its := s.its }

def writes : Code → List (Option Nat)
  | .region _ ops _ => ops.toList.map (·.dst)
  | .seq a b => writes a ++ writes b
  | .cond _ a b => writes a ++ writes b
  | .block _ a => writes a
  | .loop a => writes a
  | .scope a => writes a
  | _ => []

def pubAll (s : St) (v : World) : List Nat → (St → World → Prop) → Prop
  | [], K => K s v
  | k :: ks, K => pub s v k fun s v _ => pubAll s v ks K

/-- A relation holds at a state. -/
def atS (c : Cut) (J : FnS c.shs (World → Prop)) (sb s : St) (v : World) : Prop :=
  pubSlots s v c.ends fun s v => sync s v fun s v => match s.dfs with
    | [] => match stabOk sb s c.keep with
      | true => match appS c.shs J (c.avs s) with
        | some g => g v
        | none => False
      | false => False
    | _ => False

def St.know (s : St) (c : Operand) (b : Bool) : St :=
  match c with
  | .tmp t => s.put (some t) (.t b)
  | _ => s

/-! ### ranges over functions -/
/-- Code without deferred calls and without ranges over functions. -/
def plainC : Code → Bool
  | .region _ ops _ => ops.toList.all fun o => match o.op with
    | .defer _ => false
    | _ => true
  | .seq a b => plainC a && plainC b
  | .cond _ a b => plainC a && plainC b
  | .block _ a => plainC a
  | .loop a => plainC a
  | .scope a => plainC a
  | .rangeFunc .. => false
  | _ => true
def allNone : List (Option PB) → Bool
  | [] => true
  | none :: l => allNone l
  | some _ :: _ => false
def shLf : Sh → List Lf
  | .l x => [x]
  | _ => []
/-- The kinds of the loop's parameters. -/
def Cut.lfs (c : Cut) : List Lf := c.slots.flatMap fun p => shLf p.2
def allLV : List Lf → (List Value → Prop) → Prop
  | [], K => K []
  | .i k :: ls, K => ∀ n, allLV ls fun vs => K (.int k n :: vs)
  | .b :: ls, K => ∀ b, allLV ls fun vs => K (.bool b :: vs)
  | .s :: ls, K => ∀ b, allLV ls fun vs => K (.string b :: vs)
  | .p :: ls, K => ∀ p, allLV ls fun vs => K (.pointer p :: vs)
  | .sl :: ls, K => ∀ p l c, allLV ls fun vs => K (.slice p l c :: vs)
  | .m :: ls, K => ∀ m, allLV ls fun vs => K (.map m :: vs)
theorem allLV_app : ∀ {ls : List Lf} {K : List Value → Prop} {z : List Value}, allLV ls K → exL ls (fun vs => z = vs) → K z
  | [], K, z, h, e => by have e : z = [] := e; rw [e]; exact h
  | l :: ls, K, z, h, e => by
    have key : ∀ (x : Value), (exL ls fun vs => z = x :: vs) → (allLV ls fun vs => K (x :: vs)) → K z := fun x e h => by
      cases z with
      | nil =>
        obtain ⟨vs, _, _, hv⟩ := exL_sound e
        cases hv
      | cons y z =>
        obtain ⟨vs, _, _, hv⟩ := exL_sound e
        injection hv with h1 h2
        subst h1
        refine allLV_app (ls := ls) (K := fun vs => K (y :: vs)) h ?_
        have e2 : (fun vs => y :: z = y :: vs) = (fun vs => z = vs) := by
          funext vs; simp
        rw [e2] at e
        exact e
    cases l with
    | i k => obtain ⟨n, e⟩ := e; exact key _ e (h n)
    | b => obtain ⟨n, e⟩ := e; exact key _ e (h n)
    | s => obtain ⟨n, e⟩ := e; exact key _ e (h n)
    | p => obtain ⟨n, e⟩ := e; exact key _ e (h n)
    | sl => obtain ⟨p, l, c, e⟩ := e; exact key _ e (h p l c)
    | m => obtain ⟨n, e⟩ := e; exact key _ e (h n)
def setPs (env : List AV) : List Nat → List Value → List AV
  | p :: ps, x :: xs => setPs (env.set p (.v x)) ps xs
  | _, _ => env
def St.params (s : St) (ps : List Nat) (z : List Value) : St := { s with env := setPs s.env ps z, dfs := [] }
/-- The loop's record lies in block l, the rounds' deferred calls in block D; neither was there in world v. -/
def Marks (v w : World) (l D : Nat) : Prop := v.heap.size ≤ l ∧ v.heap.size ≤ D ∧ l ≠ D ∧ l < w.heap.size ∧ D < w.heap.size ∧ (∀ cs, ¬ Blk w l cs) ∧ ∀ cs, ¬ Blk w D cs
def Marked (v w : World) (D : Nat) : Prop := v.heap.size ≤ D ∧ w.heap[D]? = some (.deferred (some []))
def StabJ (v : World) (J : Nat → World → Prop) : Prop := ∀ (i : Nat) (w w' : World) (l : Nat), J i w → v.heap.size ≤ l → (∀ cs, ¬ Blk w l cs) → Step w w' [l] [] → J i w'
/-- The function g, with lb as its captured variables, hands over xs, one behind the other, as long as J holds, and keeps what a round says. -/
def IterOk (P : Program) (g : Nat) (lb : List Value) (xs : List (List Value)) (J : Nat → World → Prop) : Prop :=
  ∀ (l : Nat) (J' : Nat → World → Prop), (∀ i w w', J' i w → Step w w' [] [] → J' i w') → (∀ i w, J' i w → J i w) →
    (∀ (i : Nat) z w, xs[i]? = some z → J' i w → YieldsV P l z w fun e w' => e = .returned (.bool true) ∧ J' (i + 1) w') →
    ∀ w, J' 0 w → Calls P g (.func (.yield l) #[] #[] :: lb).toArray w fun e w' => (∃ x, e = .returned x) ∧ J' xs.length w'

def vc (P : Program) (qp : Option (List PanicEntry → World → Prop)) : Code → Ann → (Exit → St → World → Prop) → St → World → Prop
  | .skip, _, Q, s, v => Q .normal s v
  | .label _, _, Q, s, v => Q .normal s v
  | .exit id, _, Q, s, v => Q (.exit id) s v
  | .ret, _, Q, s, v => Q .ret s v
  | .region _ ops false, _, Q, s, v => vcOps P qp ops.toList ops.toList s v (Q .normal)
  | .region _ ops true, ann, Q, s, v => match Region.noSelect ops with
    | true => vcD P qp ops.toList s (match ann with
      | .d stab => stab
      | _ => []) (3 * ops.toList.length + 3) (List.replicate ops.toList.length false) { s with clean := false } v (Q .normal)
    | false => False
  | .seq x y, ann, Q, s, v => match ann with
    | .j c a b => pubAll s v c.pubs fun s v => ∀ J : FnS c.shs (World → Prop), allFS c.shs J (fun avs g => ∀ w, vc P qp y b Q (c.st s (writes x) avs) w → g w) →
        vc P qp x a (fun e s' v' => match e with
          | .normal => atS c J s s' v'
          | e => Q e s' v') s v
    | .s a b => vc P qp x a (fun e s' v' => match e with
      | .normal => vc P qp y b Q s' v'
      | e => Q e s' v') s v
    | _ => vc P qp x .n (fun e s' v' => match e with
      | .normal => vc P qp y .n Q s' v'
      | e => Q e s' v') s v
  | .cond c x y, ann, Q, s, v =>
    let a := match ann with
      | .c a _ => a
      | _ => .n
    let b := match ann with
      | .c _ b => b
      | _ => .n
    match s.evc c with
    | .t true => vc P qp x a Q s v
    | .t false => vc P qp y b Q s v
    | .v (.bool t) => bcase t (vc P qp x a Q (s.know c true) v) (vc P qp y b Q (s.know c false) v)
    | _ => False
  | .block id x, ann, Q, s, v => vc P qp x (match ann with
    | .b a => a
    | _ => .n) (fun e s' v' => match e with
      | .exit id' => match Nat.beq id' id with
        | true => Q .normal s' v'
        | false => Q (.exit id') s' v'
      | e => Q e s' v') s v
  | .loop x, ann, Q, s, v => match ann with
    | .l c a => pubAll s v c.pubs fun s v => ∃ (I : Nat → FnS c.shs (World → Prop)) (n : Nat), atS c (I n) s s v ∧
        ∀ n : Nat, allFS c.shs (I n) fun avs g => ∀ w, g w → vc P qp x a (fun e s' v' => match e with
          | .normal => ∃ n', n' < n ∧ atS c (I n') s s' v'
          | e => Q e s' v') (c.st s (writes x) avs) w
    | _ => False
  | .scope x, ann, Q, s, v => vc P qp x ann Q s v
  | .rangeFunc g ps x y, ann, Q, s, v => match qp, plainC x && plainC y, ann with
    | none, true, .l c a => pubAll s v c.pubs fun s v => sync s v fun s v => match allNone s.hp && Nat.beq c.lfs.length ps.toList.length, s.val g with
      | true, some gv => ∃ (f : Nat) (lb : List Value), gv = .func (.func f) #[] lb.toArray ∧ BodyOk P f ∧ ∃ (xs : List (List Value)) (J : Nat → World → Prop),
          (∀ z ∈ xs, exL c.lfs fun vs => z = vs) ∧ StabJ v J ∧ J 0 v ∧ IterOk P f lb xs J ∧
          (allLV c.lfs fun z => ∀ w0, vc P qp x .n (fun e s' v' => match e, s'.clean, allNone s'.hp with
            | .normal, true, true => v' = w0 ∧ ∀ (l D i : Nat) (w : World), xs[i]? = some z → J i w → Marks v w l D → vc P qp y a (fun e s2 v2 => match e with
              | .normal => sync s2 v2 fun _ w2 => Keep [l, D] w w2 ∧ J (i + 1) w2
              | _ => False) s'.synced w
            | _, _, _ => False) (s.params ps.toList z) w0) ∧
          ∀ (D : Nat) (w : World), J xs.length w → Marked v w D → Q .normal { s with dfs := D :: s.dfs } w
      | _, _ => False
    | _, _, _ => False
  | _, _, _, _, _ => False

end Go.V

end
section
/- Where ways meet: what is known holds. -/
namespace Go.V
open Go.RowKit
set_option linter.unusedVariables false
set_option linter.unusedSimpArgs false

theorem getD_get (s : St) (t : Nat) : s.get t = s.env.getD t .no := rfl

theorem inWs_iff (i : Nat) : ∀ (ws : List (Option Nat)), inWs i ws = true ↔ some i ∈ ws
  | [] => by simp [inWs]
  | none :: l => by simp [inWs, inWs_iff i l]
  | some d :: l => by
    simp only [inWs, Bool.or_eq_true, inWs_iff i l, List.mem_cons, Option.some.injEq]
    constructor
    · rintro (h | h)
      · exact .inl (Nat.eq_of_beq_eq_true h).symm
      · exact .inr h
    · rintro (h | h)
      · exact .inl (by rw [h]; exact Nat.beq_refl _)
      · exact .inr h
theorem forget_get (ws : List (Option Nat)) : ∀ (l : List AV) (i t : Nat), (forget ws i l).getD t .no = if some (i + t) ∈ ws then .no else l.getD t .no
  | [], i, t => by simp [forget]
  | x :: l, i, t => by
    cases t with
    | zero =>
      simp only [forget, List.getD_cons_zero, Nat.add_zero]
      by_cases h : some i ∈ ws
      · rw [(inWs_iff i ws).2 h, if_pos h]; rfl
      · have : inWs i ws = false := by
          rw [Bool.eq_false_iff]
          exact fun hc => h ((inWs_iff i ws).1 hc)
        rw [this, if_neg h]; rfl
    | succ t =>
      simp only [forget, List.getD_cons_succ]
      rw [forget_get ws l (i + 1) t, show i + 1 + t = i + (t + 1) by omega]
theorem forget_length (ws : List (Option Nat)) : ∀ (l : List AV) (i : Nat), (forget ws i l).length = l.length
  | [], _ => rfl
  | x :: l, i => by simp [forget, forget_length ws l (i + 1)]
theorem dropHps_get (live : List Nat) : ∀ (l : List (Option PB)) (i k : Nat), (dropHps live i l)[k]? = (l[k]?).map fun x => bif live.any (Nat.beq (i + k)) then x else none
  | [], i, k => by simp [dropHps]
  | x :: l, i, k => by
    cases k with
    | zero => simp [dropHps]
    | succ k =>
      simp only [dropHps, List.getElem?_cons_succ]
      rw [dropHps_get live l (i + 1) k, show i + 1 + k = i + (k + 1) by omega]
theorem dropHps_length (live : List Nat) : ∀ (l : List (Option PB)) (i : Nat), (dropHps live i l).length = l.length
  | [], _ => rfl
  | x :: l, i => by simp [dropHps, dropHps_length live l (i + 1)]
theorem setHps_length : ∀ (hs : List (Nat × List Lf)) (hp : List (Option PB)) (xs : List AV), (setHps hp hs xs).length = hp.length
  | [], hp, xs => rfl
  | (k, ls) :: hs, hp, xs => by
    simp only [setHps]
    split
    · rw [setHps_length hs]; simp
    · rw [setHps_length hs]
theorem any_beq {live : List Nat} {k : Nat} : live.any (Nat.beq k) = true ↔ k ∈ live := by
  constructor
  · intro h
    obtain ⟨x, hx, hb⟩ := List.any_eq_true.1 h
    rw [Nat.eq_of_beq_eq_true hb]; exact hx
  · intro h; exact List.any_eq_true.2 ⟨k, h, Nat.beq_refl k⟩

theorem vals1_map (cs : List Value) : vals1 (cs.map AV.v) = cs := by
  induction cs with
  | nil => rfl
  | cons x cs ih => simp [vals1, ih]

/-- The cells that are handed on are the block's. -/
theorem conv_cells {s' : St} {k : Nat} {ls : List Lf} {ys : List AV} (h : Conv (ls.map Sh.l) (s'.cellsOf k ls.length) ys) : ∃ pb, s'.hp[k]? = some (some pb) ∧ ys = pb.cs.map AV.v ∧ pb.cs.length = ls.length := by
  have hno : ¬ (s'.cellsOf k ls.length = [.no]) := fun e => by
    rw [e] at h
    cases ls with
    | nil => cases h
    | cons l ls =>
      simp only [List.map_cons] at h
      cases h with
      | l hv h => cases hv
  unfold St.cellsOf at h hno
  cases hg : s'.hp.getD k none with
  | none => rw [hg] at hno; exact absurd rfl hno
  | some pb =>
    rw [hg] at h hno
    simp only at h hno
    cases hb : Nat.beq pb.cs.length ls.length with
    | false => rw [hb] at hno; exact absurd rfl hno
    | true =>
      rw [hb] at h
      simp only at h
      have hlen := Nat.eq_of_beq_eq_true hb
      refine ⟨pb, hp_getD hg, ?_, hlen⟩
      clear hno hb hg
      generalize pb.cs = cs at h hlen
      clear hlen
      induction ls generalizing cs ys with
      | nil => cases cs with
        | nil => cases h; rfl
        | cons c cs => cases h
      | cons l ls ih =>
        cases cs with
        | nil => cases h
        | cons c cs =>
          simp only [List.map_cons] at h ⊢
          cases h with
          | l hv h =>
            simp only [AV.value, Option.some.injEq] at hv
            subst hv
            rw [ih cs h]

/-- The private blocks that are handed on. -/
theorem setHps_spec {s' : St} : ∀ {hs : List (Nat × List Lf)} {hp : List (Option PB)} {ys : List AV},
    Conv (hs.flatMap fun h => h.2.map Sh.l) (hs.flatMap fun h => s'.cellsOf h.1 h.2.length) ys →
    ∀ (k : Nat) (q : PB), (setHps hp hs ys)[k]? = some (some q) →
      (hp[k]? = some (some q) ∧ k ∉ hs.map (·.1)) ∨ (k ∈ hs.map (·.1) ∧ ∃ p pb n, hp[k]? = some (some p) ∧ s'.hp[k]? = some (some pb) ∧ q = ⟨p.b, n, pb.cs⟩ ∧ p.ver < n)
  | [], hp, ys, h, k, q, hq => .inl ⟨hq, by simp⟩
  | (k0, ls) :: hs, hp, ys, h, k, q, hq => by
    simp only [List.flatMap_cons] at h
    by_cases hlen : (s'.cellsOf k0 ls.length).length = (ls.map Sh.l).length
    · obtain ⟨y1, y2, rfl, h1, h2⟩ := Conv.split hlen h
      obtain ⟨pb, hpb, rfl, hl⟩ := conv_cells h1
      have ht : (pb.cs.map AV.v ++ y2).take ls.length = pb.cs.map AV.v := by rw [← hl, List.take_append_of_le_length (by simp), List.take_of_length_le (by simp)]
      have hd : (pb.cs.map AV.v ++ y2).drop ls.length = y2 := by rw [← hl]; simp
      simp only [setHps, ht, hd, vals1_map] at hq
      cases hg : hp.getD k0 none with
      | none =>
        rw [hg] at hq
        rcases setHps_spec h2 k q hq with ⟨g1, g2⟩ | ⟨g1, g2⟩
        · by_cases e : k = k0
          · subst e; rw [List.getD_eq_getElem?_getD, g1] at hg; cases hg
          · exact .inl ⟨g1, by simp [e]; simpa using g2⟩
        · exact .inr ⟨by simp only [List.map_cons, List.mem_cons]; exact .inr g1, g2⟩
      | some p =>
        rw [hg] at hq
        have hp0 : hp[k0]? = some (some p) := by
          rw [List.getD_eq_getElem?_getD] at hg
          cases e : hp[k0]? with
          | none => rw [e] at hg; cases hg
          | some x => rw [e] at hg; simp at hg; rw [hg]
        have hlt : k0 < hp.length := by
          rcases Nat.lt_or_ge k0 hp.length with z | z
          · exact z
          · rw [List.getElem?_eq_none z] at hp0; cases hp0
        rcases setHps_spec h2 k q hq with ⟨g1, g2⟩ | ⟨g1, p', pb', n, e1, e2, e3, e4⟩
        · by_cases e : k0 = k
          · subst e
            rw [List.getElem?_set_self hlt] at g1
            injection g1 with g1; injection g1 with g1
            exact .inr ⟨by simp, p, pb, p.ver + 1, hp0, hpb, g1.symm, Nat.lt_succ_self _⟩
          · rw [List.getElem?_set_ne e] at g1
            exact .inl ⟨g1, by simp [Ne.symm e]; simpa using g2⟩
        · by_cases e : k0 = k
          · subst e
            rw [List.getElem?_set_self hlt] at e1
            injection e1 with e1; injection e1 with e1
            subst e1
            rw [hpb] at e2; injection e2 with e2; injection e2 with e2; subst e2
            exact .inr ⟨by simp, p, pb, n, hp0, hpb, e3, by simp only at e4; omega⟩
          · rw [List.getElem?_set_ne e] at e1
            exact .inr ⟨by simp only [List.map_cons, List.mem_cons]; exact .inr g1, p', pb', n, e1, e2, e3, e4⟩
    · -- the counts do not fit: nothing is handed on
      exfalso
      have hno : s'.cellsOf k0 ls.length = [.no] ∧ ls.length ≠ 1 := by
        unfold St.cellsOf at hlen ⊢
        cases hg : s'.hp.getD k0 none with
        | none => rw [hg] at hlen; simp at hlen ⊢; exact fun e => hlen e.symm
        | some pb =>
          rw [hg] at hlen
          simp only at hlen ⊢
          cases hb : Nat.beq pb.cs.length ls.length with
          | true => rw [hb] at hlen; simp at hlen; exact absurd (Nat.eq_of_beq_eq_true hb) hlen
          | false => rw [hb] at hlen; simp at hlen ⊢; exact fun e => hlen e.symm
      rw [hno.1] at h
      cases ls with
      | nil =>
        simp only [List.map_nil, List.nil_append, List.cons_append] at h
        generalize (List.flatMap (fun h : Nat × List Lf => h.2.map Sh.l) hs) = ss at h
        cases h with
        | l hv h => cases hv
        | x hv h => cases hv
      | cons l ls =>
        simp only [List.map_cons, List.cons_append] at h
        cases h with
        | l hv h => cases hv

theorem setAll_length : ∀ (ss : List (Nat × Sh)) (env : List AV) (xs : List AV), (setAll env ss xs).length = env.length
  | [], env, xs => by cases xs <;> rfl
  | (t, sh) :: ss, env, xs => by
    cases xs with
    | nil => rfl
    | cons x xs => simp only [setAll]; rw [setAll_length ss]; simp
theorem setAll_spec {s' sj : St} {a' : Act} (hok : ∀ t, AVok s' (s'.get t) (a'.tmps.getD t undef)) : ∀ {ss : List (Nat × Sh)} {env : List AV} {ys : List AV}, Conv (ss.map (·.2)) (ss.map fun p => s'.get p.1) ys →
    (∀ t, AVok sj (env.getD t .no) (a'.tmps.getD t undef)) → ∀ t, AVok sj ((setAll env ss ys).getD t .no) (a'.tmps.getD t undef)
  | [], env, ys, h, he, t => by cases h; exact he t
  | (u, sh) :: ss, env, ys, h, he, t => by
    simp only [List.map_cons] at h
    have key : ∀ (y : AV) (ys' : List AV), Conv (ss.map (·.2)) (ss.map fun p => s'.get p.1) ys' → AVok sj y (a'.tmps.getD u undef) → AVok sj ((setAll (env.set u y) ss ys').getD t .no) (a'.tmps.getD t undef) := fun y ys' h hy => by
      refine setAll_spec hok h (fun t' => ?_) t
      by_cases e : u = t'
      · subst e
        by_cases hl : u < env.length
        · simp [List.getD, hl]; simpa using hy
        · have : (env.set u y).getD u .no = .no := by simp [List.getD, hl]
          rw [this]; trivial
      · have : (env.set u y).getD t' .no = env.getD t' .no := by simp [List.getD, List.getElem?_set_ne e]
        rw [this]; exact he t'
    obtain ⟨x0, hx0⟩ : ∃ x0, s'.get u = x0 := ⟨_, rfl⟩
    have hu := hok u
    rw [hx0] at h hu
    cases h with
    | l hv h => exact key _ _ h (value_ok hv hu)
    | g h => exact key _ _ h hu
    | a h => exact key _ _ h hu
    | x hv h => exact key _ _ h (value_ok hv hu)

theorem dropRef_ok {s sj : St} {live : List Nat} {x : AV} {z : Value} (hx : AVok s x z) (h : ∀ k ∈ live, ∀ pb, s.hp[k]? = some (some pb) → ∃ q, sj.hp[k]? = some (some q) ∧ q.b = pb.b) : AVok sj (dropRef live x) z := by
  cases x with
  | no => trivial
  | v y => exact hx
  | a ad => exact hx
  | t b => exact hx
  | r k off =>
    obtain ⟨pb, h1, h2⟩ := hx
    simp only [dropRef]
    cases hl : live.any (Nat.beq k) with
    | false => trivial
    | true =>
      obtain ⟨q, g1, g2⟩ := h k (any_beq.1 hl) pb h1
      exact ⟨q, g1, by rw [h2, g2]⟩
  | q k n =>
    obtain ⟨pb, h1, h2⟩ := hx
    simp only [dropRef]
    cases hl : live.any (Nat.beq k) with
    | false => trivial
    | true =>
      obtain ⟨q, g1, g2⟩ := h k (any_beq.1 hl) pb h1
      exact ⟨q, g1, by rw [h2, g2]⟩

/-- What is handed on was alive. -/
theorem conv_alive {s' : St} : ∀ {hs : List (Nat × List Lf)} {ys : List AV}, Conv (hs.flatMap fun h => h.2.map Sh.l) (hs.flatMap fun h => s'.cellsOf h.1 h.2.length) ys → ∀ k ∈ hs.map (·.1), ∃ pb, s'.hp[k]? = some (some pb)
  | [], ys, h, k, hk => by simp at hk
  | (k0, ls) :: hs, ys, h, k, hk => by
    simp only [List.flatMap_cons] at h
    by_cases hlen : (s'.cellsOf k0 ls.length).length = (ls.map Sh.l).length
    · obtain ⟨y1, y2, rfl, h1, h2⟩ := Conv.split hlen h
      obtain ⟨pb, hpb, _, _⟩ := conv_cells h1
      rcases List.mem_cons.1 hk with rfl | hk
      · exact ⟨pb, hpb⟩
      · exact conv_alive h2 k hk
    · exfalso
      have hno : s'.cellsOf k0 ls.length = [.no] := by
        unfold St.cellsOf at hlen ⊢
        cases hg : s'.hp.getD k0 none with
        | none => rfl
        | some pb =>
          rw [hg] at hlen
          simp only at hlen ⊢
          cases hb : Nat.beq pb.cs.length ls.length with
          | true => rw [hb] at hlen; simp at hlen; exact absurd (Nat.eq_of_beq_eq_true hb) hlen
          | false => rfl
      rw [hno] at h
      cases ls with
      | nil =>
        simp only [List.map_nil, List.nil_append, List.cons_append] at h
        generalize (List.flatMap (fun h : Nat × List Lf => h.2.map Sh.l) hs) = ss at h
        cases h with
        | l hv h => cases hv
        | x hv h => cases hv
      | cons l ls =>
        simp only [List.map_cons, List.cons_append] at h
        cases h with
        | l hv h => cases hv

/-- Where ways meet. -/
theorem cut_rel {c : Cut} {s s' : St} {v w w' : World} {a a' : Act} {ws : List (Option Nat)} {ys : List AV} (hr : Rel s v a w) (hr' : Rel s' w' a' w') (hx : Ext s s') (hso : SameOut ws a a')
    (hdf : s'.dfs = []) (hk : stabOk s s' c.keep = true) (hc : Conv c.shs (c.avs s') ys) : Rel (c.st s ws ys) w' a' w' ∧ Ext s (c.st s ws ys) := by
  obtain ⟨y1, y2, rfl, h1, h2⟩ := Conv.split (by simp) hc
  have hl1 : y1.length = c.slots.length := by simpa using h1.length.2
  have hst : c.st s ws (y1 ++ y2) = { env := setAll ((forget ws 0 s.env).map (dropRef (c.keep ++ c.hps.map (·.1)))) c.slots y1, hp := setHps (dropHps (c.keep ++ c.hps.map (·.1)) 0 s.hp) c.hps y2, mods := [], news := [], clean := true, its := s.its } := by
    unfold Cut.st
    have ht : (y1 ++ y2).take c.slots.length = y1 := by rw [← hl1]; simp
    have hd : (y1 ++ y2).drop c.slots.length = y2 := by rw [← hl1]; simp
    rw [ht, hd]
  -- the private blocks
  have hps : ∀ (k : Nat) (q : PB), (c.st s ws (y1 ++ y2)).hp[k]? = some (some q) → ∃ p pb n, s.hp[k]? = some (some p) ∧ s'.hp[k]? = some (some pb) ∧ q = ⟨p.b, n, pb.cs⟩ ∧ (p.ver < n ∨ q = p) := fun k q hq => by
    rw [hst] at hq
    have hq : (setHps (dropHps (c.keep ++ c.hps.map (·.1)) 0 s.hp) c.hps y2)[k]? = some (some q) := hq
    rcases setHps_spec h2 k q hq with ⟨g1, g2⟩ | ⟨g1, p, pb, n, e1, e2, e3, e4⟩
    · rw [dropHps_get, Nat.zero_add] at g1
      cases hl : (c.keep ++ c.hps.map (·.1)).any (Nat.beq k) with
      | false =>
        rw [hl] at g1
        cases e : s.hp[k]? with
        | none => rw [e] at g1; simp at g1
        | some x => rw [e] at g1; simp at g1
      | true =>
        rw [hl] at g1
        have hmem : k ∈ c.keep := by
          rcases List.mem_append.1 (any_beq.1 hl) with h | h
          · exact h
          · exact absurd h g2
        cases e : s.hp[k]? with
        | none => rw [e] at g1; simp at g1
        | some x =>
          rw [e] at g1; simp at g1; subst g1
          have h1 := List.all_eq_true.1 hk k hmem
          have e1 : s.hp.getD k none = some q := by rw [List.getD_eq_getElem?_getD, e]; rfl
          rw [e1] at h1
          split at h1
          · rename_i p q' e2 e3
            injection e2 with e2; subst e2
            have hq' := hp_getD e3
            have := (hx.num k q q' e hq').2.2 (Nat.eq_of_beq_eq_true h1).symm
            subst this
            exact ⟨q', q', q'.ver, rfl, hq', rfl, .inr rfl⟩
          · cases h1
    · rw [dropHps_get, Nat.zero_add, any_beq.2 (List.mem_append_right _ g1)] at e1
      cases e : s.hp[k]? with
      | none => rw [e] at e1; simp at e1
      | some x => rw [e] at e1; simp at e1; subst e1; exact ⟨p, pb, n, rfl, e2, e3, .inl e4⟩
  have hlive : ∀ k ∈ c.keep ++ c.hps.map (·.1), ∀ pb, s.hp[k]? = some (some pb) → ∃ q, (c.st s ws (y1 ++ y2)).hp[k]? = some (some q) ∧ q.b = pb.b := by
    have gen : ∀ (hs : List (Nat × List Lf)) (hp : List (Option PB)) (ys : List AV) (k : Nat) (pb : PB), hp[k]? = some (some pb) → ∃ q, (setHps hp hs ys)[k]? = some (some q) ∧ q.b = pb.b := by
      intro hs
      induction hs with
      | nil => intro hp ys k pb h; exact ⟨pb, h, rfl⟩
      | cons x hs ih =>
        intro hp ys k pb h
        obtain ⟨k0, ls⟩ := x
        simp only [setHps]
        cases hg : hp.getD k0 none with
        | none => exact ih hp _ k pb h
        | some p =>
          simp only
          by_cases e : k0 = k
          · subst e
            have hlt : k0 < hp.length := by
              rcases Nat.lt_or_ge k0 hp.length with z | z
              · exact z
              · rw [List.getElem?_eq_none z] at h; cases h
            obtain ⟨q, g1, g2⟩ := ih (hp.set k0 (some ⟨p.b, p.ver + 1, vals1 (ys.take ls.length)⟩)) (ys.drop ls.length) k0 _ (List.getElem?_set_self hlt)
            refine ⟨q, g1, g2.trans ?_⟩
            rw [List.getD_eq_getElem?_getD, h] at hg
            injection hg with hg; rw [← hg]
          · exact ih _ _ k pb (by rw [List.getElem?_set_ne e]; exact h)
    intro k hkl pb hpb
    rw [hst]
    refine gen c.hps _ y2 k pb ?_
    rw [dropHps_get, Nat.zero_add, any_beq.2 hkl, hpb]
    rfl
  have hlen : (c.st s ws (y1 ++ y2)).hp.length = s.hp.length := by
    rw [hst]
    show (setHps _ _ _).length = _
    rw [setHps_length, dropHps_length]
  refine ⟨⟨by rw [hst, hr'.defers, hdf], ?_, fun t => ?_, fun k q hq => ?_, fun k k' q q' hne hq hq' => ?_, by rw [hst]; exact Step.refl _ _, fun _ => rfl, fun k b hkb => by rw [hst] at hkb; rcases hkb with e | e <;> cases e⟩, ⟨by rw [hlen]; exact Nat.le_refl _, fun k p q hp hq => ?_, fun k hk => ?_⟩⟩
  · rw [hst]
    show a'.tmps.size = (setAll _ _ _).length
    rw [setAll_length, List.length_map, forget_length, hso.1]; exact hr.size
  · have henv : (c.st s ws (y1 ++ y2)).get t = (setAll ((forget ws 0 s.env).map (dropRef (c.keep ++ c.hps.map (·.1)))) c.slots y1).getD t .no := by rw [hst]; rfl
    rw [henv]
    refine setAll_spec hr'.env h1 (fun t => ?_) t
    have e : ((forget ws 0 s.env).map (dropRef (c.keep ++ c.hps.map (·.1)))).getD t .no = dropRef (c.keep ++ c.hps.map (·.1)) ((forget ws 0 s.env).getD t .no) := by
      simp only [List.getD_eq_getElem?_getD, List.getElem?_map]
      cases (forget ws 0 s.env)[t]? <;> rfl
    rw [e, forget_get, Nat.zero_add]
    split
    · trivial
    · rename_i hn
      rw [hso.2 t hn]
      exact dropRef_ok (hr.env t) hlive
  · obtain ⟨p, pb, n, e1, e2, rfl, _⟩ := hps k q hq
    obtain ⟨T, hT⟩ := hr'.priv k pb e2
    exact ⟨T, by rw [← (hx.num k p pb e1 e2).1]; exact hT⟩
  · obtain ⟨p, pb, n, e1, e2, rfl, _⟩ := hps k q hq
    obtain ⟨p', pb', n', e1', e2', rfl, _⟩ := hps k' q' hq'
    exact hr.inj k k' p p' hne e1 e1'
  · obtain ⟨p', pb, n, e1, e2, rfl, e4⟩ := hps k q hq
    rw [hp] at e1; injection e1 with e1; injection e1 with e1; subst e1
    rcases e4 with e4 | e4
    · exact ⟨rfl, Nat.le_of_lt e4, fun e => by simp only at e; omega⟩
    · rw [e4]; exact ⟨rfl, Nat.le_refl _, fun _ => rfl⟩
  · have hlt : k < (c.st s ws (y1 ++ y2)).hp.length := by
      rw [hlen]
      rcases Nat.lt_or_ge k s.hp.length with z | z
      · exact z
      · rw [List.getElem?_eq_none z] at hk; cases hk
    obtain ⟨x, hx'⟩ : ∃ x, (c.st s ws (y1 ++ y2)).hp[k]? = some x := ⟨_, List.getElem?_eq_getElem hlt⟩
    cases x with
    | none => exact hx'
    | some q =>
      obtain ⟨p, _, _, e1, _⟩ := hps k q hx'
      rw [hk] at e1; cases e1

end Go.V

end
section
/- What is shown of a function's text holds of the function. -/
namespace Go.V
open Go.RowKit
set_option linter.unusedVariables false
set_option linter.unusedSimpArgs false

/-- What holds where a piece of code has ended. -/
def Post (qp : Option (List PanicEntry → World → Prop)) (s0 : St) (ds : List (Option Nat)) (a0 : Act) (Q : Exit → St → World → Prop) : Exit → Act → World → Prop
  | .normal, a, w => Nrm s0 ds a0 (Q .normal) a w
  | .exit id, a, w => Nrm s0 ds a0 (Q (.exit id)) a w
  | .ret, a, w => Nrm s0 ds a0 (Q .ret) a w
  | .panic chain, a, w => a.defers = [] ∧ ∃ q, qp = some q ∧ q chain w
  | _, _, _ => False

theorem allFL_app {ls : List Lf} : ∀ {R : Type} {f : FnL ls R} {K : List Value → R → Prop} {vs : List Value} {g : R}, allFL ls f K → appL ls f vs = some g → K vs g := by
  induction ls with
  | nil =>
    intro R f K vs g h hg
    cases vs with
    | nil => have hg : f = g := Option.some.inj hg; rw [← hg]; exact h
    | cons x vs => simp [appL] at hg
  | cons l ls ih =>
    intro R f K vs g h hg
    cases vs with
    | nil => cases l <;> simp [appL] at hg
    | cons x vs =>
      cases l with
      | i k =>
        cases x <;> simp only [appL, reduceCtorEq] at hg
        rename_i k' n
        split at hg
        · rename_i hk
          obtain rfl := of_decide_eq_true hk
          have h1 := (show ∀ n : Int, allFL ls (f n) fun vs g => K (.int k n :: vs) g from h) n
          exact ih (f := f n) (K := fun vs g => K (.int k n :: vs) g) h1 hg
        · cases hg
      | b =>
        cases x <;> simp only [appL, reduceCtorEq] at hg
        rename_i y
        exact ih (f := f y) (K := fun vs g => K (.bool y :: vs) g) (h y) hg
      | s =>
        cases x <;> simp only [appL, reduceCtorEq] at hg
        rename_i y
        exact ih (f := f y) (K := fun vs g => K (.string y :: vs) g) (h y) hg
      | p =>
        cases x <;> simp only [appL, reduceCtorEq] at hg
        rename_i y
        exact ih (f := f y) (K := fun vs g => K (.pointer y :: vs) g) (h y) hg
      | sl =>
        cases x <;> simp only [appL, reduceCtorEq] at hg
        rename_i y l c
        exact ih (f := f y l c) (K := fun vs g => K (.slice y l c :: vs) g) (h y l c) hg
      | m =>
        cases x <;> simp only [appL, reduceCtorEq] at hg
        rename_i y
        exact ih (f := f y) (K := fun vs g => K (.map y :: vs) g) (h y) hg
theorem allFS_app {ss : List Sh} : ∀ {R : Type} {f : FnS ss R} {K : List AV → R → Prop} {xs : List AV} {g : R}, allFS ss f K → appS ss f xs = some g → ∃ ys, Conv ss xs ys ∧ K ys g := by
  induction ss with
  | nil =>
    intro R f K xs g h hg
    cases xs with
    | nil => have hg : f = g := Option.some.inj hg; rw [← hg]; exact ⟨[], .nil, h⟩
    | cons x xs => simp [appS] at hg
  | cons sh ss ih =>
    intro R f K xs g h hg
    cases xs with
    | nil => cases sh <;> simp [appS] at hg
    | cons x xs =>
      cases sh with
      | l lf =>
        simp only [appS] at hg
        split at hg
        · rename_i y hy
          split at hg
          · rename_i g' hg'
            have h1 := allFL_app (ls := [lf]) (f := f) (K := fun vs g => match vs with | [y] => allFS ss g fun avs h => K (.v y :: avs) h | _ => True) h hg'
            obtain ⟨ys, c1, c2⟩ := ih (f := g') (K := fun avs h => K (.v y :: avs) h) h1 hg
            exact ⟨_, .l hy c1, c2⟩
          · cases hg
        · cases hg
      | g ls =>
        cases x with
        | v y =>
          cases y with
          | agg cs =>
            simp only [appS] at hg
            split at hg
            · rename_i g' hg'
              have h1 := allFL_app (ls := ls) (f := f) (K := fun vs g => allFS ss g fun avs h => K (.v (.agg vs.toArray) :: avs) h) h hg'
              obtain ⟨ys, c1, c2⟩ := ih (f := g') (K := fun avs h => K (.v (.agg cs.toList.toArray) :: avs) h) h1 hg
              exact ⟨_, .g c1, by simpa using c2⟩
            · cases hg
          | _ => simp [appS] at hg
        | _ => simp [appS] at hg
      | a =>
        cases x with
        | a ad =>
          simp only [appS] at hg
          obtain ⟨ys, c1, c2⟩ := ih (f := f ad) (K := fun avs h => K (.a ad :: avs) h) (h ad) hg
          exact ⟨_, .a c1, c2⟩
        | _ => simp [appS] at hg
      | x =>
        simp only [appS] at hg
        split at hg
        · rename_i y hy
          obtain ⟨ys, c1, c2⟩ := ih (f := f y) (K := fun avs h => K (.v y :: avs) h) (h y) hg
          exact ⟨_, .x hy c1, c2⟩
        · cases hg

section
variable {P : Program} {qp : Option (List PanicEntry → World → Prop)}

theorem pubAll_sound {ks : List Nat} : ∀ {s : St} {v : World} {K : St → World → Prop} {a : Act} {w : World}, pubAll s v ks K → Rel s v a w → ∃ s' v', Rel s' v' a w ∧ Ext s s' ∧ K s' v' := by
  induction ks with
  | nil => intro s v K a w h hr; exact ⟨s, v, hr, Ext.refl _, h⟩
  | cons k ks ih =>
    intro s v K a w h hr
    obtain ⟨pb, s', _, r1, e1, h1⟩ := pub_sound h hr
    obtain ⟨s2, v2, r2, e2, h2⟩ := ih h1 r1
    exact ⟨s2, v2, r2, e1.trans e2, h2⟩

theorem atS_sound {c : Cut} {J : FnS c.shs (World → Prop)} {sb s : St} {v : World} {a : Act} {w : World} (h : atS c J sb s v) (hr : Rel s v a w) :
    ∃ s1 g, appS c.shs J (c.avs s1) = some g ∧ g w ∧ Rel s1 w a w ∧ Ext s s1 ∧ stabOk sb s1 c.keep = true ∧ s1.dfs = [] := by
  obtain ⟨s0, v0, r0, e0, h0⟩ := pubSlots_sound h hr
  obtain ⟨r1, e1, h1⟩ := sync_sound h0 r0
  split at h1
  · rename_i hdf
    split at h1
    · rename_i hst
      split at h1
      · rename_i g hg
        exact ⟨_, g, hg, h1, r1, e0.trans e1, hst, hdf⟩
      · exact h1.elim
    · exact h1.elim
  · exact h1.elim
theorem atS_lam {c : Cut} {F : List AV → World → Prop} {sb s : St} {v : World} {a : Act} {w : World} (h : atS c (lamS c.shs F) sb s v) (hr : Rel s v a w) :
    ∃ s1 ys, Conv c.shs (c.avs s1) ys ∧ F ys w ∧ Rel s1 w a w ∧ Ext s s1 ∧ stabOk sb s1 c.keep = true ∧ s1.dfs = [] := by
  obtain ⟨s1, g, hg, h1, r1, e1, hst⟩ := atS_sound h hr
  obtain ⟨ys, hc, rfl⟩ := appS_lam hg
  exact ⟨s1, ys, hc, h1, r1, e1, hst⟩

theorem Nrm.up {s0 s : St} {ds ds' : List (Option Nat)} {a0 a : Act} {K : St → World → Prop} {a' : Act} {w' : World} (h : Nrm s ds a K a' w') (he : Ext s0 s) (hs : SameOut ds' a0 a) (hd : ∀ x ∈ ds, x ∈ ds') : Nrm s0 ds' a0 K a' w' := by
  obtain ⟨s', v', h1, h2, h3, h4⟩ := h
  exact ⟨s', v', h1, he.trans h2, hs.trans (h3.mono hd), h4⟩

/-! ### operations in the frame of a round -/
theorem op_in {ops : Array Oper} {Q : Exit → Act → World → Prop} {r : Option Nat} {n i : Nat} {N : Act → World → Prop} {a : Act} {w : World} (hnd : ∀ o ∈ ops.toList, r = none ∨ ∀ c, o.op ≠ .defer c) (hQ : ¬ LetsOut Q) (h : wpOp P ops Q i N a w) : wpOpIn (fr r) n P ops Q i N a w := by
  unfold wpOp at h
  unfold wpOpIn
  cases ho : ops[i]? with
  | none => rw [ho] at h; exact h
  | some o =>
    rw [ho] at h
    simp only at h ⊢
    split at h
    · rename_i hw
      rw [if_pos hw]
      exact oper_in (hnd o (by simpa using Array.mem_of_getElem? ho)) (h.resolve_right fun h => hQ h.2)
    · rename_i hw
      rw [if_neg hw]
      exact ⟨fun _ _ => trivial, h⟩
theorem any_in {ops : Array Oper} {Q : Exit → Act → World → Prop} {r : Option Nat} {n : Nat} (hnd : ∀ o ∈ ops.toList, r = none ∨ ∀ c, o.op ≠ .defer c) (hQ : ¬ LetsOut Q) : ∀ (fuel : Nat) (listed : Array Bool) (a : Act) (w : World), wpAny P .any ops Q fuel listed a w → wpAnyIn (fr r) n P .any ops Q fuel listed a w
  | 0, _, _, _, h => h
  | fuel + 1, listed, a, w, h => ⟨h.1, fun i hi => wpOpIn_mono (fun a w => any_in hnd hQ fuel _ a w) (op_in hnd hQ (h.2 i hi))⟩

/-! ### a range over a function -/
theorem setPs_length : ∀ (ps : List Nat) (xs : List Value) (env : List AV), (setPs env ps xs).length = env.length
  | [], _, env => by cases ‹List Value› <;> rfl
  | p :: ps, [], env => rfl
  | p :: ps, x :: xs, env => by simp only [setPs]; rw [setPs_length ps xs]; simp
theorem allNone_get : ∀ {l : List (Option PB)}, allNone l = true → ∀ (k : Nat) pb, l[k]? ≠ some (some pb)
  | [], _, k, pb, h => by simp at h
  | none :: l, ha, k, pb, h => by
    cases k with
    | zero => simp at h
    | succ k => exact allNone_get (l := l) ha k pb (by simpa using h)
  | some _ :: l, ha, _, _, _ => by cases ha
theorem AVok.bare {s s' : St} {x : AV} {z : Value} (hn : allNone s.hp = true) (h : AVok s x z) : AVok s' x z := by
  cases x with
  | no => trivial
  | v y => exact h
  | a ad => exact h
  | r k off => obtain ⟨pb, h1, _⟩ := h; exact absurd h1 (allNone_get hn k pb)
  | q k n => obtain ⟨pb, h1, _⟩ := h; exact absurd h1 (allNone_get hn k pb)
  | t b => exact h
theorem setPs_ok {s : St} : ∀ (ps : List Nat) (xs : List Value) (env : List AV) (tmps : Array Value), tmps.size = env.length → (∀ t, AVok s (env.getD t .no) (tmps.getD t undef)) →
    ((ps.zip xs).foldl (fun t p => t.setIfInBounds p.1 p.2) tmps).size = tmps.size ∧ ∀ t, AVok s ((setPs env ps xs).getD t .no) (((ps.zip xs).foldl (fun t p => t.setIfInBounds p.1 p.2) tmps).getD t undef)
  | [], xs, env, tmps, hz, h => ⟨by simp, by cases xs <;> simpa [setPs] using h⟩
  | p :: ps, [], env, tmps, hz, h => ⟨by simp, by simpa [setPs] using h⟩
  | p :: ps, x :: xs, env, tmps, hz, h => by
    have ih := setPs_ok ps xs (env.set p (.v x)) (tmps.setIfInBounds p x) (by simp [hz]) (fun t => by
      rw [List.getD_eq_getElem?_getD, Array.getD_eq_getD_getElem?, List.getElem?_set, Array.getElem?_setIfInBounds]
      by_cases e : p = t
      · subst e
        by_cases hl : p < env.length
        · rw [if_pos rfl, if_pos rfl, if_pos hl, if_pos (by omega)]; rfl
        · rw [if_pos rfl, if_pos rfl, if_neg hl]; trivial
      · rw [if_neg e, if_neg e]
        have := h t
        rwa [List.getD_eq_getElem?_getD, Array.getD_eq_getD_getElem?] at this)
    simp only [setPs, List.zip_cons_cons, List.foldl_cons]
    exact ⟨by rw [ih.1]; simp, ih.2⟩
theorem not_blk {w : World} {l : Nat} {o : Obj} (h : w.heap[l]? = some o) (hc : ∀ cs T f, o ≠ .cells cs T f) : ∀ cs, ¬ Blk w l cs := fun cs hb => by
  obtain ⟨T, lo, hi, hb, _⟩ := hb
  rw [h] at hb; injection hb with hb
  exact hc _ _ _ hb
theorem not_blk_out {w : World} {l : Nat} (h : w.heap.size ≤ l) : ∀ cs, ¬ Blk w l cs := fun cs hb => by
  obtain ⟨T, lo, hi, hb, _⟩ := hb
  rw [Array.getElem?_eq_none h] at hb; cases hb
theorem step_putObj (w : World) (l : Nat) (o : Obj) : Step w (w.putObj l o) [l] [] :=
  ⟨rfl, rfl, rfl, by simp, fun b _ hn => World.putObj_heap_other (by simpa using hn), (fun b h => by cases h), List.nodup_nil⟩
theorem step_alloc (w : World) (o : Obj) : Step w (w.alloc o) [] [] :=
  ⟨rfl, rfl, rfl, by rw [World.size_alloc]; omega, fun b hb _ => by
    show (w.heap.push o)[b]? = _
    rw [Array.getElem?_push, if_neg (by omega)], (fun b h => by cases h), List.nodup_nil⟩
theorem Step.more {v w : World} (l : Nat) (h : Step v w [] []) : Step v w [l] [] := ⟨h.os, h.tape, h.output, h.size, fun b hb _ => h.blk b hb (by simp), (fun b h => by cases h), List.nodup_nil⟩

theorem rangeFunc_sound (hP : PF P) {n : Nat} {g : Operand} {ps : Array Tmp} {x y : Code} {c : Cut} {a1 : Ann} {Q : Exit → St → World → Prop} {s : St} {v : World} {a : Act} {w : World}
    (ihx : ∀ (l : Nat) (Q' : Exit → St → World → Prop) (s' : St) (v' : World) (a' : Act) (w' : World), vc P none x .n Q' s' v' → Rel s' v' a' w' → x.wpIn (fr (some l)) 0 P (Post none s' (writes x) a' Q') a' w')
    (ihy : ∀ (l : Nat) (Q' : Exit → St → World → Prop) (s' : St) (v' : World) (a' : Act) (w' : World), vc P none y a1 Q' s' v' → Rel s' v' a' w' → y.wpIn (fr (some l)) 0 P (Post none s' (writes y) a' Q') a' w')
    (h : pubAll s v c.pubs fun s v => sync s v fun s v => match allNone s.hp && Nat.beq c.lfs.length ps.toList.length, s.val g with
      | true, some gv => ∃ (f : Nat) (lb : List Value), gv = .func (.func f) #[] lb.toArray ∧ BodyOk P f ∧ ∃ (xs : List (List Value)) (J : Nat → World → Prop),
          (∀ z ∈ xs, exL c.lfs fun vs => z = vs) ∧ StabJ v J ∧ J 0 v ∧ IterOk P f lb xs J ∧
          (allLV c.lfs fun z => ∀ w0, vc P none x .n (fun e s' v' => match e, s'.clean, allNone s'.hp with
            | .normal, true, true => v' = w0 ∧ ∀ (l D i : Nat) (w : World), xs[i]? = some z → J i w → Marks v w l D → vc P none y a1 (fun e s2 v2 => match e with
              | .normal => sync s2 v2 fun _ w2 => Keep [l, D] w w2 ∧ J (i + 1) w2
              | _ => False) s'.synced w
            | _, _, _ => False) (s.params ps.toList z) w0) ∧
          ∀ (D : Nat) (w : World), J xs.length w → Marked v w D → Q .normal { s with dfs := D :: s.dfs } w
      | _, _ => False) (hr : Rel s v a w) : (Code.rangeFunc g ps x y).wpIn (fr none) n P (Post none s (writes (.rangeFunc g ps x y)) a Q) a w := by
  obtain ⟨s1, v1, r1, e1, h1⟩ := pubAll_sound h hr
  obtain ⟨r2, e2, h2⟩ := sync_sound h1 r1
  generalize hs2 : s1.synced = s2 at r2 e2 h2
  have hm2 : s2.mods = [] := by rw [← hs2]; rfl
  have hn2 : s2.news = [] := by rw [← hs2]; rfl
  have hc2 : s2.clean = true := by rw [← hs2]; rfl
  cases hall2 : allNone s2.hp && Nat.beq c.lfs.length ps.toList.length with
  | false => rw [hall2] at h2; exact h2.elim
  | true =>
    obtain ⟨hall, hlen0⟩ := Bool.and_eq_true_iff.1 hall2
    cases hg : s2.val g with
    | none => rw [hall2, hg] at h2; exact h2.elim
    | some gv =>
      rw [hall2, hg] at h2
      simp only at h2
      obtain ⟨f, lb, rfl, hb, xs, J, hfit, hst, h0, hit, hround, hend⟩ := h2
      have eg := val_sound hg r2
      have hlen : ∀ z ∈ xs, z.length = ps.size := fun z hz => by
        obtain ⟨vs, h1, _, rfl⟩ := exL_sound (hfit z hz)
        rw [h1, Nat.eq_of_beq_eq_true hlen0]; simp
      obtain ⟨fn0, hf0, hbody0, hname0⟩ := hb
      have eg2 : ∀ (args : Array Value) (w : World), (callFunc f args).run P w = .ok (.enter f args) w := fun args w => by
        simp only [callFunc, Sem.run_bind, run_program, Result.andThen_ok, hf0, hname0, hbody0, Bool.false_eq_true, if_false]
        rfl
      refine wpIn_rangeFunc ?_
      intro fn _
      obtain ⟨rec, hrec⟩ : ∃ rec : LoopState → Option Code → Loop, rec = fun st pe => { state := st, pending := pe, fn, tmps := a.tmps, params := ps, assign := x, body := y, defers := w.heap.size } := ⟨_, rfl⟩
      obtain ⟨W1, hW1⟩ : ∃ W1, (w.alloc (.deferred (some []))).alloc (.loop (rec .ready none)) = W1 := ⟨_, rfl⟩
      have hL1 : W1.heap[w.heap.size + 1]? = some (.loop (rec .ready none)) := by
        rw [← hW1]; have := World.alloc_heap_new (w.alloc (.deferred (some []))) (.loop (rec .ready none)); rwa [World.size_alloc] at this
      have hS1 := step_alloc w (.deferred (some []))
      have hS2 := step_alloc (w.alloc (.deferred (some []))) (.loop (rec .ready none))
      rw [hW1] at hS2
      have hK1 : W1.heap[w.heap.size]? = some (.deferred (some [])) :=
        (hS2.blk _ (by rw [World.size_alloc]; omega) (by simp)).trans (World.alloc_heap_new w _)
      have hI1 : J 0 W1 := by
        have g1 := hst 0 w _ w.heap.size h0 (Nat.le_refl _) (not_blk_out (Nat.le_refl _)) (hS1.more _)
        exact hst 0 _ W1 (w.heap.size + 1) g1 (by omega) (not_blk_out (by rw [World.size_alloc]; omega)) (hS2.more _)
      refine ⟨w.heap.size + 1, [{ target := .collected w.heap.size, args := #[] }], W1, { target := .fn (.func f) lb.toArray, args := #[.func (.yield (w.heap.size + 1)) #[] #[]] }, W1, f,
        #[.func (.yield (w.heap.size + 1)) #[] #[]] ++ lb.toArray, W1, ?_, ?_, fun _ _ => trivial, ?_, (fun h => by cases h), ?_⟩
      · rw [← hW1, hrec]; exact run_enterLoop_outer _ _ _ _ _
      · simp only [resolve, eg]
        simp [go_sem]
      · simp [invoke, go_sem, eg2]
      · have hargs : #[Value.func (.yield (w.heap.size + 1)) #[] #[]] ++ lb.toArray = (Value.func (.yield (w.heap.size + 1)) #[] #[] :: lb).toArray := by apply Array.ext'; simp
        rw [hargs]
        refine callsIn_fr ((hit (w.heap.size + 1) (fun i W => J i W ∧ W.heap[w.heap.size + 1]? = some (.loop (rec .ready none)) ∧ W.heap[w.heap.size]? = some (.deferred (some [])))
          (fun i W W' hJ hs => ⟨hst i W W' W.heap.size hJ.1 (by have := (Array.getElem?_eq_some_iff.1 hJ.2.2).1; omega) (not_blk_out (Nat.le_refl _)) (hs.more _), (hs.blk _ (Array.getElem?_eq_some_iff.1 hJ.2.1).1 (by simp)).trans hJ.2.1, (hs.blk _ (Array.getElem?_eq_some_iff.1 hJ.2.2).1 (by simp)).trans hJ.2.2⟩)
          (fun i W hJ => hJ.1) ?_ W1 ⟨hI1, hL1, hK1⟩).mono ?_)
        · -- a round
          rintro i z W hz ⟨hJ, hl, hD⟩
          have hlt : w.heap.size + 1 < W.heap.size := (Array.getElem?_eq_some_iff.1 hl).1
          have hzm : z ∈ xs := List.mem_of_getElem? hz
          have hzl : z.length = ps.size := hlen z hzm
          have hy := run_yield (P := P) (args := z.toArray) hl (by rw [hrec]; simpa using hzl)
          rw [hrec] at hy
          refine ⟨fn, _, x, y, hy, roundIn_of_wpIn (F := Fence.wide) trivial ?_⟩
          have r3 : Rel (s2.params ps.toList z) W { tmps := (ps.zip z.toArray).foldl (fun t p => t.setIfInBounds p.1 p.2) a.tmps, defers := [] } W := by
            have ez : (ps.zip z.toArray).foldl (fun t p => t.setIfInBounds p.1 p.2) a.tmps = (ps.toList.zip z).foldl (fun t p => t.setIfInBounds p.1 p.2) a.tmps := by
              rw [← Array.foldl_toList]; simp
            rw [ez]
            have hps := setPs_ok (s := s2) ps.toList z s2.env a.tmps r2.size r2.env
            refine ⟨rfl, ?_, fun t => (hps.2 t).bare hall, fun k pb hk => absurd hk (allNone_get hall k pb), fun k k' pb pb' _ hk => absurd hk (allNone_get hall k pb), ?_, fun _ => rfl, fun k b hk => ?_⟩
            · show _ = (setPs s2.env ps.toList z).length
              rw [setPs_length, hps.1]; exact r2.size
            · show Step W W (s2.mods.map (·.2)) (s2.news.map (·.2))
              rw [hm2, hn2]; exact Step.refl _ _
            · have hk : (k, b) ∈ s2.news ∨ (k, b) ∈ s2.mods := hk
              rw [hm2, hn2] at hk; rcases hk with e | e <;> cases e
          have hx := ihx (w.heap.size + 1) _ _ W _ W (allLV_app hround (hfit z hzm) W) r3
          refine wpIn_mono hx ?_
          intro e a' w' hp
          cases e with
          | normal =>
            obtain ⟨s', v', r4, _, _, h4⟩ := hp
            cases hc4 : s'.clean with
            | false => rw [hc4] at h4; exact h4.elim
            | true =>
              cases ha4 : allNone s'.hp with
              | false => rw [hc4, ha4] at h4; exact h4.elim
              | true =>
                rw [hc4, ha4] at h4
                simp only at h4
                obtain ⟨rfl, h4⟩ := h4
                have hw := r4.clean hc4
                subst hw
                have hl2 : (w'.putObj (w.heap.size + 1) (.loop { rec .ready none with state := .busy })).heap[w.heap.size + 1]? = some (.loop { rec .ready none with state := .busy }) := World.putObj_heap_same hlt
                have hD2 : (w'.putObj (w.heap.size + 1) (.loop { rec .ready none with state := .busy })).heap[w.heap.size]? = some (.deferred (some [])) := (World.putObj_heap_other (by omega)).trans hD
                refine ⟨_, run_beginRound hl (by rw [hrec]), ?_⟩
                generalize hW2 : w'.putObj (w.heap.size + 1) (.loop { rec .ready none with state := .busy }) = W2 at hl2 hD2
                have hs2 : Step w' W2 [w.heap.size + 1] [] := by rw [← hW2]; exact step_putObj _ _ _
                have hJ2 : J i W2 := hst i w' W2 (w.heap.size + 1) hJ (by omega) (not_blk hl (by intro _ _ _ h; cases h)) hs2
                have hz2 : W2.heap.size = w'.heap.size := by rw [← hW2]; simp
                have hbody := h4 (w.heap.size + 1) w.heap.size i W2 hz hJ2 ⟨by omega, by omega, by omega, by omega, by omega, not_blk hl2 (by intro _ _ _ h; cases h), not_blk hD2 (by intro _ _ _ h; cases h)⟩
                have r5 : Rel s'.synced W2 a' W2 := ⟨r4.defers, r4.size, fun t => (r4.env t).bare ha4, fun k pb hk => absurd hk (allNone_get ha4 k pb), fun k k' pb pb' _ hk => absurd hk (allNone_get ha4 k pb), Step.refl _ _, fun _ => rfl, fun k b hk => by rcases hk with e | e <;> cases e⟩
                refine wpIn_mono (ihy (w.heap.size + 1) _ _ W2 _ W2 hbody r5) ?_
                intro e a5 w5 hp5
                cases e with
                | normal =>
                  obtain ⟨s6, v6, r6, _, _, h6⟩ := hp5
                  obtain ⟨_, _, hkeep, hJ6⟩ := sync_sound h6 r6
                  have hl6 : w5.heap[w.heap.size + 1]? = some (.loop { rec .ready none with state := .busy }) := (hkeep _ (by simp)).trans hl2
                  have hD6 : w5.heap[w.heap.size]? = some (.deferred (some [])) := (hkeep _ (by simp)).trans hD2
                  have hend6 := run_endRound (P := P) none hl6
                  rw [hrec] at hend6
                  refine ⟨_, _, hend6, rfl, ?_, ?_, ?_⟩
                  · exact hst (i + 1) w5 _ (w.heap.size + 1) hJ6 (by omega) (not_blk hl6 (by intro _ _ _ h; cases h)) (step_putObj _ _ _)
                  · rw [World.putObj_heap_same (Array.getElem?_eq_some_iff.1 hl6).1, hrec]; rfl
                  · exact (World.putObj_heap_other (by omega)).trans hD6
                | exit id => obtain ⟨_, _, _, _, _, h⟩ := hp5; exact h.elim
                | ret => obtain ⟨_, _, _, _, _, h⟩ := hp5; exact h.elim
                | panic ch => obtain ⟨_, q, hq, _⟩ := hp5; cases hq
                | goto l => exact hp5.elim
                | outgrown => exact hp5.elim
          | exit id => obtain ⟨_, _, _, _, _, h⟩ := hp; exact h.elim
          | ret => obtain ⟨_, _, _, _, _, h⟩ := hp; exact h.elim
          | panic ch => obtain ⟨_, q, hq, _⟩ := hp; cases hq
          | goto l => exact hp.elim
          | outgrown => exact hp.elim
        · -- behind the last one
          rintro e W2 ⟨⟨z, rfl⟩, hJ, hl, hD⟩
          have hend2 := run_endLoop (P := P) hl (by rw [hrec]; simp)
          rw [hrec] at hend2
          refine ⟨none, _, hend2, ?_⟩
          have hs3 := step_putObj W2 (w.heap.size + 1) (.loop { rec .ready none with state := .exhausted })
          rw [hrec] at hs3
          generalize hW4 : W2.putObj (w.heap.size + 1) _ = W4 at hs3 ⊢
          have hq := hend w.heap.size W4 (hst _ W2 W4 (w.heap.size + 1) hJ (by omega) (not_blk hl (by intro _ _ _ h; cases h)) hs3) ⟨Nat.le_refl _, (hs3.blk _ (Array.getElem?_eq_some_iff.1 hD).1 (by simp)).trans hD⟩
          refine ⟨{ s2 with dfs := w.heap.size :: s2.dfs }, W4, ⟨?_, r2.size, fun t => (r2.env t).bare hall, fun k pb hk => absurd hk (allNone_get hall k pb), fun k k' pb pb' _ hk => absurd hk (allNone_get hall k pb), ?_, fun _ => rfl, fun k b hk => ?_⟩, (e1.trans e2).trans (Ext.of_hp rfl), SameOut.refl _ _, hq⟩
          · show [_] ++ a.defers = coll (w.heap.size :: s2.dfs)
            rw [r2.defers]; rfl
          · show Step W4 W4 (s2.mods.map (·.2)) (s2.news.map (·.2))
            rw [hm2, hn2]; exact Step.refl _ _
          · have hk : (k, b) ∈ s2.news ∨ (k, b) ∈ s2.mods := hk
            rw [hm2, hn2] at hk; rcases hk with e | e <;> cases e

theorem stepR_scope {P : Program} {b : Frame} {a : Act} {k : List Item} {cs : List Frame} {w : World} {c : Code} : step P (lone (b.atR a (.code (.scope c) :: k)) cs w) = .next (lone (b.atR a (.code c :: .inScope c :: k)) cs w) :=
  step_lone_go (by simp [stepG, stepG.exec, Frame.atR])
theorem stepR_inScope {P : Program} {b : Frame} {a : Act} {k : List Item} {cs : List Frame} {w : World} {c : Code} : step P (lone (b.atR a (.inScope c :: k)) cs w) = .next (lone (b.atR a k) cs w) :=
  step_lone_go (by simp [stepG, stepG.exec, Frame.atR])
/-- A scope through which the run goes without a jump. -/
theorem wpIn_scope {F : Fence} {n : Nat} {P : Program} {Q : Exit → Act → World → Prop} {a : Act} {w : World} {c : Code} (h : c.wpIn F n P (Exit.noGoto Q) a w) : (Code.scope c).wpIn F n P Q a w := by
  intro b k cs hro hb hr
  have h0 : (lone (b.atR a (.code (.scope c) :: k)) cs w).fenced P F := fenced_calm hb hr rfl
  obtain ⟨e, a₁, w₁, hq, harr⟩ := h b (.inScope c :: k) cs hro hb hr
  cases e with
  | normal => exact ⟨.normal, a₁, w₁, hq, .head h0 stepR_scope (StepsIn.trans harr (.one (fenced_calm hb hr rfl) stepR_inScope))⟩
  | exit id =>
    have hx : exitTo id (.inScope c :: k) = exitTo id k := by simp [exitTo]
    exact ⟨_, a₁, w₁, hq, fun k' hk => .head h0 stepR_scope (harr.1 k' (by rw [hx]; exact hk)),
      fun hr' hk => let ⟨k₁, h1, h2⟩ := harr.2 hr' (by rw [hx]; exact hk); ⟨k₁, h1, .head h0 stepR_scope h2⟩⟩
  | goto l => exact hq.elim
  | ret => exact ⟨_, a₁, w₁, hq, .of_steps (.one h0 stepR_scope) harr⟩
  | panic ch => exact ⟨_, a₁, w₁, hq, .of_steps (.one h0 stepR_scope) harr⟩
  | outgrown => exact ⟨_, a₁, w₁, hq, .of_steps (.one h0 stepR_scope) harr⟩

theorem vc_sound (hP : PF P) : ∀ (c : Code) (n : Nat) (r : Option Nat) (ann : Ann) (Q : Exit → St → World → Prop) {s : St} {v : World} {a : Act} {w : World}, (r = none ∨ plainC c = true) → vc P qp c ann Q s v → Rel s v a w → c.wpIn (fr r) n P (Post qp s (writes c) a Q) a w := by
  intro c
  induction c with
  | skip => intro n r ann Q s v a w hpl h hr; exact wpIn_skip ⟨s, v, hr, Ext.refl _, SameOut.refl _ _, h⟩
  | label l => intro n r ann Q s v a w hpl h hr; exact wpIn_label ⟨s, v, hr, Ext.refl _, SameOut.refl _ _, h⟩
  | exit id => intro n r ann Q s v a w hpl h hr; exact wpIn_exit ⟨s, v, hr, Ext.refl _, SameOut.refl _ _, h⟩
  | ret => intro n r ann Q s v a w hpl h hr; exact wpIn_ret ⟨s, v, hr, Ext.refl _, SameOut.refl _ _, h⟩
  | goto l => intro n r ann Q s v a w hpl h hr; exact h.elim
  | refuse why => intro n r ann Q s v a w hpl h hr; exact h.elim
  | rangeFunc g ps x y ihx ihy =>
    intro n r ann Q s v a w hpl h hr
    have hr0 : r = none := hpl.resolve_right (by simp [plainC])
    subst hr0
    simp only [vc] at h
    cases qp with
    | some q => exact h.elim
    | none =>
      cases hpc : plainC x && plainC y with
      | false => rw [hpc] at h; exact h.elim
      | true =>
        rw [hpc] at h
        cases ann with
        | l c a1 =>
          simp only at h
          exact rangeFunc_sound hP (fun l Q' s' v' a' w' h' hr' => ihx 0 (some l) .n Q' (.inr (Bool.and_eq_true_iff.1 hpc).1) h' hr') (fun l Q' s' v' a' w' h' hr' => ihy 0 (some l) a1 Q' (.inr (Bool.and_eq_true_iff.1 hpc).2) h' hr') h hr
        | n => exact h.elim
        | s _ _ => exact h.elim
        | j _ _ _ => exact h.elim
        | c _ _ => exact h.elim
        | b _ => exact h.elim
        | d _ => exact h.elim
  | scope x ih =>
    intro n r ann Q s v a w hpl h hr
    simp only [vc] at h
    refine wpIn_scope (wpIn_mono (ih n r ann Q hpl h hr) fun e a' w' hp => ?_)
    cases e with
    | goto l => exact hp.elim
    | normal => exact hp
    | exit id => exact hp
    | ret => exact hp
    | panic ch => exact hp
    | outgrown => exact hp
  | region id ops draw =>
    intro n r ann Q s v a w hpl h hr
    have hQ : ∀ chain (a' : Act) w', (∃ q, qp = some q ∧ q chain w') → a'.defers = [] → Post qp s (writes (.region id ops draw)) a Q (.panic chain) a' w' := fun chain a' w' hq hd => ⟨hd, hq⟩
    have hnd : ∀ o ∈ ops.toList, r = none ∨ ∀ c, o.op ≠ .defer c := fun o ho => hpl.imp (fun h => h) fun h c hc => by
      have := List.all_eq_true.1 h o ho
      rw [hc] at this
      cases this
    cases draw with
    | false =>
      refine wpIn_region_list (vcOps_sound (ds := writes (.region id ops false)) hP ops.toList (fun o ho => ⟨List.mem_map.2 ⟨o, ho, rfl⟩, hnd o ho⟩) h hr (Ext.refl _) (SameOut.refl _ _) hQ (fun a' w' hn => hn))
    | true =>
      simp only [vc] at h
      cases hns : Region.noSelect ops with
      | false => rw [hns] at h; exact h.elim
      | true =>
        rw [hns] at h
        refine wpIn_region_any hP.mixed ?_
        have r0 : Rel { s with clean := false } v a { w with drawn := w.drawn + 1 } := ⟨hr.defers, hr.size, hr.env, hr.priv, hr.inj, ⟨hr.step.os, hr.step.tape, hr.step.output, hr.step.size, hr.step.blk, hr.step.new, hr.step.nd⟩, (fun h => by cases h), hr.lnk⟩
        have hx : Ext s { s with clean := false } := Ext.of_hp rfl
        have := vcD_sound (ds := writes (.region id ops true)) (a0 := a) (s0 := s) (Q := Post qp s (writes (.region id ops true)) a Q) hP hns (fun o ho => List.mem_map.2 ⟨o, ho, rfl⟩) hQ
          (fun c a' w' dst x hp => ⟨by have := hp.1; cases dst <;> exact this, hp.2⟩) (fun a' w' hn => hn) _ _ h r0 hx hx (SameOut.refl _ _)
          (fun j o _ hl => by
            exfalso
            unfold Lst at hl
            by_cases hj : j < ops.toList.length
            · simp at hj; simp [hj] at hl
            · simp at hj; simp [hj] at hl) (by simp) ops.size (by
              unfold rem
              refine Nat.le_trans (List.length_filter_le _ _) ?_
              simp)
        have h2 := wpAnyE_any _ _ _ _ this
        have e : (List.replicate ops.toList.length false).toArray = Array.replicate ops.size false := by simp
        rw [e] at h2
        exact any_in hnd (fun ⟨_, _, hl⟩ => hl) _ _ _ _ h2
  | seq x y ihx ihy =>
    intro n r ann Q s v a w hpl h hr
    have hwx : ∀ d ∈ writes x, d ∈ writes (.seq x y) := fun d hd => List.mem_append_left _ hd
    have hwy : ∀ d ∈ writes y, d ∈ writes (.seq x y) := fun d hd => List.mem_append_right _ hd
    have hpx : r = none ∨ plainC x = true := hpl.imp (fun h => h) fun h => (Bool.and_eq_true_iff.1 h).1
    have hpy : r = none ∨ plainC y = true := hpl.imp (fun h => h) fun h => (Bool.and_eq_true_iff.1 h).2
    have plain : ∀ (a1 b1 : Ann), vc P qp x a1 (fun e s' v' => match e with
        | .normal => vc P qp y b1 Q s' v'
        | e => Q e s' v') s v → (Code.seq x y).wpIn (fr r) n P (Post qp s (writes (.seq x y)) a Q) a w := fun a1 b1 h => by
      refine wpIn_seq (wpIn_mono (ihx n r a1 _ hpx h hr) fun e a' w' hp => ?_)
      cases e with
      | normal =>
        obtain ⟨s', v', r1, e1, so1, h1⟩ := hp
        refine wpIn_mono (ihy n r b1 Q hpy h1 r1) fun e a2 w2 hp2 => ?_
        cases e with
        | normal => exact hp2.up e1 (so1.mono hwx) hwy
        | exit id => exact hp2.up e1 (so1.mono hwx) hwy
        | ret => exact hp2.up e1 (so1.mono hwx) hwy
        | panic ch => exact hp2
        | goto l => exact hp2
        | outgrown => exact hp2
      | exit id => exact hp.up (Ext.refl _) (SameOut.refl _ _) hwx
      | ret => exact hp.up (Ext.refl _) (SameOut.refl _ _) hwx
      | panic ch => exact hp
      | goto l => exact hp
      | outgrown => exact hp
    cases ann with
    | j c a1 b1 =>
      simp only [vc] at h
      obtain ⟨s1, v1, r1, e1, h1⟩ := pubAll_sound h hr
      have h2 := h1 (lamS c.shs fun avs w => vc P qp y b1 Q (c.st s1 (writes x) avs) w) (allFS_lam fun avs w hw => hw)
      refine wpIn_seq (wpIn_mono (ihx n r a1 _ hpx h2 r1) fun e a' w' hp => ?_)
      cases e with
      | normal =>
        obtain ⟨s', v', r2, e2, so2, h3⟩ := hp
        obtain ⟨s3, ys, hc, hF, r3, e3, hst, hdf⟩ := atS_lam h3 r2
        obtain ⟨r4, e4⟩ := cut_rel r1 r3 (e2.trans e3) so2 hdf hst hc
        refine wpIn_mono (ihy n r b1 Q hpy hF r4) fun e a2 w2 hp2 => ?_
        cases e with
        | normal => exact hp2.up (e1.trans e4) (so2.mono hwx) hwy
        | exit id => exact hp2.up (e1.trans e4) (so2.mono hwx) hwy
        | ret => exact hp2.up (e1.trans e4) (so2.mono hwx) hwy
        | panic ch => exact hp2
        | goto l => exact hp2
        | outgrown => exact hp2
      | exit id => exact hp.up e1 (SameOut.refl _ _) hwx
      | ret => exact hp.up e1 (SameOut.refl _ _) hwx
      | panic ch => exact hp
      | goto l => exact hp
      | outgrown => exact hp
    | s a1 b1 => exact plain a1 b1 h
    | n => exact plain .n .n h
    | c _ _ => exact plain .n .n h
    | b _ => exact plain .n .n h
    | l _ _ => exact plain .n .n h
    | d _ => exact plain .n .n h
  | cond c x y ihx ihy =>
    intro n r ann Q s v a w hpl h hr
    have hwx : ∀ d ∈ writes x, d ∈ writes (.cond c x y) := fun d hd => List.mem_append_left _ hd
    have hwy : ∀ d ∈ writes y, d ∈ writes (.cond c x y) := fun d hd => List.mem_append_right _ hd
    have up : ∀ {s1 : St} {ds : List (Option Nat)}, (∀ d ∈ ds, d ∈ writes (.cond c x y)) → Ext s s1 → ∀ e a' w', Post qp s1 ds a Q e a' w' → Post qp s (writes (.cond c x y)) a Q e a' w' := fun hd he e a' w' hp => by
      cases e with
      | normal => exact hp.up he (SameOut.refl _ _) hd
      | exit id => exact hp.up he (SameOut.refl _ _) hd
      | ret => exact hp.up he (SameOut.refl _ _) hd
      | panic ch => exact hp
      | goto l => exact hp
      | outgrown => exact hp
    have hpx : r = none ∨ plainC x = true := hpl.imp (fun h => h) fun h => (Bool.and_eq_true_iff.1 h).1
    have hpy : r = none ∨ plainC y = true := hpl.imp (fun h => h) fun h => (Bool.and_eq_true_iff.1 h).2
    have hc := hr.evc c
    have know : ∀ b, a.eval c = .bool b → Rel (s.know c b) v a w ∧ Ext s (s.know c b) := fun b hb => by
      cases c with
      | tmp t => exact ⟨hr.put_same (x := .t b) hb, Ext.of_hp rfl⟩
      | const c => exact ⟨hr, Ext.refl _⟩
      | global g => exact ⟨hr, Ext.refl _⟩
      | func f => exact ⟨hr, Ext.refl _⟩
    simp only [vc] at h
    split at h
    · rename_i e
      rw [e] at hc
      exact wpIn_cond_true hc (wpIn_mono (ihx n r _ Q hpx h hr) (up hwx (Ext.refl _)))
    · rename_i e
      rw [e] at hc
      exact wpIn_cond_false hc (wpIn_mono (ihy n r _ Q hpy h hr) (up hwy (Ext.refl _)))
    · rename_i t e
      rw [e] at hc
      have hc : a.eval c = .bool t := hc
      obtain ⟨r1, e1⟩ := know t hc
      cases t with
      | true => exact wpIn_cond_true hc (wpIn_mono (ihx n r _ Q hpx (h.1 rfl) r1) (up hwx e1))
      | false => exact wpIn_cond_false hc (wpIn_mono (ihy n r _ Q hpy (h.2 rfl) r1) (up hwy e1))
    · exact h.elim
  | block id x ih =>
    intro n r ann Q s v a w hpl h hr
    simp only [vc] at h
    refine wpIn_block (wpIn_mono (ih n r _ _ hpl h hr) fun e a' w' hp => ?_)
    cases e with
    | normal => exact hp
    | exit id' =>
      obtain ⟨s', v', r1, e1, so1, h1⟩ := hp
      by_cases hid : id' = id
      · subst hid
        have hb : Nat.beq id' id' = true := Nat.beq_refl _
        simp only [hb] at h1
        simp only [Exit.inBlock, if_true]
        exact ⟨s', v', r1, e1, so1, h1⟩
      · have hb : Nat.beq id' id = false := by
          cases hb : Nat.beq id' id with
          | false => rfl
          | true => exact absurd (Nat.eq_of_beq_eq_true hb) hid
        simp only [hb] at h1
        simp only [Exit.inBlock, hid, if_false]
        exact ⟨s', v', r1, e1, so1, h1⟩
    | ret => exact hp
    | panic ch => exact hp
    | goto l => exact hp
    | outgrown => exact hp
  | loop x ih =>
    intro n r ann Q s v a w hpl h hr
    cases ann with
    | l c a1 =>
      simp only [vc] at h
      obtain ⟨s1, v1, r1, e1, I, n0, h0, hround⟩ := pubAll_sound h hr
      -- the relation, of frames and worlds
      let J : Nat → Act → World → Prop := fun n a' w' => ∃ s' v', Rel s' v' a' w' ∧ Ext s1 s' ∧ SameOut (writes x) a a' ∧ atS c (I n) s1 s' v'
      refine wpIn_loop_ghost J n0 ⟨s1, v1, r1, Ext.refl _, SameOut.refl _ _, h0⟩ fun m a' w' hJ => ?_
      obtain ⟨s', v', r2, e2, so2, hat⟩ := hJ
      obtain ⟨s3, g, hg, h3, r3, e3, hst, hdf⟩ := atS_sound hat r2
      obtain ⟨ys, hc, hk⟩ := allFS_app (hround m) hg
      obtain ⟨r4, e4⟩ := cut_rel r1 r3 (e2.trans e3) so2 hdf hst hc
      refine wpIn_mono (ih n r a1 _ hpl (hk w' h3) r4) fun e a2 w2 hp => ?_
      cases e with
      | normal =>
        obtain ⟨s5, v5, r5, e5, so5, n', hn', hat'⟩ := hp
        exact ⟨n', hn', s5, v5, r5, e4.trans e5, so2.trans so5, hat'⟩
      | exit id => exact hp.up (e1.trans e4) so2 (fun _ h => h)
      | ret => exact hp.up (e1.trans e4) so2 (fun _ h => h)
      | panic ch => exact hp
      | goto l => exact hp
      | outgrown => exact hp
    | n => exact h.elim
    | s _ _ => exact h.elim
    | j _ _ _ => exact h.elim
    | c _ _ => exact h.elim
    | b _ => exact h.elim
    | d _ => exact h.elim

end
end Go.V

end
section
/- From a function's text to its contract. -/
namespace Go.V
open Go.RowKit
set_option linter.unusedVariables false
set_option linter.unusedSimpArgs false

def resCell (P : Program) (s : St) (v : World) (t : TypeId) (a : Nat) (K : Value → Prop) : Prop :=
  match s.get a with
  | .r k off => match s.hp.getD k none with
    | some pb => match aggOf P t with
      | some (true, n) => match Nat.ble (off + n) pb.cs.length with
        | true => K (.agg ((pb.cs.drop off).take n).toArray)
        | false => False
      | some (false, _) => match pb.cs[off]? with
        | some c => K c
        | none => False
      | none => False
    | none => False
  | .a ad => pubLoad P s v t ad K
  | _ => False
def resV (P : Program) (s : St) (v : World) : List ResultVar → (St → World → List Value → Prop) → Prop
  | [], K => K s v []
  | .tmp t :: r, K => useV s v (.tmp t) fun s v x => resV P s v r fun s v xs => K s v (x :: xs)
  | .cell a t :: r, K => resCell P s v t a fun x => resV P s v r fun s v xs => K s v (x :: xs)
def tup : List Value → Value
  | [x] => x
  | xs => .tuple xs.toArray
def argVal : AV → Value
  | .v x => x
  | .a ad => .pointer (some ad)
  | _ => undef
def argOk : AV → Bool
  | .v _ => true
  | .a _ => true
  | _ => false
def St0 (args : List AV) (n : Nat) : St := { env := args ++ List.replicate (n - args.length) .no, hp := [], mods := [], news := [], clean := true }
def onlyTmp : List ResultVar → Bool
  | [] => true
  | .tmp _ :: l => onlyTmp l
  | .cell .. :: _ => false
def finV (P : Program) (rs : List ResultVar) (R : Ending → World → Prop) (s : St) (v : World) : Prop :=
  resV P s v rs fun s v xs => sync s v fun _ w => match s.dfs with
    | [] => R (.returned (tup xs)) w
    | [d] => onlyTmp rs = true ∧ w.heap[d]? = some (.deferred (some [])) ∧ ∀ w', Step w w' [d] [] → R (.returned (tup xs)) w'
    | _ => False
def vcFn (P : Program) (mp : Bool) (n : Nat) (rs : List ResultVar) (c : Code) (ann : Ann) (args : List AV) (R : Ending → World → Prop) (w : World) : Prop :=
  vc P (match mp with
    | true => some fun chain w => R (.panicked chain) w
    | false => none) c ann (fun e s v => match e with
    | .normal => finV P rs R s v
    | .ret => finV P rs R s v
    | _ => False) (St0 args n) w

section
variable {P : Program} {s : St} {v : World} {a : Act} {w : World}
theorem resCell_sound {t : TypeId} {x : Nat} {K : Value → Prop} (h : resCell P s v t x K) (hr : Rel s v a w) : ∃ y, (do loadVar t (← asAddr (a.tmps.getD x undef))).run P w = .ok y w ∧ K y := by
  unfold resCell at h
  have hx := hr.env x
  cases e : s.get x with
  | no => rw [e] at h; exact h.elim
  | v y => rw [e] at h; exact h.elim
  | q k n => rw [e] at h; exact h.elim
  | t b => rw [e] at h; exact h.elim
  | a ad =>
    rw [e] at h hx
    have hx : a.tmps.getD x undef = .pointer (some ad) := hx
    obtain ⟨y, hy, hk⟩ := pubLoad_sound h
    exact ⟨y, by rw [hx]; simp [asAddr, hy w (hr.sees (Ext0.refl w))], hk⟩
  | r k off =>
    rw [e] at h hx
    obtain ⟨pb, hk, hv⟩ := hx
    have hg : s.hp.getD k none = some pb := by rw [List.getD_eq_getElem?_getD, hk]; rfl
    obtain ⟨T, hT⟩ := hr.priv k pb hk
    simp only [hg] at h
    cases ha : aggOf P t with
    | none => rw [ha] at h; exact h.elim
    | some bn =>
      obtain ⟨b, n⟩ := bn
      rw [ha] at h
      obtain ⟨h1, h2⟩ := aggOf_isAgg ha w
      cases b with
      | true =>
        simp only at h
        cases hb : Nat.ble (off + n) pb.cs.length with
        | false => rw [hb] at h; exact h.elim
        | true =>
          rw [hb] at h
          have hle : off + n ≤ pb.cs.length := Nat.le_of_ble_eq_true hb
          have hl : ((pb.cs.drop off).take n).length = n := by simp; omega
          refine ⟨_, ?_, h⟩
          have := run_loadCells_list (P := P) (w := w) ⟨pb.b, off, none⟩ ((pb.cs.drop off).take n) (fun j u hu => by
            rw [add_mk, cell_of_cells hT]
            rw [List.getElem?_take] at hu
            split at hu
            · rwa [List.getElem?_drop] at hu
            · cases hu)
          rw [hl] at this
          rw [hv]; simp [asAddr, loadVar, h1, h2, this]
      | false =>
        simp only at h
        cases hc : pb.cs[off]? with
        | none => rw [hc] at h; exact h.elim
        | some c =>
          rw [hc] at h
          have : w.cell? ⟨pb.b, off, none⟩ = some c := by rw [cell_of_cells hT]; exact hc
          exact ⟨c, by rw [hv]; simp [asAddr, loadVar, h1, this], h⟩

def resF (tmps : Array Value) : ResultVar → Sem Value
  | .tmp t => pure (tmps.getD t undef)
  | .cell a t => do loadVar t (← asAddr (tmps.getD a undef))
theorem resV_sound : ∀ {rs : List ResultVar} {s : St} {v : World} {K : St → World → List Value → Prop}, resV P s v rs K → Rel s v a w →
    ∃ s' v' xs, Rel s' v' a w ∧ Ext s s' ∧ K s' v' xs ∧ (rs.mapM (resF a.tmps)).run P w = .ok xs w
  | [], s, v, K, h, hr => ⟨s, v, [], hr, Ext.refl _, h, rfl⟩
  | .tmp t :: r, s, v, K, h, hr => by
    obtain ⟨s1, v1, r1, e1, h1⟩ := useV_sound h hr
    obtain ⟨s2, v2, xs, r2, e2, h2, hm⟩ := resV_sound h1 r1
    refine ⟨s2, v2, _, r2, e1.trans e2, h2, ?_⟩
    simp [List.mapM_cons, resF, hm, Act.eval]
  | .cell x t :: r, s, v, K, h, hr => by
    obtain ⟨y, hy, h1⟩ := resCell_sound h hr
    obtain ⟨s2, v2, xs, r2, e2, h2, hm⟩ := resV_sound h1 hr
    refine ⟨s2, v2, _, r2, e2, h2, ?_⟩
    have hy' : (resF a.tmps (.cell x t)).run P w = .ok y w := hy
    simp only [List.mapM_cons, Sem.run_bind, hy', Result.andThen_ok, hm, Sem.run_pure]

theorem onlyTmp_run : ∀ {rs : List ResultVar} {tmps : Array Value} {xs : List Value} {w : World} (w' : World), onlyTmp rs = true → (rs.mapM (resF tmps)).run P w = .ok xs w → (rs.mapM (resF tmps)).run P w' = .ok xs w'
  | [], tmps, xs, w, w', _, h => by
    simp only [List.mapM_nil, Sem.run_pure] at h ⊢
    injection h with h1 h2
    rw [h1]
  | .tmp t :: r, tmps, xs, w, w', ho, h => by
    simp only [List.mapM_cons, resF, Sem.run_bind, Sem.run_pure, Result.andThen_ok] at h ⊢
    cases hm : (r.mapM (resF tmps)).run P w with
    | halt x w2 => rw [hm] at h; cases h
    | ok ys w2 =>
      rw [hm] at h
      simp only [Result.andThen_ok, Sem.run_pure] at h
      injection h with h1 h2
      subst h1
      subst h2
      rw [onlyTmp_run w' (rs := r) ho hm]
      simp [Result.andThen_ok]
  | .cell .. :: r, tmps, xs, w, w', ho, h => by cases ho
theorem finV_res {fn : Func} {xs : List Value} (hm : (fn.results.toList.mapM (resF a.tmps)).run P w = .ok xs w) : (results fn a.tmps).run P w = .ok (tup xs) w := by
  have hf : ∀ r, (match r with
      | .tmp t => pure (a.tmps.getD t undef)
      | .cell x t => do loadVar t (← asAddr (a.tmps.getD x undef))) = resF a.tmps r := fun r => by cases r <;> rfl
  have hres : results fn a.tmps = (do
      let vs ← fn.results.mapM (resF a.tmps)
      pure (if h : vs.size = 1 then vs[0] else .tuple vs)) := by
    unfold results
    congr 1
  have hm2 : (fn.results.mapM (resF a.tmps)).run P w = .ok xs.toArray w := by
    rw [Array.mapM_eq_mapM_toList]
    simp only [Sem.run_map, hm, Result.andThen_ok]
  rw [hres]
  simp only [Sem.run_bind, hm2, Result.andThen_ok, Sem.run_pure]
  congr 1
  cases xs with
  | nil => rfl
  | cons x xs =>
    cases xs with
    | nil => rfl
    | cons y ys => simp [tup]

theorem finV_sound {fn : Func} {n : Nat} {R : Ending → World → Prop} (h : finV P fn.results.toList R s v) (hr : Rel s v a w) : LeavesInM (fr none) n P fn a.tmps R a.defers .returning w := by
  obtain ⟨s', v', xs, r1, e1, h1, hm⟩ := resV_sound h hr
  obtain ⟨r2, e2, h2⟩ := sync_sound h1 r1
  rw [r1.defers]
  split at h2
  · rename_i e
    rw [e]
    exact ⟨_, finV_res hm, h2⟩
  · rename_i d e
    rw [e]
    obtain ⟨ho, hd, h2⟩ := h2
    have hs := step_putObj w d (.deferred none)
    exact ⟨by simp, .inl ⟨d, _, rfl, run_takeDeferred hd, _, finV_res (onlyTmp_run _ ho hm), h2 _ hs⟩⟩
  · exact h2.elim

/-- From a function's text to its contract. -/
theorem calls_of (hP : PF P) {f : FuncId} {fn : Func} {c : Code} {ann : Ann} {args : List AV} {R : Ending → World → Prop} {mp : Bool} (hf : P.funcs[f]? = some fn) (hb : fn.body = some c) (ha : args.all argOk = true)
    (h : vcFn P mp fn.ntmps fn.results.toList c ann args R w) : Calls P f (args.map argVal).toArray w R := by
  refine (callsIn_wide (n := 1)).1 (callsIn_of_wp_marks (F := fr none) hf hb trivial ?_ rfl)
  have hr : Rel (St0 args fn.ntmps) w { tmps := (args.map argVal).toArray ++ Array.replicate (fn.ntmps - (args.map argVal).toArray.size) undef, defers := [] } w := by
    refine ⟨rfl, by simp [St0], fun t => ?_, fun k pb hk => by simp [St0] at hk, fun k k' pb pb' _ hk => by simp [St0] at hk, Step.refl _ _, fun _ => rfl, fun k b hk => by rcases hk with hk | hk <;> cases hk⟩
    by_cases ht : t < args.length
    · have e1 : (St0 args fn.ntmps).get t = args[t] := by simp [St0, St.get, List.getElem?_append_left ht, ht]
      have e2 : ((args.map argVal).toArray ++ Array.replicate (fn.ntmps - (args.map argVal).toArray.size) undef).getD t undef = argVal args[t] := by
        rw [Array.getD_eq_getD_getElem?, Array.getElem?_append_left (by simpa using ht)]
        simp [ht]
      rw [e1, e2]
      have hok := List.all_eq_true.1 ha args[t] (List.getElem_mem ht)
      cases h : args[t] <;> rw [h] at hok <;> first | rfl | (simp [argOk] at hok)
    · have e1 : (St0 args fn.ntmps).get t = .no := by
        simp only [St0, St.get, List.getD_eq_getElem?_getD]
        rw [List.getElem?_append_right (by omega)]
        cases h : (List.replicate (fn.ntmps - args.length) AV.no)[t - args.length]? with
        | none => rfl
        | some x =>
          have := List.mem_of_getElem? h
          rw [List.mem_replicate] at this
          rw [this.2]; rfl
      rw [e1]; trivial
  refine wpIn_mono (vc_sound hP c 1 none ann _ (.inl rfl) h hr) fun e a' w' hp => ?_
  cases e with
  | normal =>
    obtain ⟨s', v', r1, _, _, h1⟩ := hp
    exact finV_sound h1 r1
  | ret =>
    obtain ⟨s', v', r1, _, _, h1⟩ := hp
    exact finV_sound h1 r1
  | exit id => obtain ⟨s', v', r1, _, _, h1⟩ := hp; exact h1.elim
  | goto l => exact hp.elim
  | outgrown => exact hp.elim
  | panic chain =>
    obtain ⟨hd, q, hq, hR⟩ := hp
    cases mp with
    | true =>
      simp only [Option.some.injEq] at hq; subst hq
      show LeavesInM _ _ _ _ _ _ _ _ _
      rw [hd]
      exact hR
    | false => cases hq
end
end Go.V

end
