/- append as it is written, copy, bytes of a text, ranging over maps. -/
import Derived.Test.YtcaamecdhbgknaaV10
import Derived.Laws.IdiomStrings
namespace Go.V
open Go.RowKit
set_option linter.unusedVariables false
set_option linter.unusedSimpArgs false

section
variable {P : Program} {o : Oper} {s : St} {v : World} {K : St → World → Prop} {a : Act} {w : World} {Q : Exit → Act → World → Prop}

def noModB (s : St) (p : Option Addr) (q : Prop) : Prop := noModM s (p.map (·.block)) q

def appendR (P : Program) (s : St) (v : World) (dst : Option Nat) (t tx : TypeId) (x y : Operand) (K : St → World → Prop) : Prop :=
  useV s v x fun s v xv => match xv, P.underlying t with
    | .slice base l c, some (.slice e) => match P.info? e with
      | some i => match i.zero with
        | some z =>
          let k := fun (n : Nat) (xs : List Value) => appendP s.clean (s.mods.map (·.2)) (s.news.map (·.2)) s.privs v base l c n xs i.size i.bytes z.cells.toList fun w b l c => K (s.synced.put dst (.v (.slice b l c))) w
          match P.underlying tx, s.ev y with
          | some (.slice _), .q kk n => match s.hp.getD kk none with
            | some pb => match Nat.beq pb.cs.length (n * i.size), pb.cs.all (·.oneCell') with
              | true, true => k n pb.cs
              | _, _ => False
            | none => False
          | some (.slice _), .v (.slice ya n _) => ∃ xs : List Value, xs.length = n * i.size ∧ Row v ya xs ∧ noModB s ya (k n xs)
          | some .string, .v (.string b) => match Nat.beq i.size 1 with
            | true => k b.size (byteCells b)
            | false => False
          | some (.int _), .v (.int _ n) => match Nat.beq z.cells.toList.length i.size, z.cells.toList.all (·.oneCell') with
            | true, true => (0 ≤ n ∧ n * i.bytes ≤ 281474976710656 ∧ n ≤ 9223372036854775807) ∧ k n.toNat (reps z.cells.toList n.toNat)
            | _, _ => False
          | _, _ => False
        | none => False
      | none => False
    | _, _ => False

theorem R_append {t tx : TypeId} {x y : Operand} (ho : o.op = .call { callee := .builtin .append, args := #[x, y], argTypes := #[t, tx] })
    (h : appendR P s v o.dst t tx x y K) (hr : Rel s v a w) : o.wp P a w (P1 Tt s a o.dst K) Q := by
  obtain ⟨s1, v1, r1, e1, h1⟩ := useV_sound h hr
  split at h1
  · rename_i base l c e hx ht
    split at h1
    · rename_i i hi
      split at h1
      · rename_i z hz
        have fin : ∀ (n : Nat) (xs : List Value), ASrc P i z tx w (a.eval y) n xs → (∀ u ∈ xs, u.oneCell' = true) →
            (appendP s1.clean (s1.mods.map (·.2)) (s1.news.map (·.2)) s1.privs v1 base l c n xs i.size i.bytes z.cells.toList fun w b l c => K (s1.synced.put o.dst (.v (.slice b l c))) w) → o.wp P a w (P1 Tt s a o.dst K) Q := fun n xs hs h1c hp => by
          obtain ⟨w', b', l', c', hrun, r2, hk⟩ := appendP_sound (P := P) (ty := o.type) ht hi hz hs h1c hp r1
          refine wp_value (x := .slice b' l' c') (w' := w') ?_ (P1.mk trivial r2 (e1.trans (Ext.of_hp rfl)) (x := .v _) rfl hk)
          simp [execOp, ho, resolve, invoke, builtin, hx, hrun]
        have hy := r1.ev y
        simp only at h1
        split at h1
        · rename_i e' kk n hux hyq
          split at h1
          · rename_i pb hpb
            split at h1
            · rename_i b1 b2
              have b1 := Nat.eq_of_beq_eq_true b1
              have b2 := List.all_eq_true.1 b2
              rw [hyq] at hy
              obtain ⟨pb', hk', hv⟩ := hy
              have hg : s1.hp.getD kk none = some pb' := by rw [List.getD_eq_getElem?_getD, hk']; rfl
              rw [hpb] at hg; injection hg with hg; subst hg
              obtain ⟨T, hT⟩ := r1.priv kk pb hk'
              refine fin n pb.cs ?_ b2 h1
              rw [hv]
              refine .plain _ n _ (.inl ⟨e', hux⟩) (fun w' => rfl) (fun w' hw => run_firstCells_some (P := P) (w := w') i.size n ⟨pb.b, 0, none⟩ n n pb.cs b1 (fun j u hu => ?_))
              rw [add_mk, cell_of_cells (by rw [hw.2 _ (Array.getElem?_eq_some_iff.1 hT).1]; exact hT)]
              simpa using hu
            · exact h1.elim
          · exact h1.elim
        · rename_i e' ya n cy hux hyq
          rw [hyq] at hy
          have hy : a.eval y = _ := hy
          obtain ⟨xs, hxl, hrow, h1⟩ := h1
          obtain ⟨hmod, h1⟩ := noModM_sound h1
          refine fin n xs ?_ hrow.2 h1
          rw [hy]
          exact .plain _ n _ (.inl ⟨e', hux⟩) (fun w' => rfl) (fun w' hw => hrow.firstCells (P := P) hxl hmod (r1.sees hw))
        · rename_i b hux hyq
          split at h1
          · rename_i b1
            have b1 := Nat.eq_of_beq_eq_true b1
            rw [hyq] at hy
            have hy : a.eval y = _ := hy
            refine fin _ _ ?_ (fun u hu => by
              unfold byteCells at hu
              obtain ⟨b, _, rfl⟩ := List.mem_map.1 hu
              rfl) h1
            rw [hy]
            exact .plain _ _ _ (.inr hux) (fun w' => rfl) (fun w' hw => by rw [b1]; exact firstCells_string b w')
          · exact h1.elim
        · rename_i kk kv n hux hyq
          split at h1
          · rename_i b1 hz1
            have hz1 := List.all_eq_true.1 hz1
            have b1 := Nat.eq_of_beq_eq_true b1
            rw [hyq] at hy
            have hy : a.eval y = _ := hy
            obtain ⟨⟨h0, h2, h3⟩, h1⟩ := h1
            refine fin _ _ ?_ (fun u hu => ?_) h1
            · rw [hy]
              have hn : (n : Int) = (n.toNat : Int) := by omega
              rw [hn]
              refine .zeros _ kk n.toNat hux ?_ (by omega) b1
              rw [hn] at h2
              have : ((n.toNat * i.bytes : Nat) : Int) ≤ 281474976710656 := by rw [Int.natCast_mul]; exact h2
              omega
            · have key : ∀ m, ∀ u ∈ reps z.cells.toList m, u.oneCell' = true := by
                intro m
                induction m with
                | zero => intro u hu; cases hu
                | succ m ih =>
                  intro u hu
                  rcases List.mem_append.1 hu with hu | hu
                  · exact hz1 u hu
                  · exact ih u hu
              exact key _ u hu
          · exact h1.elim
        · exact h1.elim
      · exact h1.elim
    · exact h1.elim
  · exact h1.elim

/-! copy(x, y) -/
def copyP (cl : Bool) (mods news privs : List Nat) (v : World) (base : Option Addr) (l : Nat) (ya : Option Addr) (n sz : Nat) (K : World → Nat → Prop) : Prop :=
  ∃ xs : List Value, xs.length = min n l * sz ∧ Row v ya xs ∧ (∀ b, ya.map (·.block) = some b → b ∉ mods) ∧
    syncC cl mods news v fun w => (xs = [] ∧ K w (min n l)) ∨
      ∃ ad cs, base = some ad ∧ ad.spot = none ∧ Blk w ad.block cs ∧ ad.off + xs.length ≤ cs.length ∧ ad.block ∉ privs ∧ ∀ w', Upd w w' ad.block (sets cs ad.off xs) → K w' (min n l)
def copyR (P : Program) (s : St) (v : World) (dst : Option Nat) (t : TypeId) (x y : Operand) (K : St → World → Prop) : Prop :=
  useVs s v [x, y] fun s v xs => match xs, P.underlying t with
    | [.slice base l _, .slice ya n _], some (.slice e) => match sizeOfN P e with
      | some sz => copyP s.clean (s.mods.map (·.2)) (s.news.map (·.2)) s.privs v base l ya n sz fun w m => K (s.synced.put dst (.v (.int .i64 m))) w
      | none => False
    | _, _ => False
theorem R_copy {t tx : TypeId} {x y : Operand} (ho : o.op = .call { callee := .builtin .copy, args := #[x, y], argTypes := #[t, tx] }) (h : copyR P s v o.dst t x y K) (hr : Rel s v a w) : o.wp P a w (P1 Tt s a o.dst K) Q := by
  obtain ⟨s1, v1, r1, e1, h1⟩ := useVs_sound h hr
  simp only [List.map_cons, List.map_nil] at h1
  split at h1
  · rename_i base l c ya n c' e hxy ht
    simp only [List.cons.injEq, and_true] at hxy
    obtain ⟨hx, hy⟩ := hxy
    split at h1
    · rename_i sz hsz
      obtain ⟨xs, hxl, hrow, hmod, h1⟩ := h1
      have h1 := syncC_sound h1 r1
      have hmin : Nat.min n l = min n l := rfl
      have hfc : ∀ (c : Nat), (Builtin.firstCells sz (min n l) (.slice ya n c)).run P w = .ok xs.toArray w := fun c => by
        have h := hrow.firstCells (P := P) (l := min n l) (c := c) hxl hmod (r1.sees (Ext0.refl w))
        cases ya with
        | none => exact h
        | some ad => exact h
      rcases h1 with ⟨rfl, hk⟩ | ⟨ad, cs, rfl, hsp, hb, hl, hp, hk⟩
      · refine wp_value (x := .int .i64 (min n l : Nat)) (w' := w) ?_ (P1.mk trivial r1.synced (e1.trans (Ext.of_hp rfl)) (x := .v _) rfl hk)
        cases base <;> simp [execOp, ho, resolve, invoke, builtin, hx, hy, Builtin.copy_, run_underlying ht, Builtin.lenOf, hmin, run_sizeN hsz, hfc, storeCells, goInt]
      · obtain ⟨T, lo, hi', hb, hf⟩ := hb
        obtain ⟨ab, ao, asp⟩ := ad
        simp only at hsp hb hl hp hk
        subst hsp
        obtain ⟨w', hst, g1, g2, g3, g4, g5, g6⟩ := run_storeCells_row (P := P) (off := ao) (xs := xs) hb (by simp only; omega) hl hrow.2
        have hu : Upd w w' ab (sets cs ao xs) := ⟨g1, g2, g3, g4, g5, T, lo, hi', by rw [sets_eq _ _ _ hl]; exact g6, by
          rw [sets_eq _ _ _ hl]
          have : (spl cs ao xs).length = cs.length := by unfold spl; simp; omega
          omega⟩
        refine wp_value (x := .int .i64 (min n l : Nat)) (w' := w') ?_ (P1.mk trivial (r1.synced.upd rfl rfl hu hp) (e1.trans (Ext.of_hp rfl)) (x := .v _) rfl (hk w' hu))
        simp [execOp, ho, resolve, invoke, builtin, hx, hy, Builtin.copy_, run_underlying ht, Builtin.lenOf, hmin, run_sizeN hsz, hfc, hst, goInt]
    · exact h1.elim
  · exact h1.elim

/-! []byte(s) -/
def bytesR (P : Program) (s : St) (v : World) (dst : Option Nat) (src t : TypeId) (x : Operand) (K : St → World → Prop) : Prop :=
  match P.underlying src, P.underlying t, s.val x with
  | some .string, some (.slice e), some (.string b) => match P.underlying e with
    | some (.int .u8) => ∀ w b' cap, Step v w (s.mods.map (·.2)) (b' :: s.news.map (·.2)) → b.size ≤ cap → Blk w b' (byteCells b ++ List.replicate (cap - b.size) (.int .u8 0)) →
        K (s.synced.put dst (.v (.slice (some ⟨b', 0, none⟩) b.size cap))) w
    | _ => False
  | _, _, _ => False
theorem R_bytes {src t : TypeId} {x : Operand} (ho : o.op = .convert src t x) (h : bytesR P s v o.dst src t x K) (hr : Rel s v a w) : o.wp P a w (P1 (Ext0 w) s a o.dst K) Q := by
  unfold bytesR at h
  split at h
  · rename_i e b hs ht hx
    split at h
    · rename_i he
      have hrun := run_bytes_of_string (P := P) w src t e b hs ht he
      generalize hcap : grownCap w b.size 0 e = cap at hrun
      have hge : b.size ≤ cap := by rw [← hcap]; exact grownCap_ge w b.size 0 e
      have harr : bytesRow b cap = (byteCells b ++ List.replicate (cap - b.size) (Value.int .u8 0)).toArray := by
        apply Array.ext'; simp [bytesRow, byteCells]
      have hlen : (byteCells b ++ List.replicate (cap - b.size) (Value.int .u8 0)).length = cap := by simp [byteCells_length]; omega
      rw [harr] at hrun
      generalize hcells : byteCells b ++ List.replicate (cap - b.size) (Value.int .u8 0) = cells at hrun hlen
      simp only [List.size_toArray, hlen] at hrun
      obtain ⟨g1, g2, g3, g4, g5, g6⟩ := alloc_facts w.drew (.cells cells.toArray e (cap, cap + 1))
      have hnp : newPub s v (fun w' b' => Blk w' b' cells) (fun s w' b' => K (s.put o.dst (.v (.slice (some ⟨b', 0, none⟩) b.size cap))) w') := fun w' b' hst hI => h w' b' cap hst hge (by rw [hcells]; exact hI)
      obtain ⟨r1, hk⟩ := newPub_sound hnp hr (w.drew.alloc (.cells cells.toArray e (cap, cap + 1))) g1 g2 g3 g4 g5 ⟨e, cap, cap + 1, g6, .inr (by omega)⟩
      refine wp_value (x := .slice (some ⟨w.heap.size, 0, none⟩) b.size cap) (w' := w.drew.alloc (.cells cells.toArray e (cap, cap + 1))) ?_ (P1.mk ⟨by rw [g4]; exact Nat.le_succ _, g5⟩ r1 (Ext.of_hp rfl) (x := .v _) rfl hk)
      simp [execOp, ho, val_sound hx hr, hrun]
    · exact h.elim
  · exact h.elim

end
end Go.V
