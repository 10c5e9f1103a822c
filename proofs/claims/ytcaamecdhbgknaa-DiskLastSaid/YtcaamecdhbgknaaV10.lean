/- append, copy, and bytes out of a text. -/
import Derived.Test.YtcaamecdhbgknaaV9
namespace Go.V
open Go.RowKit
set_option linter.unusedVariables false
set_option linter.unusedSimpArgs false

section
variable {P : Program} {o : Oper} {s : St} {v : World} {K : St → World → Prop} {a : Act} {w : World} {Q : Exit → Act → World → Prop}

inductive ASrc (P : Program) (i : TypeInfo) (z : Value) (tx : TypeId) (w : World) : Value → Nat → List Value → Prop
  | plain (x : Value) (n : Nat) (xs : List Value) (hk : (∃ e', P.underlying tx = some (.slice e')) ∨ P.underlying tx = some .string) (hlen : ∀ w', (Builtin.lenOf x).run P w' = .ok n w')
      (hc : ∀ w', Ext0 w w' → (Builtin.firstCells i.size n x).run P w' = .ok xs.toArray w') : ASrc P i z tx w x n xs
  | zeros (kq kn : IntKind) (n : Nat) (htn : P.underlying tx = some (.int kn)) (hn : n * i.bytes ≤ 281474976710656) (h63 : n ≤ 9223372036854775807) (hz : z.cells.toList.length = i.size) :
      ASrc P i z tx w (.int kq n) n (reps z.cells.toList n)

theorem reps_nil_of {z : List Value} {n : Nat} (h : n * z.length = 0) : reps z n = [] := by
  have := reps_length z n
  rw [h] at this
  exact List.eq_nil_of_length_eq_zero this

variable {t tx ty e : TypeId} {i : TypeInfo} {z : Value}
theorem run_append_room_any (ht : P.underlying t = some (.slice e)) (hi : P.info? e = some i) (hz : i.zero = some z) {x : Value} {n : Nat} {xs : List Value} (hs : ASrc P i z tx w x n xs) (base : Option Addr) (l c : Nat) (hroom : l + n ≤ c) :
    (Builtin.append_ #[t, tx] ty #[.slice base l c, x]).run P w = match base with
      | some ad => ((storeCells (ad.add (l * i.size)) xs).run P w).andThen fun _ w' => .ok (.slice base (l + n) c) w'
      | none => .ok (.slice base (l + n) c) w := by
  cases hs with
  | plain x n xs hk hlen hc =>
    have hcw := hc w (Ext0.refl w)
    rcases hk with ⟨e', hk⟩ | hk <;>
      (cases base <;> simp [Builtin.append_, run_underlying ht, run_underlying hk, sizeOf, typeInfo, hi, hlen, hcw, hroom])
  | zeros kq kn n htn hn h63 hsz =>
    have hw : IntKind.i64.wrap (n : Int) = n := by rw [IntKind.wrap_i64]; omega
    have hneg : ¬ ((n : Int) < 0) := by omega
    have h48i : ¬ (281474976710656 < (n : Int) * (i.bytes : Int)) := by rw [← Int.natCast_mul]; omega
    by_cases h0 : n * i.size = 0
    · have hx : reps z.cells.toList n = [] := reps_nil_of (by rw [hsz]; exact h0)
      rw [hx]
      cases base <;> simp [Builtin.append_, run_underlying ht, run_underlying htn, sizeOf, typeInfo, zeroValue, hi, hz, asInt, asIntOf, hw, hneg, h48i, hroom, h0]
    · cases base <;> simp [Builtin.append_, run_underlying ht, run_underlying htn, sizeOf, typeInfo, zeroValue, hi, hz, asInt, asIntOf, hw, hneg, h48i, hroom, h0, zero_reps]

theorem run_append_grow_any (ht : P.underlying t = some (.slice e)) (hi : P.info? e = some i) (hz : i.zero = some z) {x : Value} {n : Nat} {xs : List Value} (hs : ASrc P i z tx w x n xs) (base : Option Addr) (l c : Nat) (olds : List Value)
    (hold : (Builtin.firstCells i.size l (.slice base l c)).run P w.drew = .ok olds.toArray w.drew) (hg : c < l + n) (h63 : l + n ≤ 9223372036854775807) (hfit : Builtin.nextslicecap (l + n) c * i.bytes ≤ 281474976710656) :
    (Builtin.append_ #[t, tx] ty #[.slice base l c, x]).run P w =
      .ok (.slice (some ⟨w.heap.size, 0, none⟩) (l + n) (grownCap w (l + n) c e))
        (w.drew.alloc (.cells (olds ++ xs ++ reps z.cells.toList (grownCap w (l + n) c e - (l + n))).toArray e)) := by
  have hn : ¬ (l + n ≤ c) := by omega
  have h63' : ¬ (9223372036854775807 < ((l : Int) + (n : Int))) := by omega
  have h48' : ¬ (281474976710656 < Builtin.nextslicecap (l + n) c * i.bytes) := by omega
  have hdrew : Ext0 w w.drew := ⟨Nat.le_refl _, fun _ _ => rfl⟩
  cases hs with
  | plain x n xs hk hlen hc =>
    have hcw := hc w.drew hdrew
    rcases hk with ⟨e', hk⟩ | hk <;>
      (simp [Builtin.append_, run_underlying ht, run_underlying hk, sizeOf, typeInfo, zeroValue, hi, hz, hlen, hn, h63', h48', Question.forced, hcw, hold, newRow, grownCap, zero_reps])
  | zeros kq kn n htn hnb h63b hsz =>
    have hw : IntKind.i64.wrap (n : Int) = n := by rw [IntKind.wrap_i64]; omega
    have hneg : ¬ ((n : Int) < 0) := by omega
    have h48i : ¬ (281474976710656 < (n : Int) * (i.bytes : Int)) := by rw [← Int.natCast_mul]; omega
    by_cases h0 : n * i.size = 0
    · have hx : reps z.cells.toList n = [] := reps_nil_of (by rw [hsz]; exact h0)
      rw [hx]
      simp [Builtin.append_, run_underlying ht, run_underlying htn, sizeOf, typeInfo, zeroValue, hi, hz, asInt, asIntOf, hw, hneg, h48i, hn, h0, h63', h48', Question.forced, hold, newRow, grownCap, zero_reps]
    · simp [Builtin.append_, run_underlying ht, run_underlying htn, sizeOf, typeInfo, zeroValue, hi, hz, asInt, asIntOf, hw, hneg, h48i, hn, h0, h63', h48', Question.forced, hold, newRow, grownCap, zero_reps]

/-- On to the world as it is. -/
def syncC (cl : Bool) (mods news : List Nat) (v : World) (K : World → Prop) : Prop :=
  match cl with
  | true => K v
  | false => ∀ w, Step v w mods news → K w
theorem syncC_sound {K : World → Prop} (h : syncC s.clean (s.mods.map (·.2)) (s.news.map (·.2)) v K) (hr : Rel s v a w) : K w := by
  unfold syncC at h
  cases hc : s.clean with
  | true => rw [hc] at h; rw [hr.clean hc]; exact h
  | false => rw [hc] at h; exact h w hr.step

/-- append(base[:l:c], the n elements whose cells are xs): K of the world and the slice. -/
def appendP (cl : Bool) (mods news privs : List Nat) (v : World) (base : Option Addr) (l c n : Nat) (xs : List Value) (sz bytes : Nat) (z : List Value) (K : World → Option Addr → Nat → Nat → Prop) : Prop :=
  (l + n) * bytes ≤ 140737488355328 ∧ l + n ≤ 9223372036854775807 ∧
  (l + n ≤ c → syncC cl mods news v fun w => (xs = [] ∧ K w base (l + n) c) ∨
    ∃ ad cs, base = some ad ∧ ad.spot = none ∧ Blk w ad.block cs ∧ ad.off + l * sz + xs.length ≤ cs.length ∧ ad.block ∉ privs ∧ ∀ w', Upd w w' ad.block (sets cs (ad.off + l * sz) xs) → K w' base (l + n) c) ∧
  (c < l + n → ∃ olds : List Value, olds.length = l * sz ∧ Row v base olds ∧ (∀ b, base.map (·.block) = some b → b ∉ mods) ∧
    ∀ w b cap, Step v w mods (b :: news) → l + n ≤ cap → Blk w b (olds ++ xs ++ reps z (cap - (l + n))) → K w (some ⟨b, 0, none⟩) (l + n) cap)

theorem Row.firstCells {base : Option Addr} {olds : List Value} {l c sz : Nat} (h : Row v base olds) (hl : olds.length = l * sz) (hm : ∀ b, base.map (·.block) = some b → b ∉ s.mods.map (·.2)) (hs : Sees s v w) :
    (Builtin.firstCells sz l (.slice base l c)).run P w = .ok olds.toArray w := by
  cases base with
  | none =>
    have : olds = [] := by
      cases olds with
      | nil => rfl
      | cons x xs => obtain ⟨ad, e, _⟩ := h.1 0 x rfl; cases e
    subst this
    rfl
  | some ad =>
    refine run_firstCells_some (P := P) (w := w) sz l ad l c olds hl (fun j u hu => ?_)
    obtain ⟨ad', e, hc⟩ := h.1 j u hu
    injection e with e; subst e
    refine hs.cell hc ?_
    have := hm ad.block rfl
    unfold Addr.add; split <;> exact this

theorem appendP_sound {base : Option Addr} {l c n : Nat} {xs : List Value} {x : Value} {K' : World → Option Addr → Nat → Nat → Prop} (ht : P.underlying t = some (.slice e)) (hi : P.info? e = some i) (hz : i.zero = some z)
    (hsrc : ASrc P i z tx w x n xs) (hone : ∀ y ∈ xs, y.oneCell' = true) (h : appendP s.clean (s.mods.map (·.2)) (s.news.map (·.2)) s.privs v base l c n xs i.size i.bytes z.cells.toList K') (hr : Rel s v a w) :
    ∃ w' b' l' c', (Builtin.append_ #[t, tx] ty #[.slice base l c, x]).run P w = .ok (.slice b' l' c') w' ∧ Rel s.synced w' a w' ∧ K' w' b' l' c' := by
  obtain ⟨h1, h2, h3, h4⟩ := h
  by_cases hroom : l + n ≤ c
  · have hrun := run_append_room_any (P := P) (ty := ty) (w := w) ht hi hz hsrc base l c hroom
    rcases syncC_sound (h3 hroom) hr with ⟨rfl, hk⟩ | ⟨ad, cs, rfl, hsp, hb, hl, hp, hk⟩
    · refine ⟨w, base, l + n, c, ?_, hr.synced, hk⟩
      rw [hrun]
      cases base with
      | none => rfl
      | some ad => simp [storeCells]
    · obtain ⟨T, lo, hi', hb, hf⟩ := hb
      obtain ⟨ab, ao, asp⟩ := ad
      simp only at hsp hb hl hp hk
      subst hsp
      obtain ⟨w', hst, g1, g2, g3, g4, g5, g6⟩ := run_storeCells_row (P := P) (off := ao + l * i.size) (xs := xs) hb (by simp only; omega) hl hone
      have hu : Upd w w' ab (sets cs (ao + l * i.size) xs) := ⟨g1, g2, g3, g4, g5, T, lo, hi', by rw [sets_eq _ _ _ hl]; exact g6, by
        rw [sets_eq _ _ _ hl]
        have : (spl cs (ao + l * i.size) xs).length = cs.length := by unfold spl; simp; omega
        omega⟩
      refine ⟨w', _, _, _, ?_, hr.synced.upd rfl rfl hu hp, hk w' hu⟩
      rw [hrun]
      simp only [add_mk, hst, Result.andThen_ok]
  · have hg : c < l + n := by omega
    obtain ⟨olds, ho1, ho2, ho3, ho4⟩ := h4 hg
    have hdrew : Ext0 w w.drew := ⟨Nat.le_refl _, fun _ _ => rfl⟩
    have hold := ho2.firstCells (P := P) (c := c) ho1 ho3 (hr.sees hdrew)
    have hrun := run_append_grow_any (P := P) (ty := ty) (w := w) ht hi hz hsrc base l c olds hold hg h2 (growslice_fits hg h1)
    obtain ⟨g1, g2, g3, g4, g5, g6⟩ := alloc_facts w.drew (.cells (olds ++ xs ++ reps z.cells.toList (grownCap w (l + n) c e - (l + n))).toArray e)
    have hnp : newPub s v (fun w' b => ∃ cap, l + n ≤ cap ∧ cap = grownCap w (l + n) c e ∧ Blk w' b (olds ++ xs ++ reps z.cells.toList (cap - (l + n)))) (fun _ w' b => K' w' (some ⟨b, 0, none⟩) (l + n) (grownCap w (l + n) c e)) := by
      intro w' b hst hI
      obtain ⟨cap, hc1, hc2, hc3⟩ := hI
      subst hc2
      exact ho4 w' b _ hst hc1 hc3
    obtain ⟨r1, hk⟩ := newPub_sound hnp hr _ g1 g2 g3 g4 g5 ⟨_, grownCap_ge _ _ _ _, rfl, Blk.of_cells g6⟩
    exact ⟨_, _, _, _, hrun, r1, hk⟩

end
end Go.V
