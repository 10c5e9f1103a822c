/- The locks: the table in memory: New, at, Holds, Waits. -/
import Derived.Test.YtnimejocaaekaaaQ3
namespace Go.Proofs.Ytnimejocaaekaaa.Lock
open Go Go.V
open Go.Proofs.Ytnimejocaaekaaa.VC
open Go.Proofs.Try (prog)
set_option linter.unusedVariables false
set_option linter.unusedSimpArgs false
set_option maxRecDepth 20000

/-- An item's blocks. -/
structure IB where
  x : Nat
  h : Nat
  p : Option Addr
  c : Nat
  l : List (Int × Value)
def IB.blocks (b : IB) : List Nat := b.x :: b.h :: pb b.p
abbrev At (w : World) (b : IB) (I : IM) : Prop := ItemAt w b.x b.h b.p b.c b.l I
def inR (n : Int) : Prop := -9223372036854775808 ≤ n ∧ n ≤ 9223372036854775807
theorem At.fr {F : List Nat} {v w : World} {b : IB} {I : IM} (h : At v b I) (hf : Fr F v w) (hn : ∀ x ∈ b.blocks, x ∉ F) : At w b I :=
  ItemAt.fr h hf (hn _ (by simp [IB.blocks])) (hn _ (by simp [IB.blocks])) (fun ad hp => hn _ (by simp [IB.blocks, hp, pb]))
theorem At.lt {w : World} {b : IB} {I : IM} (h : At w b I) : ∀ x ∈ b.blocks, x < w.heap.size := fun x hx => by
  rcases List.mem_cons.1 hx with rfl | hx
  · exact h.blk.lt
  rcases List.mem_cons.1 hx with rfl | hx
  · exact h.map.lt
  obtain ⟨ad, hp, rfl⟩ := (g_mem_pb _ _).1 hx
  exact h.own.lt hp

/-- A table in memory: its own blocks, its items, for which one each session waits. -/
structure TabAt (w : World) (own : List Nat) (tb mi mw : Nat) (ib : Int → Option IB) (N : Nat) (W : Int → Option Int) (M : Int → IM) : Prop where
  blk : Blk w tb [.map (some mi), .map (some mw)]
  items : ∃ li, MapG kenc w mi li ∧ (∀ i, V.look li i = (ib i).map fun b => D b.x) ∧ li.length ≤ N ∧ ∀ p ∈ li, inR p.1
  waits : ∃ lw, MapG kenc w mw lw ∧ (∀ s, V.look lw s = (W s).map I64) ∧ ∀ p ∈ lw, 1 ≤ p.1 ∧ p.1 ≤ 16
  it : ∀ i b, ib i = some b → At w b (M i)
  no : ∀ i, ib i = none → M i = IM.none
  sep : ∀ i j b b', ib i = some b → ib j = some b' → i ≠ j → ∀ x ∈ b.blocks, x ∉ b'.blocks
  apart : ∀ i b, ib i = some b → tb ∉ b.blocks ∧ mi ∉ b.blocks ∧ mw ∉ b.blocks
  ne : mi ≠ mw
  ow : tb ∈ own ∧ mi ∈ own ∧ mw ∈ own ∧ ∀ i b, ib i = some b → ∀ x ∈ b.blocks, x ∈ own
  lt : ∀ x ∈ own, x < w.heap.size
/-- What a table's model always is. -/
structure TOk (W : Int → Option Int) (M : Int → IM) : Prop where
  one : ∀ s i, W s = some i ↔ ∃ al, (s, al) ∈ (M i).Q
  nd : ∀ i, ((M i).Q.map (·.1)).Nodup
  rq : ∀ i, ∀ a ∈ (M i).Q, 1 ≤ a.1 ∧ a.1 ≤ 16
  rh : ∀ i s al, (M i).H s = some al → 1 ≤ s ∧ s ≤ 16
  head : ∀ i a q, (M i).Q = a :: q → ¬ fits (M i).H a
theorem pig : ∀ (n : Nat) (l : List Nat), l.Nodup → (∀ x ∈ l, x < n) → l.length ≤ n
  | 0, l, _, h => by
    cases l with
    | nil => simp
    | cons x l => exact absurd (h x List.mem_cons_self) (by omega)
  | n + 1, l, hn, h => by
    have h1 := pig n (l.erase n) (hn.erase n) (fun x hx => by
      have h2 := (hn.mem_erase_iff).1 hx
      have := h x h2.2
      have := h2.1
      omega)
    rw [List.length_erase] at h1
    split at h1 <;> omega
theorem len16 (l : List Int) (hn : l.Nodup) (h : ∀ s ∈ l, 1 ≤ s ∧ s ≤ 16) : l.length ≤ 16 := by
  have hs : (l.map fun s => (s - 1).toNat).Nodup := List.pairwise_map.2 (hn.imp_of_mem fun ha hb hne e => hne (by have := h _ ha; have := h _ hb; omega))
  have := pig 16 _ hs (fun x hx => by
    obtain ⟨s, hs, rfl⟩ := List.mem_map.1 hx
    have := h s hs
    omega)
  simpa using this
theorem TOk.q16 {W : Int → Option Int} {M : Int → IM} (h : TOk W M) (i : Int) : (M i).Q.length ≤ 16 := by
  have := len16 ((M i).Q.map (·.1)) (h.nd i) (fun s hs => by
    obtain ⟨a, ha, rfl⟩ := List.mem_map.1 hs
    exact h.rq i a ha)
  simpa using this

section
variable {w w' : World} {own : List Nat} {tb mi mw : Nat} {ib : Int → Option IB} {N : Nat} {W : Int → Option Int} {M : Int → IM}

theorem TabAt.fr {F : List Nat} (h : TabAt w own tb mi mw ib N W M) (hf : Fr F w w') (hn : ∀ x ∈ own, x ∉ F) : TabAt w' own tb mi mw ib N W M := by
  obtain ⟨li, g1, g2⟩ := h.items
  obtain ⟨lw, g3, g4⟩ := h.waits
  exact ⟨h.blk.fr hf (hn _ h.ow.1), ⟨li, g1.fr hf (hn _ h.ow.2.1), g2⟩, ⟨lw, g3.fr hf (hn _ h.ow.2.2.1), g4⟩, fun i b hb => (h.it i b hb).fr hf (fun x hx => hn _ (h.ow.2.2.2 i b hb x hx)), h.no, h.sep, h.apart, h.ne, h.ow, fun x hx => Nat.lt_of_lt_of_le (h.lt x hx) hf.size⟩
theorem TabAt.mono {N' : Nat} (h : TabAt w own tb mi mw ib N W M) (hN : N ≤ N') : TabAt w own tb mi mw ib N' W M := by
  obtain ⟨li, g1, g2, g3, g4⟩ := h.items
  exact ⟨h.blk, ⟨li, g1, g2, by omega, g4⟩, h.waits, h.it, h.no, h.sep, h.apart, h.ne, h.ow, h.lt⟩

def setI (ib : Int → Option IB) (i : Int) (b : Option IB) : Int → Option IB := fun j => if j = i then b else ib j
def setM (M : Int → IM) (i : Int) (I : IM) : Int → IM := fun j => if j = i then I else M j
theorem setM_same (M : Int → IM) (i : Int) : setM M i (M i) = M := by
  funext j; unfold setM; split
  · rename_i h; rw [h]
  · rfl

/-- An item turned. -/
theorem TabAt.setItem (h : TabAt w own tb mi mw ib N W M) {i : Int} {b b' : IB} {I' : IM} (hi : ib i = some b) {F : List Nat} (hf : Fr F w w') (hF : ∀ x ∈ F, x ∈ b.blocks) (hx : b'.x = b.x) (hI : At w' b' I') (hb : ∀ x ∈ b'.blocks, x ∈ b.blocks ∨ w.heap.size ≤ x) :
    TabAt w' (own ++ b'.blocks) tb mi mw (setI ib i (some b')) N W (setM M i I') := by
  obtain ⟨li, g1, g2⟩ := h.items
  obtain ⟨lw, g3, g4⟩ := h.waits
  obtain ⟨a1, a2, a3⟩ := h.apart i b hi
  have z := hf.size
  refine ⟨h.blk.fr hf (fun hm => a1 (hF _ hm)), ⟨li, g1.fr hf (fun hm => a2 (hF _ hm)), fun j => ?_, g2.2⟩, ⟨lw, g3.fr hf (fun hm => a3 (hF _ hm)), g4⟩, fun j c hc => ?_, fun j hj => ?_, fun j k c c' hj hk hne x hxc => ?_, fun j c hc => ?_, h.ne, ⟨by simp [h.ow.1], by simp [h.ow.2.1], by simp [h.ow.2.2.1], fun j c hc x hxc => ?_⟩, fun x hx => ?_⟩
  · rw [g2.1]
    unfold setI
    split
    · rename_i e; subst e; rw [hi]; show some (D b.x) = some (D b'.x); rw [hx]
    · rfl
  · unfold setI at hc; unfold setM
    split at hc
    · rename_i e; rw [if_pos e]; injection hc with hc; subst hc; exact hI
    · rename_i e; rw [if_neg e]; exact (h.it j c hc).fr hf (fun x hx hm => h.sep j i c b hc hi e x hx (hF _ hm))
  · unfold setI at hj; unfold setM
    split at hj
    · cases hj
    · rename_i e; rw [if_neg e]; exact h.no j hj
  · unfold setI at hj hk
    have far : ∀ k c, k ≠ i → ib k = some c → ∀ x ∈ b'.blocks, x ∉ c.blocks := fun k c hki hk x hx hxc => by
      rcases hb x hx with h1 | h1
      · exact h.sep i k b c hi hk (Ne.symm hki) x h1 hxc
      · have := h.lt x (h.ow.2.2.2 k c hk x hxc); omega
    split at hj
    · rename_i e; subst e; injection hj with hj; subst hj
      rw [if_neg (Ne.symm hne)] at hk
      exact far k c' (Ne.symm hne) hk x hxc
    · rename_i e
      split at hk
      · rename_i e2; subst e2; injection hk with hk; subst hk
        intro hm
        exact far j c e hj x hm hxc
      · exact h.sep j k c c' hj hk hne x hxc
  · unfold setI at hc
    split at hc
    · injection hc with hc; subst hc
      have lt := h.lt
      refine ⟨fun hm => ?_, fun hm => ?_, fun hm => ?_⟩
      · rcases hb _ hm with h1 | h1
        · exact a1 h1
        · have := lt _ h.ow.1; omega
      · rcases hb _ hm with h1 | h1
        · exact a2 h1
        · have := lt _ h.ow.2.1; omega
      · rcases hb _ hm with h1 | h1
        · exact a3 h1
        · have := lt _ h.ow.2.2.1; omega
    · exact h.apart j c hc
  · unfold setI at hc
    split at hc
    · injection hc with hc; subst hc; exact List.mem_append_right _ hxc
    · exact List.mem_append_left _ (h.ow.2.2.2 j c hc x hxc)
  · rcases List.mem_append.1 hx with hx | hx
    · have := h.lt x hx; omega
    · exact hI.lt x hx

/-- Who waits for what turned. -/
theorem TabAt.setWaits (h : TabAt w own tb mi mw ib N W M) {W' : Int → Option Int} {lw' : List (Int × Value)} (hu : MUpd kenc w w' mw lw') (hl : ∀ s, V.look lw' s = (W' s).map I64) (hr : ∀ p ∈ lw', 1 ≤ p.1 ∧ p.1 ≤ 16) : TabAt w' own tb mi mw ib N W' M := by
  obtain ⟨li, g1, g2⟩ := h.items
  have hf := hu.fr
  refine ⟨h.blk.fr hf (fun hm => map_ne_blk hu.map (h.blk.fr (F := [mw]) hf ?_) (List.mem_singleton.1 hm).symm), ⟨li, g1.fr hf (fun hm => h.ne (List.mem_singleton.1 hm)), g2⟩, ⟨lw', hu.map, hl, hr⟩, fun i b hb => (h.it i b hb).fr hf (fun x hx hm => (h.apart i b hb).2.2 (by rw [← List.mem_singleton.1 hm]; exact hx)), h.no, h.sep, h.apart, h.ne, h.ow, fun x hx => Nat.lt_of_lt_of_le (h.lt x hx) hf.size⟩
  obtain ⟨lw, g3, _⟩ := h.waits
  intro hm'
  exact map_ne_blk g3 h.blk (List.mem_singleton.1 hm').symm
end
end Go.Proofs.Ytnimejocaaekaaa.Lock
