/- The locks: what Release does to an item, a table. -/
import Derived.Test.YtnimejocaaekaaaKM
namespace Go.Proofs.Ytnimejocaaekaaa.Lock
open Go Go.V
open Go.Proofs.Ytnimejocaaekaaa.VC
open Go.Proofs.Try (prog)
set_option linter.unusedVariables false
set_option linter.unusedSimpArgs false
set_option maxRecDepth 20000

theorem HeldBy.del {l : List (Int × Value)} {H : Holders} (h : HeldBy l H) (hn : (l.map (·.1)).Nodup) (s : Int) : HeldBy (delM l s) (drop H s) := fun t => by
  rw [look_delM hn]
  unfold drop
  split
  · rfl
  · exact h t
theorem HeldBy.len {l : List (Int × Value)} {H : Holders} (h : HeldBy l H) (hn : (l.map (·.1)).Nodup) (hr : ∀ s al, H s = some al → 1 ≤ s ∧ s ≤ 16) : l.length ≤ 16 := by
  have := len16 (l.map (·.1)) hn (fun s hs => by
    obtain ⟨p, hp, rfl⟩ := List.mem_map.1 hs
    obtain ⟨b, _, hb⟩ := h.mem hn (s := p.1) (x := p.2) hp
    exact hr _ _ hb)
  simpa using this
theorem HeldBy.empty {H : Holders} (h : HeldBy [] H) : H = fun _ => none := by
  funext s
  have e := h s
  cases hs : H s with
  | none => rfl
  | some b => rw [hs] at e; cases e

section
variable {w w' : World} {own : List Nat} {tb mi mw : Nat} {ib : Int → Option IB} {N : Nat} {W : Int → Option Int} {M : Int → IM}

theorem TabAt.reown {own' : List Nat} (h : TabAt w own' tb mi mw ib N W M) (hb : tb ∈ own ∧ mi ∈ own ∧ mw ∈ own ∧ ∀ i b, ib i = some b → ∀ x ∈ b.blocks, x ∈ own) (hl : ∀ x ∈ own, x < w.heap.size) : TabAt w own tb mi mw ib N W M :=
  ⟨h.blk, h.items, h.waits, h.it, h.no, h.sep, h.apart, h.ne, hb, hl⟩
theorem TabAt.item (h : TabAt w own tb mi mw ib N W M) {i : Int} {b b' : IB} {I' : IM} (hi : ib i = some b) {F : List Nat} (hf : Fr F w w') (hF : ∀ x ∈ F, x ∈ b.blocks) (hx : b'.x = b.x) (hI : At w' b' I') (hb : ∀ x ∈ b'.blocks, x ∈ b.blocks) :
    TabAt w' own tb mi mw (setI ib i (some b')) N W (setM M i I') := by
  refine (h.setItem hi hf hF hx hI (fun x hx => .inl (hb x hx))).reown ⟨h.ow.1, h.ow.2.1, h.ow.2.2.1, fun j c hc x hxc => ?_⟩ (fun x hx => by have := h.lt x hx; have := hf.size; omega)
  unfold setI at hc
  split at hc
  · injection hc with hc; subst hc; exact h.ow.2.2.2 i b hi x (hb x hxc)
  · exact h.ow.2.2.2 j c hc x hxc
/-- An item that holds nothing more is given up. -/
theorem TabAt.delItem (h : TabAt w own tb mi mw ib N W M) {i : Int} (hM : M i = IM.none) {li : List (Int × Value)} (hm : MapG kenc w mi li) (hu : MUpd kenc w w' mi (delM li i)) : TabAt w' own tb mi mw (setI ib i none) N W M := by
  obtain ⟨li', g1, g2, g3, g4⟩ := h.items
  obtain rfl : li' = li := by
    obtain ⟨es, ck, e1, e2, _⟩ := g1
    obtain ⟨es', ck', e1', e2', _⟩ := hm
    rw [e1] at e1'; injection e1' with e1'; injection e1' with e3 e4
    subst e3
    rw [e2] at e2'
    refine List.map_inj_right (fun p p' e => ?_) |>.1 e2'
    injection e with e5 e6
    injection e5 with _ e5
    exact Prod.ext e5 e6
  obtain ⟨lw, g5, g6⟩ := h.waits
  have f := hu.fr
  have nmem : ∀ {y : Nat}, y ≠ mi → y ∉ [mi] := fun hy hm => hy (List.mem_singleton.1 hm)
  have tmi : tb ≠ mi := fun e => map_ne_blk g1 (by rw [← e]; exact h.blk) rfl
  have sub : ∀ j c, setI ib i none j = some c → ib j = some c ∧ j ≠ i := fun j c hc => by
    unfold setI at hc
    split at hc
    · cases hc
    · rename_i e; exact ⟨hc, e⟩
  refine ⟨h.blk.fr f (nmem tmi), ⟨_, hu.map, fun j => ?_, by have := len_delM li' i; omega, fun p hp => g4 p (mem_delM hp)⟩, ⟨lw, g5.fr f (nmem (Ne.symm h.ne)), g6⟩, fun j c hc => ?_, fun j hj => ?_, fun j k c c' hj hk => h.sep j k c c' (sub j c hj).1 (sub k c' hk).1, fun j c hc => h.apart j c (sub j c hc).1, h.ne, ⟨h.ow.1, h.ow.2.1, h.ow.2.2.1, fun j c hc => h.ow.2.2.2 j c (sub j c hc).1⟩, fun x hx => by have := h.lt x hx; have := f.size; omega⟩
  · rw [look_delM g1.nodup]
    unfold setI
    split
    · rfl
    · exact g2 j
  · exact (h.it j c (sub j c hc).1).fr f (fun y hy hm => (h.apart j c (sub j c hc).1).2.1 (by rw [← List.mem_singleton.1 hm]; exact hy))
  · unfold setI at hj
    split at hj
    · rename_i e; rw [e]; exact hM
    · exact h.no j hj
end

/-- What is given up, item by item. -/
def inv (M : Int → IM) (s i : Int) : Prop := ((M i).H s).isSome = true ∨ ∃ a ∈ (M i).Q, a.1 = s
open Classical in
noncomputable def relI (M : Int → IM) (s i : Int) : IM × List Int := if inv M s i then rel s (M i) else (M i, [])
noncomputable def outs (M : Int → IM) (s : Int) (K : List Int) : List Int := K.flatMap fun i => (relI M s i).2
open Classical in
/-- Behind the items of K. -/
noncomputable def relM (M : Int → IM) (s : Int) (K : List Int) : Int → IM := fun i => if i ∈ K then (relI M s i).1 else M i
open Classical in
noncomputable def relW (W : Int → Option Int) (s : Int) (out : List Int) : Int → Option Int := fun x => if x = s ∨ x ∈ out then none else W x
theorem relM_nil (M : Int → IM) (s : Int) : relM M s [] = M := by funext i; simp [relM]
theorem outs_snoc (M : Int → IM) (s : Int) (K : List Int) (i : Int) : outs M s (K ++ [i]) = outs M s K ++ (relI M s i).2 := by simp [outs]
theorem relM_snoc (M : Int → IM) (s : Int) (K : List Int) (i : Int) : relM M s (K ++ [i]) = setM (relM M s K) i (relI M s i).1 := by
  funext j
  unfold relM setM
  by_cases hj : j = i
  · subst hj; simp
  · simp [hj]
theorem relW_more (W : Int → Option Int) (s : Int) (out : List Int) (a : Int) : (fun x => if x = a then none else relW W s out x) = relW W s (out ++ [a]) := by
  funext x
  unfold relW
  by_cases hx : x = a
  · subst hx; simp
  · simp [hx]
end Go.Proofs.Ytnimejocaaekaaa.Lock
