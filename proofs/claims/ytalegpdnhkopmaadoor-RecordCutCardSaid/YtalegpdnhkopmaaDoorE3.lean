/- The tree in memory. -/
import Derived.Test.YtalegpdnhkopmaaDoorE1
import Derived.Test.YtalegpdnhkopmaaDoorUB
namespace Go.Proofs.YtalegpdnhkopmaaDoor.Tree
open Go Go.V Go.RowKit
open Go.Proofs.YtalegpdnhkopmaaDoor.By
set_option linter.unusedVariables false
set_option linter.unusedSimpArgs false

theorem Blk.mem {w : World} {x : Nat} {cs : List Value} (h : Blk w x cs) {ad : Addr} {u : Value} (hc : w.cell? ad = some u) (hb : ad.block = x) : u ∈ cs := by
  obtain ⟨T, lo, hi, h1, _⟩ := h
  subst hb
  simp only [World.cell?, h1] at hc
  split at hc
  · cases hc
  · simp at hc
    obtain ⟨h2, h3⟩ := List.getElem?_eq_some_iff.1 hc
    rw [← h3]; exact List.getElem_mem h2
/-- What may turn while trees stay: new blocks, and cells that hold one address. -/
def Far (v : World) (F : List Nat) : Prop := ∀ x ∈ F, v.heap.size ≤ x ∨ ∃ q, Blk v x [.pointer q]
theorem Far.nil (v : World) : Far v [] := fun x h => by cases h
theorem cell_blk_lt {w : World} {ad : Addr} {u : Value} (h : w.cell? ad = some u) : ad.block < w.heap.size := by
  rcases Nat.lt_or_ge ad.block w.heap.size with z | z
  · exact z
  · simp [World.cell?, Array.getElem?_eq_none z] at h
theorem Far.row {F : List Nat} {v w : World} (hF : Far v F) (hf : Fr F v w) {p : Option Addr} {s : Bs} (h : Row v p (s.map U8)) : Row w p (s.map U8) := by
  refine row_fr0 hf h fun ad hp hn hb => ?_
  rw [List.length_map] at hn
  have hc := h.get hp (j := 0) (u := U8 s[0]) (by simp [hn])
  rw [add0] at hc
  rcases hF _ hb with hz | ⟨q, hq⟩
  · have := cell_blk_lt hc; omega
  · have := Blk.mem hq hc rfl
    rw [List.mem_singleton] at this
    cases this
/-- A tree in memory; each of its blocks is one of X. -/
def TreeAt (X : Nat → Prop) (w : World) : Tr → Option Addr → Prop
  | .nil, p => p = none
  | .node k v l r, p => ∃ (b : Nat) (kp : Option Addr) (kc : Nat) (vp : Option Addr) (vc : Nat) (pl pr : Option Addr), p = some ⟨b, 0, none⟩ ∧
      Blk w b [.slice kp k.length kc, .slice vp v.length vc, .pointer pl, .pointer pr, .int .i64 ((1 + max l.dep r.dep : Nat) : Int), .int .i64 ((1 + l.cnt + r.cnt : Nat) : Int)] ∧ X b ∧
      (k.length ≤ kc ∧ Row w kp (k.map U8) ∧ ∀ ad, kp = some ad → 0 < k.length → X ad.block) ∧ (v.length ≤ vc ∧ Row w vp (v.map U8) ∧ ∀ ad, vp = some ad → 0 < v.length → X ad.block) ∧ TreeAt X w l pl ∧ TreeAt X w r pr
theorem TreeAt.fr {X : Nat → Prop} : ∀ {T : Tr} {p : Option Addr} {F : List Nat} {v w : World}, TreeAt X v T p → Fr F v w → Far v F → TreeAt X w T p
  | .nil, _, _, _, _, h, _, _ => h
  | .node k x l r, p, F, v, w, ⟨b, kp, kc, vp, vc, pl, pr, hp, hb, hX, ⟨h1, hk, hkX⟩, ⟨h2, hv, hvX⟩, hl, hr⟩, hf, hF => by
    refine ⟨b, kp, kc, vp, vc, pl, pr, hp, hb.fr hf fun hx => ?_, hX, ⟨h1, hF.row hf hk, hkX⟩, ⟨h2, hF.row hf hv, hvX⟩, hl.fr hf hF, hr.fr hf hF⟩
    rcases hF b hx with hz | ⟨q, hq⟩
    · have := hb.lt; omega
    · have := hb.uniq hq; simp at this
/-- What is none of X may turn. -/
theorem TreeAt.off {X : Nat → Prop} : ∀ {T : Tr} {p : Option Addr} {F : List Nat} {v w : World}, TreeAt X v T p → Fr F v w → (∀ x ∈ F, ¬ X x) → TreeAt X w T p
  | .nil, _, _, _, _, h, _, _ => h
  | .node k x l r, p, F, v, w, ⟨b, kp, kc, vp, vc, pl, pr, hp, hb, hX, ⟨h1, hk, hkX⟩, ⟨h2, hv, hvX⟩, hl, hr⟩, hf, hF => by
    refine ⟨b, kp, kc, vp, vc, pl, pr, hp, hb.fr hf fun hx => hF _ hx hX, hX, ⟨h1, row_fr0 hf hk fun ad hp hn hx => ?_, hkX⟩, ⟨h2, row_fr0 hf hv fun ad hp hn hx => ?_, hvX⟩, hl.off hf hF, hr.off hf hF⟩
    · rw [List.length_map] at hn
      exact hF _ hx (hkX ad hp hn)
    · rw [List.length_map] at hn
      exact hF _ hx (hvX ad hp hn)
theorem TreeAt.old {X : Nat → Prop} {T : Tr} {p : Option Addr} {v w : World} (h : TreeAt X v T p) (hf : Fr [] v w) : TreeAt X w T p := h.fr hf (Far.nil v)
theorem row_lt {w : World} {p : Option Addr} {s : Bs} (h : Row w p (s.map U8)) {ad : Addr} (hp : p = some ad) (hn : 0 < s.length) : ad.block < w.heap.size :=
  h.blk_lt (by rw [List.length_map]; exact hn) ad hp
theorem TreeAt.mono {X Y : Nat → Prop} {w : World} (hXY : ∀ b, b < w.heap.size → X b → Y b) : ∀ {T : Tr} {p : Option Addr}, TreeAt X w T p → TreeAt Y w T p
  | .nil, _, h => h
  | .node k x l r, p, ⟨b, kp, kc, vp, vc, pl, pr, hp, hb, hX, ⟨h1, hk, hkX⟩, ⟨h2, hv, hvX⟩, hl, hr⟩ =>
    ⟨b, kp, kc, vp, vc, pl, pr, hp, hb, hXY b hb.lt hX, ⟨h1, hk, fun ad ha hn => hXY _ (row_lt hk ha hn) (hkX ad ha hn)⟩, ⟨h2, hv, fun ad ha hn => hXY _ (row_lt hv ha hn) (hvX ad ha hn)⟩, hl.mono hXY, hr.mono hXY⟩
/-- New blocks are of X. -/
def NewX (X : Nat → Prop) (w : World) : Prop := ∀ b, w.heap.size ≤ b → X b
theorem NewX.old {X : Nat → Prop} {v w : World} {F : List Nat} (h : NewX X v) (f : Fr F v w) : NewX X w := fun b hb => h b (Nat.le_trans f.size hb)
abbrev All : Nat → Prop := fun _ => True
theorem NewX.all (w : World) : NewX All w := fun _ _ => trivial
/-- A tree object in memory. -/
def TObj (w : World) (t : Nat) (L : List KV) : Prop := ∃ p T, Blk w t [.pointer p] ∧ TreeAt All w T p ∧ T.toL = L ∧ Srt L ∧ L.length ≤ 1000000
theorem TObj.fr {w v : World} {t : Nat} {L : List KV} {F : List Nat} (h : TObj v t L) (hf : Fr F v w) (hF : Far v F) (ht : t ∉ F) : TObj w t L := by
  obtain ⟨p, T, hb, hT, h1, h2, h3⟩ := h
  exact ⟨p, T, hb.fr hf ht, hT.fr hf hF, h1, h2, h3⟩
theorem TObj.far {w : World} {t : Nat} {L : List KV} (h : TObj w t L) : ∃ q, Blk w t [.pointer q] := by
  obtain ⟨p, T, hb, _⟩ := h
  exact ⟨p, hb⟩
end Go.Proofs.YtalegpdnhkopmaaDoor.Tree
