/- The locks: an item: fit, hold, contains, stops. -/
import Derived.Test.YtnimejocaaekaaaQM
import Derived.Test.YtnimejocaaekaaaC1
namespace Go.Proofs.Ytnimejocaaekaaa.Lock
open Go Go.V
open Go.Proofs.Ytnimejocaaekaaa.VC
open Go.Proofs.Try (prog)
set_option linter.unusedVariables false
set_option linter.unusedSimpArgs false
set_option maxRecDepth 20000

abbrev I64 (n : Int) : Value := .int .i64 n
abbrev kenc : Int → Value := Value.int .i64
abbrev D (b : Nat) : Value := .pointer (some ⟨b, 0, none⟩)
theorem bF {b : Bool} {p q : Prop} (h : b = false) (hq : q) : bcase b p q := ⟨fun h' => by (rw [h] at h'; cases h'), fun _ => hq⟩
theorem bT {b : Bool} {p q : Prop} (h : b = true) (hp : p) : bcase b p q := ⟨fun _ => hp, fun h' => by (rw [h] at h'; cases h')⟩

/-- What a map of holders holds. -/
def HeldBy (l : List (Int × Value)) (H : Holders) : Prop := ∀ s : Int, V.look l s = (H s).map Value.bool
theorem HeldBy.mem {l : List (Int × Value)} {H : Holders} (h : HeldBy l H) (hn : (l.map (·.1)).Nodup) {s : Int} {x : Value} (hm : (s, x) ∈ l) : ∃ b, x = .bool b ∧ H s = some b := by
  have e := h s
  rw [look_of_mem hn hm] at e
  cases hs : H s with
  | none => rw [hs] at e; cases e
  | some b => rw [hs] at e; injection e with e; exact ⟨b, e, rfl⟩
theorem HeldBy.lookRel {l : List (Int × Value)} {H : Holders} (h : HeldBy l H) (s : Int) : LookRel l s (.bool false) (.bool ((H s).getD false)) (H s).isSome := by
  have e := h s
  cases hs : H s with
  | none => rw [hs] at e; exact .inr ⟨rfl, e, rfl⟩
  | some b => rw [hs] at e; exact .inl ⟨rfl, e⟩
theorem HeldBy.upd {l : List (Int × Value)} {H : Holders} (h : HeldBy l H) (a : AskM) : HeldBy (updM l a.1 (.bool (((H a.1).getD false) || a.2))) (hold H a) := fun s => by
  rw [look_updM]
  unfold hold
  by_cases hs : s = a.1
  · subst hs; rw [if_pos rfl, if_pos rfl]; rfl
  · rw [if_neg hs, if_neg hs]; exact h s

structure ItemAt (w : World) (x hb : Nat) (p : Option Addr) (c : Nat) (l : List (Int × Value)) (I : IM) : Prop where
  blk : Blk w x [.map (some hb), .slice p I.Q.length c]
  map : MapG kenc w hb l
  held : HeldBy l I.H
  own : OwnQ w p I.Q.length c (qcells I.Q)
  ne : ∀ ad, p = some ad → ad.block ≠ x
theorem ItemAt.fr {F : List Nat} {v w : World} {x hb : Nat} {p : Option Addr} {c : Nat} {l : List (Int × Value)} {I : IM} (h : ItemAt v x hb p c l I) (hf : Fr F v w) (h1 : x ∉ F) (h2 : hb ∉ F) (h3 : ∀ ad, p = some ad → ad.block ∉ F) : ItemAt w x hb p c l I :=
  ⟨h.blk.fr hf h1, h.map.fr hf h2, h.held, h.own.fr hf h3, h.ne⟩

theorem contains_c {w : World} {m : Nat} {l : List (Int × Value)} {H : Holders} (h : MapG kenc w m l) (hh : HeldBy l H) (s : Int) : Calls prog 25 #[.map (some m), I64 s] w fun e w' => w' = w ∧ e = .returned (.bool (H s).isSome) :=
  lock_contains.link ⟨l, h, _, _, hh.lookRel s, rfl, rfl⟩

theorem stops_c (w : World) (h : Int) (al : Bool) (a : AskM) : Calls prog 32 #[I64 h, .bool al, .agg #[I64 a.1, .bool a.2]] w fun e w' => e = .returned (.bool (!decide (h = a.1) && (al || a.2))) ∧ Fr [] w w' := by
  refine lock_stops.link fun k1 y2 hy2 => bc (fun h1 => bc (fun h2 w7 st => ?_) fun h2 w9 st => ?_) fun h1 w11 st => ?_
  · exact hy2 _ _ ⟨by rw [h1, h2]; rfl, st.fr⟩
  · exact hy2 _ _ ⟨by rw [h1, h2]; rfl, st.fr⟩
  · exact hy2 _ _ ⟨by rw [h1]; rfl, st.fr⟩

theorem fit_c {w : World} {x hb : Nat} {v2 : Value} {l : List (Int × Value)} {H : Holders} (hblk : Blk w x [.map (some hb), v2]) (hm : MapG kenc w hb l) (hh : HeldBy l H) (a : AskM) :
    Calls prog 23 #[D x, .agg #[I64 a.1, .bool a.2]] w fun e w' => ∃ b, e = .returned (.bool b) ∧ (b = true ↔ fits H a) ∧ Fr [] w w' := by
  refine lock_item_fit.link fun k1 => ⟨some hb, by rw [add_mk, hblk.cell]; rfl, l, hm, fun w4 k5 st4 it4 => ?_⟩
  have n5 := g_new2 st4
  have hxb := hblk.lt
  have hbm := hm.lt
  refine ⟨fun m w' => ∃ done, m = rest l done ∧ Fr [] w w' ∧ IterO kenc w' k5 (some hb) l done ∧ k5 < w'.heap.size ∧ k1 < w'.heap.size ∧ ∀ p ∈ l, p.1 ∈ done → ∀ al, H p.1 = some al → p.1 ≠ a.1 → al = false ∧ a.2 = false, rest l [], ⟨[], rfl, st4.fr, it4, by omega, by omega, fun p _ hp => by cases hp⟩, ?_⟩
  rintro m w11 ⟨done, rfl, f11, it11, z5, z1, hd⟩
  refine ⟨some hb, l, done, it11, fun y hy => ?_, fun n18 b19 hmem hnd w22 is22 it22 cur22 => bT rfl ⟨n18, b19, cur22, (stops_c w22 n18 b19 a).mono ?_⟩, fun hall w35 is35 it35 => bF rfl ⟨true, rfl, ?_, ?_⟩⟩
  · obtain ⟨b, hb1, _⟩ := hh.mem hm.nodup (s := y.1) (x := y.2) hy
    rw [hb1]
    have e : IsT prog 4 (Value.bool b) = ∃ b', Value.bool b' = Value.bool b := by kernel_rfl
    rw [e]; exact ⟨b, rfl⟩
  · rintro e w29 ⟨rfl, f29⟩
    have hz := is22.size
    obtain ⟨b, hb1, hH⟩ := hh.mem hm.nodup hmem
    injection hb1 with hb1; subst hb1
    have F29 : Fr [] w w29 := (f11.trans is22.fr (fun x hx => .inr (by rw [List.mem_singleton.1 hx]; omega))).trans' f29
    refine ⟨_, rfl, g_keep f29 (fun x hx => by simp at hx ⊢; omega), bc (fun hs => ⟨false, rfl, ⟨fun h => (by cases h), fun hf => ?_⟩, F29⟩) fun hs => ?_⟩
    · have := hf n18 b19 hH
      simp at hs
      obtain ⟨h1, h2⟩ := hs
      obtain ⟨h3, h4⟩ := this h1
      rw [h3, h4] at h2; simp at h2
    · refine ⟨rest l (n18 :: done), rest_lt hmem hnd, n18 :: done, rfl, F29, it22.fr f29 (by simp) (fun b _ => by simp), by have := f29.size; omega, by have := f29.size; omega, fun p hp hpd al hal hne => ?_⟩
      rcases List.mem_cons.1 hpd with e | e
      · rw [e] at hal hne
        rw [hH] at hal; injection hal with hal; subst hal
        simpa [hne] using hs
      · exact hd p hp e al hal hne
  · refine ⟨fun _ h al hal hne => ?_, fun _ => rfl⟩
    have := hh h
    rw [hal] at this
    exact hd _ (look_mem this) (hall _ (look_mem this)) al hal hne
  · exact f11.trans is35.fr (fun x hx => .inr (by rw [List.mem_singleton.1 hx]; omega))

theorem hold_c {w : World} {x hb : Nat} {v2 : Value} {l : List (Int × Value)} {H : Holders} (hblk : Blk w x [.map (some hb), v2]) (hm : MapG kenc w hb l) (hh : HeldBy l H) (a : AskM) :
    Calls prog 24 #[D x, .agg #[I64 a.1, .bool a.2]] w fun e w' => e = .returned (.tuple #[]) ∧ Fr [hb] w w' ∧ ∃ l', MapG kenc w' hb l' ∧ HeldBy l' (hold H a) ∧ (∀ p ∈ l', p.1 = a.1 ∨ p ∈ l) := by
  have hbm := hm.lt
  refine lock_item_hold.link fun k1 => ⟨some hb, by rw [add_mk, hblk.cell]; rfl, some hb, by rw [add_mk, hblk.cell]; rfl, l, hm, _, ⟨_, hh.lookRel a.1⟩, ?_⟩
  have hu := hh.upd a
  have mem : ∀ y, ∀ p ∈ updM l a.1 y, p.1 = a.1 ∨ p ∈ l := fun y p hp => by
    rcases mem_updM hp with rfl | hp
    · exact .inl rfl
    · exact .inr hp
  refine bc (fun h w7 st => ⟨hb, l, rfl, hm.fr st.fr (by simp), fun w11 u => ?_⟩) fun h w7 st => ⟨hb, l, rfl, hm.fr st.fr (by simp), fun w11 u => ?_⟩
  · rw [h] at hu
    exact ⟨rfl, (st.fr.mono (fun x hx => by cases hx)).trans u.fr (fun x hx => .inl hx), _, u.map, hu, mem _⟩
  · rw [h] at hu
    exact ⟨rfl, (st.fr.mono (fun x hx => by cases hx)).trans u.fr (fun x hx => .inl hx), _, u.map, hu, mem _⟩
end Go.Proofs.Ytnimejocaaekaaa.Lock
