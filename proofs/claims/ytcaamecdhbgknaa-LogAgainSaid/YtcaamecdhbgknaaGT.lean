/- The log, plainly: opening it again, wherever the power goes. -/
import Derived.Test.YtcaamecdhbgknaaGS
namespace Go.Proofs.Ytcaamecdhbgknaa.Log
open Go Go.V
open Go.Proofs.Ytcaamecdhbgknaa.Disk
set_option linter.unusedVariables false
set_option linter.unusedSimpArgs false
set_option maxRecDepth 20000

/-- A dead disk stays as it is. -/
theorem dead_append {M : DM} (hd : M.dead) (L : LM) (d : ByteArray) : (lappend M L d).1 = M ∧ (lappend M L d).2.1 = L := by
  have hw : ∀ i s, (M.write i s).1 = M := fun i s => by
    unfold DM.write
    rw [if_pos hd]
    split <;> rfl
  have hf : M.flush = (M, 30) := by unfold DM.flush; rw [if_pos hd]
  have hws : ∀ l, (writes M l).1 = M := fun l => by
    induction l with
    | nil => rfl
    | cons p l ih =>
      obtain ⟨i, s⟩ := p
      unfold writes
      split
      · rw [hw]; exact ih
      · exact hw i s
  have n30 : ((M, (30 : Int)).2 ≠ 0) := by show (30 : Int) ≠ 0; decide
  unfold lappend
  simp only
  split
  · exact ⟨rfl, rfl⟩
  split
  · exact ⟨rfl, rfl⟩
  rw [hws]
  split
  · exact ⟨rfl, rfl⟩
  rw [hf, if_pos n30]
  exact ⟨rfl, rfl⟩

theorem recAt_head {now now' : List ByteArray} {a H seq : Nat} {d : ByteArray} (he : now'.getD a zsec = now.getD a zsec) (h : recAt now' a H = some (seq, d)) : ∃ d', recAt now a H = some (seq, d') := by
  unfold recAt at h ⊢
  simp only at h ⊢
  rw [he] at h
  split at h
  · rename_i hc
    have h1 := (Prod.mk.inj (Option.some.inj h)).1
    rw [if_pos hc, h1]
    exact ⟨_, rfl⟩
  · exact absurd h (by simp)
theorem stop_head {now now' : List ByteArray} {a H : Nat} {q : Option Nat} (he : now'.getD a zsec = now.getD a zsec) (h : Stop now H a q) : Stop now' H a q := fun seq d hr => by
  obtain ⟨d', h'⟩ := recAt_head he (show recAt now' a H = some (seq, d) from hr)
  exact h seq d' h'
theorem stop_none {now : List ByteArray} {a H : Nat} {q : Option Nat} (h : recAt now a H = none) : Stop now H a q := fun seq d hr => by
  have hr : recAt now a H = some (seq, d) := hr
  rw [h] at hr
  exact absurd hr (by simp)

/-- A disk on which all is sure, with records. -/
structure Calm (M : DM) (L : LM) (rs : RL) : Prop where
  ok : M.Ok
  quiet : ∀ j, M.now.getD j zsec = M.sure.getD j zsec
  after : After M.sure L rs
theorem Calm.crash {M : DM} {L : LM} {rs : RL} (hok : M.Ok) {keep : List Bool} {torn cut : Int} (h : After (M.crash keep torn cut).sure L rs) : Calm (M.crash keep torn cut) L rs := ⟨hok.crash keep torn cut, fun _ => rfl, h⟩
/-- Opened, and crashed wherever it was: the records are the same. -/
theorem open_again {M : DM} {L : LM} {rs : RL} {F H : Nat} (hF : L.first = F) (hH : L.behind = H) (h : Calm M L rs) (hb : ¬ badArea M F ((H : Int) - F)) (hFH : F ≤ H) : (lopen M F ((H : Int) - F)).1.Ok ∧ ∀ keep torn cut, After ((lopen M F ((H : Int) - F)).1.crash keep torn cut).sure L rs := by
  have hn : ∀ S, (∀ j, S.getD j zsec = M.sure.getD j zsec) → After S L rs := fun S hS => ⟨lay_congr (S64_of h.ok.s64) rs h.after.1 (fun i _ _ => hS i), stop_head (hS _) h.after.2⟩
  have hv := ldirty_in hb
  unfold lopen
  rw [if_neg hb]
  split
  · exact ⟨h.ok, fun keep torn cut => hn _ fun j => crash_same (h.quiet j) keep torn cut⟩
  refine ⟨wipe_ok h.ok _, fun keep torn cut => ?_⟩
  obtain ⟨bad, good⟩ := wipe_eff h.ok hv h.quiet
  have e1 : L.first.toNat = F := by omega
  have e2 : L.behind.toNat = H := by omega
  have hA1 := h.after.1
  have hA2 := h.after.2
  rw [e1, e2] at hA1 hA2
  have hscan : lscan M F H = rs := by
    unfold lscan
    have hnow : M.now = M.sure := by
      apply List.ext_getElem?
      intro j
      by_cases hj : j < M.now.length
      · have hj' : j < M.sure.length := by rw [← h.ok.now]; exact hj
        have := h.quiet j
        rw [List.getD_eq_getElem?_getD, List.getD_eq_getElem?_getD, List.getElem?_eq_getElem hj, List.getElem?_eq_getElem hj'] at this
        rw [List.getElem?_eq_getElem hj, List.getElem?_eq_getElem hj']
        exact congrArg some this
      · rw [List.getElem?_eq_none (by omega), List.getElem?_eq_none (by rw [← h.ok.now]; omega)]
    rw [hnow]
    exact scan_of_lay rs hA1 (by omega) hA2
  have hend : lend M F ((H : Int) - F) = endAt F rs := by
    unfold lend
    rw [show ((F : Int)).toNat = F by omega, show ((F : Int) + ((H : Int) - F)).toNat = H by omega, hscan]
  have hnot : ∀ j : Nat, j < endAt F rs → (j : Int) ∉ ldirty M F ((H : Int) - F) := fun j hj hm => by
    unfold ldirty dirtyTo at hm
    rw [hend] at hm
    obtain ⟨i, hi, e⟩ := List.mem_map.1 hm
    omega
  have fin : ∀ S : List ByteArray, (∀ j, j < endAt F rs → S.getD j zsec = M.sure.getD j zsec) → (S.getD (endAt F rs) zsec = M.sure.getD (endAt F rs) zsec ∨ recAt S (endAt F rs) H = none) → After S L rs := fun S h1 h2 => by
    refine ⟨by rw [e1, e2]; exact lay_congr (S64_of h.ok.s64) rs hA1 (fun i _ hi => h1 i hi), ?_⟩
    rw [e1, e2]
    rcases h2 with e | e
    · exact stop_head e hA2
    · exact stop_none e
  by_cases hc : (wipe M (ldirty M F ((H : Int) - F))).2 = 0
  · have g := good hc
    have hS : ∀ j, ((wipe M (ldirty M F ((H : Int) - F))).1.crash keep torn cut).sure.getD j zsec = (wipe M (ldirty M F ((H : Int) - F))).1.sure.getD j zsec := fun j => crash_same (g.quiet j) keep torn cut
    refine fin _ (fun j hj => by rw [hS, g.oth j (hnot j hj)]) ?_
    rw [hS]
    by_cases hm : ((endAt F rs : Nat) : Int) ∈ ldirty M F ((H : Int) - F)
    · right
      exact recAt_zero (by rw [hS, g.all _ hm])
    · left; exact g.oth _ hm
  · obtain ⟨_, b⟩ := bad hc
    refine fin _ (fun j hj => by rw [crash_same (by rw [b.oth j (hnot j hj), b.sure]), b.sure]) ?_
    rcases crash_three (wipe M (ldirty M F ((H : Int) - F))).1 keep torn cut (endAt F rs) with e | e | ⟨c, hc, e⟩
    · rcases b.any (endAt F rs) with e3 | e3
      · left; rw [e, e3]
      · right; exact recAt_zero (by rw [e, e3])
    · left; rw [e, b.sure]
    · rw [b.sure] at e
      rcases b.any (endAt F rs) with e3 | e3
      · rw [e3, tear_same] at e
        left; exact e
      · rw [e3] at e
        by_cases hc0 : c = 0
        · subst hc0
          rw [tear_zero] at e
          left; exact e
        · right; exact tear_none _ _ _ hc0 e

theorem open_again' {M : DM} {L : LM} {rs : RL} {first count : Int} (hF : L.first = first) (hH : L.behind = first + count) (h : Calm M L rs) (hb : ¬ badArea M first count) (h0 : 0 ≤ first) (hc : 0 ≤ count) : (lopen M first count).1.Ok ∧ ∀ keep torn cut, After ((lopen M first count).1.crash keep torn cut).sure L rs := by
  obtain ⟨F, rfl⟩ : ∃ F : Nat, first = F := ⟨first.toNat, by omega⟩
  obtain ⟨H, hH'⟩ : ∃ H : Nat, (F : Int) + count = H := ⟨((F : Int) + count).toNat, by omega⟩
  obtain rfl : count = (H : Int) - F := by omega
  exact open_again hF (by rw [hH]; omega) h hb (by omega)
theorem lopen_n {M : DM} (h : M.Ok) (first count : Int) : (lopen M first count).1.n = M.n := by
  unfold lopen
  split
  · rfl
  split
  · rfl
  · exact wipe_n h _
theorem crash_n (M : DM) (keep : List Bool) (torn cut : Int) : (M.crash keep torn cut).n = M.n := by simp [DM.crash, DM.n]
end Go.Proofs.Ytcaamecdhbgknaa.Log
