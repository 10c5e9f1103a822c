/- The disk: writing, reading, arming, a new one. -/
import Derived.Test.YtcaamecdhbgknaaU2
import Derived.Test.YtcaamecdhbgknaaD1
namespace Go.Proofs.Ytcaamecdhbgknaa.Disk
open Go Go.V
open Go.Proofs.Ytcaamecdhbgknaa.VC
open Go.Proofs.Try (prog)
set_option linter.unusedVariables false
set_option linter.unusedSimpArgs false

def DM.wrote (M : DM) (i : Nat) (s : ByteArray) : DM := { M.stepped with now := M.now.set i s, fresh := M.fresh.set i true }
def DM.write (M : DM) (i : Int) (s : ByteArray) : DM × Int :=
  if i < 0 ∨ M.n ≤ i ∨ s.size ≠ 64 then (M, 1) else if M.dead then (M, 30) else (M.wrote i.toNat s, 0)

theorem DM.Ok.wrote {M : DM} (h : M.Ok) {i : Nat} {s : ByteArray} (hi : i < M.sure.length) (hs : s.size = 64) : (M.wrote i s).Ok := by
  have h' := h.stepped
  refine ⟨h.lo, h.hi, by show (M.now.set i s).length = _; rw [List.length_set]; exact h.now, by show (M.fresh.set i true).length = _; rw [List.length_set]; exact h.fre, h.s64, fun j t hj => ?_, fun j hj => ?_, h'.lft⟩
  · have hj : (M.now.set i s)[j]? = some t := hj
    rw [List.getElem?_set] at hj
    split at hj
    · split at hj
      · injection hj with hj; subst hj; exact hs
      · cases hj
    · exact h.w64 j t hj
  · have hj : (M.fresh.set i true)[j]? = some false := hj
    rw [List.getElem?_set] at hj
    show (M.now.set i s)[j]? = M.sure[j]?
    rw [List.getElem?_set]
    split at hj
    · split at hj
      · cases hj
      · cases hj
    · rename_i hne
      rw [if_neg hne]; exact h.same j hj

theorem FreshL.wrote {M : DM} (hok : M.Ok) {l : List (Int × Value)} (h : FreshL M.stepped l) {i : Nat} (hi : i < M.sure.length) (s : ByteArray) : FreshL (M.wrote i s) (updM l (i : Int) (sec s)) := by
  obtain ⟨h1, h2, h3⟩ := h
  refine ⟨fun j hj => ?_, fun j hj => ?_, fun p hp => ?_⟩
  · have hj : (M.fresh.set i true)[j]? = some true := hj
    show ∃ t, (M.now.set i s)[j]? = some t ∧ _
    rw [List.getElem?_set] at hj ⊢
    by_cases e : i = j
    · subst e
      rw [if_pos rfl, if_pos (by rw [hok.now]; exact hi), look_updM, if_pos rfl]
      exact ⟨s, rfl, rfl⟩
    · rw [if_neg e] at hj ⊢
      obtain ⟨t, ht, hl⟩ := h1 j hj
      exact ⟨t, ht, by rw [look_updM, if_neg (by omega)]; exact hl⟩
  · have hj : (M.fresh.set i true)[j]? = some false := hj
    rw [List.getElem?_set] at hj
    by_cases e : i = j
    · rw [if_pos e] at hj; split at hj <;> cases hj
    · rw [if_neg e] at hj
      rw [look_updM, if_neg (by omega)]; exact h2 j hj
  · rcases mem_updM hp with rfl | hp
    · exact ⟨by simp, by show (i : Int) < (M.sure.length : Int); omega⟩
    · exact h3 p hp

theorem write_c {w : World} {b ms mf : Nat} {M : DM} (h : DiskAt w b ms mf M) (i : Int) {bA : Option Addr} {bC : Nat} {s : ByteArray} (hr : Row w bA (byteCells s)) (hd : ∀ ad, bA = some ad → ad.block ∉ [b, ms, mf]) :
    Calls prog 23 #[D b, I64 i, .slice bA s.size bC] w fun e w' => e = .returned (I64 (M.write i s).2) ∧ Fr [b, ms, mf] w w' ∧ DiskAt w' b ms mf (M.write i s).1 := by
  refine disk_Disk_Write.link fun y hy => (none_c h i).mono ?_
  rintro e w2 ⟨rfl, rfl⟩
  refine ⟨_, rfl, fun hb => hy _ _ ⟨fun _ => ?_, fun h => (Bool.noConfusion h)⟩, fun hb => hy _ _ ⟨fun h2 => ?_, fun h2 => ?_⟩⟩
  · have hb := of_decide_eq_true hb
    have : DM.write M i s = (M, 1) := by unfold DM.write; rw [if_pos (by rcases hb with h | h; exact .inl h; exact .inr (.inl h))]
    rw [this]; exact ⟨rfl, Fr.refl _ _, h⟩
  · have h2 : ¬ (s.size : Int) = 64 := by simpa using h2
    have : DM.write M i s = (M, 1) := by unfold DM.write; rw [if_pos (.inr (.inr (by omega)))]
    rw [this]; exact ⟨rfl, Fr.refl _ _, h⟩
  · have h2 : (s.size : Int) = 64 := by simpa using h2
    have h2 : s.size = 64 := by omega
    have hb := of_decide_eq_false hb
    have hi0 : ¬ i < 0 := fun h => hb (.inl h)
    have hin : ¬ M.n ≤ i := fun h => hb (.inr h)
    have hc : ¬ (i < 0 ∨ M.n ≤ i ∨ s.size ≠ 64) := by rintro (h | h | h); exact hi0 h; exact hin h; exact h h2
    refine (step_c h).mono ?_
    rintro e w5 ⟨hdead, hlive⟩
    by_cases hdd : M.dead
    · obtain ⟨rfl, rfl⟩ := hdead hdd
      have : DM.write M i s = (M, 30) := by unfold DM.write; rw [if_neg hc, if_pos hdd]
      refine ⟨_, rfl, fun y7 hy7 => ⟨fun h => by simp at h, fun _ => hy7 _ ?_⟩⟩
      rw [this]; exact ⟨rfl, Fr.refl _ _, h⟩
    · obtain ⟨rfl, hf, hD⟩ := hlive hdd
      have hM : DM.write M i s = (M.wrote i.toNat s, 0) := by unfold DM.write; rw [if_neg hc, if_neg hdd]
      refine ⟨_, rfl, fun y7 hy7 => ⟨fun _ => ?_, fun h => by simp at h⟩⟩
      obtain ⟨lf, hbk, hl⟩ := hD.blk
      obtain ⟨l1, g1, s1⟩ := hD.sure
      obtain ⟨l2, g2, s2⟩ := hD.fresh
      have hlen : (byteCells s).length = 64 := by rw [byteCells_length, h2]
      obtain ⟨ad, had⟩ := hr.has (by omega)
      have hr5 : Row w5 bA (byteCells s) := Row.fr hf hr fun ad hp hm => hd ad hp (by simp at hm ⊢; exact .inl hm)
      refine ⟨_, hbk.cell 2, by omega, ad, by rw [had], byteCells s, hlen, fun k hk => ?_, fun w16 hst => ⟨_, l2, rfl, g2.fr hst.fr (by simp), fun w20 hm => hy7 _ ?_⟩⟩
      · have hk' : k < (byteCells s).length := by omega
        rw [hr5.get had (List.getElem?_eq_getElem hk'), List.getElem?_eq_getElem hk']
      · rw [hM]
        have hi1 : i.toNat < M.sure.length := by
          have : i < (M.sure.length : Int) := by
            have : ¬ (M.sure.length : Int) ≤ i := hin
            omega
          omega
        have hit : (i.toNat : Int) = i := by omega
        have hf20 : Fr [mf] w5 w20 := (hst.fr.mono (G := [mf]) (fun x hx => by cases hx)).trans' hm.fr
        have hsub : ∀ x ∈ [mf], x ∈ [b, ms, mf] ∨ w2.heap.size ≤ x := fun x hx => .inl (by simp at hx; subst hx; simp)
        obtain ⟨n1, n2, _⟩ := h.bs
        refine ⟨rfl, (hf.mono (G := [b, ms, mf]) (fun x hx => .inl (by simp at hx; subst hx; simp))).trans hf20 hsub, h.ok.wrote hi1 h2, h.ne, ⟨lf, hbk.fr hf20 (by simpa using n2.symm), hl⟩, ⟨l1, g1.fr hf20 (by simpa using h.ne), s1⟩, ⟨_, hm.map, ?_⟩⟩
        have := s2.wrote h.ok hi1 s
        rw [hit] at this
        exact this

end Go.Proofs.Ytcaamecdhbgknaa.Disk
