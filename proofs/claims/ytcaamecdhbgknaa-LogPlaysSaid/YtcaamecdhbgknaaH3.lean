/- The reference of the log: wiping. -/
import Derived.Test.YtcaamecdhbgknaaH2
namespace Go.Proofs.Ytcaamecdhbgknaa.Log
open Go Go.V
open Go.Proofs.Ytcaamecdhbgknaa.VC
open Go.Proofs.Ytcaamecdhbgknaa.Disk
open Go.Proofs.Try (prog)
set_option linter.unusedVariables false
set_option linter.unusedSimpArgs false
set_option maxRecDepth 20000

theorem rwipe_c {w : World} {v : Value} {F : List Nat} {M : DM} (h : RefAt w v F M) (hF : ∀ x ∈ F, x < w.heap.size) {aA : Option Addr} {aC : Nat} {l : List Int} (ha : Row w aA (l.map I64)) (hl : l.length ≤ 4096) :
    Calls prog 74 #[v, .slice aA l.length aC] w fun e w' => ∃ v', e = .returned (.tuple #[v', I64 (wipe M l).2]) ∧ Fr [] w w' ∧ RefAt w' v' F (wipe M l).1 := by
  have h0 := h
  obtain ⟨hok, sA, sC, nA, nC, fA, fC, rfl, h1, h2, h3, h4⟩ := h
  refine rhizomeref04_wipe.link fun k1 k2 => ?_
  refine ⟨fun m q p9 k10 k11 p12 k13 k14 p15 k16 k17 n18 n19 w' => ∃ (i : Nat) (M' : DM), q = i ∧ i ≤ l.length ∧ m = l.length - i ∧ Fr [] w w' ∧ (w.heap.size ≤ k1 ∧ k1 < w'.heap.size ∧ w.heap.size ≤ k2 ∧ k2 < w'.heap.size) ∧ RefAt w' (.agg #[.slice p9 k10 k11, .slice p12 k13 k14, .slice p15 k16 k17, I64 n18, I64 n19]) (F ++ [k1, k2]) M' ∧ writes M (l.map fun i => (i, zsec)) = writes M' ((l.drop i).map fun i => (i, zsec)), l.length, fun w5 st => ⟨0, M, rfl, by omega, rfl, st.fr, ?_, ?_, rfl⟩, ?_⟩
  · have := g_new2 st; omega
  · have := g_new2 st
    exact (h0.more (G := [k1, k2]) (fun x hx => by simp at hx; rcases hx with rfl | rfl <;> omega)).fr st.fr (by simp)
  rintro m q p9 k10 k11 p12 k13 k14 p15 k16 k17 n18 n19 w20 ⟨i, M', rfl, hi, rfl, f20, hk, hR, heq⟩
  have z20 := f20.size
  have hFk : ∀ x ∈ F ++ [k1, k2], x < w20.heap.size := fun x hx => by
    rcases List.mem_append.1 hx with hx | hx
    · have := hF x hx; omega
    · simp at hx; omega
  have inF : ∀ x ∈ F, x ∈ F ++ [k1, k2] := fun x hx => List.mem_append_left _ hx
  refine ⟨fun hlt => ?_, fun hge => ?_⟩
  · have hlt : (i : Int) < (l.length : Int) := of_decide_eq_true hlt
    have hil : i < l.length := by omega
    have hdrop : l.drop i = l[i] :: l.drop (i + 1) := List.drop_eq_getElem_cons hil
    have heq' : writes M (l.map fun i => (i, zsec)) = if (M'.write l[i] zsec).2 = 0 then writes (M'.write l[i] zsec).1 ((l.drop (i + 1)).map fun i => (i, zsec)) else M'.write l[i] zsec := by rw [heq, hdrop]; rfl
    refine rd I64 (g_row f20 ha fun ad _ _ => by simp) rfl hil hlt ⟨?_, ?_⟩
    all_goals
      refine ⟨by decide, fun w24 k25 st b24 => ?_⟩
      rw [← zsec_cells] at b24
      obtain ⟨s1, s2⟩ := str_of b24 zsec_size
      have z24 := st.size
      refine ⟨zsec.data.toList, s1, s2, ?_⟩
      rw [mk_str]
      refine (rwrite_c (hR.fr st.fr (by simp)) (fun x hx => by have := hFk x hx; omega) l[i] zsec).mono ?_
      rintro e w33 ⟨v', rfl, f33, hR'⟩
      have z33 := f33.size
      have hR2 := hR'
      obtain ⟨_, sA', sC', nA', nC', fA', fC', rfl, _⟩ := hR'
      have f033 : Fr [] w w33 := (f20.trans' st.fr).trans' f33
      refine ⟨_, _, _, _, _, _, _, _, _, _, _, _, rfl, g_keep f33 (fun x hx => by simp at hx ⊢; omega), fun hc w46 st2 => ?_, fun hc => ⟨l.length - (i + 1), by omega, fun w49 st2 => ⟨i + 1, _, by rw [wrapi (by omega) (by omega)]; simp, by omega, rfl, f033.trans st2.fr (fun x hx => .inr (by simp at hx; omega)), ?_, hR2.fr st2.fr (fun x hx => .inl (by simp at hx ⊢; omega)), ?_⟩⟩⟩
      · have hc : ¬ (M'.write l[i] zsec).2 = 0 := by simpa using hc
        rw [if_neg hc] at heq'
        have hw : wipe M l = M'.write l[i] zsec := by
          unfold wipe; rw [heq', if_neg hc]
        rw [hw]
        exact ⟨_, rfl, f033.trans st2.fr (fun x hx => .inr (by simp at hx; omega)), (hR2.fr st2.fr (fun x hx => .inl (by simp at hx ⊢; omega))).less inF⟩
      · have := st2.size; omega
      · have hc : (M'.write l[i] zsec).2 = 0 := by simpa using hc
        rw [if_pos hc] at heq'
        exact heq'
  · have hge : ¬ (i : Int) < (l.length : Int) := of_decide_eq_false hge
    have hil : i = l.length := by omega
    subst hil
    rw [List.drop_length] at heq
    have heq : writes M (l.map fun i => (i, zsec)) = (M', 0) := heq
    have hw : wipe M l = M'.flush := by
      unfold wipe; rw [heq, if_pos rfl]
    refine (rflush_c hR hFk).mono ?_
    rintro e w79 ⟨v', rfl, f79, hR'⟩
    have hR2 := hR'
    obtain ⟨_, sA', sC', nA', nC', fA', fC', rfl, _⟩ := hR'
    rw [hw]
    refine ⟨_, _, _, _, _, _, _, _, _, _, _, _, rfl, g_keep f79 (fun x hx => by simp at hx ⊢; omega), fun w92 st2 => ⟨_, rfl, (f20.trans' f79).trans st2.fr (fun x hx => .inr (by simp at hx; omega)), (hR2.fr st2.fr (fun x hx => .inl (by simp at hx ⊢; omega))).less inF⟩⟩

end Go.Proofs.Ytcaamecdhbgknaa.Log
