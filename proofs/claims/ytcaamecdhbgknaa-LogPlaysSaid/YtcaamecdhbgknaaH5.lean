/- The reference of the log: opening. -/
import Derived.Test.YtcaamecdhbgknaaH4
namespace Go.Proofs.Ytcaamecdhbgknaa.Log
open Go Go.V
open Go.Proofs.Ytcaamecdhbgknaa.VC
open Go.Proofs.Ytcaamecdhbgknaa.Disk
open Go.Proofs.Try (prog)
set_option linter.unusedVariables false
set_option linter.unusedSimpArgs false
set_option maxRecDepth 20000

/-- What the reference's Open hands back. -/
structure ROpened (w w' : World) (F : List Nat) (M : DM) (first count : Int) (v' lv : Value) : Prop where
  fr : Fr [] w w'
  ref : RefAt w' v' F (lopen M first count).1
  bad : (lopen M first count).2 ≠ 0 → lv = rlog 0 0 none 0 [] 0
  good : (lopen M first count).2 = 0 → ∃ p c, lv = rlog first count p c ((lscan M first.toNat (first + count).toNat).map fun r => r.2) (nextAt (lscan M first.toNat (first + count).toNat) : Nat) ∧ Row w' p (rrcells ((lscan M first.toNat (first + count).toNat).map fun r => r.2)) ∧ (∀ ad, p = some ad → w.heap.size ≤ ad.block ∧ ad.block < w'.heap.size) ∧ (∀ r ∈ lscan M first.toNat (first + count).toNat, r.2.2.size ≤ 4000) ∧ SOk first.toNat (first + count).toNat (lscan M first.toNat (first + count).toNat)

set_option maxHeartbeats 2000000 in
theorem ropen_c {w : World} {v : Value} {F : List Nat} {M : DM} (h : RefAt w v F M) (hF : ∀ x ∈ F, x < w.heap.size) {first count : Int} (hf2 : first < 9223372036854775808) (hc2 : count < 9223372036854775808) :
    Calls prog 40 #[v, I64 first, I64 count] w fun e w' => ∃ v' lv, e = .returned (.tuple #[v', lv, I64 (lopen M first count).2]) ∧ ROpened w w' F M first count v' lv := by
  have h0 := h
  obtain ⟨hok, sA, sC, nA, nC, fA, fC, rfl, h1, h2, h3, h4⟩ := h
  have hhi := hok.hi
  have hlo := hok.lo
  have hMn : M.n = (M.sure.length : Int) := rfl
  refine rhizomeref04_Open.link fun k1 k2 k3 y4 hy4 => ?_
  have bad : badArea M first count → ∀ w6, Step w w6 [] [k3, k2, k1] → y4 true w6 := fun hb w6 st => hy4 _ _ (bT rfl fun w7 st2 => by
    have a := g_new3 st
    have e : lopen M first count = (M, 1) := by unfold lopen; rw [if_pos hb]
    have f7 : Fr [] w w7 := st.fr.trans st2.fr (fun x hx => .inr (by simp at hx; omega))
    refine ⟨_, _, by rw [e]; rfl, f7, ?_, fun _ => rfl, fun h => ?_⟩
    · rw [e]; exact h0.fr f7 (by simp)
    · rw [e] at h; exact absurd h (show ¬ (1 : Int) = 0 by decide))
  have good : ¬ badArea M first count → ∀ w6, Step w w6 [] [k3, k2, k1] → y4 false w6 := by
    intro hb w6 st6
    refine hy4 _ _ (bF rfl ?_)
    clear hy4 bad
    have hnb : 0 ≤ first ∧ 2 ≤ count ∧ first + count ≤ M.sure.length := by
      have hb' : ¬ (first < 0 ∨ count < 2 ∨ M.n < first ∨ M.n - first < count) := hb
      omega
    obtain ⟨fN, rfl⟩ : ∃ fN : Nat, first = fN := ⟨first.toNat, by omega⟩
    obtain ⟨cN, rfl⟩ : ∃ cN : Nat, count = cN := ⟨count.toNat, by omega⟩
    have e1 : ((fN : Int)).toNat = fN := by omega
    have e2 : ((fN : Int) + (cN : Int)).toNat = fN + cN := by omega
    have hlo' : lopen M (fN : Int) (cN : Int) = if ldirty M (fN : Int) (cN : Int) = [] then (M, 0) else wipe M (ldirty M (fN : Int) (cN : Int)) := by unfold lopen; rw [if_neg hb]
    have hld : ldirty M (fN : Int) (cN : Int) = dirtyTo M (endAt fN (lscan M fN (fN + cN))) (fN + cN - endAt fN (lscan M fN (fN + cN))) := by
      unfold ldirty lend; rw [e1, e2]
    have a6 := g_new3 st6
    have h6 : RefAt w6 (rv sA sC nA nC fA fC M) (F ++ [k1, k2, k3]) M := (h0.more (G := [k1, k2, k3]) (fun x hx => by simp at hx; omega)).fr st6.fr (by simp)
    have hF6 : ∀ x ∈ F ++ [k1, k2, k3], x < w6.heap.size := fun x hx => by
      have := st6.size
      rcases List.mem_append.1 hx with hx | hx
      · have := hF x hx; omega
      · simp at hx; omega
    have hwfc : IntKind.wrap .i64 ((fN : Int) + (cN : Int)) = ((fN + cN : Nat) : Int) := by rw [wrapi (by omega) (by omega)]; simp
    refine (rread_c h6 (first := fN) (count := cN) (by omega)).mono ?_
    generalize hs : lscan M fN (fN + cN) = s at *
    rintro e w10 ⟨p13, c15, rfl, f10, row10, pn, hso, hsz, hre⟩
    have z10 := f10.size
    have so1 := hso.e1
    have so2 := hso.e2
    have so3 := hso.l
    have hml : (s.map fun r => r.2).length = s.length := List.length_map ..
    refine ⟨_, _, _, _, _, _, rfl, g_keep f10 (fun x hx => by simp at hx ⊢; omega), fun k17 w18 st18 => ?_⟩
    have a18 := g_new1 st18
    have z18 := st18.size
    have end_ := rend_c (w := w18) (first := fN) (count := (cN : Int)) (p := p13) (c := c15) (rs := s.map fun r => r.2) (next := (nextAt s : Nat)) (g_row st18.fr row10 (fun ad _ _ => by simp)) (by rw [hre]; omega) (fun r hr => by
      obtain ⟨x, hx, rfl⟩ := List.mem_map.1 hr
      have := hsz x hx; omega) (by rw [hml]; omega)
    rw [hre] at end_
    refine Calls.mono end_ ?_
    clear end_
    rintro e w21 ⟨rfl, f21⟩
    have z21 := f21.size
    refine ⟨_, rfl, g_keep f21 (fun x hx => by simp at hx ⊢; omega), ?_⟩
    refine ⟨fun m p k c n w' => ∃ i : Nat, n = ((endAt fN s + i : Nat) : Int) ∧ endAt fN s + i ≤ fN + cN ∧ m = fN + cN - (endAt fN s + i) ∧ k = (dirtyTo M (endAt fN s) i).length ∧ OwnZ w' w21.heap.size 1 p k c ((dirtyTo M (endAt fN s) i).map I64) ∧ Fr [] w21 w', fN + cN - endAt fN s, ⟨0, rfl, by omega, rfl, rfl, OwnZ.nil _ _ _, Fr.refl _ _⟩, ?_⟩
    rintro m p26 k27 k28 n29 w30 ⟨i, rfl, hi, rfl, rfl, o30, f30⟩
    have z30 := f30.size
    have dl := dirtyTo_len M (endAt fN s) i
    have f1830 := f21.trans' f30
    have f630 : Fr [] w6 w30 := (f10.trans' st18.fr).trans' f1830
    rw [hwfc]
    refine ⟨fun hlt y32 hy32 => ?_, fun hge y55 hy55 => ?_⟩
    · have hlt : ((endAt fN s + i : Nat) : Int) < ((fN + cN : Nat) : Int) := of_decide_eq_true hlt
      have hnl : M.now.length = M.sure.length := hok.now
      have hin : endAt fN s + i < M.now.length := by omega
      have hsn := List.getElem?_eq_getElem hin
      have hgd : M.now.getD (endAt fN s + i) zsec = M.now[endAt fN s + i] := by rw [List.getD_eq_getElem?_getD, hsn]; rfl
      have row30 : Row w30 nA (M.now.map .string) := g_row (st6.fr.trans' f630) h2 (fun ad _ _ => by simp)
      have next : ∀ p c w', OwnZ w' w21.heap.size 1 p (dirtyTo M (endAt fN s) (i + 1)).length c ((dirtyTo M (endAt fN s) (i + 1)).map I64) → Fr [] w21 w' → y32 p (dirtyTo M (endAt fN s) (i + 1)).length c w' := fun p c w' o f =>
        hy32 _ _ _ _ ⟨fN + cN - (endAt fN s + (i + 1)), by omega, i + 1, by rw [wrapi (by omega) (by omega)]; omega, by omega, rfl, rfl, o, f⟩
      clear hy32
      refine rd Value.string row30 rfl hin (by omega) ⟨by decide, fun w42 k43 st42 b42 => ?_⟩
      rw [← zsec_cells] at b42
      obtain ⟨s1, s2⟩ := str_of b42 zsec_size
      refine ⟨zsec.data.toList, s1, s2, ?_⟩
      rw [mk_str]
      have z42 := st42.size
      have o42 := o30.fr st42.fr (fun ad _ => by simp)
      refine ⟨fun hne k50 => ?_, fun heq => ?_⟩
      · have hne : ¬ M.now[endAt fN s + i] = zsec := by simpa using hne
        have ed : dirtyTo M (endAt fN s) (i + 1) = dirtyTo M (endAt fN s) i ++ [((endAt fN s + i : Nat) : Int)] := by rw [dirtyTo_succ, hgd, if_neg hne]
        rw [ed] at next
        rw [List.length_append, List.length_singleton, List.map_append] at next
        refine append_z (xs := [I64 ((endAt fN s + i : Nat) : Int)]) o42 rfl (fun u hu => by rw [List.mem_singleton.1 hu]; rfl) (by omega) rfl (fun h => by cases h) (fun ad _ => by simp) (fun ad hp hm => ?_) (by omega) (by omega) fun w51 p52 c54 f51 n51 o51 d51 => next p52 c54 w51 o51 ?_
        · have := (o42.lt hp).1
          simp at hm ⊢; omega
        · refine (f30.trans' st42.fr).trans f51 (fun x hx => .inr ?_)
          rw [List.nil_append, g_mem_pb] at hx
          obtain ⟨ad, ha, rfl⟩ := hx
          exact (o42.lt ha).1
      · have heq : M.now[endAt fN s + i] = zsec := by simpa using heq
        have ed : dirtyTo M (endAt fN s) (i + 1) = dirtyTo M (endAt fN s) i := by rw [dirtyTo_succ, hgd, if_pos heq]
        rw [ed] at next
        exact next _ _ _ o42 (f30.trans' st42.fr)
    · have hge : ¬ ((endAt fN s + i : Nat) : Int) < ((fN + cN : Nat) : Int) := of_decide_eq_false hge
      have hi' : i = fN + cN - endAt fN s := by omega
      have out : ∀ (sA' : Option Addr) (sC' : Nat) (nA' : Option Addr) (nC' : Nat) (fA' : Option Addr) (fC' : Nat) (M' : DM) (n56 : Int) (w68 : World), lopen M (fN : Int) (cN : Int) = (M', n56) → Fr [] w w68 → w10.heap.size ≤ w68.heap.size → RefAt w68 (rv sA' sC' nA' nC' fA' fC' M') (F ++ [k1, k2, k3]) M' → Row w68 p13 (rrcells (s.map fun r => r.2)) →
          y55 n56 sA' M'.sure.length sC' nA' M'.sure.length nC' fA' M'.sure.length fC' M'.steps M'.left w68 := by
        intro sA' sC' nA' nC' fA' fC' M' n56 w68 hlop f68 z68 hR row68
        have fin : ∀ w71, Step w68 w71 [k3, k2] [] → Fr [] w w71 ∧ RefAt w71 (rv sA' sC' nA' nC' fA' fC' M') F M' ∧ Row w71 p13 (rrcells (s.map fun r => r.2)) := fun w71 st =>
          ⟨f68.trans st.fr (fun x hx => .inr (by simp at hx; omega)), (hR.fr st.fr (fun x hx => .inl (by simp at hx ⊢; omega))).less (fun x hx => List.mem_append_left _ hx), g_row st.fr row68 (fun ad hp _ hm => by have := pn ad hp; simp at hm; omega)⟩
        refine hy55 _ _ _ _ _ _ _ _ _ _ _ _ _ ⟨fun hc w69 st => ?_, fun hc w71 st => ?_⟩
        · have hc : ¬ n56 = 0 := by simpa using hc
          obtain ⟨g1, g2, g3⟩ := fin w69 st
          refine ⟨_, _, by rw [hlop]; rfl, g1, by rw [hlop]; exact g2, fun _ => rfl, fun h => ?_⟩
          rw [hlop] at h; exact absurd h hc
        · have hc : n56 = 0 := by simpa using hc
          subst hc
          obtain ⟨g1, g2, g3⟩ := fin w71 st
          refine ⟨_, _, by rw [hlop], g1, by rw [hlop]; exact g2, fun h => ?_, fun h => ?_⟩
          · rw [hlop] at h; exact absurd rfl h
          · rw [e1, e2, hs]
            exact ⟨p13, c15, rfl, g3, fun ad hp => by have := pn ad hp; have := st6.size; have := st.size; omega, hsz, hso⟩
      clear hy55
      have row30 := g_row ((st18.fr.trans' f1830)) row10 (fun ad _ _ => by simp)
      have h30 := h6.fr f630 (by simp)
      rw [← hi'] at hld
      refine ⟨fun hpos => ?_, fun hz => ?_⟩
      · have hpos : (0 : Int) < (((dirtyTo M (endAt fN s) i).length : Nat) : Int) := of_decide_eq_true hpos
        have hne : ¬ ldirty M (fN : Int) (cN : Int) = [] := fun h => by rw [← hld, h] at hpos; simp at hpos
        rw [if_neg hne, hld] at hlo'
        refine (rwipe_c h30 (fun x hx => by have := hF6 x hx; have := f630.size; omega) (aC := k28) o30.row (by omega)).mono ?_
        rintro e w76 ⟨v', rfl, f76, hR⟩
        have hR2 := hR
        obtain ⟨_, sA', sC', nA', nC', fA', fC', rfl, _⟩ := hR
        have z76 := f76.size
        refine ⟨_, _, _, _, _, _, _, _, _, _, _, _, rfl, g_keep f76 (fun x hx => by simp at hx ⊢; omega), fun w89 st89 => ?_⟩
        exact out _ _ _ _ _ _ _ _ w89 hlo' (((st6.fr.trans' f630).trans' f76).trans st89.fr (fun x hx => .inr (by simp at hx; omega))) (by have := st89.size; omega) (hR2.fr st89.fr (fun x hx => .inl (by simp at hx ⊢; omega))) (g_row st89.fr (g_row f76 row30 (fun ad _ _ => by simp)) (fun ad hp _ hm => by have := pn ad hp; simp at hm; omega))
      · have hz : ¬ (0 : Int) < (((dirtyTo M (endAt fN s) i).length : Nat) : Int) := of_decide_eq_false hz
        have hnil : ldirty M (fN : Int) (cN : Int) = [] := by
          rw [hld]; exact List.length_eq_zero_iff.1 (by omega)
        rw [if_pos hnil] at hlo'
        exact out _ _ _ _ _ _ _ _ w30 hlo' (st6.fr.trans' f630) (by omega) h30 row30
  have hnl : ((M.sure.length : Nat) : Int) = M.n := rfl
  refine ⟨fun hc w93 st => bad (.inl (of_decide_eq_true hc)) w93 st, fun hc1 => ⟨fun hc w95 st => bad (.inr (.inl (of_decide_eq_true hc))) w95 st, fun hc2 => ⟨fun hc w97 st => bad (.inr (.inr (.inl (of_decide_eq_true hc)))) w97 st, fun hc3 w99 st => ?_⟩⟩⟩
  have hc1 := of_decide_eq_false hc1
  have hc2 := of_decide_eq_false hc2
  have hc3 := of_decide_eq_false hc3
  rw [wrapi (by omega) (by omega)]
  cases hq : decide (((M.sure.length : Nat) : Int) - first < count) with
  | true => exact bad (.inr (.inr (.inr (of_decide_eq_true hq)))) w99 st
  | false =>
    have hq := of_decide_eq_false hq
    refine good ?_ w99 st
    rintro (h | h | h | h) <;> omega

end Go.Proofs.Ytcaamecdhbgknaa.Log
