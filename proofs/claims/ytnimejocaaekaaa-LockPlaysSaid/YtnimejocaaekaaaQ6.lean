/- The locks: Ask. -/
import Derived.Test.YtnimejocaaekaaaQ5
import Derived.Test.YtnimejocaaekaaaC3
namespace Go.Proofs.Ytnimejocaaekaaa.Lock
open Go Go.V
open Go.Proofs.Ytnimejocaaekaaa.VC
open Go.Proofs.Try (prog)
set_option linter.unusedVariables false
set_option linter.unusedSimpArgs false
set_option maxRecDepth 20000

def setW (W : Int → Option Int) (s : Int) (x : Option Int) : Int → Option Int := fun t => if t = s then x else W t
/-- Where an ask is put. -/
def placeQ (H : Holders) (Q : List AskM) (s : Int) : Nat := if (H s).isSome then (Q.takeWhile fun q => (H q.1).isSome).length else Q.length
def putQ (H : Holders) (Q : List AskM) (a : AskM) : List AskM := Q.take (placeQ H Q a.1) ++ [a] ++ Q.drop (placeQ H Q a.1)
open Classical in
noncomputable def ask (W : Int → Option Int) (M : Int → IM) (s i : Int) (alone : Bool) : (Int → Option Int) × (Int → IM) × Int :=
  if s < 1 ∨ 16 < s then (W, M, 1) else if (W s).isSome = true then (W, M, 171) else
  if ((M i).H s).isSome = true ∧ (((M i).H s).getD false = true ∨ alone = false) then (W, M, 0) else
  if fits (M i).H (s, alone) ∧ (((M i).H s).isSome = true ∨ (M i).Q = []) then (W, setM M i ⟨hold (M i).H (s, alone), (M i).Q⟩, 0) else
  (setW W s (some i), setM M i ⟨(M i).H, putQ (M i).H (M i).Q (s, alone)⟩, 160)
theorem placeQ_le (H : Holders) (Q : List AskM) (s : Int) : placeQ H Q s ≤ Q.length := by
  unfold placeQ
  split
  · exact List.Sublist.length_le (List.takeWhile_sublist _)
  · exact Nat.le_refl _
theorem putQ_len (H : Holders) (Q : List AskM) (a : AskM) : (putQ H Q a).length = Q.length + 1 := by
  have := placeQ_le H Q a.1
  simp only [putQ, List.length_append, List.length_take, List.length_drop, List.length_singleton]
  omega

theorem tw_spec {α : Type} (p : α → Bool) : ∀ (l : List α) (j : Nat) (hj : j < l.length), j ≤ (l.takeWhile p).length → (j < (l.takeWhile p).length ↔ p l[j] = true)
  | a :: l, 0, _, _ => by
    rw [List.takeWhile_cons]
    cases h : p a <;> simp [h]
  | a :: l, j + 1, hj, h => by
    rw [List.takeWhile_cons] at h ⊢
    cases hp : p a with
    | false => rw [hp] at h; simp at h
    | true =>
      rw [hp] at h
      simp only [if_true, List.length_cons] at h ⊢
      have := tw_spec p l j (by simpa using hj) (by omega)
      rw [List.getElem_cons_succ]
      rw [← this]; omega

section
variable {w w' : World} {own : List Nat} {tb mi mw : Nat} {ib : Int → Option IB} {N : Nat} {W : Int → Option Int} {M : Int → IM}

/-- What Ask and Release leave. -/
def Later (w w' : World) (own : List Nat) (tb mi mw N : Nat) (W : Int → Option Int) (M : Int → IM) : Prop :=
  ∃ own' ib', Fr own w w' ∧ (∀ x ∈ own, x ∈ own') ∧ (∀ x ∈ own', x ∈ own ∨ w.heap.size ≤ x) ∧ TabAt w' own' tb mi mw ib' N W M

set_option maxHeartbeats 1000000 in
theorem ask_c (h : TabAt w own tb mi mw ib N W M) (ok : TOk W M) (s : Int) {i : Int} (hr : inR i) (alone : Bool) :
    Calls prog 12 #[D tb, I64 s, I64 i, .bool alone] w fun e w' => e = .returned (I64 (ask W M s i alone).2.2) ∧ Later w w' own tb mi mw (N + 1) (ask W M s i alone).1 (ask W M s i alone).2.1 := by
  refine lock_Table_Ask.link fun y1 hy1 => ?_
  have stay : TabAt w own tb mi mw ib (N + 1) W M := h.mono (by omega)
  have bad : (s < 1 ∨ 16 < s) → y1 true w := fun hs => hy1 _ _ (bT rfl (by
    have : ask W M s i alone = (W, M, 1) := by unfold ask; rw [if_pos hs]
    rw [this]
    exact ⟨rfl, own, ib, Fr.refl _ _, fun x hx => hx, fun x hx => .inl hx, stay⟩))
  suffices good : ¬ (s < 1 ∨ 16 < s) → y1 false w by
    refine bc (fun h1 => bad (.inl (of_decide_eq_true h1))) fun h1 => ?_
    have h1 := of_decide_eq_false h1
    cases h2 : decide ((16 : Int) < s) with
    | true => exact bad (.inr (of_decide_eq_true h2))
    | false => exact good (by have := of_decide_eq_false h2; omega)
  intro hs
  refine hy1 _ _ (bF rfl ?_)
  clear bad hy1
  obtain ⟨lw, gw, n6, b7, hl, hn6, hb7⟩ := waitLook h s
  refine ⟨some mw, h.c1, lw, gw, n6, b7, hl, bc (fun hw => ?_) fun hw => ?_⟩
  · have : ask W M s i alone = (W, M, 171) := by unfold ask; rw [if_neg hs, if_pos (by rw [← hb7]; exact hw)]
    rw [this]
    exact ⟨rfl, own, ib, Fr.refl _ _, fun x hx => hx, fun x hx => .inl hx, stay⟩
  have hWn : ¬ (W s).isSome = true := by rw [← hb7, hw]; decide
  clear stay
  refine (at_c h hr).mono ?_
  rintro e w9 ⟨own1, ib1, b, rfl, hib, T, f9, sub1, new1⟩
  have z9 := f9.size
  have hat := T.it i b hib
  have later : ∀ {w' own' ib' W' M'}, Fr own1 w9 w' → (∀ x ∈ own1, x ∈ own') → (∀ x ∈ own', x ∈ own1 ∨ w9.heap.size ≤ x) → TabAt w' own' tb mi mw ib' (N + 1) W' M' → Later w w' own tb mi mw (N + 1) W' M' := fun f hs hn T' =>
    ⟨_, _, f9.trans f new1, fun x hx => hs x (sub1 x hx), fun x hx => by
      rcases hn x hx with h1 | h1
      · exact new1 x h1
      · right; omega, T'⟩
  refine ⟨_, rfl, fun k11 => ⟨_, rfl, _, hat.c0, b.l, hat.map, _, _, hat.held.lookRel s, fun y17 hy17 => ?_⟩⟩
  have k11n : ∀ w', Step w9 w' [] [k11] → k11 < w'.heap.size ∧ ∀ x ∈ own1, x ≠ k11 := fun w' st => by
    have a := g_new1 st
    exact ⟨a.2, fun x hx => by have := T.lt x hx; omega⟩
  -- it has it
  have has : (((M i).H s).isSome = true ∧ (((M i).H s).getD false = true ∨ alone = false)) → ∀ w', Step w9 w' [] [k11] → y17 true w' := fun hc w' st => hy17 _ _ (bT rfl (by
    have : ask W M s i alone = (W, M, 0) := by unfold ask; rw [if_neg hs, if_neg hWn, if_pos hc]
    rw [this]
    exact ⟨rfl, later (st.fr.mono (fun x hx => by cases hx)) (fun x hx => hx) (fun x hx => .inl hx) (T.fr st.fr (fun x _ => by simp))⟩))
  suffices main : ¬ (((M i).H s).isSome = true ∧ (((M i).H s).getD false = true ∨ alone = false)) → ∀ w', Step w9 w' [] [k11] → y17 false w' by
    refine bc (fun h16 => bc (fun h15 w' st => has ⟨h16, .inl h15⟩ w' st) fun h15 w' st => ?_) fun h16 w' st => main (fun hc => by rw [h16] at hc; exact absurd hc.1 (by decide)) w' st
    cases alone with
    | false => exact has ⟨h16, .inr rfl⟩ w' st
    | true => exact main (fun hc => by rcases hc.2 with h | h; rw [h15] at h; cases h; cases h) w' st
  intro hnc w19 st19
  clear has
  obtain ⟨k11s, k11o⟩ := k11n w19 st19
  refine hy17 _ _ (bF rfl fun y20 hy20 => ?_)
  clear hy17
  have T19 := T.fr st19.fr (fun x _ => by simp)
  have hat19 := T19.it i b hib
  have bown : ∀ x ∈ b.blocks, x ∈ own1 := T19.ow.2.2.2 i b hib
  refine (fit_c hat19.blk hat19.map hat19.held (s, alone)).mono ?_
  rintro e w90 ⟨bf, rfl, hbf, f90⟩
  have z90 := f90.size
  have T90 := T19.fr f90 (fun x _ => by simp)
  have hat90 := T90.it i b hib
  have F90 : Fr own1 w9 w90 := (st19.fr.trans' f90).mono (fun x hx => by cases hx)
  have keep : ∀ {F : List Nat} {u u' : World}, k11 < u.heap.size → (∀ x ∈ F, x ∈ own1) → Fr F u u' → Keep [k11] u u' := fun hk hF f => g_keep f (fun x hx => by simp at hx; subst hx; exact ⟨hk, fun hm => k11o _ (hF _ hm) rfl⟩)
  refine ⟨bf, rfl, keep (F := []) k11s (by simp) f90, ?_⟩
  -- it fits
  have yes : fits (M i).H (s, alone) → (((M i).H s).isSome = true ∨ (M i).Q = []) → y20 true w90 := fun h1 h2 => hy20 _ _ (bT rfl ((hold_c hat90.blk hat90.map hat90.held (s, alone)).mono (by
    rintro e w24 ⟨rfl, f24, l', m24, hh24, _⟩
    have : ask W M s i alone = (W, setM M i ⟨hold (M i).H (s, alone), (M i).Q⟩, 0) := by unfold ask; rw [if_neg hs, if_neg hWn, if_neg hnc, if_pos ⟨h1, h2⟩]
    rw [this]
    have hbx : b.x ∉ [b.h] := fun hm => map_ne_blk hat90.map hat90.blk (List.mem_singleton.1 hm).symm
    have hbp : ∀ ad, b.p = some ad → ad.block ∉ [b.h] := fun ad hp hm => by
      obtain ⟨_, _, _, ⟨h, _⟩ | ⟨bb, ys, zs, h, hb, _⟩⟩ := hat90.own
      · rw [h] at hp; cases hp
      · rw [h] at hp; injection hp with hp; subst hp; exact map_ne_blk hat90.map hb (List.mem_singleton.1 hm).symm
    have I' : At w24 ⟨b.x, b.h, b.p, b.c, l'⟩ ⟨hold (M i).H (s, alone), (M i).Q⟩ := ⟨hat90.blk.fr f24 hbx, m24, hh24, hat90.own.fr f24 hbp, hat90.ne⟩
    have T24 := T90.setItem hib f24 (fun x hx => by rw [List.mem_singleton.1 hx]; simp [IB.blocks]) (b' := ⟨b.x, b.h, b.p, b.c, l'⟩) rfl I' (fun x hx => .inl hx)
    have hbo : ∀ x ∈ (IB.mk b.x b.h b.p b.c l').blocks, x ∈ own1 := fun x hx => bown x hx
    refine ⟨rfl, keep (by omega) (fun x hx => bown x (by rw [List.mem_singleton.1 hx]; simp [IB.blocks])) f24, rfl, later (F90.trans f24 (fun x hx => .inl (bown x (by rw [List.mem_singleton.1 hx]; simp [IB.blocks])))) (fun x hx => List.mem_append_left _ hx) (fun x hx => ?_) T24⟩
    rcases List.mem_append.1 hx with hx | hx
    · exact .inl hx
    · exact .inl (hbo x hx))))
  suffices no : ¬ (fits (M i).H (s, alone) ∧ (((M i).H s).isSome = true ∨ (M i).Q = [])) → y20 false w90 by
    refine bc (fun h1 => bc (fun h2 => yes (hbf.1 h1) (.inl h2)) fun h2 => ⟨_, rfl, _, _, _, hat90.c1, ?_⟩) fun h1 => no (fun hc => by rw [hbf.2 hc.1] at h1; cases h1)
    cases h3 : decide ((((M i).Q.length : Nat) : Int) = 0) with
    | true => exact yes (hbf.1 h1) (.inr (List.length_eq_zero_iff.1 (by have := of_decide_eq_true h3; omega)))
    | false =>
      refine no fun hc => ?_
      rcases hc.2 with h | h
      · rw [h2] at h; cases h
      · rw [h] at h3; simp at h3
  intro hno
  clear yes
  refine hy20 _ _ (bF rfl ⟨_, rfl, _, _, _, hat90.c1, fun y29 hy29 => ?_⟩)
  clear hy20
  have hask : ask W M s i alone = (setW W s (some i), setM M i ⟨(M i).H, putQ (M i).H (M i).Q (s, alone)⟩, 160) := by unfold ask; rw [if_neg hs, if_neg hWn, if_neg hnc, if_neg hno]
  have hq16 := ok.q16 i
  have hple := placeQ_le (M i).H (M i).Q s
  -- it is put
  have put : ∀ (n30 : Int) (w31 : World), n30 = (placeQ (M i).H (M i).Q s : Nat) → Fr [] w90 w31 → y29 n30 w31 := by
    intro n30 w31 hn f31
    subst hn
    have T31 := T90.fr f31 (fun x _ => by simp)
    have hat31 := T31.it i b hib
    have z31 := f31.size
    refine hy29 _ _ ⟨_, rfl, _, _, _, hat31.c1, fun k36 w37 st37 b37 => ?_⟩
    clear hy29
    have a37 := g_new1 st37
    have T37 := T31.fr st37.fr (fun x _ => by simp)
    have hat37 := T37.it i b hib
    refine (insert_c (a := (s, alone)) hat37.own b37 (fun ad hp e => by have := T31.lt _ (bown ad.block (by simp [IB.blocks, hp, pb])); omega) hple (by omega)).mono ?_
    rintro e w41 ⟨p', c', rfl, f41, hp', o41⟩
    have z37 := st37.size
    have z41 := f41.size
    have hxp : b.x ∉ pb b.p := fun hm => by
      obtain ⟨ad, hp, e⟩ := (g_mem_pb _ _).1 hm
      exact hat37.ne ad hp e
    have hhp : b.h ∉ pb b.p := fun hm => by
      obtain ⟨ad, hp, e⟩ := (g_mem_pb _ _).1 hm
      obtain ⟨_, _, _, ⟨h, _⟩ | ⟨bb, ys, zs, h, hb, _⟩⟩ := hat37.own
      · rw [h] at hp; cases hp
      · rw [h] at hp; injection hp with hp; subst hp; exact map_ne_blk hat37.map hb e.symm
    have hbx41 := hat37.blk.fr f41 hxp
    have hpo : ∀ x ∈ pb b.p, x ∈ own1 := fun x hx => bown x (by simp [IB.blocks, hx])
    refine ⟨_, _, _, rfl, keep (by omega) hpo f41, _, rfl, _, by rw [add_mk]; exact hbx41, by rw [add_mk], by rw [add_mk]; simp, by rw [add_mk]; simp; exact fun e => k11o _ (bown b.x (by simp [IB.blocks])) e, fun w47 u47 => ?_⟩
    have u47 : Upd w41 w47 b.x [.map (some b.h), .slice p' ((M i).Q.length + 1) c'] := by rw [add_mk] at u47; exact u47
    have p'x : ∀ ad, p' = some ad → ad.block ≠ b.x := fun ad hp e => by
      rcases hp' ad hp with h1 | h1
      · exact hxp (by rw [← e]; exact h1)
      · have := hat37.blk.lt; omega
    have hxh : b.h ∉ [b.x] := fun hm => map_ne_blk hat37.map hat37.blk (List.mem_singleton.1 hm)
    have I47 : At w47 ⟨b.x, b.h, p', c', b.l⟩ ⟨(M i).H, putQ (M i).H (M i).Q (s, alone)⟩ := by
      refine ⟨?_, (hat37.map.fr f41 hhp).fr u47.fr hxh, hat37.held, ?_, p'x⟩
      · show Blk w47 b.x [.map (some b.h), .slice p' (putQ (M i).H (M i).Q (s, alone)).length c']
        rw [putQ_len]; exact u47.blk
      · show OwnQ w47 p' (putQ (M i).H (M i).Q (s, alone)).length c' (qcells (putQ (M i).H (M i).Q (s, alone)))
        rw [putQ_len]; exact o41.fr u47.fr (fun ad hp hm => p'x ad hp (List.mem_singleton.1 hm))
    have f47 : Fr b.blocks w37 w47 := (f41.mono (G := b.blocks) (fun x hx => .inl (by simp [IB.blocks, hx]))).trans u47.fr (fun x hx => .inl (by rw [List.mem_singleton.1 hx]; simp [IB.blocks]))
    have T47 := T37.setItem hib f47 (fun x hx => hx) (b' := ⟨b.x, b.h, p', c', b.l⟩) rfl I47 (fun x hx => by
      rcases List.mem_cons.1 hx with rfl | hx
      · exact .inl (by simp [IB.blocks])
      rcases List.mem_cons.1 hx with rfl | hx
      · exact .inl (by simp [IB.blocks])
      obtain ⟨ad, hp, rfl⟩ := (g_mem_pb _ _).1 hx
      rcases hp' ad hp with h1 | h1
      · exact .inl (by simp [IB.blocks, h1])
      · exact .inr h1)
    obtain ⟨lw2, g1, g2, g3⟩ := T47.waits
    refine ⟨_, T47.c1, mw, lw2, rfl, g1, fun w52 u52 => ?_⟩
    have T52 := T47.setWaits (W' := setW W s (some i)) u52 (fun t => by
      rw [look_updM]
      unfold setW
      split
      · rfl
      · exact g2 t) (fun p hp => by
      rcases mem_updM hp with rfl | hp
      · exact ⟨by show (1 : Int) ≤ s; omega, by show s ≤ (16 : Int); omega⟩
      · exact g3 p hp)
    rw [hask]
    refine ⟨rfl, later ?_ (fun x hx => List.mem_append_left _ hx) (fun x hx => ?_) T52⟩
    · exact (((F90.trans f31 (fun x hx => by cases hx)).trans st37.fr (fun x hx => by cases hx)).trans f47 (fun x hx => .inl (bown x hx))).trans u52.fr (fun x hx => .inl (by rw [List.mem_singleton.1 hx]; exact T.ow.2.2.1))
    · rcases List.mem_append.1 hx with hx | hx
      · exact .inl hx
      rcases List.mem_cons.1 hx with rfl | hx
      · exact .inl (bown _ (by simp [IB.blocks]))
      rcases List.mem_cons.1 hx with rfl | hx
      · exact .inl (bown _ (by simp [IB.blocks]))
      obtain ⟨ad, hp, rfl⟩ := (g_mem_pb _ _).1 hx
      rcases hp' ad hp with h1 | h1
      · exact .inl (hpo _ h1)
      · right
        have := F90.size
        omega
  clear hy29
  refine bc (fun h16 => ?_) fun h16 => put _ _ (by unfold placeQ; rw [h16]; rfl) (Fr.refl _ _)
  have hpl : placeQ (M i).H (M i).Q s = ((M i).Q.takeWhile fun q => ((M i).H q.1).isSome).length := by unfold placeQ; rw [if_pos h16]
  refine ⟨fun m q w' => ∃ j : Nat, q = j ∧ j ≤ ((M i).Q.takeWhile fun q => ((M i).H q.1).isSome).length ∧ m = (M i).Q.length - j ∧ Fr [] w90 w', (M i).Q.length, ⟨0, rfl, by omega, rfl, Fr.refl _ _⟩, ?_⟩
  rintro m q w60 ⟨j, rfl, hj, rfl, f60⟩ y62 hy62
  have T60 := T90.fr f60 (fun x _ => by simp)
  have hat60 := T60.it i b hib
  have htw : ((M i).Q.takeWhile fun q => ((M i).H q.1).isSome).length ≤ (M i).Q.length := List.Sublist.length_le (List.takeWhile_sublist _)
  refine ⟨_, rfl, _, _, _, hat60.c1, bc (fun hlt => ?_) fun hge w85 st => ?_⟩
  · have hlt : (j : Int) < ((M i).Q.length : Int) := of_decide_eq_true hlt
    have hlt' : j < (M i).Q.length := by omega
    obtain ⟨ad, hp, c0, c1⟩ := qread hat60.own.row hlt'
    have e0 : (j : Int).toNat * 2 = j * 2 := by omega
    refine ⟨_, rfl, _, hat60.c0, _, rfl, _, _, _, hat60.c1, ad, hp, ⟨by omega, hlt⟩, _, by rw [e0]; exact c0, fun w80 st80 => (contains_c (hat60.map.fr st80.fr (by simp)) hat60.held _).mono ?_⟩
    rintro e w83 ⟨rfl, rfl⟩
    have z60 := f60.size
    have z80 := st80.size
    have f80 := f60.trans' st80.fr
    have hspec := tw_spec (fun q : AskM => ((M i).H q.1).isSome) (M i).Q j hlt' hj
    refine ⟨_, rfl, keep (F := []) (by omega) (by simp) (Fr.refl _ _), hy62 _ _ (bc (fun ht => ⟨(M i).Q.length - (j + 1), by omega, j + 1, by rw [wrapi (by omega) (by omega)]; simp, ?_, rfl, f80⟩) fun hf => put _ _ ?_ f80)⟩
    · have := hspec.2 ht; omega
    · rw [hpl]
      have : ¬ j < ((M i).Q.takeWhile fun q => ((M i).H q.1).isSome).length := fun h => by rw [hspec.1 h] at hf; cases hf
      congr 1; omega
  · have hge : ¬ (j : Int) < ((M i).Q.length : Int) := of_decide_eq_false hge
    exact hy62 _ _ (bF rfl (put _ _ (by rw [hpl]; congr 1; omega) (f60.trans' st.fr)))
end
end Go.Proofs.Ytnimejocaaekaaa.Lock
