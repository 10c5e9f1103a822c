/- The locks: Release. -/
import Derived.Test.YtnimejocaaekaaaQ7
namespace Go.Proofs.Ytnimejocaaekaaa.Lock
open Go Go.V
open Go.Proofs.Ytnimejocaaekaaa.VC
open Go.Proofs.Try (prog)
set_option linter.unusedVariables false
set_option linter.unusedSimpArgs false
set_option maxRecDepth 20000

theorem grant_len : ∀ (q : List AskM) (H : Holders), (grant H q).2.length ≤ q.length
  | [], H => Nat.le_refl _
  | a :: q, H => by
    unfold grant
    split
    · have := grant_len q (hold H a)
      simp only [List.length_cons]; omega
    · simp
theorem relI_len {W : Int → Option Int} {M : Int → IM} (ok : TOk W M) (s i : Int) : (relI M s i).2.length ≤ 16 := by
  have := ok.q16 i
  unfold relI
  split
  · unfold rel
    have h1 := grant_len ((M i).Q.filter fun a => !decide (a.1 = s)) (drop (M i).H s)
    have h2 := List.length_filter_le (fun a : AskM => !decide (a.1 = s)) (M i).Q
    omega
  · simp
theorem outs_len {W : Int → Option Int} {M : Int → IM} (ok : TOk W M) (s : Int) : ∀ K : List Int, (outs M s K).length ≤ 16 * K.length
  | [] => by simp [outs]
  | i :: K => by
    have h1 := relI_len ok s i
    have h2 := outs_len ok s K
    show ((relI M s i).2 ++ outs M s K).length ≤ _
    rw [List.length_append, List.length_cons]; omega
theorem pb_subA {p : Option Addr} {a b c : Nat} : ∀ x ∈ pb (subA p a b c), x ∈ pb p := fun x hx => by
  unfold subA at hx
  split at hx
  · exact hx
  · cases p with
    | none => exact hx
    | some ad => simpa [pb, add_block] using hx
theorem At.hx {w : World} {b : IB} {I : IM} (h : At w b I) : b.x ≠ b.h ∧ b.x ∉ pb b.p ∧ b.h ∉ pb b.p := by
  refine ⟨fun e => map_ne_blk h.map h.blk e.symm, fun hm => ?_, fun hm => ?_⟩
  · obtain ⟨ad, hp, e⟩ := (g_mem_pb _ _).1 hm
    exact h.ne ad hp e
  · obtain ⟨ad, hp, e⟩ := (g_mem_pb _ _).1 hm
    obtain ⟨_, _, _, ⟨h', _⟩ | ⟨bb, ys, zs, h', hb, _⟩⟩ := h.own
    · rw [h'] at hp; cases hp
    · rw [h'] at hp; injection hp with hp; subst hp; exact map_ne_blk h.map hb e.symm
theorem K_lt {l : List Int} (hn : l.Nodup) : (sortI l).Pairwise (· < ·) := by
  have p1 : (sortI l).Pairwise (fun a b => decide (a ≤ b) = true) := List.pairwise_mergeSort (fun a b c h1 h2 => by simp at h1 h2 ⊢; omega) (fun a b => by simp; omega) l
  have p2 : (sortI l).Pairwise (fun a b => a ≠ b) := (sortI_perm l).nodup_iff.2 hn
  exact (p1.and p2).imp (fun h => by have h1 := h.1; have h2 := h.2; simp at h1; omega)

set_option maxHeartbeats 4000000 in
theorem release_c {w : World} {own : List Nat} {tb mi mw : Nat} {ib : Int → Option IB} {N : Nat} {W : Int → Option Int} {M : Int → IM} (h : TabAt w own tb mi mw ib N W M) (ok : TOk W M) (hN : N ≤ 1000000) (s : Int) :
    Calls prog 13 #[D tb, I64 s] w fun e w' => ((s < 1 ∨ 16 < s) ∧ e = .returned (.tuple #[.slice none 0 0, I64 1]) ∧ Fr [] w w') ∨
      (¬ (s < 1 ∨ 16 < s) ∧ ∃ p c K ib', e = .returned (.tuple #[.slice p (outs M s K).length c, I64 0]) ∧ K.Pairwise (· < ·) ∧ (∀ i, inv M s i → i ∈ K) ∧ Fr own w w' ∧ Row w' p ((outs M s K).map I64) ∧ (∀ ad, p = some ad → w.heap.size ≤ ad.block) ∧ TabAt w' own tb mi mw ib' N (relW W s (outs M s K)) (relM M s K)) := by
  refine lock_Table_Release.link fun k1 y2 hy2 => ?_
  have bad : (s < 1 ∨ 16 < s) → ∀ w', Step w w' [] [k1] → y2 true w' := fun hs w' st => hy2 _ _ (bT rfl (.inl ⟨hs, rfl, st.fr⟩))
  suffices main : ¬ (s < 1 ∨ 16 < s) → ∀ w4, Step w w4 [] [k1] → y2 false w4 by
    refine bc (fun h1 w' st => bad (.inl (of_decide_eq_true h1)) w' st) fun h1 w' st => ?_
    have h1 := of_decide_eq_false h1
    cases h2 : decide ((16 : Int) < s) with
    | true => exact bad (.inr (of_decide_eq_true h2)) w' st
    | false => exact main (by have := of_decide_eq_false h2; omega) w' st
  clear bad
  intro hs w4 st4
  have n1 := g_new1 st4
  have T4 := h.fr st4.fr (fun x _ => by simp)
  refine hy2 _ _ (bF rfl ⟨some mw, T4.c1, fun w6 st6 => ?_⟩)
  clear hy2
  have T6 := T4.fr st6.fr (fun x _ => by simp)
  obtain ⟨lw, gw, gl, gr⟩ := T6.waits
  refine ⟨mw, lw, rfl, gw, fun w10 u10 => ?_⟩
  have T10 := T6.setWaits (W' := relW W s []) u10 (fun t => by
    rw [look_delM gw.nodup]
    unfold relW
    by_cases ht : t = s
    · simp [ht]
    · simp [ht]; exact gl t) (fun p hp => gr p (mem_delM hp))
  have z6 := st6.size
  have z10 := u10.size
  have F10 : Fr own w w10 := ((st4.fr.trans' st6.fr).mono (fun x hx => by cases hx)).trans u10.fr (fun x hx => .inl (by rw [List.mem_singleton.1 hx]; exact h.ow.2.2.1))
  obtain ⟨li, g1, g2, g3, g4⟩ := T10.items
  refine ⟨some mi, T10.c0, (keysI_c g1 g4 (by omega)).mono ?_⟩
  rintro e w14 ⟨x, rfl, f14, hc⟩
  refine ⟨x, rfl, g_keep f14 (fun y hy => by simp at hy; subst hy; exact ⟨by omega, by simp⟩), hc.mono ?_⟩
  rintro e w17 ⟨p18, c20, rfl, f17, row17, pn17⟩
  refine ⟨_, _, _, rfl, fun y hy => by
    simp at hy; subst hy
    rw [f17.blk _ (by omega) (by simp), f14.blk _ (by omega) (by simp)], fun b17 => ?_⟩
  generalize hKe : sortI (li.map (·.1)) = K at row17
  have hKl : K.length = li.length := by rw [← hKe, (sortI_perm _).length_eq, List.length_map]
  have hKlt : K.Pairwise (· < ·) := by rw [← hKe]; exact K_lt g1.nodup
  have hKnd : K.Nodup := hKlt.imp (fun h e => by omega)
  have hKm : ∀ i, i ∈ K ↔ (ib i).isSome = true := fun i => by
    rw [← hKe, (sortI_perm _).mem_iff]
    have := g2 i
    constructor
    · intro hi
      obtain ⟨p, hp, rfl⟩ := List.mem_map.1 hi
      rw [look_of_mem g1.nodup (k := p.1) (x := p.2) hp] at this
      cases hb : ib p.1 with
      | none => rw [hb] at this; cases this
      | some b => rfl
    · intro hi
      cases hb : ib i with
      | none => rw [hb] at hi; cases hi
      | some b => rw [hb] at this; exact List.mem_map.2 ⟨_, look_mem this, rfl⟩
  have hinv : ∀ i, inv M s i → i ∈ K := fun i hi => by
    rw [hKm]
    cases hb : ib i with
    | some b => rfl
    | none =>
      unfold inv at hi
      rw [h.no i hb] at hi
      rcases hi with hi | ⟨a, ha, _⟩
      · cases hi
      · cases ha
  have z17 := f17.size
  have T17 := T10.fr f17 (fun x _ => by simp)
  have F17 : Fr own w w17 := F10.trans f17 (fun x hx => by cases hx)
  have ownlt : ∀ x ∈ own, x < w.heap.size := h.lt
  have z17w : w.heap.size ≤ w17.heap.size := F17.size
  rw [← hKl]
  refine ⟨fun m p25 k26 k27 n w' => ∃ (j : Nat) (ib' : Int → Option IB), n = j ∧ j ≤ K.length ∧ m = K.length - j ∧ k26 = (outs M s (K.take j)).length ∧ OwnZ w' w17.heap.size 1 p25 k26 k27 ((outs M s (K.take j)).map I64) ∧ Fr own w17 w' ∧ TabAt w' own tb mi mw ib' N (relW W s (outs M s (K.take j))) (relM M s (K.take j)) ∧ ∀ i ∈ K.drop j, (ib' i).isSome = true, K.length, ⟨0, ib, rfl, by omega, rfl, rfl, OwnZ.nil _ _ _, Fr.refl _ _, by
    rw [List.take_zero, relM_nil]; exact T17, fun i hi => (hKm i).1 hi⟩, ?_⟩
  rintro m p25 k26 k27 n28 w29 ⟨j, ib', rfl, hj, rfl, rfl, o29, f29, T29, hsome⟩
  refine bc (fun hlt => ?_) fun hge => ?_
  rotate_left
  · have hge : ¬ (j : Int) < (K.length : Int) := of_decide_eq_false hge
    rw [List.take_of_length_le (by omega)] at o29 T29 ⊢
    exact .inr ⟨hs, p25, k27, K, ib', rfl, hKlt, hinv, F17.trans f29 (fun x hx => .inl hx), o29.row, fun ad hp => by have := (o29.lt hp).1; omega, T29⟩
  have hlt : (j : Int) < (K.length : Int) := of_decide_eq_true hlt
  have hlt' : j < K.length := by omega
  intro y31 hy31
  have hK1 : K.take (j + 1) = K.take j ++ [K[j]] := by rw [List.take_add_one, List.getElem?_eq_getElem hlt']; rfl
  have hKd : K.drop j = K[j] :: K.drop (j + 1) := List.drop_eq_getElem_cons hlt'
  have hnot : K[j] ∉ K.take j := fun hm => by
    have := hKnd
    rw [← List.take_append_drop j K, hKd] at this
    exact (List.nodup_append.1 this).2.2 _ hm _ List.mem_cons_self rfl
  have hnot2 : K[j] ∉ K.drop (j + 1) := fun hm => by
    have := hKnd
    rw [← List.take_append_drop j K, hKd] at this
    exact (List.nodup_cons.1 (List.nodup_append.1 this).2.1).1 hm
  have hMi : relM M s (K.take j) K[j] = M K[j] := by unfold relM; rw [if_neg hnot]
  have hobs := hsome K[j] (by rw [hKd]; exact List.mem_cons_self)
  have hsome' : ∀ i ∈ K.drop (j + 1), (ib' i).isSome = true ∧ i ≠ K[j] := fun i hi => ⟨hsome i (by rw [hKd]; exact List.mem_cons_of_mem _ hi), fun e => hnot2 (by rw [← e]; exact hi)⟩
  obtain ⟨b, hb⟩ := Option.isSome_iff_exists.1 hobs
  have next : ∀ (p : Option Addr) (c : Nat) (w' : World) (ib2 : Int → Option IB), OwnZ w' w17.heap.size 1 p (outs M s (K.take (j + 1))).length c ((outs M s (K.take (j + 1))).map I64) → Fr own w17 w' → TabAt w' own tb mi mw ib2 N (relW W s (outs M s (K.take (j + 1)))) (relM M s (K.take (j + 1))) → (∀ i ∈ K.drop (j + 1), (ib2 i).isSome = true) → y31 p (outs M s (K.take (j + 1))).length c w' := fun p c w' ib2 o f T hso =>
    hy31 _ _ _ _ ⟨K.length - (j + 1), by omega, j + 1, ib2, by rw [wrapi (by omega) (by omega)]; omega, by omega, rfl, rfl, o, f, T, hso⟩
  clear hy31 hsome hobs
  have hol := outs_len ok s (K.take j)
  rw [List.length_take] at hol
  have hrl := relI_len ok s K[j]
  have hk1o : ∀ x ∈ own, x ≠ k1 := fun x hx => by have := ownlt x hx; omega
  have cellk : ∀ w', Fr own w17 w' → w'.cell? ⟨k1, 0, none⟩ = some (I64 s) := fun w' f => by
    rw [(b17.fr f (fun hm => hk1o _ hm rfl)).cell]; rfl
  have rowK : Row w29 p18 (K.map kenc) := g_row f29 row17 (fun ad hp _ hm => by have := pn17 ad hp; have := ownlt _ hm; have := F10.size; omega)
  generalize hie : K[j] = i at *
  refine rd kenc rowK rfl hlt' hlt ?_
  rw [hie]
  have hat := T29.it i b hb
  rw [hMi] at hat
  obtain ⟨li2, gl2, p43, bb, hl2, hp43⟩ := tabLook T29 i
  rw [hb] at hp43
  have hp43 : p43 = some ⟨b.x, 0, none⟩ := hp43
  subst hp43
  have hq16 := ok.q16 i
  refine ⟨some mi, T29.c0, li2, gl2, _, ⟨bb, hl2⟩, fun y45 hy45 => ?_⟩
  have skip : ¬ inv M s i → ∀ w', Fr [] w29 w' → y45 true w' := fun hni w' f => by
    have hr : relI M s i = (M i, []) := by unfold relI; rw [if_neg hni]
    have ho1 : outs M s (K.take (j + 1)) = outs M s (K.take j) := by rw [hK1, outs_snoc, hr, List.append_nil]
    have hm1 : relM M s (K.take (j + 1)) = relM M s (K.take j) := by
      rw [hK1, relM_snoc, hr]
      show setM _ i (M i) = _
      rw [← hMi, setM_same]
    have := next p25 k27 w' ib'
    rw [ho1, hm1] at this
    exact hy45 _ _ (bT rfl (this (o29.fr f (fun ad _ => by simp)) (f29.trans f (fun x hx => by cases hx)) (T29.fr f (fun x _ => by simp)) (fun t ht => (hsome' t ht).1)))
  suffices work : inv M s i → ∀ w', Fr [] w29 w' → y45 false w' by
    clear next
    refine ⟨_, rfl, _, hat.c0, s, cellk _ f29, fun w151 st151 => (contains_c (hat.map.fr st151.fr (by simp)) hat.held s).mono ?_⟩
    rintro e w154 ⟨rfl, rfl⟩
    have hat2 := hat.fr st151.fr (fun x _ => by simp)
    refine ⟨_, rfl, bc (fun hn => ⟨_, rfl, _, _, _, hat2.c1, (containsF_c hat2.own.row (by omega) (cellk _ (f29.trans st151.fr (fun x hx => by cases hx)))).mono ?_⟩) fun hy => work (.inl (by simpa using hy)) _ st151.fr⟩
    rintro e w161 ⟨b162, rfl, f161, h162⟩
    refine ⟨_, rfl, ?_⟩
    cases b162 with
    | true => exact work (.inr (h162.1 rfl)) _ (st151.fr.trans' f161)
    | false =>
      refine skip (fun hi => ?_) _ (st151.fr.trans' f161)
      rcases hi with hi | hi
      · rw [hi] at hn; cases hn
      · have := h162.2 hi; cases this
  clear skip
  intro hi w47 f47
  refine hy45 _ _ (bF rfl ?_)
  clear hy45
  have hrel : relI M s i = grant (drop (M i).H s) ((M i).Q.filter fun a => !decide (a.1 = s)) := by unfold relI; rw [if_pos hi]; rfl
  have hat47 := hat.fr f47 (fun x _ => by simp)
  have T47 := T29.fr f47 (fun x _ => by simp)
  have F47 : Fr own w17 w47 := f29.trans f47 (fun x hx => by cases hx)
  have bown := T29.ow.2.2.2 i b hb
  refine ⟨_, rfl, _, hat47.c0, s, cellk _ F47, fun w51 st51 => ?_⟩
  have hat51 := hat47.fr st51.fr (fun x _ => by simp)
  have T51 := T47.fr st51.fr (fun x _ => by simp)
  have F51 : Fr own w17 w51 := F47.trans st51.fr (fun x hx => by cases hx)
  obtain ⟨hx1, hx2, hx3⟩ := hat51.hx
  refine ⟨b.h, b.l, rfl, hat51.map, fun w55 u55 => ?_⟩
  have inb : b.h ∈ own := bown _ (by simp [IB.blocks])
  have F55 : Fr own w17 w55 := F51.trans u55.fr (fun x hx => .inl (by rw [List.mem_singleton.1 hx]; exact inb))
  have xnh : b.x ∉ [b.h] := fun hm => hx1 (List.mem_singleton.1 hm)
  have blk55 := hat51.blk.fr u55.fr xnh
  have own55 := hat51.own.fr u55.fr (fun ad hp hm => hx3 ((g_mem_pb _ _).2 ⟨ad, hp, List.mem_singleton.1 hm⟩))
  refine ⟨_, rfl, _, _, _, by rw [add_mk, blk55.cell]; rfl, (delete_c own55 (by omega) (cellk _ F55) (fun ad hp e => hk1o ad.block (bown _ (by simp [IB.blocks, hp, pb])) e.symm)).mono ?_⟩
  rintro e w62 ⟨p', c', rfl, f62, hpb, o62⟩
  have blk62 := blk55.fr f62 hx2
  have pown : ∀ x ∈ pb b.p, x ∈ own := fun x hx => bown x (by simp [IB.blocks, hx])
  refine ⟨_, _, _, rfl, _, rfl, _, by rw [add_mk]; exact blk62, by rw [add_mk], by rw [add_mk]; simp, fun w68 u68 => ?_⟩
  have u68 : Upd w62 w68 b.x [.map (some b.h), .slice p' ((M i).Q.filter fun a => !decide (a.1 = s)).length c'] := by rw [add_mk] at u68; exact u68
  generalize hQ1 : (M i).Q.filter (fun a => !decide (a.1 = s)) = Q1 at *
  have hQ1m : ∀ a ∈ Q1, 1 ≤ a.1 ∧ a.1 ≤ 16 := fun a ha => by rw [← hQ1] at ha; exact ok.rq i a (List.mem_filter.1 ha).1
  have hQ1l : Q1.length ≤ 16 := by rw [← hQ1]; have := List.length_filter_le (fun a : AskM => !decide (a.1 = s)) (M i).Q; omega
  have hxp' : b.x ∉ pb p' := by rw [hpb]; exact hx2
  have I68 : At w68 ⟨b.x, b.h, p', c', delM b.l s⟩ ⟨drop (M i).H s, Q1⟩ := by
    refine ⟨u68.blk, (u55.map.fr f62 hx3).fr u68.fr (fun hm => hx1 (List.mem_singleton.1 hm).symm), hat51.held.del hat51.map.nodup s, o62.fr u68.fr (fun ad hp hm => hxp' ((g_mem_pb _ _).2 ⟨ad, hp, List.mem_singleton.1 hm⟩)), fun ad hp e => hxp' ((g_mem_pb _ _).2 ⟨ad, hp, e⟩)⟩
  have f68 : Fr b.blocks w51 w68 := ((u55.fr.mono (G := b.blocks) (fun x hx => .inl (by rw [List.mem_singleton.1 hx]; simp [IB.blocks]))).trans f62 (fun x hx => .inl (by simp [IB.blocks, hx]))).trans u68.fr (fun x hx => .inl (by rw [List.mem_singleton.1 hx]; simp [IB.blocks]))
  have T68 := T51.item hb f68 (fun x hx => hx) (b' := ⟨b.x, b.h, p', c', delM b.l s⟩) rfl I68 (fun x hx => by
    simp only [IB.blocks, hpb] at hx ⊢; exact hx)
  have F68 : Fr own w17 w68 := F51.trans f68 (fun x hx => .inl (bown x hx))
  have farO : ∀ {p : Option Addr} {l c : Nat} {xs : List Value} {u : World}, OwnZ u w17.heap.size 1 p l c xs → ∀ ad, p = some ad → ad.block ∉ own := fun o ad hp hm => by
    have := (o.lt hp).1; have := ownlt _ hm; omega
  have o68 : OwnZ w68 w17.heap.size 1 p25 (outs M s (K.take j)).length k27 ((outs M s (K.take j)).map I64) := ((o29.fr f47 (fun ad _ => by simp)).fr st51.fr (fun ad _ => by simp)).fr f68 (fun ad hp hm => farO o29 ad hp (bown _ hm))
  refine ⟨fun m p k c w' => ∃ (H : Holders) (Q : List AskM) (done : List Int) (b' : IB) (ib2 : Int → Option IB), m = Q.length ∧ grant (drop (M i).H s) Q1 = ((grant H Q).1, done ++ (grant H Q).2) ∧ k = (outs M s (K.take j) ++ done).length ∧ OwnZ w' w17.heap.size 1 p k c ((outs M s (K.take j) ++ done).map I64) ∧ Fr own w17 w' ∧ ib2 i = some b' ∧ b'.x = b.x ∧ (∀ t ∈ K.drop (j + 1), (ib2 t).isSome = true) ∧ TabAt w' own tb mi mw ib2 N (relW W s (outs M s (K.take j) ++ done)) (setM (relM M s (K.take j)) i ⟨H, Q⟩) ∧ (∀ t al, H t = some al → 1 ≤ t ∧ t ≤ 16) ∧ (∀ a ∈ Q, 1 ≤ a.1 ∧ a.1 ≤ 16) ∧ done.length + Q.length ≤ 16, Q1.length, ⟨drop (M i).H s, Q1, [], ⟨b.x, b.h, p', c', delM b.l s⟩, setI ib' i (some ⟨b.x, b.h, p', c', delM b.l s⟩), rfl, by simp, by simp, by simpa using o68, F68, (by unfold setI; rw [if_pos rfl]), rfl, (fun t ht => by
    obtain ⟨h1, h2⟩ := hsome' t ht
    unfold setI; rw [if_neg h2]; exact h1), by simpa using T68, (fun t al ht => by
    unfold drop at ht
    split at ht
    · cases ht
    · exact ok.rh i t al ht), hQ1m, by simpa using hQ1l⟩, ?_⟩
  clear T68 o68 I68 f68 u68 o62 f62 own55 blk55 blk62 u55 hat51 hat47 T51 T47 F68 F55 F51 F47 hat T29 o29
  rintro m p73 k74 k75 w76 ⟨H, Q, done, b', ib2, rfl, hgr, rfl, o76, f76, hb', hbx, hso, T76, hHr, hQr, hdq⟩ y78 hy78
  have hat76 := T76.it i b' hb'
  have hIe : setM (relM M s (K.take j)) i ⟨H, Q⟩ i = ⟨H, Q⟩ := by unfold setM; rw [if_pos rfl]
  rw [hIe] at hat76
  have bown2 := T76.ow.2.2.2 i b' hb'
  rw [← hbx] at hy78 ⊢
  -- no more
  have stop : grant H Q = (⟨H, Q⟩, []) → ∀ w', Fr [] w76 w' → y78 false w' := by
    intro hg w80 f80
    rw [hg] at hgr
    have hgr2 : relI M s i = (⟨H, Q⟩, done) := by rw [hrel, hgr]; simp
    have ho1 : outs M s (K.take (j + 1)) = outs M s (K.take j) ++ done := by rw [hK1, outs_snoc, hgr2]
    have hm1 : relM M s (K.take (j + 1)) = setM (relM M s (K.take j)) i ⟨H, Q⟩ := by rw [hK1, relM_snoc, hgr2]
    rw [ho1, hm1] at next
    have hat80 := hat76.fr f80 (fun x _ => by simp)
    have T80 := T76.fr f80 (fun x _ => by simp)
    have F80 : Fr own w17 w80 := f76.trans f80 (fun x hx => by cases hx)
    have o80 := o76.fr f80 (fun ad _ => by simp)
    refine hy78 _ _ (bF rfl ⟨_, rfl, _, hat80.c0, b'.l, hat80.map, _, rfl, _, _, _, hat80.c1, ?_⟩)
    have hll := hat80.held.len hat80.map.nodup hHr
    refine bc (fun hz => ⟨_, T80.c0, fun w122 st122 => ?_⟩) fun hnz w128 st128 => next _ _ _ ib2 (o80.fr st128.fr (fun ad _ => by simp)) (F80.trans st128.fr (fun x hx => by cases hx)) (T80.fr st128.fr (fun x _ => by simp)) hso
    have hz : IntKind.wrap .i64 ((b'.l.length : Int) + (Q.length : Int)) = 0 := of_decide_eq_true hz
    have hQ0 : b'.l.length = 0 ∧ Q.length = 0 := by
      rw [wrapi (by omega) (by omega)] at hz
      omega
    have T122 := T80.fr st122.fr (fun x _ => by simp)
    obtain ⟨li3, g5, _⟩ := T122.items
    refine ⟨mi, li3, rfl, g5, fun w126 u126 => ?_⟩
    have hnone : setM (relM M s (K.take j)) i ⟨H, Q⟩ i = IM.none := by
      rw [hIe]
      have h1 := List.length_eq_zero_iff.1 hQ0.1
      have h2 := List.length_eq_zero_iff.1 hQ0.2
      have h3 := hat80.held
      rw [h1] at h3
      have h4 := h3.empty
      show (⟨H, Q⟩ : IM) = ⟨fun _ => none, []⟩
      rw [h2]
      have : H = fun _ => none := h4
      rw [this]
    have T126 := T122.delItem hnone g5 u126
    refine next _ _ _ _ ((o80.fr st122.fr (fun ad _ => by simp)).fr u126.fr (fun ad hp hm => farO o80 ad hp (by rw [List.mem_singleton.1 hm]; exact h.ow.2.1))) ((F80.trans st122.fr (fun x hx => by cases hx)).trans u126.fr (fun x hx => .inl (by rw [List.mem_singleton.1 hx]; exact h.ow.2.1))) T126 (fun t ht => ?_)
    unfold setI
    rw [if_neg (hsome' t ht).2]
    exact hso t ht
  -- one more
  have more : ∀ (a : AskM) (Q' : List AskM), Q = a :: Q' → fits H a → ∀ w', Fr [] w76 w' → y78 true w' := by
    rintro a Q' rfl hfit w80 f80
    clear stop next
    have hat80 := hat76.fr f80 (fun x _ => by simp)
    have T80 := T76.fr f80 (fun x _ => by simp)
    have F80 : Fr own w17 w80 := f76.trans f80 (fun x hx => by cases hx)
    have o80 := o76.fr f80 (fun ad _ => by simp)
    obtain ⟨hx1, hx2, hx3⟩ := hat80.hx
    obtain ⟨ad, hp, c0, c1⟩ := qread (q := a :: Q') (i := 0) hat80.own.row (by simp)
    have hlc := hat80.own.2.1
    have hlc : (a :: Q').length ≤ b'.c := hlc
    simp only [List.length_cons] at hdq hlc
    have hl0 : (0 : Int) < (((⟨H, a :: Q'⟩ : IM).Q.length : Nat) : Int) := by show (0 : Int) < (((a :: Q').length : Nat) : Int); rw [List.length_cons]; omega
    have hl1 : (1 : Int) ≤ (((⟨H, a :: Q'⟩ : IM).Q.length : Nat) : Int) := by omega
    have hl2 : (((⟨H, a :: Q'⟩ : IM).Q.length : Nat) : Int) ≤ (b'.c : Int) := by show (((a :: Q').length : Nat) : Int) ≤ _; rw [List.length_cons]; omega
    refine hy78 _ _ (bT rfl ⟨_, rfl, _, _, _, hat80.c1, ad, hp, ⟨by omega, hl0⟩, a.1, a.2, ⟨c0, c1, trivial⟩, fun k88 => ⟨_, rfl, _, _, _, hat80.c1, ⟨by omega, hl1, hl2⟩, _, rfl, fun w94 st94 => ?_⟩⟩)
    clear hy78
    have n94 := g_new1 st94
    have hat94 := hat80.fr st94.fr (fun x _ => by simp)
    have T94 := T80.fr st94.fr (fun x _ => by simp)
    have hk88 : ∀ x ∈ own, x ≠ k88 := fun x hx => by have := T80.lt x hx; omega
    refine ⟨_, by rw [add_mk]; exact hat94.blk, by rw [add_mk], by rw [add_mk]; simp, by rw [add_mk]; simp; exact hk88 _ (bown2 _ (by simp [IB.blocks])), fun w97 u97 => ?_⟩
    have u97 : Upd w94 w97 b'.x [.map (some b'.h), .slice (subA b'.p 1 b'.c 2) Q'.length (b'.c - 1)] := by rw [add_mk] at u97; exact u97
    have m97 := hat94.map.fr u97.fr (fun hm => hx1 (List.mem_singleton.1 hm).symm)
    refine (hold_c u97.blk m97 hat94.held a).mono ?_
    rintro e w100 ⟨rfl, f100, l', m100, hh100, _⟩
    have hsub : ∀ x ∈ pb (subA b'.p 1 b'.c 2), x ∈ pb b'.p := fun x hx => pb_subA x hx
    have hown94 : OwnQ w94 b'.p (Q'.length + 1) b'.c (.int .i64 a.1 :: .bool a.2 :: qcells Q') := hat94.own
    have o97 := hown94.tail.fr u97.fr (fun ad hp hm => hx2 (hsub _ ((g_mem_pb _ _).2 ⟨ad, hp, List.mem_singleton.1 hm⟩)))
    have I100 : At w100 ⟨b'.x, b'.h, subA b'.p 1 b'.c 2, b'.c - 1, l'⟩ ⟨hold H a, Q'⟩ :=
      ⟨u97.blk.fr f100 (fun hm => hx1 (List.mem_singleton.1 hm)), m100, hh100, o97.fr f100 (fun ad hp hm => hx3 (hsub _ ((g_mem_pb _ _).2 ⟨ad, hp, List.mem_singleton.1 hm⟩))), fun ad hp e => hx2 (hsub _ ((g_mem_pb _ _).2 ⟨ad, hp, e⟩))⟩
    have ff : Fr b'.blocks w94 w100 := (u97.fr.mono (G := b'.blocks) (fun x hx => .inl (by rw [List.mem_singleton.1 hx]; simp [IB.blocks]))).trans f100 (fun x hx => .inl (by rw [List.mem_singleton.1 hx]; simp [IB.blocks]))
    have T100 := T94.item hb' ff (fun x hx => hx) (b' := ⟨b'.x, b'.h, subA b'.p 1 b'.c 2, b'.c - 1, l'⟩) rfl I100 (fun x hx => by
      rcases List.mem_cons.1 hx with rfl | hx
      · simp [IB.blocks]
      rcases List.mem_cons.1 hx with rfl | hx
      · simp [IB.blocks]
      have := hsub x hx
      simp [IB.blocks, this])
    have z97 := u97.fr.size
    refine ⟨rfl, g_keep f100 (fun x hx => by simp at hx; subst hx; exact ⟨by omega, fun hm => hk88 _ (bown2 b'.h (by simp [IB.blocks])) (List.mem_singleton.1 hm).symm⟩), _, T100.c1, fun w102 st102 => ?_⟩
    have T102 := T100.fr st102.fr (fun x _ => by simp)
    obtain ⟨lw2, g5, g6, g7⟩ := T102.waits
    refine ⟨mw, lw2, rfl, g5, fun w106 u106 k108 => ?_⟩
    have T106 := T102.setWaits (W' := relW W s (outs M s (K.take j) ++ (done ++ [a.1]))) u106 (fun t => by
      rw [look_delM g5.nodup, ← List.append_assoc, ← relW_more]
      by_cases ht : t = a.1
      · simp [ht]
      · simp only [if_neg ht]; exact g6 t) (fun p hp => g7 p (mem_delM hp))
    have F94 : Fr own w17 w94 := F80.trans st94.fr (fun x hx => by cases hx)
    have F106 : Fr own w17 w106 := ((F94.trans ff (fun x hx => .inl (bown2 x hx))).trans st102.fr (fun x hx => by cases hx)).trans u106.fr (fun x hx => .inl (by rw [List.mem_singleton.1 hx]; exact h.ow.2.2.1))
    have o106 : OwnZ w106 w17.heap.size 1 p73 (outs M s (K.take j) ++ done).length k75 ((outs M s (K.take j) ++ done).map I64) := (((o80.fr st94.fr (fun ad _ => by simp)).fr ff (fun ad hp hm => farO o80 ad hp (bown2 _ hm))).fr st102.fr (fun ad _ => by simp)).fr u106.fr (fun ad hp hm => farO o80 ad hp (by rw [List.mem_singleton.1 hm]; exact h.ow.2.2.1))
    have hlo : (outs M s (K.take j) ++ done).length ≤ 17000000 := by rw [List.length_append]; omega
    refine append_z (xs := [I64 a.1]) o106 rfl (fun u hu => by rw [List.mem_singleton.1 hu]; rfl) F106.size rfl (fun h => by cases h) (fun ad _ => by simp) (fun ad hp hm => ?_) (by show ((outs M s (K.take j) ++ done).length + 1) * 8 ≤ _; omega) (by show (outs M s (K.take j) ++ done).length + 1 ≤ _; omega) fun w109 p110 c112 f109 n109 o109 d109 => ?_
    · have hlt := (o80.lt hp).2
      simp at hm ⊢
      rcases hm with hm | hm
      · omega
      · exact hm
    · have hoe : (outs M s (K.take j) ++ done).map I64 ++ [I64 a.1] = (outs M s (K.take j) ++ (done ++ [a.1])).map I64 := by simp
      have hle : (outs M s (K.take j) ++ done).length + 1 = (outs M s (K.take j) ++ (done ++ [a.1])).length := by simp; omega
      rw [hoe] at o109
      rw [hle] at o109 ⊢
      have f109o : ∀ x ∈ [] ++ pb p73, x ∉ own := fun x hx hm => by
        rw [List.nil_append] at hx
        obtain ⟨ad, hp, rfl⟩ := (g_mem_pb _ _).1 hx
        exact farO o80 ad hp hm
      refine ⟨Q'.length, by simp, hold H a, Q', done ++ [a.1], ⟨b'.x, b'.h, subA b'.p 1 b'.c 2, b'.c - 1, l'⟩, setI ib2 i (some ⟨b'.x, b'.h, subA b'.p 1 b'.c 2, b'.c - 1, l'⟩), rfl, ?_, rfl, o109, ?_, (by unfold setI; rw [if_pos rfl]), rfl, fun t ht => ?_, ?_, fun t al ht => ?_, fun c hc => hQr c (List.mem_cons_of_mem _ hc), by simp; omega⟩
      · rw [hgr]
        have : grant H (a :: Q') = ((grant (hold H a) Q').1, a.1 :: (grant (hold H a) Q').2) := by
          conv => lhs; unfold grant
          rw [if_pos hfit]
        rw [this]; simp
      · exact F106.trans f109 (fun x hx => by
          rw [List.nil_append] at hx
          obtain ⟨ad, hp, rfl⟩ := (g_mem_pb _ _).1 hx
          exact .inr (o80.lt hp).1)
      · unfold setI
        split
        · rfl
        · exact hso t ht
      · have := T106.fr f109 (fun x hx hm => f109o x hm hx)
        have e : setM (setM (relM M s (K.take j)) i ⟨H, a :: Q'⟩) i ⟨hold H a, Q'⟩ = setM (relM M s (K.take j)) i ⟨hold H a, Q'⟩ := by
          funext t; unfold setM; split <;> rfl
        rw [e] at this
        exact this
      · unfold hold at ht
        split at ht
        · rename_i e; rw [e]; exact hQr a List.mem_cons_self
        · exact hHr t al ht
  clear next
  refine ⟨_, rfl, _, _, _, hat76.c1, bc (fun hpos => ?_) fun hz => stop (by
    have hz := of_decide_eq_false hz
    have : Q = [] := List.length_eq_zero_iff.1 (by have hz : ¬ (0 : Int) < (Q.length : Int) := hz; omega)
    subst this; rfl) _ (Fr.refl _ _)⟩
  have hpos : (0 : Int) < (Q.length : Int) := of_decide_eq_true hpos
  obtain ⟨a, Q', rfl⟩ : ∃ a Q', Q = a :: Q' := by
    cases Q with
    | nil => simp at hpos
    | cons a Q' => exact ⟨a, Q', rfl⟩
  obtain ⟨ad, hp, c0, c1⟩ := qread (q := a :: Q') (i := 0) hat76.own.row (by simp)
  refine ⟨_, rfl, _, _, _, hat76.c1, ad, hp, ⟨by omega, hpos⟩, a.1, a.2, ⟨c0, c1, trivial⟩, (fit_c hat76.blk hat76.map hat76.held a).mono ?_⟩
  rintro e w144 ⟨bf, rfl, hbf, f144⟩
  refine ⟨bf, rfl, ?_⟩
  cases bf with
  | true => exact more a Q' rfl (hbf.1 rfl) _ f144
  | false =>
    refine stop ?_ _ f144
    unfold grant
    rw [if_neg (fun hc => by have := hbf.2 hc; cases this)]
end Go.Proofs.Ytnimejocaaekaaa.Lock
