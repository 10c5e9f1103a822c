/- LockAlone: the plain law and the law's own walk. -/
import Derived.Test.YtnimejocaaekaaaQ9
import Derived.Test.YtnimejocaaekaaaQX
import Derived.Test.YtnimejocaaekaaaL5
namespace Go.Proofs.Ytnimejocaaekaaa.Lock
open Go Go.V
open Go.Proofs.Ytnimejocaaekaaa.VC
open Go.Proofs.Try (prog)
set_option linter.unusedVariables false
set_option linter.unusedSimpArgs false
set_option maxRecDepth 20000

/-- Who holds alone is alone. -/
def AlH (H : Holders) : Prop := ∀ s t al, H s = some true → H t = some al → t = s
theorem AlH.hold {H : Holders} (h : AlH H) {a : AskM} (hf : fits H a) : AlH (hold H a) := fun s t al hs ht => by
  unfold Lock.hold at hs ht
  by_cases h1 : s = a.1
  · by_cases h2 : t = a.1
    · rw [h1, h2]
    · rw [if_neg h2] at ht
      rw [if_pos h1] at hs
      have h3 := hf t al ht h2
      have h4 : (H s).getD false = true := by
        injection hs with hs
        rw [h3.2, Bool.or_false] at hs; exact hs
      cases hx : H s with
      | none => rw [hx] at h4; cases h4
      | some v =>
        rw [hx] at h4
        have h4 : v = true := h4
        subst h4
        exact h s t al hx ht
  · rw [if_neg h1] at hs
    exact absurd (hf s true hs h1).1 (by decide)
theorem AlH.drop {H : Holders} (h : AlH H) (s : Int) : AlH (drop H s) := fun a b al ha hb => by
  unfold Lock.drop at ha hb
  split at ha
  · cases ha
  · split at hb
    · cases hb
    · exact h a b al ha hb
theorem AlH.grant : ∀ (q : List AskM) {H : Holders}, AlH H → AlH (grant H q).1.H
  | [], H, h => h
  | a :: q, H, h => by
    unfold Lock.grant
    split
    · rename_i hf; exact AlH.grant q (h.hold hf)
    · exact h
theorem al_rel {M : Int → IM} (h : ∀ i, AlH (M i).H) (s : Int) (K : List Int) : ∀ i, AlH (relM M s K i).H := fun i => by
  unfold relM
  split
  · unfold relI
    split
    · exact AlH.grant _ ((h i).drop s)
    · exact h i
  · exact h i
theorem al_ask {W : Int → Option Int} {M : Int → IM} (h : ∀ i, AlH (M i).H) (s i : Int) (alone : Bool) (hs : 1 ≤ s ∧ s ≤ 16) :
    (∀ j, AlH ((ask W M s i alone).2.1 j).H) ∧ ((ask W M s i alone).2.2 = 0 → ∃ b, ((ask W M s i alone).2.1 i).H s = some b ∧ (alone = true → b = true)) := by
  unfold ask
  rw [if_neg (by omega)]
  split
  · exact ⟨h, fun h => absurd h (show ¬ (171 : Int) = 0 by decide)⟩
  split
  · rename_i hh
    refine ⟨h, fun _ => ?_⟩
    obtain ⟨b, hb⟩ := Option.isSome_iff_exists.1 hh.1
    refine ⟨b, hb, fun ha => ?_⟩
    rcases hh.2 with h2 | h2
    · rw [hb] at h2; exact h2
    · rw [ha] at h2; cases h2
  split
  · rename_i hf
    refine ⟨fun j => ?_, fun _ => ⟨((M i).H s).getD false || alone, ?_, fun ha => by rw [ha, Bool.or_true]⟩⟩
    · show AlH (setM M i ⟨hold (M i).H (s, alone), (M i).Q⟩ j).H
      unfold setM
      split
      · exact (h i).hold hf.1
      · exact h j
    · show (setM M i ⟨hold (M i).H (s, alone), (M i).Q⟩ i).H s = _
      unfold setM
      rw [if_pos rfl]
      show hold (M i).H (s, alone) s = _
      unfold hold
      rw [if_pos rfl]
  · refine ⟨fun j => ?_, fun h => absurd h (show ¬ (160 : Int) = 0 by decide)⟩
    show AlH (setM M i ⟨(M i).H, putQ (M i).H (M i).Q (s, alone)⟩ j).H
    unfold setM
    split
    · exact h i
    · exact h j
/-- Who holds an item, to be counted. -/
def held (H : Holders) : Int → Option Int := fun s => (H s).map fun _ => 0
def anyTo (H : Holders) : Nat → Bool
  | 0 => false
  | j + 1 => anyTo H j || (H ((j : Int) + 1)).getD false
theorem anyTo_ex {H : Holders} : ∀ {j : Nat}, anyTo H j = true → ∃ n, n < j ∧ H ((n : Int) + 1) = some true
  | j + 1, h => by
    unfold anyTo at h
    rw [Bool.or_eq_true] at h
    rcases h with h | h
    · obtain ⟨n, h1, h2⟩ := anyTo_ex h; exact ⟨n, by omega, h2⟩
    · refine ⟨j, by omega, ?_⟩
      cases hx : H ((j : Int) + 1) with
      | none => rw [hx] at h; cases h
      | some v => rw [hx] at h; have h : v = true := h; rw [h]
theorem one16 : ∀ m, m < 16 → ((List.range 16).filter fun n => decide (n = m)).length = 1 := by decide
theorem alone_one {H : Holders} (h : AlH H) (ha : anyTo H 16 = true) : cntTo (held H) 16 = 1 := by
  obtain ⟨m, hm, hH⟩ := anyTo_ex ha
  unfold cntTo
  rw [← one16 m hm]
  congr 1
  refine List.filter_congr fun n hn => ?_
  unfold held
  cases hx : H ((n : Int) + 1) with
  | none =>
    have : n ≠ m := fun e => by rw [e, hH] at hx; cases hx
    simp [this]
  | some v =>
    have := h _ _ v hH hx
    have : n = m := by omega
    simp [this]
theorem blocks_some {W : Int → Option Int} {M : Int → IM} (ok : TOk W M) {s i : Int} {al : Bool} (h : (s, al) ∈ (M i).Q) : ∃ x, blocks (M i) s al x := by
  cases hQ : (M i).Q with
  | nil => rw [hQ] at h; cases h
  | cons a q =>
    by_cases ha : a.1 = s
    · have hae : a = (s, al) := by
        rw [hQ] at h
        rcases List.mem_cons.1 h with e | e
        · exact e.symm
        · have hnd := ok.nd i
          rw [hQ, List.map_cons, List.nodup_cons] at hnd
          exact absurd (List.mem_map.2 ⟨_, e, ha.symm⟩) hnd.1
      have hf := ok.head i a q hQ
      by_cases hex : ∃ x, stopsP (M i) s al x
      · obtain ⟨x, hx⟩ := hex; exact ⟨x, .inl hx⟩
      · refine absurd (fun t b hb hne => ?_) hf
        rw [hae] at hne ⊢
        have hn : ¬ (b = true ∨ al = true) := fun hh => hex ⟨t, b, hb, hne, hh⟩
        cases b <;> cases al <;> simp_all
    · obtain ⟨j, hj, he⟩ := List.getElem_of_mem h
      -- the first place
      have hfind : ∀ k (hk : k < (M i).Q.length), (M i).Q[k].1 = s → ∃ j, ∃ hj : j < (M i).Q.length, (M i).Q[j].1 = s ∧ ∀ b ∈ (M i).Q.take j, b.1 ≠ s := by
        intro k
        induction k using Nat.strongRecOn with
        | _ k ih =>
          intro hk hks
          by_cases hex : ∃ b ∈ (M i).Q.take k, b.1 = s
          · obtain ⟨b, hb, hbs⟩ := hex
            obtain ⟨k', hk', rfl⟩ := List.mem_take_iff_getElem.1 hb
            exact ih k' (by omega) (by omega) hbs
          · exact ⟨k, hk, hks, fun b hb hbs => hex ⟨b, hb, hbs⟩⟩
      obtain ⟨j0, hj0, e1, e2⟩ := hfind j hj (by rw [he])
      have hpos : 0 < j0 := by
        rcases Nat.eq_zero_or_pos j0 with h0 | h0
        · subst h0
          have : (M i).Q[0] = a := by simp [hQ]
          rw [this] at e1; exact absurd e1 ha
        · exact h0
      refine ⟨a.1, .inr ⟨j0, hj0, e1, e2, List.mem_map.2 ⟨a, List.mem_take_iff_getElem.2 ⟨0, by omega, by simp [hQ]⟩, rfl⟩⟩⟩
theorem blocks_ne {I : IM} {s : Int} {al : Bool} {x : Int} (h : blocks I s al x) : x ≠ s := by
  rcases h with ⟨_, _, h, _⟩ | ⟨j, hj, _, h2, h3⟩
  · exact h
  · obtain ⟨a, ha, rfl⟩ := List.mem_map.1 h3
    exact h2 a ha
/-- Blockers, as the law wants it. -/
theorem blockers_b {w : World} {own : List Nat} {tb mi mw : Nat} {ib : Int → Option IB} {N : Nat} {W : Int → Option Int} {M : Int → IM} (h : TabAt w own tb mi mw ib N W M) (ok : TOk W M) (s : Int) :
    Calls prog 16 #[D tb, I64 s] w fun e w' => Fr [] w w' ∧ ∃ (p : Option Addr) (c : Nat) (l : List Int), e = .returned (.slice p l.length c) ∧ Row w' p (l.map I64) ∧ l.length ≤ 16 ∧ ((W s).isSome = true ↔ 0 < l.length) ∧ ∀ x ∈ l, x ≠ s := by
  refine (blockers_c h ok s).mono ?_
  rintro e w' ⟨f, ⟨h1, rfl⟩ | ⟨i, al, p, c, l, h1, h2, rfl, h3, h4, h5⟩⟩
  · exact ⟨f, none, 0, [], rfl, Row.nil _ _, by simp, by rw [h1]; simp, fun x hx => (by cases hx)⟩
  · refine ⟨f, p, c, l, rfl, h3, ?_, ?_, fun x hx => blocks_ne ((h5 x).1 hx)⟩
    · refine len16 l (h4.imp fun h e => by omega) fun x hx => ?_
      rcases (h5 x).1 hx with ⟨has, g1, _⟩ | ⟨j, hj, _, _, g3⟩
      · exact ok.rh i x has g1
      · obtain ⟨a, ha, rfl⟩ := List.mem_map.1 g3
        exact ok.rq i a (List.mem_of_mem_take ha)
    · obtain ⟨x, hx⟩ := blocks_some ok h2
      rw [h1]
      exact ⟨fun _ => List.length_pos_of_mem ((h5 x).2 hx), fun _ => rfl⟩

set_option maxHeartbeats 2000000 in
theorem alone_walk (w : World) {a : Option Addr} {len cap : Nat} {z : List KOp} (hz : IsKOps w a len z) :
    Calls prog 5 #[.slice a len cap] w fun e w' => e = .returned (.bool true) ∧ RowKit.Below w.heap.size w w' := by
  have below : ∀ w', Fr [] w w' → RowKit.Below w.heap.size w w' := fun w' f => f.below (Nat.le_refl _) (fun x hx => by cases hx)
  refine rhizomelaw16_LockAlone.link ((new_c w).mono ?_)
  rintro e w2 ⟨own, tb, mi, mw, rfl, f2, hown, T2⟩
  refine ⟨_, rfl, fun y4 hy4 => (awake_c w2).mono ?_⟩
  rintro e w121 ⟨rfl, f121⟩
  have T121 := T2.fr f121 (fun x _ => by simp)
  refine ⟨_, rfl, bF rfl (hy4 _ _ (bF rfl ?_))⟩
  clear hy4
  refine ⟨fun m n w' => ∃ (i N : Nat) (own : List Nat) (ib : Int → Option IB) (W : Int → Option Int) (M : Int → IM), n = i ∧ i ≤ 80 ∧ m = 80 - i ∧ N ≤ i ∧ TabAt w' own tb mi mw ib N W M ∧ TOk W M ∧ Fr [] w w' ∧ (∀ x ∈ own, w.heap.size ≤ x) ∧ ∀ j, AlH (M j).H, 80,
    ⟨0, 0, own, _, _, _, rfl, by omega, rfl, Nat.le_refl _, T121, TOk.empty, f2.trans' f121, hown, fun j s t al h => (by cases h)⟩, ?_⟩
  clear hown T2 T121
  rintro m n w11 ⟨i, N, own, ib, W, M, rfl, hi, rfl, hN, T, ok, f11, hown, hal⟩ y13 hy13
  have done : y13 false w11 := hy13 _ _ (bF rfl ⟨rfl, below _ f11⟩)
  refine bc (fun hlt => ?_) fun _ => done
  cases h80 : decide ((i : Int) < 80) with
  | false => exact done
  | true =>
  clear done
  have h80 : (i : Int) < 80 := of_decide_eq_true h80
  have hlt : (i : Int) < (len : Int) := of_decide_eq_true hlt
  refine hy13 _ _ (bT rfl ?_)
  clear hy13
  obtain ⟨o, ad, hr, rfl, c0, c1, c2, c3⟩ := hz.get f11 (i := i) (by omega)
  have e0 : (i : Int).toNat * 4 = i * 4 := by omega
  obtain ⟨s, hs1, hs2, hse⟩ := ses o.s
  obtain ⟨x, hx, hex⟩ := six o.item
  refine ⟨ad, rfl, ⟨by omega, hlt⟩, _, _, _, _, ⟨by rw [e0]; exact c0, by rw [e0]; exact c1, by rw [e0]; exact c2, by rw [e0]; exact c3, trivial⟩, fun k21 => ⟨by decide, by decide, fun y22 hy22 => ?_⟩⟩
  rw [hse, hex]
  -- the checks behind a call
  have after : ∀ (w' : World) (N' : Nat) (own' : List Nat) (ib' : Int → Option IB) (W' : Int → Option Int) (M' : Int → IM), N' ≤ i + 1 → TabAt w' own' tb mi mw ib' N' W' M' → TOk W' M' → Fr [] w w' → (∀ x ∈ own', w.heap.size ≤ x) → (∀ j, AlH (M' j).H) → y22 w' := by
    intro w23 N own ib W M hN T ok F hown hal
    refine hy22 _ ?_
    clear hy22
    refine ⟨fun m n w' => ∃ q : Nat, n = q ∧ q ≤ 6 ∧ m = 6 - q ∧ Fr [] w23 w', 6, ⟨0, rfl, by omega, rfl, Fr.refl _ _⟩, ?_⟩
    rintro m n w28 ⟨q, rfl, hq, rfl, f28⟩
    have T28 := T.fr f28 (fun x _ => by simp)
    refine bc (fun hlt => ?_) fun hge => ?_
    · have hlt : (q : Int) < 6 := of_decide_eq_true hlt
      refine ⟨fun m c b n w' => ∃ j : Nat, c = (cntTo (held (M (q : Int)).H) j : Int) ∧ b = anyTo (M (q : Int)).H j ∧ n = (j : Int) + 1 ∧ j ≤ 16 ∧ m = 16 - j ∧ w' = w28, 16, ⟨0, rfl, rfl, rfl, by omega, rfl, rfl⟩, ?_⟩
      rintro m c b n w36 ⟨j, rfl, rfl, rfl, hj, rfl, rfl⟩
      refine bc (fun hlt2 y38 hy38 => ?_) fun hge => ?_
      · have hlt2 : (j : Int) + 1 ≤ 16 := of_decide_eq_true hlt2
        refine (holds_c T28 ((j : Int) + 1) (q : Int)).mono ?_
        rintro e w46 ⟨rfl, rfl⟩
        have hcs := cntTo_succ (held (M (q : Int)).H) j
        have hle := cntTo_le (held (M (q : Int)).H) j
        have his : (held (M (q : Int)).H ((j : Int) + 1)).isSome = ((M (q : Int)).H ((j : Int) + 1)).isSome := by unfold held; cases (M (q : Int)).H ((j : Int) + 1) <;> rfl
        rw [his] at hcs
        refine ⟨_, _, rfl, fun y49 hy49 => ?_⟩
        have next : ∀ c : Int, c = (cntTo (held (M (q : Int)).H) (j + 1) : Int) → y49 c w46 := fun c hc => by
          have step : ∀ b, b = anyTo (M (q : Int)).H (j + 1) → y38 c b w46 := fun b hb => hy38 _ _ _ ⟨16 - (j + 1), by omega, j + 1, hc, hb, by rw [wrapi (by omega) (by omega)]; simp, by omega, rfl, rfl⟩
          refine hy49 _ _ (bc (fun h => step _ ?_) fun h => step _ ?_)
          · unfold anyTo; rw [h]; rfl
          · unfold anyTo; rw [h]; rfl
        refine bc (fun h => next _ ?_) fun h => next _ ?_
        · rw [h] at hcs
          rw [wrapi (by omega) (by omega), hcs]; simp
        · rw [h] at hcs
          rw [hcs]; simp
      · have hge : ¬ (j : Int) + 1 ≤ 16 := of_decide_eq_false hge
        obtain rfl : j = 16 := by omega
        intro y54 hy54
        have fin : y54 false w36 := hy54 _ _ (bF rfl ⟨6 - (q + 1), by omega, q + 1, by rw [wrapi (by omega) (by omega)]; simp, by omega, rfl, f28⟩)
        refine bc (fun h => ?_) fun _ => fin
        rw [alone_one (hal (q : Int)) h]
        exact fin
    · refine ⟨fun m n w' => ∃ j : Nat, n = (j : Int) + 1 ∧ j ≤ 16 ∧ m = 16 - j ∧ Fr [] w23 w', 16, ⟨0, rfl, by omega, rfl, f28⟩, ?_⟩
      rintro m n w64 ⟨j, rfl, hj, rfl, f64⟩
      have T64 := T.fr f64 (fun x _ => by simp)
      refine bc (fun hlt2 => ?_) fun _ => ⟨80 - (i + 1), by omega, i + 1, N, own, ib, W, M, by rw [wrapi (by omega) (by omega)]; simp, by omega, rfl, hN, T64, ok, F.trans' f64, hown, hal⟩
      have hlt2 : (j : Int) + 1 ≤ 16 := of_decide_eq_true hlt2
      refine (waits_b T64 ok ((j : Int) + 1)).mono ?_
      rintro e w67 ⟨f67, n39, b40, b70, rfl, hb⟩
      have T67 := T64.fr f67 (fun x _ => by simp)
      refine ⟨_, _, _, rfl, (blockers_b T67 ok ((j : Int) + 1)).mono ?_⟩
      rintro e w72 ⟨f72, p, c, l, rfl, row72, hl16, hpos, hne⟩
      have T72 := T67.fr f72 (fun x _ => by simp)
      refine ⟨_, _, _, rfl, bF ?_ ((blockers_b T72 ok ((j : Int) + 1)).mono ?_)⟩
      · rw [hb]
        cases hh : (W ((j : Int) + 1)).isSome with
        | true => rw [decide_eq_true (show (0 : Int) < (l.length : Int) by have := hpos.1 hh; omega)]; rfl
        | false =>
          have : ¬ (0 : Int) < (l.length : Int) := fun h => by
            have := hpos.2 (by omega)
            rw [hh] at this; cases this
          rw [decide_eq_false this]; rfl
      · rintro e w77 ⟨f77, p, c, l, rfl, row77, hl16, hpos, hne⟩
        refine ⟨_, _, _, rfl, fun m n w' => ∃ t : Nat, n = t ∧ t ≤ l.length ∧ m = l.length - t ∧ w' = w77, l.length, ⟨0, rfl, by omega, rfl, rfl⟩, ?_⟩
        rintro m n w85 ⟨t, rfl, ht, rfl, rfl⟩
        refine bc (fun hlt3 => ?_) fun _ => ⟨16 - (j + 1), by omega, j + 1, by rw [wrapi (by omega) (by omega)]; simp, by omega, rfl, ((f64.trans' f67).trans' f72).trans' f77⟩
        have hlt3 : (t : Int) < (l.length : Int) := of_decide_eq_true hlt3
        have ht' : t < l.length := by omega
        refine rd kenc row77 rfl ht' hlt3 (bF ?_ ⟨l.length - (t + 1), by omega, t + 1, by rw [wrapi (by omega) (by omega)]; simp, by omega, rfl, rfl⟩)
        exact decide_eq_false (hne _ (List.getElem_mem ht'))
  clear hy22
  refine bc (fun _ w94 st94 => ?_) fun _ w102 st102 => ?_
  · have n94 := g_new1 st94
    have T94 := T.fr st94.fr (fun x _ => by simp)
    have F94 := f11.trans' st94.fr
    refine (release_c T94 ok (by omega) s).mono ?_
    rintro e w97 (⟨hb, _⟩ | ⟨_, p, c, K, ib8, rfl, hK, hKi, f97, row97, hp97, T97⟩)
    · omega
    exact ⟨_, _, _, _, rfl, g_keep f97 (fun x hx => by simp at hx; subst hx; exact ⟨n94.2, fun hm => by have := T.lt _ hm; omega⟩), bF rfl (after _ N own ib8 _ _ (by omega) T97 (rel_ok ok hKi) (F94.trans f97 (fun x hx => .inr (hown x hx))) hown (al_rel hal s K))⟩
  · have n102 := g_new1 st102
    have T102 := T.fr st102.fr (fun x _ => by simp)
    have F102 := f11.trans' st102.fr
    obtain ⟨ha1, ha2⟩ := al_ask (W := W) hal s (x : Int) o.alone ⟨hs1, hs2⟩
    refine (ask_c T102 ok s (i := (x : Int)) (by unfold inR; omega) o.alone).mono ?_
    rintro e w105 ⟨rfl, own', ib', f105, hsub, hnew, T105⟩
    have z102 := F102.size
    have z105 := f105.size
    have k21n : ∀ y ∈ own, y ≠ k21 := fun y hy => by have := T.lt y hy; omega
    have fin : y22 w105 := after _ (N + 1) own' ib' _ _ (by omega) T105 (ask_ok ok s (x : Int) o.alone) (F102.trans f105 (fun x hx => .inr (hown x hx))) (fun x hx => by
      rcases hnew x hx with h | h
      · exact hown x h
      · omega) ha1
    refine ⟨_, rfl, g_keep f105 (fun x hx => by simp at hx; subst hx; exact ⟨n102.2, fun hm => k21n _ hm rfl⟩), bc (fun h0 => ?_) fun _ => fin⟩
    have h0 : (ask W M s (x : Int) o.alone).2.2 = 0 := of_decide_eq_true h0
    obtain ⟨b, hb, hba⟩ := ha2 h0
    refine (holds_c T105 s (x : Int)).mono ?_
    rintro e w108 ⟨rfl, rfl⟩
    rw [hb]
    refine ⟨_, _, rfl, fun y hy => rfl, fun y111 hy111 => bF rfl (bc (fun ht => ?_) fun _ => hy111 _ _ (bF rfl fin))⟩
    have hbt := hba ht
    subst hbt
    exact hy111 _ _ (bF rfl fin)
end Go.Proofs.Ytnimejocaaekaaa.Lock
