/- LockPlays: Tells, and the walk. -/
import Derived.Test.YtnimejocaaekaaaQI
import Derived.Test.YtnimejocaaekaaaQS
import Derived.Test.YtnimejocaaekaaaC9
import Derived.Test.YtnimejocaaekaaaL6
namespace Go.Proofs.Ytnimejocaaekaaa.Lock
open Go Go.V
open Go.Proofs.Ytnimejocaaekaaa.VC
open Go.Proofs.Try (prog)
set_option linter.unusedVariables false
set_option linter.unusedSimpArgs false
set_option maxRecDepth 20000

theorem blockersL_c {w : World} {own : List Nat} {tb mi mw : Nat} {ib : Int → Option IB} {N : Nat} {W : Int → Option Int} {M : Int → IM} (t : TabAt w own tb mi mw ib N W M) (ok : TOk W M) {h q : List LK} (r : RT h q M) (s : Int) :
    Calls prog 16 #[D tb, I64 s] w fun e w' => Fr [] w w' ∧ ∃ p c, e = .returned (.slice p (lblock h q s).length c) ∧ Row w' p ((lblock h q s).map I64) := by
  refine (blockers_c t ok s).mono ?_
  rintro e w' ⟨f, hb⟩
  refine ⟨f, ?_⟩
  rcases hb with ⟨hw, rfl⟩ | ⟨it, al, p, c, l, hw, hm, rfl, hr, hp, hx⟩
  · have e := lblock_none h (q := q) (s := s) (by rw [← r.waits ok, hw])
    exact ⟨none, 0, by rw [e]; rfl, by rw [e]; exact Row.nil _ _⟩
  · have e := lblock_R r ok hw hm hp hx
    rw [← e]
    exact ⟨p, c, rfl, hr⟩
theorem eqb_not (a b : Bool) (h : a = b) : (!(a == b)) = false := by subst h; cases a <;> rfl

set_option maxHeartbeats 1000000 in
theorem tells_c {w : World} {own : List Nat} {tb mi mw : Nat} {ib : Int → Option IB} {N : Nat} {W : Int → Option Int} {M : Int → IM} (t : TabAt w own tb mi mw ib N W M) (ok : TOk W M) {h q : List LK} (r : RT h q M) (hl : h.length + q.length ≤ 10000)
    {hA qA iA : Option Addr} {hC qC iC : Nat} {items : List Int} (hh : Row w hA (lcells h)) (hq : Row w qA (lcells q)) (hi : Row w iA (items.map I64)) (hil : items.length ≤ 20) :
    Calls prog 20 #[D tb, .agg #[.slice hA h.length hC, .slice qA q.length qC], .slice iA items.length iC] w fun e w' => e = .returned (.bool true) ∧ Fr [] w w' := by
  refine rhizomelaw16_Tells.link fun k1 => ⟨fun m n w' => ∃ j : Nat, n = j ∧ j ≤ 18 ∧ m = 18 - j ∧ Fr [] w w' ∧ k1 < w'.heap.size, 18, fun w4 s4 => ⟨0, rfl, by omega, rfl, s4.fr, by have := g_new1 s4; omega⟩, ?_⟩
  rintro m n w8 ⟨j, rfl, hj, rfl, f8, hk⟩
  have z8 := f8.size
  refine bc (fun hlt => ?_) fun hge w65 s65 => ?_
  · have hlt : (j : Int) ≤ 17 := of_decide_eq_true hlt
    refine (waits_c (t.fr f8 (fun _ _ => by simp)) ok (j : Int)).mono ?_
    rintro e10 w11 ⟨f11, hw⟩
    have z11 := f11.size
    have F11 := f8.trans' f11
    obtain ⟨n12, b13, b14, rfl, hcase⟩ : ∃ n12 b13 b14, e10 = .returned (.tuple #[I64 n12, .bool b13, .bool b14]) ∧ ((W (j : Int) = none ∧ n12 = 0 ∧ b13 = false ∧ b14 = false) ∨ (∃ i al, W (j : Int) = some i ∧ ((j : Int), al) ∈ (M i).Q ∧ n12 = i ∧ b13 = al ∧ b14 = true)) := by
      rcases hw with ⟨h1, rfl⟩ | ⟨i, al, h1, h2, rfl⟩
      · exact ⟨_, _, _, rfl, .inl ⟨h1, rfl, rfl, rfl⟩⟩
      · exact ⟨_, _, _, rfl, .inr ⟨i, al, h1, h2, rfl, rfl, rfl⟩⟩
    refine ⟨n12, b13, b14, rfl, keepF f11 (by simp; omega), (rat_c (hq.old F11) (by omega) (j : Int)).mono ?_⟩
    rintro e15 w16 ⟨f16, n17, rfl, hat⟩
    have z16 := f16.size
    have F16 := F11.trans' f16
    refine ⟨n17, rfl, keepF f16 (by simp; omega), fun y18 hy18 => ?_⟩
    have good : y18 false w16 := hy18 _ _ (bF rfl fun w21 s21 => by
      have z21 := s21.fr.size
      have F21 := F16.trans' s21.fr
      refine (blockersL_c (t.fr F21 (fun _ _ => by simp)) ok r (j : Int)).mono ?_
      rintro e23 w24 ⟨f24, p25, c27, rfl, r25⟩
      have z24 := f24.size
      have F24 := F21.trans' f24
      refine ⟨p25, _, c27, rfl, keepF f24 (by simp; omega), (rblock_c (hh.old F24) (hq.old F24) (by omega) (j : Int)).mono ?_⟩
      rintro e28 w29 ⟨f29, p30, c32, rfl, r30, _⟩
      have z29 := f29.size
      have F29 := F24.trans' f29
      have hbl := lblock_len h q (j : Int)
      refine ⟨p30, _, c32, rfl, keepF f29 (by simp; omega), (ints_c (r25.old f29) r30 (by omega)).mono ?_⟩
      rintro e33 w34 ⟨rfl, f34⟩
      have z34 := f34.size
      have F34 := F29.trans' f34
      refine ⟨_, rfl, keepF f34 (by simp; omega), bF rfl ⟨fun m n w' => ∃ x : Nat, n = x ∧ x ≤ items.length ∧ m = items.length - x ∧ Fr [] w w' ∧ k1 < w'.heap.size, items.length, ⟨0, rfl, by omega, rfl, F34, by omega⟩, ?_⟩⟩
      rintro m n w40 ⟨x, rfl, hx, rfl, f40, hk40⟩
      refine bc (fun hlt2 => ?_) fun _ => ⟨18 - (j + 1), by omega, j + 1, by rw [wrapi (by omega) (by omega)]; simp, by omega, rfl, f40, hk40⟩
      have hlt2 : (x : Int) < (items.length : Int) := of_decide_eq_true hlt2
      have hlt2' : x < items.length := by omega
      refine rd kenc (hi.old f40) rfl hlt2' hlt2 ((holds_c (t.fr f40 (fun _ _ => by simp)) (j : Int) items[x]).mono ?_)
      rintro e44 w45 ⟨rfl, rfl⟩
      rw [r.H]
      refine ⟨_, _, rfl, fun y hy => rfl, (rholds_c (hh.old f40) (by omega) (j : Int) items[x]).mono ?_⟩
      rintro e48 w49 ⟨f49, rfl⟩
      have z49 := f49.size
      refine ⟨_, _, rfl, keepF f49 (by simp; omega), fun y52 hy52 => ?_⟩
      have fin : y52 false w49 := hy52 _ _ (bF rfl ⟨items.length - (x + 1), by omega, x + 1, by rw [wrapi (by omega) (by omega)]; simp, by omega, rfl, f40.trans' f49, by omega⟩)
      refine bF (eqb_not _ _ rfl) ?_
      rw [eqb_not _ _ rfl]; exact fin)
    rcases hcase with ⟨h1, rfl, rfl, rfl⟩ | ⟨i, al, h1, h2, rfl, rfl, rfl⟩
    · have hn : n17 = -1 := by
        rcases hat with ⟨e, _⟩ | ⟨i, rfl, hi, he, _⟩
        · exact e
        · exfalso
          rw [r.waits ok] at h1
          unfold waitL at h1
          rw [Option.map_eq_none_iff, List.find?_eq_none] at h1
          exact h1 _ (List.getElem_mem hi) (by simpa using he)
      subst hn
      exact bF (by decide) (bF (by decide) (bT (by decide) (bF (by decide) good)))
    · have hm : ⟨(j : Int), n12, b13⟩ ∈ q := by rw [r.Q] at h2; exact qOf_mem.1 h2
      rcases hat with ⟨rfl, hno⟩ | ⟨i, rfl, hi, he, _⟩
      · exact absurd rfl (hno _ hm)
      · have f1 := find_s r.qn hm
        have f2 := find_s r.qn (List.getElem_mem hi)
        rw [he] at f2
        rw [f2] at f1
        injection f1 with f1
        have g1 : q[i].item = n12 := by rw [f1]
        have g2 : q[i].alone = b13 := by rw [f1]
        obtain ⟨ad, hp, c0, c1, c2⟩ := lread (hq.old F16) hi
        have e0 : (i : Int).toNat * 3 = i * 3 := by omega
        have hpos : decide ((0 : Int) ≤ (i : Int)) = true := by simp
        have hneg : decide ((i : Int) < 0) = false := by simp
        refine bF (by rw [hpos]; rfl) (bT hpos ⟨ad, hp, ⟨by omega, by omega⟩, _, by rw [e0]; exact c1, bF (by rw [g1]; simp) ⟨ad, hp, ⟨by omega, by omega⟩, _, by rw [e0]; exact c2, bF (eqb_not _ _ g2.symm) (bF hneg good)⟩⟩)
  · have z65 := s65.fr.size
    have F65 := f8.trans' s65.fr
    refine (edges_c (t.fr F65 (fun _ _ => by simp)) ok r hl).mono ?_
    rintro e67 w68 ⟨f68, p69, c71, rfl, r69⟩
    have z68 := f68.size
    have F68 := F65.trans' f68
    refine ⟨p69, _, c71, rfl, keepF f68 (by simp; omega), (redges_c (hh.old F68) (hq.old F68) hl).mono ?_⟩
    rintro e72 w73 ⟨f73, p74, c76, rfl, r74⟩
    have z73 := f73.size
    have F73 := F68.trans' f73
    have R69 := r69.old f73
    have hel : (edgesOf h q (upTo 16)).length ≤ 16 * 10000 := by
      have := edgesOf_len h q (upTo 16)
      have hu : (upTo 16).length = 16 := by simp [upTo]
      rw [hu] at this
      exact Nat.le_trans this (Nat.mul_le_mul (Nat.le_refl _) hl)
    generalize edgesOf h q (upTo 16) = es at *
    refine ⟨p74, _, c76, rfl, keepF f73 (by simp; omega), bF (by simp) ⟨fun m n w' => ∃ x : Nat, n = x ∧ x ≤ es.length ∧ m = es.length - x ∧ Fr [] w73 w', es.length, ⟨0, rfl, by omega, rfl, Fr.refl _ _⟩, ?_⟩⟩
    rintro m n w81 ⟨x, rfl, hx, rfl, f81⟩
    refine bc (fun hlt2 => ?_) fun _ => ⟨rfl, F73.trans' f81⟩
    have hlt2 : (x : Int) < (es.length : Int) := of_decide_eq_true hlt2
    have hlt2' : x < es.length := by omega
    obtain ⟨ad1, hp1, g1⟩ := (R69.old f81).atF flatE (by decide) hlt2'
    obtain ⟨ad2, hp2, g2⟩ := (r74.old f81).atF flatE (by decide) hlt2'
    have e0 : (x : Int).toNat * 2 = x * 2 := by omega
    refine ⟨ad1, hp1, ⟨by omega, hlt2⟩, _, _, ⟨by rw [e0]; exact g1 0 _ rfl, by rw [e0]; exact g1 1 _ rfl, trivial⟩, ad2, hp2, ⟨by omega, hlt2⟩, _, _, ⟨by rw [e0]; exact g2 0 _ rfl, by rw [e0]; exact g2 1 _ rfl, trivial⟩, bF (by simp [conj]) ⟨es.length - (x + 1), by omega, fun w92 s92 => ⟨x + 1, by rw [wrapi (by omega) (by omega)]; simp, by omega, rfl, f81.trans' s92.fr⟩⟩⟩

theorem lask_len (h q : List LK) (s i : Int) (al : Bool) : (lask h q s i al).1.1.length + (lask h q s i al).1.2.length ≤ h.length + q.length + 1 := by
  unfold lask
  have h1 := lhold_len h ⟨s, i, al⟩
  have h2 := (lput_perm h q ⟨s, i, al⟩).length_eq
  rw [List.length_cons] at h2
  split
  · simp
  · split
    · simp
    · split
      · simp
      · split <;> simp <;> omega
theorem lrel_len (h q : List LK) (s : Int) : (lrel h q s).1.1.length + (lrel h q s).1.2.length ≤ h.length + q.length ∧ (lrel h q s).2.length ≤ q.length := by
  unfold lrel
  have := lrun_len (ritems h q s) ((h.filter fun a => !isS s a, q.filter fun a => !isS s a), [])
  have h1 := List.length_filter_le (fun a => !isS s a) h
  have h2 := List.length_filter_le (fun a => !isS s a) q
  simp only [List.length_nil, Nat.zero_add] at this
  omega

set_option maxHeartbeats 2000000 in
theorem plays_walk (w : World) {a : Option Addr} {len cap : Nat} {z : List KOp} (hz : IsKOps w a len z) :
    Calls prog 6 #[.slice a len cap] w fun e w' => e = .returned (.bool true) ∧ RowKit.Below w.heap.size w w' := by
  have below : ∀ w', Fr [] w w' → RowKit.Below w.heap.size w w' := fun w' f => f.below (Nat.le_refl _) (fun x hx => by cases hx)
  refine rhizomelaw16_LockPlays.link ((new_c w).mono ?_)
  rintro e w2 ⟨own, tb, mi, mw, rfl, f2, hown, T2⟩
  refine ⟨_, rfl, fun y4 hy4 => (awake_c w2).mono ?_⟩
  rintro e w113 ⟨rfl, f113⟩
  have T113 := T2.fr f113 (fun x _ => by simp)
  refine ⟨_, rfl, bF rfl (hy4 _ _ (bF rfl fun k7 => ?_))⟩
  clear hy4
  refine ⟨fun m p13 k14 c15 n p17 k18 c19 p20 k21 c22 w' => ∃ (i B N : Nat) (own : List Nat) (ib : Int → Option IB) (W : Int → Option Int) (M : Int → IM) (h q : List LK) (items : List Int), n = i ∧ i ≤ 80 ∧ m = 80 - i ∧ N ≤ i ∧ k14 = items.length ∧ k18 = h.length ∧ k21 = q.length ∧ q.length ≤ c22 ∧ items.length ≤ 20 ∧ h.length + q.length ≤ i ∧
    TabAt w' own tb mi mw ib N W M ∧ TOk W M ∧ RT h q M ∧ OwnZ w' B 1 p13 items.length c15 (items.map I64) ∧ Row w' p17 (lcells h) ∧ Row w' p20 (lcells q) ∧ Fr [] w w' ∧ w.heap.size ≤ B ∧ (w.heap.size ≤ k7 ∧ k7 < B) ∧ B ≤ w'.heap.size ∧ (∀ x ∈ own, w.heap.size ≤ x ∧ x ≠ k7 ∧ (∀ ad, p13 = some ad → ad.block ≠ x) ∧ (∀ ad, p17 = some ad → ad.block ≠ x) ∧ (∀ ad, p20 = some ad → ad.block ≠ x)) ∧
    ne2 p13 p17 ∧ ne2 p13 p20 ∧ newA B w' p17 ∧ newA B w' p20, 80, fun w10 s10 => ?_, ?_⟩
  · have n10 := g_new1 s10
    have F10 := (f2.trans' f113).trans' s10.fr
    have z10 := (f2.trans' f113).size
    exact ⟨0, w10.heap.size, 0, own, _, _, _, [], [], [], rfl, by omega, rfl, Nat.le_refl _, rfl, rfl, rfl, by simp, by simp, by simp, T113.fr s10.fr (fun x _ => by simp), TOk.empty, RT.empty, OwnZ.nil _ _ _, Row.nil _ _, Row.nil _ _, F10, by have := s10.fr.size; omega, by omega, by omega, fun x hx => ⟨hown x hx, by have := T113.lt x hx; omega, fun _ h => (by cases h), fun _ h => (by cases h), fun _ h => (by cases h)⟩, fun _ h => (by cases h), fun _ h => (by cases h), fun _ h => (by cases h), fun _ h => (by cases h)⟩
  clear hown T2 T113
  rintro m p13 k14 c15 n p17 k18 c19 p20 k21 c22 w23 ⟨i, B, N, own, ib, W, M, h, q, items, rfl, hi, rfl, hN, rfl, rfl, rfl, hqc, hil, hhl, T, ok, r, oi, rh, rq, f23, hB, hk7, hB2, hsep, d1, d2, a1, a2⟩ y25 hy25
  have done : y25 false w23 := hy25 _ _ (bF rfl ⟨rfl, below _ f23⟩)
  refine bc (fun hlt => ?_) fun _ => done
  cases h80 : decide ((i : Int) < 80) with
  | false => exact done
  | true =>
  clear done
  have h80 : (i : Int) < 80 := of_decide_eq_true h80
  have hlt : (i : Int) < (len : Int) := of_decide_eq_true hlt
  refine hy25 _ _ (bT rfl ?_)
  clear hy25
  obtain ⟨o, ad, hr, rfl, c0, c1, c2, c3⟩ := hz.get f23 (i := i) (by omega)
  have e0 : (i : Int).toNat * 4 = i * 4 := by omega
  refine ⟨ad, rfl, ⟨by omega, hlt⟩, _, _, _, _, ⟨by rw [e0]; exact c0, by rw [e0]; exact c1, by rw [e0]; exact c2, by rw [e0]; exact c3, trivial⟩, fun k33 y34 hy34 => ?_⟩
  clear c0 c1 c2 c3
  -- behind the items
  have main : ∀ (its : List Int) (p35 : Option Addr) (c37 : Nat) (w38 : World), its.length ≤ 20 → OwnZ w38 B 1 p35 its.length c37 (its.map I64) → Fr (pb p13) w23 w38 → Fr [] w w38 → w23.heap.size ≤ k33 ∧ k33 < w38.heap.size → (∀ ad, p35 = some ad → p13 = some ad ∨ w23.heap.size ≤ ad.block) → y34 p35 its.length c37 w38 := by
    intro its p35 c37 w38 hit o35 f38 F38 hk33 d35
    have z38 := f38.size
    have T38 : TabAt w38 own tb mi mw ib N W M := T.fr f38 (fun x hx hm => by
      obtain ⟨ad, hp, e⟩ := (g_mem_pb _ _).1 hm
      exact (hsep x hx).2.2.1 ad hp e)
    have rh38 : Row w38 p17 (lcells h) := rh.fr f38 (fun a ha hm => by
      obtain ⟨a', h1, h2⟩ := (g_mem_pb _ _).1 hm
      exact d1 a' h1 a ha h2.symm)
    have rq38 : Row w38 p20 (lcells q) := rq.fr f38 (fun a ha hm => by
      obtain ⟨a', h1, h2⟩ := (g_mem_pb _ _).1 hm
      exact d2 a' h1 a ha h2.symm)
    refine hy34 _ _ _ _ fun y39 hy39 => ?_
    clear hy34
    have fin : ∀ (own' : List Nat) (ib' : Int → Option IB) (N' : Nat) (W' : Int → Option Int) (M' : Int → IM) (h' q' : List LK) (p40 : Option Addr) (c42 : Nat) (p43 : Option Addr) (c45 : Nat) (w46 : World), N' ≤ i + 1 → q'.length ≤ c45 → h'.length + q'.length ≤ i + 1 → TabAt w46 own' tb mi mw ib' N' W' M' → TOk W' M' → RT h' q' M' → Row w46 p40 (lcells h') → Row w46 p43 (lcells q') → Fr (k7 :: own) w38 w46 → (∀ x ∈ own', x ∈ own ∨ w38.heap.size ≤ x) →
        (∀ ad, p40 = some ad → (p17 = some ad ∨ w38.heap.size ≤ ad.block) ∧ ad.block < w46.heap.size ∧ ∀ x ∈ own', ad.block ≠ x) → (∀ ad, p43 = some ad → (p20 = some ad ∨ w38.heap.size ≤ ad.block) ∧ ad.block < w46.heap.size ∧ ∀ x ∈ own', ad.block ≠ x) → y39 p40 h'.length c42 p43 q'.length c45 w46 := by
      intro own' ib' N' W' M' h' q' p40 c42 p43 c45 w46 hN' hqc' hhl' T46 ok46 r46 rh46 rq46 f46 hnew a40 a43
      have z46 := f46.size
      have F46 : Fr [] w w46 := F38.trans f46 (fun x hx => by
        rcases List.mem_cons.1 hx with rfl | hx
        · exact .inr hk7.1
        · exact .inr (hsep x hx).1)
      have b35 : ∀ ad, p35 = some ad → ad.block < w38.heap.size := fun ad hp => (o35.lt hp).2
      have n35 : ∀ ad, p35 = some ad → ad.block ∉ k7 :: own := fun ad hp hm => by
        rcases List.mem_cons.1 hm with e | hm
        · have := (o35.lt hp).1; omega
        · rcases d35 ad hp with h1 | h1
          · exact (hsep _ hm).2.2.1 ad h1 rfl
          · have := T.lt _ hm; omega
      have o46 := o35.fr f46 n35
      refine hy39 _ _ _ _ _ _ _ ((tells_c T46 ok46 r46 (by omega) rh46 rq46 o46.row hit).mono ?_)
      rintro e47 w48 ⟨rfl, f48⟩
      have z48 := f48.size
      have dd : ∀ pp pp' : Option Addr, ne2 p13 pp' → newA B w23 pp' → (∀ ad, pp = some ad → (pp' = some ad ∨ w38.heap.size ≤ ad.block) ∧ ad.block < w46.heap.size ∧ ∀ x ∈ own', ad.block ≠ x) → ne2 p35 pp := fun pp pp' hd hn hp a ha a' ha' => by
        rcases (hp a' ha').1 with h1 | h1
        · rcases d35 a ha with h2 | h2
          · exact hd a h2 a' h1
          · have := (hn a' h1).2; omega
        · have := b35 a ha; omega
      refine ⟨_, rfl, keepF f48 (by simp; omega), bF rfl ⟨80 - (i + 1), by omega, i + 1, B, N', own', ib', W', M', h', q', its, by rw [wrapi (by omega) (by omega)]; simp, by omega, rfl, hN', rfl, rfl, rfl, hqc', hit, hhl', T46.fr f48 (fun x _ => by simp), ok46, r46, o46.fr f48 (fun _ _ => by simp), rh46.old f48, rq46.old f48, F46.trans' f48, hB, hk7, by omega, fun x hx => ⟨?_, ?_, fun ad hp e => ?_, fun ad hp => (a40 ad hp).2.2 x hx, fun ad hp => (a43 ad hp).2.2 x hx⟩, dd _ _ d1 a1 a40, dd _ _ d2 a2 a43, fun ad hp => ?_, fun ad hp => ?_⟩⟩
      · rcases hnew x hx with h1 | h1
        · exact (hsep x h1).1
        · have := F38.size; omega
      · rcases hnew x hx with h1 | h1
        · exact (hsep x h1).2.1
        · omega
      · rcases hnew x hx with h1 | h1
        · exact n35 ad hp (by rw [e]; exact List.mem_cons_of_mem _ h1)
        · have := b35 ad hp; omega
      · obtain ⟨h1, h2, _⟩ := a40 ad hp
        rcases h1 with h1 | h1
        · have := a1 ad h1; omega
        · omega
      · obtain ⟨h1, h2, _⟩ := a43 ad hp
        rcases h1 with h1 | h1
        · have := a2 ad h1; omega
        · omega
    clear hy39
    have nk7 : ∀ x ∈ own, x ≠ k33 := fun x hx => by have := T.lt x hx; omega
    have l17 : ∀ {v : World}, w38.heap.size ≤ v.heap.size → lowA v p17 := fun hv ad hp => by have := (a1 ad hp).2; omega
    have l20 : ∀ {v : World}, w38.heap.size ≤ v.heap.size → lowA v p20 := fun hv ad hp => by have := (a2 ad hp).2; omega
    have n17 : ∀ ad, p17 = some ad → ad.block ∉ own := fun ad hp hm => (hsep _ hm).2.2.2.1 ad hp rfl
    have n20 : ∀ ad, p20 = some ad → ad.block ∉ own := fun ad hp hm => (hsep _ hm).2.2.2.2 ad hp rfl
    refine bc (fun _ => ?_) fun _ => ?_
    · refine (release_c T38 ok (by omega) o.s).mono ?_
      rintro e53 w54 (⟨hs, rfl, f54⟩ | ⟨hs, p, c, K, ib8, rfl, hK, hKi, f54, row54, hp54, T54⟩)
      · have z54 := f54.size
        refine ⟨none, 0, 0, 1, rfl, keepF f54 (by simp; omega), (rrel_c (rh38.old f54) (rq38.old f54) (l17 z54) (l20 z54) hqc (by omega) o.s).mono ?_⟩
        rintro e59 w60 ⟨f60, hbad, _⟩
        obtain rfl := hbad hs
        have z60 := f60.size
        refine ⟨p17, _, c19, p20, _, c22, none, 0, 0, 1, rfl, keepF f60 (by simp; omega), fun y71 hy71 => bF (by decide) fun w78 s78 => ?_⟩
        have z78 := s78.fr.size
        refine (ints_c (l := []) (Row.nil _ _) (Row.nil _ _) (by simp)).mono ?_
        rintro e80 w81 ⟨rfl, f81⟩
        have z81 := f81.size
        have G : Fr [k7] w38 w81 := (((f54.trans' f60).mono (fun x hx => by cases hx)).trans' s78.fr).trans f81 (fun x hx => by cases hx)
        have g17 : ∀ ad, p17 = some ad → ad.block ∉ [k7] := fun ad hp => by have := (a1 ad hp).1; simp; omega
        have g20 : ∀ ad, p20 = some ad → ad.block ∉ [k7] := fun ad hp => by have := (a2 ad hp).1; simp; omega
        refine ⟨_, rfl, keepF f81 (by simp; omega), hy71 _ _ (bF rfl (fin own ib N W M h q p17 c19 p20 c22 w81 (by omega) hqc (by omega) (T38.fr G (fun x hx => by have := (hsep x hx).2.1; simp; exact this)) ok r (rh38.fr G g17) (rq38.fr G g20) (G.mono (fun x hx => .inl (by rw [List.mem_singleton.1 hx]; simp))) (fun x hx => .inl hx) (fun ad hp => ⟨.inl hp, by have := (a1 ad hp).2; omega, fun x hx e => n17 ad hp (by rw [e]; exact hx)⟩) (fun ad hp => ⟨.inl hp, by have := (a2 ad hp).2; omega, fun x hx e => n20 ad hp (by rw [e]; exact hx)⟩)))⟩
      · have z54 := f54.size
        refine ⟨p, _, c, 0, rfl, g_keep f54 (fun x hx => ?_), (rrel_c (rh38.fr f54 n17) (rq38.fr f54 n20) (l17 z54) (l20 z54) hqc (by omega) o.s).mono ?_⟩
        · rcases List.mem_cons.1 hx with rfl | hx
          · exact ⟨by omega, fun hm => (hsep _ hm).2.1 rfl⟩
          · rw [List.mem_singleton.1 hx]; exact ⟨hk33.2, fun hm => nk7 _ hm rfl⟩
        rintro e59 w60 ⟨f60, _, hgood⟩
        obtain ⟨p61, c63, p64, c66, p67, c69, rfl, ⟨t1, t2, t3, t4, t5⟩, r67, g67⟩ := hgood hs
        have z60 := f60.size
        obtain ⟨r2, eo⟩ := lrel_R r o.s hK hKi
        obtain ⟨hl1, hl2⟩ := lrel_len h q o.s
        rw [eo] at r67 hl2 ⊢
        refine ⟨p61, _, c63, p64, _, c66, p67, _, c69, 0, rfl, keepF f60 (by simp; omega), fun y71 hy71 => bF (by decide) fun w78 s78 => ?_⟩
        have z78 := s78.fr.size
        refine (ints_c ((row54.old f60).fr s78.fr (fun ad hp => by have := hp54 ad hp; simp; omega)) (r67.fr s78.fr (fun ad hp => by have := g67 ad hp; simp; omega)) (by omega)).mono ?_
        rintro e80 w81 ⟨rfl, f81⟩
        have z81 := f81.size
        have G : Fr [k7] w54 w81 := ((f60.mono (fun x hx => by cases hx)).trans' s78.fr).trans f81 (fun x hx => by cases hx)
        have H : Fr [k7] w60 w81 := s78.fr.trans f81 (fun x hx => by cases hx)
        have G2 : Fr (k7 :: own) w38 w81 := (f54.mono (fun x hx => .inl (List.mem_cons_of_mem _ hx))).trans G (fun x hx => .inl (by rw [List.mem_singleton.1 hx]; simp))
        have in61 : ∀ ad, p61 = some ad → (p17 = some ad ∨ w38.heap.size ≤ ad.block) ∧ ad.block < w81.heap.size ∧ ∀ x ∈ own, ad.block ≠ x := fun ad hp => by
          obtain ⟨h1, h2⟩ := t4 ad hp
          refine ⟨h1.imp id (by omega), by omega, fun x hx e => ?_⟩
          rcases h1 with h1 | h1
          · exact n17 ad h1 (by rw [e]; exact hx)
          · have := T38.lt x hx; omega
        have in64 : ∀ ad, p64 = some ad → (p20 = some ad ∨ w38.heap.size ≤ ad.block) ∧ ad.block < w81.heap.size ∧ ∀ x ∈ own, ad.block ≠ x := fun ad hp => by
          obtain ⟨h1, h2⟩ := t5 ad hp
          refine ⟨h1.imp id (by omega), by omega, fun x hx e => ?_⟩
          rcases h1 with h1 | h1
          · exact n20 ad h1 (by rw [e]; exact hx)
          · have := T38.lt x hx; omega
        have g61 : ∀ ad, p61 = some ad → ad.block ∉ [k7] := fun ad hp => by
          rcases (t4 ad hp).1 with h1 | h1
          · have := (a1 ad h1).1; simp; omega
          · simp; omega
        have g64 : ∀ ad, p64 = some ad → ad.block ∉ [k7] := fun ad hp => by
          rcases (t5 ad hp).1 with h1 | h1
          · have := (a2 ad h1).1; simp; omega
          · simp; omega
        refine ⟨_, rfl, keepF f81 (by simp; omega), hy71 _ _ (bF rfl (fin own ib8 N _ _ _ _ p61 c63 p64 c66 w81 (by omega) t3 (by omega) (T54.fr G (fun x hx => by have := (hsep x hx).2.1; simp; exact this)) (rel_ok ok hKi) r2 (t1.fr H g61) (t2.fr H g64) G2 (fun x hx => .inl hx) in61 in64))⟩
    · refine (ask_c T38 ok o.s hr o.alone).mono ?_
      rintro e83 w84 ⟨rfl, own', ib', f84, hsub, hnew, T84⟩
      have z84 := f84.size
      refine ⟨_, rfl, g_keep f84 (fun x hx => ?_), (rask_c (rh38.fr f84 n17) (rq38.fr f84 n20) (l17 z84) (l20 z84) hqc (by omega) o.s o.item o.alone).mono ?_⟩
      · rcases List.mem_cons.1 hx with rfl | hx
        · exact ⟨by omega, fun hm => (hsep _ hm).2.1 rfl⟩
        · rw [List.mem_singleton.1 hx]; exact ⟨hk33.2, fun hm => nk7 _ hm rfl⟩
      rintro e86 w87 ⟨f87, p88, c90, p91, c93, rfl, t1, t2, t3, t4, t5⟩
      have z87 := f87.size
      obtain ⟨r2, ec⟩ := lask_R r ok o.s o.item o.alone
      have hl1 := lask_len h q o.s o.item o.alone
      refine ⟨p88, _, c90, p91, _, c93, _, rfl, keepF f87 (by simp; omega), bF (by rw [ec]; simp) fun w97 s97 => ?_⟩
      have z97 := s97.fr.size
      have lt84 := T84.lt
      have nk : ∀ x ∈ own', x ≠ k7 := fun x hx => by
        rcases hnew x hx with h1 | h1
        · exact (hsep x h1).2.1
        · omega
      have H : Fr [k7] w84 w97 := (f87.mono (fun x hx => by cases hx)).trans' s97.fr
      have G2 : Fr (k7 :: own) w38 w97 := (f84.mono (fun x hx => .inl (List.mem_cons_of_mem _ hx))).trans H (fun x hx => .inl (by rw [List.mem_singleton.1 hx]; simp))
      have inx : ∀ (pp p : Option Addr), (∀ ad, pp = some ad → ad.block < w23.heap.size ∧ B ≤ ad.block ∧ ad.block ∉ own) → orNew w84 w87 w84.heap.size pp p → ∀ ad, p = some ad → (pp = some ad ∨ w38.heap.size ≤ ad.block) ∧ ad.block < w97.heap.size ∧ ad.block ≠ k7 ∧ ∀ x ∈ own', ad.block ≠ x := fun pp p h1 h2 ad hp => by
        obtain ⟨h3, h4⟩ := h2 ad hp
        rcases h3 with h3 | h3
        · obtain ⟨g1, g2, g3⟩ := h1 ad h3
          refine ⟨.inl h3, by omega, by omega, fun x hx e => ?_⟩
          rcases hnew x hx with h5 | h5
          · exact g3 (by rw [e]; exact h5)
          · omega
        · exact ⟨.inr (by omega), by omega, by omega, fun x hx e => by have := lt84 x hx; omega⟩
      have in88 := inx p17 p88 (fun ad hp => ⟨(a1 ad hp).2, (a1 ad hp).1, n17 ad hp⟩) t4
      have in91 := inx p20 p91 (fun ad hp => ⟨(a2 ad hp).2, (a2 ad hp).1, n20 ad hp⟩) t5
      exact fin own' ib' (N + 1) _ _ _ _ p88 c90 p91 c93 w97 (by omega) t3 (by omega) (T84.fr H (fun x hx => by simp; exact nk x hx)) (ask_ok ok o.s o.item o.alone) r2 (t1.fr s97.fr (fun ad hp => by simp; exact (in88 ad hp).2.2.1)) (t2.fr s97.fr (fun ad hp => by simp; exact (in91 ad hp).2.2.1)) G2 (fun x hx => hnew x hx) (fun ad hp => ⟨(in88 ad hp).1, (in88 ad hp).2.1, (in88 ad hp).2.2.2⟩) (fun ad hp => ⟨(in91 ad hp).1, (in91 ad hp).2.1, (in91 ad hp).2.2.2⟩)
  clear hy34
  refine bc (fun h20 k101 => ?_) fun h20 w106 s106 => ?_
  · have h20 : (items.length : Int) < 20 := of_decide_eq_true h20
    refine appM1 (C := I64) (fun _ => rfl) (x := o.item) (u := w) (B := B) oi f23 rfl hB hB2 (fun h => by cases h) (by simp) (fun ad hp => by have := oi.lt hp; simp; omega) (by omega) (by omega) fun w102 p103 c105 F102 G102 n102 o102 d102 => ?_
    exact main _ p103 c105 w102 (by simp; omega) o102 (by simpa using G102) F102 (n102 k33 (by simp)) d102
  · have n106 := g_new1 s106
    exact main items p13 c15 w106 hil (oi.fr s106.fr (fun _ _ => by simp)) (s106.fr.mono (fun x hx => by cases hx)) (f23.trans' s106.fr) n106 (fun ad hp => .inl hp)
end Go.Proofs.Ytnimejocaaekaaa.Lock

