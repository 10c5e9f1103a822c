/- Span: SpanPairs. -/
import Derived.Test.YtnplopiconabiaaSQ
import Derived.Test.YtnplopiconabiaaSI
import Derived.Test.YtnplopiconabiaaSR
import Derived.Test.YtnplopiconabiaaL3
namespace Go.Proofs.Ytnplopiconabiaa.Span
open Go Go.V
open Go.Proofs.Ytnplopiconabiaa.VC
open Go.Proofs.Try (prog)
set_option linter.unusedVariables false
set_option linter.unusedSimpArgs false
set_option maxRecDepth 20000

theorem sameEdges_c {w : World} {p q : Option Addr} {cp cq : Nat} {E : List EG} (hp : Row w p (E.flatMap gcell)) (hq : Row w q (E.flatMap gcell)) (hl : E.length < 1000000) :
    Calls prog 18 #[.slice p E.length cp, .slice q E.length cq] w fun e w' => e = .returned (.bool true) ∧ Fr [] w w' := by
  refine rhizomeref07_SameEdges.link (bF (by simp) ⟨fun m n w' => ∃ i : Nat, n = i ∧ i ≤ E.length ∧ m = E.length - i ∧ Fr [] w w', E.length, ⟨0, rfl, by omega, rfl, Fr.refl _ _⟩, ?_⟩)
  rintro m n w5 ⟨i, rfl, hi, rfl, f5⟩
  refine bc (fun hlt => ?_) fun _ => ⟨rfl, f5⟩
  have hlt : (i : Int) < (E.length : Int) := of_decide_eq_true hlt
  have hlt' : i < E.length := by omega
  obtain ⟨ad, hp1, g⟩ := (hp.old f5).atF flatG (by decide) hlt'
  obtain ⟨ad2, hp2, g2⟩ := (hq.old f5).atF flatG (by decide) hlt'
  have e0 : (i : Int).toNat * 3 = i * 3 := by omega
  refine ⟨ad, hp1, ⟨by omega, hlt⟩, _, _, _, ⟨by rw [e0]; exact g 0 _ rfl, by rw [e0]; exact g 1 _ rfl, by rw [e0]; exact g 2 _ rfl, trivial⟩, ad2, hp2, ⟨by omega, hlt⟩, _, _, _, ⟨by rw [e0]; exact g2 0 _ rfl, by rw [e0]; exact g2 1 _ rfl, by rw [e0]; exact g2 2 _ rfl, trivial⟩, bF (by simp [conj]) ⟨E.length - (i + 1), by omega, fun w18 s18 => ⟨i + 1, by rw [wrapi (by omega) (by omega)]; simp, by omega, rfl, f5.trans' s18.fr⟩⟩⟩
theorem tup_inj {w : World} {b : Nat} {x y : PI} (h : TupO w b x) (h' : TupO w b y) : x = y := by
  have a0 := h.row.get (j := 0) rfl rfl
  have a1 := h.row.get (j := 1) rfl rfl
  have b0 := h'.row.get (j := 0) rfl rfl
  have b1 := h'.row.get (j := 1) rfl rfl
  rw [a0] at b0
  rw [a1] at b1
  have e0 : I64 x.1 = I64 y.1 := Option.some.inj b0
  have e1 : I64 x.2 = I64 y.2 := Option.some.inj b1
  injection e0 with _ e0
  injection e1 with _ e1
  exact Prod.ext e0 e1

set_option maxHeartbeats 1000000 in
theorem pairs_walk {w : World} {lab : ByteArray} {eA : Option Addr} {eC : Nat} {E : List EG} (hE : Row w eA (E.flatMap gcell)) (hR : ∀ e ∈ E, inR e.f ∧ inR e.t) :
    Calls prog 3 #[.string lab, .slice eA E.length eC] w fun e w' => e = .returned (.bool true) ∧ Fr [] w w' := by
  refine rhizomelaw13_SpanPairs.link fun y1 h1 => (awake_c w).mono ?_
  rintro e46 w47 ⟨rfl, f47⟩
  have big : y1 true w47 := h1 _ _ (bT rfl ((awake_c w47).mono fun e w' h => by
    obtain ⟨rfl, f⟩ := h
    exact ⟨_, rfl, rfl, f47.trans' f⟩))
  refine ⟨_, rfl, bF rfl (bc (fun _ => big) fun hsm => ?_)⟩
  have hsm : ¬ (20 : Int) < (E.length : Int) := of_decide_eq_false hsm
  have hl20 : E.length ≤ 20 := by omega
  by_cases hbl : (300 : Int) < (ByteArray.size lab : Int)
  · rw [decide_eq_true hbl]; exact big
  clear big
  have hs : lab.size ≤ 1000000 := by omega
  rw [decide_eq_false hbl]
  refine h1 _ _ (bF rfl fun k7 w8 s8 b8 => ?_)
  clear h1
  have n8 := g_new1 s8
  have F8 := f47.trans' s8.fr
  have b8 : Blk w8 k7 [] := b8
  refine ⟨E.flatMap gcell, flatG.len E, hE.old F8, ?_⟩
  refine appN (f := gcell) flatG (ys := []) (zs := E) rfl (u := w) (B := w47.heap.size) (OwnZ.blk b8 rfl (by simp) n8.1) F8 rfl f47.size s8.fr.size (fun _ => rfl) (by simp) (fun ad hp x hx => by cases hx) (by simp; omega) (by simp; omega) fun w12 p13 c15 F12 _ _ o12 _ => ?_
  have r12 : Row w12 p13 (E.flatMap gcell) := o12.row
  refine (pairs_c (lab := lab) (eC := c15) r12 (by omega) (fun e he => (hR e he).1)).mono ?_
  rintro e16 w17 ⟨f17, hs17⟩
  have F17 := F12.trans' f17
  have hfew : ∀ X : List PI, X.Nodup → (∀ x ∈ X, Reach (succs E lab) x.1 x.2) → X.length ≤ 4000 := fun X hn hx => by
    have := few hn hx
    have : E.length * E.length ≤ 20 * 20 := Nat.mul_le_mul hl20 hl20
    omega
  have c16 := rpairs_c (lab := lab) (eC := eC) (hE.old F17) (by omega) hs
  -- the last part, in any world where all is as it was
  have fin : ∀ (p24 : Option Addr) (c26 : Nat) (Z2 : List ZP) (w35 : World), Fr [] w w35 → Row w35 p13 (E.flatMap gcell) → Row w35 p24 (Z2.map tz) → Tups w35 Z2 → (isName lab = true → (Z2.map (·.2)).Pairwise plt ∧ (∀ x, x ∈ Z2.map (·.2) ↔ Reach (succs E lab) x.1 x.2) ∧ Z2.length ≤ 4000) → (isName lab = false → Z2 = []) →
      Calls prog 15 #[.string lab, .slice p13 E.length c15] w35 fun e61 w62 => ∃ p63, ∃ k64, ∃ k65, ∃ n66, e61 = .returned (.tuple #[.slice p63 k64 k65, .int .i64 n66]) ∧ ∀ (y67 : Bool → World → Prop), (∀ (b68 : Bool) (w69 : World), (Ending.returned (.bool b68) = Ending.returned (.bool true) ∧ Fr [] w w69) → y67 b68 w69) →
        Calls prog 17 #[.slice p63 k64 k65, .slice p24 Z2.length c26] w62 fun e72 w73 => ∃ b74, e72 = .returned (.bool b74) ∧ bcase b74 (Calls prog 18 #[.slice p13 E.length c15, .slice eA E.length eC] w73 fun e75 w76 => ∃ b77, e75 = .returned (.bool b77) ∧ y67 b77 w76) (y67 false w73) := by
    intro p24 c26 Z2 w35 F35 r13 r24 t24 hgoodZ hbadZ
    refine (pairs_c (lab := lab) (eC := c15) r13 (by omega) (fun e he => (hR e he).1)).mono ?_
    rintro e61 w62 ⟨f62, hs62⟩
    have tail : ∀ (p63 : Option Addr) (c65 : Nat) (Z : List ZP) (y67 : Bool → World → Prop), (∀ (b68 : Bool) (w69 : World), (Ending.returned (.bool b68) = Ending.returned (.bool true) ∧ Fr [] w w69) → y67 b68 w69) → Row w62 p63 (Z.map tz) → Tups w62 Z → Z.length ≤ 4000 → Z.map (·.2) = Z2.map (·.2) →
        Calls prog 17 #[.slice p63 Z.length c65, .slice p24 Z2.length c26] w62 fun e72 w73 => ∃ b74, e72 = .returned (.bool b74) ∧ bcase b74 (Calls prog 18 #[.slice p13 E.length c15, .slice eA E.length eC] w73 fun e75 w76 => ∃ b77, e75 = .returned (.bool b77) ∧ y67 b77 w76) (y67 false w73) := by
      intro p63 c65 Z y67 h67 r63 t63 hl heq
      refine (same_c r63 t63 (r24.old f62) (fun z hz => (t24 z hz).fr f62 (by simp)) (by omega)).mono ?_
      rintro e72 w73 ⟨rfl, f73⟩
      rw [decide_eq_true heq]
      refine ⟨_, rfl, bT rfl ((sameEdges_c ((r13.old f62).old f73) (((hE.old F35).old f62).old f73) (by omega)).mono ?_)⟩
      rintro e75 w76 ⟨rfl, f76⟩
      exact ⟨_, rfl, h67 _ _ ⟨rfl, F35.trans' (f62.trans' (f73.trans' f76))⟩⟩
    by_cases hgood : isName lab = true
    · rw [hgood] at hs62
      obtain ⟨pb, Z, rfl, hZs, hZm, hZl, ⟨cz, oz⟩, tz, _, _⟩ := said_list hs62 hfew
      obtain ⟨s1, s2, s3⟩ := hgoodZ hgood
      exact ⟨_, _, _, _, rfl, fun y67 h67 => tail _ _ Z y67 h67 oz.1.row tz hZl (plt_ext hZs s1 fun x => by rw [hZm, s2])⟩
    · have hgood : isName lab = false := by simpa using hgood
      rw [hgood] at hs62
      rcases hs62 with ⟨_, rfl⟩ | ⟨h, _⟩
      · have := hbadZ hgood
        subst this
        exact ⟨_, _, _, _, rfl, fun y67 h67 => tail none 0 [] y67 h67 (Row.nil _ _) (fun z hz => by cases hz) (by simp) rfl⟩
      · cases h
  by_cases hgood : isName lab = true
  case neg =>
    have hgood : isName lab = false := by simpa using hgood
    rw [hgood] at hs17
    rcases hs17 with ⟨_, rfl⟩ | ⟨h, _⟩
    · refine ⟨_, _, _, _, rfl, c16.mono ?_⟩
      rintro e22 w23 ⟨f23, ⟨_, rfl⟩ | ⟨h, _⟩⟩
      · refine ⟨_, _, _, _, rfl, fun y28 h28 => bF rfl ?_⟩
        refine (same_c (l := none) (l' := none) (lC := 0) (lC' := 0) (Z := []) (Z' := []) (Row.nil _ _) (fun z hz => by cases hz) (Row.nil _ _) (fun z hz => by cases hz) (by simp)).mono ?_
        rintro e80 w81 ⟨rfl, f81⟩
        refine ⟨_, rfl, h28 _ _ (bF (by simp) ⟨fun m n w' => n = 0 ∧ m = 0 ∧ Fr [] w81 w', 0, ⟨rfl, rfl, Fr.refl _ _⟩, ?_⟩)⟩
        rintro m n w35 ⟨rfl, rfl, f35⟩
        have f1735 := f23.trans' (f81.trans' f35)
        exact bF rfl (fin none 0 [] w35 (F17.trans' f1735) ((r12.old f17).old f1735) (Row.nil _ _) (fun z hz => by cases hz) (fun h => by rw [hgood] at h; cases h) (fun _ => rfl))
      · rw [hgood] at h; cases h
    · cases h
  rw [hgood] at hs17
  obtain ⟨pb, Z, rfl, hZs, hZm, hZl, ⟨cz, oz⟩, tZ, lowZ, neZ⟩ := said_list hs17 hfew
  refine ⟨_, _, _, _, rfl, c16.mono ?_⟩
  rintro e22 w23 ⟨f23, ⟨h, _⟩ | ⟨_, p24, c26, Z2, rfl, r24, t24, s24, m24, l24, low24, lowt24⟩⟩
  · rw [hgood] at h; cases h
  have F23 := F17.trans' f23
  have z17 := f17.size
  have z12 := F12.size
  have oZ := oz.1.fr f23 (fun _ _ => by simp)
  have tZ23 : Tups w23 Z := fun z hz => (tZ z hz).fr f23 (by simp)
  refine ⟨_, _, _, _, rfl, fun y28 h28 => bF rfl ?_⟩
  refine (same_c oZ.row tZ23 r24 t24 (by omega)).mono ?_
  rintro e80 w81 ⟨rfl, f81⟩
  rw [decide_eq_true (plt_ext hZs s24 fun x => by rw [hZm, m24])]
  refine ⟨_, rfl, h28 _ _ (bF rfl ?_)⟩
  clear h28
  have z23 := f23.size
  have z81 := f81.size
  have oZ81 := oZ.fr f81 (fun _ _ => by simp)
  have tZ81 : Tups w81 Z := fun z hz => (tZ23 z hz).fr f81 (by simp)
  have pblt : w12.heap.size ≤ pb ∧ pb < w17.heap.size := oz.1.lt rfl
  have hzlt : ∀ z ∈ Z, w12.heap.size ≤ z.1 ∧ z.1 < w17.heap.size := fun z hz => ⟨lowZ z hz, (tZ z hz).lt⟩
  -- the blocks that are written
  have keep : ∀ w', Fr (pb :: Z.map (·.1)) w81 w' → Fr [] w w' ∧ Row w' p13 (E.flatMap gcell) ∧ Row w' p24 (Z2.map tz) ∧ Tups w' Z2 := fun w' f' => by
    have hF : ∀ x ∈ pb :: Z.map (·.1), w12.heap.size ≤ x ∧ x < w17.heap.size := fun x hx => by
      rcases List.mem_cons.1 hx with rfl | hx
      · exact pblt
      · obtain ⟨z, hz, rfl⟩ := List.mem_map.1 hx; exact hzlt z hz
    refine ⟨(F23.trans' f81).trans f' (fun x hx => .inr (by have := hF x hx; omega)), ?_, ?_, ?_⟩
    · refine row_fr0 f' (((r12.old f17).old f23).old f81) fun ad hp h0 hx => ?_
      have h1 := hF _ hx
      have := r12.blk_lt h0 ad hp
      omega
    · refine row_fr0 f' (r24.old f81) fun ad hp h0 hx => ?_
      have h1 := hF _ hx
      have := low24 ad hp
      omega
    · intro z hz
      refine ((t24 z hz).fr f81 (by simp)).fr f' fun hx => ?_
      have h1 := hF _ hx
      have := lowt24 z hz
      omega
  refine ⟨fun m n w' => ∃ (i : Nat) (vs : List Value), n = i ∧ i ≤ Z.length ∧ m = Z.length - i ∧ OwnZ w' w12.heap.size 1 (some ⟨pb, 0, none⟩) Z.length cz vs ∧ (∀ j, i ≤ j → vs[j]? = (Z.map tz)[j]?) ∧ (∀ j (h : j < Z.length), i ≤ j → TupO w' Z[j].1 Z[j].2) ∧ Fr (pb :: Z.map (·.1)) w81 w', Z.length, ⟨0, _, rfl, by omega, rfl, oZ81, fun j _ => rfl, fun j h _ => tZ81 _ (List.getElem_mem h), Fr.refl _ _⟩, ?_⟩
  rintro m33 n34 w35 ⟨i, vs, rfl, hi, rfl, o35, hvs, hts, F35⟩
  refine bc (fun hlt => ?_) fun hge => ?_
  · have hlt : (i : Int) < (Z.length : Int) := of_decide_eq_true hlt
    have hlt' : i < Z.length := by omega
    have hvi : vs[i]? = some (tz Z[i]) := by rw [hvs i (Nat.le_refl _)]; simp [hlt']
    have hcell : ∀ w', OwnZ w' w12.heap.size 1 (some ⟨pb, 0, none⟩) Z.length cz vs → w'.cell? (Addr.add ⟨pb, 0, none⟩ (Int.toNat (i : Int) * 1)) = some (tz Z[i]) := fun w' o => by
      rw [Int.toNat_natCast, Nat.mul_one]; exact o.row.get rfl hvi
    have hti := hts i hlt' (Nat.le_refl _)
    have hzi := hzlt _ (List.getElem_mem hlt')
    have hnei : Z[i].1 ≠ pb := neZ _ (List.getElem_mem hlt')
    refine ⟨⟨pb, 0, none⟩, rfl, ⟨by omega, hlt⟩, _, _, _, hcell w35 o35, ⟨Z[i].1, 0, none⟩, rfl, ⟨by omega, by simp⟩, Z[i].2.1, hti.row.get (j := 0) rfl rfl, ⟨Z[i].1, 0, none⟩, rfl, ⟨by omega, by simp⟩, ?_⟩
    obtain ⟨cs, hbk⟩ := hti
    refine ⟨_, hbk, rfl, by show 0 + 1 ≤ _; simp, fun w45 u45 => ?_⟩
    have u45 : Upd w35 w45 Z[i].1 (I64 (IntKind.wrap .i64 (Z[i].2.1 + 1)) :: I64 Z[i].2.2 :: cs) := u45
    have f45 := u45.fr
    have o45 := o35.fr f45 (fun ad hp => by injection hp with hp; subst hp; simpa using fun e : pb = Z[i].1 => hnei e.symm)
    have b45 := u45.blk
    have hmem : Z[i].1 ∈ pb :: Z.map (·.1) := List.mem_cons_of_mem _ (List.mem_map.2 ⟨_, List.getElem_mem hlt', rfl⟩)
    have hF81 := F35.trans f45 (fun x hx => .inl (by rw [List.mem_singleton.1 hx]; exact hmem))
    refine ⟨⟨pb, 0, none⟩, rfl, ⟨by omega, hlt⟩, _, _, _, hcell w45 o45, fun k51 => ?_⟩
    have row45 : Row w45 (some ⟨Z[i].1, 0, none⟩) [I64 (IntKind.wrap .i64 (Z[i].2.1 + 1)), I64 Z[i].2.2] := Row.of_blk (off := 0) b45 (fun j u hj => by
      rw [Nat.zero_add]
      match j, hj with
      | 0, hj => exact hj
      | 1, hj => exact hj) (fun u hu => by simp at hu; rcases hu with rfl | rfl <;> rfl)
    refine ⟨by decide, by decide, fun h => absurd h (by decide), fun _ => ⟨_, rfl, row45, fun _ _ => by simp, fun w52 b54 cap s52 hcap b52 _ => ?_⟩⟩
    have o52 := o45.fr s52.fr (fun _ _ => by simp)
    have hk51 := s52.new k51 (by simp)
    have hF52 := hF81.trans s52.fr (fun x hx => by cases hx)
    refine ⟨⟨pb, 0, none⟩, rfl, ⟨by omega, hlt⟩, ?_⟩
    have z35 := F35.size
    have z45 := f45.size
    refine own_store (i := i) (x := .slice (some ⟨b54, 0, none⟩) (2 + 1) cap) (privs := [k51]) o52 rfl rfl hlt' rfl (by show ¬ pb ∈ [k51]; rw [List.mem_singleton]; omega) fun w58 _ f58 z58 o58 => ?_
    refine ⟨Z.length - (i + 1), by omega, i + 1, _, by rw [wrapi (by omega) (by omega)]; simp, by omega, rfl, o58, fun j hj => ?_, fun j h hj => ?_, hF52.trans f58 (fun x hx => .inl (by rw [List.mem_singleton.1 hx]; exact List.mem_cons_self))⟩
    · rw [List.getElem?_set_ne (by omega)]; exact hvs j (by omega)
    · have ht := hts j h (by omega)
      have hne : Z[j].1 ≠ Z[i].1 := fun e => by
        have h1 := tZ81 _ (List.getElem_mem h)
        have h2 := tZ81 _ (List.getElem_mem hlt')
        rw [e] at h1
        have e2 := tup_inj h1 h2
        have := (List.pairwise_iff_getElem.1 hZs) i j (by simpa using hlt') (by simpa using h) (by omega)
        simp only [List.getElem_map] at this
        rw [e2] at this
        exact plt_irrefl _ this
      have hneb : Z[j].1 ≠ pb := neZ _ (List.getElem_mem h)
      exact ((ht.fr f45 (by simpa using hne)).fr s52.fr (by simp)).fr f58 (by simpa using hneb)
  · obtain ⟨F', r13, r24', t24'⟩ := keep _ F35
    exact fin p24 c26 Z2 w35 F' r13 r24' t24' (fun _ => ⟨s24, m24, l24⟩) (fun h => by rw [hgood] at h; cases h)
end Go.Proofs.Ytnplopiconabiaa.Span
