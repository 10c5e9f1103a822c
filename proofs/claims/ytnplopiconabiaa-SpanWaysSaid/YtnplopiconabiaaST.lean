/- Span: SpanRings and SpanWays. -/
import Derived.Test.YtnplopiconabiaaSS
import Derived.Test.YtnplopiconabiaaL4
import Derived.Test.YtnplopiconabiaaL5
namespace Go.Proofs.Ytnplopiconabiaa.Span
open Go Go.V
open Go.Proofs.Ytnplopiconabiaa.VC
open Go.Proofs.Try (prog)
set_option linter.unusedVariables false
set_option linter.unusedSimpArgs false
set_option maxRecDepth 20000

theorem rings_walk {w : World} {lab : ByteArray} {eA : Option Addr} {eC : Nat} {E : List EG} (hE : Row w eA (E.flatMap gcell)) (hR : ∀ e ∈ E, inR e.f ∧ inR e.t) :
    Calls prog 5 #[.string lab, .slice eA E.length eC] w fun e w' => e = .returned (.bool true) ∧ Fr [] w w' := by
  refine rhizomelaw13_SpanRings.link fun y1 h1 => (awake_c w).mono ?_
  rintro e46 w47 ⟨rfl, f47⟩
  have big : y1 true w47 := h1 _ _ (bT rfl ((awake_c w47).mono fun e w' h => by
    obtain ⟨rfl, f⟩ := h
    exact ⟨_, rfl, rfl, f47.trans' f⟩))
  refine ⟨_, rfl, bF rfl (bc (fun _ => big) fun hsm => ?_)⟩
  have hsm : ¬ (20 : Int) < (E.length : Int) := of_decide_eq_false hsm
  have hl20 : E.length ≤ 20 := by omega
  by_cases hbl : (300 : Int) < (ByteArray.size lab : Int)
  · rw [decide_eq_true hbl]; exact big
  clear big
  have hs : lab.size ≤ 1000000 := by omega
  rw [decide_eq_false hbl]
  refine h1 _ _ (bF rfl ?_)
  clear h1
  refine (rings_c (lab := lab) (eC := eC) (hE.old f47) (by omega) hR).mono ?_
  rintro e7 w8 ⟨f8, K, hK, hKr, hs8⟩
  have F8 := f47.trans' f8
  have c23 := rrings_c (lab := lab) (eC := eC) (hE.old F8) (by omega) hs
  by_cases hgood : isName lab = true
  case neg =>
    have hgood : isName lab = false := by simpa using hgood
    rw [hgood] at hs8
    rcases hs8 with ⟨_, rfl⟩ | ⟨h, _⟩
    · refine ⟨_, _, _, _, rfl, c23.mono ?_⟩
      rintro e13 w14 ⟨f14, ⟨_, rfl⟩ | ⟨h, _⟩⟩
      · refine ⟨_, _, _, _, rfl, fun y19 h19 => bF rfl (h19 _ _ (bF rfl ⟨fun m n w' => n = 0 ∧ m = 0 ∧ Fr [] w14 w', 0, ⟨rfl, rfl, Fr.refl _ _⟩, ?_⟩))⟩
        rintro m n w26 ⟨rfl, rfl, f26⟩
        exact bF rfl ⟨rfl, F8.trans' (f14.trans' f26)⟩
      · rw [hgood] at h; cases h
    · cases h
  rw [hgood] at hs8
  rcases hs8 with ⟨h, _⟩ | ⟨_, p9, c11, Z, rfl, hZ, o, tr, _, _⟩
  · cases h
  refine ⟨_, _, _, _, rfl, c23.mono ?_⟩
  rintro e13 w14 ⟨f14, ⟨h, _⟩ | ⟨_, p15, c17, Z2, K2, rfl, r15, ri15, hK2, hKr2, hZ2⟩⟩
  · rw [hgood] at h; cases h
  have F14 := F8.trans' f14
  have eZ : Z.map (·.2) = Z2.map (·.2.2) := by rw [hZ, hZ2]; exact rings_ext hK hK2 (fun a h => hKr a a h) hKr2
  have eL : Z.length = Z2.length := by have := congrArg List.length eZ; simpa using this
  have hZl : Z.length ≤ 1000 := by
    have h1 := congrArg List.length hZ
    rw [List.length_map] at h1
    have := (rings_len (E := E) (lab := lab) hK).1
    omega
  have hrl : ∀ z ∈ Z, z.2.length ≤ 1000 := fun z hz => by
    have := (rings_len (E := E) (lab := lab) hK).2 z.2 (by rw [← hZ]; exact List.mem_map.2 ⟨z, hz, rfl⟩)
    omega
  refine ⟨_, _, _, _, rfl, fun y19 h19 => bF rfl ?_⟩
  rw [show (!decide ((Z.length : Int) = (Z2.length : Int))) = false by simp [eL]]
  have ro := (o.fr f14 (fun _ _ => by simp)).row
  refine h19 _ _ (bF rfl ⟨fun m n w' => ∃ i : Nat, n = i ∧ i ≤ Z.length ∧ m = Z.length - i ∧ Fr [] w14 w', Z.length, ⟨0, rfl, by omega, rfl, Fr.refl _ _⟩, ?_⟩)
  rintro m24 n25 w26 ⟨i, rfl, hi, rfl, F⟩
  refine bc (fun hlt => ?_) fun hge => ⟨rfl, F14.trans' F⟩
  have hlt : (i : Int) < (Z.length : Int) := of_decide_eq_true hlt
  have hlt' : i < Z.length := by omega
  have hlt2 : i < Z2.length := by omega
  obtain ⟨ad, hp⟩ := (ro.old F).has (by rw [List.length_map]; omega)
  have hc : w26.cell? (ad.add i) = some (rz Z[i]) := (ro.old F).get hp (by simp [hlt'])
  obtain ⟨ad2, hp2⟩ := (r15.old F).has (by rw [List.length_map]; omega)
  have hc2 : w26.cell? (ad2.add i) = some (rv Z2[i]) := (r15.old F).get hp2 (by simp [hlt2])
  refine ⟨ad, hp, ⟨by omega, hlt⟩, _, _, _, by rw [Int.toNat_natCast, Nat.mul_one]; exact hc, ad2, hp2, ⟨by omega, by omega⟩, _, _, _, by rw [Int.toNat_natCast, Nat.mul_one]; exact hc2, fun w36 s36 => ?_⟩
  have ei : Z[i].2 = Z2[i].2.2 := by
    have h1 : (Z.map (·.2))[i]? = some Z[i].2 := by simp [hlt']
    have h2 : (Z2.map (·.2.2))[i]? = some Z2[i].2.2 := by simp [hlt2]
    rw [eZ, h2] at h1
    exact (Option.some.inj h1).symm
  obtain ⟨cs, hb⟩ := (tr _ (List.getElem_mem hlt'))
  have ra := rowI' (((hb.fr f14 (by simp)).fr F (by simp)).fr s36.fr (by simp))
  have rb := ((ri15 _ (List.getElem_mem hlt2)).old F).old s36.fr
  rw [← ei] at rb ⊢
  have hli := hrl _ (List.getElem_mem hlt')
  have c21 := ints_c (cp := Z[i].2.length) (cq := Z2[i].2.1) ra rb (by omega)
  refine c21.mono ?_
  rintro e38 w39 ⟨rfl, f39⟩
  exact ⟨_, rfl, bF rfl ⟨Z.length - (i + 1), by omega, i + 1, by rw [wrapi (by omega) (by omega)]; simp, by omega, rfl, F.trans' (s36.fr.trans' f39)⟩⟩

theorem ways_walk {w : World} {lab : ByteArray} {eA : Option Addr} {eC : Nat} {E : List EG} (hE : Row w eA (E.flatMap gcell)) (a b : Int) :
    Calls prog 4 #[.string lab, .slice eA E.length eC, .agg #[I64 a, I64 b]] w fun e w' => e = .returned (.bool true) ∧ Fr [] w w' := by
  refine rhizomelaw13_SpanWays.link fun k1 y1 h1 w30 s30 => (awake_c w30).mono ?_
  have n1 := g_new1 s30
  have k1w : ∀ {v : World}, Fr [] w30 v → ∀ x ∈ [k1], x < v.heap.size := fun f x hx => by rw [List.mem_singleton.1 hx]; have := f.size; omega
  rintro e46 w47 ⟨rfl, f47⟩
  have F47 := s30.fr.trans' f47
  have big : y1 true w47 := h1 _ _ (bT rfl ((awake_c w47).mono fun e w' h => by
    obtain ⟨rfl, f⟩ := h
    exact ⟨_, rfl, keepF f (k1w f47), rfl, F47.trans' f⟩))
  refine ⟨_, rfl, keepF f47 (k1w (Fr.refl _ _)), bF rfl (bc (fun _ => big) fun hsm => ?_)⟩
  have hsm : ¬ (20 : Int) < (E.length : Int) := of_decide_eq_false hsm
  have hl20 : E.length ≤ 20 := by omega
  by_cases hbl : (300 : Int) < (ByteArray.size lab : Int)
  · rw [decide_eq_true hbl]; exact big
  clear big
  have hs : lab.size ≤ 1000000 := by omega
  rw [decide_eq_false hbl]
  refine h1 _ _ (bF rfl ⟨by decide, by decide, ?_⟩)
  clear h1
  refine (way_c (lab := lab) (eC := eC) (hE.old F47) (by omega) a b).mono ?_
  rintro e8 w9 ⟨f9, hs9⟩
  have F9 := F47.trans' f9
  have c20 := rway_c (lab := lab) (eC := eC) (hE.old F9) (by omega) hs a b
  have k47 := k1w f47
  have k9 := k1w (f47.trans' f9)
  rcases hs9 with ⟨hg, rfl⟩ | ⟨hg, ⟨hno, rfl⟩ | ⟨u, k, c, cs, hu, hul, rfl, hbk, _⟩⟩
  · refine ⟨_, _, _, _, rfl, keepF f9 k47, by decide, by decide, c20.mono ?_⟩
    rintro e14 w15 ⟨f15, ⟨_, rfl⟩ | ⟨h, _⟩⟩
    · refine ⟨_, _, _, _, rfl, keepF f15 k9, fun y20 h20 => bT rfl ?_⟩
      refine (ints_c (l := []) (p := none) (q := none) (cp := 0) (cq := 0) (Row.nil _ _) (Row.nil _ _) (by simp)).mono ?_
      rintro e25 w26 ⟨rfl, f26⟩
      exact ⟨_, rfl, keepF f26 (k1w (f47.trans' (f9.trans' f15))), h20 _ _ ⟨rfl, F9.trans' (f15.trans' f26)⟩⟩
    · rw [hg] at h; cases h
  · refine ⟨_, _, _, _, rfl, keepF f9 k47, by decide, by decide, c20.mono ?_⟩
    rintro e14 w15 ⟨f15, ⟨h, _⟩ | ⟨_, ⟨_, rfl⟩ | ⟨p, c, u, hu, _⟩⟩⟩
    · rw [hg] at h; cases h
    · refine ⟨_, _, _, _, rfl, keepF f15 k9, fun y20 h20 => bT rfl ?_⟩
      refine (ints_c (l := []) (p := none) (q := none) (cp := 0) (cq := 0) (Row.nil _ _) (Row.nil _ _) (by simp)).mono ?_
      rintro e25 w26 ⟨rfl, f26⟩
      exact ⟨_, rfl, keepF f26 (k1w (f47.trans' (f9.trans' f15))), h20 _ _ ⟨rfl, F9.trans' (f15.trans' f26)⟩⟩
    · exact absurd hu.2.1 (hno _ hu.1)
  · refine ⟨_, _, _, _, rfl, keepF f9 k47, by decide, by decide, c20.mono ?_⟩
    rintro e14 w15 ⟨f15, ⟨h, _⟩ | ⟨_, ⟨hno, _⟩ | ⟨p, c2, u2, hu2, _, rfl, r2⟩⟩⟩
    · rw [hg] at h; cases h
    · exact absurd hu.2.1 (hno _ hu.1)
    · obtain rfl := hu.uniq hu2
      refine ⟨_, _, _, _, rfl, keepF f15 k9, fun y20 h20 => bT rfl ?_⟩
      have ra := rowI' (hbk.fr f15 (by simp))
      have c21 := ints_c (cp := c) (cq := c2) ra r2 (by omega)
      refine c21.mono ?_
      rintro e25 w26 ⟨rfl, f26⟩
      exact ⟨_, rfl, keepF f26 (k1w (f47.trans' (f9.trans' f15))), h20 _ _ ⟨rfl, F9.trans' (f15.trans' f26)⟩⟩
end Go.Proofs.Ytnplopiconabiaa.Span
