/- Span: the reference's Cmp, Has, Same. -/
import Derived.Test.YtnplopiconabiaaSE
import Derived.Test.YtnplopiconabiaaC5
namespace Go.Proofs.Ytnplopiconabiaa.Span
open Go Go.V
open Go.Proofs.Ytnplopiconabiaa.VC
open Go.Proofs.Try (prog)
set_option linter.unusedVariables false
set_option linter.unusedSimpArgs false
set_option maxRecDepth 20000

theorem pcmp_gt {x y : PI} (h : y.1 < x.1 ∨ (x.1 = y.1 ∧ y.2 < x.2)) : pcmp x y = 1 := by
  unfold pcmp
  rcases cI x.1 y.1 with ⟨h1, h2⟩ | ⟨h1, h2⟩ | ⟨h1, h2⟩ <;> rcases cI x.2 y.2 with ⟨h3, h4⟩ | ⟨h3, h4⟩ | ⟨h3, h4⟩ <;> rw [h1] <;> simp <;> omega
theorem pcmp_le {x y : PI} (h : plt x y) : pcmp x y = -1 := by
  unfold plt at h
  unfold pcmp
  rcases cI x.1 y.1 with ⟨h1, h2⟩ | ⟨h1, h2⟩ | ⟨h1, h2⟩ <;> rcases cI x.2 y.2 with ⟨h3, h4⟩ | ⟨h3, h4⟩ | ⟨h3, h4⟩ <;> rw [h1] <;> simp <;> omega
theorem cmpR_c {w : World} {a b : Option Addr} {ca cb : Nat} {x y : PI} (hx : Row w a ([x.1, x.2].map I64)) (hy : Row w b ([y.1, y.2].map I64)) :
    Calls prog 46 #[.slice a 2 ca, .slice b 2 cb] w fun e w' => e = .returned (I64 (pcmp x y)) ∧ Fr [] w w' := by
  refine rhizomeref10_Cmp.link ⟨fun m n w' => ∃ i : Nat, n = i ∧ i ≤ 2 ∧ m = 2 - i ∧ (1 ≤ i → x.1 = y.1) ∧ (2 ≤ i → x.2 = y.2) ∧ Fr [] w w', 2, ⟨0, rfl, by omega, rfl, by omega, by omega, Fr.refl _ _⟩, ?_⟩
  rintro m n w5 ⟨i, rfl, hi, rfl, h1, h2, F⟩ y7 h7
  have hx5 := hx.old F
  have hy5 := hy.old F
  obtain rfl | rfl | rfl : i = 0 ∨ i = 1 ∨ i = 2 := by omega
  · refine bT rfl (h7 _ _ (bT rfl ?_))
    refine rd I64 (i := 0) hx5 rfl (by simp) (by decide) (rd I64 (i := 0) hy5 rfl (by simp) (by decide) ?_)
    refine bc (fun h => fun w14 s14 => ⟨?_, F.trans' s14.fr⟩) fun h => rd I64 (i := 0) hx5 rfl (by simp) (by decide) (rd I64 (i := 0) hy5 rfl (by simp) (by decide) (bc (fun h' => fun w20 s20 => ⟨?_, F.trans' s20.fr⟩) fun h' => ⟨1, by omega, fun w23 s23 => ⟨1, by rw [wrapi (by omega) (by omega)]; rfl, by omega, rfl, ?_, by omega, F.trans' s23.fr⟩⟩))
    · rw [pcmp_le (.inl (of_decide_eq_true h))]
    · rw [pcmp_gt (.inl (of_decide_eq_true h'))]
    · have h : ¬ x.1 < y.1 := of_decide_eq_false h
      have h' : ¬ y.1 < x.1 := of_decide_eq_false h'
      intro _; omega
  · refine bT rfl (h7 _ _ (bT rfl ?_))
    have e1 := h1 (by omega)
    refine rd I64 (i := 1) hx5 rfl (by simp) (by decide) (rd I64 (i := 1) hy5 rfl (by simp) (by decide) ?_)
    refine bc (fun h => fun w14 s14 => ⟨?_, F.trans' s14.fr⟩) fun h => rd I64 (i := 1) hx5 rfl (by simp) (by decide) (rd I64 (i := 1) hy5 rfl (by simp) (by decide) (bc (fun h' => fun w20 s20 => ⟨?_, F.trans' s20.fr⟩) fun h' => ⟨0, by omega, fun w23 s23 => ⟨2, by rw [wrapi (by omega) (by omega)]; rfl, by omega, rfl, fun _ => e1, ?_, F.trans' s23.fr⟩⟩))
    · rw [pcmp_le (.inr ⟨e1, of_decide_eq_true h⟩)]
    · rw [pcmp_gt (.inr ⟨e1, of_decide_eq_true h'⟩)]
    · have h : ¬ x.2 < y.2 := of_decide_eq_false h
      have h' : ¬ y.2 < x.2 := of_decide_eq_false h'
      intro _; omega
  · refine bF rfl (h7 _ _ (bF rfl (bF rfl (bF rfl ⟨?_, F⟩))))
    rw [(pcmp_eq x y).2 (Prod.ext (h1 (by omega)) (h2 (by omega)))]
/-- Rows of pairs: each a slice of two. -/
def PRow (w : World) (l : Option Addr) (xs : List PI) : Prop := ∃ Z : List (Nat × PI), Row w l (Z.map tz) ∧ Tups w Z ∧ Z.map (·.2) = xs
theorem TupO.rowI {w : World} {b : Nat} {x : PI} (h : TupO w b x) : Row w (some ⟨b, 0, none⟩) ([x.1, x.2].map I64) := h.row
theorem has_c {w : World} {l : Option Addr} {lC : Nat} {Z : List (Nat × PI)} {t : Option Addr} {tC : Nat} {y : PI} (hr : Row w l (Z.map tz)) (hz : Tups w Z) (hy : Row w t ([y.1, y.2].map I64)) (hl : Z.length ≤ 1000000) :
    Calls prog 24 #[.slice l Z.length lC, .slice t 2 tC] w fun e w' => e = .returned (.bool (decide (y ∈ Z.map (·.2)))) ∧ Fr [] w w' := by
  refine rhizomeref10_Has.link ⟨fun m n w' => ∃ i : Nat, n = i ∧ i ≤ Z.length ∧ m = Z.length - i ∧ y ∉ (Z.take i).map (·.2) ∧ Fr [] w w', Z.length, ⟨0, rfl, by omega, rfl, by simp, Fr.refl _ _⟩, ?_⟩
  rintro m n w5 ⟨i, rfl, hi, rfl, hn, F⟩
  refine bc (fun hlt => ?_) fun hge => ?_
  · have hlt : (i : Int) < (Z.length : Int) := of_decide_eq_true hlt
    have hlt' : i < Z.length := by omega
    have hrow := hr.old F
    obtain ⟨ad, hp⟩ := hrow.has (by rw [List.length_map]; omega)
    have hcell : w5.cell? (ad.add i) = some (tz Z[i]) := hrow.get hp (by simp [hlt'])
    have hti : TupO w5 Z[i].1 Z[i].2 := (hz _ (List.getElem_mem hlt')).fr F (by simp)
    refine ⟨ad, hp, ⟨by omega, hlt⟩, _, _, _, by rw [Int.toNat_natCast, Nat.mul_one]; exact hcell, (cmpR_c hti.rowI (hy.old F)).mono ?_⟩
    rintro e11 w12 ⟨rfl, f12⟩
    refine ⟨_, rfl, bc (fun h0 => ⟨?_, F.trans' f12⟩) fun h0 => ⟨Z.length - (i + 1), by omega, i + 1, by rw [wrapi (by omega) (by omega)]; simp, by omega, rfl, ?_, F.trans' f12⟩⟩
    · have h0 := (pcmp_eq _ _).1 (of_decide_eq_true h0)
      rw [decide_eq_true (by rw [← h0]; exact List.mem_map.2 ⟨_, List.getElem_mem hlt', rfl⟩)]
    · have h0 : ¬ Z[i].2 = y := fun e => of_decide_eq_false h0 ((pcmp_eq _ _).2 e)
      rw [take_snoc hlt', List.map_append, List.mem_append]
      rintro (h | h)
      · exact hn h
      · have h : y = Z[i].2 := by simpa using h
        exact h0 h.symm
  · have hge : ¬ (i : Int) < (Z.length : Int) := of_decide_eq_false hge
    have : i = Z.length := by omega
    subst this
    rw [List.take_length] at hn
    exact ⟨by rw [decide_eq_false hn], F⟩
theorem same_c {w : World} {l l' : Option Addr} {lC lC' : Nat} {Z Z' : List (Nat × PI)} (hr : Row w l (Z.map tz)) (hz : Tups w Z) (hr' : Row w l' (Z'.map tz)) (hz' : Tups w Z') (hl : Z.length ≤ 1000000) :
    Calls prog 17 #[.slice l Z.length lC, .slice l' Z'.length lC'] w fun e w' => e = .returned (.bool (decide (Z.map (·.2) = Z'.map (·.2)))) ∧ Fr [] w w' := by
  refine rhizomeref10_Same.link (bc (fun hne => ?_) fun hne => ?_)
  · have hne : ¬ (Z.length : Int) = Z'.length := by simpa using hne
    refine ⟨?_, Fr.refl _ _⟩
    rw [decide_eq_false fun e => hne (by have := congrArg List.length e; simp only [List.length_map] at this; omega)]
  · have hlen : (Z.length : Int) = Z'.length := by simpa using hne
    refine ⟨fun m n w' => ∃ i : Nat, n = i ∧ i ≤ Z.length ∧ m = Z.length - i ∧ (Z.take i).map (·.2) = (Z'.take i).map (·.2) ∧ Fr [] w w', Z.length, ⟨0, rfl, by omega, rfl, by simp, Fr.refl _ _⟩, ?_⟩
    rintro m n w5 ⟨i, rfl, hi, rfl, he, F⟩
    refine bc (fun hlt => ?_) fun hge => ?_
    · have hlt : (i : Int) < (Z.length : Int) := of_decide_eq_true hlt
      have hlt' : i < Z.length := by omega
      have hlt2 : i < Z'.length := by omega
      obtain ⟨ad, hp⟩ := (hr.old F).has (by rw [List.length_map]; omega)
      have hcell : w5.cell? (ad.add i) = some (tz Z[i]) := (hr.old F).get hp (by simp [hlt'])
      obtain ⟨ad2, hp2⟩ := (hr'.old F).has (by rw [List.length_map]; omega)
      have hcell2 : w5.cell? (ad2.add i) = some (tz Z'[i]) := (hr'.old F).get hp2 (by simp [hlt2])
      refine ⟨ad, hp, ⟨by omega, hlt⟩, _, _, _, by rw [Int.toNat_natCast, Nat.mul_one]; exact hcell, ad2, hp2, ⟨by omega, by omega⟩, _, _, _, by rw [Int.toNat_natCast, Nat.mul_one]; exact hcell2, fun w15 s15 => ?_⟩
      have F15 := F.trans' s15.fr
      refine (cmpR_c ((hz _ (List.getElem_mem hlt')).fr F15 (by simp)).rowI ((hz' _ (List.getElem_mem hlt2)).fr F15 (by simp)).rowI).mono ?_
      rintro e17 w18 ⟨rfl, f18⟩
      refine ⟨_, rfl, bc (fun h0 => ⟨?_, F15.trans' f18⟩) fun h0 => ⟨Z.length - (i + 1), by omega, i + 1, by rw [wrapi (by omega) (by omega)]; simp, by omega, rfl, ?_, F15.trans' f18⟩⟩
      · have h0 : ¬ pcmp Z[i].2 Z'[i].2 = 0 := by simpa using h0
        rw [decide_eq_false fun e => h0 ((pcmp_eq _ _).2 ?_)]
        have h1 : (Z.map (·.2))[i]? = (Z'.map (·.2))[i]? := by rw [e]
        rw [List.getElem?_map, List.getElem?_map, List.getElem?_eq_getElem hlt', List.getElem?_eq_getElem hlt2] at h1
        exact Option.some.inj h1
      · have h0 : pcmp Z[i].2 Z'[i].2 = 0 := by simpa using h0
        rw [take_snoc hlt', take_snoc hlt2, List.map_append, List.map_append, he]
        simp [(pcmp_eq _ _).1 h0]
    · have hge : ¬ (i : Int) < (Z.length : Int) := of_decide_eq_false hge
      have : i = Z.length := by omega
      subst this
      rw [List.take_length, List.take_of_length_le (by omega)] at he
      exact ⟨by rw [decide_eq_true he], F⟩
theorem take_filterG {α : Type} {p : α → Bool} {l : List α} {j : Nat} (h : j < l.length) : (l.take (j + 1)).filter p = (l.take j).filter p ++ if p l[j] then [l[j]] else [] := by
  rw [take_snoc h, List.filter_append]
  by_cases e : p l[j] <;> simp [e]
theorem without_c {w : World} {l l' : Option Addr} {lC lC' : Nat} {Z Z' : List (Nat × PI)} (hr : Row w l (Z.map tz)) (hz : Tups w Z) (hr' : Row w l' (Z'.map tz)) (hz' : Tups w Z') (hl : Z.length ≤ 100000) (hl' : Z'.length ≤ 100000) :
    Calls prog 25 #[.slice l Z.length lC, .slice l' Z'.length lC'] w fun e w' => Fr [] w w' ∧ ∃ (p : Option Addr) (c : Nat), e = .returned (.slice p (Z.filter fun z => !decide (z.2 ∈ Z'.map (·.2))).length c) := by
  refine rhizomeref10_Without.link ⟨fun m p k c n w' => ∃ (i : Nat) (Y : List (Nat × PI)), n = i ∧ i ≤ Z.length ∧ m = Z.length - i ∧ k = Y.length ∧ Y = (Z.take i).filter (fun z => !decide (z.2 ∈ Z'.map (·.2))) ∧ Y.length ≤ i ∧ OwnZ w' w.heap.size 1 p Y.length c (Y.map tz) ∧ Fr [] w w', Z.length, ⟨0, [], rfl, by omega, rfl, rfl, by simp, by simp, OwnZ.nil _ _ _, Fr.refl _ _⟩, ?_⟩
  rintro m p4 k5 c6 n w8 ⟨i, Y, rfl, hi, rfl, rfl, hY, hYi, o, F⟩
  refine bc (fun hlt => ?_) fun hge => ?_
  · have hlt : (i : Int) < (Z.length : Int) := of_decide_eq_true hlt
    have hlt' : i < Z.length := by omega
    intro y10 h10
    obtain ⟨ad, hp⟩ := (hr.old F).has (by rw [List.length_map]; omega)
    have hcell : ∀ w', Fr [] w w' → w'.cell? (ad.add i) = some (tz Z[i]) := fun w' F => (hr.old F).get hp (by simp [hlt'])
    have hti : TupO w8 Z[i].1 Z[i].2 := (hz _ (List.getElem_mem hlt')).fr F (by simp)
    have hwrap : IntKind.wrap .i64 ((i : Int) + 1) = ((i + 1 : Nat) : Int) := by rw [wrapi (by omega) (by omega)]; simp
    have htf := take_filterG (p := fun z : Nat × PI => !decide (z.2 ∈ Z'.map (·.2))) hlt'
    rw [← hY] at htf
    refine ⟨ad, hp, ⟨by omega, hlt⟩, _, _, _, by rw [Int.toNat_natCast, Nat.mul_one]; exact hcell _ F, (has_c (hr'.old F) (fun z hz2 => (hz' z hz2).fr F (by simp)) hti.rowI (by omega)).mono ?_⟩
    rintro e22 w23 ⟨rfl, f23⟩
    have F23 := F.trans' f23
    have o23 := o.fr f23 (fun _ _ => by simp)
    refine ⟨_, rfl, bc (fun hb => ?_) fun hb => ?_⟩
    · rw [if_pos hb] at htf
      refine ⟨ad, hp, ⟨by omega, hlt⟩, _, _, _, by rw [Int.toNat_natCast, Nat.mul_one]; exact hcell _ F23, fun k29 => ?_⟩
      refine appM1 (C := tz) (fun _ => rfl) (x := Z[i]) (u := w) (B := w.heap.size) o23 F23 rfl (Nat.le_refl _) F23.size (fun h => by cases h) (by simp) (fun ad hp x hx => .inl hx) (by omega) (by omega) fun w30 p31 c33 F30 _ _ o30 _ => ?_
      exact h10 _ _ _ _ ⟨Z.length - (i + 1), by omega, i + 1, Y ++ [Z[i]], hwrap, by omega, rfl, rfl, htf.symm, by simp; omega, o30, F30⟩
    · rw [if_neg (by rw [hb]; simp), List.append_nil] at htf
      exact h10 _ _ _ _ ⟨Z.length - (i + 1), by omega, i + 1, Y, hwrap, by omega, rfl, rfl, htf.symm, by omega, o23, F23⟩
  · have hge : ¬ (i : Int) < (Z.length : Int) := of_decide_eq_false hge
    have : i = Z.length := by omega
    subst this
    rw [List.take_length] at hY
    exact ⟨F, p4, c6, by rw [hY]⟩
end Go.Proofs.Ytnplopiconabiaa.Span
