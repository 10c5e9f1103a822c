/- Span: tuple.Set of pairs that differ. -/
import Derived.Test.YtnplopiconabiaaS5
namespace Go.Proofs.Ytnplopiconabiaa.Span
open Go Go.V
open Go.Proofs.Ytnplopiconabiaa.VC
open Go.Proofs.Try (prog)
set_option linter.unusedVariables false
set_option linter.unusedSimpArgs false
set_option maxRecDepth 20000

theorem reps_length1 (v : Value) : ∀ n, (reps [v] n).length = n
  | 0 => rfl
  | n + 1 => by
    have := reps_length1 v n
    simp [reps] at this ⊢
    try omega
theorem cloneT_c {w : World} {b : Nat} {x : PI} (h : TupO w b x) :
    Calls prog 86 #[tv b] w fun e w' => Fr [] w w' ∧ ∃ b' c', e = .returned (.slice (some ⟨b', 0, none⟩) 2 c') ∧ 2 ≤ c' ∧ TupO w' b' x ∧ w.heap.size ≤ b' := by
  refine slices_Clone_g86.link (bF rfl fun k1 w2 s2 b2 => ?_)
  have n2 := g_new1 s2
  have o2 : OwnZ w2 w.heap.size 1 (some ⟨k1, 0, none⟩) ([] : List Int).length 0 (([] : List Int).map I64) := OwnZ.blk b2 rfl (by simp) n2.1
  refine ⟨[x.1, x.2].map I64, rfl, (h.fr s2.fr (by simp)).row, ?_⟩
  refine appMN (ys := []) (zs := [x.1, x.2]) (C := I64) (fun _ => rfl) rfl (u := w) (B := w.heap.size) o2 s2.fr rfl (Nat.le_refl _) (by omega) (fun _ => rfl) (by simp) (fun ad hp => by simp) (by simp) (by simp) fun w6 p7 c9 F6 _ _ o6 _ => ?_
  obtain ⟨_, hc, _, h4⟩ := o6
  rcases h4 with ⟨_, e4⟩ | ⟨b', zs, rfl, hB, hb, _⟩
  · simp at hc; omega
  · exact ⟨F6, b', c9, rfl, by simpa using hc, ⟨zs, by simpa using hb⟩, hB⟩
theorem clipT_c (w : World) (b c : Nat) (hc : 2 ≤ c) : Calls prog 85 #[.slice (some ⟨b, 0, none⟩) 2 c] w fun e w' => e = .returned (tv b) ∧ w' = w :=
  slices_Clip_g85.link ⟨⟨by omega, by omega, by omega, by omega⟩, by rw [subA_0]; rfl, rfl⟩
theorem clipL_c (w : World) (p : Option Addr) (l c : Nat) (hc : l ≤ c) : Calls prog 74 #[.slice p l c] w fun e w' => e = .returned (.slice p l l) ∧ w' = w :=
  slices_Clip_g74.link ⟨⟨by omega, by omega, by omega, by omega⟩, by rw [subA_0]; simp, rfl⟩
/-- Each pair with its block. -/
def Tups (w : World) (Z : List (Nat × PI)) : Prop := ∀ z ∈ Z, TupO w z.1 z.2
theorem own_c {w : World} {lA : Option Addr} {lC : Nat} {Z : List (Nat × PI)} (hr : Row w lA (Z.map tz)) (hz : Tups w Z) (hl : Z.length ≤ 100000) :
    Calls prog 61 #[.slice lA Z.length lC] w fun e w' => Fr [] w w' ∧ ∃ p c Z', e = .returned (.slice p Z.length c) ∧ OwnP w' w.heap.size 1 p Z.length c (Z'.map tz) ∧ (∃ b, p = some ⟨b, 0, none⟩ ∧ ∀ z ∈ Z', z.1 ≠ b) ∧ Z'.map (·.2) = Z.map (·.2) ∧ Tups w' Z' ∧ ∀ z ∈ Z', w.heap.size ≤ z.1 := by
  refine tuple_own.link ⟨⟨by omega, by omega, by omega, by omega⟩, fun w1 k2 s1 b1 => ?_⟩
  have n1 := g_new1 s1
  refine ⟨fun m p k c n w' => ∃ (i : Nat) (Z' : List (Nat × PI)), n = i ∧ i ≤ Z.length ∧ m = Z.length - i ∧ k = Z'.length ∧ OwnP w' w.heap.size 1 p Z'.length c (Z'.map tz) ∧ (∃ b, p = some ⟨b, 0, none⟩ ∧ ∀ z ∈ Z', z.1 ≠ b) ∧ Z'.map (·.2) = (Z.take i).map (·.2) ∧ Tups w' Z' ∧ (∀ z ∈ Z', w.heap.size ≤ z.1) ∧ Fr [] w w', Z.length, ⟨0, [], rfl, by omega, rfl, rfl, OwnP.made0 b1 (by rw [reps_length1, Int.toNat_natCast, Nat.mul_one]) n1.1, ⟨k2, rfl, by simp⟩, by simp, fun z hz => (by cases hz), by simp, s1.fr⟩, ?_⟩
  rintro m p8 k9 c10 n w12 ⟨i, Z', rfl, hi, rfl, rfl, o, ⟨b8, rfl, hne⟩, hmap, ht, hw, F⟩
  have hlen : Z'.length = i := by have := congrArg List.length hmap; simp at this; omega
  refine bc (fun hlt => ?_) fun hge => ?_
  · have hlt : (i : Int) < (Z.length : Int) := of_decide_eq_true hlt
    have hlt' : i < Z.length := by omega
    have hrow := hr.old F
    obtain ⟨ad, hp⟩ := hrow.has (by rw [List.length_map]; omega)
    have hcell : w12.cell? (ad.add i) = some (tz Z[i]) := hrow.get hp (by simp [hlt'])
    have hti : TupO w12 Z[i].1 Z[i].2 := (hz _ (List.getElem_mem hlt')).fr F (by simp)
    refine ⟨ad, hp, ⟨by omega, hlt⟩, _, _, _, by rw [Int.toNat_natCast, Nat.mul_one]; exact hcell, (cloneT_c hti).mono ?_⟩
    rintro e18 w19 ⟨f19, b', c', rfl, hc', t19, nb⟩
    refine ⟨_, _, _, rfl, (clipT_c w19 b' c' hc').mono ?_⟩
    rintro e23 w24 ⟨rfl, rfl⟩
    refine ⟨_, _, _, rfl, fun k28 => ?_⟩
    have o24 := o.fr f19 (fun _ _ => by simp)
    have F24 := F.trans' f19
    have b8lt := (o.1.lt rfl).2
    refine appendP_plain (o24.pl (by simp)) (appM1 (C := tz) (fun _ => rfl) (x := (b', Z[i].2)) (u := w) (B := w.heap.size) o24.1 F24 rfl (Nat.le_refl _) F24.size (fun h => by cases h) (by simp) (fun ad hp => by simp) (by omega) (by omega) fun w29 p30 c32 F29 G29 n29 o29 d29 hpl => ?_)
    have hb'ne : b' ≠ b8 := by have : b8 < w12.heap.size := b8lt; omega
    have hb'lt := t19.lt
    have hpn : ∃ b, p30 = some ⟨b, 0, none⟩ ∧ ∀ z ∈ Z' ++ [(b', Z[i].2)], z.1 ≠ b := by
      obtain ⟨_, hcc, _, h4⟩ := o29
      rcases h4 with ⟨_, e4⟩ | ⟨b, zs, rfl, hB, hb, _⟩
      · simp at hcc; omega
      · refine ⟨b, rfl, fun z hz => ?_⟩
        have hzz : z.1 ≠ b8 ∧ z.1 < w24.heap.size := by
          rcases List.mem_append.1 hz with hz | hz
          · exact ⟨hne z hz, by have := (ht z hz).lt; have := f19.size; omega⟩
          · rw [List.mem_singleton.1 hz]; exact ⟨hb'ne, hb'lt⟩
        rcases d29 _ rfl with h5 | h5
        · injection h5 with h5; injection h5 with h5; rw [← h5]; exact hzz.1
        · have h5 : w24.heap.size ≤ b := h5; omega
    refine ⟨Z.length - (i + 1), by omega, i + 1, Z' ++ [(b', Z[i].2)], by rw [wrapi (by omega) (by omega)]; simp, by omega, rfl, rfl, ⟨o29, hpl⟩, hpn, by rw [take_snoc hlt', List.map_append, List.map_append, hmap]; rfl, fun z hz => ?_, fun z hz => ?_, F29⟩
    · have hG : z.1 ∉ [] ++ pb (some (⟨b8, 0, none⟩ : Addr)) := by
        simp only [List.nil_append, g_pb_some, List.mem_singleton]
        rcases List.mem_append.1 hz with hz | hz
        · exact hne z hz
        · rw [List.mem_singleton.1 hz]; exact hb'ne
      rcases List.mem_append.1 hz with hz | hz
      · exact ((ht z hz).fr f19 (by simp)).fr G29 hG
      · rw [List.mem_singleton.1 hz] at hG ⊢; exact t19.fr G29 hG
    · rcases List.mem_append.1 hz with hz | hz
      · exact hw z hz
      · rw [List.mem_singleton.1 hz]; have := F.size; show w.heap.size ≤ b'; omega
  · have hge : ¬ (i : Int) < (Z.length : Int) := of_decide_eq_false hge
    have hi2 : i = Z.length := by omega
    rw [hi2] at hlen
    rw [List.take_of_length_le (by omega)] at hmap
    rw [hlen] at o ⊢
    exact ⟨F, _, c10, Z', rfl, o, ⟨b8, rfl, hne⟩, hmap, ht, hw⟩

theorem swo_pcmp {α : Type} (f : α → PI) : Sort.SWO (ltOf fun x y : α => pcmp (f x) (f y)) where
  irrefl x := by
    unfold ltOf
    exact decide_eq_false fun h => plt_irrefl _ ((pcmp_lt _ _).1 h)
  trans x y z h1 h2 := by
    unfold ltOf at *
    exact decide_eq_true ((pcmp_lt _ _).2 (plt_trans ((pcmp_lt _ _).1 (of_decide_eq_true h1)) ((pcmp_lt _ _).1 (of_decide_eq_true h2))))
  ntrans x y z h1 h2 := by
    unfold ltOf at *
    have h1 : ¬ plt (f x) (f y) := fun h => of_decide_eq_false h1 ((pcmp_lt _ _).2 h)
    have h2 : ¬ plt (f y) (f z) := fun h => of_decide_eq_false h2 ((pcmp_lt _ _).2 h)
    refine decide_eq_false fun h => ?_
    have h3 := (pcmp_lt _ _).1 h
    unfold plt at *; omega
theorem sortF_c {w : World} {B b c : Nat} {Z : List (Nat × PI)} (h : OwnP w B 1 (some ⟨b, 0, none⟩) Z.length c (Z.map tz)) (ht : Tups w Z) (hne : ∀ z ∈ Z, z.1 ≠ b) (hn : (Z.map (·.2)).Nodup) (hl : Z.length ≤ 100000) :
    Calls prog 72 #[.slice (some ⟨b, 0, none⟩) Z.length c, .func (.func 73) #[] #[]] w fun e w' => e = .returned (.tuple #[]) ∧ Fr [b] w w' ∧ ∃ Z' : List (Nat × PI), Z'.Perm Z ∧ (Z'.map (·.2)).Pairwise plt ∧ OwnP w' B 1 (some ⟨b, 0, none⟩) Z.length c (Z'.map tz) := by
  cases hZ : Z with
  | nil =>
    subst hZ
    refine (show Calls prog 72 _ _ _ from AnyF.slices_SortFunc_none { Try.sortF with } (some ⟨b, 0, none⟩) c (.func (.func 73) #[] #[]) w).mono ?_
    rintro e w' ⟨rfl, rfl⟩
    exact ⟨rfl, Fr.refl _ _, [], .nil, List.Pairwise.nil, h⟩
  | cons z0 Z0 =>
    rw [← hZ]
    have hz0 : z0 ∈ Z := by rw [hZ]; simp
    let α := { z : Nat × PI // z.1 ≠ b ∧ TupO w z.1 z.2 }
    haveI : Inhabited α := ⟨⟨z0, hne z0 hz0, ht z0 hz0⟩⟩
    let enc : α → Value := fun x => tz x.1
    let d : Array α := (Z.attach.map fun z => (⟨z.1, hne z.1 z.2, ht z.1 z.2⟩ : α)).toArray
    have hds : d.size = Z.length := by simp [d]
    have hdm : d.toList.map enc = Z.map tz := by
      simp only [d, List.toList_toArray, List.map_map]
      show Z.attach.map (fun z => tz z.1) = _
      rw [List.attach_map_val (f := tz)]
    have hb := (h.1.lt rfl).2
    have h1 : ∀ a : α, (enc a).oneCell' = true := fun _ => rfl
    have hH : Sort.Holds enc w b 0 d := OwnP.holds (enc := enc) (by rw [hdm]; exact h)
    have hcmp : CmpLays1 prog 73 #[] enc (fun x y : α => pcmp x.1.2 y.1.2) b 0 d.size w := fun m os dk hs x y => by
      have hf : Fr [b] w (sortWorld enc w b 0 m dk os) := ((OwnP.put h1 h (d := dk) (by rw [hs, hds]) m os).1)
      refine (cmp_v (x.2.2.fr hf (by simpa using x.2.1)) (y.2.2.fr hf (by simpa using y.2.1))).mono ?_
      rintro e w' ⟨rfl, rfl⟩
      exact ⟨rfl, 0, #[], by rw [Sort.grow_empty]; rfl⟩
    have H := Any.slices_SortFunc Try.sortF enc h1 (fun x y : α => pcmp x.1.2 y.1.2) (swo_pcmp fun x : α => x.1.2) 73 #[] b 0 c d w (enters_of Try.func73 (by kernel_rfl) rfl) hcmp hH hb (by rw [hds]; omega)
    rw [hds] at H
    refine (show Calls prog 72 _ _ _ from H).mono ?_
    rintro e w' ⟨rfl, d', n, os, ⟨hp1, _, hp2⟩, hs, rfl⟩
    have hd's : d'.size = Z.length := hp1.trans hds
    obtain ⟨g1, g2⟩ := OwnP.put h1 h (d := d') hd's n os
    have hperm : d'.toList.Perm d.toList := by
      have e1 : d'.extract 0 Z.length = d' := by rw [← hd's]; simp
      have e2 : d.extract 0 Z.length = d := by rw [← hds]; simp
      rwa [e1, e2] at hp2
    have hval : d.toList.map (·.1) = Z := by
      simp only [d, List.toList_toArray, List.map_map]
      show Z.attach.map (fun z => z.1) = _
      exact List.attach_map_subtype_val Z
    have hpz : (d'.toList.map (·.1)).Perm Z := by
      have := hperm.map (·.1)
      rwa [hval] at this
    refine ⟨rfl, g1, d'.toList.map (·.1), hpz, ?_, ?_⟩
    · have hnd : ((d'.toList.map (·.1)).map (·.2)).Nodup := ((hpz.map (·.2)).nodup_iff).2 hn
      rw [List.pairwise_iff_getElem]
      intro i j hi hj hij
      simp only [List.length_map, Array.length_toList] at hi hj
      have hs' := hs i j (Nat.zero_le _) hij (by omega)
      have hne2 := (List.pairwise_iff_getElem.1 hnd) i j (by simpa using hi) (by simpa using hj) hij
      simp only [List.getElem_map, Array.getElem_toList] at hne2 ⊢
      rw [getElem!_pos d' i hi, getElem!_pos d' j hj] at hs'
      unfold ltOf at hs'
      have hs'' : ¬ plt d'[j].1.2 d'[i].1.2 := fun h2 => of_decide_eq_false hs' ((pcmp_lt _ _).2 h2)
      rcases plt_total d'[i].1.2 d'[j].1.2 with h2 | h2 | h2
      · exact h2
      · exact absurd h2 hne2
      · exact absurd h2 hs''
    · have : (d'.toList.map (·.1)).map tz = d'.toList.map enc := by rw [List.map_map]; rfl
      rw [this]; exact g2
theorem compactF_c {w : World} {p : Option Addr} {c : Nat} {Z : List (Nat × PI)} (h : Row w p (Z.map tz)) (ht : Tups w Z) (hs : (Z.map (·.2)).Pairwise plt) (hl : Z.length ≤ 100000) :
    Calls prog 75 #[.slice p Z.length c, .func (.func 76) #[] #[]] w fun e w' => e = .returned (.slice p Z.length c) ∧ Fr [] w w' := by
  refine slices_CompactFunc_g75.link (bc (fun _ => ⟨rfl, Fr.refl _ _⟩) fun h2 => ?_)
  have h2 : ¬ (Z.length : Int) < 2 := of_decide_eq_false h2
  refine ⟨fun m n w' => ∃ i : Nat, n = i ∧ 1 ≤ i ∧ i ≤ Z.length ∧ m = Z.length - i ∧ Fr [] w w', Z.length - 1, ⟨1, rfl, by omega, by omega, rfl, Fr.refl _ _⟩, ?_⟩
  rintro m n w5 ⟨i, rfl, hi1, hi, rfl, F⟩
  refine bc (fun hlt => ?_) fun _ => ⟨rfl, F⟩
  have hlt : (i : Int) < (Z.length : Int) := of_decide_eq_true hlt
  have hlt' : i < Z.length := by omega
  have hrow := h.old F
  obtain ⟨ad, hp⟩ := hrow.has (by rw [List.length_map]; omega)
  have ew : IntKind.wrap .i64 ((i : Int) - 1) = ((i - 1 : Nat) : Int) := by rw [wrapi (by omega) (by omega)]; omega
  have hc1 : w5.cell? (ad.add i) = some (tz Z[i]) := hrow.get hp (by simp [hlt'])
  have hlt0 : i - 1 < Z.length := by omega
  have hc0 : w5.cell? (ad.add (i - 1)) = some (tz Z[i - 1]) := hrow.get hp (by simp [hlt0])
  rw [ew]
  refine ⟨ad, hp, ⟨by omega, hlt⟩, _, _, _, by rw [Int.toNat_natCast, Nat.mul_one]; exact hc1, ad, hp, ⟨by omega, by omega⟩, _, _, _, by rw [Int.toNat_natCast, Nat.mul_one]; exact hc0, tuple_same.body, fun w15 s15 => ?_⟩
  have F15 := F.trans' s15.fr
  refine (same_v ((ht _ (List.getElem_mem hlt')).fr F15 (by simp)) ((ht _ (List.getElem_mem hlt0)).fr F15 (by simp))).mono ?_
  rintro e w18 ⟨rfl, rfl⟩
  have hne : ¬ Z[i].2 = Z[i - 1].2 := fun e => by
    have := (List.pairwise_iff_getElem.1 hs) (i - 1) i (by simpa using hlt0) (by simpa using hlt') (by omega)
    simp only [List.getElem_map] at this
    rw [e] at this; exact plt_irrefl _ this
  exact ⟨_, rfl, bF (decide_eq_false hne) ⟨Z.length - (i + 1), by omega, i + 1, by rw [wrapi (by omega) (by omega)]; simp, by omega, by omega, rfl, F15⟩⟩
/-- The set of pairs that differ: sorted, new memory. -/
theorem set_c {w : World} {lA : Option Addr} {lC : Nat} {Z : List (Nat × PI)} (hr : Row w lA (Z.map tz)) (hz : Tups w Z) (hn : (Z.map (·.2)).Nodup) (hl : Z.length ≤ 100000) :
    Calls prog 41 #[.slice lA Z.length lC] w fun e w' => Fr [] w w' ∧ ∃ (b : Nat) (Z' : List (Nat × PI)), e = .returned (.slice (some ⟨b, 0, none⟩) Z.length Z.length) ∧ (Z'.map (·.2)).Perm (Z.map (·.2)) ∧ (Z'.map (·.2)).Pairwise plt ∧ (∃ c, OwnP w' w.heap.size 1 (some ⟨b, 0, none⟩) Z.length c (Z'.map tz)) ∧ Tups w' Z' ∧ (∀ z ∈ Z', w.heap.size ≤ z.1) ∧ ∀ z ∈ Z', z.1 ≠ b := by
  refine tuple_Set.link ((own_c hr hz hl).mono ?_)
  rintro e w2 ⟨f2, p, c, Z1, rfl, o2, ⟨b, rfl, hne⟩, hmap, ht, hw⟩
  have hlen : Z1.length = Z.length := by simpa using congrArg List.length hmap
  rw [← hlen] at o2 ⊢
  refine ⟨_, _, c, rfl, (sortF_c o2 ht hne (by rw [hmap]; exact hn) (by omega)).mono ?_⟩
  rintro e w7 ⟨rfl, f7, Z', hperm, hsort, o7⟩
  have hl' : Z1.length = Z'.length := hperm.length_eq.symm
  have F7 : Fr [] w w7 := f2.trans f7 (fun x hx => .inr (by rw [List.mem_singleton.1 hx]; exact (o2.1.lt rfl).1))
  have ht7 : Tups w7 Z' := fun z hz => (ht z (hperm.mem_iff.1 hz)).fr f7 (by simpa using hne z (hperm.mem_iff.1 hz))
  refine ⟨rfl, ?_⟩
  rw [hl'] at o7 ⊢
  refine (compactF_c o7.1.row ht7 hsort (by omega)).mono ?_
  rintro e w9 ⟨rfl, f9⟩
  refine ⟨_, _, c, rfl, (clipL_c w9 _ _ c o7.1.2.1).mono ?_⟩
  rintro e w14 ⟨rfl, rfl⟩
  refine ⟨_, _, _, rfl, F7.trans' f9, b, Z', rfl, by rw [← hmap]; exact hperm.map _, hsort, ⟨c, o7.fr f9 (fun _ _ => by simp)⟩, fun z hz => (ht7 z hz).fr f9 (by simp), fun z hz => hw z (hperm.mem_iff.1 hz), fun z hz => hne z (hperm.mem_iff.1 hz)⟩
end Go.Proofs.Ytnplopiconabiaa.Span
