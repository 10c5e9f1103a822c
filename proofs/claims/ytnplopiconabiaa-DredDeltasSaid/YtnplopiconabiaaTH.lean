/- Dred: Rises, sets, Concat, union. -/
import Derived.Test.YtnplopiconabiaaTD
import Derived.Test.YtnplopiconabiaaE9
namespace Go.Proofs.Ytnplopiconabiaa.Dred
open Go Go.V
open Go.Proofs.Ytnplopiconabiaa.VC
open Go.Proofs.Ytnplopiconabiaa.Span
open Go.Proofs.Try (prog)
set_option linter.unusedVariables false
set_option linter.unusedSimpArgs false
set_option maxRecDepth 20000

theorem rises_c {w : World} {p : Option Addr} {c : Nat} {Z : List ZP} (h : SetAt w p Z) (hl : Z.length ≤ 1000000) :
    Calls prog 89 #[.slice p Z.length c] w fun e w' => e = .returned (.bool true) ∧ Fr [] w w' := by
  refine tuple_Rises.link ⟨fun m n w' => ∃ i : Nat, n = (i : Int) ∧ 1 ≤ i ∧ i ≤ Z.length + 1 ∧ m = Z.length - i ∧ Fr [] w w', Z.length - 1, ⟨1, rfl, by omega, by omega, rfl, Fr.refl _ _⟩, ?_⟩
  rintro m n w5 ⟨i, rfl, hi1, hi, rfl, F⟩
  refine bc (fun hlt => ?_) fun _ => ⟨rfl, F⟩
  have hlt : (i : Int) < (Z.length : Int) := of_decide_eq_true hlt
  have hlt' : i < Z.length := by omega
  have hrow := h.row.old F
  obtain ⟨ad, hp⟩ := hrow.has (by rw [List.length_map]; omega)
  have ew : IntKind.wrap .i64 ((i : Int) - 1) = ((i - 1 : Nat) : Int) := by rw [wrapi (by omega) (by omega)]; omega
  have hc1 : w5.cell? (ad.add i) = some (tz Z[i]) := hrow.get hp (by simp [hlt'])
  have hlt0 : i - 1 < Z.length := by omega
  have hc0 : w5.cell? (ad.add (i - 1)) = some (tz Z[i - 1]) := hrow.get hp (by simp [hlt0])
  rw [ew]
  refine ⟨ad, hp, ⟨by omega, by omega⟩, _, _, _, by rw [Int.toNat_natCast, Nat.mul_one]; exact hc0, ad, hp, ⟨by omega, hlt⟩, _, _, _, by rw [Int.toNat_natCast, Nat.mul_one]; exact hc1, fun w15 s15 => ?_⟩
  have F15 := F.trans' s15.fr
  refine (cmp_v ((h.tups _ (List.getElem_mem hlt0)).fr F15 (by simp)) ((h.tups _ (List.getElem_mem hlt')).fr F15 (by simp))).mono ?_
  rintro e w18 ⟨rfl, rfl⟩
  have hp2 : pcmp Z[i - 1].2 Z[i].2 < 0 := (pcmp_lt _ _).2 (by
    have := (List.pairwise_iff_getElem.1 h.sort) (i - 1) i (by simpa using hlt0) (by simpa using hlt') (by omega)
    simpa using this)
  exact ⟨_, rfl, bF (decide_eq_false (by omega)) ⟨Z.length - (i + 1), by omega, i + 1, by rw [wrapi (by omega) (by omega)]; simp, by omega, by omega, rfl, F15⟩⟩

/-- A row of rows. -/
abbrev R3 := Option Addr × Nat × List ZP
abbrev rv (o : R3) : Value := .slice o.1 o.2.2.length o.2.1
theorem sets_c {w : World} {lA : Option Addr} {lC : Nat} {L : List R3} (hr : Row w lA (L.map rv)) (hs : ∀ o ∈ L, SetAt w o.1 o.2.2 ∧ o.2.2.length ≤ 1000000) (hl : L.length ≤ 1000000) :
    Calls prog 62 #[.slice lA L.length lC] w fun e w' => e = .returned (.bool true) ∧ Fr [] w w' := by
  refine tuple_sets.link (slices_ContainsFunc_g87.link ?_)
  have key : Calls prog 99 #[.slice lA L.length lC, .func (.func 88) #[] #[]] w fun e w' => e = .returned (I64 (-1)) ∧ Fr [] w w' := by
    refine slices_IndexFunc_g99.link ⟨fun m n w' => ∃ i : Nat, n = (i : Int) ∧ i ≤ L.length ∧ m = L.length - i ∧ Fr [] w w', L.length, ⟨0, rfl, by omega, rfl, Fr.refl _ _⟩, ?_⟩
    rintro m n w5 ⟨i, rfl, hi, rfl, F⟩
    refine bc (fun hlt => ?_) fun _ => ⟨rfl, F⟩
    have hlt : (i : Int) < (L.length : Int) := of_decide_eq_true hlt
    have hlt' : i < L.length := by omega
    have hrow := hr.old F
    obtain ⟨ad, hp⟩ := hrow.has (by rw [List.length_map]; omega)
    have hc1 : w5.cell? (ad.add i) = some (rv L[i]) := hrow.get hp (by simp [hlt'])
    obtain ⟨h1, h2⟩ := hs _ (List.getElem_mem hlt')
    refine ⟨ad, hp, ⟨by omega, hlt⟩, _, _, _, by rw [Int.toNat_natCast, Nat.mul_one]; exact hc1, tuple_sets_1.body, ?_⟩
    refine tuple_sets_1.link ((rises_c (h1.old F) h2).mono ?_)
    rintro e w6 ⟨rfl, f6⟩
    exact ⟨_, rfl, _, rfl, bF rfl ⟨L.length - (i + 1), by omega, i + 1, by rw [wrapi (by omega) (by omega)]; simp, by omega, rfl, F.trans' f6⟩⟩
  refine key.mono ?_
  rintro e w2 ⟨rfl, f2⟩
  exact ⟨_, rfl, _, rfl, rfl, f2⟩

theorem grow_c (w : World) (n : Nat) (hn : n ≤ 1000000) : Calls prog 100 #[.slice none 0 0, I64 (n : Int)] w fun e w' => Fr [] w w' ∧ ∃ p c, e = .returned (.slice p 0 c) ∧ OwnZ w' w.heap.size 1 p 0 c [] := by
  refine slices_Grow_g100.link fun y1 h1 => bF (decide_eq_false (by omega)) (h1 _ fun y3 h3 => ?_)
  have e : IntKind.wrap .i64 ((n : Int) - IntKind.wrap .i64 (((0 : Nat) : Int) - ((0 : Nat) : Int))) = (n : Int) := by
    rw [show IntKind.wrap .i64 (((0 : Nat) : Int) - ((0 : Nat) : Int)) = 0 from rfl, Int.sub_zero, wrapi (by omega) (by omega)]
  simp only [e]
  refine bc (fun hp => ?_) fun hp => h3 _ _ _ _ ⟨Fr.refl _ _, none, 0, rfl, OwnZ.nil _ _ _⟩
  refine ⟨⟨by decide, by decide, by decide⟩, ⟨by omega, by omega, by omega⟩, ?_⟩
  have hx : ∀ m, ∀ x ∈ reps [Value.slice none 0 0] m, x.oneCell' = true := fun m => by
    induction m with
    | zero => intro x hx; cases hx
    | succ m ih =>
      intro x hx
      rcases List.mem_append.1 (show x ∈ [Value.slice none 0 0] ++ reps [Value.slice none 0 0] m from hx) with hx | hx
      · rw [List.mem_singleton.1 hx]; rfl
      · exact ih x hx
  rw [Int.toNat_natCast]
  have hq : subA none 0 0 1 = none := rfl
  refine append_p (B := w.heap.size) (ys := []) (u := w) (l := 0) (c := 0) (p := none) (OwnZ.nil _ _ _) (Fr.refl _ _) (by rw [reps_length1, Nat.mul_one]) (hx n) rfl (Nat.le_refl _) (Nat.le_refl _) (fun _ => rfl) (by simp) (fun ad hp => by cases hp) (by omega) (by omega) fun w10 p11 c13 F10 _ _ o10 _ => ?_
  have hc := o10.2.1
  refine ⟨⟨by decide, by decide, by omega⟩, h3 _ _ _ _ ⟨F10, _, _, rfl, ?_⟩⟩
  rw [subA_0]
  exact o10.front (xs := []) rfl (by omega)
theorem concat_c {w : World} {lA : Option Addr} {lC : Nat} {L : List R3} (hr : Row w lA (L.map rv)) (hs : ∀ o ∈ L, Row w o.1 (o.2.2.map tz)) (hl : L.length ≤ 100) (hs2 : ∀ o ∈ L, o.2.2.length ≤ 10000) :
    Calls prog 90 #[.slice lA L.length lC] w fun e w' => Fr [] w w' ∧ ∃ p c, e = .returned (.slice p (L.flatMap (·.2.2)).length c) ∧ OwnZ w' w.heap.size 1 p (L.flatMap (·.2.2)).length c ((L.flatMap (·.2.2)).map tz) := by
  have hfl : ∀ i, i ≤ L.length → ((L.take i).flatMap (·.2.2)).length ≤ i * 10000 := fun i => by
    induction i with
    | zero => intro _; simp
    | succ i ih =>
      intro hi
      have := ih (by omega)
      have := hs2 _ (List.getElem_mem (show i < L.length by omega))
      rw [take_snoc (by omega), List.flatMap_append, List.length_append]
      simp only [List.flatMap_cons, List.flatMap_nil, List.append_nil]; omega
  refine slices_Concat_g90.link ⟨fun m s n w' => ∃ i : Nat, n = (i : Int) ∧ i ≤ L.length ∧ m = L.length - i ∧ s = (((L.take i).flatMap (·.2.2)).length : Int) ∧ w' = w, L.length, ⟨0, rfl, by omega, rfl, by simp, rfl⟩, ?_⟩
  rintro m s n w6 ⟨i, rfl, hi, rfl, rfl, rfl⟩
  refine bc (fun hlt => ?_) fun hge => ?_
  · have hlt : (i : Int) < (L.length : Int) := of_decide_eq_true hlt
    have hlt' : i < L.length := by omega
    intro y8 h8
    obtain ⟨ad, hp⟩ := hr.has (by rw [List.length_map]; omega)
    have hc1 : w6.cell? (ad.add i) = some (rv L[i]) := hr.get hp (by simp [hlt'])
    have h1 := hfl i hi
    have h2 := hs2 _ (List.getElem_mem hlt')
    have ew : IntKind.wrap .i64 ((((L.take i).flatMap (·.2.2)).length : Int) + (L[i].2.2.length : Int)) = (((L.take (i + 1)).flatMap (·.2.2)).length : Int) := by
      rw [wrapi (by omega) (by omega), take_snoc hlt', List.flatMap_append, List.length_append]
      simp
    refine ⟨ad, hp, ⟨by omega, hlt⟩, _, _, _, by rw [Int.toNat_natCast, Nat.mul_one]; exact hc1, ?_⟩
    rw [ew]
    exact bF (decide_eq_false (by omega)) (h8 _ _ ⟨L.length - (i + 1), by omega, i + 1, by rw [wrapi (by omega) (by omega)]; simp, by omega, rfl, rfl, rfl⟩)
  · have hge : ¬ (i : Int) < (L.length : Int) := of_decide_eq_false hge
    have hi' : i = L.length := by omega
    have h1 := hfl L.length (Nat.le_refl _)
    rw [List.take_length] at h1
    rw [hi', List.take_length]
    have h2 : (L.flatMap (·.2.2)).length ≤ 1000000 := by omega
    have cg := grow_c w6 (L.flatMap (·.2.2)).length h2
    refine cg.mono ?_
    rintro e18 w19 ⟨f19, p20, c22, rfl, o20⟩
    refine ⟨_, _, _, rfl, fun m p k c n w' => ∃ j : Nat, n = (j : Int) ∧ j ≤ L.length ∧ m = L.length - j ∧ k = ((L.take j).flatMap (·.2.2)).length ∧ OwnZ w' w6.heap.size 1 p ((L.take j).flatMap (·.2.2)).length c (((L.take j).flatMap (·.2.2)).map tz) ∧ Fr [] w6 w', L.length, ⟨0, rfl, by omega, rfl, by simp, by simpa using o20, f19⟩, ?_⟩
    rintro m25 p26 k27 c28 n29 w30 ⟨j, rfl, hj, rfl, rfl, o, F⟩
    refine bc (fun hlt => ?_) fun hge2 => ?_
    · have hlt : (j : Int) < (L.length : Int) := of_decide_eq_true hlt
      have hlt' : j < L.length := by omega
      obtain ⟨ad, hp⟩ := (hr.old F).has (by rw [List.length_map]; omega)
      have hc1 : w30.cell? (ad.add j) = some (rv L[j]) := (hr.old F).get hp (by simp [hlt'])
      have hb1 := hfl j hj
      have hb2 := hs2 _ (List.getElem_mem hlt')
      have zF := F.size
      have es : (L.take j).flatMap (·.2.2) ++ L[j].2.2 = (L.take (j + 1)).flatMap (·.2.2) := by rw [take_snoc hlt', List.flatMap_append]; simp
      have hrj := (hs _ (List.getElem_mem hlt')).old F
      generalize hX : (L.take j).flatMap (·.2.2) = X at *
      generalize hY : L[j] = Y at *
      obtain ⟨yA, yC, yZ⟩ := Y
      simp only at hb2 hrj es
      refine ⟨ad, hp, ⟨by omega, hlt⟩, yA, yZ.length, yC, by rw [Int.toNat_natCast, Nat.mul_one]; exact hc1, yZ.map tz, by rw [List.length_map, Nat.mul_one], hrj, ?_⟩
      refine appMN (C := tz) (fun _ => rfl) (zs := yZ) rfl (u := w6) (B := w6.heap.size) o F rfl (Nat.le_refl _) zF (fun _ => rfl) (by simp) (fun ad hp => by simp) (by omega) (by omega) fun w37 p38 c40 F37 _ _ o37 _ => ?_
      rw [es] at o37 ⊢
      exact ⟨L.length - (j + 1), by omega, j + 1, by rw [wrapi (by omega) (by omega)]; simp, by omega, rfl, rfl, o37, F37⟩
    · have hge2 : ¬ (j : Int) < (L.length : Int) := of_decide_eq_false hge2
      have hj' : j = L.length := by omega
      rw [hj', List.take_length] at o ⊢
      exact ⟨F, _, _, rfl, o⟩
theorem union_c {w : World} {p q : Option Addr} {cp cq : Nat} {A B : List ZP} (hA : Row w p (A.map tz)) (hB : Row w q (B.map tz)) (tA : Tups w A) (tB : Tups w B) (hn : ((A ++ B).map (·.2)).Nodup) (lA : A.length ≤ 10000) (lB : B.length ≤ 10000) :
    Calls prog 64 #[.slice p A.length cp, .slice q B.length cq] w fun e w' => Fr [] w w' ∧ ∃ (p : Option Addr) (Z : List ZP), e = .returned (.slice p Z.length Z.length) ∧ SetAt w' p Z ∧ (∀ x, x ∈ Z.map (·.2) ↔ x ∈ A.map (·.2) ∨ x ∈ B.map (·.2)) ∧ Within w.heap.size w'.heap.size p Z := by
  refine tuple_union.link fun k1 w2 s2 b2 => ?_
  have b2 : Blk w2 k1 (([(p, cp, A), (q, cq, B)] : List R3).map rv) := b2
  have r2 : Row w2 (some ⟨k1, 0, none⟩) (([(p, cp, A), (q, cq, B)] : List R3).map rv) := Row.of_blk (off := 0) b2 (fun j u hj => by rw [Nat.zero_add]; exact hj) (fun u hu => by
    obtain ⟨o, _, ho⟩ := List.mem_map.1 hu
    rw [← ho]; rfl)
  have cc := concat_c (lC := 2) r2 (fun o ho => by
    rcases List.mem_cons.1 ho with rfl | ho
    · exact hA.old s2.fr
    · rw [List.mem_singleton.1 ho]; exact hB.old s2.fr) (by simp) (fun o ho => by
    rcases List.mem_cons.1 ho with rfl | ho
    · exact lA
    · rw [List.mem_singleton.1 ho]; exact lB)
  refine cc.mono ?_
  rintro e5 w6 ⟨f6, p7, c9, rfl, o6⟩
  have F6 := s2.fr.trans' f6
  have es : ([(p, cp, A), (q, cq, B)] : List R3).flatMap (·.2.2) = A ++ B := by simp
  rw [es] at o6 ⊢
  have z2 := s2.fr.size
  refine ⟨_, _, _, rfl, (set_c (lC := c9) o6.row (fun z hz => ?_) hn (by rw [List.length_append]; omega)).mono ?_⟩
  · rcases List.mem_append.1 hz with hz | hz
    · exact (tA z hz).fr F6 (by simp)
    · exact (tB z hz).fr F6 (by simp)
  rintro e10 w11 ⟨f11, b, Z', rfl, perm, sort, ⟨c, o11⟩, t11, low, ne⟩
  have hl' : Z'.length = (A ++ B).length := by simpa using perm.length_eq
  have z6 := F6.size
  refine ⟨_, _, _, rfl, F6.trans' f11, some ⟨b, 0, none⟩, Z', by rw [hl'], ⟨o11.1.row, t11, sort⟩, fun x => by rw [perm.mem_iff, List.map_append, List.mem_append], fun ad hp => ⟨by have := (o11.1.lt hp).1; omega, (o11.1.lt hp).2⟩, fun z hz => ⟨by have := low z hz; omega, (t11 z hz).lt⟩⟩
end Go.Proofs.Ytnplopiconabiaa.Dred
