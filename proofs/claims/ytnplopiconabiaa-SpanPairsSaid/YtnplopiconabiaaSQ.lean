/- Span: the document's sorted pairs. -/
import Derived.Test.YtnplopiconabiaaSP
import Derived.Test.YtnplopiconabiaaCA
namespace Go.Proofs.Ytnplopiconabiaa.Span
open Go Go.V
open Go.Proofs.Ytnplopiconabiaa.VC
open Go.Proofs.Try (prog)
set_option linter.unusedVariables false
set_option linter.unusedSimpArgs false
set_option maxRecDepth 20000

theorem rin_c {w : World} {lA : Option Addr} {lC : Nat} {l : List Int} (n : Int) (hr : Row w lA (l.map I64)) (hl : l.length ≤ 100000000) :
    Calls prog 48 #[.slice lA l.length lC, I64 n] w fun e w' => e = .returned (.bool (decide (n ∈ l))) ∧ Fr [] w w' := by
  refine rhizomeref13_in.link ⟨fun m n' w' => ∃ i : Nat, n' = i ∧ i ≤ l.length ∧ m = l.length - i ∧ n ∉ l.take i ∧ Fr [] w w', l.length, ⟨0, rfl, by omega, rfl, by simp, Fr.refl _ _⟩, ?_⟩
  rintro m n' w5 ⟨i, rfl, hi, rfl, hn, F⟩
  refine bc (fun hlt => ?_) fun hge => ?_
  · have hlt : (i : Int) < (l.length : Int) := of_decide_eq_true hlt
    have hlt' : i < l.length := by omega
    refine rd I64 (hr.old F) rfl hlt' hlt (bc (fun h => ⟨?_, F⟩) fun h => ⟨l.length - (i + 1), by omega, i + 1, by rw [wrapi (by omega) (by omega)]; simp, by omega, rfl, ?_, F⟩)
    · rw [decide_eq_true (by rw [← of_decide_eq_true h]; exact List.getElem_mem hlt')]
    · rw [take_snoc hlt', List.mem_append, List.mem_singleton]
      rintro (h2 | h2)
      · exact hn h2
      · exact of_decide_eq_false h h2.symm
  · have hge : ¬ (i : Int) < (l.length : Int) := of_decide_eq_false hge
    rw [List.take_of_length_le (by omega)] at hn
    exact ⟨by rw [decide_eq_false hn], F⟩
theorem lexL_first : ∀ {u v : List Int} {i : Nat} {x y : Int}, u.take i = v.take i → u[i]? = some x → v[i]? = some y → x ≠ y → (lexL u v ↔ x < y)
  | a :: u, b :: v, 0, x, y, _, h1, h2, hne => by
    simp at h1 h2
    subst h1; subst h2
    constructor
    · rintro (h | ⟨h, _⟩)
      · exact h
      · exact absurd h hne
    · exact fun h => .inl h
  | a :: u, b :: v, i + 1, x, y, h, h1, h2, hne => by
    simp at h h1 h2
    obtain ⟨rfl, h⟩ := h
    rw [← lexL_first h h1 h2 hne]
    constructor
    · rintro (h | ⟨_, h⟩)
      · omega
      · exact h
    · exact fun h => .inr ⟨rfl, h⟩
  | [], _, _, _, _, _, h1, _, _ => by simp at h1
  | _ :: _, [], _, _, _, _, _, h2, _ => by simp at h2
theorem rless_c {w : World} {aA bA : Option Addr} {aC bC : Nat} {u v : List Int} (hu : Row w aA (u.map I64)) (hv : Row w bA (v.map I64)) (hl : u.length = v.length) (hb : u.length ≤ 1000000) :
    Calls prog 49 #[.slice aA u.length aC, .slice bA v.length bC] w fun e w' => (∃ b : Bool, e = .returned (.bool b) ∧ (b = true ↔ lexL u v)) ∧ Fr [] w w' := by
  refine rhizomeref13_less.link ⟨fun m n w' => ∃ i : Nat, n = i ∧ i ≤ u.length ∧ m = u.length - i ∧ u.take i = v.take i ∧ Fr [] w w', u.length, ⟨0, rfl, by omega, rfl, by simp, Fr.refl _ _⟩, ?_⟩
  rintro m n w5 ⟨i, rfl, hi, rfl, he, F⟩
  refine bc (fun hlt => ?_) fun hge => ?_
  · have hlt : (i : Int) < (u.length : Int) := of_decide_eq_true hlt
    have hlt' : i < u.length := by omega
    have hltv : i < v.length := by omega
    refine rd I64 (hu.old F) rfl hlt' hlt (rd I64 (hv.old F) rfl hltv (by omega) (bc (fun h => ?_) fun h => ?_))
    · have hne : ¬ u[i] = v[i] := by simpa using h
      refine rd I64 (hu.old F) rfl hlt' hlt (rd I64 (hv.old F) rfl hltv (by omega) fun w15 s15 => ⟨⟨_, rfl, ?_⟩, F.trans' s15.fr⟩)
      rw [decide_eq_true_eq, lexL_first he (List.getElem?_eq_getElem hlt') (List.getElem?_eq_getElem hltv) hne]
    · have heq : u[i] = v[i] := by simpa using h
      exact ⟨u.length - (i + 1), by omega, fun w18 s18 => ⟨i + 1, by rw [wrapi (by omega) (by omega)]; simp, by omega, rfl, by rw [take_snoc hlt', take_snoc hltv, he, heq], F.trans' s18.fr⟩⟩
  · have hge : ¬ (i : Int) < (u.length : Int) := of_decide_eq_false hge
    rw [List.take_of_length_le (by omega), List.take_of_length_le (by omega)] at he
    exact ⟨⟨_, rfl, by subst he; exact ⟨fun h => (by cases h), fun h => (lexL_irr h).elim⟩⟩, F⟩

abbrev ZP := Nat × PI
/-- Two sorted rows put together as far as i of the one and k of the other. -/
structure Mrg (A B Y : List ZP) (i k : Nat) : Prop where
  hi : i ≤ A.length
  hk : k ≤ B.length
  perm : Y.Perm (A.take i ++ B.take k)
  sort : (Y.map (·.2)).Pairwise plt
  low : ∀ y ∈ Y, ∀ x, x ∈ A.drop i ∨ x ∈ B.drop k → plt y.2 x.2
theorem Mrg.swap {A B Y : List ZP} {i k : Nat} (h : Mrg A B Y i k) : Mrg B A Y k i := ⟨h.hk, h.hi, h.perm.trans List.perm_append_comm, h.sort, fun y hy x hx => h.low y hy x hx.symm⟩
theorem Mrg.left {A B Y : List ZP} {i k : Nat} (h : Mrg A B Y i k) (sA : (A.map (·.2)).Pairwise plt) (hi : i < A.length) (hb : ∀ x ∈ B.drop k, plt A[i].2 x.2) : Mrg A B (Y ++ [A[i]]) (i + 1) k where
  hi := hi
  hk := h.hk
  perm := by
    rw [take_snoc hi, List.append_assoc]
    refine (h.perm.append_right [A[i]]).trans ?_
    rw [List.append_assoc]
    exact List.Perm.append_left _ List.perm_append_comm
  sort := by
    rw [List.map_append, List.pairwise_append]
    refine ⟨h.sort, List.pairwise_singleton _ _, fun x hx y hy => ?_⟩
    obtain ⟨z, hz, rfl⟩ := List.mem_map.1 hx
    have hy : y = A[i].2 := by simpa using hy
    rw [hy]
    exact h.low z hz _ (.inl (by rw [List.drop_eq_getElem_cons hi]; exact List.mem_cons_self))
  low := fun y hy x hx => by
    rcases List.mem_append.1 hy with hy | hy
    · exact h.low y hy x (hx.imp (fun h => by rw [List.drop_eq_getElem_cons hi]; exact List.mem_cons_of_mem _ h) id)
    · rw [List.mem_singleton.1 hy]
      rcases hx with hx | hx
      · obtain ⟨j, hj, rfl⟩ := List.mem_iff_getElem.1 hx
        rw [List.getElem_drop]
        rw [List.length_drop] at hj
        have := (List.pairwise_iff_getElem.1 sA) i (i + 1 + j) (by simpa using hi) (by rw [List.length_map]; omega) (by omega)
        simpa using this
      · exact hb x hx
theorem drop_low {B : List ZP} {k : Nat} (sB : (B.map (·.2)).Pairwise plt) (hk : k < B.length) {y : PI} (h : plt y B[k].2) : ∀ x ∈ B.drop k, plt y x.2 := fun x hx => by
  rw [List.drop_eq_getElem_cons hk] at hx
  rcases List.mem_cons.1 hx with rfl | hx
  · exact h
  · obtain ⟨j, hj, rfl⟩ := List.mem_iff_getElem.1 hx
    rw [List.getElem_drop]
    rw [List.length_drop] at hj
    have := (List.pairwise_iff_getElem.1 sB) k (k + 1 + j) (by simpa using hk) (by rw [List.length_map]; omega) (by omega)
    exact plt_trans h (by simpa using this)

set_option maxHeartbeats 1000000 in
theorem rsorted_c : ∀ (N : Nat) {w : World} {lA : Option Addr} {lC : Nat} {Z : List ZP}, Z.length ≤ N → N ≤ 100000 → Z.length ≤ lC → Row w lA (Z.map tz) → Tups w Z → (Z.map (·.2)).Nodup →
    Calls prog 45 #[.slice lA Z.length lC] w fun e w' => Fr [] w w' ∧ ∃ (p : Option Addr) (c : Nat) (Z' : List ZP), e = .returned (.slice p Z'.length c) ∧ Row w' p (Z'.map tz) ∧ Z'.Perm Z ∧ (Z'.map (·.2)).Pairwise plt ∧ ∀ ad, p = some ad → lA = some ad ∨ w.heap.size ≤ ad.block := by
  intro N
  induction N using Nat.strongRecOn with
  | ind N ih =>
  intro w lA lC Z hN hN2 hC hr ht hn
  refine rhizomeref11_Sorted.link (bc (fun h2 => ?_) fun h2 => ?_)
  · have h2 : (Z.length : Int) < 2 := of_decide_eq_true h2
    refine ⟨Fr.refl _ _, lA, lC, Z, rfl, hr, List.Perm.refl _, ?_, fun ad h => .inl h⟩
    match Z, h2 with
    | [], _ => exact .nil
    | [z], _ => exact List.pairwise_singleton _ _
    | _ :: _ :: _, h => simp at h; omega
  have h2 : ¬ (Z.length : Int) < 2 := of_decide_eq_false h2
  have hdiv : Int.tdiv (Z.length : Int) 2 = ((Z.length / 2 : Nat) : Int) := by rw [Int.tdiv_eq_ediv_of_nonneg (by omega)]; omega
  have hw : IntKind.wrap .i64 (Int.tdiv (Z.length : Int) 2) = ((Z.length / 2 : Nat) : Int) := by rw [hdiv, wrapi (by omega) (by omega)]
  rw [hw]
  generalize hd : Z.length / 2 = d
  have hd1 : 1 ≤ d ∧ d < Z.length ∧ d ≤ Z.length := by omega
  refine ⟨by decide, ⟨by omega, by omega, by omega⟩, by decide, ⟨by omega, by omega, by omega⟩, fun w1 s1 => ?_⟩
  rw [subA_0, Int.toNat_natCast, Int.toNat_natCast, Nat.sub_zero, Nat.sub_zero]
  have hA1 : (Z.take d).length = d := by rw [List.length_take]; omega
  have hB1 : (Z.drop d).length = Z.length - d := List.length_drop
  have hmapA : ((Z.take d).map (·.2)).Nodup := by rw [List.map_take]; exact hn.sublist (List.take_sublist _ _)
  have hmapB : ((Z.drop d).map (·.2)).Nodup := by rw [List.map_drop]; exact hn.sublist (List.drop_sublist _ _)
  have hr1 := hr.old s1.fr
  have rowA : Row w1 lA ((Z.take d).map tz) := by have := hr1.pre d; rwa [← List.map_take] at this
  have hTA : Tups w1 (Z.take d) := fun z hz => (ht z (List.mem_of_mem_take hz)).fr s1.fr (by simp)
  have cA := ih d (by omega) (w := w1) (lA := lA) (lC := lC) (Z := Z.take d) (by omega) (by omega) (by omega) rowA hTA hmapA
  rw [hA1] at cA
  refine cA.mono ?_
  rintro e3 w4 ⟨f4, p5, c7, A, rfl, rA, pA, sA, _⟩
  refine ⟨p5, _, c7, rfl, ?_⟩
  have F4 := s1.fr.trans' f4
  have rowB : Row w4 (subA lA d lC 1) ((Z.drop d).map tz) := by
    have := (hr.old F4).from (lo := d) (c := lC) (sz := 1) (n := Z.length) (by rw [List.length_map, Nat.mul_one]) hC
    rwa [Nat.mul_one, ← List.map_drop] at this
  have hTB : Tups w4 (Z.drop d) := fun z hz => (ht z (List.mem_of_mem_drop hz)).fr F4 (by simp)
  have cB := ih (Z.length - d) (by omega) (w := w4) (lA := subA lA d lC 1) (lC := lC - d) (Z := Z.drop d) (by omega) (by omega) (by omega) rowB hTB hmapB
  rw [hB1] at cB
  refine cB.mono ?_
  rintro e8 w9 ⟨f9, p10, c12, B, rfl, rB, pB, sB, _⟩
  refine ⟨p10, _, c12, rfl, ?_⟩
  have F9 := F4.trans' f9
  have rA9 := rA.old f9
  have lA' : A.length = d := by rw [pA.length_eq, hA1]
  have lB' : B.length = Z.length - d := by rw [pB.length_eq, hB1]
  have tA : Tups w9 A := fun z hz => (ht z (List.mem_of_mem_take (pA.mem_iff.1 hz))).fr F9 (by simp)
  have tB : Tups w9 B := fun z hz => (ht z (List.mem_of_mem_drop (pB.mem_iff.1 hz))).fr F9 (by simp)
  have hdis : ∀ x ∈ A, ∀ y ∈ B, x.2 ≠ y.2 := fun x hx y hy => by
    have h1 : x.2 ∈ (Z.take d).map (·.2) := List.mem_map.2 ⟨x, pA.mem_iff.1 hx, rfl⟩
    have h2 : y.2 ∈ (Z.drop d).map (·.2) := List.mem_map.2 ⟨y, pB.mem_iff.1 hy, rfl⟩
    rw [← List.take_append_drop d Z, List.map_append, List.nodup_append] at hn
    exact hn.2.2 _ h1 _ h2
  refine ⟨fun m p k c n1 n2 w' => ∃ (i j : Nat) (Y : List ZP), n1 = i ∧ n2 = j ∧ Mrg A B Y i j ∧ m = (A.length - i) + (B.length - j) ∧ k = Y.length ∧ OwnZ w' w9.heap.size 1 p Y.length c (Y.map tz) ∧ Fr [] w9 w', A.length + B.length, ⟨0, 0, [], rfl, rfl, ⟨by omega, by omega, by simp, .nil, fun y hy => (by cases hy)⟩, by omega, rfl, OwnZ.nil _ _ _, Fr.refl _ _⟩, ?_⟩
  rintro m p16 k17 c18 n19 n20 w21 ⟨i, j, Y, rfl, rfl, M, rfl, rfl, o, F⟩
  have hY : Y.length = i + j := by have := M.perm.length_eq; rw [List.length_append, List.length_take, List.length_take] at this; have := M.hi; have := M.hk; omega
  have Mi := M.hi
  have Mk := M.hk
  intro y23 h23
  have stop : i = A.length → j = B.length → y23 false w21 := fun e1 e2 => h23 _ _ (bF rfl ⟨F9.trans' F, p16, c18, Y, rfl, o.row, by
    have := M.perm
    rw [e1, e2, List.take_length, List.take_length] at this
    refine this.trans ((pA.append pB).trans ?_)
    rw [List.take_append_drop], M.sort, fun ad hp => .inr (by have := (o.lt hp).1; have := F9.size; omega)⟩)
  have hrA := rA9.old F
  have hrB := rB.old F
  -- one of the first, one of the second
  have goA : ∀ (w' : World) (hi : i < A.length), Fr [] w21 w' → (∀ x ∈ B.drop j, plt A[i].2 x.2) → ∃ (ad32 : Addr), p5 = some ad32 ∧ (0 ≤ (i : Int) ∧ (i : Int) < (A.length : Int)) ∧ ∃ (p33 : Option Addr), ∃ (k34 : Nat), ∃ (k35 : Nat), World.cell? w' (Addr.add ad32 (Int.toNat (i : Int) * 1)) = some (.slice p33 k34 k35) ∧ ∀ (k36 : Nat), appendP false [] [k36] [k36] w' p16 Y.length c18 1 [.slice p33 k34 k35] 1 24 [.slice none 0 0] fun w37 p38 k39 k40 => ∃ (k41 : Nat), k41 < A.length - i + (B.length - j) ∧ ∃ (i' j' : Nat) (Y' : List ZP), IntKind.wrap .i64 ((i : Int) + 1) = i' ∧ (j : Int) = j' ∧ Mrg A B Y' i' j' ∧ k41 = (A.length - i') + (B.length - j') ∧ k39 = Y'.length ∧ OwnZ w37 w9.heap.size 1 p38 Y'.length k40 (Y'.map tz) ∧ Fr [] w9 w37 := by
    intro w' hi f' hlow
    have hr' := hrA.old f'
    obtain ⟨ad, hp⟩ := hr'.has (by rw [List.length_map]; omega)
    have hcell : w'.cell? (ad.add i) = some (tz A[i]) := hr'.get hp (by simp [hi])
    have F' := F.trans' f'
    refine ⟨ad, hp, ⟨by omega, by omega⟩, _, _, _, by rw [Int.toNat_natCast, Nat.mul_one]; exact hcell, fun k36 => ?_⟩
    refine appM1 (C := tz) (fun _ => rfl) (x := A[i]) (u := w9) (B := w9.heap.size) (o.fr f' (fun _ _ => by simp)) F' rfl (Nat.le_refl _) F'.size (fun h => by cases h) (by simp) (fun ad hp x hx => .inl hx) (by omega) (by omega) fun w37 p38 c40 F37 _ _ o37 _ => ?_
    exact ⟨A.length - (i + 1) + (B.length - j), by omega, i + 1, j, _, by rw [wrapi (by omega) (by omega)]; simp, rfl, M.left sA hi hlow, rfl, rfl, o37, F37⟩
  have goB : ∀ (w' : World) (hj : j < B.length), Fr [] w21 w' → (∀ x ∈ A.drop i, plt B[j].2 x.2) → ∃ (ad32 : Addr), p10 = some ad32 ∧ (0 ≤ (j : Int) ∧ (j : Int) < (B.length : Int)) ∧ ∃ (p33 : Option Addr), ∃ (k34 : Nat), ∃ (k35 : Nat), World.cell? w' (Addr.add ad32 (Int.toNat (j : Int) * 1)) = some (.slice p33 k34 k35) ∧ ∀ (k36 : Nat), appendP false [] [k36] [k36] w' p16 Y.length c18 1 [.slice p33 k34 k35] 1 24 [.slice none 0 0] fun w37 p38 k39 k40 => ∃ (k41 : Nat), k41 < A.length - i + (B.length - j) ∧ ∃ (i' j' : Nat) (Y' : List ZP), (i : Int) = i' ∧ IntKind.wrap .i64 ((j : Int) + 1) = j' ∧ Mrg A B Y' i' j' ∧ k41 = (A.length - i') + (B.length - j') ∧ k39 = Y'.length ∧ OwnZ w37 w9.heap.size 1 p38 Y'.length k40 (Y'.map tz) ∧ Fr [] w9 w37 := by
    intro w' hj f' hlow
    have hr' := hrB.old f'
    obtain ⟨ad, hp⟩ := hr'.has (by rw [List.length_map]; omega)
    have hcell : w'.cell? (ad.add j) = some (tz B[j]) := hr'.get hp (by simp [hj])
    have F' := F.trans' f'
    refine ⟨ad, hp, ⟨by omega, by omega⟩, _, _, _, by rw [Int.toNat_natCast, Nat.mul_one]; exact hcell, fun k36 => ?_⟩
    refine appM1 (C := tz) (fun _ => rfl) (x := B[j]) (u := w9) (B := w9.heap.size) (o.fr f' (fun _ _ => by simp)) F' rfl (Nat.le_refl _) F'.size (fun h => by cases h) (by simp) (fun ad hp x hx => .inl hx) (by omega) (by omega) fun w37 p38 c40 F37 _ _ o37 _ => ?_
    exact ⟨A.length - i + (B.length - (j + 1)), by omega, i, j + 1, _, rfl, by rw [wrapi (by omega) (by omega)]; simp, (M.swap.left sB hj hlow).swap, by omega, rfl, o37, F37⟩
  have go : i < A.length ∨ j < B.length → y23 true w21 := fun hor => h23 _ _ (bT rfl fun y26 h26 y62 h62 => by
    -- the comparison is known to be c in w64
    have main : ∀ (n27 : Int) (w28 : World), Fr [] w21 w28 → (∀ (hi : i < A.length) (hj : j < B.length), n27 = pcmp A[i].2 B[j].2) → (¬ (i < A.length ∧ j < B.length) → n27 = 0) → y26 n27 w28 := fun n27 w28 f28 hc h0 => h26 _ _ fun y29 h29 => by
      have left : ∀ (hi : i < A.length), (∀ x ∈ B.drop j, plt A[i].2 x.2) → y29 true w28 := fun hi hlow => h29 _ _ (bT rfl (goA w28 hi f28 hlow))
      have right : ∀ (hj : j < B.length), (∀ x ∈ A.drop i, plt B[j].2 x.2) → (A.length ≤ i ∨ 0 < n27) → y29 false w28 := fun hj hlow hor2 => h29 _ _ (bF rfl fun y42 h42 => by
        have yes : y42 true w28 := h42 _ _ (bT rfl (goB w28 hj f28 hlow))
        refine bc (fun _ => yes) fun hlt => ?_
        have hlt : ¬ (A.length : Int) ≤ (i : Int) := of_decide_eq_false hlt
        rw [decide_eq_true (show 0 < n27 by omega)]
        exact yes)
      refine bc (fun hk => ?_) fun hk => ?_
      · have hk : (B.length : Int) ≤ (j : Int) := of_decide_eq_true hk
        exact left (by omega) fun x hx => by rw [List.drop_of_length_le (by omega)] at hx; cases hx
      · have hk : ¬ (B.length : Int) ≤ (j : Int) := of_decide_eq_false hk
        have hj : j < B.length := by omega
        refine bc (fun hi => ?_) fun hi => ?_
        · have hi : (i : Int) < (A.length : Int) := of_decide_eq_true hi
          have hi : i < A.length := by omega
          have hcc := hc hi hj
          by_cases hlt : n27 < 0
          · rw [decide_eq_true hlt]
            exact left hi (drop_low sB hj ((pcmp_lt _ _).1 (by rw [← hcc]; exact hlt)))
          · rw [decide_eq_false hlt]
            have hgt : plt B[j].2 A[i].2 := by
              rcases plt_total A[i].2 B[j].2 with h | h | h
              · exact absurd ((pcmp_lt _ _).2 h) (by rw [← hcc]; exact hlt)
              · exact absurd h (hdis _ (List.getElem_mem hi) _ (List.getElem_mem hj))
              · exact h
            refine right hj (drop_low sA hi hgt) (.inr ?_)
            rw [hcc, pcmp_gt (by unfold plt at hgt; omega)]; decide
        · have hi : ¬ (i : Int) < (A.length : Int) := of_decide_eq_false hi
          exact right hj (fun x hx => by rw [List.drop_of_length_le (by omega)] at hx; cases hx) (.inl (by omega))
    have no : ¬ (i < A.length ∧ j < B.length) → y62 false w21 := fun h => h62 _ _ (bF rfl (main 0 w21 (Fr.refl _ _) (fun hi hj => absurd ⟨hi, hj⟩ h) (fun _ => rfl)))
    refine bc (fun hi => ?_) fun hi => no (by have := of_decide_eq_false hi; omega)
    have hi : (i : Int) < (A.length : Int) := of_decide_eq_true hi
    have hi : i < A.length := by omega
    by_cases hj : (j : Int) < (B.length : Int)
    · rw [decide_eq_true hj]
      have hj : j < B.length := by omega
      refine h62 _ _ (bT rfl ?_)
      obtain ⟨ad, hp⟩ := hrA.has (by rw [List.length_map]; omega)
      have hcell : w21.cell? (ad.add i) = some (tz A[i]) := hrA.get hp (by simp [hi])
      obtain ⟨ad2, hp2⟩ := hrB.has (by rw [List.length_map]; omega)
      have hcell2 : w21.cell? (ad2.add j) = some (tz B[j]) := hrB.get hp2 (by simp [hj])
      refine ⟨ad, hp, ⟨by omega, by omega⟩, _, _, _, by rw [Int.toNat_natCast, Nat.mul_one]; exact hcell, ad2, hp2, ⟨by omega, by omega⟩, _, _, _, by rw [Int.toNat_natCast, Nat.mul_one]; exact hcell2, fun w73 s73 => ?_⟩
      have F73 := F.trans' s73.fr
      have tA' : TupO w73 A[i].1 A[i].2 := (tA _ (List.getElem_mem hi)).fr F73 (by simp)
      have tB' : TupO w73 B[j].1 B[j].2 := (tB _ (List.getElem_mem hj)).fr F73 (by simp)
      refine (cmpR_c tA'.rowI tB'.rowI).mono ?_
      rintro e75 w76 ⟨rfl, f76⟩
      exact ⟨_, rfl, main _ w76 (s73.fr.trans' f76) (fun _ _ => rfl) fun h => absurd ⟨hi, hj⟩ h⟩
    · rw [decide_eq_false hj]
      exact no (by omega))
  refine bc (fun hi => ?_) fun hi => ?_
  · have hi : (i : Int) < (A.length : Int) := of_decide_eq_true hi
    exact go (.inl (by omega))
  · have hi : ¬ (i : Int) < (A.length : Int) := of_decide_eq_false hi
    by_cases hj : (j : Int) < (B.length : Int)
    · rw [decide_eq_true hj]; exact go (.inr (by omega))
    · rw [decide_eq_false hj]; exact stop (by omega) (by omega)

/-- What the document's Pairs answers of few edges. -/
theorem rpairs_c {w : World} {lab : ByteArray} {eA : Option Addr} {eC : Nat} {E : List EG} (hE : Row w eA (E.flatMap gcell)) (hl : E.length ≤ 60) (hs : lab.size ≤ 1000000) :
    Calls prog 16 #[.string lab, .slice eA E.length eC] w fun e w' => Fr [] w w' ∧ ((isName lab = false ∧ e = .returned (.tuple #[.slice none 0 0, I64 1])) ∨
      (isName lab = true ∧ ∃ (p : Option Addr) (c : Nat) (Z : List ZP), e = .returned (.tuple #[.slice p Z.length c, I64 0]) ∧ Row w' p (Z.map tz) ∧ Tups w' Z ∧ (Z.map (·.2)).Pairwise plt ∧ (∀ x, x ∈ Z.map (·.2) ↔ Reach (succs E lab) x.1 x.2) ∧ Z.length ≤ 4000 ∧ (∀ ad, p = some ad → w.heap.size ≤ ad.block) ∧ ∀ z ∈ Z, w.heap.size ≤ z.1)) := by
  refine rhizomeref13_Pairs.link ((name_c w lab hs).mono ?_)
  rintro e1 w2 ⟨rfl, f2⟩
  refine ⟨_, rfl, bc (fun hb => ⟨f2, .inl ⟨by simpa using hb, rfl⟩⟩) fun hb => ?_⟩
  have hgood : isName lab = true := by simpa using hb
  refine (redges_c (hE.old f2) (by omega)).mono ?_
  rintro e4 w5 ⟨f5, p6, c8, L, rfl, X5, o5⟩
  have hLl := X5.len
  refine ⟨p6, _, c8, rfl, (rspan_c (T := succs E lab) o5.row (by omega) X5.nodup X5.succs).mono ?_⟩
  rintro e9 w10 ⟨f10, p11, c13, X, rfl, hXn, hXm, hXl, o10⟩
  have F10 := f2.trans' (f5.trans' f10)
  have hll : L.length * L.length ≤ 60 * 60 := Nat.mul_le_mul (by omega) (by omega)
  refine ⟨p11, _, c13, rfl, bF (decide_eq_false (by omega)) ?_⟩
  refine ⟨fun m p k c n w' => ∃ (i : Nat) (Z : List ZP), n = i ∧ i ≤ X.length ∧ m = X.length - i ∧ k = Z.length ∧ Z.map (·.2) = X.take i ∧ OwnZ w' w10.heap.size 1 p Z.length c (Z.map tz) ∧ Tups w' Z ∧ (∀ z ∈ Z, w10.heap.size ≤ z.1) ∧ (∀ ad, p = some ad → ∀ z ∈ Z, z.1 ≠ ad.block) ∧ Fr [] w10 w', X.length, ⟨0, [], rfl, by omega, rfl, rfl, rfl, OwnZ.nil _ _ _, fun z hz => (by cases hz), by simp, by simp, Fr.refl _ _⟩, ?_⟩
  rintro m16 p17 k18 c19 n20 w21 ⟨i, Z, rfl, hi, rfl, rfl, hZ, o, tu, zw, zb, F⟩
  have hZl : Z.length = i := by have := congrArg List.length hZ; rw [List.length_map, List.length_take] at this; omega
  refine bc (fun hlt => ?_) fun hge => ?_
  · have hlt : (i : Int) < (X.length : Int) := of_decide_eq_true hlt
    have hlt' : i < X.length := by omega
    obtain ⟨ad, hp, g⟩ := (o10.row.old F).atF flatP (by decide) hlt'
    have e0 : (i : Int).toNat * 2 = i * 2 := by omega
    refine ⟨ad, hp, ⟨by omega, hlt⟩, _, by rw [e0]; exact g 0 _ rfl, ad, hp, ⟨by omega, hlt⟩, _, by rw [e0]; exact g 1 _ rfl, fun k27 w28 s28 b28 k31 => ?_⟩
    have n28 := g_new1 s28
    have F28 := F.trans' s28.fr
    have t28 : TupO w28 k27 X[i] := ⟨[], by simpa [spl, reps] using b28⟩
    have zF := F.size
    refine appM1 (C := tz) (fun _ => rfl) (ys := Z) (x := (k27, X[i])) (u := w10) (B := w10.heap.size) (o.fr s28.fr (fun _ _ => by simp)) F28 rfl (Nat.le_refl _) F28.size (fun h => by cases h) (by simp) (fun ad hp x hx => .inl hx) (by omega) (by omega) fun w32 p33 c35 F32 G32 _ o32 d32 => ?_
    have hold : ∀ z ∈ Z, ∀ ad, p17 = some ad → z.1 ≠ ad.block := fun z hz ad hp => zb ad hp z hz
    refine ⟨X.length - (i + 1), by omega, i + 1, Z ++ [(k27, X[i])], by rw [wrapi (by omega) (by omega)]; simp, by omega, rfl, rfl, by rw [List.map_append, hZ, take_snoc hlt']; rfl, o32, fun z hz => ?_, fun z hz => ?_, fun ad hp z hz => ?_, F32⟩
    · rcases List.mem_append.1 hz with hz | hz
      · exact ((tu z hz).fr s28.fr (by simp)).fr G32 (fun hx => by
          rw [List.nil_append] at hx
          obtain ⟨ad, hp, e⟩ := (g_mem_pb _ _).1 hx
          exact hold z hz ad hp e.symm)
      · rw [List.mem_singleton.1 hz]
        exact t28.fr G32 (fun hx => by
          rw [List.nil_append] at hx
          obtain ⟨ad, hp, e⟩ := (g_mem_pb _ _).1 hx
          have := (o.lt hp).2
          have e : k27 = ad.block := e.symm
          omega)
    · rcases List.mem_append.1 hz with hz | hz
      · exact zw z hz
      · rw [List.mem_singleton.1 hz]; show w10.heap.size ≤ k27; omega
    · have hzlt : z.1 < w28.heap.size := by
        rcases List.mem_append.1 hz with hz | hz
        · have := (tu z hz).lt; have := s28.fr.size; omega
        · rw [List.mem_singleton.1 hz]; exact n28.2
      rcases d32 ad hp with h | h
      · rcases List.mem_append.1 hz with hz | hz
        · exact zb ad h z hz
        · rw [List.mem_singleton.1 hz]
          have := (o.lt h).2
          show k27 ≠ ad.block; omega
      · omega
  · have hge : ¬ (i : Int) < (X.length : Int) := of_decide_eq_false hge
    rw [List.take_of_length_le (by omega)] at hZ
    have hcap : Z.length ≤ c19 := o.2.1
    refine (rsorted_c Z.length (Nat.le_refl _) (by omega) hcap o.row tu (by rw [hZ]; exact hXn)).mono ?_
    rintro e37 w38 ⟨f38, p39, c41, Z', rfl, r', perm, sort, low⟩
    have z10 := F10.size
    have z21 := F.size
    have pm := perm.map (·.2)
    refine ⟨p39, _, c41, rfl, F10.trans' (F.trans' f38), .inr ⟨hgood, p39, c41, Z', rfl, r', fun z hz => (tu z (perm.mem_iff.1 hz)).fr f38 (by simp), sort, fun x => ?_, by rw [perm.length_eq]; omega, fun ad hp => by
      rcases low ad hp with h | h
      · have := (o.lt h).1; omega
      · omega, fun z hz => by have := zw z (perm.mem_iff.1 hz); omega⟩⟩
    rw [pm.mem_iff, hZ]; exact hXm x
end Go.Proofs.Ytnplopiconabiaa.Span
