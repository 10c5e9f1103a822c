/- Span: SpanWalks. -/
import Derived.Test.YtnplopiconabiaaSN
import Derived.Test.YtnplopiconabiaaSJ
import Derived.Test.YtnplopiconabiaaL6
namespace Go.Proofs.Ytnplopiconabiaa.Span
open Go Go.V
open Go.Proofs.Ytnplopiconabiaa.VC
open Go.Proofs.Try (prog)
set_option linter.unusedVariables false
set_option linter.unusedSimpArgs false
set_option maxRecDepth 20000

theorem rowI' {w : World} {k : Nat} {l : List Int} {cs : List Value} (h : Blk w k (l.map I64 ++ cs)) : Row w (some ⟨k, 0, none⟩) (l.map I64) :=
  Row.of_blk (off := 0) h (fun j u hj => by rw [Nat.zero_add, List.getElem?_append_left (List.getElem?_eq_some_iff.1 hj).1]; exact hj) (fun u hu => by obtain ⟨n, _, rfl⟩ := List.mem_map.1 hu; rfl)
/-- What the law has told of edges, in a world. -/
structure WEnv (E : List EG) (lab : ByteArray) (eA : Option Addr) (p : Option Addr) (Z : List (Nat × PI)) (q : Option Addr) (Z2 : List (Nat × List Int)) (pn : Option Addr) (N : List Int) (w : World) : Prop where
  edges : Row w eA (E.flatMap gcell)
  row : Row w p (Z.map tz)
  tups : Tups w Z
  rrow : Row w q (Z2.map rz)
  rngs : Rngs w Z2
  nodes : Row w pn (N.map I64)
theorem WEnv.old {E : List EG} {lab : ByteArray} {eA p q pn : Option Addr} {Z : List (Nat × PI)} {Z2 : List (Nat × List Int)} {N : List Int} {v w : World} (h : WEnv E lab eA p Z q Z2 pn N v) (f : Fr [] v w) : WEnv E lab eA p Z q Z2 pn N w :=
  ⟨h.edges.old f, h.row.old f, fun z hz => (h.tups z hz).fr f (by simp), h.rrow.old f, fun z hz => (h.rngs z hz).fr f (by simp), h.nodes.old f⟩

section
open Classical
theorem rings_len {E : List EG} {lab : ByteArray} {K : List Int} (hK : K.Pairwise (· < ·)) : (ringsOf (succs E lab) K K).length ≤ E.length ∧ ∀ r ∈ ringsOf (succs E lab) K K, r.length ≤ E.length := by
  have key : ∀ x, Reach (succs E lab) x x → x ∈ E.map (·.f) := fun x h => by
    obtain ⟨y, r, h4⟩ := List.exists_cons_of_ne_nil h.first
    obtain ⟨e, he, _, h5, _⟩ := mem_succs.1 (show y ∈ succs E lab x by rw [h4]; simp)
    exact List.mem_map.2 ⟨e, he, h5⟩
  constructor
  · unfold ringsOf
    rw [List.length_map]
    have hn : (K.filter fun a => decide (IsHead (succs E lab) K a)).Nodup := (hK.filter _).imp fun h => by omega
    have := sub_len hn (l' := E.map (·.f)) (fun x hx => key x (of_decide_eq_true (List.mem_filter.1 hx).2).1)
    rwa [List.length_map] at this
  · intro r hr
    obtain ⟨h, _, _, rfl⟩ := mem_ringsOf.1 hr
    have hn : (ringOf (succs E lab) K h).Nodup := (hK.filter _).imp fun h => by omega
    have := sub_len hn (l' := E.map (·.f)) (fun x hx => key x (mem_ringOf.1 hx).2.symm.self)
    rwa [List.length_map] at this
end

set_option maxHeartbeats 2000000 in
theorem walks_walk {w : World} {lab : ByteArray} {eA : Option Addr} {eC : Nat} {E : List EG} (hE : Row w eA (E.flatMap gcell)) (hR : ∀ e ∈ E, inR e.f ∧ inR e.t) :
    Calls prog 6 #[.string lab, .slice eA E.length eC] w fun e w' => e = .returned (.bool true) ∧ Fr [] w w' := by
  refine rhizomelaw13_SpanWalks.link fun y1 h1 => (awake_c w).mono ?_
  rintro e158 w159 ⟨rfl, f159⟩
  have big : y1 true w159 := h1 _ _ (bT rfl ((awake_c w159).mono fun e w' h => by
    obtain ⟨rfl, f⟩ := h
    exact ⟨_, rfl, rfl, f159.trans' f⟩))
  refine ⟨_, rfl, bF rfl (bc (fun _ => big) fun hsm => ?_)⟩
  have hsm : ¬ (20 : Int) < (E.length : Int) := of_decide_eq_false hsm
  have hl20 : E.length ≤ 20 := by omega
  clear big
  by_cases hbl : (300 : Int) < (ByteArray.size lab : Int)
  · rw [decide_eq_true hbl]
    exact h1 _ _ (bT rfl ((awake_c w159).mono fun e w' h => by
      obtain ⟨rfl, f⟩ := h
      exact ⟨_, rfl, rfl, f159.trans' f⟩))
  rw [decide_eq_false hbl]
  refine h1 _ _ (bF rfl ?_)
  clear h1
  refine (pairs_c (lab := lab) (hE.old f159) (by omega) (fun e he => (hR e he).1)).mono ?_
  rintro e7 w8 ⟨f8, hs8⟩
  have F8 := f159.trans' f8
  have hfew : ∀ X : List PI, X.Nodup → (∀ x ∈ X, Reach (succs E lab) x.1 x.2) → X.length ≤ 4000 := fun X hn hx => by
    have := few hn hx
    have : E.length * E.length ≤ 20 * 20 := Nat.mul_le_mul hl20 hl20
    omega
  have hrg := rings_c (lab := lab) (eC := eC) (hE.old F8) (by omega) hR
  by_cases hgood : isName lab = true
  case neg =>
    have hgood : isName lab = false := by simpa using hgood
    rw [hgood] at hs8 hrg
    rcases hs8 with ⟨_, rfl⟩ | ⟨h, _⟩
    · refine ⟨_, _, _, _, rfl, hrg.mono ?_⟩
      rintro e13 w14 ⟨f14, K, hK, hKr, hs14⟩
      rcases hs14 with ⟨_, rfl⟩ | ⟨h, _⟩
      · refine ⟨_, _, _, _, rfl, fun y19 h19 => bT rfl (h19 _ _ (bT rfl fun y22 h22 => bT rfl (h22 _ _ ⟨rfl, F8.trans' f14⟩)))⟩
      · cases h
    · cases h
  rw [hgood] at hs8 hrg
  obtain ⟨pb8, Z, rfl, hZs, hZm, hZl, ⟨cz, oz⟩, tz8, _, _⟩ := said_list hs8 hfew
  refine ⟨_, _, _, _, rfl, hrg.mono ?_⟩
  rintro e13 w14 ⟨f14, K, hK, hKr, hs14⟩
  rcases hs14 with ⟨h, _⟩ | ⟨_, q15, c17, Z2, rfl, hZ2, o2, tr2, _, _⟩
  · cases h
  have F14 := F8.trans' f14
  refine ⟨_, _, _, _, rfl, fun y19 h19 => bF rfl (h19 _ _ (bF rfl ?_))⟩
  clear h19
  have hrow14 := (oz.1.fr f14 (fun _ _ => by simp)).row
  have htup14 : Tups w14 Z := fun z hz => (tz8 z hz).fr f14 (by simp)
  have hz2len : Z2.length ≤ 1000 := by
    have h1 := congrArg List.length hZ2
    rw [List.length_map] at h1
    have := (rings_len (E := E) (lab := lab) hK).1
    omega
  have hring : ∀ a, (∃ z ∈ Z2, a ∈ z.2) ↔ Reach (succs E lab) a a := fun a => by
    rw [← in_rings hKr (a := a), ← hZ2]
    constructor
    · rintro ⟨z, hz, h⟩; exact ⟨_, List.mem_map.2 ⟨z, hz, rfl⟩, h⟩
    · rintro ⟨r, hr, h⟩
      obtain ⟨z, hz, rfl⟩ := List.mem_map.1 hr
      exact ⟨z, hz, h⟩
  have hrl : ∀ z ∈ Z2, z.2.length ≤ 1000 := fun z hz => by
    have := (rings_len (E := E) (lab := lab) hK).2 z.2 (by rw [← hZ2]; exact List.mem_map.2 ⟨z, hz, rfl⟩)
    omega
  -- the nodes
  have hNl : ∀ i, ((E.take i).flatMap fun e => [e.f, e.t]).length = (E.take i).length * 2 := fun i => by
    generalize E.take i = l
    induction l with
    | nil => rfl
    | cons a l ih => rw [List.flatMap_cons, List.length_append, ih]; simp only [List.length_cons, List.length_nil]; omega
  refine ⟨fun mm p k c n w' => ∃ i : Nat, n = i ∧ i ≤ E.length ∧ mm = E.length - i ∧ k = ((E.take i).flatMap fun e => [e.f, e.t]).length ∧ OwnZ w' w14.heap.size 1 p ((E.take i).flatMap fun e => [e.f, e.t]).length c (((E.take i).flatMap fun e => [e.f, e.t]).map I64) ∧ Fr [] w14 w', E.length, ⟨0, rfl, by omega, rfl, rfl, OwnZ.nil _ _ _, Fr.refl _ _⟩, ?_⟩
  rintro m29 p30 k31 c32 n33 w34 ⟨i, rfl, hi, rfl, rfl, o34, F34⟩
  have hNi := hNl i
  rw [List.length_take] at hNi
  refine bc (fun hlt => ?_) fun hge => ?_
  · have hlt : (i : Int) < (E.length : Int) := of_decide_eq_true hlt
    have hlt' : i < E.length := by omega
    obtain ⟨ad, hp, g⟩ := ((hE.old F14).old F34).atF flatG (by decide) hlt'
    have e0 : (i : Int).toNat * 3 = i * 3 := by omega
    refine ⟨ad, hp, ⟨by omega, hlt⟩, _, _, _, ⟨by rw [e0]; exact g 0 _ rfl, by rw [e0]; exact g 1 _ rfl, by rw [e0]; exact g 2 _ rfl, trivial⟩, fun k40 k41 => ?_⟩
    refine appMN (C := I64) (fun _ => rfl) (zs := [E[i].f, E[i].t]) rfl (u := w14) (B := w14.heap.size) o34 F34 rfl (Nat.le_refl _) F34.size (fun h => by cases h) (by simp) (fun ad hp x hx => .inl (by simp at hx ⊢; omega)) (by rw [hNi]; simp only [List.length_cons, List.length_nil]; omega) (by rw [hNi]; simp only [List.length_cons, List.length_nil]; omega) fun w42 p43 c45 F42 _ _ o42 _ => ?_
    have es : ((E.take i).flatMap fun e => [e.f, e.t]) ++ [E[i].f, E[i].t] = (E.take (i + 1)).flatMap fun e => [e.f, e.t] := by rw [take_snoc hlt', List.flatMap_append]; rfl
    rw [es] at o42 ⊢
    exact ⟨E.length - (i + 1), by omega, i + 1, by rw [wrapi (by omega) (by omega)]; simp, by omega, rfl, rfl, o42, F42⟩
  have hge : ¬ (i : Int) < (E.length : Int) := of_decide_eq_false hge
  have env : WEnv E lab eA _ Z q15 Z2 p30 ((E.take i).flatMap fun e => [e.f, e.t]) w34 := ⟨(hE.old F14).old F34, hrow14.old F34, fun z hz => (htup14 z hz).fr F34 (by simp), o2.row.old F34, fun z hz => (tr2 z hz).fr F34 (by simp), o34.row⟩
  have G34 := F14.trans' F34
  have hNl2 : ((E.take i).flatMap fun e => [e.f, e.t]).length ≤ 40 := by omega
  generalize ((E.take i).flatMap fun e => [e.f, e.t]) = N at *
  clear hNl hge hi hNi o34 F34 F14 htup14 hrow14 tr2 o2 f14 oz tz8 hs8 hrg
  have hl22 := hl20
  refine ⟨fun m n w' => ∃ i : Nat, n = i ∧ i ≤ N.length ∧ m = N.length - i ∧ Fr [] w34 w', N.length, ⟨0, rfl, by omega, rfl, Fr.refl _ _⟩, ?_⟩
  rintro m49 n50 w51 ⟨i, rfl, hi, rfl, F51⟩
  refine bc (fun hlt => ?_) fun hge => ⟨rfl, G34.trans' F51⟩
  have hlt : (i : Int) < (N.length : Int) := of_decide_eq_true hlt
  have hlt' : i < N.length := by omega
  refine rd I64 (env.old F51).nodes rfl hlt' hlt ?_
  generalize hA : N[i] = a
  refine ⟨fun m b n w' => ∃ j : Nat, n = j ∧ j ≤ Z2.length ∧ m = Z2.length - j ∧ (b = true ↔ ∃ z ∈ Z2.take j, a ∈ z.2) ∧ Fr [] w34 w', Z2.length, ⟨0, rfl, by omega, rfl, by simp, F51⟩, ?_⟩
  rintro m57 b58 n59 w60 ⟨j, rfl, hj, rfl, hb, F60⟩
  refine bc (fun hlt2 => ?_) fun hge2 => ?_
  · have hlt2 : (j : Int) < (Z2.length : Int) := of_decide_eq_true hlt2
    have hlt2' : j < Z2.length := by omega
    have env60 := env.old F60
    obtain ⟨ad, hp⟩ := env60.rrow.has (by rw [List.length_map]; omega)
    have hcell : w60.cell? (ad.add j) = some (rz Z2[j]) := env60.rrow.get hp (by simp [hlt2'])
    refine ⟨ad, hp, ⟨by omega, hlt2⟩, _, _, _, by rw [Int.toNat_natCast, Nat.mul_one]; exact hcell, ?_⟩
    obtain ⟨cs, hblk⟩ := env60.rngs _ (List.getElem_mem hlt2')
    have hrw := rowI' hblk
    have hrl2 := hrl _ (List.getElem_mem hlt2')
    refine ⟨fun m b n w' => ∃ k : Nat, n = k ∧ k ≤ Z2[j].2.length ∧ m = Z2[j].2.length - k ∧ (b = true ↔ (∃ z ∈ Z2.take j, a ∈ z.2) ∨ a ∈ Z2[j].2.take k) ∧ Fr [] w60 w', Z2[j].2.length, ⟨0, rfl, by omega, rfl, by simp [hb], Fr.refl _ _⟩, ?_⟩
    rintro m68 b69 n70 w71 ⟨k, rfl, hk, rfl, hb2, F71⟩
    refine bc (fun hlt3 => ?_) fun hge3 => ?_
    · have hlt3 : (k : Int) < (Z2[j].2.length : Int) := of_decide_eq_true hlt3
      have hlt3' : k < Z2[j].2.length := by omega
      intro y73 h73
      refine rd I64 (hrw.old F71) rfl hlt3' hlt3 ?_
      have nx : ∀ b : Bool, (b = true ↔ (∃ z ∈ Z2.take j, a ∈ z.2) ∨ a ∈ Z2[j].2.take (k + 1)) → y73 b w71 := fun b hb3 => h73 _ _ ⟨Z2[j].2.length - (k + 1), by omega, k + 1, by rw [wrapi (by omega) (by omega)]; simp, by omega, rfl, hb3, F71⟩
      refine bc (fun hbt => nx _ ?_) fun hbf => nx _ ?_
      · have := hb2.1 hbt
        refine ⟨fun _ => this.imp id fun h => ?_, fun _ => rfl⟩
        rw [take_snoc hlt3']; exact List.mem_append_left _ h
      · have hno : ¬ ((∃ z ∈ Z2.take j, a ∈ z.2) ∨ a ∈ Z2[j].2.take k) := fun h => by rw [hb2.2 h] at hbf; cases hbf
        rw [decide_eq_true_eq, take_snoc hlt3', List.mem_append, List.mem_singleton]
        constructor
        · intro h; exact .inr (.inr h.symm)
        · rintro (h | h | h)
          · exact absurd (.inl h) hno
          · exact absurd (.inr h) hno
          · exact h.symm
    · have hge3 : ¬ (k : Int) < (Z2[j].2.length : Int) := of_decide_eq_false hge3
      rw [List.take_of_length_le (show Z2[j].2.length ≤ k by omega)] at hb2
      refine ⟨Z2.length - (j + 1), by omega, j + 1, by rw [wrapi (by omega) (by omega)]; simp, by omega, rfl, ?_, F60.trans' F71⟩
      rw [hb2, take_snoc hlt2']
      constructor
      · rintro (⟨z, hz, h⟩ | h)
        · exact ⟨z, List.mem_append_left _ hz, h⟩
        · exact ⟨_, List.mem_append_right _ (List.mem_singleton.2 rfl), h⟩
      · rintro ⟨z, hz, h⟩
        rcases List.mem_append.1 hz with hz | hz
        · exact .inl ⟨z, hz, h⟩
        · rw [List.mem_singleton.1 hz] at h; exact .inr h
  have hge2 : ¬ (j : Int) < (Z2.length : Int) := of_decide_eq_false hge2
  rw [List.take_of_length_le (show Z2.length ≤ j by omega), hring] at hb
  intro k82 w83 s83 b83
  have F83 := F60.trans' s83.fr
  have t83 : TupO w83 k82 (a, a) := ⟨[], by simpa [spl, reps] using b83⟩
  have env83 := env.old F83
  refine (has_c env83.row env83.tups t83.rowI (by omega)).mono ?_
  rintro e86 w87 ⟨rfl, f87⟩
  have hin : (decide (((a, a) : PI) ∈ Z.map (·.2)) = true) ↔ Reach (succs E lab) a a := by rw [decide_eq_true_eq, hZm]
  refine ⟨_, rfl, bF ?_ ?_⟩
  · generalize decide (((a, a) : PI) ∈ Z.map (·.2)) = d at hin
    cases b58 <;> cases d <;> simp_all
  clear hin hb hge2 b58 b83 t83
  have F87 := F83.trans' f87
  clear f87 s83 F83 F60 F51 env83
  refine ⟨fun m n w' => ∃ i : Nat, n = i ∧ i ≤ N.length ∧ m = N.length - i ∧ Fr [] w34 w', N.length, ⟨0, rfl, by omega, rfl, F87⟩, ?_⟩
  rintro m91 n92 w93 ⟨i', rfl, hi', rfl, F93⟩
  refine bc (fun hlt4 => ?_) fun hge4 => ⟨N.length - (i + 1), by omega, i + 1, by rw [wrapi (by omega) (by omega)]; simp, by omega, rfl, F93⟩
  have hlt4 : (i' : Int) < (N.length : Int) := of_decide_eq_true hlt4
  have hlt4' : i' < N.length := by omega
  refine rd I64 (env.old F93).nodes rfl hlt4' hlt4 ?_
  generalize hB : N[i'] = b
  refine (way_c (lab := lab) (eC := eC) (env.old F93).edges (by omega) a b).mono ?_
  rintro e97 w98 ⟨f98, hw98⟩
  rw [hgood] at hw98
  have F98 := F93.trans' f98
  have env98 := env.old F98
  have hab : decide (((a, b) : PI) ∈ Z.map (·.2)) = true ↔ Reach (succs E lab) a b := by rw [decide_eq_true_eq, hZm]
  obtain ⟨p99, u, c101, n102, rfl, hrw, hu, hst, hn102⟩ : ∃ (p99 : Option Addr) (u : List Int) (c101 : Nat) (n102 : Int), e97 = .returned (.tuple #[.slice p99 u.length c101, I64 n102]) ∧ Row w98 p99 (u.map I64) ∧ u.length ≤ 200000 ∧ (∀ i (hi : i + 1 < u.length), u[i + 1] ∈ succs E lab u[i]) ∧ ((n102 = 0 ∧ Reach (succs E lab) a b ∧ 2 ≤ u.length ∧ u.head? = some a ∧ u.getLast? = some b) ∨ (n102 = 4 ∧ ¬ Reach (succs E lab) a b)) := by
    rcases hw98 with ⟨h, _⟩ | ⟨_, ⟨hno, rfl⟩ | ⟨u, k, c, cs, hu, hul, rfl, hbk, _⟩⟩
    · cases h
    · exact ⟨none, [], 0, 4, rfl, ⟨fun j u h => by simp at h, fun u h => by simp at h⟩, by simp, fun i hi => by simp at hi, .inr ⟨rfl, fun h => by obtain ⟨u, h1, h2⟩ := h.walk; exact hno u h1 h2⟩⟩
    · have hs := hu.1.step
      exact ⟨_, u, c, 0, rfl, rowI' hbk, hul, hs.2.2, .inl ⟨rfl, hu.1.reach hu.2.1, hu.2.1, hs.1, hs.2.1⟩⟩
  refine ⟨_, _, _, _, rfl, fun y103 h103 k142 w143 s143 b143 => ?_⟩
  have t143 : TupO w143 k142 (a, b) := ⟨[], by simpa [spl, reps] using b143⟩
  have env143 := env98.old s143.fr
  refine (has_c env143.row env143.tups t143.rowI (by omega)).mono ?_
  rintro e146 w147 ⟨rfl, f147⟩
  have F105 := s143.fr.trans' f147
  have fin : y103 false w147 := h103 _ _ (bF rfl ⟨fun m n w' => ∃ i : Nat, n = i ∧ i ≤ u.length ∧ m = u.length - i ∧ Fr [] w98 w', u.length, ⟨0, rfl, by omega, rfl, F105⟩, by
    rintro m108 n109 w110 ⟨x, rfl, hx, rfl, F110⟩
    have ew : IntKind.wrap .i64 ((x : Int) + 1) = ((x + 1 : Nat) : Int) := by rw [wrapi (by omega) (by omega)]; simp
    rw [ew]
    refine bc (fun hlt5 => ?_) fun _ => ⟨N.length - (i' + 1), by omega, i' + 1, by rw [wrapi (by omega) (by omega)]; simp, by omega, rfl, F98.trans' F110⟩
    have hlt5 : ((x + 1 : Nat) : Int) < (u.length : Int) := of_decide_eq_true hlt5
    have hlt5' : x + 1 < u.length := by omega
    refine ⟨fun m b n w' => ∃ j : Nat, n = j ∧ j ≤ E.length ∧ m = E.length - j ∧ (b = true ↔ ∃ e ∈ E.take j, e.f = u[x] ∧ e.l = lab ∧ e.t = u[x + 1]) ∧ Fr [] w98 w', E.length, ⟨0, rfl, by omega, rfl, by simp, F110⟩, ?_⟩
    rintro m114 b115 n116 w117 ⟨y, rfl, hy, rfl, hb, F117⟩
    refine bc (fun hlt6 => ?_) fun hge6 => ?_
    · have hlt6 : (y : Int) < (E.length : Int) := of_decide_eq_true hlt6
      have hlt6' : y < E.length := by omega
      intro y119 h119
      obtain ⟨ad, hp, g⟩ := (env98.old F117).edges.atF flatG (by decide) hlt6'
      have e0 : (y : Int).toNat * 3 = y * 3 := by omega
      refine ⟨ad, hp, ⟨by omega, hlt6⟩, _, _, _, ⟨by rw [e0]; exact g 0 _ rfl, by rw [e0]; exact g 1 _ rfl, by rw [e0]; exact g 2 _ rfl, trivial⟩, fun k129 => ?_⟩
      have nx : ∀ (b : Bool) (w' : World), Fr [] w117 w' → (b = true ↔ ∃ e ∈ E.take (y + 1), e.f = u[x] ∧ e.l = lab ∧ e.t = u[x + 1]) → y119 b w' := fun b w' f' hb3 => h119 _ _ ⟨E.length - (y + 1), by omega, y + 1, by rw [wrapi (by omega) (by omega)]; simp, by omega, rfl, hb3, F117.trans' f'⟩
      refine bc (fun hbt w130 s130 => nx _ _ s130.fr ?_) fun hbf => ?_
      · obtain ⟨e, he, h⟩ := hb.1 hbt
        exact ⟨fun _ => ⟨e, by rw [take_snoc hlt6']; exact List.mem_append_left _ he, h⟩, fun _ => rfl⟩
      · refine rd I64 (i := x) (hrw.old F117) rfl (by omega) (by omega) ?_
        refine rd I64 (i := x + 1) (hrw.old F117) rfl (by omega) (by omega) fun w136 s136 => nx _ _ s136.fr ?_
        have hno : ¬ ∃ e ∈ E.take y, e.f = u[x] ∧ e.l = lab ∧ e.t = u[x + 1] := fun h => by rw [hb.2 h] at hbf; cases hbf
        rw [take_snoc hlt6']
        constructor
        · intro h
          exact ⟨E[y], List.mem_append_right _ (List.mem_singleton.2 rfl), by simpa [conj] using h⟩
        · rintro ⟨e, he, h⟩
          rcases List.mem_append.1 he with he | he
          · exact absurd ⟨e, he, h⟩ hno
          · rw [List.mem_singleton.1 he] at h
            simpa [conj] using h
    · have hge6 : ¬ (y : Int) < (E.length : Int) := of_decide_eq_false hge6
      rw [List.take_of_length_le (show E.length ≤ y by omega)] at hb
      have : b115 = true := hb.2 (by
        obtain ⟨e, he, h3, h4, h5⟩ := mem_succs.1 (hst x hlt5')
        exact ⟨e, he, h4, h3, h5⟩)
      subst this
      exact bF rfl ⟨u.length - (x + 1), by omega, x + 1, rfl, by omega, rfl, F117⟩⟩)
  clear h103
  refine ⟨_, rfl, ?_⟩
  rcases hn102 with ⟨rfl, hr, h2, hh, hlast⟩ | ⟨rfl, hr⟩
  · rw [hab.2 hr]
    refine bF rfl (bT rfl (bF (decide_eq_false (by omega)) ?_))
    have hrw2 := hrw.old F105
    have h0 : u[0]? = some a := by rw [← List.head?_eq_getElem?]; exact hh
    obtain ⟨ad, hp⟩ := hrw2.has (by rw [List.length_map]; omega)
    refine ⟨ad, hp, ⟨by omega, by omega⟩, a, by have := hrw2.get (j := 0) hp (u := I64 a) (by rw [List.getElem?_map, h0]; rfl); exact this, bF (by simp) ?_⟩
    have ew : IntKind.wrap .i64 ((u.length : Int) - 1) = ((u.length - 1 : Nat) : Int) := by rw [wrapi (by omega) (by omega)]; omega
    rw [ew]
    rw [List.getLast?_eq_getElem?] at hlast
    refine ⟨ad, hp, ⟨by omega, by omega⟩, b, by rw [Int.toNat_natCast, Nat.mul_one]; exact hrw2.get hp (by rw [List.getElem?_map, hlast]; rfl), ?_⟩
    rw [decide_eq_true rfl]
    exact fin
  · have hd : decide (((a, b) : PI) ∈ Z.map (·.2)) = false := by
      cases h : decide (((a, b) : PI) ∈ Z.map (·.2)) with
      | false => rfl
      | true => exact absurd (hab.1 h) hr
    rw [hd]
    exact bF rfl (bF rfl fin)
end Go.Proofs.Ytnplopiconabiaa.Span
