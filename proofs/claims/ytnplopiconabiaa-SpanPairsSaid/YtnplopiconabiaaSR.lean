/- Span: the document's rings. -/
import Derived.Test.YtnplopiconabiaaSQ
namespace Go.V
set_option linter.unusedVariables false
theorem own_put {w : World} {B : Nat} {p : Option Addr} {l c : Nat} {xs : List Value} {ad : Addr} {n : Int} {i : Nat} {x : Value} {K : World → Prop} (h : OwnZ w B 1 p l c xs) (hp : p = some ad) (hn : n = i) (hi : i < l) (hx : x.oneCell' = true)
    (hK : ∀ w', Fr [ad.block] w w' → OwnZ w' B 1 p l c (xs.set i x) → K w') :
    ∃ cs : List Value, Blk w (Addr.block (ad.add (n.toNat * 1))) cs ∧ Addr.spot (ad.add (n.toNat * 1)) = none ∧ Addr.off (ad.add (n.toNat * 1)) + [x].length ≤ cs.length ∧
      ∀ w', Upd w w' (Addr.block (ad.add (n.toNat * 1))) (sets cs (Addr.off (ad.add (n.toNat * 1))) [x]) → K w' := by
  obtain ⟨cs, h1, h2, h3, _, h5⟩ := own_store (privs := []) (K := K) h hp hn hi hx (by simp) (fun w' _ f _ o => hK w' f o)
  exact ⟨cs, h1, h2, h3, h5⟩
/-- Two rows that lie apart. -/
def Dj (p q : Option Addr) : Prop := ∀ a b, p = some a → q = some b → a.block ≠ b.block
theorem Dj.none (q : Option Addr) : Dj none q := fun a b h => by cases h
theorem Dj.symm {p q : Option Addr} (h : Dj p q) : Dj q p := fun a b h1 h2 e => h b a h2 h1 e.symm
theorem Dj.out {p q : Option Addr} (h : Dj p q) : ∀ ad, q = some ad → ad.block ∉ [] ++ pb p := fun ad hq hx => by
  rw [List.nil_append] at hx
  obtain ⟨a, hp, e⟩ := (g_mem_pb _ _).1 hx
  exact h a ad hp hq e
theorem Dj.grow {p p' q : Option Addr} {B : Nat} (h : Dj p q) (hd : ∀ ad, p' = some ad → p = some ad ∨ B ≤ ad.block) (hq : ∀ b, q = some b → b.block < B) : Dj p' q := fun a b h1 h2 e => by
  rcases hd a h1 with h3 | h3
  · exact h a b h3 h2 e
  · have := hq b h2; omega
end Go.V
namespace Go.Proofs.Ytnplopiconabiaa.Span
open Go Go.V
open Go.Proofs.Ytnplopiconabiaa.VC
open Go.Proofs.Try (prog)
set_option linter.unusedVariables false
set_option linter.unusedSimpArgs false
set_option maxRecDepth 20000

/-- A row of numbers that lies somewhere, with its capacity. -/
abbrev RC := Option Addr × Nat × List Int
abbrev rv (z : RC) : Value := .slice z.1 z.2.2.length z.2.1
def RowsI (w : World) (Z : List RC) : Prop := ∀ z ∈ Z, Row w z.1 (z.2.2.map I64)
theorem RowsI.old {v w : World} {Z : List RC} (h : RowsI v Z) (f : Fr [] v w) : RowsI w Z := fun z hz => (h z hz).old f
open Classical in
set_option maxHeartbeats 400000 in
theorem rrings_c {w : World} {lab : ByteArray} {eA : Option Addr} {eC : Nat} {E : List EG} (hE : Row w eA (E.flatMap gcell)) (hl : E.length ≤ 60) (hs : lab.size ≤ 1000000) :
    Calls prog 23 #[.string lab, .slice eA E.length eC] w fun e w' => Fr [] w w' ∧ ((isName lab = false ∧ e = .returned (.tuple #[.slice none 0 0, I64 1])) ∨
      (isName lab = true ∧ ∃ (p : Option Addr) (c : Nat) (Z : List RC) (K : List Int), e = .returned (.tuple #[.slice p Z.length c, I64 0]) ∧ Row w' p (Z.map rv) ∧ RowsI w' Z ∧ K.Pairwise (· < ·) ∧ (∀ a, Reach (succs E lab) a a → a ∈ K) ∧ Z.map (·.2.2) = ringsOf (succs E lab) K K)) := by
  refine rhizomeref13_Rings.link ((name_c w lab hs).mono ?_)
  rintro e1 w2 ⟨rfl, f2⟩
  refine ⟨_, rfl, bc (fun hb => ⟨f2, .inl ⟨by simpa using hb, rfl⟩⟩) fun hb => ?_⟩
  have hgood : isName lab = true := by simpa using hb
  refine (redges_c (hE.old f2) (by omega)).mono ?_
  rintro e4 w5 ⟨f5, p6, c8, L, rfl, X5, o5⟩
  have hLl := X5.len
  refine ⟨p6, _, c8, rfl, (rspan_c (T := succs E lab) o5.row (by omega) X5.nodup X5.succs).mono ?_⟩
  rintro e9 w10 ⟨f10, p11, c13, X, rfl, hXn, hXm, hXl, o10⟩
  have F10 := f2.trans' (f5.trans' f10)
  have hll : L.length * L.length ≤ 60 * 60 := Nat.mul_le_mul (by omega) (by omega)
  have hXl2 : X.length ≤ 3600 := by omega
  clear hXl hll hLl X5 o5
  generalize succs E lab = T at *
  refine ⟨p11, _, c13, rfl, ?_⟩
  have rX := o10.row
  clear o10
  refine ⟨fun m p k c n w' => ∃ (i : Nat) (N : List Int), n = i ∧ i ≤ X.length ∧ m = X.length - i ∧ k = N.length ∧ N.length ≤ i ∧ N.Nodup ∧ (∀ x, x ∈ N ↔ ∃ q ∈ X.take i, q.1 = q.2 ∧ q.1 = x) ∧ OwnZ w' w10.heap.size 1 p N.length c (N.map I64) ∧ Fr [] w10 w', X.length, ⟨0, [], rfl, by omega, rfl, rfl, by simp, by simp, by simp, OwnZ.nil _ _ _, Fr.refl _ _⟩, ?_⟩
  rintro m16 p17 k18 c19 n20 w21 ⟨i, N, rfl, hi, rfl, rfl, hNi, hNn, hNm, o, F⟩
  refine bc (fun hlt => ?_) fun hge => ?_
  · have hlt : (i : Int) < (X.length : Int) := of_decide_eq_true hlt
    have hlt' : i < X.length := by omega
    intro y23 h23 y31 h31
    obtain ⟨ad, hp, g⟩ := (rX.old F).atF flatP (by decide) hlt'
    have e0 : (i : Int).toNat * 2 = i * 2 := by omega
    have no : ∀ w', Fr [] w21 w' → (X[i].1 = X[i].2 → X[i].1 ∈ N) → y31 false w' := fun w' f' h => h31 _ _ (bF rfl (h23 _ _ _ _ ⟨X.length - (i + 1), by omega, i + 1, N, by rw [wrapi (by omega) (by omega)]; simp, by omega, rfl, rfl, by omega, hNn, fun x => by
      rw [hNm, take_snoc hlt']
      constructor
      · rintro ⟨q, hq, h⟩; exact ⟨q, List.mem_append_left _ hq, h⟩
      · rintro ⟨q, hq, h1, h2⟩
        rcases List.mem_append.1 hq with hq | hq
        · exact ⟨q, hq, h1, h2⟩
        · rw [List.mem_singleton.1 hq] at h1 h2
          rw [← h2]; exact (hNm _).1 (h h1), o.fr f' (fun _ _ => by simp), F.trans' f'⟩))
    refine ⟨ad, hp, ⟨by omega, hlt⟩, _, by rw [e0]; exact g 0 _ rfl, ad, hp, ⟨by omega, hlt⟩, _, by rw [e0]; exact g 1 _ rfl, bc (fun heq => ?_) fun hne w54 s54 => no w54 s54.fr fun h => absurd h (of_decide_eq_false hne)⟩
    have heq : X[i].1 = X[i].2 := of_decide_eq_true heq
    refine ⟨ad, hp, ⟨by omega, hlt⟩, X[i].1, by rw [e0]; exact g 0 _ rfl, fun w49 s49 => ?_⟩
    have r49 := (o.fr s49.fr (fun _ _ => by simp)).row
    have hNl : N.length ≤ 100000000 := by omega
    have c48 := rin_c (lC := c19) X[i].1 r49 hNl
    refine c48.mono ?_
    rintro e51 w52 ⟨rfl, f52⟩
    have f52 := s49.fr.trans' f52
    refine ⟨_, rfl, ?_⟩
    by_cases hin : X[i].1 ∈ N
    · rw [decide_eq_true hin]; exact no w52 f52 fun _ => hin
    rw [decide_eq_false hin]
    have F52 := F.trans' f52
    obtain ⟨ad2, hp2, g2⟩ := (rX.old F52).atF flatP (by decide) hlt'
    refine h31 _ _ (bT rfl ⟨ad2, hp2, ⟨by omega, hlt⟩, _, by rw [e0]; exact g2 0 _ rfl, fun k36 => ?_⟩)
    refine appM1 (C := I64) (fun _ => rfl) (x := X[i].1) (u := w10) (B := w10.heap.size) (o.fr f52 (fun _ _ => by simp)) F52 rfl (Nat.le_refl _) F52.size (fun h => by cases h) (by simp) (fun ad hp x hx => .inl hx) (by omega) (by omega) fun w37 p38 c40 F37 _ _ o37 _ => ?_
    refine h23 _ _ _ _ ⟨X.length - (i + 1), by omega, i + 1, _, by rw [wrapi (by omega) (by omega)]; simp, by omega, rfl, rfl, by simp; omega, ?_, fun x => ?_, o37, F37⟩
    · rw [List.nodup_append]
      exact ⟨hNn, by simp, fun x hx y hy e => hin (by rw [← List.mem_singleton.1 hy, ← e]; exact hx)⟩
    · rw [List.mem_append, List.mem_singleton, hNm, take_snoc hlt']
      constructor
      · rintro (⟨q, hq, h⟩ | rfl)
        · exact ⟨q, List.mem_append_left _ hq, h⟩
        · exact ⟨_, List.mem_append_right _ (List.mem_singleton.2 rfl), heq, rfl⟩
      · rintro ⟨q, hq, h1, h2⟩
        rcases List.mem_append.1 hq with hq | hq
        · exact .inl ⟨q, hq, h1, h2⟩
        · rw [List.mem_singleton.1 hq] at h2; exact .inr h2.symm
  have hge : ¬ (i : Int) < (X.length : Int) := of_decide_eq_false hge
  rw [List.take_of_length_le (show X.length ≤ i by omega)] at hNm
  have hNr : ∀ x, x ∈ N ↔ Reach T x x := fun x => by
    rw [hNm]
    constructor
    · rintro ⟨q, hq, h1, rfl⟩
      have := (hXm q).1 hq
      rw [← h1] at this; exact this
    · intro h; exact ⟨(x, x), (hXm _).2 h, rfl, rfl⟩
  have hN36 : N.length ≤ 3600 := by omega
  clear hNm hNi hge hi
  -- they are sorted
  refine ⟨fun m n w' => ∃ (i : Nat) (M : List Int), n = i ∧ i ≤ N.length ∧ m = N.length - i ∧ M.Perm N ∧ Up M i ∧ OwnZ w' w10.heap.size 1 p17 N.length c19 (M.map I64) ∧ Fr [] w10 w', N.length, ⟨0, N, rfl, by omega, rfl, List.Perm.refl _, fun j j' x y _ h => by omega, o, F⟩, ?_⟩
  clear o F
  rintro m58 n59 w60 ⟨i, M, rfl, hi, rfl, hM, hUp, o, F⟩
  have hMl := hM.length_eq
  refine bc (fun hlt => ?_) fun hge => ?_
  · have hlt : (i : Int) < (N.length : Int) := of_decide_eq_true hlt
    have hlt' : i < N.length := by omega
    refine ⟨fun m n w' => ∃ (k : Nat) (M : List Int), n = k ∧ m = k ∧ M.Perm N ∧ Ins M i k ∧ OwnZ w' w10.heap.size 1 p17 N.length c19 (M.map I64) ∧ Fr [] w10 w', i, ⟨i, M, rfl, rfl, hM, Ins.start hUp (by omega) (hM.nodup_iff.2 hNn), o, F⟩, ?_⟩
    rintro k n65 w66 ⟨_, M, rfl, rfl, hM, I, o, F⟩ y68 h68
    have hMl := hM.length_eq
    have hki := I.le
    have hwr : 0 < k → IntKind.wrap .i64 ((k : Int) - 1) = ((k - 1 : Nat) : Int) := fun h => by rw [wrapi (by omega) (by omega)]; omega
    have stop : ∀ w', Fr [] w66 w' → (k = 0 ∨ ∃ x y, M[k - 1]? = some x ∧ M[k]? = some y ∧ ¬ y < x) → y68 false w' := fun w' f' h => h68 _ _ (bF rfl ⟨N.length - (i + 1), by omega, i + 1, M, by rw [wrapi (by omega) (by omega)]; simp, by omega, rfl, hM, I.done h, o.fr f' (fun _ _ => by simp), F.trans' f'⟩)
    refine bc (fun hpos => ?_) fun hnp w95 s95 => stop w95 s95.fr (.inl (by have := of_decide_eq_false hnp; omega))
    have hpos : (0 : Int) < (k : Int) := of_decide_eq_true hpos
    have hpos' : 0 < k := by omega
    have hk : k < M.length := by omega
    have hk1 : k - 1 < M.length := by omega
    rw [hwr hpos']
    refine rd I64 (i := k) o.row rfl hk (by omega) (rd I64 (i := k - 1) o.row rfl hk1 (by omega) fun w93 s93 => ?_)
    by_cases hlt2 : M[k] < M[k - 1]
    · rw [decide_eq_true hlt2]
      rw [hwr hpos'] at h68
      refine h68 _ _ (bT rfl ?_)
      have o93 := o.fr s93.fr (fun _ _ => by simp)
      have F93 := F.trans' s93.fr
      refine rd I64 (i := k - 1) o93.row rfl hk1 (by omega) (rd I64 (i := k) o93.row rfl hk (by omega) ?_)
      obtain ⟨ad, hp⟩ := o93.row.has (by rw [List.length_map]; omega)
      refine ⟨ad, hp, ⟨by omega, by omega⟩, fun w76 s76 => ?_⟩
      have o76 := o93.fr s76.fr (fun _ _ => by simp)
      have F76 := F93.trans' s76.fr
      refine own_put (x := I64 M[k - 1]) o76 hp rfl (by omega) rfl fun w79 f79 o79 => ?_
      have hblk : w10.heap.size ≤ ad.block := (o76.lt hp).1
      have F79 := F76.trans f79 (fun x hx => .inr (by rw [List.mem_singleton.1 hx]; exact hblk))
      refine ⟨ad, hp, ⟨by omega, by omega⟩, ?_⟩
      refine own_put (x := I64 M[k]) o79 hp rfl (by omega) rfl fun w83 f83 o83 => ?_
      have F83 := F79.trans f83 (fun x hx => .inr (by rw [List.mem_singleton.1 hx]; exact hblk))
      have hx := List.getElem?_eq_getElem hk1
      have hy := List.getElem?_eq_getElem hk
      rw [← List.map_set, ← List.map_set] at o83
      exact ⟨k - 1, by omega, k - 1, _, rfl, rfl, (swap_perm hpos' hk hx hy).trans hM, I.swap hpos' hx hy hlt2, o83, F83⟩
    · rw [decide_eq_false hlt2]
      exact stop w93 s93.fr (.inr ⟨_, _, List.getElem?_eq_getElem hk1, List.getElem?_eq_getElem hk, hlt2⟩)
  have hge : ¬ (i : Int) < (N.length : Int) := of_decide_eq_false hge
  have hi' : i = M.length := by omega
  subst hi'
  have hK := hUp.lt
  have hKr : ∀ x, x ∈ M ↔ Reach T x x := fun x => by rw [hM.mem_iff, hNr]
  rw [← hMl] at o
  have rK := o.row
  rw [← hMl] at hN36 ⊢
  have F60 := F10.trans' F
  have rX60 := rX.old F
  clear hUp hM hMl hNr hNn hge hi rX o F
  generalize M = K at *
  -- the rings
  refine ⟨fun m p k c pd kd cd n w' => ∃ (i : Nat) (Z : List RC) (D : List Int), n = i ∧ i ≤ K.length ∧ m = K.length - i ∧ k = Z.length ∧ kd = D.length ∧ Z.length ≤ i ∧ D.length ≤ i * 3600 ∧ OwnZ w' w60.heap.size 1 p Z.length c (Z.map rv) ∧ OwnZ w' w60.heap.size 1 pd D.length cd (D.map I64) ∧ Dj p pd ∧ RowsI w' Z ∧ (∀ z ∈ Z, (∀ ad, z.1 = some ad → ad.block < w'.heap.size) ∧ Dj p z.1 ∧ Dj pd z.1) ∧ Z.map (·.2.2) = ringsOf T K (K.take i) ∧ (∀ x, x ∈ D ↔ ∃ r ∈ ringsOf T K (K.take i), x ∈ r) ∧ Fr [] w60 w', K.length,
    ⟨0, [], [], rfl, by omega, rfl, rfl, rfl, by simp, by simp, OwnZ.nil _ _ _, OwnZ.nil _ _ _, Dj.none _, fun z hz => (by cases hz), fun z hz => (by cases hz), by simp [ringsOf], by simp [ringsOf], Fr.refl _ _⟩, ?_⟩
  rintro m99 p100 k101 c102 p103 k104 c105 n106 w107 ⟨i, Z, D, rfl, hi, rfl, rfl, rfl, hZi, hDi, o, od, dj, rz', hzb, hZ, hD, F⟩
  refine bc (fun hlt => ?_) fun hge => ?_
  · have hlt : (i : Int) < (K.length : Int) := of_decide_eq_true hlt
    have hlt' : i < K.length := by omega
    intro y109 h109
    refine rd I64 (rK.old F) rfl hlt' hlt ((rin_c K[i] od.row (by omega)).mono ?_)
    rintro e122 w123 ⟨rfl, f123⟩
    have F123 := F.trans' f123
    have o123 := o.fr f123 (fun _ _ => by simp)
    have od123 := od.fr f123 (fun _ _ => by simp)
    have rz123 := rz'.old f123
    have z123 := f123.size
    have hself : Reach T K[i] K[i] := (hKr _).1 (List.getElem_mem hlt')
    have es : IntKind.wrap .i64 ((i : Int) + 1) = ((i + 1 : Nat) : Int) := by rw [wrapi (by omega) (by omega)]; simp
    rw [es] at h109
    refine ⟨_, rfl, bc (fun hin => ?_) fun hnin => ?_⟩
    · have hin := of_decide_eq_true hin
      obtain ⟨r, hr, hx⟩ := (hD _).1 hin
      have hnh := seen_not hK hlt' hr hx
      exact h109 _ _ _ _ _ _ _ ⟨K.length - (i + 1), by omega, i + 1, Z, D, rfl, by omega, rfl, rfl, rfl, by omega, by omega, o123, od123, dj, rz123, fun z hz => ⟨fun ad h => by have := (hzb z hz).1 ad h; omega, (hzb z hz).2⟩, by rw [rings_no hlt' hnh]; exact hZ, fun x => by rw [rings_no hlt' hnh]; exact hD x, F123⟩
    · have hnin := of_decide_eq_false hnin
      have hun : ∀ r ∈ ringsOf T K (K.take i), K[i] ∉ r := fun r hr hx => hnin ((hD _).2 ⟨r, hr, hx⟩)
      have hh := unseen_head hK hlt' hself hun
      refine ⟨fun m pd kd cd p k c n w' => ∃ (j : Nat) (r D' : List Int), n = j ∧ j ≤ K.length ∧ m = K.length - j ∧ kd = D'.length ∧ k = r.length ∧ r = (K.take j).filter (fun x => decide (Mut T K[i] x)) ∧ D' = D ++ r ∧ r.length ≤ j ∧ OwnZ w' w60.heap.size 1 pd D'.length cd (D'.map I64) ∧ OwnZ w' w60.heap.size 1 p r.length c (r.map I64) ∧ OwnZ w' w60.heap.size 1 p100 Z.length c102 (Z.map rv) ∧ RowsI w' Z ∧ Dj pd p ∧ Dj p100 p ∧ Dj p100 pd ∧ (∀ z ∈ Z, (∀ ad, z.1 = some ad → ad.block < w'.heap.size) ∧ Dj p100 z.1 ∧ Dj pd z.1 ∧ Dj p z.1) ∧ Fr [] w60 w', K.length,
        ⟨0, [], D, rfl, by omega, rfl, rfl, rfl, by simp, by simp, by simp, od123, OwnZ.nil _ _ _, o123, rz123, (Dj.none _).symm, (Dj.none _).symm, dj, fun z hz => ⟨fun ad h => by have := (hzb z hz).1 ad h; omega, (hzb z hz).2.1, (hzb z hz).2.2, Dj.none _⟩, F123⟩, ?_⟩
      clear o123 od123 rz123 F123 rz' od o hzb dj
      rintro m127 p128 k129 c130 p131 k132 c133 n134 w135 ⟨j, r, D', rfl, hj, rfl, rfl, rfl, hr, hD', hrj, od, or, o, rz', dr, dor, dod, hzb, F⟩
      have hD'l : D'.length = D.length + r.length := by rw [hD', List.length_append]
      refine bc (fun hlt2 => ?_) fun hge2 => ?_
      · have hlt2 : (j : Int) < (K.length : Int) := of_decide_eq_true hlt2
        have hlt2' : j < K.length := by omega
        intro y137 h137 y148 h148
        have es2 : IntKind.wrap .i64 ((j : Int) + 1) = ((j + 1 : Nat) : Int) := by rw [wrapi (by omega) (by omega)]; simp
        rw [es2] at h137
        have no : ∀ w', Fr [] w135 w' → ¬ Mut T K[i] K[j] → y148 false w' := fun w' f' h => h148 _ _ (bF rfl (h137 _ _ _ _ _ _ _ ⟨K.length - (j + 1), by omega, j + 1, r, D', rfl, by omega, rfl, rfl, rfl, by rw [take_filter hlt2', ← hr, if_neg (by simpa using h)]; simp, hD', by omega, od.fr f' (fun _ _ => by simp), or.fr f' (fun _ _ => by simp), o.fr f' (fun _ _ => by simp), rz'.old f', dr, dor, dod, fun z hz => ⟨fun ad h => by have := (hzb z hz).1 ad h; have := f'.size; omega, (hzb z hz).2⟩, F.trans' f'⟩))
        refine rd I64 (rK.old F) rfl hlt' hlt (rd I64 (rK.old F) rfl hlt2' hlt2 fun w171 s171 => (rhas_c (K[i], K[j]) ((rX60.old F).old s171.fr) (by omega)).mono ?_)
        rintro e173 w174 ⟨rfl, f174⟩
        have f174 := s171.fr.trans' f174
        have F174 := F.trans' f174
        refine ⟨_, rfl, bc (fun h1 => ?_) fun h1 => no w174 f174 fun h => of_decide_eq_false h1 ((hXm _).2 h.1)⟩
        have h1 := (hXm _).1 (of_decide_eq_true h1)
        refine rd I64 (rK.old F174) rfl hlt2' hlt2 (rd I64 (rK.old F174) rfl hlt' hlt ((rhas_c (K[j], K[i]) (rX60.old F174) (by omega)).mono ?_))
        rintro e180 w181 ⟨rfl, f181⟩
        have f181 := f174.trans' f181
        have F181 := F.trans' f181
        refine ⟨_, rfl, ?_⟩
        by_cases h2 : ((K[j], K[i]) : PI) ∈ X
        · rw [decide_eq_true h2]
          have h2 := (hXm _).1 h2
          have hmut : Mut T K[i] K[j] := ⟨h1, h2⟩
          have er : r ++ [K[j]] = (K.take (j + 1)).filter (fun x => decide (Mut T K[i] x)) := by rw [take_filter hlt2', ← hr, if_pos (by simpa using hmut)]
          refine h148 _ _ (bT rfl ?_)
          have z181 := f181.size
          refine rd I64 (rK.old F181) rfl hlt2' hlt2 fun k153 => ?_
          have or1 := or.fr f181 (fun _ _ => by simp)
          have od1 := od.fr f181 (fun _ _ => by simp)
          have o1 := o.fr f181 (fun _ _ => by simp)
          refine appM1 (C := I64) (fun _ => rfl) (x := K[j]) (u := w60) (B := w60.heap.size) or1 F181 rfl (Nat.le_refl _) F181.size (fun h => by cases h) (by simp) (fun ad hp x hx => .inl hx) (by omega) (by omega) fun w154 p155 c157 F154 G154 n154 o154 d154 => ?_
          have od2 := od1.fr G154 dr.symm.out
          have o2 := o1.fr G154 dor.symm.out
          have g154 := G154.size
          have rz2 : RowsI w154 Z := fun z hz => row_fr0 G154 ((rz'.old f181) z hz) fun ad hp _ => (hzb z hz).2.2.2.out ad hp
          have dr2 : Dj p155 p128 := dr.symm.grow d154 fun b hb => (od1.lt hb).2
          have dor2 : Dj p155 p100 := dor.symm.grow d154 fun b hb => (o1.lt hb).2
          refine rd I64 (rK.old F154) rfl hlt2' hlt2 fun k160 => ?_
          refine appM1 (C := I64) (fun _ => rfl) (x := K[j]) (u := w60) (B := w60.heap.size) od2 F154 rfl (Nat.le_refl _) F154.size (fun h => by cases h) (by simp) (fun ad hp x hx => ?_) (by omega) (by omega) fun w161 p162 c164 F161 G161 n161 o161 d161 => ?_
          · rcases List.mem_cons.1 hx with rfl | hx
            · refine .inr fun e => ?_
              have h3 := (od1.lt hp).2
              have h4 := (n154 _ (List.mem_singleton.2 rfl)).1
              omega
            · exact .inl hx
          · have g161 := G161.size
            exact h137 _ _ _ _ _ _ _ ⟨K.length - (j + 1), by omega, j + 1, r ++ [K[j]], D' ++ [K[j]], rfl, by omega, rfl, rfl, rfl, er, by rw [hD', List.append_assoc], by simp; omega, o161, o154.fr G161 dr2.symm.out, o2.fr G161 dod.symm.out, fun z hz => row_fr0 G161 (rz2 z hz) fun ad hp _ => (hzb z hz).2.2.1.out ad hp, dr2.symm.grow d161 fun b hb => (o154.lt hb).2, dor2.symm, (dod.symm.grow d161 fun b hb => (o2.lt hb).2).symm, fun z hz => ⟨fun ad h => by have := (hzb z hz).1 ad h; omega, (hzb z hz).2.1, (hzb z hz).2.2.1.grow d161 fun b hb => by have := (hzb z hz).1 b hb; omega, (hzb z hz).2.2.2.grow d154 fun b hb => by have := (hzb z hz).1 b hb; omega⟩, F161⟩
        · rw [decide_eq_false h2]
          exact no w181 f181 fun h => h2 ((hXm _).2 h.2)
      · have hge2 : ¬ (j : Int) < (K.length : Int) := of_decide_eq_false hge2
        rw [List.take_of_length_le (show K.length ≤ j by omega)] at hr
        have hrr : r = ringOf T K K[i] := hr
        intro k183
        refine appM1 (C := rv) (fun _ => rfl) (ys := Z) (x := (p131, c133, r)) (u := w60) (B := w60.heap.size) o F rfl (Nat.le_refl _) F.size (fun h => by cases h) (by simp) (fun ad hp x hx => .inl hx) (by omega) (by omega) fun w184 p185 c187 F184 G184 n184 o184 d184 => ?_
        have g184 := G184.size
        refine h109 _ _ _ _ _ _ _ ⟨K.length - (i + 1), by omega, i + 1, Z ++ [(p131, c133, r)], D', rfl, by omega, rfl, rfl, rfl, by simp; omega, by omega, o184, od.fr G184 dod.out, dod.grow d184 fun b hb => (od.lt hb).2, fun z hz => ?_, fun z hz => ?_, by rw [rings_yes hlt' hh, List.map_append, hZ, ← hrr]; rfl, fun x => ?_, F184⟩
        · rcases List.mem_append.1 hz with hz | hz
          · exact row_fr0 G184 (rz' z hz) fun ad hp _ => (hzb z hz).2.1.out ad hp
          · rw [List.mem_singleton.1 hz]
            exact (or.fr G184 dor.out).row
        · rcases List.mem_append.1 hz with hz | hz
          · exact ⟨fun ad h => by have := (hzb z hz).1 ad h; omega, (hzb z hz).2.1.grow d184 fun b hb => (hzb z hz).1 b hb, (hzb z hz).2.2.1⟩
          · rw [List.mem_singleton.1 hz]
            exact ⟨fun ad h => by have := (or.lt h).2; omega, dor.grow d184 fun b hb => (or.lt hb).2, dr⟩
        · rw [rings_yes hlt' hh, hD', List.mem_append, hD, hrr]
          constructor
          · rintro (⟨r, hr, hx⟩ | h)
            · exact ⟨r, List.mem_append_left _ hr, hx⟩
            · exact ⟨_, List.mem_append_right _ (List.mem_singleton.2 rfl), h⟩
          · rintro ⟨r, hr, hx⟩
            rcases List.mem_append.1 hr with hr | hr
            · exact .inl ⟨r, hr, hx⟩
            · rw [List.mem_singleton.1 hr] at hx; exact .inr hx
  · have hge : ¬ (i : Int) < (K.length : Int) := of_decide_eq_false hge
    rw [List.take_of_length_le (show K.length ≤ i by omega)] at hZ
    exact ⟨F60.trans' F, .inr ⟨hgood, p100, c102, Z, K, rfl, o.row, rz', hK, fun a h => (hKr a).2 h, hZ⟩⟩
end Go.Proofs.Ytnplopiconabiaa.Span
