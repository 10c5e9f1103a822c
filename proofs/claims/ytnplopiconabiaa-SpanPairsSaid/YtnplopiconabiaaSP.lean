/- Span: the document's edges and span. -/
import Derived.Test.YtnplopiconabiaaSN
import Derived.Test.YtnplopiconabiaaSG
namespace Go.Proofs.Ytnplopiconabiaa.Span
open Go Go.V
open Go.Proofs.Ytnplopiconabiaa.VC
open Go.Proofs.Try (prog)
set_option linter.unusedVariables false
set_option linter.unusedSimpArgs false
set_option maxRecDepth 20000

def pcell (p : PI) : List Value := [I64 p.1, I64 p.2]
theorem flatP : Flat pcell 2 := ⟨fun _ => rfl, fun a u hu => by simp [pcell] at hu; rcases hu with rfl | rfl <;> rfl⟩
theorem rhas_c {w : World} {lA : Option Addr} {lC : Nat} {L : List PI} (p : PI) (hr : Row w lA (L.flatMap pcell)) (hl : L.length ≤ 1000000) :
    Calls prog 52 #[.slice lA L.length lC, .agg #[I64 p.1, I64 p.2]] w fun e w' => e = .returned (.bool (decide (p ∈ L))) ∧ Fr [] w w' := by
  refine rhizomeref13_has.link fun k1 => ⟨fun m n w' => ∃ i : Nat, n = i ∧ i ≤ L.length ∧ m = L.length - i ∧ p ∉ L.take i ∧ Fr [] w w', L.length, fun w4 s4 => ⟨0, rfl, by omega, rfl, by simp, s4.fr⟩, ?_⟩
  rintro m n w8 ⟨i, rfl, hi, rfl, hn, F⟩
  refine bc (fun hlt => ?_) fun hge => ?_
  · have hlt : (i : Int) < (L.length : Int) := of_decide_eq_true hlt
    have hlt' : i < L.length := by omega
    obtain ⟨ad, hp, g⟩ := (hr.old F).atF flatP (by decide) hlt'
    have e0 : (i : Int).toNat * 2 = i * 2 := by omega
    refine ⟨ad, hp, ⟨by omega, hlt⟩, _, _, ⟨by rw [e0]; exact g 0 _ rfl, by rw [e0]; exact g 1 _ rfl, trivial⟩, bc (fun h => fun w13 s13 => ⟨?_, F.trans' s13.fr⟩) fun h => ⟨L.length - (i + 1), by omega, fun w16 s16 => ⟨i + 1, by rw [wrapi (by omega) (by omega)]; simp, by omega, rfl, ?_, F.trans' s16.fr⟩⟩⟩
    · have h : L[i].1 = p.1 ∧ L[i].2 = p.2 := by simpa [conj] using h
      rw [decide_eq_true (by rw [← Prod.ext h.1 h.2]; exact List.getElem_mem hlt')]
    · rw [take_snoc hlt', List.mem_append, List.mem_singleton]
      rintro (h2 | h2)
      · exact hn h2
      · rw [h2] at h; simp [conj] at h
  · have hge : ¬ (i : Int) < (L.length : Int) := of_decide_eq_false hge
    rw [List.take_of_length_le (by omega)] at hn
    exact ⟨by rw [decide_eq_false hn], F⟩
/-- The edges of a label as pairs, once each. -/
structure EdgesOf (E : List EG) (lab : ByteArray) (L : List PI) : Prop where
  nodup : L.Nodup
  mem : ∀ p : PI, p ∈ L ↔ ∃ e ∈ E, e.l = lab ∧ e.f = p.1 ∧ e.t = p.2
  len : L.length ≤ E.length
theorem EdgesOf.succs {E : List EG} {lab : ByteArray} {L : List PI} (h : EdgesOf E lab L) (p : PI) : p ∈ L ↔ p.2 ∈ succs E lab p.1 := by rw [h.mem, mem_succs]
theorem redges_c {w : World} {lab : ByteArray} {eA : Option Addr} {eC : Nat} {E : List EG} (hE : Row w eA (E.flatMap gcell)) (hl : E.length ≤ 50000) :
    Calls prog 44 #[.string lab, .slice eA E.length eC] w fun e w' => Fr [] w w' ∧ ∃ (p : Option Addr) (c : Nat) (L : List PI), e = .returned (.slice p L.length c) ∧ EdgesOf E lab L ∧ OwnZ w' w.heap.size 2 p L.length c (L.flatMap pcell) := by
  refine rhizomeref13_Edges.link ⟨fun m p k c n w' => ∃ (i : Nat) (L : List PI), n = i ∧ i ≤ E.length ∧ m = E.length - i ∧ k = L.length ∧ EdgesOf (E.take i) lab L ∧ OwnZ w' w.heap.size 2 p L.length c (L.flatMap pcell) ∧ Fr [] w w', E.length, ⟨0, [], rfl, by omega, rfl, rfl, ⟨by simp, fun p => by simp, by simp⟩, OwnZ.nil _ _ _, Fr.refl _ _⟩, ?_⟩
  rintro m p4 k5 c6 n w8 ⟨i, L, rfl, hi, rfl, rfl, X, o, F⟩
  have hll : L.length ≤ i := by have := X.len; rw [List.length_take] at this; omega
  refine bc (fun hlt => ?_) fun hge => ?_
  · have hlt : (i : Int) < (E.length : Int) := of_decide_eq_true hlt
    have hlt' : i < E.length := by omega
    intro y10 h10
    obtain ⟨ad, hp, g⟩ := (hE.old F).atF flatG (by decide) hlt'
    have e0 : (i : Int).toNat * 3 = i * 3 := by omega
    refine ⟨ad, hp, ⟨by omega, hlt⟩, _, by rw [e0]; exact g 0 _ rfl, ad, hp, ⟨by omega, hlt⟩, _, by rw [e0]; exact g 2 _ rfl, fun k22 y23 h23 => ?_⟩
    refine ⟨ad, hp, ⟨by omega, hlt⟩, _, by rw [e0]; exact g 1 _ rfl, ?_⟩
    have hstep : ∀ L' : List PI, (∀ p : PI, p ∈ L' ↔ p ∈ L ∨ (E[i].l = lab ∧ p = (E[i].f, E[i].t))) → L'.Nodup → L'.length ≤ L.length + 1 → EdgesOf (E.take (i + 1)) lab L' := fun L' h1 h2 h3 => by
      refine ⟨h2, fun p => ?_, by rw [List.length_take]; omega⟩
      rw [h1, X.mem, take_snoc hlt']
      constructor
      · rintro (⟨e, he, h⟩ | ⟨h, rfl⟩)
        · exact ⟨e, List.mem_append_left _ he, h⟩
        · exact ⟨E[i], List.mem_append_right _ (List.mem_singleton.2 rfl), h, rfl, rfl⟩
      · rintro ⟨e, he, h4, h5, h6⟩
        rcases List.mem_append.1 he with he | he
        · exact .inl ⟨e, he, h4, h5, h6⟩
        · rw [List.mem_singleton.1 he] at h4 h5 h6
          exact .inr ⟨h4, Prod.ext h5.symm h6.symm⟩
    have no : ∀ w', Fr [] w w' → OwnZ w' w.heap.size 2 p4 L.length c6 (L.flatMap pcell) → (E[i].l = lab → (E[i].f, E[i].t) ∈ L) → y23 false w' := fun w' F' o' h => h23 _ _ (bF rfl (h10 _ _ _ _ ⟨E.length - (i + 1), by omega, i + 1, L, by rw [wrapi (by omega) (by omega)]; simp, by omega, rfl, rfl, hstep L (fun p => ⟨.inl, fun h' => h'.elim id fun h' => by rw [h'.2]; exact h h'.1⟩) X.nodup (by omega), o', F'⟩))
    refine bc (fun hlab w35 s35 => ?_) fun hlab w40 s40 => no w40 (F.trans' s40.fr) (o.fr s40.fr (fun _ _ => by simp)) fun h => absurd h (of_decide_eq_false hlab)
    have hlab : E[i].l = lab := of_decide_eq_true hlab
    have o35 := o.fr s35.fr (fun _ _ => by simp)
    have n35 := g_new1 s35
    have z35 := s35.fr.size
    have zF := F.size
    refine (rhas_c (E[i].f, E[i].t) o35.row (by omega)).mono ?_
    rintro e37 w38 ⟨rfl, f38⟩
    refine ⟨_, rfl, keepF f38 (by simpa using n35.2), ?_⟩
    have F38 := F.trans' (s35.fr.trans' f38)
    have o38 := o35.fr f38 (fun _ _ => by simp)
    by_cases hin : ((E[i].f, E[i].t) : PI) ∈ L
    · rw [decide_eq_true hin]
      exact no w38 F38 o38 fun _ => hin
    · rw [decide_eq_false hin]
      refine h23 _ _ (bT rfl fun k26 => ?_)
      refine app1 (f := pcell) flatP (x := (E[i].f, E[i].t)) (u := w) (B := w.heap.size) o38 F38 rfl (Nat.le_refl _) F38.size (fun h => by cases h) (by simp) (fun ad hp x hx => ?_) (by omega) (by omega) fun w27 p28 c30 F27 _ _ o27 _ => ?_
      · rcases List.mem_cons.1 hx with rfl | h
        · refine .inr fun e => ?_
          have := (o.lt hp).2
          omega
        · exact .inl h
      · exact h10 _ _ _ _ ⟨E.length - (i + 1), by omega, i + 1, _, by rw [wrapi (by omega) (by omega)]; simp, by omega, rfl, rfl, hstep _ (fun p => by rw [List.mem_append, List.mem_singleton]; exact ⟨fun h => h.imp id fun h => ⟨hlab, h⟩, fun h => h.imp id fun h => h.2⟩) (by
          rw [List.nodup_append]
          exact ⟨X.nodup, by simp, fun x hx y hy e => hin (by rw [← List.mem_singleton.1 hy, ← e]; exact hx)⟩) (by simp), o27, F27⟩
  · have hge : ¬ (i : Int) < (E.length : Int) := of_decide_eq_false hge
    rw [List.take_of_length_le (by omega)] at X
    exact ⟨F, p4, c6, L, rfl, X, o⟩

theorem rspan_c {w : World} {eA : Option Addr} {eC : Nat} {L : List PI} {T : Int → List Int} (hE : Row w eA (L.flatMap pcell)) (hl : L.length ≤ 300) (hn : L.Nodup) (hT : ∀ p : PI, p ∈ L ↔ p.2 ∈ T p.1) :
    Calls prog 43 #[.slice eA L.length eC] w fun e w' => Fr [] w w' ∧ ∃ (p : Option Addr) (c : Nat) (X : List PI), e = .returned (.slice p X.length c) ∧ X.Nodup ∧ (∀ x : PI, x ∈ X ↔ Reach T x.1 x.2) ∧ X.length ≤ L.length * L.length ∧ OwnZ w' w.heap.size 2 p X.length c (X.flatMap pcell) := by
  refine rhizomeref13_Span.link fun k1 w2 s2 b2 => ?_
  have n1 := g_new1 s2
  have b2 : Blk w2 k1 [] := b2
  have hll : L.length * L.length ≤ 300 * 300 := Nat.mul_le_mul hl hl
  refine ⟨L.flatMap pcell, flatP.len L, hE.old s2.fr, ?_⟩
  refine appN (f := pcell) flatP (ys := []) (zs := L) rfl (u := w) (B := w.heap.size) (OwnZ.blk b2 rfl (by simp) n1.1) s2.fr rfl (Nat.le_refl _) s2.fr.size (fun _ => rfl) (by simp) (fun ad hp x hx => by cases hx) (by simp; omega) (by simp; omega) fun w6 p7 c9 F6 _ _ o6 _ => ?_
  rw [List.nil_append] at o6
  -- the least edge count of the variant
  refine ⟨fun m p k c n w' => ∃ (i : Nat) (X : List PI), n = i ∧ i ≤ X.length ∧ m = L.length * L.length - i ∧ k = X.length ∧ Clo T L X i ∧ OwnZ w' w.heap.size 2 p X.length c (X.flatMap pcell) ∧ Fr [] w w', L.length * L.length, ⟨0, L, rfl, by omega, rfl, by simp, ⟨fun p h => h, fun p h => .one ((hT p).1 h), hn, fun j q hj => by omega⟩, by simpa using o6, F6⟩, ?_⟩
  rintro m12 p13 k14 c15 n16 w17 ⟨i, X, rfl, hi, rfl, rfl, C, o17, F17⟩
  have hfew := clo_few C hT
  refine bc (fun hlt => ?_) fun hge => ?_
  · have hlt : (i : Int) < (X.length : Int) := of_decide_eq_true hlt
    have hlt' : i < X.length := by omega
    refine ⟨fun m p k c n w' => ∃ (j : Nat) (Y : List PI), n = j ∧ j ≤ L.length ∧ m = L.length - j ∧ k = Y.length ∧ i < Y.length ∧ Clo T L Y i ∧ (∀ q, Y[i]? = some q → ∀ e ∈ L.take j, e.2 = q.1 → (e.1, q.2) ∈ Y) ∧ OwnZ w' w.heap.size 2 p Y.length c (Y.flatMap pcell) ∧ Fr [] w w', L.length, ⟨0, X, rfl, by omega, rfl, rfl, hlt', C, by simp, o17, F17⟩, ?_⟩
    rintro m21 p22 k23 c24 n25 w26 ⟨j, Y, rfl, hj, rfl, rfl, hiY, C2, hdone, o26, F26⟩
    have hfew2 := clo_few C2 hT
    refine bc (fun hlt2 => ?_) fun hge2 => ?_
    · have hlt2 : (j : Int) < (L.length : Int) := of_decide_eq_true hlt2
      have hlt2' : j < L.length := by omega
      intro y28 h28
      obtain ⟨ad, hp, g⟩ := (hE.old F26).atF flatP (by decide) hlt2'
      obtain ⟨ad2, hp2, g2⟩ := o26.row.atF flatP (by decide) hiY
      have e0 : (j : Int).toNat * 2 = j * 2 := by omega
      have e1 : (i : Int).toNat * 2 = i * 2 := by omega
      refine ⟨ad, hp, ⟨by omega, hlt2⟩, _, by rw [e0]; exact g 0 _ rfl, ad2, hp2, ⟨by omega, by omega⟩, _, by rw [e1]; exact g2 1 _ rfl, fun k40 y41 h41 => ?_⟩
      refine ⟨ad, hp, ⟨by omega, hlt2⟩, _, by rw [e0]; exact g 1 _ rfl, ad2, hp2, ⟨by omega, by omega⟩, _, by rw [e1]; exact g2 0 _ rfl, ?_⟩
      have no : ∀ w', Fr [] w w' → OwnZ w' w.heap.size 2 p22 Y.length c24 (Y.flatMap pcell) → (L[j].2 = Y[i].1 → (L[j].1, Y[i].2) ∈ Y) → y41 false w' := fun w' F' o' h => h41 _ _ (bF rfl (h28 _ _ _ _ ⟨L.length - (j + 1), by omega, j + 1, Y, by rw [wrapi (by omega) (by omega)]; simp, by omega, rfl, rfl, hiY, C2, fun q hq e he h2 => by
        rw [take_snoc hlt2'] at he
        rcases List.mem_append.1 he with he | he
        · exact hdone q hq e he h2
        · rw [List.getElem?_eq_getElem hiY] at hq
          cases hq
          rw [List.mem_singleton.1 he] at h2 ⊢
          exact h h2, o', F'⟩))
      refine bc (fun heq w55 s55 => ?_) fun hne w60 s60 => no w60 (F26.trans' s60.fr) (o26.fr s60.fr (fun _ _ => by simp)) fun h => absurd h (of_decide_eq_false hne)
      have heq : L[j].2 = Y[i].1 := of_decide_eq_true heq
      have o55 := o26.fr s55.fr (fun _ _ => by simp)
      have n55 := g_new1 s55
      have z26 := F26.size
      refine (rhas_c (L[j].1, Y[i].2) o55.row (by omega)).mono ?_
      rintro e57 w58 ⟨rfl, f58⟩
      refine ⟨_, rfl, keepF f58 (by simpa using n55.2), ?_⟩
      have F58 := F26.trans' (s55.fr.trans' f58)
      have o58 := o55.fr f58 (fun _ _ => by simp)
      by_cases hin : ((L[j].1, Y[i].2) : PI) ∈ Y
      · rw [decide_eq_true hin]
        exact no w58 F58 o58 fun _ => hin
      · rw [decide_eq_false hin]
        refine h41 _ _ (bT rfl fun k44 => ?_)
        have hr : Reach T L[j].1 Y[i].2 := by
          have h1 : L[j].2 ∈ T L[j].1 := (hT L[j]).1 (List.getElem_mem hlt2')
          have h2 := C2.sub Y[i] (List.getElem_mem hiY)
          rw [← heq] at h2
          exact (Reach.one h1).trans h2
        have C3 := C2.add (p := (L[j].1, Y[i].2)) hr hin (by omega)
        have hfew3 := clo_few C3 hT
        rw [List.length_append, List.length_singleton] at hfew3
        refine app1 (f := pcell) flatP (x := (L[j].1, Y[i].2)) (u := w) (B := w.heap.size) o58 F58 rfl (Nat.le_refl _) F58.size (fun h => by cases h) (by simp) (fun ad hp x hx => ?_) (by omega) (by omega) fun w45 p46 c48 F45 _ _ o45 _ => ?_
        · rcases List.mem_cons.1 hx with rfl | h
          · refine .inr fun e => ?_
            have := (o26.lt hp).2
            omega
          · exact .inl h
        · refine h28 _ _ _ _ ⟨L.length - (j + 1), by omega, j + 1, _, by rw [wrapi (by omega) (by omega)]; simp, by omega, rfl, rfl, by rw [List.length_append]; omega, C3, fun q hq e he h2 => ?_, o45, F45⟩
          rw [List.getElem?_append_left hiY] at hq
          rw [take_snoc hlt2'] at he
          rcases List.mem_append.1 he with he | he
          · exact List.mem_append_left _ (hdone q hq e he h2)
          · rw [List.getElem?_eq_getElem hiY] at hq
            cases hq
            rw [List.mem_singleton.1 he]
            exact List.mem_append_right _ (List.mem_singleton.2 rfl)
    · have hge2 : ¬ (j : Int) < (L.length : Int) := of_decide_eq_false hge2
      rw [List.take_of_length_le (by omega)] at hdone
      exact ⟨L.length * L.length - (i + 1), by omega, i + 1, Y, by rw [wrapi (by omega) (by omega)]; simp, by omega, rfl, rfl, ⟨C2.base, C2.sub, C2.nodup, fun j' q hj' hq e he h2 => by
        by_cases e3 : j' = i
        · subst e3; exact hdone q hq e he h2
        · exact C2.clo j' q (by omega) hq e he h2⟩, o26, F26⟩
  · have hge : ¬ (i : Int) < (X.length : Int) := of_decide_eq_false hge
    exact ⟨F17, p13, c15, X, rfl, C.nodup, fun x => C.all hT (by omega), hfew, o17⟩
end Go.Proofs.Ytnplopiconabiaa.Span
