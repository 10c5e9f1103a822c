/- The locks' reference: Blockers, Edges; the table's Edges. -/
import Derived.Test.YtnimejocaaekaaaQH
namespace Go.Proofs.Ytnimejocaaekaaa.Lock
open Go Go.V
open Go.Proofs.Ytnimejocaaekaaa.VC
open Go.Proofs.Try (prog)
set_option linter.unusedVariables false
set_option linter.unusedSimpArgs false
set_option maxRecDepth 20000

theorem risAll_len1 (ns : List Int) {l : List Int} (hl : l.Pairwise (· < ·)) : (risAll l ns).length ≤ l.length + ns.length := risAll_len ns (fun l h n => risL_len1 h n) hl
/-- Made since there were n blocks. -/
def newA (n : Nat) (w' : World) (p : Option Addr) : Prop := ∀ ad, p = some ad → n ≤ ad.block ∧ ad.block < w'.heap.size
theorem newA.up {n : Nat} {v w : World} {p : Option Addr} (h : newA n v p) (hz : v.heap.size ≤ w.heap.size) : newA n w p := fun ad hp => ⟨(h ad hp).1, Nat.lt_of_lt_of_le (h ad hp).2 hz⟩
theorem newA.rise {n : Nat} {v w : World} {p q : Option Addr} {xs : List Value} (h : newA n v p) (hn : n ≤ v.heap.size) (hz : v.heap.size ≤ w.heap.size) (hr : Row w q xs) (hx : 0 < xs.length) (hq : q = p ∨ ∀ ad, q = some ad → v.heap.size ≤ ad.block) : newA n w q := fun ad hp => by
  refine ⟨?_, hr.blk_lt hx ad hp⟩
  rcases hq with rfl | hq
  · exact (h ad hp).1
  · have := hq ad hp; omega
theorem rblock_c {w : World} {hA : Option Addr} {hC : Nat} {qA : Option Addr} {qC : Nat} {h q : List LK} (hh : Row w hA (lcells h)) (hq : Row w qA (lcells q)) (hl : h.length + q.length ≤ 40000) (s : Int) :
    Calls prog 40 #[.agg #[.slice hA h.length hC, .slice qA q.length qC], I64 s] w fun e w' => Fr [] w w' ∧ ∃ p c, e = .returned (.slice p (lblock h q s).length c) ∧ Row w' p ((lblock h q s).map I64) ∧ newA w.heap.size w' p := by
  refine rhizomeref16_Blockers.link fun k1 w2 s2 => ?_
  have n2 := g_new1 s2
  refine (rat_c (hq.old s2.fr) (by omega) s).mono ?_
  rintro e4 w5 ⟨f5, n6, rfl, hat⟩
  have z5 := f5.size
  have F5 := s2.fr.trans' f5
  refine ⟨_, rfl, keepF f5 (by simp; omega), ?_⟩
  rcases hat with ⟨rfl, hno⟩ | ⟨i, rfl, hi, he, hno⟩
  · refine bT (by decide) ⟨F5, none, 0, ?_, ?_⟩
    · rw [lblock_none h (by unfold waitL; rw [List.find?_eq_none.2 (fun a ha => by simpa using hno a ha)]; rfl)]; rfl
    · rw [lblock_none h (by unfold waitL; rw [List.find?_eq_none.2 (fun a ha => by simpa using hno a ha)]; rfl)]; exact ⟨Row.nil _ _, fun _ h => (by cases h)⟩
  refine bF (by simp) ?_
  have e0 : (i : Int).toNat * 3 = i * 3 := by omega
  obtain ⟨ad, hp, c0, c1, c2⟩ := lread (hq.old F5) hi
  have hfd : q.find? (isS s) = some q[i] ∧ q.takeWhile (fun a => !isS s a) = q.take i := by
    have e := tw_at (P := fun a => !isS s a) hi (fun a ha => by simpa [isS] using hno a ha) (by simpa [isS] using he)
    refine ⟨?_, e.1⟩
    have e2 : q = q.take i ++ q[i] :: q.drop (i + 1) := by simp
    have h1 : (q.take i).find? (isS s) = none := List.find?_eq_none.2 fun a ha => by simpa [isS] using hno a ha
    conv => lhs; rw [e2]
    rw [List.find?_append, h1, Option.none_or, List.find?_cons]
    simp [isS, he]
  have elb : lblock h q s = risAll (risAll [] ((h.filter (stopL q[i])).map (·.s))) (((q.take i).filter (onI q[i].item)).map (·.s)) := by
    unfold lblock; rw [hfd.1]; simp only [hfd.2]
  rw [elb]
  refine ⟨ad, hp, ⟨by omega, by omega⟩, _, _, _, ⟨by rw [e0]; exact c0, by rw [e0]; exact c1, by rw [e0]; exact c2, trivial⟩, fun k11 => ?_⟩
  let t1 : Nat → List Int := fun j => risAll [] (((h.take j).filter (stopL q[i])).map (·.s))
  have t1p : ∀ j, (t1 j).Pairwise (· < ·) := fun j => (risAll_spec _ List.Pairwise.nil).1
  have t1l : ∀ j, (t1 j).length ≤ j := fun j => by
    have h1 := risAll_len1 (((h.take j).filter (stopL q[i])).map (·.s)) (l := []) List.Pairwise.nil
    have h2 := List.length_filter_le (stopL q[i]) (h.take j)
    rw [List.length_take] at h2
    rw [List.length_map] at h1
    show (risAll [] (((h.take j).filter (stopL q[i])).map (·.s))).length ≤ j
    simp only [List.length_nil] at h1
    omega
  refine ⟨fun m p k c n w' => ∃ j : Nat, n = j ∧ j ≤ h.length ∧ m = h.length - j ∧ k = (t1 j).length ∧ Row w' p ((t1 j).map I64) ∧ Fr [] w5 w' ∧ k11 < w'.heap.size ∧ newA w.heap.size w' p, h.length, fun w14 s14 => ⟨0, rfl, by omega, rfl, by simp [t1, risAll], by simpa [t1, risAll] using Row.nil w14 none, s14.fr, by have := g_new1 s14; omega, fun _ h => (by cases h)⟩, ?_⟩
  rintro m p17 k18 c19 n w21 ⟨j, rfl, hj, rfl, rfl, r21, f21, hk11, a21⟩
  have z21 := f21.size
  have tl := t1l j
  refine bc (fun hlt y23 hy23 => ?_) fun hge => ?_
  · have hlt : (j : Int) < (h.length : Int) := of_decide_eq_true hlt
    have hlt' : j < h.length := by omega
    have e0 : (j : Int).toNat * 3 = j * 3 := by omega
    obtain ⟨ad, hp, c0, c1, c2⟩ := lread (hh.old (F5.trans' f21)) hlt'
    refine ⟨ad, hp, ⟨by omega, hlt⟩, _, _, _, ⟨by rw [e0]; exact c0, by rw [e0]; exact c1, by rw [e0]; exact c2, trivial⟩, fun k35 y36 hy36 => ?_⟩
    have es : t1 (j + 1) = if stopL q[i] h[j] = true then risL (t1 j) h[j].s else t1 j := by
      show risAll [] (((h.take (j + 1)).filter (stopL q[i])).map (·.s)) = _
      rw [take_snoc hlt', List.filter_append, List.filter_cons]
      split
      · rw [List.map_append]; exact risAll_snoc _ _ _
      · simp [t1]
    have main : ∀ bb w', bb = stopL q[i] h[j] → Step w21 w' [] [k35] → y36 bb w' := fun bb w' hbb st => by
      have z' := st.fr.size
      have n35 := g_new1 st
      have f' := f21.trans' st.fr
      have next : ∀ p c w2, Row w2 p ((t1 (j + 1)).map I64) → Fr [] w5 w2 → w'.heap.size ≤ w2.heap.size → newA w.heap.size w2 p → y23 p (t1 (j + 1)).length c w2 := fun p c w2 h1 h2 h3 h4 => hy23 _ _ _ _ ⟨h.length - (j + 1), by omega, j + 1, by rw [wrapi (by omega) (by omega)]; simp, by omega, rfl, rfl, h1, h2, by omega, h4⟩
      refine hy36 _ _ (bc (fun ht => ?_) fun hf => ?_)
      · rw [← hbb, ht, if_pos rfl] at es
        refine (rising_c (r21.old st.fr) (by omega) h[j].s).mono ?_
        rintro e39 w40 ⟨f40, p41, c43, rfl, r41, a41⟩
        refine ⟨p41, _, c43, rfl, keepF f40 (by simp; omega), ?_⟩
        rw [← es] at r41 ⊢
        exact next _ _ _ r41 (f'.trans' f40) f40.size ((a21.up st.fr.size).rise (by have := F5.size; omega) f40.size r41 (by rw [List.length_map, es]; exact risL_pos _ _) a41)
      · rw [← hbb, hf, if_neg (by simp)] at es
        have := next p17 c19 w' (by rw [es]; exact r21.old st.fr) f' (Nat.le_refl _) (a21.up st.fr.size)
        rwa [es] at this
    refine bc (fun h1 => bc (fun h2 => bc (fun h3 w46 st => main _ _ ?_ st) fun h3 w48 st => main _ _ ?_ st) fun h2 w50 st => main _ _ ?_ st) fun h1 w52 st => main _ _ ?_ st
    · unfold stopL; rw [h1, he, h2, h3]; rfl
    · unfold stopL; rw [h1, he, h2, h3]; simp
    · unfold stopL; rw [h1, he, h2]; rfl
    · unfold stopL; rw [h1]; rfl
  have hge : ¬ (j : Int) < (h.length : Int) := of_decide_eq_false hge
  have hj2 : j = h.length := by omega
  subst hj2
  have et1 : t1 h.length = risAll [] ((h.filter (stopL q[i])).map (·.s)) := by show risAll [] (((h.take h.length).filter (stopL q[i])).map (·.s)) = _; rw [List.take_length]
  rw [← et1]
  have hp1 := t1p h.length
  clear_value t1
  generalize t1 h.length = u1 at *
  let t2 : Nat → List Int := fun k => risAll u1 (((q.take k).filter (onI q[i].item)).map (·.s))
  have t2l : ∀ j, (t2 j).length ≤ u1.length + j := fun j => by
    have h1 := risAll_len1 (((q.take j).filter (onI q[i].item)).map (·.s)) hp1
    have h2 := List.length_filter_le (onI q[i].item) (q.take j)
    rw [List.length_take] at h2
    rw [List.length_map] at h1
    show (risAll u1 (((q.take j).filter (onI q[i].item)).map (·.s))).length ≤ _
    omega
  refine ⟨fun m p k c n w' => ∃ j : Nat, n = j ∧ j ≤ i ∧ m = i - j ∧ k = (t2 j).length ∧ Row w' p ((t2 j).map I64) ∧ Fr [] w21 w' ∧ newA w.heap.size w' p, i, ⟨0, rfl, by omega, rfl, by simp [t2, risAll], by simpa [t2, risAll] using r21, Fr.refl _ _, a21⟩, ?_⟩
  rintro m p57 k58 c59 n w61 ⟨k, rfl, hk, rfl, rfl, r61, f61, a61⟩
  have z61 := f61.size
  have tl2 := t2l k
  refine bc (fun hlt y63 hy63 => ?_) fun hge => ?_
  · have hlt : (k : Int) < (i : Int) := of_decide_eq_true hlt
    have hlt' : k < q.length := by omega
    have e0 : (k : Int).toNat * 3 = k * 3 := by omega
    have FF := (F5.trans' f21).trans' f61
    obtain ⟨ad, hp, c0, c1, c2⟩ := lread (hq.old FF) hlt'
    have es : t2 (k + 1) = if onI q[i].item q[k] = true then risL (t2 k) q[k].s else t2 k := by
      show risAll u1 (((q.take (k + 1)).filter (onI q[i].item)).map (·.s)) = _
      rw [take_snoc hlt', List.filter_append, List.filter_cons]
      split
      · rw [List.map_append]; exact risAll_snoc _ _ _
      · simp [t2]
    have next : ∀ p c w2, Row w2 p ((t2 (k + 1)).map I64) → Fr [] w21 w2 → newA w.heap.size w2 p → y63 p (t2 (k + 1)).length c w2 := fun p c w2 h1 h2 h3 => hy63 _ _ _ _ ⟨i - (k + 1), by omega, k + 1, by rw [wrapi (by omega) (by omega)]; simp, by omega, rfl, rfl, h1, h2, h3⟩
    refine ⟨ad, hp, ⟨by omega, by omega⟩, _, by rw [e0]; exact c1, bc (fun ht => ⟨ad, hp, ⟨by omega, by omega⟩, _, by rw [e0]; exact c0, fun w75 s75 => ?_⟩) fun hf w82 s82 => ?_⟩
    · have ht : onI q[i].item q[k] = true := ht
      rw [ht, if_pos rfl] at es
      refine (rising_c (r61.old s75.fr) (by omega) q[k].s).mono ?_
      rintro e77 w78 ⟨f78, p79, c81, rfl, r79, a79⟩
      have z78 := s75.fr.size
      refine ⟨p79, _, c81, rfl, keepF f78 (by simp; omega), ?_⟩
      rw [← es] at r79 ⊢
      exact next _ _ _ r79 ((f61.trans' s75.fr).trans' f78) ((a61.up s75.fr.size).rise (by have := F5.size; omega) f78.size r79 (by rw [List.length_map, es]; exact risL_pos _ _) a79)
    · have hf : onI q[i].item q[k] = false := hf
      rw [hf, if_neg (by simp)] at es
      have := next p57 c59 w82 (by rw [es]; exact r61.old s82.fr) (f61.trans' s82.fr) (a61.up s82.fr.size)
      rwa [es] at this
  · have hge : ¬ (k : Int) < (i : Int) := of_decide_eq_false hge
    have hk2 : k = i := by omega
    subst hk2
    exact ⟨(F5.trans' f21).trans' f61, p57, c59, rfl, r61, a61⟩

def ecell (e : Int × Int) : List Value := [I64 e.1, I64 e.2]
theorem flatE : Flat ecell 2 := ⟨fun _ => rfl, fun a u hu => by simp [ecell] at hu; rcases hu with rfl | rfl <;> rfl⟩
def edgesOf (h q : List LK) (S : List Int) : List (Int × Int) := S.flatMap fun s => (lblock h q s).map fun b => (s, b)
theorem edgesOf_snoc (h q : List LK) (S : List Int) (s : Int) : edgesOf h q (S ++ [s]) = edgesOf h q S ++ (lblock h q s).map fun b => (s, b) := by simp [edgesOf]
theorem lblock_len (h q : List LK) (s : Int) : (lblock h q s).length ≤ h.length + q.length := by
  unfold lblock
  cases hf : q.find? (isS s) with
  | none => simp
  | some l =>
    obtain ⟨s1, _⟩ := risAll_spec ((h.filter (stopL l)).map (·.s)) (l := []) List.Pairwise.nil
    have h1 := risAll_len1 ((h.filter (stopL l)).map (·.s)) (l := []) List.Pairwise.nil
    have h2 := risAll_len1 (((q.takeWhile fun a => !isS s a).filter (onI l.item)).map (·.s)) s1
    have h3 := List.length_filter_le (stopL l) h
    have h4 := List.length_filter_le (onI l.item) (q.takeWhile fun a => !isS s a)
    have h5 := List.Sublist.length_le (List.takeWhile_sublist (fun a => !isS s a) (l := q))
    simp only [List.length_map, List.length_nil] at h1 h2
    show (risAll _ _).length ≤ _
    omega
/-- The numbers from 1 on. -/
def upTo (n : Nat) : List Int := (List.range n).map fun k : Nat => (k : Int) + 1
theorem upTo_snoc (n : Nat) : upTo (n + 1) = upTo n ++ [(n : Int) + 1] := by simp [upTo, List.range_succ]
theorem edgesOf_len (h q : List LK) (S : List Int) : (edgesOf h q S).length ≤ S.length * (h.length + q.length) := by
  induction S with
  | nil => simp [edgesOf]
  | cons s S ih =>
    have := lblock_len h q s
    show (List.flatMap _ (s :: S)).length ≤ _
    rw [List.flatMap_cons, List.length_append, List.length_map, List.length_cons, Nat.add_mul]
    have : (edgesOf h q S).length = (List.flatMap (fun s => (lblock h q s).map fun b => (s, b)) S).length := rfl
    omega

theorem redges_c {w : World} {hA : Option Addr} {hC : Nat} {qA : Option Addr} {qC : Nat} {h q : List LK} (hh : Row w hA (lcells h)) (hq : Row w qA (lcells q)) (hl : h.length + q.length ≤ 10000) :
    Calls prog 41 #[.agg #[.slice hA h.length hC, .slice qA q.length qC]] w fun e w' => Fr [] w w' ∧ ∃ p c, e = .returned (.slice p (edgesOf h q (upTo 16)).length c) ∧ Row w' p ((edgesOf h q (upTo 16)).flatMap ecell) := by
  refine rhizomeref16_Edges.link fun k1 => ⟨fun m p k c n w' => ∃ (i B : Nat), n = (i : Int) + 1 ∧ i ≤ 16 ∧ m = 16 - i ∧ k = (edgesOf h q (upTo i)).length ∧ OwnZ w' B 2 p k c ((edgesOf h q (upTo i)).flatMap ecell) ∧ Fr [] w w' ∧ w.heap.size ≤ B ∧ k1 < B ∧ B ≤ w'.heap.size, 16, fun w4 s4 => ?_, ?_⟩
  · have := g_new1 s4
    exact ⟨0, w4.heap.size, rfl, by omega, rfl, rfl, by simpa [upTo, edgesOf] using OwnZ.nil w4 w4.heap.size 2, s4.fr, by omega, by omega, by omega⟩
  rintro m p7 k8 c9 n w11 ⟨i, B, rfl, hi, rfl, rfl, o, f, hB, hk1, hB2⟩
  refine bc (fun hlt => ?_) fun hge => ?_
  · have hlt : (i : Int) + 1 ≤ 16 := of_decide_eq_true hlt
    refine (rblock_c (hh.old f) (hq.old f) (by omega) ((i : Int) + 1)).mono ?_
    rintro e13 w14 ⟨f14, p15, c17, rfl, r15, a15⟩
    have z14 := f14.size
    have hbl := lblock_len h q ((i : Int) + 1)
    have hel : (edgesOf h q (upTo i)).length ≤ 16 * 10000 := by
      have := edgesOf_len h q (upTo i)
      have hu : (upTo i).length = i := by simp [upTo]
      rw [hu] at this
      exact Nat.le_trans this (Nat.mul_le_mul hi hl)
    refine ⟨p15, _, c17, rfl, keepF f14 (by simp; omega), ?_⟩
    have ene : edgesOf h q (upTo (i + 1)) = edgesOf h q (upTo i) ++ (lblock h q ((i : Int) + 1)).map fun b => ((i : Int) + 1, b) := by rw [upTo_snoc, edgesOf_snoc]
    rw [show (IntKind.wrap .i64 ((i : Int) + 1 + 1)) = ((i + 1 : Nat) : Int) + 1 by rw [wrapi (by omega) (by omega)]; simp]
    generalize hbe : lblock h q ((i : Int) + 1) = bs at *
    generalize hen : edgesOf h q (upTo i) = es at *
    refine ⟨fun m p k c n w' => ∃ j : Nat, n = j ∧ j ≤ bs.length ∧ m = bs.length - j ∧ k = (es ++ (bs.take j).map fun b => ((i : Int) + 1, b)).length ∧ OwnZ w' B 2 p k c ((es ++ (bs.take j).map fun b => ((i : Int) + 1, b)).flatMap ecell) ∧ Fr [] w w' ∧ w14.heap.size ≤ w'.heap.size ∧ Row w' p15 (bs.map I64) ∧ ne2 p p15, bs.length, ⟨0, rfl, by omega, rfl, by simp, by simpa using o.fr f14 (fun _ _ => by simp), f.trans' f14, by omega, r15, fun a ha a' ha' => ?_⟩, ?_⟩
    · have := (a15 a' ha').1; have := (o.lt ha).2; omega
    rintro m p21 k22 c23 n w25 ⟨j, rfl, hj, rfl, rfl, o25, f25, z25, r25, d25⟩
    have hlen : (es ++ (bs.take j).map fun b => ((i : Int) + 1, b)).length = es.length + j := by simp; omega
    refine bc (fun hlt2 => ?_) fun hge2 => ?_
    · have hlt2 : (j : Int) < (bs.length : Int) := of_decide_eq_true hlt2
      have hlt2' : j < bs.length := by omega
      refine rd kenc r25 rfl hlt2' hlt2 fun k29 => ?_
      refine app1 (x := ((i : Int) + 1, bs[j])) (f := ecell) flatE (u := w) (B := B) o25 f25 rfl hB (by omega) (fun h => by cases h) (by simp) (fun ad hp => by have := o25.lt hp; simp; omega) (by rw [hlen]; omega) (by rw [hlen]; omega) fun w30 p31 c33 F30 G30 n30 o30 d30 => ?_
      have z30 := G30.size
      have e : (es ++ (bs.take (j + 1)).map fun b => ((i : Int) + 1, b)) = (es ++ (bs.take j).map fun b => ((i : Int) + 1, b)) ++ [((i : Int) + 1, bs[j])] := by rw [take_snoc hlt2', List.map_append, List.map_singleton, List.append_assoc]
      refine ⟨bs.length - (j + 1), by omega, j + 1, by rw [wrapi (by omega) (by omega)]; simp, by omega, rfl, by rw [e], by rw [e]; exact o30, F30, by omega, r25.fr G30 (fun a ha => ?_), fun a ha a' ha' => ?_⟩
      · rw [List.nil_append, g_mem_pb]; rintro ⟨a', h1, h2⟩; exact d25 a' h1 a ha h2.symm
      · rcases d30 a ha with h1 | h1
        · exact d25 a h1 a' ha'
        · have := (a15 a' ha').2; omega
    · have hge2 : ¬ (j : Int) < (bs.length : Int) := of_decide_eq_false hge2
      rw [List.take_of_length_le (by omega), ← ene] at o25 ⊢
      exact ⟨16 - (i + 1), by omega, i + 1, B, rfl, by omega, rfl, rfl, o25, f25, hB, hk1, by omega⟩
  · have hge : ¬ (i : Int) + 1 ≤ 16 := of_decide_eq_false hge
    have : i = 16 := by omega
    subst this
    exact ⟨f, p7, c9, rfl, o.row⟩

/-- The table's Edges. -/
theorem edges_c {w : World} {own : List Nat} {tb mi mw : Nat} {ib : Int → Option IB} {N : Nat} {W : Int → Option Int} {M : Int → IM} (t : TabAt w own tb mi mw ib N W M) (ok : TOk W M) {h q : List LK} (r : RT h q M) (hl : h.length + q.length ≤ 10000) :
    Calls prog 21 #[D tb] w fun e w' => Fr [] w w' ∧ ∃ p c, e = .returned (.slice p (edgesOf h q (upTo 16)).length c) ∧ Row w' p ((edgesOf h q (upTo 16)).flatMap ecell) := by
  obtain ⟨lw, gw, gl, gr⟩ := t.waits
  have hnd := gw.nodup
  have hll : lw.length ≤ 16 := by
    have := len16 (lw.map (·.1)) hnd (fun x hx => by
      obtain ⟨p, hp, rfl⟩ := List.mem_map.1 hx
      exact gr p hp)
    simpa using this
  have hmem : ∀ s, s ∈ lw.map (·.1) ↔ (W s).isSome = true := fun s => by
    have := gl s
    constructor
    · intro hs
      obtain ⟨p, hp, rfl⟩ := List.mem_map.1 hs
      rw [look_of_mem hnd hp] at this
      cases hw : W p.1 with
      | none => rw [hw] at this; cases this
      | some i => rfl
    · intro hs
      cases hw : W s with
      | none => rw [hw] at hs; cases hs
      | some i =>
        rw [hw] at this
        exact List.mem_map.2 ⟨_, look_mem this, rfl⟩
  have hsort : sortI (lw.map (·.1)) = (upTo 16).filter fun s => (W s).isSome := lt_ext (K_lt hnd) (List.Pairwise.filter _ (by unfold upTo; exact List.pairwise_map.2 (List.Pairwise.imp (fun h => by omega) (List.pairwise_lt_range (n := 16))))) fun s => by
    rw [(sortI_perm _).mem_iff, List.mem_filter, hmem]
    refine ⟨fun hs => ⟨?_, hs⟩, fun h => h.2⟩
    cases hw : W s with
    | none => rw [hw] at hs; cases hs
    | some i =>
      obtain ⟨al, hm⟩ := (ok.one s i).1 hw
      have := ok.rq i _ hm
      simp only [upTo, List.mem_map, List.mem_range]
      exact ⟨(s - 1).toNat, by omega, by omega⟩
  have hedge : edgesOf h q (sortI (lw.map (·.1))) = edgesOf h q (upTo 16) := by
    rw [hsort]
    generalize upTo 16 = U
    induction U with
    | nil => rfl
    | cons s U ih =>
      have e : edgesOf h q (s :: U) = (lblock h q s).map (fun b => (s, b)) ++ edgesOf h q U := rfl
      rw [List.filter_cons, e, ← ih]
      split
      · rfl
      · rename_i hs
        have : W s = none := by cases hw : W s with
          | none => rfl
          | some i => rw [hw] at hs; exact absurd rfl hs
        rw [lblock_none h (by rw [← r.waits ok, this])]; rfl
  rw [← hedge]
  refine lock_Table_Edges.link ⟨some mw, t.c1, (keysW_c gw (fun p hp => by have := gr p hp; unfold inR; omega) (by omega)).mono ?_⟩
  rintro e2 w3 ⟨x4, rfl, f3, hc⟩
  refine ⟨x4, rfl, hc.mono ?_⟩
  rintro e5 w6 ⟨p7, c9, rfl, f6, r7, a7⟩
  have hkl : lw.length = (sortI (lw.map (·.1))).length := by rw [(sortI_perm _).length_eq, List.length_map]
  rw [hkl]
  have hKl : (sortI (lw.map (·.1))).length ≤ 16 := by omega
  clear hsort hedge hkl hmem gl gr hll hnd
  generalize hKe : sortI (lw.map (·.1)) = K at *
  have F6 : Fr [] w w6 := f6
  refine ⟨p7, _, c9, rfl, fun m p k c n w' => ∃ i : Nat, n = i ∧ i ≤ K.length ∧ m = K.length - i ∧ k = (edgesOf h q (K.take i)).length ∧ OwnZ w' w6.heap.size 2 p k c ((edgesOf h q (K.take i)).flatMap ecell) ∧ Fr [] w w' ∧ w6.heap.size ≤ w'.heap.size ∧ Row w' p7 (K.map kenc), K.length, ⟨0, rfl, by omega, rfl, rfl, by simpa [edgesOf] using OwnZ.nil w6 w6.heap.size 2, F6, by omega, r7⟩, ?_⟩
  rintro m p13 k14 c15 n w17 ⟨i, rfl, hi, rfl, rfl, o, f, z17, r17⟩
  refine bc (fun hlt => ?_) fun hge => ?_
  · have hlt : (i : Int) < (K.length : Int) := of_decide_eq_true hlt
    have hlt' : i < K.length := by omega
    refine rd kenc r17 rfl hlt' hlt ((blockers_n (t.fr f (fun _ _ => by simp)) ok K[i]).mono ?_)
    rintro e21 w22 ⟨f22, hb⟩
    have z22 := f22.size
    have hel : (edgesOf h q (K.take i)).length ≤ 16 * 10000 := by
      have := edgesOf_len h q (K.take i)
      have hu : (K.take i).length ≤ 16 := by simp; omega
      exact Nat.le_trans this (Nat.mul_le_mul hu hl)
    have hbl := lblock_len h q K[i]
    obtain ⟨p23, c25, rfl, r23, a23⟩ : ∃ p c, e21 = .returned (.slice p (lblock h q K[i]).length c) ∧ Row w22 p ((lblock h q K[i]).map I64) ∧ (∀ ad, p = some ad → w17.heap.size ≤ ad.block) := by
      rcases hb with ⟨hw, rfl⟩ | ⟨it, al, p, c, l, hw, hm, rfl, hr, hp, hx, ha⟩
      · have e := lblock_none h (q := q) (s := K[i]) (by rw [← r.waits ok, hw])
        exact ⟨none, 0, by rw [e]; rfl, by rw [e]; exact Row.nil _ _, fun _ h => (by cases h)⟩
      · have e := lblock_R r ok hw hm hp hx
        rw [← e]
        exact ⟨p, c, rfl, hr, ha⟩
    have ene : edgesOf h q (K.take (i + 1)) = edgesOf h q (K.take i) ++ (lblock h q K[i]).map fun b => (K[i], b) := by rw [take_snoc hlt', edgesOf_snoc]
    refine ⟨p23, _, c25, rfl, ?_⟩
    rw [show (IntKind.wrap .i64 ((i : Int) + 1)) = ((i + 1 : Nat) : Int) by rw [wrapi (by omega) (by omega)]; simp]
    have hki : K[i] = K[i] := rfl
    generalize K[i] = ki at *
    generalize hbe : lblock h q ki = bs at *
    generalize hen : edgesOf h q (K.take i) = es at *
    refine ⟨fun m p k c n w' => ∃ j : Nat, n = j ∧ j ≤ bs.length ∧ m = bs.length - j ∧ k = (es ++ (bs.take j).map fun b => (ki, b)).length ∧ OwnZ w' w6.heap.size 2 p k c ((es ++ (bs.take j).map fun b => (ki, b)).flatMap ecell) ∧ Fr [] w w' ∧ w22.heap.size ≤ w'.heap.size ∧ Row w' p23 (bs.map I64) ∧ ne2 p p23 ∧ Row w' p7 (K.map kenc), bs.length, ⟨0, rfl, by omega, rfl, by simp, by simpa using o.fr f22 (fun _ _ => by simp), f.trans' f22, by omega, r23, fun a ha a' ha' => ?_, r17.old f22⟩, ?_⟩
    · have := a23 a' ha'; have := (o.lt ha).2; omega
    rintro m p29 k30 c31 n w33 ⟨j, rfl, hj, rfl, rfl, o33, f33, z33, r33, d33, r33'⟩
    have hlen : (es ++ (bs.take j).map fun b => (ki, b)).length = es.length + j := by simp; omega
    refine bc (fun hlt2 => ?_) fun hge2 => ?_
    · have hlt2 : (j : Int) < (bs.length : Int) := of_decide_eq_true hlt2
      have hlt2' : j < bs.length := by omega
      refine rd kenc r33 rfl hlt2' hlt2 fun k37 => ?_
      refine app1 (x := (ki, bs[j])) (f := ecell) flatE (u := w) (B := w6.heap.size) o33 f33 rfl F6.size (by omega) (fun h => by cases h) (by simp) (fun ad hp => by have := o33.lt hp; simp) (by rw [hlen]; omega) (by rw [hlen]; omega) fun w38 p39 c41 F38 G38 n38 o38 d38 => ?_
      have z38 := G38.size
      have e : (es ++ (bs.take (j + 1)).map fun b => (ki, b)) = (es ++ (bs.take j).map fun b => (ki, b)) ++ [(ki, bs[j])] := by rw [take_snoc hlt2', List.map_append, List.map_singleton, List.append_assoc]
      have b23 := r33.blk_lt (by rw [List.length_map]; omega)
      refine ⟨bs.length - (j + 1), by omega, j + 1, by rw [wrapi (by omega) (by omega)]; simp, by omega, rfl, by rw [e], by rw [e]; exact o38, F38, by omega, r33.fr G38 (fun a ha => ?_), fun a ha a' ha' => ?_, r33'.fr G38 (fun a ha => ?_)⟩
      · rw [List.nil_append, g_mem_pb]; rintro ⟨a', h1, h2⟩; exact d33 a' h1 a ha h2.symm
      · rcases d38 a ha with h1 | h1
        · exact d33 a h1 a' ha'
        · have := b23 a' ha'; omega
      · have := r7.blk_lt (by rw [List.length_map]; omega) a ha
        rw [List.nil_append, g_mem_pb]; rintro ⟨a', h1, h2⟩
        have := (o33.lt h1).1
        omega
    · have hge2 : ¬ (j : Int) < (bs.length : Int) := of_decide_eq_false hge2
      rw [List.take_of_length_le (by omega), ← ene] at o33 ⊢
      exact ⟨K.length - (i + 1), by omega, i + 1, rfl, by omega, rfl, rfl, o33, f33, by omega, r33'⟩
  · have hge : ¬ (i : Int) < (K.length : Int) := of_decide_eq_false hge
    rw [List.take_of_length_le (by omega)] at o ⊢
    exact ⟨f, p13, c15, rfl, o.row⟩
end Go.Proofs.Ytnimejocaaekaaa.Lock
