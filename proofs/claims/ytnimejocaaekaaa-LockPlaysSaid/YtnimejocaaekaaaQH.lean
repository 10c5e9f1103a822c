/- The locks' reference: Release. -/
import Derived.Test.YtnimejocaaekaaaQG
namespace Go.Proofs.Ytnimejocaaekaaa.Lock
open Go Go.V
open Go.Proofs.Ytnimejocaaekaaa.VC
open Go.Proofs.Try (prog)
set_option linter.unusedVariables false
set_option linter.unusedSimpArgs false
set_option maxRecDepth 20000

theorem lgr_len (i : Int) : ∀ (n : Nat) (h q : List LK), (lgr n h q i).2.length + (lgr n h q i).1.2.length = q.length ∧ (lgr n h q i).1.1.length ≤ h.length + (lgr n h q i).2.length := by
  intro n
  induction n with
  | zero => intro h q; rw [lgr]; simp
  | succ n ih =>
    intro h q
    rw [lgr]
    cases hf : q.find? (onI i) with
    | none => simp
    | some l =>
      simp only
      split
      · have hm : l ∈ q := List.mem_of_find?_eq_some hf
        have e : (q.eraseP (onI i)).length = q.length - 1 := List.length_eraseP_of_mem hm (List.find?_some hf)
        have := ih (lhold h l) (q.eraseP (onI i))
        have h1 := lhold_len h l
        have h2 := List.length_pos_of_mem hm
        simp only [List.length_cons]; omega
      · simp
theorem lrun_len (items : List Int) : ∀ x : LR, (items.foldl lrun x).2.length + (items.foldl lrun x).1.2.length = x.2.length + x.1.2.length ∧ (items.foldl lrun x).1.1.length + (items.foldl lrun x).1.2.length ≤ x.1.1.length + x.1.2.length := by
  induction items with
  | nil => intro x; simp
  | cons i items ih =>
    intro x
    rw [List.foldl_cons]
    have := ih (lrun x i)
    have h := lgr_len i x.1.2.length x.1.1 x.1.2
    unfold lrun at this ⊢
    simp only [List.length_append] at this ⊢
    omega
theorem risL_len (l : List Int) (n : Int) : (risL l n).length ≤ 2 * l.length + 1 := by
  unfold risL
  have := rst_len n l
  split
  · omega
  · split
    · omega
    · simp; omega
theorem risL_pos (l : List Int) (n : Int) : 0 < (risL l n).length := by
  unfold risL
  split
  · rename_i h; exact List.length_pos_of_mem h
  · split
    · rename_i h
      cases hl : l with
      | nil => rw [hl] at h; simp [rst] at h
      | cons a l' =>
        have : ∀ (l : List Int) (r : List Int × Bool), r.1.length + l.length ≤ (l.foldl (rstep n) r).1.length := by
          intro l
          induction l with
          | nil => intro r; simp
          | cons x l ih =>
            intro r
            rw [List.foldl_cons]
            have := ih (rstep n r x)
            have h2 : r.1.length + 1 ≤ (rstep n r x).1.length := by unfold rstep; split <;> simp
            rw [List.length_cons]; omega
        have := this (a :: l') ([], false)
        unfold rst; simp at this ⊢; omega
    · simp
theorem risAll_len (ns : List Int) (hn : ∀ l : List Int, l.Pairwise (· < ·) → ∀ n, (risL l n).length ≤ l.length + 1) : ∀ {l : List Int}, l.Pairwise (· < ·) → (risAll l ns).length ≤ l.length + ns.length := by
  induction ns with
  | nil => intro l _; simp [risAll]
  | cons n ns ih =>
    intro l hl
    have h1 := hn l hl n
    have h2 := ih (l := risL l n) (risL_spec hl n).1
    show (risAll (risL l n) ns).length ≤ _
    rw [List.length_cons]; omega
theorem risL_len1 {l : List Int} (hl : l.Pairwise (· < ·)) (n : Int) : (risL l n).length ≤ l.length + 1 := by
  unfold risL
  split
  · omega
  · rename_i hn
    have key : ∀ (l : List Int), (rst n l).1.length ≤ l.length + (if (rst n l).2 = true then 1 else 0) := fun l => by
      refine snoc_ind (P := fun l => (rst n l).1.length ≤ l.length + (if (rst n l).2 = true then 1 else 0)) (by simp [rst]) (fun l x ih => ?_) l
      rw [rst_snoc]
      unfold rstep
      cases hd : (rst n l).2 with
      | true => rw [hd] at ih; simp at ih ⊢; omega
      | false =>
        rw [hd] at ih
        simp only [Bool.false_eq_true, if_false, Nat.add_zero] at ih
        split <;> simp <;> omega
    have := key l
    split
    · rename_i h; rw [h] at this; simpa using this
    · rename_i h
      have h : (rst n l).2 = false := by simpa using h
      rw [h] at this
      simp at this ⊢; omega

set_option maxHeartbeats 2000000 in
theorem rrel_c {w : World} {hA : Option Addr} {hC : Nat} {qA : Option Addr} {qC : Nat} {h q : List LK} (hh : Row w hA (lcells h)) (hq : Row w qA (lcells q)) (bA : lowA w hA) (bQ : lowA w qA) (hqc : q.length ≤ qC) (hl : h.length + q.length ≤ 40000) (s : Int) :
    Calls prog 17 #[.agg #[.slice hA h.length hC, .slice qA q.length qC], I64 s] w fun e w' => Fr [] w w' ∧ ((s < 1 ∨ 16 < s) → e = .returned (.tuple #[.agg #[.slice hA h.length hC, .slice qA q.length qC], .slice none 0 0, I64 1])) ∧
      (¬ (s < 1 ∨ 16 < s) → ∃ p1 c1 p2 c2 p3 c3, e = .returned (.tuple #[tabV p1 c1 p2 c2 (lrel h q s).1, .slice p3 (lrel h q s).2.length c3, I64 0]) ∧ TabR w w' hA qA (lrel h q s).1 p1 p2 c2 ∧ Row w' p3 ((lrel h q s).2.map I64) ∧ ∀ ad, p3 = some ad → w.heap.size ≤ ad.block) := by
  refine rhizomeref16_Release.link fun k1 k2 y3 hy3 => ?_
  suffices main : ∀ w5, Step w w5 [] [k2, k1] → ((s < 1 ∨ 16 < s) → y3 true w5) ∧ (¬ (s < 1 ∨ 16 < s) → y3 false w5) by
    refine bc (fun h1 w' st => (main w' st).1 (.inl (of_decide_eq_true h1))) fun h1 w' st => ?_
    have h1 := of_decide_eq_false h1
    cases h2 : decide ((16 : Int) < s) with
    | true => exact (main w' st).1 (.inr (of_decide_eq_true h2))
    | false => exact (main w' st).2 (by have := of_decide_eq_false h2; omega)
  intro w5 st5
  have n5 := g_new2 st5
  refine ⟨fun hs => hy3 _ _ (bT rfl fun w6 s6 => ⟨st5.fr.trans s6.fr (fun x hx => .inr (by rw [List.mem_singleton.1 hx]; omega)), fun _ => rfl, fun h => absurd hs h⟩), fun hs => hy3 _ _ (bF rfl ?_)⟩
  clear hy3
  have fin : ∀ (w' : World) (p1 : Option Addr) (c1 : Nat) (p2 : Option Addr) (c2 : Nat) (p3 : Option Addr) (c3 : Nat), Fr [] w w' → TabR w w' hA qA (lrel h q s).1 p1 p2 c2 → Row w' p3 ((lrel h q s).2.map I64) → (∀ ad, p3 = some ad → w.heap.size ≤ ad.block) →
      Fr [] w w' ∧ ((s < 1 ∨ 16 < s) → Ending.returned (.tuple #[tabV p1 c1 p2 c2 (lrel h q s).1, .slice p3 (lrel h q s).2.length c3, I64 0]) = .returned (.tuple #[.agg #[.slice hA h.length hC, .slice qA q.length qC], .slice none 0 0, I64 1])) ∧
      (¬ (s < 1 ∨ 16 < s) → ∃ p1' c1' p2' c2' p3' c3', Ending.returned (.tuple #[tabV p1 c1 p2 c2 (lrel h q s).1, .slice p3 (lrel h q s).2.length c3, I64 0]) = .returned (.tuple #[tabV p1' c1' p2' c2' (lrel h q s).1, .slice p3' (lrel h q s).2.length c3', I64 0]) ∧ TabR w w' hA qA (lrel h q s).1 p1' p2' c2' ∧ Row w' p3' ((lrel h q s).2.map I64) ∧ ∀ ad, p3' = some ad → w.heap.size ≤ ad.block) :=
    fun w' p1 c1 p2 c2 p3 c3 F t r n => ⟨F, fun h => absurd h hs, fun _ => ⟨p1, c1, p2, c2, p3, c3, rfl, t, r, n⟩⟩
  have f5 : Fr [] w w5 := st5.fr
  -- the rows of what is left, and the items
  let hs1 : Nat → List LK := fun i => (h.take i).filter fun a => !isS s a
  let it1 : Nat → List Int := fun i => risAll [] (((h.take i).filter (isS s)).map (·.item))
  refine ⟨fun m p k c pi ki ci n w' => ∃ i : Nat, n = i ∧ i ≤ h.length ∧ m = h.length - i ∧ k = (hs1 i).length ∧ ki = (it1 i).length ∧ OwnZ w' w5.heap.size 3 p (hs1 i).length c (lcells (hs1 i)) ∧ Row w' pi ((it1 i).map I64) ∧ Fr [] w5 w' ∧ ne2 p pi ∧ lowA w' pi ∧ (∀ ad, pi = some ad → w5.heap.size ≤ ad.block) ∧ (it1 i).length ≤ i, h.length, ⟨0, rfl, by omega, rfl, by simp [hs1], by simp [it1, risAll], by simpa [hs1, lcells] using OwnZ.nil w5 w5.heap.size 3, by simpa [it1, risAll] using Row.nil w5 none, Fr.refl _ _, fun _ h => (by cases h), fun _ h => (by cases h), fun _ h => (by cases h), by simp [it1, risAll]⟩, ?_⟩
  rintro m p11 k12 c13 p14 k15 c16 n w18 ⟨i, rfl, hi, rfl, rfl, rfl, o, ri, f18, d18, b18, g18, hil⟩
  have z18 := f18.size
  have ihl : (hs1 i).length ≤ i := by
    have := List.length_filter_le (fun a => !isS s a) (h.take i)
    rw [List.length_take] at this
    show ((h.take i).filter fun a => !isS s a).length ≤ i
    omega
  refine bc (fun hlt y20 hy20 => ?_) fun hge => ?_
  · have hlt : (i : Int) < (h.length : Int) := of_decide_eq_true hlt
    have hlt' : i < h.length := by omega
    have e0 : (i : Int).toNat * 3 = i * 3 := by omega
    obtain ⟨ad, hp, c0, c1, c2⟩ := lread (hh.old (f5.trans' f18)) hlt'
    have es : (h.take (i + 1)).filter (isS s) = (h.take i).filter (isS s) ++ if isS s h[i] = true then [h[i]] else [] := by rw [take_snoc hlt', List.filter_append, List.filter_cons]; rfl
    have en : hs1 (i + 1) = hs1 i ++ if isS s h[i] = true then [] else [h[i]] := by
      show (h.take (i + 1)).filter (fun a => !isS s a) = _
      rw [take_snoc hlt', List.filter_append, List.filter_cons]
      cases isS s h[i] <;> simp [hs1]
    have next : ∀ p c pi ci w', OwnZ w' w5.heap.size 3 p (hs1 (i + 1)).length c (lcells (hs1 (i + 1))) → Row w' pi ((it1 (i + 1)).map I64) → Fr [] w5 w' → ne2 p pi → lowA w' pi → (∀ ad, pi = some ad → w5.heap.size ≤ ad.block) → (it1 (i + 1)).length ≤ i + 1 → y20 p (hs1 (i + 1)).length c pi (it1 (i + 1)).length ci w' :=
      fun p c pi ci w' h1 h2 h3 h4 h5 h6 h7 => hy20 _ _ _ _ _ _ _ ⟨h.length - (i + 1), by omega, i + 1, by rw [wrapi (by omega) (by omega)]; simp, by omega, rfl, rfl, rfl, h1, h2, h3, h4, h5, h6, h7⟩
    refine ⟨ad, hp, ⟨by omega, hlt⟩, _, by rw [e0]; exact c0, bc (fun ht => ⟨ad, hp, ⟨by omega, hlt⟩, _, by rw [e0]; exact c1, ?_⟩) fun hf => ⟨ad, hp, ⟨by omega, hlt⟩, _, _, _, ⟨by rw [e0]; exact c0, by rw [e0]; exact c1, by rw [e0]; exact c2, trivial⟩, fun k44 => ?_⟩⟩
    · have hS : isS s h[i] = true := ht
      rw [if_pos hS] at es en
      rw [List.append_nil] at en
      have ei : it1 (i + 1) = risL (it1 i) h[i].item := by
        show risAll [] (((h.take (i + 1)).filter (isS s)).map (·.item)) = _
        rw [es, List.map_append, List.map_singleton, risAll_snoc]
      refine (rising_c ri (by omega) h[i].item).mono ?_
      rintro e35 w36 ⟨f36, p37, c39, rfl, r37, hp37⟩
      have z36 := f36.size
      have hlow := r37.blk_lt (by rw [List.length_map]; exact risL_pos _ _)
      have hsp : (it1 i).Pairwise (· < ·) := (risAll_spec _ List.Pairwise.nil).1
      have hlen := risL_len1 hsp h[i].item
      refine ⟨p37, _, c39, rfl, keepF f36 (by simp; omega), ?_⟩
      rw [← ei] at r37 hlen ⊢
      rw [show (hs1 i).length = (hs1 (i + 1)).length by rw [en]]
      refine next _ _ _ _ _ (by rw [en]; exact o.fr f36 (fun _ _ => by simp)) r37 (f18.trans' f36) (fun a ha a' ha' => ?_) hlow (fun a ha => ?_) (by omega)
      · rcases hp37 with rfl | h1
        · exact d18 a ha a' ha'
        · have := h1 a' ha'; have := (o.lt ha).2; omega
      · rcases hp37 with rfl | h1
        · exact g18 a ha
        · have := h1 a ha; omega
    · have hS : isS s h[i] = false := hf
      rw [if_neg (by rw [hS]; simp)] at es en
      have ei : it1 (i + 1) = it1 i := by
        show risAll [] (((h.take (i + 1)).filter (isS s)).map (·.item)) = _
        rw [es, List.append_nil]
      refine app1 (x := h[i]) (f := lcell1) flatL (u := w5) (B := w5.heap.size) o f18 rfl (Nat.le_refl _) (by omega) (fun h => by cases h) (by simp) (fun ad hp => by have := o.lt hp; simp; omega) (by omega) (by omega) fun w45 p46 c48 F45 G45 n45 o45 d45 => ?_
      have z45 := n45 k44 (by simp)
      rw [← en] at o45 ⊢
      rw [← ei]
      refine next _ _ _ _ _ o45 ?_ F45 (fun a ha a' ha' => ?_) (fun a ha => ?_) g18 (by rw [ei]; omega)
      · rw [ei]
        exact ri.fr G45 (fun a ha => by rw [List.nil_append, g_mem_pb]; rintro ⟨a', h1, h2⟩; exact d18 a' h1 a ha h2.symm)
      · have := b18 a' ha'
        rcases d45 a ha with h1 | h1
        · exact d18 a h1 a' ha'
        · omega
      · have := b18 a ha; omega
  have hge : ¬ (i : Int) < (h.length : Int) := of_decide_eq_false hge
  have hi2 : i = h.length := by omega
  subst hi2
  have ehs : hs1 h.length = h.filter fun a => !isS s a := by show (h.take h.length).filter _ = _; rw [List.take_length]
  have eit : it1 h.length = risAll [] ((h.filter (isS s)).map (·.item)) := by show risAll [] (((h.take h.length).filter (isS s)).map (·.item)) = _; rw [List.take_length]
  clear_value hs1 it1
  generalize hs1 h.length = h1 at *
  generalize it1 h.length = t1 at *
  let qs1 : Nat → List LK := fun i => (q.take i).filter fun a => !isS s a
  let it2 : Nat → List Int := fun i => risAll t1 (((q.take i).filter (isS s)).map (·.item))
  have hsp1 : t1.Pairwise (· < ·) := by rw [eit]; exact (risAll_spec _ List.Pairwise.nil).1
  refine ⟨fun m p k c pi ki ci n w' => ∃ i : Nat, n = i ∧ i ≤ q.length ∧ m = q.length - i ∧ k = (qs1 i).length ∧ ki = (it2 i).length ∧ OwnZ w' w18.heap.size 3 p (qs1 i).length c (lcells (qs1 i)) ∧ Row w' pi ((it2 i).map I64) ∧ Fr [] w18 w' ∧ ne2 p pi ∧ lowA w' pi ∧ (∀ ad, pi = some ad → w5.heap.size ≤ ad.block) ∧ (it2 i).length ≤ h.length + i, q.length, ⟨0, rfl, by omega, rfl, by simp [qs1], by simp [it2, risAll], by simpa [qs1, lcells] using OwnZ.nil w18 w18.heap.size 3, by simpa [it2, risAll] using ri, Fr.refl _ _, fun _ h => (by cases h), b18, g18, by simpa [it2, risAll] using hil⟩, ?_⟩
  rintro m p52 k53 c54 p55 k56 c57 n w59 ⟨j, rfl, hj, rfl, rfl, rfl, o2, ri2, f59, d59, b59, g59, hil2⟩
  have z59 := f59.size
  have f59' : Fr [] w5 w59 := f18.trans' f59
  have ihl2 : (qs1 j).length ≤ j := by
    have := List.length_filter_le (fun a => !isS s a) (q.take j)
    rw [List.length_take] at this
    show ((q.take j).filter fun a => !isS s a).length ≤ j
    omega
  refine bc (fun hlt y61 hy61 => ?_) fun hge2 => ?_
  · have hlt : (j : Int) < (q.length : Int) := of_decide_eq_true hlt
    have hlt' : j < q.length := by omega
    have e0 : (j : Int).toNat * 3 = j * 3 := by omega
    obtain ⟨ad, hp, c0, c1, c2⟩ := lread (hq.old (f5.trans' f59')) hlt'
    have es : (q.take (j + 1)).filter (isS s) = (q.take j).filter (isS s) ++ if isS s q[j] = true then [q[j]] else [] := by rw [take_snoc hlt', List.filter_append, List.filter_cons]; rfl
    have en : qs1 (j + 1) = qs1 j ++ if isS s q[j] = true then [] else [q[j]] := by
      show (q.take (j + 1)).filter (fun a => !isS s a) = _
      rw [take_snoc hlt', List.filter_append, List.filter_cons]
      cases isS s q[j] <;> simp [qs1]
    have next : ∀ p c pi ci w', OwnZ w' w18.heap.size 3 p (qs1 (j + 1)).length c (lcells (qs1 (j + 1))) → Row w' pi ((it2 (j + 1)).map I64) → Fr [] w18 w' → ne2 p pi → lowA w' pi → (∀ ad, pi = some ad → w5.heap.size ≤ ad.block) → (it2 (j + 1)).length ≤ h.length + (j + 1) → y61 p (qs1 (j + 1)).length c pi (it2 (j + 1)).length ci w' :=
      fun p c pi ci w' h1 h2 h3 h4 h5 h6 h7 => hy61 _ _ _ _ _ _ _ ⟨q.length - (j + 1), by omega, j + 1, by rw [wrapi (by omega) (by omega)]; simp, by omega, rfl, rfl, rfl, h1, h2, h3, h4, h5, h6, h7⟩
    refine ⟨ad, hp, ⟨by omega, hlt⟩, _, by rw [e0]; exact c0, bc (fun ht => ⟨ad, hp, ⟨by omega, hlt⟩, _, by rw [e0]; exact c1, ?_⟩) fun hf => ⟨ad, hp, ⟨by omega, hlt⟩, _, _, _, ⟨by rw [e0]; exact c0, by rw [e0]; exact c1, by rw [e0]; exact c2, trivial⟩, fun k44 => ?_⟩⟩
    · have hS : isS s q[j] = true := ht
      rw [if_pos hS] at es en
      rw [List.append_nil] at en
      have ei : it2 (j + 1) = risL (it2 j) q[j].item := by
        show risAll t1 (((q.take (j + 1)).filter (isS s)).map (·.item)) = _
        rw [es, List.map_append, List.map_singleton, risAll_snoc]
      refine (rising_c ri2 (by omega) q[j].item).mono ?_
      rintro e35 w36 ⟨f36, p37, c39, rfl, r37, hp37⟩
      have z36 := f36.size
      have hlow := r37.blk_lt (by rw [List.length_map]; exact risL_pos _ _)
      have hsp : (it2 j).Pairwise (· < ·) := (risAll_spec _ hsp1).1
      have hlen := risL_len1 hsp q[j].item
      refine ⟨p37, _, c39, rfl, keepF f36 (by simp; omega), ?_⟩
      rw [← ei] at r37 hlen ⊢
      rw [show (qs1 j).length = (qs1 (j + 1)).length by rw [en]]
      refine next _ _ _ _ _ (by rw [en]; exact o2.fr f36 (fun _ _ => by simp)) r37 (f59.trans' f36) (fun a ha a' ha' => ?_) hlow (fun a ha => ?_) (by omega)
      · rcases hp37 with rfl | h1
        · exact d59 a ha a' ha'
        · have := h1 a' ha'; have := (o2.lt ha).2; omega
      · rcases hp37 with rfl | h1
        · exact g59 a ha
        · have := h1 a ha; omega
    · have hS : isS s q[j] = false := hf
      rw [if_neg (by rw [hS]; simp)] at es en
      have ei : it2 (j + 1) = it2 j := by
        show risAll t1 (((q.take (j + 1)).filter (isS s)).map (·.item)) = _
        rw [es, List.append_nil]
      refine app1 (x := q[j]) (f := lcell1) flatL (u := w18) (B := w18.heap.size) o2 f59 rfl (Nat.le_refl _) (by omega) (fun h => by cases h) (by simp) (fun ad hp => by have := o2.lt hp; simp; omega) (by omega) (by omega) fun w45 p46 c48 F45 G45 n45 o45 d45 => ?_
      have z45 := n45 k44 (by simp)
      rw [← en] at o45 ⊢
      rw [← ei]
      refine next _ _ _ _ _ o45 ?_ F45 (fun a ha a' ha' => ?_) (fun a ha => ?_) g59 (by rw [ei]; omega)
      · rw [ei]
        exact ri2.fr G45 (fun a ha => by rw [List.nil_append, g_mem_pb]; rintro ⟨a', h1, h2⟩; exact d59 a' h1 a ha h2.symm)
      · have := b59 a' ha'
        rcases d45 a ha with h1 | h1
        · exact d59 a h1 a' ha'
        · omega
      · have := b59 a ha; omega
  have hge2 : ¬ (j : Int) < (q.length : Int) := of_decide_eq_false hge2
  have hj2 : j = q.length := by omega
  subst hj2
  have eqs : qs1 q.length = q.filter fun a => !isS s a := by show (q.take q.length).filter _ = _; rw [List.take_length]
  have eit2 : it2 q.length = ritems h q s := by show risAll t1 (((q.take q.length).filter (isS s)).map (·.item)) = _; rw [List.take_length, eit]; rfl
  clear_value qs1 it2
  generalize qs1 q.length = q1 at *
  generalize it2 q.length = t2 at *
  have o1 : OwnZ w59 w5.heap.size 3 p11 h1.length c13 (lcells h1) := o.fr f59 (fun _ _ => by simp)
  have elr : lrel h q s = t2.foldl lrun ((h1, q1), []) := by unfold lrel; rw [eit2, ehs, eqs]
  have hlen0 : h1.length + q1.length ≤ 40000 := by omega
  clear o ri d18 b18 g18 hil
  refine ⟨fun m p95 k96 c97 n p99 k100 c101 p102 k103 c104 w' => ∃ (i : Nat) (x : LR), n = i ∧ i ≤ t2.length ∧ m = t2.length - i ∧ x = (t2.take i).foldl lrun ((h1, q1), []) ∧ k96 = x.2.length ∧ k100 = x.1.1.length ∧ k103 = x.1.2.length ∧ x.1.2.length ≤ c104 ∧ OwnZ w' w59.heap.size 1 p95 x.2.length c97 (x.2.map I64) ∧ Row w' p99 (lcells x.1.1) ∧ Row w' p102 (lcells x.1.2) ∧ Fr [k1] w59 w' ∧ ne2 p95 p99 ∧ ne2 p95 p102 ∧ (∀ ad, p99 = some ad → w5.heap.size ≤ ad.block ∧ ad.block < w'.heap.size) ∧ (∀ ad, p102 = some ad → w5.heap.size ≤ ad.block ∧ ad.block < w'.heap.size), t2.length, fun w92 s92 => ?_, ?_⟩
  · have z92 := s92.fr.size
    have nb1 : ∀ ad, p11 = some ad → ad.block ∉ [k1] := fun ad hp => by have := (o1.lt hp).1; simp; omega
    have nb2 : ∀ ad, p52 = some ad → ad.block ∉ [k1] := fun ad hp => by have := (o2.lt hp).1; simp; omega
    exact ⟨0, ((h1, q1), []), rfl, by omega, rfl, by simp, rfl, rfl, rfl, o2.2.1, OwnZ.nil _ _ _, (o1.fr s92.fr nb1).row, (o2.fr s92.fr nb2).row, s92.fr, fun _ h => (by cases h), fun _ h => (by cases h), fun ad hp => by have := o1.lt hp; omega, fun ad hp => by have := o2.lt hp; omega⟩
  rintro m p95 k96 c97 n p99 k100 c101 p102 k103 c104 w105 ⟨i, x, rfl, hi, rfl, ex, rfl, rfl, rfl, hcx, o95, r99, r102, f105, d1, d2, g1, g2⟩
  have hx := lrun_len (t2.take i) ((h1, q1), [])
  rw [← ex] at hx
  simp only [List.length_nil, Nat.zero_add] at hx
  have z105 := f105.size
  have F105 : Fr [] w w105 := (f5.trans' f59').trans f105 (fun y hy => .inr (by rw [List.mem_singleton.1 hy]; omega))
  refine bc (fun hlt => ?_) fun hge w130 s130 => ?_
  · have hlt : (i : Int) < (t2.length : Int) := of_decide_eq_true hlt
    have hlt' : i < t2.length := by omega
    refine rd kenc (ri2.fr f105 (fun ad hp => by have := g59 ad hp; simp; omega)) rfl hlt' hlt fun w109 s109 => ?_
    have z109 := s109.fr.size
    have R99 := r99.old s109.fr
    have R102 := r102.old s109.fr
    refine (rgrants_c R99 R102 (fun ad hp => by have := g1 ad hp; omega) (fun ad hp => by have := g2 ad hp; omega) hcx (by omega) t2[i]).mono ?_
    rintro e111 w112 ⟨f112, p113, c113, p116, c116, p119, c119, rfl, r113, r116, hc116, r119, on1, on2, on3, hl1, hl2⟩
    have z112 := f112.size
    have en : lrun x t2[i] = ((lgr x.1.2.length x.1.1 x.1.2 t2[i]).1, x.2 ++ (lgr x.1.2.length x.1.1 x.1.2 t2[i]).2) := rfl
    have ex2 : lrun x t2[i] = (t2.take (i + 1)).foldl lrun ((h1, q1), []) := by rw [take_snoc hlt', List.foldl_append, ← ex]; rfl
    have hx2 := lrun_len (t2.take (i + 1)) ((h1, q1), [])
    rw [← ex2, en] at hx2
    simp only [List.length_nil, Nat.zero_add, List.length_append] at hx2
    have F112 : Fr [] w w112 := (F105.trans' s109.fr).trans' f112
    have G112 : Fr [k1] w59 w112 := (f105.trans s109.fr (fun y hy => by cases hy)).trans f112 (fun y hy => by cases hy)
    have o112 := (o95.fr s109.fr (fun _ _ => by simp)).fr f112 (fun _ _ => by simp)
    refine ⟨p113, _, c113, p116, _, c116, p119, _, c119, rfl, keepF f112 (by simp; omega), _, by rw [List.length_map, Nat.mul_one], r119, fun k hk => ?_, ?_⟩
    · cases hp : p119 with
      | none => rw [hp] at hk; cases hk
      | some ad =>
        rw [hp] at hk; injection hk with hk
        have hk : ad.block = k := hk
        have := (on3 ad hp).1
        rcases this with h2 | h2
        · cases h2
        · simp; omega
    refine appMN (C := I64) (fun _ => rfl) rfl (u := w) (B := w59.heap.size) o112 F112 rfl (by have := (f5.trans' f59').size; omega) (by omega) (fun h => by cases h) (by simp; omega) (fun ad hp => by have := o112.lt hp; simp; omega) (by omega) (by omega) fun w125 p126 c128 F125 G125 _ o125 d125 => ?_
    have z125 := G125.size
    have G2 : Fr [k1] w59 w125 := G112.trans G125 (fun y hy => by
      rcases List.mem_append.1 hy with hy | hy
      · exact .inl hy
      · obtain ⟨ad, hp, rfl⟩ := (g_mem_pb _ _).1 hy
        exact .inr (o112.lt hp).1)
    have in1 : ∀ ad, p113 = some ad → w5.heap.size ≤ ad.block ∧ ad.block < w112.heap.size := fun ad hp => by
      obtain ⟨h3, h4⟩ := on1 ad hp
      rcases h3 with h3 | h3
      · have := g1 ad h3; omega
      · omega
    have in2 : ∀ ad, p116 = some ad → w5.heap.size ≤ ad.block ∧ ad.block < w112.heap.size := fun ad hp => by
      obtain ⟨h3, h4⟩ := on2 ad hp
      rcases h3 with h3 | h3
      · have := g2 ad h3; omega
      · omega
    have dd1 : ne2 p95 p113 := fun a ha a' ha' => by
      rcases (on1 a' ha').1 with h3 | h3
      · exact d1 a ha a' h3
      · have := (o95.lt ha).2; omega
    have dd2 : ne2 p95 p116 := fun a ha a' ha' => by
      rcases (on2 a' ha').1 with h3 | h3
      · exact d2 a ha a' h3
      · have := (o95.lt ha).2; omega
    have nbb : ∀ pp : Option Addr, (∀ ad, pp = some ad → w5.heap.size ≤ ad.block ∧ ad.block < w112.heap.size) → ne2 p95 pp → ∀ ad, pp = some ad → ad.block ∉ [k1] ++ pb p95 := fun pp h3 h4 ad hp => by
      rw [List.mem_append, g_mem_pb]
      rintro (h5 | ⟨a', h5, h6⟩)
      · have := (h3 ad hp).1; rw [List.mem_singleton.1 h5] at this; omega
      · exact h4 a' h5 ad hp h6.symm
    have ndd : ∀ pp : Option Addr, (∀ ad, pp = some ad → w5.heap.size ≤ ad.block ∧ ad.block < w112.heap.size) → ne2 p95 pp → ne2 p126 pp := fun pp h3 h4 a ha a' ha' => by
      rcases d125 a ha with h5 | h5
      · exact h4 a h5 a' ha'
      · have := (h3 a' ha').2; omega
    exact ⟨t2.length - (i + 1), by omega, i + 1, lrun x t2[i], by rw [wrapi (by omega) (by omega)]; simp, by omega, rfl, ex2, rfl, rfl, rfl, hc116, o125, r113.fr G125 (nbb _ in1 dd1), r116.fr G125 (nbb _ in2 dd2), G2, ndd _ in1 dd1, ndd _ in2 dd2, fun ad hp => by have := in1 ad hp; omega, fun ad hp => by have := in2 ad hp; omega⟩
  · have hge : ¬ (i : Int) < (t2.length : Int) := of_decide_eq_false hge
    rw [List.take_of_length_le (by omega), ← elr] at ex
    subst ex
    have z130 := s130.fr.size
    have F130 : Fr [] w w130 := F105.trans s130.fr (fun y hy => .inr (by rw [List.mem_singleton.1 hy]; omega))
    refine fin w130 p99 c101 p102 c104 p95 c97 F130 ⟨r99.fr s130.fr (fun ad hp => by have := g1 ad hp; simp; omega), r102.fr s130.fr (fun ad hp => by have := g2 ad hp; simp; omega), hcx, fun ad hp => ?_, fun ad hp => ?_⟩ (o95.fr s130.fr (fun ad hp => by have := o95.lt hp; simp; omega)).row (fun ad hp => by have := o95.lt hp; have := (f5.trans' f59').size; omega)
    · have := g1 ad hp; exact ⟨.inr (by have := f5.size; omega), by omega⟩
    · have := g2 ad hp; exact ⟨.inr (by have := f5.size; omega), by omega⟩
end Go.Proofs.Ytnimejocaaekaaa.Lock
