/- LockServed: the plain law and the law's own walk. -/
import Derived.Test.YtnimejocaaekaaaQS
import Derived.Test.YtnimejocaaekaaaQW
import Derived.Test.YtnimejocaaekaaaL7
namespace Go.Proofs.Ytnimejocaaekaaa.Lock
open Go Go.V
open Go.Proofs.Ytnimejocaaekaaa.VC
open Go.Proofs.Try (prog)
set_option linter.unusedVariables false
set_option linter.unusedSimpArgs false
set_option maxRecDepth 20000

/-- How many of the first j sessions wait. -/
def cntTo (W : Int → Option Int) (j : Nat) : Nat := ((List.range j).filter fun (n : Nat) => (W ((n : Int) + 1)).isSome).length
theorem cntTo_succ (W : Int → Option Int) (j : Nat) : cntTo W (j + 1) = cntTo W j + if (W ((j : Int) + 1)).isSome then 1 else 0 := by
  unfold cntTo
  rw [List.range_succ, List.filter_append, List.length_append]
  congr 1
  simp only [List.filter_cons, List.filter_nil]
  split <;> rfl
theorem cntTo_le (W : Int → Option Int) (j : Nat) : cntTo W j ≤ j := by
  unfold cntTo
  exact Nat.le_trans (List.length_filter_le _ _) (by simp)
def Clear (j : Nat) (M : Int → IM) : Prop := ∀ s : Int, 1 ≤ s → s ≤ (j : Int) → ∀ i, (M i).H s = none ∧ ∀ al, (s, al) ∉ (M i).Q

section
variable {W : Int → Option Int} {M : Int → IM} {s : Int} {K : List Int}
theorem relM_all (hK : ∀ i, inv M s i → i ∈ K) (i : Int) : relM M s K i = (relI M s i).1 := by
  unfold relM
  split
  · rfl
  · rename_i hn; unfold relI; rw [if_neg (fun h => hn (hK i h))]
theorem took_of (ok : TOk W M) (i t : Int) (h : t ∈ (relI M s i).2) : W t = some i ∧ t ≠ s := by
  obtain ⟨tk, h1, h2, _⟩ := relI_spec ok s i
  rw [h2] at h
  obtain ⟨b, hb, rfl⟩ := List.mem_map.1 h
  have : b ∈ (M i).Q.filter fun a => !decide (a.1 = s) := by rw [h1]; exact List.mem_append_left _ hb
  obtain ⟨h3, h4⟩ := List.mem_filter.1 this
  exact ⟨(ok.one b.1 i).2 ⟨b.2, h3⟩, by simpa using h4⟩
theorem clear_rel (ok : TOk W M) (hK : ∀ i, inv M s i → i ∈ K) {j : Nat} (hj : s = (j : Int) + 1) (hc : Clear j M) : Clear (j + 1) (relM M s K) := by
  intro t h1 h2 i
  rw [relM_all hK]
  obtain ⟨tk, g1, g2, _, g4⟩ := relI_spec ok s i
  have sub : ∀ a ∈ tk ++ (relI M s i).1.Q, a ∈ (M i).Q ∧ a.1 ≠ s := fun a ha => by
    rw [← g1] at ha
    obtain ⟨h3, h4⟩ := List.mem_filter.1 ha
    exact ⟨h3, by simpa using h4⟩
  by_cases ht : t = s
  · refine ⟨?_, fun al hm => (sub _ (List.mem_append_right _ hm)).2 ht⟩
    cases hH : (relI M s i).1.H t with
    | none => rfl
    | some al =>
      rcases g4 t al hH with ⟨_, h⟩ | h
      · exact absurd ht h
      · obtain ⟨b, hb, e⟩ := List.mem_map.1 h
        exact absurd (e.trans ht) (sub b (List.mem_append_left _ hb)).2
  · obtain ⟨c1, c2⟩ := hc t h1 (by omega) i
    refine ⟨?_, fun al hm => c2 al (sub _ (List.mem_append_right _ hm)).1⟩
    cases hH : (relI M s i).1.H t with
    | none => rfl
    | some al =>
      rcases g4 t al hH with ⟨⟨al', h⟩, _⟩ | h
      · rw [c1] at h; cases h
      · obtain ⟨b, hb, e⟩ := List.mem_map.1 h
        have hbm := (sub b (List.mem_append_left _ hb)).1
        exact absurd (by rw [← e]; exact hbm) (c2 b.2)
theorem outs_nodup (ok : TOk W M) (hKn : K.Pairwise (· < ·)) : (outs M s K).Nodup := by
  unfold outs
  refine List.pairwise_flatMap.2 ⟨fun i _ => ?_, hKn.imp fun {i k} hik x hx y hy e => ?_⟩
  · obtain ⟨tk, h1, h2, _⟩ := relI_spec ok s i
    rw [h2]
    have hnd : (((M i).Q.filter fun a => !decide (a.1 = s)).map (·.1)).Nodup := (List.filter_sublist.map _).nodup (ok.nd i)
    rw [h1, List.map_append] at hnd
    exact (List.nodup_append.1 hnd).1
  · have a := (took_of ok i x hx).1
    have b := (took_of ok k y hy).1
    rw [e, b] at a
    have := Option.some.inj a
    omega
theorem cnt_rel (ok : TOk W M) (hKn : K.Pairwise (· < ·)) (hs : 1 ≤ s ∧ s ≤ 16) : cntTo W 16 = cntTo (relW W s (outs M s K)) 16 + (if (W s).isSome then 1 else 0) + (outs M s K).length := by
  have hout : ∀ t ∈ outs M s K, (W t).isSome = true ∧ t ≠ s ∧ 1 ≤ t ∧ t ≤ 16 := fun t ht => by
    obtain ⟨i, _, hi⟩ := List.mem_flatMap.1 ht
    obtain ⟨h1, h2⟩ := took_of ok i t hi
    obtain ⟨al, hm⟩ := (ok.one t i).1 h1
    exact ⟨by rw [h1]; rfl, h2, ok.rq i _ hm⟩
  let P : Nat → Bool := fun n => decide ((n : Int) + 1 = s ∨ (n : Int) + 1 ∈ outs M s K)
  have e1 : (List.range 16).filter (fun (n : Nat) => (relW W s (outs M s K) ((n : Int) + 1)).isSome) = ((List.range 16).filter fun (n : Nat) => (W ((n : Int) + 1)).isSome).filter fun n => !P n := by
    rw [List.filter_filter]
    congr 1
    funext n
    unfold relW
    by_cases h : (n : Int) + 1 = s ∨ (n : Int) + 1 ∈ outs M s K
    · have hP : P n = true := decide_eq_true h
      rw [if_pos h, hP]; rfl
    · have hP : P n = false := decide_eq_false h
      rw [if_neg h, hP]; rfl
  have e2 : ((List.range 16).filter fun (n : Nat) => (W ((n : Int) + 1)).isSome).length = (((List.range 16).filter fun (n : Nat) => (W ((n : Int) + 1)).isSome).filter P).length + (((List.range 16).filter fun (n : Nat) => (W ((n : Int) + 1)).isSome).filter fun n => !P n).length := by
    have := List.length_eq_countP_add_countP P (l := (List.range 16).filter fun (n : Nat) => (W ((n : Int) + 1)).isSome)
    rw [List.countP_eq_length_filter, List.countP_eq_length_filter] at this
    rw [this]
    congr 2
    refine List.filter_congr fun x _ => ?_
    cases P x <;> rfl
  have e3 : ((((List.range 16).filter fun (n : Nat) => (W ((n : Int) + 1)).isSome).filter P).map fun (n : Nat) => (n : Int) + 1).Perm ((if (W s).isSome then [s] else []) ++ outs M s K) := by
    refine (List.perm_ext_iff_of_nodup ?_ ?_).2 fun t => ?_
    · refine List.pairwise_map.2 ((List.nodup_range.sublist (List.filter_sublist.trans List.filter_sublist)).imp fun h e => h (by omega))
    · refine List.nodup_append.2 ⟨by split <;> simp, outs_nodup ok hKn, fun x hx y hy e => ?_⟩
      split at hx
      · rw [List.mem_singleton] at hx
        exact (hout y hy).2.1 (by rw [← e, hx])
      · cases hx
    · rw [List.mem_map, List.mem_append]
      constructor
      · rintro ⟨n, hn, rfl⟩
        obtain ⟨h1, h2⟩ := List.mem_filter.1 hn
        obtain ⟨h3, h4⟩ := List.mem_filter.1 h1
        have h2 := of_decide_eq_true h2
        rcases h2 with h2 | h2
        · left
          rw [h2] at h4
          rw [if_pos h4, h2]; exact List.mem_singleton.2 rfl
        · exact .inr h2
      · intro h
        have ht : (W t).isSome = true ∧ 1 ≤ t ∧ t ≤ 16 ∧ (t = s ∨ t ∈ outs M s K) := by
          rcases h with h | h
          · split at h
            · rename_i hw
              rw [List.mem_singleton] at h
              subst h
              exact ⟨hw, hs.1, hs.2, .inl rfl⟩
            · cases h
          · obtain ⟨h1, _, h3⟩ := hout t h
            exact ⟨h1, h3.1, h3.2, .inr h⟩
        obtain ⟨h1, h2, h3, h4⟩ := ht
        have e : (((t - 1).toNat : Nat) : Int) + 1 = t := by omega
        exact ⟨(t - 1).toNat, List.mem_filter.2 ⟨List.mem_filter.2 ⟨List.mem_range.2 (by omega), by rw [e]; exact h1⟩, decide_eq_true (by rw [e]; exact h4)⟩, e⟩
  have e4 := e3.length_eq
  rw [List.length_map, List.length_append] at e4
  have e5 : (if (W s).isSome = true then [s] else []).length = if (W s).isSome then 1 else 0 := by split <;> rfl
  rw [e5] at e4
  unfold cntTo
  rw [e1, e2, e4]
  omega
theorem clear_W (ok : TOk W M) (hc : Clear 16 M) : ∀ t, W t = none := fun t => by
  cases h : W t with
  | none => rfl
  | some i =>
    obtain ⟨al, hm⟩ := (ok.one t i).1 h
    have := ok.rq i _ hm
    exact absurd hm ((hc t this.1 this.2 i).2 al)
end
theorem cnt_none {W : Int → Option Int} (h : ∀ t, W t = none) : cntTo W 16 = 0 := by
  unfold cntTo
  rw [List.filter_eq_nil_iff.2 (fun n _ => by rw [h]; decide)]; rfl
theorem waits_b {w : World} {own : List Nat} {tb mi mw : Nat} {ib : Int → Option IB} {N : Nat} {W : Int → Option Int} {M : Int → IM} (h : TabAt w own tb mi mw ib N W M) (ok : TOk W M) (s : Int) : Calls prog 14 #[D tb, I64 s] w fun e w' => Fr [] w w' ∧ ∃ n39 b40 b41, e = .returned (.tuple #[I64 n39, .bool b40, .bool b41]) ∧ b41 = (W s).isSome := by
  refine (waits_c h ok s).mono ?_
  rintro e w' ⟨f, hw⟩
  refine ⟨f, ?_⟩
  rcases hw with ⟨h1, rfl⟩ | ⟨j, al, h1, _, rfl⟩
  · exact ⟨_, _, _, rfl, by rw [h1]; rfl⟩
  · exact ⟨_, _, _, rfl, by rw [h1]; rfl⟩

set_option maxHeartbeats 2000000 in
theorem served_walk (w : World) {a : Option Addr} {len cap : Nat} {z : List KOp} (hz : IsKOps w a len z) :
    Calls prog 7 #[.slice a len cap] w fun e w' => e = .returned (.bool true) ∧ RowKit.Below w.heap.size w w' := by
  have below : ∀ w', Fr [] w w' → RowKit.Below w.heap.size w w' := fun w' f => f.below (Nat.le_refl _) (fun x hx => by cases hx)
  refine rhizomelaw16_LockServed.link ((new_c w).mono ?_)
  rintro e w2 ⟨own, tb, mi, mw, rfl, f2, hown, T2⟩
  refine ⟨_, rfl, fun y4 hy4 => (awake_c w2).mono ?_⟩
  rintro e w126 ⟨rfl, f126⟩
  have T126 := T2.fr f126 (fun x _ => by simp)
  refine ⟨_, rfl, bF rfl (hy4 _ _ (bF rfl ?_))⟩
  clear hy4
  refine ⟨fun m n w' => ∃ (i N : Nat) (own : List Nat) (ib : Int → Option IB) (W : Int → Option Int) (M : Int → IM), n = i ∧ i ≤ 80 ∧ m = 80 - i ∧ N ≤ i ∧ TabAt w' own tb mi mw ib N W M ∧ TOk W M ∧ Fr [] w w' ∧ (∀ x ∈ own, w.heap.size ≤ x), 80,
    ⟨0, 0, own, _, _, _, rfl, by omega, rfl, Nat.le_refl _, T126, TOk.empty, f2.trans' f126, hown⟩, ?_⟩
  clear hown T2 T126
  rintro m n w11 ⟨i, N, own, ib, W, M, rfl, hi, rfl, hN, T, ok, f11, hown⟩ y13 hy13
  have done : y13 false w11 := by
    refine hy13 _ _ (bF rfl ?_)
    clear hy13
    refine ⟨fun m c n w' => ∃ j : Nat, c = (cntTo W j : Int) ∧ n = (j : Int) + 1 ∧ j ≤ 16 ∧ m = 16 - j ∧ Fr [] w11 w', 16, ⟨0, rfl, rfl, by omega, rfl, Fr.refl _ _⟩, ?_⟩
    rintro m c n w33 ⟨j, rfl, rfl, hj, rfl, f33⟩
    have T33 := T.fr f33 (fun x _ => by simp)
    have F33 := f11.trans' f33
    refine bc (fun hlt y35 hy35 => ?_) fun hge => ?_
    · have hlt : (j : Int) + 1 ≤ 16 := of_decide_eq_true hlt
      refine (waits_b T33 ok ((j : Int) + 1)).mono ?_
      rintro e w42 ⟨f42, n39, b40, b41, rfl, hb⟩
      have next : ∀ c : Int, c = (cntTo W (j + 1) : Int) → y35 c w42 := fun c hc => hy35 _ _ ⟨16 - (j + 1), by omega, j + 1, hc, by rw [wrapi (by omega) (by omega)]; simp, by omega, rfl, f33.trans' f42⟩
      have hle := cntTo_le W j
      have hcs := cntTo_succ W j
      refine ⟨_, _, _, rfl, bc (fun h => next _ ?_) fun h => next _ ?_⟩
      · rw [← hb, h] at hcs
        rw [wrapi (by omega) (by omega), hcs]; simp
      · rw [← hb, h] at hcs
        rw [hcs]; simp
    have hge : ¬ (j : Int) + 1 ≤ 16 := of_decide_eq_false hge
    obtain rfl : j = 16 := by omega
    refine ⟨fun m c n w' => ∃ (r : Nat) (ib : Int → Option IB) (W : Int → Option Int) (M : Int → IM), c = (cntTo W 16 : Int) ∧ n = (r : Int) ∧ r ≤ 40 ∧ m = 40 - r ∧ TabAt w' own tb mi mw ib N W M ∧ TOk W M ∧ Fr [] w w' ∧ (20 < r → Clear 16 M), 40, ⟨0, ib, W, M, rfl, rfl, by omega, rfl, T33, ok, F33, fun h => absurd h (by omega)⟩, ?_⟩
    clear T33 T ok F33 f33
    rintro m c n w51 ⟨r, ib, W, M, rfl, rfl, hr, rfl, T, ok, f51, hcl⟩
    refine bc (fun hlt => ?_) fun hge => ?_
    · have hlt : (r : Int) < 40 := of_decide_eq_true hlt
      refine ⟨fun m c n w' => ∃ (j : Nat) (ib : Int → Option IB) (W : Int → Option Int) (M : Int → IM), c = (cntTo W 16 : Int) ∧ n = (j : Int) + 1 ∧ j ≤ 16 ∧ m = 16 - j ∧ TabAt w' own tb mi mw ib N W M ∧ TOk W M ∧ Fr [] w w' ∧ (20 ≤ r → Clear j M), 16, ⟨0, ib, W, M, rfl, rfl, by omega, rfl, T, ok, f51, fun _ s h1 h2 => by omega⟩, ?_⟩
      clear T ok f51 hcl
      rintro m c n w58 ⟨j, ib, W, M, rfl, rfl, hj, rfl, T, ok, f58, hcl⟩
      refine bc (fun hlt2 y60 hy60 => ?_) fun hge => ?_
      · have hlt2 : (j : Int) + 1 ≤ 16 := of_decide_eq_true hlt2
        have next : ∀ (c : Int) (w' : World) (ib' : Int → Option IB) (W' : Int → Option Int) (M' : Int → IM), c = (cntTo W' 16 : Int) → TabAt w' own tb mi mw ib' N W' M' → TOk W' M' → Fr [] w w' → (20 ≤ r → Clear (j + 1) M') → y60 c w' := fun c w' ib' W' M' h1 h2 h3 h4 h5 =>
          hy60 _ _ ⟨16 - (j + 1), by omega, j + 1, ib', W', M', h1, by rw [wrapi (by omega) (by omega)]; simp, by omega, rfl, h2, h3, h4, h5⟩
        clear hy60
        refine (waits_b T ok ((j : Int) + 1)).mono ?_
        rintro e w67 ⟨f67, n39, b40, b70, rfl, hb⟩
        have T67 := T.fr f67 (fun x _ => by simp)
        have F67 := f58.trans' f67
        refine ⟨_, _, _, rfl, fun y71 hy71 => ?_⟩
        have rel : y71 false w67 := by
          refine hy71 _ _ (bF rfl ((release_c T67 ok (by omega) ((j : Int) + 1)).mono ?_))
          rintro e w75 (⟨hb, _⟩ | ⟨_, p, c, K, ib8, rfl, hK, hKi, f75, row75, hp75, T75⟩)
          · omega
          have hcr := cnt_rel ok hK (s := (j : Int) + 1) (by omega)
          have hle := cntTo_le W 16
          have F75 := F67.trans f75 (fun x hx => .inr (hown x hx))
          refine ⟨_, _, _, _, rfl, bF rfl fun y80 hy80 => ?_⟩
          have fin : ∀ c : Int, c = ((cntTo (relW W ((j : Int) + 1) (outs M ((j : Int) + 1) K)) 16 + (outs M ((j : Int) + 1) K).length : Nat) : Int) → y80 c w75 := fun c hc => hy80 _ _ (next _ _ ib8 _ _ (by rw [hc, wrapi (by omega) (by omega)]; omega) T75 (rel_ok ok hKi) F75 (fun h20 => clear_rel ok hKi rfl (hcl h20)))
          refine bc (fun h => fin _ ?_) fun h => fin _ ?_
          · rw [← hb, h] at hcr
            simp only [if_true] at hcr
            rw [wrapi (by omega) (by omega)]; omega
          · rw [← hb, h] at hcr
            simp at hcr
            omega
        refine bc (fun h => ?_) fun _ => rel
        cases h20 : decide ((r : Int) < 20) with
        | false => exact rel
        | true =>
          have h20 : (r : Int) < 20 := of_decide_eq_true h20
          exact hy71 _ _ (bT rfl (next _ _ ib W M rfl T67 ok F67 (fun h => by omega)))
      · have hge : ¬ (j : Int) + 1 ≤ 16 := of_decide_eq_false hge
        obtain rfl : j = 16 := by omega
        exact ⟨40 - (r + 1), by omega, r + 1, ib, W, M, rfl, by rw [wrapi (by omega) (by omega)]; simp, by omega, rfl, T, ok, f58, fun h => hcl (by omega)⟩
    · have hge : ¬ (r : Int) < 40 := of_decide_eq_false hge
      have hC := hcl (by omega)
      have hW := clear_W ok hC
      rw [cnt_none hW]
      refine ⟨fun m n w' => ∃ j : Nat, n = (j : Int) + 1 ∧ j ≤ 16 ∧ m = 16 - j ∧ Fr [] w51 w', 16, ⟨0, rfl, by omega, rfl, Fr.refl _ _⟩, ?_⟩
      rintro m n w92 ⟨j, rfl, hj, rfl, f92⟩
      have T92 := T.fr f92 (fun x _ => by simp)
      refine bc (fun hlt => ?_) fun hge2 => ?_
      · have hlt : (j : Int) + 1 ≤ 16 := of_decide_eq_true hlt
        refine (waits_b T92 ok ((j : Int) + 1)).mono ?_
        rintro e w95 ⟨f95, n39, b40, b98, rfl, hb⟩
        have T95 := T92.fr f95 (fun x _ => by simp)
        refine ⟨_, _, _, rfl, bF (by rw [hb, hW]; rfl) ⟨fun m n w' => ∃ x : Nat, n = x ∧ x ≤ 6 ∧ m = 6 - x ∧ w' = w95, 6, ⟨0, rfl, by omega, rfl, rfl⟩, ?_⟩⟩
        rintro m n w103 ⟨x, rfl, hx, rfl, rfl⟩
        refine bc (fun hlt3 => ?_) fun _ => ⟨16 - (j + 1), by omega, j + 1, by rw [wrapi (by omega) (by omega)]; simp, by omega, rfl, f92.trans' f95⟩
        have hlt3 : (x : Int) < 6 := of_decide_eq_true hlt3
        refine (holds_c T95 ((j : Int) + 1) (x : Int)).mono ?_
        rintro e w106 ⟨rfl, rfl⟩
        rw [(hC ((j : Int) + 1) (by omega) (by omega) (x : Int)).1]
        exact ⟨_, _, rfl, bF rfl ⟨6 - (x + 1), by omega, x + 1, by rw [wrapi (by omega) (by omega)]; simp, by omega, rfl, rfl⟩⟩
      · intro y111 hy111
        refine bT (by simp) ((edges0_c T92 hW).mono ?_)
        rintro e w117 ⟨p, c, rfl, f117⟩
        exact ⟨_, _, _, rfl, hy111 _ _ ⟨rfl, below _ ((f51.trans' f92).trans' f117)⟩⟩
  refine bc (fun hlt => ?_) fun _ => done
  cases h80 : decide ((i : Int) < 80) with
  | false => exact done
  | true =>
  clear done
  have h80 : (i : Int) < 80 := of_decide_eq_true h80
  have hlt : (i : Int) < (len : Int) := of_decide_eq_true hlt
  refine hy13 _ _ (bT rfl ?_)
  clear hy13
  obtain ⟨o, ad, hr, rfl, c0, c1, c2, c3⟩ := hz.get f11 (i := i) (by omega)
  have e0 : (i : Int).toNat * 4 = i * 4 := by omega
  obtain ⟨s, hs1, hs2, hse⟩ := ses o.s
  obtain ⟨x, hx, hex⟩ := six o.item
  refine ⟨ad, rfl, ⟨by omega, hlt⟩, _, _, _, _, ⟨by rw [e0]; exact c0, by rw [e0]; exact c1, by rw [e0]; exact c2, by rw [e0]; exact c3, trivial⟩, fun k21 => ⟨by decide, by decide, fun w22 st22 => ?_⟩⟩
  rw [hse, hex]
  have n22 := g_new1 st22
  have T22 := T.fr st22.fr (fun x _ => by simp)
  have F22 := f11.trans' st22.fr
  refine (ask_c T22 ok s (i := (x : Int)) (by unfold inR; omega) o.alone).mono ?_
  rintro e w25 ⟨rfl, own', ib', f25, hsub, hnew, T25⟩
  have z22 := F22.size
  refine ⟨_, rfl, g_keep f25 (fun x hx => by simp at hx; subst hx; exact ⟨n22.2, fun hm => by have := T.lt _ hm; omega⟩), 80 - (i + 1), by omega, i + 1, N + 1, own', ib', _, _, by rw [wrapi (by omega) (by omega)]; simp, by omega, rfl, by omega, T25, ask_ok ok s (x : Int) o.alone, F22.trans f25 (fun x hx => .inr (hown x hx)), fun x hx => by
    rcases hnew x hx with h | h
    · exact hown x h
    · omega⟩
end Go.Proofs.Ytnimejocaaekaaa.Lock
