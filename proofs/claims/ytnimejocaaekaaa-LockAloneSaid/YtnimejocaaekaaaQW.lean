/- LockUp: the law's own walk. -/
import Derived.Test.YtnimejocaaekaaaQU
import Derived.Test.YtnimejocaaekaaaQR
import Derived.Test.YtnimejocaaekaaaL8
import Derived.Test.YtnimejocaaekaaaC4
namespace Go.Proofs.Ytnimejocaaekaaa.Lock
open Go Go.V
open Go.Proofs.Ytnimejocaaekaaa.VC
open Go.Proofs.Try (prog)
set_option linter.unusedVariables false
set_option linter.unusedSimpArgs false
set_option maxRecDepth 20000

theorem norm_eq {I : IM} (hr : ∀ s al, I.H s = some al → 1 ≤ s ∧ s ≤ 16) : dIM (norm I) = I := by
  obtain ⟨H, Q⟩ := I
  unfold dIM norm
  show (⟨dH _, Q⟩ : IM) = ⟨H, Q⟩
  congr 1
  funext s
  unfold dH
  split
  · rename_i hs
    show ((List.range 16).map fun (n : Nat) => H ((n : Int) + 1)).getD (s - 1).toNat none = H s
    rw [List.getD_eq_getElem?_getD, List.getElem?_map, List.getElem?_range (by omega)]
    show H (((s - 1).toNat : Nat) + 1 : Int) = H s
    congr 1; omega
  · rename_i hs
    cases h : H s with
    | none => rfl
    | some al => exact absurd (hr s al h) hs

theorem ask_D {W : Int → Option Int} {M : Int → IM} {d : UD} {s : Int} (ok : TOk W M) (ho : Only M 3) (hM : M 3 = dIM d) (hs : 1 ≤ s ∧ s ≤ 16) (al : Bool) :
    (ask W M s 3 al).2.2 = (askD d s al).2 ∧ (ask W M s 3 al).2.1 3 = dIM (askD d s al).1 ∧ Only (ask W M s 3 al).2.1 3 := by
  have hok := ask_ok ok s 3 al
  rw [ask_eq ok] at hok ⊢
  have hw : (W s).isSome = true ↔ (d.2.any fun a => decide (a.1 = s)) = true := by
    have hQ : d.2 = (M 3).Q := by rw [hM]; rfl
    rw [hQ, List.any_eq_true]
    constructor
    · intro h
      obtain ⟨i, hi⟩ := Option.isSome_iff_exists.1 h
      obtain ⟨al', hm⟩ := (ok.one s i).1 hi
      by_cases h3 : i = 3
      · subst h3; exact ⟨_, hm, by simp⟩
      · rw [ho i h3] at hm; cases hm
    · rintro ⟨a, ha, e⟩
      have e := of_decide_eq_true e
      have := (ok.one s 3).2 ⟨a.2, by rw [← e]; exact ha⟩
      rw [this]; rfl
  unfold askB at hok ⊢
  unfold askD
  rw [if_neg (by omega)] at hok ⊢
  by_cases h1 : (W s).isSome = true
  · rw [if_pos h1]
    simp only [if_pos (hw.1 h1)]
    exact ⟨trivial, hM, ho⟩
  rw [if_neg h1] at hok ⊢
  simp only [if_neg (fun h => h1 (hw.2 h))]
  rw [hM] at hok ⊢
  split at hok
  · rename_i h2
    rw [if_pos h2, if_pos h2]
    exact ⟨rfl, hM, ho⟩
  rename_i h2
  rw [if_neg h2, if_neg h2]
  split at hok
  · rename_i h3
    rw [if_pos h3, if_pos h3]
    have hr := hok.rh 3
    have e : setM M 3 ⟨hold (dIM d).H (s, al), (dIM d).Q⟩ 3 = ⟨hold (dIM d).H (s, al), (dIM d).Q⟩ := by unfold setM; rw [if_pos rfl]
    refine ⟨rfl, ?_, ho.set _⟩
    show setM M 3 ⟨hold (dIM d).H (s, al), (dIM d).Q⟩ 3 = dIM (norm _)
    rw [e, norm_eq]
    intro t b hb
    exact hr t b (by show (setM M 3 ⟨hold (dIM d).H (s, al), (dIM d).Q⟩ 3).H t = some b; rw [e]; exact hb)
  · rename_i h3
    rw [if_neg h3, if_neg h3]
    have hr := hok.rh 3
    have e : setM M 3 ⟨(dIM d).H, putQ (dIM d).H (dIM d).Q (s, al)⟩ 3 = ⟨(dIM d).H, putQ (dIM d).H (dIM d).Q (s, al)⟩ := by unfold setM; rw [if_pos rfl]
    refine ⟨rfl, ?_, ho.set _⟩
    show setM M 3 ⟨(dIM d).H, putQ (dIM d).H (dIM d).Q (s, al)⟩ 3 = dIM (norm _)
    rw [e, norm_eq]
    intro t b hb
    exact hr t b (by show (setM M 3 ⟨(dIM d).H, putQ (dIM d).H (dIM d).Q (s, al)⟩ 3).H t = some b; rw [e]; exact hb)

theorem rel_D {W : Int → Option Int} {M : Int → IM} {d : UD} {s : Int} (ok : TOk W M) (ho : Only M 3) (hM : M 3 = dIM d) {K : List Int} (hK : K.Pairwise (· < ·)) (hKi : ∀ i, inv M s i → i ∈ K) :
    outs M s K = (relD d s).2 ∧ relM M s K 3 = dIM (relD d s).1 ∧ Only (relM M s K) 3 := by
  have hok := rel_ok ok hKi
  have hno : ∀ j, j ≠ 3 → ¬ inv M s j := fun j hj h => by
    unfold inv at h
    rw [ho j hj] at h
    rcases h with h | ⟨a, ha, _⟩
    · cases h
    · cases ha
  have hinv : inv M s 3 ↔ (((dIM d).H s).isSome || (dIM d).Q.any fun a => decide (a.1 = s)) = true := by
    unfold inv
    rw [hM]; simp
  have hrel : relI M s 3 = if (((dIM d).H s).isSome || (dIM d).Q.any fun a => decide (a.1 = s)) = true then relB s (dIM d) else (dIM d, []) := by
    unfold relI
    by_cases h : inv M s 3
    · rw [if_pos h, if_pos (hinv.1 h), rel_eq ok, hM]
    · rw [if_neg h, if_neg (fun hh => h (hinv.2 hh)), hM]
  have hall : ∀ j, relM M s K j = (relI M s j).1 := fun j => by
    unfold relM
    split
    · rfl
    · rename_i hn; unfold relI; rw [if_neg (fun h => hn (hKi j h))]
  refine ⟨?_, ?_, fun j hj => ?_⟩
  · by_cases h : inv M s 3
    · rw [outs_one hK (hKi _ h) hno, hrel]; rfl
    · have : outs M s K = [] := by
        unfold outs
        rw [List.flatMap_eq_nil_iff]
        intro j _
        unfold relI
        by_cases hj : j = 3
        · rw [if_neg (by rw [hj]; exact h)]
        · rw [if_neg (hno j hj)]
      rw [this]
      unfold relD
      rw [if_neg (fun hh => h (hinv.2 hh))]
  · rw [hall, hrel]
    unfold relD
    show _ = dIM (norm _)
    rw [norm_eq]
    intro t b hb
    exact hok.rh 3 t b (by rw [hall, hrel]; exact hb)
  · rw [hall]
    unfold relI
    rw [if_neg (hno j hj)]
    exact ho j hj

/-- Where the law has come to. -/
def UpAt (w0 w : World) (tb mi mw : Nat) (d : UD) (k : Nat) : Prop := ∃ (own : List Nat) (ib : Int → Option IB) (N : Nat) (W : Int → Option Int) (M : Int → IM), N ≤ k ∧ TabAt w own tb mi mw ib N W M ∧ TOk W M ∧ Only M 3 ∧ M 3 = dIM d ∧ Fr [] w0 w ∧ ∀ x ∈ own, w0.heap.size ≤ x
section
variable {w0 w : World} {tb mi mw : Nat} {d : UD} {k : Nat}
theorem UpAt.fr' (h : UpAt w0 w tb mi mw d k) : Fr [] w0 w := by
  obtain ⟨own, ib, N, W, M, h1, h2, h3, h4, h5, h6, h7⟩ := h; exact h6
theorem ask_U (h : UpAt w0 w tb mi mw d k) {s : Int} (hs : 1 ≤ s ∧ s ≤ 16) (al : Bool) : Calls prog 12 #[D tb, I64 s, I64 3, .bool al] w fun e w' => e = .returned (I64 (askD d s al).2) ∧ UpAt w0 w' tb mi mw (askD d s al).1 (k + 1) := by
  obtain ⟨own, ib, N, W, M, h1, T, ok, ho, hM, f, hown⟩ := h
  obtain ⟨g1, g2, g3⟩ := ask_D ok ho hM hs al
  refine (ask_c T ok s (by unfold inR; omega) al).mono ?_
  rintro e w' ⟨rfl, own', ib', f', hsub, hnew, T'⟩
  have z := f.size
  exact ⟨by rw [g1], own', ib', N + 1, _, _, by omega, T', ask_ok ok s 3 al, g3, g2, f.trans f' (fun x hx => .inr (hown x hx)), fun x hx => by
    rcases hnew x hx with h | h
    · exact hown x h
    · omega⟩
theorem rel_U (h : UpAt w0 w tb mi mw d k) (hk : k ≤ 1000000) {s : Int} (hs : 1 ≤ s ∧ s ≤ 16) : Calls prog 13 #[D tb, I64 s] w fun e w' => ∃ p c, e = .returned (.tuple #[.slice p (relD d s).2.length c, I64 0]) ∧ Row w' p ((relD d s).2.map I64) ∧ UpAt w0 w' tb mi mw (relD d s).1 k := by
  obtain ⟨own, ib, N, W, M, h1, T, ok, ho, hM, f, hown⟩ := h
  refine (release_c T ok (by omega) s).mono ?_
  rintro e w' (⟨hb, _⟩ | ⟨_, p, c, K, ib8, rfl, hK, hKi, f8, row8, hp8, T8⟩)
  · omega
  obtain ⟨g1, g2, g3⟩ := rel_D ok ho hM hK hKi
  have hok := rel_ok ok hKi
  rw [g1] at row8 T8 hok ⊢
  exact ⟨p, c, rfl, row8, own, ib8, N, _, _, h1, T8, hok, g3, g2, f.trans f8 (fun x hx => .inr (hown x hx)), hown⟩
theorem edges0_c {own : List Nat} {ib : Int → Option IB} {N : Nat} {W : Int → Option Int} {M : Int → IM} (h : TabAt w own tb mi mw ib N W M) (hW : ∀ s, W s = none) : Calls prog 21 #[D tb] w fun e w' => ∃ p c, e = .returned (.slice p 0 c) ∧ Fr [] w w' := by
  obtain ⟨lw, g1, g2, g3⟩ := h.waits
  have hnil : lw = [] := by
    cases lw with
    | nil => rfl
    | cons p l =>
      have := g2 p.1
      rw [look_of_mem g1.nodup (k := p.1) (x := p.2) List.mem_cons_self, hW] at this
      cases this
  subst hnil
  refine lock_Table_Edges.link ⟨_, h.c1, (keysW_c g1 (fun p hp => (by cases hp)) (by simp)).mono ?_⟩
  rintro e w3 ⟨x, rfl, f3, hc⟩
  refine ⟨x, rfl, hc.mono ?_⟩
  rintro e w6 ⟨p, c, rfl, f6, _, _⟩
  refine ⟨_, _, _, rfl, fun m p k c n w' => p = none ∧ k = 0 ∧ n = 0 ∧ Fr [] w w', 0, ⟨rfl, rfl, rfl, f6⟩, ?_⟩
  rintro m p k c n w17 ⟨rfl, rfl, rfl, f17⟩
  exact bF (by simp) ⟨none, c, rfl, f17⟩
end

theorem six (n : Int) : ∃ a : Nat, a < 6 ∧ IntKind.wrap .i64 (Int.tmod (IntKind.wrap .u64 n) 6) = (a : Int) := by
  have h : 0 ≤ IntKind.wrap .u64 n := by
    simp [IntKind.wrap, IntKind.bits, IntKind.signed]; omega
  generalize IntKind.wrap .u64 n = x at h
  rw [Int.tmod_eq_emod_of_nonneg h]
  exact ⟨(x % 6).toNat, by omega, by rw [wrapi (by omega) (by omega)]; omega⟩
theorem lastU_r (n j : Nat) (hn : n ≤ 6) (hj : j ≤ 5) : 1 ≤ lastU n j ∧ lastU n j ≤ 16 := by
  cases j with
  | zero => show (1 : Int) ≤ 1 ∧ (1 : Int) ≤ 16; decide
  | succ j => show (1 : Int) ≤ ((n + j : Nat) : Int) + 1 ∧ ((n + j : Nat) : Int) + 1 ≤ 16; omega

set_option maxHeartbeats 2000000 in
theorem up_walk (w : World) (n0 more : Int) : Calls prog 8 #[I64 n0, I64 more] w fun e w' => e = .returned (.bool true) ∧ RowKit.Below w.heap.size w w' := by
  have below : ∀ w', Fr [] w w' → RowKit.Below w.heap.size w w' := fun w' f => f.below (Nat.le_refl _) (fun x hx => by cases hx)
  refine rhizomelaw16_LockUp.link ?_
  unfold rhizomelaw16_LockUp.vc
  obtain ⟨a, ha, hea⟩ := six n0
  obtain ⟨m, hm, hem⟩ := six more
  rw [hea, hem]
  obtain ⟨n, hn⟩ : ∃ n : Nat, n = a + 1 := ⟨_, rfl⟩
  rw [show IntKind.wrap .i64 ((a : Int) + 1) = (n : Int) by rw [wrapi (by omega) (by omega)]; omega]
  rw [show IntKind.wrap .i64 ((n : Int) + (m : Int)) = ((n + m : Nat) : Int) by rw [wrapi (by omega) (by omega)]; omega]
  rw [show IntKind.wrap .i64 ((n : Int) + 1) = (n : Int) + 1 from wrapi (by omega) (by omega)]
  have hchk : chk n m = true := by
    have := List.all_eq_true.1 chk_all a (List.mem_range.2 ha)
    have := List.all_eq_true.1 this m (List.mem_range.2 hm)
    rw [hn]; exact this
  simp only [chk, Bool.and_eq_true, List.all_eq_true, List.mem_range, decide_eq_true_eq] at hchk
  obtain ⟨⟨⟨⟨⟨⟨⟨q1, q2⟩, q3⟩, q4⟩, q5⟩, q6⟩, q7⟩, q8⟩ := hchk
  refine (new_c w).mono ?_
  rintro e w2 ⟨own, tb, mi, mw, rfl, f2, hown, T2⟩
  refine ⟨_, rfl, fun y4 hy4 => (awake_c w2).mono ?_⟩
  rintro e w72 ⟨rfl, f72⟩
  have T72 := T2.fr f72 (fun x _ => by simp)
  have U0 : UpAt w w72 tb mi mw (d1 0) 0 := ⟨own, _, 0, _, _, Nat.le_refl _, T72, TOk.empty, fun j _ => rfl, by
    show IM.none = dIM (norm IM.none)
    rw [norm_eq (fun s al h => (by cases h))], f2.trans' f72, hown⟩
  refine ⟨_, rfl, bF rfl (hy4 _ _ (bF rfl ⟨by decide, by decide, ?_⟩))⟩
  clear hy4 T2 T72 hown
  refine ⟨fun k x w' => ∃ j : Nat, x = (j : Int) + 1 ∧ j ≤ n ∧ k = n - j ∧ UpAt w w' tb mi mw (d1 j) j, n, ⟨0, rfl, by omega, rfl, U0⟩, ?_⟩
  clear U0
  rintro k x w11 ⟨j, rfl, hj, rfl, U⟩
  refine bc (fun hlt => ?_) fun hge => ?_
  · have hlt : (j : Int) + 1 ≤ (n : Int) := of_decide_eq_true hlt
    refine (ask_U U (s := (j : Int) + 1) (by omega) false).mono ?_
    rintro e w14 ⟨rfl, U'⟩
    rw [q1 j (by omega)]
    exact ⟨_, rfl, bF rfl ⟨n - (j + 1), by omega, j + 1, by rw [wrapi (by omega) (by omega)]; simp, by omega, rfl, U'⟩⟩
  have hge : ¬ (j : Int) + 1 ≤ (n : Int) := of_decide_eq_false hge
  obtain rfl : j = n := by omega
  refine ⟨fun k x w' => ∃ i : Nat, x = ((j + i : Nat) : Int) + 1 ∧ i ≤ m ∧ k = m - i ∧ UpAt w w' tb mi mw (d2 j i) (j + i), m, ⟨0, by simp, by omega, rfl, U⟩, ?_⟩
  clear U
  rintro k x w21 ⟨i, rfl, hi, rfl, U⟩
  refine bc (fun hlt => ?_) fun hge => ?_
  · have hlt : ((j + i : Nat) : Int) + 1 ≤ ((j + m : Nat) : Int) := of_decide_eq_true hlt
    refine (ask_U U (s := ((j + i : Nat) : Int) + 1) (by omega) true).mono ?_
    rintro e w24 ⟨rfl, U'⟩
    have := q2 i (by omega)
    rw [this]
    exact ⟨_, rfl, bF rfl ⟨m - (i + 1), by omega, i + 1, by rw [wrapi (by omega) (by omega)]; omega, by omega, rfl, U'⟩⟩
  have hge : ¬ ((j + i : Nat) : Int) + 1 ≤ ((j + m : Nat) : Int) := of_decide_eq_false hge
  obtain rfl : i = m := by omega
  refine (ask_U U (s := 1) (by omega) true).mono ?_
  rintro e w28 ⟨rfl, U3⟩
  rw [q3]
  refine ⟨_, rfl, fun y30 hy30 => ?_⟩
  suffices main : y30 w28 by
    refine bc (fun h1 => ?_) fun h1 => ?_
    · have h1 : (j : Int) = 1 := of_decide_eq_true h1
      rw [if_pos (by omega)]; exact bF rfl main
    · have h1 : ¬ (j : Int) = 1 := of_decide_eq_false h1
      rw [if_neg (by omega)]; exact bF rfl main
  refine hy30 _ ?_
  clear hy30
  refine ⟨fun k x w' => ∃ t : Nat, x = (t : Int) + 2 ∧ t ≤ j - 1 ∧ k = j - 1 - t ∧ UpAt w w' tb mi mw (d4 j i t) 100, j - 1, ⟨0, rfl, by omega, rfl, by
    obtain ⟨own, ib, N, W, M, h1, h⟩ := U3; exact ⟨own, ib, N, W, M, by omega, h⟩⟩, ?_⟩
  clear U3 U
  rintro k x w36 ⟨t, rfl, ht, rfl, U⟩
  refine bc (fun hlt => ?_) fun hge => ?_
  · have hlt : (t : Int) + 2 ≤ (j : Int) := of_decide_eq_true hlt
    refine (rel_U U (by omega) (s := (t : Int) + 2) (by omega)).mono ?_
    rintro e w39 ⟨p, c, rfl, row, U'⟩
    have ho := q4 t (by omega)
    refine ⟨_, _, _, _, rfl, fun y44 hy44 => ?_⟩
    have fin : y44 false w39 := hy44 _ _ (bF rfl ⟨j - 1 - (t + 1), by omega, t + 1, by rw [wrapi (by omega) (by omega)]; omega, by omega, rfl, U'⟩)
    rw [ho] at row ⊢
    by_cases hj2 : t + 2 = j
    · rw [if_pos hj2] at row ⊢
      obtain ⟨ad, hp⟩ := row.has (by simp)
      have hc := row.get hp (j := 0) (u := I64 1) rfl
      refine bF rfl (bT rfl ⟨ad, hp, ⟨by decide, by decide⟩, 1, hc, ?_⟩)
      rw [decide_eq_true (show (t : Int) + 2 = (j : Int) by omega)]
      exact bF rfl fin
    · rw [if_neg hj2]
      refine bF rfl (bF rfl ?_)
      rw [decide_eq_false (show ¬ (t : Int) + 2 = (j : Int) by omega)]
      exact bF rfl fin
  have hge : ¬ (t : Int) + 2 ≤ (j : Int) := of_decide_eq_false hge
  obtain rfl : t = j - 1 := by omega
  have U5 := U
  obtain ⟨own, ib, N, W, M, h1, T, ok, ho, hM, f, hown⟩ := U
  refine (holds_c T 1 3).mono ?_
  rintro e w53 ⟨rfl, rfl⟩
  rw [hM, q5]
  refine ⟨_, _, rfl, fun y56 hy56 => bF rfl (hy56 _ _ (bF rfl ?_))⟩
  clear hy56 T ok ho hM f hown
  refine ⟨fun k x z w' => ∃ t : Nat, x = lastU j t ∧ z = ((j + t : Nat) : Int) + 1 ∧ t ≤ i ∧ k = i - t ∧ UpAt w w' tb mi mw (d6 j i t) 100, i, ⟨0, rfl, by simp, by omega, rfl, U5⟩, ?_⟩
  clear U5
  rintro k x z w64 ⟨t, rfl, rfl, ht, rfl, U⟩
  have hlr := lastU_r j t (by omega) (by omega)
  refine bc (fun hlt => ?_) fun hge => ?_
  · have hlt : ((j + t : Nat) : Int) + 1 ≤ ((j + i : Nat) : Int) := of_decide_eq_true hlt
    refine (rel_U U (by omega) hlr).mono ?_
    rintro e w67 ⟨p, c, rfl, row, U'⟩
    have ho := q6 t (by omega)
    rw [ho] at row ⊢
    obtain ⟨ad, hp⟩ := row.has (by simp)
    have hc := row.get hp (j := 0) (u := I64 (((j + t : Nat) : Int) + 1)) rfl
    refine ⟨_, _, _, _, rfl, fun y72 hy72 => bF rfl (bF rfl ⟨ad, hp, ⟨by omega, by show (0 : Int) < ((1 : Nat) : Int); decide⟩, _, hc, ?_⟩)⟩
    rw [show (!decide ((((j + t : Nat) : Int) + 1) = ((j + t : Nat) : Int) + 1)) = false by simp]
    exact hy72 _ _ (bF rfl ⟨i - (t + 1), by omega, t + 1, rfl, by rw [wrapi (by omega) (by omega)]; omega, by omega, rfl, U'⟩)
  have hge : ¬ ((j + t : Nat) : Int) + 1 ≤ ((j + i : Nat) : Int) := of_decide_eq_false hge
  obtain rfl : t = i := by omega
  refine (rel_U U (by omega) hlr).mono ?_
  rintro e w81 ⟨p, c, rfl, row, U'⟩
  rw [q7]
  obtain ⟨own, ib, N, W, M, h1, T, ok, ho, hM, f, hown⟩ := U'
  refine ⟨_, _, _, _, rfl, fun y86 hy86 => bT rfl (bT rfl ((edges0_c T (fun s => ?_)).mono ?_))⟩
  · cases hs : W s with
    | none => rfl
    | some v =>
      obtain ⟨al, hm⟩ := (ok.one s v).1 hs
      by_cases h3 : v = 3
      · subst h3
        rw [hM] at hm
        have hq : (dIM (relD (d6 j t t) (lastU j t)).1).Q = [] := List.isEmpty_iff.1 q8
        rw [hq] at hm; cases hm
      · rw [ho v h3] at hm; cases hm
  · rintro e w92 ⟨p', c', rfl, f92⟩
    exact ⟨_, _, _, rfl, hy86 _ _ ⟨rfl, below _ (f.trans' f92)⟩⟩
end Go.Proofs.Ytnimejocaaekaaa.Lock
