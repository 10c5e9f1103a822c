/- LockRow: the law's own walk. -/
import Derived.Test.YtnimejocaaekaaaQR
namespace Go.Proofs.Ytnimejocaaekaaa.Lock
open Go Go.V
open Go.Proofs.Ytnimejocaaekaaa.VC
open Go.Proofs.Try (prog)
set_option linter.unusedVariables false
set_option linter.unusedSimpArgs false
set_option maxRecDepth 20000

theorem subA1_zero (p : Option Addr) (c : Nat) : subA p 0 c 1 = p := by
  unfold subA
  split
  · rfl
  · cases p <;> simp [add0]

set_option maxHeartbeats 2000000 in
theorem row_walk (w : World) {item : Int} (hr : inR item) {a : Option Addr} {cap : Nat} {A : List Bool} (hA : Row w a (A.map .bool)) (hcap : A.length ≤ cap) (hAl : A.length ≤ 140737488355328) :
    Calls prog 3 #[I64 item, .slice a A.length cap] w fun e w' => e = .returned (.bool true) ∧ RowKit.Below w.heap.size w w' := by
  have below : ∀ w', Fr [] w w' → RowKit.Below w.heap.size w w' := fun w' f => f.below (Nat.le_refl _) (fun x hx => by cases hx)
  refine rhizomelaw16_LockRow.link ((new_c w).mono ?_)
  rintro e w2 ⟨own, tb, mi, mw, rfl, f2, hown, T2⟩
  refine ⟨_, rfl, fun y4 hy4 => (awake_c w2).mono ?_⟩
  rintro e w72 ⟨rfl, f72⟩
  have T72 := T2.fr f72 (fun x _ => by simp)
  refine ⟨_, rfl, bF rfl (hy4 _ _ (bF rfl ?_))⟩
  clear hy4
  obtain ⟨n, hn⟩ : ∃ n : Nat, n = min A.length 16 := ⟨_, rfl⟩
  have hnn : (if (16 : Int) < (A.length : Int) then (16 : Int) else (A.length : Int)) = (n : Int) := by split <;> omega
  rw [hnn]
  have hn16 : n ≤ 16 := by omega
  have hnA : n ≤ A.length := by omega
  refine ⟨fun m g' i' w' => ∃ (i g N : Nat) (own : List Nat) (ib : Int → Option IB) (W : Int → Option Int) (M : Int → IM), g' = g ∧ i' = i ∧ i ≤ n ∧ m = n - i ∧ g ≤ i ∧ (0 < i → 0 < g) ∧ N ≤ i ∧ TabAt w' own tb mi mw ib N W M ∧ TOk W M ∧ Fr [] w w' ∧ (∀ x ∈ own, w.heap.size ≤ x) ∧ Only M item ∧ M item = ⟨RH A 0 g, RQ A g i⟩, n,
    ⟨0, 0, 0, own, _, _, _, rfl, rfl, by omega, rfl, Nat.le_refl _, fun h => h, Nat.le_refl _, T72, TOk.empty, f2.trans' f72, hown, fun j _ => rfl, ?_⟩, ?_⟩
  · show IM.none = _
    unfold IM.none
    rw [RQ_nil]
    congr 1
    funext s
    unfold RH
    rw [if_neg (by omega)]
  clear hown T2 T72
  rintro m g' i' w12 ⟨i, g, N, own, ib, W, M, rfl, rfl, hi, rfl, hgi, hg0, hN, T, ok, f12, hown, hO, hM⟩
  refine bc (fun hlt => ?_) fun hge => ?_
  · have hlt : (i : Int) < (n : Int) := of_decide_eq_true hlt
    have hlt' : i < n := by omega
    have hiA : i < A.length := by omega
    intro y14 hy14 y20 hy20
    have hgd : A[i] = A.getD i false := by rw [List.getD_eq_getElem?_getD, List.getElem?_eq_getElem hiA]; rfl
    have main : ∀ bb : Bool, (bb = true ↔ FitP A g i) → ∀ w22, Fr [] w12 w22 → y20 bb w22 := by
      intro bb hbb w22 f22
      refine hy20 _ _ ?_
      clear hy20
      have T22 := T.fr f22 (fun x _ => by simp)
      have F22 := f12.trans' f22
      refine rd Value.bool (g_row F22 hA fun ad _ _ => by simp) rfl hiA (by omega) ?_
      rw [hgd, show IntKind.wrap .i64 ((i : Int) + 1) = (i : Int) + 1 from wrapi (by omega) (by omega)]
      have hok := ask_ok ok ((i : Int) + 1) item (A.getD i false)
      obtain ⟨r1, r2⟩ := ask_row ok hO hM hgi hg0 (by omega)
      refine (ask_c T22 ok ((i : Int) + 1) hr (A.getD i false)).mono ?_
      rintro e w26 ⟨rfl, own', ib', f26, hsub, hnew, T26⟩
      have z22 := F22.size
      have hown' : ∀ x ∈ own', w.heap.size ≤ x := fun x hx => by
        rcases hnew x hx with h | h
        · exact hown x h
        · omega
      have F26 := F22.trans f26 (fun x hx => .inr (hown x hx))
      refine ⟨_, rfl, fun y28 hy28 => ?_⟩
      by_cases hf : FitP A g i
      · obtain ⟨h0, hM'⟩ := r1 hf
        have hbt : bb = true := hbb.2 hf
        subst hbt
        rw [h0]
        refine bF rfl (bF rfl (hy28 _ _ (bF rfl (bT rfl (hy14 _ _ ⟨n - (i + 1), by omega, i + 1, g + 1, N + 1, own', ib', _, _, by rw [wrapi (by omega) (by omega)]; simp, by rw [wrapi (by omega) (by omega)]; simp, by omega, rfl, by omega, fun _ => by omega, by omega, T26, hok, F26, hown', ?_, ?_⟩)))))
        · rw [hM']; exact hO.set _
        · rw [hM']; unfold setM; rw [if_pos rfl]
      · obtain ⟨h0, hM'⟩ := r2 hf
        have hbt : bb = false := by
          cases bb with
          | false => rfl
          | true => exact absurd (hbb.1 rfl) hf
        subst hbt
        rw [h0]
        have hg0' : 0 < g := by
          rcases Nat.eq_zero_or_pos i with h | h
          · exact absurd ⟨by omega, .inl h⟩ hf
          · exact hg0 h
        refine bF rfl (bT rfl (hy28 _ _ (bF rfl (bF rfl (hy14 _ _ ⟨n - (i + 1), by omega, i + 1, g, N + 1, own', ib', _, _, rfl, by rw [wrapi (by omega) (by omega)]; simp, by omega, rfl, by omega, fun _ => hg0', by omega, T26, hok, F26, hown', ?_, ?_⟩)))))
        · rw [hM']; exact hO.set _
        · rw [hM']; unfold setM; rw [if_pos rfl]
    clear hy20 hy14
    refine bc (fun h1 => bc (fun h2 => main true ⟨fun _ => ⟨by have := of_decide_eq_true h1; omega, .inl (by have := of_decide_eq_true h2; omega)⟩, fun _ => rfl⟩ _ (Fr.refl _ _)) fun h2 => ?_) fun h1 => main false ⟨fun h => (by cases h), fun h => absurd (by have := h.1; omega) (of_decide_eq_false h1)⟩ _ (Fr.refl _ _)
    have h1 : (i : Int) = (g : Int) := of_decide_eq_true h1
    have h2 : ¬ (i : Int) = 0 := of_decide_eq_false h2
    refine rd Value.bool (g_row f12 hA fun ad _ _ => by simp) rfl hiA (by omega) ?_
    rw [hgd]
    refine bc (fun h3 => ⟨⟨by omega, by omega, by omega⟩, ?_⟩) fun h3 => main false ⟨fun h => (by cases h), fun h => ?_⟩ _ (Fr.refl _ _)
    · have h3 : A.getD i false = false := by simpa using h3
      rw [subA1_zero, show (i : Int).toNat - 0 = (A.take i).length by rw [List.length_take]; omega]
      have rowT : Row w12 a ((A.take i).map .bool) := by
        have := g_row f12 hA fun ad _ _ => by simp
        rw [← List.take_append_drop i A, List.map_append] at this
        exact row_pre this
      refine (some_c rowT (by rw [List.length_take]; omega)).mono ?_
      rintro e w38 ⟨rfl, rfl⟩
      refine ⟨_, rfl, main _ ⟨fun h => ⟨by omega, .inr ⟨h3, fun k hk => ?_⟩⟩, fun h => ?_⟩ _ (Fr.refl _ _)⟩
      · have h : (A.take i).any id = false := by simpa using h
        have := List.any_eq_false.1 h (A.getD k false) (by
          have hk2 : k < A.length := by omega
          rw [List.getD_eq_getElem?_getD, List.getElem?_eq_getElem hk2]
          exact List.mem_take_iff_getElem.2 ⟨k, by omega, rfl⟩)
        simpa using this
      · rcases h.2 with h4 | ⟨_, h4⟩
        · omega
        · have : (A.take i).any id = false := List.any_eq_false.2 fun x hx => by
            obtain ⟨k, hk, rfl⟩ := List.mem_take_iff_getElem.1 hx
            have := h4 k (by omega)
            rw [List.getD_eq_getElem?_getD, List.getElem?_eq_getElem (by omega)] at this
            simpa using this
          rw [this]; rfl
    · rcases h.2 with h4 | ⟨h4, _⟩
      · omega
      · rw [h4] at h3; cases h3
  · have hge : ¬ (i : Int) < (n : Int) := of_decide_eq_false hge
    obtain rfl : i = n := by omega
    refine ⟨fun m x' l' w' => ∃ (l x : Nat) (own : List Nat) (ib : Int → Option IB) (W : Int → Option Int) (M : Int → IM), x' = x ∧ l' = l ∧ l ≤ i ∧ m = i - l ∧ x ≤ i ∧ l ≤ x ∧ (l < i → l < x) ∧ TabAt w' own tb mi mw ib N W M ∧ TOk W M ∧ Fr [] w w' ∧ (∀ x ∈ own, w.heap.size ≤ x) ∧ Only M item ∧ M item = ⟨RH A l x, RQ A x i⟩, i,
      ⟨0, g, own, ib, W, M, rfl, rfl, by omega, rfl, hgi, by omega, fun h => hg0 h, T, ok, f12, hown, hO, hM⟩, ?_⟩
    clear T hM hO hown ok f12
    rintro m x' l' w45 ⟨l, x, own, ib, W, M, rfl, rfl, hl, rfl, hx, hlx, hlt0, T, ok, f45, hown, hO, hM⟩
    refine bc (fun hlt => ?_) fun hge => ?_
    · have hlt : (l : Int) < (i : Int) := of_decide_eq_true hlt
      have hlx' := hlt0 (by omega)
      rw [show IntKind.wrap .i64 ((l : Int) + 1) = (l : Int) + 1 from wrapi (by omega) (by omega)]
      refine (release_c T ok (by omega) ((l : Int) + 1)).mono ?_
      rintro e w48 (⟨hb, _⟩ | ⟨_, p, c, K, ib8, rfl, hK, hKi, f48, row48, hp48, T48⟩)
      · omega
      obtain ⟨y, h1, h2, hout, hO', hM', hpr⟩ := rel_row hO hM hlx' hx hK hKi
      have hok := rel_ok ok hKi
      rw [hout] at row48 T48 hok ⊢
      have F48 := f45.trans f48 (fun x hx => .inr (hown x hx))
      have hlen : ((List.range' x (y - x)).map fun (k : Nat) => (k : Int) + 1).length = y - x := by simp
      rw [hlen]
      refine ⟨_, _, _, _, rfl, bF rfl ⟨fun m nx ix w' => ∃ q : Nat, nx = ((x + q : Nat) : Int) ∧ ix = q ∧ q ≤ y - x ∧ m = y - x - q ∧ w' = w48, y - x, ⟨0, by simp, rfl, by omega, by omega, rfl⟩, ?_⟩⟩
      rintro m nx ix w58 ⟨q, rfl, rfl, hq, rfl, rfl⟩
      refine bc (fun hlt => ?_) fun hge => ?_
      · have hlt : (q : Int) < ((y - x : Nat) : Int) := of_decide_eq_true hlt
        have hq' : q < ((List.range' x (y - x)).map fun (k : Nat) => (k : Int) + 1).length := by rw [hlen]; omega
        refine rd kenc row48 rfl hq' hlt ?_
        have hel : ((List.range' x (y - x)).map fun (k : Nat) => (k : Int) + 1)[q] = ((x + q : Nat) : Int) + 1 := by simp
        rw [hel, show IntKind.wrap .i64 (((x + q : Nat) : Int) + 1) = ((x + q : Nat) : Int) + 1 from wrapi (by omega) (by omega)]
        exact bF (by simp) ⟨y - x - (q + 1), by omega, q + 1, by omega, by rw [wrapi (by omega) (by omega)]; simp, by omega, rfl, rfl⟩
      · have hge : ¬ (q : Int) < ((y - x : Nat) : Int) := of_decide_eq_false hge
        obtain rfl : q = y - x := by omega
        intro y63 hy63
        have exy : x + (y - x) = y := by omega
        rw [exy]
        have fin : y63 false w58 := hy63 _ _ (bF rfl ⟨i - (l + 1), by omega, l + 1, y, own, ib8, _, _, by rw [exy], by omega, by omega, rfl, h2, by omega, fun h => ?_, T48, hok, F48, hown, hO', hM'⟩)
        · refine bc (fun h => ?_) fun _ => fin
          have h : (l : Int) + 1 < (i : Int) := of_decide_eq_true h
          have : decide (((y : Nat) : Int) ≤ (l : Int) + 1) = false := decide_eq_false (by
            rcases Nat.lt_or_ge (l + 1) x with h5 | h5
            · omega
            · have := hpr (by omega) (by omega); omega)
          rw [this]; exact fin
        · rcases Nat.lt_or_ge (l + 1) x with h5 | h5
          · omega
          · have := hpr (by omega) (by omega); omega
    · have hge : ¬ (l : Int) < (i : Int) := of_decide_eq_false hge
      have : x = i := by omega
      exact ⟨by rw [this]; simp, below _ f45⟩
end Go.Proofs.Ytnimejocaaekaaa.Lock
