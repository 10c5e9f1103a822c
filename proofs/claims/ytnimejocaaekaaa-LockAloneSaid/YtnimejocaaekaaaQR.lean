/- LockRow: the plain law and the law's own walk. -/
import Derived.Test.YtnimejocaaekaaaQA
import Derived.Test.YtnimejocaaekaaaL3
namespace Go.Proofs.Ytnimejocaaekaaa.Lock
open Go Go.V
open Go.Proofs.Ytnimejocaaekaaa.VC
open Go.Proofs.Try (prog)
set_option linter.unusedVariables false
set_option linter.unusedSimpArgs false
set_option maxRecDepth 20000

/-- The sessions l+1 .. x hold it. -/
def RH (A : List Bool) (l x : Nat) : Holders := fun s => if (l : Int) < s ∧ s ≤ (x : Int) then some (A.getD (s - 1).toNat false) else none
/-- The sessions x+1 .. n wait. -/
def RQ (A : List Bool) (x n : Nat) : List AskM := (List.range' x (n - x)).map fun (k : Nat) => ((k : Int) + 1, A.getD k false)
theorem RQ_nil (A : List Bool) (n : Nat) : RQ A n n = [] := by simp [RQ]
theorem RQ_cons (A : List Bool) {x n : Nat} (h : x < n) : RQ A x n = ((x : Int) + 1, A.getD x false) :: RQ A (x + 1) n := by
  unfold RQ
  rw [show n - x = (n - (x + 1)) + 1 by omega, List.range'_succ]; rfl
theorem RQ_snoc (A : List Bool) {x n : Nat} (h : x ≤ n) : RQ A x (n + 1) = RQ A x n ++ [((n : Int) + 1, A.getD n false)] := by
  unfold RQ
  rw [show n + 1 - x = (n - x) + 1 by omega, List.range'_concat, List.map_append, List.map_singleton, show x + 1 * (n - x) = n by omega]
theorem RQ_mem {A : List Bool} {x n : Nat} {a : AskM} (h : a ∈ RQ A x n) : (x : Int) < a.1 ∧ a.1 ≤ (n : Int) := by
  obtain ⟨k, hk, rfl⟩ := List.mem_map.1 h
  rw [List.mem_range'_1] at hk
  show (x : Int) < (k : Int) + 1 ∧ (k : Int) + 1 ≤ (n : Int)
  omega
theorem RH_hold (A : List Bool) {l x : Nat} (h : l ≤ x) : hold (RH A l x) ((x : Int) + 1, A.getD x false) = RH A l (x + 1) := by
  funext s
  unfold hold RH
  by_cases hs : s = (x : Int) + 1
  · subst hs
    rw [if_pos rfl, if_neg (by omega), if_pos (by omega)]
    have : ((x : Int) + 1 - 1).toNat = x := by omega
    rw [this]; simp
  · rw [if_neg (by exact hs)]
    by_cases h2 : (l : Int) < s ∧ s ≤ (x : Int)
    · rw [if_pos h2, if_pos (by omega)]
    · rw [if_neg h2, if_neg (by omega)]
theorem RH_drop (A : List Bool) (l x : Nat) : drop (RH A l x) ((l : Int) + 1) = RH A (l + 1) x := by
  funext s
  unfold drop RH
  by_cases hs : s = (l : Int) + 1
  · rw [if_pos hs, if_neg (by omega)]
  · rw [if_neg hs]
    by_cases h2 : (l : Int) < s ∧ s ≤ (x : Int)
    · rw [if_pos h2, if_pos (by omega)]
    · rw [if_neg h2, if_neg (by omega)]
theorem grant_row (A : List Bool) {l n : Nat} : ∀ (d x : Nat), x + d = n → l ≤ x → ∃ x', x ≤ x' ∧ x' ≤ n ∧ grant (RH A l x) (RQ A x n) = (⟨RH A l x', RQ A x' n⟩, (List.range' x (x' - x)).map fun (k : Nat) => (k : Int) + 1) ∧ (l = x → x < n → x < x')
  | 0, x, h, hl => by
    obtain rfl : x = n := by omega
    exact ⟨x, Nat.le_refl _, Nat.le_refl _, by rw [RQ_nil]; simp [grant], fun _ h => absurd h (Nat.lt_irrefl _)⟩
  | d + 1, x, h, hl => by
    rw [RQ_cons A (by omega : x < n)]
    unfold grant
    split
    · obtain ⟨x', h1, h2, h3, h4⟩ := grant_row A (l := l) (n := n) d (x + 1) (by omega) (by omega)
      rw [RH_hold A hl, h3]
      refine ⟨x', by omega, h2, ?_, fun _ _ => by omega⟩
      rw [show x' - x = (x' - (x + 1)) + 1 by omega, List.range'_succ]; rfl
    · rename_i hf
      refine ⟨x, Nat.le_refl _, by omega, by rw [RQ_cons A (by omega : x < n)]; simp, fun e _ => ?_⟩
      subst e
      refine absurd (fun s al hs _ => ?_) hf
      unfold RH at hs
      rw [if_neg (by omega)] at hs; cases hs

/-- Just one item is in use. -/
def Only (M : Int → IM) (item : Int) : Prop := ∀ j, j ≠ item → M j = IM.none
theorem Only.set {M : Int → IM} {item : Int} (h : Only M item) (I : IM) : Only (setM M item I) item := fun j hj => by unfold setM; rw [if_neg hj]; exact h j hj
def FitP (A : List Bool) (g i : Nat) : Prop := i = g ∧ (i = 0 ∨ (A.getD i false = false ∧ ∀ k, k < i → A.getD k false = false))

theorem ask_row {W : Int → Option Int} {M : Int → IM} {item : Int} {A : List Bool} {g i : Nat} (ok : TOk W M) (ho : Only M item) (hM : M item = ⟨RH A 0 g, RQ A g i⟩) (hg : g ≤ i) (hg0 : 0 < i → 0 < g) (hi : i < 16) :
    (FitP A g i → (ask W M ((i : Int) + 1) item (A.getD i false)).2.2 = 0 ∧ (ask W M ((i : Int) + 1) item (A.getD i false)).2.1 = setM M item ⟨RH A 0 (g + 1), RQ A (g + 1) (i + 1)⟩) ∧
    (¬ FitP A g i → (ask W M ((i : Int) + 1) item (A.getD i false)).2.2 = 160 ∧ (ask W M ((i : Int) + 1) item (A.getD i false)).2.1 = setM M item ⟨RH A 0 g, RQ A g (i + 1)⟩) := by
  have hW : W ((i : Int) + 1) = none := by
    cases h : W ((i : Int) + 1) with
    | none => rfl
    | some j =>
      obtain ⟨al, hm⟩ := (ok.one _ j).1 h
      by_cases hj : j = item
      · subst hj
        rw [hM] at hm
        have := (RQ_mem hm).2
        simp at this; omega
      · rw [ho j hj] at hm; cases hm
  have hH : RH A 0 g ((i : Int) + 1) = none := by unfold RH; rw [if_neg (by omega)]
  have hput : putQ (RH A 0 g) (RQ A g i) ((i : Int) + 1, A.getD i false) = RQ A g (i + 1) := by
    unfold putQ placeQ
    rw [hH]
    simp [RQ_snoc A hg]
  have hfit : (fits (RH A 0 g) ((i : Int) + 1, A.getD i false) ∧ ((RH A 0 g ((i : Int) + 1)).isSome = true ∨ RQ A g i = [])) ↔ FitP A g i := by
    rw [hH]
    constructor
    · rintro ⟨h1, h2 | h2⟩
      · cases h2
      · have hgi : i = g := by
          have := congrArg List.length h2
          simp [RQ] at this; omega
        refine ⟨hgi, ?_⟩
        by_cases h0 : i = 0
        · exact .inl h0
        · right
          have key : ∀ k, k < i → A.getD k false = false ∧ A.getD i false = false := fun k hk =>
            h1 ((k : Int) + 1) (A.getD k false) (by
              unfold RH; rw [if_pos (by omega)]
              congr 2; omega) (by show ((k : Int) + 1) ≠ (i : Int) + 1; omega)
          exact ⟨(key 0 (by omega)).2, fun k hk => (key k hk).1⟩
    · rintro ⟨rfl, h2⟩
      refine ⟨fun s al hs hne => ?_, .inr (RQ_nil A i)⟩
      unfold RH at hs
      split at hs
      · rename_i hr
        injection hs with hs
        rcases h2 with h2 | ⟨h2, h3⟩
        · omega
        · exact ⟨by rw [← hs]; exact h3 _ (by omega), h2⟩
      · cases hs
  have base : ∀ {x : (Int → Option Int) × (Int → IM) × Int}, (ask W M ((i : Int) + 1) item (A.getD i false)) = x → True := fun _ => trivial
  constructor
  · intro hf
    have h2 := hfit.2 hf
    have e : ask W M ((i : Int) + 1) item (A.getD i false) = (W, setM M item ⟨hold (M item).H ((i : Int) + 1, A.getD i false), (M item).Q⟩, 0) := by
      unfold ask
      rw [if_neg (by omega), if_neg (by rw [hW]; decide), if_neg (by rw [hM]; simp [hH]), if_pos (by rw [hM]; exact h2)]
    rw [e, hM]
    obtain rfl := hf.1
    refine ⟨rfl, ?_⟩
    show setM M item ⟨hold (RH A 0 i) ((i : Int) + 1, A.getD i false), RQ A i i⟩ = _
    rw [RH_hold A (by omega), RQ_nil, RQ_nil]
  · intro hf
    have e : ask W M ((i : Int) + 1) item (A.getD i false) = (setW W ((i : Int) + 1) (some item), setM M item ⟨(M item).H, putQ (M item).H (M item).Q ((i : Int) + 1, A.getD i false)⟩, 160) := by
      unfold ask
      rw [if_neg (by omega), if_neg (by rw [hW]; decide), if_neg (by rw [hM]; simp [hH]), if_neg (by rw [hM]; exact fun h => hf (hfit.1 h))]
    rw [e, hM]
    exact ⟨rfl, by show setM M item ⟨RH A 0 g, putQ (RH A 0 g) (RQ A g i) ((i : Int) + 1, A.getD i false)⟩ = _; rw [hput]⟩

theorem rel_row {M : Int → IM} {item : Int} {A : List Bool} {l x n : Nat} (ho : Only M item) (hM : M item = ⟨RH A l x, RQ A x n⟩) (hl : l < x) (hx : x ≤ n) {K : List Int} (hK : K.Pairwise (· < ·)) (hKi : ∀ i, inv M ((l : Int) + 1) i → i ∈ K) :
    ∃ x', x ≤ x' ∧ x' ≤ n ∧ outs M ((l : Int) + 1) K = ((List.range' x (x' - x)).map fun (k : Nat) => (k : Int) + 1) ∧ Only (relM M ((l : Int) + 1) K) item ∧ relM M ((l : Int) + 1) K item = ⟨RH A (l + 1) x', RQ A x' n⟩ ∧ (l + 1 = x → x < n → x < x') := by
  have hin : inv M ((l : Int) + 1) item := .inl (by rw [hM]; show (RH A l x ((l : Int) + 1)).isSome = true; unfold RH; rw [if_pos (by omega)]; rfl)
  have hno : ∀ j, j ≠ item → ¬ inv M ((l : Int) + 1) j := fun j hj h => by
    unfold inv at h
    rw [ho j hj] at h
    rcases h with h | ⟨a, ha, _⟩
    · cases h
    · cases ha
  obtain ⟨x', h1, h2, h3, h4⟩ := grant_row A (l := l + 1) (n := n) (n - x) x (by omega) (by omega)
  have hrel : relI M ((l : Int) + 1) item = (⟨RH A (l + 1) x', RQ A x' n⟩, (List.range' x (x' - x)).map fun (k : Nat) => (k : Int) + 1) := by
    unfold relI
    rw [if_pos hin]
    unfold rel
    rw [hM]
    show grant (drop (RH A l x) ((l : Int) + 1)) ((RQ A x n).filter _) = _
    rw [RH_drop, List.filter_eq_self.2 (fun a ha => by have := (RQ_mem ha).1; simp; omega), h3]
  refine ⟨x', h1, h2, ?_, fun j hj => ?_, ?_, h4⟩
  · rw [outs_one hK (hKi _ hin) hno, hrel]
  · unfold relM
    split
    · unfold relI; rw [if_neg (hno j hj)]; exact ho j hj
    · exact ho j hj
  · unfold relM
    rw [if_pos (hKi _ hin), hrel]

theorem some_c {w : World} {p : Option Addr} {c : Nat} {l : List Bool} (h : Row w p (l.map .bool)) (hl : l.length ≤ 1000) : Calls prog 11 #[.slice p l.length c] w fun e w' => w' = w ∧ e = .returned (.bool (l.any id)) := by
  refine rhizomelaw16_some.link ⟨fun m n w' => ∃ i : Nat, n = i ∧ i ≤ l.length ∧ m = l.length - i ∧ w' = w ∧ (l.take i).any id = false, l.length, ⟨0, rfl, by omega, rfl, rfl, rfl⟩, ?_⟩
  rintro m n w5 ⟨i, rfl, hi, rfl, rfl, hno⟩
  refine bc (fun hlt => ?_) fun hge => ?_
  · have hlt : (i : Int) < (l.length : Int) := of_decide_eq_true hlt
    have hlt' : i < l.length := by omega
    refine rd Value.bool h rfl hlt' hlt (bc (fun ht => ⟨rfl, ?_⟩) fun hf => ⟨l.length - (i + 1), by omega, i + 1, by rw [wrapi (by omega) (by omega)]; simp, by omega, rfl, rfl, ?_⟩)
    · have : l.any id = true := List.any_eq_true.2 ⟨l[i], List.getElem_mem hlt', ht⟩
      rw [this]
    · rw [List.take_add_one, List.getElem?_eq_getElem hlt', List.any_append, hno]
      simp [hf]
  · have hge : ¬ (i : Int) < (l.length : Int) := of_decide_eq_false hge
    rw [List.take_of_length_le (by omega)] at hno
    exact ⟨rfl, by rw [hno]⟩
end Go.Proofs.Ytnimejocaaekaaa.Lock
