/- The locks: Ints, the law's awake. -/
import Derived.Test.YtnimejocaaekaaaQT
import Derived.Test.YtnimejocaaekaaaQ8
import Derived.Test.YtnimejocaaekaaaC5
import Derived.Test.YtnimejocaaekaaaC6
namespace Go.Proofs.Ytnimejocaaekaaa.Lock
open Go Go.V
open Go.Proofs.Ytnimejocaaekaaa.VC
open Go.Proofs.Try (prog)
set_option linter.unusedVariables false
set_option linter.unusedSimpArgs false
set_option maxRecDepth 20000

theorem ints_c {w : World} {p q : Option Addr} {cp cq : Nat} {l : List Int} (hp : Row w p (l.map I64)) (hq : Row w q (l.map I64)) (hl : l.length < 9223372036854775807) :
    Calls prog 18 #[.slice p l.length cp, .slice q l.length cq] w fun e w' => e = .returned (.bool true) ∧ Fr [] w w' := by
  refine rhizomeref01_Ints.link (bF (by simp) ⟨fun m n w' => ∃ i : Nat, n = i ∧ i ≤ l.length ∧ m = l.length - i ∧ Fr [] w w', l.length, ⟨0, rfl, by omega, rfl, Fr.refl _ _⟩, ?_⟩)
  rintro m n w5 ⟨i, rfl, hi, rfl, f5⟩
  refine bc (fun hlt => ?_) fun _ => ⟨rfl, f5⟩
  have hlt : (i : Int) < (l.length : Int) := of_decide_eq_true hlt
  have hlt' : i < l.length := by omega
  refine rd kenc (g_row f5 hp fun ad _ _ => by simp) rfl hlt' hlt ?_
  refine rd kenc (g_row f5 hq fun ad _ _ => by simp) rfl hlt' hlt ?_
  exact bF (by simp) ⟨l.length - (i + 1), by omega, fun w14 st => ⟨i + 1, by rw [wrapi (by omega) (by omega)]; simp, by omega, rfl, f5.trans' st.fr⟩⟩

/-! The model, to be reckoned with. -/
def fitsB (H : Holders) (a : AskM) : Bool := (List.range 16).all fun n => match H ((n : Int) + 1) with
  | none => true
  | some al => decide ((n : Int) + 1 = a.1) || (!al && !a.2)
theorem fits_iff {H : Holders} (hr : ∀ s al, H s = some al → 1 ≤ s ∧ s ≤ 16) (a : AskM) : fits H a ↔ fitsB H a = true := by
  unfold fitsB
  rw [List.all_eq_true]
  constructor
  · intro h n hn
    cases hs : H ((n : Int) + 1) with
    | none => rfl
    | some al =>
      by_cases he : (n : Int) + 1 = a.1
      · simp [he]
      · have := h _ _ hs he
        simp [this.1, this.2]
  · intro h s al hs hne
    have hb := hr s al hs
    have := h (s - 1).toNat (List.mem_range.2 (by omega))
    have e : (((s - 1).toNat : Nat) : Int) + 1 = s := by omega
    simp only [e, hs] at this
    simp [hne] at this
    exact this
def askB (W : Int → Option Int) (M : Int → IM) (s i : Int) (alone : Bool) : (Int → Option Int) × (Int → IM) × Int :=
  if s < 1 ∨ 16 < s then (W, M, 1) else if (W s).isSome = true then (W, M, 171) else
  if (((M i).H s).isSome && (((M i).H s).getD false || !alone)) = true then (W, M, 0) else
  if (fitsB (M i).H (s, alone) && (((M i).H s).isSome || (M i).Q.isEmpty)) = true then (W, setM M i ⟨hold (M i).H (s, alone), (M i).Q⟩, 0) else
  (setW W s (some i), setM M i ⟨(M i).H, putQ (M i).H (M i).Q (s, alone)⟩, 160)
theorem ask_eq {W : Int → Option Int} {M : Int → IM} (ok : TOk W M) (s i : Int) (alone : Bool) : ask W M s i alone = askB W M s i alone := by
  unfold ask askB
  have h1 : (((M i).H s).isSome = true ∧ (((M i).H s).getD false = true ∨ alone = false)) ↔ (((M i).H s).isSome && (((M i).H s).getD false || !alone)) = true := by simp
  have h2 : (fits (M i).H (s, alone) ∧ (((M i).H s).isSome = true ∨ (M i).Q = [])) ↔ (fitsB (M i).H (s, alone) && (((M i).H s).isSome || (M i).Q.isEmpty)) = true := by
    rw [fits_iff (ok.rh i)]; simp
  simp only [h1, h2]
def grantB : Holders → List AskM → IM × List Int
  | H, [] => (⟨H, []⟩, [])
  | H, a :: q => if fitsB H a = true then ((grantB (hold H a) q).1, a.1 :: (grantB (hold H a) q).2) else (⟨H, a :: q⟩, [])
theorem hold_rh {H : Holders} (hr : ∀ s al, H s = some al → 1 ≤ s ∧ s ≤ 16) {a : AskM} (ha : 1 ≤ a.1 ∧ a.1 ≤ 16) : ∀ s al, hold H a s = some al → 1 ≤ s ∧ s ≤ 16 := fun s al h => by
  unfold hold at h
  split at h
  · rename_i e; rw [e]; exact ha
  · exact hr s al h
theorem grant_eq : ∀ (q : List AskM) (H : Holders), (∀ s al, H s = some al → 1 ≤ s ∧ s ≤ 16) → (∀ a ∈ q, 1 ≤ a.1 ∧ a.1 ≤ 16) → grant H q = grantB H q
  | [], H, _, _ => rfl
  | a :: q, H, hr, hq => by
    unfold grant grantB
    rw [grant_eq q (hold H a) (hold_rh hr (hq a List.mem_cons_self)) (fun b hb => hq b (List.mem_cons_of_mem _ hb))]
    simp only [fits_iff hr]
def relB (s : Int) (I : IM) : IM × List Int := grantB (drop I.H s) (I.Q.filter fun a => !decide (a.1 = s))
theorem rel_eq {W : Int → Option Int} {M : Int → IM} (ok : TOk W M) (s i : Int) : rel s (M i) = relB s (M i) :=
  grant_eq _ _ (fun t al h => by
    unfold drop at h; split at h
    · cases h
    · exact ok.rh i t al h) (fun a ha => ok.rq i a (List.mem_filter.1 ha).1)
/-- Where just one item has to do with a session. -/
theorem outs_one {M : Int → IM} {s i : Int} {K : List Int} (hnd : K.Pairwise (· < ·)) (hi : i ∈ K) (ho : ∀ j, j ≠ i → ¬ inv M s j) : outs M s K = (relI M s i).2 := by
  induction K with
  | nil => cases hi
  | cons k K ih =>
    rw [List.pairwise_cons] at hnd
    have none : ∀ j, j ≠ i → (relI M s j).2 = [] := fun j hj => by unfold relI; rw [if_neg (ho j hj)]
    show (relI M s k).2 ++ outs M s K = _
    rcases List.mem_cons.1 hi with e | e
    · subst e
      have : outs M s K = [] := by
        unfold outs
        rw [List.flatMap_eq_nil_iff]
        exact fun j hj => none j (by have := hnd.1 j hj; omega)
      rw [this, List.append_nil]
    · rw [none k (by have := hnd.1 i e; omega), List.nil_append]
      exact ih hnd.2 e

section
abbrev ST := (Int → Option Int) × (Int → IM) × Int
def s0 : ST := (fun _ => none, fun _ => IM.none, 0)
def stepB (x : ST) (s i : Int) (al : Bool) : ST := askB x.1 x.2.1 s i al
def s5 : ST := stepB (stepB (stepB (stepB (stepB s0 1 5 false) 2 5 false) 3 5 true) 4 5 false) 1 5 true
end

set_option maxHeartbeats 1000000 in
theorem awake_c (w : World) : Calls prog 10 #[] w fun e w' => e = .returned (.bool true) ∧ Fr [] w w' := by
  refine rhizomelaw16_awake.link (_u := ()) ((new_c w).mono ?_)
  rintro e w2 ⟨own, tb, mi, mw, rfl, f2, hown, T2⟩
  refine ⟨_, rfl, fun y4 hy4 => bF rfl ?_⟩
  have step : ∀ {x : ST} {u : World} {own' : List Nat} {ib : Int → Option IB} {N : Nat} {s : Int} {al : Bool}, TabAt u own' tb mi mw ib N x.1 x.2.1 → TOk x.1 x.2.1 → Fr [] w u → (∀ y ∈ own', w.heap.size ≤ y) →
      Calls prog 12 #[D tb, I64 s, I64 5, .bool al] u fun e u' => e = .returned (I64 (stepB x s 5 al).2.2) ∧ Fr [] w u' ∧ (∃ own' ib', (∀ y ∈ own', w.heap.size ≤ y) ∧ TabAt u' own' tb mi mw ib' (N + 1) (stepB x s 5 al).1 (stepB x s 5 al).2.1) ∧ TOk (stepB x s 5 al).1 (stepB x s 5 al).2.1 := by
    intro x u own' ib N s al T ok f ho
    have hk := ask_ok ok s 5 al
    refine (ask_c T ok s (by unfold inR; omega) al).mono ?_
    rw [ask_eq ok] at hk ⊢
    rintro e u' ⟨rfl, own2, ib2, f', _, hn, T'⟩
    have z := f.size
    exact ⟨rfl, f.trans f' (fun y hy => .inr (ho y hy)), ⟨own2, ib2, fun y hy => by
      rcases hn y hy with h | h
      · exact ho y h
      · omega, T'⟩, hk⟩
  refine (step (x := s0) (s := 1) (al := false) T2 TOk.empty f2 hown).mono ?_
  rintro e w28 ⟨rfl, f28, ⟨own3, ib3, ho3, T3⟩, ok3⟩
  refine ⟨_, rfl, bF (by rfl) ((step (s := 2) (al := false) T3 ok3 f28 ho3).mono ?_)⟩
  rintro e w31 ⟨rfl, f31, ⟨own4, ib4, ho4, T4⟩, ok4⟩
  refine ⟨_, rfl, bF (by rfl) ((step (s := 3) (al := true) T4 ok4 f31 ho4).mono ?_)⟩
  rintro e w34 ⟨rfl, f34, ⟨own5, ib5, ho5, T5⟩, ok5⟩
  refine ⟨_, rfl, bF (by rfl) ((step (s := 4) (al := false) T5 ok5 f34 ho5).mono ?_)⟩
  rintro e w37 ⟨rfl, f37, ⟨own6, ib6, ho6, T6⟩, ok6⟩
  refine ⟨_, rfl, bF (by rfl) ((step (s := 1) (al := true) T6 ok6 f37 ho6).mono ?_)⟩
  rintro e w40 ⟨rfl, f40, ⟨own7, ib7, ho7, T7⟩, ok7⟩
  refine ⟨_, rfl, hy4 _ _ (bF (by rfl) ((release_c T7 ok7 (by omega) 2).mono ?_))⟩
  clear step T3 T4 T5 T6 ok3 ok4 ok5 ok6
  rintro e w8 (⟨hb, _⟩ | ⟨_, p, c, K, ib8, rfl, hK, hKi, f8, row8, hp8, T8⟩)
  · omega
  have ok7' : TOk s5.1 s5.2.1 := ok7
  have hin : inv s5.2.1 2 5 := .inl (by rfl)
  have hone : outs s5.2.1 2 K = [1] := by
    rw [outs_one hK (hKi 5 hin) (fun j hj => ?_)]
    · unfold relI
      rw [if_pos hin, rel_eq ok7']
      rfl
    · have e : s5.2.1 j = IM.none := by
        show (if j = 5 then _ else if j = 5 then _ else if j = 5 then _ else if j = 5 then _ else if j = 5 then _ else IM.none) = _
        simp [hj]
      unfold inv
      rw [e]
      rintro (h | ⟨a, ha, _⟩)
      · cases h
      · cases ha
  have hone2 : outs (stepB (stepB (stepB (stepB (stepB s0 1 5 false) 2 5 false) 3 5 true) 4 5 false) 1 5 true).2.1 2 K = [1] := hone
  rw [hone2] at row8 ⊢
  have F8 : Fr [] w w8 := f40.trans f8 (fun y hy => .inr (ho7 y hy))
  refine ⟨_, _, _, _, rfl, fun y13 hy13 => bT rfl fun k18 w19 st19 b19 => ?_⟩
  have row19 : Row w19 (some ⟨k18, 0, none⟩) ([1].map I64) := Row.all b19 (fun u hu => by simp at hu; subst hu; rfl)
  refine (ints_c (l := [1]) (g_row st19.fr row8 (fun ad _ _ => by simp)) row19 (by decide)).mono ?_
  rintro e w23 ⟨rfl, f23⟩
  exact ⟨_, rfl, hy13 _ _ ⟨rfl, (F8.trans' st19.fr).trans' f23⟩⟩
end Go.Proofs.Ytnimejocaaekaaa.Lock
