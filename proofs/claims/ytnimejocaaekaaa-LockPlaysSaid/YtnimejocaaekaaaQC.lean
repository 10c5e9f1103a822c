/- The locks' reference: rising numbers with one more. -/
import Derived.Test.YtnimejocaaekaaaQB
namespace Go.Proofs.Ytnimejocaaekaaa.Lock
open Go Go.V
open Go.Proofs.Ytnimejocaaekaaa.VC
open Go.Proofs.Try (prog)
set_option linter.unusedVariables false
set_option linter.unusedSimpArgs false
set_option maxRecDepth 20000

def rstep (n : Int) (r : List Int × Bool) (x : Int) : List Int × Bool := if (!r.2 && decide (n < x)) = true then (r.1 ++ [n] ++ [x], true) else (r.1 ++ [x], r.2)
def rst (n : Int) (l : List Int) : List Int × Bool := l.foldl (rstep n) ([], false)
def risL (l : List Int) (n : Int) : List Int := if n ∈ l then l else if (rst n l).2 = true then (rst n l).1 else (rst n l).1 ++ [n]
theorem rst_snoc (n : Int) (l : List Int) (x : Int) : rst n (l ++ [x]) = rstep n (rst n l) x := by simp [rst, List.foldl_append]
theorem rst_len (n : Int) (l : List Int) : (rst n l).1.length ≤ 2 * l.length := by
  have key : ∀ (l : List Int) (r : List Int × Bool), (l.foldl (rstep n) r).1.length ≤ r.1.length + 2 * l.length := by
    intro l
    induction l with
    | nil => intro r; simp
    | cons x l ih =>
      intro r
      rw [List.foldl_cons]
      have h1 := ih (rstep n r x)
      have h2 : (rstep n r x).1.length ≤ r.1.length + 2 := by
        unfold rstep
        split <;> simp only [List.length_append, List.length_singleton] <;> omega
      rw [List.length_cons]; omega
  have := key l ([], false)
  unfold rst
  simpa using this

theorem rising_c {w : World} {lA : Option Addr} {lC : Nat} {l : List Int} (hr : Row w lA (l.map I64)) (hl : l.length ≤ 100000) (n : Int) :
    Calls prog 34 #[.slice lA l.length lC, I64 n] w fun e w' => Fr [] w w' ∧ ∃ p c, e = .returned (.slice p (risL l n).length c) ∧ Row w' p ((risL l n).map I64) ∧ (p = lA ∨ ∀ ad, p = some ad → w.heap.size ≤ ad.block) := by
  refine rhizomeref16_rising.link ⟨fun m p k c b i' w' => ∃ i : Nat, i' = i ∧ i ≤ l.length ∧ m = l.length - i ∧ n ∉ l.take i ∧ b = (rst n (l.take i)).2 ∧ k = (rst n (l.take i)).1.length ∧ OwnZ w' w.heap.size 1 p k c ((rst n (l.take i)).1.map I64) ∧ Fr [] w w', l.length, ⟨0, rfl, by omega, rfl, by simp, rfl, rfl, OwnZ.nil _ _ _, Fr.refl _ _⟩, ?_⟩
  rintro m p k c b i' w9 ⟨i, rfl, hi, rfl, hno, rfl, rfl, o9, f9⟩
  have hrl := rst_len n (l.take i)
  rw [List.length_take] at hrl
  have app : ∀ (ys : List Int) (u : World) (q : Option Addr) (cq : Nat) (x : Int) (K : World → Option Addr → Nat → Nat → Prop), OwnZ u w.heap.size 1 q ys.length cq (ys.map I64) → Fr [] w u → ys.length ≤ 300000 →
      (∀ u' q' c', Fr [] w u' → OwnZ u' w.heap.size 1 q' (ys ++ [x]).length c' ((ys ++ [x]).map I64) → K u' q' (ys ++ [x]).length c') → ∀ k1 : Nat, appendP false [] [k1] [k1] u q ys.length cq 1 [I64 x] 1 8 [I64 0] K := fun ys u q cq x K o f hy hK k1 => by
    refine append_z (xs := [I64 x]) o rfl (fun u hu => by rw [List.mem_singleton.1 hu]; rfl) f.size rfl (fun h => by cases h) (fun ad _ => by simp) (fun ad hp hm => hm) (by omega) (by omega) fun u' q' c' f' n' o' d' => ?_
    have e : ys.length + 1 = (ys ++ [x]).length := by simp
    have e2 : ys.map I64 ++ [I64 x] = (ys ++ [x]).map I64 := by simp
    rw [e2, e] at o'
    rw [e]
    exact hK u' q' c' (f.trans f' (fun y hy => .inr (by
      rw [List.nil_append] at hy
      obtain ⟨ad, hp, rfl⟩ := (g_mem_pb _ _).1 hy
      exact (o.lt hp).1))) o'
  refine bc (fun hlt => ?_) fun hge => ?_
  · have hlt : (i : Int) < (l.length : Int) := of_decide_eq_true hlt
    have hlt' : i < l.length := by omega
    have rr : ∀ u, Fr [] w u → Row u lA (l.map kenc) := fun u f => g_row f hr fun ad _ _ => by simp
    have htk : l.take (i + 1) = l.take i ++ [l[i]] := by rw [List.take_add_one, List.getElem?_eq_getElem hlt']; rfl
    refine rd kenc (rr _ f9) rfl hlt' hlt (bc (fun he => ?_) fun hne y13 hy13 y29 hy29 => ?_)
    · have he : l[i] = n := of_decide_eq_true he
      have : risL l n = l := by unfold risL; rw [if_pos (by rw [← he]; exact List.getElem_mem hlt')]
      rw [this]
      exact ⟨f9, lA, lC, rfl, rr _ f9, .inl rfl⟩
    have hne : l[i] ≠ n := of_decide_eq_false hne
    have hno' : n ∉ l.take (i + 1) := by
      intro hm
      rw [htk] at hm
      rcases List.mem_append.1 hm with hm | hm
      · exact hno hm
      · exact hne (List.mem_singleton.1 hm).symm
    have fin : ∀ (ys : List Int) (b : Bool), rst n (l.take (i + 1)) = (ys ++ [l[i]], b) → ys.length ≤ 300000 → ∀ u q cq, OwnZ u w.heap.size 1 q ys.length cq (ys.map I64) → Fr [] w u → y13 q ys.length cq b u := fun ys b hrs hy u q cq o f => by
      refine hy13 _ _ _ _ _ (rd kenc (rr _ f) rfl hlt' hlt fun k21 => app ys u q cq l[i] _ o f hy (fun u' q' c' f' o' => ⟨l.length - (i + 1), by omega, i + 1, by rw [wrapi (by omega) (by omega)]; simp, by omega, rfl, hno', by rw [hrs], by rw [hrs], by rw [hrs]; exact o', f'⟩) k21)
    have main : ∀ bb : Bool, bb = (!(rst n (l.take i)).2 && decide (n < l[i])) → y29 bb w9 := fun bb hbb => by
      refine hy29 _ _ (bc (fun ht k32 => ?_) fun hf => ?_)
      · refine app _ w9 p c n _ o9 f9 (by omega) (fun u' q' c' f' o' => fin _ true ?_ ?_ u' q' c' o' f') k32
        · rw [htk, rst_snoc]; unfold rstep; rw [if_pos (by rw [← hbb]; exact ht)]
        · rw [List.length_append, List.length_singleton]; omega
      · exact fin _ _ (by rw [htk, rst_snoc]; unfold rstep; rw [if_neg (by rw [← hbb, hf]; decide)]) (by omega) w9 p c o9 f9
    refine bc (fun hd => rd kenc (rr _ f9) rfl hlt' hlt (main _ (by rw [hd, Bool.true_and]))) fun hd => main _ (by rw [hd]; rfl)
  · have hge : ¬ (i : Int) < (l.length : Int) := of_decide_eq_false hge
    rw [List.take_of_length_le (by omega)] at hno o9 ⊢
    intro y41 hy41
    have hr1 : ∀ r, r = (if (rst n l).2 = true then (rst n l).1 else (rst n l).1 ++ [n]) → risL l n = r := fun r h => by unfold risL; rw [if_neg hno, h]
    refine bc (fun hd k48 => ?_) fun hd => ?_
    · refine app _ w9 p c n _ o9 f9 (by rw [List.take_of_length_le (by omega)] at hrl; omega) (fun u' q' c' f' o' => hy41 _ _ _ _ ?_) k48
      rw [hr1 ((rst n l).1 ++ [n]) (by rw [if_neg (by simpa using hd)])]
      exact ⟨f', q', c', rfl, o'.row, .inr fun ad hp => (o'.lt hp).1⟩
    · refine hy41 _ _ _ _ ?_
      rw [hr1 (rst n l).1 (by rw [if_pos (by simpa using hd)])]
      exact ⟨f9, p, c, rfl, o9.row, .inr fun ad hp => (o9.lt hp).1⟩
end Go.Proofs.Ytnimejocaaekaaa.Lock
