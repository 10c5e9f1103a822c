/- The locks' reference: rows of locks; At, Holds, Fit. -/
import Derived.Test.YtnimejocaaekaaaQM
import Derived.Test.YtnimejocaaekaaaQ1
import Derived.Test.YtnimejocaaekaaaC7
namespace Go.Proofs.Ytnimejocaaekaaa.Lock
open Go Go.V
open Go.Proofs.Ytnimejocaaekaaa.VC
open Go.Proofs.Try (prog)
set_option linter.unusedVariables false
set_option linter.unusedSimpArgs false
set_option maxRecDepth 20000

/-- A lock: a session, an item, alone or not. -/
structure LK where
  s : Int
  item : Int
  alone : Bool
def lcells (l : List LK) : List Value := l.flatMap fun a => [I64 a.s, I64 a.item, .bool a.alone]
theorem lcells_len (l : List LK) : (lcells l).length = l.length * 3 := by
  induction l with
  | nil => rfl
  | cons a l ih =>
    show (I64 a.s :: I64 a.item :: Value.bool a.alone :: lcells l).length = _
    simp only [List.length_cons]; omega
theorem lcells_get : ∀ (l : List LK) (i : Nat) (hi : i < l.length), (lcells l)[i * 3 + 0]? = some (I64 l[i].s) ∧ (lcells l)[i * 3 + 1]? = some (I64 l[i].item) ∧ (lcells l)[i * 3 + 2]? = some (.bool l[i].alone)
  | a :: l, 0, _ => ⟨rfl, rfl, rfl⟩
  | a :: l, i + 1, hi => by
    have := lcells_get l i (by simpa using hi)
    have e : lcells (a :: l) = I64 a.s :: I64 a.item :: .bool a.alone :: lcells l := rfl
    rw [e, show (i + 1) * 3 + 0 = i * 3 + 0 + 1 + 1 + 1 by omega, show (i + 1) * 3 + 1 = i * 3 + 1 + 1 + 1 + 1 by omega, show (i + 1) * 3 + 2 = i * 3 + 2 + 1 + 1 + 1 by omega]
    simpa using this
theorem addL (ad : Addr) (i m : Nat) : (ad.add (i * 3)).add m = ad.add (i * 3 + m) := by
  unfold Addr.add
  by_cases h0 : i = 0
  · simp [h0]
  · have h0' : ¬ i * 3 = 0 := by omega
    by_cases hm : m = 0
    · simp [h0, h0', hm]
    · simp [h0, h0', hm, Nat.add_assoc]
theorem lread {w : World} {p : Option Addr} {l : List LK} (h : Row w p (lcells l)) {i : Nat} (hi : i < l.length) : ∃ ad, p = some ad ∧ w.cell? ((ad.add (i * 3)).add 0) = some (I64 l[i].s) ∧ w.cell? ((ad.add (i * 3)).add 1) = some (I64 l[i].item) ∧ w.cell? ((ad.add (i * 3)).add 2) = some (.bool l[i].alone) := by
  obtain ⟨ad, hp⟩ := h.has (by rw [lcells_len]; omega)
  obtain ⟨g0, g1, g2⟩ := lcells_get l i hi
  exact ⟨ad, hp, by rw [addL]; exact h.get hp g0, by rw [addL]; exact h.get hp g1, by rw [addL]; exact h.get hp g2⟩

theorem rat_c {w : World} {hA : Option Addr} {hL hC : Nat} {qA : Option Addr} {qC : Nat} {q : List LK} (hq : Row w qA (lcells q)) (hl : q.length ≤ 1000000) (s : Int) :
    Calls prog 36 #[.agg #[.slice hA hL hC, .slice qA q.length qC], I64 s] w fun e w' => Fr [] w w' ∧ ∃ n : Int, e = .returned (I64 n) ∧ ((n = -1 ∧ ∀ a ∈ q, a.s ≠ s) ∨ ∃ i : Nat, n = i ∧ ∃ hi : i < q.length, q[i].s = s ∧ ∀ a ∈ q.take i, a.s ≠ s) := by
  refine rhizomeref16_At.link fun k1 => ⟨fun m n w' => ∃ i : Nat, n = i ∧ i ≤ q.length ∧ m = q.length - i ∧ Fr [] w w' ∧ ∀ a ∈ q.take i, a.s ≠ s, q.length, fun w4 st => ⟨0, rfl, by omega, rfl, st.fr, by simp⟩, ?_⟩
  rintro m n w8 ⟨i, rfl, hi, rfl, f8, hno⟩
  refine bc (fun hlt => ?_) fun hge => ?_
  · have hlt : (i : Int) < (q.length : Int) := of_decide_eq_true hlt
    have hlt' : i < q.length := by omega
    obtain ⟨ad, hp, c0, c1, c2⟩ := lread (g_row f8 hq fun ad _ _ => by simp) hlt'
    have e0 : (i : Int).toNat * 3 = i * 3 := by omega
    refine ⟨ad, hp, ⟨by omega, hlt⟩, _, by rw [e0]; exact c0, bc (fun ht => ⟨f8, _, rfl, .inr ⟨i, rfl, hlt', of_decide_eq_true ht, hno⟩⟩) fun hn => ⟨q.length - (i + 1), by omega, i + 1, by rw [wrapi (by omega) (by omega)]; simp, by omega, rfl, f8, fun a ha => ?_⟩⟩
    rw [List.take_add_one, List.getElem?_eq_getElem hlt'] at ha
    rcases List.mem_append.1 ha with ha | ha
    · exact hno a ha
    · simp at ha; subst ha; exact of_decide_eq_false hn
  · have hge : ¬ (i : Int) < (q.length : Int) := of_decide_eq_false hge
    rw [List.take_of_length_le (by omega)] at hno
    exact ⟨f8, _, rfl, .inl ⟨rfl, hno⟩⟩
/-- Does a session hold an item, and alone? -/
def lheld (l : List LK) (s item : Int) : Option Bool := (l.find? fun a => decide (a.s = s) && decide (a.item = item)).map (·.alone)
theorem lheld_take {l : List LK} {s item : Int} {i : Nat} (hi : i < l.length) (hno : ∀ a ∈ l.take i, ¬ (a.s = s ∧ a.item = item)) (h : l[i].s = s ∧ l[i].item = item) : lheld l s item = some l[i].alone := by
  unfold lheld
  have e : l = l.take i ++ l[i] :: l.drop (i + 1) := by simp
  have h1 : (l.take i).find? (fun a => decide (a.s = s) && decide (a.item = item)) = none := List.find?_eq_none.2 fun a ha => by simpa using fun h1 h2 => hno a ha ⟨h1, h2⟩
  have h2 : l.find? (fun a => decide (a.s = s) && decide (a.item = item)) = some l[i] := by
    conv => lhs; rw [e]
    rw [List.find?_append, h1, Option.none_or, List.find?_cons]
    simp [h]
  rw [h2]; rfl
theorem lheld_none {l : List LK} {s item : Int} (hno : ∀ a ∈ l, ¬ (a.s = s ∧ a.item = item)) : lheld l s item = none := by
  unfold lheld
  rw [List.find?_eq_none.2 fun a ha => by simpa using fun h1 h2 => hno a ha ⟨h1, h2⟩]; rfl

theorem rholds_c {w : World} {hA : Option Addr} {hC : Nat} {qA : Option Addr} {qL qC : Nat} {l : List LK} (hh : Row w hA (lcells l)) (hl : l.length ≤ 1000000) (s item : Int) :
    Calls prog 37 #[.agg #[.slice hA l.length hC, .slice qA qL qC], I64 s, I64 item] w fun e w' => Fr [] w w' ∧ e = .returned (.tuple #[.bool (lheld l s item).isSome, .bool ((lheld l s item).getD false)]) := by
  refine rhizomeref16_Holds.link fun k1 => ⟨fun m n w' => ∃ i : Nat, n = i ∧ i ≤ l.length ∧ m = l.length - i ∧ Fr [] w w' ∧ ∀ a ∈ l.take i, ¬ (a.s = s ∧ a.item = item), l.length, fun w4 st => ⟨0, rfl, by omega, rfl, st.fr, by simp⟩, ?_⟩
  rintro m n w8 ⟨i, rfl, hi, rfl, f8, hno⟩
  refine bc (fun hlt y10 hy10 => ?_) fun hge => ?_
  · have hlt : (i : Int) < (l.length : Int) := of_decide_eq_true hlt
    have hlt' : i < l.length := by omega
    obtain ⟨ad, hp, c0, c1, c2⟩ := lread (g_row f8 hh fun ad _ _ => by simp) hlt'
    have e0 : (i : Int).toNat * 3 = i * 3 := by omega
    have yes : l[i].s = s ∧ l[i].item = item → y10 true w8 := fun h => hy10 _ _ (bT rfl ⟨ad, hp, ⟨by omega, hlt⟩, _, by rw [e0]; exact c2, fun w15 st => ⟨f8.trans' st.fr, by rw [lheld_take hlt' hno h]; rfl⟩⟩)
    have no : ¬ (l[i].s = s ∧ l[i].item = item) → y10 false w8 := fun h => hy10 _ _ (bF rfl ⟨l.length - (i + 1), by omega, i + 1, by rw [wrapi (by omega) (by omega)]; simp, by omega, rfl, f8, fun a ha => by
      rw [List.take_add_one, List.getElem?_eq_getElem hlt'] at ha
      rcases List.mem_append.1 ha with ha | ha
      · exact hno a ha
      · simp at ha; subst ha; exact h⟩)
    refine ⟨ad, hp, ⟨by omega, hlt⟩, _, by rw [e0]; exact c0, bc (fun h1 => ⟨ad, hp, ⟨by omega, hlt⟩, _, by rw [e0]; exact c1, ?_⟩) fun h1 => no (fun h => of_decide_eq_false h1 h.1)⟩
    have h1 := of_decide_eq_true h1
    cases h2 : decide (l[i].item = item) with
    | true => exact yes ⟨h1, of_decide_eq_true h2⟩
    | false => exact no (fun h => of_decide_eq_false h2 h.2)
  · have hge : ¬ (i : Int) < (l.length : Int) := of_decide_eq_false hge
    rw [List.take_of_length_le (by omega)] at hno
    exact ⟨f8, by rw [lheld_none hno]; rfl⟩

/-- Does an ask fit? -/
def lfits (l : List LK) (a : LK) : Bool := l.all fun h => !(decide (h.item = a.item) && !decide (h.s = a.s) && (h.alone || a.alone))
theorem rfit_c {w : World} {hA : Option Addr} {hC : Nat} {qA : Option Addr} {qL qC : Nat} {l : List LK} (hh : Row w hA (lcells l)) (hl : l.length ≤ 1000000) (a : LK) :
    Calls prog 38 #[.agg #[.slice hA l.length hC, .slice qA qL qC], .agg #[I64 a.s, I64 a.item, .bool a.alone]] w fun e w' => Fr [] w w' ∧ e = .returned (.bool (lfits l a)) := by
  refine rhizomeref16_Fit.link fun k1 k2 => ⟨fun m n w' => ∃ i : Nat, n = i ∧ i ≤ l.length ∧ m = l.length - i ∧ Fr [] w w' ∧ lfits (l.take i) a = true, l.length, fun w4 st => ⟨0, rfl, by omega, rfl, st.fr, rfl⟩, ?_⟩
  rintro m n w9 ⟨i, rfl, hi, rfl, f9, hno⟩
  refine bc (fun hlt => ?_) fun hge => ?_
  · have hlt : (i : Int) < (l.length : Int) := of_decide_eq_true hlt
    have hlt' : i < l.length := by omega
    obtain ⟨ad, hp, c0, c1, c2⟩ := lread (g_row f9 hh fun ad _ _ => by simp) hlt'
    have e0 : (i : Int).toNat * 3 = i * 3 := by omega
    refine ⟨ad, hp, ⟨by omega, hlt⟩, _, _, _, ⟨by rw [e0]; exact c0, by rw [e0]; exact c1, by rw [e0]; exact c2, trivial⟩, fun k15 y16 hy16 => ?_⟩
    have main : ∀ bb, bb = (decide (l[i].item = a.item) && !decide (l[i].s = a.s) && (l[i].alone || a.alone)) → ∀ w', Fr [] w9 w' → y16 bb w' := fun bb hbb w' f' => hy16 _ _ (bc (fun ht => ⟨f9.trans' f', ?_⟩) fun hf => ⟨l.length - (i + 1), by omega, i + 1, by rw [wrapi (by omega) (by omega)]; simp, by omega, rfl, f9.trans' f', ?_⟩)
    · refine bc (fun h1 => bc (fun h2 => bc (fun h3 w22 st => main true ?_ _ st.fr) fun h3 w24 st => main a.alone ?_ _ st.fr) fun h2 w26 st => main false ?_ _ st.fr) fun h1 w28 st => main false ?_ _ st.fr
      · rw [h1, h2, h3]; rfl
      · rw [h1, h2, h3]; simp
      · rw [h2]; simp
      · rw [h1]; simp
    · have : lfits l a = false := by
        unfold lfits
        rw [List.all_eq_false]
        exact ⟨l[i], List.getElem_mem hlt', by rw [← hbb, ht]; simp⟩
      rw [this]
    · unfold lfits at hno ⊢
      rw [List.take_add_one, List.getElem?_eq_getElem hlt', List.all_append, hno]
      simp only [Option.toList_some, List.all_cons, List.all_nil, Bool.and_true, Bool.true_and]
      rw [← hbb, hf]; rfl
  · have hge : ¬ (i : Int) < (l.length : Int) := of_decide_eq_false hge
    rw [List.take_of_length_le (by omega)] at hno
    exact ⟨f9, by rw [hno]⟩
end Go.Proofs.Ytnimejocaaekaaa.Lock
