/- Span: names; sorted rows of numbers. -/
import Derived.Test.YtnplopiconabiaaU10
import Derived.Test.YtnplopiconabiaaShelf
import Derived.Test.YtnplopiconabiaaC1
import Derived.Laws.RangeString
import Derived.Laws.RangeAny
namespace Go.Proofs.Ytnplopiconabiaa.Span
open Go Go.V
open Go.Proofs.Ytnplopiconabiaa.VC
open Go.Proofs.Try (prog)
set_option linter.unusedVariables false
set_option linter.unusedSimpArgs false
set_option maxRecDepth 20000

abbrev I64 (n : Int) : Value := .int .i64 n
theorem bF {b : Bool} {p q : Prop} (h : b = false) (hq : q) : bcase b p q := ⟨fun h' => by (rw [h] at h'; cases h'), fun _ => hq⟩
theorem bT {b : Bool} {p q : Prop} (h : b = true) (hp : p) : bcase b p q := ⟨fun _ => hp, fun h' => by (rw [h] at h'; cases h')⟩
def letter (b : UInt8) : Bool := decide (97 ≤ b.toNat) && decide (b.toNat ≤ 122)
def isName (s : ByteArray) : Bool := decide (1 ≤ s.size) && decide (s.size ≤ 16) && s.data.toList.all letter
def notLetter (r : Nat) : Bool := decide (r < 97) || decide (122 < r)
theorem idx_letters (s : ByteArray) : ∀ (f pos : Nat), s.size ≤ pos + f → (Lib.idxFuncFrom notLetter true s f pos = -1 ↔ ∀ i (h : i < s.size), pos ≤ i → letter (s[i]'h) = true) ∧ -1 ≤ Lib.idxFuncFrom notLetter true s f pos
  | 0, pos, hf => ⟨⟨fun _ i h hp => by omega, fun _ => rfl⟩, by unfold Lib.idxFuncFrom; omega⟩
  | f + 1, pos, hf => by
    unfold Lib.idxFuncFrom
    by_cases hlt : pos < s.size
    · rw [if_pos hlt]
      by_cases hl : letter (s[pos]'hlt) = true
      · have hl' := hl
        simp only [letter, Bool.and_eq_true, decide_eq_true_eq] at hl'
        have hd := Go.decode_ascii s pos hlt (by omega)
        rw [hd]
        have hp : notLetter (s[pos]'hlt).toNat = false := by simp [notLetter]; omega
        simp only [hp, Bool.false_eq_true, if_false]
        have := idx_letters s f (pos + 1) (by omega)
        refine ⟨this.1.trans ⟨fun h i hi hpi => ?_, fun h i hi hpi => h i hi (by omega)⟩, this.2⟩
        by_cases e : i = pos
        · subst e; exact hl
        · exact h i hi (by omega)
      · have hp : notLetter (Utf8.decode s pos).1 = true := by
          by_cases ha : (s[pos]'hlt).toNat < 128
          · rw [Go.decode_ascii s pos hlt ha]
            simp only [letter, Bool.and_eq_true, decide_eq_true_eq] at hl
            simp [notLetter]; omega
          · have := (Go.decode_high s pos hlt (by omega)).1
            simp [notLetter]; omega
        rw [hp, if_pos rfl]
        exact ⟨⟨fun h => by omega, fun h => absurd (h pos hlt (Nat.le_refl _)) hl⟩, by omega⟩
    · rw [if_neg hlt]
      exact ⟨⟨fun _ i h hp => by omega, fun _ => rfl⟩, by omega⟩
theorem all_letters (s : ByteArray) : s.data.toList.all letter = true ↔ ∀ i (h : i < s.size), letter (s[i]'h) = true := by
  rw [List.all_eq_true]
  constructor
  · intro h i hi
    refine h _ ?_
    have : s[i] = s.data[i] := rfl
    rw [this]
    exact Array.mem_toList_iff.2 (Array.getElem_mem _)
  · intro h b hb
    obtain ⟨i, hi, rfl⟩ := List.mem_iff_getElem.1 hb
    exact h i (by simpa using hi)
theorem contains_letters (s : ByteArray) : decide (0 ≤ Lib.idxFunc notLetter true s) = !s.data.toList.all letter := by
  obtain ⟨h1, h2⟩ := idx_letters s s.size 0 (by omega)
  have h3 : Lib.idxFunc notLetter true s = -1 ↔ s.data.toList.all letter = true := by
    rw [all_letters]
    exact h1.trans ⟨fun h i hi => h i hi (Nat.zero_le _), fun h i hi _ => h i hi⟩
  have h2 : -1 ≤ Lib.idxFunc notLetter true s := h2
  cases hb : s.data.toList.all letter with
  | true => rw [h3.2 hb]; rfl
  | false =>
    have : ¬ Lib.idxFunc notLetter true s = -1 := fun h => by rw [h3.1 h] at hb; cases hb
    simp; omega
theorem bad1_c (w : World) (c : Nat) : Calls prog 66 #[.int .i32 c] w fun e w' => e = .returned (.bool (notLetter c)) ∧ Fr [] w w' := by
  refine span_bad_1.link fun y1 hy1 => ?_
  have fin : ∀ b, b = notLetter c → y1 b w := fun b hb => hy1 _ _ ⟨by rw [hb], Fr.refl _ _⟩
  refine bc (fun h => fin _ ?_) fun h => fin _ ?_
  · have h := of_decide_eq_true h
    simp [notLetter]; omega
  · have h := of_decide_eq_false h
    unfold notLetter
    have e1 : decide (c < 97) = false := by simp; omega
    rw [e1, Bool.false_or]
    exact decide_eq_decide.2 (by omega)
theorem bad_c (w : World) (s : ByteArray) : Calls prog 36 #[.string s] w fun e w' => e = .returned (.bool (!isName s)) ∧ Fr [] w w' := by
  refine span_bad.link fun y1 hy1 => ?_
  have fin : ∀ b w', b = (!isName s) → Fr [] w w' → y1 b w' := fun b w' hb hf => hy1 _ _ ⟨by rw [hb], hf⟩
  refine bc (fun h => fin _ _ ?_ (Fr.refl _ _)) fun h1 => bc (fun h => fin _ _ ?_ (Fr.refl _ _)) fun h2 => ?_
  · have h := of_decide_eq_true h
    have : decide (1 ≤ s.size) = false := decide_eq_false (by omega)
    unfold isName; rw [this]; rfl
  · have h := of_decide_eq_true h
    have : decide (s.size ≤ 16) = false := decide_eq_false (by omega)
    unfold isName; rw [this]; simp
  · have h1 := of_decide_eq_false h1
    have h2 := of_decide_eq_false h2
    have H := Any.strings_ContainsFunc_grows Try.containsF 66 #[] (enters_of Try.func66 (by kernel_rfl) rfl) notLetter s w (fun W x hx hb => (bad1_c W x).mono fun e w' ⟨he, hf⟩ => ⟨he, hf.below (Nat.le_refl _) (fun x hx => by cases hx)⟩)
    refine (show Calls prog 65 _ _ _ from H).mono ?_
    rintro e w7 ⟨rfl, hb⟩
    refine ⟨_, rfl, fin _ _ ?_ (Fr.of_below hb)⟩
    rw [contains_letters]
    have e1 : decide (1 ≤ s.size) = true := decide_eq_true (by omega)
    have e2 : decide (s.size ≤ 16) = true := decide_eq_true (by omega)
    unfold isName; rw [e1, e2]; simp
theorem byteAt_nat (s : ByteArray) (i : Nat) (h : i < s.size) : byteAt s (i : Int) = ((s[i]'h).toNat : Int) := by
  unfold byteAt
  rw [Int.toNat_natCast, List.getD_eq_getElem?_getD, List.getElem?_eq_getElem (by simpa using h)]
  rfl
theorem name_c (w : World) (s : ByteArray) (hs : s.size ≤ 1000000) : Calls prog 42 #[.string s] w fun e w' => e = .returned (.bool (isName s)) ∧ Fr [] w w' := by
  refine rhizomeref07_Name.link ⟨fun m n w' => ∃ i : Nat, n = i ∧ i ≤ s.size ∧ m = s.size - i ∧ w' = w ∧ ∀ j (h : j < s.size), j < i → letter (s[j]'h) = true, s.size, ⟨0, rfl, by omega, rfl, rfl, fun j h hj => by omega⟩, ?_⟩
  rintro m n w5 ⟨i, rfl, hi, rfl, rfl, hall⟩
  refine bc (fun hlt y7 hy7 => ?_) fun hge y13 hy13 => ?_
  · have hlt : (i : Int) < (s.size : Int) := of_decide_eq_true hlt
    have hlt' : i < s.size := by omega
    rw [byteAt_nat s i hlt']
    have no : letter (s[i]'hlt') = false → y7 true w5 := fun hl => hy7 _ _ (bT rfl ⟨by
      have : s.data.toList.all letter = false := by
        cases h : s.data.toList.all letter with
        | false => rfl
        | true => rw [(all_letters s).1 h i hlt'] at hl; cases hl
      unfold isName; rw [this]; simp, Fr.refl _ _⟩)
    refine ⟨⟨by omega, hlt⟩, bc (fun h => no ?_) fun h1 => ⟨⟨by omega, hlt⟩, ?_⟩⟩
    · have h := of_decide_eq_true h
      simp [letter]; omega
    · have h1 := of_decide_eq_false h1
      cases h2 : decide ((122 : Int) < ((s[i]'hlt').toNat : Int)) with
      | true => exact no (by have h2 := of_decide_eq_true h2; simp [letter]; omega)
      | false =>
        have h2 := of_decide_eq_false h2
        refine hy7 _ _ (bF rfl ⟨s.size - (i + 1), by omega, i + 1, by rw [wrapi (by omega) (by omega)]; simp, by omega, rfl, rfl, fun j hj hji => ?_⟩)
        by_cases e : j = i
        · subst e; simp [letter]; omega
        · exact hall j hj (by omega)
  · have hge : ¬ (i : Int) < (s.size : Int) := of_decide_eq_false hge
    have hal : s.data.toList.all letter = true := (all_letters s).2 fun j hj => hall j hj (by omega)
    have fin : ∀ b, b = isName s → y13 b w5 := fun b hb => hy13 _ _ ⟨by rw [hb], Fr.refl _ _⟩
    refine bc (fun h => fin _ ?_) fun h => fin _ ?_
    · have h := of_decide_eq_true h
      have e1 : decide (1 ≤ s.size) = true := decide_eq_true (by omega)
      unfold isName; rw [hal, e1, Bool.true_and, Bool.and_true]
      exact decide_eq_decide.2 (by omega)
    · have h := of_decide_eq_false h
      have e1 : decide (1 ≤ s.size) = false := decide_eq_false (by omega)
      unfold isName; rw [e1]; rfl

/-! Sorted rows. -/
def sortI (l : List Int) : List Int := l.mergeSort (fun x y => decide (x ≤ y))
theorem sortI_perm (l : List Int) : (sortI l).Perm l := List.mergeSort_perm _ _
theorem sortI_le (l : List Int) : (sortI l).Pairwise (· ≤ ·) :=
  (List.pairwise_mergeSort (fun a b c h1 h2 => by simp at h1 h2 ⊢; omega) (fun a b => by simp; omega) l).imp (fun h => by simpa using h)
theorem sort_c {w : World} {B : Nat} {p : Option Addr} {c : Nat} {xs : List Int} (h : OwnP w B 1 p xs.length c (xs.map I64)) (hl : xs.length ≤ 1000000) :
    Calls prog 67 #[.slice p xs.length c] w fun e w' => e = .returned (.tuple #[]) ∧ Fr (pb p) w w' ∧ OwnP w' B 1 p xs.length c ((sortI xs).map I64) := by
  have hsz : (sortI xs).length = xs.length := (sortI_perm xs).length_eq
  cases p with
  | none =>
    obtain ⟨⟨h1, h2, h3, h4⟩, _⟩ := h
    have hc : c = 0 := by
      rcases h4 with ⟨_, h4⟩ | ⟨b, zs, e, _⟩
      · exact h4
      · cases e
    have hx : xs = [] := List.length_eq_zero_iff.1 (by omega)
    subst hx
    subst hc
    refine (show Calls prog 67 _ _ _ from AnyM.slices_Sort_int_none Try.sortA none 0 w).mono ?_
    rintro e w' ⟨rfl, rfl⟩
    exact ⟨rfl, Fr.refl _ _, by simpa [sortI] using OwnP.nil w' B 1⟩
  | some ad =>
    obtain ⟨b, rfl⟩ : ∃ b, ad = ⟨b, 0, none⟩ := by
      rcases h.1.2.2.2 with ⟨e, _⟩ | ⟨b, zs, e, _⟩
      · cases e
      · injection e with e; exact ⟨b, e⟩
    have hb := (h.1.lt rfl).2
    have hh : Sort.Holds (Value.int .i64) w b 0 xs.toArray := OwnP.holds (by simpa using h)
    refine (show Calls prog 67 _ _ _ from AnyM.slices_Sort_int Try.sortA b 0 c xs w hh hb (by omega)).mono ?_
    rintro e w' ⟨rfl, n, os, rfl⟩
    obtain ⟨g1, g2⟩ := h.put (enc := Value.int .i64) (fun _ => rfl) (d := (sortI xs).toArray) (by simpa using hsz) n os
    exact ⟨rfl, g1, by simp only [List.toList_toArray] at g2; exact g2⟩

/-- One of each run of equal numbers. -/
def comp (l : List Int) : List Int := Lib.compact l
theorem comp_len (l : List Int) : (comp l).length ≤ l.length := by
  unfold comp Lib.compact Lib.compactUpTo
  rw [List.length_map]
  exact Nat.le_trans (List.length_filter_le _ _) (by simp)
theorem compact_c {w : World} {B : Nat} {p : Option Addr} {c : Nat} {xs : List Int} (h : OwnP w B 1 p xs.length c (xs.map I64)) (hl : xs.length ≤ 1000000) :
    Calls prog 68 #[.slice p xs.length c] w fun e w' => e = .returned (.slice p (comp xs).length c) ∧ Fr (pb p) w w' ∧ OwnP w' B 1 p (comp xs).length c ((comp xs).map I64) := by
  have hcl := comp_len xs
  cases p with
  | none =>
    obtain ⟨⟨h1, h2, h3, h4⟩, _⟩ := h
    have hc : c = 0 := by
      rcases h4 with ⟨_, h4⟩ | ⟨b, zs, e, _⟩
      · exact h4
      · cases e
    have hx : xs = [] := List.length_eq_zero_iff.1 (by omega)
    subst hx
    subst hc
    refine (show Calls prog 68 _ _ _ from AnyG.slices_Compact_int_empty Try.compactA none 0 w).mono ?_
    rintro e w' ⟨rfl, rfl⟩
    have e0 : comp [] = [] := by simp [comp, Lib.compact, Lib.compactUpTo]
    rw [e0]
    exact ⟨rfl, Fr.refl _ _, OwnP.nil w' B 1⟩
  | some ad =>
    obtain ⟨b, rfl⟩ : ∃ b, ad = ⟨b, 0, none⟩ := by
      rcases h.1.2.2.2 with ⟨e, _⟩ | ⟨b, zs, e, _⟩
      · cases e
      · injection e with e; exact ⟨b, e⟩
    have hb := (h.1.lt rfl).2
    have hh : Sort.Holds (Value.int .i64) w b 0 xs.toArray := OwnP.holds (by simpa using h)
    refine (show Calls prog 68 _ _ _ from AnyG.slices_Compact_int Try.compactA b 0 c xs w hh (by omega) h.1.2.1).mono ?_
    rintro e w' ⟨rfl, q, rfl⟩
    have hcl' : (Lib.compact xs).length ≤ xs.length := hcl
    obtain ⟨g1, g2⟩ := h.put (enc := Value.int .i64) (fun _ => rfl) (d := (Lib.compact xs ++ List.replicate (xs.length - (Lib.compact xs).length) 0).toArray) (by simp; omega) q #[]
    rw [Sort.grow_empty] at g1 g2
    refine ⟨rfl, g1, ?_⟩
    have g3 : OwnP (Sort.putRow (Value.int .i64) (Sort.ahead w q) b 0 (Lib.compact xs ++ List.replicate (xs.length - (Lib.compact xs).length) 0).toArray) B 1 (some ⟨b, 0, none⟩) xs.length c ((comp xs).map I64 ++ (List.replicate (xs.length - (Lib.compact xs).length) (0 : Int)).map I64) := by
      rw [← List.map_append]; simpa [comp] using g2
    exact g3.front (by simp) hcl
theorem comp_spec {l : List Int} (hl : l.Pairwise (· ≤ ·)) : (comp l).Pairwise (· < ·) ∧ ∀ x, x ∈ comp l ↔ x ∈ l := by
  have hget : ∀ i j (hi : i < l.length) (hj : j < l.length), i ≤ j → l[i] ≤ l[j] := fun i j hi hj hij => by
    rcases Nat.lt_or_ge i j with h | h
    · exact List.pairwise_iff_getElem.1 hl i j hi hj h
    · have : i = j := by omega
      subst this; exact Int.le_refl _
  have hg : ∀ i (hi : i < l.length), l.toArray[i]! = l[i] := fun i hi => by simp [hi]
  unfold comp Lib.compact Lib.compactUpTo
  constructor
  · rw [List.pairwise_map]
    have := (List.pairwise_lt_range (n := l.length)).filter (Lib.keeps l.toArray)
    refine this.imp_of_mem fun {a b} ha hb hab => ?_
    obtain ⟨ha1, _⟩ := List.mem_filter.1 ha
    obtain ⟨hb1, hb2⟩ := List.mem_filter.1 hb
    rw [List.mem_range] at ha1 hb1
    rw [hg a ha1, hg b hb1]
    have h1 := hget a (b - 1) ha1 (by omega) (by omega)
    have h2 := hget (b - 1) b (by omega) hb1 (by omega)
    have h3 : l[b] ≠ l[b - 1] := fun e => by
      have := Lib.keeps_neg (d := l.toArray) (m := b) (by omega) (by rw [hg b hb1, hg (b - 1) (by omega)]; exact e)
      rw [this] at hb2; cases hb2
    omega
  · intro x
    rw [List.mem_map]
    constructor
    · rintro ⟨i, hi, rfl⟩
      have hi := List.mem_range.1 (List.mem_filter.1 hi).1
      rw [hg i hi]; exact List.getElem_mem hi
    · intro hx
      obtain ⟨i, hi, rfl⟩ := List.mem_iff_getElem.1 hx
      have key : ∀ (i : Nat) (hi : i < l.length), ∃ a ∈ (List.range l.length).filter (Lib.keeps l.toArray), l.toArray[a]! = l[i] := by
        intro i
        induction i with
        | zero =>
          intro hi
          exact ⟨0, List.mem_filter.2 ⟨List.mem_range.2 hi, Lib.keeps_lt_one _ 0 (by omega)⟩, hg 0 hi⟩
        | succ i ih =>
          intro hi
          by_cases e : l[i + 1] = l[i]
          · obtain ⟨a, ha, e2⟩ := ih (by omega)
            exact ⟨a, ha, by rw [e2, e]⟩
          · exact ⟨i + 1, List.mem_filter.2 ⟨List.mem_range.2 hi, Lib.keeps_pos (by rw [hg _ hi, Nat.add_sub_cancel, hg i (by omega)]; exact e)⟩, hg _ hi⟩
      exact key i hi
end Go.Proofs.Ytnplopiconabiaa.Span
