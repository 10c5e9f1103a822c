/- Texts of this session's repo, laid together: S1 S2 S3 S4 S5 SK S6 S7 S8 S9. -/
import Derived.Test.YtnplopiconabiaaUB
import Derived.Test.YtnplopiconabiaaShelf
import Derived.Test.YtnplopiconabiaaC1
import Derived.Laws.RangeString
import Derived.Laws.RangeAny
import Derived.Test.YtnplopiconabiaaC2
import Derived.Test.YtnplopiconabiaaC6
import Derived.WalkKit
import Derived.Shelf.SlicesG.Cmp
import Derived.Shelf.SlSortCmp.Whole1
import Derived.Shelf.SlSortCmp.NoneTotal
import Derived.Test.YtnplopiconabiaaUA
import Derived.Test.YtnplopiconabiaaProg
import Derived.Test.YtnplopiconabiaaC3
section
/- Span: names; sorted rows of numbers. -/
namespace Go.Proofs.Ytnplopiconabiaa.Span
open Go Go.V
open Go.Proofs.Ytnplopiconabiaa.VC
open Go.Proofs.Try (prog)
set_option linter.unusedVariables false
set_option linter.unusedSimpArgs false
set_option maxRecDepth 20000

abbrev I64 (n : Int) : Value := .int .i64 n
theorem bF {b : Bool} {p q : Prop} (h : b = false) (hq : q) : bcase b p q := ⟨fun h' => by (rw [h] at h'; cases h'), fun _ => hq⟩
theorem bT {b : Bool} {p q : Prop} (h : b = true) (hp : p) : bcase b p q := ⟨fun _ => hp, fun h' => by (rw [h] at h'; cases h')⟩
def letter (b : UInt8) : Bool := decide (97 ≤ b.toNat) && decide (b.toNat ≤ 122)
def isName (s : ByteArray) : Bool := decide (1 ≤ s.size) && decide (s.size ≤ 16) && s.data.toList.all letter
def notLetter (r : Nat) : Bool := decide (r < 97) || decide (122 < r)
theorem idx_letters (s : ByteArray) : ∀ (f pos : Nat), s.size ≤ pos + f → (Lib.idxFuncFrom notLetter true s f pos = -1 ↔ ∀ i (h : i < s.size), pos ≤ i → letter (s[i]'h) = true) ∧ -1 ≤ Lib.idxFuncFrom notLetter true s f pos
  | 0, pos, hf => ⟨⟨fun _ i h hp => by omega, fun _ => rfl⟩, by unfold Lib.idxFuncFrom; omega⟩
  | f + 1, pos, hf => by
    unfold Lib.idxFuncFrom
    by_cases hlt : pos < s.size
    · rw [if_pos hlt]
      by_cases hl : letter (s[pos]'hlt) = true
      · have hl' := hl
        simp only [letter, Bool.and_eq_true, decide_eq_true_eq] at hl'
        have hd := Go.decode_ascii s pos hlt (by omega)
        rw [hd]
        have hp : notLetter (s[pos]'hlt).toNat = false := by simp [notLetter]; omega
        simp only [hp, Bool.false_eq_true, if_false]
        have := idx_letters s f (pos + 1) (by omega)
        refine ⟨this.1.trans ⟨fun h i hi hpi => ?_, fun h i hi hpi => h i hi (by omega)⟩, this.2⟩
        by_cases e : i = pos
        · subst e; exact hl
        · exact h i hi (by omega)
      · have hp : notLetter (Utf8.decode s pos).1 = true := by
          by_cases ha : (s[pos]'hlt).toNat < 128
          · rw [Go.decode_ascii s pos hlt ha]
            simp only [letter, Bool.and_eq_true, decide_eq_true_eq] at hl
            simp [notLetter]; omega
          · have := (Go.decode_high s pos hlt (by omega)).1
            simp [notLetter]; omega
        rw [hp, if_pos rfl]
        exact ⟨⟨fun h => by omega, fun h => absurd (h pos hlt (Nat.le_refl _)) hl⟩, by omega⟩
    · rw [if_neg hlt]
      exact ⟨⟨fun _ i h hp => by omega, fun _ => rfl⟩, by omega⟩
theorem all_letters (s : ByteArray) : s.data.toList.all letter = true ↔ ∀ i (h : i < s.size), letter (s[i]'h) = true := by
  rw [List.all_eq_true]
  constructor
  · intro h i hi
    refine h _ ?_
    have : s[i] = s.data[i] := rfl
    rw [this]
    exact Array.mem_toList_iff.2 (Array.getElem_mem _)
  · intro h b hb
    obtain ⟨i, hi, rfl⟩ := List.mem_iff_getElem.1 hb
    exact h i (by simpa using hi)
theorem contains_letters (s : ByteArray) : decide (0 ≤ Lib.idxFunc notLetter true s) = !s.data.toList.all letter := by
  obtain ⟨h1, h2⟩ := idx_letters s s.size 0 (by omega)
  have h3 : Lib.idxFunc notLetter true s = -1 ↔ s.data.toList.all letter = true := by
    rw [all_letters]
    exact h1.trans ⟨fun h i hi => h i hi (Nat.zero_le _), fun h i hi _ => h i hi⟩
  have h2 : -1 ≤ Lib.idxFunc notLetter true s := h2
  cases hb : s.data.toList.all letter with
  | true => rw [h3.2 hb]; rfl
  | false =>
    have : ¬ Lib.idxFunc notLetter true s = -1 := fun h => by rw [h3.1 h] at hb; cases hb
    simp; omega
theorem bad1_c (w : World) (c : Nat) : Calls prog 66 #[.int .i32 c] w fun e w' => e = .returned (.bool (notLetter c)) ∧ Fr [] w w' := by
  refine span_bad_1.link fun y1 hy1 => ?_
  have fin : ∀ b, b = notLetter c → y1 b w := fun b hb => hy1 _ _ ⟨by rw [hb], Fr.refl _ _⟩
  refine bc (fun h => fin _ ?_) fun h => fin _ ?_
  · have h := of_decide_eq_true h
    simp [notLetter]; omega
  · have h := of_decide_eq_false h
    unfold notLetter
    have e1 : decide (c < 97) = false := by simp; omega
    rw [e1, Bool.false_or]
    exact decide_eq_decide.2 (by omega)
theorem bad_c (w : World) (s : ByteArray) : Calls prog 36 #[.string s] w fun e w' => e = .returned (.bool (!isName s)) ∧ Fr [] w w' := by
  refine span_bad.link fun y1 hy1 => ?_
  have fin : ∀ b w', b = (!isName s) → Fr [] w w' → y1 b w' := fun b w' hb hf => hy1 _ _ ⟨by rw [hb], hf⟩
  refine bc (fun h => fin _ _ ?_ (Fr.refl _ _)) fun h1 => bc (fun h => fin _ _ ?_ (Fr.refl _ _)) fun h2 => ?_
  · have h := of_decide_eq_true h
    have : decide (1 ≤ s.size) = false := decide_eq_false (by omega)
    unfold isName; rw [this]; rfl
  · have h := of_decide_eq_true h
    have : decide (s.size ≤ 16) = false := decide_eq_false (by omega)
    unfold isName; rw [this]; simp
  · have h1 := of_decide_eq_false h1
    have h2 := of_decide_eq_false h2
    have H := Any.strings_ContainsFunc_grows Try.containsF 66 #[] (enters_of Try.func66 (by kernel_rfl) rfl) notLetter s w (fun W x hx hb => (bad1_c W x).mono fun e w' ⟨he, hf⟩ => ⟨he, hf.below (Nat.le_refl _) (fun x hx => by cases hx)⟩)
    refine (show Calls prog 65 _ _ _ from H).mono ?_
    rintro e w7 ⟨rfl, hb⟩
    refine ⟨_, rfl, fin _ _ ?_ (Fr.of_below hb)⟩
    rw [contains_letters]
    have e1 : decide (1 ≤ s.size) = true := decide_eq_true (by omega)
    have e2 : decide (s.size ≤ 16) = true := decide_eq_true (by omega)
    unfold isName; rw [e1, e2]; simp
theorem byteAt_nat (s : ByteArray) (i : Nat) (h : i < s.size) : byteAt s (i : Int) = ((s[i]'h).toNat : Int) := by
  unfold byteAt
  rw [Int.toNat_natCast, List.getD_eq_getElem?_getD, List.getElem?_eq_getElem (by simpa using h)]
  rfl
theorem name_c (w : World) (s : ByteArray) (hs : s.size ≤ 1000000) : Calls prog 42 #[.string s] w fun e w' => e = .returned (.bool (isName s)) ∧ Fr [] w w' := by
  refine rhizomeref07_Name.link ⟨fun m n w' => ∃ i : Nat, n = i ∧ i ≤ s.size ∧ m = s.size - i ∧ w' = w ∧ ∀ j (h : j < s.size), j < i → letter (s[j]'h) = true, s.size, ⟨0, rfl, by omega, rfl, rfl, fun j h hj => by omega⟩, ?_⟩
  rintro m n w5 ⟨i, rfl, hi, rfl, rfl, hall⟩
  refine bc (fun hlt y7 hy7 => ?_) fun hge y13 hy13 => ?_
  · have hlt : (i : Int) < (s.size : Int) := of_decide_eq_true hlt
    have hlt' : i < s.size := by omega
    rw [byteAt_nat s i hlt']
    have no : letter (s[i]'hlt') = false → y7 true w5 := fun hl => hy7 _ _ (bT rfl ⟨by
      have : s.data.toList.all letter = false := by
        cases h : s.data.toList.all letter with
        | false => rfl
        | true => rw [(all_letters s).1 h i hlt'] at hl; cases hl
      unfold isName; rw [this]; simp, Fr.refl _ _⟩)
    refine ⟨⟨by omega, hlt⟩, bc (fun h => no ?_) fun h1 => ⟨⟨by omega, hlt⟩, ?_⟩⟩
    · have h := of_decide_eq_true h
      simp [letter]; omega
    · have h1 := of_decide_eq_false h1
      cases h2 : decide ((122 : Int) < ((s[i]'hlt').toNat : Int)) with
      | true => exact no (by have h2 := of_decide_eq_true h2; simp [letter]; omega)
      | false =>
        have h2 := of_decide_eq_false h2
        refine hy7 _ _ (bF rfl ⟨s.size - (i + 1), by omega, i + 1, by rw [wrapi (by omega) (by omega)]; simp, by omega, rfl, rfl, fun j hj hji => ?_⟩)
        by_cases e : j = i
        · subst e; simp [letter]; omega
        · exact hall j hj (by omega)
  · have hge : ¬ (i : Int) < (s.size : Int) := of_decide_eq_false hge
    have hal : s.data.toList.all letter = true := (all_letters s).2 fun j hj => hall j hj (by omega)
    have fin : ∀ b, b = isName s → y13 b w5 := fun b hb => hy13 _ _ ⟨by rw [hb], Fr.refl _ _⟩
    refine bc (fun h => fin _ ?_) fun h => fin _ ?_
    · have h := of_decide_eq_true h
      have e1 : decide (1 ≤ s.size) = true := decide_eq_true (by omega)
      unfold isName; rw [hal, e1, Bool.true_and, Bool.and_true]
      exact decide_eq_decide.2 (by omega)
    · have h := of_decide_eq_false h
      have e1 : decide (1 ≤ s.size) = false := decide_eq_false (by omega)
      unfold isName; rw [e1]; rfl

/-! Sorted rows. -/
def sortI (l : List Int) : List Int := l.mergeSort (fun x y => decide (x ≤ y))
theorem sortI_perm (l : List Int) : (sortI l).Perm l := List.mergeSort_perm _ _
theorem sortI_le (l : List Int) : (sortI l).Pairwise (· ≤ ·) :=
  (List.pairwise_mergeSort (fun a b c h1 h2 => by simp at h1 h2 ⊢; omega) (fun a b => by simp; omega) l).imp (fun h => by simpa using h)
theorem sort_c {w : World} {B : Nat} {p : Option Addr} {c : Nat} {xs : List Int} (h : OwnP w B 1 p xs.length c (xs.map I64)) (hl : xs.length ≤ 1000000) :
    Calls prog 67 #[.slice p xs.length c] w fun e w' => e = .returned (.tuple #[]) ∧ Fr (pb p) w w' ∧ OwnP w' B 1 p xs.length c ((sortI xs).map I64) := by
  have hsz : (sortI xs).length = xs.length := (sortI_perm xs).length_eq
  cases p with
  | none =>
    obtain ⟨⟨h1, h2, h3, h4⟩, _⟩ := h
    have hc : c = 0 := by
      rcases h4 with ⟨_, h4⟩ | ⟨b, zs, e, _⟩
      · exact h4
      · cases e
    have hx : xs = [] := List.length_eq_zero_iff.1 (by omega)
    subst hx
    subst hc
    refine (show Calls prog 67 _ _ _ from AnyM.slices_Sort_int_none Try.sortA none 0 w).mono ?_
    rintro e w' ⟨rfl, rfl⟩
    exact ⟨rfl, Fr.refl _ _, by simpa [sortI] using OwnP.nil w' B 1⟩
  | some ad =>
    obtain ⟨b, rfl⟩ : ∃ b, ad = ⟨b, 0, none⟩ := by
      rcases h.1.2.2.2 with ⟨e, _⟩ | ⟨b, zs, e, _⟩
      · cases e
      · injection e with e; exact ⟨b, e⟩
    have hb := (h.1.lt rfl).2
    have hh : Sort.Holds (Value.int .i64) w b 0 xs.toArray := OwnP.holds (by simpa using h)
    refine (show Calls prog 67 _ _ _ from AnyM.slices_Sort_int Try.sortA b 0 c xs w hh hb (by omega)).mono ?_
    rintro e w' ⟨rfl, n, os, rfl⟩
    obtain ⟨g1, g2⟩ := h.put (enc := Value.int .i64) (fun _ => rfl) (d := (sortI xs).toArray) (by simpa using hsz) n os
    exact ⟨rfl, g1, by simp only [List.toList_toArray] at g2; exact g2⟩

/-- One of each run of equal numbers. -/
def comp (l : List Int) : List Int := Lib.compact l
theorem comp_len (l : List Int) : (comp l).length ≤ l.length := by
  unfold comp Lib.compact Lib.compactUpTo
  rw [List.length_map]
  exact Nat.le_trans (List.length_filter_le _ _) (by simp)
theorem compact_c {w : World} {B : Nat} {p : Option Addr} {c : Nat} {xs : List Int} (h : OwnP w B 1 p xs.length c (xs.map I64)) (hl : xs.length ≤ 1000000) :
    Calls prog 68 #[.slice p xs.length c] w fun e w' => e = .returned (.slice p (comp xs).length c) ∧ Fr (pb p) w w' ∧ OwnP w' B 1 p (comp xs).length c ((comp xs).map I64) := by
  have hcl := comp_len xs
  cases p with
  | none =>
    obtain ⟨⟨h1, h2, h3, h4⟩, _⟩ := h
    have hc : c = 0 := by
      rcases h4 with ⟨_, h4⟩ | ⟨b, zs, e, _⟩
      · exact h4
      · cases e
    have hx : xs = [] := List.length_eq_zero_iff.1 (by omega)
    subst hx
    subst hc
    refine (show Calls prog 68 _ _ _ from AnyG.slices_Compact_int_empty Try.compactA none 0 w).mono ?_
    rintro e w' ⟨rfl, rfl⟩
    have e0 : comp [] = [] := by simp [comp, Lib.compact, Lib.compactUpTo]
    rw [e0]
    exact ⟨rfl, Fr.refl _ _, OwnP.nil w' B 1⟩
  | some ad =>
    obtain ⟨b, rfl⟩ : ∃ b, ad = ⟨b, 0, none⟩ := by
      rcases h.1.2.2.2 with ⟨e, _⟩ | ⟨b, zs, e, _⟩
      · cases e
      · injection e with e; exact ⟨b, e⟩
    have hb := (h.1.lt rfl).2
    have hh : Sort.Holds (Value.int .i64) w b 0 xs.toArray := OwnP.holds (by simpa using h)
    refine (show Calls prog 68 _ _ _ from AnyG.slices_Compact_int Try.compactA b 0 c xs w hh (by omega) h.1.2.1).mono ?_
    rintro e w' ⟨rfl, q, rfl⟩
    have hcl' : (Lib.compact xs).length ≤ xs.length := hcl
    obtain ⟨g1, g2⟩ := h.put (enc := Value.int .i64) (fun _ => rfl) (d := (Lib.compact xs ++ List.replicate (xs.length - (Lib.compact xs).length) 0).toArray) (by simp; omega) q #[]
    rw [Sort.grow_empty] at g1 g2
    refine ⟨rfl, g1, ?_⟩
    have g3 : OwnP (Sort.putRow (Value.int .i64) (Sort.ahead w q) b 0 (Lib.compact xs ++ List.replicate (xs.length - (Lib.compact xs).length) 0).toArray) B 1 (some ⟨b, 0, none⟩) xs.length c ((comp xs).map I64 ++ (List.replicate (xs.length - (Lib.compact xs).length) (0 : Int)).map I64) := by
      rw [← List.map_append]; simpa [comp] using g2
    exact g3.front (by simp) hcl
theorem comp_spec {l : List Int} (hl : l.Pairwise (· ≤ ·)) : (comp l).Pairwise (· < ·) ∧ ∀ x, x ∈ comp l ↔ x ∈ l := by
  have hget : ∀ i j (hi : i < l.length) (hj : j < l.length), i ≤ j → l[i] ≤ l[j] := fun i j hi hj hij => by
    rcases Nat.lt_or_ge i j with h | h
    · exact List.pairwise_iff_getElem.1 hl i j hi hj h
    · have : i = j := by omega
      subst this; exact Int.le_refl _
  have hg : ∀ i (hi : i < l.length), l.toArray[i]! = l[i] := fun i hi => by simp [hi]
  unfold comp Lib.compact Lib.compactUpTo
  constructor
  · rw [List.pairwise_map]
    have := (List.pairwise_lt_range (n := l.length)).filter (Lib.keeps l.toArray)
    refine this.imp_of_mem fun {a b} ha hb hab => ?_
    obtain ⟨ha1, _⟩ := List.mem_filter.1 ha
    obtain ⟨hb1, hb2⟩ := List.mem_filter.1 hb
    rw [List.mem_range] at ha1 hb1
    rw [hg a ha1, hg b hb1]
    have h1 := hget a (b - 1) ha1 (by omega) (by omega)
    have h2 := hget (b - 1) b (by omega) hb1 (by omega)
    have h3 : l[b] ≠ l[b - 1] := fun e => by
      have := Lib.keeps_neg (d := l.toArray) (m := b) (by omega) (by rw [hg b hb1, hg (b - 1) (by omega)]; exact e)
      rw [this] at hb2; cases hb2
    omega
  · intro x
    rw [List.mem_map]
    constructor
    · rintro ⟨i, hi, rfl⟩
      have hi := List.mem_range.1 (List.mem_filter.1 hi).1
      rw [hg i hi]; exact List.getElem_mem hi
    · intro hx
      obtain ⟨i, hi, rfl⟩ := List.mem_iff_getElem.1 hx
      have key : ∀ (i : Nat) (hi : i < l.length), ∃ a ∈ (List.range l.length).filter (Lib.keeps l.toArray), l.toArray[a]! = l[i] := by
        intro i
        induction i with
        | zero =>
          intro hi
          exact ⟨0, List.mem_filter.2 ⟨List.mem_range.2 hi, Lib.keeps_lt_one _ 0 (by omega)⟩, hg 0 hi⟩
        | succ i ih =>
          intro hi
          by_cases e : l[i + 1] = l[i]
          · obtain ⟨a, ha, e2⟩ := ih (by omega)
            exact ⟨a, ha, by rw [e2, e]⟩
          · exact ⟨i + 1, List.mem_filter.2 ⟨List.mem_range.2 hi, Lib.keeps_pos (by rw [hg _ hi, Nat.add_sub_cancel, hg i (by omega)]; exact e)⟩, hg _ hi⟩
      exact key i hi
end Go.Proofs.Ytnplopiconabiaa.Span

end
section
/- Span: the map from each node to those behind it. -/
namespace Go.Proofs.Ytnplopiconabiaa.Span
open Go Go.V
open Go.Proofs.Ytnplopiconabiaa.VC
open Go.Proofs.Try (prog)
set_option linter.unusedVariables false
set_option linter.unusedSimpArgs false
set_option maxRecDepth 20000

abbrev kenc : Int → Value := Value.int .i64
structure EG where
  f : Int
  l : ByteArray
  t : Int
def gcell (e : EG) : List Value := [I64 e.f, .string e.l, I64 e.t]
theorem flatG : Flat gcell 3 := ⟨fun _ => rfl, fun a u hu => by simp [gcell] at hu; rcases hu with rfl | rfl | rfl <;> rfl⟩
def tgt (E : List EG) (lab : ByteArray) (n : Int) : List Int := (E.filter fun e => decide (e.l = lab) && decide (e.f = n)).map (·.t)
def succs (E : List EG) (lab : ByteArray) (n : Int) : List Int := comp (sortI (tgt E lab n))
theorem tgt_len (E : List EG) (lab : ByteArray) (n : Int) : (tgt E lab n).length ≤ E.length := by
  unfold tgt; rw [List.length_map]; exact List.length_filter_le _ _
theorem comp_nil {l : List Int} (h : l ≠ []) : comp l ≠ [] := by
  intro e
  unfold comp Lib.compact Lib.compactUpTo at e
  have h0 : 0 ∈ (List.range l.length).filter (Lib.keeps l.toArray) := List.mem_filter.2 ⟨List.mem_range.2 (List.length_pos_iff.2 h), Lib.keeps_lt_one _ 0 (by omega)⟩
  rw [List.map_eq_nil_iff] at e
  rw [e] at h0; cases h0
theorem sortI_nil {l : List Int} (h : l ≠ []) : sortI l ≠ [] := fun e => h (by have := (sortI_perm l).length_eq; rw [e] at this; exact List.length_eq_zero_iff.1 this.symm)
theorem succs_nil {E : List EG} {lab : ByteArray} {n : Int} (h : tgt E lab n = []) : succs E lab n = [] := by
  unfold succs; rw [h]; simp [sortI, comp, Lib.compact, Lib.compactUpTo]
def ne2 (p q : Option Addr) : Prop := ∀ ad, p = some ad → ∀ ad', q = some ad' → ad'.block ≠ ad.block
theorem ne2.symm {p q : Option Addr} (h : ne2 p q) : ne2 q p := fun a ha a' ha' e => h a' ha' a ha e.symm

theorem mem_updM2 {l : List (Int × Value)} (hn : (l.map (·.1)).Nodup) {a : Int} {y : Value} {e : Int × Value} (h : e ∈ updM l a y) : e = (a, y) ∨ (e ∈ l ∧ e.1 ≠ a) := by
  have h1 := look_of_mem (nodup_updM hn a y) (k := e.1) (x := e.2) h
  rw [look_updM] at h1
  by_cases he : e.1 = a
  · rw [if_pos he] at h1
    injection h1 with h1
    exact .inl (by rw [← he, h1])
  · rw [if_neg he] at h1
    exact .inr ⟨look_mem h1, he⟩
theorem key_updM {l : List (Int × Value)} {a : Int} {y : Value} {n : Int} : n ∈ (updM l a y).map (·.1) ↔ n = a ∨ n ∈ l.map (·.1) := by
  induction l with
  | nil => simp [updM]
  | cons p l ih =>
    obtain ⟨k, v⟩ := p
    simp only [updM]
    by_cases h : a = k
    · subst h; rw [if_pos rfl]; simp
    · rw [if_neg h, List.map_cons, List.mem_cons, ih, List.map_cons, List.mem_cons]
      constructor
      · rintro (h | h | h)
        · exact .inr (.inl h)
        · exact .inl h
        · exact .inr (.inr h)
      · rintro (h | h | h)
        · exact .inr (.inl h)
        · exact .inl h
        · exact .inr (.inr h)

/-- A map's entries: each node that has some behind it has a row of its own of these. -/
structure EntOk (w : World) (B : Nat) (T : Int → List Int) (l : List (Int × Value)) : Prop where
  ent : ∀ e ∈ l, ∃ p c, e.2 = .slice p (T e.1).length c ∧ OwnP w B 1 p (T e.1).length c ((T e.1).map I64) ∧ T e.1 ≠ []
  all : ∀ n, T n ≠ [] → n ∈ l.map (·.1)
  sep : ∀ e ∈ l, ∀ e' ∈ l, e.1 ≠ e'.1 → ∀ p k c p' k' c', e.2 = .slice p k c → e'.2 = .slice p' k' c' → ne2 p p'
theorem EntOk.nil (w : World) (B : Nat) : EntOk w B (fun _ => []) [] := ⟨fun e h => (by cases h), fun n h => absurd rfl h, fun e h => (by cases h)⟩
theorem EntOk.fr {F : List Nat} {v w : World} {B : Nat} {T : Int → List Int} {l : List (Int × Value)} (h : EntOk v B T l) (hf : Fr F v w) (hn : ∀ b cs, Blk v b cs → b ∉ F) : EntOk w B T l :=
  ⟨fun e he => by
    obtain ⟨p, c, h1, h2, h3⟩ := h.ent e he
    refine ⟨p, c, h1, h2.fr hf fun ad hp => ?_, h3⟩
    obtain ⟨_, _, _, h4⟩ := h2.1
    rcases h4 with ⟨e4, _⟩ | ⟨b, zs, e4, _, hb, _⟩
    · rw [e4] at hp; cases hp
    · rw [e4] at hp; injection hp with hp; subst hp; exact hn _ _ hb, h.all, h.sep⟩
theorem own_blk {w : World} {B l c : Nat} {p : Option Addr} {xs : List Value} (h : OwnP w B 1 p l c xs) {ad : Addr} (hp : p = some ad) : ∃ cs, Blk w ad.block cs := by
  obtain ⟨_, _, _, h4⟩ := h.1
  rcases h4 with ⟨e4, _⟩ | ⟨b, zs, e4, _, hb, _⟩
  · rw [e4] at hp; cases hp
  · rw [e4] at hp; injection hp with hp; subst hp; exact ⟨_, hb⟩
theorem EntOk.look {w : World} {B : Nat} {T : Int → List Int} {l : List (Int × Value)} (h : EntOk w B T l) (n : Int) : ∃ p c b, LookRel l n (.slice none 0 0) (.slice p (T n).length c) b ∧ OwnP w B 1 p (T n).length c ((T n).map I64) ∧ (V.look l n = some (.slice p (T n).length c) ∨ (V.look l n = none ∧ p = none)) := by
  cases hl : V.look l n with
  | some y =>
    obtain ⟨p, c, h1, h2, h3⟩ := h.ent (n, y) (look_mem hl)
    have h1 : y = .slice p (T n).length c := h1
    subst h1
    exact ⟨p, c, true, .inl ⟨rfl, hl⟩, h2, .inl rfl⟩
  | none =>
    have hT : T n = [] := by
      cases ht : T n with
      | nil => rfl
      | cons a r =>
        obtain ⟨e, he, e1⟩ := List.mem_map.1 (h.all n (by rw [ht]; simp))
        exfalso
        have : ∀ (l : List (Int × Value)) (n : Int), V.look l n = none → n ∉ l.map (·.1) := by
          intro l n
          induction l with
          | nil => simp
          | cons q l ih =>
            obtain ⟨k, x⟩ := q
            simp only [V.look]
            split
            · intro h; cases h
            · rename_i hk
              intro h
              simp only [List.map_cons, List.mem_cons]
              rintro (e | e)
              · exact hk e
              · exact ih h e
        exact this l n hl (h.all n (by rw [ht]; simp))
    rw [hT]
    exact ⟨none, 0, false, .inr ⟨rfl, hl, rfl⟩, OwnP.nil _ _ _, .inr ⟨rfl, rfl⟩⟩
theorem EntOk.set {F : List Nat} {v w : World} {B : Nat} {T : Int → List Int} {l : List (Int × Value)} (h : EntOk v B T l) (hn : (l.map (·.1)).Nodup) (hf : Fr F v w) {n : Int} {p0 : Option Addr} {k0 c0 : Nat} (hold : V.look l n = some (.slice p0 k0 c0) ∨ (V.look l n = none ∧ p0 = none))
    (hF : ∀ x ∈ F, (∃ ad, p0 = some ad ∧ ad.block = x) ∨ (∀ cs, ¬ Blk v x cs) ∨ v.heap.size ≤ x) {xs : List Int} {p' : Option Addr} {c' : Nat} (o : OwnP w B 1 p' xs.length c' (xs.map I64)) (hx : xs ≠ []) (hd : ∀ ad, p' = some ad → p0 = some ad ∨ v.heap.size ≤ ad.block) :
    EntOk w B (fun m => if m = n then xs else T m) (updM l n (.slice p' xs.length c')) := by
  -- another entry's row stays
  have other : ∀ e ∈ l, e.1 ≠ n → ∀ p k c, e.2 = .slice p k c → ne2 p p0 := fun e he hne p k c hp => by
    rcases hold with h1 | ⟨_, h1⟩
    · exact h.sep e he (n, .slice p0 k0 c0) (look_mem h1) hne p k c p0 k0 c0 hp rfl
    · intro a _ a' ha'; rw [h1] at ha'; cases ha'
  refine ⟨fun e he => ?_, fun m hm => ?_, fun e he e' he' hne p k c p1 k1 c1 hp hp1 => ?_⟩
  · rcases mem_updM2 hn he with rfl | ⟨he, hne⟩
    · simp only [if_true]
      exact ⟨p', c', rfl, o, hx⟩
    · simp only [if_neg hne]
      obtain ⟨p, c, h1, h2, h3⟩ := h.ent e he
      refine ⟨p, c, h1, h2.fr hf fun ad hp hm => ?_, h3⟩
      rcases hF _ hm with ⟨a, ha, e1⟩ | h4 | h4
      · exact other e he hne _ _ _ h1 ad hp a ha e1
      · obtain ⟨cs, hb⟩ := own_blk h2 hp
        exact h4 cs hb
      · have := (h2.1.lt hp).2; omega
  · rw [key_updM]
    by_cases e : m = n
    · exact .inl e
    · simp only [if_neg e] at hm
      exact .inr (h.all m hm)
  · have low : ∀ e ∈ l, ∀ p k c, e.2 = .slice p k c → ∀ ad, p = some ad → ad.block < v.heap.size := fun e he p k c hp ad hpa => by
      obtain ⟨p2, c2, h1, h2, _⟩ := h.ent e he
      rw [hp] at h1; injection h1 with h1; subst h1
      exact (h2.1.lt hpa).2
    have new : ∀ e ∈ l, e.1 ≠ n → ∀ p k c, e.2 = .slice p k c → ne2 p p' := fun e he hne p k c hp a ha a' ha' => by
      rcases hd a' ha' with h1 | h1
      · exact other e he hne p k c hp a ha a' h1
      · have := low e he p k c hp a ha; omega
    rcases mem_updM2 hn he with rfl | ⟨he, hne1⟩
    · rcases mem_updM2 hn he' with rfl | ⟨he', hne2⟩
      · exact absurd rfl hne
      · have hp : Value.slice p' xs.length c' = .slice p k c := hp
        injection hp with hp; subst hp
        exact (new e' he' hne2 p1 k1 c1 hp1).symm
    · rcases mem_updM2 hn he' with rfl | ⟨he', hne2⟩
      · have hp1 : Value.slice p' xs.length c' = .slice p1 k1 c1 := hp1
        injection hp1 with hp1; subst hp1
        exact new e he hne1 p k c hp
      · exact h.sep e he e' he' hne p k c p1 k1 c1 hp hp1
theorem EntOk.congr {w : World} {B : Nat} {T T' : Int → List Int} {l : List (Int × Value)} (h : EntOk w B T l) (h1 : ∀ n ∈ l.map (·.1), T' n = T n) (h2 : ∀ n, T' n ≠ [] → n ∈ l.map (·.1)) : EntOk w B T' l :=
  ⟨fun e he => by
    rw [h1 e.1 (List.mem_map.2 ⟨e, he, rfl⟩)]; exact h.ent e he, h2, h.sep⟩
theorem map_blk {w : World} {m b : Nat} {l : List (Int × Value)} {cs : List Value} (h : MapG kenc w m l) (hb : Blk w b cs) : b ≠ m := fun e => map_ne_blk h hb e.symm
theorem iter_blk {w : World} {r m b : Nat} {l : List (Int × Value)} {d : List Int} {cs : List Value} (h : IterO kenc w r (some m) l d) (hb : Blk w b cs) : b ≠ r := fun e => by
  obtain ⟨es, clock, since, seen, last, hr, _⟩ := h
  obtain ⟨T, lo, hi, hb, _⟩ := hb
  rw [e, hr] at hb; injection hb with hb; cases hb
theorem rest_keys (l l' : List (Int × Value)) (h : l.map (·.1) = l'.map (·.1)) (d : List Int) : rest l d = rest l' d := by
  have e : ∀ l : List (Int × Value), rest l d = ((l.map (·.1)).filter fun n => !(decide (n ∈ d))).length := fun l => by
    unfold rest; rw [List.filter_map, List.length_map]; rfl
  rw [e, e, h]
end Go.Proofs.Ytnplopiconabiaa.Span

end
section
/- Span: next. -/
namespace Go.Proofs.Ytnplopiconabiaa.Span
open Go Go.V
open Go.Proofs.Ytnplopiconabiaa.VC
open Go.Proofs.Try (prog)
set_option linter.unusedVariables false
set_option linter.unusedSimpArgs false
set_option maxRecDepth 20000

theorem tgt_snoc {E : List EG} {lab : ByteArray} {i : Nat} (hi : i < E.length) (n : Int) : tgt (E.take (i + 1)) lab n = if E[i].l = lab ∧ E[i].f = n then tgt (E.take i) lab n ++ [E[i].t] else tgt (E.take i) lab n := by
  unfold tgt
  rw [take_snoc hi, List.filter_append, List.map_append, List.filter_cons]
  by_cases h : E[i].l = lab ∧ E[i].f = n
  · rw [if_pos h, if_pos (by simp [h])]; rfl
  · rw [if_neg h, if_neg (by simpa using h)]; simp

set_option maxHeartbeats 1000000 in
theorem next_c {w : World} {lab : ByteArray} {eA : Option Addr} {eC : Nat} {E : List EG} (hE : Row w eA (E.flatMap gcell)) (hl : E.length ≤ 100000) :
    Calls prog 37 #[.string lab, .slice eA E.length eC] w fun e w' => Fr [] w w' ∧ ∃ m l, e = .returned (.map (some m)) ∧ MapG kenc w' m l ∧ EntOk w' w.heap.size (succs E lab) l ∧ w.heap.size ≤ m := by
  refine span_next.link fun w1 k2 s1 h1 => ?_
  have n1 := g_new1 s1
  refine ⟨fun m n w' => ∃ (i : Nat) (l : List (Int × Value)), n = i ∧ i ≤ E.length ∧ m = E.length - i ∧ MapG kenc w' k2 l ∧ EntOk w' w.heap.size (tgt (E.take i) lab) l ∧ Fr [] w w', E.length, ⟨0, [], rfl, by omega, rfl, MapG.new h1, EntOk.nil w1 w.heap.size, s1.fr⟩, ?_⟩
  rintro m n w9 ⟨i, l, rfl, hi, rfl, M9, X9, F9⟩
  have hnd := M9.nodup
  refine bc (fun hlt y11 hy11 => ?_) fun hge => ?_
  · have hlt : (i : Int) < (E.length : Int) := of_decide_eq_true hlt
    have hlt' : i < E.length := by omega
    obtain ⟨ad, hp, g⟩ := (hE.old F9).atF flatG (by decide) hlt'
    have e0 : (i : Int).toNat * 3 = i * 3 := by omega
    refine ⟨ad, hp, ⟨by omega, hlt⟩, _, _, _, ⟨by rw [e0]; exact g 0 _ rfl, by rw [e0]; exact g 1 _ rfl, by rw [e0]; exact g 2 _ rfl, trivial⟩, fun k20 => ?_⟩
    have next : ∀ l' w', MapG kenc w' k2 l' → EntOk w' w.heap.size (tgt (E.take (i + 1)) lab) l' → Fr [] w w' → y11 w' := fun l' w' h2 h3 h4 => hy11 _ ⟨E.length - (i + 1), by omega, i + 1, l', by rw [wrapi (by omega) (by omega)]; simp, by omega, rfl, h2, h3, h4⟩
    refine bc (fun hlab => ?_) fun hlab w35 s35 => ?_
    · have hlab : E[i].l = lab := of_decide_eq_true hlab
      obtain ⟨p, c, b, hlk, o, hold⟩ := X9.look E[i].f
      have tl := tgt_len (E.take i) lab E[i].f
      rw [List.length_take] at tl
      refine ⟨l, M9, p, _, c, ⟨b, hlk⟩, fun k26 => ?_⟩
      refine appendP_plain (o.pl (by simp)) (appM1 (C := I64) (fun _ => rfl) (x := E[i].t) (u := w) (B := w.heap.size) o.1 F9 rfl (Nat.le_refl _) F9.size (fun h => by cases h) (by simp) (fun ad hp => by simp) (by omega) (by omega) fun w27 p28 c30 F27 G27 n27 o27 d27 hpl => ?_)
      have m2 : ∀ ad, p = some ad → ad.block ≠ k2 := fun ad hp => by
        obtain ⟨cs, hb⟩ := own_blk o hp
        exact map_blk M9 hb
      have M27 : MapG kenc w27 k2 l := M9.fr G27 (by
        rw [List.nil_append, g_mem_pb]; rintro ⟨ad, h2, h3⟩; exact m2 ad h2 h3)
      refine ⟨k2, l, rfl, M27, fun w33 u33 => next _ w33 u33.map ?_ (F27.trans u33.fr fun x hx => .inr (by rw [List.mem_singleton.1 hx]; exact n1.1))⟩
      have F33 : Fr (pb p ++ [k2]) w9 w33 := by simpa using G27.then u33.fr
      have o33 : OwnP w33 w.heap.size 1 p28 (tgt (E.take i) lab E[i].f ++ [E[i].t]).length c30 ((tgt (E.take i) lab E[i].f ++ [E[i].t]).map I64) := (OwnP.fr ⟨o27, hpl⟩ u33.fr fun ad hp => by
        obtain ⟨cs, hb⟩ := own_blk ⟨o27, hpl⟩ hp
        simpa using map_blk M27 hb)
      have := X9.set hnd F33 hold (fun x hx => by
        rcases List.mem_append.1 hx with hx | hx
        · obtain ⟨ad, h2, h3⟩ := (g_mem_pb _ _).1 hx
          exact .inl ⟨ad, h2, h3⟩
        · rw [List.mem_singleton.1 hx]
          exact .inr (.inl fun cs hb => map_ne_blk M9 hb rfl)) o33 (by simp) d27
      refine this.congr (fun n hn => ?_) fun n hn => ?_
      · rw [tgt_snoc hlt']
        by_cases e : n = E[i].f
        · subst e; rw [if_pos ⟨hlab, rfl⟩, if_pos rfl]
        · rw [if_neg (fun h => e h.2.symm), if_neg e]
      · refine this.all n ?_
        rw [tgt_snoc hlt'] at hn
        by_cases e : n = E[i].f
        · rw [if_pos e]; simp
        · rw [if_neg e]
          rwa [if_neg (fun h => e h.2.symm)] at hn
    · have hlab : ¬ E[i].l = lab := of_decide_eq_false hlab
      have e : tgt (E.take (i + 1)) lab = tgt (E.take i) lab := by
        funext n; rw [tgt_snoc hlt', if_neg (fun h => hlab h.1)]
      exact next l w35 (M9.fr s35.fr (by simp)) (by rw [e]; exact X9.fr s35.fr (fun _ _ _ => by simp)) (F9.trans' s35.fr)
  have hge : ¬ (i : Int) < (E.length : Int) := of_decide_eq_false hge
  rw [List.take_of_length_le (by omega)] at X9
  clear hge hi
  refine ⟨l, M9, fun w38 k39 s38 it38 => ?_⟩
  have n39 := g_new1 s38
  let T2 : List Int → Int → List Int := fun done n => if n ∈ done then succs E lab n else tgt E lab n
  refine ⟨fun m w' => ∃ (done : List Int) (l' : List (Int × Value)), m = rest l done ∧ l'.map (·.1) = l.map (·.1) ∧ IterO kenc w' k39 (some k2) l' done ∧ EntOk w' w.heap.size (T2 done) l' ∧ Fr [] w w' ∧ MapG kenc w' k2 l', rest l [], ⟨[], l, rfl, rfl, it38, by simpa [T2] using X9.fr s38.fr (fun _ _ _ => by simp), F9.trans' s38.fr, M9.fr s38.fr (by simp)⟩, ?_⟩
  rintro m w45 ⟨done, l', rfl, hk, it45, X45, F45, M45⟩
  have hIs : ∀ b cs, Blk w45 b cs → b ∉ [k39] := fun b cs hb => by simpa using iter_blk it45 hb
  have k39n : w.heap.size ≤ k39 := by have := F9.size; omega
  refine ⟨some k2, l', done, it45, fun y hy => ?_, fun n p k c hmem hnd2 w58 is58 it58 cur58 => bT rfl ⟨n, p, k, c, cur58, ?_⟩, fun hall w81 is81 it81 => bF rfl ?_⟩
  · obtain ⟨p, c, h2, _⟩ := X45.ent y hy
    rw [h2]
    have e : IsT prog 31 (Value.slice p (T2 done y.1).length c) = ∃ (a : Option Addr) (x y' : Nat), Value.slice a x y' = Value.slice p (T2 done y.1).length c := by kernel_rfl
    rw [e]; exact ⟨_, _, _, rfl⟩
  · have X58 := X45.fr is58.fr hIs
    have M58 := M45.fr is58.fr (fun hm => by
      obtain ⟨es, clock, since, seen, last, hr, hm2, _⟩ := it45
      have e : k2 = k39 := by simpa using hm
      rw [e, hr] at hm2; injection hm2 with hm2; cases hm2)
    have hnl := M58.nodup
    obtain ⟨p', c', h2, o58, hne⟩ : ∃ p' c', Value.slice p k c = .slice p' (T2 done n).length c' ∧ OwnP w58 w.heap.size 1 p' (T2 done n).length c' ((T2 done n).map I64) ∧ T2 done n ≠ [] := X58.ent _ hmem
    injection h2 with h2 h3 h4
    subst h2; subst h3; subst h4
    have hT : T2 done n = tgt E lab n := by simp only [T2]; rw [if_neg hnd2]
    simp only [hT] at o58 hne hmem it58 cur58 ⊢
    have tl := tgt_len E lab n
    have hlk : V.look l' n = some (.slice p (tgt E lab n).length c) := look_of_mem hnl hmem
    refine (sort_c o58 (by omega)).mono ?_
    rintro e66 w67 ⟨rfl, f67, o67⟩
    have hsl : (sortI (tgt E lab n)).length = (tgt E lab n).length := (sortI_perm _).length_eq
    rw [← hsl] at o67
    refine ⟨rfl, ?_⟩
    rw [← hsl]
    refine (compact_c o67 (by omega)).mono ?_
    rintro e68 w69 ⟨rfl, f69, o69⟩
    have f69' : Fr (pb p) w58 w69 := f67.trans' f69
    have pbn : ∀ x ∈ pb p, w.heap.size ≤ x ∧ ∃ cs, Blk w58 x cs := fun x hx => by
      obtain ⟨ad, h2, rfl⟩ := (g_mem_pb _ _).1 hx
      exact ⟨(o58.1.lt h2).1, own_blk o58 h2⟩
    have M69 : MapG kenc w69 k2 l' := M58.fr f69' (fun hm => by
      obtain ⟨_, cs, hb⟩ := pbn _ hm
      exact map_ne_blk M58 hb rfl)
    have it69 : IterO kenc w69 k39 (some k2) l' (n :: done) := it58.fr f69' (fun hm => by
      obtain ⟨_, cs, hb⟩ := pbn _ hm
      exact iter_blk it58 hb rfl) (fun b hb hm => by
      injection hb with hb; subst hb
      obtain ⟨_, cs, hb⟩ := pbn _ hm
      exact map_ne_blk M58 hb rfl)
    refine ⟨p, _, c, rfl, k2, l', rfl, M69, fun w75 u75 => ?_⟩
    have keys75 : (updM l' n (.slice p (comp (sortI (tgt E lab n))).length c)).map (·.1) = l'.map (·.1) := updM_keys _ _ _ _ hmem
    have F75 : Fr (pb p ++ [k2]) w58 w75 := f69'.then u75.fr
    have o75 : OwnP w75 w.heap.size 1 p (comp (sortI (tgt E lab n))).length c ((comp (sortI (tgt E lab n))).map I64) := o69.fr u75.fr fun ad hp => by
      obtain ⟨cs, hb⟩ := own_blk o69 hp
      simpa using map_blk M69 hb
    have X75 := X58.set hnl F75 (.inl hlk) (fun x hx => by
      rcases List.mem_append.1 hx with hx | hx
      · obtain ⟨ad, h2, h3⟩ := (g_mem_pb _ _).1 hx
        exact .inl ⟨ad, h2, h3⟩
      · rw [List.mem_singleton.1 hx]
        exact .inr (.inl fun cs hb => map_ne_blk M58 hb rfl)) o75 (comp_nil (sortI_nil hne)) (fun ad hp => .inl hp)
    refine ⟨rest l (n :: done), rest_lt (x := (l.find? (fun q => decide (q.1 = n))).elim (Value.bool true) (·.2)) ?_ hnd2, n :: done, _, rfl, keys75.trans hk, it69.upd u75 hmem, X75.congr (fun m hm => ?_) (fun m hm => ?_), ?_, u75.map⟩
    · have : n ∈ l.map (·.1) := by rw [← hk]; exact List.mem_map.2 ⟨_, hmem, rfl⟩
      obtain ⟨q, hq, e⟩ := List.mem_map.1 this
      cases hf : l.find? (fun q => decide (q.1 = n)) with
      | none => exact absurd (decide_eq_true e) (List.find?_eq_none.1 hf q hq)
      | some r =>
        have h2 := List.find?_some hf
        have h3 := List.mem_of_find?_eq_some hf
        have h2 : r.1 = n := of_decide_eq_true h2
        show (n, r.2) ∈ l
        rw [← h2]; exact h3
    · by_cases e : m = n
      · subst e; rw [if_pos rfl]; simp [T2, succs]
      · rw [if_neg e]; simp [T2, e]
    · rw [keys75]
      refine X58.all m ?_
      simp only [T2, List.mem_cons] at hm ⊢
      by_cases e : m = n
      · subst e
        simp only [if_neg hnd2]; exact hne
      · simpa [e] using hm
    · refine ((F45.trans is58.fr fun x hx => .inr (by rw [List.mem_singleton.1 hx]; exact k39n)).trans F75 fun x hx => ?_)
      rcases List.mem_append.1 hx with hx | hx
      · exact .inr (pbn x hx).1
      · exact .inr (by rw [List.mem_singleton.1 hx]; exact n1.1)
  · have X81 := X45.fr is81.fr hIs
    have M81 := M45.fr is81.fr (fun hm => by
      obtain ⟨es, clock, since, seen, last, hr, hm2, _⟩ := it45
      have e : k2 = k39 := by simpa using hm
      rw [e, hr] at hm2; injection hm2 with hm2; cases hm2)
    refine ⟨F45.trans is81.fr (fun x hx => .inr (by rw [List.mem_singleton.1 hx]; exact k39n)), k2, l', rfl, M81, X81.congr (fun n hn => ?_) (fun n hn => ?_), n1.1⟩
    · obtain ⟨e, he, rfl⟩ := List.mem_map.1 hn
      simp only [T2]; rw [if_pos (hall e he)]
    · refine X81.all n fun e => hn (succs_nil ?_)
      simp only [T2] at e
      split at e
      · exact absurd e hn
      · exact e
end Go.Proofs.Ytnplopiconabiaa.Span

end
section
/- Span: reached. -/
namespace Go.Proofs.Ytnplopiconabiaa.Span
open Go Go.V
open Go.Proofs.Ytnplopiconabiaa.VC
open Go.Proofs.Try (prog)
set_option linter.unusedVariables false
set_option linter.unusedSimpArgs false
set_option maxRecDepth 20000

/-- There is a way. -/
inductive Reach (T : Int → List Int) (a : Int) : Int → Prop
  | one {b : Int} : b ∈ T a → Reach T a b
  | more {b c : Int} : Reach T a b → c ∈ T b → Reach T a c
def unseen (T : Int → List Int) (l : List (Int × Value)) (ks : List Int) : Nat := (l.map fun e => if e.1 ∈ ks then 0 else (T e.1).length).sum
def total (T : Int → List Int) (l : List (Int × Value)) : Nat := (l.map fun e => (T e.1).length).sum
theorem unseen_congr {T : Int → List Int} {ks ks' : List Int} (l : List (Int × Value)) (h : ∀ y, y ∈ ks ↔ y ∈ ks') : unseen T l ks = unseen T l ks' := by
  unfold unseen
  congr 1
  refine List.map_congr_left fun e _ => ?_
  by_cases h1 : e.1 ∈ ks
  · rw [if_pos h1, if_pos ((h _).1 h1)]
  · rw [if_neg h1, if_neg (fun h2 => h1 ((h _).2 h2))]
theorem unseen_nil (T : Int → List Int) (l : List (Int × Value)) : unseen T l [] = total T l := by simp [unseen, total]
theorem unseen_other {T : Int → List Int} {x : Int} {ks : List Int} : ∀ (l : List (Int × Value)), x ∉ l.map (·.1) → unseen T l (x :: ks) = unseen T l ks
  | [], _ => rfl
  | e :: l, h => by
    have h1 : e.1 ≠ x := fun e1 => h (by simp [e1])
    have ih := unseen_other (T := T) (ks := ks) l (fun h2 => h (List.mem_cons_of_mem _ h2))
    unfold unseen at ih ⊢
    rw [List.map_cons, List.sum_cons, List.map_cons, List.sum_cons, ih]
    congr 1
    by_cases h2 : e.1 ∈ ks
    · rw [if_pos (List.mem_cons_of_mem _ h2), if_pos h2]
    · rw [if_neg (by simp [h1, h2]), if_neg h2]
theorem unseen_cons {T : Int → List Int} {x : Int} {ks : List Int} (hx : x ∉ ks) : ∀ (l : List (Int × Value)), (l.map (·.1)).Nodup → (T x ≠ [] → x ∈ l.map (·.1)) → unseen T l (x :: ks) + (T x).length = unseen T l ks
  | [], _, h => by
    have : T x = [] := by
      cases ht : T x with
      | nil => rfl
      | cons a r => exact absurd (h (by rw [ht]; simp)) (by simp)
    simp [unseen, this]
  | e :: l, hn, h => by
    rw [List.map_cons, List.nodup_cons] at hn
    by_cases h1 : e.1 = x
    · have ih := unseen_other (T := T) (x := x) (ks := ks) l (by rw [← h1]; exact hn.1)
      unfold unseen at ih ⊢
      rw [List.map_cons, List.sum_cons, List.map_cons, List.sum_cons, ih, h1, if_pos List.mem_cons_self, if_neg hx]
      omega
    · have ih := unseen_cons hx l hn.2 (fun ht => by
        rcases List.mem_cons.1 (h ht) with h2 | h2
        · exact absurd h2.symm h1
        · exact h2)
      unfold unseen at ih ⊢
      rw [List.map_cons, List.sum_cons, List.map_cons, List.sum_cons]
      have : (if e.1 ∈ x :: ks then 0 else (T e.1).length) = if e.1 ∈ ks then 0 else (T e.1).length := by
        by_cases h2 : e.1 ∈ ks
        · rw [if_pos (List.mem_cons_of_mem _ h2), if_pos h2]
        · rw [if_neg (by simp [h1, h2]), if_neg h2]
      rw [this]; omega

theorem clone_c {w : World} {p : Option Addr} {c : Nat} {xs : List Int} (h : Row w p (xs.map I64)) (hl : xs.length ≤ 1000000) :
    Calls prog 71 #[.slice p xs.length c] w fun e w' => Fr [] w w' ∧ ∃ p' c', e = .returned (.slice p' xs.length c') ∧ OwnZ w' w.heap.size 1 p' xs.length c' (xs.map I64) := by
  refine slices_Clone_g71.link (bc (fun hn => ?_) fun hn k1 w2 s2 b2 => ?_)
  · have hp : p = none := by simpa using hn
    have hx : xs = [] := by
      cases xs with
      | nil => rfl
      | cons a r => obtain ⟨ad, e⟩ := h.has (by simp); rw [hp] at e; cases e
    subst hx
    exact ⟨Fr.refl _ _, none, 0, rfl, OwnZ.nil _ _ _⟩
  · have n2 := g_new1 s2
    have o2 : OwnZ w2 w.heap.size 1 (some ⟨k1, 0, none⟩) ([] : List Int).length 0 (([] : List Int).map I64) := OwnZ.blk b2 rfl (by simp) n2.1
    refine ⟨xs.map I64, by simp, h.old s2.fr, appMN (ys := []) (zs := xs) (C := I64) (fun _ => rfl) rfl (u := w) (B := w.heap.size) o2 s2.fr rfl (Nat.le_refl _) (by omega) (fun _ => rfl) (by simp) (fun ad hp => by simp) (by simp; omega) (by simp; omega) fun w6 p7 c9 F6 _ _ o6 _ => ?_⟩
    exact ⟨F6, p7, c9, by simp, by simpa using o6⟩

set_option maxHeartbeats 1000000 in
theorem reached_c {w : World} {B m : Nat} {T : Int → List Int} {l : List (Int × Value)} (hM : MapG kenc w m l) (hX : EntOk w B T l) (hl : 2 * total T l ≤ 200000) (hT : ∀ n, (T n).length ≤ total T l) (a : Int) :
    Calls prog 40 #[.map (some m), I64 a] w fun e w' => Fr [] w w' ∧ ∃ k2 l2, e = .returned (.map (some k2)) ∧ MapG kenc w' k2 l2 ∧ w.heap.size ≤ k2 ∧ (∀ x, x ∈ l2.map (·.1) ↔ Reach T a x) ∧ ∀ q ∈ l2, ∃ n : Int, q.2 = I64 n ∧ 1 ≤ n ∧ n ≤ 200000 := by
  refine span_reached.link fun w1 k2 s1 h1 => ?_
  have n1 := g_new1 s1
  obtain ⟨p6, c8, b9, lk, o6, _⟩ := hX.look a
  have hTa := hT a
  refine ⟨l, hM.fr s1.fr (by simp), p6, _, c8, ⟨b9, lk⟩, (clone_c (xs := T a) (o6.1.row.old s1.fr) (by omega)).mono ?_⟩
  rintro e10 w11 ⟨f11, p12, c14, rfl, o12⟩
  have F11 := s1.fr.trans' f11
  have hM0 : (T a).length + total T l ≤ 200000 := by omega
  generalize hM0e : (T a).length + total T l = M0 at *
  refine ⟨p12, _, c14, rfl, fun mm p k c w' => ∃ (xs : List Int) (ls : List (Int × Value)), k = xs.length ∧ mm = xs.length + unseen T l (ls.map (·.1)) ∧ mm ≤ M0 ∧ OwnZ w' w.heap.size 1 p xs.length c (xs.map I64) ∧ MapG kenc w' k2 ls ∧ Fr [] w w' ∧
    (∀ x ∈ xs, Reach T a x) ∧ (∀ x ∈ ls.map (·.1), Reach T a x) ∧ (∀ y ∈ T a, y ∈ ls.map (·.1) ∨ y ∈ xs) ∧ (∀ x ∈ ls.map (·.1), ∀ y ∈ T x, y ∈ ls.map (·.1) ∨ y ∈ xs) ∧ ∀ q ∈ ls, ∃ n : Int, q.2 = I64 n ∧ 1 ≤ n ∧ n + mm ≤ M0, M0, ⟨T a, [], rfl, by simp [unseen_nil, hM0e], Nat.le_refl _, o12.mono (by have := s1.fr.size; omega), (MapG.new h1).fr f11 (by simp), F11, fun x hx => .one hx, by simp, fun y hy => .inr hy, by simp, by simp⟩, ?_⟩
  rintro mm p18 k19 c20 w21 ⟨xs, ls, rfl, rfl, hmm, o, M21, F, g1, g2, g3, g4, g5⟩
  refine bc (fun hpos => ?_) fun hnp => ?_
  · have hpos : (0 : Int) < (xs.length : Int) := of_decide_eq_true hpos
    have hne : xs ≠ [] := fun e => by rw [e] at hpos; simp at hpos
    obtain ⟨ys, x, rfl⟩ : ∃ ys x, xs = ys ++ [x] := ⟨xs.dropLast, xs.getLast hne, (List.dropLast_concat_getLast hne).symm⟩
    have hlen : (ys ++ [x]).length = ys.length + 1 := by simp
    have ew : IntKind.wrap .i64 (((ys ++ [x]).length : Nat) - (1 : Int)) = (ys.length : Int) := by rw [hlen, wrapi (by omega) (by omega)]; omega
    rw [ew]
    obtain ⟨ad, hp⟩ := o.row.has (by simp)
    have hcell : w21.cell? (ad.add ys.length) = some (I64 x) := o.row.get hp (by simp)
    have hcap := o.2.1
    refine ⟨ad, hp, ⟨by omega, by omega⟩, x, by rw [Int.toNat_natCast, Nat.mul_one]; exact hcell, ⟨by omega, by omega, by omega⟩, ls, M21, ?_⟩
    have hnd := M21.nodup
    -- how often it has come
    have hxr := g1 x (by simp)
    have o' : OwnZ w21 w.heap.size 1 p18 ys.length c20 (ys.map I64) := OwnZ.front (ys := [I64 x]) (by simpa using o) (by simp) (by omega)
    cases hlk : V.look ls x with
    | some y =>
      obtain ⟨n, hn, hn1, hn2⟩ := g5 _ (look_mem hlk)
      have hn : y = I64 n := hn
      subst hn
      have hxk : x ∈ ls.map (·.1) := List.mem_map.2 ⟨_, look_mem hlk, rfl⟩
      refine ⟨n, ⟨true, .inl ⟨rfl, hlk⟩⟩, k2, ls, rfl, M21, fun w30 u30 => ?_⟩
      rw [show IntKind.wrap .i64 (n + 1) = n + 1 from wrapi (by omega) (by omega)] at u30
      have F30 : Fr [] w w30 := F.trans u30.fr (fun z hz => .inr (by rw [List.mem_singleton.1 hz]; exact n1.1))
      refine ⟨_, u30.map, n + 1, ⟨true, .inl ⟨rfl, by rw [look_updM, if_pos rfl]⟩⟩, bF (by simp; omega) ?_⟩
      have keys : ∀ z, z ∈ (updM ls x (I64 (n + 1))).map (·.1) ↔ z ∈ ls.map (·.1) := fun z => by
        rw [key_updM]
        exact ⟨fun h => by rcases h with rfl | h; exact hxk; exact h, .inr⟩
      rw [subA_0, Int.toNat_natCast]
      have hun : unseen T l ((updM ls x (I64 (n + 1))).map (·.1)) = unseen T l (ls.map (·.1)) := unseen_congr l keys
      refine ⟨ys.length + unseen T l ((updM ls x (I64 (n + 1))).map (·.1)), by rw [hun]; omega, ys, _, by simp, rfl, by rw [hun]; omega, o'.fr u30.fr (fun ad hp2 => ?_), u30.map, F30, fun z hz => g1 z (by simp [hz]), fun z hz => g2 z ((keys z).1 hz), fun y hy => ?_, fun z hz y hy => ?_, fun q hq => ?_⟩
      · obtain ⟨_, _, _, h4⟩ := o'
        rcases h4 with ⟨e4, _⟩ | ⟨b, zs, e4, _, hb, _⟩
        · rw [e4] at hp2; cases hp2
        · rw [e4] at hp2; injection hp2 with hp2; subst hp2; simpa using map_blk M21 hb
      · rw [keys]
        rcases g3 y hy with h2 | h2
        · exact .inl h2
        · rcases List.mem_append.1 h2 with h2 | h2
          · exact .inr h2
          · rw [List.mem_singleton.1 h2]; exact .inl hxk
      · rw [keys]
        rcases g4 z ((keys z).1 hz) y hy with h2 | h2
        · exact .inl h2
        · rcases List.mem_append.1 h2 with h2 | h2
          · exact .inr h2
          · rw [List.mem_singleton.1 h2]; exact .inl hxk
      · rw [hun]
        rcases mem_updM2 hnd hq with rfl | ⟨hq, _⟩
        · exact ⟨n + 1, rfl, by omega, by omega⟩
        · obtain ⟨n', e1, e2, e3⟩ := g5 q hq
          exact ⟨n', e1, e2, by omega⟩
    | none =>
      have hxk : x ∉ ls.map (·.1) := fun hx => by
        obtain ⟨q, hq, e⟩ := List.mem_map.1 hx
        have := look_of_mem hnd (k := q.1) (x := q.2) hq
        rw [e, hlk] at this; cases this
      refine ⟨0, ⟨false, .inr ⟨rfl, hlk, rfl⟩⟩, k2, ls, rfl, M21, fun w30 u30 => ?_⟩
      rw [show IntKind.wrap .i64 (0 + 1) = 1 from rfl] at u30
      have F30 : Fr [] w w30 := F.trans u30.fr (fun z hz => .inr (by rw [List.mem_singleton.1 hz]; exact n1.1))
      refine ⟨_, u30.map, 1, ⟨true, .inl ⟨rfl, by rw [look_updM, if_pos rfl]⟩⟩, bT (by decide) ?_⟩
      obtain ⟨p36, c38, b39, lk36, o36, _⟩ := hX.look x
      have keys : ∀ z, z ∈ (updM ls x (I64 1)).map (·.1) ↔ z ∈ x :: ls.map (·.1) := fun z => by rw [key_updM, List.mem_cons]
      have hun : unseen T l ((updM ls x (I64 1)).map (·.1)) + (T x).length = unseen T l (ls.map (·.1)) := by
        rw [unseen_congr l keys]; exact unseen_cons hxk l hM.nodup (hX.all x)
      refine ⟨l, hM.fr F30 (by simp), p36, _, c38, ⟨b39, lk36⟩, (T x).map I64, by simp, o36.1.row.old F30, ?_⟩
      rw [subA_0, Int.toNat_natCast]
      have o30 : OwnZ w30 w.heap.size 1 p18 ys.length c20 (ys.map I64) := o'.fr u30.fr (fun ad hp2 => by
        obtain ⟨_, _, _, h4⟩ := o'
        rcases h4 with ⟨e4, _⟩ | ⟨b, zs, e4, _, hb, _⟩
        · rw [e4] at hp2; cases hp2
        · rw [e4] at hp2; injection hp2 with hp2; subst hp2; simpa using map_blk M21 hb)
      refine appMN (ys := ys) (zs := T x) (C := I64) (fun _ => rfl) rfl (u := w) (B := w.heap.size) o30 F30 rfl (Nat.le_refl _) F30.size (fun _ => rfl) (by simp) (fun ad hp => by simp) (by omega) (by omega) fun w41 p42 c44 F41 G41 _ o41 _ => ?_
      have M41 := u30.map.fr G41 (fun hm => by
        rw [List.nil_append, g_mem_pb] at hm
        obtain ⟨ad2, h2, h3⟩ := hm
        obtain ⟨_, _, _, h4⟩ := o30
        rcases h4 with ⟨e4, _⟩ | ⟨b, zs, e4, _, hb, _⟩
        · rw [e4] at h2; cases h2
        · rw [e4] at h2; injection h2 with h2; subst h2; exact map_blk u30.map hb h3)
      refine ⟨(ys ++ T x).length + unseen T l ((updM ls x (I64 1)).map (·.1)), by rw [List.length_append]; omega, ys ++ T x, _, rfl, rfl, by rw [List.length_append]; omega, o41, M41, F41, fun z hz => ?_, fun z hz => ?_, fun y hy => ?_, fun z hz y hy => ?_, fun q hq => ?_⟩
      · rcases List.mem_append.1 hz with h2 | h2
        · exact g1 z (by simp [h2])
        · exact .more hxr h2
      · rcases List.mem_cons.1 ((keys z).1 hz) with rfl | h2
        · exact hxr
        · exact g2 z h2
      · rw [keys, List.mem_cons, List.mem_append]
        rcases g3 y hy with h2 | h2
        · exact .inl (.inr h2)
        · rcases List.mem_append.1 h2 with h2 | h2
          · exact .inr (.inl h2)
          · exact .inl (.inl (List.mem_singleton.1 h2))
      · rw [keys, List.mem_cons, List.mem_append]
        rcases List.mem_cons.1 ((keys z).1 hz) with rfl | h3
        · exact .inr (.inr hy)
        · rcases g4 z h3 y hy with h2 | h2
          · exact .inl (.inr h2)
          · rcases List.mem_append.1 h2 with h2 | h2
            · exact .inr (.inl h2)
            · exact .inl (.inl (List.mem_singleton.1 h2))
      · rcases mem_updM2 hnd hq with rfl | ⟨hq, _⟩
        · exact ⟨1, rfl, by omega, by rw [List.length_append]; omega⟩
        · obtain ⟨n', e1, e2, e3⟩ := g5 q hq
          exact ⟨n', e1, e2, by rw [List.length_append]; omega⟩
  · have hnp : ¬ (0 : Int) < (xs.length : Int) := of_decide_eq_false hnp
    have hx : xs = [] := List.length_eq_zero_iff.1 (by omega)
    subst hx
    refine ⟨F, k2, ls, rfl, M21, n1.1, fun x => ⟨g2 x, fun hr => ?_⟩, fun q hq => ?_⟩
    · induction hr with
      | one hb => exact (g3 _ hb).resolve_right (by simp)
      | more _ hc ih => exact (g4 _ ih _ hc).resolve_right (by simp)
    · obtain ⟨n, e1, e2, e3⟩ := g5 q hq
      exact ⟨n, e1, e2, by omega⟩
end Go.Proofs.Ytnplopiconabiaa.Span

end
section
/- Span: sets of pairs. -/
namespace Go.Proofs.Ytnplopiconabiaa.Span
open Go Go.V
open Go.Proofs.Ytnplopiconabiaa.VC
open Go.Proofs.Try (prog)
set_option linter.unusedVariables false
set_option linter.unusedSimpArgs false
set_option maxRecDepth 20000

abbrev PI := Int × Int
def pcmp (x y : PI) : Int := if Lib.compareInt x.1 y.1 ≠ 0 then Lib.compareInt x.1 y.1 else Lib.compareInt x.2 y.2
def plt (x y : PI) : Prop := x.1 < y.1 ∨ (x.1 = y.1 ∧ x.2 < y.2)
theorem cI (x y : Int) : (Lib.compareInt x y = -1 ∧ x < y) ∨ (Lib.compareInt x y = 1 ∧ y < x) ∨ (Lib.compareInt x y = 0 ∧ x = y) := by
  unfold Lib.compareInt
  split
  · exact .inl ⟨rfl, by omega⟩
  · split
    · exact .inr (.inl ⟨rfl, by omega⟩)
    · exact .inr (.inr ⟨rfl, by omega⟩)
theorem pcmp_lt (x y : PI) : pcmp x y < 0 ↔ plt x y := by
  unfold pcmp plt
  rcases cI x.1 y.1 with ⟨h, h'⟩ | ⟨h, h'⟩ | ⟨h, h'⟩
  · rw [h, if_pos (by decide)]; exact ⟨fun _ => .inl h', fun _ => by decide⟩
  · rw [h, if_pos (by decide)]; exact ⟨fun h2 => by omega, fun h2 => by omega⟩
  · rw [h, if_neg (by simp)]
    rcases cI x.2 y.2 with ⟨g, g'⟩ | ⟨g, g'⟩ | ⟨g, g'⟩ <;> rw [g]
    · exact ⟨fun _ => .inr ⟨h', g'⟩, fun _ => by decide⟩
    · exact ⟨fun h2 => by omega, fun h2 => by omega⟩
    · exact ⟨fun h2 => by omega, fun h2 => by omega⟩
theorem pcmp_eq (x y : PI) : pcmp x y = 0 ↔ x = y := by
  obtain ⟨x1, x2⟩ := x
  obtain ⟨y1, y2⟩ := y
  unfold pcmp
  simp only [Prod.mk.injEq]
  rcases cI x1 y1 with ⟨h, h'⟩ | ⟨h, h'⟩ | ⟨h, h'⟩
  · rw [h, if_pos (by decide)]; omega
  · rw [h, if_pos (by decide)]; omega
  · rw [h, if_neg (by simp)]
    rcases cI x2 y2 with ⟨g, g'⟩ | ⟨g, g'⟩ | ⟨g, g'⟩ <;> rw [g] <;> omega
theorem plt_trans {x y z : PI} (h1 : plt x y) (h2 : plt y z) : plt x z := by unfold plt at *; omega
theorem plt_irrefl (x : PI) : ¬ plt x x := by unfold plt; omega
theorem plt_total (x y : PI) : plt x y ∨ x = y ∨ plt y x := by
  obtain ⟨x1, x2⟩ := x
  obtain ⟨y1, y2⟩ := y
  unfold plt; simp only [Prod.mk.injEq]; omega

open Go.RowKit in
theorem cmpI_c (x y : Int) (W : World) : Calls prog 121 #[.int .i64 x, .int .i64 y] W fun e w' => e = .returned (.int .i64 (Lib.compareInt x y)) ∧ w' = W := AnyG.cmp_Compare_int Try.cmpI x y W
open Go.RowKit in
set_option maxHeartbeats 1000000 in
theorem compare_w (ba bb ca cb : Nat) (a0 a1 b0 b1 : Int) (w : World) (ha0 : w.cell? ⟨ba, 0, none⟩ = some (.int .i64 a0)) (ha1 : w.cell? ⟨ba, 1, none⟩ = some (.int .i64 a1)) (hb0 : w.cell? ⟨bb, 0, none⟩ = some (.int .i64 b0)) (hb1 : w.cell? ⟨bb, 1, none⟩ = some (.int .i64 b1)) :
    Calls prog 96 #[.slice (some ⟨ba, 0, none⟩) 2 ca, .slice (some ⟨bb, 0, none⟩) 2 cb] w fun e w' => e = .returned (.int .i64 (pcmp (a0, a1) (b0, b1))) ∧ w' = w := by
  have h0 := cmpI_c a0 b0
  have h1 := cmpI_c a1 b1
  unfold pcmp
  simp only
  generalize Lib.compareInt a0 b0 = r0 at *
  generalize Lib.compareInt a1 b1 = r1 at *
  go_enter Try.func96, Try.ntmps96
  go_wp2
  have H0 := Go.V.Hid.mk h0
  have H1 := Go.V.Hid.mk h1
  clear h0 h1
  go_loop [11] (fun i => ∃ k : Nat, k ≤ 2 ∧ i = .int .i64 k ∧ (1 ≤ k → r0 = 0) ∧ (2 ≤ k → r1 = 0)) (fun i => 2 - (intOf i).toNat)
  case atStart => exact ⟨0, by omega, rfl, by omega, by omega⟩
  case round =>
    obtain ⟨k, hk, rfl, z0, z1⟩ := hrel
    rcases (by omega : k = 0 ∨ k = 1 ∨ k = 2) with rfl | rfl | rfl
    · clear z0 z1
      by_cases e : r0 = 0
      · subst e
        go_wp2_with (go_at_call 121; refine (H0.get _).mono ?_; rintro e w' ⟨rfl, rfl⟩)
        go_round
        case rel => exact ⟨1, by omega, by go_num, by simp, by simp⟩
        case measure => simp [intOf]
      · have e1 : (r0 == 0) = false := by simpa using e
        go_wp2_with (go_at_call 121; refine (H0.get _).mono ?_; rintro e w' ⟨rfl, rfl⟩)
        go_ret
        exact ⟨rfl, rfl⟩
    · have e0 := z0 (by omega)
      subst e0
      clear z0 z1
      by_cases e : r1 = 0
      · subst e
        go_wp2_with (go_at_call 121; refine (H1.get _).mono ?_; rintro e w' ⟨rfl, rfl⟩)
        go_round
        case rel => exact ⟨2, by omega, by go_num, by simp, by simp⟩
        case measure => simp [intOf]
      · have e1 : (r1 == 0) = false := by simpa using e
        go_wp2_with (go_at_call 121; refine (H1.get _).mono ?_; rintro e w' ⟨rfl, rfl⟩)
        go_ret
        exact ⟨rfl, rfl⟩
    · have e0 := z0 (by omega)
      have e1 := z1 (by omega)
      subst e0
      subst e1
      clear z0 z1
      go_wp2
      go_ret
      exact ⟨rfl, rfl⟩
open Go.RowKit in
theorem cmp_w (ba bb ca cb : Nat) (x y : PI) (w : World) (ha0 : w.cell? ⟨ba, 0, none⟩ = some (.int .i64 x.1)) (ha1 : w.cell? ⟨ba, 1, none⟩ = some (.int .i64 x.2)) (hb0 : w.cell? ⟨bb, 0, none⟩ = some (.int .i64 y.1)) (hb1 : w.cell? ⟨bb, 1, none⟩ = some (.int .i64 y.2)) :
    Calls prog 73 #[.slice (some ⟨ba, 0, none⟩) 2 ca, .slice (some ⟨bb, 0, none⟩) 2 cb] w fun e w' => e = .returned (.int .i64 (pcmp x y)) ∧ w' = w := by
  have h := Go.V.Hid.mk (compare_w ba bb ca cb x.1 x.2 y.1 y.2 w ha0 ha1 hb0 hb1)
  clear ha0 ha1 hb0 hb1
  have e : pcmp (x.1, x.2) (y.1, y.2) = pcmp x y := rfl
  rw [e] at h
  clear e
  generalize pcmp x y = r at h ⊢
  go_enter Try.func73, Try.ntmps73
  go_wp2_with (go_at_call 96; refine (h.get).mono ?_; rintro e w' ⟨rfl, rfl⟩)
  go_ret
  exact ⟨rfl, rfl⟩

/-- A pair in memory: the first two cells of a block. -/
def TupO (w : World) (b : Nat) (x : PI) : Prop := ∃ cs, Blk w b (I64 x.1 :: I64 x.2 :: cs)
abbrev tv (b : Nat) : Value := .slice (some ⟨b, 0, none⟩) 2 2
abbrev tz (z : Nat × PI) : Value := tv z.1
theorem TupO.fr {F : List Nat} {v w : World} {b : Nat} {x : PI} (h : TupO v b x) (hf : Fr F v w) (hn : b ∉ F) : TupO w b x := by
  obtain ⟨cs, hb⟩ := h; exact ⟨cs, hb.fr hf hn⟩
theorem TupO.lt {w : World} {b : Nat} {x : PI} (h : TupO w b x) : b < w.heap.size := by obtain ⟨cs, hb⟩ := h; exact hb.lt
theorem TupO.c0 {w : World} {b : Nat} {x : PI} (h : TupO w b x) : w.cell? ⟨b, 0, none⟩ = some (I64 x.1) := by obtain ⟨cs, hb⟩ := h; rw [hb.cell]; rfl
theorem TupO.c1 {w : World} {b : Nat} {x : PI} (h : TupO w b x) : w.cell? ⟨b, 1, none⟩ = some (I64 x.2) := by obtain ⟨cs, hb⟩ := h; rw [hb.cell]; rfl
theorem TupO.row {w : World} {b : Nat} {x : PI} (h : TupO w b x) : Row w (some ⟨b, 0, none⟩) [I64 x.1, I64 x.2] := by
  obtain ⟨cs, hb⟩ := h
  refine Row.of_blk (off := 0) hb (fun j u hj => ?_) (fun u hu => by simp at hu; rcases hu with rfl | rfl <;> rfl)
  match j, hj with
  | 0, hj => simpa using hj
  | 1, hj => simpa using hj
theorem cmp_v {w : World} {b c : Nat} {x y : PI} (hx : TupO w b x) (hy : TupO w c y) : Calls prog 73 #[tv b, tv c] w fun e w' => e = .returned (I64 (pcmp x y)) ∧ w' = w := cmp_w b c 2 2 x y w hx.c0 hx.c1 hy.c0 hy.c1
theorem same_v {w : World} {b c : Nat} {x y : PI} (hx : TupO w b x) (hy : TupO w c y) : Calls prog 76 #[tv b, tv c] w fun e w' => e = .returned (.bool (decide (x = y))) ∧ w' = w := by
  refine tuple_same.link ((cmp_v hx hy).mono ?_)
  rintro e w2 ⟨rfl, rfl⟩
  exact ⟨_, rfl, by rw [decide_eq_decide.2 (pcmp_eq x y)], rfl⟩
end Go.Proofs.Ytnplopiconabiaa.Span

end
section
/- Span: a map's keys, sorted (by the shelf's contracts). -/
namespace Go.Proofs
open Go.RowKit Go.Maps Go.Sort Go.Shelf
set_option linter.unusedVariables false
set_option linter.unusedSimpArgs false

theorem Try.sortsA (m : Nat) : AnyZI.SortsIn Try.prog Try.sortedA_ren Fence.wide m :=
  ⟨fun blk off cap ss W hH hblk hsz => callsIn_wide.2 (AnyM.slices_Sort_int Try.sortA blk off cap ss W hH hblk hsz),
   fun p cap W => callsIn_wide.2 (AnyM.slices_Sort_int_none Try.sortA p cap W)⟩

/-- A map that reads as a datum. -/
theorem Try.owns_of {w : World} {b : Nat} {l : List (Int × Value)} (h : V.MapG (Value.int .i64) w b l) (hk : ∀ p ∈ l, -9223372036854775808 ≤ p.1 ∧ p.1 ≤ 9223372036854775807) (hl : l.length ≤ 1048576) :
    ∃ D : DataW Unit, w.ownsMap Try.prog 3 (fun _ => some (.lit (.bool true), [])) b l.length D ∧ (intKeys D).Perm (l.map (·.1)) ∧ Maps.size D = l.length := by
  obtain ⟨es, clock, hb, he, hborn, hnd, hkeys⟩ := h
  have hlen : es.toList.length = l.length := by simpa using congrArg List.length he
  have hget : ∀ x ∈ es.toList, ∃ p ∈ l, x.key = Value.int .i64 p.1 := fun x hx => by
    have : (x.key, x.val) ∈ es.toList.map (fun e => (e.key, e.val)) := List.mem_map.2 ⟨x, hx, rfl⟩
    rw [he] at this
    obtain ⟨p, hp, e⟩ := List.mem_map.1 this
    injection e with e1 e2
    exact ⟨p, hp, e1.symm⟩
  have hu : Try.prog.underlying 3 = some (.int .i64) := by kernel_rfl
  have hrd : ∀ x ∈ es.toList, Go.WideElems.rd Try.prog 3 (fun _ => some ((.lit (.bool true) : DataW Unit), [])) x = some ((match x.key with | .int _ n => .int .i64 n | _ => .bool false), .lit (.bool true)) := fun x hx => by
    obtain ⟨p, hp, hkey⟩ := hget x hx
    have hw : (Lit.int .i64 p.1).wf = true := by
      have := hk p hp
      simp only [Lit.wf, Bool.and_eq_true, decide_eq_true_eq]
      exact this
    obtain ⟨xk, xv, xb⟩ := x
    simp only at hkey
    subst hkey
    have hkk : keyOf Try.prog 3 (.int .i64 p.1) = some (.int .i64 p.1) := by simp [keyOf, hu, mapKey, hw]
    exact Go.WideElems.rd_mk (R := fun _ => some ((.lit (.bool true) : DataW Unit), [])) hkk rfl
  have hrg : es.toList.map (Go.WideElems.rg Try.prog 3 (fun _ => some ((.lit (.bool true) : DataW Unit), []))) = l.map fun p => (Lit.int .i64 p.1, .lit (.bool true)) := by
    have e1 : es.toList.map (Go.WideElems.rg Try.prog 3 (fun _ => some ((.lit (.bool true) : DataW Unit), []))) = (es.toList.map (fun e => (e.key, e.val))).map fun kv => ((match kv.1 with | .int _ n => Lit.int .i64 n | _ => .bool false), (.lit (.bool true) : DataW Unit)) := by
      rw [List.map_map]
      refine List.map_congr_left fun x hx => ?_
      rw [Go.WideElems.rg_of (hrd x hx)]; rfl
    rw [e1, he, List.map_map]
    rfl
  refine ⟨.map ((es.toList.map (Go.WideElems.rg Try.prog 3 (fun _ => some (.lit (.bool true), [])))).foldr DataW.insert []), ⟨es, clock, hb, ⟨?_, ⟨hborn, hnd, ?_⟩, fun x hx => ⟨_, hrd x hx⟩⟩, by rw [← hlen]; simp, rfl⟩, ?_, ?_⟩
  · have : es.size = l.length := by simpa using hlen
    rw [this]; exact Nat.le_trans hl (by decide)
  · have e2 : es.toList.map (·.key) = (es.toList.map (fun e => (e.key, e.val))).map (·.1) := by rw [List.map_map]; rfl
    rw [e2, he, List.map_map]
    have e3 : ((fun x : Value × Value => x.1) ∘ fun p : Int × Value => (Value.int IntKind.i64 p.1, p.2)) = (Value.int IntKind.i64) ∘ (·.1) := rfl
    rw [e3, ← List.map_map]
    exact List.pairwise_map.2 (hkeys.imp fun hne e => hne (by injection e))
  · rw [hrg]
    have hp := WideShapes.sorted_perm (l.map fun p => (Lit.int .i64 p.1, (.lit (.bool true) : DataW Unit)))
    have := hp.map fun q => Go.intOf q.1
    refine this.trans ?_
    rw [List.map_map]
    exact .of_eq rfl
  · rw [hrg]
    have hp := WideShapes.sorted_perm (l.map fun p => (Lit.int .i64 p.1, (.lit (.bool true) : DataW Unit)))
    have := hp.length_eq
    rw [List.length_map] at this
    exact this

theorem Try.keysSortedE {w : World} {b : Nat} {l : List (Int × Value)} (h : V.MapG (Value.int .i64) w b l) (hk : ∀ p ∈ l, -9223372036854775808 ≤ p.1 ∧ p.1 ≤ 9223372036854775807) (hl : l.length ≤ 1048576) :
    Calls Try.prog 39 #[.map (some b)] w fun e w1 => ∃ x, e = .returned x ∧ Below w.heap.size w w1 ∧ Calls Try.prog 38 #[x] w1 fun e w2 => ∃ (v : Value) (ss : List Int), e = .returned v ∧ ss.Perm (l.map (·.1)) ∧
      w2.ownsRow w.heap.size 3 1 v ss.length ((ss.mergeSort (fun x y => decide (x ≤ y))).map encZ) ∧ (v = .slice none 0 0 ↔ ss = []) ∧ Below w.heap.size w w2 := by
  obtain ⟨D0, hown, hperm, hsize⟩ := Try.owns_of h hk hl
  have hbl := hown.lt
  have cK : CallsIn Fence.wide 5 Try.prog 39 #[.map (some b)] w fun e w' => e = .returned (.func (.func 70) #[] #[.pointer (some ⟨w.heap.size, 0, none⟩)]) ∧ w' = w.alloc (.cells #[.map (some b)] 74) := AnyZI.keys_in Try.keysE Fence.wide 5 trivial rfl (some b) w
  refine (callsIn_wide.1 cK).mono ?_
  rintro e w1 ⟨rfl, rfl⟩
  refine ⟨_, rfl, (Below.refl _ w).alloc (Nat.le_refl _) _, ?_⟩
  have hseq : SeqGives Fence.wide 2 Try.prog 70 #[.pointer (some ⟨w.heap.size, 0, none⟩)] encZ (fun ss => ss.Perm (intKeys D0)) (Maps.size D0) (w.alloc (.cells #[.map (some b)] 74)) :=
    AnyZI.keys_gives (ρ := Try.keysE_ren) { Try.keysE with } Fence.wide _ trivial rfl (by omega) w.heap.size b l.length D0 _ (by simp) (by simp) (by
      obtain ⟨es, clock, hb, Ft, hs, hD⟩ := hown
      exact ⟨es, clock, (Below.heap_alloc _ _ b hbl).trans hb, Ft, hs, hD⟩)
  have hmax : Maps.size D0 ≤ maxLen := by rw [hsize]; exact Nat.le_trans hl (by decide)
  have hbytes : Maps.size D0 * 8 ≤ 140737488355328 := by rw [hsize]; omega
  have cS := AnyZI.sorted_in Try.sortedA Fence.wide 5 trivial trivial trivial trivial rfl (by omega) (Try.sortsA _) (enters_of Try.func67 (by kernel_rfl) rfl) 70 #[.pointer (some ⟨w.heap.size, 0, none⟩)] trivial (enters_of Try.func70 (by kernel_rfl) rfl) _ _ hmax hbytes _ hseq
  refine (callsIn_wide.1 cS).mono ?_
  rintro e w2 ⟨v, ss, rfl, hS, hrow, hnil, hB⟩
  exact ⟨v, ss, rfl, hS.trans hperm, ownsRow_base_a hrow (by simp), hnil, ((Below.refl _ w).alloc (Nat.le_refl _) _).trans (hB.mono (by simp))⟩
theorem Try.keysSortedI {w : World} {b : Nat} {l : List (Int × Value)} (h : V.MapG (Value.int .i64) w b l) (hk : ∀ p ∈ l, -9223372036854775808 ≤ p.1 ∧ p.1 ≤ 9223372036854775807) (hl : l.length ≤ 1048576) :
    Calls Try.prog 50 #[.map (some b)] w fun e w1 => ∃ x, e = .returned x ∧ Below w.heap.size w w1 ∧ Calls Try.prog 38 #[x] w1 fun e w2 => ∃ (v : Value) (ss : List Int), e = .returned v ∧ ss.Perm (l.map (·.1)) ∧
      w2.ownsRow w.heap.size 3 1 v ss.length ((ss.mergeSort (fun x y => decide (x ≤ y))).map encZ) ∧ (v = .slice none 0 0 ↔ ss = []) ∧ Below w.heap.size w w2 := by
  obtain ⟨D0, hown, hperm, hsize⟩ := Try.owns_of h hk hl
  have hbl := hown.lt
  have cK : CallsIn Fence.wide 5 Try.prog 50 #[.map (some b)] w fun e w' => e = .returned (.func (.func 77) #[] #[.pointer (some ⟨w.heap.size, 0, none⟩)]) ∧ w' = w.alloc (.cells #[.map (some b)] 80) := AnyZI.keys_in Try.keysI Fence.wide 5 trivial rfl (some b) w
  refine (callsIn_wide.1 cK).mono ?_
  rintro e w1 ⟨rfl, rfl⟩
  refine ⟨_, rfl, (Below.refl _ w).alloc (Nat.le_refl _) _, ?_⟩
  have hseq : SeqGives Fence.wide 2 Try.prog 77 #[.pointer (some ⟨w.heap.size, 0, none⟩)] encZ (fun ss => ss.Perm (intKeys D0)) (Maps.size D0) (w.alloc (.cells #[.map (some b)] 80)) :=
    AnyZI.keys_gives (ρ := Try.keysI_ren) { Try.keysI with } Fence.wide _ trivial rfl (by omega) w.heap.size b l.length D0 _ (by simp) (by simp) (by
      obtain ⟨es, clock, hb, Ft, hs, hD⟩ := hown
      exact ⟨es, clock, (Below.heap_alloc _ _ b hbl).trans hb, Ft, hs, hD⟩)
  have hmax : Maps.size D0 ≤ maxLen := by rw [hsize]; exact Nat.le_trans hl (by decide)
  have hbytes : Maps.size D0 * 8 ≤ 140737488355328 := by rw [hsize]; omega
  have cS := AnyZI.sorted_in Try.sortedA Fence.wide 5 trivial trivial trivial trivial rfl (by omega) (Try.sortsA _) (enters_of Try.func67 (by kernel_rfl) rfl) 77 #[.pointer (some ⟨w.heap.size, 0, none⟩)] trivial (enters_of Try.func77 (by kernel_rfl) rfl) _ _ hmax hbytes _ hseq
  refine (callsIn_wide.1 cS).mono ?_
  rintro e w2 ⟨v, ss, rfl, hS, hrow, hnil, hB⟩
  exact ⟨v, ss, rfl, hS.trans hperm, ownsRow_base_a hrow (by simp), hnil, ((Below.refl _ w).alloc (Nat.le_refl _) _).trans (hB.mono (by simp))⟩
theorem Try.keysSortedB {w : World} {b : Nat} {l : List (Int × Value)} (h : V.MapG (Value.int .i64) w b l) (hk : ∀ p ∈ l, -9223372036854775808 ≤ p.1 ∧ p.1 ≤ 9223372036854775807) (hl : l.length ≤ 1048576) :
    Calls Try.prog 97 #[.map (some b)] w fun e w1 => ∃ x, e = .returned x ∧ Below w.heap.size w w1 ∧ Calls Try.prog 38 #[x] w1 fun e w2 => ∃ (v : Value) (ss : List Int), e = .returned v ∧ ss.Perm (l.map (·.1)) ∧
      w2.ownsRow w.heap.size 3 1 v ss.length ((ss.mergeSort (fun x y => decide (x ≤ y))).map encZ) ∧ (v = .slice none 0 0 ↔ ss = []) ∧ Below w.heap.size w w2 := by
  obtain ⟨D0, hown, hperm, hsize⟩ := Try.owns_of h hk hl
  have hbl := hown.lt
  have cK : CallsIn Fence.wide 5 Try.prog 97 #[.map (some b)] w fun e w' => e = .returned (.func (.func 122) #[] #[.pointer (some ⟨w.heap.size, 0, none⟩)]) ∧ w' = w.alloc (.cells #[.map (some b)] 104) := AnyZI.keys_in Try.keysB Fence.wide 5 trivial rfl (some b) w
  refine (callsIn_wide.1 cK).mono ?_
  rintro e w1 ⟨rfl, rfl⟩
  refine ⟨_, rfl, (Below.refl _ w).alloc (Nat.le_refl _) _, ?_⟩
  have hseq : SeqGives Fence.wide 2 Try.prog 122 #[.pointer (some ⟨w.heap.size, 0, none⟩)] encZ (fun ss => ss.Perm (intKeys D0)) (Maps.size D0) (w.alloc (.cells #[.map (some b)] 104)) :=
    AnyZI.keys_gives (ρ := Try.keysB_ren) { Try.keysB with } Fence.wide _ trivial rfl (by omega) w.heap.size b l.length D0 _ (by simp) (by simp) (by
      obtain ⟨es, clock, hb, Ft, hs, hD⟩ := hown
      exact ⟨es, clock, (Below.heap_alloc _ _ b hbl).trans hb, Ft, hs, hD⟩)
  have hmax : Maps.size D0 ≤ maxLen := by rw [hsize]; exact Nat.le_trans hl (by decide)
  have hbytes : Maps.size D0 * 8 ≤ 140737488355328 := by rw [hsize]; omega
  have cS := AnyZI.sorted_in Try.sortedA Fence.wide 5 trivial trivial trivial trivial rfl (by omega) (Try.sortsA _) (enters_of Try.func67 (by kernel_rfl) rfl) 122 #[.pointer (some ⟨w.heap.size, 0, none⟩)] trivial (enters_of Try.func122 (by kernel_rfl) rfl) _ _ hmax hbytes _ hseq
  refine (callsIn_wide.1 cS).mono ?_
  rintro e w2 ⟨v, ss, rfl, hS, hrow, hnil, hB⟩
  exact ⟨v, ss, rfl, hS.trans hperm, ownsRow_base_a hrow (by simp), hnil, ((Below.refl _ w).alloc (Nat.le_refl _) _).trans (hB.mono (by simp))⟩
end Go.Proofs

end
section
/- Span: tuple.Set of pairs that differ. -/
namespace Go.Proofs.Ytnplopiconabiaa.Span
open Go Go.V
open Go.Proofs.Ytnplopiconabiaa.VC
open Go.Proofs.Try (prog)
set_option linter.unusedVariables false
set_option linter.unusedSimpArgs false
set_option maxRecDepth 20000

theorem reps_length1 (v : Value) : ∀ n, (reps [v] n).length = n
  | 0 => rfl
  | n + 1 => by
    have := reps_length1 v n
    simp [reps] at this ⊢
    try omega
theorem cloneT_c {w : World} {b : Nat} {x : PI} (h : TupO w b x) :
    Calls prog 86 #[tv b] w fun e w' => Fr [] w w' ∧ ∃ b' c', e = .returned (.slice (some ⟨b', 0, none⟩) 2 c') ∧ 2 ≤ c' ∧ TupO w' b' x ∧ w.heap.size ≤ b' := by
  refine slices_Clone_g86.link (bF rfl fun k1 w2 s2 b2 => ?_)
  have n2 := g_new1 s2
  have o2 : OwnZ w2 w.heap.size 1 (some ⟨k1, 0, none⟩) ([] : List Int).length 0 (([] : List Int).map I64) := OwnZ.blk b2 rfl (by simp) n2.1
  refine ⟨[x.1, x.2].map I64, rfl, (h.fr s2.fr (by simp)).row, ?_⟩
  refine appMN (ys := []) (zs := [x.1, x.2]) (C := I64) (fun _ => rfl) rfl (u := w) (B := w.heap.size) o2 s2.fr rfl (Nat.le_refl _) (by omega) (fun _ => rfl) (by simp) (fun ad hp => by simp) (by simp) (by simp) fun w6 p7 c9 F6 _ _ o6 _ => ?_
  obtain ⟨_, hc, _, h4⟩ := o6
  rcases h4 with ⟨_, e4⟩ | ⟨b', zs, rfl, hB, hb, _⟩
  · simp at hc; omega
  · exact ⟨F6, b', c9, rfl, by simpa using hc, ⟨zs, by simpa using hb⟩, hB⟩
theorem clipT_c (w : World) (b c : Nat) (hc : 2 ≤ c) : Calls prog 85 #[.slice (some ⟨b, 0, none⟩) 2 c] w fun e w' => e = .returned (tv b) ∧ w' = w :=
  slices_Clip_g85.link ⟨⟨by omega, by omega, by omega, by omega⟩, by rw [subA_0]; rfl, rfl⟩
theorem clipL_c (w : World) (p : Option Addr) (l c : Nat) (hc : l ≤ c) : Calls prog 74 #[.slice p l c] w fun e w' => e = .returned (.slice p l l) ∧ w' = w :=
  slices_Clip_g74.link ⟨⟨by omega, by omega, by omega, by omega⟩, by rw [subA_0]; simp, rfl⟩
/-- Each pair with its block. -/
def Tups (w : World) (Z : List (Nat × PI)) : Prop := ∀ z ∈ Z, TupO w z.1 z.2
theorem own_c {w : World} {lA : Option Addr} {lC : Nat} {Z : List (Nat × PI)} (hr : Row w lA (Z.map tz)) (hz : Tups w Z) (hl : Z.length ≤ 100000) :
    Calls prog 61 #[.slice lA Z.length lC] w fun e w' => Fr [] w w' ∧ ∃ p c Z', e = .returned (.slice p Z.length c) ∧ OwnP w' w.heap.size 1 p Z.length c (Z'.map tz) ∧ (∃ b, p = some ⟨b, 0, none⟩ ∧ ∀ z ∈ Z', z.1 ≠ b) ∧ Z'.map (·.2) = Z.map (·.2) ∧ Tups w' Z' ∧ ∀ z ∈ Z', w.heap.size ≤ z.1 := by
  refine tuple_own.link ⟨⟨by omega, by omega, by omega, by omega⟩, fun w1 k2 s1 b1 => ?_⟩
  have n1 := g_new1 s1
  refine ⟨fun m p k c n w' => ∃ (i : Nat) (Z' : List (Nat × PI)), n = i ∧ i ≤ Z.length ∧ m = Z.length - i ∧ k = Z'.length ∧ OwnP w' w.heap.size 1 p Z'.length c (Z'.map tz) ∧ (∃ b, p = some ⟨b, 0, none⟩ ∧ ∀ z ∈ Z', z.1 ≠ b) ∧ Z'.map (·.2) = (Z.take i).map (·.2) ∧ Tups w' Z' ∧ (∀ z ∈ Z', w.heap.size ≤ z.1) ∧ Fr [] w w', Z.length, ⟨0, [], rfl, by omega, rfl, rfl, OwnP.made0 b1 (by rw [reps_length1, Int.toNat_natCast, Nat.mul_one]) n1.1, ⟨k2, rfl, by simp⟩, by simp, fun z hz => (by cases hz), by simp, s1.fr⟩, ?_⟩
  rintro m p8 k9 c10 n w12 ⟨i, Z', rfl, hi, rfl, rfl, o, ⟨b8, rfl, hne⟩, hmap, ht, hw, F⟩
  have hlen : Z'.length = i := by have := congrArg List.length hmap; simp at this; omega
  refine bc (fun hlt => ?_) fun hge => ?_
  · have hlt : (i : Int) < (Z.length : Int) := of_decide_eq_true hlt
    have hlt' : i < Z.length := by omega
    have hrow := hr.old F
    obtain ⟨ad, hp⟩ := hrow.has (by rw [List.length_map]; omega)
    have hcell : w12.cell? (ad.add i) = some (tz Z[i]) := hrow.get hp (by simp [hlt'])
    have hti : TupO w12 Z[i].1 Z[i].2 := (hz _ (List.getElem_mem hlt')).fr F (by simp)
    refine ⟨ad, hp, ⟨by omega, hlt⟩, _, _, _, by rw [Int.toNat_natCast, Nat.mul_one]; exact hcell, (cloneT_c hti).mono ?_⟩
    rintro e18 w19 ⟨f19, b', c', rfl, hc', t19, nb⟩
    refine ⟨_, _, _, rfl, (clipT_c w19 b' c' hc').mono ?_⟩
    rintro e23 w24 ⟨rfl, rfl⟩
    refine ⟨_, _, _, rfl, fun k28 => ?_⟩
    have o24 := o.fr f19 (fun _ _ => by simp)
    have F24 := F.trans' f19
    have b8lt := (o.1.lt rfl).2
    refine appendP_plain (o24.pl (by simp)) (appM1 (C := tz) (fun _ => rfl) (x := (b', Z[i].2)) (u := w) (B := w.heap.size) o24.1 F24 rfl (Nat.le_refl _) F24.size (fun h => by cases h) (by simp) (fun ad hp => by simp) (by omega) (by omega) fun w29 p30 c32 F29 G29 n29 o29 d29 hpl => ?_)
    have hb'ne : b' ≠ b8 := by have : b8 < w12.heap.size := b8lt; omega
    have hb'lt := t19.lt
    have hpn : ∃ b, p30 = some ⟨b, 0, none⟩ ∧ ∀ z ∈ Z' ++ [(b', Z[i].2)], z.1 ≠ b := by
      obtain ⟨_, hcc, _, h4⟩ := o29
      rcases h4 with ⟨_, e4⟩ | ⟨b, zs, rfl, hB, hb, _⟩
      · simp at hcc; omega
      · refine ⟨b, rfl, fun z hz => ?_⟩
        have hzz : z.1 ≠ b8 ∧ z.1 < w24.heap.size := by
          rcases List.mem_append.1 hz with hz | hz
          · exact ⟨hne z hz, by have := (ht z hz).lt; have := f19.size; omega⟩
          · rw [List.mem_singleton.1 hz]; exact ⟨hb'ne, hb'lt⟩
        rcases d29 _ rfl with h5 | h5
        · injection h5 with h5; injection h5 with h5; rw [← h5]; exact hzz.1
        · have h5 : w24.heap.size ≤ b := h5; omega
    refine ⟨Z.length - (i + 1), by omega, i + 1, Z' ++ [(b', Z[i].2)], by rw [wrapi (by omega) (by omega)]; simp, by omega, rfl, rfl, ⟨o29, hpl⟩, hpn, by rw [take_snoc hlt', List.map_append, List.map_append, hmap]; rfl, fun z hz => ?_, fun z hz => ?_, F29⟩
    · have hG : z.1 ∉ [] ++ pb (some (⟨b8, 0, none⟩ : Addr)) := by
        simp only [List.nil_append, g_pb_some, List.mem_singleton]
        rcases List.mem_append.1 hz with hz | hz
        · exact hne z hz
        · rw [List.mem_singleton.1 hz]; exact hb'ne
      rcases List.mem_append.1 hz with hz | hz
      · exact ((ht z hz).fr f19 (by simp)).fr G29 hG
      · rw [List.mem_singleton.1 hz] at hG ⊢; exact t19.fr G29 hG
    · rcases List.mem_append.1 hz with hz | hz
      · exact hw z hz
      · rw [List.mem_singleton.1 hz]; have := F.size; show w.heap.size ≤ b'; omega
  · have hge : ¬ (i : Int) < (Z.length : Int) := of_decide_eq_false hge
    have hi2 : i = Z.length := by omega
    rw [hi2] at hlen
    rw [List.take_of_length_le (by omega)] at hmap
    rw [hlen] at o ⊢
    exact ⟨F, _, c10, Z', rfl, o, ⟨b8, rfl, hne⟩, hmap, ht, hw⟩

theorem swo_pcmp {α : Type} (f : α → PI) : Sort.SWO (ltOf fun x y : α => pcmp (f x) (f y)) where
  irrefl x := by
    unfold ltOf
    exact decide_eq_false fun h => plt_irrefl _ ((pcmp_lt _ _).1 h)
  trans x y z h1 h2 := by
    unfold ltOf at *
    exact decide_eq_true ((pcmp_lt _ _).2 (plt_trans ((pcmp_lt _ _).1 (of_decide_eq_true h1)) ((pcmp_lt _ _).1 (of_decide_eq_true h2))))
  ntrans x y z h1 h2 := by
    unfold ltOf at *
    have h1 : ¬ plt (f x) (f y) := fun h => of_decide_eq_false h1 ((pcmp_lt _ _).2 h)
    have h2 : ¬ plt (f y) (f z) := fun h => of_decide_eq_false h2 ((pcmp_lt _ _).2 h)
    refine decide_eq_false fun h => ?_
    have h3 := (pcmp_lt _ _).1 h
    unfold plt at *; omega
theorem sortF_c {w : World} {B b c : Nat} {Z : List (Nat × PI)} (h : OwnP w B 1 (some ⟨b, 0, none⟩) Z.length c (Z.map tz)) (ht : Tups w Z) (hne : ∀ z ∈ Z, z.1 ≠ b) (hn : (Z.map (·.2)).Nodup) (hl : Z.length ≤ 100000) :
    Calls prog 72 #[.slice (some ⟨b, 0, none⟩) Z.length c, .func (.func 73) #[] #[]] w fun e w' => e = .returned (.tuple #[]) ∧ Fr [b] w w' ∧ ∃ Z' : List (Nat × PI), Z'.Perm Z ∧ (Z'.map (·.2)).Pairwise plt ∧ OwnP w' B 1 (some ⟨b, 0, none⟩) Z.length c (Z'.map tz) := by
  cases hZ : Z with
  | nil =>
    subst hZ
    refine (show Calls prog 72 _ _ _ from AnyF.slices_SortFunc_none { Try.sortF with } (some ⟨b, 0, none⟩) c (.func (.func 73) #[] #[]) w).mono ?_
    rintro e w' ⟨rfl, rfl⟩
    exact ⟨rfl, Fr.refl _ _, [], .nil, List.Pairwise.nil, h⟩
  | cons z0 Z0 =>
    rw [← hZ]
    have hz0 : z0 ∈ Z := by rw [hZ]; simp
    let α := { z : Nat × PI // z.1 ≠ b ∧ TupO w z.1 z.2 }
    haveI : Inhabited α := ⟨⟨z0, hne z0 hz0, ht z0 hz0⟩⟩
    let enc : α → Value := fun x => tz x.1
    let d : Array α := (Z.attach.map fun z => (⟨z.1, hne z.1 z.2, ht z.1 z.2⟩ : α)).toArray
    have hds : d.size = Z.length := by simp [d]
    have hdm : d.toList.map enc = Z.map tz := by
      simp only [d, List.toList_toArray, List.map_map]
      show Z.attach.map (fun z => tz z.1) = _
      rw [List.attach_map_val (f := tz)]
    have hb := (h.1.lt rfl).2
    have h1 : ∀ a : α, (enc a).oneCell' = true := fun _ => rfl
    have hH : Sort.Holds enc w b 0 d := OwnP.holds (enc := enc) (by rw [hdm]; exact h)
    have hcmp : CmpLays1 prog 73 #[] enc (fun x y : α => pcmp x.1.2 y.1.2) b 0 d.size w := fun m os dk hs x y => by
      have hf : Fr [b] w (sortWorld enc w b 0 m dk os) := ((OwnP.put h1 h (d := dk) (by rw [hs, hds]) m os).1)
      refine (cmp_v (x.2.2.fr hf (by simpa using x.2.1)) (y.2.2.fr hf (by simpa using y.2.1))).mono ?_
      rintro e w' ⟨rfl, rfl⟩
      exact ⟨rfl, 0, #[], by rw [Sort.grow_empty]; rfl⟩
    have H := Any.slices_SortFunc Try.sortF enc h1 (fun x y : α => pcmp x.1.2 y.1.2) (swo_pcmp fun x : α => x.1.2) 73 #[] b 0 c d w (enters_of Try.func73 (by kernel_rfl) rfl) hcmp hH hb (by rw [hds]; omega)
    rw [hds] at H
    refine (show Calls prog 72 _ _ _ from H).mono ?_
    rintro e w' ⟨rfl, d', n, os, ⟨hp1, _, hp2⟩, hs, rfl⟩
    have hd's : d'.size = Z.length := hp1.trans hds
    obtain ⟨g1, g2⟩ := OwnP.put h1 h (d := d') hd's n os
    have hperm : d'.toList.Perm d.toList := by
      have e1 : d'.extract 0 Z.length = d' := by rw [← hd's]; simp
      have e2 : d.extract 0 Z.length = d := by rw [← hds]; simp
      rwa [e1, e2] at hp2
    have hval : d.toList.map (·.1) = Z := by
      simp only [d, List.toList_toArray, List.map_map]
      show Z.attach.map (fun z => z.1) = _
      exact List.attach_map_subtype_val Z
    have hpz : (d'.toList.map (·.1)).Perm Z := by
      have := hperm.map (·.1)
      rwa [hval] at this
    refine ⟨rfl, g1, d'.toList.map (·.1), hpz, ?_, ?_⟩
    · have hnd : ((d'.toList.map (·.1)).map (·.2)).Nodup := ((hpz.map (·.2)).nodup_iff).2 hn
      rw [List.pairwise_iff_getElem]
      intro i j hi hj hij
      simp only [List.length_map, Array.length_toList] at hi hj
      have hs' := hs i j (Nat.zero_le _) hij (by omega)
      have hne2 := (List.pairwise_iff_getElem.1 hnd) i j (by simpa using hi) (by simpa using hj) hij
      simp only [List.getElem_map, Array.getElem_toList] at hne2 ⊢
      rw [getElem!_pos d' i hi, getElem!_pos d' j hj] at hs'
      unfold ltOf at hs'
      have hs'' : ¬ plt d'[j].1.2 d'[i].1.2 := fun h2 => of_decide_eq_false hs' ((pcmp_lt _ _).2 h2)
      rcases plt_total d'[i].1.2 d'[j].1.2 with h2 | h2 | h2
      · exact h2
      · exact absurd h2 hne2
      · exact absurd h2 hs''
    · have : (d'.toList.map (·.1)).map tz = d'.toList.map enc := by rw [List.map_map]; rfl
      rw [this]; exact g2
theorem compactF_c {w : World} {p : Option Addr} {c : Nat} {Z : List (Nat × PI)} (h : Row w p (Z.map tz)) (ht : Tups w Z) (hs : (Z.map (·.2)).Pairwise plt) (hl : Z.length ≤ 100000) :
    Calls prog 75 #[.slice p Z.length c, .func (.func 76) #[] #[]] w fun e w' => e = .returned (.slice p Z.length c) ∧ Fr [] w w' := by
  refine slices_CompactFunc_g75.link (bc (fun _ => ⟨rfl, Fr.refl _ _⟩) fun h2 => ?_)
  have h2 : ¬ (Z.length : Int) < 2 := of_decide_eq_false h2
  refine ⟨fun m n w' => ∃ i : Nat, n = i ∧ 1 ≤ i ∧ i ≤ Z.length ∧ m = Z.length - i ∧ Fr [] w w', Z.length - 1, ⟨1, rfl, by omega, by omega, rfl, Fr.refl _ _⟩, ?_⟩
  rintro m n w5 ⟨i, rfl, hi1, hi, rfl, F⟩
  refine bc (fun hlt => ?_) fun _ => ⟨rfl, F⟩
  have hlt : (i : Int) < (Z.length : Int) := of_decide_eq_true hlt
  have hlt' : i < Z.length := by omega
  have hrow := h.old F
  obtain ⟨ad, hp⟩ := hrow.has (by rw [List.length_map]; omega)
  have ew : IntKind.wrap .i64 ((i : Int) - 1) = ((i - 1 : Nat) : Int) := by rw [wrapi (by omega) (by omega)]; omega
  have hc1 : w5.cell? (ad.add i) = some (tz Z[i]) := hrow.get hp (by simp [hlt'])
  have hlt0 : i - 1 < Z.length := by omega
  have hc0 : w5.cell? (ad.add (i - 1)) = some (tz Z[i - 1]) := hrow.get hp (by simp [hlt0])
  rw [ew]
  refine ⟨ad, hp, ⟨by omega, hlt⟩, _, _, _, by rw [Int.toNat_natCast, Nat.mul_one]; exact hc1, ad, hp, ⟨by omega, by omega⟩, _, _, _, by rw [Int.toNat_natCast, Nat.mul_one]; exact hc0, tuple_same.body, fun w15 s15 => ?_⟩
  have F15 := F.trans' s15.fr
  refine (same_v ((ht _ (List.getElem_mem hlt')).fr F15 (by simp)) ((ht _ (List.getElem_mem hlt0)).fr F15 (by simp))).mono ?_
  rintro e w18 ⟨rfl, rfl⟩
  have hne : ¬ Z[i].2 = Z[i - 1].2 := fun e => by
    have := (List.pairwise_iff_getElem.1 hs) (i - 1) i (by simpa using hlt0) (by simpa using hlt') (by omega)
    simp only [List.getElem_map] at this
    rw [e] at this; exact plt_irrefl _ this
  exact ⟨_, rfl, bF (decide_eq_false hne) ⟨Z.length - (i + 1), by omega, i + 1, by rw [wrapi (by omega) (by omega)]; simp, by omega, by omega, rfl, F15⟩⟩
/-- The set of pairs that differ: sorted, new memory. -/
theorem set_c {w : World} {lA : Option Addr} {lC : Nat} {Z : List (Nat × PI)} (hr : Row w lA (Z.map tz)) (hz : Tups w Z) (hn : (Z.map (·.2)).Nodup) (hl : Z.length ≤ 100000) :
    Calls prog 41 #[.slice lA Z.length lC] w fun e w' => Fr [] w w' ∧ ∃ (b : Nat) (Z' : List (Nat × PI)), e = .returned (.slice (some ⟨b, 0, none⟩) Z.length Z.length) ∧ (Z'.map (·.2)).Perm (Z.map (·.2)) ∧ (Z'.map (·.2)).Pairwise plt ∧ (∃ c, OwnP w' w.heap.size 1 (some ⟨b, 0, none⟩) Z.length c (Z'.map tz)) ∧ Tups w' Z' ∧ (∀ z ∈ Z', w.heap.size ≤ z.1) ∧ ∀ z ∈ Z', z.1 ≠ b := by
  refine tuple_Set.link ((own_c hr hz hl).mono ?_)
  rintro e w2 ⟨f2, p, c, Z1, rfl, o2, ⟨b, rfl, hne⟩, hmap, ht, hw⟩
  have hlen : Z1.length = Z.length := by simpa using congrArg List.length hmap
  rw [← hlen] at o2 ⊢
  refine ⟨_, _, c, rfl, (sortF_c o2 ht hne (by rw [hmap]; exact hn) (by omega)).mono ?_⟩
  rintro e w7 ⟨rfl, f7, Z', hperm, hsort, o7⟩
  have hl' : Z1.length = Z'.length := hperm.length_eq.symm
  have F7 : Fr [] w w7 := f2.trans f7 (fun x hx => .inr (by rw [List.mem_singleton.1 hx]; exact (o2.1.lt rfl).1))
  have ht7 : Tups w7 Z' := fun z hz => (ht z (hperm.mem_iff.1 hz)).fr f7 (by simpa using hne z (hperm.mem_iff.1 hz))
  refine ⟨rfl, ?_⟩
  rw [hl'] at o7 ⊢
  refine (compactF_c o7.1.row ht7 hsort (by omega)).mono ?_
  rintro e w9 ⟨rfl, f9⟩
  refine ⟨_, _, c, rfl, (clipL_c w9 _ _ c o7.1.2.1).mono ?_⟩
  rintro e w14 ⟨rfl, rfl⟩
  refine ⟨_, _, _, rfl, F7.trans' f9, b, Z', rfl, by rw [← hmap]; exact hperm.map _, hsort, ⟨c, o7.fr f9 (fun _ _ => by simp)⟩, fun z hz => (ht7 z hz).fr f9 (by simp), fun z hz => hw z (hperm.mem_iff.1 hz), fun z hz => hne z (hperm.mem_iff.1 hz)⟩
end Go.Proofs.Ytnplopiconabiaa.Span

end
section
/- Span: a map's keys, sorted, in V's words. -/
namespace Go.Proofs.Ytnplopiconabiaa.Span
open Go Go.V
open Go.Proofs.Ytnplopiconabiaa.VC
open Go.Proofs.Try (prog)
set_option linter.unusedVariables false
set_option linter.unusedSimpArgs false
set_option maxRecDepth 20000

def inR (n : Int) : Prop := -9223372036854775808 ≤ n ∧ n ≤ 9223372036854775807
theorem sortI_eq {l l' : List Int} (h : l.Perm l') : sortI l = sortI l' := by
  have p1 : (sortI l).Pairwise (fun a b => decide (a ≤ b) = true) := List.pairwise_mergeSort (fun a b c h1 h2 => by simp at h1 h2 ⊢; omega) (fun a b => by simp; omega) l
  have p2 : (sortI l').Pairwise (fun a b => decide (a ≤ b) = true) := List.pairwise_mergeSort (fun a b c h1 h2 => by simp at h1 h2 ⊢; omega) (fun a b => by simp; omega) l'
  have hp : (sortI l).Perm (sortI l') := (sortI_perm l).trans (h.trans (sortI_perm l').symm)
  exact hp.eq_of_pairwise (fun a b _ _ h1 h2 => by simp at h1 h2; omega) p1 p2

theorem keys_fin {w w1 w2 : World} {l : List (Int × Value)} {v : Value} {ss : List Int} (hperm : ss.Perm (l.map (·.1))) (hrow : w2.ownsRow w.heap.size 3 1 v ss.length ((ss.mergeSort (fun x y => decide (x ≤ y))).map encZ)) (hnil : v = .slice none 0 0 ↔ ss = []) (hB : RowKit.Below w.heap.size w w2) :
    ∃ p c, v = .slice p l.length c ∧ Fr [] w w2 ∧ Row w2 p ((sortI (l.map (·.1))).map kenc) ∧ ∀ ad, p = some ad → w.heap.size ≤ ad.block := by
  have hl : ss.length = l.length := by have := hperm.length_eq; rwa [List.length_map] at this
  have hs : ss.mergeSort (fun x y => decide (x ≤ y)) = sortI (l.map (·.1)) := sortI_eq hperm
  obtain ⟨hr1, hr2⟩ := hrow
  rcases hr2 with ⟨rfl, hz⟩ | ⟨g, cap, cur, rfl, hbase, hg, r1, r2, r3, r4⟩
  · have hn0 : ss = [] := List.length_eq_zero_iff.1 (by omega)
    have hm : l.length = 0 := by rw [← hl, hn0]; rfl
    refine ⟨none, 0, by rw [hm], Fr.of_below hB, ?_, fun ad h => by cases h⟩
    rw [← hs, hn0]
    have e : (([] : List Int).mergeSort fun x y => decide (x ≤ y)) = [] := List.mergeSort_nil
    rw [e]; exact Row.nil _ _
  · refine ⟨_, cap, by rw [hl], Fr.of_below hB, ?_, fun ad h => by injection h with h; subst h; exact hbase⟩
    rw [← hs]
    refine Row.of_blk (off := 0) (cs := cur.toList) ⟨3, 0, 0, by simpa using hg, .inl (Nat.le_refl _)⟩ (fun j u hj => ?_) (fun u hu => by obtain ⟨n, _, rfl⟩ := List.mem_map.1 hu; rfl)
    have hj' : (cur.toList.take (ss.length * 1))[j]? = some u := by rw [r4]; exact hj
    rw [Nat.zero_add]
    rw [List.getElem?_take] at hj'
    split at hj'
    · exact hj'
    · cases hj'

/-- A map's keys, sorted. -/
def KeysOk (w : World) (l : List (Int × Value)) (e : Ending) (w1 : World) : Prop := ∃ x, e = .returned x ∧ Fr [] w w1 ∧ Calls prog 38 #[x] w1 fun e w2 => ∃ p c, e = .returned (.slice p l.length c) ∧ Fr [] w w2 ∧ Row w2 p ((sortI (l.map (·.1))).map kenc) ∧ ∀ ad, p = some ad → w.heap.size ≤ ad.block
section
variable {w : World} {m : Nat} {l : List (Int × Value)}
theorem keysE_c (h : MapG kenc w m l) (hk : ∀ p ∈ l, inR p.1) (hl : l.length ≤ 1048576) : Calls prog 39 #[.map (some m)] w (KeysOk w l) := by
  refine (Go.Proofs.Try.keysSortedE h hk hl).mono ?_
  rintro e w1 ⟨x, rfl, hb, hc⟩
  refine ⟨x, rfl, Fr.of_below hb, hc.mono ?_⟩
  rintro e w2 ⟨v, ss, rfl, h1, h2, h3, h4⟩
  obtain ⟨p, c, rfl, g⟩ := keys_fin (w1 := w1) h1 h2 h3 h4
  exact ⟨p, c, rfl, g⟩
theorem keysI_c (h : MapG kenc w m l) (hk : ∀ p ∈ l, inR p.1) (hl : l.length ≤ 1048576) : Calls prog 50 #[.map (some m)] w (KeysOk w l) := by
  refine (Go.Proofs.Try.keysSortedI h hk hl).mono ?_
  rintro e w1 ⟨x, rfl, hb, hc⟩
  refine ⟨x, rfl, Fr.of_below hb, hc.mono ?_⟩
  rintro e w2 ⟨v, ss, rfl, h1, h2, h3, h4⟩
  obtain ⟨p, c, rfl, g⟩ := keys_fin (w1 := w1) h1 h2 h3 h4
  exact ⟨p, c, rfl, g⟩
theorem keysB_c (h : MapG kenc w m l) (hk : ∀ p ∈ l, inR p.1) (hl : l.length ≤ 1048576) : Calls prog 97 #[.map (some m)] w (KeysOk w l) := by
  refine (Go.Proofs.Try.keysSortedB h hk hl).mono ?_
  rintro e w1 ⟨x, rfl, hb, hc⟩
  refine ⟨x, rfl, Fr.of_below hb, hc.mono ?_⟩
  rintro e w2 ⟨v, ss, rfl, h1, h2, h3, h4⟩
  obtain ⟨p, c, rfl, g⟩ := keys_fin (w1 := w1) h1 h2 h3 h4
  exact ⟨p, c, rfl, g⟩
end
end Go.Proofs.Ytnplopiconabiaa.Span

end
section
/- Span: Pairs. -/
namespace Go.Proofs.Ytnplopiconabiaa.Span
open Go Go.V
open Go.Proofs.Ytnplopiconabiaa.VC
open Go.Proofs.Try (prog)
set_option linter.unusedVariables false
set_option linter.unusedSimpArgs false
set_option maxRecDepth 20000

theorem sum_add (f g : Int → Nat) : ∀ ks : List Int, (ks.map fun n => f n + g n).sum = (ks.map f).sum + (ks.map g).sum
  | [] => rfl
  | k :: ks => by
    have := sum_add f g ks
    simp only [List.map_cons, List.sum_cons, this]; omega
theorem sum_one (c : Prop) [Decidable c] (a : Int) : ∀ ks : List Int, ks.Nodup → (ks.map fun n => if c ∧ a = n then 1 else 0).sum ≤ 1
  | [], _ => by simp
  | k :: ks, h => by
    rw [List.nodup_cons] at h
    have ih := sum_one c a ks h.2
    rw [List.map_cons, List.sum_cons]
    by_cases e : c ∧ a = k
    · rw [if_pos e]
      have : (ks.map fun n => if c ∧ a = n then 1 else 0).sum = 0 := by
        have : (ks.map fun n => if c ∧ a = n then 1 else 0) = ks.map fun _ => 0 := List.map_congr_left fun n hn => if_neg fun h2 => h.1 (by rw [← e.2, h2.2]; exact hn)
        rw [this]
        clear this ih h
        induction ks with
        | nil => rfl
        | cons x ks ih => simpa using ih
      omega
    · rw [if_neg e]; omega
theorem tgt_sum (lab : ByteArray) (ks : List Int) (hk : ks.Nodup) : ∀ E : List EG, (ks.map fun n => (tgt E lab n).length).sum ≤ E.length
  | [] => by
    have : (ks.map fun n => (tgt [] lab n).length) = ks.map fun _ => 0 := rfl
    rw [this]
    clear this hk
    induction ks with
    | nil => simp
    | cons x ks ih => simpa using ih
  | e :: E => by
    have ih := tgt_sum lab ks hk E
    have e1 : (ks.map fun n => (tgt (e :: E) lab n).length) = ks.map fun n => (tgt E lab n).length + if e.l = lab ∧ e.f = n then 1 else 0 := List.map_congr_left fun n _ => by
      unfold tgt
      rw [List.filter_cons]
      by_cases h : e.l = lab ∧ e.f = n
      · rw [if_pos (by simp [h]), if_pos h]; simp
      · rw [if_neg (by simpa using h), if_neg h]; simp
    rw [e1, sum_add]
    have := sum_one (e.l = lab) e.f ks hk
    rw [List.length_cons]; omega
theorem succs_len (E : List EG) (lab : ByteArray) (n : Int) : (succs E lab n).length ≤ (tgt E lab n).length := by
  unfold succs
  exact Nat.le_trans (comp_len _) (Nat.le_of_eq (sortI_perm _).length_eq)
theorem sum_le (f g : Int → Nat) (h : ∀ n, f n ≤ g n) : ∀ ks : List Int, (ks.map f).sum ≤ (ks.map g).sum
  | [] => by simp
  | k :: ks => by
    have := sum_le f g h ks
    have := h k
    simp only [List.map_cons, List.sum_cons]; omega
theorem total_le {E : List EG} {lab : ByteArray} {l : List (Int × Value)} (hn : (l.map (·.1)).Nodup) : total (succs E lab) l ≤ E.length := by
  have e : total (succs E lab) l = ((l.map (·.1)).map fun n => (succs E lab n).length).sum := by unfold total; rw [List.map_map]; rfl
  rw [e]
  exact Nat.le_trans (sum_le _ _ (succs_len E lab) _) (tgt_sum lab _ hn E)
theorem total_one {T : Int → List Int} : ∀ {l : List (Int × Value)} {n : Int}, n ∈ l.map (·.1) → (T n).length ≤ total T l
  | e :: l, n, h => by
    unfold total
    rw [List.map_cons, List.sum_cons]
    rcases List.mem_cons.1 h with h | h
    · have h : n = e.1 := h
      rw [h]; omega
    · have := total_one (T := T) h
      unfold total at this; omega
theorem mem_tgt {E : List EG} {lab : ByteArray} {n x : Int} : x ∈ tgt E lab n ↔ ∃ e ∈ E, e.l = lab ∧ e.f = n ∧ e.t = x := by
  unfold tgt
  rw [List.mem_map]
  constructor
  · rintro ⟨e, he, rfl⟩
    obtain ⟨h1, h2⟩ := List.mem_filter.1 he
    simp at h2
    exact ⟨e, h1, h2.1, h2.2, rfl⟩
  · rintro ⟨e, he, h1, h2, rfl⟩
    exact ⟨e, List.mem_filter.2 ⟨he, by simp [h1, h2]⟩, rfl⟩
theorem mem_succs {E : List EG} {lab : ByteArray} {n x : Int} : x ∈ succs E lab n ↔ ∃ e ∈ E, e.l = lab ∧ e.f = n ∧ e.t = x := by
  unfold succs
  rw [(comp_spec (sortI_le _)).2, (sortI_perm _).mem_iff, mem_tgt]
theorem K_lt {l : List Int} (hn : l.Nodup) : (sortI l).Pairwise (· < ·) := by
  have p2 : (sortI l).Pairwise (fun a b => a ≠ b) := (sortI_perm l).nodup_iff.2 hn
  exact ((sortI_le l).and p2).imp (fun h => by have h1 := h.1; have h2 := h.2; omega)
theorem iter_map_blk {w : World} {r m b : Nat} {l : List (Int × Value)} {d : List Int} {cs : List Value} (h : IterO kenc w r (some m) l d) (hb : Blk w b cs) : b ≠ m := fun e => by
  obtain ⟨es, clock, since, seen, last, hr, hm, _⟩ := h
  obtain ⟨T, lo, hi, hb, _⟩ := hb
  rw [e, hm] at hb; injection hb with hb; cases hb
theorem ownZ_blk {w : World} {B sz l c : Nat} {p : Option Addr} {xs : List Value} (h : OwnZ w B sz p l c xs) {ad : Addr} (hp : p = some ad) : ∃ cs, Blk w ad.block cs := by
  obtain ⟨_, _, _, h4⟩ := h
  rcases h4 with ⟨e4, _⟩ | ⟨b, zs, e4, _, hb, _⟩
  · rw [e4] at hp; cases hp
  · rw [e4] at hp; injection hp with hp; subst hp; exact ⟨_, hb⟩
/-- What Pairs answers. -/
def PairsSaid (T : Int → List Int) (good : Bool) (w : World) (e : Ending) (w' : World) : Prop :=
  (good = false ∧ e = .returned (.tuple #[.slice none 0 0, I64 1])) ∨
  (good = true ∧ ((∃ X : List PI, X.Nodup ∧ 4000 < X.length ∧ (∀ x ∈ X, Reach T x.1 x.2) ∧ e = .returned (.tuple #[.slice none 0 0, I64 5])) ∨
    ∃ (b : Nat) (Z : List (Nat × PI)), e = .returned (.tuple #[.slice (some ⟨b, 0, none⟩) Z.length Z.length, I64 0]) ∧ (Z.map (·.2)).Pairwise plt ∧ (∀ x, x ∈ Z.map (·.2) ↔ Reach T x.1 x.2) ∧ Z.length ≤ 4000 ∧ (∃ c, OwnP w' w.heap.size 1 (some ⟨b, 0, none⟩) Z.length c (Z.map tz)) ∧ Tups w' Z ∧ (∀ z ∈ Z, w.heap.size ≤ z.1) ∧ ∀ z ∈ Z, z.1 ≠ b))

set_option maxHeartbeats 1000000 in
theorem pairs_c {w : World} {lab : ByteArray} {eA : Option Addr} {eC : Nat} {E : List EG} (hE : Row w eA (E.flatMap gcell)) (hl : E.length ≤ 50000) (hR : ∀ e ∈ E, inR e.f) :
    Calls prog 15 #[.string lab, .slice eA E.length eC] w fun e w' => Fr [] w w' ∧ PairsSaid (succs E lab) (isName lab) w e w' := by
  refine span_Pairs.link ((bad_c w lab).mono ?_)
  rintro e1 w2 ⟨rfl, f2⟩
  refine ⟨_, rfl, bc (fun hb => ⟨f2, .inl ⟨by simpa using hb, rfl⟩⟩) fun hb => ?_⟩
  have hgood : isName lab = true := by simpa using hb
  refine (next_c (hE.old f2) (by omega)).mono ?_
  rintro e4 w5 ⟨f5, m, l, rfl, M5, X5, hm⟩
  have F5 := f2.trans' f5
  have hnd := M5.nodup
  have htot : total (succs E lab) l ≤ E.length := total_le hnd
  have hone : ∀ n, (succs E lab n).length ≤ total (succs E lab) l := fun n => by
    cases h : succs E lab n with
    | nil => simp
    | cons a r => rw [← h]; exact total_one (X5.all n (by rw [h]; simp))
  have hkeys : ∀ p ∈ l, inR p.1 := fun p hp => by
    obtain ⟨_, _, _, _, h3⟩ := X5.ent p hp
    obtain ⟨x, r, h4⟩ := List.exists_cons_of_ne_nil h3
    obtain ⟨e, he, _, h5, _⟩ := mem_succs.1 (show x ∈ succs E lab p.1 by rw [h4]; simp)
    rw [← h5]; exact hR e he
  have hll : l.length ≤ E.length := by
    -- each entry has some behind it
    have h2 : l.length ≤ total (succs E lab) l := by
      have h3 := fun e he => (X5.ent e he).elim fun p h => h.elim fun c h => h.2.2
      clear X5 hone hkeys htot hnd M5
      induction l with
      | nil => simp
      | cons e l ih =>
        have h4 := List.length_pos_iff.2 (h3 e (by simp))
        have := ih (fun e he => h3 e (List.mem_cons_of_mem _ he))
        unfold total at this ⊢
        rw [List.map_cons, List.sum_cons, List.length_cons]; omega
    omega
  refine ⟨some m, rfl, (keysE_c M5 hkeys (by omega)).mono ?_⟩
  rintro e7 w8 ⟨x9, rfl, f8, hc⟩
  refine ⟨x9, rfl, hc.mono ?_⟩
  rintro e10 w11 ⟨p12, c14, rfl, f11, r12, _⟩
  have hkl : l.length = (sortI (l.map (·.1))).length := by rw [(sortI_perm _).length_eq, List.length_map]
  have hKlt := K_lt hnd
  have hKm : ∀ a, a ∈ sortI (l.map (·.1)) ↔ a ∈ l.map (·.1) := fun a => (sortI_perm _).mem_iff
  have hKr : ∀ a b, Reach (succs E lab) a b → a ∈ sortI (l.map (·.1)) := fun a b hr => by
    rw [hKm]
    induction hr with
    | one hb => exact X5.all a (fun e => by rw [e] at hb; cases hb)
    | more _ _ ih => exact ih
  rw [hkl]
  generalize hT : succs E lab = T at *
  generalize sortI (l.map (·.1)) = K at *
  have z11 := f11.size
  refine ⟨p12, _, c14, rfl, fun mm p k c n w' => ∃ (i : Nat) (Z : List (Nat × PI)), n = i ∧ i ≤ K.length ∧ mm = K.length - i ∧ k = Z.length ∧ Z.length ≤ 4000 ∧ OwnZ w' w11.heap.size 1 p Z.length c (Z.map tz) ∧ Tups w' Z ∧ (∀ z ∈ Z, w.heap.size ≤ z.1) ∧ (∀ ad, p = some ad → ∀ z ∈ Z, z.1 ≠ ad.block) ∧ (Z.map (·.2)).Nodup ∧ (∀ x, x ∈ Z.map (·.2) ↔ x.1 ∈ K.take i ∧ Reach T x.1 x.2) ∧ Fr [] w5 w' ∧ w11.heap.size ≤ w'.heap.size ∧ Row w' p12 (K.map kenc), K.length,
    ⟨0, [], rfl, by omega, rfl, rfl, by simp, OwnZ.nil _ _ _, fun z hz => (by cases hz), by simp, by simp, by simp, by simp, f11, Nat.le_refl _, r12⟩, ?_⟩
  rintro mm p18 k19 c20 n w22 ⟨i, Z, rfl, hi, rfl, rfl, hZl, o, tu, zw, zb, znd, zm, F22, z22, r22⟩
  refine bc (fun hlt => ?_) fun hge => ?_
  · have hlt : (i : Int) < (K.length : Int) := of_decide_eq_true hlt
    have hlt' : i < K.length := by omega
    refine rd kenc r22 rfl hlt' hlt ((reached_c (M5.fr F22 (by simp)) (X5.fr F22 (fun _ _ _ => by simp)) (by omega) hone K[i]).mono ?_)
    rintro e26 w27 ⟨f27, k2, l2, rfl, M27, hk2, hreach, hvals⟩
    refine ⟨some k2, rfl, l2, M27, fun w30 k31 s30 it30 => ?_⟩
    have n31 := g_new1 s30
    have F30 := (F22.trans' f27).trans' s30.fr
    have z30 := (f27.trans' s30.fr).size
    have hKi : K[i] ∉ K.take i := fun hm => by
      obtain ⟨j, hj, e⟩ := List.mem_take_iff_getElem.1 hm
      have := (List.pairwise_iff_getElem.1 hKlt) j i (by omega) hlt' (by omega)
      omega
    refine ⟨fun mm p k c w' => ∃ (Z : List (Nat × PI)) (done : List Int), mm = rest l2 done ∧ k = Z.length ∧ Z.length ≤ 4000 ∧ OwnZ w' w11.heap.size 1 p Z.length c (Z.map tz) ∧ Tups w' Z ∧ (∀ z ∈ Z, w.heap.size ≤ z.1) ∧ (∀ ad, p = some ad → ∀ z ∈ Z, z.1 ≠ ad.block) ∧ (Z.map (·.2)).Nodup ∧ (∀ x, x ∈ Z.map (·.2) ↔ (x.1 ∈ K.take i ∧ Reach T x.1 x.2) ∨ (x.1 = K[i] ∧ x.2 ∈ done)) ∧ (∀ d ∈ done, Reach T K[i] d) ∧ IterO kenc w' k31 (some k2) l2 done ∧ Fr [] w5 w' ∧ w30.heap.size ≤ w'.heap.size ∧ Row w' p12 (K.map kenc), rest l2 [],
      ⟨Z, [], rfl, rfl, hZl, (o.fr f27 (fun _ _ => by simp)).fr s30.fr (fun _ _ => by simp), fun z hz => ((tu z hz).fr f27 (by simp)).fr s30.fr (by simp), zw, zb, znd, by simpa using zm, by simp, it30, F30, Nat.le_refl _, (r22.old f27).old s30.fr⟩, ?_⟩
    clear o tu zw zb znd zm hZl Z F30
    rintro mm p37 k38 c39 w40 ⟨Z, done, rfl, rfl, hZl, o, tu, zw, zb, znd, zm, hdone, it40, F40, z40, r40⟩
    have ob : ∀ ad, p37 = some ad → ad.block ≠ k31 := fun ad hp => by
      obtain ⟨cs, hb⟩ := ownZ_blk o hp
      exact iter_blk it40 hb
    have tb : ∀ z ∈ Z, z.1 ≠ k31 := fun z hz => by
      obtain ⟨cs, hb⟩ := tu z hz
      exact iter_blk it40 hb
    have rb : ∀ ad, p12 = some ad → 0 < (K.map kenc).length → ad.block ≠ k31 := fun ad hp hpos => by
      have := r22.blk_lt hpos ad hp
      have := f27.size
      omega
    refine ⟨some k2, l2, done, it40, fun y hy => ?_, fun n47 n48 hmem hnd2 w51 is51 it51 cur51 => bT rfl ⟨n47, n48, cur51, fun k57 w58 s58 b58 k61 => ?_⟩, fun hall w71 is71 it71 => bF rfl ?_⟩
    · obtain ⟨n, h2, _⟩ := hvals y hy
      rw [h2]
      have e : IsT prog 3 (I64 n) = ∃ n', Value.int .i64 n' = I64 n := by kernel_rfl
      rw [e]; exact ⟨_, rfl⟩
    · have n57 := g_new1 s58
      have z51 := is51.size
      have F51 : Fr [] w5 w51 := F40.trans is51.fr (fun x hx => .inr (by rw [List.mem_singleton.1 hx]; have := f8.size; have := f11.size; have := f27.size; omega))
      have F58 : Fr [] w5 w58 := F51.trans' s58.fr
      have o58 : OwnZ w58 w11.heap.size 1 p37 Z.length c39 (Z.map tz) := (o.fr is51.fr (fun ad hp => by simpa using ob ad hp)).fr s58.fr (fun _ _ => by simp)
      have tu58 : Tups w58 Z := fun z hz => ((tu z hz).fr is51.fr (by simpa using tb z hz)).fr s58.fr (by simp)
      have it58 : IterO kenc w58 k31 (some k2) l2 (n47 :: done) := it51.fr s58.fr (by simp) (fun _ _ => by simp)
      have hlow : ∀ ad, p37 = some ad → ad.block < w40.heap.size := fun ad hp => (o.lt hp).2
      have r58 : Row w58 p12 (K.map kenc) := ((row_fr0 is51.fr r40 (fun ad hp hpos => by simpa using rb ad hp hpos))).old s58.fr
      have hlow12 : ∀ ad, p12 = some ad → 0 < (K.map kenc).length → ad.block < w11.heap.size := fun ad hp hpos => r12.blk_lt hpos ad hp
      have tnew : TupO w58 k57 (K[i], n47) := ⟨[], by simpa [spl, reps] using b58⟩
      have hr47 : Reach T K[i] n47 := (hreach n47).1 (List.mem_map.2 ⟨_, hmem, rfl⟩)
      have hnew : (K[i], n47) ∉ Z.map (·.2) := fun hm => by
        rcases (zm _).1 hm with ⟨h1, _⟩ | ⟨_, h1⟩
        · exact hKi h1
        · exact hnd2 h1
      have zl58 := s58.fr.size
      refine appM1 (C := tz) (fun _ => rfl) (x := (k57, (K[i], n47))) (u := w5) (B := w11.heap.size) o58 F58 rfl (by have := f8.size; have := f11.size; omega) (by have := f27.size; omega) (fun h => by cases h) (by simp) (fun ad hp x hx => .inl hx) (by omega) (by omega) fun w62 p63 c65 F62 G62 n62 o62 d62 => ?_
      have tu62 : Tups w62 (Z ++ [(k57, (K[i], n47))]) := fun z hz => by
        rcases List.mem_append.1 hz with h | h
        · exact (tu58 z h).fr G62 (fun h3 => by
            simp only [List.nil_append] at h3
            cases hp : p37 with
            | none => rw [hp] at h3; simp [pb] at h3
            | some ad => rw [hp] at h3; simp [pb] at h3; exact zb ad hp z h h3)
        · rw [List.mem_singleton.1 h]
          exact tnew.fr G62 (fun h3 => by
            simp only [List.nil_append] at h3
            cases hp : p37 with
            | none => rw [hp] at h3; simp [pb] at h3
            | some ad => rw [hp] at h3; simp [pb] at h3; have := hlow ad hp; omega)
      have zw62 : ∀ z ∈ Z ++ [(k57, (K[i], n47))], w.heap.size ≤ z.1 := fun z hz => by
        rcases List.mem_append.1 hz with h | h
        · exact zw z h
        · rw [List.mem_singleton.1 h]; have := F51.size; have := f2.size; have := f5.size; omega
      have zb62 : ∀ ad, p63 = some ad → ∀ z ∈ Z ++ [(k57, (K[i], n47))], z.1 ≠ ad.block := fun ad hp z hz => by
        have hz58 : z.1 < w58.heap.size := by
          rcases List.mem_append.1 hz with h | h
          · exact (tu58 z h).lt
          · rw [List.mem_singleton.1 h]; exact tnew.lt
        rcases d62 ad hp with h2 | h2
        · rcases List.mem_append.1 hz with h | h
          · exact zb ad h2 z h
          · rw [List.mem_singleton.1 h]; have := hlow ad h2; omega
        · omega
      have znd62 : ((Z ++ [(k57, (K[i], n47))]).map (·.2)).Nodup := by
        rw [List.map_append, List.nodup_append]
        exact ⟨znd, by simp, fun a ha b hb e => by
          have hb : b = (K[i], n47) := by simpa using hb
          exact hnew (by rw [← hb, ← e]; exact ha)⟩
      have zm62 : ∀ x, x ∈ (Z ++ [(k57, (K[i], n47))]).map (·.2) ↔ (x.1 ∈ K.take i ∧ Reach T x.1 x.2) ∨ (x.1 = K[i] ∧ x.2 ∈ n47 :: done) := fun x => by
        rw [List.map_append, List.mem_append, zm x, List.map_cons, List.map_nil, List.mem_singleton, List.mem_cons]
        constructor
        · rintro ((h | ⟨h, h2⟩) | rfl)
          · exact .inl h
          · exact .inr ⟨h, .inr h2⟩
          · exact .inr ⟨rfl, .inl rfl⟩
        · rintro (h | ⟨h, h2 | h2⟩)
          · exact .inl (.inl h)
          · exact .inr (Prod.ext h h2)
          · exact .inl (.inr ⟨h, h2⟩)
      have hdone62 : ∀ d ∈ n47 :: done, Reach T K[i] d := fun d hd => by
        rcases List.mem_cons.1 hd with rfl | h
        · exact hr47
        · exact hdone d h
      refine bc (fun hbig => ?_) fun hsmall => ?_
      · have hbig : (4000 : Int) < ((Z ++ [(k57, (K[i], n47))]).length : Int) := of_decide_eq_true hbig
        refine ⟨F5.trans' F62, .inr ⟨hgood, .inl ⟨(Z ++ [(k57, (K[i], n47))]).map (·.2), znd62, by rw [List.length_map]; omega, fun x hx => ?_, rfl⟩⟩⟩
        rcases (zm62 x).1 hx with ⟨_, h⟩ | ⟨h1, h⟩
        · exact h
        · rw [h1]; exact hdone62 _ h
      · have hsmall : ¬ (4000 : Int) < ((Z ++ [(k57, (K[i], n47))]).length : Int) := of_decide_eq_false hsmall
        have hst := rest_lt hmem hnd2
        refine ⟨rest l2 (n47 :: done), hst, Z ++ [(k57, (K[i], n47))], n47 :: done, rfl, rfl, by omega, o62, tu62, zw62, zb62, znd62, zm62, hdone62, ?_, F62, by have := G62.size; omega, ?_⟩
        · exact it58.fr G62 (by
            simp only [List.nil_append]
            cases hp : p37 with
            | none => simp [pb]
            | some ad => simp [pb]; exact fun h => ob ad hp h.symm) (by
            intro b hb
            simp only [List.nil_append]
            cases hp : p37 with
            | none => simp [pb]
            | some ad =>
              simp only [pb, List.mem_singleton]
              obtain ⟨cs, hbk⟩ := ownZ_blk o hp
              exact fun h => iter_map_blk it40 hbk ((show b = ad.block by simpa using h) ▸ (Option.some.inj hb).symm))
        · exact row_fr0 G62 r58 (fun ad hp hpos => by
            simp only [List.nil_append]
            cases hp2 : p37 with
            | none => simp [pb]
            | some ad2 => simp [pb]; have := hlow12 ad hp hpos; have := (o.lt hp2).1; omega)
    · have F71 : Fr [] w5 w71 := F40.trans is71.fr (fun x hx => .inr (by rw [List.mem_singleton.1 hx]; have := f8.size; have := f11.size; have := f27.size; omega))
      have o71 : OwnZ w71 w11.heap.size 1 p37 Z.length c39 (Z.map tz) := o.fr is71.fr (fun ad hp => by simpa using ob ad hp)
      have tu71 : Tups w71 Z := fun z hz => (tu z hz).fr is71.fr (by simpa using tb z hz)
      have r71 : Row w71 p12 (K.map kenc) := row_fr0 is71.fr r40 (fun ad hp hpos => by simpa using rb ad hp hpos)
      refine ⟨K.length - (i + 1), by omega, i + 1, Z, by rw [wrapi (by omega) (by omega)]; simp, by omega, rfl, rfl, hZl, o71, tu71, zw, zb, znd, fun x => ?_, F71, by have := is71.size; have := f27.size; omega, r71⟩
      rw [zm x, take_snoc hlt', List.mem_append, List.mem_singleton]
      constructor
      · rintro (⟨h, h2⟩ | ⟨h, h2⟩)
        · exact ⟨.inl h, h2⟩
        · rw [h]; exact ⟨.inr rfl, hdone _ h2⟩
      · rintro ⟨h | h, h2⟩
        · exact .inl ⟨h, h2⟩
        · refine .inr ⟨h, ?_⟩
          rw [h] at h2
          obtain ⟨y, hy, e⟩ := List.mem_map.1 ((hreach x.2).2 h2)
          rw [← e]; exact hall y hy
  · have hge : ¬ (i : Int) < (K.length : Int) := of_decide_eq_false hge
    have hi' : i = K.length := by omega
    subst hi'
    refine (set_c o.row tu znd (by omega)).mono ?_
    rintro e87 w88 ⟨f88, b, Z', rfl, hperm, hsort, ho, ht, hw, hb⟩
    have hlen : Z'.length = Z.length := by simpa using hperm.length_eq
    refine ⟨_, _, _, rfl, F5.trans' (F22.trans' f88), .inr ⟨hgood, .inr ⟨b, Z', by rw [hlen], hsort, fun x => ?_, by omega, ?_, ht, ?_, hb⟩⟩⟩
    · rw [hperm.mem_iff, zm x, List.take_length]
      exact ⟨fun h => h.2, fun h => ⟨hKr _ _ h, h⟩⟩
    · obtain ⟨c, o⟩ := ho
      rw [hlen]
      have := F22.size; have := f2.size; have := f5.size
      exact ⟨c, o.1.mono (by omega), o.2⟩
    · intro z hz; have := hw z hz; have := F22.size; have := f2.size; have := f5.size; omega
end Go.Proofs.Ytnplopiconabiaa.Span

end
section
/- Span: rings, the plain part. -/
namespace Go.Proofs.Ytnplopiconabiaa.Span
open Go Go.V
set_option linter.unusedVariables false
set_option linter.unusedSimpArgs false
open Classical

theorem lt_ext {l l' : List Int} (h : l.Pairwise (· < ·)) (h' : l'.Pairwise (· < ·)) (he : ∀ x, x ∈ l ↔ x ∈ l') : l = l' := by
  have hp : l.Perm l' := (List.perm_ext_iff_of_nodup (h.imp fun h => by omega) (h'.imp fun h => by omega)).2 he
  exact hp.eq_of_pairwise (fun a b _ _ h1 h2 => by omega) h h'
theorem Reach.trans {T : Int → List Int} {a b c : Int} (h : Reach T a b) (h2 : Reach T b c) : Reach T a c := by
  induction h2 with
  | one hb => exact .more h hb
  | more _ hc ih => exact .more ih hc
/-- Two nodes that lead to one another. -/
def Mut (T : Int → List Int) (a b : Int) : Prop := Reach T a b ∧ Reach T b a
theorem Mut.symm {T : Int → List Int} {a b : Int} (h : Mut T a b) : Mut T b a := ⟨h.2, h.1⟩
theorem Mut.trans {T : Int → List Int} {a b c : Int} (h : Mut T a b) (h2 : Mut T b c) : Mut T a c := ⟨h.1.trans h2.1, h2.2.trans h.2⟩
theorem Mut.self {T : Int → List Int} {a b : Int} (h : Mut T a b) : Reach T a a := h.1.trans h.2
noncomputable def ringOf (T : Int → List Int) (K : List Int) (a : Int) : List Int := K.filter fun x => decide (Mut T a x)
def IsHead (T : Int → List Int) (K : List Int) (a : Int) : Prop := Reach T a a ∧ ∀ x ∈ K, Mut T a x → a ≤ x
noncomputable def ringsOf (T : Int → List Int) (K L : List Int) : List (List Int) := (L.filter fun a => decide (IsHead T K a)).map (ringOf T K)
theorem mem_ringOf {T : Int → List Int} {K : List Int} {a x : Int} : x ∈ ringOf T K a ↔ x ∈ K ∧ Mut T a x := by simp [ringOf]
theorem mem_ringsOf {T : Int → List Int} {K L : List Int} {r : List Int} : r ∈ ringsOf T K L ↔ ∃ h ∈ L, IsHead T K h ∧ r = ringOf T K h := by
  simp [ringsOf]
  constructor
  · rintro ⟨h, ⟨h1, h2⟩, rfl⟩; exact ⟨h, h1, h2, rfl⟩
  · rintro ⟨h, h1, h2, rfl⟩; exact ⟨h, ⟨h1, h2⟩, rfl⟩
theorem least : ∀ {l : List Int}, l ≠ [] → ∃ m ∈ l, ∀ x ∈ l, m ≤ x
  | [a], _ => ⟨a, by simp, by simp⟩
  | a :: b :: l, _ => by
    obtain ⟨m, hm, h⟩ := least (l := b :: l) (by simp)
    by_cases e : a ≤ m
    · exact ⟨a, by simp, fun x hx => by
        rcases List.mem_cons.1 hx with rfl | hx
        · omega
        · have := h x hx; omega⟩
    · exact ⟨m, List.mem_cons_of_mem _ hm, fun x hx => by
        rcases List.mem_cons.1 hx with rfl | hx
        · omega
        · exact h x hx⟩
section
variable {T : Int → List Int} {K : List Int} (hK : K.Pairwise (· < ·)) {i : Nat} (hi : i < K.length)
include hK hi
theorem take_lt {x : Int} : x ∈ K.take i ↔ x ∈ K ∧ x < K[i] := by
  constructor
  · intro h
    obtain ⟨j, hj, e⟩ := List.mem_take_iff_getElem.1 h
    subst e
    exact ⟨List.getElem_mem _, (List.pairwise_iff_getElem.1 hK) j i (by omega) hi (by omega)⟩
  · rintro ⟨h, h2⟩
    obtain ⟨j, hj, rfl⟩ := List.mem_iff_getElem.1 h
    refine List.mem_take_iff_getElem.2 ⟨j, ?_, rfl⟩
    have : j < i := by
      rcases Nat.lt_trichotomy j i with h3 | h3 | h3
      · exact h3
      · subst h3; omega
      · have := (List.pairwise_iff_getElem.1 hK) i j hi hj h3; omega
    omega
theorem seen_not {r : List Int} (hr : r ∈ ringsOf T K (K.take i)) (hx : K[i] ∈ r) : ¬ IsHead T K K[i] := by
  obtain ⟨h, h1, h2, rfl⟩ := mem_ringsOf.1 hr
  intro h3
  have h4 := (mem_ringOf.1 hx).2
  obtain ⟨h5, h6⟩ := (take_lt hK hi).1 h1
  have := h3.2 h h5 h4.symm
  omega
theorem unseen_head (hs : Reach T K[i] K[i]) (hn : ∀ r ∈ ringsOf T K (K.take i), K[i] ∉ r) : IsHead T K K[i] := by
  refine ⟨hs, fun x hx hm => ?_⟩
  apply Classical.byContradiction
  intro hlt
  obtain ⟨m, hmm, hmin⟩ := least (l := ringOf T K K[i]) (List.ne_nil_of_mem (mem_ringOf.2 ⟨hx, hm⟩))
  have h1 := mem_ringOf.1 hmm
  have h2 := hmin x (mem_ringOf.2 ⟨hx, hm⟩)
  have hh : IsHead T K m := ⟨h1.2.symm.self, fun y hy h => hmin y (mem_ringOf.2 ⟨hy, h1.2.trans h⟩)⟩
  exact hn _ (mem_ringsOf.2 ⟨m, (take_lt hK hi).2 ⟨h1.1, by omega⟩, hh, rfl⟩) (mem_ringOf.2 ⟨List.getElem_mem _, h1.2.symm⟩)
omit hK in
theorem ring_new (hn : ∀ r ∈ ringsOf T K (K.take i), K[i] ∉ r) {x : Int} (hx : Mut T K[i] x) : ∀ r ∈ ringsOf T K (K.take i), x ∉ r := fun r hr h => by
  obtain ⟨a, h1, h2, rfl⟩ := mem_ringsOf.1 hr
  exact hn _ hr (mem_ringOf.2 ⟨List.getElem_mem _, (mem_ringOf.1 h).2.trans hx.symm⟩)
omit hK in
theorem rings_yes (h : IsHead T K K[i]) : ringsOf T K (K.take (i + 1)) = ringsOf T K (K.take i) ++ [ringOf T K K[i]] := by
  rw [take_snoc hi, ringsOf, List.filter_append, List.map_append]
  have : [K[i]].filter (fun a => decide (IsHead T K a)) = [K[i]] := by simp [h]
  rw [this]; rfl
omit hK in
theorem rings_no (h : ¬ IsHead T K K[i]) : ringsOf T K (K.take (i + 1)) = ringsOf T K (K.take i) := by
  rw [take_snoc hi, ringsOf, List.filter_append, List.map_append]
  have : [K[i]].filter (fun a => decide (IsHead T K a)) = [] := by simp [h]
  rw [this]; simp [ringsOf]
end
theorem ring_eq {T : Int → List Int} {K Kt : List Int} (hK : K.Pairwise (· < ·)) (hT : Kt.Pairwise (· < ·)) {a : Int} (h1 : ∀ x, x ∈ Kt ↔ Reach T a x) (h2 : ∀ x, Reach T x a → x ∈ K) : Kt.filter (fun x => decide (Reach T x a)) = ringOf T K a := by
  refine lt_ext (hT.filter _) (hK.filter _) fun x => ?_
  rw [mem_ringOf, List.mem_filter, h1, decide_eq_true_eq]
  exact ⟨fun h => ⟨h2 x h.2, h⟩, fun h => h.2⟩
theorem take_filter {p : Int → Bool} {l : List Int} {j : Nat} (h : j < l.length) : (l.take (j + 1)).filter p = (l.take j).filter p ++ if p l[j] then [l[j]] else [] := by
  rw [take_snoc h, List.filter_append]
  by_cases e : p l[j] <;> simp [e]
/-- What a map of counts tells. -/
theorem cnt_look {l : List (Int × Value)} (hn : (l.map (·.1)).Nodup) (hc : ∀ q ∈ l, ∃ n : Int, q.2 = I64 n ∧ 1 ≤ n ∧ n ≤ 200000) (x : Int) : ∃ k : Int, (∃ b, LookRel l x (I64 0) (I64 k) b) ∧ 0 ≤ k ∧ k ≤ 200000 ∧ (0 < k ↔ x ∈ l.map (·.1)) := by
  cases hlk : V.look l x with
  | some y =>
    obtain ⟨n, h1, h2, h3⟩ := hc _ (look_mem hlk)
    have h1 : y = I64 n := h1
    subst h1
    exact ⟨n, ⟨true, .inl ⟨rfl, hlk⟩⟩, by omega, h3, ⟨fun _ => List.mem_map.2 ⟨_, look_mem hlk, rfl⟩, fun _ => by omega⟩⟩
  | none =>
    refine ⟨0, ⟨false, .inr ⟨rfl, hlk, rfl⟩⟩, by omega, by omega, ⟨fun h => absurd h (by omega), fun hx => ?_⟩⟩
    obtain ⟨q, hq, e⟩ := List.mem_map.1 hx
    have := look_of_mem hn (k := q.1) (x := q.2) hq
    rw [e, hlk] at this; cases this
end Go.Proofs.Ytnplopiconabiaa.Span

end
