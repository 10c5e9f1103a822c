/- Names, texts, changes in form. -/
import Derived.Test.YtalegpdnhkopmaaDoorEH
import Derived.Test.YtalegpdnhkopmaaDoorM8
import Derived.Laws.RangeString
import Derived.Laws.RangeAny
import Derived.Lib.ValidLaws
import Derived.Lib.TrimUEq
namespace Go.Proofs.YtalegpdnhkopmaaDoor.Rc
open Go Go.V Go.RowKit
open Go.Proofs.YtalegpdnhkopmaaDoor.VC Go.Proofs.YtalegpdnhkopmaaDoor.By Go.Proofs.YtalegpdnhkopmaaDoor.Tree Go.Proofs.YtalegpdnhkopmaaDoor.Ky Go.Proofs.YtalegpdnhkopmaaDoor.Vl
open Go.Proofs.Tryd (prog)
set_option linter.unusedVariables false
set_option linter.unusedSimpArgs false
set_option maxRecDepth 20000

def letter (b : UInt8) : Bool := decide (97 ≤ b.toNat) && decide (b.toNat ≤ 122)
def isName (s : ByteArray) : Bool := decide (1 ≤ s.size) && decide (s.size ≤ 16) && s.data.toList.all letter
def notLetter (r : Nat) : Bool := decide (r < 97) || decide (122 < r)
theorem idx_letters (s : ByteArray) : ∀ (f pos : Nat), s.size ≤ pos + f → (Lib.idxFuncFrom notLetter true s f pos = -1 ↔ ∀ i (h : i < s.size), pos ≤ i → letter (s[i]'h) = true) ∧ -1 ≤ Lib.idxFuncFrom notLetter true s f pos
  | 0, pos, hf => ⟨⟨fun _ i h hp => by omega, fun _ => rfl⟩, by unfold Lib.idxFuncFrom; omega⟩
  | f + 1, pos, hf => by
    unfold Lib.idxFuncFrom
    by_cases hlt : pos < s.size
    · rw [if_pos hlt]
      by_cases hl : letter (s[pos]'hlt) = true
      · have hl' := hl
        simp only [letter, Bool.and_eq_true, decide_eq_true_eq] at hl'
        have hd := Go.decode_ascii s pos hlt (by omega)
        rw [hd]
        have hp : notLetter (s[pos]'hlt).toNat = false := by simp [notLetter]; omega
        simp only [hp, Bool.false_eq_true, if_false]
        have := idx_letters s f (pos + 1) (by omega)
        refine ⟨this.1.trans ⟨fun h i hi hpi => ?_, fun h i hi hpi => h i hi (by omega)⟩, this.2⟩
        by_cases e : i = pos
        · subst e; exact hl
        · exact h i hi (by omega)
      · have hp : notLetter (Utf8.decode s pos).1 = true := by
          by_cases ha : (s[pos]'hlt).toNat < 128
          · rw [Go.decode_ascii s pos hlt ha]
            simp only [letter, Bool.and_eq_true, decide_eq_true_eq] at hl
            simp [notLetter]; omega
          · have := (Go.decode_high s pos hlt (by omega)).1
            simp [notLetter]; omega
        rw [hp, if_pos rfl]
        exact ⟨⟨fun h => by omega, fun h => absurd (h pos hlt (Nat.le_refl _)) hl⟩, by omega⟩
    · rw [if_neg hlt]
      exact ⟨⟨fun _ i h hp => by omega, fun _ => rfl⟩, by omega⟩
theorem all_letters (s : ByteArray) : s.data.toList.all letter = true ↔ ∀ i (h : i < s.size), letter (s[i]'h) = true := by
  rw [List.all_eq_true]
  constructor
  · intro h i hi
    refine h _ ?_
    have : s[i] = s.data[i] := rfl
    rw [this]
    exact Array.mem_toList_iff.2 (Array.getElem_mem _)
  · intro h b hb
    obtain ⟨i, hi, rfl⟩ := List.mem_iff_getElem.1 hb
    exact h i (by simpa using hi)
theorem contains_letters (s : ByteArray) : decide (0 ≤ Lib.idxFunc notLetter true s) = !s.data.toList.all letter := by
  obtain ⟨h1, h2⟩ := idx_letters s s.size 0 (by omega)
  have h3 : Lib.idxFunc notLetter true s = -1 ↔ s.data.toList.all letter = true := by
    rw [all_letters]
    exact h1.trans ⟨fun h i hi => h i hi (Nat.zero_le _), fun h i hi _ => h i hi⟩
  have h2 : -1 ≤ Lib.idxFunc notLetter true s := h2
  cases hb : s.data.toList.all letter with
  | true => rw [h3.2 hb]; rfl
  | false =>
    have : ¬ Lib.idxFunc notLetter true s = -1 := fun h => by rw [h3.1 h] at hb; cases hb
    simp; omega
theorem byteAt_nat (s : ByteArray) (i : Nat) (h : i < s.size) : byteAt s (i : Int) = ((s[i]'h).toNat : Int) := by
  unfold byteAt
  rw [Int.toNat_natCast, List.getD_eq_getElem?_getD, List.getElem?_eq_getElem (by simpa using h)]
  rfl
theorem name_c (w : World) (s : ByteArray) (hs : s.size ≤ 1000000) : Calls prog 96 #[.string s] w fun e w' => e = .returned (.bool (isName s)) ∧ Fr [] w w' := by
  refine rhizomeref07_Name.link ⟨fun m n w' => ∃ i : Nat, n = i ∧ i ≤ s.size ∧ m = s.size - i ∧ w' = w ∧ ∀ j (h : j < s.size), j < i → letter (s[j]'h) = true, s.size, ⟨0, rfl, by omega, rfl, rfl, fun j h hj => by omega⟩, ?_⟩
  rintro m n w5 ⟨i, rfl, hi, rfl, rfl, hall⟩
  refine bc' (fun hlt y7 hy7 => ?_) fun hge y13 hy13 => ?_
  · have hlt : (i : Int) < (s.size : Int) := of_decide_eq_true hlt
    have hlt' : i < s.size := by omega
    rw [byteAt_nat s i hlt']
    have no : letter (s[i]'hlt') = false → y7 true w5 := fun hl => hy7 _ _ (bT rfl ⟨by
      have : s.data.toList.all letter = false := by
        cases h : s.data.toList.all letter with
        | false => rfl
        | true => rw [(all_letters s).1 h i hlt'] at hl; cases hl
      unfold isName; rw [this]; simp, Fr.refl _ _⟩)
    refine ⟨⟨by omega, hlt⟩, bc' (fun h => no ?_) fun h1 => ⟨⟨by omega, hlt⟩, ?_⟩⟩
    · have h := of_decide_eq_true h
      simp [letter]; omega
    · have h1 := of_decide_eq_false h1
      cases h2 : decide ((122 : Int) < ((s[i]'hlt').toNat : Int)) with
      | true => exact no (by have h2 := of_decide_eq_true h2; simp [letter]; omega)
      | false =>
        have h2 := of_decide_eq_false h2
        refine hy7 _ _ (bF rfl ⟨s.size - (i + 1), by omega, i + 1, by rw [wrapi (by omega) (by omega)]; simp, by omega, rfl, rfl, fun j hj hji => ?_⟩)
        by_cases e : j = i
        · subst e; simp [letter]; omega
        · exact hall j hj (by omega)
  · have hge : ¬ (i : Int) < (s.size : Int) := of_decide_eq_false hge
    have hal : s.data.toList.all letter = true := (all_letters s).2 fun j hj => hall j hj (by omega)
    have fin : ∀ b, b = isName s → y13 b w5 := fun b hb => hy13 _ _ ⟨by rw [hb], Fr.refl _ _⟩
    refine bc' (fun h => fin _ ?_) fun h => fin _ ?_
    · have h := of_decide_eq_true h
      have e1 : decide (1 ≤ s.size) = true := decide_eq_true (by omega)
      unfold isName; rw [hal, e1, Bool.true_and, Bool.and_true]
      exact decide_eq_decide.2 (by omega)
    · have h := of_decide_eq_false h
      have e1 : decide (1 ≤ s.size) = false := decide_eq_false (by omega)
      unfold isName; rw [e1]; rfl


/-- A name's test, in a package: over the code of its closure. -/
theorem name1_c (w : World) (c : Nat) : Calls prog 140 #[.int .i32 c] w fun e w' => e = .returned (.bool (notLetter c)) ∧ Fr [] w w' := by
  refine record_name_1.link fun y1 hy1 => ?_
  have fin : ∀ b, b = notLetter c → y1 b w := fun b hb => hy1 _ _ ⟨by rw [hb], Fr.refl _ _⟩
  refine bc' (fun h => fin _ ?_) fun h => fin _ ?_
  · have h := of_decide_eq_true h
    simp [notLetter]; omega
  · have h := of_decide_eq_false h
    unfold notLetter
    have e1 : decide (c < 97) = false := by simp; omega
    rw [e1, Bool.false_or]
    exact decide_eq_decide.2 (by omega)
theorem rname_c (w : World) (s : ByteArray) : Calls prog 93 #[.string s] w fun e w' => e = .returned (.bool (isName s)) ∧ Fr [] w w' := by
  refine record_name.link fun y1 hy1 => ?_
  have fin : ∀ b w', b = isName s → Fr [] w w' → y1 b w' := fun b w' hb hf => hy1 _ _ ⟨by rw [hb], hf⟩
  refine bc' (fun h1 => bc' (fun h2 => ?_) fun h2 => fin _ _ ?_ (Fr.refl _ _)) fun h1 => fin _ _ ?_ (Fr.refl _ _)
  · have h1 := of_decide_eq_true h1
    have h2 := of_decide_eq_true h2
    have H := Any.strings_ContainsFunc_grows Go.Proofs.Tryd.containsF 140 #[] (enters_of Go.Proofs.Tryd.func140 (by kernel_rfl) rfl) notLetter s w (fun W x hx hb => (name1_c W x).mono fun e w' ⟨he, hf⟩ => ⟨he, hf.below (Nat.le_refl _) (fun x hx => by cases hx)⟩)
    refine (show Calls prog 118 _ _ _ from H).mono ?_
    rintro e w7 ⟨rfl, hb⟩
    refine ⟨_, rfl, fin _ _ ?_ (Fr.of_below hb)⟩
    rw [contains_letters]
    have e1 : decide (1 ≤ s.size) = true := decide_eq_true (by omega)
    have e2 : decide (s.size ≤ 16) = true := decide_eq_true (by omega)
    unfold isName; rw [e1, e2]; simp
  · have h := of_decide_eq_false h2
    have : decide (s.size ≤ 16) = false := decide_eq_false (by omega)
    unfold isName; rw [this]; simp
  · have h := of_decide_eq_false h1
    have : decide (1 ≤ s.size) = false := decide_eq_false (by omega)
    unfold isName; rw [this]; rfl

/-! ### changes -/
structure CH where
  k : Int
  n : Int
  f : Int
  l : ByteArray
  t : Int
  key : ByteArray
  v : VL
abbrev ccell (c : CH) : List Value := [.int .i64 c.k, .int .i64 c.n, .int .i64 c.f, .string c.l, .int .i64 c.t, .string c.key, .int .i64 c.v.k, .int .i64 c.v.n, .string c.v.s]
def isNode (n : Int) : Bool := decide (1 ≤ n) && decide (n ≤ 1000)
/-- A change in form. -/
def formB (c : CH) : Bool := if c.k = 1 ∨ c.k = 2 then isNode c.n else if c.k = 3 ∨ c.k = 4 then isNode c.f && (isName c.l && isNode c.t) else if c.k = 5 then isNode c.n && (isName c.key && decide (chk c.v = 0)) else if c.k = 6 then isNode c.n && isName c.key else false
theorem node_c (n : Int) (w : World) : Calls prog 92 #[.int .i64 n] w fun e w' => e = .returned (.bool (isNode n)) ∧ w' = w := by
  refine record_node.link fun y1 hy1 => ?_
  have fin : ∀ b, b = isNode n → y1 b w := fun b hb => hy1 _ _ ⟨by rw [hb], rfl⟩
  refine bc' (fun h => fin _ ?_) fun h => fin _ ?_
  · unfold isNode; rw [h, Bool.true_and]
  · unfold isNode; rw [h, Bool.false_and]
theorem rnode_c (n : Int) (w : World) : Calls prog 95 #[.int .i64 n] w fun e w' => e = .returned (.bool (isNode n)) ∧ w' = w := by
  refine rhizomeref15_node.link fun y1 hy1 => ?_
  have fin : ∀ b, b = isNode n → y1 b w := fun b hb => hy1 _ _ ⟨by rw [hb], rfl⟩
  refine bc' (fun h => fin _ ?_) fun h => fin _ ?_
  · unfold isNode; rw [h, Bool.true_and]
  · unfold isNode; rw [h, Bool.false_and]
theorem form_c {w : World} (c : CH) (hT : Tabs w) : Calls prog 43 #[.agg #[.int .i64 c.k, .int .i64 c.n, .int .i64 c.f, .string c.l, .int .i64 c.t, .string c.key, .int .i64 c.v.k, .int .i64 c.v.n, .string c.v.s]] w fun e w' => e = .returned (.int .i64 (if formB c then 0 else 1)) ∧ Fr [] w w' := by
  refine record_Form.link fun k1 y2 h2 => ?_
  have fin : ∀ b w', b = formB c → Fr [] w w' → y2 b w' := fun b w' hb f => h2 _ _ (bc' (fun h => ⟨by rw [← hb, show b = false by simpa using h]; rfl, f⟩) fun h => ⟨by rw [← hb, show b = true by simpa using h]; rfl, f⟩)
  intro y7 h7
  have main : ∀ (b : Bool) (w9 : World), Fr [] w w9 → k1 < w9.heap.size → (b = true ↔ (c.k = 1 ∨ c.k = 2)) → y7 b w9 := by
    intro b w9 F K hb
    refine h7 _ _ (bc' (fun hbt => ?_) fun hbf y13 h13 => ?_)
    · refine (node_c _ _).mono ?_
      rintro e w' ⟨rfl, rfl⟩
      exact ⟨_, rfl, fun _ _ => rfl, fin _ _ (by unfold formB; rw [if_pos (hb.1 hbt)]) F⟩
    have h12 : ¬ (c.k = 1 ∨ c.k = 2) := fun z => by rw [hb.2 z] at hbf; cases hbf
    have ef : formB c = if c.k = 3 ∨ c.k = 4 then isNode c.f && (isName c.l && isNode c.t) else if c.k = 5 then isNode c.n && (isName c.key && decide (chk c.v = 0)) else if c.k = 6 then isNode c.n && isName c.key else false := by unfold formB; rw [if_neg h12]
    have main2 : ∀ (b : Bool), (b = true ↔ (c.k = 3 ∨ c.k = 4)) → y13 b w9 := by
      intro b hb
      refine h13 _ _ (bc' (fun hbt => ?_) fun hbf => ?_)
      · rw [if_pos (hb.1 hbt)] at ef
        refine (node_c _ _).mono ?_
        rintro e w' ⟨rfl, rfl⟩
        refine ⟨_, rfl, fun _ _ => rfl, bc' (fun h => ?_) fun h => fin _ _ (by rw [ef, h]; rfl) F⟩
        rw [h, Bool.true_and] at ef
        refine (rname_c _ _).mono ?_
        rintro e w20 ⟨rfl, f20⟩
        refine ⟨_, rfl, keepF f20 (by simpa using K), bc' (fun h => ?_) fun h => fin _ _ (by rw [ef, h]; rfl) (F.trans' f20)⟩
        rw [h, Bool.true_and] at ef
        refine (node_c _ _).mono ?_
        rintro e w' ⟨rfl, rfl⟩
        exact ⟨_, rfl, fun _ _ => rfl, fin _ _ ef.symm (F.trans' f20)⟩
      have h34 : ¬ (c.k = 3 ∨ c.k = 4) := fun z => by rw [hb.2 z] at hbf; cases hbf
      rw [if_neg h34] at ef
      refine bc' (fun h5 => ?_) fun h5 => bc' (fun h6 => ?_) fun h6 => fin _ _ (by rw [ef, if_neg (of_decide_eq_false h5), if_neg (of_decide_eq_false h6)]) F
      · rw [if_pos (of_decide_eq_true h5)] at ef
        refine (node_c _ _).mono ?_
        rintro e w' ⟨rfl, rfl⟩
        refine ⟨_, rfl, fun _ _ => rfl, bc' (fun h => ?_) fun h => fin _ _ (by rw [ef, h]; rfl) F⟩
        rw [h, Bool.true_and] at ef
        refine (rname_c _ _).mono ?_
        rintro e w29 ⟨rfl, f29⟩
        have F29 := F.trans' f29
        refine ⟨_, rfl, keepF f29 (by simpa using K), bc' (fun h => ?_) fun h => fin _ _ (by rw [ef, h]; rfl) F29⟩
        rw [h, Bool.true_and] at ef
        refine (check_c c.v (hT.old F29)).mono ?_
        rintro e w32 ⟨rfl, f32⟩
        exact ⟨_, rfl, keepF f32 (by have := f29.size; simp; omega), fin _ _ ef.symm (F29.trans' f32)⟩
      · rw [if_neg (of_decide_eq_false h5), if_pos (of_decide_eq_true h6)] at ef
        refine (node_c _ _).mono ?_
        rintro e w' ⟨rfl, rfl⟩
        refine ⟨_, rfl, fun _ _ => rfl, bc' (fun h => ?_) fun h => fin _ _ (by rw [ef, h]; rfl) F⟩
        rw [h, Bool.true_and] at ef
        refine (rname_c _ _).mono ?_
        rintro e w38 ⟨rfl, f38⟩
        exact ⟨_, rfl, keepF f38 (by simpa using K), fin _ _ ef.symm (F.trans' f38)⟩
    refine bc' (fun h => main2 _ ⟨fun _ => .inl (of_decide_eq_true h), fun _ => rfl⟩) fun h => main2 _ ?_
    have h := of_decide_eq_false h
    rw [decide_eq_true_eq]
    omega
  refine bc' (fun h w44 s44 => main _ _ s44.fr (g_new1 s44).2 ⟨fun _ => .inl (of_decide_eq_true h), fun _ => rfl⟩) fun h w46 s46 => main _ _ s46.fr (g_new1 s46).2 ?_
  have h := of_decide_eq_false h
  rw [decide_eq_true_eq]
  omega
end Go.Proofs.YtalegpdnhkopmaaDoor.Rc
