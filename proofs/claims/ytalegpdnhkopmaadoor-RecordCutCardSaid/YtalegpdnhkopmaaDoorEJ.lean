/- The document's texts, values, changes in form. -/
import Derived.Test.YtalegpdnhkopmaaDoorEI
namespace Go.Proofs.YtalegpdnhkopmaaDoor.Rc
open Go Go.V Go.RowKit
open Go.Proofs.YtalegpdnhkopmaaDoor.VC Go.Proofs.YtalegpdnhkopmaaDoor.By Go.Proofs.YtalegpdnhkopmaaDoor.Tree Go.Proofs.YtalegpdnhkopmaaDoor.Ky Go.Proofs.YtalegpdnhkopmaaDoor.Vl
open Go.Proofs.Tryd (prog)
set_option linter.unusedVariables false
set_option linter.unusedSimpArgs false
set_option maxRecDepth 20000

/-- The byte k places behind i. -/
def BA (s : ByteArray) (i k : Nat) : Nat := (s.data.toList.getD (i + k) 0).toNat
theorem BA_lt (s : ByteArray) (i k : Nat) : BA s i k < 256 := UInt8.toNat_lt _
def runeN (n b0 b1 b2 b3 : Nat) : Int × Int := if (Lib.decodeN n b0 b1 b2 b3).1 = 65533 ∧ (Lib.decodeN n b0 b1 b2 b3).2 = 1 then (0, 0) else (((Lib.decodeN n b0 b1 b2 b3).2 : Int), ((Lib.decodeN n b0 b1 b2 b3).1 : Int))
/-- A rune's bytes, and its number; 0: none. -/
def runeP (s : ByteArray) (i : Nat) : Int × Int := runeN (s.size - i) (BA s i 0) (BA s i 1) (BA s i 2) (BA s i 3)
def contR (B : Nat → Nat) : Nat → Nat → Int → Option Int
  | 0, _, n => some n
  | f + 1, k, n => if B k < 128 ∨ 191 < B k then none else contR B f (k + 1) (n * 64 + (B k : Int) - 128)
def tailR (n : Nat) (B : Nat → Nat) (m : Nat) (x least : Int) : Int × Int := if n < m then (0, 0) else match contR B (m - 1) 1 x with
  | none => (0, 0)
  | some y => if y < least ∨ 1114111 < y ∨ (55296 ≤ y ∧ y ≤ 57343) then (0, 0) else ((m : Int), y)
theorem runeN_bad {n b0 b1 b2 b3 : Nat} (h : Lib.decodeN n b0 b1 b2 b3 = (65533, 1)) : runeN n b0 b1 b2 b3 = (0, 0) := by
  unfold runeN; rw [h]; rfl
theorem runeN_ok {n b0 b1 b2 b3 c k : Nat} (h : Lib.decodeN n b0 b1 b2 b3 = (c, k)) (hk : ¬ (c = 65533 ∧ k = 1)) : runeN n b0 b1 b2 b3 = ((k : Int), (c : Int)) := by
  unfold runeN; rw [h, if_neg hk]
theorem rune1 {n : Nat} {B : Nat → Nat} (h : B 0 < 128) : runeN n (B 0) (B 1) (B 2) (B 3) = (1, (B 0 : Int)) :=
  runeN_ok (by unfold Lib.decodeN; rw [if_pos h]) (by omega)
theorem rune2 {n : Nat} {B : Nat → Nat} (h0 : 194 ≤ B 0) (h1 : B 0 < 224) (hb : B 1 < 256) : runeN n (B 0) (B 1) (B 2) (B 3) = tailR n B 2 ((B 0 : Int) - 192) 128 := by
  unfold tailR
  by_cases hn : n < 2
  · rw [if_pos hn]
    exact runeN_bad (by unfold Lib.decodeN; rw [if_neg (by omega), if_neg (by omega), if_neg (by omega), if_neg (by omega)])
  rw [if_neg hn]
  simp only [contR, Nat.reduceAdd]
  by_cases hc : B 1 < 128 ∨ 191 < B 1
  · rw [if_pos hc]
    exact runeN_bad (by unfold Lib.decodeN; rw [if_neg (by omega), if_neg (by omega), if_neg (by omega), if_neg (by omega)])
  · rw [if_neg hc]
    simp only
    rw [if_neg (by omega), runeN_ok (c := B 0 % 32 * 64 + B 1 % 64) (k := 2) (by unfold Lib.decodeN; rw [if_neg (by omega), if_pos (by omega), if_pos (by omega)]) (by omega)]
    refine Prod.ext rfl ?_
    show _ = _
    simp only
    omega
theorem rune3 {n : Nat} {B : Nat → Nat} (h0 : 224 ≤ B 0) (h1 : B 0 < 240) (hb : B 1 < 256) (hb2 : B 2 < 256) : runeN n (B 0) (B 1) (B 2) (B 3) = tailR n B 3 ((B 0 : Int) - 224) 2048 := by
  unfold tailR
  by_cases hn : n < 3
  · rw [if_pos hn]
    exact runeN_bad (by unfold Lib.decodeN; rw [if_neg (by omega), if_neg (by omega), if_neg (by omega), if_neg (by omega)])
  rw [if_neg hn]
  simp only [contR, Nat.reduceAdd]
  by_cases hc : B 1 < 128 ∨ 191 < B 1
  · rw [if_pos hc]
    exact runeN_bad (by unfold Lib.decodeN; rw [if_neg (by omega), if_neg (by omega), if_neg (by omega), if_neg (by omega)])
  rw [if_neg hc]
  by_cases hc2 : B 2 < 128 ∨ 191 < B 2
  · rw [if_pos hc2]
    exact runeN_bad (by unfold Lib.decodeN; rw [if_neg (by omega), if_neg (by omega), if_neg (by omega), if_neg (by omega)])
  rw [if_neg hc2]
  simp only
  by_cases hg : B 0 % 16 * 4096 + B 1 % 64 * 64 + B 2 % 64 ≥ 2048 ∧ (B 0 % 16 * 4096 + B 1 % 64 * 64 + B 2 % 64 < 55296 ∨ (57344 ≤ B 0 % 16 * 4096 + B 1 % 64 * 64 + B 2 % 64 ∧ B 0 % 16 * 4096 + B 1 % 64 * 64 + B 2 % 64 ≤ 1114111))
  · rw [if_neg (by omega), runeN_ok (c := B 0 % 16 * 4096 + B 1 % 64 * 64 + B 2 % 64) (k := 3) (by unfold Lib.decodeN; rw [if_neg (by omega), if_neg (by omega), if_pos (by omega), if_pos hg]) (by omega)]
    refine Prod.ext rfl ?_
    simp only
    omega
  · rw [if_pos (by omega)]
    exact runeN_bad (by unfold Lib.decodeN; rw [if_neg (by omega), if_neg (by omega), if_pos (by omega), if_neg hg])
theorem rune4 {n : Nat} {B : Nat → Nat} (h0 : 240 ≤ B 0) (h1 : B 0 < 245) (hb : B 1 < 256) (hb2 : B 2 < 256) (hb3 : B 3 < 256) : runeN n (B 0) (B 1) (B 2) (B 3) = tailR n B 4 ((B 0 : Int) - 240) 65536 := by
  unfold tailR
  have bad : ¬ ((1 < n ∧ B 1 / 64 = 2) ∧ (2 < n ∧ B 2 / 64 = 2) ∧ (3 < n ∧ B 3 / 64 = 2)) → runeN n (B 0) (B 1) (B 2) (B 3) = (0, 0) := fun h =>
    runeN_bad (by unfold Lib.decodeN; rw [if_neg (by omega), if_neg (by omega), if_neg (by omega), if_neg (fun z => h z.2)])
  by_cases hn : n < 4
  · rw [if_pos hn]
    exact bad (by omega)
  rw [if_neg hn]
  simp only [contR, Nat.reduceAdd]
  by_cases hc : B 1 < 128 ∨ 191 < B 1
  · rw [if_pos hc]
    exact bad (by omega)
  rw [if_neg hc]
  by_cases hc2 : B 2 < 128 ∨ 191 < B 2
  · rw [if_pos hc2]
    exact bad (by omega)
  rw [if_neg hc2]
  by_cases hc3 : B 3 < 128 ∨ 191 < B 3
  · rw [if_pos hc3]
    exact bad (by omega)
  rw [if_neg hc3]
  simp only
  by_cases hg : B 0 % 8 * 262144 + B 1 % 64 * 4096 + B 2 % 64 * 64 + B 3 % 64 ≥ 65536 ∧ (B 0 % 8 * 262144 + B 1 % 64 * 4096 + B 2 % 64 * 64 + B 3 % 64 < 55296 ∨ (57344 ≤ B 0 % 8 * 262144 + B 1 % 64 * 4096 + B 2 % 64 * 64 + B 3 % 64 ∧ B 0 % 8 * 262144 + B 1 % 64 * 4096 + B 2 % 64 * 64 + B 3 % 64 ≤ 1114111))
  · rw [if_neg (by omega), runeN_ok (c := B 0 % 8 * 262144 + B 1 % 64 * 4096 + B 2 % 64 * 64 + B 3 % 64) (k := 4) (by unfold Lib.decodeN; rw [if_neg (by omega), if_neg (by omega), if_neg (by omega), if_pos (by omega), if_pos hg]) (by omega)]
    refine Prod.ext rfl ?_
    simp only
    omega
  · rw [if_pos (by omega)]
    exact runeN_bad (by unfold Lib.decodeN; rw [if_neg (by omega), if_neg (by omega), if_neg (by omega), if_pos (by omega), if_neg hg])
theorem rune0 {n : Nat} {B : Nat → Nat} (h0 : 128 ≤ B 0) (h : B 0 < 194 ∨ 245 ≤ B 0) (hB : B 0 < 256) (hb : B 1 < 256) (hb2 : B 2 < 256) (hb3 : B 3 < 256) : runeN n (B 0) (B 1) (B 2) (B 3) = (0, 0) := by
  refine runeN_bad ?_
  unfold Lib.decodeN
  rw [if_neg (by omega)]
  by_cases c1 : B 0 / 32 = 6 ∧ (1 < n ∧ B 1 / 64 = 2)
  · rw [if_pos c1, if_neg (by omega)]
  rw [if_neg c1, if_neg (by omega)]
  by_cases c2 : B 0 / 8 = 30 ∧ (1 < n ∧ B 1 / 64 = 2) ∧ (2 < n ∧ B 2 / 64 = 2) ∧ (3 < n ∧ B 3 / 64 = 2)
  · rw [if_pos c2, if_neg (by omega)]
  · rw [if_neg c2]
theorem byteAt_BA (s : ByteArray) (i k : Nat) (n : Int) (h : n = ((i + k : Nat) : Int)) : byteAt s n = (BA s i k : Int) := by
  subst h
  unfold byteAt BA
  rw [Int.toNat_natCast]
theorem w8 (x : Nat) (h : x < 256) : IntKind.wrap .i64 (x : Int) = (x : Int) := wrapi (by omega) (by omega)
set_option maxHeartbeats 1000000 in
theorem rune_c {w : World} {s : ByteArray} {i : Nat} (hi : i < s.size) (hs : s.size ≤ 1000000) : Calls prog 134 #[.string s, .int .i64 (i : Int)] w fun e w' => e = .returned (.tuple #[.int .i64 (runeP s i).1, .int .i64 (runeP s i).2]) ∧ w' = w := by
  have b0 := BA_lt s i 0
  have b1 := BA_lt s i 1
  have b2 := BA_lt s i 2
  have b3 := BA_lt s i 3
  have e0 : IntKind.wrap .i64 (byteAt s (i : Int)) = (BA s i 0 : Int) := by rw [byteAt_BA s i 0 _ (by omega), w8 _ b0]
  refine rhizomeref02_Rune.link (bF (decide_eq_false (by omega)) ⟨⟨by omega, by omega⟩, fun y1 h1 => ?_⟩)
  simp only [e0]
  have fail : ∀ {R : Int × Int}, runeP s i = R → R = (0, 0) → (fun (e : Ending) (w' : World) => e = .returned (.tuple #[.int .i64 (runeP s i).1, .int .i64 (runeP s i).2]) ∧ w' = w) (.returned (.tuple #[.int .i64 0, .int .i64 0])) w := fun h1 h2 => ⟨by rw [h1, h2], rfl⟩
  -- a rune of several bytes
  have tail : ∀ (m : Nat) (x least : Int), 2 ≤ m → m ≤ 4 → 0 ≤ x → x < 64 → runeP s i = tailR (s.size - i) (BA s i) m x least → y1 (m : Int) x least w := by
    intro m x least h2 h4 hx0 hx1 hR
    refine h1 _ _ _ _ ?_
    rw [wrapi (n := (i : Int) + (m : Int)) (by omega) (by omega)]
    unfold tailR at hR
    refine bc' (fun hl => ?_) fun hl => ?_
    · rw [if_pos (by have := of_decide_eq_true hl; omega)] at hR
      exact fail hR rfl
    have hl : i + m ≤ s.size := by have := of_decide_eq_false hl; omega
    rw [if_neg (by omega)] at hR
    refine ⟨fun q y k w' => ∃ j : Nat, k = (j : Int) ∧ 1 ≤ j ∧ j ≤ m ∧ q = m - j ∧ w' = w ∧ 0 ≤ y ∧ y < ((64 ^ j : Nat) : Int) ∧ contR (BA s i) (m - 1) 1 x = contR (BA s i) (m - j) j y, m - 1, ⟨1, rfl, Nat.le_refl _, by omega, rfl, rfl, hx0, by simpa using hx1, rfl⟩, ?_⟩
    rintro q y k w' ⟨j, rfl, hj1, hjm, rfl, rfl, hy0, hy1, hcont⟩
    have hp : 64 ^ j ≤ 64 ^ 4 := Nat.pow_le_pow_right (by decide) (by omega)
    have hp4 : (64 ^ 4 : Nat) = 16777216 := by decide
    refine bc' (fun hlt => ?_) fun hge => ?_
    · have hlt : j < m := by have := of_decide_eq_true hlt; omega
      rw [wrapi (n := (i : Int) + (j : Int)) (by omega) (by omega)]
      have bj := BA_lt s i j
      have ej : IntKind.wrap .i64 (byteAt s ((i : Int) + (j : Int))) = (BA s i j : Int) := by rw [byteAt_BA s i j _ (by omega), w8 _ bj]
      rw [ej]
      have hstep : contR (BA s i) (m - j) j y = if BA s i j < 128 ∨ 191 < BA s i j then none else contR (BA s i) (m - (j + 1)) (j + 1) (y * 64 + (BA s i j : Int) - 128) := by
        rw [show m - j = (m - (j + 1)) + 1 by omega]; rfl
      refine ⟨⟨by omega, by omega⟩, fun y13 h13 => ?_⟩
      have go : ∀ b : Bool, (b = true ↔ (BA s i j < 128 ∨ 191 < BA s i j)) → y13 b w' := fun b hb => h13 _ _ (bc' (fun h => ?_) fun h => ?_)
      · refine bc' (fun h => go _ ⟨fun _ => .inl (by have := of_decide_eq_true h; omega), fun _ => rfl⟩) fun h => go _ ?_
        have h := of_decide_eq_false h
        rw [decide_eq_true_eq]; omega
      · rw [hcont, hstep, if_pos (hb.1 h)] at hR
        exact fail hR rfl
      · have hn : ¬ (BA s i j < 128 ∨ 191 < BA s i j) := fun z => by rw [hb.2 z] at h; cases h
        rw [if_neg hn] at hstep
        have ew : IntKind.wrap .i64 (IntKind.wrap .i64 (IntKind.wrap .i64 (y * 64) + (BA s i j : Int)) - 128) = y * 64 + (BA s i j : Int) - 128 := by
          rw [wrapi (n := y * 64) (by omega) (by omega), wrapi (n := y * 64 + (BA s i j : Int)) (by omega) (by omega), wrapi (by omega) (by omega)]
        rw [ew]
        exact ⟨m - (j + 1), by omega, j + 1, by rw [wrapi (by omega) (by omega)]; simp, by omega, by omega, rfl, rfl, by omega, by rw [Nat.pow_succ]; omega, hcont.trans hstep⟩
    · have hjm' : j = m := by have := of_decide_eq_false hge; omega
      subst hjm'
      intro y19 h19
      rw [hcont, Nat.sub_self] at hR
      have hR : runeP s i = if y < least ∨ 1114111 < y ∨ (55296 ≤ y ∧ y ≤ 57343) then (0, 0) else ((j : Int), y) := hR
      have go : ∀ b : Bool, (b = true ↔ (y < least ∨ 1114111 < y ∨ (55296 ≤ y ∧ y ≤ 57343))) → y19 b w' := fun b hb => h19 _ _ (bc' (fun h => by
        rw [if_pos (hb.1 h)] at hR
        exact fail hR rfl) fun h => by
        rw [if_neg fun z => by rw [hb.2 z] at h; cases h] at hR
        exact ⟨by rw [hR], rfl⟩)
      refine bc' (fun h => go _ ⟨fun _ => .inl (of_decide_eq_true h), fun _ => rfl⟩) fun h => bc' (fun h2 => go _ ⟨fun _ => .inr (.inl (of_decide_eq_true h2)), fun _ => rfl⟩) fun h2 => bc' (fun h3 => go _ ?_) fun h3 => go _ ?_
      · have h := of_decide_eq_false h; have h2 := of_decide_eq_false h2; have h3 := of_decide_eq_true h3
        rw [decide_eq_true_eq]; omega
      · have h := of_decide_eq_false h; have h2 := of_decide_eq_false h2; have h3 := of_decide_eq_false h3
        exact ⟨fun z => (by cases z), fun z => by omega⟩
  refine bc' (fun h => ⟨?_, trivial⟩) fun h y26 h26 => ?_
  · have : runeP s i = (1, (BA s i 0 : Int)) := rune1 (B := BA s i) (by have := of_decide_eq_true h; omega)
    rw [this]
  have h := of_decide_eq_false h
  have sub : ∀ (k : Int), 0 ≤ k → k ≤ 255 → IntKind.wrap .i64 ((BA s i 0 : Int) - k) = (BA s i 0 : Int) - k := fun k h1 h2 => wrapi (by omega) (by omega)
  rw [sub 192 (by decide) (by decide), sub 224 (by decide) (by decide), sub 240 (by decide) (by decide)] at h26
  have g2 : ∀ b : Bool, (b = true ↔ (194 ≤ BA s i 0 ∧ BA s i 0 < 224)) → y26 b w := by
    intro b hb
    refine h26 _ _ (bc' (fun hbt => ?_) fun hbf y29 h29 => ?_)
    · obtain ⟨p1, p2⟩ := hb.1 hbt
      exact tail 2 _ _ (by omega) (by omega) (by omega) (by omega) (rune2 (B := BA s i) p1 p2 b1)
    have n2 : ¬ (194 ≤ BA s i 0 ∧ BA s i 0 < 224) := fun z => by rw [hb.2 z] at hbf; cases hbf
    have g3 : ∀ b : Bool, (b = true ↔ (224 ≤ BA s i 0 ∧ BA s i 0 < 240)) → y29 b w := by
      intro b hb
      refine h29 _ _ (bc' (fun hbt => ?_) fun hbf y32 h32 => ?_)
      · obtain ⟨p1, p2⟩ := hb.1 hbt
        exact tail 3 _ _ (by omega) (by omega) (by omega) (by omega) (rune3 (B := BA s i) p1 p2 b1 b2)
      have n3 : ¬ (224 ≤ BA s i 0 ∧ BA s i 0 < 240) := fun z => by rw [hb.2 z] at hbf; cases hbf
      have g4 : ∀ b : Bool, (b = true ↔ (240 ≤ BA s i 0 ∧ BA s i 0 < 245)) → y32 b w := by
        intro b hb
        refine h32 _ _ (bc' (fun hbt => ?_) fun hbf => ?_)
        · obtain ⟨p1, p2⟩ := hb.1 hbt
          exact tail 4 _ _ (by omega) (by omega) (by omega) (by omega) (rune4 (B := BA s i) p1 p2 b1 b2 b3)
        have n4 : ¬ (240 ≤ BA s i 0 ∧ BA s i 0 < 245) := fun z => by rw [hb.2 z] at hbf; cases hbf
        exact fail (rune0 (B := BA s i) (by omega) (by omega) b0 b1 b2 b3) rfl
      refine bc' (fun h => g4 _ ?_) fun h => g4 _ ⟨fun z => (by cases z), fun z => by have := of_decide_eq_false h; omega⟩
      have h := of_decide_eq_true h
      rw [decide_eq_true_eq]; omega
    refine bc' (fun h => g3 _ ?_) fun h => g3 _ ⟨fun z => (by cases z), fun z => by have := of_decide_eq_false h; omega⟩
    have h := of_decide_eq_true h
    rw [decide_eq_true_eq]; omega
  refine bc' (fun h => g2 _ ?_) fun h => g2 _ ⟨fun z => (by cases z), fun z => by have := of_decide_eq_false h; omega⟩
  have h := of_decide_eq_true h
  rw [decide_eq_true_eq]; omega
theorem runeP_decode (s : ByteArray) (i : Nat) : runeP s i = if (Utf8.decode s i).1 = 65533 ∧ (Utf8.decode s i).2 = 1 then (0, 0) else (((Utf8.decode s i).2 : Int), ((Utf8.decode s i).1 : Int)) := by
  have h := Lib.decodeL_drop s i
  rw [Lib.decodeL_N] at h
  have e : ∀ k, ((s.data.toList.drop i).getD k 0).toNat = BA s i k := fun k => by
    unfold BA; rw [List.getD_eq_getElem?_getD, List.getD_eq_getElem?_getD, List.getElem?_drop]
  rw [e, e, e, e, List.length_drop] at h
  unfold runeP runeN
  have hl : s.data.toList.length = s.size := rfl
  rw [hl] at h
  rw [h]
theorem utf8_c {w : World} {s : ByteArray} (hs : s.size ≤ 1000000) : Calls prog 142 #[.string s] w fun e w' => e = .returned (.bool (Lib.validD s.data.toList)) ∧ w' = w := by
  refine rhizomeref02_UTF8.link ⟨fun m n w' => ∃ i : Nat, n = (i : Int) ∧ m = s.size - i ∧ i ≤ s.size ∧ w' = w ∧ Lib.validD s.data.toList = Lib.validD (s.data.toList.drop i), s.size, ⟨0, rfl, rfl, Nat.zero_le _, rfl, rfl⟩, ?_⟩
  rintro m n w' ⟨i, rfl, rfl, hi, rfl, hv⟩
  have hl : s.data.toList.length = s.size := rfl
  refine bc' (fun hlt => ?_) fun hge => ?_
  · have hlt : i < s.size := by have := of_decide_eq_true hlt; omega
    have hne : s.data.toList.drop i ≠ [] := fun z => by have := congrArg List.length z; rw [List.length_drop, hl] at this; simp at this; omega
    have hstep := Lib.validD_step (s.data.toList.drop i) hne
    have hle := Lib.decodeL_le (s.data.toList.drop i) hne
    have hwd := Lib.decodeL_width (s.data.toList.drop i)
    rw [Lib.decodeL_drop] at hstep hle hwd
    rw [List.length_drop, hl] at hle
    refine (rune_c hlt hs).mono ?_
    rintro e w4 ⟨rfl, rfl⟩
    refine ⟨_, _, rfl, ?_⟩
    rw [runeP_decode]
    by_cases hb : (Utf8.decode s i).1 = 65533 ∧ (Utf8.decode s i).2 = 1
    · rw [if_pos hb] at hstep ⊢
      exact bT rfl ⟨by rw [hv, hstep], rfl⟩
    · rw [if_neg hb] at hstep ⊢
      refine bF (decide_eq_false (by simp only; omega)) ⟨s.size - (i + (Utf8.decode s i).2), by omega, i + (Utf8.decode s i).2, ?_, rfl, by omega, rfl, ?_⟩
      · simp only
        rw [wrapi (by omega) (by omega)]; simp
      · rw [hv, hstep, List.drop_drop]
  · have : i = s.size := by have := of_decide_eq_false hge; omega
    subst this
    refine ⟨?_, rfl⟩
    rw [hv, List.drop_of_length_le (by rw [hl]; omega)]
    rfl
/-- The document's word on a value: the same. -/
theorem rcheck_c {w : World} (v : VL) (hs : v.s.size ≤ 1000000) : Calls prog 97 #[.agg #[.int .i64 v.k, .int .i64 v.n, .string v.s]] w fun e w' => e = .returned (.int .i64 (chk v)) ∧ Fr [] w w' := by
  refine rhizomeref02_Check.link fun k1 y2 h2 => ?_
  have go : ∀ (b : Bool) (w4 : World), Fr [] w w4 → (b = true ↔ (v.k = 1 ∨ v.k = 3 ∧ (v.n = 0 ∨ v.n = 1))) → y2 b w4 := by
    intro b w4 F hb
    refine h2 _ _ (bc' (fun h => ⟨?_, F⟩) fun h => ?_)
    · unfold chk
      rcases hb.1 h with h | ⟨h, h'⟩
      · rw [if_pos h]
      · rw [if_neg (by omega), if_pos h, if_pos h']
    have hn : ¬ (v.k = 1 ∨ v.k = 3 ∧ (v.n = 0 ∨ v.n = 1)) := fun z => by rw [hb.2 z] at h; cases h
    refine bc' (fun h => ⟨?_, F⟩) fun h => ?_
    · have h : ¬ v.k = 2 := by simpa using h
      unfold chk
      rw [if_neg fun z => hn (.inl z)]
      by_cases h3 : v.k = 3
      · rw [if_pos h3, if_neg fun z => hn (.inr ⟨h3, z⟩)]
      · rw [if_neg h3, if_neg h]
    have h : v.k = 2 := by simpa using h
    have e : chk v = if 64 < v.s.size then 3 else if Lib.validD v.s.data.toList = true then 0 else 7 := by unfold chk; rw [if_neg (by omega), if_neg (by omega), if_pos h]
    refine bc' (fun h5 => ⟨by rw [e, if_pos (by have := of_decide_eq_true h5; omega)], F⟩) fun h5 => ?_
    have h5 : ¬ 64 < v.s.size := by have := of_decide_eq_false h5; omega
    refine (utf8_c hs).mono ?_
    rintro e' w6 ⟨rfl, rfl⟩
    refine ⟨_, rfl, fun _ _ => rfl, bc' (fun hv => ⟨by rw [e, if_neg h5, if_neg (by simpa using hv)], F⟩) fun hv => ⟨by rw [e, if_neg h5, if_pos (by simpa using hv)], F⟩⟩
  refine bc' (fun h w10 s10 => go _ _ s10.fr ⟨fun _ => .inl (of_decide_eq_true h), fun _ => rfl⟩) fun h => bc' (fun h3 => bc' (fun h4 w12 s12 => go _ _ s12.fr ⟨fun _ => .inr ⟨of_decide_eq_true h3, .inl (of_decide_eq_true h4)⟩, fun _ => rfl⟩) fun h4 w14 s14 => go _ _ s14.fr ?_) fun h3 w16 s16 => go _ _ s16.fr ⟨fun z => (by cases z), fun z => ?_⟩
  · have h := of_decide_eq_false h; have h3 := of_decide_eq_true h3; have h4 := of_decide_eq_false h4
    rw [decide_eq_true_eq]; omega
  · have h := of_decide_eq_false h; have h3 := of_decide_eq_false h3; omega
end Go.Proofs.YtalegpdnhkopmaaDoor.Rc
