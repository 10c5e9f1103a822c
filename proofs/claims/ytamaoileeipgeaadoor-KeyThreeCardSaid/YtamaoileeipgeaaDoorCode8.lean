/- The order of keys: both Cmps tell one order, and it is that of their bytes. -/
import Derived.Test.YtamaoileeipgeaaDoorCode2
import Derived.Test.YtamaoileeipgeaaDoorXCmp
namespace Go.Proofs.YtamaoileeipgeaaDoor.XKey
open Go.RowKit Go.Proofs.YtamaoileeipgeaaDoorW.PrintWords Go.Proofs.YtamaoileeipgeaaDoorW.PrintLast Go.Proofs.YtamaoileeipgeaaDoorW.PrintMore
set_option linter.unusedVariables false
set_option linter.unusedSimpArgs false

/-- The order of rows of numbers. -/
def cmpI : List Int → List Int → Int
  | [], [] => 0
  | [], _ :: _ => -1
  | _ :: _, [] => 1
  | x :: a, y :: b => if x < y then -1 else if y < x then 1 else cmpI a b
theorem cmpI_lt (x y : Int) (a b : List Int) (h : x < y) : cmpI (x :: a) (y :: b) = -1 := by rw [cmpI, if_pos h]
theorem cmpI_gt (x y : Int) (a b : List Int) (h : y < x) : cmpI (x :: a) (y :: b) = 1 := by rw [cmpI, if_neg (by omega), if_pos h]
theorem cmpI_eq (x : Int) (a b : List Int) : cmpI (x :: a) (x :: b) = cmpI a b := by rw [cmpI, if_neg (by omega), if_neg (by omega)]
theorem cmpI_app : ∀ (p a b : List Int), cmpI (p ++ a) (p ++ b) = cmpI a b
  | [], a, b => rfl
  | x :: p, a, b => by rw [List.cons_append, List.cons_append, cmpI_eq, cmpI_app p a b]
theorem cmpI_self (a : List Int) : cmpI a a = 0 := by
  have := cmpI_app a [] []
  rw [List.append_nil] at this
  rw [this]; rfl
theorem cmpI_zero : ∀ (a b : List Int), cmpI a b = 0 → a = b
  | [], [], _ => rfl
  | [], _ :: _, h => absurd h (by rw [cmpI]; decide)
  | _ :: _, [], h => absurd h (by rw [cmpI]; decide)
  | x :: a, y :: b, h => by
    rcases Int.lt_trichotomy x y with c | c | c
    · rw [cmpI_lt _ _ _ _ c] at h; exact absurd h (by decide)
    · subst c
      rw [cmpI_eq] at h
      rw [cmpI_zero a b h]
    · rw [cmpI_gt _ _ _ _ c] at h; exact absurd h (by decide)

/-! ### the library's orders of bytes -/
theorem compare_less : ∀ a b : List UInt8, Lib.compareBytes a b = if Op.bytesLess a b = true then -1 else if (a == b) = true then 0 else 1
  | [], [] => by simp [Lib.compareBytes, Op.bytesLess]
  | [], _ :: _ => by simp [Lib.compareBytes, Op.bytesLess]
  | _ :: _, [] => by simp [Lib.compareBytes, Op.bytesLess]
  | x :: a, y :: b => by
    have ih := compare_less a b
    rw [Lib.compareBytes, Op.bytesLess]
    by_cases c : x < y
    · simp [c]
    · by_cases d : y < x
      · have hne : x ≠ y := fun e => by subst e; exact c d
        simp [c, d, hne]
      · have he : x = y := by
          apply UInt8.toNat_inj.mp
          have h1 : ¬ x.toNat < y.toNat := fun z => c (UInt8.lt_iff_toNat_lt.mpr z)
          have h2 : ¬ y.toNat < x.toNat := fun z => d (UInt8.lt_iff_toNat_lt.mpr z)
          omega
        subst he
        rw [if_neg c, if_neg c, ih]
        simp [c]
theorem compare_swap : ∀ a b : List UInt8, Lib.compareBytes b a = - Lib.compareBytes a b
  | [], [] => rfl
  | [], _ :: _ => rfl
  | _ :: _, [] => rfl
  | x :: a, y :: b => by
    have ih := compare_swap a b
    rw [Lib.compareBytes, Lib.compareBytes]
    by_cases c : x < y
    · have d : ¬ y < x := fun z => by have h1 := UInt8.lt_iff_toNat_lt.mp c; have h2 := UInt8.lt_iff_toNat_lt.mp z; omega
      rw [if_neg d, if_pos c, if_pos c]; rfl
    · by_cases d : y < x
      · rw [if_pos d, if_neg c, if_pos d]
      · rw [if_neg d, if_neg c, if_neg c, if_neg d, ih]
theorem compare_zero : ∀ a b : List UInt8, Lib.compareBytes a b = 0 → a = b
  | [], [], _ => rfl
  | [], _ :: _, h => absurd h (by rw [Lib.compareBytes]; decide)
  | _ :: _, [], h => absurd h (by rw [Lib.compareBytes]; decide)
  | x :: a, y :: b, h => by
    rw [Lib.compareBytes] at h
    by_cases c : x < y
    · rw [if_pos c] at h; exact absurd h (by decide)
    · by_cases d : y < x
      · rw [if_neg c, if_pos d] at h; exact absurd h (by decide)
      · rw [if_neg c, if_neg d] at h
        have he : x = y := by
          apply UInt8.toNat_inj.mp
          have h1 : ¬ x.toNat < y.toNat := fun z => c (UInt8.lt_iff_toNat_lt.mpr z)
          have h2 : ¬ y.toNat < x.toNat := fun z => d (UInt8.lt_iff_toNat_lt.mpr z)
          omega
        rw [he, compare_zero a b h]
theorem compare_three (a b : List UInt8) : Lib.compareBytes a b = -1 ∨ Lib.compareBytes a b = 0 ∨ Lib.compareBytes a b = 1 := by
  rw [compare_less]
  split
  · exact .inl rfl
  · split
    · exact .inr (.inl rfl)
    · exact .inr (.inr rfl)

/-! ### parts -/
theorem kPart_three (x y : S31) : kPart x y = -1 ∨ kPart x y = 0 ∨ kPart x y = 1 := by
  unfold kPart
  split
  · split
    · exact .inr (.inr rfl)
    · exact .inl rfl
  · split
    · exact compare_three _ _
    · split
      · exact .inl rfl
      · split
        · exact .inr (.inr rfl)
        · exact .inr (.inl rfl)
theorem kPart_swap (x y : S31) : kPart y x = - kPart x y := by
  obtain ⟨a, s, n⟩ := x
  obtain ⟨b, t, m⟩ := y
  cases a <;> cases b
  · show (if m < n then -1 else if n < m then 1 else 0) = - (if n < m then -1 else if m < n then 1 else 0)
    rcases Int.lt_trichotomy n m with c | c | c
    · rw [if_neg (by omega), if_pos c, if_pos c]; rfl
    · subst c; rw [if_neg (by omega), if_neg (by omega)]; rfl
    · rw [if_pos c, if_neg (by omega), if_pos c]
  · rfl
  · rfl
  · exact compare_swap s.data.toList t.data.toList
theorem kCmp_three : ∀ a b : List S31, kCmp a b = -1 ∨ kCmp a b = 0 ∨ kCmp a b = 1
  | [], [] => .inr (.inl rfl)
  | [], _ :: _ => .inl rfl
  | _ :: _, [] => .inr (.inr rfl)
  | x :: a, y :: b => by
    rw [kCmp]
    split
    · exact kCmp_three a b
    · exact kPart_three x y
theorem kCmp_swap : ∀ a b : List S31, kCmp b a = - kCmp a b
  | [], [] => rfl
  | [], _ :: _ => rfl
  | _ :: _, [] => rfl
  | x :: a, y :: b => by
    have ih := kCmp_swap a b
    have hs := kPart_swap x y
    rw [kCmp, kCmp]
    by_cases c : kPart x y = 0
    · rw [if_pos c, if_pos (by omega), ih]
    · rw [if_neg c, if_neg (by omega), hs]
theorem refPart_toRef (x y : S31) : refPart (toRef x) (toRef y) = kPart x y := by
  obtain ⟨a, s, n⟩ := x
  obtain ⟨b, t, m⟩ := y
  cases a <;> cases b
  · rfl
  · rfl
  · rfl
  · show (if Op.bytesLess s.toList t.toList = true then -1 else if (s.toList == t.toList) = true then 0 else 1) = Lib.compareBytes s.data.toList t.data.toList
    rw [compare_less, ByteArray.toList_eq, ByteArray.toList_eq]

/-! ### the bytes' order is the parts' -/
theorem escI_cons8 (b : UInt8) (l : List UInt8) : escI (b :: l) = (if b = 0 then [0, 255] else [(b.toNat : Int)]) ++ escI l := by simp [escI]
theorem pos8 (c : UInt8) (h : ¬ c = 0) : (0 : Int) < (c.toNat : Int) := by
  have : ¬ c.toNat = 0 := fun z => h (UInt8.toNat_inj.mp (by simpa using z))
  omega
theorem cmpI_txt : ∀ (s t : List UInt8) (r r' : List Int), cmpI (escI s ++ 0 :: 1 :: r) (escI t ++ 0 :: 1 :: r') = if Lib.compareBytes s t = 0 then cmpI r r' else Lib.compareBytes s t
  | [], [], r, r' => by
    show cmpI (0 :: 1 :: r) (0 :: 1 :: r') = cmpI r r'
    rw [cmpI_eq, cmpI_eq]
  | [], c :: t, r, r' => by
    rw [escI_cons8]
    show cmpI (0 :: 1 :: r) _ = -1
    by_cases h : c = 0
    · rw [if_pos h]
      show cmpI (0 :: 1 :: r) (0 :: 255 :: _) = -1
      rw [cmpI_eq, cmpI_lt _ _ _ _ (by decide)]
    · rw [if_neg h]
      show cmpI (0 :: 1 :: r) ((c.toNat : Int) :: _) = -1
      rw [cmpI_lt _ _ _ _ (pos8 c h)]
  | b :: s, [], r, r' => by
    rw [escI_cons8]
    show cmpI _ (0 :: 1 :: r') = 1
    by_cases h : b = 0
    · rw [if_pos h]
      show cmpI (0 :: 255 :: _) (0 :: 1 :: r') = 1
      rw [cmpI_eq, cmpI_gt _ _ _ _ (by decide)]
    · rw [if_neg h]
      show cmpI ((b.toNat : Int) :: _) (0 :: 1 :: r') = 1
      rw [cmpI_gt _ _ _ _ (pos8 b h)]
  | b :: s, c :: t, r, r' => by
    have ih := cmpI_txt s t r r'
    rw [escI_cons8, escI_cons8, Lib.compareBytes]
    have hlt : b < c → cmpI ((if b = 0 then [0, 255] else [(b.toNat : Int)]) ++ escI s ++ 0 :: 1 :: r) ((if c = 0 then [0, 255] else [(c.toNat : Int)]) ++ escI t ++ 0 :: 1 :: r') = -1 := fun h => by
      have hn := UInt8.lt_iff_toNat_lt.mp h
      have hc : ¬ c = 0 := fun z => by rw [z] at hn; exact absurd hn (Nat.not_lt_zero _)
      rw [if_neg hc]
      by_cases hb : b = 0
      · rw [if_pos hb]
        exact cmpI_lt _ _ _ _ (pos8 c hc)
      · rw [if_neg hb]
        exact cmpI_lt _ _ _ _ (by omega)
    have hgt : c < b → cmpI ((if b = 0 then [0, 255] else [(b.toNat : Int)]) ++ escI s ++ 0 :: 1 :: r) ((if c = 0 then [0, 255] else [(c.toNat : Int)]) ++ escI t ++ 0 :: 1 :: r') = 1 := fun h => by
      have hn := UInt8.lt_iff_toNat_lt.mp h
      have hb : ¬ b = 0 := fun z => by rw [z] at hn; exact absurd hn (Nat.not_lt_zero _)
      rw [if_neg hb]
      by_cases hc : c = 0
      · rw [if_pos hc]
        exact cmpI_gt _ _ _ _ (pos8 b hb)
      · rw [if_neg hc]
        exact cmpI_gt _ _ _ _ (by omega)
    by_cases h1 : b < c
    · rw [if_pos h1, hlt h1]; rfl
    · by_cases h2 : c < b
      · rw [if_neg h1, if_pos h2, hgt h2]; rfl
      · rw [if_neg h1, if_neg h2]
        have he : b = c := by
          apply UInt8.toNat_inj.mp
          have g1 : ¬ b.toNat < c.toNat := fun z => h1 (UInt8.lt_iff_toNat_lt.mpr z)
          have g2 : ¬ c.toNat < b.toNat := fun z => h2 (UInt8.lt_iff_toNat_lt.mpr z)
          omega
        subst he
        rw [List.append_assoc, List.append_assoc, cmpI_app, ih]
theorem be8_lt (N M : Int) (r r' : List Int) (h0 : 0 ≤ N) (h1 : N < M) (h2 : M < 18446744073709551616) : cmpI (be8 N ++ r) (be8 M ++ r') = -1 := by
  unfold be8
  simp only [List.cons_append, List.nil_append]
  by_cases c0 : N / 72057594037927936 % 256 < M / 72057594037927936 % 256
  · exact cmpI_lt _ _ _ _ c0
  have e0 : N / 72057594037927936 % 256 = M / 72057594037927936 % 256 := by omega
  rw [e0, cmpI_eq]
  by_cases c1 : N / 281474976710656 % 256 < M / 281474976710656 % 256
  · exact cmpI_lt _ _ _ _ c1
  have e1 : N / 281474976710656 % 256 = M / 281474976710656 % 256 := by omega
  rw [e1, cmpI_eq]
  by_cases c2 : N / 1099511627776 % 256 < M / 1099511627776 % 256
  · exact cmpI_lt _ _ _ _ c2
  have e2 : N / 1099511627776 % 256 = M / 1099511627776 % 256 := by omega
  rw [e2, cmpI_eq]
  by_cases c3 : N / 4294967296 % 256 < M / 4294967296 % 256
  · exact cmpI_lt _ _ _ _ c3
  have e3 : N / 4294967296 % 256 = M / 4294967296 % 256 := by omega
  rw [e3, cmpI_eq]
  by_cases c4 : N / 16777216 % 256 < M / 16777216 % 256
  · exact cmpI_lt _ _ _ _ c4
  have e4 : N / 16777216 % 256 = M / 16777216 % 256 := by omega
  rw [e4, cmpI_eq]
  by_cases c5 : N / 65536 % 256 < M / 65536 % 256
  · exact cmpI_lt _ _ _ _ c5
  have e5 : N / 65536 % 256 = M / 65536 % 256 := by omega
  rw [e5, cmpI_eq]
  by_cases c6 : N / 256 % 256 < M / 256 % 256
  · exact cmpI_lt _ _ _ _ c6
  have e6 : N / 256 % 256 = M / 256 % 256 := by omega
  rw [e6, cmpI_eq]
  exact cmpI_lt _ _ _ _ (by omega)
theorem cmpI_swap : ∀ a b : List Int, cmpI b a = - cmpI a b
  | [], [] => rfl
  | [], _ :: _ => rfl
  | _ :: _, [] => rfl
  | x :: a, y :: b => by
    have ih := cmpI_swap a b
    rcases Int.lt_trichotomy x y with c | c | c
    · rw [cmpI_lt _ _ _ _ c, cmpI_gt _ _ _ _ c]; rfl
    · subst c; rw [cmpI_eq, cmpI_eq, ih]
    · rw [cmpI_lt _ _ _ _ c, cmpI_gt _ _ _ _ c]
def In64q (p : S31) : Prop := -9223372036854775808 ≤ p.f2 ∧ p.f2 ≤ 9223372036854775807
theorem topN_lt_iff (n m : Int) (hn : -9223372036854775808 ≤ n ∧ n ≤ 9223372036854775807) (hm : -9223372036854775808 ≤ m ∧ m ≤ 9223372036854775807) (h : n < m) : 0 ≤ topN n ∧ topN n < topN m ∧ topN m < 18446744073709551616 := by
  unfold topN; omega
theorem cmpI_part (p q : S31) (hp : In64q p) (hq : In64q q) (r r' : List Int) : cmpI (kbp p ++ r) (kbp q ++ r') = if kPart p q = 0 then cmpI r r' else kPart p q := by
  obtain ⟨a, s, n⟩ := p
  obtain ⟨b, t, m⟩ := q
  cases a <;> cases b
  · show cmpI (1 :: (be8 (topN n) ++ r)) (1 :: (be8 (topN m) ++ r')) = if (if n < m then (-1 : Int) else if m < n then 1 else 0) = 0 then cmpI r r' else if n < m then -1 else if m < n then 1 else 0
    rw [cmpI_eq]
    rcases Int.lt_trichotomy n m with c | c | c
    · obtain ⟨g0, g1, g2⟩ := topN_lt_iff n m hp hq c
      have hv : (if n < m then (-1 : Int) else if m < n then 1 else 0) = -1 := if_pos c
      rw [be8_lt _ _ _ _ g0 g1 g2, hv]; rfl
    · subst c
      have hv : (if n < n then (-1 : Int) else if n < n then 1 else 0) = 0 := by rw [if_neg (by omega), if_neg (by omega)]
      rw [cmpI_app, hv, if_pos rfl]
    · obtain ⟨g0, g1, g2⟩ := topN_lt_iff m n hq hp c
      have hv : (if n < m then (-1 : Int) else if m < n then 1 else 0) = 1 := by rw [if_neg (by omega), if_pos c]
      rw [cmpI_swap, be8_lt _ _ _ _ g0 g1 g2, hv]; rfl
  · exact cmpI_lt 1 2 _ _ (by decide)
  · exact cmpI_gt 2 1 _ _ (by decide)
  · show cmpI (2 :: (escI s.data.toList ++ [0, 1] ++ r)) (2 :: (escI t.data.toList ++ [0, 1] ++ r')) = _
    rw [cmpI_eq, List.append_assoc, List.append_assoc]
    exact cmpI_txt s.data.toList t.data.toList r r'
theorem kbp_cons (p : S31) : ∃ x l, kbp p = x :: l := by
  unfold kbp kb
  split
  · exact ⟨_, _, rfl⟩
  · exact ⟨_, _, rfl⟩
theorem cmpI_key : ∀ (a b : List S31), (∀ p ∈ a, In64q p) → (∀ p ∈ b, In64q p) → cmpI (a.flatMap kbp) (b.flatMap kbp) = kCmp a b
  | [], [], _, _ => rfl
  | [], q :: b, _, _ => by
    obtain ⟨x, l, e⟩ := kbp_cons q
    rw [List.flatMap_cons, e]; rfl
  | p :: a, [], _, _ => by
    obtain ⟨x, l, e⟩ := kbp_cons p
    rw [List.flatMap_cons, e]; rfl
  | p :: a, q :: b, ha, hb => by
    rw [List.flatMap_cons, List.flatMap_cons, cmpI_part p q (ha p (by simp)) (hb q (by simp)), cmpI_key a b (fun z hz => ha z (by simp [hz])) (fun z hz => hb z (by simp [hz])), kCmp]
/-- Bytes begin with others' just if the parts do. -/
theorem begins_key : ∀ (a b : List S31), (∀ p ∈ a, In64q p) → (∀ p ∈ b, In64q p) → ((∃ z, b.flatMap kbp = a.flatMap kbp ++ z) ↔ (a.length ≤ b.length ∧ kCmp a (b.take a.length) = 0))
  | [], b, _, _ => by simp [kCmp]
  | p :: a, [], _, _ => by
    obtain ⟨x, l, e⟩ := kbp_cons p
    rw [List.flatMap_cons, e]
    simp
  | p :: a, q :: b, ha, hb => by
    have ih := begins_key a b (fun z hz => ha z (by simp [hz])) (fun z hz => hb z (by simp [hz]))
    have hpq := cmpI_part p q (ha p (by simp)) (hb q (by simp))
    rw [List.length_cons, List.length_cons, List.take_succ_cons, kCmp, List.flatMap_cons, List.flatMap_cons]
    constructor
    · rintro ⟨z, e⟩
      have h1 := hpq (a.flatMap kbp ++ z) (b.flatMap kbp)
      rw [← List.append_assoc, ← e, cmpI_self] at h1
      by_cases c : kPart p q = 0
      · rw [if_pos c] at h1
        have h2 := ih.mp ⟨z, (cmpI_zero _ _ h1.symm).symm⟩
        rw [if_pos c]
        exact ⟨by omega, h2.2⟩
      · rw [if_neg c] at h1
        exact absurd h1.symm c
    · rintro ⟨h1, h2⟩
      by_cases c : kPart p q = 0
      · rw [if_pos c] at h2
        obtain ⟨z, e⟩ := ih.mpr ⟨by omega, h2⟩
        have h3 := hpq [] []
        rw [if_pos c, List.append_nil, List.append_nil] at h3
        have h4 := cmpI_zero _ _ h3
        exact ⟨z, by rw [e, h4, List.append_assoc]⟩
      · rw [if_neg c] at h2
        exact absurd h2 c

/-! ### the document's Cmp -/
theorem refCmp_l0 (a b : List S31) (ha : a.length < 4611686018427387904) (hb : b.length < 4611686018427387904) : ∀ (m i : Nat), a.length - i = m → i ≤ a.length → i ≤ b.length →
    Ev (fun k => rhizomeref01_Cmp.l0 k (a.map toRef) (b.map toRef) (i : Int)) (kCmp (a.drop i) (b.drop i))
  | 0, i, hm, hi, hj => by
    have hla : (a.map toRef).length = a.length := List.length_map _
    have hlb : (b.map toRef).length = b.length := List.length_map _
    rw [List.drop_eq_nil_of_le (by omega), kCmp_left]
    refine Ev.step (f := fun k => rhizomeref01_Cmp.j1 k (a.map toRef) (b.map toRef) (i : Int) false) (fun k => by rw [rhizomeref01_Cmp.l0, if_neg (by omega)]) ?_
    by_cases c : b.drop i = []
    · have hl := congrArg List.length c
      rw [List.length_drop, List.length_nil] at hl
      rw [if_pos c]
      exact Ev.step (f := fun _ => some 0) (fun k => by rw [rhizomeref01_Cmp.j1, if_neg (by decide), if_neg (by omega), if_neg (by omega)]) (Ev.now _)
    · have hl := List.length_pos_iff.mpr c
      rw [List.length_drop] at hl
      rw [if_neg c]
      exact Ev.step (f := fun _ => some (-1)) (fun k => by rw [rhizomeref01_Cmp.j1, if_neg (by decide), if_pos (by omega)]) (Ev.now _)
  | m + 1, i, hm, hi, hj => by
    have hla : (a.map toRef).length = a.length := List.length_map _
    have hlb : (b.map toRef).length = b.length := List.length_map _
    rw [rd31_at a i (by omega)]
    by_cases c : i < b.length
    · have ih := refCmp_l0 a b ha hb m (i + 1) (by omega) (by omega) (by omega)
      rw [rd31_at b i c, kCmp]
      have h1 := rd56_map a i (by omega)
      have h2 := rd56_map b i c
      obtain ⟨p, hp⟩ : ∃ p, rd_T31 a (i : Int) = p := ⟨_, rfl⟩
      obtain ⟨q, hq⟩ : ∃ q, rd_T31 b (i : Int) = q := ⟨_, rfl⟩
      rw [hp] at h1 ⊢
      rw [hq] at h2 ⊢
      have hj1 : ∀ k, rhizomeref01_Cmp.j1 (k + 1) (a.map toRef) (b.map toRef) (i : Int) true = if kPart p q = 0 then rhizomeref01_Cmp.l0 k (a.map toRef) (b.map toRef) ((i + 1 : Nat) : Int) else some (kPart p q) := fun k => by
        rw [rhizomeref01_Cmp.j1, if_pos rfl, if_pos (by omega), if_pos (by omega), if_pos (by omega), h1, h2]
        show (some (refPart (toRef p) (toRef q))).bind _ = _
        rw [Option.bind_some, refPart_toRef, wrap_succ i (by omega)]
      refine Ev.step (f := fun k => rhizomeref01_Cmp.j1 k (a.map toRef) (b.map toRef) (i : Int) true) (fun k => by rw [rhizomeref01_Cmp.l0, if_pos (by omega), decide_eq_true (by omega)]) ?_
      by_cases d : kPart p q = 0
      · rw [if_pos d]
        exact Ev.step (fun k => by rw [hj1, if_pos d]) ih
      · rw [if_neg d]
        exact Ev.step (f := fun _ => some (kPart p q)) (fun k => by rw [hj1, if_neg d]) (Ev.now _)
    · rw [List.drop_eq_nil_of_le (by omega : b.length ≤ i), kCmp]
      refine Ev.step (f := fun k => rhizomeref01_Cmp.j1 k (a.map toRef) (b.map toRef) (i : Int) false) (fun k => by rw [rhizomeref01_Cmp.l0, if_pos (by omega), decide_eq_false (by omega)]) ?_
      exact Ev.step (f := fun _ => some 1) (fun k => by rw [rhizomeref01_Cmp.j1, if_neg (by decide), if_neg (by omega), if_pos (by omega)]) (Ev.now _)
theorem refCmp_ev (a b : List S31) (ha : a.length < 4611686018427387904) (hb : b.length < 4611686018427387904) : Ev (fun k => rhizomeref01_Cmp.f k (a.map toRef) (b.map toRef)) (kCmp a b) :=
  refCmp_l0 a b ha hb a.length 0 (by omega) (by omega) (by omega)
theorem refSame_ev (a b : List S31) (ha : a.length < 4611686018427387904) (hb : b.length < 4611686018427387904) : Ev (fun k => rhizomeref01_Same.f k (a.map toRef) (b.map toRef)) (decide (a.length = b.length) && (kCmp a b == 0)) := by
  unfold rhizomeref01_Same.f
  rw [List.length_map, List.length_map]
  by_cases c : a.length = b.length
  · rw [decide_eq_true c, Bool.true_and]
    simp only [c, if_true]
    exact Ev.bind (refCmp_ev a b ha hb) (Ev.now _)
  · rw [decide_eq_false c, Bool.false_and]
    refine Ev.congr (fun k => ?_) (Ev.now _)
    exact if_neg (by omega)
end Go.Proofs.YtamaoileeipgeaaDoor.XKey
