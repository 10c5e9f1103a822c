/- Key: bytes in order, plain (cut out of Code8 and Code9). -/
import Derived.Test.YtamaoileeipgeaaDoorKS
namespace Go.Proofs.YtamaoileeipgeaaDoor.KeyP
open Go Go.RowKit Go.Proofs.YtamaoileeipgeaaDoorW.PrintWords Go.Proofs.YtamaoileeipgeaaDoorW.PrintLast Go.Proofs.YtamaoileeipgeaaDoorW.PrintMore Go.Proofs.YtamaoileeipgeaaDoor.XKey Go.Proofs.YtamaoileeipgeaaDoor
set_option linter.unusedVariables false
set_option linter.unusedSimpArgs false

/-- The order of rows of numbers. -/
def cmpI : List Int → List Int → Int
  | [], [] => 0
  | [], _ :: _ => -1
  | _ :: _, [] => 1
  | x :: a, y :: b => if x < y then -1 else if y < x then 1 else cmpI a b
theorem cmpI_lt (x y : Int) (a b : List Int) (h : x < y) : cmpI (x :: a) (y :: b) = -1 := by rw [cmpI, if_pos h]
theorem cmpI_gt (x y : Int) (a b : List Int) (h : y < x) : cmpI (x :: a) (y :: b) = 1 := by rw [cmpI, if_neg (by omega), if_pos h]
theorem cmpI_eq (x : Int) (a b : List Int) : cmpI (x :: a) (x :: b) = cmpI a b := by rw [cmpI, if_neg (by omega), if_neg (by omega)]
theorem cmpI_app : ∀ (p a b : List Int), cmpI (p ++ a) (p ++ b) = cmpI a b
  | [], a, b => rfl
  | x :: p, a, b => by rw [List.cons_append, List.cons_append, cmpI_eq, cmpI_app p a b]
theorem cmpI_self (a : List Int) : cmpI a a = 0 := by
  have := cmpI_app a [] []
  rw [List.append_nil] at this
  rw [this]; rfl
theorem cmpI_zero : ∀ (a b : List Int), cmpI a b = 0 → a = b
  | [], [], _ => rfl
  | [], _ :: _, h => absurd h (by rw [cmpI]; decide)
  | _ :: _, [], h => absurd h (by rw [cmpI]; decide)
  | x :: a, y :: b, h => by
    rcases Int.lt_trichotomy x y with c | c | c
    · rw [cmpI_lt _ _ _ _ c] at h; exact absurd h (by decide)
    · subst c
      rw [cmpI_eq] at h
      rw [cmpI_zero a b h]
    · rw [cmpI_gt _ _ _ _ c] at h; exact absurd h (by decide)

/-! ### the library's orders of bytes -/
theorem compare_less : ∀ a b : List UInt8, Lib.compareBytes a b = if Op.bytesLess a b = true then -1 else if (a == b) = true then 0 else 1
  | [], [] => by simp [Lib.compareBytes, Op.bytesLess]
  | [], _ :: _ => by simp [Lib.compareBytes, Op.bytesLess]
  | _ :: _, [] => by simp [Lib.compareBytes, Op.bytesLess]
  | x :: a, y :: b => by
    have ih := compare_less a b
    rw [Lib.compareBytes, Op.bytesLess]
    by_cases c : x < y
    · simp [c]
    · by_cases d : y < x
      · have hne : x ≠ y := fun e => by subst e; exact c d
        simp [c, d, hne]
      · have he : x = y := by
          apply UInt8.toNat_inj.mp
          have h1 : ¬ x.toNat < y.toNat := fun z => c (UInt8.lt_iff_toNat_lt.mpr z)
          have h2 : ¬ y.toNat < x.toNat := fun z => d (UInt8.lt_iff_toNat_lt.mpr z)
          omega
        subst he
        rw [if_neg c, if_neg c, ih]
        simp [c]
theorem compare_swap : ∀ a b : List UInt8, Lib.compareBytes b a = - Lib.compareBytes a b
  | [], [] => rfl
  | [], _ :: _ => rfl
  | _ :: _, [] => rfl
  | x :: a, y :: b => by
    have ih := compare_swap a b
    rw [Lib.compareBytes, Lib.compareBytes]
    by_cases c : x < y
    · have d : ¬ y < x := fun z => by have h1 := UInt8.lt_iff_toNat_lt.mp c; have h2 := UInt8.lt_iff_toNat_lt.mp z; omega
      rw [if_neg d, if_pos c, if_pos c]; rfl
    · by_cases d : y < x
      · rw [if_pos d, if_neg c, if_pos d]
      · rw [if_neg d, if_neg c, if_neg c, if_neg d, ih]
theorem compare_zero : ∀ a b : List UInt8, Lib.compareBytes a b = 0 → a = b
  | [], [], _ => rfl
  | [], _ :: _, h => absurd h (by rw [Lib.compareBytes]; decide)
  | _ :: _, [], h => absurd h (by rw [Lib.compareBytes]; decide)
  | x :: a, y :: b, h => by
    rw [Lib.compareBytes] at h
    by_cases c : x < y
    · rw [if_pos c] at h; exact absurd h (by decide)
    · by_cases d : y < x
      · rw [if_neg c, if_pos d] at h; exact absurd h (by decide)
      · rw [if_neg c, if_neg d] at h
        have he : x = y := by
          apply UInt8.toNat_inj.mp
          have h1 : ¬ x.toNat < y.toNat := fun z => c (UInt8.lt_iff_toNat_lt.mpr z)
          have h2 : ¬ y.toNat < x.toNat := fun z => d (UInt8.lt_iff_toNat_lt.mpr z)
          omega
        rw [he, compare_zero a b h]
theorem compare_three (a b : List UInt8) : Lib.compareBytes a b = -1 ∨ Lib.compareBytes a b = 0 ∨ Lib.compareBytes a b = 1 := by
  rw [compare_less]
  split
  · exact .inl rfl
  · split
    · exact .inr (.inl rfl)
    · exact .inr (.inr rfl)

theorem escI_cons8 (b : UInt8) (l : List UInt8) : escI (b :: l) = (if b = 0 then [0, 255] else [(b.toNat : Int)]) ++ escI l := by simp [escI]
theorem pos8 (c : UInt8) (h : ¬ c = 0) : (0 : Int) < (c.toNat : Int) := by
  have : ¬ c.toNat = 0 := fun z => h (UInt8.toNat_inj.mp (by simpa using z))
  omega
theorem cmpI_txt : ∀ (s t : List UInt8) (r r' : List Int), cmpI (escI s ++ 0 :: 1 :: r) (escI t ++ 0 :: 1 :: r') = if Lib.compareBytes s t = 0 then cmpI r r' else Lib.compareBytes s t
  | [], [], r, r' => by
    show cmpI (0 :: 1 :: r) (0 :: 1 :: r') = cmpI r r'
    rw [cmpI_eq, cmpI_eq]
  | [], c :: t, r, r' => by
    rw [escI_cons8]
    show cmpI (0 :: 1 :: r) _ = -1
    by_cases h : c = 0
    · rw [if_pos h]
      show cmpI (0 :: 1 :: r) (0 :: 255 :: _) = -1
      rw [cmpI_eq, cmpI_lt _ _ _ _ (by decide)]
    · rw [if_neg h]
      show cmpI (0 :: 1 :: r) ((c.toNat : Int) :: _) = -1
      rw [cmpI_lt _ _ _ _ (pos8 c h)]
  | b :: s, [], r, r' => by
    rw [escI_cons8]
    show cmpI _ (0 :: 1 :: r') = 1
    by_cases h : b = 0
    · rw [if_pos h]
      show cmpI (0 :: 255 :: _) (0 :: 1 :: r') = 1
      rw [cmpI_eq, cmpI_gt _ _ _ _ (by decide)]
    · rw [if_neg h]
      show cmpI ((b.toNat : Int) :: _) (0 :: 1 :: r') = 1
      rw [cmpI_gt _ _ _ _ (pos8 b h)]
  | b :: s, c :: t, r, r' => by
    have ih := cmpI_txt s t r r'
    rw [escI_cons8, escI_cons8, Lib.compareBytes]
    have hlt : b < c → cmpI ((if b = 0 then [0, 255] else [(b.toNat : Int)]) ++ escI s ++ 0 :: 1 :: r) ((if c = 0 then [0, 255] else [(c.toNat : Int)]) ++ escI t ++ 0 :: 1 :: r') = -1 := fun h => by
      have hn := UInt8.lt_iff_toNat_lt.mp h
      have hc : ¬ c = 0 := fun z => by rw [z] at hn; exact absurd hn (Nat.not_lt_zero _)
      rw [if_neg hc]
      by_cases hb : b = 0
      · rw [if_pos hb]
        exact cmpI_lt _ _ _ _ (pos8 c hc)
      · rw [if_neg hb]
        exact cmpI_lt _ _ _ _ (by omega)
    have hgt : c < b → cmpI ((if b = 0 then [0, 255] else [(b.toNat : Int)]) ++ escI s ++ 0 :: 1 :: r) ((if c = 0 then [0, 255] else [(c.toNat : Int)]) ++ escI t ++ 0 :: 1 :: r') = 1 := fun h => by
      have hn := UInt8.lt_iff_toNat_lt.mp h
      have hb : ¬ b = 0 := fun z => by rw [z] at hn; exact absurd hn (Nat.not_lt_zero _)
      rw [if_neg hb]
      by_cases hc : c = 0
      · rw [if_pos hc]
        exact cmpI_gt _ _ _ _ (pos8 b hb)
      · rw [if_neg hc]
        exact cmpI_gt _ _ _ _ (by omega)
    by_cases h1 : b < c
    · rw [if_pos h1, hlt h1]; rfl
    · by_cases h2 : c < b
      · rw [if_neg h1, if_pos h2, hgt h2]; rfl
      · rw [if_neg h1, if_neg h2]
        have he : b = c := by
          apply UInt8.toNat_inj.mp
          have g1 : ¬ b.toNat < c.toNat := fun z => h1 (UInt8.lt_iff_toNat_lt.mpr z)
          have g2 : ¬ c.toNat < b.toNat := fun z => h2 (UInt8.lt_iff_toNat_lt.mpr z)
          omega
        subst he
        rw [List.append_assoc, List.append_assoc, cmpI_app, ih]
theorem be8_lt (N M : Int) (r r' : List Int) (h0 : 0 ≤ N) (h1 : N < M) (h2 : M < 18446744073709551616) : cmpI (be8 N ++ r) (be8 M ++ r') = -1 := by
  unfold be8
  simp only [List.cons_append, List.nil_append]
  by_cases c0 : N / 72057594037927936 % 256 < M / 72057594037927936 % 256
  · exact cmpI_lt _ _ _ _ c0
  have e0 : N / 72057594037927936 % 256 = M / 72057594037927936 % 256 := by omega
  rw [e0, cmpI_eq]
  by_cases c1 : N / 281474976710656 % 256 < M / 281474976710656 % 256
  · exact cmpI_lt _ _ _ _ c1
  have e1 : N / 281474976710656 % 256 = M / 281474976710656 % 256 := by omega
  rw [e1, cmpI_eq]
  by_cases c2 : N / 1099511627776 % 256 < M / 1099511627776 % 256
  · exact cmpI_lt _ _ _ _ c2
  have e2 : N / 1099511627776 % 256 = M / 1099511627776 % 256 := by omega
  rw [e2, cmpI_eq]
  by_cases c3 : N / 4294967296 % 256 < M / 4294967296 % 256
  · exact cmpI_lt _ _ _ _ c3
  have e3 : N / 4294967296 % 256 = M / 4294967296 % 256 := by omega
  rw [e3, cmpI_eq]
  by_cases c4 : N / 16777216 % 256 < M / 16777216 % 256
  · exact cmpI_lt _ _ _ _ c4
  have e4 : N / 16777216 % 256 = M / 16777216 % 256 := by omega
  rw [e4, cmpI_eq]
  by_cases c5 : N / 65536 % 256 < M / 65536 % 256
  · exact cmpI_lt _ _ _ _ c5
  have e5 : N / 65536 % 256 = M / 65536 % 256 := by omega
  rw [e5, cmpI_eq]
  by_cases c6 : N / 256 % 256 < M / 256 % 256
  · exact cmpI_lt _ _ _ _ c6
  have e6 : N / 256 % 256 = M / 256 % 256 := by omega
  rw [e6, cmpI_eq]
  exact cmpI_lt _ _ _ _ (by omega)
theorem cmpI_swap : ∀ a b : List Int, cmpI b a = - cmpI a b
  | [], [] => rfl
  | [], _ :: _ => rfl
  | _ :: _, [] => rfl
  | x :: a, y :: b => by
    have ih := cmpI_swap a b
    rcases Int.lt_trichotomy x y with c | c | c
    · rw [cmpI_lt _ _ _ _ c, cmpI_gt _ _ _ _ c]; rfl
    · subst c; rw [cmpI_eq, cmpI_eq, ih]
    · rw [cmpI_lt _ _ _ _ c, cmpI_gt _ _ _ _ c]
theorem topN_lt_iff (n m : Int) (hn : -9223372036854775808 ≤ n ∧ n ≤ 9223372036854775807) (hm : -9223372036854775808 ≤ m ∧ m ≤ 9223372036854775807) (h : n < m) : 0 ≤ topN n ∧ topN n < topN m ∧ topN m < 18446744073709551616 := by
  unfold topN; omega
theorem kbB (t : Bool) (s : ByteArray) (n : Int) : IsB (kb t s n) := by
  intro x hx
  unfold kb at hx
  split at hx
  · rcases List.mem_cons.mp hx with rfl | hx
    · omega
    · rcases List.mem_append.mp hx with hx | hx
      · obtain ⟨b, _, hb⟩ := List.mem_flatMap.mp hx
        split at hb
        · simp at hb; omega
        · have := b.toNat_lt
          simp at hb; omega
      · simp at hx; omega
  · simp [be8] at hx
    omega
theorem flatB (ps : List S31) : IsB (ps.flatMap kbp) := fun x hx => by
  obtain ⟨p, _, h⟩ := List.mem_flatMap.mp hx
  exact kbB _ _ _ x h
theorem b8_toNat (x : Int) (h0 : 0 ≤ x) (h1 : x < 256) : (b8 x).toNat = x.toNat := by simp [b8]; omega
theorem less_cmpI : ∀ (A B : List Int), IsB A → IsB B → Op.bytesLess (A.map b8) (B.map b8) = decide (cmpI A B < 0)
  | [], [], _, _ => rfl
  | [], _ :: _, _, _ => rfl
  | _ :: _, [], _, _ => rfl
  | x :: A, y :: B, ha, hb => by
    have ih := less_cmpI A B (fun z hz => ha z (by simp [hz])) (fun z hz => hb z (by simp [hz]))
    obtain ⟨x0, x1⟩ := ha x (by simp)
    obtain ⟨y0, y1⟩ := hb y (by simp)
    have ex := b8_toNat x x0 x1
    have ey := b8_toNat y y0 y1
    rw [List.map_cons, List.map_cons, Op.bytesLess, ih]
    rcases Int.lt_trichotomy x y with c | c | c
    · have h : b8 x < b8 y := UInt8.lt_iff_toNat_lt.mpr (by omega)
      rw [cmpI_lt _ _ _ _ c, decide_eq_true h]; rfl
    · subst c
      have h : ¬ b8 x < b8 x := fun z => by have := UInt8.lt_iff_toNat_lt.mp z; omega
      rw [cmpI_eq, decide_eq_false h, beq_self_eq_true, Bool.false_or, Bool.true_and]
    · have h : ¬ b8 x < b8 y := fun z => by have := UInt8.lt_iff_toNat_lt.mp z; omega
      have hn : (b8 x == b8 y) = false := beq_false_of_ne (fun z => by have := congrArg UInt8.toNat z; omega)
      rw [cmpI_gt _ _ _ _ c, decide_eq_false h, hn]; rfl
theorem b8_inj : ∀ (A B : List Int), IsB A → IsB B → A.map b8 = B.map b8 → A = B
  | [], [], _, _, _ => rfl
  | [], _ :: _, _, _, h => by cases h
  | _ :: _, [], _, _, h => by cases h
  | x :: A, y :: B, ha, hb, h => by
    obtain ⟨x0, x1⟩ := ha x (by simp)
    obtain ⟨y0, y1⟩ := hb y (by simp)
    have ex := b8_toNat x x0 x1
    have ey := b8_toNat y y0 y1
    rw [List.map_cons, List.map_cons] at h
    obtain ⟨h1, h2⟩ := List.cons.inj h
    have := congrArg UInt8.toNat h1
    rw [b8_inj A B (fun z hz => ha z (by simp [hz])) (fun z hz => hb z (by simp [hz])) h2, show x = y from by omega]
theorem encOk : ∀ (ps : List S31) (acc : List Int), encK acc ps = ([], 3) ∨ encK acc ps = (acc ++ ps.flatMap kbp, 0)
  | [], acc => .inr (by simp [encK])
  | p :: ps, acc => by
    rw [encK]
    split
    · exact .inl rfl
    · split
      · exact .inl rfl
      · have := encOk ps (acc ++ kbp p)
        rw [List.append_assoc] at this
        exact this
/-- The bytes of a key with one part more. -/
def encX (l : List S31) (p : S31) : List Int := (encK [] (l ++ [p])).1
theorem encX_eq (l : List S31) (p : S31) : encX l p = [] ∨ encX l p = l.flatMap kbp ++ kbp p := by
  unfold encX
  rcases encOk (l ++ [p]) [] with h | h
  · rw [h]; exact .inl rfl
  · rw [h]; exact .inr (by simp)
theorem encX_B (l : List S31) (p : S31) : IsB (encX l p) := by
  rcases encX_eq l p with h | h
  · rw [h]; intro x hx; cases hx
  · rw [h]; intro x hx
    rcases List.mem_append.1 hx with h | h
    · exact flatB l x h
    · exact kbB _ _ _ x h
theorem less_X {l : List S31} {p q : S31} (hp : 0 < (encX l p).length) (hq : 0 < (encX l q).length) : Op.bytesLess ((encX l p).map b8) ((encX l q).map b8) = decide (cmpI (kbp p) (kbp q) < 0) := by
  rw [less_cmpI _ _ (encX_B l p) (encX_B l q)]
  rcases encX_eq l p with h | h
  · rw [h] at hp; cases hp
  rcases encX_eq l q with h2 | h2
  · rw [h2] at hq; cases hq
  rw [h, h2, cmpI_app]
theorem less_num {n m : Int} (hn : -9223372036854775808 ≤ n ∧ n ≤ 9223372036854775807) (hm : -9223372036854775808 ≤ m ∧ m ≤ 9223372036854775807) (s t : ByteArray) : decide (cmpI (kbp ⟨false, s, n⟩) (kbp ⟨false, t, m⟩) < 0) = decide (n < m) := by
  show decide (cmpI (1 :: be8 (topN n)) (1 :: be8 (topN m)) < 0) = _
  rw [cmpI_eq]
  have e : ∀ N : Int, be8 N = be8 N ++ [] := fun N => (List.append_nil _).symm
  rw [e (topN n), e (topN m)]
  rcases Int.lt_trichotomy n m with c | c | c
  · obtain ⟨g0, g1, g2⟩ := topN_lt_iff n m hn hm c
    rw [be8_lt _ _ _ _ g0 g1 g2, decide_eq_true c]; rfl
  · subst c
    rw [cmpI_self, decide_eq_false (by omega : ¬ n < n)]; rfl
  · obtain ⟨g0, g1, g2⟩ := topN_lt_iff m n hm hn c
    rw [cmpI_swap, be8_lt _ _ _ _ g0 g1 g2, decide_eq_false (by omega : ¬ n < m)]; rfl
theorem less_txt (s t : ByteArray) (n m : Int) : decide (cmpI (kbp ⟨true, s, n⟩) (kbp ⟨true, t, m⟩) < 0) = Op.bytesLess s.data.toList t.data.toList := by
  show decide (cmpI (2 :: (escI s.data.toList ++ [0, 1])) (2 :: (escI t.data.toList ++ [0, 1])) < 0) = _
  rw [cmpI_eq, cmpI_txt s.data.toList t.data.toList [] [], compare_less]
  by_cases h : Op.bytesLess s.data.toList t.data.toList = true
  · simp [h]
  · by_cases h2 : (s.data.toList == t.data.toList) = true
    · simp only [if_neg h, if_pos h2]
      rw [Bool.eq_false_iff.2 h]; rfl
    · simp only [if_neg h, if_neg h2]
      rw [Bool.eq_false_iff.2 h]; rfl
theorem less_kinds (s t : ByteArray) (n m : Int) : decide (cmpI (kbp ⟨false, s, n⟩) (kbp ⟨true, t, m⟩) < 0) = true := by
  show decide (cmpI (1 :: be8 (topN n)) (2 :: (escI t.data.toList ++ [0, 1])) < 0) = true
  rw [cmpI_lt _ _ _ _ (by decide)]; rfl
end Go.Proofs.YtamaoileeipgeaaDoor.KeyP
