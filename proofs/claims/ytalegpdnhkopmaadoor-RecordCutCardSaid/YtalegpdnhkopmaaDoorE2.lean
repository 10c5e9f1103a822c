/- Keys as bytes, plain. -/
import Derived.Test.YtalegpdnhkopmaaDoorE0
namespace Go.Proofs.YtalegpdnhkopmaaDoor.Ky
open Go Go.V Go.RowKit
open Go.Proofs.YtalegpdnhkopmaaDoor.By
set_option linter.unusedVariables false
set_option linter.unusedSimpArgs false

/-- A part of a key. -/
structure Pt where
  t : Bool
  s : ByteArray
  n : Int
abbrev pcell (p : Pt) : List Value := [.bool p.t, .string p.s, .int .i64 p.n]
/-- A number's bytes, the greatest first. -/
def be8 (N : Int) : List Int := [N / 72057594037927936 % 256, N / 281474976710656 % 256, N / 1099511627776 % 256, N / 4294967296 % 256, N / 16777216 % 256, N / 65536 % 256, N / 256 % 256, N % 256]
def topN (n : Int) : Int := (n + 9223372036854775808) % 18446744073709551616
def b8 (x : Int) : UInt8 := UInt8.ofNat x.toNat
def esc (l : Bs) : Bs := l.flatMap fun b => if b = 0 then [0, 255] else [b]
def kn (n : Int) : Bs := 1 :: (be8 (topN n)).map b8
def ks (s : Bs) : Bs := 2 :: (esc s ++ [0, 1])
/-- A part's bytes. -/
def kb (p : Pt) : Bs := if p.t = true then ks p.s.data.toList else kn p.n
def Num (n : Int) : Pt := ⟨false, ByteArray.empty, n⟩
def Str (s : ByteArray) : Pt := ⟨true, s, 0⟩
def norm (p : Pt) : Pt := if p.t = true then Str p.s else Num p.n
/-- A key's bytes, if they aren't too long. -/
def encB (k : List Pt) : Option Bs := if (k.flatMap kb).length ≤ 200 then some (k.flatMap kb) else none

theorem b8_toNat (x : Int) (h0 : 0 ≤ x) (h1 : x < 256) : (b8 x).toNat = x.toNat := by simp [b8]; omega
theorem b8_U8 (x : Int) (h0 : 0 ≤ x) (h1 : x < 256) : U8 (b8 x) = .int .u8 x := by
  unfold U8; rw [b8_toNat x h0 h1, Int.toNat_of_nonneg h0]
theorem b8_lt (x y : Int) (h0 : 0 ≤ x) (h1 : x < y) (h2 : y < 256) : b8 x < b8 y := by
  rw [UInt8.lt_iff_toNat_lt, b8_toNat x h0 (by omega), b8_toNat y (by omega) h2]; omega
theorem b8_inj (x y : Int) (h0 : 0 ≤ x ∧ x < 256) (h1 : 0 ≤ y ∧ y < 256) (h : b8 x = b8 y) : x = y := by
  have := congrArg UInt8.toNat h
  rw [b8_toNat x h0.1 h0.2, b8_toNat y h1.1 h1.2] at this
  omega
def IsI (n : Int) : Prop := -9223372036854775808 ≤ n ∧ n ≤ 9223372036854775807
theorem kn_len (n : Int) : (kn n).length = 9 := rfl
theorem topN_mono {n m : Int} (hn : IsI n) (hm : IsI m) (h : n < m) : 0 ≤ topN n ∧ topN n < topN m ∧ topN m < 18446744073709551616 := by
  unfold topN IsI at *; omega
theorem dig_lt {x y : Int} {a b : Bs} (hx : 0 ≤ x) (hy : y < 256) (h : x < y) : lt8 (b8 x :: a) (b8 y :: b) := (lt8_cons _ _ _ _).2 (.inl (b8_lt _ _ hx h hy))
theorem dig_eq {x y : Int} {a b : Bs} (e : x = y) (h : lt8 a b) : lt8 (b8 x :: a) (b8 y :: b) := (lt8_cons _ _ _ _).2 (.inr ⟨by rw [e], h⟩)
/-- Digits of a row, in order. -/
theorem lex8 {A B : Int} {a b : Int} {r r' s s' : Bs} (ha : 0 ≤ a ∧ a < 256) (hb : 0 ≤ b ∧ b < 256) (m : Int) (hA : 0 ≤ A ∧ A < m) (hB : 0 ≤ B ∧ B < m) (h : a * m + A < b * m + B) (k : A < B → lt8 (s ++ r) (s' ++ r')) : lt8 (b8 a :: s ++ r) (b8 b :: s' ++ r') := by
  rcases Int.lt_trichotomy a b with c | c | c
  · exact dig_lt ha.1 hb.2 c
  · subst c
    exact dig_eq rfl (k (by omega))
  · have : b * m + m ≤ a * m := by
      have := Int.mul_le_mul_of_nonneg_right (show b + 1 ≤ a by omega) (show 0 ≤ m by omega)
      rw [Int.add_mul, Int.one_mul] at this
      exact this
    omega
theorem sp0 (N : Int) : N % 72057594037927936 = N / 281474976710656 % 256 * 281474976710656 + N % 281474976710656 := by omega
theorem sp1 (N : Int) : N % 281474976710656 = N / 1099511627776 % 256 * 1099511627776 + N % 1099511627776 := by omega
theorem sp2 (N : Int) : N % 1099511627776 = N / 4294967296 % 256 * 4294967296 + N % 4294967296 := by omega
theorem sp3 (N : Int) : N % 4294967296 = N / 16777216 % 256 * 16777216 + N % 16777216 := by omega
theorem sp4 (N : Int) : N % 16777216 = N / 65536 % 256 * 65536 + N % 65536 := by omega
theorem sp5 (N : Int) : N % 65536 = N / 256 % 256 * 256 + N % 256 := by omega
theorem spT (N : Int) (h0 : 0 ≤ N) (h : N < 18446744073709551616) : N = N / 72057594037927936 % 256 * 72057594037927936 + N % 72057594037927936 := by omega
theorem d256 (x : Int) : 0 ≤ x % 256 ∧ x % 256 < 256 := by omega
theorem m72057594037927936 (x : Int) : 0 ≤ x % 72057594037927936 ∧ x % 72057594037927936 < 72057594037927936 := by omega
theorem m281474976710656 (x : Int) : 0 ≤ x % 281474976710656 ∧ x % 281474976710656 < 281474976710656 := by omega
theorem m1099511627776 (x : Int) : 0 ≤ x % 1099511627776 ∧ x % 1099511627776 < 1099511627776 := by omega
theorem m4294967296 (x : Int) : 0 ≤ x % 4294967296 ∧ x % 4294967296 < 4294967296 := by omega
theorem m16777216 (x : Int) : 0 ≤ x % 16777216 ∧ x % 16777216 < 16777216 := by omega
theorem m65536 (x : Int) : 0 ≤ x % 65536 ∧ x % 65536 < 65536 := by omega
theorem be8_lt (N M : Int) (r r' : Bs) (h0 : 0 ≤ N) (h1 : N < M) (h2 : M < 18446744073709551616) : lt8 ((be8 N).map b8 ++ r) ((be8 M).map b8 ++ r') := by
  unfold be8
  simp only [List.map_cons, List.map_nil]
  refine lex8 (d256 _) (d256 _) 72057594037927936 (m72057594037927936 N) (m72057594037927936 M) (by rw [← spT N h0 (Int.lt_trans h1 h2), ← spT M (Int.le_of_lt (Int.lt_of_le_of_lt h0 h1)) h2]; exact h1) fun h => ?_
  rw [sp0 N, sp0 M] at h
  refine lex8 (d256 _) (d256 _) 281474976710656 (m281474976710656 N) (m281474976710656 M) h fun h => ?_
  rw [sp1 N, sp1 M] at h
  refine lex8 (d256 _) (d256 _) 1099511627776 (m1099511627776 N) (m1099511627776 M) h fun h => ?_
  rw [sp2 N, sp2 M] at h
  refine lex8 (d256 _) (d256 _) 4294967296 (m4294967296 N) (m4294967296 M) h fun h => ?_
  rw [sp3 N, sp3 M] at h
  refine lex8 (d256 _) (d256 _) 16777216 (m16777216 N) (m16777216 M) h fun h => ?_
  rw [sp4 N, sp4 M] at h
  refine lex8 (d256 _) (d256 _) 65536 (m65536 N) (m65536 M) h fun h => ?_
  rw [sp5 N, sp5 M] at h
  refine lex8 (d256 _) (d256 _) 256 (d256 N) (d256 M) h fun h => ?_
  exact dig_lt (d256 _).1 (d256 _).2 h
theorem kn_lt {n m : Int} (hn : IsI n) (hm : IsI m) (h : n < m) (r r' : Bs) : lt8 (kn n ++ r) (kn m ++ r') := by
  unfold kn
  rw [List.cons_append, List.cons_append, lt8_cons]
  obtain ⟨a, b, c⟩ := topN_mono hn hm h
  exact .inr ⟨rfl, be8_lt _ _ _ _ a b c⟩
/-- Numbers ahead of the rest. -/
theorem kn_iff {n m : Int} (hn : IsI n) (hm : IsI m) (r r' : Bs) : lt8 (kn n ++ r) (kn m ++ r') ↔ n < m ∨ n = m ∧ lt8 r r' := by
  rcases Int.lt_trichotomy n m with c | c | c
  · exact ⟨fun _ => .inl c, fun _ => kn_lt hn hm c _ _⟩
  · subst c; rw [lt8_app]; simp
  · exact ⟨fun h => (lt8_asymm h (kn_lt hm hn c _ _)).elim, fun h => by omega⟩
theorem kn_inj {n m : Int} (hn : IsI n) (hm : IsI m) {r r' : Bs} (h : kn n ++ r = kn m ++ r') : n = m ∧ r = r' := by
  have hnm : n = m := by
    rcases Int.lt_trichotomy n m with c | c | c
    · have := kn_lt hn hm c r r'; rw [h] at this; exact (lt8_irr _ this).elim
    · exact c
    · have := kn_lt hm hn c r' r; rw [h] at this; exact (lt8_irr _ this).elim
  subst hnm
  exact ⟨rfl, List.append_cancel_left h⟩
theorem u8_pos {c : UInt8} (h : c ≠ 0) : (0 : UInt8) < c := UInt8.lt_iff_toNat_lt.mpr (by
  have : ¬ c.toNat = 0 := fun z => h (UInt8.toNat_inj.mp (by simpa using z))
  show 0 < c.toNat; omega)
theorem esc_cons (b : UInt8) (l : Bs) : esc (b :: l) = (if b = 0 then [0, 255] else [b]) ++ esc l := by simp [esc]
/-- Texts in order. -/
theorem esc_iff : ∀ (s t r r' : Bs), lt8 (esc s ++ 0 :: 1 :: r) (esc t ++ 0 :: 1 :: r') ↔ lt8 s t ∨ s = t ∧ lt8 r r'
  | [], [], r, r' => by
    show lt8 (0 :: 1 :: r) (0 :: 1 :: r') ↔ _
    simp [lt8_cons, lt8_nil, u8_irr]
  | [], c :: t, r, r' => by
    rw [esc_cons]
    simp only [lt8_nil_cons, true_or, iff_true]
    by_cases h : c = 0
    · rw [if_pos h]
      show lt8 (0 :: 1 :: r) (0 :: 255 :: _)
      rw [lt8_cons, lt8_cons]; exact .inr ⟨rfl, .inl (by decide)⟩
    · rw [if_neg h]
      show lt8 (0 :: 1 :: r) (c :: _)
      rw [lt8_cons]; exact .inl (u8_pos h)
  | b :: s, [], r, r' => by
    rw [esc_cons]
    have : ¬ lt8 ((if b = 0 then [0, 255] else [b]) ++ (esc s ++ 0 :: 1 :: r)) (esc [] ++ 0 :: 1 :: r') := by
      by_cases h : b = 0
      · rw [if_pos h]
        show ¬ lt8 (0 :: 255 :: _) (0 :: 1 :: r')
        rw [lt8_cons, lt8_cons]
        rintro (h | ⟨_, h | ⟨h, _⟩⟩)
        · exact u8_irr _ h
        · exact absurd h (by decide)
        · exact absurd h (by decide)
      · rw [if_neg h]
        show ¬ lt8 (b :: _) (0 :: 1 :: r')
        rw [lt8_cons]
        rintro (h' | ⟨h', _⟩)
        · exact u8_lt_asymm h' (u8_pos h)
        · exact h h'
    rw [List.append_assoc]
    simp only [this, lt8_nil, false_or, false_iff, not_and]
    intro e; cases e
  | b :: s, c :: t, r, r' => by
    have ih := esc_iff s t r r'
    rw [esc_cons, esc_cons, lt8_cons]
    by_cases e : b = c
    · subst e
      rw [List.append_assoc, List.append_assoc, lt8_app, ih]
      simp [u8_irr]
    · have hne : ¬ (b :: s = c :: t) := fun h => e (List.cons.inj h).1
      simp only [e, hne, false_and, or_false]
      by_cases hb : b = 0
      · have hc : c ≠ 0 := fun h => e (hb.trans h.symm)
        rw [if_pos hb, if_neg hc, hb]
        show lt8 (0 :: 255 :: _) (c :: _) ↔ _
        rw [lt8_cons]
        exact ⟨fun _ => u8_pos hc, fun _ => .inl (u8_pos hc)⟩
      · rw [if_neg hb]
        by_cases hc : c = 0
        · rw [if_pos hc, hc]
          show lt8 (b :: _) (0 :: 255 :: _) ↔ _
          rw [lt8_cons]
          exact ⟨fun h => by rcases h with h | ⟨h, _⟩; exact h; exact absurd h hb, fun h => .inl h⟩
        · rw [if_neg hc]
          show lt8 (b :: _) (c :: _) ↔ _
          rw [lt8_cons]
          exact ⟨fun h => by rcases h with h | ⟨h, _⟩; exact h; exact absurd h e, fun h => .inl h⟩
theorem ks_iff (s t r r' : Bs) : lt8 (ks s ++ r) (ks t ++ r') ↔ lt8 s t ∨ s = t ∧ lt8 r r' := by
  unfold ks
  rw [List.cons_append, List.cons_append, List.append_assoc, List.append_assoc, lt8_cons]
  show (2 : UInt8) < 2 ∨ (2 : UInt8) = 2 ∧ lt8 (esc s ++ 0 :: 1 :: r) (esc t ++ 0 :: 1 :: r') ↔ _
  rw [esc_iff]; simp [u8_irr]
theorem ks_inj {s t r r' : Bs} (h : ks s ++ r = ks t ++ r') : s = t ∧ r = r' := by
  have n1 : ¬ lt8 s t := fun z => by
    have := (ks_iff s t r r').2 (.inl z)
    rw [h] at this; exact lt8_irr _ this
  have n2 : ¬ lt8 t s := fun z => by
    have := (ks_iff t s r' r).2 (.inl z)
    rw [h] at this; exact lt8_irr _ this
  have e : s = t := by
    rcases lt8_total s t with c | c | c
    · exact (n1 c).elim
    · exact c
    · exact (n2 c).elim
  subst e
  exact ⟨rfl, List.append_cancel_left h⟩
theorem esc_plain {s : Bs} (h : ∀ b ∈ s, b ≠ 0) : esc s = s := by
  induction s with
  | nil => rfl
  | cons b s ih => rw [esc_cons, if_neg (h b List.mem_cons_self), ih fun c hc => h c (List.mem_cons_of_mem _ hc)]; rfl
theorem esc_len (s : Bs) : s.length ≤ (esc s).length := by
  induction s with
  | nil => exact Nat.le_refl _
  | cons b s ih =>
    rw [esc_cons, List.length_append, List.length_cons]
    split <;> simp only [List.length_cons, List.length_nil] <;> omega
theorem esc_len2 (s : Bs) : (esc s).length ≤ 2 * s.length := by
  induction s with
  | nil => exact Nat.le_refl _
  | cons b s ih =>
    rw [esc_cons, List.length_append, List.length_cons]
    split <;> simp only [List.length_cons, List.length_nil] <;> omega

/-! ### reading -/
/-- A text's bytes up to its end, and what is behind it. -/
def untxt : Bs → Option (Bs × Bs)
  | [] => none
  | [c] => none
  | c :: d :: r => if c = 0 then (if d = 1 then some ([], r) else if d = 255 then (untxt r).map fun x => (0 :: x.1, x.2) else none) else (untxt (d :: r)).map fun x => (c :: x.1, x.2)
def ofBe (l : Bs) : Int := l.foldl (fun n b => n * 256 + (b.toNat : Int)) 0
/-- A number out of its eight bytes. -/
def unN (l : Bs) : Int := IntKind.wrap .i64 (ofBe l + 9223372036854775808)
def takeB : Bs → Option (Pt × Bs)
  | [] => none
  | c :: r => if c = 1 ∧ 8 ≤ r.length then some (Num (unN (r.take 8)), r.drop 8) else if c = 2 then (untxt r).map fun x => (Str ⟨x.1.toArray⟩, x.2) else none
theorem untxt_esc : ∀ (s r : Bs), untxt (esc s ++ 0 :: 1 :: r) = some (s, r)
  | [], r => by
    show untxt (0 :: 1 :: r) = _
    rw [untxt, if_pos rfl, if_pos rfl]
  | b :: s, r => by
    rw [esc_cons, List.append_assoc]
    have ih := untxt_esc s r
    by_cases h : b = 0
    · rw [if_pos h, h]
      show untxt (0 :: 255 :: (esc s ++ 0 :: 1 :: r)) = _
      rw [untxt, if_pos rfl, if_neg (by decide), if_pos rfl, ih]; rfl
    · rw [if_neg h]
      show untxt (b :: (esc s ++ 0 :: 1 :: r)) = _
      cases hx : esc s ++ 0 :: 1 :: r with
      | nil => simp at hx
      | cons d t => rw [untxt, if_neg h, ← hx, ih]; rfl
theorem unN_be8 {n : Int} (h : IsI n) : unN ((be8 (topN n)).map b8) = n := by
  have g0 : 0 ≤ topN n := by unfold topN; omega
  have g1 : topN n < 18446744073709551616 := by unfold topN; omega
  have e : ofBe ((be8 (topN n)).map b8) = topN n := by
    unfold ofBe be8
    simp only [List.map_cons, List.map_nil, List.foldl_cons, List.foldl_nil]
    generalize topN n = N at g0 g1
    have t : ∀ x : Int, ((b8 (x % 256)).toNat : Int) = x % 256 := fun x => by
      rw [b8_toNat _ (by omega) (by omega)]; omega
    simp only [t]
    omega
  unfold unN
  rw [e]
  unfold topN IsI at *
  rw [IntKind.wrap_i64]
  omega
theorem takeB_num {n : Int} (h : IsI n) (r : Bs) : takeB (kn n ++ r) = some (Num n, r) := by
  show takeB (1 :: ((be8 (topN n)).map b8 ++ r)) = _
  have hl : ((be8 (topN n)).map b8).length = 8 := rfl
  rw [takeB, if_pos ⟨rfl, by rw [List.length_append, hl]; omega⟩, List.take_append_of_le_length (by rw [hl]; omega), List.take_of_length_le (by rw [hl]; omega), unN_be8 h, List.drop_append_of_le_length (by rw [hl]; omega), List.drop_of_length_le (by rw [hl]; omega), List.nil_append]
theorem takeB_str (s : ByteArray) (r : Bs) : takeB (ks s.data.toList ++ r) = some (Str s, r) := by
  show takeB (2 :: (esc s.data.toList ++ [0, 1] ++ r)) = _
  rw [takeB, if_neg (by simp), if_pos rfl, List.append_assoc]
  show (untxt (esc s.data.toList ++ 0 :: 1 :: r)).map _ = _
  rw [untxt_esc]; rfl
theorem takeB_kb {p : Pt} (h : IsI p.n) (r : Bs) : takeB (kb p ++ r) = some (norm p, r) := by
  unfold kb norm
  split
  · exact takeB_str _ _
  · exact takeB_num h _
/-- A key out of its bytes. -/
def decB : Nat → Bs → Option (List Pt)
  | _, [] => some []
  | 0, _ :: _ => none
  | m + 1, b => (takeB b).bind fun x => (decB m x.2).map fun l => x.1 :: l
theorem kb_ne (p : Pt) : 2 ≤ (kb p).length := by
  unfold kb; split
  · unfold ks; simp
  · rw [kn_len]; omega
theorem decB_enc : ∀ (k : List Pt) (m : Nat), k.length ≤ m → (∀ p ∈ k, IsI p.n) → decB m (k.flatMap kb) = some (k.map norm)
  | [], m, _, _ => by cases m <;> rfl
  | p :: k, 0, h, _ => by simp at h
  | p :: k, m + 1, h, hk => by
    rw [List.flatMap_cons]
    obtain ⟨x, y, hx⟩ : ∃ x y, kb p ++ k.flatMap kb = x :: y := by
      cases hq : kb p ++ k.flatMap kb with
      | nil => have := kb_ne p; have := congrArg List.length hq; rw [List.length_append, List.length_nil] at this; omega
      | cons x y => exact ⟨x, y, rfl⟩
    rw [hx, decB, ← hx, takeB_kb (hk p List.mem_cons_self)]
    · show (decB m (k.flatMap kb)).map _ = _
      rw [decB_enc k m (by simp at h; omega) fun q hq => hk q (List.mem_cons_of_mem _ hq)]; rfl
    · intro z; cases z
end Go.Proofs.YtalegpdnhkopmaaDoor.Ky
