/- The reading of a key, continued: 'take' takes what parse1 says; Decode decodes what parse says. -/
import Derived.Test.YtamaoileeipgeaaDoorCode3
namespace Go.Proofs.YtamaoileeipgeaaDoor.XKey
open Go.RowKit Go.Proofs.YtamaoileeipgeaaDoorW.PrintWords Go.Proofs.YtamaoileeipgeaaDoorW.PrintLast Go.Proofs.YtamaoileeipgeaaDoorW.PrintMore
set_option linter.unusedVariables false
set_option linter.unusedSimpArgs false

theorem or_step (x y : Int) (h0 : 0 ≤ x) (h1 : x * 256 + 256 ≤ 18446744073709551616) (h2 : 0 ≤ y) (h3 : y < 256) : Go.bits .or .u64 (IntKind.u64.wrap (x * 256)) (IntKind.u64.wrap y) = x * 256 + y := by
  have w1 : IntKind.u64.wrap (x * 256) = x * 256 := by rw [IntKind.wrap_u64]; omega
  have w2 : IntKind.u64.wrap y = y := by rw [IntKind.wrap_u64]; omega
  rw [w1, w2]
  exact bits_join .u64 64 (by decide) (fun n h h' => by rw [IntKind.wrap_u64]; omega) 8 (x * 256) y (by omega) (by omega) (by omega) (by omega) (by omega) (by omega)
theorem add_step (x y : Int) (h0 : 0 ≤ x) (h1 : x * 256 + 256 ≤ 18446744073709551616) (h2 : 0 ≤ y) (h3 : y < 256) : IntKind.u64.wrap (IntKind.u64.wrap (x * 256) + IntKind.u64.wrap y) = x * 256 + y := by
  simp only [IntKind.wrap_u64]
  omega
/-- Room for m bytes more. -/
def Room8 (x : Int) (m : Nat) : Prop := 0 ≤ x ∧ (x + 1) * (256 : Int) ^ m ≤ 18446744073709551616
theorem Room8.now {x : Int} {m : Nat} (h : Room8 x (m + 1)) : x * 256 + 256 ≤ 18446744073709551616 := by
  obtain ⟨h0, h1⟩ := h
  have hp : (1 : Int) ≤ 256 ^ m := by
    have := Int.pow_pos (n := 256) (m := m) (by decide)
    omega
  rw [Int.pow_succ] at h1
  have h2 : (x + 1) * 256 * 1 ≤ (x + 1) * 256 * 256 ^ m := Int.mul_le_mul_of_nonneg_left hp (by omega)
  have e : (x + 1) * (256 ^ m * 256) = (x + 1) * 256 * 256 ^ m := by rw [Int.mul_comm (256 ^ m) 256, ← Int.mul_assoc]
  omega
theorem Room8.next {x y : Int} {m : Nat} (h : Room8 x (m + 1)) (h2 : 0 ≤ y) (h3 : y < 256) : Room8 (x * 256 + y) m := by
  obtain ⟨h0, h1⟩ := h
  refine ⟨by omega, ?_⟩
  have hp : (0 : Int) ≤ 256 ^ m := Int.le_of_lt (Int.pow_pos (by decide))
  rw [Int.pow_succ] at h1
  have e : (x + 1) * (256 ^ m * 256) = (x + 1) * 256 * 256 ^ m := by rw [Int.mul_comm (256 ^ m) 256, ← Int.mul_assoc]
  have h4 : (x * 256 + y + 1) * 256 ^ m ≤ ((x + 1) * 256) * 256 ^ m := Int.mul_le_mul_of_nonneg_right (by omega) hp
  omega
theorem room_0 : Room8 0 8 := ⟨by decide, by decide⟩
theorem Room8.last {x : Int} (h : Room8 x 0) : 0 ≤ x ∧ x < 18446744073709551616 := by
  obtain ⟨h0, h1⟩ := h
  simp at h1
  omega
theorem room_foldl : ∀ (b : List Int) (x : Int), IsB b → Room8 x b.length → Room8 (b.foldl (fun n x => n * 256 + x) x) 0
  | [], x, _, h => h
  | y :: b, x, hb, h => by
    obtain ⟨h0, h1⟩ := hb y (by simp)
    exact room_foldl b _ (fun z hz => hb z (by simp [hz])) (h.next h0 h1)

theorem take_l0_step (k : Nat) (x0 : List Int) (x5 : Int) (b : List Int) (n i j y : Int) (hi : i < n) (h0 : 0 ≤ i) (hl : i < (b.length : Int)) (hw : wrap64 (i + 1) = j) (hy : rd b i = y) :
    key_take.l0 (k + 1) x0 x5 b n i = key_take.l0 k x0 (Go.bits .or .u64 (IntKind.u64.wrap (x5 * 256)) (IntKind.u64.wrap y)) b n j := by
  rw [key_take.l0, if_pos hi, if_pos h0, if_pos hl, hw, hy]
theorem rd_drop (b : List Int) (i : Nat) (h : i < b.length) : b.drop i = rd b (i : Int) :: b.drop (i + 1) := by
  rw [List.drop_eq_getElem_cons h]
  simp [rd, h]
def numR (x0 : List Int) (v : Int) : Bool × ByteArray × Int × List Int × Bool := (false, ⟨#[]⟩, wrap64 ((v + 9223372036854775808) % 18446744073709551616), x0.drop 9, true)
theorem take_l0 (x0 b : List Int) (hb : IsB b) (h9 : 9 ≤ (x0.length : Int)) (hbl : b.length < 1000) : ∀ (m i : Nat) (x : Int), b.length - i = m → i ≤ b.length → Room8 x m →
    Ev (fun k => key_take.l0 k x0 x b (b.length : Int) (i : Int)) (numR x0 ((b.drop i).foldl (fun n x => n * 256 + x) x))
  | 0, i, x, hm, hi, hr => by
    rw [List.drop_eq_nil_of_le (by omega)]
    refine Ev.step (f := fun _ => some (numR x0 x)) (fun k => ?_) (Ev.now _)
    have hx : Go.bits .xor .u64 x 9223372036854775808 = (x + 9223372036854775808) % 18446744073709551616 := by
      have := xor_topN x
      obtain ⟨h0, h1⟩ := hr.last
      rw [IntKind.wrap_u64, Int.emod_eq_of_lt h0 h1] at this
      exact this
    rw [key_take.l0, if_neg (by omega), hx]
    simp only [key_Num.f, Option.bind_some, if_pos h9]
    rfl
  | m + 1, i, x, hm, hi, hr => by
    obtain ⟨h0, h1⟩ := hb.at_ i (by omega)
    have ih := take_l0 x0 b hb h9 hbl m (i + 1) (x * 256 + rd b (i : Int)) (by omega) (by omega) (hr.next h0 h1)
    rw [rd_drop b i (by omega)]
    refine Ev.step (fun k => ?_) ih
    rw [take_l0_step k x0 x b (b.length : Int) (i : Int) _ _ (by omega) (by omega) (by omega) (wrap_succ i (by omega)) rfl, or_step x _ hr.1 hr.now h0 h1]

theorem j0_t (k : Nat) (x0 : List Int) (h : 9 ≤ (x0.length : Int)) (b : List Int) (hb : (x0.take 9).drop 1 = b) : key_take.j0 (k + 1) x0 true = key_take.l0 k x0 0 b (b.length : Int) 0 := by
  rw [key_take.j0, if_pos rfl, if_pos (by decide), if_pos h, hb]
  rfl
theorem j0_f (k : Nat) (x0 : List Int) (h : 0 < (x0.length : Int)) (h' : 1 ≤ (x0.length : Int)) : key_take.j0 (k + 1) x0 false = if rd x0 0 = 2 then key_take.l1 k [] (x0.drop 1) else some (false, ⟨#[]⟩, 0, [], false) := by
  rw [key_take.j0, if_neg (by decide), if_pos h, if_pos h']
theorem take_ev (l : List Int) (hb : IsB l) (hne : 0 < l.length) (hl : l.length < 100000000000000) : Ev (fun k => key_take.f k l) (takeR (parse1 l)) := by
  have h0 : 0 < (l.length : Int) := by omega
  have h1 : 1 ≤ (l.length : Int) := by omega
  have hno : Ev (fun k => key_take.j0 k l false) (takeR (if rd l 0 = 2 then (txt (l.drop 1)).map (fun p => (⟨true, strOfNums p.1, 0⟩, p.2)) else none)) := by
    by_cases c : rd l 0 = 2
    · rw [if_pos c]
      refine Ev.step (f := fun k => key_take.l1 k [] (l.drop 1)) (fun k => by rw [j0_f k l h0 h1, if_pos c]) ?_
      exact take_l1 (l.drop 1).length (l.drop 1) [] (Nat.le_refl _) (hb.drop 1) (by rw [List.length_drop, List.length_nil]; omega)
    · rw [if_neg c]
      exact Ev.step (f := fun _ => some (false, ⟨#[]⟩, 0, [], false)) (fun k => by rw [j0_f k l h0 h1, if_neg c]) (Ev.now _)
  unfold parse1
  by_cases c : rd l 0 = 1
  · by_cases c9 : 9 ≤ l.length
    · rw [if_pos ⟨c, c9⟩]
      have h9 : 9 ≤ (l.length : Int) := by omega
      obtain ⟨b, hbe⟩ : ∃ b, (l.take 9).drop 1 = b := ⟨_, rfl⟩
      have hbl : b.length = 8 := by rw [← hbe, List.length_drop, List.length_take]; omega
      have hbb : IsB b := fun x hx => hb x (List.mem_of_mem_take (List.mem_of_mem_drop (hbe ▸ hx)))
      have := take_l0 l b hbb h9 (by omega) 8 0 0 (by omega) (by omega) room_0
      rw [hbe]
      refine Ev.congr (f := fun k => key_take.j0 k l true) (fun k => ?_) (Ev.step (fun k => j0_t k l h9 b hbe) this)
      unfold key_take.f
      rw [if_pos h0, if_pos c, decide_eq_true (by omega)]
    · rw [if_neg (fun z => c9 z.2)]
      refine Ev.congr (f := fun k => key_take.j0 k l false) (fun k => ?_) hno
      unfold key_take.f
      rw [if_pos h0, if_pos c, decide_eq_false (by omega)]
  · rw [if_neg (fun z => c z.1)]
    refine Ev.congr (f := fun k => key_take.j0 k l false) (fun k => ?_) hno
    unfold key_take.f
    rw [if_pos h0, if_neg c]

/-! ### the parts are their bytes -/
theorem map_b8_len (l : List Int) : (l.map b8).length = l.length := List.length_map _
theorem toNat_b8 (x : Int) (h0 : 0 ≤ x) (h1 : x < 256) : ((b8 x).toNat : Int) = x := by simp [b8]; omega
theorem escI_cons (b : UInt8) (l : List UInt8) : escI (b :: l) = (if b = 0 then [0, 255] else [(b.toNat : Int)]) ++ escI l := by simp [escI]
theorem txt_sound : ∀ (m : Nat) (l : List Int), l.length ≤ m → IsB l → ∀ s r, txt l = some (s, r) → l = escI (s.map b8) ++ 0 :: 1 :: r := by
  intro m
  induction m with
  | zero =>
    intro l hm _ s r h
    rw [List.eq_nil_of_length_eq_zero (by omega : l.length = 0), txt_nil] at h
    cases h
  | succ m ih =>
    intro l hm hb s r h
    cases l with
    | nil => rw [txt_nil] at h; cases h
    | cons x l =>
      obtain ⟨h0, h1⟩ := hb x (by simp)
      simp only [List.length_cons] at hm
      by_cases c : x = 0
      · subst c
        cases l with
        | nil => rw [txt_0nil] at h; cases h
        | cons y q =>
          simp only [List.length_cons] at hm
          rw [txt_0] at h
          by_cases c1 : y = 1
          · rw [if_pos c1] at h
            obtain ⟨rfl, rfl⟩ := Prod.mk.inj (Option.some.inj h)
            rw [c1]; rfl
          · rw [if_neg c1] at h
            by_cases c2 : y = 255
            · rw [if_pos c2] at h
              cases ht : txt q with
              | none => rw [ht] at h; cases h
              | some p =>
                rw [ht] at h
                obtain ⟨rfl, rfl⟩ := Prod.mk.inj (Option.some.inj h)
                have := ih q (by omega) (fun z hz => hb z (by simp [hz])) p.1 p.2 ht
                rw [List.map_cons, escI_cons, if_pos (by rfl), c2, List.append_assoc, ← this]
                rfl
            · rw [if_neg c2] at h; cases h
      · rw [txt_nz x l c] at h
        cases ht : txt l with
        | none => rw [ht] at h; cases h
        | some p =>
          rw [ht] at h
          obtain ⟨rfl, rfl⟩ := Prod.mk.inj (Option.some.inj h)
          have := ih l (by omega) (fun z hz => hb z (by simp [hz])) p.1 p.2 ht
          have hn : ¬ b8 x = 0 := by
            have := b8_0 x h0 h1
            rw [decide_eq_false c] at this
            exact ne_of_beq_false this
          rw [List.map_cons, escI_cons, if_neg hn, toNat_b8 x h0 h1, List.append_assoc, ← this]
          rfl
theorem txt_complete (l : List UInt8) (r : List Int) : txt (escI l ++ 0 :: 1 :: r) = some (l.map (fun b => (b.toNat : Int)), r) := by
  induction l with
  | nil =>
    show txt (0 :: 1 :: r) = _
    rw [txt_0, if_pos rfl]; rfl
  | cons b l ih =>
    rw [escI_cons]
    by_cases c : b = 0
    · rw [if_pos c]
      show txt (0 :: 255 :: (escI l ++ 0 :: 1 :: r)) = _
      rw [txt_0, if_neg (by decide), if_pos rfl, ih, c]; rfl
    · rw [if_neg c]
      show txt ((b.toNat : Int) :: (escI l ++ 0 :: 1 :: r)) = _
      rw [txt_nz _ _ (fun z => c (UInt8.toNat_inj.mp (by simpa using z))), ih]; rfl
theorem be8_val (a b c d e f g h : Int) (ha : 0 ≤ a ∧ a < 256) (hb : 0 ≤ b ∧ b < 256) (hc : 0 ≤ c ∧ c < 256) (hd : 0 ≤ d ∧ d < 256) (he : 0 ≤ e ∧ e < 256) (hf : 0 ≤ f ∧ f < 256) (hg : 0 ≤ g ∧ g < 256) (hh : 0 ≤ h ∧ h < 256) :
    be8 (val8 [a, b, c, d, e, f, g, h]) = [a, b, c, d, e, f, g, h] := by
  have e0 : val8 [a, b, c, d, e, f, g, h] = (((((((0 * 256 + a) * 256 + b) * 256 + c) * 256 + d) * 256 + e) * 256 + f) * 256 + g) * 256 + h := rfl
  rw [e0, be8]
  have e1 : ((((((((0 * 256 + a) * 256 + b) * 256 + c) * 256 + d) * 256 + e) * 256 + f) * 256 + g) * 256 + h) / 72057594037927936 % 256 = a := by omega
  have e2 : ((((((((0 * 256 + a) * 256 + b) * 256 + c) * 256 + d) * 256 + e) * 256 + f) * 256 + g) * 256 + h) / 281474976710656 % 256 = b := by omega
  have e3 : ((((((((0 * 256 + a) * 256 + b) * 256 + c) * 256 + d) * 256 + e) * 256 + f) * 256 + g) * 256 + h) / 1099511627776 % 256 = c := by omega
  have e4 : ((((((((0 * 256 + a) * 256 + b) * 256 + c) * 256 + d) * 256 + e) * 256 + f) * 256 + g) * 256 + h) / 4294967296 % 256 = d := by omega
  have e5 : ((((((((0 * 256 + a) * 256 + b) * 256 + c) * 256 + d) * 256 + e) * 256 + f) * 256 + g) * 256 + h) / 16777216 % 256 = e := by omega
  have e6 : ((((((((0 * 256 + a) * 256 + b) * 256 + c) * 256 + d) * 256 + e) * 256 + f) * 256 + g) * 256 + h) / 65536 % 256 = f := by omega
  have e7 : ((((((((0 * 256 + a) * 256 + b) * 256 + c) * 256 + d) * 256 + e) * 256 + f) * 256 + g) * 256 + h) / 256 % 256 = g := by omega
  have e8 : ((((((((0 * 256 + a) * 256 + b) * 256 + c) * 256 + d) * 256 + e) * 256 + f) * 256 + g) * 256 + h) % 256 = h := by omega
  rw [e1, e2, e3, e4, e5, e6, e7, e8]
theorem val8_be (N : Int) (h0 : 0 ≤ N) (h1 : N < 18446744073709551616) : val8 (be8 N) = N := by
  show (((((((0 * 256 + N / 72057594037927936 % 256) * 256 + N / 281474976710656 % 256) * 256 + N / 1099511627776 % 256) * 256 + N / 4294967296 % 256) * 256 + N / 16777216 % 256) * 256 + N / 65536 % 256) * 256 + N / 256 % 256) * 256 + N % 256 = N
  omega
theorem topN_back (v : Int) (h0 : 0 ≤ v) (h1 : v < 18446744073709551616) : topN (wrap64 ((v + 9223372036854775808) % 18446744073709551616)) = v := by
  unfold topN wrap64; omega
theorem topN_there (n : Int) (h0 : -9223372036854775808 ≤ n) (h1 : n ≤ 9223372036854775807) : wrap64 ((topN n + 9223372036854775808) % 18446744073709551616) = n := by
  unfold topN wrap64; omega
/-- A part with nothing that it doesn't use. -/
def plain (p : S31) : S31 := if p.f0 = true then ⟨true, p.f1, 0⟩ else ⟨false, ⟨#[]⟩, p.f2⟩
theorem parse1_sound (l : List Int) (hb : IsB l) (p : S31) (r : List Int) (h : parse1 l = some (p, r)) : l = kbp p ++ r ∧ plain p = p := by
  unfold parse1 at h
  split at h
  · next c =>
    obtain ⟨c1, c9⟩ := c
    obtain ⟨rfl, rfl⟩ := Prod.mk.inj (Option.some.inj h)
    refine ⟨?_, rfl⟩
    match l, c9, c1, hb with
    | x :: a :: b :: c :: d :: e :: f :: g :: h :: r, _, c1, hb =>
      have c1 : x = 1 := c1
      have hv : ∀ z ∈ [a, b, c, d, e, f, g, h], 0 ≤ z ∧ z < 256 := fun z hz => hb z (List.mem_cons_of_mem x (by show z ∈ [a, b, c, d, e, f, g, h] ++ r; exact List.mem_append_left r hz))
      have htk : ((x :: a :: b :: c :: d :: e :: f :: g :: h :: r).take 9).drop 1 = [a, b, c, d, e, f, g, h] := rfl
      rw [htk]
      have hr : 0 ≤ val8 [a, b, c, d, e, f, g, h] ∧ val8 [a, b, c, d, e, f, g, h] < 18446744073709551616 := (room_foldl [a, b, c, d, e, f, g, h] 0 hv room_0).last
      show _ = 1 :: be8 (topN (wrap64 ((val8 [a, b, c, d, e, f, g, h] + 9223372036854775808) % 18446744073709551616))) ++ r
      rw [topN_back _ hr.1 hr.2, be8_val _ _ _ _ _ _ _ _ (hv a (by simp)) (hv b (by simp)) (hv c (by simp)) (hv d (by simp)) (hv e (by simp)) (hv f (by simp)) (hv g (by simp)) (hv h (by simp)), c1]
      rfl
  · split at h
    · next c =>
      cases ht : txt (l.drop 1) with
      | none => rw [ht] at h; cases h
      | some p =>
        rw [ht] at h
        obtain ⟨rfl, rfl⟩ := Prod.mk.inj (Option.some.inj h)
        refine ⟨?_, rfl⟩
        have := txt_sound _ _ (Nat.le_refl _) (hb.drop 1) p.1 p.2 ht
        cases l with
        | nil => exact absurd c (by decide)
        | cons x l =>
          have c : x = 2 := c
          simp only [List.drop_succ_cons, List.drop_zero] at this
          show _ = 2 :: (escI (p.1.map b8) ++ [0, 1]) ++ p.2
          rw [this, c]
          simp
    · cases h
theorem parse1_complete (p : S31) (hp : -9223372036854775808 ≤ p.f2 ∧ p.f2 ≤ 9223372036854775807) (r : List Int) : parse1 (kbp p ++ r) = some (plain p, r) := by
  obtain ⟨t, s, n⟩ := p
  cases t with
  | false =>
    show parse1 (1 :: be8 (topN n) ++ r) = some (⟨false, ⟨#[]⟩, n⟩, r)
    unfold parse1
    rw [if_pos ⟨rfl, by simp [be8]⟩]
    have e1 : ((1 :: be8 (topN n) ++ r).take 9).drop 1 = be8 (topN n) := rfl
    have e2 : (1 :: be8 (topN n) ++ r).drop 9 = r := rfl
    rw [e1, e2, val8_be _ (topN_pos n) (topN_lt n), topN_there n hp.1 hp.2]
  | true =>
    show parse1 (2 :: (escI s.data.toList ++ [0, 1]) ++ r) = some (⟨true, s, 0⟩, r)
    unfold parse1
    rw [if_neg (by rintro ⟨z, _⟩; exact absurd z (by show ¬ (2 : Int) = 1; decide)), if_pos (show rd (2 :: (escI s.data.toList ++ [0, 1]) ++ r) 0 = 2 from rfl)]
    have e1 : (2 :: (escI s.data.toList ++ [0, 1]) ++ r).drop 1 = escI s.data.toList ++ 0 :: 1 :: r := by simp
    rw [e1, txt_complete, Option.map_some]
    have e2 : strOfNums (s.data.toList.map (fun b => (b.toNat : Int))) = s := by
      have ec : ((fun n : Int => UInt8.ofNat n.toNat) ∘ fun b : UInt8 => (b.toNat : Int)) = id := by funext b; simp
      rw [strOfNums, List.map_map, ec, List.map_id]
    rw [e2]
end Go.Proofs.YtamaoileeipgeaaDoor.XKey
