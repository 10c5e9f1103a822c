/- Keys: ReplaceAll, rows that grow, put, Encode. -/
import Derived.Test.YtalegpdnhkopmaaDoorE2
import Derived.Test.YtalegpdnhkopmaaDoorE7
import Derived.Test.YtalegpdnhkopmaaDoorE9
import Derived.Test.YtalegpdnhkopmaaDoorShelf
import Derived.Test.YtalegpdnhkopmaaDoorM3
import Derived.Laws.Bits64b
namespace Go.Proofs.YtalegpdnhkopmaaDoor.Ky
open Go Go.V Go.RowKit
open Go.Proofs.YtalegpdnhkopmaaDoor.VC Go.Proofs.YtalegpdnhkopmaaDoor.By Go.Proofs.YtalegpdnhkopmaaDoor.Tree
open Go.Proofs.Tryd (prog)
set_option linter.unusedVariables false
set_option linter.unusedSimpArgs false

theorem index_cons_ne (b c : UInt8) (l : List UInt8) (h : b ≠ c) : Lib.index (b :: l) [c] = if Lib.index l [c] = -1 then -1 else Lib.index l [c] + 1 := by
  rw [Lib.index_one, Lib.index_one]
  simp [Lib.indexByte, h]
theorem index_cons_eq (c : UInt8) (l : List UInt8) : Lib.index (c :: l) [c] = 0 := by
  rw [Lib.index_one]
  simp [Lib.indexByte]
theorem replaceK_cons_ne (b c : UInt8) (new l : List UInt8) (h : b ≠ c) (k : Nat) : Lib.replaceK [c] new k (b :: l) = b :: Lib.replaceK [c] new k l := by
  cases k with
  | zero => rfl
  | succ k =>
    simp only [Lib.replaceK, index_cons_ne b c l h]
    by_cases e : Lib.index l [c] = -1
    · simp [e]
    · have hg := Lib.index_ge l [c]
      obtain ⟨i, hi⟩ : ∃ i : Nat, Lib.index l [c] = i := ⟨(Lib.index l [c]).toNat, by omega⟩
      have h1 : ¬ ((i : Int) = -1) := by omega
      have h2 : ¬ ((i : Int) + 1 = -1) := by omega
      have h3 : ((i : Int) + 1).toNat = i + 1 := by omega
      simp only [hi, if_neg h1, beq_iff_eq, if_neg h2, h3, Int.toNat_natCast, List.take_succ_cons, List.length_singleton, List.cons_append]
      rw [show i + 1 + 1 = (i + 1) + 1 from rfl, List.drop_succ_cons]
theorem replaceK_all (c : UInt8) (new : List UInt8) : ∀ l : List UInt8, Lib.replaceK [c] new (Lib.count l [c]) l = l.flatMap fun b => if b = c then new else [b]
  | [] => by
    have : Lib.count ([] : List UInt8) [c] = 0 := by rw [Lib.count_one]; rfl
    rw [this]; rfl
  | b :: l => by
    have ih := replaceK_all c new l
    rw [Lib.count_one] at ih ⊢
    by_cases h : b = c
    · subst h
      have e : List.count b (b :: l) = List.count b l + 1 := by simp
      rw [e]
      simp only [Lib.replaceK, index_cons_eq]
      simp only [List.flatMap_cons, if_true]
      rw [← ih]
      simp
    · have e : List.count c (b :: l) = List.count c l := by simp [List.count_cons, h]
      rw [e, replaceK_cons_ne b c new l h, ih]
      simp [h]

theorem replaceAll_c (s : ByteArray) (w : World) (hs : s.size ≤ 1000000) :
    Calls prog 103 #[.string s, .string ⟨#[0]⟩, .string ⟨#[0, 255]⟩] w fun e w' => e = .returned (.string ⟨(esc s.data.toList).toArray⟩) ∧ Fr [] w w' := by
  refine (replaceAll1 Go.Proofs.Tryd.lays155 Go.Proofs.Tryd.Builder_Extra_155 s 0 ⟨#[0, 255]⟩ w (by intro e; have := congrArg ByteArray.size e; simp [ByteArray.size] at this) (by have e2 : (⟨#[0, 255]⟩ : ByteArray).size = 2 := rfl; rw [e2]; omega)).mono ?_
  rintro e w' ⟨he, hb⟩
  refine ⟨?_, Fr.of_below hb⟩
  rw [he, replaceK_all]
  rfl

/-! ### rows of bytes that grow -/
structure Grown (u v w : World) (p p' : Option Addr) : Prop where
  fu : Fr [] u w
  fv : Fr (pb p) v w
  d : ∀ ad, p' = some ad → p = some ad ∨ v.heap.size ≤ ad.block
theorem Grown.trans {u v w x : World} {p p' p'' : Option Addr} (h : Grown u v w p p') (k : Grown u w x p' p'') : Grown u v x p p'' where
  fu := k.fu
  fv := h.fv.trans k.fv fun y hy => by
    obtain ⟨ad, hp, rfl⟩ := (g_mem_pb _ _).1 hy
    rcases h.d ad hp with h1 | h1
    · exact .inl ((g_mem_pb _ _).2 ⟨ad, h1, rfl⟩)
    · exact .inr h1
  d := fun ad hp => by
    rcases k.d ad hp with h1 | h1
    · exact h.d ad h1
    · exact .inr (Nat.le_trans h.fv.size h1)
theorem Grown.then {u v w x : World} {p p' : Option Addr} (h : Grown u v w p p') (k : Fr [] w x) : Grown u v x p p' := ⟨h.fu.trans' k, h.fv.trans k fun y hy => (by cases hy), h.d⟩
theorem Grown.first {u v w x : World} {p p' : Option Addr} (k : Fr [] v w) (h : Grown u w x p p') : Grown u v x p p' :=
  ⟨h.fu, (k.mono fun y hy => (by cases hy)).trans' h.fv, fun ad hp => (h.d ad hp).imp id fun z => Nat.le_trans k.size z⟩
theorem Grown.keep {u v w : World} {p p' : Option Addr} (h : Grown u v w p p') {bs : List Nat} (hb : ∀ b ∈ bs, b < v.heap.size ∧ ∀ ad, p = some ad → ad.block ≠ b) : Keep bs v w :=
  g_keep h.fv fun b hm => ⟨(hb b hm).1, fun hx => by obtain ⟨ad, hp, e⟩ := (g_mem_pb _ _).1 hx; exact (hb b hm).2 ad hp e⟩
theorem appB {cl : Bool} {mods news privs : List Nat} {u v : World} {B c n : Nat} {p : Option Addr} {ys zs : Bs} {xs z : List Value} {K : World → Option Addr → Nat → Nat → Prop} (hx : xs = zs.map U8) (hn : n = zs.length) (h : OwnZ v B 1 p ys.length c (ys.map U8)) (fr : Fr [] u v) (hu : u.heap.size ≤ B) (hB : B ≤ v.heap.size)
    (hz : z.length = 1) (hcl : cl = true → news = []) (hm : mods = []) (hpr : ∀ ad, p = some ad → ad.block ∈ privs → ad.block ∈ news) (hl : ys.length + zs.length ≤ 10000000)
    (hK : ∀ w' p' c', Grown u v w' p p' → News v w' news → (∀ ad, p' = some ad → ad.block ∉ news) → OwnZ w' B 1 p' (ys ++ zs).length c' ((ys ++ zs).map U8) → K w' p' (ys ++ zs).length c') : appendP cl mods news privs v p ys.length c n xs 1 1 z K := by
  subst hx; subst hn; subst hm
  refine append_z h (by simp) (fun u hu => by obtain ⟨b, _, rfl⟩ := List.mem_map.1 hu; rfl) hB hz hcl (fun _ _ => by simp) hpr (by omega) (by omega) fun w' p' c' f' n' o' d' => ?_
  have e : ys.length + zs.length = (ys ++ zs).length := by simp
  have e2 : ys.map U8 ++ zs.map U8 = (ys ++ zs).map U8 := by simp
  rw [e2, e] at o'
  rw [e]
  refine hK w' p' c' ⟨fr.trans f' fun x hx => ?_, f', fun ad hp => (d' ad hp).imp id (·.1)⟩ n' (fun ad hp hin => ?_) o'
  · obtain ⟨ad, hp, rfl⟩ := (g_mem_pb _ _).1 hx
    exact .inr (by have := (h.lt hp).1; omega)
  · rcases d' ad hp with h1 | h1
    · have := (h.lt h1).2; have := (n' _ hin).1; omega
    · exact h1.2 hin

/-! ### put -/
theorem xor_top (x : Nat) (h : x < 18446744073709551616) : x ^^^ 9223372036854775808 = (x + 9223372036854775808) % 18446744073709551616 := by
  have e63 : (9223372036854775808 : Nat) = 2 ^ 63 := rfl
  have e64 : (18446744073709551616 : Nat) = 2 ^ 64 := rfl
  rw [e64] at h
  rw [e63, e64, Nat.add_comm]
  apply Nat.eq_of_testBit_eq
  intro i
  rw [Nat.testBit_xor, Nat.testBit_mod_two_pow, Nat.testBit_two_pow]
  rcases Nat.lt_trichotomy i 63 with c | c | c
  · rw [Nat.testBit_two_pow_add_gt c, decide_eq_true (by omega : i < 64), decide_eq_false (by omega : ¬ 63 = i)]
    simp
  · subst c
    rw [Nat.testBit_two_pow_add_eq]
    simp
  · rw [decide_eq_false (by omega : ¬ 63 = i), decide_eq_false (by omega : ¬ i < 64)]
    have : x < 2 ^ i := Nat.lt_of_lt_of_le h (Nat.pow_le_pow_right (by omega) (by omega))
    rw [Nat.testBit_lt_two_pow this]
    simp
theorem xor_topN (n : Int) : Go.bits .xor .u64 (IntKind.u64.wrap n) 9223372036854775808 = topN n := by
  rw [IntKind.wrap_u64]
  obtain ⟨x, hx⟩ := Int.eq_ofNat_of_zero_le (Int.emod_nonneg n (by decide : (18446744073709551616 : Int) ≠ 0))
  have hl : x < 18446744073709551616 := by omega
  rw [hx, show (9223372036854775808 : Int) = ((9223372036854775808 : Nat) : Int) from rfl, bits_xor_u64_nat _ _ hl (by decide), xor_top x hl]
  unfold topN
  omega
theorem topN_pos (n : Int) : 0 ≤ topN n := by unfold topN; omega
theorem topN_lt (n : Int) : topN n < 18446744073709551616 := by unfold topN; omega
/-- The byte that the round at a shift adds. -/
theorem be8_at (N : Int) (h0 : 0 ≤ N) (h1 : N < 18446744073709551616) (i : Nat) (hi : i < 8) : ((be8 N).map b8)[i]? = some (b8 (IntKind.wrap .u8 (Int.fdiv N ((2 : Int) ^ Min.min (Int.toNat ((56 - 8 * i : Nat) : Int)) 64)))) := by
  rw [IntKind.wrap_u8]
  match i, hi with
  | 0, _ => rw [show ((2 : Int) ^ Min.min (Int.toNat ((56 - 8 * 0 : Nat) : Int)) 64) = 72057594037927936 by decide]; simp [be8, Int.fdiv_eq_ediv_of_nonneg]
  | 1, _ => rw [show ((2 : Int) ^ Min.min (Int.toNat ((56 - 8 * 1 : Nat) : Int)) 64) = 281474976710656 by decide]; simp [be8, Int.fdiv_eq_ediv_of_nonneg]
  | 2, _ => rw [show ((2 : Int) ^ Min.min (Int.toNat ((56 - 8 * 2 : Nat) : Int)) 64) = 1099511627776 by decide]; simp [be8, Int.fdiv_eq_ediv_of_nonneg]
  | 3, _ => rw [show ((2 : Int) ^ Min.min (Int.toNat ((56 - 8 * 3 : Nat) : Int)) 64) = 4294967296 by decide]; simp [be8, Int.fdiv_eq_ediv_of_nonneg]
  | 4, _ => rw [show ((2 : Int) ^ Min.min (Int.toNat ((56 - 8 * 4 : Nat) : Int)) 64) = 16777216 by decide]; simp [be8, Int.fdiv_eq_ediv_of_nonneg]
  | 5, _ => rw [show ((2 : Int) ^ Min.min (Int.toNat ((56 - 8 * 5 : Nat) : Int)) 64) = 65536 by decide]; simp [be8, Int.fdiv_eq_ediv_of_nonneg]
  | 6, _ => rw [show ((2 : Int) ^ Min.min (Int.toNat ((56 - 8 * 6 : Nat) : Int)) 64) = 256 by decide]; simp [be8, Int.fdiv_eq_ediv_of_nonneg]
  | 7, _ => rw [show ((2 : Int) ^ Min.min (Int.toNat ((56 - 8 * 7 : Nat) : Int)) 64) = 1 by decide]; simp [be8, Int.fdiv_eq_ediv_of_nonneg]
theorem u8w (x : Int) : 0 ≤ IntKind.wrap .u8 x ∧ IntKind.wrap .u8 x < 256 := by rw [IntKind.wrap_u8]; omega
theorem not_new {v w : World} {B l c : Nat} {p : Option Addr} {xs : List Value} {ks : List Nat} (h : OwnZ v B 1 p l c xs) (hn : ∀ k ∈ ks, v.heap.size ≤ k) : ∀ ad, p = some ad → ad.block ∉ ks := fun ad hp hin => by
  have := (h.lt hp).2; have := hn _ hin; omega
set_option maxHeartbeats 1000000 in
theorem put_c {u v : World} {B c : Nat} {p : Option Addr} {ys : Bs} (q : Pt) (h : OwnZ v B 1 p ys.length c (ys.map U8)) (fr : Fr [] u v) (hu : u.heap.size ≤ B) (hB : B ≤ v.heap.size) (hq : q.t = true → q.s.size ≤ 1000) (hl : ys.length ≤ 100000) :
    Calls prog 53 #[.slice p ys.length c, .agg #[.bool q.t, .string q.s, .int .i64 q.n]] v fun e w' => ∃ p' c', e = .returned (.slice p' (ys ++ kb q).length c') ∧ Grown u v w' p p' ∧ OwnZ w' B 1 p' (ys ++ kb q).length c' ((ys ++ kb q).map U8) := by
  refine key_put.link fun k1 => bc (fun ht k2 => ?_) fun ht k19 => ?_
  · have hs := hq ht
    refine appB (zs := [2]) (u := u) rfl rfl h fr hu hB rfl (fun h => by cases h) rfl (fun ad hp hin => by simp only [List.mem_cons, List.not_mem_nil, or_false] at hin ⊢; omega) (by simp; omega) fun w3 p4 c6 g3 n3 d3 o3 => ?_
    have hn := g_news2 n3
    have z3 := g3.fv.size
    have np3 : ∀ ad, p4 = some ad → ad.block ≠ k1 ∧ ad.block ≠ k2 := fun ad hp => by have := d3 ad hp; simp at this; omega
    refine (replaceAll_c q.s w3 (by omega)).mono ?_
    rintro e w8 ⟨rfl, f8⟩
    have z8 := f8.size
    have g8 := g3.then f8
    refine ⟨_, rfl, keepF f8 (by simp; omega), ?_⟩
    have el : (esc q.s.data.toList).length ≤ 2 * q.s.data.toList.length := esc_len2 _
    have es : q.s.data.toList.length = q.s.size := rfl
    have o8 := o3.fr f8 (fun _ _ => by simp)
    refine appB (zs := esc q.s.data.toList) (u := u) rfl rfl o8 g8.fu hu (by omega) rfl (fun _ => rfl) rfl (fun ad hp hin => by have := np3 ad hp; simp at hin; omega) (by simp; omega) fun w10 p11 c13 g10 n10 d10 o10 => ?_
    have g10' := g8.trans g10
    have z10 := g10.fv.size
    have np10 : ∀ ad, p11 = some ad → ad.block ≠ k1 ∧ ad.block ≠ k2 := fun ad hp => by
      rcases g10.d ad hp with h1 | h1
      · exact np3 ad h1
      · omega
    intro k14
    refine appB (zs := [0, 1]) (u := u) rfl rfl o10 g10'.fu hu (by omega) rfl (fun h => by cases h) rfl (fun ad hp hin => by have := np10 ad hp; simp at hin ⊢; omega) (by simp; omega) fun w15 p16 c18 g15 n15 d15 o15 => ?_
    have e : ys ++ [2] ++ esc q.s.data.toList ++ [0, 1] = ys ++ kb q := by unfold kb; rw [if_pos ht]; unfold ks; simp
    rw [e] at o15 ⊢
    exact ⟨_, _, rfl, g10'.trans g15, o15⟩
  · refine appB (zs := [1]) (u := u) rfl rfl h fr hu hB rfl (fun h => by cases h) rfl (fun ad hp hin => by simp only [List.mem_cons, List.not_mem_nil, or_false] at hin ⊢; omega) (by simp; omega) fun w20 p21 c23 g20 n20 d20 o20 => ?_
    have hn := g_news2 n20
    have z20 := g20.fv.size
    have np20 : ∀ ad, p21 = some ad → ad.block ≠ k1 := fun ad hp => by have := d20 ad hp; simp at this; omega
    have ht' : ¬ q.t = true := by rw [ht]; exact fun h => by cases h
    have ekb : kb q = 1 :: (be8 (topN q.n)).map b8 := by unfold kb; rw [if_neg ht']; rfl
    have h8 : ((be8 (topN q.n)).map b8).length = 8 := rfl
    refine ⟨fun m p' k' c' n w' => ∃ (i : Nat) (Y : Bs), i ≤ 8 ∧ n = (56 : Int) - 8 * i ∧ m = 8 - i ∧ k' = Y.length ∧ Y = ys ++ 1 :: ((be8 (topN q.n)).map b8).take i ∧ Grown u v w' p p' ∧ (∀ ad, p' = some ad → ad.block ≠ k1) ∧ k1 < w'.heap.size ∧ OwnZ w' B 1 p' Y.length c' (Y.map U8), 8, ⟨0, ys ++ [1], by omega, rfl, rfl, rfl, by simp, g20, np20, hn.2.2.2, o20⟩, ?_⟩
    rintro m p27 k28 c29 n30 w31 ⟨i, Y, hi, rfl, rfl, rfl, hY, g, np, hk1, o⟩
    have hYl : Y.length = ys.length + 1 + i := by rw [hY]; simp [h8]; omega
    refine bc (fun hc => ?_) fun hc => ?_
    · have hc : (0 : Int) ≤ 56 - 8 * i := of_decide_eq_true hc
      have hi8 : i < 8 := by omega
      refine ⟨hc, fun k33 => ?_⟩
      rw [xor_topN]
      have hb := be8_at (topN q.n) (topN_pos _) (topN_lt _) i hi8
      have ei : (56 : Int) - 8 * i = ((56 - 8 * i : Nat) : Int) := by omega
      rw [← ei] at hb
      have zg := g.fv.size
      refine appB (zs := [b8 (IntKind.wrap .u8 (Int.fdiv (topN q.n) ((2 : Int) ^ Min.min (Int.toNat ((56 : Int) - 8 * i)) 64)))]) (u := u) (by rw [List.map_cons, List.map_nil, b8_U8 _ (u8w _).1 (u8w _).2]; rfl) rfl o g.fu hu (by omega) rfl (fun h => by cases h) rfl (fun ad hp hin => by have := np ad hp; simp at hin ⊢; omega) (by simp; omega) fun w34 p35 c37 g34 n34 d34 o34 => ?_
      have z34 := g34.fv.size
      refine ⟨8 - (i + 1), by omega, i + 1, _, by omega, by rw [wrapi (by omega) (by omega)]; omega, rfl, rfl, ?_, g.trans g34, fun ad hp => ?_, by omega, o34⟩
      · rw [hY, List.append_assoc]
        congr 1
        rw [List.cons_append, List.take_add_one, hb]; rfl
      · rcases g34.d ad hp with h1 | h1
        · exact np ad h1
        · omega
    · have hi8 : i = 8 := by have := of_decide_eq_false hc; omega
      subst hi8
      have : Y = ys ++ kb q := by rw [hY, ekb, List.take_of_length_le (by rw [h8]; omega)]
      subst this
      exact ⟨_, _, rfl, g, o⟩
end Go.Proofs.YtalegpdnhkopmaaDoor.Ky
