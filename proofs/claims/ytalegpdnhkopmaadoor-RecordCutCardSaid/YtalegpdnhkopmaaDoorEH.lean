/- Values: rows of bytes put together, Encode. -/
import Derived.Test.YtalegpdnhkopmaaDoorEG
namespace Go.Proofs.YtalegpdnhkopmaaDoor.Vl
open Go Go.V Go.RowKit
open Go.Proofs.YtalegpdnhkopmaaDoor.VC Go.Proofs.YtalegpdnhkopmaaDoor.By Go.Proofs.YtalegpdnhkopmaaDoor.Tree Go.Proofs.YtalegpdnhkopmaaDoor.Ky
open Go.Proofs.Tryd (prog)
set_option linter.unusedVariables false
set_option linter.unusedSimpArgs false

abbrev R8 := Option Addr × Nat × Bs
abbrev r8 (o : R8) : Value := .slice o.1 o.2.2.length o.2.1
theorem reps_length8 : ∀ n : Nat, (reps [Value.int .u8 0] n).length = n
  | 0 => rfl
  | n + 1 => by
    show ([Value.int .u8 0] ++ reps [Value.int .u8 0] n).length = n + 1
    rw [List.length_append, reps_length8 n]; simp; omega
theorem grow_c (w : World) (n : Nat) (hn : n ≤ 1000000) : Calls prog 152 #[.slice none 0 0, .int .i64 (n : Int)] w fun e w' => Fr [] w w' ∧ ∃ p c, e = .returned (.slice p 0 c) ∧ OwnZ w' w.heap.size 1 p 0 c [] := by
  refine slices_Grow_g_byte.link fun y1 h1 => bF (decide_eq_false (by omega)) (h1 _ fun y3 h3 => ?_)
  have e : IntKind.wrap .i64 ((n : Int) - IntKind.wrap .i64 (((0 : Nat) : Int) - ((0 : Nat) : Int))) = (n : Int) := by
    rw [show IntKind.wrap .i64 (((0 : Nat) : Int) - ((0 : Nat) : Int)) = 0 from rfl, Int.sub_zero, wrapi (by omega) (by omega)]
  simp only [e]
  refine bc' (fun hp => ?_) fun hp => h3 _ _ _ _ ⟨Fr.refl _ _, none, 0, rfl, OwnZ.nil _ _ _⟩
  refine ⟨⟨by decide, by decide, by decide⟩, ⟨by omega, by omega, by omega⟩, ?_⟩
  have hx : ∀ m, ∀ x ∈ reps [Value.int .u8 0] m, x.oneCell' = true := fun m => by
    induction m with
    | zero => intro x hx; cases hx
    | succ m ih =>
      intro x hx
      rcases List.mem_append.1 (show x ∈ [Value.int .u8 0] ++ reps [Value.int .u8 0] m from hx) with hx | hx
      · rw [List.mem_singleton.1 hx]; rfl
      · exact ih x hx
  rw [Int.toNat_natCast]
  have hq : subA none 0 0 1 = none := rfl
  refine append_p (B := w.heap.size) (ys := []) (u := w) (l := 0) (c := 0) (p := none) (OwnZ.nil _ _ _) (Fr.refl _ _) (by rw [reps_length8, Nat.mul_one]) (hx n) rfl (Nat.le_refl _) (Nat.le_refl _) (fun _ => rfl) (by simp) (fun ad hp => by cases hp) (by omega) (by omega) fun w10 p11 c13 F10 _ _ o10 _ => ?_
  have hc := o10.2.1
  refine ⟨⟨by decide, by decide, by omega⟩, h3 _ _ _ _ ⟨F10, _, _, rfl, ?_⟩⟩
  rw [subA_0]
  exact o10.front (xs := []) rfl (by omega)
theorem concat_c {w : World} {lA : Option Addr} {lC : Nat} {L : List R8} (hr : Row w lA (L.map r8)) (hs : ∀ o ∈ L, Row w o.1 (o.2.2.map U8)) (hl : L.length ≤ 100) (hs2 : ∀ o ∈ L, o.2.2.length ≤ 10000) :
    Calls prog 113 #[.slice lA L.length lC] w fun e w' => Fr [] w w' ∧ ∃ p c, e = .returned (.slice p (L.flatMap (·.2.2)).length c) ∧ OwnZ w' w.heap.size 1 p (L.flatMap (·.2.2)).length c ((L.flatMap (·.2.2)).map U8) := by
  have hfl : ∀ i, i ≤ L.length → ((L.take i).flatMap (·.2.2)).length ≤ i * 10000 := fun i => by
    induction i with
    | zero => intro _; simp
    | succ i ih =>
      intro hi
      have := ih (by omega)
      have := hs2 _ (List.getElem_mem (show i < L.length by omega))
      rw [take_snoc (by omega), List.flatMap_append, List.length_append]
      simp only [List.flatMap_cons, List.flatMap_nil, List.append_nil]; omega
  refine slices_Concat_g_byte.link ⟨fun m s n w' => ∃ i : Nat, n = (i : Int) ∧ i ≤ L.length ∧ m = L.length - i ∧ s = (((L.take i).flatMap (·.2.2)).length : Int) ∧ w' = w, L.length, ⟨0, rfl, by omega, rfl, by simp, rfl⟩, ?_⟩
  rintro m s n w6 ⟨i, rfl, hi, rfl, rfl, rfl⟩
  refine bc' (fun hlt => ?_) fun hge => ?_
  · have hlt : (i : Int) < (L.length : Int) := of_decide_eq_true hlt
    have hlt' : i < L.length := by omega
    intro y8 h8
    obtain ⟨ad, hp⟩ := hr.has (by rw [List.length_map]; omega)
    have hc1 : w6.cell? (ad.add i) = some (r8 L[i]) := hr.get hp (by simp [hlt'])
    have h1 := hfl i hi
    have h2 := hs2 _ (List.getElem_mem hlt')
    have ew : IntKind.wrap .i64 ((((L.take i).flatMap (·.2.2)).length : Int) + (L[i].2.2.length : Int)) = (((L.take (i + 1)).flatMap (·.2.2)).length : Int) := by
      rw [wrapi (by omega) (by omega), take_snoc hlt', List.flatMap_append, List.length_append]
      simp
    refine ⟨ad, hp, ⟨by omega, hlt⟩, _, _, _, by rw [Int.toNat_natCast, Nat.mul_one]; exact hc1, ?_⟩
    rw [ew]
    exact bF (decide_eq_false (by omega)) (h8 _ _ ⟨L.length - (i + 1), by omega, i + 1, by rw [wrapi (by omega) (by omega)]; simp, by omega, rfl, rfl, rfl⟩)
  · have hge : ¬ (i : Int) < (L.length : Int) := of_decide_eq_false hge
    have hi' : i = L.length := by omega
    have h1 := hfl L.length (Nat.le_refl _)
    rw [List.take_length] at h1
    rw [hi', List.take_length]
    have h2 : (L.flatMap (·.2.2)).length ≤ 1000000 := by omega
    have cg := grow_c w6 (L.flatMap (·.2.2)).length h2
    refine cg.mono ?_
    rintro e18 w19 ⟨f19, p20, c22, rfl, o20⟩
    refine ⟨_, _, _, rfl, fun m p k c n w' => ∃ j : Nat, n = (j : Int) ∧ j ≤ L.length ∧ m = L.length - j ∧ k = ((L.take j).flatMap (·.2.2)).length ∧ OwnZ w' w6.heap.size 1 p ((L.take j).flatMap (·.2.2)).length c (((L.take j).flatMap (·.2.2)).map U8) ∧ Fr [] w6 w', L.length, ⟨0, rfl, by omega, rfl, by simp, by simpa using o20, f19⟩, ?_⟩
    rintro m25 p26 k27 c28 n29 w30 ⟨j, rfl, hj, rfl, rfl, o, F⟩
    refine bc' (fun hlt => ?_) fun hge2 => ?_
    · have hlt : (j : Int) < (L.length : Int) := of_decide_eq_true hlt
      have hlt' : j < L.length := by omega
      obtain ⟨ad, hp⟩ := (hr.old F).has (by rw [List.length_map]; omega)
      have hc1 : w30.cell? (ad.add j) = some (r8 L[j]) := (hr.old F).get hp (by simp [hlt'])
      have hb1 := hfl j hj
      have hb2 := hs2 _ (List.getElem_mem hlt')
      have zF := F.size
      have es : (L.take j).flatMap (·.2.2) ++ L[j].2.2 = (L.take (j + 1)).flatMap (·.2.2) := by rw [take_snoc hlt', List.flatMap_append]; simp
      have hrj := (hs _ (List.getElem_mem hlt')).old F
      generalize hX : (L.take j).flatMap (·.2.2) = X at *
      generalize hY : L[j] = Y at *
      obtain ⟨yA, yC, yZ⟩ := Y
      simp only at hb2 hrj es
      refine ⟨ad, hp, ⟨by omega, hlt⟩, yA, yZ.length, yC, by rw [Int.toNat_natCast, Nat.mul_one]; exact hc1, yZ.map U8, by rw [List.length_map, Nat.mul_one], hrj, ?_⟩
      refine appMN (C := U8) (fun _ => rfl) (zs := yZ) rfl (u := w6) (B := w6.heap.size) o F rfl (Nat.le_refl _) zF (fun _ => rfl) (by simp) (fun ad hp => by simp) (by omega) (by omega) fun w37 p38 c40 F37 _ _ o37 _ => ?_
      rw [es] at o37 ⊢
      exact ⟨L.length - (j + 1), by omega, j + 1, by rw [wrapi (by omega) (by omega)]; simp, by omega, rfl, rfl, o37, F37⟩
    · have hge2 : ¬ (j : Int) < (L.length : Int) := of_decide_eq_false hge2
      have hj' : j = L.length := by omega
      rw [hj', List.take_length] at o ⊢
      exact ⟨F, _, _, rfl, o⟩
theorem ofNat_U8 (n : Nat) (h : n < 256) : U8 (UInt8.ofNat n) = .int .u8 (n : Int) := by
  unfold U8
  congr 1
  simp; omega
set_option maxRecDepth 100000 in
theorem or128f : ∀ X : Fin 256, Go.bits .or .u8 ((X.val : Nat) : Int) 128 = ((X.val % 128 + 128 : Nat) : Int) := by decide
theorem or128 (x : Nat) (h : x < 256) : Go.bits .or .u8 (x : Int) 128 = ((x % 128 + 128 : Nat) : Int) := or128f ⟨x, h⟩
set_option maxHeartbeats 1000000 in
theorem vencode_c {w : World} (v : VL) (hT : Tabs w) (hn : IsI v.n) : Calls prog 66 #[.agg #[.int .i64 v.k, .int .i64 v.n, .string v.s]] w fun e w' => Fr [] w w' ∧ ∃ p c, e = .returned (.tuple #[.slice p (vb v).length c, .int .i64 (chk v)]) ∧ OwnZ w' w.heap.size 1 p (vb v).length c ((vb v).map U8) := by
  refine val_Encode.link fun k1 w2 s2 => ?_
  have n2 := g_new1 s2
  refine (check_c v (hT.old s2.fr)).mono ?_
  rintro e w5 ⟨rfl, f5⟩
  have F5 := s2.fr.trans' f5
  have z5 := f5.size
  refine ⟨_, rfl, keepF f5 (by simpa using n2.2), bc' (fun hb => ?_) fun hb k7 => ?_⟩
  · have hb : ¬ chk v = 0 := by simpa using hb
    have e : vb v = [] := by unfold vb; rw [if_neg hb]
    rw [e]
    exact ⟨F5, none, 0, rfl, OwnZ.nil _ _ _⟩
  have hb : chk v = 0 := by simpa using hb
  have ev : vb v = vbytes v := by unfold vb; rw [if_pos hb]
  rw [ev, hb]
  refine bc' (fun h3 k8 w9 s9 b9 => ?_) fun h3 => bc' (fun h2 k16 w17 k18 k19 s17 hk19 b18 b7 b16 k25 w26 s26 b25 => ?_) fun h2 => ⟨by decide, by decide, fun w34 s34 b34 => ?_⟩
  · have h3 : v.k = 3 := of_decide_eq_true h3
    have n9 := g_new2 s9
    have hv : v.n = 0 ∨ v.n = 1 := by
      unfold chk at hb
      rw [if_neg (by omega), if_pos h3] at hb
      rcases Classical.em (v.n = 0 ∨ v.n = 1) with z | z
      · exact z
      · rw [if_neg z] at hb; cases hb
    have e : vbytes v = [3] ++ [UInt8.ofNat v.n.toNat] := by unfold vbytes; rw [if_pos h3]; rfl
    rw [h3] at b9
    have b9 : Blk w9 k7 ([3].map U8) := b9
    have o9 : OwnZ w9 w.heap.size 1 (some ⟨k7, 0, none⟩) ([3] : Bs).length 1 (([3] : Bs).map U8) := OwnZ.blk (n := 1) b9 rfl (by simp [U8, Value.oneCell']) (by omega)
    rw [e]
    refine appB (zs := [UInt8.ofNat v.n.toNat]) (u := w) ?_ rfl o9 (F5.trans' s9.fr) (Nat.le_refl _) (by omega) rfl (fun _ => rfl) rfl (fun ad hp hin => ?_) (by simp) fun w12 p13 c15 g12 _ _ o12 => ?_
    · rw [List.map_cons, List.map_nil, ofNat_U8 _ (by omega)]
      have : IntKind.wrap .u8 v.n = ((v.n.toNat : Nat) : Int) := by rw [IntKind.wrap_u8]; omega
      rw [this]; rfl
    · injection hp with hp; subst hp; simp at hin; omega
    exact ⟨g12.fu, _, _, rfl, o12⟩
  · have h2 : v.k = 2 := of_decide_eq_true h2
    have n17 := g_new3 s17
    have n26 := g_new1 s26
    have hsz : v.s.size ≤ 64 := by
      unfold chk at hb
      rw [if_neg (by omega), if_neg (by omega), if_pos h2] at hb
      by_cases z : 64 < v.s.size
      · rw [if_pos z] at hb; cases hb
      · omega
    have e : vbytes v = [2] ++ ([UInt8.ofNat v.s.size] ++ v.s.data.toList) := by unfold vbytes; rw [if_neg (by omega), if_pos h2]; rfl
    rw [h2] at b7
    have b7 : Blk w17 k7 ([2].map U8) := b7
    have b16 : Blk w17 k16 ([UInt8.ofNat v.s.size].map U8) := by
      rw [List.map_cons, List.map_nil, ofNat_U8 _ (by omega)]
      have : IntKind.wrap .u8 (v.s.size : Int) = ((v.s.size : Nat) : Int) := by rw [IntKind.wrap_u8]; omega
      rw [← this]; exact b16
    have F26 := s26.fr
    rw [byteCells_U8] at b18
    have one : ∀ (l : Bs), ∀ u ∈ l.map U8, u.oneCell' = true := fun l u hu => by obtain ⟨b, _, rfl⟩ := List.mem_map.1 hu; rfl
    have r1 : Row w26 (some ⟨k7, 0, none⟩) ([2].map U8) := (Row.all b7 (one _)).old F26
    have r2 : Row w26 (some ⟨k16, 0, none⟩) ([UInt8.ofNat v.s.size].map U8) := (Row.all b16 (one _)).old F26
    have r3 : Row w26 (some ⟨k18, 0, none⟩) (v.s.data.toList.map U8) := (Row.of_blk (off := 0) b18 (fun j u hj => by rw [Nat.zero_add, List.getElem?_append_left (List.getElem?_eq_some_iff.1 hj).1]; exact hj) (one _)).old F26
    let L : List R8 := [(some ⟨k7, 0, none⟩, 1, [2]), (some ⟨k16, 0, none⟩, 1, [UInt8.ofNat v.s.size]), (some ⟨k18, 0, none⟩, k19, v.s.data.toList)]
    have b25 : Blk w26 k25 (L.map r8) := b25
    have cc := concat_c (lC := 3) (L := L) (Row.all b25 (fun u hu => by obtain ⟨b, _, rfl⟩ := List.mem_map.1 hu; rfl)) (fun o ho => by
      simp only [L, List.mem_cons, List.not_mem_nil, or_false] at ho
      rcases ho with rfl | rfl | rfl
      · exact r1
      · exact r2
      · exact r3) (by simp [L]) (fun o ho => by
      simp only [L, List.mem_cons, List.not_mem_nil, or_false] at ho
      have : v.s.data.toList.length = v.s.size := rfl
      rcases ho with rfl | rfl | rfl
      · show 1 ≤ 10000; decide
      · show 1 ≤ 10000; decide
      · show v.s.data.toList.length ≤ 10000; omega)
    have eL : L.flatMap (·.2.2) = vbytes v := by rw [e]; simp [L]
    rw [eL] at cc
    refine cc.mono ?_
    rintro e' w30 ⟨f30, p31, c33, rfl, o⟩
    have z17 := s17.fr.size
    exact ⟨_, _, _, rfl, keepF f30 (by simp; omega), ((F5.trans' s17.fr).trans' F26).trans' f30, _, _, rfl, o.mono (by omega)⟩
  · have h3 : ¬ v.k = 3 := of_decide_eq_false h3
    have h2 : ¬ v.k = 2 := of_decide_eq_false h2
    have n34 := g_new1 s34
    have h1 : v.k = 1 := by
      unfold chk at hb
      by_cases z : v.k = 1
      · exact z
      · rw [if_neg z, if_neg h3, if_neg h2] at hb; cases hb
    have e : vbytes v = 1 :: vint 10 (zig v.n) := by unfold vbytes; rw [if_neg h3, if_neg h2]
    rw [h1] at b34
    have b34 : Blk w34 k7 ([1].map U8) := b34
    have o34 : OwnZ w34 w.heap.size 1 (some ⟨k7, 0, none⟩) ([1] : Bs).length 1 (([1] : Bs).map U8) := OwnZ.blk (n := 1) b34 rfl (by simp [U8, Value.oneCell']) (by omega)
    have F34 := F5.trans' s34.fr
    rw [zig_eq hn]
    refine ⟨fun m p k c n w' => ∃ (N : Nat) (Y : Bs), n = (N : Int) ∧ N < 128 ^ (m + 1) ∧ k = Y.length ∧ Y.length ≤ 1000 - m ∧ m ≤ 10 ∧ vbytes v = Y ++ vint m N ∧ Fr [] w w' ∧ OwnZ w' w.heap.size 1 p Y.length c (Y.map U8), 10, ⟨zig v.n, [1], rfl, Nat.lt_of_lt_of_le (zig_lt hn) (by decide), rfl, by decide, by decide, e, F34, o34⟩, ?_⟩
    rintro m p40 k41 c42 n43 w44 ⟨N, Y, rfl, hN, rfl, hY, hm, hv, F, o⟩
    refine bc' (fun hge k46 => ?_) fun hlt k52 => ?_
    · have hge : 128 ≤ N := by have := of_decide_eq_true hge; omega
      obtain ⟨q, rfl⟩ : ∃ q, m = q + 1 := by
        cases m with
        | zero => rw [Nat.zero_add, Nat.pow_one] at hN; omega
        | succ q => exact ⟨q, rfl⟩
      rw [vint_step _ _ hge] at hv
      have ew : IntKind.wrap .u8 (N : Int) = ((N % 256 : Nat) : Int) := by rw [IntKind.wrap_u8]; omega
      have eb : Go.bits .or .u8 (IntKind.wrap .u8 (N : Int)) 128 = ((N % 128 + 128 : Nat) : Int) := by
        rw [ew, or128 _ (Nat.mod_lt _ (by decide))]
        congr 2
        omega
      refine appB (zs := [UInt8.ofNat (N % 128 + 128)]) (u := w) (by rw [List.map_cons, List.map_nil, ofNat_U8 _ (by omega), ← eb]; rfl) rfl o F (Nat.le_refl _) F.size rfl (fun h => by cases h) rfl (fun ad hp hin => by have := (o.lt hp).2; simp at hin ⊢; omega) (by simp; omega) fun w47 p48 c50 g47 _ _ o47 => ?_
      refine ⟨by decide, q, by omega, N / 128, _, ?_, ?_, rfl, by simp; omega, by omega, by rw [hv]; simp, g47.fu, o47⟩
      · rw [show ((2 : Int) ^ 7) = 128 by decide, Int.fdiv_eq_ediv_of_nonneg _ (by decide)]; omega
      · rw [Nat.pow_succ] at hN
        exact Nat.div_lt_of_lt_mul (by rw [Nat.mul_comm]; exact hN)
    · have hlt : ¬ 128 ≤ N := by have := of_decide_eq_false hlt; omega
      rw [vint_last _ _ hlt] at hv
      have ew : IntKind.wrap .u8 (N : Int) = (N : Int) := by rw [IntKind.wrap_u8]; omega
      refine appB (zs := [UInt8.ofNat N]) (u := w) (by rw [List.map_cons, List.map_nil, ofNat_U8 _ (by omega), ew]; rfl) rfl o F (Nat.le_refl _) F.size rfl (fun h => by cases h) rfl (fun ad hp hin => by have := (o.lt hp).2; simp at hin ⊢; omega) (by simp; omega) fun w53 p54 c56 g53 _ _ o53 => ?_
      rw [← hv] at o53 ⊢
      exact ⟨g53.fu, _, _, rfl, o53⟩
end Go.Proofs.YtalegpdnhkopmaaDoor.Vl
