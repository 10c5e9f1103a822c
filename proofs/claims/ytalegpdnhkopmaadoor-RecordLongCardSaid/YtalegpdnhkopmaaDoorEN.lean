/- RecordLong: the walk. -/
import Derived.Test.YtalegpdnhkopmaaDoorEL
namespace Go.Proofs.YtalegpdnhkopmaaDoor.Rc
open Go Go.V Go.RowKit
open Go.Proofs.YtalegpdnhkopmaaDoor.VC Go.Proofs.YtalegpdnhkopmaaDoor.By Go.Proofs.YtalegpdnhkopmaaDoor.Tree Go.Proofs.YtalegpdnhkopmaaDoor.Ky Go.Proofs.YtalegpdnhkopmaaDoor.Vl
open Go.Proofs.Tryd (prog)
set_option linter.unusedVariables false
set_option linter.unusedSimpArgs false
set_option maxRecDepth 20000

def key0 : ByteArray := ⟨#[107]⟩
/-- A change of a text of so many bytes. -/
def chT (t : Bs) : CH := ⟨5, 1, 0, ByteArray.empty, 0, key0, ⟨2, 0, ⟨⟨t⟩⟩⟩⟩
theorem valid_x : ∀ n : Nat, Lib.validD (List.replicate n 120) = true
  | 0 => rfl
  | n + 1 => by
    rw [Lib.validD_step _ (by simp [List.replicate_succ])]
    have hd : Lib.decodeL (List.replicate (n + 1) 120) = (120, 1) := by
      rw [List.replicate_succ]
      exact Lib.decodeL_ascii 120 _ (by decide)
    rw [hd, if_neg (by decide)]
    show Lib.validD ((List.replicate (n + 1) 120).drop 1) = true
    rw [List.replicate_succ, List.drop_one, List.tail_cons]
    exact valid_x n
theorem chk_x {n : Nat} (h : n ≤ 64) : chk (chT (List.replicate n 120)).v = 0 := by
  show chk ⟨2, 0, ⟨⟨List.replicate n 120⟩⟩⟩ = 0
  have hs : (⟨⟨List.replicate n 120⟩⟩ : ByteArray).size = n := by show (List.replicate n (120 : UInt8)).length = n; simp
  have hv : Lib.validD (⟨⟨List.replicate n 120⟩⟩ : ByteArray).data.toList = true := valid_x n
  unfold chk
  simp only
  rw [if_neg (by decide), if_neg (by decide), if_pos trivial, hs, if_neg (by omega), if_pos (valid_x n)]
theorem form_x {n : Nat} (h : n ≤ 64) : formB (chT (List.replicate n 120)) = true := by
  have := chk_x h
  unfold formB
  rw [if_neg (show ¬ ((chT (List.replicate n 120)).k = 1 ∨ (chT (List.replicate n 120)).k = 2) by show ¬ ((5 : Int) = 1 ∨ (5 : Int) = 2); decide), if_neg (show ¬ ((chT (List.replicate n 120)).k = 3 ∨ (chT (List.replicate n 120)).k = 4) by show ¬ ((5 : Int) = 3 ∨ (5 : Int) = 4); decide), if_pos (show (chT (List.replicate n 120)).k = 5 from rfl), this]
  show (isNode 1 && (isName key0 && decide ((0 : Int) = 0))) = true
  decide +kernel
theorem keyB_x (t : Bs) : (keyB (chT t)).length = 22 := by
  show ((kb (Num 5)) ++ ((kb (Num 1)) ++ ((kb (Str key0)) ++ []))).length = 22
  rw [List.length_append, List.length_append, List.length_append, kb_num, kb_num, show (kb (Str key0)).length = 4 by decide +kernel]
  rfl
theorem chB_x {n : Nat} (h : n ≤ 64) : (chB (chT (List.replicate n 120))).length = 25 + n := by
  have h1 := keyB_x (List.replicate n 120)
  have h2 := chk_x h
  unfold chB
  rw [if_pos (show (chT (List.replicate n 120)).k = 5 from rfl)]
  unfold vb
  rw [if_pos h2]
  have : (vbytes (chT (List.replicate n 120)).v).length = 2 + n := by
    show (2 :: UInt8.ofNat _ :: List.replicate n (120 : UInt8)).length = _
    simp; omega
  rw [List.length_append, List.length_cons, h1, this]; omega
theorem flat_rep {α β : Type} (f : α → List β) (x : α) : ∀ n : Nat, ((List.replicate n x).flatMap f).length = n * (f x).length
  | 0 => by simp
  | n + 1 => by rw [List.replicate_succ, List.flatMap_cons, List.length_append, flat_rep f x n, Nat.add_mul]; omega
theorem rec_x {n k : Nat} (h : n ≤ 64) (hk : k ≤ 60) : recB1 (List.replicate k (chT (List.replicate n 120))) = if 4000 < 2 + k * (25 + n) then ([], 3) else (rec1 (List.replicate k (chT (List.replicate n 120))), 0) := by
  have hl : (rec1 (List.replicate k (chT (List.replicate n 120)))).length = 2 + k * (25 + n) := by
    unfold rec1
    rw [List.length_cons, List.length_cons, flat_rep, chB_x h]; omega
  unfold recB1
  rw [if_neg, hl]
  rintro (z | ⟨c, hc, hx⟩)
  · rw [List.length_replicate] at z; omega
  · rw [(List.mem_replicate.1 hc).2, form_x h] at hx; cases hx
theorem rec_61 (c : CH) : recB1 (List.replicate 61 c) = ([], 1) := by
  unfold recB1
  rw [if_pos (.inl (by simp))]
theorem rep_snoc {α : Type} (x : α) (n : Nat) : List.replicate n x ++ [x] = List.replicate (n + 1) x := by
  rw [List.replicate_succ']
set_option maxHeartbeats 2000000 in
theorem long_walk {w : World} (size : Int) (hT : Tabs w) : Calls prog 13 #[.int .i64 size] w fun e w' => e = .returned (.bool true) ∧ Fr [] w w' := by
  refine rhizomelaw15_RecordLong.link ((rawake_c hT).mono ?_)
  rintro e w2 ⟨rfl, f2⟩
  obtain ⟨N, hN, hN64⟩ : ∃ N : Nat, IntKind.wrap .i64 (Int.tmod (IntKind.wrap .u64 size) 65) = (N : Int) ∧ N ≤ 64 := by
    have h1 : 0 ≤ IntKind.wrap .u64 size := by rw [IntKind.wrap_u64]; omega
    rw [Int.tmod_eq_emod_of_nonneg h1]
    have h2 : 0 ≤ IntKind.wrap .u64 size % 65 ∧ IntKind.wrap .u64 size % 65 < 65 := by omega
    generalize IntKind.wrap .u64 size % 65 = r at h2
    exact ⟨r.toNat, by rw [wrapi (by omega) (by omega)]; omega, by omega⟩
  rw [hN]
  have eN : Int.toNat (N : Int) = N := Int.toNat_natCast N
  refine ⟨true, rfl, bF rfl ⟨by decide, ⟨by omega, Int.le_refl _, by omega, by omega⟩, fun w4 k5 s4 hb4 => ?_⟩⟩
  have n4 := g_new1 s4
  have F4 := f2.trans' s4.fr
  rw [eN] at hb4 ⊢
  obtain ⟨b4, _⟩ := hb4
  have z2 := f2.size
  refine ⟨fun m n w' => ∃ (i : Nat) (xs : List Value), n = (i : Int) ∧ i ≤ N ∧ m = N - i ∧ Blk w' k5 xs ∧ xs.length = N ∧ (∀ j, j < i → xs[j]? = some (U8 120)) ∧ Fr [] w w', N, ⟨0, _, rfl, by omega, rfl, b4, ?_, fun j hj => by omega, F4⟩, ?_⟩
  · exact reps_length8 N
  rintro m n w17 ⟨i, xs, rfl, hi, rfl, bx, hxl, hx, F⟩
  refine bc' (fun hlt => ?_) fun hge => ?_
  · have hlt : (i : Int) < (N : Int) := of_decide_eq_true hlt
    refine ⟨⟨k5, 0, none⟩, rfl, ⟨by omega, hlt⟩, ?_⟩
    rw [add_mk]
    have e : 0 + Int.toNat (i : Int) * 1 = i := by omega
    rw [e]
    refine ⟨xs, bx, rfl, by show i + 1 ≤ xs.length; omega, fun w21 u21 => ⟨N - (i + 1), by omega, i + 1, xs.set i (U8 120), by rw [wrapi (by omega) (by omega)]; simp, by omega, rfl, u21.blk, by rw [List.length_set]; exact hxl, fun j hj => ?_, F.trans u21.fr fun x hx => ?_⟩⟩
    · rw [List.getElem?_set]
      by_cases hji : i = j
      · rw [if_pos hji, if_pos (by omega)]
      · rw [if_neg hji]; exact hx j (by omega)
    · rw [List.mem_singleton.1 hx]; exact .inr (by show w.heap.size ≤ k5; omega)
  have hiN : i = N := by have := of_decide_eq_false hge; omega
  subst hiN
  have hxs : xs = (List.replicate i (120 : UInt8)).map U8 := by
    apply List.ext_getElem?
    intro j
    by_cases hj : j < i
    · rw [hx j hj, List.getElem?_map, List.getElem?_replicate, if_pos hj]; rfl
    · rw [List.getElem?_eq_none (by omega), List.getElem?_eq_none (by simp; omega)]
  subst hxs
  have one : ∀ u ∈ (List.replicate i (120 : UInt8)).map U8, u.oneCell' = true := fun u hu => by obtain ⟨b, _, rfl⟩ := List.mem_map.1 hu; rfl
  refine ⟨List.replicate i 120, by simp, fun k hk => bytes_at (Row.all bx one) k (by simpa using hk), fun k28 k29 w30 s30 b30 => ?_⟩
  have n30 := g_new2 s30
  have F30 := F.trans' s30.fr
  generalize hc : chT (List.replicate i 120) = c
  have hcl : chB c = chB (chT (List.replicate i 120)) := by rw [hc]
  have hInC : InC c := by rw [← hc]; unfold InC IsI chT; simp
  have b30 : Blk w30 k29 ([c].flatMap ccell) := by rw [← hc]; exact b30
  have recE : ∀ {k : Nat}, k ≤ 60 → recB1 (List.replicate k c) = if 4000 < 2 + k * (25 + i) then ([], 3) else (rec1 (List.replicate k c), 0) := fun hk => by rw [← hc]; exact rec_x hN64 hk
  have hI : ∀ k, ∀ x ∈ List.replicate k c, InC x := fun k x hx => by rw [(List.mem_replicate.1 hx).2]; exact hInC
  have c1 := encode1_c (w := w30) (A := some ⟨k29, 0, none⟩) (C := 1) (oA := none) (oL := 0) (oC := 0) (aA := none) (aL := 0) (aC := 0) (vn := ByteArray.empty) (lb := ByteArray.empty) (vk := 0) (nm := ByteArray.empty) (L := List.replicate 1 c) (Row.all b30 (flatC.one _)) (hT.old F30) (hI 1) (by simp)
  have r1 := recE (k := 1) (by omega)
  rw [if_neg (by omega)] at r1
  have hl1 : (rec1 (List.replicate 1 c)).length = 27 + i := by
    unfold rec1
    rw [List.length_cons, List.length_cons, flat_rep, hcl, chB_x hN64]; omega
  rw [r1] at c1
  refine c1.mono ?_
  rintro e w34 ⟨f34, p35, c37, rfl, o35⟩
  have z34 := f34.size
  have F34 := F30.trans' f34
  refine ⟨_, _, _, _, rfl, keepF f34 (by simp; omega), fun y39 h39 => bF rfl ?_⟩
  simp only [hl1] at h39 ⊢
  rw [decide_eq_false (by omega)]
  have ew : IntKind.wrap .i64 (((27 + i : Nat) : Int) - 2) = ((25 + i : Nat) : Int) := by rw [wrapi (by omega) (by omega)]; omega
  have ed : IntKind.wrap .i64 (Int.tdiv 3998 ((25 + i : Nat) : Int)) = ((3998 / (25 + i) : Nat) : Int) := by
    have hq : 3998 / (25 + i) ≤ 3998 := Nat.div_le_self _ _
    rw [Int.tdiv_eq_ediv_of_nonneg (by decide)]
    have : (3998 : Int) / ((25 + i : Nat) : Int) = ((3998 / (25 + i) : Nat) : Int) := by rw [Int.natCast_ediv]; rfl
    rw [this]
    clear this
    generalize 3998 / (25 + i) = q at hq
    rw [wrapi (by omega) (by omega)]
  rw [ew, ed] at h39
  generalize hQ : 3998 / (25 + i) = Q at h39
  have hQ1 : Q * (25 + i) ≤ 3998 := by rw [← hQ]; exact Nat.div_mul_le_self _ _
  have hQ2 : 3998 < (Q + 1) * (25 + i) := by
    rw [← hQ, Nat.mul_comm]; exact Nat.lt_mul_div_succ _ (by omega)
  have hM : (if (60 : Int) < (Q : Int) then (60 : Int) else (Q : Int)) = ((min Q 60 : Nat) : Int) := by split <;> omega
  rw [hM] at h39
  refine h39 _ _ (bF rfl ⟨by omega, fun m p k c' n w' => ∃ j : Nat, n = (j : Int) ∧ j ≤ min Q 60 ∧ m = min Q 60 - j ∧ k = (List.replicate j c).length ∧ OwnZ w' w34.heap.size 9 p (List.replicate j c).length c' ((List.replicate j c).flatMap ccell) ∧ Fr [] w34 w', min Q 60, ⟨0, rfl, by omega, rfl, rfl, OwnZ.nil _ _ _, Fr.refl _ _⟩, ?_⟩)
  rintro m p45 k46 c47 n48 w49 ⟨j, rfl, hj, rfl, rfl, o, G⟩
  have zG := G.size
  refine bc' (fun hlt k51 => ?_) fun hge => ?_
  · have hlt : j < min Q 60 := by have := of_decide_eq_true hlt; omega
    subst hc
    refine app1 (f := ccell) flatC (x := chT (List.replicate i 120)) (u := w34) (B := w34.heap.size) o G rfl (Nat.le_refl _) zG (fun h => by cases h) (by simp) (fun ad hp x hx => ?_) (by simp; omega) (by simp; omega) fun w52 p53 c55 F52 _ _ o52 _ => ?_
    · have := o.lt hp
      simp at hx
      rcases hx with rfl | rfl
      · right; omega
      · left; simp
    rw [rep_snoc] at o52 ⊢
    exact ⟨min Q 60 - (j + 1), by omega, j + 1, by rw [wrapi (by omega) (by omega)]; simp, by omega, rfl, rfl, o52, F52⟩
  · have hjM : j = min Q 60 := by have := of_decide_eq_false hge; omega
    have hj60 : j ≤ 60 := by omega
    have hjQ : j * (25 + i) ≤ 3998 := Nat.le_trans (Nat.mul_le_mul_right _ (by omega)) hQ1
    have F49 := F34.trans' G
    have c2 := encode1_c (w := w49) (A := p45) (C := c47) (oA := none) (oL := 0) (oC := 0) (aA := none) (aL := 0) (aC := 0) (vn := ByteArray.empty) (lb := ByteArray.empty) (vk := 0) (nm := ByteArray.empty) o.row (hT.old F49) (hI j) (by simp; omega)
    have r2 := recE hj60
    rw [if_neg (by omega)] at r2
    rw [r2] at c2
    refine c2.mono ?_
    rintro e w58 ⟨f58, p59, c61, rfl, o59⟩
    have z58 := f58.size
    have F58 := F49.trans' f58
    refine ⟨_, _, _, _, rfl, keepF f58 (by simp; omega), fun k63 => ?_⟩
    have ob := o.fr f58 fun _ _ => by simp
    subst hc
    refine app1 (f := ccell) flatC (x := chT (List.replicate i 120)) (u := w34) (B := w34.heap.size) ob (G.trans' f58) rfl (Nat.le_refl _) (by omega) (fun h => by cases h) (by simp) (fun ad hp x hx => ?_) (by simp; omega) (by simp; omega) fun w64 p65 c67 F64 G64 n64 o64 _ => ?_
    · have := o.lt hp
      simp at hx
      rcases hx with rfl | rfl
      · right; omega
      · left; simp
    have z64 := G64.size
    have n63 := g_news1 n64
    rw [rep_snoc] at o64 ⊢
    have F64' := F34.trans' F64
    have c3 := encode1_c (w := w64) (A := p65) (C := c67) (oA := none) (oL := 0) (oC := 0) (aA := none) (aL := 0) (aC := 0) (vn := ByteArray.empty) (lb := ByteArray.empty) (vk := 0) (nm := ByteArray.empty) o64.row (hT.old F64') (hI (j + 1)) (by simp; omega)
    refine c3.mono ?_
    rintro e w69 ⟨f69, p70, c72, rfl, o70⟩
    refine ⟨_, _, _, _, rfl, keepF f69 (by simp; omega), bc' (fun h60 y74 h74 => ?_) fun h60 y79 h79 => ?_⟩
    · have h60 : Q < 60 := by have := of_decide_eq_true h60; omega
      have hjq : j = Q := by omega
      have r3 := recE (k := j + 1) (by omega)
      rw [if_pos (by rw [hjq]; omega)] at r3
      refine bT rfl ?_
      rw [r3]
      exact h74 _ _ ⟨rfl, F64'.trans' f69⟩
    · have h60 : 60 ≤ Q := by have := of_decide_eq_false h60; omega
      have hj' : j = 60 := by omega
      have r3 : recB1 (List.replicate (j + 1) (chT (List.replicate i 120))) = ([], 1) := by rw [hj']; exact rec_61 _
      refine bT rfl ?_
      rw [r3]
      exact h79 _ _ ⟨rfl, F64'.trans' f69⟩
end Go.Proofs.YtalegpdnhkopmaaDoor.Rc
