/- DiskSure. -/
import Derived.Test.YtcaamecdhbgknaaDA
import Derived.Test.YtcaamecdhbgknaaL5
namespace Go.Proofs.Ytcaamecdhbgknaa.Disk
open Go Go.V
open Go.Proofs.Ytcaamecdhbgknaa.VC
open Go.Proofs.Try (prog)
set_option linter.unusedVariables false
set_option linter.unusedSimpArgs false
set_option maxRecDepth 20000

/-! ### The plain law -/
def two (x : Nat) : ByteArray := ⟨#[UInt8.ofNat (x + 1), 7]⟩
def was (x : Nat) : ByteArray := if x < 6 then round (two x) else zsec
theorem was_size (x : Nat) : (was x).size = 64 := by
  unfold was
  split
  · exact round_size _
  · exact zsec_size
theorem two_cells {i : Nat} (h : i < 6) : spl (spl (reps [.int .u8 0] 2) 0 [.int .u8 (IntKind.wrap .u8 (IntKind.wrap .i64 ((i : Int) + 1)))]) 1 [.int .u8 7] = byteCells (two i) := by
  match i, h with
  | 0, _ => rfl
  | 1, _ => rfl
  | 2, _ => rfl
  | 3, _ => rfl
  | 4, _ => rfl
  | 5, _ => rfl
theorem wrote_nowAt {M : DM} (hok : M.Ok) {i : Nat} (hi : i < M.sure.length) (s : ByteArray) (x : Nat) : (M.wrote i s).nowAt x = if x = i then s else M.nowAt x := by
  show (M.now.set i s).getD x zsec = _
  rw [List.getD_eq_getElem?_getD, List.getElem?_set]
  split
  · rename_i e
    subst e
    rw [if_pos rfl, if_pos (by rw [hok.now]; exact hi)]; rfl
  · rename_i e
    rw [if_neg (fun h => e h.symm)]
    unfold DM.nowAt
    rw [List.getD_eq_getElem?_getD]
theorem wrote_left {M : DM} (h : M.left = -1) (i : Nat) (s : ByteArray) : (M.wrote i s).left = -1 := by
  show (if 0 < M.left then M.left - 1 else M.left) = -1
  rw [if_neg (by omega)]; exact h
theorem flushed_left {M : DM} (h : M.left = -1) : M.flushed.left = -1 := by
  show (if 0 < M.left then M.left - 1 else M.left) = -1
  rw [if_neg (by omega)]; exact h
theorem crash_said {M : DM} {keep : List Bool} {t c : Int} {i : Nat} (hi : i < M.sure.length) {s : ByteArray} (hs : (M.crash keep t c).now[i]? = some s) :
    s = M.sureAt i ∨ (M.fresh[i]? = some true ∧ (s = M.nowAt i ∨ ∃ n, n ≤ 64 ∧ s = tear n (M.nowAt i) (M.sureAt i))) := by
  have e : (M.crash keep t c).now[i]? = some (if M.fresh[i]? = some true then M.pick keep t c (M.rank i) i else M.sureAt i) := by
    show ((List.range M.sure.length).map fun i => if M.fresh[i]? = some true then M.pick keep t c (M.rank i) i else M.sureAt i)[i]? = _
    rw [List.getElem?_map, List.getElem?_range hi]; rfl
  rw [e] at hs
  have hs := (Option.some.inj hs).symm
  split at hs
  · rename_i hf
    unfold DM.pick at hs
    split at hs
    · exact .inr ⟨hf, .inl hs⟩
    · split at hs
      · exact .inr ⟨hf, .inr ⟨_, clamp_le _, hs⟩⟩
      · exact .inl hs
  · exact .inl hs
theorem tear_drop {n k : Nat} {x y : ByteArray} (hx : x.size = 64) (hn : n ≤ 64) (hk : n ≤ k) : (tear n x y).data.toList.drop k = y.data.toList.drop k := by
  show (x.data.toList.take n ++ y.data.toList.drop n).drop k = _
  have hl : x.data.toList.length = 64 := by rw [Array.length_toList]; exact hx
  have ht : (x.data.toList.take n).length = n := by rw [List.length_take]; omega
  rw [List.drop_append, List.drop_eq_nil_of_le (by omega), List.nil_append, ht, List.drop_drop]
  congr 1; omega
theorem tear_get {n k : Nat} {x y : ByteArray} (hx : x.size = 64) (hn : n ≤ 64) (hk : k < n) : (tear n x y).data.toList.getD k 0 = x.data.toList.getD k 0 := by
  show (x.data.toList.take n ++ y.data.toList.drop n).getD k 0 = _
  have hl : x.data.toList.length = 64 := by rw [Array.length_toList]; exact hx
  rw [List.getD_eq_getElem?_getD, List.getD_eq_getElem?_getD, List.getElem?_append_left (by rw [List.length_take]; omega), List.getElem?_take, if_pos hk]
theorem str_sub {w : World} {k : Nat} {s : ByteArray} (hb : Blk w k (byteCells s)) (hs : s.size = 64) {j : Nat} (hj : j ≤ 64) : (s.data.toList.drop j).length = 64 - j ∧ ∀ t, t < 64 - j → ∃ ad, subA (some ⟨k, 0, none⟩) j 64 1 = some ad ∧ World.cell? w (ad.add t) = some (.int .u8 ((UInt8.toNat ((s.data.toList.drop j).getD t 0) : Nat) : Int)) := by
  have hl : s.data.toList.length = 64 := by rw [Array.length_toList]; exact hs
  refine ⟨by rw [List.length_drop, hl], fun t ht => ?_⟩
  unfold subA
  rw [if_neg (by omega)]
  refine ⟨_, rfl, ?_⟩
  obtain ⟨_, h⟩ := str_of hb hs
  obtain ⟨ad, e, hc⟩ := h (j + t) (by omega)
  injection e with e
  subst e
  rw [add_mk] at hc
  show World.cell? w ((Addr.add ⟨k, 0, none⟩ (j * 1)).add t) = _
  rw [add_mk, add_mk, show 0 + j * 1 + t = 0 + (j + t) by omega, hc, List.getD_eq_getElem?_getD, List.getD_eq_getElem?_getD, List.getElem?_drop]
theorem unsure_none {M : DM} (ho : ∀ j : Nat, M.fresh[j]? ≠ some true) : M.unsure = [] := by
  apply List.eq_nil_iff_forall_not_mem.2
  intro k hk
  obtain ⟨j, _, _, h⟩ := DM.mem_unsure.1 hk
  exact ho j h

/-- What the law keeps of the last writes. -/
def LastOk (w : World) (bs : List Nat) (M : DM) (l : List Value) : Prop :=
  l.length = 12 ∧ ∀ x, x < 12 → (l[x]? = some (.slice none 0 0) ∧ M.fresh[x]? ≠ some true) ∨ (∃ k s, l[x]? = some (.slice (some ⟨k, 0, none⟩) 64 64) ∧ s.size = 64 ∧ Blk w k (byteCells s) ∧ k ∉ bs ∧ M.nowAt x = s)
structure SureAt (w w' : World) (Z k36 b ms mf : Nat) (M : DM) (l : List Value) : Prop where
  disk : DiskAt w' b ms mf M
  n : M.n = 12
  left : M.left = -1
  fr : Fr [] w w'
  z : Z ≤ w'.heap.size
  sure : ∀ x, x < 12 → M.sureAt x = was x
  blk : Blk w' k36 l
  last : LastOk w' [b, ms, mf, k36] M l

set_option maxHeartbeats 2000000 in
theorem sure_walk (w : World) {a : Option Addr} {cap : Nat} {z : List ByteArray} (hz : RowsC w a z.length z) {kA : Option Addr} {kC : Nat} {keep : List Bool} (hkeep : Row w kA (keep.map .bool)) (c0 c1 : Int) :
    Calls prog 5 #[.slice a z.length cap, .slice kA keep.length kC, .agg #[I64 c0, I64 c1]] w fun e w' => e = .returned (.bool true) ∧ RowKit.Below w.heap.size w w' := by
  refine rhizomelaw03_DiskSure.link fun k1 w2 st2 => (awake_c w2).mono ?_
  rintro e w5 ⟨rfl, f5⟩
  have n1 := g_new1 st2
  have z5 := f5.size
  have below : ∀ w', Fr [] w w' → RowKit.Below w.heap.size w w' := fun w' f => f.below (Nat.le_refl _) (fun x hx => by cases hx)
  have F5 : Fr [] w w5 := st2.fr.trans' f5
  refine ⟨_, rfl, g_keep f5 (fun x hx => by simp at hx; subst hx; exact ⟨by omega, by simp⟩), bF rfl ((new_c w5 12).mono ?_)⟩
  rintro e w8 ⟨_, hgood⟩
  obtain ⟨b, ms, mf, rfl, hnew, f8, hD⟩ := hgood (by omega)
  have z8 := f8.size
  have zw5 := F5.size
  have hn1 := hnew b (by simp)
  have hn2 := hnew ms (by simp)
  have hn3 := hnew mf (by simp)
  have hbs := hD.bs
  have hk1 : k1 ∉ [b, ms, mf] := by simp; omega
  have hW : ∀ x ∈ [b, ms, mf], x ∈ ([] : List Nat) ∨ w.heap.size ≤ x := fun x hx => .inr (by have := hnew x hx; omega)
  refine ⟨_, _, rfl, g_keep f8 (fun x hx => by simp at hx; subst hx; exact ⟨by omega, by simp⟩), fun y11 hy11 => bF rfl (hy11 _ _ (bF rfl ?_))⟩
  clear hy11
  refine ⟨fun m q w' => ∃ (i : Nat) (M : DM), q = i ∧ i ≤ 6 ∧ m = 6 - i ∧ DiskAt w' b ms mf M ∧ M.n = 12 ∧ M.left = -1 ∧ Fr [] w w' ∧ w8.heap.size ≤ w'.heap.size ∧ ∀ x, x < 12 → M.nowAt x = if x < i then round (two x) else zsec, 6,
    ⟨0, _, rfl, by omega, rfl, hD, rfl, rfl, F5.trans' f8, Nat.le_refl _, fun x hx => ?_⟩, ?_⟩
  · show (List.replicate (Int.toNat 12) zsec).getD x zsec = _
    rw [if_neg (by omega), List.getD_eq_getElem?_getD, List.getElem?_replicate]
    split <;> rfl
  rintro m q w18 ⟨i, M, rfl, hi, rfl, hD18, hn, hl, F18, z18, hnow⟩
  have hdd : ¬ M.dead := fun h : M.left = 0 => by omega
  have hlen : M.sure.length = 12 := by have : (M.sure.length : Int) = 12 := hn; omega
  refine ⟨fun hlt k20 w21 st21 bl21 => ?_, fun hge => ?_⟩
  · have hlt : (i : Int) < 6 := of_decide_eq_true hlt
    rw [two_cells (by omega)] at bl21
    refine (bytes_c w21 (bs := two i) (Row.all bl21 (byteCells_one _))).mono ?_
    rintro e w25 ⟨kb, rfl, zk, f25, bb⟩
    have z21 := st21.size
    have z25 := f25.size
    refine ⟨_, _, _, rfl, g_keep f25 (fun x hx => by simp at hx; subst hx; exact ⟨by omega, by simp⟩), (write_b ((hD18.fr st21.fr (by simp)).fr f25 (by simp)) (i : Int) bb (round_size _).symm (by simp; omega)).mono ?_⟩
    rintro e w30 ⟨rfl, f30, hD30⟩
    rw [write_live (by omega) (by rw [hn]; omega) (round_size _) hdd] at hD30 ⊢
    rw [show (i : Int).toNat = i by omega] at hD30
    have z30 := f30.size
    refine ⟨_, rfl, g_keep f30 (fun x hx => by simp at hx; subst hx; exact ⟨by omega, hk1⟩), bF rfl ⟨6 - (i + 1), by omega, i + 1, _, by rw [wrapi (by omega) (by omega)]; simp, by omega, rfl, hD30, hn, wrote_left hl _ _, ((F18.trans' st21.fr).trans' f25).trans f30 hW, by omega, fun x hx => ?_⟩⟩
    rw [wrote_nowAt hD18.ok (by omega)]
    split
    · rename_i e; subst e; rw [if_pos (by omega)]
    · rw [hnow x hx]
      by_cases hxi : x < i
      · rw [if_pos hxi, if_pos (by omega)]
      · rw [if_neg hxi, if_neg (by omega)]
  have hge : ¬ (i : Int) < 6 := of_decide_eq_false hge
  have hi6 : i = 6 := by omega
  subst hi6
  refine (flush_c hD18).mono ?_
  rw [show M.flush = (M.flushed, 0) from by unfold DM.flush; rw [if_neg hdd]]
  rintro e w34 ⟨rfl, f34, hD34⟩
  have z34 := f34.size
  refine ⟨_, rfl, g_keep f34 (fun x hx => by simp at hx; subst hx; exact ⟨by omega, hk1⟩), bF rfl fun k36 w37 st37 bl37 => ?_⟩
  have n36 := g_new1 st37
  have hk36 : k36 ∉ [b, ms, mf] := by simp; omega
  have F37 : Fr [] w w37 := (F18.trans f34 hW).trans' st37.fr
  have hfn : M.flushed.n = 12 := by
    show (M.now.length : Int) = 12
    rw [hD18.ok.now]; exact hn
  have start : SureAt w w37 w37.heap.size k36 b ms mf M.flushed (reps [.slice none 0 0] 12) := by
    refine ⟨hD34.fr st37.fr (by simp), hfn, flushed_left hl, F37, Nat.le_refl _, fun x hx => ?_, bl37, by rw [reps_length]; rfl, fun x hx => .inl ⟨?_, fun h => ?_⟩⟩
    · exact hnow x hx
    · rw [reps_one, List.getElem?_replicate, if_pos hx]
    · have h : (List.replicate M.sure.length false)[x]? = some true := h
      rw [List.getElem?_replicate] at h
      split at h <;> cases h
  refine ⟨fun m q w' => ∃ (i : Nat) (M : DM) (l : List Value), q = i ∧ i ≤ z.length ∧ m = z.length - i ∧ SureAt w w' w37.heap.size k36 b ms mf M l, z.length, ⟨0, _, _, rfl, by omega, rfl, start⟩, ?_⟩
  clear start hfn hnow hD34 hD18 hl hn hlen hdd bl37
  clear M
  rintro m q w44 ⟨i, M, l, rfl, hi, rfl, hS⟩ y46 hy46
  have zS := hS.z
  have hn := hS.n
  have hl := hS.left
  have hdd : ¬ M.dead := fun h : M.left = 0 => by omega
  have hlen : M.sure.length = 12 := by have : (M.sure.length : Int) = 12 := hn; omega
  have done : y46 false w44 := by
    refine hy46 _ _ (bF rfl ⟨⟨by omega, by omega⟩, ⟨by omega, by omega⟩, (crash_c hS.disk (g_row hS.fr hkeep fun ad _ _ => by simp) c0 c1).mono ?_⟩)
    clear hy46
    rintro e w75 ⟨b', ms', mf', rfl, hnew', f75, hC⟩
    have z75 := f75.size
    refine ⟨_, rfl, g_keep f75 (fun x hx => by simp at hx; subst hx; exact ⟨by omega, by simp⟩), bF rfl ?_⟩
    have hClen : (M.crash keep c0 c1).sure.length = 12 := by simp [DM.crash, hlen]
    refine ⟨fun m u q w' => ∃ (i : Nat), q = i ∧ 0 ≤ u ∧ u ≤ i ∧ i ≤ 12 ∧ m = 12 - i ∧ Fr [] w75 w', 12, ⟨0, rfl, by omega, by omega, by omega, rfl, Fr.refl _ _⟩, ?_⟩
    rintro m u q w82 ⟨i, rfl, hu0, hui, hi12, rfl, f82⟩
    have hC82 := hC.fr f82 (by simp)
    have F82 : Fr [] w w82 := (hS.fr.trans' f75).trans' f82
    refine ⟨fun hlt y84 hy84 => ?_, fun hge y182 hy182 => ?_⟩
    · have hlt : (i : Int) < 12 := of_decide_eq_true hlt
      have next : ∀ u' w', 0 ≤ u' → u' ≤ (i : Int) + 1 → Fr [] w82 w' → y84 u' w' := fun u' w' h0 h1 f =>
        hy84 _ _ ⟨12 - (i + 1), by omega, i + 1, by rw [wrapi (by omega) (by omega)]; simp, h0, by simpa using h1, by omega, rfl, f82.trans' f⟩
      clear hy84
      refine ⟨⟨by omega, by omega, by omega, by omega⟩, fun w90 k91 st90 bl90 y94 hy94 => ?_⟩
      have main : ∀ kw w98, Fr [] w82 w98 → Blk w98 kw (byteCells (was i)) → y94 (some ⟨kw, 0, none⟩) 64 64 w98 := fun kw w98 f98 bw => by
        refine hy94 _ _ _ _ ((read_in (hC82.fr f98 (by simp)) (i := i) (by omega)).mono ?_)
        clear hy94
        rintro e w100 ⟨kr, s, hs, h64, rfl, hkr, f100, br⟩
        refine ⟨_, _, _, _, rfl, fun y105 hy105 => bF rfl (hy105 _ _ (bF rfl ?_))⟩
        clear hy105
        have F0 : Fr [] w82 w100 := f98.trans' f100
        have FM : Fr [] w44 w100 := (f75.trans' f82).trans' F0
        have bw100 := bw.fr f100 (by simp)
        obtain ⟨s1, s2⟩ := str_of br h64
        obtain ⟨t1, t2⟩ := str_of bw100 (was_size i)
        refine ⟨s.data.toList, s1, s2, (was i).data.toList, t1, t2, ?_⟩
        rw [mk_str, mk_str]
        refine ⟨fun _ => next _ _ hu0 (by omega) F0, fun hne => ?_⟩
        have hne : ¬ s = was i := of_decide_eq_false hne
        have hsaid := crash_said (by omega) hs
        rw [hS.sure i (by omega)] at hsaid
        rcases hsaid with h | ⟨hfr, hsaid⟩
        · exact absurd h hne
        rcases hS.last.2 i (by omega) with ⟨_, hf⟩ | ⟨kl, sl, hli, hsl64, bl, hkl, hnowl⟩
        · exact absurd hfr hf
        rw [hnowl] at hsaid
        have bl100 := bl.fr FM (by simp)
        have b36 := hS.blk.fr FM (by simp)
        have e0 : (i : Int).toNat * 1 = i := by omega
        have cell36 : ∀ w', Fr [] w100 w' → World.cell? w' (Addr.add ⟨k36, 0, none⟩ ((i : Int).toNat * 1)) = some (.slice (some ⟨kl, 0, none⟩) 64 64) := fun w' f => by
          rw [e0, add_mk, (b36.fr f (by simp)).cell, Nat.zero_add]; exact hli
        refine ⟨⟨by omega, by omega⟩, _, _, _, cell36 _ (Fr.refl _ _), bF rfl ?_⟩
        obtain ⟨v1, v2⟩ := str_of bl100 hsl64
        refine ⟨s.data.toList, s1, s2, ⟨by omega, by omega⟩, _, _, _, cell36 _ (Fr.refl _ _), sl.data.toList, v1, v2, ?_⟩
        rw [mk_str, mk_str]
        refine ⟨fun _ w130 st130 => ?_, fun hne2 => ?_⟩
        · rw [wrapi (by omega) (by omega)]
          exact next _ _ (by omega) (by omega) (F0.trans' st130.fr)
        have hne2 : ¬ s = sl := of_decide_eq_false hne2
        obtain ⟨n, hn64, hst⟩ : ∃ n, n ≤ 64 ∧ s = tear n sl (was i) := by
          rcases hsaid with h | h
          · exact absurd h hne2
          · exact h
        clear hsaid
        refine ⟨fun m q w' => ∃ k : Nat, q = k ∧ k ≤ 64 ∧ m = 64 - k ∧ Fr [] w100 w', 64, fun w134 st => ⟨0, rfl, by omega, rfl, st.fr⟩, ?_⟩
        rintro m q w138 ⟨k, rfl, hk, rfl, f138⟩ y140 hy140
        have stop : ∀ w', Fr [] w100 w' → n ≤ k → y140 false w' := fun w' f hnk => by
          refine hy140 _ _ (bF rfl ?_)
          obtain ⟨p1, p2⟩ := str_sub (br.fr f (by simp)) h64 hk
          obtain ⟨r1, r2⟩ := str_sub (bw100.fr f (by simp)) (was_size i) hk
          refine ⟨⟨by omega, by omega, by omega⟩, s.data.toList.drop k, p1, p2, ⟨by omega, by omega, by omega⟩, (was i).data.toList.drop k, r1, r2, bF ?_ fun w154 st => next _ _ hu0 (by omega) ((F0.trans' f).trans' st.fr)⟩
          rw [hst, tear_drop hsl64 hn64 hnk]; simp
        have go : ∀ w', Fr [] w100 w' → k < 64 → y140 true w' := fun w' f hk' =>
          hy140 _ _ (bT rfl ⟨64 - (k + 1), by omega, k + 1, by rw [wrapi (by omega) (by omega)]; simp, by omega, rfl, f⟩)
        clear hy140
        refine ⟨fun hlt => ?_, fun hge w167 st => stop _ (f138.trans' st.fr) (by have := of_decide_eq_false hge; omega)⟩
        have hlt : (k : Int) < 64 := of_decide_eq_true hlt
        have ek : (k : Int).toNat * 1 = k := by omega
        obtain ⟨_, u2⟩ := str_of (br.fr f138 (by simp)) h64
        obtain ⟨_, x2⟩ := str_of (bl100.fr f138 (by simp)) hsl64
        obtain ⟨ad1, ea1, hc1⟩ := u2 k (by omega)
        obtain ⟨ad2, ea2, hc2⟩ := x2 k (by omega)
        refine ⟨ad1, ea1, ⟨by omega, by omega⟩, _, by rw [ek]; exact hc1, ⟨by omega, by omega⟩, _, _, _, cell36 _ f138, ad2, ea2, ⟨by omega, by omega⟩, _, by rw [ek]; exact hc2, fun w165 st => ?_⟩
        have f165 := f138.trans' st.fr
        cases hq : decide (((UInt8.toNat (s.data.toList.getD k 0) : Nat) : Int) = ((UInt8.toNat (sl.data.toList.getD k 0) : Nat) : Int)) with
        | true => exact go _ f165 (by omega)
        | false =>
          refine stop _ f165 ?_
          apply Nat.le_of_not_lt
          intro hkn
          refine of_decide_eq_false hq ?_
          rw [hst, tear_get hsl64 hn64 hkn]
      clear hy94
      refine ⟨fun h6 k173 w174 st174 bl174 => ?_, fun h6 => ?_⟩
      · have h6 : (i : Int) < 6 := of_decide_eq_true h6
        rw [two_cells (by omega)] at bl174
        refine (bytes_c w174 (bs := two i) (Row.all bl174 (byteCells_one _))).mono ?_
        rintro e w178 ⟨kb, rfl, zk, f178, bb⟩
        refine ⟨_, _, _, rfl, main _ _ ((st90.fr.trans' st174.fr).trans' f178) ?_⟩
        unfold was; rw [if_pos (by omega)]; exact bb
      · have h6 : ¬ (i : Int) < 6 := of_decide_eq_false h6
        refine main _ _ st90.fr ?_
        unfold was; rw [if_neg (by omega), zsec_cells]; exact bl90
    · have hge : ¬ (i : Int) < 12 := of_decide_eq_false hge
      refine bT (decide_eq_true (by omega)) ((unsure_c hC82).mono ?_)
      rintro e w188 ⟨pu, cu, rfl, f188, _, _⟩
      refine ⟨_, _, _, rfl, bT (by rw [unsure_none (fun j => DM.crash_fresh M keep c0 c1 j)]; rfl) ((steps_c (hC82.fr f188 (by simp))).mono ?_)⟩
      rintro e w193 ⟨rfl, rfl⟩
      exact ⟨_, rfl, hy182 _ _ ⟨rfl, below _ (F82.trans' f188)⟩⟩
  refine ⟨fun hlt => ?_, fun _ => done⟩
  have hlt : (i : Int) < (z.length : Int) := of_decide_eq_true hlt
  cases h30 : decide ((i : Int) < 30) with
  | false => exact done
  | true =>
  clear done
  have h30 : (i : Int) < 30 := of_decide_eq_true h30
  refine hy46 _ _ (bT rfl fun y49 hy49 => ?_)
  clear hy46
  have hstep : ∀ w' M' l', SureAt w w' w37.heap.size k36 b ms mf M' l' → y49 w' := fun w' M' l' h =>
    hy49 _ ⟨z.length - (i + 1), by omega, i + 1, M', l', by rw [wrapi (by omega) (by omega)]; simp, by omega, rfl, h⟩
  clear hy49
  obtain ⟨s, ad, A, C, hzi, rfl, hcell, hrow, _, hs1, hs2⟩ := hz.get hS.fr (i := i) (by omega)
  have e0 : (i : Int).toNat * 1 = i := by omega
  refine ⟨ad, rfl, ⟨by omega, hlt⟩, _, _, _, by rw [e0]; exact hcell, fun _ => hstep _ _ _ hS, fun hne => ?_⟩
  have hne : ¬ ((s.size : Nat) : Int) = 0 := of_decide_eq_false hne
  have hpos : 0 < s.size := by omega
  have hpos' : 0 < s.data.size := hpos
  obtain ⟨ad', had⟩ := hrow.has (by rw [byteCells_length]; exact hpos)
  have hc0 := hrow.get had (j := 0) (u := .int .u8 ((s.data[0].toNat : Nat) : Int)) (by rw [byteCells_get, Array.getElem?_eq_getElem hpos']; rfl)
  refine ⟨ad', had, ⟨by omega, by omega⟩, _, hc0, by decide, (bytes_c w44 hrow).mono ?_⟩
  generalize hx0 : s.data[0].toNat = x0
  have hx256 : x0 < 256 := by rw [← hx0]; exact s.data[0].toNat_lt
  have ek : Int.tmod (IntKind.wrap .i64 (x0 : Int)) 12 = ((x0 % 12 : Nat) : Int) := by
    rw [wrapi (by omega) (by omega), Int.tmod_eq_emod_of_nonneg (by omega)]; omega
  rw [ek]
  generalize hk : x0 % 12 = k
  have hk12 : k < 12 := by omega
  have ekk : ((k : Nat) : Int).toNat * 1 = k := by omega
  rw [ekk, add_mk, Nat.zero_add]
  rintro e w61 ⟨kb, rfl, zkb, f61, bb⟩
  have z61 := f61.size
  have hL := hS.last
  have b36 := hS.blk.fr f61 (by simp)
  have hkb : kb ∉ [b, ms, mf, k36] := by simp; omega
  refine ⟨_, _, _, rfl, g_keep f61 (fun x hx => by simp at hx; subst hx; exact ⟨by omega, by simp⟩), ⟨by omega, by omega⟩, l, b36, rfl, by show k + 1 ≤ l.length; rw [hL.1]; omega, by show ¬ k36 ∈ [k1]; simp; omega, fun w66 hu => ?_⟩
  have hu : Upd w61 w66 k36 (l.set k (.slice (some ⟨kb, 0, none⟩) 64 64)) := hu
  have f66 := hu.fr
  have b66 := hu.blk
  have z66 := hu.size
  have hkl : k < l.length := by rw [hL.1]; exact hk12
  refine ⟨⟨by omega, by omega⟩, _, _, _, by rw [b66.cell, List.getElem?_set, if_pos rfl, if_pos hkl], ?_⟩
  have hD66 : DiskAt w66 b ms mf M := (hS.disk.fr f61 (by simp)).fr f66 (by simp at hk36 ⊢; omega)
  have bb66 := bb.fr f66 (by simp at hkb ⊢; omega)
  refine (write_b hD66 (k : Int) bb66 (round_size _).symm (by simp at hkb ⊢; omega)).mono ?_
  rintro e w72 ⟨rfl, f72, hD72⟩
  rw [write_live (by omega) (by rw [hn]; omega) (round_size _) hdd] at hD72 ⊢
  rw [show ((k : Nat) : Int).toNat = k by omega] at hD72
  have z72 := f72.size
  refine ⟨_, rfl, g_keep f72 (fun x hx => by simp at hx; subst hx; exact ⟨by omega, hk1⟩), bF rfl (hstep _ _ _ ⟨hD72, hn, wrote_left hl _ _, ((hS.fr.trans' f61).trans f66 (fun x hx => .inr (by simp at hx; omega))).trans f72 hW, by omega, hS.sure, b66.fr f72 hk36, by rw [List.length_set]; exact hL.1, fun x hx => ?_⟩)⟩
  by_cases hxk : x = k
  · subst hxk
    refine .inr ⟨kb, round s, by rw [List.getElem?_set, if_pos rfl, if_pos hkl], round_size _, bb66.fr f72 (by simp at hkb ⊢; omega), hkb, ?_⟩
    rw [wrote_nowAt hD66.ok (by omega), if_pos rfl]
  · rcases hL.2 x hx with ⟨h1, h2⟩ | ⟨kx, sx, h1, h2, h3, h4, h5⟩
    · refine .inl ⟨by rw [List.getElem?_set, if_neg (fun e => hxk e.symm)]; exact h1, fun hf => h2 ?_⟩
      have hf : (M.fresh.set k true)[x]? = some true := hf
      rw [List.getElem?_set, if_neg (fun e => hxk e.symm)] at hf
      exact hf
    · refine .inr ⟨kx, sx, by rw [List.getElem?_set, if_neg (fun e => hxk e.symm)]; exact h1, h2, ((h3.fr f61 (by simp)).fr f66 (by simp at h4 ⊢; omega)).fr f72 (by simp at h4 ⊢; omega), h4, ?_⟩
      rw [wrote_nowAt hD66.ok (by omega), if_neg hxk]; exact h5

end Go.Proofs.Ytcaamecdhbgknaa.Disk
