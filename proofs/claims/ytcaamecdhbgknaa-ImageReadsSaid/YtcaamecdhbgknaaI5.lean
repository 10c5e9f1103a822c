/- The image, plainly: what saving leaves on the sectors, whole or torn. -/
import Derived.Test.YtcaamecdhbgknaaI4
namespace Go.Proofs.Ytcaamecdhbgknaa.Image
open Go Go.V
open Go.Proofs.Ytcaamecdhbgknaa.Disk
open Go.Proofs.Ytcaamecdhbgknaa.Log
set_option linter.unusedVariables false
set_option linter.unusedSimpArgs false
set_option maxRecDepth 20000

/-! ### heads -/
theorem imgHead_byte (seq size : Int) {j : Nat} (hj : j < 64) : (imgHead seq size).data.getD j 0 = ihByte seq size j := by
  show ((List.range 64).map (ihByte seq size)).toArray.getD j 0 = _
  simp [Array.getD, hj]
theorem be_iseq (seq size : Nat) (hs : seq < 18446744073709551616) : beN (bytesAt (imgHead seq size) 1 8) = seq := by
  have key : ∀ j, j ≤ 8 → beN (bytesAt (imgHead seq size) 1 j) = seq / 2 ^ (64 - 8 * j) := by
    intro j
    induction j with
    | zero =>
      intro _
      show 0 = seq / 2 ^ 64
      omega
    | succ j ih =>
      intro hj
      rw [bytesAt_succ, beN_succ, ih (by omega), imgHead_byte _ _ (by omega)]
      have e : ihByte (seq : Int) (size : Int) (1 + j) = shr (seq : Int) (64 - 8 * (1 + j)) := by
        unfold ihByte
        rw [if_neg (by omega), if_neg (by omega), if_pos (by omega)]
      rw [e, shr_nat]
      have e2 : seq / 2 ^ (64 - 8 * j) = seq / 2 ^ (64 - 8 * (1 + j)) / 256 := by
        rw [Nat.div_div_eq_div_mul]
        congr 1
        rw [show (256 : Nat) = 2 ^ 8 from rfl, ← Nat.pow_add]
        congr 1
        omega
      rw [e2, show 64 - 8 * (1 + j) = 64 - 8 * (j + 1) by omega]
      omega
  have := key 8 (by omega)
  simpa using this
theorem be_isize (seq size : Nat) (hs : size < 4294967296) : beN (bytesAt (imgHead seq size) 9 4) = size := by
  have key : ∀ j, j ≤ 4 → beN (bytesAt (imgHead seq size) 9 j) = size / 2 ^ (32 - 8 * j) := by
    intro j
    induction j with
    | zero =>
      intro _
      show 0 = size / 2 ^ 32
      omega
    | succ j ih =>
      intro hj
      rw [bytesAt_succ, beN_succ, ih (by omega), imgHead_byte _ _ (by omega)]
      have e : ihByte (seq : Int) (size : Int) (9 + j) = shr (size : Int) (96 - 8 * (9 + j)) := by
        unfold ihByte
        rw [if_neg (by omega), if_neg (by omega), if_neg (by omega), if_pos (by omega)]
      rw [e, shr_nat]
      have e2 : size / 2 ^ (32 - 8 * j) = size / 2 ^ (96 - 8 * (9 + j)) / 256 := by
        rw [Nat.div_div_eq_div_mul]
        congr 1
        rw [show (256 : Nat) = 2 ^ 8 from rfl, ← Nat.pow_add]
        congr 1
        omega
      rw [e2, show 96 - 8 * (9 + j) = 32 - 8 * (j + 1) by omega]
      omega
  have := key 4 (by omega)
  simpa using this
theorem iarea_new {now : List ByteArray} {a count seq size : Nat} (hh : now.getD a zsec = imgHead seq size) (h1 : 1 ≤ seq) (h2 : seq ≤ 4611686018427387904) (h3 : size ≤ 64 * (count - 1)) (h4 : size < 4294967296) : iareaAt now a count = (seq, size) := by
  unfold iareaAt
  simp only [hh, be_iseq seq size (by omega), be_isize seq size h4]
  rw [if_pos ⟨h1, h2, h3, trivial⟩]
theorem iarea_congr {now now' : List ByteArray} {a count : Nat} (h : now'.getD a zsec = now.getD a zsec) : iareaAt now' a count = iareaAt now a count := by
  unfold iareaAt
  simp only [h]
theorem iarea_none {now : List ByteArray} {a count : Nat} (h : (now.getD a zsec).data.getD 0 0 ≠ 73 ∨ (now.getD a zsec).data.getD 63 0 ≠ 90) : iareaAt now a count = (0, 0) := by
  unfold iareaAt
  simp only
  rw [if_neg]
  rintro ⟨_, _, _, he⟩
  rcases h with h | h
  · apply h
    rw [he, imgHead_byte _ _ (by omega)]; rfl
  · apply h
    rw [he, imgHead_byte _ _ (by omega)]; rfl
theorem zsec_byte (j : Nat) : zsec.data.getD j 0 = 0 := by
  show (Array.replicate 64 (0 : UInt8)).getD j 0 = 0
  rw [Array.getD_eq_getD_getElem?, Array.getElem?_replicate]
  split <;> rfl
theorem iarea_zero {now : List ByteArray} {a count : Nat} (h : now.getD a zsec = zsec) : iareaAt now a count = (0, 0) := iarea_none (.inl (by rw [h, zsec_byte]; decide))
/-- What was torn while zeros were written. -/
theorem iarea_tear0 {now : List ByteArray} {a count c : Nat} {y : ByteArray} (hc : c ≠ 0) (h : now.getD a zsec = tear c zsec y) : iareaAt now a count = (0, 0) := by
  refine iarea_none (.inl ?_)
  have : (tear c zsec y).data.getD 0 0 = 0 := by
    show ((zsec.data.toList.take c ++ y.data.toList.drop c).toArray).getD 0 0 = 0
    have hz : zsec.data.toList = List.replicate 64 0 := by decide +kernel
    rw [hz, List.take_replicate]
    obtain ⟨m, hm⟩ : ∃ m, min c 64 = m + 1 := ⟨min c 64 - 1, by omega⟩
    rw [hm, List.replicate_succ]; rfl
  rw [h, this]; decide
/-- What was torn while a head was written over zeros. -/
theorem iarea_tear1 {now : List ByteArray} {a count c : Nat} {x : ByteArray} (hc : c < 64) (h : now.getD a zsec = tear c x zsec) : iareaAt now a count = (0, 0) := by
  refine iarea_none (.inr ?_)
  have : (tear c x zsec).data.getD 63 0 = 0 := by
    show ((x.data.toList.take c ++ zsec.data.toList.drop c).toArray).getD 63 0 = 0
    have hz : zsec.data.toList = List.replicate 64 0 := by decide +kernel
    rw [hz, List.drop_replicate, Array.getD_eq_getD_getElem?, List.getElem?_toArray]
    rcases Nat.lt_or_ge 63 (x.data.toList.take c).length with hl | hl
    · rw [List.length_take] at hl; omega
    · rw [List.getElem?_append_right hl, List.getElem?_replicate]
      split <;> rfl
  rw [h, this]; decide
theorem tear_zero' (x y : ByteArray) : tear 0 x y = y := by
  apply byteCells_inj
  rw [tear_cells]; simp

/-! ### which area counts -/
def cnt (a b : Nat × Nat) : Nat × Nat × Nat := if b.1 ≤ a.1 ∧ 0 < a.1 then (0, a) else (1, b)
theorem icounts_cnt (now : List ByteArray) (first count : Nat) : icounts now first count = cnt (iareaAt now first count) (iareaAt now (first + count) count) := rfl
theorem idata_congr {now now' : List ByteArray} {a size : Nat} (h : ∀ i, i < secs size → now'.getD (a + 1 + i) zsec = now.getD (a + 1 + i) zsec) : idata now' a size = idata now a size := by
  unfold idata
  rw [catL_congr (a + 1) (secs size) h]
theorem idata_new {now : List ByteArray} {a : Nat} {data : ByteArray} (h : ∀ i, i < secs data.size → now.getD (a + 1 + i) zsec = chunk data i) : idata now a data.size = data := chunks_back data now (a + 1) h

/-- The area that doesn't count is turned; what counts stays. -/
theorem iload_other {now now' : List ByteArray} {first count : Nat} (hc : 2 ≤ count) (hsame : ∀ j, first + (icounts now first count).1 * count ≤ j → j < first + (icounts now first count).1 * count + count → now'.getD j zsec = now.getD j zsec)
    (ho : iareaAt now' (first + (1 - (icounts now first count).1) * count) count = (0, 0) ∨ iareaAt now' (first + (1 - (icounts now first count).1) * count) count = iareaAt now (first + (1 - (icounts now first count).1) * count) count) :
    icounts now' first count = icounts now first count ∧ iload now' first count = iload now first count := by
  have e : icounts now' first count = icounts now first count := by
    have hk := (icounts_le now first count).1
    rw [icounts_cnt] at hk hsame ho ⊢
    rw [icounts_cnt]
    have la := iarea_le now first count
    generalize ha : iareaAt now first count = a at *
    generalize hb : iareaAt now (first + count) count = b at *
    by_cases h : b.1 ≤ a.1 ∧ 0 < a.1
    · have e : cnt a b = (0, a) := by unfold cnt; rw [if_pos h]
      rw [e] at hsame ho ⊢
      simp only [Nat.zero_mul, Nat.add_zero, Nat.sub_zero, Nat.one_mul] at hsame ho
      have e1 : iareaAt now' first count = a := by rw [← ha]; exact iarea_congr (hsame first (by omega) (by omega))
      rw [e1]
      rcases ho with ho | ho
      · rw [ho]; unfold cnt; rw [if_pos ⟨by simp, h.2⟩]
      · rw [ho, hb]; exact e
    · have e : cnt a b = (1, b) := by unfold cnt; rw [if_neg h]
      rw [e] at hsame ho ⊢
      simp only [Nat.one_mul, Nat.sub_self, Nat.zero_mul, Nat.add_zero] at hsame ho
      have e1 : iareaAt now' (first + count) count = b := by rw [← hb]; exact iarea_congr (hsame (first + count) (by omega) (by omega))
      rw [e1]
      rcases ho with ho | ho
      · rw [ho]; unfold cnt; rw [if_neg (by rintro ⟨_, h2⟩; simp at h2)]
      · rw [ho, ha]; exact e
  refine ⟨e, ?_⟩
  unfold iload
  simp only
  rw [e]
  have hl := icounts_le now first count
  split
  · rfl
  · congr 2
    refine idata_congr fun i hi => hsame _ (by omega) ?_
    have hs : secs (icounts now first count).2.2 = ((icounts now first count).2.2 + 63) / 64 := rfl
    omega
/-- The area that doesn't count has a newer image. -/
theorem iload_new {now now' : List ByteArray} {first count seq : Nat} {data : ByteArray} (hc : 2 ≤ count) (hsame : ∀ j, first + (icounts now first count).1 * count ≤ j → j < first + (icounts now first count).1 * count + count → now'.getD j zsec = now.getD j zsec)
    (hh : now'.getD (first + (1 - (icounts now first count).1) * count) zsec = imgHead seq data.size) (hd : ∀ i, i < secs data.size → now'.getD (first + (1 - (icounts now first count).1) * count + 1 + i) zsec = chunk data i)
    (h1 : (icounts now first count).2.1 < seq) (h2 : seq ≤ 4611686018427387904) (h3 : data.size ≤ 64 * (count - 1)) (h4 : data.size < 4294967296) :
    icounts now' first count = (1 - (icounts now first count).1, seq, data.size) ∧ iload now' first count = (seq, data, true) := by
  have hn := iarea_new (count := count) hh (by omega) h2 h3 h4
  have hdat := idata_new hd
  have e : icounts now' first count = (1 - (icounts now first count).1, seq, data.size) := by
    rw [icounts_cnt] at hsame hn h1 ⊢
    rw [icounts_cnt]
    generalize ha : iareaAt now first count = a at *
    generalize hb : iareaAt now (first + count) count = b at *
    by_cases h : b.1 ≤ a.1 ∧ 0 < a.1
    · have e : cnt a b = (0, a) := by unfold cnt; rw [if_pos h]
      rw [e] at hsame hn h1 ⊢
      simp only [Nat.zero_mul, Nat.add_zero, Nat.sub_zero, Nat.one_mul] at hsame hn h1 ⊢
      have e1 : iareaAt now' first count = a := by rw [← ha]; exact iarea_congr (hsame first (by omega) (by omega))
      rw [e1, hn]
      unfold cnt
      rw [if_neg (by rintro ⟨h5, _⟩; simp at h5; omega)]
    · have e : cnt a b = (1, b) := by unfold cnt; rw [if_neg h]
      rw [e] at hsame hn h1 ⊢
      simp only [Nat.one_mul, Nat.sub_self, Nat.zero_mul, Nat.add_zero] at hsame hn h1 ⊢
      have e1 : iareaAt now' (first + count) count = b := by rw [← hb]; exact iarea_congr (hsame (first + count) (by omega) (by omega))
      rw [e1, hn]
      unfold cnt
      rw [if_pos ⟨by simp; omega, by simp; omega⟩]
  refine ⟨e, ?_⟩
  unfold iload
  simp only
  rw [e]
  simp only
  rw [if_neg (by omega), hdat]

/-! ### writing, and a flush -/
def Quiet (M : DM) : Prop := ∀ j, M.now.getD j zsec = M.sure.getD j zsec
theorem writes_any : ∀ (l : List (Int × ByteArray)) {M : DM}, M.Ok → ∀ j : Nat, (Log.writes M l).1.now.getD j zsec = M.now.getD j zsec ∨ ∃ s, ((j : Int), s) ∈ l ∧ (Log.writes M l).1.now.getD j zsec = s := by
  intro l
  induction l with
  | nil => intro M _ j; exact .inl rfl
  | cons p l ih =>
    obtain ⟨i, s⟩ := p
    intro M hok j
    have one : (M.write i s).1.now.getD j zsec = M.now.getD j zsec ∨ (i = (j : Int) ∧ (M.write i s).1.now.getD j zsec = s) := by
      unfold DM.write
      split
      · exact .inl rfl
      · split
        · exact .inl rfl
        · rename_i h1 h2
          have h1 : ¬ (i < 0 ∨ (M.sure.length : Int) ≤ i ∨ s.size ≠ 64) := h1
          show (M.now.set i.toNat s).getD j zsec = _ ∨ _ ∧ (M.now.set i.toNat s).getD j zsec = _
          rw [upd_getD _ _ _ _ (by rw [hok.now]; omega)]
          by_cases e : i.toNat = j
          · rw [if_pos e]
            exact .inr ⟨by omega, rfl⟩
          · rw [if_neg e]; exact .inl rfl
    unfold Log.writes
    split
    · rcases ih (DM.Ok.write' hok i s) j with e | ⟨t, ht, e⟩
      · rw [e]
        rcases one with e2 | ⟨e2, e3⟩
        · exact .inl e2
        · exact .inr ⟨s, by rw [← e2]; exact List.mem_cons_self, e3⟩
      · exact .inr ⟨t, List.mem_cons_of_mem _ ht, e⟩
    · rcases one with e2 | ⟨e2, e3⟩
      · exact .inl e2
      · exact .inr ⟨s, by rw [← e2]; exact List.mem_cons_self, e3⟩
/-- What a disk may hold behind a crash. -/
structure Stage (M W : DM) (l : List (Int × ByteArray)) (code : Int) : Prop where
  ok : W.Ok
  n : W.n = M.n
  good : code = 0 → Quiet W ∧ (∀ j : Nat, (∀ p ∈ l, p.1 ≠ (j : Int)) → W.now.getD j zsec = M.now.getD j zsec) ∧ ∀ (j : Nat) s, ((j : Int), s) ∈ l → (∀ s', ((j : Int), s') ∈ l → s' = s) → W.now.getD j zsec = s
  bad : code ≠ 0 → code = 30
  oth : ∀ keep torn cut (j : Nat), (∀ p ∈ l, p.1 ≠ (j : Int)) → (W.crash keep torn cut).now.getD j zsec = M.now.getD j zsec
  one : ∀ keep torn cut (j : Nat) s, (∀ s', ((j : Int), s') ∈ l → s' = s) → (W.crash keep torn cut).now.getD j zsec = s ∨ (W.crash keep torn cut).now.getD j zsec = M.now.getD j zsec ∨ ∃ c, c ≤ 64 ∧ (W.crash keep torn cut).now.getD j zsec = tear c s (M.now.getD j zsec)
theorem crash_now (M : DM) (keep : List Bool) (torn cut : Int) : (M.crash keep torn cut).now = (M.crash keep torn cut).sure := rfl
theorem wflush_stage {M : DM} (hok : M.Ok) (hq : Quiet M) {l : List (Int × ByteArray)} (hv : ∀ p ∈ l, 0 ≤ p.1 ∧ p.1 < M.n ∧ p.2.size = 64) : Stage M (wflush M l).1 l (wflush M l).2 := by
  have we := writes_eff l hok hv
  have wa := writes_any l hok
  have wn := wflush_n hok l
  have wo := wflush_ok hok l
  have wsame : ∀ (j : Nat), (∀ p ∈ l, p.1 ≠ (j : Int)) → (Log.writes M l).1.now.getD j zsec = (Log.writes M l).1.sure.getD j zsec := fun j hj => by
    rw [we.oth j hj, we.sure, hq j]
  have woth : ∀ keep torn cut (j : Nat), (∀ p ∈ l, p.1 ≠ (j : Int)) → ((Log.writes M l).1.crash keep torn cut).now.getD j zsec = M.now.getD j zsec := fun keep torn cut j hj => by
    rw [crash_now, crash_same (wsame j hj), ← wsame j hj]
    exact we.oth j hj
  have wone : ∀ keep torn cut (j : Nat) s, (∀ s', ((j : Int), s') ∈ l → s' = s) → ((Log.writes M l).1.crash keep torn cut).now.getD j zsec = s ∨ ((Log.writes M l).1.crash keep torn cut).now.getD j zsec = M.now.getD j zsec ∨ ∃ c, c ≤ 64 ∧ ((Log.writes M l).1.crash keep torn cut).now.getD j zsec = tear c s (M.now.getD j zsec) := fun keep torn cut j s hu => by
    rw [crash_now]
    have hs : (Log.writes M l).1.sure.getD j zsec = M.now.getD j zsec := by rw [we.sure, hq j]
    rcases wa j with e | ⟨t, ht, e⟩
    · rw [crash_same (e.trans hs.symm), hs]
      exact .inr (.inl rfl)
    · rw [hu t ht] at e
      rcases crash_three (Log.writes M l).1 keep torn cut j with h | h | ⟨c, hc, h⟩
      · exact .inl (h.trans e)
      · exact .inr (.inl (h.trans hs))
      · exact .inr (.inr ⟨c, hc, by rw [h, e, hs]⟩)
  by_cases hc : (Log.writes M l).2 = 0
  · have e1 : wflush M l = (Log.writes M l).1.flush := by unfold wflush; rw [if_pos hc]
    by_cases hd : (Log.writes M l).1.dead
    · have e2 : (Log.writes M l).1.flush = ((Log.writes M l).1, 30) := by unfold DM.flush; rw [if_pos hd]
      rw [e1, e2] at wn wo ⊢
      exact ⟨wo, wn, fun h => absurd h (show ¬ (30 : Int) = 0 by decide), fun _ => rfl, woth, wone⟩
    · have e2 : (Log.writes M l).1.flush = ((Log.writes M l).1.flushed, 0) := by unfold DM.flush; rw [if_neg hd]
      rw [e1, e2] at wn wo ⊢
      have same : ∀ keep torn cut (j : Nat), ((Log.writes M l).1.flushed.crash keep torn cut).now.getD j zsec = (Log.writes M l).1.now.getD j zsec := fun keep torn cut j => by
        rw [crash_now, crash_same rfl]; rfl
      refine ⟨wo, wn, fun _ => ⟨fun _ => rfl, we.oth, we.all hc⟩, fun h => absurd rfl h, fun keep torn cut j hj => ?_, fun keep torn cut j s hu => ?_⟩
      · rw [same]; exact we.oth j hj
      · rw [same]
        rcases wa j with e | ⟨t, ht, e⟩
        · exact .inr (.inl e)
        · rw [hu t ht] at e; exact .inl e
  · have e1 : wflush M l = Log.writes M l := by unfold wflush; rw [if_neg hc]
    rw [e1] at wn wo ⊢
    exact ⟨wo, wn, fun h => absurd h hc, fun h => (we.bad h).1, woth, wone⟩
theorem wflush_alive {M : DM} (hok : M.Ok) (hl : M.left < 0) {l : List (Int × ByteArray)} (hv : ∀ p ∈ l, 0 ≤ p.1 ∧ p.1 < M.n ∧ p.2.size = 64) : (wflush M l).2 = 0 ∧ (wflush M l).1.left = M.left := by
  obtain ⟨a1, a2⟩ := writes_alive l hl hv
  unfold wflush
  rw [if_pos a1]
  obtain ⟨b1, b2⟩ := flush_alive (M := (Log.writes M l).1) (by omega)
  exact ⟨b1, by omega⟩

/-! ### saving -/
theorem zipAt_mem {at0 : Nat} {l : List ByteArray} {p : Int × ByteArray} : p ∈ zipAt (at0 : Int) l ↔ ∃ i, i < l.length ∧ p = (((at0 + i : Nat) : Int), l.getD i zsec) := by
  unfold zipAt
  rw [List.mem_map]
  constructor
  · rintro ⟨i, hi, rfl⟩
    exact ⟨i, List.mem_range.1 hi, by simp⟩
  · rintro ⟨i, hi, rfl⟩
    exact ⟨i, List.mem_range.2 hi, by simp⟩
theorem sectorsOf_len (data : ByteArray) : (sectorsOf data).length = secs data.size := by simp [sectorsOf]
theorem sectorsOf_get (data : ByteArray) {i : Nat} (hi : i < secs data.size) : (sectorsOf data).getD i zsec = chunk data i := by
  unfold sectorsOf
  rw [List.getD_eq_getElem?_getD, List.getElem?_map, List.getElem?_range hi]; rfl

structure Saved (M W : DM) (first count : Nat) (seq : Nat) (data : ByteArray) (code : Int) : Prop where
  ok : W.Ok
  n : W.n = M.n
  bad : code ≠ 0 → code = 30
  good : code = 0 → Quiet W ∧ icounts W.now first count = (1 - (icounts M.now first count).1, seq, data.size) ∧ iload W.now first count = (seq, data, true) ∧
    ∀ j : Nat, (j < first + (1 - (icounts M.now first count).1) * count ∨ first + (1 - (icounts M.now first count).1) * count + count ≤ j) → W.now.getD j zsec = M.now.getD j zsec
  after : ∀ keep torn cut, iload (W.crash keep torn cut).now first count = (seq, data, true) ∨ (code ≠ 0 ∧ iload (W.crash keep torn cut).now first count = iload M.now first count)

theorem isave_all {M : DM} {first count seq : Nat} {data : ByteArray} (hok : M.Ok) (hq : Quiet M) (hc : 2 ≤ count) (hhi : first + 2 * count ≤ M.sure.length) (h1 : (icounts M.now first count).2.1 < seq) (h2 : seq ≤ 4611686018427387904) (h3 : data.size ≤ 64 * (count - 1)) :
    Saved M (isave M first count seq data).1 first count seq data (isave M first count seq data).2 ∧ (M.left < 0 → (isave M first count seq data).2 = 0 ∧ (isave M first count seq data).1.left = M.left) := by
  have hn4 := hok.hi
  have hMn : M.n = (M.sure.length : Int) := rfl
  have hK := (icounts_le M.now first count).1
  have other := fun now' => iload_other (now := M.now) (now' := now') (first := first) hc
  have newer := fun now' => iload_new (now := M.now) (now' := now') (first := first) (seq := seq) (data := data) hc
  unfold isave
  simp only
  rw [if_neg (by show ¬ ((seq : Int) < 1 ∨ MOST < (seq : Int)); rintro (h | h); omega; exact absurd h (by show ¬ (4611686018427387904 : Int) < _; omega)), if_neg (by omega), if_neg (by omega)]
  have hkc : (1 - (icounts M.now first count).1) * count ≤ count := by
    have := Nat.mul_le_mul_right count (show 1 - (icounts M.now first count).1 ≤ 1 by omega)
    omega
  have hkc2 : (icounts M.now first count).1 * count ≤ count := by
    have := Nat.mul_le_mul_right count hK
    omega
  -- the two areas are apart
  have apart : ∀ j, first + (icounts M.now first count).1 * count ≤ j → j < first + (icounts M.now first count).1 * count + count → (j < first + (1 - (icounts M.now first count).1) * count ∨ first + (1 - (icounts M.now first count).1) * count + count ≤ j) := fun j g1 g2 => by
    rcases Nat.eq_zero_or_pos (icounts M.now first count).1 with e | e
    · rw [e] at g1 g2 ⊢; simp at g1 g2 ⊢; omega
    · have e : (icounts M.now first count).1 = 1 := by omega
      rw [e] at g1 g2 ⊢; simp at g1 g2 ⊢; omega
  generalize hat : first + (1 - (icounts M.now first count).1) * count = a0 at *
  have hsS : secs data.size = (data.size + 63) / 64 := rfl
  have m1 : ∀ (s : ByteArray) (p : Int × ByteArray), p ∈ zipAt (a0 : Int) [s] → p = ((a0 : Int), s) := fun s p hp => by
    obtain ⟨i, hi, rfl⟩ := zipAt_mem.1 hp
    have : i = 0 := by simp at hi; omega
    subst this; rfl
  have m1' : ∀ s : ByteArray, ((a0 : Int), s) ∈ zipAt (a0 : Int) [s] := fun s => zipAt_mem.2 ⟨0, by simp, by simp⟩
  have m2 : ∀ p, p ∈ zipAt ((a0 + 1 : Nat) : Int) (sectorsOf data) → ∃ i, i < secs data.size ∧ p = (((a0 + 1 + i : Nat) : Int), chunk data i) := fun p hp => by
    obtain ⟨i, hi, rfl⟩ := zipAt_mem.1 hp
    rw [sectorsOf_len] at hi
    exact ⟨i, hi, by rw [sectorsOf_get data hi]⟩
  have v1 : ∀ (W : DM) (s : ByteArray), W.n = M.n → s.size = 64 → ∀ p ∈ zipAt (a0 : Int) [s], 0 ≤ p.1 ∧ p.1 < W.n ∧ p.2.size = 64 := fun W s hW hs p hp => by
    rw [m1 s p hp]; exact ⟨by show (0 : Int) ≤ a0; omega, by show (a0 : Int) < W.n; omega, hs⟩
  have v2 : ∀ (W : DM), W.n = M.n → ∀ p ∈ zipAt ((a0 + 1 : Nat) : Int) (sectorsOf data), 0 ≤ p.1 ∧ p.1 < W.n ∧ p.2.size = 64 := fun W hW p hp => by
    obtain ⟨i, hi, rfl⟩ := m2 p hp
    exact ⟨by show (0 : Int) ≤ ((a0 + 1 + i : Nat) : Int); omega, by show ((a0 + 1 + i : Nat) : Int) < W.n; omega, chunk_size _ _⟩
  have z64 : zsec.size = 64 := zsec_size
  have h64 := imgHead_size (seq : Int) (data.size : Int)
  have S1 := wflush_stage hok hq (v1 M zsec rfl z64)
  have A1 := fun hl : M.left < 0 => wflush_alive hok hl (v1 M zsec rfl z64)
  generalize wflush M (zipAt (a0 : Int) [zsec]) = r1 at *
  have off1 : ∀ (s : ByteArray) (j : Nat), j ≠ a0 → ∀ p ∈ zipAt (a0 : Int) [s], p.1 ≠ (j : Int) := fun s j hj p hp => by
    rw [m1 s p hp]; show (a0 : Int) ≠ j; omega
  have off2 : ∀ j : Nat, (j < a0 + 1 ∨ a0 + 1 + secs data.size ≤ j) → ∀ p ∈ zipAt ((a0 + 1 : Nat) : Int) (sectorsOf data), p.1 ≠ (j : Int) := fun j hj p hp => by
    obtain ⟨i, hi, rfl⟩ := m2 p hp
    show ((a0 + 1 + i : Nat) : Int) ≠ j; omega
  have un1 : ∀ s s' : ByteArray, ((a0 : Int), s') ∈ zipAt (a0 : Int) [s] → s' = s := fun s s' h => by
    have := m1 s _ h; injection this
  by_cases c1 : r1.2 = 0
  case neg =>
    rw [if_pos c1]
    refine ⟨⟨S1.ok, S1.n, S1.bad, fun h => absurd h c1, fun keep torn cut => .inr ⟨c1, ?_⟩⟩, fun hl => absurd (A1 hl).1 c1⟩
    refine (other _ (fun j g1 g2 => S1.oth keep torn cut j (off1 zsec j (by have := apart j g1 g2; omega))) ?_).2
    rcases S1.one keep torn cut a0 zsec (un1 zsec) with e | e | ⟨c, hcc, e⟩
    · exact .inl (iarea_zero e)
    · exact .inr (iarea_congr e)
    · by_cases h0 : c = 0
      · subst h0; rw [tear_zero'] at e; exact .inr (iarea_congr e)
      · exact .inl (iarea_tear0 h0 e)
  rw [if_neg (by simp [c1])]
  obtain ⟨q1, o1, w1⟩ := S1.good c1
  have hd1 : r1.1.now.getD a0 zsec = zsec := w1 a0 zsec (m1' zsec) (un1 zsec)
  have S2 := wflush_stage S1.ok q1 (v2 r1.1 S1.n)
  have A2 := fun hl : r1.1.left < 0 => wflush_alive S1.ok hl (v2 r1.1 S1.n)
  generalize wflush r1.1 (zipAt ((a0 + 1 : Nat) : Int) (sectorsOf data)) = r2 at *
  by_cases c2 : r2.2 = 0
  case neg =>
    rw [if_pos c2]
    refine ⟨⟨S2.ok, S2.n.trans S1.n, S2.bad, fun h => absurd h c2, fun keep torn cut => .inr ⟨c2, ?_⟩⟩, fun hl => absurd (A2 (by have := (A1 hl).2; omega)).1 c2⟩
    refine (other _ (fun j g1 g2 => ?_) (.inl (iarea_zero ?_))).2
    · have := apart j g1 g2
      rw [S2.oth keep torn cut j (off2 j (by omega))]
      exact o1 j (off1 zsec j (by omega))
    · rw [S2.oth keep torn cut a0 (off2 a0 (by omega))]
      exact hd1
  rw [if_neg (by simp [c2])]
  obtain ⟨q2, o2, w2⟩ := S2.good c2
  have data2 : ∀ i, i < secs data.size → r2.1.now.getD (a0 + 1 + i) zsec = chunk data i := fun i hi => by
    refine w2 (a0 + 1 + i) _ (zipAt_mem.2 ⟨i, by rw [sectorsOf_len]; exact hi, by rw [sectorsOf_get data hi]⟩) fun s' hs' => ?_
    obtain ⟨i', hi', e⟩ := m2 _ hs'
    injection e with e1 e2
    have : i' = i := by omega
    rw [e2, this]
  have hd2 : r2.1.now.getD a0 zsec = zsec := (o2 a0 (off2 a0 (by omega))).trans hd1
  have oth2 : ∀ j, (j < a0 ∨ a0 + count ≤ j) → r2.1.now.getD j zsec = M.now.getD j zsec := fun j hj => by
    rw [o2 j (off2 j (by omega))]
    exact o1 j (off1 zsec j (by omega))
  have S3 := wflush_stage S2.ok q2 (v1 r2.1 (imgHead (seq : Int) data.size) (S2.n.trans S1.n) h64)
  have A3 := fun hl : r2.1.left < 0 => wflush_alive S2.ok hl (v1 r2.1 (imgHead (seq : Int) data.size) (S2.n.trans S1.n) h64)
  generalize wflush r2.1 (zipAt (a0 : Int) [imgHead (seq : Int) data.size]) = r3 at *
  refine ⟨⟨S3.ok, S3.n.trans (S2.n.trans S1.n), S3.bad, fun h => ?_, fun keep torn cut => ?_⟩, fun hl => ?_⟩
  · obtain ⟨q3, o3, w3⟩ := S3.good h
    have hd3 := w3 a0 _ (m1' (imgHead (seq : Int) data.size)) (un1 _)
    obtain ⟨n1, n2⟩ := newer r3.1.now (fun j g1 g2 => by
      have := apart j g1 g2
      rw [o3 j (off1 _ j (by omega))]; exact oth2 j this) hd3 (fun i hi => by rw [o3 _ (off1 _ _ (by omega))]; exact data2 i hi) h1 h2 h3 (by omega)
    exact ⟨q3, n1, n2, fun j hj => by
      rw [hat] at hj
      rw [o3 j (off1 _ j (by omega))]; exact oth2 j hj⟩
  · have new : (r3.1.crash keep torn cut).now.getD a0 zsec = imgHead (seq : Int) data.size → iload (r3.1.crash keep torn cut).now first count = (seq, data, true) := fun hh =>
      (newer _ (fun j g1 g2 => by
        have := apart j g1 g2
        rw [S3.oth keep torn cut j (off1 _ j (by omega))]; exact oth2 j this) hh (fun i hi => by rw [S3.oth keep torn cut _ (off1 _ _ (by omega))]; exact data2 i hi) h1 h2 h3 (by omega)).2
    have old : iareaAt (r3.1.crash keep torn cut).now a0 count = (0, 0) → iload (r3.1.crash keep torn cut).now first count = iload M.now first count := fun ha =>
      (other _ (fun j g1 g2 => by
        have := apart j g1 g2
        rw [S3.oth keep torn cut j (off1 _ j (by omega))]; exact oth2 j this) (.inl ha)).2
    by_cases h : r3.2 = 0
    · left
      obtain ⟨q3, o3, w3⟩ := S3.good h
      have hd3 := w3 a0 _ (m1' (imgHead (seq : Int) data.size)) (un1 _)
      refine new ?_
      rw [crash_now, crash_same (q3 a0), ← q3 a0]
      exact hd3
    · rcases S3.one keep torn cut a0 _ (un1 (imgHead (seq : Int) data.size)) with e | e | ⟨c, hcc, e⟩
      · exact .inl (new e)
      · exact .inr ⟨h, old (iarea_zero (e.trans hd2))⟩
      · rw [hd2] at e
        by_cases h64' : c = 64
        · subst h64'
          rw [tear64 _ _ h64 z64] at e
          exact .inl (new e)
        · exact .inr ⟨h, old (iarea_tear1 (by omega) e)⟩
  · have a1 := (A1 hl).2
    have a2 := (A2 (by omega)).2
    have a3 := A3 (by omega)
    exact ⟨a3.1, by omega⟩
end Go.Proofs.Ytcaamecdhbgknaa.Image
