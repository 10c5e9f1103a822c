/- The log, plainly: heads and data that are read back; records that stay where sectors stay. -/
import Derived.Test.YtcaamecdhbgknaaGA
namespace Go.Proofs.Ytcaamecdhbgknaa.Log
open Go Go.V
open Go.Proofs.Ytcaamecdhbgknaa.Disk
set_option linter.unusedVariables false
set_option linter.unusedSimpArgs false
set_option maxRecDepth 20000

/-! ### Numbers and bytes -/
theorem shr_nat (n k : Nat) : (shr (n : Int) k).toNat = n / 2 ^ k % 256 := by
  unfold shr
  have h : (0 : Int) ≤ 2 ^ k := Int.pow_nonneg (by omega)
  have e : (n : Int).fdiv (2 ^ k) = ((n / 2 ^ k : Nat) : Int) := by
    rw [Int.fdiv_eq_ediv_of_nonneg _ h]; simp
  rw [e, UInt8.toNat_ofNat']
  omega
theorem logHead_byte (seq size : Int) {j : Nat} (hj : j < 64) : (logHead seq size).data.getD j 0 = hdByte 82 165 seq size j := by
  show ((List.range 64).map (hdByte 82 165 seq size)).toArray.getD j 0 = _
  simp [Array.getD, hj]
theorem be_seq (seq size : Nat) (hs : seq < 18446744073709551616) : beN (bytesAt (logHead seq size) 1 8) = seq := by
  have key : ∀ j, j ≤ 8 → beN (bytesAt (logHead seq size) 1 j) = seq / 2 ^ (64 - 8 * j) := by
    intro j
    induction j with
    | zero =>
      intro _
      show 0 = seq / 2 ^ 64
      omega
    | succ j ih =>
      intro hj
      rw [bytesAt_succ, beN_succ, ih (by omega), logHead_byte _ _ (by omega)]
      have e : hdByte 82 165 (seq : Int) (size : Int) (1 + j) = shr (seq : Int) (64 - 8 * (1 + j)) := by
        unfold hdByte
        rw [if_neg (by omega), if_neg (by omega), if_pos (by omega)]
      rw [e, shr_nat]
      have e2 : seq / 2 ^ (64 - 8 * j) = seq / 2 ^ (64 - 8 * (1 + j)) / 256 := by
        rw [Nat.div_div_eq_div_mul]
        congr 1
        rw [show (256 : Nat) = 2 ^ 8 from rfl, ← Nat.pow_add]
        congr 1
        omega
      rw [e2, show 64 - 8 * (1 + j) = 64 - 8 * (j + 1) by omega]
      omega
  have := key 8 (by omega)
  simpa using this
theorem be_size (seq size : Nat) (hs : size < 65536) : beN (bytesAt (logHead seq size) 9 2) = size := by
  have e9 : (logHead (seq : Int) (size : Int)).data.getD 9 0 = shr (size : Int) 8 := by rw [logHead_byte _ _ (by omega)]; rfl
  have e10 : (logHead (seq : Int) (size : Int)).data.getD 10 0 = shr (size : Int) 0 := by rw [logHead_byte _ _ (by omega)]; rfl
  have : beN (bytesAt (logHead seq size) 9 2) = ((logHead (seq : Int) (size : Int)).data.getD 9 0).toNat * 256 + ((logHead (seq : Int) (size : Int)).data.getD 10 0).toNat := by
    simp [bytesAt, beN, List.range, List.range.loop]
  rw [this, e9, e10, shr_nat, shr_nat]
  omega
/-- A beginning of a head, zeros behind it, is none. -/
theorem torn_head (now : List ByteArray) (a behind : Nat) {c : Nat} (hc : c < 64) {h : ByteArray} (hn : now.getD a zsec = tear c h zsec) : recAt now a behind = none := by
  unfold recAt
  simp only [hn]
  rw [if_neg]
  rintro ⟨_, _, _, he, _⟩
  have h1 : (tear c h zsec).data.getD 63 0 = 165 := by rw [he, logHead_byte _ _ (by omega)]; rfl
  have hz : zsec.data.toList = List.replicate 64 0 := by decide +kernel
  have h2 : (tear c h zsec).data.getD 63 0 = 0 := by
    show ((h.data.toList.take c ++ zsec.data.toList.drop c).toArray).getD 63 0 = 0
    rw [hz, List.drop_replicate]
    rw [Array.getD_eq_getD_getElem?, List.getElem?_toArray]
    rcases Nat.lt_or_ge 63 (h.data.toList.take c).length with hl | hl
    · rw [List.length_take] at hl; omega
    · rw [List.getElem?_append_right hl, List.getElem?_replicate]
      split <;> rfl
  rw [h1] at h2
  exact absurd h2 (by decide)
/-- Zeros at the beginning: none. -/
theorem no_mark (now : List ByteArray) (a behind : Nat) (h : (now.getD a zsec).data.getD 0 0 ≠ 82) : recAt now a behind = none := by
  unfold recAt
  simp only
  rw [if_neg]
  rintro ⟨_, _, _, he, _⟩
  apply h
  rw [he, logHead_byte _ _ (by omega)]; rfl

/-- Sectors of 64 bytes. -/
def S64 (now : List ByteArray) : Prop := ∀ i, (now.getD i zsec).size = 64
theorem S64_of {now : List ByteArray} (h : ∀ (i : Nat) (s : ByteArray), now[i]? = some s → s.size = 64) : S64 now := fun i => by
  rw [List.getD_eq_getElem?_getD]
  cases e : now[i]? with
  | none => exact zsec_size
  | some s => exact h i s e
theorem catL_len {now : List ByteArray} (h : S64 now) (a : Nat) : ∀ k, (catL now a k).length = 64 * k
  | 0 => rfl
  | k + 1 => by
    rw [catL_succ, List.length_append, catL_len h a k]
    have : (now.getD (a + k) zsec).data.toList.length = 64 := by
      rw [Array.length_toList]; exact h (a + k)
    omega
theorem catL_congr {now now' : List ByteArray} (a : Nat) : ∀ k, (∀ i, i < k → now'.getD (a + i) zsec = now.getD (a + i) zsec) → catL now' a k = catL now a k
  | 0, _ => rfl
  | k + 1, h => by rw [catL_succ, catL_succ, catL_congr a k (fun i hi => h i (by omega)), h k (by omega)]
theorem recAt_size {now : List ByteArray} {a behind seq : Nat} {d : ByteArray} (h64 : S64 now) (h : recAt now a behind = some (seq, d)) : beN (bytesAt (now.getD a zsec) 9 2) = d.size := by
  unfold recAt at h
  simp only at h
  split at h
  · have h2 := (Prod.mk.inj (Option.some.inj h)).2
    generalize beN (bytesAt (now.getD a zsec) 9 2) = z at *
    rw [← h2]
    have e : (⟨((catL now (a + 1) (secs z)).take z).toArray⟩ : ByteArray).size = ((catL now (a + 1) (secs z)).take z).length := List.size_toArray
    rw [e, List.length_take, catL_len h64]
    unfold secs
    omega
  · exact absurd h (by simp)
theorem recAt_congr {now now' : List ByteArray} {a behind seq : Nat} {d : ByteArray} (h64 : S64 now) (h : recAt now a behind = some (seq, d)) (he : ∀ i, a ≤ i → i < a + 1 + secs d.size → now'.getD i zsec = now.getD i zsec) : recAt now' a behind = some (seq, d) := by
  have hs := recAt_size h64 h
  have e0 := he a (Nat.le_refl _) (by omega)
  have ec : catL now' (a + 1) (secs d.size) = catL now (a + 1) (secs d.size) := catL_congr _ _ fun i hi => he (a + 1 + i) (by omega) (by omega)
  unfold recAt at h ⊢
  simp only at h ⊢
  rw [e0, hs]
  rw [hs] at h
  rw [ec]
  exact h
theorem secs_le (n : Nat) : n ≤ 64 * secs n := by unfold secs; omega
/-- The data that were cut into sectors. -/
theorem chunks_back (d : ByteArray) (now : List ByteArray) (a : Nat) (h : ∀ i, i < secs d.size → now.getD (a + i) zsec = chunk d i) : (⟨((catL now a (secs d.size)).take d.size).toArray⟩ : ByteArray) = d := by
  have key : ∀ k, k ≤ secs d.size → catL now a k = (d.data.toList ++ List.replicate (64 * secs d.size - d.size) 0).take (64 * k) := by
    intro k
    induction k with
    | zero => intro _; rfl
    | succ k ih =>
      intro hk
      rw [catL_succ, ih (by omega), h k (by omega)]
      have e : (chunk d k).data.toList = ((d.data.toList ++ List.replicate (64 * secs d.size - d.size) 0).drop (64 * k)).take 64 := by
        apply List.ext_getElem?
        intro j
        rw [List.getElem?_take, List.getElem?_drop]
        show ((List.range 64).map fun j => d.data.getD (64 * k + j) 0)[j]? = _
        have hds : d.data.toList.length = d.size := Array.length_toList
        by_cases hj : j < 64
        · rw [if_pos hj, List.getElem?_map, List.getElem?_range hj]
          show some (d.data.getD (64 * k + j) 0) = _
          by_cases hin : 64 * k + j < d.size
          · have hin' : 64 * k + j < d.data.size := hin
            rw [List.getElem?_append_left (by omega)]
            simp [Array.getD, hin, hin']
          · have hin' : ¬ 64 * k + j < d.data.size := hin
            rw [List.getElem?_append_right (by omega), List.getElem?_replicate, if_pos (by omega)]
            simp [Array.getD, hin, hin']
        · rw [if_neg hj, List.getElem?_eq_none (by simp; omega)]
      rw [e]
      rw [show 64 * (k + 1) = 64 * k + 64 by omega, List.take_add]
  have hs := secs_le d.size
  have hds : d.data.toList.length = d.size := Array.length_toList
  rw [key _ (Nat.le_refl _), List.take_take, show min d.size (64 * secs d.size) = d.size by omega, List.take_append_of_le_length (by omega), List.take_of_length_le (by omega)]
theorem recAt_new {now : List ByteArray} {a behind seq : Nat} {d : ByteArray} (h0 : now.getD a zsec = logHead (seq : Nat) (d.size : Nat)) (hd : ∀ i, i < secs d.size → now.getD (a + 1 + i) zsec = chunk d i) (h1 : 1 ≤ seq) (h2 : seq ≤ 4611686018427387904) (h3 : d.size ≤ 4000) (h4 : a + 1 + secs d.size ≤ behind) :
    recAt now a behind = some (seq, d) := by
  unfold recAt
  simp only [h0]
  rw [be_seq seq d.size (by omega), be_size seq d.size (by omega), if_pos ⟨h1, h2, h3, rfl, h4⟩, chunks_back d now (a + 1) hd]

/-! ### Records that stand one behind the other -/
theorem recAt_lt {now : List ByteArray} {a H : Nat} {x : Nat × ByteArray} (h : recAt now a H = some x) : a + 1 + secs x.2.size ≤ H ∧ a < H ∧ 1 ≤ x.1 ∧ x.1 ≤ 4611686018427387904 ∧ x.2.size ≤ 4000 := by
  obtain ⟨seq, d⟩ := x
  rcases recAt_some h with h | h
  · show a + 1 + secs d.size ≤ H ∧ a < H ∧ 1 ≤ seq ∧ seq ≤ 4611686018427387904 ∧ d.size ≤ 4000
    omega
  · exact h.elim
/-- The same over any reading of one sector. -/
def LayF (f : Nat → Option (Nat × ByteArray)) : Nat → Option Nat → List (Nat × Nat × ByteArray) → Prop
  | _, _, [] => True
  | a, q, r :: rs => r.1 = a ∧ f a = some r.2 ∧ q.getD (r.2.1 - 1) + 1 = r.2.1 ∧ LayF f (a + 1 + secs r.2.2.size) (some r.2.1) rs
def lastOf (q : Option Nat) (rs : List (Nat × Nat × ByteArray)) : Option Nat := rs.foldl (fun _ r => some r.2.1) q
def StopF (f : Nat → Option (Nat × ByteArray)) (a : Nat) (q : Option Nat) : Prop := ∀ seq d, f a = some (seq, d) → q.getD (seq - 1) + 1 ≠ seq
def scanF (f : Nat → Option (Nat × ByteArray)) (H : Nat) : Nat → Nat → Option Nat → List (Nat × Nat × ByteArray)
  | 0, _, _ => []
  | fuel + 1, a, q => if a < H then (match f a with
    | none => []
    | some x => if q.getD (x.1 - 1) + 1 = x.1 then (a, x.1, x.2) :: scanF f H fuel (a + 1 + secs x.2.size) (some x.1) else []) else []
theorem endAt_cons (a : Nat) (r : Nat × Nat × ByteArray) (rs : List (Nat × Nat × ByteArray)) : endAt a (r :: rs) = endAt (r.1 + 1 + secs r.2.2.size) rs := rfl
theorem lastOf_cons (q : Option Nat) (r : Nat × Nat × ByteArray) (rs : List (Nat × Nat × ByteArray)) : lastOf q (r :: rs) = lastOf (some r.2.1) rs := rfl
theorem scanF_of_lay {f : Nat → Option (Nat × ByteArray)} {H : Nat} (hf : ∀ a x, f a = some x → a + 1 + secs x.2.size ≤ H) : ∀ (rs : List (Nat × Nat × ByteArray)) {fuel a : Nat} {q : Option Nat}, LayF f a q rs → H ≤ fuel + a → StopF f (endAt a rs) (lastOf q rs) → scanF f H fuel a q = rs := by
  intro rs
  induction rs with
  | nil =>
    intro fuel a q _ h hs
    cases fuel with
    | zero => rfl
    | succ n =>
      rw [scanF]
      split
      · cases e : f a with
        | none => rfl
        | some x => exact if_neg (hs x.1 x.2 e)
      · rfl
  | cons r rs ih =>
    intro fuel a q hl h hs
    obtain ⟨h1, h2, h3, h4⟩ := hl
    have hlt := hf a _ h2
    cases fuel with
    | zero => omega
    | succ n =>
      rw [endAt_cons, lastOf_cons, h1] at hs
      rw [scanF, if_pos (by omega), h2]
      show (if q.getD (r.2.1 - 1) + 1 = r.2.1 then _ else _) = _
      rw [if_pos h3, ih h4 (by omega) hs, ← h1]
theorem layF_snoc {f : Nat → Option (Nat × ByteArray)} : ∀ (rs : List (Nat × Nat × ByteArray)) {a : Nat} {q : Option Nat} {r : Nat × Nat × ByteArray}, LayF f a q rs → r.1 = endAt a rs → f r.1 = some r.2 → (lastOf q rs).getD (r.2.1 - 1) + 1 = r.2.1 → LayF f a q (rs ++ [r]) := by
  intro rs
  induction rs with
  | nil =>
    intro a q r _ h1 h2 h3
    have h1 : r.1 = a := h1
    exact ⟨h1, by rw [← h1]; exact h2, h3, trivial⟩
  | cons x rs ih =>
    intro a q r hl h1 h2 h3
    obtain ⟨g1, g2, g3, g4⟩ := hl
    exact ⟨g1, g2, g3, ih g4 (by rw [h1, endAt_cons, g1]) h2 h3⟩
theorem layF_end {f : Nat → Option (Nat × ByteArray)} {H : Nat} (hf : ∀ a x, f a = some x → a + 1 + secs x.2.size ≤ H) : ∀ (rs : List (Nat × Nat × ByteArray)) {a : Nat} {q : Option Nat}, LayF f a q rs → a ≤ endAt a rs ∧ (rs = [] ∨ endAt a rs ≤ H) ∧ rs.length ≤ endAt a rs - a := by
  intro rs
  induction rs with
  | nil => intro a q _; exact ⟨Nat.le_refl _, .inl rfl, by simp⟩
  | cons r rs ih =>
    intro a q hl
    obtain ⟨g1, g2, g3, g4⟩ := hl
    obtain ⟨h1, h2, h3⟩ := ih g4
    have hlt := hf a _ g2
    rw [endAt_cons, g1]
    refine ⟨by omega, .inr ?_, by simp only [List.length_cons]; omega⟩
    rcases h2 with h2 | h2
    · subst h2; exact hlt
    · exact h2
theorem layF_congr {f g : Nat → Option (Nat × ByteArray)} {H : Nat} (hf : ∀ a x, f a = some x → a + 1 + secs x.2.size ≤ H) : ∀ (rs : List (Nat × Nat × ByteArray)) {a : Nat} {q : Option Nat}, LayF f a q rs → (∀ b x, f b = some x → a ≤ b → b + 1 + secs x.2.size ≤ endAt a rs → g b = some x) → LayF g a q rs := by
  intro rs
  induction rs with
  | nil => intro a q _ _; trivial
  | cons r rs ih =>
    intro a q hl he
    obtain ⟨g1, g2, g3, g4⟩ := hl
    have h1 := (layF_end hf rs g4).1
    rw [endAt_cons, g1] at he
    exact ⟨g1, he a _ g2 (Nat.le_refl _) h1, g3, ih g4 (fun b x hb h2 h3 => he b x hb (by omega) h3)⟩
theorem scan_F (now : List ByteArray) (H : Nat) : ∀ (fuel a : Nat) (q : Option Nat), scan now H fuel a q = scanF (fun a => recAt now a H) H fuel a q := by
  intro fuel
  induction fuel with
  | zero => intro a q; rfl
  | succ n ih =>
    intro a q
    rw [scan, scanF]
    split
    · cases recAt now a H with
      | none => rfl
      | some x =>
        obtain ⟨seq, d⟩ := x
        show (if q.getD (seq - 1) + 1 = seq then _ else _) = if q.getD (seq - 1) + 1 = seq then _ else _
        rw [ih]
    · rfl
def Lay (now : List ByteArray) (H a : Nat) (q : Option Nat) (rs : List (Nat × Nat × ByteArray)) : Prop := LayF (fun a => recAt now a H) a q rs
def Stop (now : List ByteArray) (H a : Nat) (q : Option Nat) : Prop := StopF (fun a => recAt now a H) a q
theorem recF (now : List ByteArray) (H : Nat) : ∀ a x, (fun a => recAt now a H) a = some x → a + 1 + secs x.2.size ≤ H := fun a x h => (recAt_lt h).1
theorem scan_of_lay {now : List ByteArray} {H : Nat} (rs : List (Nat × Nat × ByteArray)) {fuel a : Nat} {q : Option Nat} (h : Lay now H a q rs) (hf : H ≤ fuel + a) (hs : Stop now H (endAt a rs) (lastOf q rs)) : scan now H fuel a q = rs := by
  rw [scan_F]
  exact scanF_of_lay (recF now H) rs h hf hs
theorem lay_snoc {now : List ByteArray} {H : Nat} (rs : List (Nat × Nat × ByteArray)) {a : Nat} {q : Option Nat} {r : Nat × Nat × ByteArray} (h : Lay now H a q rs) (h1 : r.1 = endAt a rs) (h2 : recAt now r.1 H = some r.2) (h3 : (lastOf q rs).getD (r.2.1 - 1) + 1 = r.2.1) : Lay now H a q (rs ++ [r]) :=
  layF_snoc (f := fun a => recAt now a H) rs h h1 h2 h3
theorem lay_end {now : List ByteArray} {H : Nat} (rs : List (Nat × Nat × ByteArray)) {a : Nat} {q : Option Nat} (h : Lay now H a q rs) : a ≤ endAt a rs ∧ (rs = [] ∨ endAt a rs ≤ H) ∧ rs.length ≤ endAt a rs - a := layF_end (recF now H) rs h
theorem lay_congr {now now' : List ByteArray} {H : Nat} (h64 : S64 now) (rs : List (Nat × Nat × ByteArray)) {a : Nat} {q : Option Nat} (h : Lay now H a q rs) (he : ∀ i, a ≤ i → i < endAt a rs → now'.getD i zsec = now.getD i zsec) : Lay now' H a q rs := by
  refine layF_congr (f := fun a => recAt now a H) (g := fun a => recAt now' a H) (recF now H) rs h ?_
  intro b x hb h2 h3
  obtain ⟨seq, d⟩ := x
  exact recAt_congr h64 hb (fun i hi hi2 => he i (by omega) (Nat.lt_of_lt_of_le hi2 h3))

/-! ### What writing changes -/
theorem upd_getD (l : List ByteArray) (i j : Nat) (s : ByteArray) (hi : i < l.length) : (l.set i s).getD j zsec = if i = j then s else l.getD j zsec := by
  rw [List.getD_eq_getElem?_getD, List.getD_eq_getElem?_getD, List.getElem?_set]
  split
  · rename_i e; subst e; simp [hi]
  · rfl
structure WEff (M M' : DM) (l : List (Int × ByteArray)) (code : Int) : Prop where
  ok : M'.Ok
  sure : M'.sure = M.sure
  len : M'.now.length = M.now.length
  oth : ∀ j : Nat, (∀ p ∈ l, p.1 ≠ (j : Int)) → M'.now.getD j zsec = M.now.getD j zsec
  all : code = 0 → ∀ j : Nat, ∀ s, ((j : Int), s) ∈ l → (∀ s', ((j : Int), s') ∈ l → s' = s) → M'.now.getD j zsec = s
  bad : code ≠ 0 → code = 30 ∧ M'.dead
theorem writes_eff : ∀ (l : List (Int × ByteArray)) {M : DM}, M.Ok → (∀ p ∈ l, 0 ≤ p.1 ∧ p.1 < M.n ∧ p.2.size = 64) → WEff M (writes M l).1 l (writes M l).2
  | [], M, hok, _ => ⟨hok, rfl, rfl, fun _ _ => rfl, fun _ j s h => absurd h (by simp), fun h => absurd rfl h⟩
  | (i, s) :: l, M, hok, hv => by
    obtain ⟨h0, h1, h2⟩ := hv (i, s) List.mem_cons_self
    have hi : i.toNat < M.sure.length := by
      have : i < (M.sure.length : Int) := h1
      omega
    have hit : ((i.toNat : Nat) : Int) = i := Int.toNat_of_nonneg h0
    by_cases hd : M.dead
    · have e : M.write i s = (M, 30) := write_dead h0 h1 h2 hd
      unfold writes
      rw [e, if_neg (show ¬ (30 : Int) = 0 by decide)]
      exact ⟨hok, rfl, rfl, fun _ _ => rfl, fun h => absurd h (show ¬ (30 : Int) = 0 by decide), fun _ => ⟨rfl, hd⟩⟩
    · have e : M.write i s = (M.wrote i.toNat s, 0) := write_live h0 h1 h2 hd
      have hok' := hok.wrote hi h2
      have hset : ∀ j, (M.wrote i.toNat s).now.getD j zsec = if i.toNat = j then s else M.now.getD j zsec := fun j => upd_getD _ _ _ _ (by rw [hok.now]; exact hi)
      have ih := writes_eff l hok' (fun p hp => hv p (List.mem_cons_of_mem _ hp))
      unfold writes
      rw [e, if_pos rfl]
      refine ⟨ih.ok, ih.sure, by rw [ih.len]; exact List.length_set, fun j hj => ?_, fun hc j t ht hu => ?_, ih.bad⟩
      · rw [ih.oth j fun p hp => hj p (List.mem_cons_of_mem _ hp), hset, if_neg]
        intro e2
        exact hj (i, s) List.mem_cons_self (by show i = _; omega)
      · by_cases hin : ∃ t', ((j : Int), t') ∈ l
        · obtain ⟨t', ht'⟩ := hin
          have e2 := hu t' (List.mem_cons_of_mem _ ht')
          subst e2
          exact ih.all hc j t' ht' (fun s' hs' => hu s' (List.mem_cons_of_mem _ hs'))
        · rw [ih.oth j fun p hp e2 => hin ⟨p.2, by rw [← e2]; exact hp⟩, hset]
          rcases List.mem_cons.1 ht with e2 | e2
          · injection e2 with e2 e3
            rw [if_pos (by omega), e3]
          · exact absurd ⟨t, e2⟩ hin
/-- A crash leaves a sector that is as it is sure. -/
theorem tear_same (c : Nat) (x : ByteArray) : tear c x x = x := by
  apply byteCells_inj
  rw [tear_cells, List.take_append_drop]
theorem crash_getD (M : DM) (keep : List Bool) (torn cut : Int) (j : Nat) : (M.crash keep torn cut).sure.getD j zsec = if j < M.sure.length then (if M.fresh[j]? = some true then M.pick keep torn cut (M.rank j) j else M.sureAt j) else zsec := by
  split
  · rename_i h; exact DM.crash_at M keep torn cut h
  · rename_i h
    rw [List.getD_eq_getElem?_getD, List.getElem?_eq_none (by simp [DM.crash]; omega)]; rfl
theorem crash_same {M : DM} {j : Nat} (h : M.now.getD j zsec = M.sure.getD j zsec) (keep : List Bool) (torn cut : Int) : (M.crash keep torn cut).sure.getD j zsec = M.sure.getD j zsec := by
  rw [crash_getD]
  have hn : M.nowAt j = M.sureAt j := h
  split
  · split
    · unfold DM.pick
      rw [hn, tear_same]
      split
      · rfl
      · split <;> rfl
    · rfl
  · rename_i hl
    rw [List.getD_eq_getElem?_getD, List.getElem?_eq_none (by omega)]; rfl
/-- Each sector that a crash leaves is as it was written, as it was sure, or torn. -/
theorem crash_three (M : DM) (keep : List Bool) (torn cut : Int) (j : Nat) : (M.crash keep torn cut).sure.getD j zsec = M.now.getD j zsec ∨ (M.crash keep torn cut).sure.getD j zsec = M.sure.getD j zsec ∨ ∃ c, c ≤ 64 ∧ (M.crash keep torn cut).sure.getD j zsec = tear c (M.now.getD j zsec) (M.sure.getD j zsec) := by
  rw [crash_getD]
  split
  · split
    · unfold DM.pick
      split
      · exact .inl rfl
      · split
        · exact .inr (.inr ⟨clamp cut, clamp_le _, rfl⟩)
        · exact .inr (.inl rfl)
    · exact .inr (.inl rfl)
  · rename_i hl
    right; left
    rw [List.getD_eq_getElem?_getD, List.getElem?_eq_none (by omega)]; rfl

end Go.Proofs.Ytcaamecdhbgknaa.Log
