/- The reference of the log: a record. -/
import Derived.Test.YtcaamecdhbgknaaH1
import Derived.Test.YtcaamecdhbgknaaRA
namespace Go.Proofs.Ytcaamecdhbgknaa.Log
open Go Go.V
open Go.Proofs.Ytcaamecdhbgknaa.VC
open Go.Proofs.Ytcaamecdhbgknaa.Disk
open Go.Proofs.Try (prog)
set_option linter.unusedVariables false
set_option linter.unusedSimpArgs false
set_option maxRecDepth 20000

theorem ba_append (l : List UInt8) (s : ByteArray) : (⟨l.toArray⟩ : ByteArray) ++ s = ⟨(l ++ s.data.toList).toArray⟩ := by
  apply ByteArray.ext
  rw [ByteArray.data_append]
  simp
theorem ba_extract (l : List UInt8) (n : Nat) : (⟨l.toArray⟩ : ByteArray).extract 0 n = ⟨(l.take n).toArray⟩ := by
  apply ByteArray.ext
  rw [ByteArray.data_extract]
  simp
theorem beN_more (h : ByteArray) (off j d : Nat) : beN (bytesAt h off j) * 256 ^ d ≤ beN (bytesAt h off (j + d)) := by
  induction d with
  | zero => simp
  | succ d ih =>
    rw [← Nat.add_assoc, bytesAt_succ, beN_succ, Nat.pow_succ, ← Nat.mul_assoc]
    have := Nat.mul_le_mul_right 256 ih
    omega
def recV (o : Option (Nat × ByteArray)) : Value := match o with
  | some (q, d) => .tuple #[.agg #[I64 (q : Nat), .string d], .bool true]
  | none => .tuple #[.agg #[I64 0, .string ⟨#[]⟩], .bool false]

set_option maxHeartbeats 1000000 in
theorem rrecord_c {w : World} {v : Value} {F : List Nat} {M : DM} (h : RefAt w v F M) {a behind : Nat} (ha : a < M.sure.length) (hbl : behind ≤ M.sure.length) :
    Calls prog 87 #[v, I64 (a : Nat), I64 (behind : Nat)] w fun e w' => Fr [] w w' ∧ e = .returned (recV (recAt M.now a behind)) := by
  obtain ⟨hok, sA, sC, nA, nC, fA, fC, rfl, h1, h2, h3, h4⟩ := h
  have hhi := hok.hi
  have hnl : M.now.length = M.sure.length := hok.now
  obtain ⟨hnow, h64⟩ := hok.nowAt ha
  have hnA : M.now.getD a zsec = M.nowAt a := rfl
  have rowN : ∀ w', Fr [] w w' → ∀ ad, nA = some ad → ∀ j s, M.now[j]? = some s → World.cell? w' (ad.add j) = some (.string s) := fun w' f ad had j s hs => by
    have := g_row f h2 (fun ad _ _ => by simp)
    exact this.get had (j := j) (u := .string s) (by rw [List.getElem?_map, hs]; rfl)
  obtain ⟨ad, had⟩ := h2.has (by rw [List.length_map]; omega)
  have hrec : recAt M.now a behind = if 1 ≤ beN (bytesAt (M.nowAt a) 1 8) ∧ beN (bytesAt (M.nowAt a) 1 8) ≤ 4611686018427387904 ∧ beN (bytesAt (M.nowAt a) 9 2) ≤ 4000 ∧ M.nowAt a = logHead (beN (bytesAt (M.nowAt a) 1 8)) (beN (bytesAt (M.nowAt a) 9 2)) ∧ a + 1 + secs (beN (bytesAt (M.nowAt a) 9 2)) ≤ behind then some (beN (bytesAt (M.nowAt a) 1 8), ⟨((catL M.now (a + 1) (secs (beN (bytesAt (M.nowAt a) 9 2)))).take (beN (bytesAt (M.nowAt a) 9 2))).toArray⟩) else none := rfl
  generalize hh : M.nowAt a = hd at *
  generalize hsz : beN (bytesAt hd 9 2) = size at hrec
  have hb : ∀ j : Nat, byteAt hd (j : Int) = ((hd.data.getD j 0).toNat : Int) := fun j => by
    unfold byteAt
    simp [Array.getD_eq_getD_getElem?, List.getD_eq_getElem?_getD]
  have hx : ∀ j : Nat, (hd.data.getD j 0).toNat < 256 := fun j => (hd.data.getD j 0).toNat_lt
  have hwx : ∀ j : Nat, IntKind.wrap .i64 (byteAt hd (j : Int)) = ((hd.data.getD j 0).toNat : Int) := fun j => by
    rw [hb j]; have := hx j; exact wrapi (by omega) (by omega)
  have hsize : IntKind.wrap .i64 (IntKind.wrap .i64 (IntKind.wrap .i64 (byteAt hd 9) * 256) + IntKind.wrap .i64 (byteAt hd 10)) = (size : Int) := by
    have e9 := hwx 9
    have e10 := hwx 10
    have x9 := hx 9
    have x10 := hx 10
    rw [show IntKind.wrap .i64 (byteAt hd 9) = ((hd.data.getD 9 0).toNat : Int) from e9, show IntKind.wrap .i64 (byteAt hd 10) = ((hd.data.getD 10 0).toNat : Int) from e10, wrapi (n := ((hd.data.getD 9 0).toNat : Int) * 256) (by omega) (by omega), wrapi (by omega) (by omega), ← hsz]
    have : beN (bytesAt hd 9 2) = (hd.data.getD 9 0).toNat * 256 + (hd.data.getD 10 0).toNat := by
      rw [bytesAt_succ, beN_succ, bytesAt_succ, beN_succ]
      show (0 * 256 + (hd.data.getD 9 0).toNat) * 256 + (hd.data.getD 10 0).toNat = _
      omega
    rw [this]; omega
  have hsz65 : size < 65536 := by
    rw [← hsz]
    have := beN_lt (bytesAt hd 9 2)
    simpa [bytesAt] using this
  have hs64 : ((hd.size : Nat) : Int) = 64 := by rw [h64]; rfl
  refine rhizomeref04_record.link fun k1 k2 => ⟨ad, had, ⟨by omega, by omega⟩, hd, ?_, ?_⟩
  · rw [show Int.toNat (a : Int) * 1 = a by omega]
    exact rowN _ (Fr.refl _ _) _ had _ _ hnow
  rw [hsize]
  refine ⟨fun m q n w' => ∃ i : Nat, q = (beN (bytesAt hd 1 i) : Nat) ∧ n = ((i + 1 : Nat) : Int) ∧ i ≤ 8 ∧ m = 8 - i ∧ beN (bytesAt hd 1 i) ≤ 4611686018427388159 ∧ Fr [] w w' ∧ w.heap.size ≤ k2 ∧ k2 < w'.heap.size ∧ k1 < w'.heap.size, 8, fun w7 st => ⟨0, rfl, rfl, by omega, rfl, by show 0 ≤ _; omega, st.fr, ?_⟩, ?_⟩
  · have := g_new2 st
    omega
  rintro m q n w12 ⟨i, rfl, rfl, hi, rfl, hbd, f12, hk0, hk2, hk1⟩
  have none_ : recAt M.now a behind = none → ∀ w', Fr [] w w' → ∀ w'', Step w' w'' [k2] [] → Fr [] w w'' ∧ Ending.returned (.tuple #[.agg #[I64 0, .string ⟨#[]⟩], .bool false]) = .returned (recV (recAt M.now a behind)) := fun hn w' f w'' st =>
    ⟨f.trans st.fr (fun x hx => .inr (by simp at hx; omega)), by rw [hn]; rfl⟩
  refine ⟨fun hlt => ?_, fun hge => ?_⟩
  · have hlt : ((i + 1 : Nat) : Int) < 9 := of_decide_eq_true hlt
    refine ⟨fun hbig w14 st => ?_, fun hle => ⟨⟨by omega, by omega⟩, 8 - (i + 1), by omega, i + 1, ?_, ?_, by omega, rfl, ?_, f12, hk0, hk2, hk1⟩⟩
    · have hbig : (18014398509481984 : Int) < _ := of_decide_eq_true hbig
      refine none_ ?_ _ f12 _ st
      rw [hrec, if_neg]
      rintro ⟨_, hm, _⟩
      have h1 := beN_more hd 1 (i + 1) (8 - (i + 1))
      rw [show i + 1 + (8 - (i + 1)) = 8 by omega, bytesAt_succ, beN_succ] at h1
      have h2 : 1 ≤ 256 ^ (8 - (i + 1)) := Nat.pos_of_ne_zero (by simp)
      have h3 := Nat.mul_le_mul_left (beN (bytesAt hd 1 i) * 256 + (hd.data.getD (1 + i) 0).toNat) h2
      omega
    · have hle : ¬ (18014398509481984 : Int) < _ := of_decide_eq_false hle
      have x := hx (1 + i)
      rw [hwx (i + 1), show i + 1 = 1 + i by omega, wrapi (n := ((beN (bytesAt hd 1 i) : Nat) : Int) * 256) (by omega) (by omega), wrapi (by omega) (by omega), show 1 + i = i + 1 by omega, bytesAt_succ, beN_succ, show 1 + i = i + 1 by omega]
      omega
    · rw [wrapi (by omega) (by omega)]; omega
    · have hle : ¬ (18014398509481984 : Int) < _ := of_decide_eq_false hle
      have x := hx (1 + i)
      rw [bytesAt_succ, beN_succ]; omega
  have hge : ¬ ((i + 1 : Nat) : Int) < 9 := of_decide_eq_false hge
  have hi8 : i = 8 := by omega
  subst hi8
  generalize hsq : beN (bytesAt hd 1 8) = seq at *
  refine ⟨⟨by omega, by omega⟩, ⟨by omega, by omega⟩, fun y17 hy17 => ?_⟩
  have bad : recAt M.now a behind = none → ∀ w', Fr [] w w' → y17 true w' := fun hn w' f => hy17 _ _ (bT rfl fun w20 st => none_ hn w' f w20 st)
  refine ⟨fun hc w39 st => bad ?_ _ (f12.trans' st.fr), fun hc1 => ⟨fun hc w41 st => bad ?_ _ (f12.trans' st.fr), fun hc2 => ⟨fun hc w43 st => bad ?_ _ (f12.trans' st.fr), fun hc3 w45 st45 => ?_⟩⟩⟩
  · have hc := of_decide_eq_true hc
    rw [hrec, if_neg (by omega)]
  · have hc := of_decide_eq_true hc
    rw [hrec, if_neg (by omega)]
  · have hc := of_decide_eq_true hc
    rw [hrec, if_neg (by omega)]
  have hc1 := of_decide_eq_false hc1
  have hc2 := of_decide_eq_false hc2
  have hc3 := of_decide_eq_false hc3
  have z45 := st45.size
  refine (rhead_c w45 (seq := seq) (size := size) (by omega) hsz65).mono ?_
  rintro e w48 ⟨rfl, f48⟩
  have f048 := (f12.trans' st45.fr).trans' f48
  have z48 := f48.size
  refine ⟨_, rfl, g_keep f48 (fun x hx => by simp at hx ⊢; omega), fun hc => bad ?_ _ f048, fun hc4 => ?_⟩
  · have hc : decide (hd = logHead seq size) = false := by simpa using hc
    have hc := of_decide_eq_false hc
    rw [hrec, if_neg (fun hx => hc hx.2.2.2.1)]
  have hc4 : hd = logHead seq size := by simpa using hc4
  refine (rsectors_c w48 (n := (size : Int)) (by omega) (by omega)).mono ?_
  rintro e w51 ⟨rfl, rfl⟩
  rw [show ((size : Nat) : Int).toNat = size by omega]
  have hsecs : secs size = (size + 63) / 64 := rfl
  refine ⟨_, rfl, fun b hb => rfl, ?_⟩
  rw [wrapi (n := (a : Int) + 1) (by omega) (by omega), wrapi (by omega) (by omega)]
  cases hq : decide ((behind : Int) < (a : Int) + 1 + (secs size : Nat)) with
  | true =>
    have hq := of_decide_eq_true hq
    exact bad (by rw [hrec, if_neg (by omega)]) _ f048
  | false =>
  have hq := of_decide_eq_false hq
  have hgood : recAt M.now a behind = some (seq, ⟨((catL M.now (a + 1) (secs size)).take size).toArray⟩) := by
    rw [hrec, if_pos ⟨by omega, by omega, by omega, hc4, by omega⟩]
  have h64s : S64 M.now := S64_of fun i s hs => hok.w64 _ _ hs
  refine hy17 _ _ (bF rfl ?_)
  clear hy17 bad none_
  refine ⟨fun m s n w' => ∃ i : Nat, s = ⟨(catL M.now (a + 1) i).toArray⟩ ∧ n = i ∧ i ≤ secs size ∧ m = secs size - i ∧ w' = w51, secs size, ⟨0, rfl, rfl, by omega, rfl, rfl⟩, ?_⟩
  rintro m s n w27 ⟨i, rfl, rfl, hi, rfl, rfl⟩
  refine (rsectors_c w27 (n := (size : Int)) (by omega) (by omega)).mono ?_
  rintro e w30 ⟨rfl, rfl⟩
  rw [show ((size : Nat) : Int).toNat = size by omega]
  have hcl : ∀ k, (⟨(catL M.now (a + 1) k).toArray⟩ : ByteArray).size = 64 * k := fun k => by
    show (catL M.now (a + 1) k).toArray.size = _
    rw [List.size_toArray, catL_len h64s]
  refine ⟨_, rfl, fun b hb => rfl, fun hlt => ?_, fun hge => ?_⟩
  · have hlt : (i : Int) < ((secs size : Nat) : Int) := of_decide_eq_true hlt
    have ei : IntKind.wrap .i64 (IntKind.wrap .i64 ((a : Int) + 1) + (i : Int)) = ((a + 1 + i : Nat) : Int) := by
      rw [wrapi (n := (a : Int) + 1) (by omega) (by omega), wrapi (by omega) (by omega)]; omega
    rw [ei, show Int.toNat ((a + 1 + i : Nat) : Int) * 1 = a + 1 + i by omega]
    have hin : a + 1 + i < M.now.length := by omega
    have hs := List.getElem?_eq_getElem hin
    have hsz64 : M.now[a + 1 + i].size = 64 := hok.w64 _ _ hs
    refine ⟨ad, had, ⟨by omega, by omega⟩, _, rowN _ f048 _ had _ _ hs, ?_, secs size - (i + 1), by omega, i + 1, ?_, by rw [wrapi (by omega) (by omega)]; simp, by omega, rfl, rfl⟩
    · rw [hcl, hsz64]; omega
    · rw [ba_append, catL_succ, List.getD_eq_getElem?_getD, hs]; rfl
  · have hge : ¬ (i : Int) < ((secs size : Nat) : Int) := of_decide_eq_false hge
    have : i = secs size := by omega
    subst this
    rw [hcl]
    refine ⟨⟨by omega, by omega, by omega⟩, fun w35 st => ⟨f048.trans st.fr (fun x hx => .inr (by simp at hx; omega)), ?_⟩⟩
    rw [hgood, ba_extract]
    rfl

end Go.Proofs.Ytcaamecdhbgknaa.Log
