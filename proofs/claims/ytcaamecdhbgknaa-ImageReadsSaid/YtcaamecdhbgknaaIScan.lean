/- ImageReads: the law's own walk. -/
import Derived.Test.YtcaamecdhbgknaaI6
import Derived.Test.YtcaamecdhbgknaaI7
import Derived.Test.YtcaamecdhbgknaaL17
namespace Go.Proofs.Ytcaamecdhbgknaa.Image
open Go Go.V
open Go.Proofs.Ytcaamecdhbgknaa.VC
open Go.Proofs.Ytcaamecdhbgknaa.Disk
open Go.Proofs.Ytcaamecdhbgknaa.Log
open Go.Proofs.Try (prog)
set_option linter.unusedVariables false
set_option linter.unusedSimpArgs false
set_option maxRecDepth 20000

theorem and_low (n : Int) : ∃ N : Nat, N < 9223372036854775808 ∧ bits .and .i64 n 4611686018427387903 = (N : Int) := by
  refine ⟨(BitVec.ofInt 64 n &&& BitVec.ofInt 64 4611686018427387903).toNat, ?_, ?_⟩
  · rw [BitVec.toNat_and]
    have : (BitVec.ofInt 64 4611686018427387903).toNat = 4611686018427387903 := by decide
    have := @Nat.and_le_right (BitVec.ofInt 64 n).toNat (BitVec.ofInt 64 4611686018427387903).toNat
    omega
  · show IntKind.i64.wrap ((BitVec.ofInt 64 n &&& BitVec.ofInt 64 4611686018427387903).toNat : Int) = _
    have h1 : (BitVec.ofInt 64 4611686018427387903).toNat = 4611686018427387903 := by decide
    have h2 := @Nat.and_le_right (BitVec.ofInt 64 n).toNat (BitVec.ofInt 64 4611686018427387903).toNat
    rw [BitVec.toNat_and] at *
    exact wrapi (by omega) (by omega)
theorem low31 (n : Int) : ∃ N : Nat, N < 2147483648 ∧ IntKind.wrap .i64 (Int.tmod (IntKind.wrap .u64 n) 2147483648) = (N : Int) := by
  have h : 0 ≤ IntKind.wrap .u64 n := by
    simp [IntKind.wrap, IntKind.bits, IntKind.signed]; omega
  generalize IntKind.wrap .u64 n = x at h
  rw [Int.tmod_eq_emod_of_nonneg h]
  exact ⟨(x % 2147483648).toNat, by omega, by rw [wrapi (by omega) (by omega)]; omega⟩
theorem write_left {M : DM} (h : M.left < 0) (i : Int) (s : ByteArray) : (M.write i s).1.left < 0 := by
  unfold DM.write
  split
  · exact h
  · split
    · exact h
    · show (if 0 < M.left then M.left - 1 else M.left) < 0
      rw [if_neg (by omega)]; exact h

abbrev T3 := Int × Int × Int
def tcells (l : List T3) : List Value := l.flatMap fun t => [I64 t.1, I64 t.2.1, I64 t.2.2]
theorem tcells_len (l : List T3) : (tcells l).length = l.length * 3 := by
  induction l with
  | nil => rfl
  | cons t l ih =>
    show (I64 t.1 :: I64 t.2.1 :: I64 t.2.2 :: tcells l).length = _
    simp only [List.length_cons]; omega
theorem tcells_get : ∀ (l : List T3) (i : Nat) (hi : i < l.length), (tcells l)[i * 3 + 0]? = some (I64 l[i].1) ∧ (tcells l)[i * 3 + 1]? = some (I64 l[i].2.1) ∧ (tcells l)[i * 3 + 2]? = some (I64 l[i].2.2)
  | t :: l, 0, _ => ⟨rfl, rfl, rfl⟩
  | t :: l, i + 1, hi => by
    have := tcells_get l i (by simpa using hi)
    have e : tcells (t :: l) = I64 t.1 :: I64 t.2.1 :: I64 t.2.2 :: tcells l := rfl
    rw [e, show (i + 1) * 3 + 0 = i * 3 + 0 + 1 + 1 + 1 by omega, show (i + 1) * 3 + 1 = i * 3 + 1 + 1 + 1 + 1 by omega, show (i + 1) * 3 + 2 = i * 3 + 2 + 1 + 1 + 1 by omega]
    simpa using this

/-- The disk and the document's, the same. -/
structure PairAt (w0 w : World) (k1 k26 b ms mf : Nat) (n : Int) (v : Value) (M : DM) : Prop where
  disk : DiskAt w b ms mf M
  ref : RefAt w v ([b, ms, mf] ++ [k26]) M
  left : M.left < 0
  n : M.n = n
  fr : Fr [] w0 w
  b1 : w0.heap.size ≤ k1 ∧ k1 < w.heap.size ∧ k1 ∉ [b, ms, mf] ∧ k1 ≠ k26
  b2 : w0.heap.size ≤ k26 ∧ k26 < w.heap.size ∧ k26 ∉ [b, ms, mf]
  bs : ∀ x ∈ [b, ms, mf], w0.heap.size ≤ x ∧ x < w.heap.size
theorem PairAt.step {w0 w w' : World} {k1 k26 b ms mf : Nat} {n : Int} {v : Value} {M : DM} (h : PairAt w0 w k1 k26 b ms mf n v M) {F : List Nat} (hF : ∀ x ∈ F, x = k26) (f : Fr F w w') : PairAt w0 w' k1 k26 b ms mf n v M := by
  have z := f.size
  have h1 := h.b1
  have h2 := h.b2
  exact ⟨h.disk.fr f (fun x hx hm => h2.2.2 (by rw [← hF x hm]; exact hx)), h.ref.fr f (fun x hx => .inl (by rw [hF x hx]; simp)), h.left, h.n, h.fr.trans f (fun x hx => .inr (by rw [hF x hx]; exact h2.1)), ⟨h1.1, by omega, h1.2.2⟩, ⟨h2.1, by omega, h2.2.2⟩, fun x hx => ⟨(h.bs x hx).1, by have := (h.bs x hx).2; omega⟩⟩
theorem PairAt.keep {w0 w w' : World} {k1 k26 b ms mf : Nat} {n : Int} {v : Value} {M : DM} (h : PairAt w0 w k1 k26 b ms mf n v M) {F : List Nat} (hF : ∀ x ∈ F, x ∈ [b, ms, mf]) (f : Fr F w w') : Keep [k1, k26] w w' :=
  g_keep f (fun x hx => by
    simp at hx
    rcases hx with rfl | rfl
    · exact ⟨h.b1.2.1, fun hm => h.b1.2.2.1 (hF _ hm)⟩
    · exact ⟨h.b2.2.1, fun hm => h.b2.2.2 (hF _ hm)⟩)
theorem PairAt.hF {w0 w : World} {k1 k26 b ms mf : Nat} {n : Int} {v : Value} {M : DM} (h : PairAt w0 w k1 k26 b ms mf n v M) : ∀ x ∈ [b, ms, mf] ++ [k26], x < w.heap.size := fun x hx => by
  rcases List.mem_append.1 hx with hx | hx
  · exact (h.bs x hx).2
  · rw [List.mem_singleton.1 hx]; exact h.b2.2.1
/-- Both are written. -/
theorem PairAt.wrote {w0 w w1 w2 w3 : World} {k1 k26 b ms mf : Nat} {n : Int} {v v' : Value} {M M' : DM} (h : PairAt w0 w k1 k26 b ms mf n v M) (f1 : Fr [b, ms, mf] w w1) (hD : DiskAt w1 b ms mf M') (f2 : Fr [] w1 w2) (hR : RefAt w2 v' ([b, ms, mf] ++ [k26]) M') (st : Fr [k26] w2 w3) (hl : M'.left < 0) (hn : M'.n = M.n) : PairAt w0 w3 k1 k26 b ms mf n v' M' := by
  have h1 := h.b1
  have h2 := h.b2
  have z1 := f1.size
  have z2 := f2.size
  have z3 := st.size
  have F3 : Fr [] w0 w3 := ((h.fr.trans f1 (fun x hx => .inr (h.bs x hx).1)).trans' f2).trans st (fun x hx => .inr (by rw [List.mem_singleton.1 hx]; exact h2.1))
  exact ⟨(hD.fr f2 (by simp)).fr st (fun x hx hm => h2.2.2 (by rw [← List.mem_singleton.1 hm]; exact hx)), hR.fr st (fun x hx => .inl (List.mem_append_right _ hx)), hl, by rw [hn]; exact h.n, F3, ⟨h1.1, by omega, h1.2.2⟩, ⟨h2.1, by omega, h2.2.2⟩, fun x hx => ⟨(h.bs x hx).1, by have := (h.bs x hx).2; omega⟩⟩

theorem fresh_n' (n : Nat) : (DM.fresh0 n).n = (n : Int) := by
  show ((List.replicate n zsec).length : Int) = n
  rw [List.length_replicate]

set_option maxHeartbeats 2000000 in
theorem iscan_walk (w : World) (sz first count : Int) (hf1 : -9223372036854775808 ≤ first) (hf2 : first < 9223372036854775808) (hc2 : count < 9223372036854775808) {a : Option Addr} {cap : Nat} {z : List ByteArray} (hz : RowsC w a z.length z) {hA : Option Addr} {hC : Nat} {hs : List T3} (hh : Row w hA (tcells hs)) :
    Calls prog 17 #[.agg #[I64 sz, I64 first, I64 count], .slice a z.length cap, .slice hA hs.length hC] w fun e w' => e = .returned (.bool true) ∧ RowKit.Below w.heap.size w w' := by
  refine rhizomelaw05_ImageReads.link fun k1 y2 hy2 w268 st268 => (iawake_c w268).mono ?_
  have below : ∀ w', Fr [] w w' → RowKit.Below w.heap.size w w' := fun w' f => f.below (Nat.le_refl _) (fun x hx => by cases hx)
  rintro e w4 ⟨rfl, f4⟩
  have n1 := g_new1 st268
  have z4 := f4.size
  have F4 : Fr [] w w4 := st268.fr.trans' f4
  have k1keep : ∀ v v' : World, w4.heap.size ≤ v.heap.size → Fr [] v v' → Keep [k1] v v' := fun v v' hv f => g_keep f (fun x hx => by simp at hx; subst hx; exact ⟨by omega, by simp⟩)
  have out : y2 true w4 := hy2 _ _ (bT rfl ((iawake_c w4).mono (by
    rintro e w6 ⟨rfl, f6⟩
    exact ⟨_, rfl, k1keep _ _ (Nat.le_refl _) f6, rfl, below _ (F4.trans' f6)⟩)))
  refine ⟨_, rfl, g_keep f4 (fun x hx => by simp at hx; subst hx; exact ⟨by omega, by simp⟩), bF rfl ⟨fun _ => out, fun h1 => ?_⟩⟩
  have h1 : ¬ sz < 1 := of_decide_eq_false h1
  cases h40 : decide ((40 : Int) < sz) with
  | true => exact out
  | false =>
  clear out
  have h40 : ¬ (40 : Int) < sz := of_decide_eq_false h40
  refine hy2 _ _ (bF rfl ((new_c w4 sz).mono ?_))
  clear hy2
  rintro e w9 ⟨_, hgood⟩
  obtain ⟨b, ms, mf, rfl, hnew, f9, hD⟩ := hgood (by omega)
  have z9 := f9.size
  have hbs := hD.bs
  have hnb := hnew b (by simp)
  have hnm := hnew ms (by simp)
  have hnf := hnew mf (by simp)
  have hlt9 : ∀ x ∈ [b, ms, mf], x < w9.heap.size := fun x hx => by simp at hx; omega
  refine ⟨_, _, rfl, k1keep _ _ (Nat.le_refl _) f9, (rnew_c (F := [b, ms, mf]) hlt9 sz).mono ?_⟩
  rintro e w13 ⟨f13, _, hgood⟩
  obtain ⟨v0, rfl, hR0⟩ := hgood (by omega)
  have hR00 := hR0
  obtain ⟨_, sA, sC, nA, nC, fA, fC, rfl, _⟩ := hR0
  have z13 := f13.size
  refine ⟨_, _, _, _, _, _, _, _, _, _, _, _, rfl, k1keep _ _ z9 f13, fun k26 y27 hy27 => bF rfl fun w264 st264 => hy27 _ _ (bF rfl ?_)⟩
  clear hy27
  have n26 := g_new1 st264
  have z264 := st264.size
  have P0 : PairAt w w264 k1 k26 b ms mf (DM.fresh0 sz.toNat).n (rv sA sC nA nC fA fC (DM.fresh0 sz.toNat)) (DM.fresh0 sz.toNat) :=
    ⟨(hD.fr f13 (by simp)).fr st264.fr (by simp), (hR00.more (G := [k26]) (fun x hx => by rw [List.mem_singleton.1 hx]; exact n26.1)).fr st264.fr (by simp), by show (-1 : Int) < 0; decide, rfl, ((F4.trans' f9).trans' f13).trans' st264.fr, ⟨n1.1, by omega, by simp; omega, by omega⟩, ⟨by have := F4.size; omega, n26.2, by simp; omega⟩, fun x hx => ⟨by have := hnew x hx; have := F4.size; omega, by have := hlt9 x hx; omega⟩⟩
  refine ⟨fun m q p1 l1 c1 p2 l2 c2 p3 l3 c3 s4 s5 w' => ∃ (i : Nat) (M : DM), q = i ∧ i ≤ z.length ∧ m = z.length - i ∧ PairAt w w' k1 k26 b ms mf (DM.fresh0 sz.toNat).n (.agg #[.slice p1 l1 c1, .slice p2 l2 c2, .slice p3 l3 c3, I64 s4, I64 s5]) M, z.length, ⟨0, _, rfl, by omega, rfl, P0⟩, ?_⟩
  clear P0 hR00 hD
  rintro m q p1 l1 c1 p2 l2 c2 p3 l3 c3 s4 s5 w45 ⟨i, M, rfl, hi, rfl, hP⟩ y47 hy47
  have hzl : z.length = z.length := rfl
  have done : y47 false w45 := by
    refine hy47 _ _ (bF rfl ?_)
    clear hy47
    refine ⟨fun m q p1 l1 c1 p2 l2 c2 p3 l3 c3 s4 s5 w' => ∃ (i : Nat) (M : DM), q = i ∧ i ≤ hs.length ∧ m = hs.length - i ∧ PairAt w w' k1 k26 b ms mf (DM.fresh0 sz.toNat).n (.agg #[.slice p1 l1 c1, .slice p2 l2 c2, .slice p3 l3 c3, I64 s4, I64 s5]) M, hs.length, ⟨0, _, rfl, by omega, rfl, hP⟩, ?_⟩
    clear hP
    rintro m q p1 l1 c1 p2 l2 c2 p3 l3 c3 s4 s5 w137 ⟨i, M, rfl, hi, rfl, hP⟩ y139 hy139
    have done2 : y139 false w137 := by
      refine hy139 _ _ (bF rfl ((iopen_c hP.disk hf1 hc2).mono ?_))
      clear hy139
      have hn := hP.n
      rw [fresh_n'] at hn
      have hsz : ((sz.toNat : Nat) : Int) = sz := by omega
      rw [hsz] at hn
      rintro e w184 ⟨hbad, hgood⟩
      by_cases hb : first < 0 ∨ count < 2 ∨ M.n < first ∨ (M.n - first) / 2 < count
      · obtain ⟨rfl, rfl⟩ := hbad hb
        refine ⟨_, _, rfl, (fun x hx => rfl), (rifits_c _ (size := sz) (by omega) (by omega) hf1 hc2).mono ?_⟩
        rintro e w188 ⟨rfl, rfl⟩
        rw [hn] at hb
        refine ⟨_, rfl, (fun x hx => rfl), bT (by rw [decide_eq_true hb]; rfl) fun y190 hy190 => bT rfl (hy190 _ _ ⟨rfl, below _ hP.fr⟩)⟩
      · obtain ⟨ib, rfl, hib, f184, hI⟩ := hgood hb
        have fr184 : Fr [] w w184 := hP.fr.trans' f184
        have P184 := hP.step (F := []) (by simp) f184
        refine ⟨_, _, rfl, hP.keep (by simp) f184, (rifits_c _ (size := sz) (by omega) (by omega) hf1 hc2).mono ?_⟩
        rintro e w188 ⟨rfl, rfl⟩
        rw [hn] at hb
        refine ⟨_, rfl, (fun x hx => rfl), bF (by rw [decide_eq_false hb]; rfl) fun y195 hy195 => bF rfl (hy195 _ _ (bF rfl ((iload_c hI).mono ?_)))⟩
        clear hy195
        rintro e w199 ⟨p201, c203, rfl, f199, o199⟩
        have P199 := P184.step (F := []) (by simp) f199
        have e1 : ((first.toNat : Nat) : Int) = first := by omega
        have e2 : ((count.toNat : Nat) : Int) = count := by omega
        have hld := riload_c P199.ref (first := first.toNat) (count := count.toNat) hI.c2 hI.hi
        rw [e1, e2] at hld
        refine ⟨_, _, _, _, _, rfl, P184.keep (by simp) f199, hld.mono ?_⟩
        rintro e w206 ⟨f206, rfl⟩
        have P206 := P199.step (F := []) (by simp) f206
        have r206 : Row w206 p201 (byteCells (iload M.now first.toNat count.toNat).2.1) := g_row f206 o199.row fun ad _ _ => by simp
        refine ⟨_, _, _, rfl, P199.keep (by simp) f206, fun y210 hy210 => bT (by simp) (row_str r206 rfl (bT (by simp) (bT (by simp) ((tells_c P206.disk P206.ref).mono ?_))))⟩
        rintro e w220 ⟨rfl, f220⟩
        refine ⟨_, rfl, P206.keep (by simp) f220, hy210 _ _ ⟨rfl, below _ (P206.fr.trans' f220)⟩⟩
    refine ⟨fun hlt => ?_, fun _ => done2⟩
    have hlt : (i : Int) < (hs.length : Int) := of_decide_eq_true hlt
    cases h40' : decide ((i : Int) < 40) with
    | false => exact done2
    | true =>
    clear done2
    have h40' : (i : Int) < 40 := of_decide_eq_true h40'
    have hi' : i < hs.length := by omega
    refine hy139 _ _ (bT rfl ?_)
    clear hy139
    have hh137 := g_row hP.fr hh (fun ad _ _ => by simp)
    obtain ⟨ad, had⟩ := hh137.has (by rw [tcells_len]; omega)
    obtain ⟨t0, t1, t2⟩ := tcells_get hs i hi'
    have e0 : (i : Int).toNat * 3 = i * 3 := by omega
    obtain ⟨sq, hsq, esq⟩ := and_low hs[i].2.1
    obtain ⟨sn, hsn, esn⟩ := low31 hs[i].2.2
    refine ⟨ad, had, ⟨by omega, hlt⟩, ⟨by omega, by omega⟩, _, by rw [e0, add2]; exact hh137.get had t1, ad, had, ⟨by omega, hlt⟩, ⟨by omega, by omega⟩, _, by rw [e0, add2]; exact hh137.get had t2, by decide, fun w146 st146 => ?_⟩
    rw [esq, esn]
    refine (rihead_c w146 hsq (by omega)).mono ?_
    rintro e w149 ⟨rfl, f149⟩
    have P146 := hP.step (F := []) (by simp) st146.fr
    have P149 := P146.step (F := []) (by simp) f149
    have hh149 := g_row P149.fr hh (fun ad _ _ => by simp)
    refine ⟨_, rfl, P146.keep (by simp) f149, ad, had, ⟨by omega, hlt⟩, ⟨by omega, by omega⟩, _, by rw [e0, add2]; exact hh149.get had t0, fun w153 k154 k155 st153 hk155 b153 => ?_⟩
    have a153 := g_new1 st153
    have P153 := P149.step (F := []) (by simp) st153.fr
    have row153 : Row w153 (some ⟨k154, 0, none⟩) (byteCells (imgHead sq sn)) := row_prefix (xs := []) (by simpa using b153) rfl (byteCells_one _)
    refine (write_c P153.disk hs[i].1 row153 (fun ad' hp hm => by
      injection hp with hp; subst hp
      have h3 : k154 < w149.heap.size := (P149.bs _ hm).2
      omega)).mono ?_
    rintro e w160 ⟨rfl, f160, D160⟩
    have fr160 : Fr [] w w160 := P153.fr.trans f160 (fun x hx => .inr (P153.bs x hx).1)
    have hh160 := g_row fr160 hh (fun ad _ _ => by simp)
    refine ⟨_, rfl, P153.keep (fun x hx => hx) f160, ad, had, ⟨by omega, hlt⟩, ⟨by omega, by omega⟩, _, by rw [e0, add2]; exact hh160.get had t0, fun w164 st164 => ?_⟩
    have R164 := (P153.ref.fr f160 (fun x hx => .inl (List.mem_append_left _ hx))).fr st164.fr (by simp)
    refine (rwrite_c R164 (fun x hx => by have := P153.hF x hx; have := f160.size; have := st164.size; omega) hs[i].1 (imgHead sq sn)).mono ?_
    rintro e w167 ⟨v', rfl, f167, R167⟩
    have R167' := R167
    obtain ⟨_, sA', sC', nA', nC', fA', fC', rfl, _⟩ := R167
    refine ⟨_, _, _, _, _, _, _, _, _, _, _, _, rfl, g_keep f167 (fun x hx => by
      have := P153.b1; have := P153.b2; have := f160.size; have := st164.size
      simp at hx ⊢; omega), hs.length - (i + 1), by omega, fun w181 st181 => ⟨i + 1, (M.write hs[i].1 (imgHead sq sn)).1, by rw [wrapi (by omega) (by omega)]; simp, by omega, rfl, ?_⟩⟩
    exact P153.wrote f160 D160 (st164.fr.trans' f167) R167' st181.fr (write_left P153.left _ _) (write_n _ _ _)
  refine ⟨fun hlt => ?_, fun _ => done⟩
  have hlt : (i : Int) < (z.length : Int) := of_decide_eq_true hlt
  cases h40' : decide ((i : Int) < 40) with
  | false => exact done
  | true =>
  clear done
  have h40' : (i : Int) < 40 := of_decide_eq_true h40'
  refine hy47 _ _ (bT rfl ?_)
  clear hy47
  have e0 : (i : Int).toNat * 1 = i := by omega
  obtain ⟨s, ad, A, C, hzi, rfl, hcell, hrow, hrow0, _, _⟩ := hz.get hP.fr (i := i) (by omega)
  refine ⟨ad, rfl, ⟨by omega, hlt⟩, _, _, _, by rw [e0]; exact hcell, (bytes_c w45 hrow).mono ?_⟩
  rintro e w55 ⟨kb, rfl, zkb, f55, bb⟩
  have P55 := hP.step (F := []) (by simp) f55
  refine ⟨_, _, _, rfl, hP.keep (by simp) f55, (write_b P55.disk (i : Int) bb (round_size _).symm (fun hm => by have := (hP.bs _ hm).2; omega)).mono ?_⟩
  rintro e w60 ⟨rfl, f60, D60⟩
  have fr60 : Fr [] w w60 := P55.fr.trans f60 (fun x hx => .inr (P55.bs x hx).1)
  have c60 : World.cell? w60 (ad.add i) = some (.slice A s.size C) := by
    obtain ⟨s', ad', A', C', hzi', e', hcell', _, _, _, _⟩ := hz.get fr60 (i := i) (by omega)
    injection e' with e'
    subst e'
    rw [hzi] at hzi'
    have hzi' := Option.some.inj hzi'
    subst hzi'
    obtain ⟨s2, ad2, A2, C2, hzi2, e2, hcell2, _⟩ := hz.get (Fr.refl [] w) (i := i) (by omega)
    injection e2 with e2; subst e2
    have h1 := cell_fr hP.fr hcell2 (by simp)
    have h2 := cell_fr fr60 hcell2 (by simp)
    rw [hcell] at h1
    rw [← h1] at h2
    exact h2
  refine ⟨_, rfl, P55.keep (fun x hx => hx) f60, ad, rfl, ⟨by omega, hlt⟩, _, _, _, by rw [e0]; exact c60, ?_, ?_⟩
  all_goals
    intro w66 st66
    refine (bytes_c w66 (g_row (fr60.trans' st66.fr) hrow0 (fun ad _ _ => by simp))).mono ?_
    rintro e w69 ⟨kc, rfl, zkc, f69, bc⟩
    have z60 := f60.size
    have z66 := st66.size
    have z69 := f69.size
    have q1 := P55.b1
    have q2 := P55.b2
    obtain ⟨s1, s2⟩ := str_of bc (round_size _)
    refine ⟨_, _, _, rfl, g_keep f69 (fun x hx => by simp at hx ⊢; omega), (round s).data.toList, s1, s2, ?_⟩
    rw [mk_str]
    have R69 := ((P55.ref.fr f60 (fun x hx => .inl (List.mem_append_left _ hx))).fr st66.fr (by simp)).fr f69 (by simp)
    refine (rwrite_c R69 (fun x hx => by have := P55.hF x hx; omega) (i : Int) (round s)).mono ?_
    rintro e w78 ⟨v', rfl, f78, R78⟩
    have R78' := R78
    obtain ⟨_, sA', sC', nA', nC', fA', fC', rfl, _⟩ := R78
    refine ⟨_, _, _, _, _, _, _, _, _, _, _, _, rfl, g_keep f78 (fun x hx => by simp at hx ⊢; omega), z.length - (i + 1), by omega, fun w92 st92 => ⟨i + 1, (M.write (i : Int) (round s)).1, by rw [wrapi (by omega) (by omega)]; simp, by omega, rfl, ?_⟩⟩
    exact P55.wrote f60 D60 ((st66.fr.trans' f69).trans' f78) R78' st92.fr (write_left P55.left _ _) (write_n _ _ _)

end Go.Proofs.Ytcaamecdhbgknaa.Image
