/- LogReads: the law's own walk. -/
import Derived.Test.YtcaamecdhbgknaaH7
import Derived.Test.YtcaamecdhbgknaaL10
namespace Go.Proofs.Ytcaamecdhbgknaa.Log
open Go Go.V
open Go.Proofs.Ytcaamecdhbgknaa.VC
open Go.Proofs.Ytcaamecdhbgknaa.Disk
open Go.Proofs.Try (prog)
set_option linter.unusedVariables false
set_option linter.unusedSimpArgs false
set_option maxRecDepth 20000

theorem and_low (n : Int) : ∃ N : Nat, N < 9223372036854775808 ∧ bits .and .i64 n 4611686018427387903 = (N : Int) := by
  refine ⟨(BitVec.ofInt 64 n &&& BitVec.ofInt 64 4611686018427387903).toNat, ?_, ?_⟩
  · rw [BitVec.toNat_and]
    have : (BitVec.ofInt 64 4611686018427387903).toNat = 4611686018427387903 := by decide
    have := @Nat.and_le_right (BitVec.ofInt 64 n).toNat (BitVec.ofInt 64 4611686018427387903).toNat
    omega
  · show IntKind.i64.wrap ((BitVec.ofInt 64 n &&& BitVec.ofInt 64 4611686018427387903).toNat : Int) = _
    have h1 : (BitVec.ofInt 64 4611686018427387903).toNat = 4611686018427387903 := by decide
    have h2 := @Nat.and_le_right (BitVec.ofInt 64 n).toNat (BitVec.ofInt 64 4611686018427387903).toNat
    rw [BitVec.toNat_and] at *
    exact wrapi (by omega) (by omega)
theorem low16 (n : Int) : ∃ N : Nat, N < 65536 ∧ IntKind.wrap .i64 (Int.tmod (IntKind.wrap .u64 n) 65536) = (N : Int) := by
  have h : 0 ≤ IntKind.wrap .u64 n := by
    simp [IntKind.wrap, IntKind.bits, IntKind.signed]; omega
  generalize IntKind.wrap .u64 n = x at h
  rw [Int.tmod_eq_emod_of_nonneg h]
  exact ⟨(x % 65536).toNat, by omega, by rw [wrapi (by omega) (by omega)]; omega⟩
theorem write_left {M : DM} (h : M.left < 0) (i : Int) (s : ByteArray) : (M.write i s).1.left < 0 := by
  unfold DM.write
  split
  · exact h
  · split
    · exact h
    · show (if 0 < M.left then M.left - 1 else M.left) < 0
      rw [if_neg (by omega)]; exact h

abbrev T3 := Int × Int × Int
def tcells (l : List T3) : List Value := l.flatMap fun t => [I64 t.1, I64 t.2.1, I64 t.2.2]
theorem tcells_len (l : List T3) : (tcells l).length = l.length * 3 := by
  induction l with
  | nil => rfl
  | cons t l ih =>
    show (I64 t.1 :: I64 t.2.1 :: I64 t.2.2 :: tcells l).length = _
    simp only [List.length_cons]; omega
theorem tcells_get : ∀ (l : List T3) (i : Nat) (hi : i < l.length), (tcells l)[i * 3 + 0]? = some (I64 l[i].1) ∧ (tcells l)[i * 3 + 1]? = some (I64 l[i].2.1) ∧ (tcells l)[i * 3 + 2]? = some (I64 l[i].2.2)
  | t :: l, 0, _ => ⟨rfl, rfl, rfl⟩
  | t :: l, i + 1, hi => by
    have := tcells_get l i (by simpa using hi)
    have e : tcells (t :: l) = I64 t.1 :: I64 t.2.1 :: I64 t.2.2 :: tcells l := rfl
    rw [e, show (i + 1) * 3 + 0 = i * 3 + 0 + 1 + 1 + 1 by omega, show (i + 1) * 3 + 1 = i * 3 + 1 + 1 + 1 + 1 by omega, show (i + 1) * 3 + 2 = i * 3 + 2 + 1 + 1 + 1 by omega]
    simpa using this

/-- The disk and the document's, the same. -/
structure PairAt (w0 w : World) (k1 k26 b ms mf : Nat) (n : Int) (v : Value) (M : DM) : Prop where
  disk : DiskAt w b ms mf M
  ref : RefAt w v ([b, ms, mf] ++ [k26]) M
  left : M.left < 0
  n : M.n = n
  fr : Fr [] w0 w
  b1 : w0.heap.size ≤ k1 ∧ k1 < w.heap.size ∧ k1 ∉ [b, ms, mf] ∧ k1 ≠ k26
  b2 : w0.heap.size ≤ k26 ∧ k26 < w.heap.size ∧ k26 ∉ [b, ms, mf]
  bs : ∀ x ∈ [b, ms, mf], w0.heap.size ≤ x ∧ x < w.heap.size
theorem PairAt.step {w0 w w' : World} {k1 k26 b ms mf : Nat} {n : Int} {v : Value} {M : DM} (h : PairAt w0 w k1 k26 b ms mf n v M) {F : List Nat} (hF : ∀ x ∈ F, x = k26) (f : Fr F w w') : PairAt w0 w' k1 k26 b ms mf n v M := by
  have z := f.size
  have h1 := h.b1
  have h2 := h.b2
  exact ⟨h.disk.fr f (fun x hx hm => h2.2.2 (by rw [← hF x hm]; exact hx)), h.ref.fr f (fun x hx => .inl (by rw [hF x hx]; simp)), h.left, h.n, h.fr.trans f (fun x hx => .inr (by rw [hF x hx]; exact h2.1)), ⟨h1.1, by omega, h1.2.2⟩, ⟨h2.1, by omega, h2.2.2⟩, fun x hx => ⟨(h.bs x hx).1, by have := (h.bs x hx).2; omega⟩⟩
theorem PairAt.keep {w0 w w' : World} {k1 k26 b ms mf : Nat} {n : Int} {v : Value} {M : DM} (h : PairAt w0 w k1 k26 b ms mf n v M) {F : List Nat} (hF : ∀ x ∈ F, x ∈ [b, ms, mf]) (f : Fr F w w') : Keep [k1, k26] w w' :=
  g_keep f (fun x hx => by
    simp at hx
    rcases hx with rfl | rfl
    · exact ⟨h.b1.2.1, fun hm => h.b1.2.2.1 (hF _ hm)⟩
    · exact ⟨h.b2.2.1, fun hm => h.b2.2.2 (hF _ hm)⟩)
theorem PairAt.hF {w0 w : World} {k1 k26 b ms mf : Nat} {n : Int} {v : Value} {M : DM} (h : PairAt w0 w k1 k26 b ms mf n v M) : ∀ x ∈ [b, ms, mf] ++ [k26], x < w.heap.size := fun x hx => by
  rcases List.mem_append.1 hx with hx | hx
  · exact (h.bs x hx).2
  · rw [List.mem_singleton.1 hx]; exact h.b2.2.1
/-- Both are written. -/
theorem PairAt.wrote {w0 w w1 w2 w3 : World} {k1 k26 b ms mf : Nat} {n : Int} {v v' : Value} {M M' : DM} (h : PairAt w0 w k1 k26 b ms mf n v M) (f1 : Fr [b, ms, mf] w w1) (hD : DiskAt w1 b ms mf M') (f2 : Fr [] w1 w2) (hR : RefAt w2 v' ([b, ms, mf] ++ [k26]) M') (st : Fr [k26] w2 w3) (hl : M'.left < 0) (hn : M'.n = M.n) : PairAt w0 w3 k1 k26 b ms mf n v' M' := by
  have h1 := h.b1
  have h2 := h.b2
  have z1 := f1.size
  have z2 := f2.size
  have z3 := st.size
  have F3 : Fr [] w0 w3 := ((h.fr.trans f1 (fun x hx => .inr (h.bs x hx).1)).trans' f2).trans st (fun x hx => .inr (by rw [List.mem_singleton.1 hx]; exact h2.1))
  exact ⟨(hD.fr f2 (by simp)).fr st (fun x hx hm => h2.2.2 (by rw [← List.mem_singleton.1 hm]; exact hx)), hR.fr st (fun x hx => .inl (List.mem_append_right _ hx)), hl, by rw [hn]; exact h.n, F3, ⟨h1.1, by omega, h1.2.2⟩, ⟨h2.1, by omega, h2.2.2⟩, fun x hx => ⟨(h.bs x hx).1, by have := (h.bs x hx).2; omega⟩⟩

theorem lopen_n' {M : DM} (h : M.Ok) (first count : Int) : (lopen M first count).1.n = M.n := by
  unfold lopen
  split
  · rfl
  · split
    · rfl
    · exact wipe_n h _


set_option maxHeartbeats 2000000 in
theorem scan_walk (w : World) (sz first count : Int) (hf1 : -9223372036854775808 ≤ first) (hf2 : first < 9223372036854775808) (hc2 : count < 9223372036854775808) {a : Option Addr} {cap : Nat} {z : List ByteArray} (hz : RowsC w a z.length z) {hA : Option Addr} {hC : Nat} {hs : List T3} (hh : Row w hA (tcells hs)) :
    Calls prog 10 #[.agg #[I64 sz, I64 first, I64 count], .slice a z.length cap, .slice hA hs.length hC] w fun e w' => e = .returned (.bool true) ∧ RowKit.Below w.heap.size w w' := by
  refine rhizomelaw04_LogReads.link fun k1 y2 hy2 w268 st268 => (lawake_c w268).mono ?_
  have below : ∀ w', Fr [] w w' → RowKit.Below w.heap.size w w' := fun w' f => f.below (Nat.le_refl _) (fun x hx => by cases hx)
  rintro e w4 ⟨rfl, f4⟩
  have n1 := g_new1 st268
  have z4 := f4.size
  have F4 : Fr [] w w4 := st268.fr.trans' f4
  have k1keep : ∀ v v' : World, w4.heap.size ≤ v.heap.size → Fr [] v v' → Keep [k1] v v' := fun v v' hv f => g_keep f (fun x hx => by simp at hx; subst hx; exact ⟨by omega, by simp⟩)
  have out : y2 true w4 := hy2 _ _ (bT rfl ((lawake_c w4).mono (by
    rintro e w6 ⟨rfl, f6⟩
    exact ⟨_, rfl, k1keep _ _ (Nat.le_refl _) f6, rfl, below _ (F4.trans' f6)⟩)))
  refine ⟨_, rfl, g_keep f4 (fun x hx => by simp at hx; subst hx; exact ⟨by omega, by simp⟩), bF rfl ⟨fun _ => out, fun h1 => ?_⟩⟩
  have h1 : ¬ sz < 1 := of_decide_eq_false h1
  cases h40 : decide ((40 : Int) < sz) with
  | true => exact out
  | false =>
  clear out
  have h40 : ¬ (40 : Int) < sz := of_decide_eq_false h40
  refine hy2 _ _ (bF rfl ((new_c w4 sz).mono ?_))
  clear hy2
  rintro e w9 ⟨_, hgood⟩
  obtain ⟨b, ms, mf, rfl, hnew, f9, hD⟩ := hgood (by omega)
  have z9 := f9.size
  have hbs := hD.bs
  have hnb := hnew b (by simp)
  have hnm := hnew ms (by simp)
  have hnf := hnew mf (by simp)
  have hlt9 : ∀ x ∈ [b, ms, mf], x < w9.heap.size := fun x hx => by simp at hx; omega
  refine ⟨_, _, rfl, k1keep _ _ (Nat.le_refl _) f9, (rnew_c (F := [b, ms, mf]) hlt9 sz).mono ?_⟩
  rintro e w13 ⟨f13, _, hgood⟩
  obtain ⟨v0, rfl, hR0⟩ := hgood (by omega)
  have hR00 := hR0
  obtain ⟨_, sA, sC, nA, nC, fA, fC, rfl, _⟩ := hR0
  have z13 := f13.size
  refine ⟨_, _, _, _, _, _, _, _, _, _, _, _, rfl, k1keep _ _ z9 f13, fun k26 y27 hy27 => bF rfl fun w264 st264 => hy27 _ _ (bF rfl ?_)⟩
  clear hy27
  have n26 := g_new1 st264
  have z264 := st264.size
  have P0 : PairAt w w264 k1 k26 b ms mf (DM.fresh0 sz.toNat).n (rv sA sC nA nC fA fC (DM.fresh0 sz.toNat)) (DM.fresh0 sz.toNat) :=
    ⟨(hD.fr f13 (by simp)).fr st264.fr (by simp), (hR00.more (G := [k26]) (fun x hx => by rw [List.mem_singleton.1 hx]; exact n26.1)).fr st264.fr (by simp), by show (-1 : Int) < 0; decide, rfl, ((F4.trans' f9).trans' f13).trans' st264.fr, ⟨n1.1, by omega, by simp; omega, by omega⟩, ⟨by have := F4.size; omega, n26.2, by simp; omega⟩, fun x hx => ⟨by have := hnew x hx; have := F4.size; omega, by have := hlt9 x hx; omega⟩⟩
  refine ⟨fun m q p1 l1 c1 p2 l2 c2 p3 l3 c3 s4 s5 w' => ∃ (i : Nat) (M : DM), q = i ∧ i ≤ z.length ∧ m = z.length - i ∧ PairAt w w' k1 k26 b ms mf (DM.fresh0 sz.toNat).n (.agg #[.slice p1 l1 c1, .slice p2 l2 c2, .slice p3 l3 c3, I64 s4, I64 s5]) M, z.length, ⟨0, _, rfl, by omega, rfl, P0⟩, ?_⟩
  clear P0 hR00 hD
  rintro m q p1 l1 c1 p2 l2 c2 p3 l3 c3 s4 s5 w45 ⟨i, M, rfl, hi, rfl, hP⟩ y47 hy47
  have hzl : z.length = z.length := rfl
  have done : y47 false w45 := by
    refine hy47 _ _ (bF rfl ?_)
    clear hy47
    refine ⟨fun m q p1 l1 c1 p2 l2 c2 p3 l3 c3 s4 s5 w' => ∃ (i : Nat) (M : DM), q = i ∧ i ≤ hs.length ∧ m = hs.length - i ∧ PairAt w w' k1 k26 b ms mf (DM.fresh0 sz.toNat).n (.agg #[.slice p1 l1 c1, .slice p2 l2 c2, .slice p3 l3 c3, I64 s4, I64 s5]) M, hs.length, ⟨0, _, rfl, by omega, rfl, hP⟩, ?_⟩
    clear hP
    rintro m q p1 l1 c1 p2 l2 c2 p3 l3 c3 s4 s5 w137 ⟨i, M, rfl, hi, rfl, hP⟩ y139 hy139
    have done2 : y139 false w137 := by
      refine hy139 _ _ (bF rfl ((open_c hP.disk hf1 hc2).mono ?_))
      clear hy139
      have q1 := hP.b1
      have q2 := hP.b2
      have z137 : w.heap.size ≤ w137.heap.size := hP.fr.size
      have hok := hP.disk.ok
      rintro e w184 ⟨f184, D184, hbad, hgood⟩
      have z184 := f184.size
      have fr184 : Fr [] w w184 := hP.fr.trans f184 (fun x hx => .inr (hP.bs x hx).1)
      have hp : ∃ p186 k187 k188 p185, e = .returned (.tuple #[.pointer p185, .slice p186 k187 k188, I64 (lopen M first count).2]) ∧ ((lopen M first count).2 ≠ 0 → p185 = none ∧ k187 = 0) ∧
          ((lopen M first count).2 = 0 → ∃ lb rs own, p185 = some ⟨lb, 0, none⟩ ∧ k187 = rs.length ∧ LogAt w184 own lb b ms mf (lopen M first count).1 (lopenL M first count) ∧ Recs w184 w137.heap.size p186 rs.length k188 rs ∧ rs.map (fun r => (r.seq, r.data)) = (lscan M first.toNat (first + count).toNat).map (fun r => r.2) ∧ (∀ x ∈ own, x ∈ [b, ms, mf] ∨ w137.heap.size ≤ x)) := by
        by_cases hc : (lopen M first count).2 = 0
        · obtain ⟨lb, p, c, rs, own, rfl, hL, hRc, hrs, hown, _⟩ := hgood hc
          exact ⟨_, _, _, _, by rw [hc], fun h => absurd hc h, fun _ => ⟨lb, rs, own, rfl, rfl, hL, hRc, hrs, hown⟩⟩
        · exact ⟨_, _, _, _, hbad hc, fun _ => ⟨rfl, rfl⟩, fun h => absurd h hc⟩
      clear hbad hgood
      obtain ⟨p186, k187, k188, p185, rfl, hbad, hgood⟩ := hp
      have R184 := hP.ref.fr f184 (fun x hx => .inl (List.mem_append_left _ hx))
      refine ⟨_, _, _, _, _, rfl, hP.keep (fun x hx => hx) f184, (ropen_c R184 (fun x hx => by have := hP.hF x hx; omega) hf2 hc2).mono ?_⟩
      rintro e w191 ⟨v', lv, rfl, hO⟩
      have f191 := hO.fr
      have z191 := f191.size
      have R191 := hO.ref
      have R191' := R191
      obtain ⟨_, sA', sC', nA', nC', fA', fC', rfl, _⟩ := R191
      have hlv : ∃ x1 x2 p205 k206 k207 x3, lv = .agg #[I64 x1, I64 x2, .slice p205 k206 k207, I64 x3] ∧ ((lopen M first count).2 = 0 → k206 = ((lscan M first.toNat (first + count).toNat).map fun r => r.2).length ∧ x3 = (nextAt (lscan M first.toNat (first + count).toNat) : Nat) ∧ Row w191 p205 (rrcells ((lscan M first.toNat (first + count).toNat).map fun r => r.2)) ∧ (∀ ad, p205 = some ad → w184.heap.size ≤ ad.block) ∧ SOk first.toNat (first + count).toNat (lscan M first.toNat (first + count).toNat)) := by
        by_cases hc : (lopen M first count).2 = 0
        · obtain ⟨p, c, rfl, g1, g2, g3, g4⟩ := hO.good hc
          exact ⟨_, _, _, _, _, _, rfl, fun _ => ⟨rfl, rfl, g1, g2, g4⟩⟩
        · obtain rfl := hO.bad hc
          exact ⟨_, _, _, _, _, _, rfl, fun h => absurd h hc⟩
      clear hO
      obtain ⟨x1, x2, p205, k206, k207, x3, rfl, hlv⟩ := hlv
      refine ⟨_, _, _, _, _, _, _, _, _, _, _, _, _, _, _, _, _, _, rfl, g_keep f191 (fun x hx => by simp at hx ⊢; omega), fun k210 y211 hy211 => bF (by simp) fun w251 st251 => ?_⟩
      have a251 := g_new1 st251
      have z251 := st251.size
      have D191 := D184.fr f191 (by simp)
      have D251 := D191.fr st251.fr (fun x hx hm => q2.2.2 (by rw [← List.mem_singleton.1 hm]; exact hx))
      have R251 := R191'.fr st251.fr (fun x hx => .inl (List.mem_append_right _ hx))
      refine (tells_c D251 R251).mono ?_
      rintro e w254 ⟨rfl, f254⟩
      have z254 := f254.size
      have fr254 : Fr [] w w254 := ((fr184.trans' f191).trans st251.fr (fun x hx => .inr (by rw [List.mem_singleton.1 hx]; exact q2.1))).trans' f254
      refine ⟨_, rfl, g_keep f254 (fun x hx => by simp at hx ⊢; omega), hy211 _ _ (bF rfl fun y214 hy214 => ?_)⟩
      clear hy211
      by_cases hc : (lopen M first count).2 = 0
      rotate_left
      · obtain ⟨rfl, rfl⟩ := hbad hc
        exact bT rfl (hy214 _ _ (bT rfl fun y217 hy217 => bT rfl (hy217 _ _ ⟨by simp, below _ fr254⟩)))
      obtain ⟨lb, rs, own, rfl, rfl, hL, hRc, hrs, hown⟩ := hgood hc
      obtain ⟨rfl, rfl, rowR, pnR, hSO⟩ := hlv hc
      clear hgood hlv hbad
      refine bF rfl (hy214 _ _ (bF (by simp [hc]) ?_))
      clear hy214
      have hb : ¬ badArea M first count := fun hb => by
        have : lopen M first count = (M, 1) := by unfold lopen; rw [if_pos hb]
        rw [this] at hc
        exact absurd hc (show ¬ (1 : Int) = 0 by decide)
      obtain ⟨ag1, ag2, ag3⟩ := lopen_again hok hP.left hb
      have hb2 : ¬ badArea (lopen M first count).1 first count := by
        intro hb2
        apply hb
        have hb2' : first < 0 ∨ count < 2 ∨ (lopen M first count).1.n < first ∨ (lopen M first count).1.n - first < count := hb2
        rw [ag3] at hb2'
        exact hb2'
      have hc2' := open_alive ag2 hb2
      have D254 := D251.fr f254 (by simp)
      refine (open_c D254 hf1 hc2).mono ?_
      rintro e w223 ⟨f223, D223, _, hgood2⟩
      obtain ⟨lb2, p225, c227, rs2, own2, rfl, hL2, hRc2, hrs2, hown2, _⟩ := hgood2 hc2'
      rw [ag1] at hrs2
      have z223 := f223.size
      have fr223 : Fr [] w w223 := fr254.trans f223 (fun x hx => .inr (hP.bs x hx).1)
      have ltb : ∀ x ∈ [b, ms, mf], x < w137.heap.size := fun x hx => (hP.bs x hx).2
      have ltb1 := ltb b (by simp)
      have ltb2 := ltb ms (by simp)
      have ltb3 := ltb mf (by simp)
      have k1b := q1.2.2.1
      simp at k1b
      refine ⟨_, _, _, _, _, rfl, g_keep f223 (fun x hx => by simp at hx ⊢; omega), fun y229 hy229 w234 st234 => ?_⟩
      have f191_223 : Fr ([k26] ++ [b, ms, mf]) w191 w223 := ((st251.fr.mono (G := [k26] ++ [b, ms, mf]) (fun x hx => .inl (List.mem_append_left _ hx))).trans f254 (fun x hx => by cases hx)).trans f223 (fun x hx => .inl (List.mem_append_right _ hx))
      have f184_234 : Fr ([k26] ++ [b, ms, mf]) w184 w234 := ((f191.mono (G := [k26] ++ [b, ms, mf]) (fun x hx => by cases hx)).trans f191_223 (fun x hx => .inl hx)).trans st234.fr (fun x hx => by cases hx)
      have inB : ∀ x, w137.heap.size ≤ x → x ∉ [k26] ++ [b, ms, mf] := fun x hx hm => by
        simp at hm; omega
      have hRc234 := hRc.fr f184_234 (fun ad hp => inB _ (hRc.own.lt hp).1) (fun r hr ad hp => inB _ ((hRc.row r hr).2 ad hp).1)
      have hRR234 : Row w234 p205 (rrcells ((lscan M first.toNat (first + count).toNat).map fun r => r.2)) := g_row st234.fr (g_row f191_223 rowR (fun ad hp _ => inB _ (by have := pnR ad hp; omega))) (fun ad _ _ => by simp)
      have hsl := hSO.l
      have hse := hSO.e2
      have hn4 := hL.ok.n4
      have hrl : rs.length < 9223372036854775807 := by
        have := congrArg List.length hrs
        simp at this
        have hb' : ¬ (first < 0 ∨ count < 2 ∨ M.n < first ∨ M.n - first < count) := hb
        have hMn : M.n = (M.sure.length : Int) := rfl
        have := hok.hi
        omega
      have hrl2 : rs2.length = rs.length := by
        have h1 := congrArg List.length hrs
        have h2 := congrArg List.length hrs2
        simp at h1 h2
        omega
      refine (same_c hRc234.own.row (fun r hr => (hRc234.row r hr).1) hRR234 hrs hrl).mono ?_
      rintro e w237 ⟨rfl, f237⟩
      have z234 := st234.size
      have z237 := f237.size
      refine ⟨_, rfl, g_keep f237 (fun x hx => by simp at hx ⊢; omega), bT rfl (bT rfl ?_)⟩
      have hRc237 := (hRc2.fr st234.fr (fun ad _ => by simp) (fun r _ ad _ => by simp)).fr f237 (fun ad _ => by simp) (fun r _ ad _ => by simp)
      refine (same_c hRc237.own.row (fun r hr => (hRc237.row r hr).1) (g_row f237 hRR234 (fun ad _ _ => by simp)) hrs2 (by omega)).mono ?_
      rintro e w240 ⟨rfl, f240⟩
      refine ⟨_, rfl, g_keep f240 (fun x hx => by simp at hx ⊢; omega), bT rfl ?_⟩
      have ownk : ∀ x ∈ own, x ∉ [k26] := fun x hx hm => by
        rw [List.mem_singleton.1 hm] at hx
        rcases hown _ hx with h | h
        · exact q2.2.2 h
        · omega
      have hL254 := ((hL.fr f191 (fun x _ => by simp)).fr st251.fr ownk).fr f254 (fun x _ => by simp)
      have hL223 := hL254.setD f223 D223 (lopen_n' D254.ok first count)
      have hL240 := ((hL223.fr st234.fr (fun x _ => by simp)).fr f237 (fun x _ => by simp)).fr f240 (fun x _ => by simp)
      refine (next_c hL240).mono ?_
      rintro e w243 ⟨rfl, rfl⟩
      refine ⟨_, rfl, fun b hb => rfl, hy229 _ _ ⟨by simp [lopenL], below _ ?_⟩⟩
      exact ((fr223.trans' st234.fr).trans' f237).trans' f240
    refine ⟨fun hlt => ?_, fun _ => done2⟩
    have hlt : (i : Int) < (hs.length : Int) := of_decide_eq_true hlt
    cases h40' : decide ((i : Int) < 40) with
    | false => exact done2
    | true =>
    clear done2
    have h40' : (i : Int) < 40 := of_decide_eq_true h40'
    have hi' : i < hs.length := by omega
    refine hy139 _ _ (bT rfl ?_)
    clear hy139
    have hh137 := g_row hP.fr hh (fun ad _ _ => by simp)
    obtain ⟨ad, had⟩ := hh137.has (by rw [tcells_len]; omega)
    obtain ⟨t0, t1, t2⟩ := tcells_get hs i hi'
    have e0 : (i : Int).toNat * 3 = i * 3 := by omega
    obtain ⟨sq, hsq, esq⟩ := and_low hs[i].2.1
    obtain ⟨sn, hsn, esn⟩ := low16 hs[i].2.2
    refine ⟨ad, had, ⟨by omega, hlt⟩, ⟨by omega, by omega⟩, _, by rw [e0, add2]; exact hh137.get had t1, ad, had, ⟨by omega, hlt⟩, ⟨by omega, by omega⟩, _, by rw [e0, add2]; exact hh137.get had t2, by decide, fun w146 st146 => ?_⟩
    rw [esq, esn]
    refine (rhead_c w146 hsq hsn).mono ?_
    rintro e w149 ⟨rfl, f149⟩
    have P146 := hP.step (F := []) (by simp) st146.fr
    have P149 := P146.step (F := []) (by simp) f149
    have hh149 := g_row P149.fr hh (fun ad _ _ => by simp)
    refine ⟨_, rfl, P146.keep (by simp) f149, ad, had, ⟨by omega, hlt⟩, ⟨by omega, by omega⟩, _, by rw [e0, add2]; exact hh149.get had t0, fun w153 k154 k155 st153 hk155 b153 => ?_⟩
    have a153 := g_new1 st153
    have P153 := P149.step (F := []) (by simp) st153.fr
    have row153 : Row w153 (some ⟨k154, 0, none⟩) (byteCells (logHead sq sn)) := row_prefix (xs := []) (by simpa using b153) rfl (byteCells_one _)
    refine (write_c P153.disk hs[i].1 row153 (fun ad' hp hm => by
      injection hp with hp; subst hp
      have h3 : k154 < w149.heap.size := (P149.bs _ hm).2
      omega)).mono ?_
    rintro e w160 ⟨rfl, f160, D160⟩
    have fr160 : Fr [] w w160 := P153.fr.trans f160 (fun x hx => .inr (P153.bs x hx).1)
    have hh160 := g_row fr160 hh (fun ad _ _ => by simp)
    refine ⟨_, rfl, P153.keep (fun x hx => hx) f160, ad, had, ⟨by omega, hlt⟩, ⟨by omega, by omega⟩, _, by rw [e0, add2]; exact hh160.get had t0, fun w164 st164 => ?_⟩
    have R164 := (P153.ref.fr f160 (fun x hx => .inl (List.mem_append_left _ hx))).fr st164.fr (by simp)
    refine (rwrite_c R164 (fun x hx => by have := P153.hF x hx; have := f160.size; have := st164.size; omega) hs[i].1 (logHead sq sn)).mono ?_
    rintro e w167 ⟨v', rfl, f167, R167⟩
    have R167' := R167
    obtain ⟨_, sA', sC', nA', nC', fA', fC', rfl, _⟩ := R167
    refine ⟨_, _, _, _, _, _, _, _, _, _, _, _, rfl, g_keep f167 (fun x hx => by
      have := P153.b1; have := P153.b2; have := f160.size; have := st164.size
      simp at hx ⊢; omega), hs.length - (i + 1), by omega, fun w181 st181 => ⟨i + 1, (M.write hs[i].1 (logHead sq sn)).1, by rw [wrapi (by omega) (by omega)]; simp, by omega, rfl, ?_⟩⟩
    exact P153.wrote f160 D160 (st164.fr.trans' f167) R167' st181.fr (write_left P153.left _ _) (write_n _ _ _)
  refine ⟨fun hlt => ?_, fun _ => done⟩
  have hlt : (i : Int) < (z.length : Int) := of_decide_eq_true hlt
  cases h40' : decide ((i : Int) < 40) with
  | false => exact done
  | true =>
  clear done
  have h40' : (i : Int) < 40 := of_decide_eq_true h40'
  refine hy47 _ _ (bT rfl ?_)
  clear hy47
  have e0 : (i : Int).toNat * 1 = i := by omega
  obtain ⟨s, ad, A, C, hzi, rfl, hcell, hrow, hrow0, _, _⟩ := hz.get hP.fr (i := i) (by omega)
  refine ⟨ad, rfl, ⟨by omega, hlt⟩, _, _, _, by rw [e0]; exact hcell, (bytes_c w45 hrow).mono ?_⟩
  rintro e w55 ⟨kb, rfl, zkb, f55, bb⟩
  have P55 := hP.step (F := []) (by simp) f55
  refine ⟨_, _, _, rfl, hP.keep (by simp) f55, (write_b P55.disk (i : Int) bb (round_size _).symm (fun hm => by have := (hP.bs _ hm).2; omega)).mono ?_⟩
  rintro e w60 ⟨rfl, f60, D60⟩
  have fr60 : Fr [] w w60 := P55.fr.trans f60 (fun x hx => .inr (P55.bs x hx).1)
  have c60 : World.cell? w60 (ad.add i) = some (.slice A s.size C) := by
    obtain ⟨s', ad', A', C', hzi', e', hcell', _, _, _, _⟩ := hz.get fr60 (i := i) (by omega)
    injection e' with e'
    subst e'
    rw [hzi] at hzi'
    have hzi' := Option.some.inj hzi'
    subst hzi'
    obtain ⟨s2, ad2, A2, C2, hzi2, e2, hcell2, _⟩ := hz.get (Fr.refl [] w) (i := i) (by omega)
    injection e2 with e2; subst e2
    have h1 := cell_fr hP.fr hcell2 (by simp)
    have h2 := cell_fr fr60 hcell2 (by simp)
    rw [hcell] at h1
    rw [← h1] at h2
    exact h2
  refine ⟨_, rfl, P55.keep (fun x hx => hx) f60, ad, rfl, ⟨by omega, hlt⟩, _, _, _, by rw [e0]; exact c60, ?_, ?_⟩
  all_goals
    intro w66 st66
    refine (bytes_c w66 (g_row (fr60.trans' st66.fr) hrow0 (fun ad _ _ => by simp))).mono ?_
    rintro e w69 ⟨kc, rfl, zkc, f69, bc⟩
    have z60 := f60.size
    have z66 := st66.size
    have z69 := f69.size
    have q1 := P55.b1
    have q2 := P55.b2
    obtain ⟨s1, s2⟩ := str_of bc (round_size _)
    refine ⟨_, _, _, rfl, g_keep f69 (fun x hx => by simp at hx ⊢; omega), (round s).data.toList, s1, s2, ?_⟩
    rw [mk_str]
    have R69 := ((P55.ref.fr f60 (fun x hx => .inl (List.mem_append_left _ hx))).fr st66.fr (by simp)).fr f69 (by simp)
    refine (rwrite_c R69 (fun x hx => by have := P55.hF x hx; omega) (i : Int) (round s)).mono ?_
    rintro e w78 ⟨v', rfl, f78, R78⟩
    have R78' := R78
    obtain ⟨_, sA', sC', nA', nC', fA', fC', rfl, _⟩ := R78
    refine ⟨_, _, _, _, _, _, _, _, _, _, _, _, rfl, g_keep f78 (fun x hx => by simp at hx ⊢; omega), z.length - (i + 1), by omega, fun w92 st92 => ⟨i + 1, (M.write (i : Int) (round s)).1, by rw [wrapi (by omega) (by omega)]; simp, by omega, rfl, ?_⟩⟩
    exact P55.wrote f60 D60 ((st66.fr.trans' f69).trans' f78) R78' st92.fr (write_left P55.left _ _) (write_n _ _ _)

end Go.Proofs.Ytcaamecdhbgknaa.Log
