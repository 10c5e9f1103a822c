/- DiskTwice: the law's own walk. -/
import Derived.Test.YtcaamecdhbgknaaLPlays
import Derived.Test.YtcaamecdhbgknaaL8
namespace Go.Proofs.Ytcaamecdhbgknaa.Disk
open Go Go.V
open Go.Proofs.Ytcaamecdhbgknaa.VC
open Go.Proofs.Try (prog)
set_option linter.unusedVariables false
set_option linter.unusedSimpArgs false
set_option maxRecDepth 20000

/-- Both disks where a script has come to; the blocks ks are the law's own. -/
def PlayAt (w0 : World) (ks : List Nat) (w : World) (p : Option Addr) (v : Value) (M : DM) : Prop :=
  ∃ b ms mf, p = some ⟨b, 0, none⟩ ∧ DiskAt w b ms mf M ∧ RefAt w v ([b, ms, mf] ++ ks) M ∧ Fr [] w0 w ∧ (∀ x ∈ [b, ms, mf], w0.heap.size ≤ x) ∧ (∀ x ∈ ks, w0.heap.size ≤ x ∧ x < w.heap.size ∧ x ∉ [b, ms, mf])
theorem PlayAt.fr {w0 w w' : World} {ks : List Nat} {p : Option Addr} {v : Value} {M : DM} {G : List Nat} (h : PlayAt w0 ks w p v M) (hf : Fr G w w') (hG : ∀ x ∈ G, x ∈ ks ∨ w.heap.size ≤ x) : PlayAt w0 ks w' p v M := by
  obtain ⟨b, ms, mf, rfl, hD, hR, f, hb, hk⟩ := h
  have hz := f.size
  have hbs := hD.bs
  refine ⟨b, ms, mf, rfl, hD.fr hf (fun x hx hm => ?_), hR.fr hf (fun x hx => ?_), f.trans hf (fun x hx => ?_), hb, fun x hx => ⟨(hk x hx).1, ?_, (hk x hx).2.2⟩⟩
  · rcases hG x hm with h | h
    · exact (hk x h).2.2 hx
    · simp at hx; omega
  · rcases hG x hx with h | h
    · exact .inl (List.mem_append_right _ h)
    · exact .inr h
  · rcases hG x hx with h | h
    · exact .inr (hk x h).1
    · exact .inr (by omega)
  · have := (hk x hx).2.1
    have := hf.size
    omega
theorem play_step {w0 w : World} {ks : List Nat} {p : Option Addr} {v : Value} {M : DM} (h : PlayAt w0 ks w p v M) {o : POp} {A A2 : Option Addr} {C C2 : Nat} (r1' : Row w0 A (byteCells o.b)) (r2' : Row w0 A2 (o.keep.map .bool)) (b1 : o.b.size ≤ 140737488351232) (b2 : o.keep.length ≤ 140737488351232) (b3 : o.n < 9223372036854775808) :
    Calls prog 31 #[.pointer p, v, .agg #[I64 o.kind, I64 o.n, I64 o.cut, .slice A o.b.size C, .bool o.raw, .slice A2 o.keep.length C2]] w fun e w' => ∃ p' v', e = .returned (.tuple #[.pointer p', v', .bool true]) ∧ Keep ks w w' ∧ PlayAt w0 ks w' p' v' (M.play o) := by
  obtain ⟨b, ms, mf, rfl, hD, hR, f, hb, hk⟩ := h
  have hbs := hD.bs
  have r1 : Row w A (byteCells o.b) := g_row f r1' fun ad _ _ => by simp
  have r2 : Row w A2 (o.keep.map .bool) := g_row f r2' fun ad _ _ => by simp
  refine (play_c hD hR (fun x hx => ?_) (fun x hx => List.mem_append_left _ hx) o (oBC := C) (oKC := C2) r1 b1 ((row_nowhere r1' r1 hb).imp id fun h => byteCells_nil h) r2 b2 ((row_nowhere r2' r2 hb).imp id fun h => List.map_eq_nil_iff.1 h) b3).mono ?_
  · rcases List.mem_append.1 hx with hx | hx
    · simp at hx; omega
    · exact (hk x hx).2.1
  rintro e w64 ⟨b', ms', mf', v', rfl, f64, hD64, hR64, hx⟩
  have z64 := f64.size
  have z := f.size
  refine ⟨_, _, rfl, fun x hx => f64.blk x (hk x hx).2.1 (hk x hx).2.2, b', ms', mf', rfl, hD64, hR64.less (fun x hx => ?_), f.trans f64 (fun x hx => .inr (hb x hx)), fun x hxx => ?_, fun x hxx => ⟨(hk x hxx).1, by have := (hk x hxx).2.1; omega, fun hm => ?_⟩⟩
  · rcases List.mem_append.1 hx with hx | hx
    · exact List.mem_append_right _ hx
    · exact List.mem_append_left _ (List.mem_append_right _ hx)
  · rcases hx x hxx with h | h
    · exact hb x h
    · omega
  · rcases hx x hm with h | h
    · exact (hk x hxx).2.2 h
    · have := (hk x hxx).2.1; omega
/-- The reference's value, by its parts. -/
theorem RefAt.parts {w : World} {v : Value} {F : List Nat} {M : DM} (h : RefAt w v F M) : ∃ (sA : Option Addr) (sL sC : Nat) (nA : Option Addr) (nL nC : Nat) (fA : Option Addr) (fL fC : Nat) (s l : Int), v = .agg #[.slice sA sL sC, .slice nA nL nC, .slice fA fL fC, I64 s, I64 l] := by
  obtain ⟨_, sA, sC, nA, nC, fA, fC, rfl, -, -, -, -⟩ := h
  exact ⟨_, _, _, _, _, _, _, _, _, _, _, rfl⟩
theorem PlayAt.parts {w0 w : World} {ks : List Nat} {p : Option Addr} {v : Value} {M : DM} (h : PlayAt w0 ks w p v M) : ∃ (sA : Option Addr) (sL sC : Nat) (nA : Option Addr) (nL nC : Nat) (fA : Option Addr) (fL fC : Nat) (s l : Int), v = .agg #[.slice sA sL sC, .slice nA nL nC, .slice fA fL fC, I64 s, I64 l] := by
  obtain ⟨b, ms, mf, rfl, hD, hR, _⟩ := h
  exact hR.parts

theorem DM.play_len (M : DM) (hok : M.Ok) (o : POp) : (M.play o).sure.length = M.sure.length := by
  unfold DM.play
  split
  · unfold DM.write; split
    · rfl
    · split <;> rfl
  · split
    · unfold DM.flush; split
      · rfl
      · exact hok.now
    · split
      · unfold DM.arm; split
        · rfl
        · split <;> rfl
      · split
        · simp [DM.crash]
        · rfl
/-- A crash where all is sure. -/
theorem DM.crash_calm {M : DM} (hok : M.Ok) (h : ∀ i : Nat, M.fresh[i]? ≠ some true) (keep : List Bool) (torn cut : Int) : (M.crash keep torn cut).sure = M.sure ∧ (M.crash keep torn cut).now = M.sure := by
  have e : ((List.range M.sure.length).map fun i => if M.fresh[i]? = some true then M.pick keep torn cut (M.rank i) i else M.sureAt i) = M.sure := by
    apply List.ext_getElem?
    intro i
    by_cases hi : i < M.sure.length
    · rw [List.getElem?_map, List.getElem?_range hi]
      simp only [Option.map_some, if_neg (h i)]
      exact (hok.sureAt hi).1.symm
    · rw [List.getElem?_eq_none (by simp; omega), List.getElem?_eq_none (by omega)]
  exact ⟨e, e⟩
theorem DM.crash_fresh (M : DM) (keep : List Bool) (torn cut : Int) (i : Nat) : (M.crash keep torn cut).fresh[i]? ≠ some true := by
  intro h
  have := List.mem_of_getElem? (show (List.replicate M.sure.length false)[i]? = some true from h)
  exact absurd (List.mem_replicate.1 this).2 (by decide)
/-- What is read of a sector that is there. -/
theorem read_in {w : World} {b ms mf : Nat} {M : DM} (h : DiskAt w b ms mf M) {i : Nat} (hi : i < M.sure.length) : Calls prog 22 #[D b, I64 (i : Int)] w fun e w' => ∃ k s, M.now[i]? = some s ∧ s.size = 64 ∧ e = .returned (.tuple #[.slice (some ⟨k, 0, none⟩) 64 64, I64 0]) ∧ w.heap.size ≤ k ∧ Fr [] w w' ∧ Blk w' k (byteCells s) := by
  refine (read_c h i).mono ?_
  rintro e w' ⟨_, hr⟩
  obtain ⟨k, s, hs, he, hk, f, hb⟩ := hr (by show ¬ ((i : Int) < 0 ∨ (M.sure.length : Int) ≤ i); omega)
  have e0 : (i : Int).toNat = i := by omega
  rw [e0] at hs
  exact ⟨k, s, hs, h.ok.w64 _ _ hs, he, hk, f, hb⟩

theorem twice_walk (w : World) {a : Option Addr} {len cap : Nat} {z : List POp} (hz : IsOps w a len cap z) {kA : Option Addr} {kC : Nat} {keep : List Bool} (hkeep : Row w kA (keep.map .bool)) (at0 at1 : Int) :
    Calls prog 8 #[.slice a len cap, .slice kA keep.length kC, .agg #[I64 at0, I64 at1]] w fun e w' => e = .returned (.bool true) ∧ RowKit.Below w.heap.size w w' := by
  refine rhizomelaw03_DiskTwice.link fun k1 w2 st2 => (awake_c w2).mono ?_
  rintro e w5 ⟨rfl, f5⟩
  have n1 := g_new1 st2
  have z5 := f5.size
  refine ⟨_, rfl, g_keep f5 (by simp; omega), bF rfl ((new_c w5 9).mono ?_)⟩
  rintro e w8 ⟨_, hgood⟩
  obtain ⟨b, ms, mf, rfl, hnew, f8, hD⟩ := hgood (by omega)
  have z8 := f8.size
  have hbs := hD.bs
  have hn1 := hnew b (by simp)
  have hn2 := hnew ms (by simp)
  have hn3 := hnew mf (by simp)
  refine ⟨_, _, rfl, g_keep f8 (by simp; omega), (rnew_c (w := w8) (F := [b, ms, mf, k1]) (fun x hx => by simp at hx; omega) 9).mono ?_⟩
  rintro e w12 ⟨f12, _, he⟩
  obtain ⟨v, rfl, hR⟩ := he (by omega)
  have z12 := f12.size
  obtain ⟨sA, sL, sC, nA, nL, nC, fA, fL, fC, sv, lv, rfl⟩ := hR.parts
  refine ⟨_, _, _, _, _, _, _, _, _, _, _, _, rfl, g_keep f12 (by simp; omega), fun k25 y26 hy26 => bF rfl fun w169 st169 => hy26 _ _ (bF rfl ?_)⟩
  clear hy26
  have n25 := g_new1 st169
  have z169 := st169.size
  have z2 := st2.size
  refine ⟨fun m p ok q p1 l1 c1 p2 l2 c2 p3 l3 c3 s4 s5 w' => ∃ (i : Nat) (M : DM), PlayAt w [k1, k25] w' p (.agg #[.slice p1 l1 c1, .slice p2 l2 c2, .slice p3 l3 c3, I64 s4, I64 s5]) M ∧ M.sure.length = 9 ∧ q = i ∧ i ≤ 40 ∧ m = 40 - i ∧ ok = true, 40,
    ⟨0, _, ⟨b, ms, mf, rfl, hD.fr (f12.trans' st169.fr) (by simp), (hR.more (G := [k25]) (fun x hx => by simp at hx; omega)).fr st169.fr (by simp), ?_, ?_, ?_⟩, by simp [DM.fresh0], rfl, by omega, rfl, rfl⟩, ?_⟩
  · clear hR
    (refine mkFr ?_ ?_ ?_ <;> grind (splits := 40) [→ g_size, → g_sys, g_get, → g_step, → g_upd, → g_updb, → g_updz, → g_mupd, → g_mupdm, → g_istep, → g_new1, → g_new2, → g_new3, → g_new4, → g_blk, → g_blk_lt, → g_own, → g_own_lt, → g_row, → g_map, → g_map_lt, → g_ownz, → g_ownz_lt, → g_news1, → g_news2, → g_news3, = g_mem_pb, = g_pb_none, = g_pb_some])
  · intro x hx
    simp at hx; omega
  · intro x hx
    simp at hx ⊢; omega
  clear hR hD
  rintro m p ok q p1 l1 c1 p2 l2 c2 p3 l3 c3 s4 s5 w46 ⟨i, M, hP, h9, rfl, hi, rfl, rfl⟩ y48 hy48
  have done : y48 false w46 := by
    refine hy48 _ _ (bF rfl (bF rfl ⟨⟨by omega, by omega⟩, ⟨by omega, by omega⟩, ?_⟩))
    clear hy48
    obtain ⟨b, ms, mf, rfl, hD, -, f, hb, hk⟩ := hP
    have hk1 := hk k1 (by simp)
    have hk25 := hk k25 (by simp)
    have hkA : ∀ w', Fr [] w46 w' → Row w' kA (keep.map .bool) := fun w' hf => g_row (f.trans' hf) hkeep fun ad _ _ => by simp
    have ks : ∀ x ∈ [k1, k25], x < w46.heap.size := fun x hx => by simp at hx; omega
    refine (crash_c hD (hkA w46 (Fr.refl _ _)) at0 at1).mono ?_
    rintro e w83 ⟨ab, am, af, rfl, an, f83, hA⟩
    have z83 := f83.size
    have hA9 : (M.crash keep at0 at1).sure.length = 9 := by simp [DM.crash, h9]
    refine ⟨_, rfl, g_keep f83 (fun x hx => ⟨ks x hx, by simp⟩), bF rfl ⟨⟨by omega, by omega⟩, ⟨by omega, by omega⟩, (crash_c hA (hkA w83 f83) at1 at0).mono ?_⟩⟩
    rintro e w86 ⟨bb, bm, bf, rfl, bn, f86, hB⟩
    have z86 := f86.size
    have habs := hA.bs
    have hbbs := hB.bs
    have bn1 := bn bb (by simp)
    have bn2 := bn bm (by simp)
    have bn3 := bn bf (by simp)
    obtain ⟨eBs, eBn⟩ := DM.crash_calm hA.ok (DM.crash_fresh M keep at0 at1) keep at1 at0
    refine ⟨_, rfl, g_keep f86 (fun x hx => ⟨by have := ks x hx; omega, by simp⟩), fun y88 hy88 => bF rfl ((arm_c (hA.fr f86 (by simp)) (n := 0) (by omega)).mono ?_)⟩
    rintro e w149 ⟨rfl, f149, hA'⟩
    have z149 := f149.size
    have earm : (M.crash keep at0 at1).arm 0 = ({ (M.crash keep at0 at1) with left := 0 }, 0) := by
      unfold DM.arm
      rw [if_neg (by omega), if_neg (show ¬ (M.crash keep at0 at1).dead from show ¬ ((-1 : Int) = 0) by decide)]
    rw [earm] at hA' ⊢
    have an1 := an ab (by simp)
    refine ⟨_, rfl, g_keep f149 (fun x hx => ⟨by have := ks x hx; omega, by have := ks x hx; simp; omega⟩), bF rfl fun k151 w152 st152 b152 => ?_⟩
    have n151 := g_new1 st152
    refine (bytes_c w152 (bA := some ⟨k151, 0, none⟩) (bs := ⟨#[5]⟩) (Row.all b152 (byteCells_one _))).mono ?_
    rintro e w156 ⟨k157, rfl, hk157, f156, b156⟩
    have z156 := f156.size
    have hB156 : DiskAt w156 bb bm bf ((M.crash keep at0 at1).crash keep at1 at0) := ((hB.fr f149 (by simp; omega)).fr st152.fr (by simp)).fr f156 (by simp)
    refine ⟨_, _, _, rfl, g_keep f156 (fun x hx => ⟨by have := ks x hx; omega, by simp⟩), (write_b hB156 0 b156 (by rw [round_size]) (by simp; omega)).mono ?_⟩
    rintro e w161 ⟨rfl, f161, hB'⟩
    have z161 := f161.size
    have hB9 : ((M.crash keep at0 at1).crash keep at1 at0).sure.length = 9 := by rw [eBs]; exact hA9
    have ew := write_live (M := (M.crash keep at0 at1).crash keep at1 at0) (i := 0) (s := round ⟨#[5]⟩) (by omega) (by unfold DM.n; rw [hB9]; omega) (round_size _) (show ¬ ((-1 : Int) = 0) by decide)
    rw [ew] at hB' ⊢
    refine ⟨_, rfl, g_keep f161 (fun x hx => ⟨by have := ks x hx; omega, by have := ks x hx; simp; omega⟩), hy88 _ _ (bF rfl ?_)⟩
    clear hy88
    have hA161 : DiskAt w161 ab am af { (M.crash keep at0 at1) with left := 0 } := ((hA'.fr st152.fr (by simp)).fr f156 (by simp)).fr f161 (fun x hx => by simp at hx ⊢; omega)
    refine (crash_c hA161 (keep := []) (Row.nil _ _) 0 64).mono ?_
    rintro e w92 ⟨cb, cm, cf, rfl, cn, f92, hC⟩
    obtain ⟨eCs, eCn⟩ := DM.crash_calm hA161.ok (DM.crash_fresh M keep at0 at1) [] 0 64
    have z92 := f92.size
    have F : Fr [] w w92 := by
      clear hA hA' hA161 hB hB' hB156 hC hkA
      refine ((((((f.trans' f83).trans' f86).trans f149 ?_).trans' st152.fr).trans' f156).trans f161 ?_).trans' f92
      · intro x hx
        simp at hx
        have := f.size
        exact .inr (by omega)
      · intro x hx
        simp at hx
        have := f.size
        exact .inr (by omega)
    refine ⟨_, rfl, fun m q w' => ∃ i : Nat, q = i ∧ 1 ≤ i ∧ i ≤ 9 ∧ m = 9 - i ∧ Fr [] w92 w', 8, ⟨1, rfl, by omega, by omega, rfl, Fr.refl _ _⟩, ?_⟩
    rintro m q w98 ⟨i, rfl, hi1, hi9, rfl, f98⟩
    have hA98 : DiskAt w98 ab am af { (M.crash keep at0 at1) with left := 0 } := (hA161.fr f92 (by simp)).fr f98 (by simp)
    have hB98 := (hB'.fr f92 (by simp)).fr f98 (by simp)
    have hC98 := hC.fr f98 (by simp)
    refine ⟨fun hlt => (read_in hA98 (i := i) ?_).mono ?_, fun hge => (read_in hA98 (i := 0) ?_).mono ?_⟩
    · have hlt : (i : Int) < 9 := of_decide_eq_true hlt
      show i < (M.crash keep at0 at1).sure.length
      omega
    · have hlt : (i : Int) < 9 := of_decide_eq_true hlt
      rintro e w101 ⟨k, s, hs, s64, rfl, hk, f101, b101⟩
      refine ⟨_, _, _, _, rfl, (read_in (hB98.fr f101 (by simp)) (i := i) (by show i < ((M.crash keep at0 at1).crash keep at1 at0).sure.length; omega)).mono ?_⟩
      rintro e w107 ⟨k2, s2, hs2, s264, rfl, hk2, f107, b107⟩
      refine ⟨_, _, _, _, rfl, fun y112 hy112 => row_str (g_row f107 (Row.all b101 (byteCells_one s)) fun ad _ _ => by simp) s64 (row_str (Row.all b107 (byteCells_one s2)) s264 ?_)⟩
      have es : s = s2 := by
        have h1 : (M.crash keep at0 at1).sure[i]? = some s := hs
        have h2 : (((M.crash keep at0 at1).crash keep at1 at0).now.set 0 (round ⟨#[5]⟩))[i]? = some s2 := hs2
        rw [List.getElem?_set_ne (by omega), eBn, h1] at h2
        injection h2
      refine bF (by rw [str_eta, str_eta, es]; simp) (hy112 _ _ (bF rfl ⟨9 - (i + 1), by omega, i + 1, by rw [wrapi (by omega) (by omega)]; simp, by omega, by omega, rfl, (f98.trans' f101).trans' f107⟩))
    · show 0 < (M.crash keep at0 at1).sure.length
      omega
    · rintro e w127 ⟨k, s, hs, s64, rfl, hk, f127, b127⟩
      refine ⟨_, _, _, _, rfl, (read_in (hC98.fr f127 (by simp)) (i := 0) ?_).mono ?_⟩
      · rw [eCs]
        show 0 < (M.crash keep at0 at1).sure.length
        omega
      rintro e w133 ⟨k2, s2, hs2, s264, rfl, hk2, f133, b133⟩
      refine ⟨_, _, _, _, rfl, row_str (g_row f133 (Row.all b127 (byteCells_one s)) fun ad _ _ => by simp) s64 (row_str (Row.all b133 (byteCells_one s2)) s264 ?_)⟩
      have es : s = s2 := by
        have h1 : (M.crash keep at0 at1).sure[0]? = some s := hs
        rw [eCn] at hs2
        have h2 : (M.crash keep at0 at1).sure[0]? = some s2 := hs2
        rw [h1] at h2
        injection h2
      rw [str_eta, str_eta, es]
      exact ⟨by simp, (((F.trans' f98).trans' f127).trans' f133).below (Nat.le_refl _) (fun x hx => by cases hx)⟩
  refine bT rfl ⟨fun hlt => ?_, fun _ => done⟩
  by_cases h80 : ¬ (i : Int) < 40
  · rw [decide_eq_false h80]; exact done
  clear done
  have h80 : (i : Int) < 40 := by omega
  rw [decide_eq_true h80]
  refine hy48 _ _ (bT rfl ?_)
  clear hy48
  have hlt : (i : Int) < (len : Int) := of_decide_eq_true hlt
  have f46 : Fr [] w w46 := by obtain ⟨_, _, _, _, _, _, f, _⟩ := hP; exact f
  obtain ⟨o, ad, A, C, A2, C2, ho, rfl, c0, c1', c2', c3', c4, c5, r1, r2, ⟨r1', r2'⟩, b1, b2, b3⟩ := hz.get f46 (i := i) (by omega)
  have e0 : (i : Int).toNat * 6 = i * 6 := by omega
  refine ⟨ad, rfl, ⟨by omega, hlt⟩, _, _, _, _, _, _, _, _, _, _, ⟨by rw [e0]; exact c0, by rw [e0]; exact c1', by rw [e0]; exact c2', by rw [e0]; exact c3', by rw [e0]; exact c4, by rw [e0]; exact c5, trivial⟩, fun w62 st62 => ?_⟩
  have hM : M.Ok := by obtain ⟨_, _, _, _, hD, _⟩ := hP; exact hD.ok
  refine (play_step (hP.fr st62.fr (by simp)) r1' r2' b1 b2 b3).mono ?_
  rintro e w65 ⟨p', v', rfl, hkeep', hP'⟩
  obtain ⟨sA, sL, sC, nA, nL, nC, fA, fL, fC, sv, lv, rfl⟩ := hP'.parts
  refine ⟨_, _, _, _, _, _, _, _, _, _, _, _, _, rfl, hkeep', 40 - (i + 1), by omega, fun w80 st80 => ⟨i + 1, _, hP'.fr st80.fr (by simp), ?_, by rw [wrapi (by omega) (by omega)]; simp, by omega, rfl, rfl⟩⟩
  rw [DM.play_len _ hM, h9]

end Go.Proofs.Ytcaamecdhbgknaa.Disk
