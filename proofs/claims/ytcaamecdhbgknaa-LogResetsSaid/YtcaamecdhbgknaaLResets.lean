/- LogResets: the law's own walk. -/
import Derived.Test.YtcaamecdhbgknaaGS
import Derived.Test.YtcaamecdhbgknaaLWhole
import Derived.Test.YtcaamecdhbgknaaL14
namespace Go.Proofs.Ytcaamecdhbgknaa.Log
open Go Go.V
open Go.Proofs.Ytcaamecdhbgknaa.VC
open Go.Proofs.Ytcaamecdhbgknaa.Disk
open Go.Proofs.Try (prog)
set_option linter.unusedVariables false
set_option linter.unusedSimpArgs false
set_option maxRecDepth 20000

theorem LInv.arm {M : DM} {L : LM} {rs : RL} (h : LInv M L rs) (n : Int) (hok : ({ M with left := n } : DM).Ok) : LInv { M with left := n } L rs := ⟨hok, h.lok, h.quiet, h.lay, h.e, h.nx, h.num, h.zer, h.hds⟩

/-- Where the law has come to: the log, what it wants. -/
structure ResetAt (w0 w : World) (k1 lb b ms mf : Nat) (pw : Option Addr) (kw cw : Nat) (M : DM) (L : LM) (rs : RL) (its : List SI) : Prop where
  own : ∃ own, LogAt w own lb b ms mf M L ∧ (∀ x ∈ own, w0.heap.size ≤ x ∧ x ∉ pb pw ∧ x ≠ k1)
  fr : Fr [] w0 w
  k : w0.heap.size ≤ k1 ∧ k1 < w.heap.size ∧ k1 ∉ pb pw
  f : L.first = 0
  h : L.behind = 60
  want : OwnZ w w0.heap.size 1 pw kw cw (scells its)
  kw : kw = its.length
  rows : ∀ x ∈ its, Row w0 x.p (byteCells x.s)
  same : rs.map (fun r => r.2.2) = its.map (fun x => x.s)
  inv : LInv M L rs
  left : M.left < 0

set_option maxHeartbeats 1000000 in
theorem resets_walk (w : World) {a : Option Addr} {cap : Nat} {z : List ByteArray} (hz : RowsC w a z.length z) {kA : Option Addr} {kC : Nat} {keep : List Bool} (hkeep : Row w kA (keep.map .bool)) (c0 c1 c2 : Int) :
    Calls prog 14 #[.slice a z.length cap, .slice kA keep.length kC, .agg #[I64 c0, I64 c1, I64 c2]] w fun e w' => e = .returned (.bool true) ∧ RowKit.Below w.heap.size w w' := by
  refine rhizomelaw04_LogResets.link fun k1 w2 st2 => (lawake_c w2).mono ?_
  rintro e w5 ⟨rfl, f5⟩
  have n1 := g_new1 st2
  have z5 := f5.size
  have below : ∀ w', Fr [] w w' → RowKit.Below w.heap.size w w' := fun w' f => f.below (Nat.le_refl _) (fun x hx => by cases hx)
  have F5 : Fr [] w w5 := st2.fr.trans' f5
  refine ⟨_, rfl, g_keep f5 (fun x hx => by simp at hx; subst hx; exact ⟨by omega, by simp⟩), bF rfl ((new_c w5 60).mono ?_)⟩
  rintro e w8 ⟨_, hgood⟩
  obtain ⟨b, ms, mf, rfl, hnew, f8, hD⟩ := hgood (by omega)
  have z8 := f8.size
  have zw5 := F5.size
  have hn1 := hnew b (by simp)
  have hn2 := hnew ms (by simp)
  have hn3 := hnew mf (by simp)
  refine ⟨_, _, rfl, g_keep f8 (fun x hx => by simp at hx; subst hx; exact ⟨by omega, by simp⟩), fun y11 hy11 => bF rfl (hy11 _ _ (bF rfl ((open_c hD (first := 0) (count := 60) (by omega) (by omega)).mono ?_)))⟩
  clear hy11
  obtain ⟨eo, eL⟩ := fresh_open (n := 60) (first := 0) (count := 60) (by decide)
  rintro e w15 ⟨f15, hD15, _, h15⟩
  rw [show (60 : Int).toNat = 60 from rfl, eo, eL] at h15
  obtain ⟨lb, p, c, rs, own, rfl, hL, hR, hrs, hown, _⟩ := h15 rfl
  have z15 := f15.size
  have hbs := hL.disk.bs
  have hk15 : Keep [k1] w8 w15 := g_keep f15 (fun x hx => by simp at hx ⊢; omega)
  have ownge : ∀ x ∈ own, w5.heap.size ≤ x := fun x hx => by
    rcases hown x hx with h | h
    · simp at h; omega
    · omega
  have F15 : Fr [] w w15 := (F5.trans' f8).trans f15 (fun x hx => .inr (by simp at hx; omega))
  refine ⟨_, _, _, _, _, rfl, hk15, fun y21 hy21 => bF rfl (hy21 _ _ (bF rfl ?_))⟩
  clear hy21
  refine ⟨fun m pw kw cw q w' => ∃ (i : Nat) (M : DM) (L : LM) (rs : RL) (its : List SI), q = i ∧ i ≤ 8 ∧ m = 8 - i ∧ ResetAt w w' k1 lb b ms mf pw kw cw M L rs its, 8,
    ⟨0, DM.fresh0 60, ⟨0, 0, 0 + 60, 1, []⟩, [], [], rfl, by omega, rfl, ⟨⟨own, hL, fun x hx => ⟨by have := ownge x hx; omega, by simp [pb], by have := ownge x hx; omega⟩⟩, F15, ⟨n1.1, by omega, by simp [pb]⟩, rfl, rfl, OwnZ.nil _ _ _, rfl, fun x hx => absurd hx (by simp), rfl, ⟨hL.disk.ok, hL.ok, fun j => rfl, trivial, rfl, rfl, fun i r h => absurd h (by simp), fun i _ _ => fresh_get 60 i, rfl⟩, by simp [DM.fresh0]⟩⟩, ?_⟩
  clear hL hD hR
  rintro m pw kw cw q w31 ⟨i, M, L, rs, its, rfl, hi, rfl, hW⟩ y33 hy33
  obtain ⟨own, hL, hO⟩ := hW.own
  have hk := hW.k
  have hf := hW.f
  have hh := hW.h
  have hI := hW.inv
  have hits : its.length = rs.length := by have := congrArg List.length hW.same; simpa using this.symm
  have hrl : rs.length ≤ 4096 := by
    have h1 := (lay_end rs hI.lay).2.2
    have h2 := hI.e
    have h3 := hI.lok.eb
    have h4 := hI.lok.bn
    have h5 := hI.lok.n4
    omega
  have hkw := hW.kw
  have done : y33 false w31 := by
    refine hy33 _ _ (bF rfl ⟨⟨by omega, by omega⟩, by decide, ?_⟩)
    clear hy33
    have m50 := modN (n := c0) (m := 50) (by omega) (by omega)
    generalize hN : IntKind.wrap .i64 (Int.tmod (IntKind.wrap .u64 c0) 50) = N at *
    refine (arm_c hL.disk (n := N) (by omega)).mono ?_
    have hleft := hW.left
    have earm : M.arm N = ({ M with left := N }, 0) := by
      unfold DM.arm
      rw [if_neg (by omega), if_neg (show ¬ M.dead from fun h : M.left = 0 => by omega)]
    rw [earm]
    rintro e w63 ⟨rfl, f63, hD63⟩
    have z63 := f63.size
    have hbs31 := hL.disk.bs
    have kb : k1 ∉ [b, ms, mf] := fun hm => (hO k1 (hL.mem k1 (List.mem_cons_of_mem _ hm))).2.2 rfl
    have hL63 : LogAt w63 own lb b ms mf { M with left := N } L := hL.setD (f63.mono fun x hx => .inl (by simp at hx ⊢; simp [hx])) hD63 rfl
    have hI63 : LInv { M with left := N } L rs := hI.arm N hD63.ok
    have f63' : Fr own w31 w63 := f63.mono fun x hx => .inl (hL.mem x (by simp at hx ⊢; simp [hx]))
    refine ⟨_, rfl, g_keep f63 (fun x hx => by simp at hx; subst hx; exact ⟨by omega, fun hm => kb (by simp at hm ⊢; simp [hm])⟩), bF rfl ((reset_c hL63 40).mono ?_)⟩
    rintro e w66 ⟨rfl, f66, hL66⟩
    have z66 := f66.size
    obtain ⟨hcode, hnext, hafter⟩ := reset_after hI63 (next := 40) (by omega) (by omega)
    generalize hRes : lreset { M with left := N } L 40 = Res at *
    obtain ⟨M2, L2, code⟩ := Res
    simp only at hcode hnext hafter hL66 ⊢
    have F66 : Fr own w31 w66 := f63'.trans' f66
    have Fw66 : Fr [] w w66 := hW.fr.trans F66 (fun x hx => .inr (hO x hx).1)
    have zw31 := hW.fr.size
    refine ⟨_, rfl, g_keep f66 (fun x hx => by simp at hx; subst hx; exact ⟨by omega, fun hm => (hO _ hm).2.2 rfl⟩), ⟨by omega, by omega⟩, ⟨by omega, by omega⟩, (crash_c hL66.disk (g_row Fw66 hkeep fun ad _ _ => by simp) c1 c2).mono ?_⟩
    rintro e w69 ⟨b', ms', mf', rfl, hnew', f69, hC⟩
    have z69 := f69.size
    refine ⟨_, rfl, g_keep f69 (fun x hx => by simp at hx; subst hx; exact ⟨by omega, by simp⟩), bF rfl ?_⟩
    obtain ⟨kk, hA, hk0⟩ := hafter keep c1 c2
    have hnum' : Num (rs.take kk) := fun i r hr => by
      rw [List.getElem?_take] at hr
      split at hr
      · exact hI.num i r hr
      · exact absurd hr (by simp)
    have hscan : lscan (M2.crash keep c1 c2) 0 60 = rs.take kk := after_scan (L := L) hf hh rfl hA
    have hCn : (M2.crash keep c1 c2).n = M2.n := by simp [DM.crash, DM.n]
    have hMn := hI.lok.bn
    rw [hh] at hMn
    have hM2n : M2.n = M.n := by
      have h1 : (lreset { M with left := N } L 40).1.n = M.n := (lreset_n hI63.ok L 40).trans rfl
      rw [hRes] at h1
      exact h1
    have hb' : ¬ badArea (M2.crash keep c1 c2) 0 60 := by
      show ¬ ((0 : Int) < 0 ∨ (60 : Int) < 2 ∨ (M2.crash keep c1 c2).n < 0 ∨ (M2.crash keep c1 c2).n - 0 < 60)
      rw [hCn]; omega
    have h0 := open_alive (M := M2.crash keep c1 c2) (show ((-1 : Int)) < 0 by decide) hb'
    refine (open_c hC (first := 0) (count := 60) (by omega) (by omega)).mono ?_
    rintro e w72 ⟨f72, hD72, _, h72⟩
    obtain ⟨lb2, p74, c76, rm, own2, rfl, hL2, hRc, hrm, hown2, _⟩ := h72 h0
    have z72 := f72.size
    have hb2 := hnew' b' (by simp)
    have hb3 := hnew' ms' (by simp)
    have hb4 := hnew' mf' (by simp)
    rw [show ((0 : Int)).toNat = 0 from rfl, show ((0 : Int) + 60).toNat = 60 from rfl, hscan] at hrm
    have hlen : rm.length = (rs.take kk).length := by have := congrArg List.length hrm; simpa using this
    have F72 : Fr [] w66 w72 := f69.trans f72 (fun x hx => .inr (by simp at hx; omega))
    have Fw72 : Fr [] w w72 := Fw66.trans' F72
    have hwl : rm.length ≤ its.length := by rw [hlen, List.length_take]; omega
    refine ⟨_, _, _, _, _, rfl, g_keep f72 (fun x hx => by simp at hx; subst hx; exact ⟨by omega, by simp; omega⟩), fun y78 hy78 => ?_⟩
    have fine : y78 false w72 := by
      refine hy78 _ _ (bF rfl ⟨fun m q w' => ∃ i : Nat, q = i ∧ i ≤ rm.length ∧ m = rm.length - i ∧ Fr [] w72 w', rm.length, ⟨0, rfl, by omega, rfl, Fr.refl _ _⟩, ?_⟩)
      clear hy78
      rintro m q w85 ⟨i, rfl, hi', rfl, f85⟩
      refine ⟨fun hlt y87 hy87 => ?_, fun hge y115 hy115 => ?_⟩
      · have hlt : (i : Int) < (rm.length : Int) := of_decide_eq_true hlt
        have hil : i < rm.length := by omega
        have hr : rm[i]? = some rm[i] := List.getElem?_eq_getElem hil
        have hil' : i < (rs.take kk).length := by omega
        have hr' : (rs.take kk)[i]? = some (rs.take kk)[i] := List.getElem?_eq_getElem hil'
        have hpair : (rm[i].seq, rm[i].data) = (rs.take kk)[i].2 := by
          have e1 : (rm.map fun r => (r.seq, r.data))[i]? = some (rm[i].seq, rm[i].data) := by rw [List.getElem?_map, hr]; rfl
          have e2 : ((rs.take kk).map fun r => r.2)[i]? = some (rs.take kk)[i].2 := by rw [List.getElem?_map, hr']; rfl
          rw [hrm, e2] at e1
          exact (Option.some.inj e1).symm
        have hseq : rm[i].seq = i + 1 := by rw [← hnum' i _ hr', ← hpair]
        have rowR : ∀ w', Fr [] w72 w' → Row w' p74 (rcells rm) := fun w' f => g_row f hRc.own.row fun ad _ _ => by simp
        have rowD : ∀ w', Fr [] w72 w' → Row w' rm[i].p (byteCells rm[i].data) := fun w' f => g_row f (hRc.row _ (List.getElem_mem hil)).1 fun ad _ _ => by simp
        obtain ⟨g1, g2⟩ := rcells_get hr
        have R85 := rowR w85 f85
        obtain ⟨ad, hp⟩ := R85.has (by rw [rcells_len]; omega)
        have e0 : Int.toNat (i : Int) * 2 = i * 2 := by omega
        have hiw : i < its.length := by omega
        have rowW : Row w85 pw (scells its) := by
          refine g_row (F72.trans' f85) (g_row F66 hW.want.row fun ad ha _ hm => (hO _ hm).2.1 ((g_mem_pb _ _).2 ⟨ad, ha, rfl⟩)) fun ad _ _ => by simp
        refine ⟨ad, hp, ⟨by omega, hlt⟩, ((rm[i].seq : Nat) : Int), ?_, bF ?_ ⟨ad, hp, ⟨by omega, hlt⟩, rm[i].p, rm[i].data.size, rm[i].c, ?_, row_str (rowD w85 f85) rfl (rdS rowW rfl hiw (by omega) (row_str (g_row (Fw72.trans' f85) (hW.rows _ (List.getElem_mem hiw)) fun ad _ _ => by simp) rfl fun w113 st113 => hy87 _ _ (bF ?_ ⟨rm.length - (i + 1), by omega, i + 1, by rw [wrapi (by omega) (by omega)]; simp, by omega, rfl, f85.trans' st113.fr⟩)))⟩⟩
        · rw [e0, add2, Nat.add_zero]; exact R85.get hp g1
        · rw [hseq, wrapi (by omega) (by omega)]; simp
        · rw [e0, add2]; exact R85.get hp g2
        · have hrs_i : (rs.take kk)[i]? = rs[i]? := by
            rw [List.getElem?_take, if_pos (by rw [List.length_take] at hil'; omega)]
          have e1 : (rs.map fun r => r.2.2)[i]? = some its[i].s := by rw [hW.same, List.getElem?_map, List.getElem?_eq_getElem hiw]; rfl
          rw [List.getElem?_map, ← hrs_i, hr'] at e1
          have e2 : (rs.take kk)[i].2.2 = its[i].s := Option.some.inj e1
          have e3 : rm[i].data = its[i].s := by rw [← e2, ← hpair]
          rw [str_eta, str_eta, e3]; simp
      · have hfin := below _ (Fw72.trans' f85)
        refine ⟨fun hne => hy115 _ _ ⟨rfl, hfin⟩, fun h0 => ?_⟩
        have h0 : code = 0 := by simpa using h0
        have hL85 : LogAt w85 own lb b ms mf M2 L2 := (hL66.fr F72 (fun x _ => by simp)).fr f85 (fun x _ => by simp)
        refine (next_c hL85).mono ?_
        rintro e w121 ⟨rfl, rfl⟩
        refine ⟨_, rfl, hy115 _ _ ⟨?_, hfin⟩⟩
        rw [hnext h0]; rfl
    clear hy78
    refine bF rfl (bF rfl (bF (decide_eq_false (by omega)) ⟨fun h0 => ?_, fun _ => fine⟩))
    have h0 : code = 0 := of_decide_eq_true h0
    have : rm.length = 0 := by rw [hlen, hk0 h0]; simp
    rw [this]; exact fine
  refine ⟨fun hlt => ?_, fun _ => done⟩
  by_cases h8 : ¬ (i : Int) < 8
  · rw [decide_eq_false h8]; exact done
  clear done
  have h8 : (i : Int) < 8 := by omega
  rw [decide_eq_true h8]
  have hlt : (i : Int) < (z.length : Int) := of_decide_eq_true hlt
  refine hy33 _ _ (bT rfl fun y36 hy36 => ?_)
  clear hy33
  have hstep : ∀ pw' kw' cw' w' M' L' rs' its', ResetAt w w' k1 lb b ms mf pw' kw' cw' M' L' rs' its' → y36 pw' kw' cw' w' := fun pw' kw' cw' w' M' L' rs' its' h =>
    hy36 _ _ _ _ ⟨8 - (i + 1), by omega, i + 1, M', L', rs', its', by rw [wrapi (by omega) (by omega)]; simp, by omega, rfl, h⟩
  clear hy36
  obtain ⟨s, ad, A, C, rfl, hcell, hrow, hps, hsC⟩ := cut_row (m := 200) hz hW.fr (i := i) (by omega)
  have e0 : (i : Int).toNat * 1 = i := by omega
  refine ⟨ad, rfl, ⟨by omega, hlt⟩, _, _, _, by rw [e0]; exact hcell, ad, rfl, ⟨by omega, hlt⟩, _, _, _, by rw [e0]; exact hcell, ?_⟩
  have em : (if (200 : Int) < (s.size : Int) then (200 : Int) else (s.size : Int)) = ((min 200 s.size : Nat) : Int) := by split <;> omega
  rw [em, subA0]
  have em2 : Int.toNat ((min 200 s.size : Nat) : Int) - 0 = (pre s 200).size := by rw [hps]; omega
  rw [em2]
  refine ⟨⟨by omega, by omega, by omega⟩, fun w52 st52 => ?_⟩
  have hL52 := hL.fr st52.fr (fun x _ => by simp)
  refine (append_c hL52 (data := pre s 200) (g_row (hW.fr.trans' st52.fr) hrow fun ad _ _ => by simp) (by omega)).mono ?_
  rintro e w55 ⟨rfl, f55, own', ho', ho2', hL'⟩
  have z52 := st52.size
  have z55 := f55.size
  have hpwlt : ∀ x ∈ pb pw, x < w31.heap.size := fun x hx => by
    rw [g_mem_pb] at hx
    obtain ⟨ad, ha, rfl⟩ := hx
    exact (hW.want.lt ha).2
  have F55 : Fr [] w w55 := (hW.fr.trans' st52.fr).trans f55 (fun x hx => .inr (hO x hx).1)
  have hO' : ∀ x ∈ own', w.heap.size ≤ x ∧ x ∉ pb pw ∧ x ≠ k1 := fun x hx => by
    rcases ho' x hx with h | h
    · exact hO x h
    · have := hW.fr.size
      exact ⟨by omega, fun hm => by have := hpwlt x hm; omega, by omega⟩
  have want55 : OwnZ w55 w.heap.size 1 pw kw cw (scells its) := (hW.want.fr st52.fr (fun ad _ => by simp)).fr f55 (fun ad ha hm => (hO _ hm).2.1 ((g_mem_pb _ _).2 ⟨ad, ha, rfl⟩))
  refine ⟨_, rfl, g_keep f55 (fun x hx => by simp at hx; subst hx; exact ⟨by omega, fun hm => (hO _ hm).2.2 rfl⟩), ?_⟩
  have hps' : ¬ 4000 < (pre s 200).size := by omega
  by_cases hfull : isFull L (pre s 200).size
  · rw [lappend_full hps' hfull] at hL' ⊢
    exact bF rfl (hstep _ _ _ _ M L rs its ⟨⟨own', hL', hO'⟩, F55, ⟨hk.1, by omega, hk.2.2⟩, hf, hh, want55, hW.kw, hW.rows, hW.same, hI, hW.left⟩)
  obtain ⟨good, _⟩ := append_inv hI hps' hfull
  obtain ⟨ea1, ea2⟩ := lappend_alive hI.ok hI.lok hW.left hps' hfull
  have hc : (lappend M L (pre s 200)).2.2 = 0 := by rw [ea1]
  obtain ⟨eL', hI'⟩ := good hc
  rw [eL'] at hL'
  refine bT (decide_eq_true hc) fun k57 => append_z want55 rfl (fun u hu => by simp [spl, reps] at hu; subst hu; rfl) F55.size rfl (fun h => by cases h) (fun ad _ => by simp) (fun ad ha hm => ?_) (by omega) (by omega) fun w58 p59 c61 f58 n58 o58 d58 => ?_
  · simp at hm
    rcases hm with e | e
    · exact absurd ((g_mem_pb _ _).2 ⟨ad, ha, e⟩) hk.2.2
    · simp [e]
  · rw [List.nil_append] at f58
    have z58 := f58.size
    have p59f : ∀ x ∈ pb p59, x ∈ pb pw ∨ w55.heap.size ≤ x := fun x hx => by
      rw [g_mem_pb] at hx
      obtain ⟨ad, ha, rfl⟩ := hx
      rcases d58 ad ha with e | ⟨e, _⟩
      · exact .inl ((g_mem_pb _ _).2 ⟨ad, e, rfl⟩)
      · exact .inr e
    have F58 : Fr [] w w58 := F55.trans f58 (fun x hx => by
      rw [g_mem_pb] at hx
      obtain ⟨ad, ha, rfl⟩ := hx
      exact .inr (want55.lt ha).1)
    refine hstep _ _ _ _ _ _ _ (its ++ [⟨pre s 200, A, C - 0⟩]) ⟨⟨own', hL'.fr f58 (fun x hx => (hO' x hx).2.1), fun x hx => ⟨(hO' x hx).1, fun hm => ?_, (hO' x hx).2.2⟩⟩, F58, ⟨hk.1, by omega, fun hm => ?_⟩, hf, hh, ?_, by rw [hkw, List.length_append, List.length_singleton], fun x hx => ?_, ?_, hI', by rw [ea2]; exact hW.left⟩
    · rcases p59f x hm with e | e
      · exact (hO' x hx).2.1 e
      · have := hL'.lt x hx; omega
    · rcases p59f _ hm with e | e
      · exact hk.2.2 e
      · omega
    · unfold scells at o58 ⊢
      rw [List.map_append]
      exact o58
    · rcases List.mem_append.1 hx with hx | hx
      · exact hW.rows x hx
      · rw [List.mem_singleton] at hx
        subst hx
        exact hrow
    · rw [List.map_append, List.map_append, hW.same]; rfl

end Go.Proofs.Ytcaamecdhbgknaa.Log
