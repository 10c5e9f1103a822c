/- LogWhole: the law's own walk. -/
import Derived.Test.YtcaamecdhbgknaaGR
import Derived.Test.YtcaamecdhbgknaaL11
namespace Go.Proofs.Ytcaamecdhbgknaa.Log
open Go Go.V
open Go.Proofs.Ytcaamecdhbgknaa.VC
open Go.Proofs.Ytcaamecdhbgknaa.Disk
open Go.Proofs.Try (prog)
set_option linter.unusedVariables false
set_option linter.unusedSimpArgs false
set_option maxRecDepth 20000

/-- Where the law has come to: the log, what it wants, whether it is dying. -/
structure WholeAt (w0 w : World) (k1 lb b ms mf : Nat) (pw : Option Addr) (kw cw : Nat) (pl : Option Addr) (kl : Nat) (dying : Bool) (M : DM) (L : LM) (rs : RL) (its : List SI) (d : ByteArray) : Prop where
  own : ∃ own, LogAt w own lb b ms mf M L ∧ (∀ x ∈ own, w0.heap.size ≤ x ∧ x ∉ pb pw ∧ x ≠ k1)
  fr : Fr [] w0 w
  k : w0.heap.size ≤ k1 ∧ k1 < w.heap.size ∧ k1 ∉ pb pw
  f : L.first = 3
  h : L.behind = 53
  want : OwnZ w w0.heap.size 1 pw kw cw (scells its)
  kw : kw = its.length
  rows : ∀ x ∈ its, Row w0 x.p (byteCells x.s)
  same : rs.map (fun r => r.2.2) = its.map (fun x => x.s)
  num : Num rs
  st : (dying = false ∧ LInv M L rs) ∨ (dying = true ∧ Torn M L rs d ∧ Row w0 pl (byteCells d) ∧ kl = d.size)

theorem cut_row {w0 w : World} {a : Option Addr} {len : Nat} {z : List ByteArray} (hz : RowsC w0 a len z) (hf : Fr [] w0 w) {i m : Nat} (hi : i < len) : ∃ s ad A C, a = some ad ∧ w.cell? (ad.add i) = some (.slice A s.size C) ∧ Row w0 A (byteCells (pre s m)) ∧ (pre s m).size = min m s.size ∧ s.size ≤ C := by
  obtain ⟨s, ad, A, C, hs, ha, hcell, _, hrow, hz1, hz2⟩ := hz.get hf hi
  exact ⟨s, ad, A, C, ha, hcell, by rw [pre_cells]; exact Row.take hrow m, pre_size s m, hz2⟩

set_option maxHeartbeats 1000000 in
theorem whole_walk (w : World) {a : Option Addr} {cap : Nat} {z : List ByteArray} (hz : RowsC w a z.length z) {kA : Option Addr} {kC : Nat} {keep : List Bool} (hkeep : Row w kA (keep.map .bool)) (c0 c1 c2 : Int) :
    Calls prog 11 #[.slice a z.length cap, .slice kA keep.length kC, .agg #[I64 c0, I64 c1, I64 c2]] w fun e w' => e = .returned (.bool true) ∧ RowKit.Below w.heap.size w w' := by
  refine rhizomelaw04_LogWhole.link fun k1 w2 st2 => (lawake_c w2).mono ?_
  rintro e w5 ⟨rfl, f5⟩
  have n1 := g_new1 st2
  have z5 := f5.size
  have below : ∀ w', Fr [] w w' → RowKit.Below w.heap.size w w' := fun w' f => f.below (Nat.le_refl _) (fun x hx => by cases hx)
  have F5 : Fr [] w w5 := st2.fr.trans' f5
  refine ⟨_, rfl, g_keep f5 (fun x hx => by simp at hx; subst hx; exact ⟨by omega, by simp⟩), bF rfl ((new_c w5 60).mono ?_)⟩
  rintro e w8 ⟨_, hgood⟩
  obtain ⟨b, ms, mf, rfl, hnew, f8, hD⟩ := hgood (by omega)
  have z8 := f8.size
  have zw5 := F5.size
  have hn1 := hnew b (by simp)
  have hn2 := hnew ms (by simp)
  have hn3 := hnew mf (by simp)
  refine ⟨_, _, rfl, g_keep f8 (fun x hx => by simp at hx; subst hx; exact ⟨by omega, by simp⟩), fun y11 hy11 => bF rfl (hy11 _ _ (bF rfl ((open_c hD (first := 3) (count := 50) (by omega) (by omega)).mono ?_)))⟩
  clear hy11
  obtain ⟨eo, eL⟩ := fresh_open (n := 60) (first := 3) (count := 50) (by decide)
  rintro e w15 ⟨f15, hD15, _, h15⟩
  rw [show (60 : Int).toNat = 60 from rfl, eo, eL] at h15
  obtain ⟨lb, p, c, rs, own, rfl, hL, hR, hrs, hown, _⟩ := h15 rfl
  have z15 := f15.size
  have hbs := hL.disk.bs
  have hk15 : Keep [k1] w8 w15 := g_keep f15 (fun x hx => by simp at hx ⊢; omega)
  have m70 := modN (n := c0) (m := 70) (by omega) (by omega)
  refine ⟨_, _, _, _, _, rfl, hk15, fun y21 hy21 => bF rfl (bF rfl ⟨⟨by omega, by omega⟩, by decide, (arm_c hL.disk (n := IntKind.wrap .i64 (Int.tmod (IntKind.wrap .u64 c0) 70)) (by omega)).mono ?_⟩)⟩
  generalize hN : IntKind.wrap .i64 (Int.tmod (IntKind.wrap .u64 c0) 70) = N at *
  rintro e w134 ⟨rfl, f134, hD134⟩
  have earm : (DM.fresh0 60).arm N = ({ DM.fresh0 60 with left := N }, 0) := by
    unfold DM.arm
    rw [if_neg (by omega), if_neg (show ¬ (DM.fresh0 60).dead from show ¬ ((-1 : Int) = 0) by decide)]
  rw [earm] at hD134 ⊢
  have z134 := f134.size
  have ownge : ∀ x ∈ own, w5.heap.size ≤ x := fun x hx => by
    rcases hown x hx with h | h
    · simp at h; omega
    · omega
  have hL134 : LogAt w134 own lb b ms mf { DM.fresh0 60 with left := N } ⟨3, 3, 3 + 50, 1, []⟩ := hL.setD (f134.mono fun x hx => .inl (by simp at hx ⊢; simp [hx])) hD134 rfl
  have F134 : Fr [] w w134 := ((F5.trans' f8).trans f15 (fun x hx => .inr (by simp at hx; omega))).trans f134 (fun x hx => .inr (by simp at hx; omega))
  refine ⟨_, rfl, g_keep f134 (fun x hx => by simp at hx ⊢; omega), hy21 _ _ (bF rfl ?_)⟩
  clear hy21
  refine ⟨fun m pw kw cw pl kl cl dying q w' => ∃ (i : Nat) (M : DM) (L : LM) (rs : RL) (its : List SI) (d : ByteArray), q = i ∧ i ≤ 12 ∧ m = 12 - i ∧ WholeAt w w' k1 lb b ms mf pw kw cw pl kl dying M L rs its d, 12,
    ⟨0, { DM.fresh0 60 with left := N }, ⟨3, 3, 3 + 50, 1, []⟩, [], [], zsec, rfl, by omega, rfl, ⟨⟨own, hL134, fun x hx => ⟨by have := ownge x hx; omega, by simp [pb], by have := ownge x hx; omega⟩⟩, F134, ⟨n1.1, by omega, by simp [pb]⟩, rfl, rfl, OwnZ.nil _ _ _, rfl, fun x hx => absurd hx (by simp), rfl, fun i r h => absurd h (by simp), .inl ⟨rfl, ⟨hD134.ok, hL134.ok, fun j => rfl, trivial, rfl, rfl, fun i r h => absurd h (by simp), fun i _ _ => fresh_get 60 i, rfl⟩⟩⟩⟩, ?_⟩
  clear hL134 hD134 hL hD hR
  rintro m pw kw cw pl kl cl dying q w35 ⟨i, M, L, rs, its, d, rfl, hi, rfl, hW⟩ y37 hy37
  obtain ⟨own, hL, hO⟩ := hW.own
  have hk := hW.k
  have hf := hW.f
  have hh := hW.h
  have done : y37 false w35 := by
    refine hy37 _ _ (bF rfl ⟨⟨by omega, by omega⟩, ⟨by omega, by omega⟩, ?_⟩)
    clear hy37
    refine (crash_c hL.disk (g_row hW.fr hkeep fun ad _ _ => by simp) c1 c2).mono ?_
    rintro e w71 ⟨b', ms', mf', rfl, hnew', f71, hC⟩
    have z71 := f71.size
    refine ⟨_, rfl, g_keep f71 (fun x hx => by simp at hx; subst hx; exact ⟨by omega, by simp⟩), bF rfl ?_⟩
    -- what is read
    have hafter : ∃ rs', (rs' = rs ∨ dying = true ∧ rs' = rs ++ [newR L rs d]) ∧ After (M.crash keep c1 c2).sure L rs' := by
      rcases hW.st with ⟨_, hI⟩ | ⟨hd, hT, _⟩
      · exact ⟨rs, .inl rfl, hI.after keep c1 c2⟩
      · obtain ⟨rs', h1, h2⟩ := hT.after keep c1 c2
        rcases h1 with h1 | h1
        · exact ⟨rs', .inl h1, h2⟩
        · exact ⟨rs', .inr ⟨hd, h1⟩, h2⟩
    obtain ⟨rs', hrs', hA⟩ := hafter
    have hnum' : Num rs' := by
      rcases hrs' with rfl | ⟨_, rfl⟩
      · exact hW.num
      · exact hW.num.snoc _ _
    have hscan : lscan (M.crash keep c1 c2) 3 53 = rs' := after_scan (L := L) hf hh rfl hA
    have hCn : (M.crash keep c1 c2).n = M.n := by simp [DM.crash, DM.n]
    have hMn := hL.ok.bn
    rw [hh] at hMn
    have hb' : ¬ badArea (M.crash keep c1 c2) 3 50 := by
      show ¬ ((3 : Int) < 0 ∨ (50 : Int) < 2 ∨ (M.crash keep c1 c2).n < 3 ∨ (M.crash keep c1 c2).n - 3 < 50)
      rw [hCn]; omega
    have h0 := open_alive (M := M.crash keep c1 c2) (show ((-1 : Int)) < 0 by decide) hb'
    refine (open_c hC (first := 3) (count := 50) (by omega) (by omega)).mono ?_
    rintro e w74 ⟨f74, hD74, _, h74⟩
    obtain ⟨lb2, p76, c78, rm, own2, rfl, hL2, hRc, hrm, hown2, _⟩ := h74 h0
    have z74 := f74.size
    have hb2 := hnew' b' (by simp)
    have hb3 := hnew' ms' (by simp)
    have hb4 := hnew' mf' (by simp)
    rw [show ((3 : Int)).toNat = 3 from rfl, show ((3 : Int) + 50).toNat = 53 from rfl, hscan] at hrm
    have hlen : rm.length = rs'.length := by have := congrArg List.length hrm; simpa using this
    have hits : rs.length = its.length := by have := congrArg List.length hW.same; simpa using this
    have F74 : Fr [] w w74 := (hW.fr.trans' f71).trans f74 (fun x hx => .inr (by have := hW.fr.size; simp at hx; omega))
    have hlok := hL.ok
    have hL2ok := hL2.ok
    have hrl : rm.length ≤ 4096 := by
      have h1 := hL2ok.hl
      have h2 := hL2ok.eb
      have h3 := hL2ok.bn
      have h4 := hL2ok.n4
      have h5 := hL2ok.f0
      have e1 : (lopenL (M.crash keep c1 c2) 3 50).heads.length = rs'.length := by
        unfold lopenL
        rw [show ((3 : Int)).toNat = 3 from rfl, show ((3 : Int) + 50).toNat = 53 from rfl, hscan]; simp
      omega
    have hwl : its.length ≤ rm.length := by
      rcases hrs' with rfl | ⟨_, rfl⟩
      · omega
      · rw [hlen, List.length_append]; omega
    have hwl2 : rm.length ≤ its.length + 1 := by
      rcases hrs' with rfl | ⟨_, rfl⟩
      · omega
      · rw [hlen, List.length_append, List.length_singleton]; omega
    have hdy : its.length < rm.length → dying = true ∧ rs' = rs ++ [newR L rs d] := fun hlt => by
      rcases hrs' with rfl | h
      · omega
      · exact h
    refine ⟨_, _, _, _, _, rfl, g_keep f74 (fun x hx => by simp at hx; subst hx; exact ⟨by omega, by simp; omega⟩), fun y80 hy80 => ?_⟩
    have hkw := hW.kw
    have fine : y80 false w74 := by
      refine hy80 _ _ (bF rfl ⟨fun m q w' => ∃ i : Nat, q = i ∧ i ≤ rm.length ∧ m = rm.length - i ∧ Fr [] w74 w', rm.length, ⟨0, rfl, by omega, rfl, Fr.refl _ _⟩, ?_⟩)
      clear hy80
      rintro m q w87 ⟨i, rfl, hi', rfl, f87⟩
      refine ⟨fun hlt y89 hy89 => ?_, fun hge => ?_⟩
      · have hlt : (i : Int) < (rm.length : Int) := of_decide_eq_true hlt
        have hil : i < rm.length := by omega
        have hr : rm[i]? = some rm[i] := List.getElem?_eq_getElem hil
        have hil' : i < rs'.length := by omega
        have hr' : rs'[i]? = some rs'[i] := List.getElem?_eq_getElem hil'
        have hpair : (rm[i].seq, rm[i].data) = rs'[i].2 := by
          have e1 : (rm.map fun r => (r.seq, r.data))[i]? = some (rm[i].seq, rm[i].data) := by rw [List.getElem?_map, hr]; rfl
          have e2 : (rs'.map fun r => r.2)[i]? = some rs'[i].2 := by rw [List.getElem?_map, hr']; rfl
          rw [hrm, e2] at e1
          exact (Option.some.inj e1).symm
        have hseq : rm[i].seq = i + 1 := by rw [← hnum' i _ hr', ← hpair]
        have rowR : ∀ w', Fr [] w74 w' → Row w' p76 (rcells rm) := fun w' f => g_row f hRc.own.row fun ad _ _ => by simp
        have rowD : ∀ w', Fr [] w74 w' → Row w' rm[i].p (byteCells rm[i].data) := fun w' f => g_row f (hRc.row _ (List.getElem_mem hil)).1 fun ad _ _ => by simp
        obtain ⟨g1, g2⟩ := rcells_get hr
        have any : ∀ (p90 : Option Addr) (k92 : Nat) (x : ByteArray), Row w p90 (byteCells x) → rm[i].data = x → y89 p90 x.size k92 w87 := fun p90 k92 x hx hdx => by
          refine hy89 _ _ _ _ fun y94 hy94 => ?_
          have R87 := rowR w87 f87
          obtain ⟨ad, hp⟩ := R87.has (by rw [rcells_len]; omega)
          have e0 : Int.toNat (i : Int) * 2 = i * 2 := by omega
          refine ⟨ad, hp, ⟨by omega, hlt⟩, ((rm[i].seq : Nat) : Int), ?_, bF ?_ ⟨ad, hp, ⟨by omega, hlt⟩, rm[i].p, rm[i].data.size, rm[i].c, ?_, row_str (rowD w87 f87) rfl (row_str (g_row (F74.trans' f87) hx fun ad _ _ => by simp) rfl fun w116 st116 => hy94 _ _ (bF ?_ ⟨rm.length - (i + 1), by omega, i + 1, by rw [wrapi (by omega) (by omega)]; simp, by omega, rfl, f87.trans' st116.fr⟩))⟩⟩
          · rw [e0, add2, Nat.add_zero]; exact R87.get hp g1
          · rw [hseq, wrapi (by omega) (by omega)]; simp
          · rw [e0, add2]; exact R87.get hp g2
          · rw [str_eta, str_eta, hdx]; simp
        clear hy89
        refine ⟨fun hlw => ?_, fun hge => ?_⟩
        · have hlw : (i : Int) < (kw : Int) := of_decide_eq_true hlw
          have hiw : i < its.length := by omega
          have rowW : Row w87 pw (scells its) := by
            refine g_row (((f71.trans f74 (F := []) fun x hx => .inr (by simp at hx; omega))).trans' f87) hW.want.row fun ad _ _ => by simp
          refine rdS rowW rfl hiw hlw (any _ _ _ (hW.rows _ (List.getElem_mem hiw)) ?_)
          have hrs_i : rs'[i]? = rs[i]? := by
            rcases hrs' with rfl | ⟨_, rfl⟩
            · rfl
            · rw [List.getElem?_append_left (by omega)]
          have e1 : (rs.map fun r => r.2.2)[i]? = some its[i].s := by rw [hW.same, List.getElem?_map, List.getElem?_eq_getElem hiw]; rfl
          rw [List.getElem?_map, ← hrs_i, hr'] at e1
          have e2 : rs'[i].2.2 = its[i].s := Option.some.inj e1
          rw [← e2, ← hpair]
        · have hge : ¬ (i : Int) < (kw : Int) := of_decide_eq_false hge
          obtain ⟨hdt, hrs2⟩ := hdy (by omega)
          rcases hW.st with ⟨h1, _⟩ | ⟨_, hT, hrow, hkl⟩
          · rw [hdt] at h1; cases h1
          · subst hkl
            refine any pl cl d hrow ?_
            have hi2 : i = rs.length := by
              have : rm.length = rs.length + 1 := by rw [hlen, hrs2, List.length_append, List.length_singleton]
              omega
            have e1 : rs'[i]? = some (newR L rs d) := by rw [hrs2, hi2, List.getElem?_append_right (Nat.le_refl _), Nat.sub_self]; rfl
            rw [hr'] at e1
            have e2 := Option.some.inj e1
            have e3 := congrArg (fun r => r.2.2) e2
            rw [← hpair] at e3
            exact e3
      · refine (next_c (hL2.fr f87 (fun x _ => by simp))).mono ?_
        rintro e w125 ⟨rfl, rfl⟩
        have e1 : (lopenL (M.crash keep c1 c2) 3 50).next = ((rm.length + 1 : Nat) : Int) := by
          unfold lopenL
          rw [show ((3 : Int)).toNat = 3 from rfl, show ((3 : Int) + 50).toNat = 53 from rfl, hscan, nextAt_num hnum', hlen]
        refine ⟨_, rfl, ?_, below _ (F74.trans' f87)⟩
        rw [e1, wrapi (by omega) (by omega)]
        simp
    clear hy80
    refine bF rfl (bF rfl (bF ?_ (bF ?_ ⟨fun hlt => ?_, fun _ => fine⟩)))
    · exact decide_eq_false (by omega)
    · rw [wrapi (by omega) (by omega)]; exact decide_eq_false (by omega)
    · have hlt := of_decide_eq_true hlt
      rw [(hdy (by omega)).1]; exact fine
  refine ⟨fun hlt => ?_, fun _ => done⟩
  refine ⟨fun h12 => ?_, fun _ => done⟩
  cases hdy : dying with
  | true => exact done
  | false =>
  clear done
  have hlt : (i : Int) < (z.length : Int) := of_decide_eq_true hlt
  have h12 : (i : Int) < 12 := of_decide_eq_true h12
  subst hdy
  have hI : LInv M L rs := by
    rcases hW.st with ⟨_, h⟩ | ⟨h, _⟩
    · exact h
    · cases h
  refine hy37 _ _ (bT rfl fun y40 hy40 => ?_)
  clear hy37
  have hstep : ∀ pw' kw' cw' pl' kl' cl' dy' w' M' L' rs' its' d', WholeAt w w' k1 lb b ms mf pw' kw' cw' pl' kl' dy' M' L' rs' its' d' → y40 pw' kw' cw' pl' kl' cl' dy' w' := fun pw' kw' cw' pl' kl' cl' dy' w' M' L' rs' its' d' h =>
    hy40 _ _ _ _ _ _ _ _ ⟨12 - (i + 1), by omega, i + 1, M', L', rs', its', d', by rw [wrapi (by omega) (by omega)]; simp, by omega, rfl, h⟩
  clear hy40
  obtain ⟨s, ad, A, C, rfl, hcell, hrow, hps, hsC⟩ := cut_row (m := 300) hz hW.fr (i := i) (by omega)
  have e0 : (i : Int).toNat * 1 = i := by omega
  refine ⟨ad, rfl, ⟨by omega, hlt⟩, _, _, _, by rw [e0]; exact hcell, ad, rfl, ⟨by omega, hlt⟩, _, _, _, by rw [e0]; exact hcell, ?_⟩
  have em : (if (300 : Int) < (s.size : Int) then (300 : Int) else (s.size : Int)) = ((min 300 s.size : Nat) : Int) := by split <;> omega
  rw [em, subA0]
  have em2 : Int.toNat ((min 300 s.size : Nat) : Int) - 0 = (pre s 300).size := by rw [hps]; omega
  rw [em2]
  refine ⟨⟨by omega, by omega, by omega⟩, fun w60 st60 => ?_⟩
  have hL60 := hL.fr st60.fr (fun x _ => by simp)
  refine (append_c hL60 (data := pre s 300) (g_row (hW.fr.trans' st60.fr) hrow fun ad _ _ => by simp) (by omega)).mono ?_
  rintro e w63 ⟨rfl, f63, own', ho', ho2', hL'⟩
  have z60 := st60.size
  have z63 := f63.size
  have hpwlt : ∀ x ∈ pb pw, x < w35.heap.size := fun x hx => by
    rw [g_mem_pb] at hx
    obtain ⟨ad, ha, rfl⟩ := hx
    exact (hW.want.lt ha).2
  have F63 : Fr [] w w63 := (hW.fr.trans' st60.fr).trans f63 (fun x hx => .inr (hO x hx).1)
  have hO' : ∀ x ∈ own', w.heap.size ≤ x ∧ x ∉ pb pw ∧ x ≠ k1 := fun x hx => by
    rcases ho' x hx with h | h
    · exact hO x h
    · have := hW.fr.size
      exact ⟨by omega, fun hm => by have := hpwlt x hm; omega, by omega⟩
  have want63 : OwnZ w63 w.heap.size 1 pw kw cw (scells its) := (hW.want.fr st60.fr (fun ad _ => by simp)).fr f63 (fun ad ha hm => (hO _ hm).2.1 ((g_mem_pb _ _).2 ⟨ad, ha, rfl⟩))
  refine ⟨_, rfl, g_keep f63 (fun x hx => by simp at hx; subst hx; exact ⟨by omega, fun hm => (hO _ hm).2.2 rfl⟩), ?_⟩
  have hps' : ¬ 4000 < (pre s 300).size := by omega
  by_cases hfull : isFull L (pre s 300).size
  · rw [lappend_full hps' hfull] at hL' ⊢
    exact bF rfl (bF rfl (hstep _ _ _ _ _ _ _ _ M L rs its d ⟨⟨own', hL', hO'⟩, F63, ⟨hk.1, by omega, hk.2.2⟩, hf, hh, want63, hW.kw, hW.rows, hW.same, hW.num, .inl ⟨rfl, hI⟩⟩))
  obtain ⟨good, bad⟩ := append_inv hI hps' hfull
  by_cases hc : (lappend M L (pre s 300)).2.2 = 0
  · obtain ⟨eL', hI'⟩ := good hc
    rw [eL'] at hL'
    have hits : its.length = rs.length := by have := congrArg List.length hW.same; simpa using this.symm
    have hrl : rs.length ≤ 4096 := by
      have h1 := (lay_end rs hI.lay).2.2
      have h2 := hI.e
      have h3 := hI.lok.eb
      have h4 := hI.lok.bn
      have h5 := hI.lok.n4
      omega
    have hkw := hW.kw
    refine bT (decide_eq_true hc) fun k65 => append_z want63 rfl (fun u hu => by simp [spl, reps] at hu; subst hu; rfl) F63.size rfl (fun h => by cases h) (fun ad _ => by simp) (fun ad ha hm => ?_) (by omega) (by omega) fun w66 p67 c69 f66 n66 o66 d66 => ?_
    · simp at hm
      rcases hm with e | e
      · exact absurd ((g_mem_pb _ _).2 ⟨ad, ha, e⟩) hk.2.2
      · simp [e]
    · rw [List.nil_append] at f66
      have z66 := f66.size
      have p67f : ∀ x ∈ pb p67, x ∈ pb pw ∨ w63.heap.size ≤ x := fun x hx => by
        rw [g_mem_pb] at hx
        obtain ⟨ad, ha, rfl⟩ := hx
        rcases d66 ad ha with e | ⟨e, _⟩
        · exact .inl ((g_mem_pb _ _).2 ⟨ad, e, rfl⟩)
        · exact .inr e
      have F66 : Fr [] w w66 := F63.trans f66 (fun x hx => by
        rw [g_mem_pb] at hx
        obtain ⟨ad, ha, rfl⟩ := hx
        exact .inr (want63.lt ha).1)
      refine hstep _ _ _ _ _ _ _ _ _ _ _ (its ++ [⟨pre s 300, A, C - 0⟩]) d ⟨⟨own', hL'.fr f66 (fun x hx => (hO' x hx).2.1), fun x hx => ⟨(hO' x hx).1, fun hm => ?_, (hO' x hx).2.2⟩⟩, F66, ⟨hk.1, by omega, fun hm => ?_⟩, hf, hh, ?_, by rw [hkw, List.length_append, List.length_singleton], fun x hx => ?_, ?_, hI'.num, .inl ⟨rfl, hI'⟩⟩
      · rcases p67f x hm with e | e
        · exact (hO' x hx).2.1 e
        · have := hL'.lt x hx; omega
      · rcases p67f _ hm with e | e
        · exact hk.2.2 e
        · omega
      · unfold scells at o66 ⊢
        rw [List.map_append]
        exact o66
      · rcases List.mem_append.1 hx with hx | hx
        · exact hW.rows x hx
        · rw [List.mem_singleton] at hx
          subst hx
          exact hrow
      · rw [List.map_append, List.map_append, hW.same]; rfl
  · obtain ⟨h30, eL', hT⟩ := bad hc
    rw [eL'] at hL'
    refine bF (decide_eq_false hc) (bT (by rw [h30]; rfl) (hstep _ _ _ _ _ _ _ _ _ L rs its (pre s 300) ⟨⟨own', hL', hO'⟩, F63, ⟨hk.1, by omega, hk.2.2⟩, hf, hh, want63, hW.kw, hW.rows, hW.same, hW.num, .inr ⟨rfl, hT, hrow, rfl⟩⟩))

end Go.Proofs.Ytcaamecdhbgknaa.Log
