/- LogAgain: the law's own walk. -/
import Derived.Test.YtcaamecdhbgknaaGT
import Derived.Test.YtcaamecdhbgknaaL12
namespace Go.Proofs.Ytcaamecdhbgknaa.Log
open Go Go.V
open Go.Proofs.Ytcaamecdhbgknaa.VC
open Go.Proofs.Ytcaamecdhbgknaa.Disk
open Go.Proofs.Try (prog)
set_option linter.unusedVariables false
set_option linter.unusedSimpArgs false
set_option maxRecDepth 20000

/-- Where the appending has come to. -/
structure AgainAt (w0 w : World) (k1 lb b ms mf : Nat) (M : DM) (L : LM) (rs : RL) (d : ByteArray) : Prop where
  own : ∃ own, LogAt w own lb b ms mf M L ∧ (∀ x ∈ own, w0.heap.size ≤ x ∧ x ≠ k1)
  fr : Fr [] w0 w
  k : w0.heap.size ≤ k1 ∧ k1 < w.heap.size
  f : L.first = 0
  h : L.behind = 40
  num : Num rs
  st : LInv M L rs ∨ Torn M L rs d
/-- A disk that is opened again and again. -/
structure RoundAt (w0 w1 w : World) (k1 : Nat) (L : LM) (rs : RL) (p : Option Addr) (c : Nat) (rm : List RI) (pd : Option Addr) (M : DM) : Prop where
  ex : ∃ b ms mf, pd = some ⟨b, 0, none⟩ ∧ DiskAt w b ms mf M ∧ ∀ x ∈ [b, ms, mf], w0.heap.size ≤ x ∧ x ≠ k1 ∧ x ∉ pb p ∧ ∀ r ∈ rm, x ∉ pb r.p
  calm : Calm M L rs
  n : 40 ≤ M.n
  left : M.left = -1
  fr : Fr [] w0 w
  k : k1 < w.heap.size
  recs : Recs w w1.heap.size p rm.length c rm

theorem openL_next {C : DM} {first count : Int} {F H : Nat} {rs : RL} (h1 : first.toNat = F) (h2 : (first + count).toNat = H) (hs : lscan C F H = rs) (hn : Num rs) : (lopenL C first count).next = ((rs.length + 1 : Nat) : Int) := by
  unfold lopenL
  rw [h1, h2, hs, nextAt_num hn]


set_option maxHeartbeats 1000000 in
theorem again_walk (w : World) {a : Option Addr} {cap : Nat} {z : List ByteArray} (hz : RowsC w a z.length z) {kA : Option Addr} {kC : Nat} {keep : List Bool} (hkeep : Row w kA (keep.map .bool)) (c0 c1 c2 c3 : Int) :
    Calls prog 12 #[.slice a z.length cap, .slice kA keep.length kC, .agg #[I64 c0, I64 c1, I64 c2, I64 c3]] w fun e w' => e = .returned (.bool true) ∧ RowKit.Below w.heap.size w w' := by
  refine rhizomelaw04_LogAgain.link fun k1 w2 st2 => (lawake_c w2).mono ?_
  rintro e w5 ⟨rfl, f5⟩
  have n1 := g_new1 st2
  have z5 := f5.size
  have below : ∀ w', Fr [] w w' → RowKit.Below w.heap.size w w' := fun w' f => f.below (Nat.le_refl _) (fun x hx => by cases hx)
  have F5 : Fr [] w w5 := st2.fr.trans' f5
  refine ⟨_, rfl, g_keep f5 (fun x hx => by simp at hx; subst hx; exact ⟨by omega, by simp⟩), bF rfl ((new_c w5 40).mono ?_)⟩
  rintro e w8 ⟨_, hgood⟩
  obtain ⟨b, ms, mf, rfl, hnew, f8, hD⟩ := hgood (by omega)
  have z8 := f8.size
  have zw5 := F5.size
  have hn1 := hnew b (by simp)
  have hn2 := hnew ms (by simp)
  have hn3 := hnew mf (by simp)
  refine ⟨_, _, rfl, g_keep f8 (fun x hx => by simp at hx; subst hx; exact ⟨by omega, by simp⟩), fun y11 hy11 => bF rfl (hy11 _ _ (bF rfl ((open_c hD (first := 0) (count := 40) (by omega) (by omega)).mono ?_)))⟩
  clear hy11
  obtain ⟨eo, eL⟩ := fresh_open (n := 40) (first := 0) (count := 40) (by decide)
  rintro e w15 ⟨f15, hD15, _, h15⟩
  rw [show (40 : Int).toNat = 40 from rfl, eo, eL] at h15
  obtain ⟨lb, p, c, rs, own, rfl, hL, hR, hrs, hown, _⟩ := h15 rfl
  have z15 := f15.size
  have hbs := hL.disk.bs
  have hk15 : Keep [k1] w8 w15 := g_keep f15 (fun x hx => by simp at hx ⊢; omega)
  have m60 := modN (n := c0) (m := 60) (by omega) (by omega)
  refine ⟨_, _, _, _, _, rfl, hk15, fun y21 hy21 => bF rfl (bF rfl ⟨⟨by omega, by omega⟩, by decide, (arm_c hL.disk (n := IntKind.wrap .i64 (Int.tmod (IntKind.wrap .u64 c0) 60)) (by omega)).mono ?_⟩)⟩
  generalize hN : IntKind.wrap .i64 (Int.tmod (IntKind.wrap .u64 c0) 60) = N at *
  rintro e w134 ⟨rfl, f134, hD134⟩
  have earm : (DM.fresh0 40).arm N = ({ DM.fresh0 40 with left := N }, 0) := by
    unfold DM.arm
    rw [if_neg (by omega), if_neg (show ¬ (DM.fresh0 40).dead from show ¬ ((-1 : Int) = 0) by decide)]
  rw [earm] at hD134 ⊢
  have z134 := f134.size
  have ownge : ∀ x ∈ own, w5.heap.size ≤ x := fun x hx => by
    rcases hown x hx with h | h
    · simp at h; omega
    · omega
  have hL134 : LogAt w134 own lb b ms mf { DM.fresh0 40 with left := N } ⟨0, 0, 0 + 40, 1, []⟩ := hL.setD (f134.mono fun x hx => .inl (by simp at hx ⊢; simp [hx])) hD134 rfl
  have F134 : Fr [] w w134 := ((F5.trans' f8).trans f15 (fun x hx => .inr (by simp at hx; omega))).trans f134 (fun x hx => .inr (by simp at hx; omega))
  refine ⟨_, rfl, g_keep f134 (fun x hx => by simp at hx ⊢; omega), hy21 _ _ (bF rfl ?_)⟩
  clear hy21
  refine ⟨fun m q w' => ∃ (i : Nat) (M : DM) (L : LM) (rs : RL) (d : ByteArray), q = i ∧ i ≤ 12 ∧ m = 12 - i ∧ AgainAt w w' k1 lb b ms mf M L rs d, 12,
    ⟨0, { DM.fresh0 40 with left := N }, ⟨0, 0, 0 + 40, 1, []⟩, [], zsec, rfl, by omega, rfl, ⟨⟨own, hL134, fun x hx => ⟨by have := ownge x hx; omega, by have := ownge x hx; omega⟩⟩, F134, ⟨n1.1, by omega⟩, rfl, rfl, fun i r h => absurd h (by simp), .inl ⟨hD134.ok, hL134.ok, fun j => rfl, trivial, rfl, rfl, fun i r h => absurd h (by simp), fun i _ _ => fresh_get 40 i, rfl⟩⟩⟩, ?_⟩
  clear hL134 hD134 hL hD hR
  rintro m q w28 ⟨i, M, L, rs, d, rfl, hi, rfl, hW⟩ y30 hy30
  obtain ⟨own, hL, hO⟩ := hW.own
  have hk := hW.k
  have hf := hW.f
  have hh := hW.h
  have zw28 := hW.fr.size
  have done : y30 false w28 := by
    refine hy30 _ _ (bF rfl ⟨⟨by omega, by omega⟩, ⟨by omega, by omega⟩, ?_⟩)
    clear hy30
    refine (crash_c hL.disk (g_row hW.fr hkeep fun ad _ _ => by simp) c1 c2).mono ?_
    rintro e w48 ⟨b1, ms1, mf1, rfl, hnew1, f48, hC⟩
    have z48 := f48.size
    refine ⟨_, rfl, g_keep f48 (fun x hx => by simp at hx; subst hx; exact ⟨by omega, by simp⟩), bF rfl ?_⟩
    have hafter : ∃ rs', Num rs' ∧ After (M.crash keep c1 c2).sure L rs' := by
      rcases hW.st with hI | hT
      · exact ⟨rs, hW.num, hI.after keep c1 c2⟩
      · obtain ⟨rs', h1, h2⟩ := hT.after keep c1 c2
        rcases h1 with rfl | rfl
        · exact ⟨_, hW.num, h2⟩
        · exact ⟨_, hW.num.snoc _ _, h2⟩
    obtain ⟨rs', hnum', hA⟩ := hafter
    have hcalmC : Calm (M.crash keep c1 c2) L rs' := Calm.crash hL.disk.ok hA
    obtain ⟨eCs, eCn⟩ := DM.crash_calm hC.ok (DM.crash_fresh M keep c1 c2) [] (-1) 0
    refine (crash_c hC (keep := []) (Row.nil _ _) (-1) 0).mono ?_
    rintro e w51 ⟨b2, ms2, mf2, rfl, hnew2, f51, hA0⟩
    have z51 := f51.size
    have hMn : 40 ≤ M.n := by have := hL.ok.bn; omega
    have hCn := crash_n M keep c1 c2
    have hnob : ∀ X : DM, 40 ≤ X.n → ¬ badArea X 0 40 := fun X hX => by
      show ¬ ((0 : Int) < 0 ∨ (40 : Int) < 2 ∨ X.n < 0 ∨ X.n - 0 < 40)
      omega
    have hC51 : DiskAt w51 b1 ms1 mf1 (M.crash keep c1 c2) := hC.fr f51 (by simp)
    have h0 := open_alive (M := M.crash keep c1 c2) (show ((-1 : Int)) < 0 by decide) (hnob _ (by omega))
    refine ⟨_, rfl, g_keep f51 (fun x hx => by simp at hx; subst hx; exact ⟨by omega, by simp⟩), (open_c hC51 (first := 0) (count := 40) (by omega) (by omega)).mono ?_⟩
    rintro e w54 ⟨f54, hD54, _, h54⟩
    obtain ⟨lb1, p56, c58, rm, own1, rfl, hL1, hRc, hrm, _, _⟩ := h54 h0
    have z54 := f54.size
    have q1 := hnew1 b1 (by simp)
    have q2 := hnew1 ms1 (by simp)
    have q3 := hnew1 mf1 (by simp)
    have r1 := hnew2 b2 (by simp)
    have r2 := hnew2 ms2 (by simp)
    have r3 := hnew2 mf2 (by simp)
    have hbsC := hC.bs
    have hbsA := hA0.bs
    have hscan : ∀ X : DM, X.now = X.sure → After X.sure L rs' → lscan X 0 40 = rs' := fun X h1 h2 => after_scan (L := L) hf hh h1 h2
    rw [show ((0 : Int)).toNat = 0 from rfl, show ((0 : Int) + 40).toNat = 40 from rfl, hscan _ rfl hA] at hrm
    have F51 : Fr [] w w51 := (hW.fr.trans' f48).trans' f51
    have F54 : Fr [] w w54 := F51.trans f54 (fun x hx => .inr (by simp at hx; omega))
    have hA054 : DiskAt w54 b2 ms2 mf2 ((M.crash keep c1 c2).crash [] (-1) 0) := hA0.fr f54 (fun x hx => by simp at hx ⊢; omega)
    have recsnot : ∀ x, (∀ ad, p56 = some ad → ad.block ≠ x) → (∀ r ∈ rm, ∀ ad, r.p = some ad → ad.block ≠ x) → x ∉ pb p56 ∧ ∀ r ∈ rm, x ∉ pb r.p := fun x h1 h2 => by
      refine ⟨fun hm => ?_, fun r hr hm => ?_⟩
      · rw [g_mem_pb] at hm
        obtain ⟨ad, ha, e⟩ := hm
        exact h1 ad ha e
      · rw [g_mem_pb] at hm
        obtain ⟨ad, ha, e⟩ := hm
        exact h2 r hr ad ha e
    refine ⟨_, _, _, _, _, rfl, g_keep f54 (fun x hx => by simp at hx; subst hx; exact ⟨by omega, by simp; omega⟩), fun y60 hy60 => bF rfl (hy60 _ _ (bF rfl ?_))⟩
    clear hy60
    have hR0 : RoundAt w w51 w54 k1 L rs' p56 c58 rm (some ⟨b2, 0, none⟩) ((M.crash keep c1 c2).crash [] (-1) 0) := by
      refine ⟨⟨b2, ms2, mf2, rfl, hA054, fun x hx => ?_⟩, ⟨hA0.ok, fun _ => rfl, by rw [eCs]; exact hA⟩, by rw [crash_n]; omega, rfl, F54, by omega, hRc⟩
      have hx2 := hnew2 x hx
      have hxlt : x < w51.heap.size := by simp at hx; omega
      have := recsnot x (fun ad ha => by have := (hRc.own.lt ha).1; omega) (fun r hr ad ha => by have := ((hRc.row r hr).2 ad ha).1; omega)
      exact ⟨by omega, by omega, this.1, this.2⟩
    refine ⟨fun m pd q w' => ∃ (i : Nat) (A : DM), q = i ∧ i ≤ 4 ∧ m = 4 - i ∧ RoundAt w w51 w' k1 L rs' p56 c58 rm pd A, 4, ⟨0, _, rfl, by omega, rfl, hR0⟩, ?_⟩
    clear hR0 hA054 hC hC51 hL1 hD54
    rintro m pd q w68 ⟨i, A, rfl, hi4, rfl, hRA⟩
    obtain ⟨b3, ms3, mf3, rfl, hA3, hb3⟩ := hRA.ex
    have hbs3 := hA3.bs
    have hk68 := hRA.k
    have hAn := hRA.n
    have hAl := hRA.left
    have zw68 := hRA.fr.size
    have u1 := hb3 b3 (by simp)
    have u2 := hb3 ms3 (by simp)
    have u3 := hb3 mf3 (by simp)
    have kn3 : k1 ∉ [b3, ms3, mf3] := fun hm => (hb3 k1 hm).2.1 rfl
    refine ⟨fun hlt => ?_, fun hge => ?_⟩
    · have hlt : (i : Int) < 4 := of_decide_eq_true hlt
      refine ⟨⟨by omega, by omega⟩, by decide, ?_⟩
      have m6 := modN (n := IntKind.wrap .i64 (c3 + (i : Int))) (m := 6) (by omega) (by omega)
      generalize hN6 : IntKind.wrap .i64 (Int.tmod (IntKind.wrap .u64 (IntKind.wrap .i64 (c3 + (i : Int)))) 6) = N6 at *
      refine (arm_c hA3 (n := N6) (by omega)).mono ?_
      have earm3 : A.arm N6 = ({ A with left := N6 }, 0) := by
        unfold DM.arm
        rw [if_neg (by omega), if_neg (show ¬ A.dead from fun h : A.left = 0 => by omega)]
      rw [earm3]
      rintro e w71 ⟨rfl, f71, hA71⟩
      have z71 := f71.size
      have hcal : Calm { A with left := N6 } L rs' := ⟨hA71.ok, hRA.calm.quiet, hRA.calm.after⟩
      have hn' : 40 ≤ ({ A with left := N6 } : DM).n := hAn
      obtain ⟨okO, afO⟩ := open_again' (first := 0) (count := 40) hf (by rw [hh]; rfl) hcal (hnob _ hn') (by omega) (by omega)
      refine ⟨_, rfl, g_keep f71 (fun x hx => by simp at hx; subst hx; exact ⟨by omega, fun hm => kn3 (by simp at hm ⊢; simp [hm])⟩), (open_c hA71 (first := 0) (count := 40) (by omega) (by omega)).mono ?_⟩
      rintro e w74 ⟨f74, hD74, herr, hgood⟩
      have z74 := f74.size
      have Fd : Fr [b3, ms3, mf3] w68 w74 := (f71.mono fun x hx => .inl (by simp at hx; simp [hx])).trans' f74
      have hk74 : Keep [k1] w71 w74 := g_keep f74 (fun x hx => by simp at hx; subst hx; exact ⟨by omega, kn3⟩)
      have F74 : Fr [] w w74 := hRA.fr.trans Fd (fun x hx => .inr (hb3 x hx).1)
      have hrecs74 : Recs w74 w51.heap.size p56 rm.length c58 rm := hRA.recs.fr Fd (fun ad ha hm => (hb3 _ hm).2.2.1 ((g_mem_pb _ _).2 ⟨ad, ha, rfl⟩)) (fun r hr ad ha hm => (hb3 _ hm).2.2.2 r hr ((g_mem_pb _ _).2 ⟨ad, ha, rfl⟩))
      have hshape : ∃ p75 p76 k77 k78 n79, e = .returned (.tuple #[.pointer p75, .slice p76 k77 k78, I64 n79]) := by
        by_cases hc : (lopen { A with left := N6 } 0 40).2 = 0
        · obtain ⟨lbx, px, cx, rx, ox, rfl, _⟩ := hgood hc
          exact ⟨_, _, _, _, _, rfl⟩
        · exact ⟨_, _, _, _, _, herr hc⟩
      obtain ⟨p75, p76, k77, k78, n79, rfl⟩ := hshape
      refine ⟨_, _, _, _, _, rfl, hk74, ⟨by omega, by omega⟩, ⟨by omega, by omega⟩, (crash_c hD74 (g_row F74 hkeep fun ad _ _ => by simp) (IntKind.wrap .i64 (c1 - (i : Int))) c2).mono ?_⟩
      rintro e w81 ⟨b4, ms4, mf4, rfl, hnew4, f81, hA4⟩
      have z81 := f81.size
      refine ⟨_, rfl, g_keep f81 (fun x hx => by simp at hx; subst hx; exact ⟨by omega, by simp⟩), bF rfl ⟨4 - (i + 1), by omega, i + 1, _, by rw [wrapi (by omega) (by omega)]; simp, by omega, rfl, ⟨⟨b4, ms4, mf4, rfl, hA4, fun x hx => ?_⟩, Calm.crash okO (afO _ _ _), by rw [crash_n, lopen_n hA71.ok]; exact hn', rfl, F74.trans' f81, by omega, hrecs74.fr f81 (fun ad _ => by simp) (fun r _ ad _ => by simp)⟩⟩⟩
      have hx4 := hnew4 x hx
      have zz := F74.size
      have := recsnot x (fun ad ha => by have := (hrecs74.own.lt ha).2; omega) (fun r hr ad ha => by have := ((hrecs74.row r hr).2 ad ha).2.1; omega)
      exact ⟨by omega, by omega, this.1, this.2⟩
    · have h0A := open_alive (M := A) (by omega) (hnob A hAn)
      refine (open_c hA3 (first := 0) (count := 40) (by omega) (by omega)).mono ?_
      rintro e w85 ⟨f85, hD85, _, h85⟩
      obtain ⟨lb5, p87, c89, rm2, own5, rfl, hL5, hRc5, hrm5, _, _⟩ := h85 h0A
      have z85 := f85.size
      have hAnow : A.now = A.sure := by
        apply List.ext_getElem?
        intro j
        have hok := hA3.ok
        by_cases hj : j < A.now.length
        · have hj' : j < A.sure.length := by rw [← hok.now]; exact hj
          have := hRA.calm.quiet j
          rw [List.getD_eq_getElem?_getD, List.getD_eq_getElem?_getD, List.getElem?_eq_getElem hj, List.getElem?_eq_getElem hj'] at this
          rw [List.getElem?_eq_getElem hj, List.getElem?_eq_getElem hj']
          exact congrArg some this
        · rw [List.getElem?_eq_none (by omega), List.getElem?_eq_none (by rw [← hok.now]; omega)]
      have hsc := hscan A hAnow hRA.calm.after
      rw [show ((0 : Int)).toNat = 0 from rfl, show ((0 : Int) + 40).toNat = 40 from rfl, hsc] at hrm5
      have hlen1 : rm.length = rs'.length := by have := congrArg List.length hrm; simpa using this
      have hlen2 : rm2.length = rs'.length := by have := congrArg List.length hrm5; simpa using this
      have F85 : Fr [] w w85 := hRA.fr.trans f85 (fun x hx => .inr (hb3 x hx).1)
      have hrecs85 : Recs w85 w51.heap.size p56 rm.length c58 rm := hRA.recs.fr f85 (fun ad ha hm => (hb3 _ hm).2.2.1 ((g_mem_pb _ _).2 ⟨ad, ha, rfl⟩)) (fun r hr ad ha hm => (hb3 _ hm).2.2.2 r hr ((g_mem_pb _ _).2 ⟨ad, ha, rfl⟩))
      have hrl : rs'.length ≤ 4096 := by
        have h1 := hL5.ok.hl
        have h2 := hL5.ok.eb
        have h3 := hL5.ok.bn
        have h4 := hL5.ok.n4
        have h5 := hL5.ok.f0
        have e1 : (lopenL A 0 40).heads.length = rs'.length := by
          unfold lopenL
          rw [show ((0 : Int)).toNat = 0 from rfl, show ((0 : Int) + 40).toNat = 40 from rfl, hsc]; simp
        omega
      refine ⟨_, _, _, _, _, rfl, g_keep f85 (fun x hx => by simp at hx; subst hx; exact ⟨by omega, kn3⟩), fun y91 hy91 => bF rfl (bF rfl (bF ?_ ((next_c hL5).mono ?_)))⟩
      · have : ((rm2.length : Nat) : Int) = ((rm.length : Nat) : Int) := by omega
        simp [this]
      rintro e w133 ⟨rfl, rfl⟩
      have enx := openL_next (C := A) (first := 0) (count := 40) (F := 0) (H := 40) rfl rfl hsc hnum'
      have hneq : (!decide ((lopenL A 0 40).next = IntKind.wrap .i64 (((rm2.length : Nat) : Int) + 1))) = false := by
        rw [enx, wrapi (by omega) (by omega), hlen2]; simp
      refine ⟨_, rfl, fun x hx => rfl, ?_⟩
      rw [hneq]
      refine hy91 _ _ (bF rfl ⟨fun m q w' => ∃ i : Nat, q = i ∧ i ≤ rm2.length ∧ m = rm2.length - i ∧ Fr [] w133 w', rm2.length, ⟨0, rfl, by omega, rfl, Fr.refl _ _⟩, ?_⟩)
      clear hy91
      rintro m q w98 ⟨i, rfl, hi', rfl, f98⟩
      refine ⟨fun hlt y100 hy100 => ?_, fun hge => ⟨rfl, below _ (F85.trans' f98)⟩⟩
      have hlt : (i : Int) < (rm2.length : Int) := of_decide_eq_true hlt
      have hil2 : i < rm2.length := by omega
      have hil1 : i < rm.length := by omega
      have g2 : rm2[i]? = some rm2[i] := List.getElem?_eq_getElem hil2
      have g1 : rm[i]? = some rm[i] := List.getElem?_eq_getElem hil1
      have hpair : (rm2[i].seq, rm2[i].data) = (rm[i].seq, rm[i].data) := by
        have e1 : (rm.map fun r => (r.seq, r.data))[i]? = some (rm[i].seq, rm[i].data) := by rw [List.getElem?_map, g1]; rfl
        have e2 : (rm2.map fun r => (r.seq, r.data))[i]? = some (rm2[i].seq, rm2[i].data) := by rw [List.getElem?_map, g2]; rfl
        rw [hrm, ← hrm5, e2] at e1
        exact Option.some.inj e1
      have es := (Prod.mk.inj hpair).1
      have ed := (Prod.mk.inj hpair).2
      obtain ⟨a1, a2⟩ := rcells_get g1
      obtain ⟨d1, d2⟩ := rcells_get g2
      have R1 : Row w98 p56 (rcells rm) := g_row f98 hrecs85.own.row fun ad _ _ => by simp
      have R2 : Row w98 p87 (rcells rm2) := g_row f98 hRc5.own.row fun ad _ _ => by simp
      obtain ⟨ad1, hp1⟩ := R1.has (by rw [rcells_len]; omega)
      obtain ⟨ad2, hp2⟩ := R2.has (by rw [rcells_len]; omega)
      have e0 : Int.toNat (i : Int) * 2 = i * 2 := by omega
      have D1 : Row w98 rm[i].p (byteCells rm[i].data) := g_row f98 (hrecs85.row _ (List.getElem_mem hil1)).1 fun ad _ _ => by simp
      have D2 : Row w98 rm2[i].p (byteCells rm2[i].data) := g_row f98 (hRc5.row _ (List.getElem_mem hil2)).1 fun ad _ _ => by simp
      refine ⟨ad2, hp2, ⟨by omega, hlt⟩, ((rm2[i].seq : Nat) : Int), ?_, ad1, hp1, ⟨by omega, by omega⟩, ((rm[i].seq : Nat) : Int), ?_, bF (by rw [es]; simp) ⟨ad2, hp2, ⟨by omega, hlt⟩, rm2[i].p, rm2[i].data.size, rm2[i].c, ?_, row_str D2 rfl ⟨ad1, hp1, ⟨by omega, by omega⟩, rm[i].p, rm[i].data.size, rm[i].c, ?_, row_str D1 rfl fun w128 st128 => hy100 _ _ (bF ?_ ⟨rm2.length - (i + 1), by omega, i + 1, by rw [wrapi (by omega) (by omega)]; simp, by omega, rfl, f98.trans' st128.fr⟩)⟩⟩⟩
      · rw [e0, add2, Nat.add_zero]; exact R2.get hp2 d1
      · rw [e0, add2, Nat.add_zero]; exact R1.get hp1 a1
      · rw [e0, add2]; exact R2.get hp2 d2
      · rw [e0, add2]; exact R1.get hp1 a2
      · rw [str_eta, str_eta, ed]; simp
  refine ⟨fun hlt => ?_, fun _ => done⟩
  by_cases h12 : ¬ (i : Int) < 12
  · rw [decide_eq_false h12]; exact done
  clear done
  have h12 : (i : Int) < 12 := by omega
  rw [decide_eq_true h12]
  have hlt : (i : Int) < (z.length : Int) := of_decide_eq_true hlt
  refine hy30 _ _ (bT rfl ?_)
  clear hy30
  obtain ⟨s, ad, A, C, rfl, hcell, hrow, hps, hsC⟩ := cut_row (m := 300) hz hW.fr (i := i) (by omega)
  have e0 : (i : Int).toNat * 1 = i := by omega
  refine ⟨ad, rfl, ⟨by omega, hlt⟩, _, _, _, by rw [e0]; exact hcell, ad, rfl, ⟨by omega, hlt⟩, _, _, _, by rw [e0]; exact hcell, ?_⟩
  have em : (if (300 : Int) < (s.size : Int) then (300 : Int) else (s.size : Int)) = ((min 300 s.size : Nat) : Int) := by split <;> omega
  rw [em, subA0]
  have em2 : Int.toNat ((min 300 s.size : Nat) : Int) - 0 = (pre s 300).size := by rw [hps]; omega
  rw [em2]
  refine ⟨⟨by omega, by omega, by omega⟩, fun w41 st41 => ?_⟩
  have hL41 := hL.fr st41.fr (fun x _ => by simp)
  refine (append_c hL41 (data := pre s 300) (g_row (hW.fr.trans' st41.fr) hrow fun ad _ _ => by simp) (by omega)).mono ?_
  rintro e w44 ⟨rfl, f44, own', ho', ho2', hL'⟩
  have z41 := st41.size
  have z44 := f44.size
  have F44 : Fr [] w w44 := (hW.fr.trans' st41.fr).trans f44 (fun x hx => .inr (hO x hx).1)
  have hO' : ∀ x ∈ own', w.heap.size ≤ x ∧ x ≠ k1 := fun x hx => by
    rcases ho' x hx with h | h
    · exact hO x h
    · exact ⟨by omega, by omega⟩
  have next : ∀ M' L' rs' d', LogAt w44 own' lb b ms mf M' L' → L'.first = 0 → L'.behind = 40 → Num rs' → (LInv M' L' rs' ∨ Torn M' L' rs' d') → ∃ k46, k46 < 12 - i ∧ ∃ (j : Nat) (M : DM) (L : LM) (rs : RL) (d : ByteArray), IntKind.wrap .i64 ((i : Int) + 1) = j ∧ j ≤ 12 ∧ k46 = 12 - j ∧ AgainAt w w44 k1 lb b ms mf M L rs d := fun M' L' rs' d' h1 h2 h3 h4 h5 =>
    ⟨12 - (i + 1), by omega, i + 1, M', L', rs', d', by rw [wrapi (by omega) (by omega)]; simp, by omega, rfl, ⟨⟨own', h1, hO'⟩, F44, ⟨hk.1, by omega⟩, h2, h3, h4, h5⟩⟩
  refine ⟨_, rfl, g_keep f44 (fun x hx => by simp at hx; subst hx; exact ⟨by omega, fun hm => (hO _ hm).2 rfl⟩), ?_⟩
  have hps' : ¬ 4000 < (pre s 300).size := by omega
  rcases hW.st with hI | hT
  · by_cases hfull : isFull L (pre s 300).size
    · rw [lappend_full hps' hfull] at hL'
      exact next M L rs d hL' hf hh hW.num (.inl hI)
    obtain ⟨good, bad⟩ := append_inv hI hps' hfull
    by_cases hc : (lappend M L (pre s 300)).2.2 = 0
    · obtain ⟨eL', hI'⟩ := good hc
      rw [eL'] at hL'
      exact next _ _ _ d hL' hf hh hI'.num (.inl hI')
    · obtain ⟨_, eL', hT⟩ := bad hc
      rw [eL'] at hL'
      exact next _ L rs _ hL' hf hh hW.num (.inr hT)
  · obtain ⟨d1, d2⟩ := dead_append hT.dead L (pre s 300)
    rw [d1, d2] at hL'
    exact next M L rs d hL' hf hh hW.num (.inr hT)

end Go.Proofs.Ytcaamecdhbgknaa.Log
