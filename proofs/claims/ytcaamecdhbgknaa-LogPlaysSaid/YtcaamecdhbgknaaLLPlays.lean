/- LogPlays: the law's own walk. -/
import Derived.Test.YtcaamecdhbgknaaHB
import Derived.Test.YtcaamecdhbgknaaL13
namespace Go.Proofs.Ytcaamecdhbgknaa.Log
open Go Go.V
open Go.Proofs.Ytcaamecdhbgknaa.VC
open Go.Proofs.Ytcaamecdhbgknaa.Disk
open Go.Proofs.Try (prog)
set_option linter.unusedVariables false
set_option linter.unusedSimpArgs false
set_option maxRecDepth 20000

/-- A loop's state: no log, or both. -/
def Playing (w0 w : World) (ks : List Nat) (n : Int) (first count : Int) (pd pl : Option Addr) (v lv : Value) : Prop :=
  ∃ (own : List Nat) (lb b ms mf : Nat) (f c : Nat) (M : DM) (L : LM) (p : Option Addr) (cp : Nat) (rs : RR) (q : Nat), first = (f : Int) ∧ count = (c : Int) ∧ 2 ≤ c ∧ pd = some ⟨b, 0, none⟩ ∧ pl = some ⟨lb, 0, none⟩ ∧ lv = rlog first count p cp rs (q : Int) ∧ PlaysAt w0 w own ks lb b ms mf n f c v M L p rs q

theorem Playing.step {w0 w w' : World} {ks : List Nat} {n first count : Int} {pd pl : Option Addr} {v lv : Value} (h : Playing w0 w ks n first count pd pl v lv) {F : List Nat} (hF : ∀ x ∈ F, x ∈ ks) (f : Fr F w w') : Playing w0 w' ks n first count pd pl v lv := by
  obtain ⟨own, lb, b, ms, mf, f', c, M, L, p, cp, rs, q, h1, h2, h3, h4, h5, h6, hP⟩ := h
  exact ⟨own, lb, b, ms, mf, f', c, M, L, p, cp, rs, q, h1, h2, h3, h4, h5, h6, hP.step hF f⟩
theorem Playing.kb {w0 w : World} {ks : List Nat} {n first count : Int} {pd pl : Option Addr} {v lv : Value} (h : Playing w0 w ks n first count pd pl v lv) : Fr [] w0 w ∧ ∀ x ∈ ks, w0.heap.size ≤ x ∧ x < w.heap.size := by
  obtain ⟨own, lb, b, ms, mf, f', c, M, L, p, cp, rs, q, h1, h2, h3, h4, h5, h6, hP⟩ := h
  exact ⟨hP.fr, fun x hx => ⟨(hP.kb x hx).1, (hP.kb x hx).2.1⟩⟩

set_option maxHeartbeats 2000000 in
theorem tail_c {w0 w : World} {ks : List Nat} {n first count : Int} {pd pl : Option Addr} {v lv : Value} (h : Playing w0 w ks n first count pd pl v lv) :
    Calls prog 32 #[.pointer pd, v] w fun e w1 => e = .returned (.bool true) ∧ Fr [] w w1 ∧ Calls prog 37 #[.pointer pl] w1 fun e w2 => ∃ x r1 r2 r3 x1 x2, e = .returned (I64 x) ∧ Fr [] w1 w2 ∧ lv = .agg #[I64 x1, I64 x2, .slice r1 r2 r3, I64 x] ∧
      Calls prog 36 #[.pointer pl] w2 fun e w3 => ∃ y, e = .returned (I64 y) ∧ Fr [] w2 w3 ∧ Calls prog 47 #[lv] w3 fun e w4 => e = .returned (I64 y) ∧ Fr [] w3 w4 ∧ Playing w0 w4 ks n first count pd pl v lv := by
  obtain ⟨own, lb, b, ms, mf, f, c, M, L, p, cp, rs, q, rfl, rfl, hc, rfl, rfl, rfl, hP⟩ := h
  refine (tells_c hP.log.disk hP.ref).mono ?_
  rintro e w1 ⟨rfl, f1⟩
  have P1 := hP.step (F := []) (by simp) f1
  refine ⟨rfl, f1, (next_c P1.log).mono ?_⟩
  rintro e w2 ⟨rfl, rfl⟩
  refine ⟨_, _, _, _, _, _, rfl, Fr.refl _ _, by rw [P1.hq]; rfl, (room_c P1.log).mono ?_⟩
  rintro e w3 ⟨f3, rfl⟩
  have P3 := P1.step (F := []) (by simp) f3
  obtain ⟨B1, B2, B3, B4, B5, B6⟩ := P3.bounds
  refine ⟨_, rfl, f3, (rroom_c P3.row P3.sz B4 B1 (by omega) P3.he P3.hb P3.hq).mono ?_⟩
  rintro e w4 ⟨f4, rfl⟩
  exact ⟨rfl, f4, own, lb, b, ms, mf, f, c, M, L, p, cp, rs, q, rfl, rfl, hc, rfl, rfl, rfl, P3.step (F := []) (by simp) f4⟩

set_option maxHeartbeats 4000000 in
theorem lplays_walk (w : World) (sz first count : Int) (hf1 : -9223372036854775808 ≤ first) (hf2 : first < 9223372036854775808) (hc2 : count < 9223372036854775808) {a : Option Addr} {len cap : Nat} {z : List LOp} (hz : IsLOps w a len cap z) :
    Calls prog 13 #[.agg #[I64 sz, I64 first, I64 count], .slice a len cap] w fun e w' => e = .returned (.bool true) ∧ RowKit.Below w.heap.size w w' := by
  refine rhizomelaw04_LogPlays.link fun k1 y2 hy2 w268 st268 => (lawake_c w268).mono ?_
  have below : ∀ w', Fr [] w w' → RowKit.Below w.heap.size w w' := fun w' f => f.below (Nat.le_refl _) (fun x hx => by cases hx)
  rintro e w4 ⟨rfl, f4⟩
  have n1 := g_new1 st268
  have z4 := f4.size
  have F4 : Fr [] w w4 := st268.fr.trans' f4
  have k1keep : ∀ v v' : World, w4.heap.size ≤ v.heap.size → Fr [] v v' → Keep [k1] v v' := fun v v' hv f => g_keep f (fun x hx => by simp at hx; subst hx; exact ⟨by omega, by simp⟩)
  have out : y2 true w4 := hy2 _ _ (bT rfl ((lawake_c w4).mono (by
    rintro e w6 ⟨rfl, f6⟩
    exact ⟨_, rfl, k1keep _ _ (Nat.le_refl _) f6, rfl, below _ (F4.trans' f6)⟩)))
  refine ⟨_, rfl, g_keep f4 (fun x hx => by simp at hx; subst hx; exact ⟨by omega, by simp⟩), bF rfl ⟨fun _ => out, fun h1 => ?_⟩⟩
  have h1 : ¬ sz < 1 := of_decide_eq_false h1
  cases h40 : decide ((40 : Int) < sz) with
  | true => exact out
  | false =>
  clear out
  have h40 : ¬ (40 : Int) < sz := of_decide_eq_false h40
  refine hy2 _ _ (bF rfl ((new_c w4 sz).mono ?_))
  clear hy2
  rintro e w9 ⟨_, hgood⟩
  obtain ⟨b, ms, mf, rfl, hnew, f9, hD⟩ := hgood (by omega)
  have z9 := f9.size
  have hbs := hD.bs
  have hnb := hnew b (by simp)
  have hnm := hnew ms (by simp)
  have hnf := hnew mf (by simp)
  have hlt9 : ∀ x ∈ [b, ms, mf], x < w9.heap.size := fun x hx => by simp at hx; omega
  refine ⟨_, _, rfl, k1keep _ _ (Nat.le_refl _) f9, (rnew_c (F := [b, ms, mf, k1]) (fun x hx => by simp at hx; omega) sz).mono ?_⟩
  rintro e w13 ⟨f13, _, hgood⟩
  obtain ⟨v0, rfl, hR0⟩ := hgood (by omega)
  have hR00 := hR0
  obtain ⟨_, sA, sC, nA, nC, fA, fC, rfl, _⟩ := hR0
  have z13 := f13.size
  refine ⟨_, _, _, _, _, _, _, _, _, _, _, _, rfl, k1keep _ _ z9 f13, fun k26 y27 hy27 => bF rfl fun w483 st483 => hy27 _ _ (bF rfl ?_)⟩
  clear hy27
  have n26 := g_new1 st483
  have z483 := st483.size
  have F483 : Fr [] w w483 := ((F4.trans' f9).trans' f13).trans' st483.fr
  have zF4 := F4.size
  have D483 := (hD.fr f13 (by simp)).fr st483.fr (by simp)
  have R483 : RefAt w483 (rv sA sC nA nC fA fC (DM.fresh0 sz.toNat)) ([b, ms, mf, k1] ++ [k26]) (DM.fresh0 sz.toNat) := (hR00.more (G := [k26]) (fun x hx => by rw [List.mem_singleton.1 hx]; exact n26.1)).fr st483.fr (by simp)
  have hMn : (DM.fresh0 sz.toNat).n = sz := by
    show (((List.replicate sz.toNat zsec).length : Nat) : Int) = sz
    rw [List.length_replicate]; omega
  have hMl : (DM.fresh0 sz.toNat).sure.length = sz.toNat := by
    show (List.replicate sz.toNat zsec).length = _
    rw [List.length_replicate]
  clear hD hR00
  refine (open_c D483 hf1 hc2).mono ?_
  rintro e w31 ⟨f31, D31, hbad, hgood⟩
  have z31 := f31.size
  have R31 : RefAt w31 (rv sA sC nA nC fA fC (DM.fresh0 sz.toNat)) ([b, ms, mf, k1, k26] ++ (List.range w31.heap.size).filter fun x => decide (w483.heap.size ≤ x)) (DM.fresh0 sz.toNat) := (R483.ext (fun x hx => by
    rcases List.mem_append.1 hx with hx | hx
    · left; simp at hx ⊢; omega
    · right; simp at hx; exact hx.2)).fr f31 (fun x hx => .inl (List.mem_append_left _ (by simp at hx ⊢; omega)))
  have F31 : Fr [] w w31 := F483.trans f31 (fun x hx => .inr (by have := hnew x hx; omega))
  have hp : ∃ p32 p33 k34 k35, e = .returned (.tuple #[.pointer p32, .slice p33 k34 k35, I64 (lopen (DM.fresh0 sz.toNat) first count).2]) ∧ k34 = 0 ∧ ((lopen (DM.fresh0 sz.toNat) first count).2 ≠ 0 → p32 = none) ∧
      ((lopen (DM.fresh0 sz.toNat) first count).2 = 0 → ∃ lb own, p32 = some ⟨lb, 0, none⟩ ∧ LogAt w31 own lb b ms mf (DM.fresh0 sz.toNat) ⟨first, first, first + count, 1, []⟩ ∧ ¬ badArea (DM.fresh0 sz.toNat) first count ∧ (∀ x ∈ own, x ∈ [b, ms, mf] ∨ w483.heap.size ≤ x)) := by
    by_cases hc : (lopen (DM.fresh0 sz.toNat) first count).2 = 0
    · obtain ⟨lb, p, c, rs, own, rfl, hL, hRc, hrs, hown, _⟩ := hgood hc
      have hnb : ¬ badArea (DM.fresh0 sz.toNat) first count := fun hb => by
        have : lopen (DM.fresh0 sz.toNat) first count = (DM.fresh0 sz.toNat, 1) := by unfold lopen; rw [if_pos hb]
        rw [this] at hc
        exact absurd hc (show ¬ (1 : Int) = 0 by decide)
      obtain ⟨g1, g2⟩ := fresh_open hnb
      rw [g1, g2] at hL
      refine ⟨_, _, _, _, by rw [hc], ?_, fun h => absurd hc h, fun _ => ⟨lb, own, rfl, hL, hnb, hown⟩⟩
      have := congrArg List.length hrs
      rw [fresh_scan] at this
      simpa using this
    · exact ⟨_, _, _, _, hbad hc, rfl, fun _ => rfl, fun h => absurd h hc⟩
  clear hbad hgood
  obtain ⟨p32, p33, k34, k35, rfl, rfl, hbad, hgood⟩ := hp
  have kk : ∀ v v' : World, w483.heap.size ≤ v.heap.size → ∀ F : List Nat, (∀ x ∈ F, x ∈ [b, ms, mf]) → Fr F v v' → Keep [k1, k26] v v' := fun v v' hv F hF f => g_keep f (fun x hx => by
    simp at hx
    rcases hx with rfl | rfl
    · exact ⟨by omega, fun hm => by have := hnew _ (hF _ hm); omega⟩
    · exact ⟨by omega, fun hm => by have := hlt9 _ (hF _ hm); omega⟩)
  refine ⟨_, _, _, _, _, rfl, kk _ _ (Nat.le_refl _) _ (fun x hx => hx) f31, (ropen_c R31 (fun x hx => by
    rcases List.mem_append.1 hx with hx | hx
    · have h1 := hlt9 b (by simp); have h2 := hlt9 ms (by simp); have h3 := hlt9 mf (by simp); simp at hx; omega
    · simp at hx; exact hx.1) hf2 hc2).mono ?_⟩
  rintro e w38 ⟨v', lv, rfl, hO⟩
  have f38 := hO.fr
  have z38 := f38.size
  have R38 := hO.ref
  obtain ⟨_, sA', sC', nA', nC', fA', fC', rfl, _⟩ := hO.ref
  have hlv : ∃ x1 x2 p52 k53 k54 x3, lv = .agg #[I64 x1, I64 x2, .slice p52 k53 k54, I64 x3] ∧ ((lopen (DM.fresh0 sz.toNat) first count).2 = 0 → x1 = first ∧ x2 = count ∧ k53 = 0 ∧ x3 = ((1 : Nat) : Int) ∧ (∀ ad, p52 = some ad → w31.heap.size ≤ ad.block ∧ ad.block < w38.heap.size)) := by
    by_cases hc : (lopen (DM.fresh0 sz.toNat) first count).2 = 0
    · obtain ⟨p, c, rfl, g1, g2, g3, g4⟩ := hO.good hc
      rw [fresh_scan]
      exact ⟨_, _, _, _, _, _, rfl, fun _ => ⟨rfl, rfl, rfl, rfl, g2⟩⟩
    · obtain rfl := hO.bad hc
      exact ⟨_, _, _, _, _, _, rfl, fun h => absurd h hc⟩
  clear hO
  obtain ⟨x1, x2, p52, k53, k54, x3, rfl, hlv⟩ := hlv
  refine ⟨_, _, _, _, _, _, _, _, _, _, _, _, _, _, _, _, _, _, rfl, kk _ _ (by omega) [] (by simp) f38, fun k57 y58 hy58 => bF (by simp) ?_⟩
  have start : ∀ w477, Step w38 w477 [k26] [k57] → y58 false w477 := by
    intro w477 st477
    refine hy58 _ _ (bF rfl ?_)
    clear hy58
    have n57 := g_new1 st477
    have z477 := st477.size
    have hks : ∀ x ∈ [k1, k26, k57], w.heap.size ≤ x ∧ x < w477.heap.size ∧ (x = k1 ∨ x = k26 ∨ x = k57) := fun x hx => by simp at hx; omega
    have F477 : Fr [] w w477 := (F31.trans' f38).trans st477.fr (fun x hx => .inr (by rw [List.mem_singleton.1 hx]; omega))
    refine ⟨fun m pd e pl code q p1 l1 c1 p2 l2 c2 p3 l3 c3 s4 s5 x1 x2 p l c x3 w' => ∃ i : Nat, q = i ∧ i ≤ 40 ∧ m = 40 - i ∧ e = code ∧ ((pl = none ∧ Fr [] w w') ∨ Playing w w' [k1, k26, k57] sz first count pd pl (.agg #[.slice p1 l1 c1, .slice p2 l2 c2, .slice p3 l3 c3, I64 s4, I64 s5]) (.agg #[I64 x1, I64 x2, .slice p l c, I64 x3])), 40, ⟨0, rfl, by omega, rfl, rfl, ?_⟩, ?_⟩
    · by_cases hc : (lopen (DM.fresh0 sz.toNat) first count).2 = 0
      · right
        obtain ⟨lb, own, rfl, hL, hnb, hown⟩ := hgood hc
        obtain ⟨rfl, rfl, rfl, rfl, hpb⟩ := hlv hc
        have hnb' : ¬ (x1 < 0 ∨ x2 < 2 ∨ (DM.fresh0 sz.toNat).n < x1 ∨ (DM.fresh0 sz.toNat).n - x1 < x2) := hnb
        obtain ⟨f, rfl⟩ : ∃ f : Nat, x1 = f := ⟨x1.toNat, by omega⟩
        obtain ⟨c, rfl⟩ : ∃ c : Nat, x2 = c := ⟨x2.toNat, by omega⟩
        have hop : (lopen (DM.fresh0 sz.toNat) (f : Int) (c : Int)).1 = DM.fresh0 sz.toNat := by rw [(fresh_open hnb).1]
        rw [hop] at R38 ⊢
        have ownk : ∀ x ∈ own, x ∉ [k1, k26, k57] := fun x hx hm => by
          have hlt := hL.lt x hx
          simp at hm
          rcases hown x hx with h | h
          · have := hnew x h; have := hlt9 x h; omega
          · omega
        refine ⟨own, lb, b, ms, mf, f, c, DM.fresh0 sz.toNat, ⟨(f : Int), (f : Int), (f : Int) + (c : Int), 1, []⟩, p52, k54, [], 1, rfl, rfl, by omega, rfl, rfl, rfl, ?_⟩
        refine ⟨(hL.fr f38 (fun x _ => by simp)).fr st477.fr (fun x hx hm => ownk x hx (by rw [List.mem_singleton.1 hm]; simp)), ?_, hMn, F477, fun x hx => ⟨(hks x hx).1, (hks x hx).2.1, fun hm => ownk x hm hx⟩, fun x hx => ?_, Row.nil _ _, fun ad hp => ?_, fun r hr => (by cases hr), rfl, ?_, rfl, rfl, rfl⟩
        · refine RefAt.fr (F := own ++ [k1, k26, k57]) (RefAt.ext R38 fun x hx => ?_) st477.fr (fun x hx => .inl (by simp at hx ⊢; simp [hx]))
          rcases List.mem_append.1 hx with hx | hx
          · left
            rcases hown x hx with h | h
            · exact List.mem_append_left _ (by simp at h ⊢; omega)
            · exact List.mem_append_right _ (by have := hL.lt x hx; simp; omega)
          · simp at hx
            rcases hx with rfl | rfl | rfl
            · exact .inl (by simp)
            · exact .inl (by simp)
            · exact .inr n57.1
        · rcases hown x hx with h | h
          · have := hnew x h; omega
          · omega
        · have g := hpb ad hp
          refine ⟨by omega, fun hm => ?_, fun hm => ?_⟩
          · have := hL.lt _ hm; omega
          · simp at hm; omega
        · show (f : Int) + (c : Int) = _; omega
      · left
        exact ⟨hbad hc, F477⟩
    clear hlv hbad R38 R31 R483
    rintro m pd e pl code q p1 l1 c1 p2 l2 c2 p3 l3 c3 s4 s5 x1 x2 p82 k83 k84 n85 w86 ⟨i, rfl, hi, rfl, he, hst⟩ y88 hy88
    have F86 : Fr [] w w86 := by
      rcases hst with h | h
      · exact h.2
      · exact h.kb.1
    have done : y88 false w86 := hy88 _ _ (bF rfl ⟨rfl, below _ F86⟩)
    rcases hst with ⟨rfl, _⟩ | hP
    · exact bF rfl done
    obtain ⟨own, lb, b', ms', mf', f, c, M, L, p, cp, rs, q, rfl, rfl, h2c, rfl, rfl, hlv, hPA⟩ := hP
    refine bT rfl (bc (fun hlt => ?_) fun _ => done)
    cases h40' : decide ((i : Int) < 40) with
    | false => exact done
    | true =>
    clear done
    have hlt : (i : Int) < (len : Int) := of_decide_eq_true hlt
    have h40' : (i : Int) < 40 := of_decide_eq_true h40'
    refine hy88 _ _ (bT rfl ?_)
    clear hy88
    obtain ⟨o, ad, A, C, A2, C2, rfl, c0, c1', c2', c3', c4', r1, r2, b1, b2, b3⟩ := hz.get F86 (i := i) (by omega)
    have e0 : (i : Int).toNat * 5 = i * 5 := by omega
    refine ⟨ad, rfl, ⟨by omega, hlt⟩, _, _, _, _, _, _, _, _, _, ⟨by rw [e0]; exact c0, by rw [e0]; exact c1', by rw [e0]; exact c2', by rw [e0]; exact c3', by rw [e0]; exact c4', trivial⟩, fun k101 y102 hy102 => ?_⟩
    simp only [rlog, Value.agg.injEq, Array.mk.injEq, List.cons.injEq, Value.int.injEq, Value.slice.injEq, true_and, and_true] at hlv
    obtain ⟨rfl, rfl, ⟨rfl, rfl, rfl⟩, rfl⟩ := hlv
    have hks : ∀ x ∈ [k1, k26, k57], w.heap.size ≤ x ∧ x < w86.heap.size := fun x hx => ⟨(hPA.kb x hx).1, (hPA.kb x hx).2.1⟩
    have tail : ∀ (pd : Option Addr) (e : Int) (pl : Option Addr) (code : Int) (p1 : Option Addr) (l1 c1 : Nat) (p2 : Option Addr) (l2 c2 : Nat) (p3 : Option Addr) (l3 c3 : Nat) (s4 s5 x1 x2 : Int) (p : Option Addr) (l c' : Nat) (x3 : Int) (w' : World), e = code → Playing w w' [k1, k26, k57] sz (f : Int) (c : Int) pd pl (.agg #[.slice p1 l1 c1, .slice p2 l2 c2, .slice p3 l3 c3, I64 s4, I64 s5]) (.agg #[I64 x1, I64 x2, .slice p l c', I64 x3]) →
        y102 pd e pl code p1 l1 c1 p2 l2 c2 p3 l3 c3 s4 s5 x1 x2 p l c' x3 w' := by
      intro pd e pl code p1 l1 c1 p2 l2 c2 p3 l3 c3 s4 s5 x1 x2 p l c' x3 w124 he hP
      refine hy102 _ _ _ _ _ _ _ _ _ _ _ _ _ _ _ _ _ _ _ _ _ _ fun y125 hy125 => bF (by simp [he]) fun w133 st => ?_
      have hP1 := hP.step (F := []) (by simp) st.fr
      have kb := hP1.kb.2
      have keep : ∀ u u' : World, w133.heap.size ≤ u.heap.size → Fr [] u u' → Keep [k1, k26, k57] u u' := fun u u' hu f => g_keep f (fun x hx => ⟨by have := (kb x hx).2; omega, by simp⟩)
      refine (tail_c hP1).mono ?_
      rintro e w136 ⟨rfl, f136, h⟩
      have z136 := f136.size
      refine ⟨_, rfl, keep _ _ (Nat.le_refl _) f136, bF rfl (h.mono ?_)⟩
      rintro e w139 ⟨x, r1, r2, r3, y1, y2, rfl, f139, hlv, h⟩
      have z139 := f139.size
      have hx : x = x3 := by
        simp only [Value.agg.injEq, Array.mk.injEq, List.cons.injEq, Value.int.injEq, true_and, and_true] at hlv
        exact hlv.2.2.2.symm
      refine ⟨_, rfl, keep _ _ (by omega) f139, bF (by simp [hx]) (h.mono ?_)⟩
      rintro e w142 ⟨y, rfl, f142, h⟩
      have z142 := f142.size
      refine ⟨_, rfl, keep _ _ (by omega) f142, h.mono ?_⟩
      rintro e w145 ⟨rfl, f145, hP2⟩
      refine ⟨_, rfl, keep _ _ (by omega) f145, ?_⟩
      rw [show (!decide (y = y)) = false by simp]
      exact hy125 _ _ (bF rfl ⟨40 - (i + 1), by omega, i + 1, by rw [wrapi (by omega) (by omega)]; simp, by omega, rfl, he, .inr hP2⟩)
    clear hy102
    have keep : ∀ {F : List Nat} (u u' : World), k101 < u.heap.size → w86.heap.size ≤ k101 → w86.heap.size ≤ u.heap.size → (∀ x ∈ F, x ∉ [k1, k26, k57, k101]) → Fr F u u' → Keep [k1, k26, k57, k101] u u' := fun u u' h1 h2 h3 hF f => g_keep f (fun x hx => ⟨by
      rcases List.mem_append.1 (show x ∈ [k1, k26, k57] ++ [k101] from hx) with hx | hx
      · have := (hks x hx).2; omega
      · rw [List.mem_singleton.1 hx]; exact h1, fun hm => hF x hm hx⟩)
    have ownn : ∀ {own : List Nat} {w' : World}, w86.heap.size ≤ k101 → LogAt w' own lb b' ms' mf' M L → (∀ x ∈ own, x < w86.heap.size) → (∀ x ∈ [k1, k26, k57], x ∉ own) → ∀ x ∈ own, x ∉ [k1, k26, k57, k101] := fun h1 _ h2 h3 x hx hm => by
      rcases List.mem_append.1 (show x ∈ [k1, k26, k57] ++ [k101] from hm) with hm | hm
      · exact h3 x hm hx
      · have := h2 x hx; rw [List.mem_singleton.1 hm] at this; omega
    have ownk : w86.heap.size ≤ k101 → ∀ x ∈ own, x ∉ [k1, k26, k57, k101] := fun h => ownn h hPA.log hPA.log.lt (fun x hx => (hPA.kb x hx).2.2)
    clear ownn
    refine bc (fun hk1 => ?_) fun hk1 => bc (fun hk2 => ?_) fun hk2 => bc (fun hk3 => ?_) fun hk3 => ?_
    · -- append
      intro k149 w150 st150 b150
      have n150 := g_new2 st150
      have z150 := st150.size
      have r1' := g_row (F86.trans' st150.fr) r1 (fun ad _ _ => by simp)
      have P150 := hPA.step (F := []) (by simp) st150.fr
      refine ⟨byteCells o.data, by rw [byteCells_length]; exact (Nat.mul_one _).symm, r1', append_z (B := w86.heap.size) (OwnZ.blk (n := 0) b150 rfl (fun u hu => by cases hu) (by omega)) (by rw [byteCells_length]; exact (Nat.mul_one _).symm) (byteCells_one _) (by omega) rfl (fun _ => rfl) (fun ad _ => by simp) (fun ad hp hm => ?_) (by show (0 + o.data.size) * 1 ≤ _; omega) (by show 0 + o.data.size ≤ _; omega) fun w154 p155 c157 f154 nw o154 d154 => ?_⟩
      · injection hp with hp; subst hp
        rcases List.mem_append.1 (show k149 ∈ [k1, k26, k57] ++ [k101] from hm) with hm | hm
        · have := (hks _ hm).2; omega
        · have := List.mem_singleton.1 hm; omega
      have z154 := f154.size
      have fz : Fr [] w86 w154 := (st150.fr).trans f154 (fun x hx => .inr (by simp [pb] at hx; omega))
      have P154 := hPA.step (F := []) (by simp) fz
      have rin : Row w154 p155 (byteCells o.data) := by have := o154.row; simpa [reps] using this
      have pin : ∀ ad, p155 = some ad → w86.heap.size ≤ ad.block := fun ad hp => (o154.lt hp).1
      rw [show (nat_lit 0 : Nat) + o.data.size = o.data.size from Nat.zero_add _]
      refine (P154.append (c := k84) rin b1).mono ?_
      rintro e w159 ⟨rfl, f159, h⟩
      have z159 := f159.size
      have F159 : Fr [] w w159 := P154.fr.trans f159 (fun x hx => .inr (hPA.ob x hx))
      obtain ⟨s1, s2⟩ := str_row (g_row F159 r1 (fun ad _ _ => by simp))
      refine ⟨_, rfl, keep _ _ (by omega) (by omega) (by omega) (ownk (by omega)) f159, o.data.data.toList, s1, s2, ?_⟩
      rw [mk_str]
      refine h.mono ?_
      rintro e w166 ⟨v', lv, own', p', c', rs', q', rfl, rfl, f166, hP166⟩
      have z166 := f166.size
      have hR := hP166.ref
      obtain ⟨_, sA', sC', nA', nC', fA', fC', rfl, _⟩ := hR
      have rin166 : Row w166 p155 (byteCells o.data) := g_row f166 (g_row f159 rin (fun ad hp _ hm => by have := pin ad hp; have := hPA.log.lt _ hm; omega)) (fun ad _ _ => by simp)
      obtain ⟨t1, t2⟩ := str_row rin166
      obtain ⟨u1, u2⟩ := str_row (g_row (F159.trans' f166) r1 (fun ad _ _ => by simp))
      have hm1 : ∀ x ∈ [k57, k26], x ∈ [k1, k26, k57] := fun x hx => by simp at hx ⊢; omega
      refine ⟨_, _, _, _, _, _, _, _, _, _, _, _, _, _, _, _, _, _, rfl, keep _ _ (by omega) (by omega) (by omega) (by simp) f166, o.data.data.toList, t1, t2, fun _ x hx hm => ?_, o.data.data.toList, u1, u2, fun h0 x hx hm => ?_, bF (by simp) fun w201 st201 => ?_⟩
      · obtain ⟨ad, hp, rfl⟩ := Option.map_eq_some_iff.1 hx
        have := pin ad hp
        have := (hks _ (hm1 _ hm)).2
        omega
      · obtain ⟨ad, hp, rfl⟩ := Option.map_eq_some_iff.1 hx
        have := row_low r1 (by rw [byteCells_length]; exact h0) hp
        have := (hks _ (hm1 _ hm)).1
        omega
      · exact tail _ _ _ _ _ _ _ _ _ _ _ _ _ _ _ _ _ _ _ _ _ _ rfl ⟨own', lb, b', ms', mf', f, c, _, _, p', c', rs', q', rfl, rfl, h2c, rfl, rfl, rfl, hP166.step hm1 st201.fr⟩
    · -- reset
      intro w203 st203
      have n203 := g_new1 st203
      have z203 := st203.size
      have P203 := hPA.step (F := []) (by simp) st203.fr
      refine (P203.reset (c := k84) o.n).mono ?_
      rintro e w206 ⟨rfl, f206, h⟩
      have z206 := f206.size
      refine ⟨_, rfl, keep _ _ (by omega) (by omega) (by omega) (ownk (by omega)) f206, h.mono ?_⟩
      rintro e w209 ⟨v', lv, p', c', rs', q', rfl, rfl, f209, hP209⟩
      have z209 := f209.size
      have hR := hP209.ref
      obtain ⟨_, sA', sC', nA', nC', fA', fC', rfl, _⟩ := hR
      have hm1 : ∀ x ∈ [k57, k26], x ∈ [k1, k26, k57] := fun x hx => by simp at hx ⊢; omega
      refine ⟨_, _, _, _, _, _, _, _, _, _, _, _, _, _, _, _, _, _, rfl, keep _ _ (by omega) (by omega) (by omega) (by simp) f209, fun w228 st228 => ?_⟩
      exact tail _ _ _ _ _ _ _ _ _ _ _ _ _ _ _ _ _ _ _ _ _ _ rfl ⟨own, lb, b', ms', mf', f, c, _, _, p', c', rs', q', rfl, rfl, h2c, rfl, rfl, rfl, hP209.step hm1 st228.fr⟩
    · -- arm
      intro w230 st230
      have n230 := g_new1 st230
      have z230 := st230.size
      have P230 := hPA.step (F := []) (by simp) st230.fr
      refine (P230.arm b3).mono ?_
      rintro e w233 ⟨rfl, f233, h⟩
      have z233 := f233.size
      refine ⟨_, rfl, keep _ _ (by omega) (by omega) (by omega) (ownk (by omega)) f233, h.mono ?_⟩
      rintro e w236 ⟨v', rfl, f236, hP236⟩
      have z236 := f236.size
      have hR := hP236.ref
      obtain ⟨_, sA', sC', nA', nC', fA', fC', rfl, _⟩ := hR
      refine ⟨_, _, _, _, _, _, _, _, _, _, _, _, rfl, keep _ _ (by omega) (by omega) (by omega) (by simp) f236, fun w249 st249 => ?_⟩
      exact tail _ _ _ _ _ _ _ _ _ _ _ _ _ _ _ _ _ _ _ _ _ _ rfl ⟨own, lb, b', ms', mf', f, c, _, _, _, _, _, _, rfl, rfl, h2c, rfl, rfl, rfl, hP236.step (fun x hx => by rw [List.mem_singleton.1 hx]; simp) st249.fr⟩
    · -- crash, or nothing
      intro y251 hy251
      have main : ∀ (bb : Bool) (w' : World), Step w86 w' [] [k101] → y251 bb w' := by
        intro bb w253 st253
        have n253 := g_new1 st253
        have z253 := st253.size
        have P253 := hPA.step (F := []) (by simp) st253.fr
        refine hy251 _ _ (bc (fun _ => ?_) fun _ => tail _ _ _ _ _ _ _ _ _ _ _ _ _ _ _ _ _ _ _ _ _ _ he ⟨own, lb, b', ms', mf', f, c, _, _, _, _, _, _, rfl, rfl, h2c, rfl, rfl, rfl, P253⟩)
        intro y254 hy254
        have crash : ∀ (p1 : Option Addr) (l1 c1 : Nat) (p2 : Option Addr) (l2 c2 : Nat) (p3 : Option Addr) (l3 c3 : Nat) (s4 s5 : Int) (N : DM) (w' : World), w253.heap.size ≤ w'.heap.size →
            PlaysAt w w' own [k1, k26, k57] lb b' ms' mf' sz f c (.agg #[.slice p1 l1 c1, .slice p2 l2 c2, .slice p3 l3 c3, I64 s4, I64 s5]) N L p82 rs q → y254 p1 l1 c1 p2 l2 c2 p3 l3 c3 s4 s5 w' := by
          intro p1 l1 c1 p2 l2 c2 p3 l3 c3 s4 s5 N w266 z266 P266
          refine hy254 _ _ _ _ _ _ _ _ _ _ _ _ (and_self_iff.2 fun w267 st267 => ?_)
          clear hy254
          have z267 := st267.size
          have P267 := P266.step (F := []) (by simp) st267.fr
          have r267 := g_row P267.fr r2 (fun ad _ _ => by simp)
          refine (P267.crash h2c r267 o.n o.cut).mono ?_
          rintro e w270 ⟨b2, rfl, f270, h⟩
          have z270 := f270.size
          refine ⟨_, rfl, keep _ _ (by omega) (by omega) (by omega) (by simp) f270, (h (g_row f270 r267 (fun ad _ _ => by simp))).mono ?_⟩
          rintro e w273 ⟨v1, sA1, sC1, nA1, nC1, fA1, fC1, N1, rfl, rfl, f273, h⟩
          have z273 := f273.size
          refine ⟨_, _, _, _, _, _, _, _, _, _, _, rfl, keep _ _ (by omega) (by omega) (by omega) (by simp) f273, bF rfl fun w287 st287 => (h w287 [k26] (by simp) st287.fr).mono ?_⟩
          rintro e w290 ⟨lb2, p4, l4, c4, G, rfl, hG, f290, h⟩
          have z287 := st287.size
          have z290 := f290.size
          refine ⟨_, _, _, _, _, rfl, keep _ _ (by omega) (by omega) (by omega) (fun x hx hm => by
            have := hG x hx
            rcases List.mem_append.1 (show x ∈ [k1, k26, k57] ++ [k101] from hm) with hm | hm
            · have := (hks x hm).2; omega
            · rw [List.mem_singleton.1 hm] at this; omega) f290, h.mono ?_⟩
          rintro e w297 ⟨v2, lv2, p5, c5, rs5, q5, rfl, rfl, f297, ⟨F5, N5, hR5⟩, h⟩
          have z297 := f297.size
          obtain ⟨_, sA', sC', nA', nC', fA', fC', rfl, _⟩ := hR5
          refine ⟨_, _, _, _, _, _, _, _, _, _, _, _, _, _, _, _, _, _, rfl, keep _ _ (by omega) (by omega) (by omega) (by simp) f297, fun y316 hy316 => bF (by simp) (bF rfl fun w325 st325 => (h w325 [k57, k26] (fun x hx => by simp at hx ⊢; omega) st325.fr).mono ?_)⟩
          rintro e w328 ⟨rfl, f328, own', ms'', mf'', M', L', hP⟩
          have z325 := st325.size
          have z328 := f328.size
          exact ⟨_, rfl, keep _ _ (by omega) (by omega) (by omega) (by simp) f328, hy316 _ _ (bF rfl (tail _ _ _ _ _ _ _ _ _ _ _ _ _ _ _ _ _ _ _ _ _ _ rfl ⟨own', lb2, b2, ms'', mf'', f, c, M', L', p5, c5, rs5, q5, rfl, rfl, h2c, rfl, rfl, rfl, hP⟩))⟩
        clear hy254
        refine bc (fun hk5 w395 st395 => ?_) fun hk5 => crash _ _ _ _ _ _ _ _ _ _ _ _ _ (Nat.le_refl _) P253
        have z395 := st395.size
        have P395 := P253.step (F := []) (by simp) st395.fr
        have r395 := g_row P395.fr r1 (fun ad _ _ => by simp)
        refine (bytes_c w395 r395).mono ?_
        rintro e w398 ⟨kb, rfl, zkb, f398, bb⟩
        have z398 := f398.size
        have P398 := P395.step (F := []) (by simp) f398
        refine ⟨_, _, _, rfl, keep _ _ (by omega) (by omega) (by omega) (by simp) f398, (P398.write o.n bb (fun hm => by have := hPA.log.lt _ hm; omega) (round_size _)).mono ?_⟩
        rintro e w403 ⟨rfl, f403, h⟩
        have z403 := f403.size
        have F403 : Fr [] w w403 := P398.fr.trans f403 (fun x hx => .inr (hPA.ob x hx))
        refine ⟨_, rfl, keep _ _ (by omega) (by omega) (by omega) (ownk (by omega)) f403, and_self_iff.2 fun w405 st405 => ?_⟩
        have z405 := st405.size
        have r405 := g_row (F403.trans' st405.fr) r1 (fun ad _ _ => by simp)
        refine (bytes_c w405 r405).mono ?_
        rintro e w408 ⟨kb2, rfl, zkb2, f408, bb2⟩
        have z408 := f408.size
        obtain ⟨s1, s2⟩ := str_of bb2 (round_size _)
        refine ⟨_, _, _, rfl, keep _ _ (by omega) (by omega) (by omega) (by simp) f408, (Disk.round o.data).data.toList, s1, s2, ?_⟩
        rw [mk_str]
        refine (h w408 (st405.fr.trans' f408)).mono ?_
        rintro e w417 ⟨v', rfl, f417, hP417⟩
        have z417 := f417.size
        have hR := hP417.ref
        obtain ⟨_, sA', sC', nA', nC', fA', fC', rfl, _⟩ := hR
        refine ⟨_, _, _, _, _, _, _, _, _, _, _, _, rfl, keep _ _ (by omega) (by omega) (by omega) (by simp) f417, bF (by simp) fun w432 st432 => crash _ _ _ _ _ _ _ _ _ _ _ _ _ (by have := st432.size; omega) (hP417.step (fun x hx => by rw [List.mem_singleton.1 hx]; simp) st432.fr)⟩
      exact bc (fun _ w465 st => main _ _ st) fun _ w467 st => main _ _ st
  have fin : (!Option.isNone p32 == !decide ((lopen (DM.fresh0 sz.toNat) first count).2 = 0)) = false := by
    by_cases hc : (lopen (DM.fresh0 sz.toNat) first count).2 = 0
    · obtain ⟨lb, own, rfl, _⟩ := hgood hc
      rw [decide_eq_true hc]; rfl
    · rw [hbad hc, decide_eq_false hc]; rfl
  refine bF fin fun w477 st477 => ?_
  rw [show (!decide (((nat_lit 0 : Nat) : Int) = (0 : Int))) = false by decide]
  exact start w477 st477
end Go.Proofs.Ytcaamecdhbgknaa.Log
