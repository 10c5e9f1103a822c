/- The log: opening it. -/
import Derived.Test.YtcaamecdhbgknaaG5
namespace Go.Proofs.Ytcaamecdhbgknaa.Log
open Go Go.V
open Go.Proofs.Ytcaamecdhbgknaa.VC
open Go.Proofs.Ytcaamecdhbgknaa.Disk
open Go.Proofs.Try (prog)
set_option linter.unusedVariables false
set_option linter.unusedSimpArgs false
set_option maxRecDepth 20000

def lscan (M : DM) (first behind : Nat) : List (Nat × Nat × ByteArray) := scan M.now behind (behind - first) first none
def lopenL (M : DM) (first count : Int) : LM :=
  ⟨first, (endAt first.toNat (lscan M first.toNat (first + count).toNat) : Nat), first + count, (nextAt (lscan M first.toNat (first + count).toNat) : Nat), (lscan M first.toNat (first + count).toNat).map fun r => (r.1 : Int)⟩
def dirtyTo (M : DM) (a k : Nat) : List Int := ((List.range k).filter fun i => !decide (M.now.getD (a + i) zsec = zsec)).map fun i => ((a + i : Nat) : Int)
theorem dirtyTo_succ (M : DM) (a k : Nat) : dirtyTo M a (k + 1) = if M.now.getD (a + k) zsec = zsec then dirtyTo M a k else dirtyTo M a k ++ [((a + k : Nat) : Int)] := by
  unfold dirtyTo
  rw [List.range_succ, List.filter_append, List.map_append, List.filter_cons, List.filter_nil]
  by_cases h : M.now.getD (a + k) zsec = zsec
  · rw [if_pos h, decide_eq_true h]; simp
  · rw [if_neg h, decide_eq_false h]; simp
theorem dirtyTo_len (M : DM) (a k : Nat) : (dirtyTo M a k).length ≤ k := by
  unfold dirtyTo
  rw [List.length_map]
  exact Nat.le_trans (List.length_filter_le _ _) (by simp)
def badArea (M : DM) (first count : Int) : Prop := first < 0 ∨ count < 2 ∨ M.n < first ∨ M.n - first < count
instance (M : DM) (first count : Int) : Decidable (badArea M first count) := inferInstanceAs (Decidable (_ ∨ _))
def lend (M : DM) (first count : Int) : Nat := endAt first.toNat (lscan M first.toNat (first + count).toNat)
def ldirty (M : DM) (first count : Int) : List Int := dirtyTo M (lend M first count) ((first + count).toNat - lend M first count)
/-- Opening: the disk behind it, the error. -/
def lopen (M : DM) (first count : Int) : DM × Int := if badArea M first count then (M, 1) else if ldirty M first count = [] then (M, 0) else wipe M (ldirty M first count)

structure SOk (first behind : Nat) (s : List (Nat × Nat × ByteArray)) : Prop where
  e1 : first ≤ endAt first s
  e2 : endAt first s ≤ behind
  n1 : 1 ≤ nextAt s
  n2 : nextAt s ≤ 4611686018427387905
  l : s.length ≤ endAt first s - first
  r : ∀ x ∈ s, first ≤ x.1 ∧ x.1 < endAt first s
theorem SOk.nil {first behind : Nat} (h : first ≤ behind) : SOk first behind [] := ⟨Nat.le_refl _, h, Nat.le_refl _, by decide, by simp, fun x hx => by cases hx⟩
theorem SOk.snoc {first behind seq : Nat} {data : ByteArray} {s : List (Nat × Nat × ByteArray)} {now : List ByteArray} (h : SOk first behind s) (hr : recAt now (endAt first s) behind = some (seq, data)) : SOk first behind (s ++ [(endAt first s, seq, data)]) := by
  rcases recAt_some hr with ⟨h1, h2, h3, h4⟩ | h
  rotate_left
  · exact h.elim
  have := h.e1
  have := h.l
  refine ⟨by rw [endAt_snoc]; simp; omega, by rw [endAt_snoc]; simp; omega, by rw [nextAt_snoc]; simp, by rw [nextAt_snoc]; simp; omega, ?_, fun x hx => ?_⟩
  · rw [endAt_snoc, List.length_append, List.length_singleton]; simp; omega
  · rw [endAt_snoc]
    rcases List.mem_append.1 hx with hx | hx
    · have := h.r x hx; simp; omega
    · rw [List.mem_singleton] at hx; subst hx; simp; omega

theorem wipe_n {M : DM} (h : M.Ok) (l : List Int) : (wipe M l).1.n = M.n := by
  unfold wipe
  split
  · rw [flush_n (writes_ok _ h), writes_n]
  · rw [writes_n]

set_option maxHeartbeats 1000000 in
theorem open_c {w : World} {b ms mf : Nat} {M : DM} (hD : DiskAt w b ms mf M) {first count : Int} (hf1 : -9223372036854775808 ≤ first) (hc2 : count < 9223372036854775808) :
    Calls prog 34 #[D b, I64 first, I64 count] w fun e w' => Fr [b, ms, mf] w w' ∧ DiskAt w' b ms mf (lopen M first count).1 ∧ ((lopen M first count).2 ≠ 0 → e = .returned (.tuple #[.pointer none, .slice none 0 0, I64 (lopen M first count).2])) ∧
      ((lopen M first count).2 = 0 → ∃ lb p c rs own, e = .returned (.tuple #[D lb, .slice p rs.length c, I64 0]) ∧ LogAt w' own lb b ms mf (lopen M first count).1 (lopenL M first count) ∧ Recs w' w.heap.size p rs.length c rs ∧
        rs.map (fun r => (r.seq, r.data)) = (lscan M first.toNat (first + count).toNat).map (fun r => r.2) ∧ (∀ x ∈ own, x ∈ [b, ms, mf] ∨ w.heap.size ≤ x) ∧ (∀ x ∈ own, x ∉ pb p ∧ ∀ r ∈ rs, x ∉ pb r.p)) := by
  have hok := hD.ok
  have hlo := hok.lo
  have hhi := hok.hi
  have hMn : M.n = (M.sure.length : Int) := rfl
  refine log_Open.link fun y1 hy1 => ?_
  have bad : badArea M first count → y1 true w := fun hb => by
    refine hy1 _ _ (bT rfl ?_)
    have e1 : lopen M first count = (M, 1) := by unfold lopen; rw [if_pos hb]
    rw [e1]
    exact ⟨Fr.refl _ _, hD, fun _ => rfl, fun h => by cases h⟩
  have good : ¬ badArea M first count → y1 false w := fun hb => by
    have hb' : ¬ (first < 0 ∨ count < 2 ∨ (M.sure.length : Int) < first ∨ (M.sure.length : Int) - first < count) := hb
    obtain ⟨F, hF⟩ : ∃ F : Nat, first = F := ⟨first.toNat, by omega⟩
    obtain ⟨H, hH⟩ : ∃ H : Nat, first + count = H := ⟨(first + count).toNat, by omega⟩
    have hFt : first.toNat = F := by omega
    have hHt : (first + count).toNat = H := by omega
    refine hy1 _ _ (bF rfl fun k4 w5 st5 b5 y8 hy8 => ?_)
    clear hy1 bad
    have n4 := g_new1 st5
    have hHw : IntKind.wrap .i64 (first + count) = (H : Int) := by rw [wrapi (by omega) (by omega)]; exact hH
    have b5' : Blk w5 k4 (lcells b ⟨(F : Int), ((endAt F [] : Nat) : Int), (H : Int), ((nextAt [] : Nat) : Int), []⟩ none 0) := by
      have e : lcells b ⟨(F : Int), ((endAt F [] : Nat) : Int), (H : Int), ((nextAt [] : Nat) : Int), []⟩ none 0 = [D b, I64 first, I64 first, I64 (IntKind.wrap .i64 (first + count)), I64 1, .slice none 0 0] := by
        rw [hHw, hF]; rfl
      rw [e]; exact b5
    have hbs := hD.bs
    -- what is read is all
    have fin : ∀ s rs p l c w', Reading w w' k4 b F H s p l c rs → SOk F H s → lscan M F H = s → y8 p l c w' := by
      intro s rs p l c w12 hR hS hs
      obtain ⟨hp, hc, h1, h2, h3, h4, h5⟩ := hR.log
      refine hy8 _ _ _ _ ⟨_, h1.cell 2, ?_⟩
      clear hy8
      have he1 := hS.e1
      have he2 := hS.e2
      have z12 := hR.fr.size
      have hk4 := hR.k
      have hend : lend M first count = endAt F s := by unfold lend; rw [hFt, hHt, hs]
      have hdirty : ldirty M first count = dirtyTo M (endAt F s) (H - endAt F s) := by unfold ldirty; rw [hend, hHt]
      have hLL : lopenL M first count = ⟨(F : Int), ((endAt F s : Nat) : Int), (H : Int), ((nextAt s : Nat) : Int), s.map fun r => (r.1 : Int)⟩ := by
        unfold lopenL; rw [hFt, hHt, hs, hF, ← hH, hF]
      refine ⟨fun m p17 l17 c17 n20 w21 => ∃ i : Nat, n20 = ((endAt F s + i : Nat) : Int) ∧ i ≤ H - endAt F s ∧ m = H - endAt F s - i ∧ l17 = (dirtyTo M (endAt F s) i).length ∧ OwnZ w21 w12.heap.size 1 p17 l17 c17 ((dirtyTo M (endAt F s) i).map I64) ∧ Fr [] w12 w21, H - endAt F s, ⟨0, rfl, by omega, rfl, rfl, OwnZ.nil _ _ _, Fr.refl _ _⟩, ?_⟩
      rintro m p17 l17 c17 n20 w21 ⟨i, rfl, hi, rfl, rfl, o17, f21⟩
      have z21 := f21.size
      have hb21 := h1.fr f21 (by simp)
      have hdl := dirtyTo_len M (endAt F s) i
      have hD21 : DiskAt w21 b ms mf M := hD.fr (hR.fr.trans' f21) (by simp)
      refine ⟨_, hb21.cell 3, fun hlt y24 hy24 => ?_, fun hge y50 hy50 => ?_⟩
      · have hlt : ((endAt F s + i : Nat) : Int) < (H : Int) := of_decide_eq_true hlt
        have hnext : ∀ p25 l25 c25 w28, l25 = (dirtyTo M (endAt F s) (i + 1)).length → OwnZ w28 w12.heap.size 1 p25 l25 c25 ((dirtyTo M (endAt F s) (i + 1)).map I64) → Fr [] w12 w28 → y24 p25 l25 c25 w28 := fun p25 l25 c25 w28 h1 h2 h3 =>
          hy24 _ _ _ _ ⟨H - endAt F s - (i + 1), by omega, i + 1, by rw [wrapi (by omega) (by omega)]; omega, by omega, rfl, h1, h2, h3⟩
        clear hy24
        refine (read_in hD21 (i := endAt F s + i) (by omega)).mono ?_
        rintro e w33 ⟨k34, sec, hs34, s64, rfl, hk34, f33, b33⟩
        have hget : M.now.getD (endAt F s + i) zsec = sec := by rw [List.getD_eq_getElem?_getD, hs34]; rfl
        refine ⟨_, _, _, _, rfl, ⟨by omega, by omega, by omega, by omega⟩, fun w38 k39 st38 b38 => ?_⟩
        rw [← zsec_cells] at b38
        have heq := equal_c (w := w38) (aC := 64) (bC := 64) (x := sec) (y := zsec) (g_row st38.fr (Row.all b33 (byteCells_one sec)) fun ad _ _ => by simp) (Row.all b38 (byteCells_one _))
        rw [s64, zsec_size] at heq
        refine heq.mono ?_
        rintro e w43 ⟨rfl, rfl⟩
        have f2143 : Fr [] w21 w43 := f33.trans' st38.fr
        have o43 := o17.fr f2143 (fun ad _ => by simp)
        refine ⟨_, rfl, fun hne k45 => ?_, fun he => ?_⟩
        · have hne : ¬ sec = zsec := by simpa using hne
          refine append_z o43 rfl (fun u hu => by simp [spl, reps] at hu; subst hu; rfl) (by have := f2143.size; omega) rfl (fun h => by cases h) (fun ad _ => by simp) (fun ad _ hm => hm) (by omega) (by omega) fun w46 p47 c49 f46 n46 o46 d46 => ?_
          refine hnext _ _ _ _ ?_ ?_ ?_
          · rw [dirtyTo_succ, if_neg (by rw [hget]; exact hne), List.length_append, List.length_singleton]
          · rw [dirtyTo_succ, if_neg (by rw [hget]; exact hne), List.map_append]; exact o46
          · refine (f21.trans' f2143).trans f46 fun x hx => ?_
            rw [List.nil_append, g_mem_pb] at hx
            obtain ⟨ad, hp, rfl⟩ := hx
            exact .inr (o43.lt hp).1
        · have he : sec = zsec := by simpa using he
          exact hnext _ _ _ _ (by rw [dirtyTo_succ, if_pos (by rw [hget]; exact he)]) (by rw [dirtyTo_succ, if_pos (by rw [hget]; exact he)]; exact o43) (f21.trans' f2143)
      · have hge : ¬ ((endAt F s + i : Nat) : Int) < (H : Int) := of_decide_eq_false hge
        have hi' : i = H - endAt F s := by omega
        subst hi'
        rw [← hdirty] at o17 hdl ⊢
        -- both ends
        have out : ∀ (w' : World) (M' : DM), lopen M first count = (M', 0) → Fr [b, ms, mf] w21 w' → DiskAt w' b ms mf M' → M'.n = M.n → y50 w' := by
          intro w' M' e1 f' hD' hn'
          refine hy50 _ ?_
          rw [e1]
          have F0 : Fr [b, ms, mf] w w' := ((hR.fr.trans' f21).mono (fun x hx => by cases hx)).trans' f'
          have rl : l = rs.length := hR.recs.len
          subst rl
          have hR21 := hR.step f21
          obtain ⟨hp2, hc2', q1, q2, q3, q4, q5⟩ := hR21.log
          have rb : ∀ x, w.heap.size ≤ x → x ∉ [b, ms, mf] := fun x hx => by simp; omega
          refine ⟨F0, hD', fun h => absurd rfl h, fun _ => ⟨k4, p, c, rs, [k4, b, ms, mf] ++ pb hp2, rfl, ⟨hD', ?_, rb _ hk4.1, fun x hx => List.mem_append_left _ hx, fun x hx => ?_, hp2, hc2', ?_, ?_, ?_⟩, ?_, ?_, fun x hx => ?_, fun x hx => ?_⟩⟩
          · rw [hLL, hn']
            have := hS.l
            have := hS.n1
            have := hS.n2
            exact ⟨by simp, by simp; omega, by simp; omega, by simp; omega, by omega, by simp; omega, by show ((nextAt s : Nat) : Int) ≤ 4611686018427387904 + 1; omega, by simp; omega, fun x hx => by
              obtain ⟨r, hr, rfl⟩ := List.mem_map.1 hx
              have := hS.r r hr
              simp; omega⟩
          · have zf := f'.size
            rcases List.mem_append.1 hx with hx | hx
            · simp at hx
              have := q1.lt
              omega
            · rw [g_mem_pb] at hx
              obtain ⟨ad, ha, rfl⟩ := hx
              have := (q2.lt ha).2
              omega
          · rw [hLL]
            exact q1.fr f' (rb _ hk4.1)
          · rw [hLL]
            have := q2.fr f' (fun ad ha => rb _ (q2.lt ha).1)
            simp
            refine (this.mono (Nat.zero_le _))
          · intro ad ha
            refine ⟨List.mem_append_right _ ((g_mem_pb _ _).2 ⟨ad, ha, rfl⟩), fun hm => ?_⟩
            have h0 := (q2.lt ha).1
            rcases List.mem_cons.1 hm with e | e
            · exact q3 ((g_mem_pb _ _).2 ⟨ad, ha, e⟩)
            · exact rb _ h0 e
          · exact hR21.recs.fr f' (fun ad ha => rb _ (hR21.recs.own.lt ha).1) (fun r hr ad ha => rb _ ((hR21.recs.row r hr).2 ad ha).1)
          · rw [hFt, hHt, hs]; exact hR.same
          · rcases List.mem_append.1 hx with hx | hx
            · rcases List.mem_cons.1 hx with rfl | hx
              · exact .inr hk4.1
              · exact .inl hx
            · rw [g_mem_pb] at hx
              obtain ⟨ad, ha, rfl⟩ := hx
              exact .inr (q2.lt ha).1
          · have old : ∀ y, y ∈ [b, ms, mf] → (y ∉ pb p ∧ ∀ r ∈ rs, y ∉ pb r.p) := fun y hy => by
              refine ⟨fun hm => ?_, fun r hr hm => ?_⟩
              · rw [g_mem_pb] at hm
                obtain ⟨ad, ha, rfl⟩ := hm
                exact rb _ (hR21.recs.own.lt ha).1 hy
              · rw [g_mem_pb] at hm
                obtain ⟨ad, ha, rfl⟩ := hm
                exact rb _ ((hR21.recs.row r hr).2 ad ha).1 hy
            rcases List.mem_append.1 hx with hx | hx
            · rcases List.mem_cons.1 hx with rfl | hx
              · refine ⟨hR21.pk, fun r hr hm => ?_⟩
                rw [g_mem_pb] at hm
                obtain ⟨ad, ha, e⟩ := hm
                exact hR21.rk r hr ad ha e
              · exact old x hx
            · refine ⟨fun hm => q4 x hm hx, fun r hr hm => ?_⟩
              rw [g_mem_pb] at hm
              obtain ⟨ad, ha, rfl⟩ := hm
              exact q5 r hr ad ha hx
        refine ⟨fun hpos => ?_, fun hz => ?_⟩
        · have hpos : (0 : Int) < ((ldirty M first count).length : Int) := of_decide_eq_true hpos
          have hne : ldirty M first count ≠ [] := fun h => by rw [h] at hpos; simp at hpos
          have e0 : lopen M first count = wipe M (ldirty M first count) := by unfold lopen; rw [if_neg hb, if_neg hne]
          refine (wipe_c (cs := [_, _, _, _, _]) hb21 hD21 (by simp; omega) o17.row (fun ad ha => by have := (o17.lt ha).1; simp; omega) (by omega)).mono ?_
          rintro e w55 ⟨rfl, f55, hD55⟩
          rw [← e0] at hD55 ⊢
          refine ⟨_, rfl, fun hne' => ?_, fun h0 => ?_⟩
          · have hne' : ¬ (lopen M first count).2 = 0 := by simpa using hne'
            exact ⟨((hR.fr.trans' f21).mono (fun x hx => by cases hx)).trans' f55, hD55, fun _ => rfl, fun h => absurd h hne'⟩
          · have h0 : (lopen M first count).2 = 0 := by simpa using h0
            exact out w55 (lopen M first count).1 (by rw [← h0]) f55 hD55 (by rw [e0, wipe_n hok])
        · have hz : ¬ (0 : Int) < ((ldirty M first count).length : Int) := of_decide_eq_false hz
          have hnil : ldirty M first count = [] := List.length_eq_zero_iff.1 (by omega)
          exact out w21 M (by unfold lopen; rw [if_neg hb, if_pos hnil]) (Fr.refl _ _) hD21 rfl
    clear hy8
    have z5 := st5.size
    refine ⟨fun m p l c w' => ∃ s rs fuel, Reading w w' k4 b F H s p l c rs ∧ SOk F H s ∧ lscan M F H = s ++ scan M.now H fuel (endAt F s) (prevOf s) ∧ H ≤ fuel + endAt F s ∧ m = H - endAt F s, H - F,
      ⟨[], [], H - F, ⟨st5.fr, ⟨n4.1, n4.2⟩, ⟨OwnZ.nil _ _ _, rfl, fun r hr => absurd hr (by simp)⟩, rfl, by simp [pb], fun r hr => absurd hr (by simp), none, 0, b5', OwnZ.nil _ _ _, by simp [pb], fun x hx => absurd hx (by simp [pb]), fun r hr => absurd hr (by simp)⟩, SOk.nil (by omega), rfl, by show H ≤ H - F + F; omega, rfl⟩, ?_⟩
    rintro m p l c w65 ⟨s, rs, fuel, hR, hS, hs, hfu, rfl⟩
    obtain ⟨hp, hc, h1, h2, h3, h4, h5⟩ := hR.log
    have he1 := hS.e1
    have he2 := hS.e2
    have hk4 := hR.k
    have hl : l = s.length := by
      have := congrArg List.length hR.same
      simp at this
      rw [hR.recs.len, this]
    refine ⟨_, h1.cell 2, _, h1.cell 3, fun hlt => ⟨_, h1.cell 2, fun w70 st70 => ?_⟩, fun hge w135 st135 => ?_⟩
    rotate_left
    · have hge : ¬ ((endAt F s : Nat) : Int) < (H : Int) := of_decide_eq_false hge
      refine fin s rs p l c w135 (hR.step st135.fr) hS ?_
      have e0 : scan M.now H fuel (endAt F s) (prevOf s) = [] := by
        cases fuel with
        | zero => rfl
        | succ n => unfold scan; rw [if_neg (by omega)]
      rw [hs, e0, List.append_nil]
    have hlt : ((endAt F s : Nat) : Int) < (H : Int) := of_decide_eq_true hlt
    have hltn : endAt F s < H := by omega
    obtain ⟨fu, rfl⟩ : ∃ fu, fuel = fu + 1 := ⟨fuel - 1, by omega⟩
    have z70 := st70.size
    have hscan : scan M.now H (fu + 1) (endAt F s) (prevOf s) = match recAt M.now (endAt F s) H with
      | none => []
      | some (seq, data) => if (prevOf s).getD (seq - 1) + 1 = seq then (endAt F s, seq, data) :: scan M.now H fu (endAt F s + 1 + secs data.size) (some seq) else [] := by
      rw [scan, if_pos hltn]
      cases recAt M.now (endAt F s) H <;> rfl
    rw [hscan] at hs
    have hD70 : DiskAt w70 b ms mf M := hD.fr (hR.fr.trans' st70.fr) (by simp)
    have hb70 := h1.fr st70.fr (by simp)
    have hrd := lread_c (behind := (H : Int)) (cs := [_, _]) hb70 hD70 (endAt F s) (by omega) (by omega)
    have eH : ((H : Int)).toNat = H := by omega
    rw [eH] at hrd
    refine hrd.mono ?_
    rintro e w73 ⟨f73, hnone, hsome⟩
    have z73 := f73.size
    have f6573 : Fr [] w65 w73 := st70.fr.trans' f73
    cases hrec : recAt M.now (endAt F s) H with
    | none =>
      rw [hrec] at hs
      simp only [List.append_nil] at hs
      obtain rfl := hnone hrec
      exact ⟨_, _, _, _, _, rfl, fun k79 y80 hy80 => bT rfl fun w128 st128 => hy80 _ _ (bT rfl (fin s rs p l c w128 (hR.step (f6573.trans' st128.fr)) hS hs))⟩
    | some x =>
      obtain ⟨seq, data⟩ := x
      rw [hrec] at hs
      simp only at hs
      obtain ⟨p75, c77, rfl, hdat⟩ := hsome seq data hrec
      obtain ⟨q1, q2, q3, q4⟩ : 1 ≤ seq ∧ seq ≤ 4611686018427387904 ∧ data.size ≤ 4000 ∧ endAt F s + 1 + secs data.size ≤ H := by
        rcases recAt_some hrec with h | h
        · exact h
        · exact h.elim
      refine ⟨_, _, _, _, _, rfl, fun k79 y80 hy80 => bF rfl ?_⟩
      have stop : ∀ w82, Step w73 w82 [] [k79] → ¬ ((prevOf s).getD (seq - 1) + 1 = seq) → y80 true w82 := fun w82 st82 hne => by
        rw [if_neg hne, List.append_nil] at hs
        exact hy80 _ _ (bT rfl (fin s rs p l c w82 (hR.step (f6573.trans' st82.fr)) hS hs))
      have go : ∀ w82, Step w73 w82 [] [k79] → (prevOf s).getD (seq - 1) + 1 = seq → y80 false w82 := fun w82 st82 heq => by
        rw [if_pos heq] at hs
        refine hy80 _ _ (bF rfl fun k83 => ?_)
        clear hy80 stop
        have n79 := g_new1 st82
        have hR82 := hR.step (f6573.trans' st82.fr)
        have hlt75 : ∀ x ∈ pb p75, w70.heap.size ≤ x ∧ x < w73.heap.size := fun x hx => by
          rw [g_mem_pb] at hx
          obtain ⟨ad, ha, rfl⟩ := hx
          exact hdat.lt ha
        have hplt : ∀ ad, p = some ad → ad.block < w70.heap.size := fun ad ha => by have := (hR.recs.own.lt ha).2; omega
        have hhlt : ∀ hp' hc', w82.cell? ⟨k4, 5, none⟩ = some (.slice hp' s.length hc') → ∀ x ∈ pb hp', x < w70.heap.size := fun hp' hc' hcell x hx => by
          have h82 := (h1.fr (f6573.trans' st82.fr) (by simp)).cell 5
          rw [h82] at hcell
          simp [lcells] at hcell
          obtain ⟨e1, _⟩ := hcell
          subst e1
          rw [g_mem_pb] at hx
          obtain ⟨ad, ha, rfl⟩ := hx
          have := (h2.lt ha).2
          omega
        have hSl := hS.l
        refine round_c hR82 (B := w70.heap.size) (seq := seq) (hdat.fr st82.fr (fun ad _ => by simp)) (by have := hR.fr.size; omega) (fun hm => by have := (hlt75 _ hm).1; omega) (fun x hx hm => ?_) (fun x hx => (hlt75 x hx).1) hplt (by omega) hhlt ⟨by have := hR.fr.size; omega, n79.2, by omega, fun hm => ?_, fun hp' hc' hcell hm => ?_⟩ (by omega) q2 q3 (by omega) fun p85 c87 w103 hR103 => ?_
        · rw [g_mem_pb] at hm
          obtain ⟨ad, ha, rfl⟩ := hm
          have := hplt ad ha
          have := (hlt75 _ hx).1
          omega
        · rw [g_mem_pb] at hm
          obtain ⟨ad, ha, e⟩ := hm
          have := hplt ad ha
          omega
        · have := hhlt hp' hc' hcell _ hm
          omega
        · have hS' := hS.snoc hrec
          have ee : endAt F (s ++ [(endAt F s, seq, data)]) = endAt F s + 1 + secs data.size := endAt_snoc _ _ _
          refine ⟨H - endAt F (s ++ [(endAt F s, seq, data)]), by rw [ee]; omega, _, _, fu, hR103, hS', ?_, by rw [ee]; omega, rfl⟩
          rw [hs, prevOf_snoc, ee, List.append_assoc]; rfl
      clear hy80
      subst hl
      refine ⟨fun hpos => ?_, fun hz w133 st133 => ?_⟩
      · have hpos : (0 : Int) < (s.length : Int) := of_decide_eq_true hpos
        have hne : s ≠ [] := fun h => by rw [h] at hpos; simp at hpos
        have hprev : (prevOf s).getD (seq - 1) + 1 = nextAt s := by
          unfold prevOf
          rw [if_neg hne]
          have := hS.n1
          show nextAt s - 1 + 1 = nextAt s
          omega
        refine ⟨_, (h1.fr f6573 (by simp)).cell 4, fun w131 st131 => ?_⟩
        by_cases hq : seq = nextAt s
        · have : (!decide (((seq : Nat) : Int) = ((nextAt s : Nat) : Int))) = false := by simp [hq]
          rw [this]
          exact go w131 st131 (by rw [hprev, hq])
        · have : (!decide (((seq : Nat) : Int) = ((nextAt s : Nat) : Int))) = true := by
            have : ¬ ((seq : Nat) : Int) = ((nextAt s : Nat) : Int) := by omega
            simp [this]
          rw [this]
          exact stop w131 st131 (by rw [hprev]; exact fun h => hq h.symm)
      · have hz : ¬ (0 : Int) < (s.length : Int) := of_decide_eq_false hz
        have hnil : s = [] := List.length_eq_zero_iff.1 (by omega)
        refine go w133 st133 ?_
        rw [hnil]
        show seq - 1 + 1 = seq
        omega
  clear hy1
  refine ⟨fun h => bad (.inl (of_decide_eq_true h)), fun h => ⟨fun h2 => bad (.inr (.inl (of_decide_eq_true h2))), fun h2 => (size_c hD).mono ?_⟩⟩
  have h : ¬ first < 0 := of_decide_eq_false h
  have h2 : ¬ count < 2 := of_decide_eq_false h2
  rintro e w140 ⟨rfl, rfl⟩
  refine ⟨_, rfl, fun h3 => bad (.inr (.inr (.inl (of_decide_eq_true h3)))), fun h3 => (size_c hD).mono ?_⟩
  have h3 : ¬ M.n < first := of_decide_eq_false h3
  rintro e w143 ⟨rfl, rfl⟩
  refine ⟨_, rfl, ?_⟩
  rw [wrapi (by omega) (by omega)]
  by_cases h4 : M.n - first < count
  · rw [decide_eq_true h4]; exact bad (.inr (.inr (.inr h4)))
  · rw [decide_eq_false h4]
    exact good (fun hb => by rcases hb with hb | hb | hb | hb; exact h hb; exact h2 hb; exact h3 hb; exact h4 hb)

end Go.Proofs.Ytcaamecdhbgknaa.Log
