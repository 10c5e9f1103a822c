/- The disk: a crash. -/
import Derived.Test.YtcaamecdhbgknaaD6
namespace Go.Proofs.Ytcaamecdhbgknaa.Disk
open Go Go.V
open Go.Proofs.Ytcaamecdhbgknaa.VC
open Go.Proofs.Try (prog)
set_option linter.unusedVariables false
set_option linter.unusedSimpArgs false
set_option maxRecDepth 20000

/-- A big row's store. -/
theorem store_big {w : World} {k : Nat} {cs xs : List Value} {Q : World → Prop} (hb : Blk w k cs) (hx : xs.length = 64) (hc : cs.length = 64) (h1 : ∀ x ∈ xs, x.oneCell' = true) (h : ∀ w', Upd w w' k xs → Q w') :
    ∃ l : List Value, Value.agg xs.toArray = .agg l.toArray ∧ l.length = 64 ∧ (∀ x ∈ l, x.oneCell' = true) ∧ ∃ l2 : List Value, Blk w k l2 ∧ Addr.spot ⟨0, 0, none⟩ = none ∧ 0 + l.length ≤ l2.length ∧ ∀ w', Upd w w' k (sets l2 0 l) → Q w' :=
  ⟨xs, rfl, hx, h1, cs, hb, rfl, by omega, fun w' hu => h w' (by rw [sets0 (by omega)] at hu; exact hu)⟩

theorem crash_c {w : World} {b ms mf : Nat} {M : DM} (h : DiskAt w b ms mf M) {keepA : Option Addr} {keepC : Nat} {keep : List Bool} (hkeep : Row w keepA (keep.map .bool)) (torn cut : Int) :
    Calls prog 28 #[D b, .slice keepA keep.length keepC, I64 torn, I64 cut] w fun e w' => ∃ b' ms' mf', e = .returned (D b') ∧ (∀ x ∈ [b', ms', mf'], w.heap.size ≤ x) ∧ Fr [] w w' ∧ DiskAt w' b' ms' mf' (M.crash keep torn cut) := by
  obtain ⟨lf, hbk, hl⟩ := h.blk
  obtain ⟨l1, g1, s1⟩ := h.sure
  obtain ⟨l2, g2, s2⟩ := h.fresh
  obtain ⟨hb1, hb2, hblt, hmslt, hmflt⟩ := h.bs
  have hz64 : (reps [Value.int .u8 0] 64).length = 64 := by rw [reps_length]; rfl
  have hhi := h.ok.hi
  have hul := M.unsure_len
  refine disk_Disk_Crash.link fun y1 hy1 => ?_
  -- the new disk is made
  have start : ∀ (kc kf ko : Nat) (w3 : World), w.heap.size ≤ kc → w.heap.size ≤ kf → w.heap.size ≤ ko → kc ≠ kf → kc ≠ ko → kf ≠ ko → Fr [] w w3 → MapG kenc w3 kc l1 → MapG kenc w3 kf [] → Blk w3 ko [I64 M.n, .map (some kc), .map (some kf), I64 0, .bool false, I64 0] → y1 ⟨ko, 0, none⟩ w3 := by
    intro kc kf ko w3 zc zf zo ne1 ne2 ne3 f3 gc gf gb
    refine hy1 _ _ ((unsure_c (h.fr f3 (fun x _ => by simp))).mono ?_)
    rintro e w5 ⟨p, c, rfl, f5, hrow, hpn⟩
    have z35 := f5.size
    have z03 := f3.size
    -- a round
    let I : Nat → Int → World → Prop := fun m n w' => ∃ k : Nat, n = k ∧ k ≤ M.unsure.length ∧ m = M.unsure.length - k ∧ Fr [kc] w5 w' ∧ ∃ l, MapG kenc w' kc l ∧ (∀ i, i < M.sure.length → Holds l i (M.left1 keep torn cut k i)) ∧ ∀ q ∈ l, 0 ≤ q.1 ∧ q.1 < M.n
    refine ⟨p, _, c, rfl, I, M.unsure.length, ⟨0, rfl, Nat.zero_le _, rfl, Fr.refl _ _, l1, gc.fr f5 (by simp), fun i hi => ?_, s1.2⟩, fun m n w13 hI => ?_⟩
    · unfold DM.left1
      rw [if_neg (by omega)]
      exact s1.1 i _ (h.ok.sureAt hi).1
    obtain ⟨k, rfl, hk, rfl, f13, l, gl, hl', hq⟩ := hI
    have f013 : Fr [] w w13 := (f3.trans f5 (fun x hx => by cases hx)).trans f13 (fun x hx => .inr (by simp at hx; omega))
    have z13 := f13.size
    refine ⟨fun hlt => ?_, fun hge => ?_⟩
    · have hlt : (k : Int) < (M.unsure.length : Int) := of_decide_eq_true hlt
      have hlt : k < M.unsure.length := by omega
      obtain ⟨u, hu⟩ : ∃ u, M.unsure[k]? = some u := ⟨_, List.getElem?_eq_getElem hlt⟩
      obtain ⟨i, rfl, hi, hfr, hrk⟩ := DM.unsure_get hu
      have hrow13 : Row w13 p (M.unsure.map I64) := Row.fr f13 hrow (fun ad hp hm => by
        have := hpn ad hp
        have h3 := gc.lt
        simp at hm; omega)
      have hnext : IntKind.wrap .i64 ((k : Int) + 1) = ((k + 1 : Nat) : Int) := by rw [wrapi (by omega) (by omega)]; simp
      intro y15 hy15
      obtain ⟨ad20, had⟩ := hrow13.has (by simp; omega)
      refine ⟨ad20, had, ⟨by omega, by omega⟩, (i : Int), ?_, ?_⟩
      · have := hrow13.get had (j := k) (u := I64 (i : Int)) (by rw [List.getElem?_map, hu]; rfl)
        simpa using this
      -- behind the two loads
      intro y22 hy22
      obtain ⟨hnw, hnw64⟩ := h.ok.nowAt hi
      obtain ⟨hsr, hsr64⟩ := h.ok.sureAt hi
      have hnl : (byteCells (M.nowAt i)).length = 64 := by rw [byteCells_length, hnw64]
      have hsl : (byteCells (M.sureAt i)).length = 64 := by rw [byteCells_length, hsr64]
      have hD13 := h.fr f013 (fun x _ => by simp)
      -- what the round leaves where it keeps a sector s'
      have store : ∀ (kb : Nat) (s' : ByteArray) (w27 : World), w13.heap.size ≤ kb → Fr [] w13 w27 → Blk w27 kb (byteCells s') → s'.size = 64 → s' = M.pick keep torn cut k i →
          ∃ (p28 : Option Nat), World.cell? w27 ⟨ko, 1, none⟩ = some (Value.map p28) ∧ ∃ (l29 : List Value), l29.length = 64 ∧ (∀ k30, k30 < 64 → World.cell? w27 ((⟨kb, 0, none⟩ : Addr).add k30) = l29[k30]?) ∧
            ∀ w32, Step w27 w32 [] [] → ∃ (k34 : Nat) (l35 : List (Int × Value)), p28 = some k34 ∧ MapG kenc w32 k34 l35 ∧ ∀ w36, MUpd kenc w32 w36 k34 (updM l35 (i : Int) (.agg l29.toArray)) → y15 w36 := by
        intro kb s' w27 zb f27 hb27 h64 hpick
        have hgb27 : Blk w27 ko [I64 M.n, .map (some kc), .map (some kf), I64 0, .bool false, I64 0] := (((gb.fr f5 (by simp)).fr f13 (by simpa using ne2.symm)).fr f27 (by simp))
        have hl64 : (byteCells s').length = 64 := by rw [byteCells_length, h64]
        refine ⟨some kc, hgb27.cell 1, byteCells s', hl64, fun k30 _ => by rw [add_mk, hb27.cell, Nat.zero_add], fun w32 st => ⟨kc, l, rfl, (gl.fr f27 (by simp)).fr st.fr (by simp), fun w36 hm => hy15 _ ?_⟩⟩
        have f36 : Fr [kc] w5 w36 := ((f13.trans f27 (fun x hx => by cases hx)).trans st.fr (fun x hx => by cases hx)).trans' hm.fr
        refine ⟨M.unsure.length - (k + 1), by omega, k + 1, hnext, by omega, rfl, f36, _, hm.map, fun j hj => ?_, fun q hqm => ?_⟩
        · by_cases e : j = i
          · subst e
            left
            rw [look_updM, if_pos rfl]
            have : M.left1 keep torn cut (k + 1) j = s' := by rw [(DM.left1_eq hfr hrk).1, hpick]
            rw [this]; rfl
          · have hne : ¬ ((j : Int) = (i : Int)) := by omega
            have e2 := DM.left1_ne (keep := keep) (torn := torn) (cut := cut) hu hj e
            unfold Holds
            rw [look_updM, if_neg hne, e2]
            exact hl' j hj
        · rcases mem_updM hqm with rfl | hqm
          · exact ⟨by show (0 : Int) ≤ (i : Int); omega, by show (i : Int) < (M.sure.length : Int); omega⟩
          · exact hq q hqm
      -- where nothing is kept
      have skip : ∀ (w42 : World), Fr [] w13 w42 → M.pick keep torn cut k i = M.sureAt i → y15 w42 := by
        intro w42 f42 hpick
        refine hy15 _ ⟨M.unsure.length - (k + 1), by omega, k + 1, hnext, by omega, rfl, f13.trans f42 (fun x hx => by cases hx), l, gl.fr f42 (by simp), fun j hj => ?_, hq⟩
        have e2 : M.left1 keep torn cut (k + 1) j = M.left1 keep torn cut k j := by
          by_cases e : j = i
          · subst e
            rw [(DM.left1_eq hfr hrk).1, (DM.left1_eq hfr hrk).2, hpick]
          · exact DM.left1_ne hu hj e
        rw [e2]; exact hl' j hj
      have hkl : (clamp cut) ≤ 64 := clamp_le cut
      have leaf : ∀ (kb kw : Nat) (w25 : World), w13.heap.size ≤ kb → w13.heap.size ≤ kw → kb ≠ kw → Fr [] w13 w25 → Blk w25 kb (byteCells (M.nowAt i)) → Blk w25 kw (byteCells (M.sureAt i)) → y22 ⟨kb, 0, none⟩ ⟨kw, 0, none⟩ w25 := by
        intro kb kw w25 zb zw hne f25 hbb hbw
        refine hy22 _ _ _ fun y26 hy26 y40 hy40 => ?_
        have cell25 : ∀ k', World.cell? w25 ((⟨kb, 0, none⟩ : Addr).add k') = (byteCells (M.nowAt i))[k']? := fun k' => by rw [add_mk, hbb.cell, Nat.zero_add]
        have hcl := clamp_eq cut
        have hc0 : (0 : Int) ≤ (if 64 < (if 0 > cut then 0 else cut) then 64 else if 0 > cut then 0 else cut) ∧ (if 64 < (if 0 > cut then 0 else cut) then 64 else if 0 > cut then 0 else cut) ≤ ((64 : Nat) : Int) ∧ ((64 : Nat) : Int) ≤ ((64 : Nat) : Int) := by
          refine ⟨?_, ?_, Int.le_refl _⟩ <;> (split <;> (try split) <;> omega)
        have use : ∀ (b41 : Bool), (b41 = true ↔ keep[k]? = some true) → y40 b41 w25 := fun b41 hb41 => by
          refine hy40 _ _ ⟨fun ht => hy26 _ (store kb (M.nowAt i) w25 zb f25 hbb hnw64 ?_), fun hf => ⟨fun htn => ⟨hc0, hc0, ?_⟩, fun htn => skip w25 f25 ?_⟩⟩
          · unfold DM.pick; rw [if_pos (hb41.1 ht)]
          · have htn : (k : Int) = torn := of_decide_eq_true htn
            have hpk : tear (clamp cut) (M.nowAt i) (M.sureAt i) = M.pick keep torn cut k i := by
              unfold DM.pick; rw [if_neg (fun hc => by rw [hb41.2 hc] at hf; cases hf), if_pos htn]
            rw [hcl]
            have hdl : ((byteCells (M.sureAt i)).drop (clamp cut)).length = 64 - clamp cut := by rw [List.length_drop, hsl]
            refine ⟨(byteCells (M.sureAt i)).drop (clamp cut), by rw [hdl]; omega, ?_, (fun b hb hm => by cases hm), fun w26 st => ?_⟩
            · unfold subA
              split
              · rename_i e
                rw [List.drop_eq_nil_iff.2 (by rw [hsl]; omega)]
                exact Row.nil _ _
              · show Row w25 (some ((⟨kw, 0, none⟩ : Addr).add (clamp cut * 1))) _
                rw [Nat.mul_one, add_mk, Nat.zero_add]
                exact Row.of_blk (off := clamp cut) hbw (fun j u hj => by rw [List.getElem?_drop] at hj; exact hj) (fun u hu => byteCells_one _ u (List.mem_of_mem_drop hu))
            · by_cases e : 64 = clamp cut
              · left
                refine ⟨List.drop_eq_nil_iff.2 (by rw [hsl]; omega), ?_⟩
                refine hy26 _ (store kb (M.nowAt i) w26 zb (f25.trans st.fr (fun x hx => by cases hx)) (hbb.fr st.fr (by simp)) hnw64 ?_)
                rw [← hpk]
                apply byteCells_inj
                rw [tear_cells, List.take_of_length_le (by omega), List.drop_eq_nil_iff.2 (by rw [hsl]; omega), List.append_nil]
              · right
                refine ⟨⟨kb, clamp cut, none⟩, byteCells (M.nowAt i), ?_, rfl, hbb.fr st.fr (by simp), by rw [hdl, hnl]; show clamp cut + _ ≤ _; omega, by simp, fun w27 hu => ?_⟩
                · unfold subA
                  rw [if_neg e]
                  show some ((⟨kb, 0, none⟩ : Addr).add (clamp cut * 1)) = _
                  rw [Nat.mul_one, add_mk, Nat.zero_add]
                · have f27 : Fr [] w13 w27 := (f25.trans st.fr (fun x hx => by cases hx)).trans hu.fr (fun x hx => .inr (by simp at hx; omega))
                  refine hy26 _ (store kb (tear (clamp cut) (M.nowAt i) (M.sureAt i)) w27 zb f27 ?_ (tear_size hnw64 hsr64 hkl) hpk)
                  have hb27 := hu.blk
                  rw [sets_eq _ _ _ (by rw [hdl, hnl]; show clamp cut + (64 - clamp cut) ≤ 64; omega)] at hb27
                  have e3 : spl (byteCells (M.nowAt i)) (clamp cut) ((byteCells (M.sureAt i)).drop (clamp cut)) = byteCells (tear (clamp cut) (M.nowAt i) (M.sureAt i)) := by
                    rw [tear_cells]
                    unfold spl
                    have d0 : (byteCells (M.nowAt i)).drop (clamp cut + (64 - clamp cut)) = [] := List.drop_eq_nil_iff.2 (by rw [hnl]; omega)
                    rw [hdl, d0, List.append_nil]
                  rw [e3] at hb27
                  exact hb27
          · have htn : ¬ (k : Int) = torn := of_decide_eq_false htn
            unfold DM.pick
            rw [if_neg (fun hc => by rw [hb41.2 hc] at hf; cases hf), if_neg htn]
        refine ⟨fun hlk => ?_, fun hlk => use false ⟨(fun h => by cases h), fun hc => ?_⟩⟩
        · have hlk : (k : Int) < (keep.length : Int) := of_decide_eq_true hlk
          have hkeep25 : Row w25 keepA (keep.map .bool) := Row.fr (f013.trans f25 (fun x hx => by cases hx)) hkeep (fun ad _ => by simp)
          obtain ⟨ad47, h47⟩ := hkeep25.has (by simp; omega)
          have hg := List.getElem?_eq_getElem (l := keep) (i := k) (by omega)
          refine ⟨ad47, h47, ⟨by omega, by omega⟩, keep[k]'(by omega), ?_, use _ ⟨fun h => by rw [hg, h], fun h => by rw [hg] at h; injection h⟩⟩
          have := hkeep25.get h47 (j := k) (u := .bool (keep[k]'(by omega))) (by rw [List.getElem?_map, hg]; rfl)
          simpa using this
        · have hlk : ¬ (k : Int) < (keep.length : Int) := of_decide_eq_false hlk
          rw [List.getElem?_eq_none (by omega)] at hc
          cases hc
      -- the two loads and the four orders
      obtain ⟨t2, ht2, hlk2⟩ := s2.1 i hfr
      rw [hnw] at ht2; injection ht2 with ht2; subst ht2
      obtain ⟨lf13, hbk13, _⟩ := hD13.blk
      have hbk13 : Blk w13 b (fields M ms mf lf) := hbk.fr f013 (by simp)
      refine ⟨_, hbk13.cell 2, l2, g2.fr f013 (by simp), byteCells (M.nowAt i), hnl, ⟨true, .inl ⟨rfl, hlk2⟩⟩, _, hbk13.cell 1, l1, g1.fr f013 (by simp), byteCells (M.sureAt i), hsl, Holds.rel (s1.1 i _ hsr), ?_, ?_⟩
      · intro k59 w60 st1 hb1 k63 w64 st2 hb2
        have a1 := st1.new k59 (by simp)
        have a2 := st2.new k63 (by simp)
        have z1 := st1.size
        have z2 := st2.size
        refine store_big (hb1.fr st2.fr (by simp)) hnl hz64 (byteCells_one _) fun w71 hu1 => store_big (hb2.fr hu1.fr (by simp; omega)) hsl hz64 (byteCells_one _) fun w77 hu2 => leaf _ _ _ a1.1 (by omega) (by omega) ?_ (hu1.blk.fr hu2.fr (by simp; omega)) hu2.blk
        exact ((st1.fr.trans' st2.fr).trans hu1.fr (fun x hx => .inr (by simp at hx; omega))).trans hu2.fr (fun x hx => .inr (by simp at hx; omega))
      · intro k79 w80 st1 hb1 k83 w84 st2 hb2
        have a1 := st1.new k79 (by simp)
        have a2 := st2.new k83 (by simp)
        have z1 := st1.size
        have z2 := st2.size
        refine store_big hb2 hnl hz64 (byteCells_one _) fun w91 hu1 => store_big ((hb1.fr st2.fr (by simp)).fr hu1.fr (by simp; omega)) hsl hz64 (byteCells_one _) fun w97 hu2 => leaf _ _ _ (by omega) a1.1 (by omega) ?_ (hu1.blk.fr hu2.fr (by simp; omega)) hu2.blk
        exact ((st1.fr.trans' st2.fr).trans hu1.fr (fun x hx => .inr (by simp at hx; omega))).trans hu2.fr (fun x hx => .inr (by simp at hx; omega))
    · have hge : ¬ (k : Int) < (M.unsure.length : Int) := of_decide_eq_false hge
      have hkk : k = M.unsure.length := by omega
      subst hkk
      have hfin : ∀ i, i < M.sure.length → M.left1 keep torn cut M.unsure.length i = (M.crash keep torn cut).sureAt i := fun i hi => by
        rw [DM.crash_at M keep torn cut hi]
        unfold DM.left1
        by_cases hf : M.fresh[i]? = some true
        · have : M.rank i < M.unsure.length := (List.getElem?_eq_some_iff.1 (DM.unsure_rank hi hf)).1
          rw [if_pos ⟨hf, this⟩, if_pos hf]
        · rw [if_neg (fun hc => hf hc.1), if_neg hf]
      have hlen : (M.crash keep torn cut).sure.length = M.sure.length := by simp [DM.crash]
      refine ⟨ko, kc, kf, rfl, fun x hx => ?_, f013, h.ok.crash keep torn cut, ne1, ⟨0, ?_, fun h => by simp [DM.crash] at h⟩, ⟨l, gl, fun i s hs => ?_, fun q hq' => ?_⟩, ⟨[], (gf.fr f5 (by simp)).fr f13 (by simpa using ne1.symm), fun i hi => ?_, fun i hi => rfl, fun p hp => by cases hp⟩⟩
      · simp at hx; rcases hx with rfl | rfl | rfl <;> omega
      · have e : fields (M.crash keep torn cut) kc kf 0 = [I64 M.n, .map (some kc), .map (some kf), I64 0, .bool false, I64 0] := by
          have : (M.crash keep torn cut).n = M.n := by unfold DM.n; rw [hlen]
          show [I64 (M.crash keep torn cut).n, _, _, _, _, _] = _
          rw [this]; rfl
        rw [e]
        exact (gb.fr f5 (by simp)).fr f13 (by simpa using ne2.symm)
      · have hi : i < M.sure.length := by rw [← hlen]; exact (List.getElem?_eq_some_iff.1 hs).1
        have hh := hl' i hi
        rw [hfin i hi] at hh
        have : (M.crash keep torn cut).sureAt i = s := by
          unfold DM.sureAt
          rw [List.getD_eq_getElem?_getD, hs]; rfl
        rw [this] at hh
        exact hh
      · have : (M.crash keep torn cut).n = M.n := by unfold DM.n; rw [hlen]
        rw [this]; exact hq q hq'
      · have hi := List.mem_of_getElem? hi
        have := (List.mem_replicate.1 hi).2
        cases this
  -- first the clone, then the map
  have fin1 : ∀ w1, Fr [] w w1 → Calls prog 60 #[.map (some ms)] w1 fun e w2 => ∃ p, e = .returned (.map p) ∧ World.cell? w2 ⟨b, 0, none⟩ = some (I64 M.n) ∧
      ∀ w3 k3, Step w2 w3 [] [k3] → w3.heap[k3]? = some (Obj.map #[] 0) → ∀ k4 w4, Step w3 w4 [] [k4] → Blk w4 k4 [I64 M.n, .map p, .map (some k3), I64 0, .bool false, I64 0] → y1 ⟨k4, 0, none⟩ w4 := fun w1 f1 => by
    refine (clone_c (g1.fr f1 (by simp))).mono ?_
    rintro e w2 ⟨kc, rfl, zc, f2, gc⟩
    have f02 := f1.trans' f2
    refine ⟨_, rfl, (hbk.fr f02 (by simp)).cell 0, fun w3 k3 st3 m3 k4 w4 st4 b4 => ?_⟩
    have a3 := st3.new k3 (by simp)
    have a4 := st4.new k4 (by simp)
    have z1 := f1.size
    have z2 := f2.size
    have z3 := st3.size
    have := gc.lt
    exact start kc k3 k4 w4 (by omega) (by omega) (by omega) (by omega) (by omega) (by omega) ((f02.trans' st3.fr).trans' st4.fr) ((gc.fr st3.fr (by simp)).fr st4.fr (by simp)) ((MapG.new m3).fr st4.fr (by simp)) b4
  -- first the map, then the clone
  have fin2 : ∀ w1 k1, Step w w1 [] [k1] → w1.heap[k1]? = some (Obj.map #[] 0) → Calls prog 60 #[.map (some ms)] w1 fun e w2 => ∃ p, e = .returned (.map p) ∧ World.cell? w2 ⟨b, 0, none⟩ = some (I64 M.n) ∧
      ∀ k4 w4, Step w2 w4 [] [k4] → Blk w4 k4 [I64 M.n, .map p, .map (some k1), I64 0, .bool false, I64 0] → y1 ⟨k4, 0, none⟩ w4 := fun w1 k1 st1 m1 => by
    refine (clone_c (g1.fr st1.fr (by simp))).mono ?_
    rintro e w2 ⟨kc, rfl, zc, f2, gc⟩
    have f02 := st1.fr.trans' f2
    refine ⟨_, rfl, (hbk.fr f02 (by simp)).cell 0, fun k4 w4 st4 b4 => ?_⟩
    have a1 := st1.new k1 (by simp)
    have a4 := st4.new k4 (by simp)
    have z1 := st1.size
    have z2 := f2.size
    have := gc.lt
    exact start kc k1 k4 w4 (by omega) (by omega) (by omega) (by omega) (by omega) (by omega) (f02.trans' st4.fr) (gc.fr st4.fr (by simp)) (((MapG.new m1).fr f2 (by simp)).fr st4.fr (by simp)) b4
  refine ⟨_, hbk.cell 1, ⟨_, hbk.cell 0, fun w1 st1 => (fin1 w1 st1.fr).mono ?_, fun w1 k1 st1 m1 => (fin2 w1 k1 st1 m1).mono ?_⟩, fun w1 st1 => (fin1 w1 st1.fr).mono ?_, fun w1 k1 st1 m1 => ⟨⟨_, (hbk.fr st1.fr (by simp)).cell 0, (fin2 w1 k1 st1 m1).mono ?_⟩, (fin2 w1 k1 st1 m1).mono ?_⟩⟩
  · rintro e w2 ⟨p, rfl, hc, h3⟩; exact ⟨p, rfl, h3⟩
  · rintro e w2 ⟨p, rfl, hc, h3⟩; exact ⟨p, rfl, h3⟩
  · rintro e w2 ⟨p, rfl, hc, h3⟩; exact ⟨p, rfl, _, hc, h3⟩
  · rintro e w2 ⟨p, rfl, hc, h3⟩; exact ⟨p, rfl, h3⟩
  · rintro e w2 ⟨p, rfl, hc, h3⟩; exact ⟨p, rfl, _, hc, h3⟩

end Go.Proofs.Ytcaamecdhbgknaa.Disk
