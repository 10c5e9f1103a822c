/- Dred: DredBack. -/
import Derived.Test.YtnplopiconabiaaXU
import Derived.Test.YtnplopiconabiaaL9
namespace Go.Proofs.Ytnplopiconabiaa.Dred
open Go Go.V
open Go.Proofs.Ytnplopiconabiaa.VC
open Go.Proofs.Ytnplopiconabiaa.Span
open Go.Proofs.Try (prog)
set_option linter.unusedVariables false
set_option linter.unusedSimpArgs false
set_option maxRecDepth 20000

/-- A dred that was made behind world u. -/
structure DS (u w : World) (d : Nat) (lab : ByteArray) (e s : Nat) (be bs : List Nat) (E S : List PI) : Prop where
  at' : DAt w d lab e s be bs E S
  tc : IsTC E S
  small : S.length ≤ 4000
  low : ∀ x ∈ d :: be ++ bs, u.heap.size ≤ x
  fr : Fr [] u w
/-- The dred's blocks lie outside of [lo, hi). -/
def Clear (d : Nat) (be bs : List Nat) (lo hi : Nat) : Prop := ∀ x ∈ d :: be ++ bs, x < lo ∨ hi ≤ x
theorem Clear.grow {w : World} {d : Nat} {be bs be' bs' : List Nat} {lo hi : Nat} (h : Clear d be bs lo hi) (g1 : Grow w be be') (g2 : Grow w bs bs') (hh : hi ≤ w.heap.size) : Clear d be' bs' lo hi := fun x hx => by
  rcases List.mem_append.1 hx with hx | hx
  · rcases List.mem_cons.1 hx with rfl | hx
    · exact h _ (by simp)
    · rcases g1 x hx with h1 | h1
      · exact h x (by simp [h1])
      · exact .inr (by omega)
  · rcases g2 x hx with h1 | h1
    · exact h x (by simp [h1])
    · exact .inr (by omega)
theorem DS.clear {u w : World} {d e s : Nat} {lab : ByteArray} {be bs : List Nat} {E S : List PI} (h : DS u w d lab e s be bs E S) {hi : Nat} : Clear d be bs w.heap.size hi := fun x hx => by
  refine .inl ?_
  rcases List.mem_append.1 hx with hx | hx
  · rcases List.mem_cons.1 hx with rfl | hx
    · exact h.at'.dlt
    · exact h.at'.er.lt x hx
  · exact h.at'.sr.lt x hx
theorem DS.old {u v w : World} {d e s : Nat} {lab : ByteArray} {be bs : List Nat} {E S : List PI} (h : DS u v d lab e s be bs E S) (f : Fr [] v w) : DS u w d lab e s be bs E S := ⟨h.at'.old f, h.tc, h.small, h.low, h.fr.trans' f⟩
theorem DS.step {u w w' : World} {d e s : Nat} {lab : ByteArray} {be bs : List Nat} {E S L : List PI} (h : DS u w d lab e s be bs E S) {add : Bool} {code : Int} {pA pD : Option Addr} {ZA ZD : List ZP} {be' bs' : List Nat} {E1 S1 : List PI} (f : Fr (d :: be ++ bs) w w') (hd : DoSaid w w' d lab e s be bs E S L add code pA pD ZA ZD be' bs' E1 S1) : DS u w' d lab e s be' bs' E1 S1 := by
  have zu := h.fr.size
  refine ⟨hd.at', hd.tc, hd.small, fun x hx => ?_, h.fr.trans f fun x hx => .inr (h.low x hx)⟩
  rcases List.mem_append.1 hx with hx | hx
  · rcases List.mem_cons.1 hx with rfl | hx
    · exact h.low _ (by simp)
    · rcases hd.gbe x hx with h1 | h1
      · exact h.low x (by simp [h1])
      · omega
  · rcases hd.gbs x hx with h1 | h1
    · exact h.low x (by simp [h1])
    · omega
/-- Do, on a dred that was made behind world u. -/
theorem do_s {u w : World} {d e s : Nat} {lab : ByteArray} {be bs : List Nat} {E S : List PI} (h : DS u w d lab e s be bs E S) (hE : E.length ≤ 5000) {eA : Option Addr} {eC : Nat} {D : List EG} (hD : Row w eA (D.flatMap gcell)) (hDl : D.length ≤ 200) (hR : ∀ x ∈ D, inR x.f ∧ inR x.t) (add : Bool) (h60 : add = false → (labP D lab).length ≤ 60) :
    Calls prog 30 #[ptr d, .slice eA D.length eC, .bool add] w fun e' w' => ∃ (code : Int) (pA pD : Option Addr) (ZA ZD : List ZP) (be' bs' : List Nat) (E1 S1 : List PI), e' = .returned (.tuple #[.agg #[sl pA ZA.length ZA.length, sl pD ZD.length ZD.length], I64 code]) ∧ DoSaid w w' d lab e s be bs E S (labP D lab) add code pA pD ZA ZD be' bs' E1 S1 ∧ DS u w' d lab e s be' bs' E1 S1 ∧ Fr (d :: be ++ bs) w w' := by
  refine (do_c (eC := eC) h.at' h.tc h.small hE hD hDl hR add h60).mono ?_
  rintro e' w' ⟨f, code, pA, pD, ZA, ZD, be', bs', E1, S1, rfl, hd⟩
  exact ⟨code, pA, pD, ZA, ZD, be', bs', E1, S1, rfl, hd, h.step f hd, f⟩
theorem tc_len {E S : List PI} (hn : S.Nodup) (h : ∀ x ∈ S, TC E x.1 x.2) : S.length ≤ E.length * E.length := by
  have h2 := sub_len hn (l' := E.flatMap fun e => E.map fun e' => ((e.1, e'.2) : PI)) (fun x hx => by
    have hr := h x hx
    obtain ⟨y, r, h1⟩ := List.exists_cons_of_ne_nil hr.first
    have m1 : ((x.1, y) : PI) ∈ E := mem_succE.1 (show y ∈ succE E x.1 by rw [h1]; simp)
    obtain ⟨z, hz⟩ := hr.last
    have m2 : ((z, x.2) : PI) ∈ E := mem_succE.1 hz
    exact List.mem_flatMap.2 ⟨_, m1, List.mem_map.2 ⟨_, m2, rfl⟩⟩)
  refine Nat.le_trans h2 ?_
  rw [List.length_flatMap]
  simp only [List.length_map]
  have : ∀ l : List PI, (l.map fun _ => E.length).sum = l.length * E.length := fun l => by
    induction l with
    | nil => simp
    | cons a l ih => rw [List.map_cons, List.sum_cons, ih, List.length_cons, Nat.succ_mul]; omega
  rw [this]; exact Nat.le_refl _
theorem set_len {Z : List ZP} {S : List PI} (h : (Z.map (·.2)).Pairwise plt) (hs : ∀ x ∈ Z.map (·.2), x ∈ S) : Z.length ≤ S.length := by
  have := sub_len (nodup_plt h) hs
  rwa [List.length_map] at this

set_option maxHeartbeats 2000000 in
theorem back_walk {w : World} {eA mA : Option Addr} {eC mC : Nat} {D M : List EG} (hD : Row w eA (D.flatMap gcell)) (hM : Row w mA (M.flatMap gcell)) (hR : ∀ x ∈ D, inR x.f ∧ inR x.t) (hRM : ∀ x ∈ M, inR x.f ∧ inR x.t) (hDl : D.length ≤ 140737488355328) (hMl : M.length ≤ 140737488355328) :
    Calls prog 9 #[.slice eA D.length eC, .slice mA M.length mC] w fun e w' => e = .returned (.bool true) ∧ Fr [] w w' := by
  refine rhizomelaw14_DredBack.link fun y1 h1 => (awakeD_c w).mono ?_
  rintro e87 w88 ⟨rfl, f88⟩
  refine ⟨_, rfl, bF rfl fun k90 w91 s91 b91 => ?_⟩
  have F91 := f88.trans' s91.fr
  have b91 : Blk w91 k90 (([(mA, mC, M, false)] : List OpM).flatMap ocell) := b91
  have r91 : Row w91 (some ⟨k90, 0, none⟩) (([(mA, mC, M, false)] : List OpM).flatMap ocell) := Row.of_blk (off := 0) b91 (fun j u hj => by rw [Nat.zero_add]; exact hj) (fun u hu => by
    obtain ⟨o, _, ho⟩ := List.mem_flatMap.1 hu
    exact flatO.2 o u ho)
  have c27 := few_c (lab := labA) (eA := eA) (eL := D.length) (eC := eC) (sC := 1) r91 (fun o ho => by rw [List.mem_singleton.1 ho]; exact hMl) hDl (by simp)
  refine c27.mono ?_
  rintro e94 w95 ⟨⟨bb, rfl, hbb⟩, rfl⟩
  refine ⟨bb, rfl, ?_⟩
  cases bb with
  | false =>
    refine h1 _ _ (bT rfl ((awakeD_c w95).mono ?_))
    rintro e4 w5 ⟨rfl, f5⟩
    exact ⟨_, rfl, rfl, F91.trans' f5⟩
  | true =>
  obtain ⟨h20, _, h40⟩ := hbb rfl
  have h40 : D.length + M.length ≤ 40 := by simpa [sumO] using h40
  refine h1 _ _ (bF rfl ?_)
  clear h1 hbb c27 r91 b91
  refine (new_c (lab := labA) (eC := eC) (hD.old F91) (by omega) hR labA_ok (tc_few' (by omega))).mono ?_
  rintro e7 w8 ⟨f8, d, e, s, be, bs, E, S, rfl, h8, hE, htc, hS4, lowbe, lowbs, lowd, hEl⟩
  refine ⟨_, _, rfl, fun y11 h11 => bF rfl (h11 _ _ (bF rfl ?_))⟩
  clear h11
  have F8 := F91.trans' f8
  have ds8 : DS w w8 d labA e s be bs E S := ⟨h8, htc, hS4, fun x hx => by
    have := F91.size
    rcases List.mem_append.1 hx with hx | hx
    · rcases List.mem_cons.1 hx with rfl | hx
      · omega
      · have := lowbe x hx; omega
    · have := lowbs x hx; omega, F8⟩
  have hLl : (labP M labA).length ≤ M.length := labP_len M labA
  refine ⟨fun m n w' => ∃ (i : Nat) (be bs : List Nat) (E S : List PI), n = i ∧ i ≤ 2 ∧ m = 2 - i ∧ DS w w' d labA e s be bs E S ∧ E.length ≤ 20, 2, ⟨0, be, bs, E, S, rfl, by omega, rfl, ds8, by omega⟩, ?_⟩
  clear ds8 h8 hE htc hS4 lowbe lowbs lowd hEl
  rintro m16 n17 w18 ⟨i, be, bs, E, S, rfl, hi, rfl, ds, hE20⟩
  refine bc (fun hlt => ?_) fun hge => ⟨rfl, ds.fr⟩
  have hlt : (i : Int) < 2 := of_decide_eq_true hlt
  have hlt' : i < 2 := by omega
  obtain ⟨b20, hb20⟩ : ∃ b20 : Bool, (Array.mk (spl (spl [Value.bool false, Value.bool false] 0 [Value.bool true]) 1 [Value.bool false]))[Int.toNat (i : Int) * 1]? = some (Value.bool b20) := by
    rcases (show i = 0 ∨ i = 1 by omega) with rfl | rfl
    · exact ⟨true, rfl⟩
    · exact ⟨false, rfl⟩
  refine ⟨⟨by omega, hlt⟩, b20, hb20, (read_c ds.at' (by have := ds.small; omega)).mono ?_⟩
  rintro e21 w22 ⟨f22, p23, Z0, rfl, set0, hZ0, in0⟩
  have ds22 := ds.old f22
  have cl0 : Clear d be bs w18.heap.size w22.heap.size := ds.clear
  have hZ0l := set_len set0.sort fun x hx => (hZ0 x).1 hx
  refine ⟨_, _, _, rfl, ?_⟩
  have cdo := do_s (eC := mC) ds22 (by omega) (hM.old ds22.fr) (by omega) hRM b20 (fun _ => by omega)
  refine cdo.mono ?_
  rintro e26 w27 ⟨code, pA, pD, ZA, ZD, be1, bs1, E1, S1, rfl, hd, ds27, f27⟩
  have set27 : SetAt w27 p23 Z0 := set0.fr f27 (in0.out cl0)
  have cl1 : Clear d be1 bs1 w18.heap.size w22.heap.size := cl0.grow hd.gbe hd.gbs (Nat.le_refl _)
  have z22 := f22.size
  have z27 := f27.size
  refine ⟨_, _, _, _, _, _, _, rfl, fun k35 y36 h36 => ?_⟩
  -- the span is read again
  have fin : ∀ (w37 : World) (be2 bs2 : List Nat) (E2 S2 : List PI), DS w w37 d labA e s be2 bs2 E2 S2 → (∀ q, q ∈ S2 ↔ q ∈ S) → E2.length ≤ 20 → SetAt w37 p23 Z0 → y36 w37 := fun w37 be2 bs2 E2 S2 ds2 hS2 hE2 set2 => h36 _ ((read_c ds2.at' (by have := ds2.small; omega)).mono fun e38 w39 h => by
    obtain ⟨f39, p40, Y, rfl, setY, hY, inY⟩ := h
    refine ⟨_, _, _, rfl, ?_⟩
    have set3 := set2.old f39
    have hYl := set_len setY.sort fun x hx => (hY x).1 hx
    have hsm := ds2.small
    refine (same_c setY.row setY.tups set3.row set3.tups (by omega)).mono ?_
    rintro e43 w44 ⟨rfl, f44⟩
    rw [decide_eq_true (plt_ext setY.sort set3.sort fun x => by rw [hY, hZ0, hS2])]
    exact ⟨_, rfl, bF rfl ⟨2 - (i + 1), by omega, i + 1, be2, bs2, E2, S2, by rw [wrapi (by omega) (by omega)]; simp, by omega, rfl, (ds2.old f39).old f44, hE2⟩⟩)
  have hEn := ds.at'.er.nodup
  rcases hd.said with ⟨rfl, hok, hE1, hA, hDD, hsup, hsub⟩ | ⟨hc, hZA, hZD, hE1, hS1, _⟩
  · -- and back
    refine bT rfl fun w49 s49 => ?_
    have n49 := g_new1 s49
    have ds49 := ds27.old s49.fr
    have hE1l : E1.length ≤ 60 := by have := hd.elen; omega
    have hE1M : (E1 ++ labP M labA).length ≤ 60 ∨ b20 = true := by
      cases hb : b20 with
      | true => exact .inr rfl
      | false =>
        refine .inl ?_
        have := sub_len ds27.at'.er.nodup (l' := E) fun q hq => by
          have := (hE1 q).1 hq
          rw [hb] at this
          simpa using this.1
        rw [List.length_append]; omega
    have cdo2 := do_s (eC := mC) ds49 (by omega) (hM.old ds49.fr) (by omega) hRM (!b20) (fun _ => by omega)
    refine cdo2.mono ?_
    rintro e51 w52 ⟨code2, pA2, pD2, ZA2, ZD2, be2, bs2, E2, S2, rfl, hd2, ds52, f52⟩
    have hk35 : k35 ∉ d :: be1 ++ bs1 := fun hx => by
      have := hd.at'.new n49.1
      rcases List.mem_append.1 hx with hx | hx
      · rcases List.mem_cons.1 hx with hx | hx
        · exact this.1 hx
        · exact this.2.1 hx
      · exact this.2.2 hx
    have z49 := s49.fr.size
    have z52 := f52.size
    refine ⟨_, _, _, _, _, _, _, rfl, g_keep f52 (fun x hx => by rw [List.mem_singleton.1 hx]; exact ⟨n49.2, hk35⟩), fun k60 y61 h61 => ?_⟩
    have hok2 : Okay (!b20) E1 (labP M labA) := ⟨hok.1, fun p hp => by
      rw [hE1]
      cases b20 with
      | true => simp [hp]
      | false => simp [hp]⟩
    rcases hd2.said with ⟨rfl, _, hE2, hA2, hD2, _, _⟩ | ⟨_, _, _, _, _, hno | ⟨_, hb, E3, S3, hE3, hS3, hn3, h3⟩⟩
    rotate_left
    · exact absurd hok2 hno
    · exfalso
      have hb20f : b20 = false := by simpa using hb
      have h1 := tc_len (E := E1 ++ labP M labA) hn3 fun x hx => TC.mono (fun q hq => List.mem_append.2 (hE3 q hq)) ((hS3 x).1 hx)
      have h2 : (E1 ++ labP M labA).length ≤ 60 := hE1M.resolve_right (by rw [hb20f]; simp)
      have := Nat.mul_le_mul h2 h2
      omega
    have hE2E : ∀ q, q ∈ E2 ↔ q ∈ E := fun q => by
      rw [hE2]
      cases hb : b20 with
      | true =>
        rw [hb] at hE1 hok
        simp only [Bool.not_true, Bool.false_eq_true, if_false, hE1, if_true]
        constructor
        · rintro ⟨h1 | h1, h2⟩
          · exact h1
          · exact absurd h1 h2
        · intro h1
          exact ⟨.inl h1, fun h2 => by have := (hok.2 q h2).1 h1; cases this⟩
      | false =>
        rw [hb] at hE1 hok
        simp only [Bool.not_false, if_true, hE1, Bool.false_eq_true, if_false]
        constructor
        · rintro (h1 | h1)
          · exact h1.1
          · exact (hok.2 q h1).2 rfl
        · intro h1
          by_cases h2 : q ∈ labP M labA
          · exact .inr h2
          · exact .inl ⟨h1, h2⟩
    have hS2S : ∀ q, q ∈ S2 ↔ q ∈ S := fun q => by rw [ds52.tc, ds.tc]; exact ⟨TC.mono fun p hp => (hE2E p).1 hp, TC.mono fun p hp => (hE2E p).2 hp⟩
    have hE2l : E2.length ≤ 20 := Nat.le_trans (sub_len ds52.at'.er.nodup fun q hq => (hE2E q).1 hq) hE20
    have hsS := ds.small
    have hs1 := ds27.small
    have hs2 := ds52.small
    have lA : ZA.length ≤ 4000 := Nat.le_trans (set_len hd.setA.sort fun x hx => ((hA x).1 hx).2.1) hs1
    have lD : ZD.length ≤ 4000 := Nat.le_trans (set_len hd.setD.sort fun x hx => ((hDD x).1 hx).2.1) hsS
    have lA2 : ZA2.length ≤ 4000 := Nat.le_trans (set_len hd2.setA.sort fun x hx => ((hA2 x).1 hx).2.1) hs2
    have lD2 : ZD2.length ≤ 4000 := Nat.le_trans (set_len hd2.setD.sort fun x hx => ((hD2 x).1 hx).2.1) hs1
    refine bF rfl fun w68 s68 => ?_
    have n68 := g_new1 s68
    have f4968 : Fr (d :: be1 ++ bs1) w27 w68 := ((s49.fr.mono (G := d :: be1 ++ bs1) fun x hx => by cases hx).trans' f52).trans s68.fr (fun x hx => by cases hx)
    have sA : SetAt w68 pA ZA := hd.setA.fr f4968 hd.outA
    have sD : SetAt w68 pD ZD := hd.setD.fr f4968 hd.outD
    have z68 := s68.fr.size
    refine (back_c (cA := ZA.length) (cD := ZD.length) sA sD (by omega) (by omega)).mono ?_
    rintro e70 w71 ⟨f71, p72, p75, c74, c77, Y, Y', rfl, sY, sY', eY, eY'⟩
    have z71 := f71.size
    refine ⟨_, _, _, _, _, _, rfl, keepF f71 (fun x hx => ?_), ?_⟩
    · rcases List.mem_cons.1 hx with rfl | hx
      · omega
      · rw [List.mem_singleton.1 hx]; omega
    have sA2 : SetAt w71 pA2 ZA2 := (hd2.setA.old s68.fr).old f71
    have sD2 : SetAt w71 pD2 ZD2 := (hd2.setD.old s68.fr).old f71
    have q1 : ZA2.map (·.2) = Y.map (·.2) := by
      rw [eY]
      refine plt_ext hd2.setA.sort hd.setD.sort fun x => ?_
      rw [hA2, hDD, hS2S]
      cases b20 <;> simp
    have q2 : ZD2.map (·.2) = Y'.map (·.2) := by
      rw [eY']
      refine plt_ext hd2.setD.sort hd.setA.sort fun x => ?_
      rw [hD2, hA, hS2S]
      cases b20 <;> simp
    refine (sameD_c (cA := ZA2.length) (cD := ZD2.length) (cA' := c74) (cD' := c77) sA2 sD2 sY sY' (by omega) (by omega) q1 q2).mono ?_
    rintro e78 w79 ⟨rfl, f79⟩
    have f5279 := s68.fr.trans' (f71.trans' f79)
    refine ⟨_, rfl, keepF f79 (fun x hx => ?_), h61 _ _ (bF rfl (fin w79 be2 bs2 E2 S2 (ds52.old f5279) hS2S hE2l ?_))⟩
    · rcases List.mem_cons.1 hx with rfl | hx
      · omega
      · rw [List.mem_singleton.1 hx]; omega
    · exact (((set27.old s49.fr).fr f52 (in0.out cl1)).old f5279)
  · refine bF (decide_eq_false hc) fun w81 s81 => fin w81 be1 bs1 E1 S1 (ds27.old s81.fr) hS1 ?_ (set27.old s81.fr)
    exact Nat.le_trans (sub_len ds27.at'.er.nodup fun q hq => (hE1 q).1 hq) hE20
end Go.Proofs.Ytnplopiconabiaa.Dred
