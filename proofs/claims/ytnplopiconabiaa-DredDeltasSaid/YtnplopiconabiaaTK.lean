/- Dred: DredDeltas, the walk. -/
import Derived.Test.YtnplopiconabiaaTJ
namespace Go.Proofs.Ytnplopiconabiaa.Dred
open Go Go.V
open Go.Proofs.Ytnplopiconabiaa.VC
open Go.Proofs.Ytnplopiconabiaa.Span
open Go.Proofs.Try (prog)
set_option linter.unusedVariables false
set_option linter.unusedSimpArgs false
set_option maxRecDepth 20000

set_option maxHeartbeats 4000000 in
theorem deltas_walk {w : World} {eA sA : Option Addr} {eC sC : Nat} {D : List EG} {Z : List OpM} (hD : Row w eA (D.flatMap gcell)) (hZ : ScriptAt w sA Z) (hR : ∀ x ∈ D, inR x.f ∧ inR x.t) (hDl : D.length ≤ 140737488355328) :
    Calls prog 13 #[.slice eA D.length eC, .slice sA Z.length sC] w fun e w' => e = .returned (.bool true) ∧ Fr [] w w' := by
  refine rhizomelaw14_DredDeltas.link fun y1 h1 => (awakeD_c w).mono ?_
  rintro e99 w100 ⟨rfl, f100⟩
  have c27 := few_c (lab := labA) (eA := eA) (eL := D.length) (eC := eC) (sC := sC) (hZ.row.old f100) hZ.lens hDl hZ.len
  refine ⟨_, rfl, bF rfl (c27.mono ?_)⟩
  rintro e102 w103 ⟨⟨bb, rfl, hbb⟩, rfl⟩
  refine ⟨bb, rfl, ?_⟩
  cases bb with
  | false =>
    refine h1 _ _ (bT rfl ((awakeD_c w103).mono ?_))
    rintro e4 w5 ⟨rfl, f5⟩
    exact ⟨_, rfl, rfl, f100.trans' f5⟩
  | true =>
  obtain ⟨h20, h12, h40⟩ := hbb rfl
  refine h1 _ _ (bF rfl ?_)
  clear h1 hbb c27
  refine (new_c (lab := labA) (eC := eC) (hD.old f100) (by omega) hR labA_ok (tc_few' (by omega))).mono ?_
  rintro e7 w8 ⟨f8, d, e, s, be, bs, E, S, rfl, h8, hE, htc, hS4, lowbe, lowbs, lowd, hEl⟩
  refine ⟨_, _, rfl, fun y11 h11 => bF rfl (h11 _ _ (bF rfl ?_))⟩
  clear h11
  have F8 := f100.trans' f8
  have ds8 : DS w w8 d labA e s be bs E S := ⟨h8, htc, hS4, fun x hx => by
    have := f100.size
    rcases List.mem_append.1 hx with hx | hx
    · rcases List.mem_cons.1 hx with rfl | hx
      · omega
      · have := lowbe x hx; omega
    · have := lowbs x hx; omega, F8⟩
  refine (read_c h8 (by omega)).mono ?_
  rintro e14 w15 ⟨f15, p16, Z0, rfl, set0, hZ0, in0⟩
  refine ⟨_, _, _, rfl, fun k19 w20 s20 b20 => ?_⟩
  have n20 := g_new1 s20
  have z8 := F8.size
  have z15 := f15.size
  have z20 := s20.fr.size
  have ds15 := ds8.old f15
  have F20 := ds15.fr.trans' s20.fr
  refine ⟨D.flatMap gcell, flatG.len D, hD.old F20, ?_⟩
  have b20 : Blk w20 k19 [] := b20
  have o20 : OwnZ w20 w.heap.size 3 (some ⟨k19, 0, none⟩) ([] : List EG).length 0 (([] : List EG).flatMap gcell) := OwnZ.blk b20 rfl (by simp) (by omega)
  have st20 : St w w20 d e s be bs E S p16 Z0 w8.heap.size w15.heap.size (some ⟨k19, 0, none⟩) 0 [] :=
    ⟨ds15.old s20.fr, set0.old s20.fr, in0, z20, ds8.clear, o20, fun ad hp => by
      injection hp with hp
      subst hp
      exact ⟨fun hx => by have := ds15.lt _ hx; have : k19 < w15.heap.size := this; omega, .inr n20.1⟩⟩
  refine appN (f := gcell) flatG (ys := []) (zs := D) rfl (u := w) (B := w.heap.size) o20 F20 rfl (Nat.le_refl _) (by omega) (fun _ => rfl) (by simp) (fun ad hp => by simp) (by simp; omega) (by simp; omega) fun w24 p25 c27 F24 G24 _ o24 d24 => ?_
  have st24 := st20.edges G24 o24 d24
  rw [List.nil_append] at st24 ⊢
  refine ⟨fun m pS kS cS pY kY cY n w' => ∃ (i : Nat) (be bs : List Nat) (E S : List PI) (ZS : List ZP) (lo hi : Nat) (Y : List EG), n = (i : Int) ∧ i ≤ Z.length ∧ m = Z.length - i ∧ kS = ZS.length ∧ cS = ZS.length ∧ kY = Y.length ∧ St w w' d e s be bs E S pS ZS lo hi pY cY Y ∧ (∀ x, x ∈ ZS.map (·.2) ↔ x ∈ S) ∧ (∀ q, q ∈ E ↔ q ∈ labP Y labA) ∧ (∀ y ∈ Y, inR y.f ∧ inR y.t) ∧ Y.length ≤ 40 * (i + 1), Z.length, ⟨0, be, bs, E, S, Z0, _, _, D, rfl, by omega, rfl, rfl, rfl, rfl, st24, hZ0, hE, hR, by omega⟩, ?_⟩
  clear st24 st20 o20 o24 d24 ds15 ds8 in0 set0 h8 hE htc hS4 lowbe lowbs lowd hEl hZ0 b20 n20
  rintro m30 pS kS cS pY kY cY n37 w38 ⟨i, be, bs, E, S, ZS, lo, hi, Y, rfl, hi', rfl, rfl, rfl, rfl, st, hS, hE, hRY, hYl⟩
  have hElen : E.length ≤ 600 := by
    have h1 := sub_len st.ds.at'.er.nodup fun q hq => (hE q).1 hq
    have h2 := labP_len Y labA
    omega
  have hsm := st.ds.small
  have hZSl : ZS.length ≤ 4000 := Nat.le_trans (set_len st.set.sort fun x hx => (hS x).1 hx) hsm
  refine bc (fun hlt => ?_) fun hge => ?_
  · have hlt : (i : Int) < (Z.length : Int) := of_decide_eq_true hlt
    have hlt' : i < Z.length := by omega
    have ho := List.getElem_mem hlt'
    have hol : Z[i].2.2.1.length ≤ 40 := by have := sumO_le ho; omega
    have hoe := (hZ.edges _ ho)
    have hor := hZ.rng _ ho
    have cells : ∀ {w' : World}, Fr [] w w' → ∃ ad, sA = some ad ∧ w'.cell? (Addr.add (Addr.add ad (i * 2)) 0) = some (.slice Z[i].1 Z[i].2.2.1.length Z[i].2.1) ∧ w'.cell? (Addr.add (Addr.add ad (i * 2)) 1) = some (.bool Z[i].2.2.2) := fun f => by
      obtain ⟨ad, hp, g⟩ := (hZ.row.old f).atF flatO (by decide) hlt'
      exact ⟨ad, hp, g 0 _ rfl, g 1 _ rfl⟩
    have e0 : (i : Int).toNat * 2 = i * 2 := by omega
    have eN : IntKind.wrap .i64 ((i : Int) + 1) = ((i + 1 : Nat) : Int) := by rw [wrapi (by omega) (by omega)]; simp
    generalize hoi : Z[i] = o at *
    obtain ⟨oA, oC, oD, ob⟩ := o
    replace hol : oD.length ≤ 40 := hol
    replace hor : ∀ x ∈ oD, inR x.f ∧ inR x.t := hor
    replace hoe : Row w oA (oD.flatMap gcell) := hoe
    replace cells : ∀ {w' : World}, Fr [] w w' → ∃ ad, sA = some ad ∧ w'.cell? (Addr.add (Addr.add ad (i * 2)) 0) = some (.slice oA oD.length oC) ∧ w'.cell? (Addr.add (Addr.add ad (i * 2)) 1) = some (.bool ob) := cells
    simp only [e0, eN]
    intro y40 h40' y51 h51
    have hLl : (labP oD labA).length ≤ 60 := by have := labP_len oD labA; omega
    -- behind Do
    have behind : ∀ (k : Nat) (code : Int) (w54 : World) (pA pD : Option Addr) (ZA ZD : List ZP) (be1 bs1 : List Nat) (E1 S1 : List PI), Blk w54 k [.slice pA ZA.length ZA.length, .slice pD ZD.length ZD.length] → St w w54 d e s be1 bs1 E1 S1 pS ZS lo hi pY cY Y → SetAt w54 pA ZA → SetAt w54 pD ZD → E1.length ≤ 5000 →
        ((code = 0 ∧ Okay ob E (labP oD labA) ∧ (∀ q, q ∈ E1 ↔ if ob = true then q ∈ E ∨ q ∈ labP oD labA else q ∈ E ∧ q ∉ labP oD labA) ∧ (∀ x, x ∈ ZA.map (·.2) ↔ ob = true ∧ x ∈ S1 ∧ x ∉ S) ∧ (∀ x, x ∈ ZD.map (·.2) ↔ ob = false ∧ x ∈ S ∧ x ∉ S1) ∧ (ob = true → ∀ q ∈ S, q ∈ S1) ∧ (ob = false → ∀ q ∈ S1, q ∈ S)) ∨ (code ≠ 0 ∧ ZA = [] ∧ ZD = [] ∧ (∀ q, q ∈ E1 ↔ q ∈ E) ∧ (∀ q, q ∈ S1 ↔ q ∈ S))) →
        y51 ⟨k, 0, none⟩ code w54 := fun k code w54 pA pD ZA ZD be1 bs1 E1 S1 hb st hA hDl hE1l said => h51 _ _ _ (by
      have q0 : w54.cell? (Addr.add ⟨k, 0, none⟩ 0) = some (.slice pA ZA.length ZA.length) := by rw [add_mk, hb.cell]; rfl
      have q1 : w54.cell? (Addr.add ⟨k, 0, none⟩ 1) = some (.slice pD ZD.length ZD.length) := by rw [add_mk, hb.cell]; rfl
      rcases said with ⟨rfl, _, hE1, hA', hD', hadd, hrem⟩ | ⟨hc, rfl, rfl, hE1, hS1⟩
      rotate_left
      · refine bT (by simpa using hc) ⟨_, _, _, _, _, _, ⟨q0, q1, trivial⟩, (empty_c w54 pA pD 0 0 0 0 (by decide)).mono ?_⟩
        rintro e61 w62 ⟨rfl, f62⟩
        exact ⟨_, rfl, bF rfl (h40' _ _ _ _ _ _ _ ⟨Z.length - (i + 1), by omega, i + 1, be1, bs1, E1, S1, ZS, lo, hi, Y, rfl, by omega, rfl, rfl, rfl, rfl, st.old f62, fun x => (hS x).trans (hS1 x).symm, fun q => (hE1 q).trans (hE q), hRY, by omega⟩)⟩
      have hsm1 := st.ds.small
      have lA : ZA.length ≤ 4000 := Nat.le_trans (set_len hA.sort fun x hx => ((hA' x).1 hx).2.1) hsm1
      have lD : ZD.length ≤ 4000 := Nat.le_trans (set_len hDl.sort fun x hx => ((hD' x).1 hx).2.1) hsm
      have c35 := apply_c (cS := ZS.length) (cA := ZA.length) (cD := ZD.length) st.set hA hDl (by omega) (by omega) (by omega) (Nat.le_refl _) (Nat.le_refl _) (Nat.le_refl _) (fun x hx => fun hx2 => ((hA' x).1 hx).2.2 ((hS x).1 hx2)) (fun x hx => (hS x).2 ((hD' x).1 hx).2.1)
      refine bF rfl ⟨_, _, _, _, _, _, ⟨q0, q1, trivial⟩, c35.mono ?_⟩
      rintro e70 w71 ⟨f71, p72, ZS2, rfl, set2, hZS2, ins2⟩
      have st71 := st.sum f71 set2 ins2
      have z71 := st71.ds.fr.size
      have hS2 : ∀ x, x ∈ ZS2.map (·.2) ↔ x ∈ S1 := fun x => by
        rw [hZS2, hS, hA', hD']
        cases ob with
        | true =>
          constructor
          · rintro (h | h)
            · exact hadd rfl x h.1
            · exact h.2.1
          · intro h
            by_cases h2 : x ∈ S
            · exact .inl ⟨h2, fun h3 => by cases h3.1⟩
            · exact .inr ⟨rfl, h, h2⟩
        | false =>
          constructor
          · rintro (h | h)
            · apply Classical.byContradiction
              intro h2
              exact h.2 ⟨rfl, h.1, h2⟩
            · cases h.1
          · intro h
            exact .inl ⟨hrem rfl x h, fun h3 => h3.2.2 h⟩
      obtain ⟨ad, hp, g0, g1⟩ := cells st71.ds.fr
      have hb71 := hb.fr f71 (by simp)
      have q0' : w71.cell? (Addr.add ⟨k, 0, none⟩ 0) = some (.slice pA ZA.length ZA.length) := by rw [add_mk, hb71.cell]; rfl
      have q1' : w71.cell? (Addr.add ⟨k, 0, none⟩ 1) = some (.slice pD ZD.length ZD.length) := by rw [add_mk, hb71.cell]; rfl
      refine ⟨_, _, _, _, rfl, fun y76 h76 => ?_⟩
      have last : y76 false w71 := h76 _ _ (bF rfl ⟨ad, hp, ⟨by omega, hlt⟩, ob, g1, by
        cases ob with
        | true =>
          refine bT rfl ⟨ad, hp, ⟨by omega, hlt⟩, oA, oD.length, oC, g0, oD.flatMap gcell, flatG.len oD, hoe.old st71.ds.fr, ?_⟩
          refine appN (f := gcell) flatG (ys := Y) (zs := oD) rfl (u := w) (B := w.heap.size) st71.row st71.ds.fr rfl (Nat.le_refl _) z71 (fun _ => rfl) (by simp) (fun ad hp => by simp) (by omega) (by omega) fun w86 p87 c89 F86 G86 _ o86 d86 => ?_
          refine h40' _ _ _ _ _ _ _ ⟨Z.length - (i + 1), by omega, i + 1, be1, bs1, E1, S1, ZS2, _, _, Y ++ oD, rfl, by omega, rfl, rfl, rfl, rfl, st71.edges G86 o86 d86, hS2, fun q => by rw [hE1, if_pos rfl, lab_app, hE], fun y hy => ?_, by rw [List.length_append]; omega⟩
          rcases List.mem_append.1 hy with hy | hy
          · exact hRY y hy
          · exact hor y hy
        | false =>
          refine bF rfl ⟨fun m p k c n w' => ∃ j : Nat, n = (j : Int) ∧ j ≤ Y.length ∧ m = Y.length - j ∧ k = ((Y.take j).filter fun y => !gone oD y).length ∧ OwnZ w' w71.heap.size 3 p ((Y.take j).filter fun y => !gone oD y).length c (((Y.take j).filter fun y => !gone oD y).flatMap gcell) ∧ Fr [] w71 w', Y.length, ⟨0, rfl, by omega, rfl, rfl, OwnZ.nil _ _ _, Fr.refl _ _⟩, ?_⟩
          rintro m92 p93 k94 c95 n96 w97 ⟨j, rfl, hj, rfl, rfl, oX, F97⟩
          have hXl : ((Y.take j).filter fun y => !gone oD y).length ≤ j := Nat.le_trans (List.length_filter_le _ _) (by rw [List.length_take]; omega)
          have z97 := F97.size
          refine bc (fun hlt2 => ?_) fun hge2 => ?_
          · have hlt2 : (j : Int) < (Y.length : Int) := of_decide_eq_true hlt2
            have hlt2' : j < Y.length := by omega
            intro y99 h99
            obtain ⟨ad2, hp2, g2⟩ := ((st71.old F97).row.row).atF flatG (by decide) hlt2'
            obtain ⟨ad3, hp3, g3, _⟩ := cells (st71.ds.fr.trans' F97)
            have e02 : (j : Int).toNat * 3 = j * 3 := by omega
            have eN2 : IntKind.wrap .i64 ((j : Int) + 1) = ((j + 1 : Nat) : Int) := by rw [wrapi (by omega) (by omega)]; simp
            rw [eN2] at h99
            refine ⟨ad2, hp2, ⟨by omega, hlt2⟩, _, _, _, ⟨by rw [e02]; exact g2 0 _ rfl, by rw [e02]; exact g2 1 _ rfl, by rw [e02]; exact g2 2 _ rfl, trivial⟩, fun k111 => ⟨ad3, hp3, ⟨by omega, hlt⟩, oA, oD.length, oC, g3, ?_⟩⟩
            refine ⟨fun m b n w' => ∃ l : Nat, n = (l : Int) ∧ l ≤ oD.length ∧ m = oD.length - l ∧ b = gone (oD.take l) Y[j] ∧ Fr [] w97 w' ∧ w97.heap.size ≤ k111, oD.length, fun w118 s118 => ⟨0, rfl, by omega, rfl, rfl, s118.fr, (g_new1 s118).1⟩, ?_⟩
            rintro m120 b121 n122 w123 ⟨l, rfl, hl, rfl, rfl, F123, hk⟩
            have z123 := F123.size
            refine bc (fun hlt3 => ?_) fun hge3 => ?_
            · have hlt3 : (l : Int) < (oD.length : Int) := of_decide_eq_true hlt3
              have hlt3' : l < oD.length := by omega
              intro y125 h125
              have eN3 : IntKind.wrap .i64 ((l : Int) + 1) = ((l + 1 : Nat) : Int) := by rw [wrapi (by omega) (by omega)]; simp
              rw [eN3] at h125
              obtain ⟨ad4, hp4, g4⟩ := (hoe.old ((st71.ds.fr.trans' F97).trans' F123)).atF flatG (by decide) hlt3'
              have e03 : (l : Int).toNat * 3 = l * 3 := by omega
              refine ⟨ad4, hp4, ⟨by omega, hlt3⟩, _, _, _, ⟨by rw [e03]; exact g4 0 _ rfl, by rw [e03]; exact g4 1 _ rfl, by rw [e03]; exact g4 2 _ rfl, trivial⟩, fun k135 => bc (fun hb w136 s136 => ?_) fun hb w138 s138 => ?_⟩
              · exact h125 _ _ ⟨oD.length - (l + 1), by omega, l + 1, rfl, by omega, rfl, by rw [gone_snoc hlt3', hb]; rfl, F123.trans' s136.fr, hk⟩
              · exact h125 _ _ ⟨oD.length - (l + 1), by omega, l + 1, rfl, by omega, rfl, by rw [gone_snoc hlt3', hb]; rfl, F123.trans' s138.fr, hk⟩
            · have hge3 : ¬ (l : Int) < (oD.length : Int) := of_decide_eq_false hge3
              have hl' : l = oD.length := by omega
              rw [hl', List.take_length]
              have hsn := take_filterG (p := fun y => !gone oD y) hlt2'
              have o123 := oX.fr F123 (fun _ _ => by simp)
              refine bc (fun hg k140 => ?_) fun hg => ?_
              · refine app1 (f := gcell) flatG (x := Y[j]) (u := w71) (B := w71.heap.size) o123 (F97.trans' F123) rfl (Nat.le_refl _) (by omega) (fun h => by cases h) (by simp) (fun ad hp x hx => ?_) (by omega) (by omega) fun w141 p142 c144 F141 _ _ o141 _ => ?_
                · rcases List.mem_cons.1 hx with rfl | hx
                  · have := (oX.lt hp).2
                    exact .inr (by omega)
                  · exact .inl hx
                · rw [if_pos hg] at hsn
                  rw [← hsn] at o141 ⊢
                  exact h99 _ _ _ _ ⟨Y.length - (j + 1), by omega, j + 1, rfl, by omega, rfl, rfl, o141, F141⟩
              · rw [if_neg (by rw [hg]; simp), List.append_nil] at hsn
                exact h99 _ _ _ _ ⟨Y.length - (j + 1), by omega, j + 1, rfl, by omega, rfl, by rw [hsn], by rw [hsn]; exact o123, F97.trans' F123⟩
          · have hge2 : ¬ (j : Int) < (Y.length : Int) := of_decide_eq_false hge2
            have hj' : j = Y.length := by omega
            rw [hj', List.take_length] at oX hXl ⊢
            refine h40' _ _ _ _ _ _ _ ⟨Z.length - (i + 1), by omega, i + 1, be1, bs1, E1, S1, ZS2, _, _, Y.filter fun y => !gone oD y, rfl, by omega, rfl, rfl, rfl, rfl, st71.edges (F97.mono fun x hx => by cases hx) (oX.mono z71) (fun ad hp => .inr (oX.lt hp).1), hS2, fun q => by rw [hE1, if_neg (by simp), lab_left, hE], fun y hy => hRY y (List.mem_filter.1 hy).1, by omega⟩⟩)
      refine bF rfl ⟨ad, hp, ⟨by omega, hlt⟩, ob, g1, ?_⟩
      cases ob with
      | true =>
        have : ZD = [] := by
          cases ZD with
          | nil => rfl
          | cons z V => exact absurd ((hD' z.2).1 (by simp)).1 (by simp)
        subst this
        exact bT rfl ⟨pD, _, _, q1', bF rfl ⟨ad, hp, ⟨by omega, hlt⟩, true, g1, bF rfl last⟩⟩
      | false =>
        have : ZA = [] := by
          cases ZA with
          | nil => rfl
          | cons z V => exact absurd ((hA' z.2).1 (by simp)).1 (by simp)
        subst this
        exact bF rfl ⟨ad, hp, ⟨by omega, hlt⟩, false, g1, bT rfl ⟨pA, _, _, q0', last⟩⟩)
    obtain ⟨ad, hp, g0, g1⟩ := cells st.ds.fr
    have saidOf : ∀ {v v' : World} {code : Int} {pA pD : Option Addr} {ZA ZD : List ZP} {be1 bs1 : List Nat} {E1 S1 : List PI}, DoSaid v v' d labA e s be bs E S (labP oD labA) ob code pA pD ZA ZD be1 bs1 E1 S1 → E1.length ≤ 5000 ∧ ((code = 0 ∧ Okay ob E (labP oD labA) ∧ (∀ q, q ∈ E1 ↔ if ob = true then q ∈ E ∨ q ∈ labP oD labA else q ∈ E ∧ q ∉ labP oD labA) ∧ (∀ x, x ∈ ZA.map (·.2) ↔ ob = true ∧ x ∈ S1 ∧ x ∉ S) ∧ (∀ x, x ∈ ZD.map (·.2) ↔ ob = false ∧ x ∈ S ∧ x ∉ S1) ∧ (ob = true → ∀ q ∈ S, q ∈ S1) ∧ (ob = false → ∀ q ∈ S1, q ∈ S)) ∨ (code ≠ 0 ∧ ZA = [] ∧ ZD = [] ∧ (∀ q, q ∈ E1 ↔ q ∈ E) ∧ (∀ q, q ∈ S1 ↔ q ∈ S))) := fun hd => by
      refine ⟨by have := hd.elen; omega, ?_⟩
      rcases hd.said with h | ⟨a1, a2, a3, a4, a5, _⟩
      · exact .inl h
      · exact .inr ⟨a1, a2, a3, a4, a5⟩
    refine ⟨ad, hp, ⟨by omega, hlt⟩, oA, oD.length, oC, g0, ad, hp, ⟨by omega, hlt⟩, ob, g1, fun w170 s170 => ?_, fun k185 w186 s186 => ?_⟩
    · have st170 := st.old s170.fr
      have cdo := do_s (eC := oC) st170.ds (by omega) (hoe.old st170.ds.fr) (by omega) hor ob (fun _ => hLl)
      refine cdo.mono ?_
      rintro e172 w173 ⟨code, pA, pD, ZA, ZD, be1, bs1, E1, S1, rfl, hd, ds173, f173⟩
      have st173 := st170.doS f173 hd
      exact ⟨_, _, _, _, _, _, _, rfl, fun k181 w182 s182 b182 => behind k181 code w182 pA pD ZA ZD be1 bs1 E1 S1 b182 (st173.old s182.fr) (hd.setA.old s182.fr) (hd.setD.old s182.fr) (saidOf hd).1 (saidOf hd).2⟩
    · have n186 := g_new1 s186
      have st186 := st.old s186.fr
      have cdo := do_s (eC := oC) st186.ds (by omega) (hoe.old st186.ds.fr) (by omega) hor ob (fun _ => hLl)
      refine cdo.mono ?_
      rintro e188 w189 ⟨code, pA, pD, ZA, ZD, be1, bs1, E1, S1, rfl, hd, ds189, f189⟩
      have st189 := st186.doS f189 hd
      have hk0 : k185 ∉ d :: be ++ bs := fun hx => by have := st.ds.lt _ hx; omega
      have hk1 : k185 ∉ d :: be1 ++ bs1 := fun hx => by
        rcases List.mem_append.1 hx with hx | hx
        · rcases List.mem_cons.1 hx with hx | hx
          · exact hk0 (by rw [hx]; simp)
          · rcases hd.gbe _ hx with h1 | h1
            · exact hk0 (by simp [h1])
            · omega
        · rcases hd.gbs _ hx with h1 | h1
          · exact hk0 (by simp [h1])
          · omega
      have zw := st.ds.fr.size
      refine ⟨_, _, _, _, _, _, _, rfl, g_keep f189 (fun x hx => by rw [List.mem_singleton.1 hx]; exact ⟨n186.2, hk0⟩), fun w197 s197 b197 => ?_⟩
      refine behind k185 code w197 pA pD ZA ZD be1 bs1 E1 S1 b197 (st189.fr1 s197.fr (by omega) hk1 (.inr (by have := st.hhi; omega)) (fun ad hp => by have := (st.row.lt hp).2; omega)) (hd.setA.fr s197.fr (hd.inA.out fun x hx => by rw [List.mem_singleton.1 hx]; exact .inl n186.2)) (hd.setD.fr s197.fr (hd.inD.out fun x hx => by rw [List.mem_singleton.1 hx]; exact .inl n186.2)) (saidOf hd).1 (saidOf hd).2
  · have hsame : ∀ X : List PI, X.Nodup → (∀ x ∈ X, Span.Reach (succs Y labA) x.1 x.2) → X.length ≤ 4000 := fun X hn hx => by
      have := sub_len hn (l' := S) fun x hx' => (st.ds.tc x).2 ((tc_succs hE x.1 x.2).1 (hx x hx'))
      omega
    refine (pairs_c (lab := labA) (eC := cY) st.row.row (by omega) (fun y hy => (hRY y hy).1)).mono ?_
    rintro e200 w201 ⟨f201, said⟩
    rw [labA_ok] at said
    obtain ⟨b, P, rfl, sP, hP, lP, ⟨c, oP⟩, tP, _, _⟩ := said_list said hsame
    have st201 := st.old f201
    refine ⟨_, _, _, _, rfl, fun y206 h206 => bT rfl ?_⟩
    have hPS : P.map (·.2) = ZS.map (·.2) := plt_ext sP st.set.sort fun x => by rw [hP, hS, st.ds.tc, tc_succs hE]
    refine (same_c oP.1.row tP st201.set.row st201.set.tups (by omega)).mono ?_
    rintro e211 w212 ⟨rfl, f212⟩
    rw [decide_eq_true hPS]
    have st212 := st201.old f212
    refine ⟨_, rfl, bT rfl ((read_c st212.ds.at' (by omega)).mono ?_)⟩
    rintro e214 w215 ⟨f215, p216, R, rfl, setR, hR2, inR2⟩
    have hRl := set_len setR.sort fun x hx => (hR2 x).1 hx
    have st215 := st212.old f215
    refine ⟨_, _, _, rfl, (same_c setR.row setR.tups st215.set.row st215.set.tups (by omega)).mono ?_⟩
    rintro e219 w220 ⟨rfl, f220⟩
    rw [decide_eq_true (plt_ext setR.sort st.set.sort fun x => by rw [hR2, hS])]
    exact ⟨_, rfl, h206 _ _ ⟨rfl, st215.ds.fr.trans' f220⟩⟩
end Go.Proofs.Ytnplopiconabiaa.Dred
