/- Dred: DredOthers. -/
import Derived.Test.YtnplopiconabiaaTD
import Derived.Test.YtnplopiconabiaaL11
namespace Go.Proofs.Ytnplopiconabiaa.Dred
open Go Go.V
open Go.Proofs.Ytnplopiconabiaa.VC
open Go.Proofs.Ytnplopiconabiaa.Span
open Go.Proofs.Try (prog)
set_option linter.unusedVariables false
set_option linter.unusedSimpArgs false
set_option maxRecDepth 20000

abbrev labAA : ByteArray := ⟨#[97, 97]⟩
def chg (x : EG) : EG := if x.l = labA then ⟨x.f, labAA, x.t⟩ else x
theorem chg_l (x : EG) : (chg x).l ≠ labA := by
  unfold chg
  by_cases h : x.l = labA
  · rw [if_pos h]; show labAA ≠ labA; decide
  · rw [if_neg h]; exact h
theorem chg_ft (x : EG) : (chg x).f = x.f ∧ (chg x).t = x.t := by
  unfold chg
  by_cases h : x.l = labA
  · rw [if_pos h]; exact ⟨rfl, rfl⟩
  · rw [if_neg h]; exact ⟨rfl, rfl⟩
def twice (D : List EG) : List EG := D.flatMap fun x => [chg x, chg x]
theorem twice_len : ∀ D, (twice D).length = D.length * 2
  | [] => rfl
  | x :: D => by
    have := twice_len D
    unfold twice at *
    rw [List.flatMap_cons, List.length_append, this]
    simp only [List.length_cons, List.length_nil]; omega
theorem twice_snoc {D : List EG} {i : Nat} (h : i < D.length) : twice (D.take (i + 1)) = twice (D.take i) ++ [chg D[i], chg D[i]] := by
  unfold twice
  rw [take_snoc h, List.flatMap_append]; rfl
theorem mem_twice {D : List EG} {y : EG} : y ∈ twice D ↔ ∃ x ∈ D, y = chg x := by
  unfold twice
  rw [List.mem_flatMap]
  constructor
  · rintro ⟨x, hx, hy⟩
    refine ⟨x, hx, ?_⟩
    simp at hy; exact hy
  · rintro ⟨x, hx, rfl⟩; exact ⟨x, hx, by simp⟩
theorem lab_twice (D : List EG) : labP (twice D) labA = [] := by
  apply List.eq_nil_iff_forall_not_mem.2
  intro p hp
  obtain ⟨y, hy, h1, _⟩ := mem_labP.1 hp
  obtain ⟨x, _, rfl⟩ := mem_twice.1 hy
  exact chg_l x h1
/-- A script, as it is read. -/
structure ScriptAt (w : World) (sA : Option Addr) (Z : List OpM) : Prop where
  row : Row w sA (Z.flatMap ocell)
  edges : ∀ o ∈ Z, Row w o.1 (o.2.2.1.flatMap gcell)
  rng : ∀ o ∈ Z, ∀ x ∈ o.2.2.1, inR x.f ∧ inR x.t
  lens : ∀ o ∈ Z, o.2.2.1.length ≤ 140737488355328
  len : Z.length ≤ 140737488355328

set_option maxHeartbeats 2000000 in
theorem others_walk {w : World} {eA sA : Option Addr} {eC sC : Nat} {D : List EG} {Z : List OpM} (hD : Row w eA (D.flatMap gcell)) (hZ : ScriptAt w sA Z) (hR : ∀ x ∈ D, inR x.f ∧ inR x.t) (hDl : D.length ≤ 140737488355328) :
    Calls prog 11 #[.slice eA D.length eC, .slice sA Z.length sC] w fun e w' => e = .returned (.bool true) ∧ Fr [] w w' := by
  refine rhizomelaw14_DredOthers.link fun y1 h1 => (awakeD_c w).mono ?_
  rintro e99 w100 ⟨rfl, f100⟩
  have c27 := few_c (lab := labA) (eA := eA) (eL := D.length) (eC := eC) (sC := sC) (hZ.row.old f100) hZ.lens hDl hZ.len
  refine ⟨_, rfl, bF rfl (c27.mono ?_)⟩
  rintro e102 w103 ⟨⟨bb, rfl, hbb⟩, rfl⟩
  refine ⟨bb, rfl, ?_⟩
  cases bb with
  | false =>
    refine h1 _ _ (bT rfl ((awakeD_c w103).mono ?_))
    rintro e4 w5 ⟨rfl, f5⟩
    exact ⟨_, rfl, rfl, f100.trans' f5⟩
  | true =>
  obtain ⟨h20, h12, h40⟩ := hbb rfl
  refine h1 _ _ (bF rfl ?_)
  clear h1 hbb c27
  refine (new_c (lab := labA) (eC := eC) (hD.old f100) (by omega) hR labA_ok (tc_few' (by omega))).mono ?_
  rintro e7 w8 ⟨f8, d, e, s, be, bs, E, S, rfl, h8, hE, htc, hS4, lowbe, lowbs, lowd, hEl⟩
  refine ⟨_, _, rfl, fun y11 h11 => bF rfl (h11 _ _ (bF rfl ?_))⟩
  clear h11
  have F8 := f100.trans' f8
  have ds8 : DS w w8 d labA e s be bs E S := ⟨h8, htc, hS4, fun x hx => by
    have := f100.size
    rcases List.mem_append.1 hx with hx | hx
    · rcases List.mem_cons.1 hx with rfl | hx
      · omega
      · have := lowbe x hx; omega
    · have := lowbs x hx; omega, F8⟩
  refine (read_c h8 (by omega)).mono ?_
  rintro e14 w15 ⟨f15, p16, Z0, rfl, set0, hZ0, in0⟩
  have ds15 := ds8.old f15
  have cl0 : Clear d be bs w8.heap.size w15.heap.size := ds8.clear
  refine ⟨_, _, _, rfl, ?_⟩
  have z15 := f15.size
  refine ⟨fun m n w' => ∃ (i : Nat) (be bs : List Nat) (E1 S1 : List PI), n = i ∧ i ≤ Z.length ∧ m = Z.length - i ∧ DS w w' d labA e s be bs E1 S1 ∧ (∀ q, q ∈ E1 ↔ q ∈ E) ∧ (∀ q, q ∈ S1 ↔ q ∈ S) ∧ Clear d be bs w8.heap.size w15.heap.size ∧ SetAt w' p16 Z0 ∧ w15.heap.size ≤ w'.heap.size, Z.length, ⟨0, be, bs, E, S, rfl, by omega, rfl, ds15, fun q => Iff.rfl, fun q => Iff.rfl, cl0, set0, Nat.le_refl _⟩, ?_⟩
  have hEn := h8.er.nodup
  clear ds15 cl0 set0
  rintro m21 n22 w23 ⟨i, be, bs, E1, S1, rfl, hi, rfl, ds, hE1, hS1, cl, set, z23⟩
  have hE1l : E1.length ≤ 20 := by
    have := sub_len ds.at'.er.nodup fun q hq => (hE1 q).1 hq
    omega
  refine bc (fun hlt => ?_) fun hge => ?_
  · have hlt : (i : Int) < (Z.length : Int) := of_decide_eq_true hlt
    have hlt' : i < Z.length := by omega
    obtain ⟨ad, hp, g⟩ := (hZ.row.old ds.fr).atF flatO (by decide) hlt'
    have e0 : (i : Int).toNat * 2 = i * 2 := by omega
    have ho := List.getElem_mem hlt'
    have hol : Z[i].2.2.1.length ≤ 40 := by have := sumO_le ho; omega
    have hoe := (hZ.edges _ ho)
    have hor := hZ.rng _ ho
    generalize hoi : Z[i] = o at *
    obtain ⟨oA, oC, oD, ob⟩ := o
    replace hol : oD.length ≤ 40 := hol
    refine ⟨ad, hp, ⟨by omega, hlt⟩, oA, oD.length, oC, ob, ⟨by rw [e0]; exact g 0 _ rfl, by rw [e0]; exact g 1 _ rfl, trivial⟩, fun k30 => ?_⟩
    refine ⟨fun m p k c n w' => ∃ j : Nat, n = j ∧ j ≤ oD.length ∧ m = oD.length - j ∧ k = (twice (oD.take j)).length ∧ OwnZ w' (k30 + 1) 3 p (twice (oD.take j)).length c ((twice (oD.take j)).flatMap gcell) ∧ Fr [] w23 w' ∧ w23.heap.size ≤ k30 ∧ k30 < w'.heap.size, oD.length, fun w33 s33 => ⟨0, rfl, by omega, rfl, rfl, OwnZ.nil _ _ _, s33.fr, (g_new1 s33).1, (g_new1 s33).2⟩, ?_⟩
    rintro m35 p36 k37 c38 n39 w40 ⟨j, rfl, hj, rfl, rfl, oL, F40, hk, hk'⟩
    have z40 := F40.size
    have hjl : (twice (oD.take j)).length ≤ 80 := by rw [twice_len, List.length_take]; omega
    refine bc (fun hlt2 => ?_) fun hge2 => ?_
    · have hlt2 : (j : Int) < (oD.length : Int) := of_decide_eq_true hlt2
      have hlt2' : j < oD.length := by omega
      obtain ⟨ad2, hp2, g2⟩ := ((hoe.old ds.fr).old F40).atF flatG (by decide) hlt2'
      have e02 : (j : Int).toNat * 3 = j * 3 := by omega
      refine ⟨ad2, hp2, ⟨by omega, hlt2⟩, _, _, _, ⟨by rw [e02]; exact g2 0 _ rfl, by rw [e02]; exact g2 1 _ rfl, by rw [e02]; exact g2 2 _ rfl, trivial⟩, fun k46 y47 h47 => ?_⟩
      have put : ∀ w51, Step w40 w51 [] [k46] → y47 (chg oD[j]).f (chg oD[j]).l (chg oD[j]).t w51 := fun w51 s51 => h47 _ _ _ _ fun k52 => by
        have n51 := g_new1 s51
        have z51 := s51.fr.size
        have hb := twice_snoc hlt2'
        refine appN (f := gcell) flatG (zs := [chg oD[j], chg oD[j]]) rfl (u := w23) (B := k30 + 1) (oL.fr s51.fr (fun _ _ => by simp)) (F40.trans' s51.fr) rfl (by omega) (by omega) (fun h => by cases h) (by simp) (fun ad hp x hx => ?_) (by simp only [List.length_cons, List.length_nil]; omega) (by simp only [List.length_cons, List.length_nil]; omega) fun w53 p54 c56 F53 G53 n53 o53 d53 => ?_
        · have h1 := oL.lt hp
          rcases List.mem_cons.1 hx with rfl | hx
          · exact .inr (by omega)
          · rcases List.mem_cons.1 hx with rfl | hx
            · exact .inr (by omega)
            · exact .inl hx
        · rw [← hb] at o53 ⊢
          have := G53.size
          exact ⟨oD.length - (j + 1), by omega, j + 1, by rw [wrapi (by omega) (by omega)]; simp, by omega, rfl, rfl, o53, F53, hk, by omega⟩
      refine bc (fun hl w60 s60 => ?_) fun hl w62 s62 => ?_
      · have hl : oD[j].l = labA := of_decide_eq_true hl
        have := put w60 s60
        unfold chg at this
        rw [if_pos hl] at this; exact this
      · have hl : ¬ oD[j].l = labA := of_decide_eq_false hl
        have := put w62 s62
        unfold chg at this
        rw [if_neg hl] at this; exact this
    · have hge2 : ¬ (j : Int) < (oD.length : Int) := of_decide_eq_false hge2
      have hj' : j = oD.length := by omega
      rw [hj', List.take_length] at oL hjl ⊢
      have ds40 := ds.old F40
      have hRt : ∀ x ∈ twice oD, inR x.f ∧ inR x.t := fun y hy => by
        obtain ⟨x, hx, rfl⟩ := mem_twice.1 hy
        rw [(chg_ft x).1, (chg_ft x).2]; exact hor x hx
      have hlb := lab_twice oD
      have cdo := do_s (eC := c38) ds40 (by omega) oL.row (by omega) hRt ob (fun _ => by rw [hlb]; simp)
      rw [hlb] at cdo
      refine cdo.mono ?_
      rintro e64 w65 ⟨code, pA, pD, ZA, ZD, be1, bs1, E2, S2, rfl, hd, ds65, f65⟩
      have z65 := f65.size
      have hk30 : k30 ∉ d :: be ++ bs := fun hx => by
        have := ds.at'.new hk
        rcases List.mem_append.1 hx with hx | hx
        · rcases List.mem_cons.1 hx with hx | hx
          · exact this.1 hx
          · exact this.2.1 hx
        · exact this.2.2 hx
      have set65 : SetAt w65 p16 Z0 := (set.old F40).fr f65 (in0.out cl)
      have cl65 : Clear d be1 bs1 w8.heap.size w15.heap.size := cl.grow hd.gbe hd.gbs (by omega)
      have hok : Okay ob E1 [] := ⟨by simp, fun p hp => by cases hp⟩
      rcases hd.said with ⟨rfl, _, hE2, hA, hDD, _, _⟩ | ⟨_, _, _, _, _, hno | ⟨_, hb, E3, S3, hE3, hS3, hn3, h3⟩⟩
      rotate_left
      · exact absurd hok hno
      · exfalso
        have h1 := tc_len (E := E1) hn3 fun x hx => TC.mono (fun q hq => by
          rcases hE3 q hq with h | h
          · exact h
          · cases h) ((hS3 x).1 hx)
        have := Nat.mul_le_mul hE1l hE1l
        omega
      have hE2E : ∀ q, q ∈ E2 ↔ q ∈ E1 := fun q => by
        rw [hE2]
        cases ob <;> simp
      have hS2S : ∀ q, q ∈ S2 ↔ q ∈ S1 := fun q => by rw [ds65.tc, ds.tc]; exact ⟨TC.mono fun p hp => (hE2E p).1 hp, TC.mono fun p hp => (hE2E p).2 hp⟩
      have hZA : ZA = [] := by
        cases ZA with
        | nil => rfl
        | cons z Y =>
          have := (hA z.2).1 (by simp)
          exact absurd ((hS2S _).1 this.2.1) this.2.2
      have hZD : ZD = [] := by
        cases ZD with
        | nil => rfl
        | cons z Y =>
          have := (hDD z.2).1 (by simp)
          exact absurd ((hS2S _).2 this.2.1) this.2.2
      subst hZA; subst hZD
      refine ⟨_, _, _, _, _, _, _, rfl, g_keep f65 (fun x hx => by rw [List.mem_singleton.1 hx]; exact ⟨hk', hk30⟩), fun k73 y74 h74 => bF rfl fun w82 s82 => ?_⟩
      have n82 := g_new1 s82
      have c33 := empty_c w82 pA pD 0 0 0 0 (by decide)
      refine c33.mono ?_
      rintro e84 w85 ⟨rfl, f85⟩
      have f6585 := s82.fr.trans' f85
      have z82 := s82.fr.size
      have z85 := f85.size
      refine ⟨_, rfl, keepF f85 (fun x hx => ?_), h74 _ _ (bF rfl ⟨Z.length - (i + 1), by omega, i + 1, be1, bs1, E2, S2, by rw [wrapi (by omega) (by omega)]; simp, by omega, rfl, ds65.old f6585, fun q => (hE2E q).trans (hE1 q), fun q => (hS2S q).trans (hS1 q), cl65, set65.old f6585, by omega⟩)⟩
      rcases List.mem_cons.1 hx with rfl | hx
      · omega
      · rw [List.mem_singleton.1 hx]; omega
  · refine (read_c ds.at' (by have := ds.small; omega)).mono ?_
    rintro e87 w88 ⟨f88, p89, Y, rfl, setY, hY, inY⟩
    have hYl := set_len setY.sort fun x hx => (hY x).1 hx
    have hsm := ds.small
    have set3 := set.old f88
    refine ⟨_, _, _, rfl, (same_c setY.row setY.tups set3.row set3.tups (by omega)).mono ?_⟩
    rintro e92 w93 ⟨rfl, f93⟩
    rw [decide_eq_true (plt_ext setY.sort set3.sort fun x => by rw [hY, hZ0, hS1])]
    exact ⟨_, rfl, rfl, ds.fr.trans' (f88.trans' f93)⟩
end Go.Proofs.Ytnplopiconabiaa.Dred
