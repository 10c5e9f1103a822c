/- The reference of the log: Reset, Room; which sectors are heads, which are not. -/
import Derived.Test.YtcaamecdhbgknaaH8
import Derived.Test.YtcaamecdhbgknaaG7
import Derived.Test.YtcaamecdhbgknaaGR
namespace Go.Proofs.Ytcaamecdhbgknaa.Log
open Go Go.V
open Go.Proofs.Ytcaamecdhbgknaa.VC
open Go.Proofs.Ytcaamecdhbgknaa.Disk
open Go.Proofs.Try (prog)
set_option linter.unusedVariables false
set_option linter.unusedSimpArgs false
set_option maxRecDepth 20000

def szAt (rs : RR) (j : Nat) : Nat := secs (rs.getD j (0, ⟨#[]⟩)).2.size
def hpos (first : Nat) (rs : RR) (i : Nat) : List Int := (List.range i).map fun j => ((rend first (rs.take j) : Nat) : Int)
def osec (first : Nat) (rs : RR) (i t : Nat) : List Int := (List.range t).map fun (t : Nat) => ((rend first (rs.take i) + 1 + t : Nat) : Int)
def opos (first : Nat) (rs : RR) (i : Nat) : List Int := (List.range i).flatMap fun j => osec first rs j (szAt rs j)
theorem hpos_succ (first : Nat) (rs : RR) (i : Nat) : hpos first rs (i + 1) = hpos first rs i ++ [((rend first (rs.take i) : Nat) : Int)] := by
  unfold hpos; rw [List.range_succ, List.map_append]; rfl
theorem osec_succ (first : Nat) (rs : RR) (i t : Nat) : osec first rs i (t + 1) = osec first rs i t ++ [((rend first (rs.take i) + 1 + t : Nat) : Int)] := by
  unfold osec; rw [List.range_succ, List.map_append]; rfl
theorem opos_succ (first : Nat) (rs : RR) (i : Nat) : opos first rs (i + 1) = opos first rs i ++ osec first rs i (szAt rs i) := by
  unfold opos; rw [List.range_succ, List.flatMap_append]; simp
theorem szAt_eq (rs : RR) {i : Nat} (hi : i < rs.length) : szAt rs i = secs rs[i].2.size := by
  unfold szAt; rw [List.getD_eq_getElem?_getD, List.getElem?_eq_getElem hi]; rfl
theorem rend_next (first : Nat) (rs : RR) {i : Nat} (hi : i < rs.length) : rend first (rs.take (i + 1)) = rend first (rs.take i) + 1 + szAt rs i := by
  rw [rend_take first rs i hi, szAt_eq rs hi]
theorem rend_lt (first : Nat) (rs : RR) {i j : Nat} (h : i < j) (hj : j ≤ rs.length) : rend first (rs.take i) + 1 + szAt rs i ≤ rend first (rs.take j) := by
  induction j with
  | zero => omega
  | succ j ih =>
    rw [rend_next first rs (by omega)]
    rcases Nat.lt_or_ge i j with h1 | h1
    · have := ih h1 (by omega); omega
    · have : i = j := by omega
      subst this; omega
theorem hpos_len (first : Nat) (rs : RR) (i : Nat) : (hpos first rs i).length = i := by simp [hpos]
theorem opos_len (first : Nat) (rs : RR) : ∀ i, i ≤ rs.length → first + i + (opos first rs i).length = rend first (rs.take i)
  | 0, _ => rfl
  | i + 1, hi => by
    rw [opos_succ, List.length_append, rend_next first rs (by omega)]
    have := opos_len first rs i (by omega)
    have e : (osec first rs i (szAt rs i)).length = szAt rs i := by simp [osec]
    omega
/-- What is no head. -/
theorem others_eq {L : LM} {first : Nat} {rs : RR} (hf : L.first = (first : Int)) (hh : L.heads = hpos first rs rs.length) (he : L.end_ = ((rend first rs : Nat) : Int)) : others L = opos first rs rs.length := by
  have mem : ∀ x : Int, x ∈ L.heads ↔ ∃ j, j < rs.length ∧ x = ((rend first (rs.take j) : Nat) : Int) := fun x => by
    rw [hh]
    unfold hpos
    rw [List.mem_map]
    constructor
    · rintro ⟨j, hj, rfl⟩; exact ⟨j, List.mem_range.1 hj, rfl⟩
    · rintro ⟨j, hj, rfl⟩; exact ⟨j, List.mem_range.2 hj, rfl⟩
  have inner : ∀ i t, i < rs.length → t ≤ szAt rs i → othersTo L (rend first (rs.take i) - first) = opos first rs i → othersTo L (rend first (rs.take i) - first + 1 + t) = opos first rs i ++ osec first rs i t := by
    intro i t hi
    have hm : first ≤ rend first (rs.take i) := rend_mono _ _
    induction t with
    | zero =>
      intro _ h0
      rw [Nat.add_zero, othersTo_succ, if_pos ((mem _).2 ⟨i, hi, by rw [hf]; omega⟩), h0]
      simp [osec]
    | succ t ih =>
      intro ht h0
      rw [← Nat.add_assoc, othersTo_succ, if_neg, ih (by omega) h0, osec_succ, List.append_assoc]
      · congr 3
        rw [hf]; omega
      · rintro hx
        obtain ⟨j, hj, e⟩ := (mem _).1 hx
        rw [hf] at e
        have e : rend first (rs.take i) + 1 + t = rend first (rs.take j) := by omega
        rcases Nat.lt_trichotomy i j with h1 | h1 | h1
        · have := rend_lt first rs h1 (by omega); omega
        · subst h1; omega
        · have := rend_lt first rs h1 (by omega); omega
  have outer : ∀ i, i ≤ rs.length → othersTo L (rend first (rs.take i) - first) = opos first rs i := by
    intro i
    induction i with
    | zero =>
      intro _
      show othersTo L (first - first) = []
      rw [Nat.sub_self]; rfl
    | succ i ih =>
      intro hi
      have h1 := inner i (szAt rs i) (by omega) (Nat.le_refl _) (ih (by omega))
      have hm : first ≤ rend first (rs.take i) := rend_mono _ _
      rw [rend_next first rs (by omega), opos_succ, ← h1]
      congr 1
      omega
  have hm : first ≤ rend first rs := rend_mono _ _
  unfold others
  have h2 := outer rs.length (Nat.le_refl _)
  rw [List.take_length] at h2
  rw [← h2]
  congr 1
  rw [he, hf]; omega

/-- What the reference's Reset hands back. -/
structure RReset (w w' : World) (F : List Nat) (M : DM) (L : LM) (first count : Int) (p : Option Addr) (c : Nat) (rs : RR) (q : Nat) (next : Int) (v' lv : Value) : Prop where
  fr : Fr [] w w'
  ref : RefAt w' v' F (lreset M L next).1
  bad : (lreset M L next).2.2 ≠ 0 → lv = rlog first count p c rs (q : Int)
  good : (lreset M L next).2.2 = 0 → lv = rlog first count none 0 [] next

set_option maxHeartbeats 4000000 in
theorem rreset_c {w : World} {v : Value} {F : List Nat} {M : DM} (h : RefAt w v F M) (hF : ∀ x ∈ F, x < w.heap.size) {L : LM} {first count : Nat} {p : Option Addr} {c : Nat} {rs : RR} {q : Nat} (hr : Row w p (rrcells rs)) (hpb : ∀ ad, p = some ad → ad.block < w.heap.size) (hrs : ∀ r ∈ rs, r.2.size ≤ 4000) (hl : rs.length ≤ 4096)
    (hend : rend first rs ≤ 4096) (hf : L.first = (first : Int)) (hh : L.heads = hpos first rs rs.length) (he : L.end_ = ((rend first rs : Nat) : Int)) (next : Int) :
    Calls prog 44 #[v, rlog first count p c rs (q : Int), I64 next] w fun e w' => ∃ v' lv, e = .returned (.tuple #[v', lv, I64 (lreset M L next).2.2]) ∧ RReset w w' F M L first count p c rs q next v' lv := by
  have h0 := h
  obtain ⟨hok, sA, sC, nA, nC, fA, fC, rfl, h1, h2, h3, h4⟩ := h
  refine rhizomeref04_Reset.link fun k1 k2 k3 k4 y5 hy5 => ?_
  have main : ∀ w7, Step w w7 [] [k4, k3, k2, k1] → ∀ bb : Bool, (bb = true ↔ (next < 1 ∨ MOST < next)) → y5 bb w7 := by
    intro w7 st7 bb hbb
    have n7 := g_new4 st7
    have z7 := st7.size
    have ks : ∀ x ∈ [k1, k2, k3, k4], w.heap.size ≤ x ∧ x < w7.heap.size := fun x hx => by simp at hx; omega
    have h7 : RefAt w7 (rv sA sC nA nC fA fC M) (F ++ [k1, k2, k3, k4]) M := (h0.more (G := [k1, k2, k3, k4]) (fun x hx => by simp at hx; omega)).fr st7.fr (by simp)
    have inF : ∀ x ∈ F, x ∈ F ++ [k1, k2, k3, k4] := fun x hx => List.mem_append_left _ hx
    have out : ∀ (u u' : World) (v' : Value) (M' : DM), Fr [k1] w7 u → RefAt u v' (F ++ [k1, k2, k3, k4]) M' → Step u u' [k4, k3] [] → Fr [] w u' ∧ RefAt u' v' F M' := fun u u' v' M' f hR st =>
      ⟨(st7.fr.trans f (fun x hx => .inr (ks x (by simp at hx; simp [hx])).1)).trans st.fr (fun x hx => .inr (ks x (by simp at hx ⊢; omega)).1), (hR.fr st.fr (fun x hx => .inl (List.mem_append_right _ (by simp at hx ⊢; omega)))).less inF⟩
    refine hy5 bb w7 (bc (fun hb w8 st8 => ?_) fun hb => ?_)
    · have hla : lreset M L next = (M, L, 1) := by unfold lreset; rw [if_pos (hbb.1 hb)]
      obtain ⟨g1, g2⟩ := out w7 w8 _ M (Fr.refl _ _) h7 st8
      exact ⟨_, rlog first count p c rs (q : Int), by rw [hla]; rfl, g1, by rw [hla]; exact g2, fun _ => rfl, fun h => by rw [hla] at h; exact absurd h (show ¬ (1 : Int) = 0 by decide)⟩
    have hnb : ¬ (next < 1 ∨ MOST < next) := fun hx => by rw [hbb.2 hx] at hb; cases hb
    clear hy5
    have hr7 : Row w7 p (rrcells rs) := g_row st7.fr hr fun ad _ _ => by simp
    -- rows that grow
    refine ⟨fun m p13 k14 k15 p16 k17 k18 n19 n20 w' => ∃ i : Nat, n20 = i ∧ i ≤ rs.length ∧ m = rs.length - i ∧ n19 = ((rend first (rs.take i) : Nat) : Int) ∧ Fr [] w7 w' ∧ OwnZ w' w7.heap.size 1 p13 k14 k15 ((hpos first rs i).map I64) ∧ OwnZ w' w7.heap.size 1 p16 k17 k18 ((opos first rs i).map I64) ∧ (∀ ad ad2, p13 = some ad → p16 = some ad2 → ad.block ≠ ad2.block), rs.length,
      ⟨0, rfl, by omega, rfl, rfl, Fr.refl _ _, OwnZ.nil _ _ _, OwnZ.nil _ _ _, fun ad ad2 h => by cases h⟩, ?_⟩
    rintro m p13 k14 k15 p16 k17 k18 n19 n20 w21 ⟨i, rfl, hi, rfl, rfl, f21, o13, o16, dj⟩
    have z21 := f21.size
    have inv : ∀ {ad : Addr} {x : Nat}, w7.heap.size ≤ ad.block → ad.block ∈ [k1, k2, k3, k4, x] → ad.block ∈ [x] := fun h hm => by simp at hm ⊢; omega
    have l14 := o13.len
    have l17 := o16.len
    rw [List.length_map, hpos_len] at l14
    rw [List.length_map] at l17
    have lo := opos_len first rs i hi
    have hre : rend first (rs.take i) ≤ rend first rs := rend_le _ _ _
    refine bc (fun hlt => ?_) fun hge => ?_
    · have hlt : (i : Int) < (rs.length : Int) := of_decide_eq_true hlt
      have hil : i < rs.length := by omega
      intro k23
      have hspl : ∀ n : Int, spl (reps [I64 0] 1) 0 [I64 n] = [I64 n] := fun n => rfl
      rw [hspl]
      refine append_z o13 (n := 1) rfl (fun u hu => by simp at hu; subst hu; rfl) z21 rfl (fun h => by cases h) (fun ad _ => by simp) (fun ad hp hm => inv (o13.lt hp).1 hm) (by omega) (by omega) fun w24 p25 c25 f24 nw24 o24 d24 => ?_
      have z24 := f24.size
      have f24' : Fr (pb p13) w21 w24 := by simpa using f24
      have o16' : OwnZ w24 w7.heap.size 1 p16 k17 k18 ((opos first rs i).map I64) := o16.fr f24' fun ad hp hm => by
        rw [g_mem_pb] at hm
        obtain ⟨ad2, hp2, e⟩ := hm
        exact dj ad2 ad hp2 hp e
      have dj24 : ∀ ad ad2, p25 = some ad → p16 = some ad2 → ad.block ≠ ad2.block := fun ad ad2 hp hp2 => by
        rcases d24 ad hp with e | e
        · exact dj ad ad2 e hp2
        · have := (o16.lt hp2).2; omega
      have F24 : Fr [] w7 w24 := f21.trans f24' (fun x hx => by
        rw [g_mem_pb] at hx
        obtain ⟨ad, hp, rfl⟩ := hx
        exact .inr (o13.lt hp).1)
      have o25 : OwnZ w24 w7.heap.size 1 p25 (k14 + 1) c25 ((hpos first rs (i + 1)).map I64) := by
        rw [hpos_succ, List.map_append]; exact o24
      clear o24
      have hsz := szAt_eq rs hil
      have hrn := rend_lt first rs hil (Nat.le_refl _)
      rw [List.take_length] at hrn
      have xa : IntKind.wrap .i64 (((rend first (rs.take i) : Nat) : Int) + 1) = ((rend first (rs.take i) + 1 + 0 : Nat) : Int) := by rw [wrapi (by omega) (by omega)]; omega
      rw [xa]
      refine ⟨fun m p31 k32 k33 n34 n35 w' => ∃ t : Nat, n35 = t ∧ t ≤ szAt rs i ∧ m = szAt rs i - t ∧ n34 = ((rend first (rs.take i) + 1 + t : Nat) : Int) ∧ Fr [] w7 w' ∧ OwnZ w' w7.heap.size 1 p25 (k14 + 1) c25 ((hpos first rs (i + 1)).map I64) ∧ OwnZ w' w7.heap.size 1 p31 k32 k33 ((opos first rs i ++ osec first rs i t).map I64) ∧ (∀ ad ad2, p25 = some ad → p31 = some ad2 → ad.block ≠ ad2.block), szAt rs i,
        ⟨0, rfl, by omega, rfl, rfl, F24, o25, by rw [show osec first rs i 0 = [] from rfl, List.append_nil]; exact o16', dj24⟩, ?_⟩
      rintro m p31 k32 k33 n34 n35 w36 ⟨t, rfl, ht, rfl, rfl, f36, o25', o31, dj36⟩
      have z36 := f36.size
      obtain ⟨_, g2⟩ := rrcells_get rs i hil
      have hr36 : Row w36 p (rrcells rs) := g_row f36 hr7 fun ad _ _ => by simp
      obtain ⟨ad, had⟩ := hr36.has (by rw [rrcells_len]; omega)
      have hs4 := hrs _ (List.getElem_mem hil)
      refine ⟨ad, had, ⟨by omega, hlt⟩, rs[i].2, ?_, (rsectors_c w36 (n := (rs[i].2.size : Int)) (by omega) (by omega)).mono ?_⟩
      · rw [show Int.toNat (i : Int) * 2 = i * 2 by omega, add2]
        exact hr36.get had g2
      rintro e w41 ⟨rfl, rfl⟩
      rw [show Int.toNat (rs[i].2.size : Int) = rs[i].2.size by omega, ← hsz]
      have lsec : (osec first rs i t).length = t := by simp [osec]
      have l32 := o31.len
      rw [List.length_map, List.length_append, lsec] at l32
      refine ⟨_, rfl, (fun x hx => rfl), bc (fun hlt2 => ?_) fun hge2 => ?_⟩
      · have hlt2 : (t : Int) < ((szAt rs i : Nat) : Int) := of_decide_eq_true hlt2
        intro k43
        rw [hspl]
        refine append_z o31 (n := 1) rfl (fun u hu => by simp at hu; subst hu; rfl) z36 rfl (fun h => by cases h) (fun ad _ => by simp) (fun ad hp hm => inv (o31.lt hp).1 hm) (by omega) (by omega) fun w44 p45 c45 f44 nw44 o44 d44 => ⟨szAt rs i - (t + 1), by omega, t + 1, by rw [wrapi (by omega) (by omega)]; simp, by omega, rfl, ?_, ?_, ?_, ?_, ?_⟩
        · rw [wrapi (by omega) (by omega)]; omega
        · refine f36.trans f44 fun x hx => ?_
          rw [List.nil_append, g_mem_pb] at hx
          obtain ⟨ad, hp, rfl⟩ := hx
          exact .inr (o31.lt hp).1
        · refine o25'.fr f44 fun ad hp hm => ?_
          rw [List.nil_append, g_mem_pb] at hm
          obtain ⟨ad2, hp2, e⟩ := hm
          exact dj36 ad ad2 hp hp2 e.symm
        · rw [osec_succ, ← List.append_assoc, List.map_append]; exact o44
        · intro ad ad2 hp hp2
          rcases d44 ad2 hp2 with e | e
          · exact dj36 ad ad2 hp e
          · have := (o25'.lt hp).2; omega
      · have hge2 : ¬ (t : Int) < ((szAt rs i : Nat) : Int) := of_decide_eq_false hge2
        have ht' : t = szAt rs i := by omega
        subst ht'
        exact ⟨rs.length - (i + 1), by omega, i + 1, by rw [wrapi (by omega) (by omega)]; simp, by omega, rfl, by rw [rend_next first rs hil], f36, o25', by rw [opos_succ]; exact o31, dj36⟩
    have hge : ¬ (i : Int) < (rs.length : Int) := of_decide_eq_false hge
    have hi' : i = rs.length := by omega
    subst hi'
    intro y50 hy50
    have hoth := others_eq hf hh he
    have fin : ∀ (code : Int) (v' : Value) (M' : DM) (u : World) (p52 : Option Addr) (k53 k54 : Nat) (p55 : Option Addr) (k56 k57 : Nat) (p58 : Option Addr) (k59 k60 : Nat) (n61 n62 : Int), v' = .agg #[.slice p52 k53 k54, .slice p55 k56 k57, .slice p58 k59 k60, I64 n61, I64 n62] →
        Fr [k1] w7 u → RefAt u v' (F ++ [k1, k2, k3, k4]) M' → lreset M L next = (if code ≠ 0 then (M', L, code) else (M', L.none next, 0)) → y50 code p52 k53 k54 p55 k56 k57 p58 k59 k60 n61 n62 u := fun code v' M' u p52 k53 k54 p55 k56 k57 p58 k59 k60 n61 n62 hv f hR hla => by
      refine hy50 _ _ _ _ _ _ _ _ _ _ _ _ _ (bc (fun hc u' st => ?_) fun hc u' st => ?_)
      · have hc : ¬ code = 0 := by simpa using hc
        rw [if_pos hc] at hla
        obtain ⟨g1, g2⟩ := out u u' v' M' f hR st
        subst hv
        exact ⟨_, rlog first count p c rs (q : Int), by rw [hla]; rfl, g1, by rw [hla]; exact g2, fun _ => rfl, fun h => by rw [hla] at h; exact absurd h hc⟩
      · have hc : code = 0 := by simpa using hc
        rw [if_neg (by simp [hc])] at hla
        obtain ⟨g1, g2⟩ := out u u' v' M' f hR st
        subst hv
        exact ⟨_, rlog first count none 0 [] next, by rw [hla]; rfl, g1, by rw [hla]; exact g2, fun h => by rw [hla] at h; exact absurd rfl h, fun _ => rfl⟩
    clear hy50
    have hla0 : lreset M L next = if L.heads = [] then (M, L.none next, 0) else if (wipe M L.heads).2 ≠ 0 then ((wipe M L.heads).1, L, (wipe M L.heads).2) else if (wipe (wipe M L.heads).1 (others L)).2 ≠ 0 then ((wipe (wipe M L.heads).1 (others L)).1, L, (wipe (wipe M L.heads).1 (others L)).2) else ((wipe (wipe M L.heads).1 (others L)).1, L.none next, 0) := by
      unfold lreset; simp only; rw [if_neg hnb]
    rw [hoth, hh] at hla0
    have R21 := h7.fr f21 (by simp)
    have hF21 : ∀ {u : World}, Fr [k1] w7 u → ∀ x ∈ F ++ [k1, k2, k3, k4], x < u.heap.size := fun {u} f x hx => by
      have := f.size
      rcases List.mem_append.1 hx with hx | hx
      · have := hF x hx; omega
      · have := ks x hx; omega
    have kp : ∀ {u u' : World}, Fr [k1] w7 u → Fr [] u u' → Keep [k1, k2, k3, k4] u u' := fun f f' => g_keep f' (fun x hx => ⟨by have := ks x hx; have := f.size; omega, by simp⟩)
    have k1s : ∀ x ∈ [k1], x ∈ F ++ [k1, k2, k3, k4] := fun x hx => by simp at hx; simp [hx]
    have f21' : Fr [k1] w7 w21 := f21.mono fun x hx => by cases hx
    have lp : (hpos first rs rs.length).length = k14 := by rw [hpos_len]; omega
    have lq : (opos first rs rs.length).length = k17 := by omega
    refine bc (fun hpos' => ?_) fun hz => ?_
    · have hpos' : (0 : Int) < (k14 : Int) := of_decide_eq_true hpos'
      rw [if_neg (fun e => by rw [e] at lp; simp at lp; omega)] at hla0
      have hw1 := rwipe_c R21 (hF21 f21') (aC := k15) o13.row (by omega)
      rw [lp] at hw1
      refine hw1.mono ?_
      rintro e w71 ⟨v', rfl, f71, hR71⟩
      have hR71' := hR71
      obtain ⟨_, sA', sC', nA', nC', fA', fC', rfl, _⟩ := hR71
      have f071 : Fr [k1] w7 w71 := f21'.trans f71 (fun x hx => by cases hx)
      refine ⟨_, _, _, _, _, _, _, _, _, _, _, _, rfl, kp f21' f71, bc (fun hc w84 st84 => ?_) fun hc w102 st102 => ?_⟩
      · have hc : (wipe M (hpos first rs rs.length)).2 = 0 := by simpa using hc
        rw [if_neg (by simp [hc])] at hla0
        have f084 : Fr [k1] w7 w84 := f071.trans' st84.fr
        have o84 : Row w84 p16 ((opos first rs rs.length).map I64) := g_row st84.fr (g_row f71 o16.row fun ad _ _ => by simp) fun ad hp _ hm => by
          have := (o16.lt hp).1
          have := ks k1 (by simp)
          simp at hm; omega
        have hw2 := rwipe_c (hR71'.fr st84.fr (fun x hx => .inl (k1s x hx))) (hF21 f084) (aC := k18) o84 (by omega)
        rw [lq] at hw2
        refine hw2.mono ?_
        rintro e w87 ⟨v', rfl, f87, hR87⟩
        have hR87' := hR87
        obtain ⟨_, sA', sC', nA', nC', fA', fC', rfl, _⟩ := hR87
        have f087 : Fr [k1] w7 w87 := f084.trans f87 (fun x hx => by cases hx)
        refine ⟨_, _, _, _, _, _, _, _, _, _, _, _, rfl, kp f084 f87, fun w100 st100 => ?_⟩
        exact fin _ _ _ _ _ _ _ _ _ _ _ _ _ _ _ rfl (f087.trans' st100.fr) (hR87'.fr st100.fr (fun x hx => .inl (k1s x hx))) hla0
      · have hc : ¬ (wipe M (hpos first rs rs.length)).2 = 0 := by simpa using hc
        refine fin _ _ _ _ _ _ _ _ _ _ _ _ _ _ _ rfl (f071.trans' st102.fr) (hR71'.fr st102.fr (fun x hx => .inl (k1s x hx))) ?_
        rw [hla0, if_pos hc, if_pos hc]
    · have hz : ¬ (0 : Int) < (k14 : Int) := of_decide_eq_false hz
      have e : hpos first rs rs.length = [] := List.length_eq_zero_iff.1 (by omega)
      refine fin 0 (rv sA sC nA nC fA fC M) M w21 _ _ _ _ _ _ _ _ _ _ _ rfl f21' R21 ?_
      rw [hla0, if_pos e]; rfl
  refine bc (fun hc w106 st => main w106 st true ⟨fun _ => .inl (of_decide_eq_true hc), fun _ => rfl⟩) fun hc w108 st => main w108 st _ ?_
  have hc := of_decide_eq_false hc
  rw [decide_eq_true_iff]
  constructor
  · exact fun h => .inr h
  · rintro (h | h)
    · exact absurd h hc
    · exact h

theorem rroom_c {w : World} {L : LM} {first count : Nat} {p : Option Addr} {c : Nat} {rs : RR} {q : Nat} (hr : Row w p (rrcells rs)) (hrs : ∀ r ∈ rs, r.2.size ≤ 4000) (hl : rs.length ≤ 4096) (hend : rend first rs ≤ first + count) (hfc : first + count ≤ 4096)
    (he : L.end_ = ((rend first rs : Nat) : Int)) (hb : L.behind = ((first + count : Nat) : Int)) (hq : L.next = (q : Int)) :
    Calls prog 47 #[rlog first count p c rs (q : Int)] w fun e w' => Fr [] w w' ∧ e = .returned (I64 L.room) := by
  refine rhizomeref04_Room.link fun k1 w2 st2 => ?_
  have n2 := g_new1 st2
  have hr2 : Row w2 p (rrcells rs) := g_row st2.fr hr fun ad _ _ => by simp
  refine (rend_c hr2 (by omega) (fun r hr => by have := hrs r hr; omega) (by omega)).mono ?_
  rintro e w5 ⟨rfl, f5⟩
  refine ⟨_, rfl, g_keep f5 (fun x hx => by simp at hx; subst hx; exact ⟨by omega, by simp⟩), fun y7 hy7 => ?_⟩
  have x1 : IntKind.wrap .i64 (IntKind.wrap .i64 (IntKind.wrap .i64 (IntKind.wrap .i64 ((first : Int) + (count : Int)) - ((rend first rs : Nat) : Int)) - 1) * 64) = (L.behind - L.end_ - 1) * 64 := by
    rw [wrapi (n := (first : Int) + (count : Int)) (by omega) (by omega), wrapi (n := (first : Int) + (count : Int) - _) (by omega) (by omega), wrapi (n := (first : Int) + (count : Int) - _ - 1) (by omega) (by omega), wrapi (by omega) (by omega), he, hb]
    omega
  have F5 : Fr [] w w5 := st2.fr.trans' f5
  rw [x1] at hy7 ⊢
  have spec : L.room = if MOST < L.next then -1 else max (-1) (min 4000 ((L.behind - L.end_ - 1) * 64)) := rfl
  have main : ∀ bb : Bool, (bb = true ↔ ((L.behind - L.end_ - 1) * 64 < 0 ∨ MOST < L.next)) → y7 bb w5 := fun bb hbb => by
    refine hy7 bb w5 (bc (fun hb' => ⟨F5, ?_⟩) fun hb' => bc (fun h4 => ⟨F5, ?_⟩) fun h4 => ⟨F5, ?_⟩)
    · rw [spec]
      rcases hbb.1 hb' with h | h
      · split
        · rfl
        · congr 2; omega
      · rw [if_pos h]
    all_goals
      have hn : ¬ ((L.behind - L.end_ - 1) * 64 < 0 ∨ MOST < L.next) := fun hx => by rw [hbb.2 hx] at hb'; cases hb'
      rw [spec, if_neg (fun h => hn (.inr h))]
      have h1 : ¬ (L.behind - L.end_ - 1) * 64 < 0 := fun h => hn (.inl h)
    · have h4 := of_decide_eq_true h4
      congr 2; omega
    · have h4 := of_decide_eq_false h4
      congr 2; omega
  refine bc (fun h => main true ⟨fun _ => .inl (of_decide_eq_true h), fun _ => rfl⟩) fun h => main _ ?_
  have h := of_decide_eq_false h
  rw [decide_eq_true_iff, ← hq]
  constructor
  · exact fun h => .inr h
  · rintro (h' | h')
    · exact absurd h' h
    · exact h'
end Go.Proofs.Ytcaamecdhbgknaa.Log
