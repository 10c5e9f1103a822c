/- The tree: balancing. -/
import Derived.Test.YtalegpdnhkopmaaDoorE4
namespace Go.Proofs.YtalegpdnhkopmaaDoor.Tree
open Go Go.V Go.RowKit
open Go.Proofs.YtalegpdnhkopmaaDoor.VC Go.Proofs.YtalegpdnhkopmaaDoor.By
open Go.Proofs.Tryd (prog)
set_option linter.unusedVariables false
set_option linter.unusedSimpArgs false

set_option maxHeartbeats 4000000 in
theorem balanced_c {X : Nat → Prop} {w0 : World} {L R : Tr} {pl pr kp vp : Option Addr} {kc vc : Nat} {k v : Bs} (hX : NewX X w0) (hL : TreeAt X w0 L pl) (hR : TreeAt X w0 R pr) (hp : PairAt X w0 kp kc vp vc k v) (hb : L.cnt + R.cnt ≤ 1000000) :
    Calls prog 150 #[.pointer pl, .agg #[.slice kp k.length kc, .slice vp v.length vc], .pointer pr] w0 fun e w' => ∃ p' T', e = .returned (.pointer p') ∧ Fr [] w0 w' ∧ TreeAt X w' T' p' ∧ T'.toL = L.toL ++ (k, v) :: R.toL := by
  refine tree_balanced.link fun k1 w2 s2 => ?_
  have F := s2.fr
  have n1 := g_new1 s2
  have K : k1 < w2.heap.size := n1.2
  have dL := L.dep_le
  have dR := R.dep_le
  refine (depth_c (hL.old F)).mono ?_
  rintro e w ⟨rfl, rfl⟩
  refine ⟨_, rfl, fun _ _ => rfl, (depth_c (hR.old F)).mono ?_⟩
  rintro e w ⟨rfl, rfl⟩
  refine ⟨_, rfl, fun _ _ => rfl, ?_⟩
  rw [wrapi (n := (R.dep : Int) + 1) (by omega) (by omega)]
  refine bc (fun hd => ?_) fun hd => ?_
  · have hd : (R.dep : Int) + 1 < (L.dep : Int) := of_decide_eq_true hd
    cases L with
    | nil => simp [Tr.dep] at hd; omega
    | node lk lv LL LR =>
    obtain ⟨adl, lkp, lkc, lvp, lvc, pll, plr, rfl, nl⟩ := hL.openF
    intro y10 h10
    have main : ∀ (b : Bool) (w : World), Fr [] w0 w → k1 < w.heap.size → (b = false → LR ≠ .nil) → y10 b w := by
      intro b w F K hne
      refine h10 _ _ (bc (fun _ => ?_) fun hbf => ?_)
      · intro y13 hy
        repeat' first
          | exact hy _ _ ⟨_, _, rfl, F, t, by simp [Tr.toL]⟩
          | refine ⟨_, rfl, ?_⟩
          | refine ⟨_, nl.cl F, ?_⟩
          | refine ⟨_, nl.cr F, ?_⟩
          | refine ⟨_, _, _, _, _, _, ⟨nl.ck F, nl.cv F, trivial⟩, ?_⟩
          | refine ⟨fun _ _ => rfl, ?_⟩
          | refine ⟨Kk, ?_⟩
          | (refine (join_c (hX.old F) (by first | exact nl.ta F | exact nl.tb F | exact t | exact u | exact hL.old F | exact hR.old F) (by first | exact nl.ta F | exact nl.tb F | exact t | exact u | exact hL.old F | exact hR.old F) (by first | exact nl.pr F | exact hp.old F) (by simp only [Tr.cnt] at hb ⊢; omega)).mono ?_; (try (have u := t; clear t)); rintro e w ⟨p, rfl, f, t⟩; have Kk := keepF (bs := [k1]) f (by simpa using K); replace F := F.trans' f; replace K := Nat.lt_of_lt_of_le K f.size; (try replace u := TreeAt.old u f))
          | (intro w' s'; replace F := F.trans' s'.fr; replace K := Nat.lt_of_lt_of_le K s'.fr.size; (try replace t := TreeAt.old t s'.fr); (try replace u := TreeAt.old u s'.fr))
          | refine ⟨?_, ?_⟩
      · have hne := hne hbf
        cases LR with
        | nil => exact absurd rfl hne
        | node mk mv ML MR =>
        obtain ⟨adm, mkp, mkc, mvp, mvc, pml, pmr, rfl, nm⟩ := (nl.tb (Fr.refl _ _)).openF
        refine ⟨_, rfl, _, nl.cr F, fun y13 hy => ?_⟩
        repeat' first
          | exact hy _ _ ⟨_, _, rfl, F, t, by simp [Tr.toL]⟩
          | refine ⟨_, rfl, ?_⟩
          | refine ⟨_, nl.cl F, ?_⟩
          | refine ⟨_, nl.cr F, ?_⟩
          | refine ⟨_, _, _, _, _, _, ⟨nl.ck F, nl.cv F, trivial⟩, ?_⟩
          | refine ⟨_, nm.cl F, ?_⟩
          | refine ⟨_, nm.cr F, ?_⟩
          | refine ⟨_, _, _, _, _, _, ⟨nm.ck F, nm.cv F, trivial⟩, ?_⟩
          | refine ⟨fun _ _ => rfl, ?_⟩
          | refine ⟨Kk, ?_⟩
          | (refine (join_c (hX.old F) (by first | exact nl.ta F | exact nl.tb F | exact nm.ta F | exact nm.tb F | exact t | exact u | exact hL.old F | exact hR.old F) (by first | exact nl.ta F | exact nl.tb F | exact nm.ta F | exact nm.tb F | exact t | exact u | exact hL.old F | exact hR.old F) (by first | exact nl.pr F | exact nm.pr F | exact hp.old F) (by simp only [Tr.cnt] at hb ⊢; omega)).mono ?_; (try (have u := t; clear t)); rintro e w ⟨p, rfl, f, t⟩; have Kk := keepF (bs := [k1]) f (by simpa using K); replace F := F.trans' f; replace K := Nat.lt_of_lt_of_le K f.size; (try replace u := TreeAt.old u f))
          | (intro w' s'; replace F := F.trans' s'.fr; replace K := Nat.lt_of_lt_of_le K s'.fr.size; (try replace t := TreeAt.old t s'.fr); (try replace u := TreeAt.old u s'.fr))
          | refine ⟨?_, ?_⟩
    refine ⟨_, rfl, _, nl.cl F, ?_⟩
    repeat' first
      | exact main _ _ F K (fun h e => by have := of_decide_eq_false h; rw [e] at this; simp [Tr.dep] at this)
      | refine ⟨_, rfl, ?_⟩
      | refine ⟨_, nl.cl F, ?_⟩
      | refine ⟨_, nl.cr F, ?_⟩
      | refine ⟨_, _, _, _, _, _, ⟨nl.ck F, nl.cv F, trivial⟩, ?_⟩
      | refine ⟨fun _ _ => rfl, ?_⟩
      | refine ⟨Kk, ?_⟩
      | (refine (depth_c (by first | exact nl.ta F | exact nl.tb F | exact hL.old F | exact hR.old F)).mono ?_; rintro e w ⟨rfl, rfl⟩)
      | (intro w' s'; replace F := F.trans' s'.fr; replace K := Nat.lt_of_lt_of_le K s'.fr.size; (try replace t := TreeAt.old t s'.fr); (try replace u := TreeAt.old u s'.fr))
      | refine ⟨?_, ?_⟩
  · have hd : ¬ (R.dep : Int) + 1 < (L.dep : Int) := of_decide_eq_false hd
    refine (depth_c (hR.old F)).mono ?_
    rintro e w ⟨rfl, rfl⟩
    refine ⟨_, rfl, fun _ _ => rfl, (depth_c (hL.old F)).mono ?_⟩
    rintro e w ⟨rfl, rfl⟩
    refine ⟨_, rfl, fun _ _ => rfl, ?_⟩
    rw [wrapi (n := (L.dep : Int) + 1) (by omega) (by omega)]
    refine bc (fun hd => ?_) fun hd => ?_
    · have hd : (L.dep : Int) + 1 < (R.dep : Int) := of_decide_eq_true hd
      cases R with
      | nil => simp [Tr.dep] at hd; omega
      | node lk lv RL RR =>
      obtain ⟨adl, lkp, lkc, lvp, lvc, pll, plr, rfl, nl⟩ := hR.openF
      intro y10 h10
      have main : ∀ (b : Bool) (w : World), Fr [] w0 w → k1 < w.heap.size → (b = false → RL ≠ .nil) → y10 b w := by
        intro b w F K hne
        refine h10 _ _ (bc (fun _ => ?_) fun hbf => ?_)
        · intro y13 hy
          repeat' first
            | exact hy _ _ ⟨_, _, rfl, F, t, by simp [Tr.toL]⟩
            | refine ⟨_, rfl, ?_⟩
            | refine ⟨_, nl.cl F, ?_⟩
            | refine ⟨_, nl.cr F, ?_⟩
            | refine ⟨_, _, _, _, _, _, ⟨nl.ck F, nl.cv F, trivial⟩, ?_⟩
            | refine ⟨fun _ _ => rfl, ?_⟩
            | refine ⟨Kk, ?_⟩
            | (refine (join_c (hX.old F) (by first | exact nl.ta F | exact nl.tb F | exact t | exact u | exact hL.old F | exact hR.old F) (by first | exact nl.ta F | exact nl.tb F | exact t | exact u | exact hL.old F | exact hR.old F) (by first | exact nl.pr F | exact hp.old F) (by simp only [Tr.cnt] at hb ⊢; omega)).mono ?_; (try (have u := t; clear t)); rintro e w ⟨p, rfl, f, t⟩; have Kk := keepF (bs := [k1]) f (by simpa using K); replace F := F.trans' f; replace K := Nat.lt_of_lt_of_le K f.size; (try replace u := TreeAt.old u f))
            | (intro w' s'; replace F := F.trans' s'.fr; replace K := Nat.lt_of_lt_of_le K s'.fr.size; (try replace t := TreeAt.old t s'.fr); (try replace u := TreeAt.old u s'.fr))
            | refine ⟨?_, ?_⟩
        · have hne := hne hbf
          cases RL with
          | nil => exact absurd rfl hne
          | node mk mv ML MR =>
          obtain ⟨adm, mkp, mkc, mvp, mvc, pml, pmr, rfl, nm⟩ := (nl.ta (Fr.refl _ _)).openF
          refine ⟨_, rfl, _, nl.cl F, fun y13 hy => ?_⟩
          repeat' first
            | exact hy _ _ ⟨_, _, rfl, F, t, by simp [Tr.toL]⟩
            | refine ⟨_, rfl, ?_⟩
            | refine ⟨_, nl.cl F, ?_⟩
            | refine ⟨_, nl.cr F, ?_⟩
            | refine ⟨_, _, _, _, _, _, ⟨nl.ck F, nl.cv F, trivial⟩, ?_⟩
            | refine ⟨_, nm.cl F, ?_⟩
            | refine ⟨_, nm.cr F, ?_⟩
            | refine ⟨_, _, _, _, _, _, ⟨nm.ck F, nm.cv F, trivial⟩, ?_⟩
            | refine ⟨fun _ _ => rfl, ?_⟩
            | refine ⟨Kk, ?_⟩
            | (refine (join_c (hX.old F) (by first | exact nl.ta F | exact nl.tb F | exact nm.ta F | exact nm.tb F | exact t | exact u | exact hL.old F | exact hR.old F) (by first | exact nl.ta F | exact nl.tb F | exact nm.ta F | exact nm.tb F | exact t | exact u | exact hL.old F | exact hR.old F) (by first | exact nl.pr F | exact nm.pr F | exact hp.old F) (by simp only [Tr.cnt] at hb ⊢; omega)).mono ?_; (try (have u := t; clear t)); rintro e w ⟨p, rfl, f, t⟩; have Kk := keepF (bs := [k1]) f (by simpa using K); replace F := F.trans' f; replace K := Nat.lt_of_lt_of_le K f.size; (try replace u := TreeAt.old u f))
            | (intro w' s'; replace F := F.trans' s'.fr; replace K := Nat.lt_of_lt_of_le K s'.fr.size; (try replace t := TreeAt.old t s'.fr); (try replace u := TreeAt.old u s'.fr))
            | refine ⟨?_, ?_⟩
      repeat' first
        | exact main _ _ F K (fun h e => by have := of_decide_eq_false h; rw [e] at this; simp [Tr.dep] at this)
        | refine ⟨_, rfl, ?_⟩
        | refine ⟨_, nl.cl F, ?_⟩
        | refine ⟨_, nl.cr F, ?_⟩
        | refine ⟨_, _, _, _, _, _, ⟨nl.ck F, nl.cv F, trivial⟩, ?_⟩
        | refine ⟨fun _ _ => rfl, ?_⟩
        | refine ⟨Kk, ?_⟩
        | (refine (depth_c (by first | exact nl.ta F | exact nl.tb F | exact hL.old F | exact hR.old F)).mono ?_; rintro e w ⟨rfl, rfl⟩)
        | (intro w' s'; replace F := F.trans' s'.fr; replace K := Nat.lt_of_lt_of_le K s'.fr.size; (try replace t := TreeAt.old t s'.fr); (try replace u := TreeAt.old u s'.fr))
        | refine ⟨?_, ?_⟩
    · repeat' first
        | refine ⟨_, rfl, ?_⟩
        | refine ⟨fun _ _ => rfl, ?_⟩
        | refine ⟨Kk, ?_⟩
        | (refine (join_c (hX.old F) (hL.old F) (hR.old F) (hp.old F) (by omega)).mono ?_; rintro e w ⟨p, rfl, f, t⟩; exact ⟨_, rfl, keepF (bs := [k1]) f (by simpa using K), _, _, rfl, F.trans' f, t, rfl⟩)
        | (intro w' s'; replace F := F.trans' s'.fr; replace K := Nat.lt_of_lt_of_le K s'.fr.size; (try replace t := TreeAt.old t s'.fr); (try replace u := TreeAt.old u s'.fr))
        | refine ⟨?_, ?_⟩
end Go.Proofs.YtalegpdnhkopmaaDoor.Tree
