/- The tree: put, first, remove. -/
import Derived.Test.YtalegpdnhkopmaaDoorE5
namespace Go.Proofs.YtalegpdnhkopmaaDoor.Tree
open Go Go.V Go.RowKit
open Go.Proofs.YtalegpdnhkopmaaDoor.VC Go.Proofs.YtalegpdnhkopmaaDoor.By
open Go.Proofs.Tryd (prog)
set_option linter.unusedVariables false
set_option linter.unusedSimpArgs false

theorem insL_len (k v : Bs) : ∀ L : List KV, L.length ≤ (insL k v L).length ∧ (insL k v L).length ≤ L.length + 1
  | [] => by simp [insL]
  | x :: L => by
    have := insL_len k v L
    rw [insL]
    split
    · simp
    · split
      · simp
      · simp only [List.length_cons]; omega
theorem insL_cnt {T T' : Tr} {k v : Bs} (h : T'.toL = insL k v T.toL) : T'.cnt ≤ T.cnt + 1 := by
  have := (insL_len k v T.toL).2
  rw [← h, Tr.len, Tr.len] at this; exact this
theorem delL_cnt {T T' : Tr} {k : Bs} (h : T'.toL = delL k T.toL) : T'.cnt ≤ T.cnt := by
  have : (delL k T.toL).length ≤ T.toL.length := List.length_filter_le _ _
  rw [← h, Tr.len, Tr.len] at this; exact this
theorem rowL {w w' : World} {A : Option Addr} {s : Bs} (h : Row w A (s.map U8)) (hf : Fr [] w w') : Row w' A (s.map U8) := h.old hf

set_option maxHeartbeats 2000000 in
theorem put_c : ∀ (T : Tr) {X : Nat → Prop} {w0 : World} {pt kp vp : Option Addr} {kc vc : Nat} {k v : Bs} (hX : NewX X w0) (hT : TreeAt X w0 T pt) (hp : PairAt X w0 kp kc vp vc k v) (hs : Srt T.toL) (hb : T.cnt ≤ 900000),
    Calls prog 109 #[.pointer pt, .agg #[.slice kp k.length kc, .slice vp v.length vc]] w0 fun e w' => ∃ p' T', e = .returned (.pointer p') ∧ Fr [] w0 w' ∧ TreeAt X w' T' p' ∧ T'.toL = insL k v T.toL
  | .nil, X, w0, pt, kp, vp, kc, vc, k, v, hX, hT, hp, hs, hb => by
    obtain rfl : pt = none := hT
    refine tree_put.link fun k1 => bT rfl fun w2 s2 => ?_
    have n1 := g_new1 s2
    have K : k1 < w2.heap.size := n1.2
    refine (join_c (L := .nil) (R := .nil) (hX.old s2.fr) rfl rfl (hp.old s2.fr) (by simp [Tr.cnt])).mono ?_
    rintro e w ⟨p, rfl, f, t⟩
    exact ⟨_, rfl, keepF (bs := [k1]) f (by simpa using K), _, _, rfl, s2.fr.trans' f, t, rfl⟩
  | .node nk nv l r, X, w0, pt, kp, vp, kc, vc, k, v, hX, hT, hp, hs, hb => by
    have ihl := @put_c l
    have ihr := @put_c r
    have hb : 1 + l.cnt + r.cnt ≤ 900000 := hb
    obtain ⟨sl, sr, hA, hB⟩ := Srt.mid (x := (nk, nv)) hs
    obtain ⟨ad, nkp, nkc, nvp, nvc, pl, pr, rfl, n⟩ := hT.openF
    refine tree_put.link fun k1 => bF rfl ⟨_, rfl, _, _, _, n.ck (Fr.refl _ _), fun w11 s11 => ?_⟩
    have F := s11.fr
    have n1 := g_new1 s11
    have K : k1 < w11.heap.size := n1.2
    refine (compare_c (hp.old F).k (n.pr F).k).mono ?_
    rintro e w ⟨rfl, rfl⟩
    refine ⟨_, rfl, fun _ _ => rfl, bc (fun hc => ?_) fun hc => ?_⟩
    · have hc : lt8 k nk := cmpB_lt.1 (of_decide_eq_true hc)
      have fin : ∀ {T' T2 : Tr}, T'.toL = insL k v l.toL → T2.toL = T'.toL ++ (nk, nv) :: r.toL → T2.toL = insL k v (Tr.node nk nv l r).toL := fun h1 h2 => by
        rw [h2, h1]; exact (insL_lt hc).symm
      intro y hy
      repeat' first
        | exact hy _ _ ⟨_, _, rfl, F, t2, fin et e2⟩
        | refine ⟨_, rfl, ?_⟩
        | refine ⟨_, n.cl F, ?_⟩
        | refine ⟨_, n.cr F, ?_⟩
        | refine ⟨_, _, _, _, _, _, ⟨n.ck F, n.cv F, trivial⟩, ?_⟩
        | refine ⟨fun _ _ => rfl, ?_⟩
        | refine ⟨Kk, ?_⟩
        | (refine (ihl (hX.old F) (n.ta F) (hp.old F) sl (by omega)).mono ?_; rintro e w ⟨p, T', rfl, f, t, et⟩; have ct := insL_cnt et; (try have Kk := keepF (bs := [k1]) f (by simpa using K)); replace F := F.trans' f; (try replace K := Nat.lt_of_lt_of_le K f.size))
        | (refine (balanced_c (hX.old F) (by first | exact t | exact n.ta F) (by first | exact t | exact n.tb F) (n.pr F) (by omega)).mono ?_; rintro e w ⟨p, T2, rfl, f, t2, e2⟩; (try have Kk := keepF (bs := [k1]) f (by simpa using K)); replace F := F.trans' f; (try replace K := Nat.lt_of_lt_of_le K f.size))
        | (intro w' s'; replace F := F.trans' s'.fr; (try replace K := Nat.lt_of_lt_of_le K s'.fr.size); (try replace t := TreeAt.old t s'.fr))
        | refine ⟨?_, ?_⟩
    · have hc : ¬ lt8 k nk := fun z => of_decide_eq_false hc (cmpB_lt.2 z)
      refine bc (fun hd => ?_) fun hd => ?_
      · have hd : lt8 nk k := cmpB_gt.1 (of_decide_eq_true hd)
        have fin : ∀ {T' T2 : Tr}, T'.toL = insL k v r.toL → T2.toL = l.toL ++ (nk, nv) :: T'.toL → T2.toL = insL k v (Tr.node nk nv l r).toL := fun h1 h2 => by
          rw [h2, h1]; exact (insL_gt hd hA).symm
        intro y hy
        repeat' first
          | exact hy _ _ ⟨_, _, rfl, F, t2, fin et e2⟩
          | refine ⟨_, rfl, ?_⟩
          | refine ⟨_, n.cl F, ?_⟩
          | refine ⟨_, n.cr F, ?_⟩
          | refine ⟨_, _, _, _, _, _, ⟨n.ck F, n.cv F, trivial⟩, ?_⟩
          | refine ⟨fun _ _ => rfl, ?_⟩
          | refine ⟨Kk, ?_⟩
          | (refine (ihr (hX.old F) (n.tb F) (hp.old F) sr (by omega)).mono ?_; rintro e w ⟨p, T', rfl, f, t, et⟩; have ct := insL_cnt et; (try have Kk := keepF (bs := [k1]) f (by simpa using K)); replace F := F.trans' f; (try replace K := Nat.lt_of_lt_of_le K f.size))
          | (refine (balanced_c (hX.old F) (by first | exact t | exact n.ta F) (by first | exact t | exact n.tb F) (n.pr F) (by omega)).mono ?_; rintro e w ⟨p, T2, rfl, f, t2, e2⟩; (try have Kk := keepF (bs := [k1]) f (by simpa using K)); replace F := F.trans' f; (try replace K := Nat.lt_of_lt_of_le K f.size))
          | (intro w' s'; replace F := F.trans' s'.fr; (try replace K := Nat.lt_of_lt_of_le K s'.fr.size); (try replace t := TreeAt.old t s'.fr))
          | refine ⟨?_, ?_⟩
      · have hd : ¬ lt8 nk k := fun z => of_decide_eq_false hd (cmpB_gt.2 z)
        obtain rfl : k = nk := by
          rcases lt8_total k nk with h | h | h
          · exact absurd h hc
          · exact h
          · exact absurd h hd
        refine ⟨_, rfl, _, n.cl F, _, rfl, _, n.cr F, fun w' s' => ?_⟩
        have F' := F.trans' s'.fr
        refine (join_c (hX.old F') (n.ta F') (n.tb F') (hp.old F') (by omega)).mono ?_
        rintro e w ⟨p, rfl, f, t⟩
        refine ⟨_, rfl, keepF (bs := [k1]) f (by have := s'.fr.size; simp; omega), _, _, rfl, F'.trans' f, t, ?_⟩
        exact (insL_eq (x := (k, nv)) hA).symm

theorem first_c : ∀ (T : Tr) {X : Nat → Prop} {w0 : World} {pt : Option Addr} (hX : NewX X w0) (hT : TreeAt X w0 T pt) (hne : T ≠ .nil) (hb : T.cnt ≤ 900000),
    Calls prog 151 #[.pointer pt] w0 fun e w' => ∃ (kp : Option Addr) (kc : Nat) (vp : Option Addr) (vc : Nat) (k v : Bs) (p' : Option Addr) (T' : Tr), e = .returned (.tuple #[.agg #[.slice kp k.length kc, .slice vp v.length vc], .pointer p']) ∧ Fr [] w0 w' ∧ PairAt X w' kp kc vp vc k v ∧ TreeAt X w' T' p' ∧ T.toL = (k, v) :: T'.toL
  | .nil, X, w0, pt, hX, hT, hne, hb => absurd rfl hne
  | .node nk nv l r, X, w0, pt, hX, hT, hne, hb => by
    have ihl := @first_c l
    have hb : 1 + l.cnt + r.cnt ≤ 900000 := hb
    obtain ⟨ad, nkp, nkc, nvp, nvc, pl, pr, rfl, n⟩ := hT.openF
    have R0 := Fr.refl [] w0
    refine tree_first.link fun k1 => ⟨_, rfl, _, n.cl R0, ?_⟩
    cases l with
    | nil =>
      obtain rfl : pl = none := n.ta R0
      refine bT rfl fun y4 h4 => ⟨_, rfl, _, _, _, _, _, _, ⟨n.ck R0, n.cv R0, trivial⟩, _, rfl, ?_⟩
      have fin : ∀ w', Step w0 w' [] [k1] → y4 pr nkp nk.length nkc nvp nv.length nvc w' := fun w' s' => h4 _ _ _ _ _ _ _ _ ⟨nkp, nkc, nvp, nvc, nk, nv, _, r, rfl, s'.fr, n.pr s'.fr, n.tb s'.fr, rfl⟩
      exact ⟨⟨_, n.cr R0, fin⟩, _, n.cr R0, fin⟩
    | node lk lv ll lr =>
      obtain ⟨ad2, _, _, _, _, _, _, rfl, _⟩ := (n.ta R0).openF
      refine bF rfl ⟨_, rfl, _, n.cl R0, fun w31 s31 => ?_⟩
      have F := s31.fr
      have n1 := g_new1 s31
      -- all that is known lies off k1
      have up : ∀ b, b < w0.heap.size → X b → X b ∧ b ≠ k1 := fun b hb h => ⟨h, by omega⟩
      have hX1 : NewX (fun b => X b ∧ b ≠ k1) w31 := fun b hb => ⟨hX b (by omega), by omega⟩
      have tl := ((n.ta R0).mono up).old F
      have tr := ((n.tb R0).mono up).old F
      have pn := ((n.pr R0).mono up).old F
      refine (ihl hX1 tl (fun h => by cases h) (by omega)).mono ?_
      rintro e w ⟨kp, kc, vp, vc, k, v, p', T', rfl, f, hp, t, et⟩
      have F2 := F.trans' f
      have z := f.size
      have ct : T'.cnt + 1 = (Tr.node lk lv ll lr).cnt := by rw [← Tr.len, ← Tr.len, et]; rfl
      refine ⟨_, _, _, _, _, _, _, rfl, keepF (bs := [k1]) f (by simpa using n1.2), fun k42 => ⟨_, rfl, _, _, _, _, _, _, ⟨n.ck F2, n.cv F2, trivial⟩, _, rfl, _, n.cr F2, fun w52 s52 => ?_⟩⟩
      have F3 := F2.trans' s52.fr
      have n2 := g_new1 s52
      have z3 := s52.fr.size
      have f3 := f.trans' s52.fr
      refine (balanced_c (hX1.old f3) (t.old s52.fr) (tr.old f3) (pn.old f3) (by omega)).mono ?_
      rintro e w' ⟨p2, T2, rfl, f2, t2, e2⟩
      refine ⟨_, rfl, keepF (bs := [k1, k42]) f2 (by simp; omega), fun w57 s57 => ?_⟩
      have F4 : Fr [] w0 w57 := (F3.trans' f2).trans s57.fr fun x hx => by rw [List.mem_singleton.1 hx]; exact .inr n1.1
      have off : ∀ x ∈ [k1], ¬ (X x ∧ x ≠ k1) := fun x hx => by rw [List.mem_singleton.1 hx]; exact fun h => h.2 rfl
      have hp2 := (((hp.old s52.fr).old f2).off s57.fr off).mono (Y := X) fun b _ h => h.1
      have t3 := (t2.off s57.fr off).mono (Y := X) fun b _ h => h.1
      refine ⟨kp, kc, vp, vc, k, v, p2, T2, rfl, F4, hp2, t3, ?_⟩
      rw [e2]
      show (Tr.node lk lv ll lr).toL ++ (nk, nv) :: r.toL = _
      rw [et]; rfl

set_option maxHeartbeats 2000000 in
theorem remove_c : ∀ (T : Tr) {X : Nat → Prop} {w0 : World} {pt kp : Option Addr} {kc : Nat} {k : Bs} (hX : NewX X w0) (hT : TreeAt X w0 T pt) (hk : Row w0 kp (k.map U8)) (hs : Srt T.toL) (hin : lookL k T.toL ≠ none) (hb : T.cnt ≤ 900000),
    Calls prog 112 #[.pointer pt, .slice kp k.length kc] w0 fun e w' => ∃ p' T', e = .returned (.pointer p') ∧ Fr [] w0 w' ∧ TreeAt X w' T' p' ∧ T'.toL = delL k T.toL
  | .nil, X, w0, pt, kp, kc, k, hX, hT, hk, hs, hin, hb => absurd rfl hin
  | .node nk nv l r, X, w0, pt, kp, kc, k, hX, hT, hk, hs, hin, hb => by
    have ihl := @remove_c l
    have ihr := @remove_c r
    have hb : 1 + l.cnt + r.cnt ≤ 900000 := hb
    have hs' : Srt (l.toL ++ (nk, nv) :: r.toL) := hs
    obtain ⟨sl, sr, hA, hB⟩ := hs'.mid
    obtain ⟨ad, nkp, nkc, nvp, nvc, pl, pr, rfl, n⟩ := hT.openF
    have F := Fr.refl [] w0
    refine tree_remove.link ⟨_, rfl, _, _, _, n.ck F, (compare_c (ca := kc) hk (n.pr F).k).mono ?_⟩
    rintro e w ⟨rfl, rfl⟩
    refine ⟨_, rfl, bc (fun hc => ?_) fun hc => ?_⟩
    · have hc : lt8 k nk := cmpB_lt.1 (of_decide_eq_true hc)
      have hin : lookL k l.toL ≠ none := by rw [← lookL_lt hs' hc]; exact hin
      have fin : ∀ {T' T2 : Tr}, T'.toL = delL k l.toL → T2.toL = T'.toL ++ (nk, nv) :: r.toL → T2.toL = delL k (Tr.node nk nv l r).toL := fun h1 h2 => by
        rw [h2, h1]; exact (delL_lt hs' hc).symm
      intro y hy
      repeat' first
        | exact hy _ _ ⟨_, _, rfl, F, t2, fin et e2⟩
        | refine ⟨_, rfl, ?_⟩
        | refine ⟨_, n.cl F, ?_⟩
        | refine ⟨_, n.cr F, ?_⟩
        | refine ⟨_, _, _, _, _, _, ⟨n.ck F, n.cv F, trivial⟩, ?_⟩
        | refine ⟨fun _ _ => rfl, ?_⟩
        | refine ⟨Kk, ?_⟩
        | (refine (ihl (hX.old F) (n.ta F) (hk.old F) sl hin (by omega)).mono ?_; rintro e w ⟨p, T', rfl, f, t, et⟩; have ct := delL_cnt et; replace F := F.trans' f)
        | (refine (balanced_c (hX.old F) (by first | exact t | exact n.ta F) (by first | exact t | exact n.tb F) (n.pr F) (by omega)).mono ?_; rintro e w ⟨p, T2, rfl, f, t2, e2⟩; replace F := F.trans' f)
        | (intro w' s'; replace F := F.trans' s'.fr; (try replace K := Nat.lt_of_lt_of_le K s'.fr.size); (try replace t := TreeAt.old t s'.fr))
        | refine ⟨?_, ?_⟩
    · have hc : ¬ lt8 k nk := fun z => of_decide_eq_false hc (cmpB_lt.2 z)
      refine bc (fun hd => ?_) fun hd => ?_
      · have hd : lt8 nk k := cmpB_gt.1 (of_decide_eq_true hd)
        have hin : lookL k r.toL ≠ none := by rw [← lookL_gt hs' hd]; exact hin
        have fin : ∀ {T' T2 : Tr}, T'.toL = delL k r.toL → T2.toL = l.toL ++ (nk, nv) :: T'.toL → T2.toL = delL k (Tr.node nk nv l r).toL := fun h1 h2 => by
          rw [h2, h1]; exact (delL_gt hs' hd).symm
        intro y hy
        repeat' first
          | exact hy _ _ ⟨_, _, rfl, F, t2, fin et e2⟩
          | refine ⟨_, rfl, ?_⟩
          | refine ⟨_, n.cl F, ?_⟩
          | refine ⟨_, n.cr F, ?_⟩
          | refine ⟨_, _, _, _, _, _, ⟨n.ck F, n.cv F, trivial⟩, ?_⟩
          | refine ⟨fun _ _ => rfl, ?_⟩
          | refine ⟨Kk, ?_⟩
          | (refine (ihr (hX.old F) (n.tb F) (hk.old F) sr hin (by omega)).mono ?_; rintro e w ⟨p, T', rfl, f, t, et⟩; have ct := delL_cnt et; replace F := F.trans' f)
          | (refine (balanced_c (hX.old F) (by first | exact t | exact n.ta F) (by first | exact t | exact n.tb F) (n.pr F) (by omega)).mono ?_; rintro e w ⟨p, T2, rfl, f, t2, e2⟩; replace F := F.trans' f)
          | (intro w' s'; replace F := F.trans' s'.fr; (try replace K := Nat.lt_of_lt_of_le K s'.fr.size); (try replace t := TreeAt.old t s'.fr))
          | refine ⟨?_, ?_⟩
      · have hd : ¬ lt8 nk k := fun z => of_decide_eq_false hd (cmpB_gt.2 z)
        obtain rfl : k = nk := by
          rcases lt8_total k nk with h | h | h
          · exact absurd h hc
          · exact h
          · exact absurd h hd
        have hdel : delL k (Tr.node k nv l r).toL = l.toL ++ r.toL := delL_eq (x := (k, nv)) hs'
        refine ⟨_, rfl, _, n.cr F, ?_⟩
        cases r with
        | nil =>
          obtain rfl : pr = none := n.tb F
          exact bT rfl ⟨_, rfl, _, n.cl F, _, _, rfl, F, n.ta F, by rw [hdel]; simp [Tr.toL]⟩
        | node rk rv rl rr =>
          obtain ⟨ad2, _, _, _, _, _, _, rfl, _⟩ := (n.tb F).openF
          refine bF rfl ⟨_, rfl, _, n.cr F, (first_c _ hX (n.tb F) (fun h => by cases h) (by omega)).mono ?_⟩
          rintro e w ⟨kp2, kc2, vp2, vc2, k2, v2, p', T', rfl, f, hp2, t, et⟩
          have ct : T'.cnt + 1 = (Tr.node rk rv rl rr).cnt := by rw [← Tr.len, ← Tr.len, et]; rfl
          refine ⟨_, _, _, _, _, _, _, rfl, fun k177 => ⟨_, rfl, _, n.cl f, fun w180 s180 => ?_⟩⟩
          have n1 := g_new1 s180
          refine (balanced_c (hX.old (f.trans' s180.fr)) (n.ta (f.trans' s180.fr)) (t.old s180.fr) (hp2.old s180.fr) (by omega)).mono ?_
          rintro e w' ⟨p2, T2, rfl, f2, t2, e2⟩
          refine ⟨_, rfl, keepF (bs := [k177]) f2 (by simpa using n1.2), _, _, rfl, (f.trans' s180.fr).trans' f2, t2, ?_⟩
          rw [e2, hdel, et]
end Go.Proofs.YtalegpdnhkopmaaDoor.Tree
