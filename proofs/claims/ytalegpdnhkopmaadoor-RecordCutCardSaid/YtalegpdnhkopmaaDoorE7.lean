/- The tree's methods. -/
import Derived.Test.YtalegpdnhkopmaaDoorE6
namespace Go.Proofs.YtalegpdnhkopmaaDoor.Tree
open Go Go.V Go.RowKit
open Go.Proofs.YtalegpdnhkopmaaDoor.VC Go.Proofs.YtalegpdnhkopmaaDoor.By
open Go.Proofs.Tryd (prog)
set_option linter.unusedVariables false
set_option linter.unusedSimpArgs false

theorem nil_of {w : World} {s : Bs} (h : Row w none (s.map U8)) : s = [] := by
  cases s with
  | nil => rfl
  | cons x k => obtain ⟨ad, hp⟩ := h.has (by simp); cases hp
theorem clone_c {w : World} {A : Option Addr} {s : Bs} {c : Nat} (h : Row w A (s.map U8)) (hl : s.length ≤ 1000000) :
    Calls prog 57 #[.slice A s.length c] w fun e w' => Fr [] w w' ∧ ∃ p c', e = .returned (.slice p s.length c') ∧ OwnZ w' w.heap.size 1 p s.length c' (s.map U8) := by
  refine slices_Clone_g_byte.link (bc (fun hn => ?_) fun hn k1 w2 s2 b2 => ?_)
  · cases A with
    | some a => cases hn
    | none =>
      obtain rfl := nil_of h
      exact ⟨Fr.refl _ _, none, 0, rfl, OwnZ.nil _ _ _⟩
  · have n2 := g_new1 s2
    have z2 := s2.fr.size
    have b2 : Blk w2 k1 [] := b2
    have o2 : OwnZ w2 w.heap.size 1 (some ⟨k1, 0, none⟩) ([] : Bs).length 0 (([] : Bs).map U8) := OwnZ.blk b2 rfl (by simp) n2.1
    refine ⟨s.map U8, by simp, h.old s2.fr, ?_⟩
    refine appMN (C := U8) (fun _ => rfl) (ys := []) (zs := s) rfl (u := w) (B := w.heap.size) o2 s2.fr rfl (Nat.le_refl _) z2 (fun _ => rfl) (by simp) (fun ad hp => by simp) (by simp; omega) (by simp; omega) fun w6 p7 c9 F6 _ _ o6 _ => ?_
    rw [List.nil_append] at o6 ⊢
    exact ⟨F6, _, _, rfl, o6⟩
theorem own_c {w : World} {kp vp : Option Addr} {kc vc : Nat} {k v : Bs} (hk : Row w kp (k.map U8)) (hv : Row w vp (v.map U8)) (lk : k.length ≤ 1000000) (lv : v.length ≤ 1000000) :
    Calls prog 110 #[.agg #[.slice kp k.length kc, .slice vp v.length vc]] w fun e w' => Fr [] w w' ∧ ∃ kp' kc' vp' vc', e = .returned (.agg #[.slice kp' k.length kc', .slice vp' v.length vc']) ∧ OwnZ w' w.heap.size 1 kp' k.length kc' (k.map U8) ∧ OwnZ w' w.heap.size 1 vp' v.length vc' (v.map U8) := by
  refine tree_own.link fun k1 k2 w3 s3 => ?_
  have n3 := g_new2 s3
  have f3 := s3.fr
  refine (clone_c (hk.old f3) lk).mono ?_
  rintro e w6 ⟨f6, p7, c9, rfl, o7⟩
  have z6 := f6.size
  refine ⟨_, _, _, rfl, keepF f6 (by simp; omega), (clone_c (hv.old (f3.trans' f6)) lv).mono ?_⟩
  rintro e w11 ⟨f11, p12, c14, rfl, o12⟩
  have z11 := f11.size
  refine ⟨_, _, _, rfl, keepF f11 (by simp; omega), fun w15 s15 => ⟨((f3.trans' f6).trans' f11).trans s15.fr (fun x hx => by rw [List.mem_singleton.1 hx]; exact .inr n3.1), p7, c9, p12, c14, rfl, ?_, ?_⟩⟩
  · exact ((o7.fr f11 (by simp)).fr s15.fr (fun ad hp => by have := (o7.lt hp).1; simp; omega)).mono f3.size
  · exact (o12.fr s15.fr (fun ad hp => by have := (o12.lt hp).1; simp; omega)).mono (by have := f3.size; omega)
theorem ownz_pair {w : World} {B : Nat} {kp vp : Option Addr} {kc vc : Nat} {k v : Bs} (h : OwnZ w B 1 kp k.length kc (k.map U8)) (h2 : OwnZ w B 1 vp v.length vc (v.map U8)) : PairAt All w kp kc vp vc k v :=
  ⟨h.2.1, h2.2.1, fun _ _ _ => trivial, fun _ _ _ => trivial, h.row, h2.row⟩
abbrev P0 (t : Nat) : Addr := ⟨t, 0, none⟩
theorem cell0 {w : World} {t : Nat} {x : Value} (h : Blk w t [x]) : w.cell? (Addr.add (P0 t) 0) = some x := by rw [add_mk, h.cell]; rfl
theorem new_c (w : World) : Calls prog 58 #[] w fun e w' => Fr [] w w' ∧ ∃ t, e = .returned (.pointer (some (P0 t))) ∧ w.heap.size ≤ t ∧ TObj w' t [] :=
  tree_New.link (_u := ()) fun k1 w2 s2 b2 => ⟨s2.fr, k1, rfl, (g_new1 s2).1, none, .nil, b2, rfl, rfl, .nil, by simp⟩
theorem len_c {w : World} {t : Nat} {L : List KV} (h : TObj w t L) : Calls prog 68 #[.pointer (some (P0 t))] w fun e w' => e = .returned (.int .i64 (L.length : Int)) ∧ w' = w := by
  obtain ⟨p, T, hb, hT, rfl, h2, h3⟩ := h
  refine tree_Tree_Len.link ⟨p, cell0 hb, (count_c hT).mono ?_⟩
  rintro e w' ⟨rfl, rfl⟩
  exact ⟨_, rfl, by rw [Tr.len], rfl⟩
/-- The root is written. -/
theorem TObj.put {w w' : World} {t : Nat} {p p' : Option Addr} {T' : Tr} {L' : List KV} (hb : Blk w t [.pointer p]) (hT : TreeAt All w T' p') (hu : Upd w w' t [.pointer p']) (e : T'.toL = L') (hs : Srt L') (hl : L'.length ≤ 1000000) : TObj w' t L' :=
  ⟨p', T', hu.blk, hT.fr hu.fr fun x hx => by rw [List.mem_singleton.1 hx]; exact .inr ⟨p, hb⟩, e, hs, hl⟩
theorem tput_c {w : World} {t : Nat} {L : List KV} {kA vA : Option Addr} {kC vC : Nat} {k v : Bs} (h : TObj w t L) (hk : Row w kA (k.map U8)) (hv : Row w vA (v.map U8)) (lk : k.length ≤ 1000000) (lv : v.length ≤ 1000000) (hl : L.length ≤ 800000) :
    Calls prog 61 #[.pointer (some (P0 t)), .slice kA k.length kC, .slice vA v.length vC] w fun e w' => (∃ b, e = .returned (.bool b)) ∧ Fr [t] w w' ∧ TObj w' t (insL k v L) := by
  have h0 := h
  obtain ⟨p, T, hb, hT, rfl, h2, h3⟩ := h
  have hc : T.cnt ≤ 900000 := by rw [← Tr.len]; omega
  refine tree_Tree_Put.link ((len_c h0).mono ?_)
  rintro e w' ⟨rfl, rfl⟩
  refine ⟨_, rfl, fun y hy => ?_⟩
  have hlt := hb.lt
  have hln : (insL k v T.toL).length ≤ 1000000 := by have := (insL_len k v T.toL).2; omega
  have fin : ∀ w2, Fr [t] w' w2 → TObj w2 t (insL k v T.toL) → y w2 := fun w2 f o => hy _ ((len_c o).mono (by
    rintro e w3 ⟨rfl, rfl⟩
    exact ⟨_, rfl, ⟨_, rfl⟩, f, o⟩))
  have last : ∀ {w15 w23 : World} {p24 : Option Addr} {T' : Tr}, Fr [] w' w15 → Fr [] w15 w23 → TreeAt All w23 T' p24 → T'.toL = insL k v T.toL →
      ∃ (l25 : List Value), Blk w23 (Addr.block (Addr.add (P0 t) 0)) l25 ∧ Addr.spot (Addr.add (P0 t) 0) = none ∧ Addr.off (Addr.add (P0 t) 0) + List.length [Value.pointer p24] ≤ List.length l25 ∧ ∀ (w26 : World), Upd w23 w26 (Addr.block (Addr.add (P0 t) 0)) (sets l25 (Addr.off (Addr.add (P0 t) 0)) [Value.pointer p24]) → y w26 := by
    intro w15 w23 p24 T' f1 f2 t1 e1
    rw [add_mk]
    have hb' := (hb.fr f1 (by simp)).fr f2 (by simp)
    refine ⟨_, hb', rfl, by simp, fun w26 u26 => ?_⟩
    have u26 : Upd w23 w26 t [.pointer p24] := u26
    exact fin _ (((f1.trans' f2).mono fun x hx => by cases hx).trans' u26.fr) (TObj.put hb' t1 u26 e1 h2.ins hln)
  refine ⟨⟨_, cell0 hb, fun w12 s12 => ?_⟩, fun w28 s28 => ?_⟩
  · refine (own_c (kc := kC) (vc := vC) (hk.old s12.fr) (hv.old s12.fr) lk lv).mono ?_
    rintro e w15 ⟨f15, kp, kc, vp, vc, rfl, ok, ov⟩
    have F := s12.fr.trans' f15
    refine ⟨_, _, _, _, _, _, rfl, (put_c T (NewX.all _) (hT.old F) (ownz_pair ok ov) h2 hc).mono ?_⟩
    rintro e w23 ⟨p24, T', rfl, f23, t23, e23⟩
    exact ⟨_, rfl, last F f23 t23 e23⟩
  · refine (own_c (kc := kC) (vc := vC) (hk.old s28.fr) (hv.old s28.fr) lk lv).mono ?_
    rintro e w31 ⟨f31, kp, kc, vp, vc, rfl, ok, ov⟩
    have F := s28.fr.trans' f31
    refine ⟨_, _, _, _, _, _, rfl, _, cell0 (hb.fr F (by simp)), (put_c T (NewX.all _) (hT.old F) (ownz_pair ok ov) h2 hc).mono ?_⟩
    rintro e w23 ⟨p24, T', rfl, f23, t23, e23⟩
    exact ⟨_, rfl, last F f23 t23 e23⟩
theorem find_c {w : World} {t : Nat} {L : List KV} {kA : Option Addr} {kC : Nat} {k : Bs} (h : TObj w t L) (hk : Row w kA (k.map U8)) :
    Calls prog 111 #[.pointer (some (P0 t)), .slice kA k.length kC] w fun e w' => ∃ p T, e = .returned (.pointer p) ∧ w' = w ∧ TreeAt All w T p ∧ ((T = .nil ∧ lookL k L = none) ∨ ∃ v l r, T = .node k v l r ∧ lookL k L = some v) := by
  obtain ⟨p, T, hb, hT, rfl, h2, h3⟩ := h
  refine tree_Tree_find.link ⟨_, cell0 hb, fun y hy => ⟨fun m p w' => w' = w ∧ ∃ T', TreeAt All w T' p ∧ Srt T'.toL ∧ lookL k T.toL = lookL k T'.toL ∧ m = T'.cnt, T.cnt, ⟨rfl, T, hT, h2, rfl, rfl⟩, ?_⟩⟩
  rintro m p w' ⟨rfl, T', hT', hs, hl, rfl⟩
  cases T' with
  | nil =>
    obtain rfl : p = none := hT'
    exact bF rfl (hy _ _ ⟨_, .nil, rfl, rfl, rfl, .inl ⟨rfl, hl⟩⟩)
  | node nk nv l r =>
    have hs' : Srt (l.toL ++ (nk, nv) :: r.toL) := hs
    obtain ⟨sl, sr, hA, hB⟩ := hs'.mid
    obtain ⟨ad, nkp, nkc, nvp, nvc, pl, pr, rfl, n⟩ := hT'.openF
    have F := Fr.refl [] w'
    refine bT rfl ⟨_, rfl, _, _, _, n.ck F, (compare_c (ca := kC) hk (n.pr F).k).mono ?_⟩
    rintro e w ⟨rfl, rfl⟩
    refine ⟨_, rfl, bc (fun hc => ?_) fun hc => ?_⟩
    · obtain rfl := cmpB_eq.1 (of_decide_eq_true hc)
      exact hy _ _ ⟨_, _, rfl, rfl, hT', .inr ⟨nv, l, r, rfl, by rw [hl]; exact lookL_eq (x := (k, nv)) hs'⟩⟩
    · have hne : k ≠ nk := fun z => of_decide_eq_false hc (cmpB_eq.2 z)
      refine bc (fun hd => ?_) fun hd => ?_
      · have hd : lt8 k nk := cmpB_lt.1 (of_decide_eq_true hd)
        exact ⟨_, rfl, _, n.cl F, l.cnt, by rw [Tr.cnt]; omega, rfl, l, n.ta F, sl, by rw [hl]; exact lookL_lt hs' hd, rfl⟩
      · have hd : lt8 nk k := by
          rcases lt8_total k nk with g | g | g
          · exact absurd (cmpB_lt.2 g) (of_decide_eq_false hd)
          · exact absurd g hne
          · exact g
        exact ⟨_, rfl, _, n.cr F, r.cnt, by rw [Tr.cnt]; omega, rfl, r, n.tb F, sr, by rw [hl]; exact lookL_gt hs' hd, rfl⟩
theorem tdel_c {w : World} {t : Nat} {L : List KV} {kA : Option Addr} {kC : Nat} {k : Bs} (h : TObj w t L) (hk : Row w kA (k.map U8)) (hl : L.length ≤ 800000) :
    Calls prog 63 #[.pointer (some (P0 t)), .slice kA k.length kC] w fun e w' => e = .returned (.bool (lookL k L).isSome) ∧ Fr [t] w w' ∧ TObj w' t (delL k L) := by
  have h0 := h
  obtain ⟨p, T, hb, hT, rfl, h2, h3⟩ := h
  have hc : T.cnt ≤ 900000 := by rw [← Tr.len]; omega
  refine tree_Tree_Delete.link ((find_c h0 hk).mono ?_)
  rintro e w' ⟨p3, T3, rfl, rfl, t3, hh⟩
  refine ⟨_, rfl, ?_⟩
  rcases hh with ⟨rfl, hn⟩ | ⟨v, l, r, rfl, hn⟩
  · obtain rfl : p3 = none := t3
    refine bT rfl ⟨by rw [hn]; rfl, Fr.refl _ _, ?_⟩
    rw [delL_none (lookL_none.1 hn)]
    exact h0
  · obtain ⟨ad, _, _, _, _, _, _, rfl, _⟩ := t3.openF
    refine bF rfl ⟨_, cell0 hb, (remove_c T (NewX.all _) hT hk h2 (by rw [hn]; exact fun z => by cases z) hc).mono ?_⟩
    rintro e w6 ⟨p7, T', rfl, f6, t6, e6⟩
    refine ⟨_, rfl, ?_⟩
    rw [add_mk]
    have hb' := hb.fr f6 (by simp)
    refine ⟨_, hb', rfl, by simp, fun w9 u9 => ?_⟩
    have u9 : Upd w6 w9 t [.pointer p7] := u9
    have hln : (delL k T.toL).length ≤ 1000000 := Nat.le_trans (List.length_filter_le _ _) h3
    exact ⟨by rw [hn]; rfl, (f6.mono fun x hx => by cases hx).trans' u9.fr, TObj.put hb' t6 u9 e6 h2.del hln⟩
theorem rank_c {w : World} {t : Nat} {L : List KV} {kA : Option Addr} {kC : Nat} {k : Bs} (h : TObj w t L) (hk : Row w kA (k.map U8)) :
    Calls prog 107 #[.pointer (some (P0 t)), .slice kA k.length kC] w fun e w' => e = .returned (.int .i64 (rankL k L : Int)) ∧ w' = w := by
  obtain ⟨p, T, hb, hT, rfl, h2, h3⟩ := h
  refine tree_Tree_Rank.link ⟨_, cell0 hb, fun m n p w' => w' = w ∧ ∃ (T' : Tr) (q : Nat), n = (q : Int) ∧ TreeAt All w T' p ∧ Srt T'.toL ∧ q + rankL k T'.toL = rankL k T.toL ∧ q + T'.cnt ≤ 1000000 ∧ m = T'.cnt, T.cnt, ⟨rfl, T, 0, rfl, hT, h2, by omega, by rw [Tr.len] at h3; omega, rfl⟩, ?_⟩
  rintro m n5 p w' ⟨rfl, T', q, rfl, hT', hs, hq, hqc, rfl⟩
  cases T' with
  | nil =>
    obtain rfl : p = none := hT'
    refine bF rfl ⟨?_, rfl⟩
    have : rankL k Tr.nil.toL = 0 := rfl
    rw [show q = rankL k T.toL by omega]
  | node nk nv l r =>
    have hs' : Srt (l.toL ++ (nk, nv) :: r.toL) := hs
    have hqc : q + (1 + l.cnt + r.cnt) ≤ 1000000 := hqc
    obtain ⟨sl, sr, hA, hB⟩ := hs'.mid
    obtain ⟨ad, nkp, nkc, nvp, nvc, pl, pr, rfl, n⟩ := hT'.openF
    have F := Fr.refl [] w'
    refine bT rfl ⟨_, rfl, _, _, _, n.ck F, (compare_c (cb := kC) (n.pr F).k hk).mono ?_⟩
    rintro e w ⟨rfl, rfl⟩
    refine ⟨_, rfl, bc (fun hc => ?_) fun hc => ?_⟩
    · have hc : lt8 nk k := cmpB_lt.1 (of_decide_eq_true hc)
      refine ⟨_, rfl, _, n.cl F, (count_c (n.ta F)).mono ?_⟩
      rintro e w ⟨rfl, rfl⟩
      refine ⟨_, rfl, _, rfl, _, n.cr F, r.cnt, by rw [Tr.cnt]; omega, rfl, r, q + (l.cnt + 1), ?_, n.tb F, sr, ?_, by omega, rfl⟩
      · rw [wrapi (n := (l.cnt : Int) + 1) (by omega) (by omega), wrapi (by omega) (by omega)]; omega
      · rw [← hq]
        show _ = q + rankL k (l.toL ++ (nk, nv) :: r.toL)
        rw [rankL_lt hs' hc, Tr.len]; omega
    · have hc : ¬ lt8 nk k := fun z => of_decide_eq_false hc (cmpB_lt.2 z)
      refine ⟨_, rfl, _, n.cl F, l.cnt, by rw [Tr.cnt]; omega, rfl, l, q, rfl, n.ta F, sl, ?_, by omega, rfl⟩
      rw [← hq]
      show _ = q + rankL k (l.toL ++ (nk, nv) :: r.toL)
      rw [rankL_ge hs' hc]
theorem tget_c {w : World} {t : Nat} {L : List KV} {kA : Option Addr} {kC : Nat} {k : Bs} (h : TObj w t L) (hk : Row w kA (k.map U8)) (hv : ∀ y ∈ L, y.2.length ≤ 1000000) :
    Calls prog 116 #[.pointer (some (P0 t)), .slice kA k.length kC] w fun e w' => Fr [] w w' ∧ ∃ p c, e = .returned (.tuple #[.slice p ((lookL k L).getD []).length c, .bool (lookL k L).isSome]) ∧ OwnZ w' w.heap.size 1 p ((lookL k L).getD []).length c (((lookL k L).getD []).map U8) := by
  have h0 := h
  obtain ⟨p, T, hb, hT, rfl, h2, h3⟩ := h
  refine tree_Tree_Get.link ((find_c h0 hk).mono ?_)
  rintro e w' ⟨p3, T3, rfl, rfl, t3, hh⟩
  refine ⟨_, rfl, ?_⟩
  rcases hh with ⟨rfl, hn⟩ | ⟨v, l, r, rfl, hn⟩
  · obtain rfl : p3 = none := t3
    rw [hn]
    exact bT rfl ⟨Fr.refl _ _, none, 0, rfl, OwnZ.nil _ _ _⟩
  · obtain ⟨ad, _, _, _, _, _, _, rfl, n⟩ := t3.openF
    rw [hn]
    have F := Fr.refl [] w'
    refine bF rfl ⟨_, rfl, _, _, _, n.cv F, (clone_c (n.pr F).v (hv _ ((lookL_some h2).1 hn))).mono ?_⟩
    rintro e w9 ⟨f9, p10, c12, rfl, o⟩
    exact ⟨_, _, _, rfl, f9, _, _, rfl, o⟩
end Go.Proofs.YtalegpdnhkopmaaDoor.Tree
