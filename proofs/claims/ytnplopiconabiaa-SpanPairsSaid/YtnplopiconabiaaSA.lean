/- Span: Rings. -/
import Derived.Test.YtnplopiconabiaaS9
namespace Go.Proofs.Ytnplopiconabiaa.Span
open Go Go.V
open Go.Proofs.Ytnplopiconabiaa.VC
open Go.Proofs.Try (prog)
set_option linter.unusedVariables false
set_option linter.unusedSimpArgs false
set_option maxRecDepth 20000
open Classical

theorem nodup_sub : ∀ {l l' : List Int}, l.Nodup → (∀ x ∈ l, x ∈ l') → l.length ≤ l'.length
  | [], _, _, _ => by simp
  | a :: l, l', hn, h => by
    rw [List.nodup_cons] at hn
    have ha := h a (by simp)
    have ih := nodup_sub (l := l) (l' := l'.erase a) hn.2 (fun x hx => (List.mem_erase_of_ne (fun e => hn.1 (by rw [← e]; exact hx))).2 (h x (List.mem_cons_of_mem _ hx)))
    rw [List.length_erase_of_mem ha] at ih
    have := List.length_pos_of_mem ha
    rw [List.length_cons]; omega
theorem Reach.last {T : Int → List Int} {a x : Int} (h : Reach T a x) : ∃ y, x ∈ T y := by
  cases h with
  | one h => exact ⟨_, h⟩
  | more _ h => exact ⟨_, h⟩
theorem Reach.first {T : Int → List Int} {a x : Int} (h : Reach T a x) : T a ≠ [] := by
  induction h with
  | one h => intro e; rw [e] at h; cases h
  | more _ _ ih => exact ih
theorem clipI_c (w : World) (p : Option Addr) (l c : Nat) (hc : l ≤ c) : Calls prog 51 #[.slice p l c] w fun e w' => e = .returned (.slice p l l) ∧ w' = w :=
  slices_Clip_g51.link ⟨⟨by omega, by omega, by omega, by omega⟩, by rw [subA_0]; simp, rfl⟩
/-- A ring with its block. -/
abbrev rz (z : Nat × List Int) : Value := .slice (some ⟨z.1, 0, none⟩) z.2.length z.2.length
def RingO (w : World) (z : Nat × List Int) : Prop := ∃ cs, Blk w z.1 (z.2.map I64 ++ cs)
theorem RingO.fr {F : List Nat} {v w : World} {z : Nat × List Int} (h : RingO v z) (hf : Fr F v w) (hn : z.1 ∉ F) : RingO w z := by
  obtain ⟨cs, hb⟩ := h; exact ⟨cs, hb.fr hf hn⟩
theorem RingO.lt {w : World} {z : Nat × List Int} (h : RingO w z) : z.1 < w.heap.size := by obtain ⟨cs, hb⟩ := h; exact hb.lt
def Rngs (w : World) (Z : List (Nat × List Int)) : Prop := ∀ z ∈ Z, RingO w z
/-- What Rings answers. -/
def RingsSaid (T : Int → List Int) (K : List Int) (good : Bool) (w : World) (e : Ending) (w' : World) : Prop :=
  (good = false ∧ e = .returned (.tuple #[.slice none 0 0, I64 1])) ∨
  (good = true ∧ ∃ (p : Option Addr) (c : Nat) (Z : List (Nat × List Int)), e = .returned (.tuple #[.slice p Z.length c, I64 0]) ∧ Z.map (·.2) = ringsOf T K K ∧ OwnZ w' w.heap.size 1 p Z.length c (Z.map rz) ∧ Rngs w' Z ∧ (∀ z ∈ Z, w.heap.size ≤ z.1) ∧ ∀ ad, p = some ad → ∀ z ∈ Z, z.1 ≠ ad.block)
/-- A map of ones. -/
def Ones (ls : List (Int × Value)) : Prop := ∀ q ∈ ls, q.2 = I64 1
theorem Ones.cnt {ls : List (Int × Value)} (h : Ones ls) : ∀ q ∈ ls, ∃ n : Int, q.2 = I64 n ∧ 1 ≤ n ∧ n ≤ 200000 := fun q hq => ⟨1, h q hq, by omega, by omega⟩

set_option maxHeartbeats 2000000 in
theorem rings_c {w : World} {lab : ByteArray} {eA : Option Addr} {eC : Nat} {E : List EG} (hE : Row w eA (E.flatMap gcell)) (hl : E.length ≤ 50000) (hR : ∀ e ∈ E, inR e.f ∧ inR e.t) :
    Calls prog 22 #[.string lab, .slice eA E.length eC] w fun e w' => Fr [] w w' ∧ ∃ K : List Int, K.Pairwise (· < ·) ∧ (∀ a b, Reach (succs E lab) a b → a ∈ K) ∧ RingsSaid (succs E lab) K (isName lab) w e w' := by
  refine span_Rings.link ((bad_c w lab).mono ?_)
  rintro e1 w2 ⟨rfl, f2⟩
  refine ⟨_, rfl, bc (fun hb => ⟨f2, comp (sortI (E.map (·.f))), ?_, ?_, .inl ⟨by simpa using hb, rfl⟩⟩) fun hb => ?_⟩
  · exact (comp_spec (sortI_le _)).1
  · intro a b h
    rw [(comp_spec (sortI_le _)).2, (sortI_perm _).mem_iff]
    obtain ⟨x, r, h2⟩ := List.exists_cons_of_ne_nil h.first
    obtain ⟨e, he, _, h5, _⟩ := mem_succs.1 (show x ∈ succs E lab a by rw [h2]; simp)
    exact List.mem_map.2 ⟨e, he, h5⟩
  have hgood : isName lab = true := by simpa using hb
  refine (next_c (hE.old f2) (by omega)).mono ?_
  rintro e4 w5 ⟨f5, m, l, rfl, M5, X5, hm⟩
  have F5 := f2.trans' f5
  have hnd := M5.nodup
  have htot : total (succs E lab) l ≤ E.length := total_le hnd
  have hone : ∀ n, (succs E lab n).length ≤ total (succs E lab) l := fun n => by
    cases h : succs E lab n with
    | nil => simp
    | cons a r => rw [← h]; exact total_one (X5.all n (by rw [h]; simp))
  have hkeys : ∀ p ∈ l, inR p.1 := fun p hp => by
    obtain ⟨_, _, _, _, h3⟩ := X5.ent p hp
    obtain ⟨x, r, h4⟩ := List.exists_cons_of_ne_nil h3
    obtain ⟨e, he, _, h5, _⟩ := mem_succs.1 (show x ∈ succs E lab p.1 by rw [h4]; simp)
    rw [← h5]; exact (hR e he).1
  have hrr : ∀ a x, Reach (succs E lab) a x → inR x ∧ x ∈ E.map (·.t) := fun a x h => by
    obtain ⟨y, hy⟩ := h.last
    obtain ⟨e, he, _, _, h5⟩ := mem_succs.1 hy
    rw [← h5]; exact ⟨(hR e he).2, List.mem_map.2 ⟨e, he, rfl⟩⟩
  have hll : l.length ≤ E.length := by
    have h2 : l.length ≤ total (succs E lab) l := by
      have h3 := fun e he => (X5.ent e he).elim fun p h => h.elim fun c h => h.2.2
      clear X5 hone hkeys htot hnd M5
      induction l with
      | nil => simp
      | cons e l ih =>
        have h4 := List.length_pos_iff.2 (h3 e (by simp))
        have := ih (fun e he => h3 e (List.mem_cons_of_mem _ he))
        unfold total at this ⊢
        rw [List.map_cons, List.sum_cons, List.length_cons]; omega
    omega
  refine ⟨some m, rfl, fun w7 k8 s7 h8 => ?_⟩
  have n8 := g_new1 s7
  have F7 := s7.fr
  refine (keysE_c (M5.fr F7 (by simp)) hkeys (by omega)).mono ?_
  rintro e11 w12 ⟨x13, rfl, f12, hc⟩
  refine ⟨x13, rfl, hc.mono ?_⟩
  rintro e14 w15 ⟨p16, c18, rfl, f15, r15, hp16⟩
  have hkl : l.length = (sortI (l.map (·.1))).length := by rw [(sortI_perm _).length_eq, List.length_map]
  have hKlt := K_lt hnd
  have hKm : ∀ a, a ∈ sortI (l.map (·.1)) ↔ a ∈ l.map (·.1) := fun a => (sortI_perm _).mem_iff
  have hKr : ∀ a b, Reach (succs E lab) a b → a ∈ sortI (l.map (·.1)) := fun a b hr => by
    rw [hKm]; exact X5.all a hr.first
  rw [hkl] at hll ⊢
  generalize hT : succs E lab = T at *
  generalize sortI (l.map (·.1)) = K at *
  have z15 := f15.size
  have F15 := F7.trans' f15
  refine ⟨p16, _, c18, rfl, fun mm p k c n w' => ∃ (i : Nat) (Z : List (Nat × List Int)) (ls : List (Int × Value)), n = i ∧ i ≤ K.length ∧ mm = K.length - i ∧ k = Z.length ∧ Z.length ≤ i ∧ OwnZ w' w15.heap.size 1 p Z.length c (Z.map rz) ∧ Rngs w' Z ∧ (∀ z ∈ Z, w15.heap.size ≤ z.1) ∧ (∀ ad, p = some ad → ∀ z ∈ Z, z.1 ≠ ad.block) ∧ Z.map (·.2) = ringsOf T K (K.take i) ∧ MapG kenc w' k8 ls ∧ Ones ls ∧ (∀ x, x ∈ ls.map (·.1) ↔ ∃ r ∈ Z.map (·.2), x ∈ r) ∧ Fr [] w5 w' ∧ w15.heap.size ≤ w'.heap.size ∧ Row w' p16 (K.map kenc), K.length,
    ⟨0, [], [], rfl, by omega, rfl, rfl, by simp, OwnZ.nil _ _ _, fun z hz => (by cases hz), by simp, by simp, by simp [ringsOf], ((MapG.new h8).fr f15 (by simp)), fun q hq => (by cases hq), by simp, F15, Nat.le_refl _, r15⟩, ?_⟩
  rintro mm p22 k23 c24 n w26 ⟨i, Z, ls, rfl, hi, rfl, rfl, hZi, o, tu, zw, zb, hZ, M26, h1s, hseen, F26, z26, r26⟩
  have lowout : ∀ ad, p22 = some ad → ad.block < w26.heap.size := fun ad hp => (o.lt hp).2
  have low16 : ∀ ad, p16 = some ad → 0 < (K.map kenc).length → ad.block < w15.heap.size := fun ad hp hpos => r15.blk_lt hpos ad hp
  refine bc (fun hlt => ?_) fun hge => ?_
  · have hlt : (i : Int) < (K.length : Int) := of_decide_eq_true hlt
    have hlt' : i < K.length := by omega
    intro y28 h28
    refine rd kenc r26 rfl hlt' hlt ((reached_c (M5.fr F26 (by simp)) (X5.fr F26 (fun _ _ _ => by simp)) (by omega) hone K[i]).mono ?_)
    rintro e38 w39 ⟨f39, k40, l2, rfl, M39, hk40, hreach, hvals⟩
    have F39 := F26.trans' f39
    have o39 := o.fr f39 (fun _ _ => by simp)
    have tu39 : Rngs w39 Z := fun z hz => (tu z hz).fr f39 (by simp)
    have M39s := M26.fr f39 (by simp)
    have r39 := r26.old f39
    have hwrap : IntKind.wrap .i64 ((i : Int) + 1) = ((i + 1 : Nat) : Int) := by rw [wrapi (by omega) (by omega)]; simp
    have skip : ¬ IsHead T K K[i] → y28 p22 Z.length c24 w39 := fun hno => h28 _ _ _ _ ⟨K.length - (i + 1), by omega, i + 1, Z, ls, hwrap, by omega, rfl, rfl, by omega, o39, tu39, zw, zb, by rw [rings_no hlt' hno]; exact hZ, M39s, h1s, hseen, F39, by have := f39.size; omega, r39⟩
    refine ⟨some k40, rfl, fun y41 h41 => ?_⟩
    obtain ⟨v1, hv1, hv1a, hv1b, hv1c⟩ := cnt_look M26.nodup h1s.cnt K[i]
    obtain ⟨v2, hv2, hv2a, hv2b, hv2c⟩ := cnt_look M39.nodup hvals K[i]
    refine ⟨ls, M39s, v1, hv1, bc (fun hs => ?_) fun hs => ⟨l2, M39, v2, hv2, ?_⟩⟩
    · have hs : 0 < v1 := of_decide_eq_true hs
      obtain ⟨r, hr, hx⟩ := (hseen _).1 (hv1c.1 hs)
      rw [hZ] at hr
      exact h41 _ _ (bT rfl (skip (seen_not hKlt hlt' hr hx)))
    · have hs : ¬ 0 < v1 := of_decide_eq_false hs
      have hns : ∀ r ∈ ringsOf T K (K.take i), K[i] ∉ r := fun r hr hx => hs (hv1c.2 ((hseen _).2 ⟨r, by rw [hZ]; exact hr, hx⟩))
      refine h41 _ _ (bc (fun h0 => ?_) fun h0 => ?_)
      · have h0 : v2 = 0 := of_decide_eq_true h0
        refine skip fun hh => ?_
        have := hv2c.2 ((hreach _).2 hh.1)
        omega
      · have h0 : ¬ v2 = 0 := of_decide_eq_false h0
        have hself : Reach T K[i] K[i] := (hreach _).1 (hv2c.1 (by omega))
        have hhead := unseen_head hKlt hlt' hself hns
        have hl2 : l2.length ≤ E.length := by
          have := nodup_sub M39.nodup (fun x hx => (hrr _ x ((hreach x).1 hx)).2)
          simpa using this
        refine (keysI_c M39 (fun p hp => (hrr _ p.1 ((hreach p.1).1 (List.mem_map.2 ⟨_, hp, rfl⟩))).1) (by omega)).mono ?_
        rintro e44 w45 ⟨x46, rfl, f45, hc2⟩
        refine ⟨x46, rfl, hc2.mono ?_⟩
        rintro e47 w48 ⟨p49, c51, rfl, f48, r48, hp49⟩
        have hkl2 : l2.length = (sortI (l2.map (·.1))).length := by rw [(sortI_perm _).length_eq, List.length_map]
        have hKtlt := K_lt M39.nodup
        have hKtm : ∀ x, x ∈ sortI (l2.map (·.1)) ↔ Reach T K[i] x := fun x => by rw [(sortI_perm _).mem_iff]; exact hreach x
        rw [hkl2] at hl2 ⊢
        generalize sortI (l2.map (·.1)) = Kt at *
        have hring : Kt.filter (fun x => decide (Reach T x K[i])) = ringOf T K K[i] := ring_eq hKlt hKtlt hKtm (fun x hx => hKr x _ hx)
        have F48 := F39.trans' f48
        have z48 := f48.size
        have z39 := f39.size
        have low49 : ∀ ad, p49 = some ad → 0 < (Kt.map kenc).length → ad.block < w48.heap.size := fun ad hp hpos => r48.blk_lt hpos ad hp
        refine ⟨p49, _, c51, rfl, fun mm p k c n w' => ∃ (j : Nat) (xs : List Int) (lj : List (Int × Value)), n = j ∧ j ≤ Kt.length ∧ mm = Kt.length - j ∧ k = xs.length ∧ xs.length ≤ j ∧ xs = (Kt.take j).filter (fun x => decide (Reach T x K[i])) ∧ OwnZ w' w48.heap.size 1 p xs.length c (xs.map I64) ∧ MapG kenc w' k8 lj ∧ Ones lj ∧ (∀ x, x ∈ lj.map (·.1) ↔ x ∈ ls.map (·.1) ∨ x ∈ xs) ∧ OwnZ w' w15.heap.size 1 p22 Z.length c24 (Z.map rz) ∧ Rngs w' Z ∧ Fr [] w5 w' ∧ w48.heap.size ≤ w'.heap.size ∧ Row w' p16 (K.map kenc) ∧ Row w' p49 (Kt.map kenc), Kt.length,
          ⟨0, [], ls, rfl, by omega, rfl, rfl, by simp, by simp, OwnZ.nil _ _ _, M39s.fr f48 (by simp), h1s, by simp, o39.fr f48 (fun _ _ => by simp), fun z hz => (tu39 z hz).fr f48 (by simp), F48, Nat.le_refl _, r39.old f48, r48⟩, ?_⟩
        rintro mm p55 k56 c57 n w59 ⟨j, xs, lj, rfl, hj, rfl, rfl, hxj, hxs, ox, Mj, h1j, hkj, o59, tu59, F59, z59, r16, r49⟩
        have hwrapj : IntKind.wrap .i64 ((j : Int) + 1) = ((j + 1 : Nat) : Int) := by rw [wrapi (by omega) (by omega)]; simp
        refine bc (fun hlj => ?_) fun hgj => ?_
        · have hlj : (j : Int) < (Kt.length : Int) := of_decide_eq_true hlj
          have hlj' : j < Kt.length := by omega
          intro y61 h61
          refine rd kenc r49 rfl hlj' hlj ((reached_c (M5.fr F59 (by simp)) (X5.fr F59 (fun _ _ _ => by simp)) (by omega) hone Kt[j]).mono ?_)
          rintro e71 w72 ⟨f72, k73, l3, rfl, M72, hk73, hreach3, hvals3⟩
          obtain ⟨v3, hv3, hv3a, hv3b, hv3c⟩ := cnt_look M72.nodup hvals3 K[i]
          have F72 := F59.trans' f72
          have o72 := o59.fr f72 (fun _ _ => by simp)
          have ox72 := ox.fr f72 (fun _ _ => by simp)
          have tu72 : Rngs w72 Z := fun z hz => (tu59 z hz).fr f72 (by simp)
          have Mj72 := Mj.fr f72 (by simp)
          have hiff : (0 < v3) ↔ Reach T Kt[j] K[i] := hv3c.trans (hreach3 _)
          have htf := take_filter (p := fun x => decide (Reach T x K[i])) hlj'
          rw [← hxs] at htf
          refine ⟨some k73, rfl, l3, M72, v3, hv3, bc (fun hv => ?_) fun hv => ?_⟩
          · have hv : 0 < v3 := of_decide_eq_true hv
            have hR3 := hiff.1 hv
            rw [if_pos (by simpa using hR3)] at htf
            have hxn : Kt[j] ∉ xs := fun h => by
              rw [hxs] at h
              have := ((take_lt hKtlt hlj').1 (List.mem_filter.1 h).1).2
              omega
            have hmut : Mut T K[i] Kt[j] := ⟨(hKtm _).1 (List.getElem_mem _), hR3⟩
            have hnls : Kt[j] ∉ ls.map (·.1) := fun h => by
              obtain ⟨r, hr, hx⟩ := (hseen _).1 h
              rw [hZ] at hr
              exact ring_new hlt' hns hmut r hr hx
            intro k77
            refine appM1 (C := I64) (fun _ => rfl) (x := Kt[j]) (u := w5) (B := w48.heap.size) ox72 F72 rfl (by have := F48.size; omega) (by have := f72.size; omega) (fun h => by cases h) (by simp) (fun ad hp x hx => .inl hx) (by omega) (by omega) fun w78 p79 c81 F78 G78 n78 o78 d78 => ?_
            rw [List.nil_append] at G78
            have hG : ∀ b, b ∈ pb p55 → w48.heap.size ≤ b ∧ ∃ cs, Blk w72 b cs := fun b hb => by
              obtain ⟨ad, hp, rfl⟩ := (g_mem_pb _ _).1 hb
              exact ⟨(ox72.lt hp).1, ownZ_blk ox72 hp⟩
            have M78 := Mj72.fr G78 (fun hm => by
              obtain ⟨_, cs, hb⟩ := hG _ hm
              exact map_blk Mj72 hb rfl)
            have hnk : Kt[j] ∉ lj.map (·.1) := fun h => by
              rcases (hkj _).1 h with h | h
              · exact hnls h
              · exact hxn h
            have hlook : V.look lj Kt[j] = none := by
              cases hq : V.look lj Kt[j] with
              | none => rfl
              | some y => exact absurd (List.mem_map.2 ⟨_, look_mem hq, rfl⟩) hnk
            refine ⟨lj, M78, 0, ⟨false, .inr ⟨rfl, hlook, rfl⟩⟩, k8, lj, rfl, M78, fun w87 u87 => h61 _ _ _ _ ?_⟩
            rw [show IntKind.wrap .i64 (0 + 1) = 1 from rfl] at u87
            have k8lt : w5.heap.size ≤ k8 ∧ k8 < w15.heap.size := ⟨n8.1, by have := f15.size; have := n8.2; omega⟩
            have F87 : Fr [] w5 w87 := F78.trans u87.fr (fun z hz => .inr (by rw [List.mem_singleton.1 hz]; exact k8lt.1))
            have o87 : OwnZ w87 w48.heap.size 1 p79 (xs ++ [Kt[j]]).length c81 ((xs ++ [Kt[j]]).map I64) := o78.fr u87.fr (fun ad hp => by have := (o78.lt hp).1; simp; omega)
            have g1 : ∀ b, b < w48.heap.size → b ∉ pb p55 := fun b hb h => by have := (hG b h).1; omega
            have outb : ∀ ad, p22 = some ad → ad.block < w48.heap.size := fun ad hp => by have := lowout ad hp; omega
            have zlt : ∀ z ∈ Z, z.1 < w48.heap.size := fun z hz => by have := (tu z hz).lt; omega
            refine ⟨Kt.length - (j + 1), by omega, j + 1, xs ++ [Kt[j]], _, hwrapj, by omega, rfl, rfl, by simp; omega, htf.symm, o87, u87.map, ?_, ?_, ?_, ?_, F87, ?_, ?_, ?_⟩
            · intro q hq
              rcases mem_updM2 M78.nodup hq with rfl | ⟨hq, _⟩
              · rfl
              · exact h1j q hq
            · intro x
              rw [key_updM, hkj, List.mem_append, List.mem_singleton]
              exact ⟨fun h => by rcases h with h | h | h; exact .inr (.inr h); exact .inl h; exact .inr (.inl h), fun h => by rcases h with h | h | h; exact .inr (.inl h); exact .inr (.inr h); exact .inl h⟩
            · refine (o72.fr G78 fun ad hp => g1 _ (outb ad hp)).fr u87.fr fun ad hp => ?_
              have := (o.lt hp).1; simp; omega
            · intro z hz
              refine ((tu72 z hz).fr G78 (g1 _ (zlt z hz))).fr u87.fr ?_
              have := zw z hz; simp; omega
            · have := G78.size; have := u87.fr.size; have := f72.size; omega
            · refine row_fr0 u87.fr (row_fr0 G78 (r16.old f72) fun ad hp hpos => g1 _ ?_) fun ad hp hpos => ?_
              · have := low16 ad hp hpos; omega
              · have := hp16 ad hp; have := n8.2; simp; omega
            · refine row_fr0 u87.fr (row_fr0 G78 (r49.old f72) fun ad hp hpos => g1 _ (low49 ad hp hpos)) fun ad hp hpos => ?_
              have := hp49 ad hp; simp; omega
          · have hv : ¬ 0 < v3 := of_decide_eq_false hv
            rw [if_neg (by simpa using fun h => hv (hiff.2 h)), List.append_nil] at htf
            exact h61 _ _ _ _ ⟨Kt.length - (j + 1), by omega, j + 1, xs, lj, hwrapj, by omega, rfl, rfl, by omega, htf.symm, ox72, Mj72, h1j, hkj, o72, tu72, F72, by have := f72.size; omega, r16.old f72, r49.old f72⟩
        · have hgj : ¬ (j : Int) < (Kt.length : Int) := of_decide_eq_false hgj
          have hj' : j = Kt.length := by omega
          subst hj'
          rw [List.take_length, hring] at hxs
          refine (clipI_c w59 p55 xs.length c57 ox.2.1).mono ?_
          rintro e89 w90 ⟨rfl, rfl⟩
          refine ⟨_, _, _, rfl, fun k94 => ?_⟩
          have hxne : xs ≠ [] := fun e => by
            have := mem_ringOf.2 ⟨List.getElem_mem hlt', (⟨hself, hself⟩ : Mut T K[i] K[i])⟩
            rw [← hxs, e] at this; cases this
          obtain ⟨b, rfl, hxb⟩ : ∃ b, p55 = some ⟨b, 0, none⟩ ∧ ∃ cs, Blk w90 b (xs.map I64 ++ cs) := by
            obtain ⟨_, hcc, _, h4⟩ := ox
            rcases h4 with ⟨_, e4⟩ | ⟨b, zs, rfl, hB, hb, _⟩
            · exact absurd (List.length_eq_zero_iff.1 (by omega)) hxne
            · exact ⟨b, rfl, zs, hb⟩
          have hbB : w48.heap.size ≤ b := (ox.lt rfl).1
          have outb : ∀ ad, p22 = some ad → ad.block < w48.heap.size := fun ad hp => by have := lowout ad hp; omega
          refine appM1 (C := rz) (fun _ => rfl) (x := (b, xs)) (u := w5) (B := w15.heap.size) o59 F59 rfl (by have := F15.size; omega) (by omega) (fun h => by cases h) (by simp) (fun ad hp x hx => .inl hx) (by omega) (by omega) fun w95 p96 c98 F95 G95 n95 o95 d95 => ?_
          rw [List.nil_append] at G95
          have hG : ∀ x, x ∈ pb p22 → ∃ ad, p22 = some ad ∧ ad.block = x := fun x hx => (g_mem_pb _ _).1 hx
          refine h28 _ _ _ _ ⟨K.length - (i + 1), by omega, i + 1, Z ++ [(b, xs)], lj, hwrap, by omega, rfl, rfl, by simp; omega, o95, ?_, ?_, ?_, ?_, ?_, h1j, ?_, F95, by have := G95.size; omega, ?_⟩
          · intro z hz
            rcases List.mem_append.1 hz with h | h
            · exact (tu59 z h).fr G95 fun hm => by
                obtain ⟨ad, hp, e⟩ := hG _ hm
                exact zb ad hp z h e.symm
            · rw [List.mem_singleton.1 h]
              exact RingO.fr hxb G95 fun hm => by
                obtain ⟨ad, hp, e⟩ := hG _ hm
                have := outb ad hp
                have e : ad.block = b := e
                omega
          · intro z hz
            rcases List.mem_append.1 hz with h | h
            · exact zw z h
            · rw [List.mem_singleton.1 h]; show w15.heap.size ≤ b; omega
          · intro ad hp z hz
            have hz59 : z.1 < w90.heap.size := by
              rcases List.mem_append.1 hz with h | h
              · exact (tu59 z h).lt
              · rw [List.mem_singleton.1 h]; exact RingO.lt hxb
            rcases d95 ad hp with h2 | h2
            · rcases List.mem_append.1 hz with h | h
              · exact zb ad h2 z h
              · rw [List.mem_singleton.1 h]; have := outb ad h2; show b ≠ _; omega
            · omega
          · rw [List.map_append, hZ, rings_yes hlt' hhead, ← hxs]; rfl
          · refine Mj.fr G95 fun hm => ?_
            obtain ⟨ad, hp, e⟩ := hG _ hm
            obtain ⟨cs, hb⟩ := ownZ_blk o59 hp
            exact map_blk Mj hb e
          · intro x
            rw [hkj, hseen, List.map_append]
            constructor
            · rintro (⟨r, hr, hx⟩ | hx)
              · exact ⟨r, List.mem_append.2 (.inl hr), hx⟩
              · exact ⟨xs, by simp, hx⟩
            · rintro ⟨r, hr, hx⟩
              rcases List.mem_append.1 hr with hr | hr
              · exact .inl ⟨r, hr, hx⟩
              · have hr : r = xs := by simpa using hr
                rw [hr] at hx; exact .inr hx
          · refine row_fr0 G95 r16 fun ad hp hpos hm => ?_
            obtain ⟨ad2, hp2, e⟩ := hG _ hm
            have := low16 ad hp hpos; have := (o.lt hp2).1; omega
  · have hge : ¬ (i : Int) < (K.length : Int) := of_decide_eq_false hge
    have hi' : i = K.length := by omega
    subst hi'
    rw [List.take_length] at hZ
    have := F26.size; have := F15.size; have := F5.size
    exact ⟨F5.trans' F26, K, hKlt, hKr, .inr ⟨hgood, p22, c24, Z, rfl, hZ, o.mono (by omega), tu, fun z hz => by have := zw z hz; omega, zb⟩⟩
end Go.Proofs.Ytnplopiconabiaa.Span
