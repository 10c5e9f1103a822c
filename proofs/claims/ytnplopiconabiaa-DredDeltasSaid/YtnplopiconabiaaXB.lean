/- Texts of this session's repo, laid together: SA SB SC SD SE SG SH SI SM SN SP. -/
import Derived.Test.YtnplopiconabiaaXA
import Derived.Test.YtnplopiconabiaaUB
import Derived.Test.YtnplopiconabiaaC8
import Derived.Test.YtnplopiconabiaaC4
import Derived.Test.YtnplopiconabiaaC9
import Derived.Test.YtnplopiconabiaaC5
section
/- Span: Rings. -/
namespace Go.Proofs.Ytnplopiconabiaa.Span
open Go Go.V
open Go.Proofs.Ytnplopiconabiaa.VC
open Go.Proofs.Try (prog)
set_option linter.unusedVariables false
set_option linter.unusedSimpArgs false
set_option maxRecDepth 20000
open Classical

theorem nodup_sub : ∀ {l l' : List Int}, l.Nodup → (∀ x ∈ l, x ∈ l') → l.length ≤ l'.length
  | [], _, _, _ => by simp
  | a :: l, l', hn, h => by
    rw [List.nodup_cons] at hn
    have ha := h a (by simp)
    have ih := nodup_sub (l := l) (l' := l'.erase a) hn.2 (fun x hx => (List.mem_erase_of_ne (fun e => hn.1 (by rw [← e]; exact hx))).2 (h x (List.mem_cons_of_mem _ hx)))
    rw [List.length_erase_of_mem ha] at ih
    have := List.length_pos_of_mem ha
    rw [List.length_cons]; omega
theorem Reach.last {T : Int → List Int} {a x : Int} (h : Reach T a x) : ∃ y, x ∈ T y := by
  cases h with
  | one h => exact ⟨_, h⟩
  | more _ h => exact ⟨_, h⟩
theorem Reach.first {T : Int → List Int} {a x : Int} (h : Reach T a x) : T a ≠ [] := by
  induction h with
  | one h => intro e; rw [e] at h; cases h
  | more _ _ ih => exact ih
theorem clipI_c (w : World) (p : Option Addr) (l c : Nat) (hc : l ≤ c) : Calls prog 51 #[.slice p l c] w fun e w' => e = .returned (.slice p l l) ∧ w' = w :=
  slices_Clip_g51.link ⟨⟨by omega, by omega, by omega, by omega⟩, by rw [subA_0]; simp, rfl⟩
/-- A ring with its block. -/
abbrev rz (z : Nat × List Int) : Value := .slice (some ⟨z.1, 0, none⟩) z.2.length z.2.length
def RingO (w : World) (z : Nat × List Int) : Prop := ∃ cs, Blk w z.1 (z.2.map I64 ++ cs)
theorem RingO.fr {F : List Nat} {v w : World} {z : Nat × List Int} (h : RingO v z) (hf : Fr F v w) (hn : z.1 ∉ F) : RingO w z := by
  obtain ⟨cs, hb⟩ := h; exact ⟨cs, hb.fr hf hn⟩
theorem RingO.lt {w : World} {z : Nat × List Int} (h : RingO w z) : z.1 < w.heap.size := by obtain ⟨cs, hb⟩ := h; exact hb.lt
def Rngs (w : World) (Z : List (Nat × List Int)) : Prop := ∀ z ∈ Z, RingO w z
/-- What Rings answers. -/
def RingsSaid (T : Int → List Int) (K : List Int) (good : Bool) (w : World) (e : Ending) (w' : World) : Prop :=
  (good = false ∧ e = .returned (.tuple #[.slice none 0 0, I64 1])) ∨
  (good = true ∧ ∃ (p : Option Addr) (c : Nat) (Z : List (Nat × List Int)), e = .returned (.tuple #[.slice p Z.length c, I64 0]) ∧ Z.map (·.2) = ringsOf T K K ∧ OwnZ w' w.heap.size 1 p Z.length c (Z.map rz) ∧ Rngs w' Z ∧ (∀ z ∈ Z, w.heap.size ≤ z.1) ∧ ∀ ad, p = some ad → ∀ z ∈ Z, z.1 ≠ ad.block)
/-- A map of ones. -/
def Ones (ls : List (Int × Value)) : Prop := ∀ q ∈ ls, q.2 = I64 1
theorem Ones.cnt {ls : List (Int × Value)} (h : Ones ls) : ∀ q ∈ ls, ∃ n : Int, q.2 = I64 n ∧ 1 ≤ n ∧ n ≤ 200000 := fun q hq => ⟨1, h q hq, by omega, by omega⟩

set_option maxHeartbeats 2000000 in
theorem rings_c {w : World} {lab : ByteArray} {eA : Option Addr} {eC : Nat} {E : List EG} (hE : Row w eA (E.flatMap gcell)) (hl : E.length ≤ 50000) (hR : ∀ e ∈ E, inR e.f ∧ inR e.t) :
    Calls prog 22 #[.string lab, .slice eA E.length eC] w fun e w' => Fr [] w w' ∧ ∃ K : List Int, K.Pairwise (· < ·) ∧ (∀ a b, Reach (succs E lab) a b → a ∈ K) ∧ RingsSaid (succs E lab) K (isName lab) w e w' := by
  refine span_Rings.link ((bad_c w lab).mono ?_)
  rintro e1 w2 ⟨rfl, f2⟩
  refine ⟨_, rfl, bc (fun hb => ⟨f2, comp (sortI (E.map (·.f))), ?_, ?_, .inl ⟨by simpa using hb, rfl⟩⟩) fun hb => ?_⟩
  · exact (comp_spec (sortI_le _)).1
  · intro a b h
    rw [(comp_spec (sortI_le _)).2, (sortI_perm _).mem_iff]
    obtain ⟨x, r, h2⟩ := List.exists_cons_of_ne_nil h.first
    obtain ⟨e, he, _, h5, _⟩ := mem_succs.1 (show x ∈ succs E lab a by rw [h2]; simp)
    exact List.mem_map.2 ⟨e, he, h5⟩
  have hgood : isName lab = true := by simpa using hb
  refine (next_c (hE.old f2) (by omega)).mono ?_
  rintro e4 w5 ⟨f5, m, l, rfl, M5, X5, hm⟩
  have F5 := f2.trans' f5
  have hnd := M5.nodup
  have htot : total (succs E lab) l ≤ E.length := total_le hnd
  have hone : ∀ n, (succs E lab n).length ≤ total (succs E lab) l := fun n => by
    cases h : succs E lab n with
    | nil => simp
    | cons a r => rw [← h]; exact total_one (X5.all n (by rw [h]; simp))
  have hkeys : ∀ p ∈ l, inR p.1 := fun p hp => by
    obtain ⟨_, _, _, _, h3⟩ := X5.ent p hp
    obtain ⟨x, r, h4⟩ := List.exists_cons_of_ne_nil h3
    obtain ⟨e, he, _, h5, _⟩ := mem_succs.1 (show x ∈ succs E lab p.1 by rw [h4]; simp)
    rw [← h5]; exact (hR e he).1
  have hrr : ∀ a x, Reach (succs E lab) a x → inR x ∧ x ∈ E.map (·.t) := fun a x h => by
    obtain ⟨y, hy⟩ := h.last
    obtain ⟨e, he, _, _, h5⟩ := mem_succs.1 hy
    rw [← h5]; exact ⟨(hR e he).2, List.mem_map.2 ⟨e, he, rfl⟩⟩
  have hll : l.length ≤ E.length := by
    have h2 : l.length ≤ total (succs E lab) l := by
      have h3 := fun e he => (X5.ent e he).elim fun p h => h.elim fun c h => h.2.2
      clear X5 hone hkeys htot hnd M5
      induction l with
      | nil => simp
      | cons e l ih =>
        have h4 := List.length_pos_iff.2 (h3 e (by simp))
        have := ih (fun e he => h3 e (List.mem_cons_of_mem _ he))
        unfold total at this ⊢
        rw [List.map_cons, List.sum_cons, List.length_cons]; omega
    omega
  refine ⟨some m, rfl, fun w7 k8 s7 h8 => ?_⟩
  have n8 := g_new1 s7
  have F7 := s7.fr
  refine (keysE_c (M5.fr F7 (by simp)) hkeys (by omega)).mono ?_
  rintro e11 w12 ⟨x13, rfl, f12, hc⟩
  refine ⟨x13, rfl, hc.mono ?_⟩
  rintro e14 w15 ⟨p16, c18, rfl, f15, r15, hp16⟩
  have hkl : l.length = (sortI (l.map (·.1))).length := by rw [(sortI_perm _).length_eq, List.length_map]
  have hKlt := K_lt hnd
  have hKm : ∀ a, a ∈ sortI (l.map (·.1)) ↔ a ∈ l.map (·.1) := fun a => (sortI_perm _).mem_iff
  have hKr : ∀ a b, Reach (succs E lab) a b → a ∈ sortI (l.map (·.1)) := fun a b hr => by
    rw [hKm]; exact X5.all a hr.first
  rw [hkl] at hll ⊢
  generalize hT : succs E lab = T at *
  generalize sortI (l.map (·.1)) = K at *
  have z15 := f15.size
  have F15 := F7.trans' f15
  refine ⟨p16, _, c18, rfl, fun mm p k c n w' => ∃ (i : Nat) (Z : List (Nat × List Int)) (ls : List (Int × Value)), n = i ∧ i ≤ K.length ∧ mm = K.length - i ∧ k = Z.length ∧ Z.length ≤ i ∧ OwnZ w' w15.heap.size 1 p Z.length c (Z.map rz) ∧ Rngs w' Z ∧ (∀ z ∈ Z, w15.heap.size ≤ z.1) ∧ (∀ ad, p = some ad → ∀ z ∈ Z, z.1 ≠ ad.block) ∧ Z.map (·.2) = ringsOf T K (K.take i) ∧ MapG kenc w' k8 ls ∧ Ones ls ∧ (∀ x, x ∈ ls.map (·.1) ↔ ∃ r ∈ Z.map (·.2), x ∈ r) ∧ Fr [] w5 w' ∧ w15.heap.size ≤ w'.heap.size ∧ Row w' p16 (K.map kenc), K.length,
    ⟨0, [], [], rfl, by omega, rfl, rfl, by simp, OwnZ.nil _ _ _, fun z hz => (by cases hz), by simp, by simp, by simp [ringsOf], ((MapG.new h8).fr f15 (by simp)), fun q hq => (by cases hq), by simp, F15, Nat.le_refl _, r15⟩, ?_⟩
  rintro mm p22 k23 c24 n w26 ⟨i, Z, ls, rfl, hi, rfl, rfl, hZi, o, tu, zw, zb, hZ, M26, h1s, hseen, F26, z26, r26⟩
  have lowout : ∀ ad, p22 = some ad → ad.block < w26.heap.size := fun ad hp => (o.lt hp).2
  have low16 : ∀ ad, p16 = some ad → 0 < (K.map kenc).length → ad.block < w15.heap.size := fun ad hp hpos => r15.blk_lt hpos ad hp
  refine bc (fun hlt => ?_) fun hge => ?_
  · have hlt : (i : Int) < (K.length : Int) := of_decide_eq_true hlt
    have hlt' : i < K.length := by omega
    intro y28 h28
    refine rd kenc r26 rfl hlt' hlt ((reached_c (M5.fr F26 (by simp)) (X5.fr F26 (fun _ _ _ => by simp)) (by omega) hone K[i]).mono ?_)
    rintro e38 w39 ⟨f39, k40, l2, rfl, M39, hk40, hreach, hvals⟩
    have F39 := F26.trans' f39
    have o39 := o.fr f39 (fun _ _ => by simp)
    have tu39 : Rngs w39 Z := fun z hz => (tu z hz).fr f39 (by simp)
    have M39s := M26.fr f39 (by simp)
    have r39 := r26.old f39
    have hwrap : IntKind.wrap .i64 ((i : Int) + 1) = ((i + 1 : Nat) : Int) := by rw [wrapi (by omega) (by omega)]; simp
    have skip : ¬ IsHead T K K[i] → y28 p22 Z.length c24 w39 := fun hno => h28 _ _ _ _ ⟨K.length - (i + 1), by omega, i + 1, Z, ls, hwrap, by omega, rfl, rfl, by omega, o39, tu39, zw, zb, by rw [rings_no hlt' hno]; exact hZ, M39s, h1s, hseen, F39, by have := f39.size; omega, r39⟩
    refine ⟨some k40, rfl, fun y41 h41 => ?_⟩
    obtain ⟨v1, hv1, hv1a, hv1b, hv1c⟩ := cnt_look M26.nodup h1s.cnt K[i]
    obtain ⟨v2, hv2, hv2a, hv2b, hv2c⟩ := cnt_look M39.nodup hvals K[i]
    refine ⟨ls, M39s, v1, hv1, bc (fun hs => ?_) fun hs => ⟨l2, M39, v2, hv2, ?_⟩⟩
    · have hs : 0 < v1 := of_decide_eq_true hs
      obtain ⟨r, hr, hx⟩ := (hseen _).1 (hv1c.1 hs)
      rw [hZ] at hr
      exact h41 _ _ (bT rfl (skip (seen_not hKlt hlt' hr hx)))
    · have hs : ¬ 0 < v1 := of_decide_eq_false hs
      have hns : ∀ r ∈ ringsOf T K (K.take i), K[i] ∉ r := fun r hr hx => hs (hv1c.2 ((hseen _).2 ⟨r, by rw [hZ]; exact hr, hx⟩))
      refine h41 _ _ (bc (fun h0 => ?_) fun h0 => ?_)
      · have h0 : v2 = 0 := of_decide_eq_true h0
        refine skip fun hh => ?_
        have := hv2c.2 ((hreach _).2 hh.1)
        omega
      · have h0 : ¬ v2 = 0 := of_decide_eq_false h0
        have hself : Reach T K[i] K[i] := (hreach _).1 (hv2c.1 (by omega))
        have hhead := unseen_head hKlt hlt' hself hns
        have hl2 : l2.length ≤ E.length := by
          have := nodup_sub M39.nodup (fun x hx => (hrr _ x ((hreach x).1 hx)).2)
          simpa using this
        refine (keysI_c M39 (fun p hp => (hrr _ p.1 ((hreach p.1).1 (List.mem_map.2 ⟨_, hp, rfl⟩))).1) (by omega)).mono ?_
        rintro e44 w45 ⟨x46, rfl, f45, hc2⟩
        refine ⟨x46, rfl, hc2.mono ?_⟩
        rintro e47 w48 ⟨p49, c51, rfl, f48, r48, hp49⟩
        have hkl2 : l2.length = (sortI (l2.map (·.1))).length := by rw [(sortI_perm _).length_eq, List.length_map]
        have hKtlt := K_lt M39.nodup
        have hKtm : ∀ x, x ∈ sortI (l2.map (·.1)) ↔ Reach T K[i] x := fun x => by rw [(sortI_perm _).mem_iff]; exact hreach x
        rw [hkl2] at hl2 ⊢
        generalize sortI (l2.map (·.1)) = Kt at *
        have hring : Kt.filter (fun x => decide (Reach T x K[i])) = ringOf T K K[i] := ring_eq hKlt hKtlt hKtm (fun x hx => hKr x _ hx)
        have F48 := F39.trans' f48
        have z48 := f48.size
        have z39 := f39.size
        have low49 : ∀ ad, p49 = some ad → 0 < (Kt.map kenc).length → ad.block < w48.heap.size := fun ad hp hpos => r48.blk_lt hpos ad hp
        refine ⟨p49, _, c51, rfl, fun mm p k c n w' => ∃ (j : Nat) (xs : List Int) (lj : List (Int × Value)), n = j ∧ j ≤ Kt.length ∧ mm = Kt.length - j ∧ k = xs.length ∧ xs.length ≤ j ∧ xs = (Kt.take j).filter (fun x => decide (Reach T x K[i])) ∧ OwnZ w' w48.heap.size 1 p xs.length c (xs.map I64) ∧ MapG kenc w' k8 lj ∧ Ones lj ∧ (∀ x, x ∈ lj.map (·.1) ↔ x ∈ ls.map (·.1) ∨ x ∈ xs) ∧ OwnZ w' w15.heap.size 1 p22 Z.length c24 (Z.map rz) ∧ Rngs w' Z ∧ Fr [] w5 w' ∧ w48.heap.size ≤ w'.heap.size ∧ Row w' p16 (K.map kenc) ∧ Row w' p49 (Kt.map kenc), Kt.length,
          ⟨0, [], ls, rfl, by omega, rfl, rfl, by simp, by simp, OwnZ.nil _ _ _, M39s.fr f48 (by simp), h1s, by simp, o39.fr f48 (fun _ _ => by simp), fun z hz => (tu39 z hz).fr f48 (by simp), F48, Nat.le_refl _, r39.old f48, r48⟩, ?_⟩
        rintro mm p55 k56 c57 n w59 ⟨j, xs, lj, rfl, hj, rfl, rfl, hxj, hxs, ox, Mj, h1j, hkj, o59, tu59, F59, z59, r16, r49⟩
        have hwrapj : IntKind.wrap .i64 ((j : Int) + 1) = ((j + 1 : Nat) : Int) := by rw [wrapi (by omega) (by omega)]; simp
        refine bc (fun hlj => ?_) fun hgj => ?_
        · have hlj : (j : Int) < (Kt.length : Int) := of_decide_eq_true hlj
          have hlj' : j < Kt.length := by omega
          intro y61 h61
          refine rd kenc r49 rfl hlj' hlj ((reached_c (M5.fr F59 (by simp)) (X5.fr F59 (fun _ _ _ => by simp)) (by omega) hone Kt[j]).mono ?_)
          rintro e71 w72 ⟨f72, k73, l3, rfl, M72, hk73, hreach3, hvals3⟩
          obtain ⟨v3, hv3, hv3a, hv3b, hv3c⟩ := cnt_look M72.nodup hvals3 K[i]
          have F72 := F59.trans' f72
          have o72 := o59.fr f72 (fun _ _ => by simp)
          have ox72 := ox.fr f72 (fun _ _ => by simp)
          have tu72 : Rngs w72 Z := fun z hz => (tu59 z hz).fr f72 (by simp)
          have Mj72 := Mj.fr f72 (by simp)
          have hiff : (0 < v3) ↔ Reach T Kt[j] K[i] := hv3c.trans (hreach3 _)
          have htf := take_filter (p := fun x => decide (Reach T x K[i])) hlj'
          rw [← hxs] at htf
          refine ⟨some k73, rfl, l3, M72, v3, hv3, bc (fun hv => ?_) fun hv => ?_⟩
          · have hv : 0 < v3 := of_decide_eq_true hv
            have hR3 := hiff.1 hv
            rw [if_pos (by simpa using hR3)] at htf
            have hxn : Kt[j] ∉ xs := fun h => by
              rw [hxs] at h
              have := ((take_lt hKtlt hlj').1 (List.mem_filter.1 h).1).2
              omega
            have hmut : Mut T K[i] Kt[j] := ⟨(hKtm _).1 (List.getElem_mem _), hR3⟩
            have hnls : Kt[j] ∉ ls.map (·.1) := fun h => by
              obtain ⟨r, hr, hx⟩ := (hseen _).1 h
              rw [hZ] at hr
              exact ring_new hlt' hns hmut r hr hx
            intro k77
            refine appM1 (C := I64) (fun _ => rfl) (x := Kt[j]) (u := w5) (B := w48.heap.size) ox72 F72 rfl (by have := F48.size; omega) (by have := f72.size; omega) (fun h => by cases h) (by simp) (fun ad hp x hx => .inl hx) (by omega) (by omega) fun w78 p79 c81 F78 G78 n78 o78 d78 => ?_
            rw [List.nil_append] at G78
            have hG : ∀ b, b ∈ pb p55 → w48.heap.size ≤ b ∧ ∃ cs, Blk w72 b cs := fun b hb => by
              obtain ⟨ad, hp, rfl⟩ := (g_mem_pb _ _).1 hb
              exact ⟨(ox72.lt hp).1, ownZ_blk ox72 hp⟩
            have M78 := Mj72.fr G78 (fun hm => by
              obtain ⟨_, cs, hb⟩ := hG _ hm
              exact map_blk Mj72 hb rfl)
            have hnk : Kt[j] ∉ lj.map (·.1) := fun h => by
              rcases (hkj _).1 h with h | h
              · exact hnls h
              · exact hxn h
            have hlook : V.look lj Kt[j] = none := by
              cases hq : V.look lj Kt[j] with
              | none => rfl
              | some y => exact absurd (List.mem_map.2 ⟨_, look_mem hq, rfl⟩) hnk
            refine ⟨lj, M78, 0, ⟨false, .inr ⟨rfl, hlook, rfl⟩⟩, k8, lj, rfl, M78, fun w87 u87 => h61 _ _ _ _ ?_⟩
            rw [show IntKind.wrap .i64 (0 + 1) = 1 from rfl] at u87
            have k8lt : w5.heap.size ≤ k8 ∧ k8 < w15.heap.size := ⟨n8.1, by have := f15.size; have := n8.2; omega⟩
            have F87 : Fr [] w5 w87 := F78.trans u87.fr (fun z hz => .inr (by rw [List.mem_singleton.1 hz]; exact k8lt.1))
            have o87 : OwnZ w87 w48.heap.size 1 p79 (xs ++ [Kt[j]]).length c81 ((xs ++ [Kt[j]]).map I64) := o78.fr u87.fr (fun ad hp => by have := (o78.lt hp).1; simp; omega)
            have g1 : ∀ b, b < w48.heap.size → b ∉ pb p55 := fun b hb h => by have := (hG b h).1; omega
            have outb : ∀ ad, p22 = some ad → ad.block < w48.heap.size := fun ad hp => by have := lowout ad hp; omega
            have zlt : ∀ z ∈ Z, z.1 < w48.heap.size := fun z hz => by have := (tu z hz).lt; omega
            refine ⟨Kt.length - (j + 1), by omega, j + 1, xs ++ [Kt[j]], _, hwrapj, by omega, rfl, rfl, by simp; omega, htf.symm, o87, u87.map, ?_, ?_, ?_, ?_, F87, ?_, ?_, ?_⟩
            · intro q hq
              rcases mem_updM2 M78.nodup hq with rfl | ⟨hq, _⟩
              · rfl
              · exact h1j q hq
            · intro x
              rw [key_updM, hkj, List.mem_append, List.mem_singleton]
              exact ⟨fun h => by rcases h with h | h | h; exact .inr (.inr h); exact .inl h; exact .inr (.inl h), fun h => by rcases h with h | h | h; exact .inr (.inl h); exact .inr (.inr h); exact .inl h⟩
            · refine (o72.fr G78 fun ad hp => g1 _ (outb ad hp)).fr u87.fr fun ad hp => ?_
              have := (o.lt hp).1; simp; omega
            · intro z hz
              refine ((tu72 z hz).fr G78 (g1 _ (zlt z hz))).fr u87.fr ?_
              have := zw z hz; simp; omega
            · have := G78.size; have := u87.fr.size; have := f72.size; omega
            · refine row_fr0 u87.fr (row_fr0 G78 (r16.old f72) fun ad hp hpos => g1 _ ?_) fun ad hp hpos => ?_
              · have := low16 ad hp hpos; omega
              · have := hp16 ad hp; have := n8.2; simp; omega
            · refine row_fr0 u87.fr (row_fr0 G78 (r49.old f72) fun ad hp hpos => g1 _ (low49 ad hp hpos)) fun ad hp hpos => ?_
              have := hp49 ad hp; simp; omega
          · have hv : ¬ 0 < v3 := of_decide_eq_false hv
            rw [if_neg (by simpa using fun h => hv (hiff.2 h)), List.append_nil] at htf
            exact h61 _ _ _ _ ⟨Kt.length - (j + 1), by omega, j + 1, xs, lj, hwrapj, by omega, rfl, rfl, by omega, htf.symm, ox72, Mj72, h1j, hkj, o72, tu72, F72, by have := f72.size; omega, r16.old f72, r49.old f72⟩
        · have hgj : ¬ (j : Int) < (Kt.length : Int) := of_decide_eq_false hgj
          have hj' : j = Kt.length := by omega
          subst hj'
          rw [List.take_length, hring] at hxs
          refine (clipI_c w59 p55 xs.length c57 ox.2.1).mono ?_
          rintro e89 w90 ⟨rfl, rfl⟩
          refine ⟨_, _, _, rfl, fun k94 => ?_⟩
          have hxne : xs ≠ [] := fun e => by
            have := mem_ringOf.2 ⟨List.getElem_mem hlt', (⟨hself, hself⟩ : Mut T K[i] K[i])⟩
            rw [← hxs, e] at this; cases this
          obtain ⟨b, rfl, hxb⟩ : ∃ b, p55 = some ⟨b, 0, none⟩ ∧ ∃ cs, Blk w90 b (xs.map I64 ++ cs) := by
            obtain ⟨_, hcc, _, h4⟩ := ox
            rcases h4 with ⟨_, e4⟩ | ⟨b, zs, rfl, hB, hb, _⟩
            · exact absurd (List.length_eq_zero_iff.1 (by omega)) hxne
            · exact ⟨b, rfl, zs, hb⟩
          have hbB : w48.heap.size ≤ b := (ox.lt rfl).1
          have outb : ∀ ad, p22 = some ad → ad.block < w48.heap.size := fun ad hp => by have := lowout ad hp; omega
          refine appM1 (C := rz) (fun _ => rfl) (x := (b, xs)) (u := w5) (B := w15.heap.size) o59 F59 rfl (by have := F15.size; omega) (by omega) (fun h => by cases h) (by simp) (fun ad hp x hx => .inl hx) (by omega) (by omega) fun w95 p96 c98 F95 G95 n95 o95 d95 => ?_
          rw [List.nil_append] at G95
          have hG : ∀ x, x ∈ pb p22 → ∃ ad, p22 = some ad ∧ ad.block = x := fun x hx => (g_mem_pb _ _).1 hx
          refine h28 _ _ _ _ ⟨K.length - (i + 1), by omega, i + 1, Z ++ [(b, xs)], lj, hwrap, by omega, rfl, rfl, by simp; omega, o95, ?_, ?_, ?_, ?_, ?_, h1j, ?_, F95, by have := G95.size; omega, ?_⟩
          · intro z hz
            rcases List.mem_append.1 hz with h | h
            · exact (tu59 z h).fr G95 fun hm => by
                obtain ⟨ad, hp, e⟩ := hG _ hm
                exact zb ad hp z h e.symm
            · rw [List.mem_singleton.1 h]
              exact RingO.fr hxb G95 fun hm => by
                obtain ⟨ad, hp, e⟩ := hG _ hm
                have := outb ad hp
                have e : ad.block = b := e
                omega
          · intro z hz
            rcases List.mem_append.1 hz with h | h
            · exact zw z h
            · rw [List.mem_singleton.1 h]; show w15.heap.size ≤ b; omega
          · intro ad hp z hz
            have hz59 : z.1 < w90.heap.size := by
              rcases List.mem_append.1 hz with h | h
              · exact (tu59 z h).lt
              · rw [List.mem_singleton.1 h]; exact RingO.lt hxb
            rcases d95 ad hp with h2 | h2
            · rcases List.mem_append.1 hz with h | h
              · exact zb ad h2 z h
              · rw [List.mem_singleton.1 h]; have := outb ad h2; show b ≠ _; omega
            · omega
          · rw [List.map_append, hZ, rings_yes hlt' hhead, ← hxs]; rfl
          · refine Mj.fr G95 fun hm => ?_
            obtain ⟨ad, hp, e⟩ := hG _ hm
            obtain ⟨cs, hb⟩ := ownZ_blk o59 hp
            exact map_blk Mj hb e
          · intro x
            rw [hkj, hseen, List.map_append]
            constructor
            · rintro (⟨r, hr, hx⟩ | hx)
              · exact ⟨r, List.mem_append.2 (.inl hr), hx⟩
              · exact ⟨xs, by simp, hx⟩
            · rintro ⟨r, hr, hx⟩
              rcases List.mem_append.1 hr with hr | hr
              · exact .inl ⟨r, hr, hx⟩
              · have hr : r = xs := by simpa using hr
                rw [hr] at hx; exact .inr hx
          · refine row_fr0 G95 r16 fun ad hp hpos hm => ?_
            obtain ⟨ad2, hp2, e⟩ := hG _ hm
            have := low16 ad hp hpos; have := (o.lt hp2).1; omega
  · have hge : ¬ (i : Int) < (K.length : Int) := of_decide_eq_false hge
    have hi' : i = K.length := by omega
    subst hi'
    rw [List.take_length] at hZ
    have := F26.size; have := F15.size; have := F5.size
    exact ⟨F5.trans' F26, K, hKlt, hKr, .inr ⟨hgood, p22, c24, Z, rfl, hZ, o.mono (by omega), tu, fun z hz => by have := zw z hz; omega, zb⟩⟩
end Go.Proofs.Ytnplopiconabiaa.Span

end
section
/- Span: first ways, the plain part. -/
namespace Go.Proofs.Ytnplopiconabiaa.Span
open Go Go.V
set_option linter.unusedVariables false
set_option linter.unusedSimpArgs false

/-- A walk from a, with its end. -/
inductive Walk (T : Int → List Int) (a : Int) : List Int → Int → Prop
  | nil : Walk T a [a] a
  | snoc {u : List Int} {y x : Int} : Walk T a u y → x ∈ T y → Walk T a (u ++ [x]) x
def lexL : List Int → List Int → Prop
  | a :: u, b :: v => a < b ∨ (a = b ∧ lexL u v)
  | _, _ => False
/-- Shorter, or as long and ahead. -/
def slt (u v : List Int) : Prop := u.length < v.length ∨ (u.length = v.length ∧ lexL u v)
theorem lexL_trans : ∀ {u v w : List Int}, lexL u v → lexL v w → lexL u w
  | a :: u, b :: v, c :: w, h, h2 => by
    rcases h with h | ⟨h, h'⟩
    · rcases h2 with h2 | ⟨h2, h2'⟩
      · exact .inl (by omega)
      · exact .inl (by omega)
    · rcases h2 with h2 | ⟨h2, h2'⟩
      · exact .inl (by omega)
      · exact .inr ⟨by omega, lexL_trans h' h2'⟩
  | [], _, _, h, _ => by cases h
  | _ :: _, [], _, h, _ => by cases h
  | _ :: _, _ :: _, [], _, h => by cases h
theorem lexL_irr : ∀ {u : List Int}, ¬ lexL u u
  | [], h => by cases h
  | a :: u, h => by
    rcases h with h | ⟨_, h⟩
    · omega
    · exact lexL_irr h
theorem lexL_snoc : ∀ {u v : List Int} {x y : Int}, lexL u v → lexL (u ++ [x]) (v ++ [y])
  | a :: u, b :: v, x, y, h => by
    rcases h with h | ⟨h, h'⟩
    · exact .inl h
    · exact .inr ⟨h, lexL_snoc h'⟩
  | [], _, _, _, h => by cases h
  | _ :: _, [], _, _, h => by cases h
theorem lexL_end : ∀ {u : List Int} {x y : Int}, x < y → lexL (u ++ [x]) (u ++ [y])
  | [], x, y, h => .inl h
  | a :: u, x, y, h => .inr ⟨rfl, lexL_end h⟩
theorem lexL_tri : ∀ {u v : List Int}, u.length = v.length → u = v ∨ lexL u v ∨ lexL v u
  | [], [], _ => .inl rfl
  | [], _ :: _, h => by simp at h
  | _ :: _, [], h => by simp at h
  | a :: u, b :: v, h => by
    have h' : u.length = v.length := by simpa using h
    rcases Int.lt_trichotomy a b with h1 | h1 | h1
    · exact .inr (.inl (.inl h1))
    · rcases lexL_tri h' with h2 | h2 | h2
      · exact .inl (by rw [h1, h2])
      · exact .inr (.inl (.inr ⟨h1, h2⟩))
      · exact .inr (.inr (.inr ⟨h1.symm, h2⟩))
    · exact .inr (.inr (.inl h1))
theorem slt_trans {u v w : List Int} (h : slt u v) (h2 : slt v w) : slt u w := by
  rcases h with h | ⟨h, h'⟩
  · rcases h2 with h2 | ⟨h2, _⟩
    · exact .inl (by omega)
    · exact .inl (by omega)
  · rcases h2 with h2 | ⟨h2, h2'⟩
    · exact .inl (by omega)
    · exact .inr ⟨by omega, lexL_trans h' h2'⟩
theorem slt_irr {u : List Int} (h : slt u u) : False := by
  rcases h with h | ⟨_, h⟩
  · omega
  · exact lexL_irr h
theorem slt_snoc {u v : List Int} {x y : Int} (h : slt u v) : slt (u ++ [x]) (v ++ [y]) := by
  rcases h with h | ⟨h, h'⟩
  · exact .inl (by simp; omega)
  · exact .inr ⟨by simp; omega, lexL_snoc h'⟩
theorem slt_end {u : List Int} {x y : Int} (h : x < y) : slt (u ++ [x]) (u ++ [y]) := .inr ⟨by simp, lexL_end h⟩
/-- The first way: a walk of an edge or more, ahead of every other one. -/
def WayIs (T : Int → List Int) (a b : Int) (w : List Int) : Prop := Walk T a w b ∧ 2 ≤ w.length ∧ ∀ u, Walk T a u b → 2 ≤ u.length → w = u ∨ slt w u
theorem WayIs.uniq {T : Int → List Int} {a b : Int} {w w' : List Int} (h : WayIs T a b w) (h' : WayIs T a b w') : w = w' := by
  rcases h.2.2 _ h'.1 h'.2.1 with e | e
  · exact e
  · rcases h'.2.2 _ h.1 h.2.1 with e2 | e2
    · exact e2.symm
    · exact (slt_irr (slt_trans e e2)).elim
def NoWay (T : Int → List Int) (a b : Int) : Prop := ∀ u, Walk T a u b → ¬ 2 ≤ u.length
theorem Walk.len {T : Int → List Int} {a y : Int} {u : List Int} (h : Walk T a u y) : 1 ≤ u.length := by
  cases h with
  | nil => simp
  | snoc _ _ => simp
theorem Walk.cut {T : Int → List Int} {a y : Int} {u : List Int} (h : Walk T a u y) (hl : 2 ≤ u.length) : ∃ u' z, Walk T a u' z ∧ y ∈ T z ∧ u = u' ++ [y] := by
  cases h with
  | nil => simp at hl
  | snoc h h2 => exact ⟨_, _, h, h2, rfl⟩
theorem Walk.reach {T : Int → List Int} {a y : Int} {u : List Int} (h : Walk T a u y) (hl : 2 ≤ u.length) : Reach T a y := by
  induction h with
  | nil => simp at hl
  | @snoc u z x h h2 ih =>
    by_cases e : 2 ≤ u.length
    · exact .more (ih e) h2
    · cases h with
      | nil => exact .one h2
      | snoc h _ => have := h.len; simp only [List.length_append, List.length_singleton] at e; omega
theorem Reach.walk {T : Int → List Int} {a y : Int} (h : Reach T a y) : ∃ u, Walk T a u y ∧ 2 ≤ u.length := by
  induction h with
  | one h => exact ⟨_, .snoc .nil h, by simp⟩
  | more _ h ih => obtain ⟨u, h1, h2⟩ := ih; exact ⟨_, .snoc h1 h, by simp; omega⟩
theorem Walk.step {T : Int → List Int} {a y : Int} {u : List Int} (h : Walk T a u y) : u.head? = some a ∧ u.getLast? = some y ∧ ∀ i (hi : i + 1 < u.length), u[i + 1] ∈ T u[i] := by
  induction h with
  | nil => exact ⟨rfl, rfl, fun i hi => by simp at hi⟩
  | @snoc u z x h h2 ih =>
    obtain ⟨h3, h4, h5⟩ := ih
    refine ⟨?_, by simp, fun i hi => ?_⟩
    · rw [List.head?_append, h3]; rfl
    · simp only [List.length_append, List.length_singleton] at hi
      have hl := h.len
      by_cases e : i + 1 < u.length
      · rw [List.getElem_append_left e, List.getElem_append_left (by omega)]; exact h5 i e
      · have : i + 1 = u.length := by omega
        rw [List.getElem_append_right (show u.length ≤ i + 1 by omega), List.getElem_append_left (show i < u.length by omega)]
        have e2 : u[i] = z := by
          rw [List.getLast?_eq_getElem?] at h4
          rw [show u.length - 1 = i by omega, List.getElem?_eq_getElem (by omega)] at h4
          exact Option.some.inj h4
        simpa [this, e2] using h2

abbrev EnW := Int × List Int
/-- How far a breadth-first search has come: the nodes in the order in which they were come to, each with its way; k of them done, of the next one j targets. -/
structure Bfs (T : Int → List Int) (a : Int) (L : List EnW) (k j : Nat) : Prop where
  first : ∃ L', L = (a, [a]) :: L'
  par : ∀ e ∈ L.tail, Walk T a e.2 e.1 ∧ 2 ≤ e.2.length ∧ ∃ q, ∃ p : EnW, L[q]? = some p ∧ e.2 = p.2 ++ [e.1] ∧ e.1 ∈ T p.1 ∧ (p.1 = a → p.2 = [a]) ∧ (q < k ∨ (q = k ∧ e.1 ∈ (T p.1).take j))
  sorted : L.Pairwise fun e e' => slt e.2 e'.2
  nodup : (L.tail.map (·.1)).Nodup
  done : ∀ q (p : EnW), L[q]? = some p → (q < k → ∀ x ∈ T p.1, x ∈ L.tail.map (·.1)) ∧ (q = k → ∀ x ∈ (T p.1).take j, x ∈ L.tail.map (·.1))
  min : ∀ e ∈ L.tail, ∀ u, Walk T a u e.1 → 2 ≤ u.length → e.2 = u ∨ slt e.2 u
theorem Bfs.start (T : Int → List Int) (a : Int) : Bfs T a [(a, [a])] 0 0 where
  first := ⟨[], rfl⟩
  par := by simp
  sorted := by simp
  nodup := by simp
  done := fun q p h => ⟨fun h => absurd h (by omega), fun h => by simp⟩
  min := by simp
theorem Bfs.skip {T : Int → List Int} {a : Int} {L : List EnW} {k j : Nat} (h : Bfs T a L k j) {e : EnW} (hk : L[k]? = some e) {x : Int} (hj : (T e.1)[j]? = some x) (hx : x ∈ L.tail.map (·.1)) : Bfs T a L k (j + 1) where
  first := h.first
  par := fun e' he => by
    obtain ⟨h1, h2, q, p, h3, h4, h5, h6, h7⟩ := h.par e' he
    refine ⟨h1, h2, q, p, h3, h4, h5, h6, h7.imp id fun h8 => ⟨h8.1, ?_⟩⟩
    exact List.mem_of_mem_take (i := j) (by rw [List.take_take, Nat.min_eq_left (by omega)]; exact h8.2)
  sorted := h.sorted
  nodup := h.nodup
  done := fun q p hq => ⟨(h.done q p hq).1, fun hqk y hy => by
    subst hqk
    rw [hk] at hq; cases hq
    rw [List.take_add_one, hj] at hy
    rcases List.mem_append.1 hy with hy | hy
    · exact (h.done q e hk).2 rfl y hy
    · have : y = x := by simpa using hy
      rw [this]; exact hx⟩
  min := h.min
theorem Bfs.next {T : Int → List Int} {a : Int} {L : List EnW} {k j : Nat} (h : Bfs T a L k j) {e : EnW} (hk : L[k]? = some e) (hj : (T e.1).length ≤ j) : Bfs T a L (k + 1) 0 where
  first := h.first
  par := fun e' he => by
    obtain ⟨h1, h2, q, p, h3, h4, h5, h6, h7⟩ := h.par e' he
    refine ⟨h1, h2, q, p, h3, h4, h5, h6, .inl ?_⟩
    rcases h7 with h7 | h7
    · omega
    · omega
  sorted := h.sorted
  nodup := h.nodup
  done := fun q p hq => ⟨fun hlt x hx => by
    by_cases e2 : q < k
    · exact (h.done q p hq).1 e2 x hx
    · have : q = k := by omega
      subst this
      rw [hk] at hq; cases hq
      exact (h.done q e hk).2 rfl x (by rw [List.take_of_length_le hj]; exact hx), fun _ x hx => by simp at hx⟩
  min := h.min
theorem Bfs.head {T : Int → List Int} {a : Int} {L : List EnW} {k j : Nat} (h : Bfs T a L k j) : L[0]? = some (a, [a]) := by
  obtain ⟨L', e⟩ := h.first; rw [e]; rfl
theorem Bfs.tailAt {T : Int → List Int} {a : Int} {L : List EnW} {k j : Nat} (h : Bfs T a L k j) {x : Int} (hx : x ∈ L.tail.map (·.1)) : ∃ q p, 1 ≤ q ∧ L[q]? = some p ∧ p ∈ L.tail ∧ p.1 = x := by
  obtain ⟨p, hp, e⟩ := List.mem_map.1 hx
  obtain ⟨L', e2⟩ := h.first
  obtain ⟨q, hq, e3⟩ := List.mem_iff_getElem.1 hp
  refine ⟨q + 1, p, by omega, ?_, hp, e⟩
  subst e2
  simp only [List.tail_cons] at hq e3
  rw [List.getElem?_cons_succ, List.getElem?_eq_getElem hq, e3]
theorem Bfs.sle {T : Int → List Int} {a : Int} {L : List EnW} {k j : Nat} (h : Bfs T a L k j) {q r : Nat} {e p : EnW} (hq : L[q]? = some e) (hr : L[r]? = some p) (hqr : q ≤ r) : e.2 = p.2 ∨ slt e.2 p.2 := by
  obtain ⟨h1, e1⟩ := List.getElem?_eq_some_iff.1 hq
  obtain ⟨h2, e2⟩ := List.getElem?_eq_some_iff.1 hr
  by_cases e3 : q = r
  · subst e3; rw [hq] at hr; cases hr; exact .inl rfl
  · have := (List.pairwise_iff_getElem.1 h.sorted) q r h1 h2 (by omega)
    rw [e1, e2] at this; exact .inr this
theorem Bfs.front {T : Int → List Int} {a : Int} {L : List EnW} {k j : Nat} (h : Bfs T a L k j) {e : EnW} (hk : L[k]? = some e) {u : List Int} {y : Int} (hu : Walk T a u y) : (∀ q p, q < k → L[q]? = some p → p.1 ≠ y) → e.2 = u ∨ slt e.2 u := by
  have h0 := h.head
  by_cases k0 : k = 0
  · subst k0
    rw [h0] at hk; cases hk
    intro _
    cases hu with
    | nil => exact .inl rfl
    | snoc h1 _ => exact .inr (.inl (by have := h1.len; simp; omega))
  · induction hu with
    | nil => intro h1; exact absurd rfl (h1 0 _ (by omega) h0)
    | @snoc u z y h1 h2 ih =>
      intro h3
      by_cases hy : y ∈ L.tail.map (·.1)
      · obtain ⟨q, p, hq1, hq, hp, rfl⟩ := h.tailAt hy
        have hkq : k ≤ q := Nat.le_of_not_lt fun hlt => h3 q p hlt hq rfl
        have hm := h.min p hp _ (Walk.snoc h1 h2) (by have := h1.len; simp; omega)
        rcases h.sle hk hq hkq with e1 | e1
        · rw [e1]; exact hm
        · rcases hm with hm | hm
          · exact .inr (hm ▸ e1)
          · exact .inr (slt_trans e1 hm)
      · have := ih fun q p hq hp hz => hy ((h.done q p hp).1 hq y (by rw [hz]; exact h2))
        rcases this with e1 | e1
        · exact .inr (.inl (by rw [e1]; simp))
        · rcases e1 with e1 | ⟨e1, _⟩
          · exact .inr (.inl (by simp; omega))
          · exact .inr (.inl (by simp; omega))
theorem Bfs.min_new {T : Int → List Int} {a : Int} {L : List EnW} {k j : Nat} (h : Bfs T a L k j) {e : EnW} (hk : L[k]? = some e) {x : Int} (hx : x ∉ L.tail.map (·.1)) : ∀ u, Walk T a u x → 2 ≤ u.length → e.2 ++ [x] = u ∨ slt (e.2 ++ [x]) u := fun u hu hl => by
  obtain ⟨u', z, h1, h2, rfl⟩ := hu.cut hl
  rcases h.front hk h1 (fun q p hq hp hz => hx ((h.done q p hp).1 hq x (by rw [hz]; exact h2))) with e1 | e1
  · exact .inl (by rw [e1])
  · exact .inr (slt_snoc e1)
theorem Bfs.self {T : Int → List Int} {a : Int} {L : List EnW} {k j : Nat} (h : Bfs T a L k j) {e : EnW} (hk : L[k]? = some e) {x : Int} (hj : (T e.1)[j]? = some x) (hx : x ∉ L.tail.map (·.1)) (ha : e.1 = a) : e.2 = [a] := by
  have h0 := h.head
  by_cases k0 : k = 0
  · subst k0; rw [h0] at hk; cases hk; rfl
  · exact absurd ((h.done 0 _ h0).1 (by omega) x (by rw [← ha]; exact List.mem_of_getElem? hj)) hx
theorem Bfs.walk {T : Int → List Int} {a : Int} {L : List EnW} {k j : Nat} (h : Bfs T a L k j) {e : EnW} {q : Nat} (hk : L[q]? = some e) : Walk T a e.2 e.1 := by
  obtain ⟨L', e2⟩ := h.first
  match q, hk with
  | 0, hk => rw [h.head] at hk; cases hk; exact .nil
  | q + 1, hk =>
    refine (h.par e ?_).1
    subst e2
    rw [List.getElem?_cons_succ] at hk
    exact List.mem_of_getElem? hk
theorem Bfs.add {T : Int → List Int} {a : Int} {L : List EnW} {k j : Nat} (h : Bfs T a L k j) {e : EnW} (hk : L[k]? = some e) (hT : (T e.1).Pairwise (· < ·)) {x : Int} (hj : (T e.1)[j]? = some x) (hx : x ∉ L.tail.map (·.1)) : Bfs T a (L ++ [(x, e.2 ++ [x])]) k (j + 1) := by
  obtain ⟨L', e2⟩ := h.first
  have hw := h.walk hk
  have hTx := List.mem_of_getElem? hj
  have hne : L ≠ [] := by rw [e2]; simp
  have htail : (L ++ [(x, e.2 ++ [x])]).tail = L.tail ++ [(x, e.2 ++ [x])] := List.tail_append_of_ne_nil hne
  have hget : ∀ q (p : EnW), L[q]? = some p → (L ++ [(x, e.2 ++ [x])])[q]? = some p := fun q p hq => by
    rw [List.getElem?_append_left (List.getElem?_eq_some_iff.1 hq).1]; exact hq
  have hlast : ∀ y ∈ (T e.1).take j, y < x := fun y hy => by
    obtain ⟨i, hi, rfl⟩ := List.mem_take_iff_getElem.1 hy
    obtain ⟨hj1, hj2⟩ := List.getElem?_eq_some_iff.1 hj
    have := (List.pairwise_iff_getElem.1 hT) i j (by omega) hj1 (by omega)
    rw [hj2] at this; exact this
  have hmore : ∀ y ∈ (T e.1).take j, y ∈ (T e.1).take (j + 1) := fun y hy => List.mem_of_mem_take (i := j) (by rw [List.take_take, Nat.min_eq_left (by omega)]; exact hy)
  refine ⟨⟨L' ++ [(x, e.2 ++ [x])], by rw [e2]; rfl⟩, fun e' he => ?_, ?_, ?_, fun q p hq => ?_, fun e' he => ?_⟩
  · rw [htail] at he
    rcases List.mem_append.1 he with he | he
    · obtain ⟨h1, h2, q, p, h3, h4, h5, h6, h7⟩ := h.par e' he
      refine ⟨h1, h2, q, p, hget q p h3, h4, h5, h6, h7.imp id fun h8 => ⟨h8.1, ?_⟩⟩
      exact List.mem_of_mem_take (i := j) (by rw [List.take_take, Nat.min_eq_left (by omega)]; exact h8.2)
    · rw [List.mem_singleton.1 he]
      refine ⟨.snoc hw hTx, by have := hw.len; simp; omega, k, e, hget k e hk, rfl, hTx, fun ha => h.self hk hj hx ha, .inr ⟨rfl, ?_⟩⟩
      rw [List.take_add_one, hj]; simp
  · rw [List.pairwise_append]
    refine ⟨h.sorted, by simp, fun e' he e'' he2 => ?_⟩
    rw [List.mem_singleton.1 he2]
    have he' := he
    rw [e2] at he'
    rcases List.mem_cons.1 he' with rfl | he'
    · exact .inl (by have := hw.len; simp; omega)
    · obtain ⟨h1, h2, q, p, h3, h4, h5, h6, h7⟩ := h.par e' (by rw [e2]; exact he')
      rw [h4]
      rcases h7 with h7 | ⟨rfl, h7⟩
      · obtain ⟨hq1, hq2⟩ := List.getElem?_eq_some_iff.1 h3
        obtain ⟨hk1, hk2⟩ := List.getElem?_eq_some_iff.1 hk
        have := (List.pairwise_iff_getElem.1 h.sorted) q k hq1 hk1 h7
        rw [hq2, hk2] at this
        exact slt_snoc this
      · rw [hk] at h3; cases h3
        exact slt_end (hlast _ h7)
  · rw [htail, List.map_append, List.nodup_append]
    exact ⟨h.nodup, by simp, fun y hy z hz e3 => by
      have : z = x := by simpa using hz
      exact hx (by rw [← this, ← e3]; exact hy)⟩
  · rw [htail, List.map_append]
    by_cases hqL : q < L.length
    · rw [List.getElem?_append_left hqL] at hq
      refine ⟨fun hlt y hy => List.mem_append.2 (.inl ((h.done q p hq).1 hlt y hy)), fun hqk y hy => ?_⟩
      subst hqk
      rw [hk] at hq; cases hq
      rw [List.take_add_one, hj] at hy
      rcases List.mem_append.1 hy with hy | hy
      · exact List.mem_append.2 (.inl ((h.done q e hk).2 rfl y hy))
      · have : y = x := by simpa using hy
        rw [this]; simp
    · have := (List.getElem?_eq_some_iff.1 hk).1
      exact ⟨fun h => absurd h (by omega), fun h => absurd h (by omega)⟩
  · rw [htail] at he
    rcases List.mem_append.1 he with he | he
    · exact h.min e' he
    · rw [List.mem_singleton.1 he]
      exact h.min_new hk hx
theorem Bfs.none {T : Int → List Int} {a b : Int} {L : List EnW} (h : Bfs T a L L.length 0) (hb : b ∉ L.tail.map (·.1)) : NoWay T a b := by
  have key : ∀ u y, Walk T a u y → ∃ q, ∃ p : EnW, L[q]? = some p ∧ p.1 = y := fun u y hu => by
    induction hu with
    | nil => exact ⟨0, _, h.head, rfl⟩
    | snoc _ h2 ih =>
      obtain ⟨q, p, hq, rfl⟩ := ih
      obtain ⟨q', p', _, h3, _, h4⟩ := h.tailAt ((h.done q p hq).1 (List.getElem?_eq_some_iff.1 hq).1 _ h2)
      exact ⟨q', p', h3, h4⟩
  intro u hu hl
  obtain ⟨u', z, h1, h2, rfl⟩ := hu.cut hl
  obtain ⟨q, p, hq, rfl⟩ := key _ _ h1
  exact hb ((h.done q p hq).1 (List.getElem?_eq_some_iff.1 hq).1 _ h2)
end Go.Proofs.Ytnplopiconabiaa.Span

end
section
/- Span: slices.Reverse over a row of one's own. -/
namespace Go.Proofs.Ytnplopiconabiaa.Span
open Go Go.V
open Go.Proofs.Ytnplopiconabiaa.VC
open Go.Proofs.Try (prog)
set_option linter.unusedVariables false
set_option linter.unusedSimpArgs false
set_option maxRecDepth 20000

/-- A row with its first and last i elements changed over. -/
def Half (xs cur : List Int) (i : Nat) : Prop := cur.length = xs.length ∧ ∀ k, k < xs.length → cur[k]? = if k < i ∨ xs.length < i + 1 + k then xs[xs.length - 1 - k]? else xs[k]?
theorem Half.done {xs cur : List Int} {i : Nat} (h : Half xs cur i) (hi : xs.length ≤ 2 * i + 1) : cur = xs.reverse := by
  refine List.ext_getElem? fun k => ?_
  by_cases hk : k < xs.length
  · rw [h.2 k hk, List.getElem?_reverse hk]
    split
    · rfl
    · have : k = xs.length - 1 - k := by omega
      rw [← this]
  · rw [List.getElem?_eq_none (by rw [h.1]; omega), List.getElem?_eq_none (by rw [List.length_reverse]; omega)]
theorem Half.step {xs cur : List Int} {i j : Nat} (h : Half xs cur i) (hj : j = xs.length - 1 - i) (hi : i < j) (h1 : i < cur.length) (h2 : j < cur.length) : Half xs ((cur.set i cur[j]).set j cur[i]) (i + 1) := by
  have e := h.1
  have ej := h.2 j (by omega)
  have ei := h.2 i (by omega)
  rw [List.getElem?_eq_getElem h2, if_neg (by omega)] at ej
  rw [List.getElem?_eq_getElem h1, if_neg (by omega)] at ei
  refine ⟨by simp [e], fun k hk => ?_⟩
  rw [List.getElem?_set]
  by_cases k1 : j = k
  · rw [if_pos k1, if_pos (by simp; omega), if_pos (by omega), ← k1, ei]
    congr 1; omega
  · rw [if_neg k1, List.getElem?_set]
    by_cases k2 : i = k
    · rw [if_pos k2, if_pos h1, if_pos (by omega), ← k2, ej, hj]
    · rw [if_neg k2, h.2 k hk]
      by_cases k3 : k < i ∨ xs.length < i + 1 + k
      · rw [if_pos k3, if_pos (by omega)]
      · rw [if_neg k3, if_neg (by omega)]
theorem set_map {xs : List Int} {zs : List Value} {i : Nat} {v : Int} (h : i < xs.length) : (xs.map I64 ++ zs).set i (I64 v) = (xs.set i v).map I64 ++ zs := by
  rw [List.set_append_left _ _ (by simpa using h), List.map_set]
theorem reverse_c {w : World} {b c : Nat} {xs : List Int} {zs : List Value} (h : Blk w b (xs.map I64 ++ zs)) (hl : xs.length ≤ 1000000) :
    Calls prog 47 #[.slice (some ⟨b, 0, none⟩) xs.length c] w fun e w' => e = .returned (.tuple #[]) ∧ Fr [b] w w' ∧ Blk w' b (xs.reverse.map I64 ++ zs) := by
  refine slices_Reverse_g47.link ?_
  unfold slices_Reverse_g47.vc
  rw [wrapi (by omega) (by omega)]
  refine ⟨fun m n4 n5 w' => ∃ (i : Nat) (cur : List Int), n4 = i ∧ n5 = (xs.length : Int) - 1 - i ∧ m = xs.length - i ∧ i ≤ xs.length ∧ Half xs cur i ∧ Blk w' b (cur.map I64 ++ zs) ∧ Fr [b] w w', xs.length, ⟨0, xs, rfl, by omega, rfl, by omega, ⟨rfl, fun k hk => by rw [if_neg (by omega)]⟩, h, Fr.refl _ _⟩, ?_⟩
  rintro m n4 n5 w6 ⟨i, cur, rfl, rfl, rfl, hi, hh, hb, F⟩
  refine bc (fun hlt => ?_) fun hge => ?_
  · have hlt : (i : Int) < (xs.length : Int) - 1 - i := of_decide_eq_true hlt
    obtain ⟨j, hj⟩ : ∃ j : Nat, j = xs.length - 1 - i := ⟨_, rfl⟩
    have ej : (xs.length : Int) - 1 - i = j := by omega
    rw [ej] at hlt ⊢
    have hil : i < cur.length := by have := hh.1; omega
    have hjl : j < cur.length := by have := hh.1; omega
    have e1 : ∀ n : Nat, (⟨b, 0, none⟩ : Addr).add (((n : Int)).toNat * 1) = ⟨b, n, none⟩ := fun n => by rw [add_mk]; congr 1; omega
    have cell : ∀ n (hn : n < cur.length), w6.cell? ⟨b, n, none⟩ = some (I64 cur[n]) := fun n hn => by
      rw [hb.cell, List.getElem?_append_left (by simpa using hn), List.getElem?_map, List.getElem?_eq_getElem hn]; rfl
    simp only [e1]
    refine ⟨_, rfl, ⟨by omega, by have := hh.1; omega⟩, cur[j], by rw [e1]; exact cell j hjl, _, rfl, ⟨by omega, by have := hh.1; omega⟩, cur[i], by rw [e1]; exact cell i hil, _, rfl, ⟨by omega, by have := hh.1; omega⟩, fun w13 s13 => ?_⟩
    simp only [e1]
    refine ⟨_, hb.fr s13.fr (by simp), trivial, by simp; omega, fun w16 u16 => ⟨_, rfl, ⟨by omega, by have := hh.1; omega⟩, ?_⟩⟩
    simp only [e1]
    have g1 : sets (cur.map I64 ++ zs) i [I64 cur[j]] = (cur.set i cur[j]).map I64 ++ zs := by
      rw [sets_eq _ _ _ (by simp; omega), spl_one _ _ _ (by simp; omega), set_map hil]
    rw [g1] at u16
    refine ⟨_, u16.blk, trivial, by simp; omega, fun w20 u20 => ?_⟩
    have g2 : sets ((cur.set i cur[j]).map I64 ++ zs) j [I64 cur[i]] = ((cur.set i cur[j]).set j cur[i]).map I64 ++ zs := by
      rw [sets_eq _ _ _ (by simp; omega), spl_one _ _ _ (by simp; omega), set_map (by simpa using hjl)]
    rw [g2] at u20
    refine ⟨xs.length - (i + 1), by omega, i + 1, _, by rw [wrapi (by omega) (by omega)]; simp, by rw [wrapi (by omega) (by omega)]; omega, rfl, by omega, hh.step hj (by omega) hil hjl, u20.blk, ?_⟩
    exact ((F.trans s13.fr (fun x hx => by cases hx)).trans u16.fr (fun x hx => .inl hx)).trans u20.fr (fun x hx => .inl hx)
  · have hge : ¬ (i : Int) < (xs.length : Int) - 1 - i := of_decide_eq_false hge
    refine ⟨rfl, F, ?_⟩
    rw [← hh.done (by omega)]; exact hb
end Go.Proofs.Ytnplopiconabiaa.Span

end
section
/- Span: Way. -/
namespace Go.Proofs.Ytnplopiconabiaa.Span
open Go Go.V
open Go.Proofs.Ytnplopiconabiaa.VC
open Go.Proofs.Try (prog)
set_option linter.unusedVariables false
set_option linter.unusedSimpArgs false
set_option maxRecDepth 20000

/-- The map of parents. -/
structure AH (a : Int) (ls : List (Int × Value)) (L : List EnW) : Prop where
  keys : ∀ x, x ∈ ls.map (·.1) ↔ x ∈ L.tail.map (·.1)
  ints : ∀ q ∈ ls, ∃ n : Int, q.2 = I64 n
  par : ∀ e ∈ L.tail, ∃ p ∈ L, V.look ls e.1 = some (I64 p.1) ∧ e.2 = p.2 ++ [e.1] ∧ (p.1 = a → p.2 = [a])
theorem AH.add {a : Int} {ls : List (Int × Value)} {L : List EnW} (h : AH a ls L) (hn : (ls.map (·.1)).Nodup) (hne : L ≠ []) {e : EnW} (he : e ∈ L) (ha : e.1 = a → e.2 = [a]) {x : Int} (hx : x ∉ L.tail.map (·.1)) :
    AH a (updM ls x (I64 e.1)) (L ++ [(x, e.2 ++ [x])]) := by
  have htail : (L ++ [(x, e.2 ++ [x])]).tail = L.tail ++ [(x, e.2 ++ [x])] := List.tail_append_of_ne_nil hne
  refine ⟨fun y => ?_, fun q hq => ?_, fun e' he' => ?_⟩
  · rw [key_updM, htail, List.map_append, List.mem_append, h.keys]
    simp only [List.map_cons, List.map_nil, List.mem_singleton]
    exact Or.comm
  · rcases mem_updM2 hn hq with rfl | ⟨hq, _⟩
    · exact ⟨_, rfl⟩
    · exact h.ints q hq
  · rw [htail] at he'
    rcases List.mem_append.1 he' with he' | he'
    · obtain ⟨p, hp, h1, h2, h3⟩ := h.par e' he'
      refine ⟨p, List.mem_append_left _ hp, ?_, h2, h3⟩
      rw [look_updM, if_neg]
      · exact h1
      · intro e3; exact hx (by rw [← e3]; exact List.mem_map.2 ⟨_, he', rfl⟩)
    · rw [List.mem_singleton.1 he']
      exact ⟨e, List.mem_append_left _ he, by rw [look_updM, if_pos rfl], rfl, ha⟩
theorem AH.look {a : Int} {ls : List (Int × Value)} {L : List EnW} (h : AH a ls L) (hn : (ls.map (·.1)).Nodup) (x : Int) : ∃ (n : Int) (b : Bool), LookRel ls x (I64 0) (I64 n) b ∧ (b = true ↔ x ∈ L.tail.map (·.1)) := by
  rw [← h.keys]
  cases hlk : V.look ls x with
  | some y =>
    obtain ⟨n, h1⟩ := h.ints _ (look_mem hlk)
    have h1 : y = I64 n := h1
    subst h1
    exact ⟨n, true, .inl ⟨rfl, hlk⟩, ⟨fun _ => List.mem_map.2 ⟨_, look_mem hlk, rfl⟩, fun _ => rfl⟩⟩
  | none =>
    refine ⟨0, false, .inr ⟨rfl, hlk, rfl⟩, ⟨(fun h => by cases h), fun hx => ?_⟩⟩
    obtain ⟨q, hq, e⟩ := List.mem_map.1 hx
    have := look_of_mem hn (k := q.1) (x := q.2) hq
    rw [e, hlk] at this; cases this
/-- What Way answers. -/
def WaySaid (T : Int → List Int) (good : Bool) (a b : Int) (w : World) (e : Ending) (w' : World) : Prop :=
  (good = false ∧ e = .returned (.tuple #[.slice none 0 0, I64 1])) ∨
  (good = true ∧ ((NoWay T a b ∧ e = .returned (.tuple #[.slice none 0 0, I64 4])) ∨
    ∃ (u : List Int) (k c : Nat) (cs : List Value), WayIs T a b u ∧ u.length ≤ 200000 ∧ e = .returned (.tuple #[.slice (some ⟨k, 0, none⟩) u.length c, I64 0]) ∧ Blk w' k (u.map I64 ++ cs) ∧ w.heap.size ≤ k))
theorem Bfs.bound {T : Int → List Int} {a : Int} {L : List EnW} {k j : Nat} (h : Bfs T a L k j) {N : List Int} (hN : ∀ y, ∀ x ∈ T y, x ∈ N) : L.length ≤ N.length + 1 := by
  obtain ⟨L', e⟩ := h.first
  have := nodup_sub h.nodup (l' := N) (fun x hx => by
    obtain ⟨e', he, rfl⟩ := List.mem_map.1 hx
    obtain ⟨_, _, q, p, _, _, h5, _⟩ := h.par e' he
    exact hN _ _ h5)
  rw [e] at this ⊢
  simpa using this
theorem Bfs.len {T : Int → List Int} {a : Int} {L : List EnW} {k j : Nat} (h : Bfs T a L k j) : ∀ {q : Nat} {p : EnW}, L[q]? = some p → p.2.length ≤ q + 1 := fun {q} => by
  induction q using Nat.strongRecOn with
  | ind q ih =>
    intro p hq
    obtain ⟨L', e⟩ := h.first
    match q, hq, ih with
    | 0, hq, _ => rw [h.head] at hq; cases hq; simp
    | q + 1, hq, ih =>
      have hm : p ∈ L.tail := by
        rw [e] at hq ⊢
        rw [List.getElem?_cons_succ] at hq
        exact List.mem_of_getElem? hq
      obtain ⟨_, _, r, p2, h3, h4, _⟩ := h.par p hm
      have hr : r < q + 1 := by
        apply Classical.byContradiction
        intro hn
        have hl : p.2.length = p2.2.length + 1 := by rw [h4]; simp
        rcases h.sle hq h3 (by omega) with h5 | h5
        · rw [h5] at hl; omega
        · rcases h5 with h5 | ⟨h5, _⟩
          · omega
          · omega
      have := ih r hr h3
      rw [h4]; simp; omega
theorem ord_succs (E : List EG) (lab : ByteArray) (n : Int) : (succs E lab n).Pairwise (· < ·) := (comp_spec (sortI_le _)).1

set_option maxHeartbeats 2000000 in
theorem way_c {w : World} {lab : ByteArray} {eA : Option Addr} {eC : Nat} {E : List EG} (hE : Row w eA (E.flatMap gcell)) (hl : E.length ≤ 50000) (a b : Int) :
    Calls prog 19 #[.string lab, .slice eA E.length eC, I64 a, I64 b] w fun e w' => Fr [] w w' ∧ WaySaid (succs E lab) (isName lab) a b w e w' := by
  refine span_Way.link ((bad_c w lab).mono ?_)
  rintro e1 w2 ⟨rfl, f2⟩
  refine ⟨_, rfl, bc (fun hb => ⟨f2, .inl ⟨by simpa using hb, rfl⟩⟩) fun hb => ?_⟩
  have hgood : isName lab = true := by simpa using hb
  refine (next_c (hE.old f2) (by omega)).mono ?_
  rintro e4 w5 ⟨f5, m, l, rfl, M5, X5, hm⟩
  have F5 := f2.trans' f5
  have hTN : ∀ y, ∀ x ∈ succs E lab y, x ∈ E.map (·.t) := fun y x hx => by
    obtain ⟨e, he, _, _, h5⟩ := mem_succs.1 hx
    exact List.mem_map.2 ⟨e, he, h5⟩
  have hTl : ∀ y, (succs E lab y).length ≤ E.length := fun y => by
    have h1 := succs_len E lab y
    have h2 : (tgt E lab y).length ≤ E.length := by unfold tgt; rw [List.length_map]; exact List.length_filter_le _ _
    omega
  have hord := ord_succs E lab
  have hNl : (E.map (·.t)).length = E.length := List.length_map _
  generalize E.map (·.t) = N at *
  generalize succs E lab = T at *
  refine ⟨some m, rfl, fun w7 k8 s7 h8 k11 w12 s12 b12 => ?_⟩
  have n8 := g_new1 s7
  have n11 := g_new1 s12
  have F12 := s7.fr.trans' s12.fr
  have z7 := s7.fr.size
  have b12 : Blk w12 k11 [I64 a] := b12
  refine ⟨fun mm p k c w' => ∃ (L : List EnW) (kk : Nat) (ls : List (Int × Value)), Bfs T a L kk 0 ∧ kk ≤ L.length ∧ mm = E.length + 2 - kk ∧ k = (L.drop kk).length ∧ OwnO w' w5.heap.size p (L.drop kk).length c ((L.drop kk).map fun e => I64 e.1) ∧ MapG kenc w' k8 ls ∧ AH a ls L ∧ b ∉ L.tail.map (·.1) ∧ Fr [] w5 w', E.length + 2,
    ⟨[(a, [a])], 0, [], Bfs.start T a, by simp, rfl, rfl, OwnO.of b12 (fun u hu => by rw [List.mem_singleton.1 hu]; rfl) (by omega), (MapG.new h8).fr s12.fr (by simp), ⟨by simp, fun q hq => (by cases hq), by simp⟩, by simp, F12⟩, ?_⟩
  rintro mm p18 k19 c20 w21 ⟨L, kk, ls, hB, hkk, rfl, rfl, o, M21, hA, hbn, F21⟩
  have hbound := hB.bound hTN
  refine bc (fun hpos => ?_) fun hnp => ?_
  · have hpos : (0 : Int) < ((L.drop kk).length : Int) := of_decide_eq_true hpos
    rw [List.length_drop] at hpos
    have hk : kk < L.length := by omega
    obtain ⟨e, he⟩ : ∃ e, L[kk]? = some e := ⟨_, List.getElem?_eq_getElem hk⟩
    have hdrop : ∀ (L : List EnW), L[kk]? = some e → L.drop kk = e :: L.drop (kk + 1) := fun L h => by
      obtain ⟨h1, h2⟩ := List.getElem?_eq_some_iff.1 h
      rw [List.drop_eq_getElem_cons h1, h2]
    obtain ⟨ad, hp⟩ := o.row.has (by rw [List.length_map, List.length_drop]; omega)
    have hcell : w21.cell? (ad.add 0) = some (I64 e.1) := o.row.get hp (by rw [hdrop L he]; rfl)
    obtain ⟨p26, c28, b29, lk, o26, _⟩ := X5.look e.1
    have r26 := o26.1.row
    refine ⟨ad, hp, ⟨by omega, by rw [List.length_drop]; omega⟩, e.1, hcell, l, M5.fr F21 (by simp), p26, _, c28, ⟨b29, lk⟩, ?_⟩
    refine ⟨fun mm p k c n w' => ∃ (j : Nat) (L : List EnW) (ls : List (Int × Value)), n = j ∧ j ≤ (T e.1).length ∧ mm = (T e.1).length - j ∧ Bfs T a L kk j ∧ L[kk]? = some e ∧ k = (L.drop kk).length ∧ OwnO w' w5.heap.size p (L.drop kk).length c ((L.drop kk).map fun e => I64 e.1) ∧ MapG kenc w' k8 ls ∧ AH a ls L ∧ b ∉ L.tail.map (·.1) ∧ Fr [] w5 w', (T e.1).length,
      ⟨0, L, ls, rfl, by omega, rfl, hB, he, rfl, o, M21, hA, hbn, F21⟩, ?_⟩
    rintro mm p33 k34 c35 n w37 ⟨j, L, ls, rfl, hj, rfl, hB, he, rfl, o, M37, hA, hbn, F37⟩
    have hbound := hB.bound hTN
    have hk := (List.getElem?_eq_some_iff.1 he).1
    have hTe := hTl e.1
    refine bc (fun hlt => ?_) fun hge => ?_
    · have hlt : (j : Int) < ((T e.1).length : Int) := of_decide_eq_true hlt
      have hlt' : j < (T e.1).length := by omega
      intro y39 h39
      have hwrap : IntKind.wrap .i64 ((j : Int) + 1) = ((j + 1 : Nat) : Int) := by rw [wrapi (by omega) (by omega)]; simp
      refine rd I64 (r26.old F37) rfl hlt' hlt ⟨ls, M37, ?_⟩
      have hx : (T e.1)[j]? = some (T e.1)[j] := List.getElem?_eq_getElem hlt'
      generalize (T e.1)[j] = x at *
      obtain ⟨n50, b51, hlk, hiff⟩ := hA.look M37.nodup x
      refine ⟨n50, b51, hlk, bc (fun hb51 => ?_) fun hb51 => ⟨k8, ls, rfl, M37, fun w54 u54 k56 => ?_⟩⟩
      · exact h39 _ _ _ _ ⟨(T e.1).length - (j + 1), by omega, j + 1, L, ls, hwrap, by omega, rfl, hB.skip he hx (hiff.1 hb51), he, rfl, o, M37, hA, hbn, F37⟩
      · have hxn : x ∉ L.tail.map (·.1) := fun h => by rw [hiff.2 h] at hb51; cases hb51
        have hself := hB.self he hx hxn
        have hB' := hB.add he (hord _) hx hxn
        have hA' := hA.add M37.nodup (by intro e0; rw [e0] at hk; simp at hk) (List.mem_of_getElem? he) hself hxn
        have hbound' := hB'.bound hTN
        have he' : (L ++ [(x, e.2 ++ [x])])[kk]? = some e := by rw [List.getElem?_append_left hk]; exact he
        have ed : (L ++ [(x, e.2 ++ [x])]).drop kk = L.drop kk ++ [(x, e.2 ++ [x])] := List.drop_append_of_le_length (by omega)
        have k8b : w5.heap.size ≤ k8 := n8.1
        have F54 : Fr [] w5 w54 := F37.trans u54.fr (fun z hz => .inr (by rw [List.mem_singleton.1 hz]; exact k8b))
        have o54 : OwnO w54 w5.heap.size p33 (L.drop kk).length c35 ((L.drop kk).map fun e => I64 e.1) := o.fr u54.fr (fun ad hp => by
          obtain ⟨cs, hb⟩ := o.blk hp
          simpa using map_blk M37 hb)
        refine append_o (x := I64 x) o54 rfl (by rw [List.length_drop]; omega) F54.size fun w57 p58 c60 G57 o57 d57 => ?_
        have F57 : Fr [] w5 w57 := F54.trans G57 (fun z hz => by
          obtain ⟨ad, hp, rfl⟩ := (g_mem_pb _ _).1 hz
          exact .inr (o54.lt hp).1)
        have M57 : MapG kenc w57 k8 (updM ls x (I64 e.1)) := u54.map.fr G57 (fun hz => by
          obtain ⟨ad, hp, e0⟩ := (g_mem_pb _ _).1 hz
          obtain ⟨cs, hb⟩ := o54.blk hp
          exact map_blk u54.map hb e0)
        have o57' : OwnO w57 w5.heap.size p58 ((L ++ [(x, e.2 ++ [x])]).drop kk).length c60 (((L ++ [(x, e.2 ++ [x])]).drop kk).map fun e => I64 e.1) := by
          rw [ed, List.map_append, List.length_append]; exact o57
        have hlast : (x, e.2 ++ [x]) ∈ (L ++ [(x, e.2 ++ [x])]).tail := by
          rw [List.tail_append_of_ne_nil (by intro e0; rw [e0] at hk; simp at hk)]; simp
        have hheadL := hB'.head
        generalize hL' : L ++ [(x, e.2 ++ [x])] = L' at *
        generalize hls' : updM ls x (I64 e.1) = ls' at *
        have hlen' : (L.drop kk).length + 1 = (L'.drop kk).length := by rw [ed]; simp
        refine bc (fun hxb => ?_) fun hxb => ?_
        · have hxb : ¬ x = b := by simpa using hxb
          refine h39 _ _ _ _ ⟨(T e.1).length - (j + 1), by omega, j + 1, L', ls', hwrap, by omega, rfl, hB', he', hlen', o57', M57, hA', ?_, F57⟩
          rw [← hL', List.tail_append_of_ne_nil (by intro e0; rw [e0] at hk; simp at hk), List.map_append]
          simp only [List.map_cons, List.map_nil, List.mem_append, List.mem_singleton]
          rintro (h | h)
          · exact hbn h
          · exact hxb h.symm
        · have hxb : x = b := by simpa using hxb
          intro k61 w62 s62 b62
          have n61 := g_new1 s62
          have F62 := F57.trans' s62.fr
          have b62 : Blk w62 k61 [I64 b] := b62
          have o62 : OwnZ w62 w57.heap.size 1 (some ⟨k61, 0, none⟩) [b].length 1 ([b].map I64) := OwnZ.blk b62 rfl (fun u hu => by rw [List.mem_singleton.1 hu]; rfl) n61.1
          have hew := hB'.walk he'
          refine ⟨fun mm n p k c w' => ∃ (xs u : List Int), k = xs.length ∧ 1 ≤ xs.length ∧ OwnZ w' w57.heap.size 1 p xs.length c (xs.map I64) ∧ e.2 ++ [x] = u ++ xs.reverse ∧ (n, u) ∈ L' ∧ (n = a → u = [a]) ∧ mm = u.length ∧ MapG kenc w' k8 ls' ∧ Fr [] w57 w' ∧ xs.length + mm ≤ 200000, e.2.length,
            ⟨[b], e.2, rfl, by simp, o62, by rw [hxb]; rfl, List.mem_of_getElem? he', hself, rfl, M57.fr s62.fr (by simp), s62.fr, ?_⟩, ?_⟩
          · have h1 := hB.len he; have h2 : [b].length = 1 := rfl; omega
          rintro mm n68 p69 k70 c71 w72 ⟨xs, u, rfl, hxs1, o72, hu, hmem, hna, rfl, M72, F72, hbig⟩
          have F72' := F57.trans' F72
          refine bc (fun hne => ?_) fun heq => ?_
          · have hne : ¬ n68 = a := by simpa using hne
            obtain ⟨L0, eL0⟩ := hB'.first
            have hmt : (n68, u) ∈ L'.tail := by
              rw [eL0] at hmem ⊢
              rcases List.mem_cons.1 hmem with h | h
              · injection h with h _; exact absurd h hne
              · exact h
            obtain ⟨pp, hpp, hlk2, hu2, hpa⟩ := hA'.par _ hmt
            have hu2 : u = pp.2 ++ [n68] := hu2
            have hul : u.length = pp.2.length + 1 := by rw [hu2]; simp
            intro k74
            refine appM1 (C := I64) (fun _ => rfl) (x := n68) (u := w57) (B := w57.heap.size) o72 F72 rfl (Nat.le_refl _) F72.size (fun h => by cases h) (by simp) (fun ad hp x hx => .inl hx) (by omega) (by omega) fun w75 p76 c78 F75 G75 n75 o75 d75 => ?_
            rw [List.nil_append] at G75
            have M75 := M72.fr G75 (fun hz => by
              obtain ⟨ad, hp, e0⟩ := (g_mem_pb _ _).1 hz
              obtain ⟨cs, hb⟩ := ownZ_blk o72 hp
              exact map_blk M72 hb e0)
            refine ⟨ls', M75, pp.1, ⟨true, .inl ⟨rfl, hlk2⟩⟩, pp.2.length, by omega, xs ++ [n68], pp.2, rfl, by simp, o75, ?_, hpp, hpa, rfl, M75, F75, by simp; omega⟩
            rw [hu, hu2]; simp
          · have heq : n68 = a := by simpa using heq
            have hua := hna heq
            have hway : e.2 ++ [x] = (xs ++ [a]).reverse := by rw [hu, hua]; simp
            intro k83
            refine append_z (B := w57.heap.size) (ys := xs.map I64) (xs := [I64 a]) o72 rfl (fun u hu => by rw [List.mem_singleton.1 hu]; rfl) F72.size rfl (fun h => by cases h) (by simp) (fun ad hp hpr' => hpr') (by omega) (by omega) fun w84 p85 c87 G84 n84 o84 d84 => ?_
            rw [List.nil_append] at G84
            obtain ⟨b85, rfl, zs, hb85⟩ : ∃ b, p85 = some ⟨b, 0, none⟩ ∧ ∃ zs, Blk w84 b ((xs ++ [a]).map I64 ++ zs) := by
              obtain ⟨_, hcc, _, h4⟩ := o84
              rcases h4 with ⟨_, e4⟩ | ⟨b, zs, rfl, hB, hb, _⟩
              · omega
              · exact ⟨b, rfl, zs, by simpa using hb⟩
            have hlow : w57.heap.size ≤ b85 := (o84.lt rfl).1
            have hk83 : k83 ≠ b85 := fun e0 => by
              have nk := n84 k83 (by simp)
              rcases d84 _ rfl with h | ⟨_, h⟩
              · have := (o72.lt h).2; have h2 : (⟨b85, 0, none⟩ : Addr).block = b85 := rfl; rw [h2] at this; omega
              · exact h (by simp [e0])
            have hl2 : (xs ++ [a]).length = xs.length + 1 := by simp
            have F84 : Fr [] w5 w84 := F72'.trans G84 (fun z hz => by
              obtain ⟨ad, hp, rfl⟩ := (g_mem_pb _ _).1 hz
              exact .inr (by have := (o72.lt hp).1; have := F57.size; omega))
            rw [← hl2]
            refine (reverse_c hb85 (by omega)).mono ?_
            rintro e88 w89 ⟨rfl, f89, hb89⟩
            refine ⟨rfl, fun z hz => ?_, F5.trans' (F84.trans f89 (fun z hz => .inr (by rw [List.mem_singleton.1 hz]; have := F57.size; omega))), .inr ⟨hgood, .inr ⟨e.2 ++ [x], b85, c87, zs, ?_, by have h1 := hB.len he; rw [List.length_append, List.length_singleton]; omega, ?_, ?_, ?_⟩⟩⟩
            · rw [List.mem_singleton.1 hz]
              exact f89.blk k83 (n84 k83 (by simp)).2 (by simpa using hk83)
            · have hp := hB'.par _ hlast
              rw [← hxb]
              exact ⟨hp.1, hp.2.1, hB'.min _ hlast⟩
            · rw [hway, List.length_reverse]
            · rw [hway]; exact hb89
            · have := F57.size; have := F5.size; omega
    · have hge : ¬ (j : Int) < ((T e.1).length : Int) := of_decide_eq_false hge
      have hd := hdrop L he
      have hlen : (L.drop kk).length = (L.drop (kk + 1)).length + 1 := by rw [hd]; rfl
      have hoo := o
      rw [hd, List.map_cons, List.length_cons] at hoo
      refine ⟨⟨by omega, by omega, by have := o.2.1; omega⟩, E.length + 2 - (kk + 1), by omega, L, kk + 1, ls, hB.next he (by omega), by omega, rfl, by omega, ?_, M37, hA, hbn, F37⟩
      exact hoo.tail
  · have hnp : ¬ (0 : Int) < ((L.drop kk).length : Int) := of_decide_eq_false hnp
    rw [List.length_drop] at hnp
    have : kk = L.length := by omega
    subst this
    exact ⟨F5.trans' F21, .inr ⟨hgood, .inl ⟨hB.none hbn, rfl⟩⟩⟩
end Go.Proofs.Ytnplopiconabiaa.Span

end
section
/- Span: what holds awake. -/
namespace Go.Proofs.Ytnplopiconabiaa.Span
open Go Go.V
open Go.Proofs.Ytnplopiconabiaa.VC
open Go.Proofs.Try (prog)
set_option linter.unusedVariables false
set_option linter.unusedSimpArgs false
set_option maxRecDepth 20000

theorem ints_c {w : World} {p q : Option Addr} {cp cq : Nat} {l : List Int} (hp : Row w p (l.map I64)) (hq : Row w q (l.map I64)) (hl : l.length < 9223372036854775807) :
    Calls prog 21 #[.slice p l.length cp, .slice q l.length cq] w fun e w' => e = .returned (.bool true) ∧ Fr [] w w' := by
  refine rhizomeref01_Ints.link (bF (by simp) ⟨fun m n w' => ∃ i : Nat, n = i ∧ i ≤ l.length ∧ m = l.length - i ∧ Fr [] w w', l.length, ⟨0, rfl, by omega, rfl, Fr.refl _ _⟩, ?_⟩)
  rintro m n w5 ⟨i, rfl, hi, rfl, f5⟩
  refine bc (fun hlt => ?_) fun _ => ⟨rfl, f5⟩
  have hlt : (i : Int) < (l.length : Int) := of_decide_eq_true hlt
  have hlt' : i < l.length := by omega
  refine rd kenc (hp.old f5) rfl hlt' hlt ?_
  refine rd kenc (hq.old f5) rfl hlt' hlt ?_
  exact bF (by simp) ⟨l.length - (i + 1), by omega, fun w14 st => ⟨i + 1, by rw [wrapi (by omega) (by omega)]; simp, by omega, rfl, f5.trans' st.fr⟩⟩
theorem sub_len {α : Type} [DecidableEq α] : ∀ {l l' : List α}, l.Nodup → (∀ x ∈ l, x ∈ l') → l.length ≤ l'.length
  | [], _, _, _ => by simp
  | a :: l, l', hn, h => by
    rw [List.nodup_cons] at hn
    have ha := h a (by simp)
    have ih := sub_len (l := l) (l' := l'.erase a) hn.2 (fun x hx => (List.mem_erase_of_ne (fun e => hn.1 (by rw [← e]; exact hx))).2 (h x (List.mem_cons_of_mem _ hx)))
    rw [List.length_erase_of_mem ha] at ih
    have := List.length_pos_of_mem ha
    rw [List.length_cons]; omega
theorem said_ok {T : Int → List Int} {w w' : World} {e : Ending} {P : List PI} (h : PairsSaid T true w e w') (hp : P.Nodup) (hP : ∀ x : PI, x ∈ P ↔ Reach T x.1 x.2) (hl : P.length ≤ 4000) :
    ∃ (b : Nat) (Z : List (Nat × PI)), e = .returned (.tuple #[.slice (some ⟨b, 0, none⟩) Z.length Z.length, I64 0]) ∧ Z.length = P.length ∧ Tups w' Z := by
  rcases h with ⟨h, _⟩ | ⟨_, ⟨X, hn, hl4, hx, _⟩ | ⟨b, Z, rfl, hs, hm, _, _, ht, _⟩⟩
  · cases h
  · have := sub_len hn (fun x hx' => (hP x).2 (hx x hx')); omega
  · refine ⟨b, Z, rfl, ?_, ht⟩
    have hz : (Z.map (·.2)).Nodup := hs.imp fun h e => by rw [e] at h; exact plt_irrefl _ h
    have hp2 : (Z.map (·.2)).Perm P := (List.perm_ext_iff_of_nodup hz hp).2 fun x => by rw [hm, hP]
    simpa using hp2.length_eq
abbrev labA : ByteArray := ⟨#[97]⟩
theorem labA_ok : isName labA = true := by decide
abbrev E0 : List EG := [⟨1, labA, 2⟩, ⟨2, labA, 3⟩, ⟨3, labA, 2⟩]
theorem T0 {n x : Int} : x ∈ succs E0 labA n ↔ (n = 1 ∧ x = 2) ∨ (n = 2 ∧ x = 3) ∨ (n = 3 ∧ x = 2) := by
  rw [mem_succs]
  simp
  omega
theorem R0 {a b : Int} : Reach (succs E0 labA) a b ↔ (a = 1 ∨ a = 2 ∨ a = 3) ∧ (b = 2 ∨ b = 3) := by
  constructor
  · intro h
    induction h with
    | one h => rw [T0] at h; omega
    | more _ h ih => rw [T0] at h; omega
  · rintro ⟨h1, h2⟩
    have s12 : Reach (succs E0 labA) 1 2 := .one (T0.2 (by omega))
    have s23 : Reach (succs E0 labA) 2 3 := .one (T0.2 (by omega))
    have s32 : Reach (succs E0 labA) 3 2 := .one (T0.2 (by omega))
    rcases h1 with rfl | rfl | rfl <;> rcases h2 with rfl | rfl
    · exact s12
    · exact s12.trans s23
    · exact s23.trans s32
    · exact s23
    · exact s32
    · exact s32.trans s23
theorem way0 : WayIs (succs E0 labA) 2 2 [2, 3, 2] := by
  refine ⟨.snoc (u := [2, 3]) (.snoc (u := [2]) .nil (T0.2 (by omega))) (T0.2 (by omega)), by simp, fun u hu hl => ?_⟩
  obtain ⟨u1, z, h1, h2, rfl⟩ := hu.cut hl
  rw [T0] at h2
  have hz : 2 ≤ u1.length := by
    cases h1 with
    | nil => omega
    | snoc h _ => have := h.len; simp; omega
  obtain ⟨u2, y, h3, h4, rfl⟩ := h1.cut hz
  rw [T0] at h4
  have hz3 : z = 3 := by omega
  cases h3 with
  | nil => rw [hz3]; exact .inl rfl
  | snoc h _ => have := h.len; exact .inr (.inl (by simp; omega))
open Classical in
theorem rings0 {K : List Int} (hK : K.Pairwise (· < ·)) (h : ∀ a b, Reach (succs E0 labA) a b → a ∈ K) : ringsOf (succs E0 labA) K K = [[2, 3]] := by
  have k2 : (2 : Int) ∈ K := h 2 2 (R0.2 (by omega))
  have k3 : (3 : Int) ∈ K := h 3 2 (R0.2 (by omega))
  have hm : ∀ a b, Mut (succs E0 labA) a b ↔ (a = 2 ∨ a = 3) ∧ (b = 2 ∨ b = 3) := fun a b => by unfold Mut; rw [R0, R0]; omega
  have e1 : (K.filter fun a => decide (IsHead (succs E0 labA) K a)) = [2] := lt_ext (hK.filter _) (by simp) fun x => by
    rw [List.mem_filter, List.mem_singleton, decide_eq_true_eq]
    constructor
    · rintro ⟨_, h1, h2⟩
      rw [R0] at h1
      have := h2 2 k2
      rw [hm] at this
      rcases h1.2 with h3 | h3
      · exact h3
      · have := this (by omega); omega
    · rintro rfl
      refine ⟨k2, R0.2 (by omega), fun y _ hy => ?_⟩
      rw [hm] at hy; omega
  have e2 : ringOf (succs E0 labA) K 2 = [2, 3] := lt_ext (hK.filter _) (by simp) fun x => by
    rw [mem_ringOf, hm]
    simp
    rintro (rfl | rfl)
    · exact k2
    · exact k3
  unfold ringsOf
  rw [e1, List.map_singleton, e2]

theorem awake_c (w : World) : Calls prog 14 #[] w fun e w' => e = .returned (.bool true) ∧ Fr [] w w' := by
  refine rhizomelaw13_awake.link (_u := ()) fun k1 w2 s2 b2 => ?_
  have b2 : Blk w2 k1 (E0.flatMap gcell) := b2
  have hrow : Row w2 (some ⟨k1, 0, none⟩) (E0.flatMap gcell) := Row.of_blk (off := 0) b2 (fun j u hj => by rw [Nat.zero_add]; exact hj) (fun u hu => by
    obtain ⟨e, _, he⟩ := List.mem_flatMap.1 hu
    exact flatG.2 e u he)
  refine (pairs_c (lab := labA) (E := E0) (eC := 3) hrow (by simp) (fun e he => by simp at he; unfold inR; rcases he with rfl | rfl | rfl <;> simp)).mono ?_
  rintro e5 w6 ⟨f6, hs⟩
  rw [labA_ok] at hs
  obtain ⟨b, Z, rfl, hZ, _⟩ := said_ok (P := [(1, 2), (1, 3), (2, 2), (2, 3), (3, 2), (3, 3)]) hs (by decide) (fun x => by
    obtain ⟨x1, x2⟩ := x
    rw [R0]; simp; omega) (by simp)
  refine ⟨_, _, _, _, rfl, (way_c (lab := labA) (E := E0) (eC := 3) (hrow.old f6) (by simp) 2 2).mono ?_⟩
  rintro e11 w12 ⟨f12, hw⟩
  rw [labA_ok] at hw
  have hr12 := (hrow.old f6).old f12
  rcases hw with ⟨h, _⟩ | ⟨_, ⟨hno, _⟩ | ⟨u, k, c, cs, hu, _, rfl, hbk, _⟩⟩
  · cases h
  · exact absurd way0.2.1 (hno _ way0.1)
  obtain rfl := hu.uniq way0
  refine ⟨_, _, _, _, rfl, (rings_c (lab := labA) (E := E0) (eC := 3) hr12 (by simp) (fun e he => by simp at he; unfold inR; rcases he with rfl | rfl | rfl <;> simp)).mono ?_⟩
  rintro e17 w18 ⟨f18, K, hK, hKr, hs⟩
  rw [labA_ok] at hs
  rcases hs with ⟨h, _⟩ | ⟨_, p, c2, Z2, rfl, hZ2, o, ht, _, _⟩
  · cases h
  rw [rings0 hK hKr] at hZ2
  obtain ⟨z, rfl⟩ : ∃ z, Z2 = [z] := by
    have h1 : Z2.length = 1 := by simpa using congrArg List.length hZ2
    exact List.length_eq_one_iff.1 h1
  have hz : z.2 = [2, 3] := by simpa using hZ2
  refine ⟨_, _, _, _, rfl, fun y23 h23 => bT rfl (bT (by rw [hZ]; rfl) (bT rfl fun k28 w29 s29 b29 => ?_))⟩
  have b29 : Blk w29 k28 ([2, 3, 2].map I64) := b29
  have rowI : ∀ {w : World} {k : Nat} {l : List Int} {cs : List Value}, Blk w k (l.map I64 ++ cs) → Row w (some ⟨k, 0, none⟩) (l.map I64) := fun {w k l cs} h =>
    Row.of_blk (off := 0) h (fun j u hj => by rw [Nat.zero_add, List.getElem?_append_left (List.getElem?_eq_some_iff.1 hj).1]; exact hj) (fun u hu => by obtain ⟨n, _, rfl⟩ := List.mem_map.1 hu; rfl)
  refine (ints_c (l := [2, 3, 2]) (rowI ((hbk.fr f18 (by simp)).fr s29.fr (by simp))) (rowI (cs := []) (by simpa using b29)) (by simp)).mono ?_
  rintro e32 w33 ⟨rfl, f33⟩
  have o33 := (o.fr s29.fr (fun _ _ => by simp)).fr f33 (fun _ _ => by simp)
  obtain ⟨ad, hp⟩ := o33.row.has (by simp)
  have hcell : w33.cell? (ad.add 0) = some (rz z) := o33.row.get hp rfl
  refine ⟨_, rfl, bT rfl (bT rfl (bT rfl ⟨ad, hp, ⟨by omega, by simp⟩, _, _, _, hcell, fun k39 w40 s40 b40 => ?_⟩))⟩
  have b40 : Blk w40 k39 ([2, 3].map I64) := b40
  have hz40 : RingO w40 z := (((ht z (by simp)).fr s29.fr (by simp)).fr f33 (by simp)).fr s40.fr (by simp)
  obtain ⟨cs2, hz40⟩ := hz40
  rw [hz] at hz40
  have hlz : z.2.length = 2 := by rw [hz]; rfl
  rw [hlz]
  refine (ints_c (l := [2, 3]) (rowI hz40) (rowI (cs := []) (by simpa using b40)) (by simp)).mono ?_
  rintro e43 w44 ⟨rfl, f44⟩
  exact ⟨_, rfl, h23 _ _ ⟨rfl, s2.fr.trans' (f6.trans' (f12.trans' (f18.trans' (s29.fr.trans' (f33.trans' (s40.fr.trans' f44))))))⟩⟩
end Go.Proofs.Ytnplopiconabiaa.Span

end
section
/- Span: the reference's Cmp, Has, Same. -/
namespace Go.Proofs.Ytnplopiconabiaa.Span
open Go Go.V
open Go.Proofs.Ytnplopiconabiaa.VC
open Go.Proofs.Try (prog)
set_option linter.unusedVariables false
set_option linter.unusedSimpArgs false
set_option maxRecDepth 20000

theorem pcmp_gt {x y : PI} (h : y.1 < x.1 ∨ (x.1 = y.1 ∧ y.2 < x.2)) : pcmp x y = 1 := by
  unfold pcmp
  rcases cI x.1 y.1 with ⟨h1, h2⟩ | ⟨h1, h2⟩ | ⟨h1, h2⟩ <;> rcases cI x.2 y.2 with ⟨h3, h4⟩ | ⟨h3, h4⟩ | ⟨h3, h4⟩ <;> rw [h1] <;> simp <;> omega
theorem pcmp_le {x y : PI} (h : plt x y) : pcmp x y = -1 := by
  unfold plt at h
  unfold pcmp
  rcases cI x.1 y.1 with ⟨h1, h2⟩ | ⟨h1, h2⟩ | ⟨h1, h2⟩ <;> rcases cI x.2 y.2 with ⟨h3, h4⟩ | ⟨h3, h4⟩ | ⟨h3, h4⟩ <;> rw [h1] <;> simp <;> omega
theorem cmpR_c {w : World} {a b : Option Addr} {ca cb : Nat} {x y : PI} (hx : Row w a ([x.1, x.2].map I64)) (hy : Row w b ([y.1, y.2].map I64)) :
    Calls prog 46 #[.slice a 2 ca, .slice b 2 cb] w fun e w' => e = .returned (I64 (pcmp x y)) ∧ Fr [] w w' := by
  refine rhizomeref10_Cmp.link ⟨fun m n w' => ∃ i : Nat, n = i ∧ i ≤ 2 ∧ m = 2 - i ∧ (1 ≤ i → x.1 = y.1) ∧ (2 ≤ i → x.2 = y.2) ∧ Fr [] w w', 2, ⟨0, rfl, by omega, rfl, by omega, by omega, Fr.refl _ _⟩, ?_⟩
  rintro m n w5 ⟨i, rfl, hi, rfl, h1, h2, F⟩ y7 h7
  have hx5 := hx.old F
  have hy5 := hy.old F
  obtain rfl | rfl | rfl : i = 0 ∨ i = 1 ∨ i = 2 := by omega
  · refine bT rfl (h7 _ _ (bT rfl ?_))
    refine rd I64 (i := 0) hx5 rfl (by simp) (by decide) (rd I64 (i := 0) hy5 rfl (by simp) (by decide) ?_)
    refine bc (fun h => fun w14 s14 => ⟨?_, F.trans' s14.fr⟩) fun h => rd I64 (i := 0) hx5 rfl (by simp) (by decide) (rd I64 (i := 0) hy5 rfl (by simp) (by decide) (bc (fun h' => fun w20 s20 => ⟨?_, F.trans' s20.fr⟩) fun h' => ⟨1, by omega, fun w23 s23 => ⟨1, by rw [wrapi (by omega) (by omega)]; rfl, by omega, rfl, ?_, by omega, F.trans' s23.fr⟩⟩))
    · rw [pcmp_le (.inl (of_decide_eq_true h))]
    · rw [pcmp_gt (.inl (of_decide_eq_true h'))]
    · have h : ¬ x.1 < y.1 := of_decide_eq_false h
      have h' : ¬ y.1 < x.1 := of_decide_eq_false h'
      intro _; omega
  · refine bT rfl (h7 _ _ (bT rfl ?_))
    have e1 := h1 (by omega)
    refine rd I64 (i := 1) hx5 rfl (by simp) (by decide) (rd I64 (i := 1) hy5 rfl (by simp) (by decide) ?_)
    refine bc (fun h => fun w14 s14 => ⟨?_, F.trans' s14.fr⟩) fun h => rd I64 (i := 1) hx5 rfl (by simp) (by decide) (rd I64 (i := 1) hy5 rfl (by simp) (by decide) (bc (fun h' => fun w20 s20 => ⟨?_, F.trans' s20.fr⟩) fun h' => ⟨0, by omega, fun w23 s23 => ⟨2, by rw [wrapi (by omega) (by omega)]; rfl, by omega, rfl, fun _ => e1, ?_, F.trans' s23.fr⟩⟩))
    · rw [pcmp_le (.inr ⟨e1, of_decide_eq_true h⟩)]
    · rw [pcmp_gt (.inr ⟨e1, of_decide_eq_true h'⟩)]
    · have h : ¬ x.2 < y.2 := of_decide_eq_false h
      have h' : ¬ y.2 < x.2 := of_decide_eq_false h'
      intro _; omega
  · refine bF rfl (h7 _ _ (bF rfl (bF rfl (bF rfl ⟨?_, F⟩))))
    rw [(pcmp_eq x y).2 (Prod.ext (h1 (by omega)) (h2 (by omega)))]
/-- Rows of pairs: each a slice of two. -/
def PRow (w : World) (l : Option Addr) (xs : List PI) : Prop := ∃ Z : List (Nat × PI), Row w l (Z.map tz) ∧ Tups w Z ∧ Z.map (·.2) = xs
theorem TupO.rowI {w : World} {b : Nat} {x : PI} (h : TupO w b x) : Row w (some ⟨b, 0, none⟩) ([x.1, x.2].map I64) := h.row
theorem has_c {w : World} {l : Option Addr} {lC : Nat} {Z : List (Nat × PI)} {t : Option Addr} {tC : Nat} {y : PI} (hr : Row w l (Z.map tz)) (hz : Tups w Z) (hy : Row w t ([y.1, y.2].map I64)) (hl : Z.length ≤ 1000000) :
    Calls prog 24 #[.slice l Z.length lC, .slice t 2 tC] w fun e w' => e = .returned (.bool (decide (y ∈ Z.map (·.2)))) ∧ Fr [] w w' := by
  refine rhizomeref10_Has.link ⟨fun m n w' => ∃ i : Nat, n = i ∧ i ≤ Z.length ∧ m = Z.length - i ∧ y ∉ (Z.take i).map (·.2) ∧ Fr [] w w', Z.length, ⟨0, rfl, by omega, rfl, by simp, Fr.refl _ _⟩, ?_⟩
  rintro m n w5 ⟨i, rfl, hi, rfl, hn, F⟩
  refine bc (fun hlt => ?_) fun hge => ?_
  · have hlt : (i : Int) < (Z.length : Int) := of_decide_eq_true hlt
    have hlt' : i < Z.length := by omega
    have hrow := hr.old F
    obtain ⟨ad, hp⟩ := hrow.has (by rw [List.length_map]; omega)
    have hcell : w5.cell? (ad.add i) = some (tz Z[i]) := hrow.get hp (by simp [hlt'])
    have hti : TupO w5 Z[i].1 Z[i].2 := (hz _ (List.getElem_mem hlt')).fr F (by simp)
    refine ⟨ad, hp, ⟨by omega, hlt⟩, _, _, _, by rw [Int.toNat_natCast, Nat.mul_one]; exact hcell, (cmpR_c hti.rowI (hy.old F)).mono ?_⟩
    rintro e11 w12 ⟨rfl, f12⟩
    refine ⟨_, rfl, bc (fun h0 => ⟨?_, F.trans' f12⟩) fun h0 => ⟨Z.length - (i + 1), by omega, i + 1, by rw [wrapi (by omega) (by omega)]; simp, by omega, rfl, ?_, F.trans' f12⟩⟩
    · have h0 := (pcmp_eq _ _).1 (of_decide_eq_true h0)
      rw [decide_eq_true (by rw [← h0]; exact List.mem_map.2 ⟨_, List.getElem_mem hlt', rfl⟩)]
    · have h0 : ¬ Z[i].2 = y := fun e => of_decide_eq_false h0 ((pcmp_eq _ _).2 e)
      rw [take_snoc hlt', List.map_append, List.mem_append]
      rintro (h | h)
      · exact hn h
      · have h : y = Z[i].2 := by simpa using h
        exact h0 h.symm
  · have hge : ¬ (i : Int) < (Z.length : Int) := of_decide_eq_false hge
    have : i = Z.length := by omega
    subst this
    rw [List.take_length] at hn
    exact ⟨by rw [decide_eq_false hn], F⟩
theorem same_c {w : World} {l l' : Option Addr} {lC lC' : Nat} {Z Z' : List (Nat × PI)} (hr : Row w l (Z.map tz)) (hz : Tups w Z) (hr' : Row w l' (Z'.map tz)) (hz' : Tups w Z') (hl : Z.length ≤ 1000000) :
    Calls prog 17 #[.slice l Z.length lC, .slice l' Z'.length lC'] w fun e w' => e = .returned (.bool (decide (Z.map (·.2) = Z'.map (·.2)))) ∧ Fr [] w w' := by
  refine rhizomeref10_Same.link (bc (fun hne => ?_) fun hne => ?_)
  · have hne : ¬ (Z.length : Int) = Z'.length := by simpa using hne
    refine ⟨?_, Fr.refl _ _⟩
    rw [decide_eq_false fun e => hne (by have := congrArg List.length e; simp only [List.length_map] at this; omega)]
  · have hlen : (Z.length : Int) = Z'.length := by simpa using hne
    refine ⟨fun m n w' => ∃ i : Nat, n = i ∧ i ≤ Z.length ∧ m = Z.length - i ∧ (Z.take i).map (·.2) = (Z'.take i).map (·.2) ∧ Fr [] w w', Z.length, ⟨0, rfl, by omega, rfl, by simp, Fr.refl _ _⟩, ?_⟩
    rintro m n w5 ⟨i, rfl, hi, rfl, he, F⟩
    refine bc (fun hlt => ?_) fun hge => ?_
    · have hlt : (i : Int) < (Z.length : Int) := of_decide_eq_true hlt
      have hlt' : i < Z.length := by omega
      have hlt2 : i < Z'.length := by omega
      obtain ⟨ad, hp⟩ := (hr.old F).has (by rw [List.length_map]; omega)
      have hcell : w5.cell? (ad.add i) = some (tz Z[i]) := (hr.old F).get hp (by simp [hlt'])
      obtain ⟨ad2, hp2⟩ := (hr'.old F).has (by rw [List.length_map]; omega)
      have hcell2 : w5.cell? (ad2.add i) = some (tz Z'[i]) := (hr'.old F).get hp2 (by simp [hlt2])
      refine ⟨ad, hp, ⟨by omega, hlt⟩, _, _, _, by rw [Int.toNat_natCast, Nat.mul_one]; exact hcell, ad2, hp2, ⟨by omega, by omega⟩, _, _, _, by rw [Int.toNat_natCast, Nat.mul_one]; exact hcell2, fun w15 s15 => ?_⟩
      have F15 := F.trans' s15.fr
      refine (cmpR_c ((hz _ (List.getElem_mem hlt')).fr F15 (by simp)).rowI ((hz' _ (List.getElem_mem hlt2)).fr F15 (by simp)).rowI).mono ?_
      rintro e17 w18 ⟨rfl, f18⟩
      refine ⟨_, rfl, bc (fun h0 => ⟨?_, F15.trans' f18⟩) fun h0 => ⟨Z.length - (i + 1), by omega, i + 1, by rw [wrapi (by omega) (by omega)]; simp, by omega, rfl, ?_, F15.trans' f18⟩⟩
      · have h0 : ¬ pcmp Z[i].2 Z'[i].2 = 0 := by simpa using h0
        rw [decide_eq_false fun e => h0 ((pcmp_eq _ _).2 ?_)]
        have h1 : (Z.map (·.2))[i]? = (Z'.map (·.2))[i]? := by rw [e]
        rw [List.getElem?_map, List.getElem?_map, List.getElem?_eq_getElem hlt', List.getElem?_eq_getElem hlt2] at h1
        exact Option.some.inj h1
      · have h0 : pcmp Z[i].2 Z'[i].2 = 0 := by simpa using h0
        rw [take_snoc hlt', take_snoc hlt2, List.map_append, List.map_append, he]
        simp [(pcmp_eq _ _).1 h0]
    · have hge : ¬ (i : Int) < (Z.length : Int) := of_decide_eq_false hge
      have : i = Z.length := by omega
      subst this
      rw [List.take_length, List.take_of_length_le (by omega)] at he
      exact ⟨by rw [decide_eq_true he], F⟩
theorem take_filterG {α : Type} {p : α → Bool} {l : List α} {j : Nat} (h : j < l.length) : (l.take (j + 1)).filter p = (l.take j).filter p ++ if p l[j] then [l[j]] else [] := by
  rw [take_snoc h, List.filter_append]
  by_cases e : p l[j] <;> simp [e]
theorem without_c {w : World} {l l' : Option Addr} {lC lC' : Nat} {Z Z' : List (Nat × PI)} (hr : Row w l (Z.map tz)) (hz : Tups w Z) (hr' : Row w l' (Z'.map tz)) (hz' : Tups w Z') (hl : Z.length ≤ 100000) (hl' : Z'.length ≤ 100000) :
    Calls prog 25 #[.slice l Z.length lC, .slice l' Z'.length lC'] w fun e w' => Fr [] w w' ∧ ∃ (p : Option Addr) (c : Nat), e = .returned (.slice p (Z.filter fun z => !decide (z.2 ∈ Z'.map (·.2))).length c) := by
  refine rhizomeref10_Without.link ⟨fun m p k c n w' => ∃ (i : Nat) (Y : List (Nat × PI)), n = i ∧ i ≤ Z.length ∧ m = Z.length - i ∧ k = Y.length ∧ Y = (Z.take i).filter (fun z => !decide (z.2 ∈ Z'.map (·.2))) ∧ Y.length ≤ i ∧ OwnZ w' w.heap.size 1 p Y.length c (Y.map tz) ∧ Fr [] w w', Z.length, ⟨0, [], rfl, by omega, rfl, rfl, by simp, by simp, OwnZ.nil _ _ _, Fr.refl _ _⟩, ?_⟩
  rintro m p4 k5 c6 n w8 ⟨i, Y, rfl, hi, rfl, rfl, hY, hYi, o, F⟩
  refine bc (fun hlt => ?_) fun hge => ?_
  · have hlt : (i : Int) < (Z.length : Int) := of_decide_eq_true hlt
    have hlt' : i < Z.length := by omega
    intro y10 h10
    obtain ⟨ad, hp⟩ := (hr.old F).has (by rw [List.length_map]; omega)
    have hcell : ∀ w', Fr [] w w' → w'.cell? (ad.add i) = some (tz Z[i]) := fun w' F => (hr.old F).get hp (by simp [hlt'])
    have hti : TupO w8 Z[i].1 Z[i].2 := (hz _ (List.getElem_mem hlt')).fr F (by simp)
    have hwrap : IntKind.wrap .i64 ((i : Int) + 1) = ((i + 1 : Nat) : Int) := by rw [wrapi (by omega) (by omega)]; simp
    have htf := take_filterG (p := fun z : Nat × PI => !decide (z.2 ∈ Z'.map (·.2))) hlt'
    rw [← hY] at htf
    refine ⟨ad, hp, ⟨by omega, hlt⟩, _, _, _, by rw [Int.toNat_natCast, Nat.mul_one]; exact hcell _ F, (has_c (hr'.old F) (fun z hz2 => (hz' z hz2).fr F (by simp)) hti.rowI (by omega)).mono ?_⟩
    rintro e22 w23 ⟨rfl, f23⟩
    have F23 := F.trans' f23
    have o23 := o.fr f23 (fun _ _ => by simp)
    refine ⟨_, rfl, bc (fun hb => ?_) fun hb => ?_⟩
    · rw [if_pos hb] at htf
      refine ⟨ad, hp, ⟨by omega, hlt⟩, _, _, _, by rw [Int.toNat_natCast, Nat.mul_one]; exact hcell _ F23, fun k29 => ?_⟩
      refine appM1 (C := tz) (fun _ => rfl) (x := Z[i]) (u := w) (B := w.heap.size) o23 F23 rfl (Nat.le_refl _) F23.size (fun h => by cases h) (by simp) (fun ad hp x hx => .inl hx) (by omega) (by omega) fun w30 p31 c33 F30 _ _ o30 _ => ?_
      exact h10 _ _ _ _ ⟨Z.length - (i + 1), by omega, i + 1, Y ++ [Z[i]], hwrap, by omega, rfl, rfl, htf.symm, by simp; omega, o30, F30⟩
    · rw [if_neg (by rw [hb]; simp), List.append_nil] at htf
      exact h10 _ _ _ _ ⟨Z.length - (i + 1), by omega, i + 1, Y, hwrap, by omega, rfl, rfl, htf.symm, by omega, o23, F23⟩
  · have hge : ¬ (i : Int) < (Z.length : Int) := of_decide_eq_false hge
    have : i = Z.length := by omega
    subst this
    rw [List.take_length] at hY
    exact ⟨F, p4, c6, by rw [hY]⟩
end Go.Proofs.Ytnplopiconabiaa.Span

end
section
/- Span: edges, as the reader tells them. -/
namespace Go.V
open Go.RowKit
theorem Row.ofF {α : Type} {f : α → List Value} {sz : Nat} {w : World} {p : Option Addr} {l : List α} (F : Flat f sz) (hs : 0 < sz)
    (h : ∀ i e, l[i]? = some e → ∃ ad, p = some ad ∧ ∀ j u, (f e)[j]? = some u → w.cell? ((ad.add (i * sz)).add j) = some u) : Row w p (l.flatMap f) := by
  refine ⟨fun j u hj => ?_, F.one l⟩
  have hlt := (List.getElem?_eq_some_iff.1 hj).1
  rw [F.len] at hlt
  have hi : j / sz < l.length := Nat.div_lt_of_lt_mul (by rw [Nat.mul_comm]; exact hlt)
  have hm : j % sz < sz := Nat.mod_lt _ hs
  have ej : j / sz * sz + j % sz = j := by rw [Nat.mul_comm]; exact Nat.div_add_mod j sz
  obtain ⟨ad, hp, hc⟩ := h (j / sz) _ (List.getElem?_eq_getElem hi)
  refine ⟨ad, hp, ?_⟩
  have := F.get l (j / sz) hi (j % sz) hm
  rw [ej, hj] at this
  have h2 := hc (j % sz) u this.symm
  rw [Go.Deep.add_add, ej] at h2
  exact h2
end Go.V
namespace Go.Proofs.Ytnplopiconabiaa.Span
open Go Go.V
open Go.Proofs.Try (prog)
set_option linter.unusedVariables false
set_option linter.unusedSimpArgs false
set_option maxRecDepth 20000

theorem edge_of {w : World} {cs : List Value} {d : Dt} (h : Rd prog w 48 cs d) : ∃ o : EG, cs = gcell o ∧ inR o.f ∧ inR o.t := by
  obtain ⟨z, rfl, hl, hz, hr⟩ := h.st' Go.Proofs.Try.underlying48
  have hC : prog.cellsOf 48 = 3 := by kernel_rfl
  have c3 : prog.cellsOf 3 = 1 := by kernel_rfl
  have c9 : prog.cellsOf 9 = 1 := by kernel_rfl
  rw [hC] at hl
  match cs, hl, z, hz with
  | [v0, v1, v2], _, [d0, d1, d2], _ =>
    have r0 : Rd prog w 3 (([v0, v1, v2].drop 0).take (prog.cellsOf 3)) d0 := hr 0 _ d0 rfl rfl
    have r1 : Rd prog w 9 (([v0, v1, v2].drop 1).take (prog.cellsOf 9)) d1 := hr 1 _ d1 rfl rfl
    have r2 : Rd prog w 3 (([v0, v1, v2].drop 2).take (prog.cellsOf 3)) d2 := hr 2 _ d2 rfl rfl
    simp only [c3, c9] at r0 r1 r2
    obtain ⟨n0, e0, _, f0⟩ := r0.int' Go.Proofs.Try.underlying3
    obtain ⟨x1, e1, _, _⟩ := r1.str' Go.Proofs.Try.underlying9
    obtain ⟨n2, e2, _, f2⟩ := r2.int' Go.Proofs.Try.underlying3
    refine ⟨⟨n0, x1, n2⟩, ?_, ?_, ?_⟩
    · simp at e0 e1 e2
      simp [gcell, e0, e1, e2]
    · have := wf64 f0
      unfold inR
      show -9223372036854775808 ≤ n0 ∧ n0 ≤ 9223372036854775807
      omega
    · have := wf64 f2
      unfold inR
      show -9223372036854775808 ≤ n2 ∧ n2 ≤ 9223372036854775807
      omega

theorem edges_of {w : World} {a : Option Addr} {len cap : Nat} {d : Dt} (h : Rd prog w 22 [.slice a len cap] d) : ∃ E : List EG, E.length = len ∧ Row w a (E.flatMap gcell) ∧ ∀ e ∈ E, inR e.f ∧ inR e.t := by
  obtain ⟨a', len', cap', z, e, rfl, hz, hl, hw, hr⟩ := h.sl' Go.Proofs.Try.underlying22
  simp at e
  obtain ⟨rfl, rfl, rfl⟩ := e
  have hC : prog.cellsOf 48 = 3 := by kernel_rfl
  rw [hC] at hr
  have hall : ∀ i, i < len → ∃ o : EG, (inR o.f ∧ inR o.t) ∧ ∃ ad, a = some ad ∧ ∀ j u, (gcell o)[j]? = some u → w.cell? ((ad.add (i * 3)).add j) = some u := fun i hi => by
    obtain ⟨ad, C, ha, h1, h2, h3⟩ := hr i z[i] (List.getElem?_eq_getElem (by omega))
    obtain ⟨o, e, g⟩ := edge_of h3
    subst e
    refine ⟨o, g, ad, ha, fun j u hj => ?_⟩
    have hj3 : j < 3 := (List.getElem?_eq_some_iff.1 hj).1
    have := h2 j (by omega)
    rw [this]
    exact hj
  obtain ⟨l, h1, h2⟩ := choose_list hall
  refine ⟨l, h1, Row.ofF flatG (by omega) fun i e he => (h2 i e he).2, fun e he => ?_⟩
  obtain ⟨i, hi, rfl⟩ := List.mem_iff_getElem.1 he
  exact (h2 i _ (List.getElem?_eq_getElem hi)).1
end Go.Proofs.Ytnplopiconabiaa.Span

end
section
/- Span: plain facts on spans of few edges. -/
namespace Go.Proofs.Ytnplopiconabiaa.Span
open Go Go.V
set_option linter.unusedVariables false
set_option linter.unusedSimpArgs false

theorem reach_mono {T T' : Int → List Int} (h : ∀ y, ∀ x ∈ T y, x ∈ T' y) {a b : Int} (hr : Reach T a b) : Reach T' a b := by
  induction hr with
  | one h1 => exact .one (h _ _ h1)
  | more _ h1 ih => exact .more ih (h _ _ h1)
theorem succs_mono {E E' : List EG} (h : ∀ e ∈ E, e ∈ E') (lab : ByteArray) : ∀ y, ∀ x ∈ succs E lab y, x ∈ succs E' lab y := fun y x hx => by
  obtain ⟨e, he, h1⟩ := mem_succs.1 hx
  exact mem_succs.2 ⟨e, h e he, h1⟩
/-- A span's pairs, taken for edges, span the same. -/
theorem reach_pairs {T : Int → List Int} {lab : ByteArray} {X : List PI} (hX : ∀ x : PI, x ∈ X ↔ Reach T x.1 x.2) {a b : Int} : Reach (succs (X.map fun x => (⟨x.1, lab, x.2⟩ : EG)) lab) a b ↔ Reach T a b := by
  have hT : ∀ y x, x ∈ succs (X.map fun x => (⟨x.1, lab, x.2⟩ : EG)) lab y ↔ Reach T y x := fun y x => by
    rw [mem_succs]
    constructor
    · rintro ⟨e, he, h1, h2, h3⟩
      obtain ⟨z, hz, rfl⟩ := List.mem_map.1 he
      have h2 : z.1 = y := h2
      have h3 : z.2 = x := h3
      rw [← h2, ← h3]; exact (hX z).1 hz
    · intro h
      exact ⟨_, List.mem_map.2 ⟨(y, x), (hX _).2 h, rfl⟩, rfl, rfl, rfl⟩
  constructor
  · intro h
    induction h with
    | one h => exact (hT _ _).1 h
    | more _ h ih => exact ih.trans ((hT _ _).1 h)
  · intro h; exact .one ((hT _ _).2 h)
/-- Of few edges the span has few pairs. -/
theorem few {E : List EG} {lab : ByteArray} {X : List PI} (hn : X.Nodup) (hX : ∀ x ∈ X, Reach (succs E lab) x.1 x.2) : X.length ≤ E.length * E.length := by
  have h := sub_len hn (l' := E.flatMap fun e => E.map fun e' => ((e.f, e'.t) : PI)) (fun x hx => by
    have hr := hX x hx
    obtain ⟨y, r, h1⟩ := List.exists_cons_of_ne_nil hr.first
    obtain ⟨e, he, _, h2, _⟩ := mem_succs.1 (show y ∈ succs E lab x.1 by rw [h1]; simp)
    obtain ⟨z, hz⟩ := hr.last
    obtain ⟨e', he', _, _, h3⟩ := mem_succs.1 hz
    exact List.mem_flatMap.2 ⟨e, he, List.mem_map.2 ⟨e', he', Prod.ext h2 h3⟩⟩)
  refine Nat.le_trans h ?_
  rw [List.length_flatMap]
  simp only [List.length_map]
  have : ∀ l : List EG, (l.map fun _ => E.length).sum = l.length * E.length := fun l => by
    induction l with
    | nil => simp
    | cons a l ih => rw [List.map_cons, List.sum_cons, ih, List.length_cons, Nat.succ_mul]; omega
  rw [this]; exact Nat.le_refl _
theorem plt_ext {l l' : List PI} (h : l.Pairwise plt) (h' : l'.Pairwise plt) (he : ∀ x, x ∈ l ↔ x ∈ l') : l = l' := by
  have n1 : l.Nodup := h.imp fun h e => by rw [e] at h; exact plt_irrefl _ h
  have n2 : l'.Nodup := h'.imp fun h e => by rw [e] at h; exact plt_irrefl _ h
  exact ((List.perm_ext_iff_of_nodup n1 n2).2 he).eq_of_pairwise (fun a b _ _ h1 h2 => by
    unfold plt at h1 h2
    exact Prod.ext (by omega) (by omega)) h h'
/-- What Pairs answers where the span is known to be small. -/
theorem said_list {T : Int → List Int} {w w' : World} {e : Ending} (h : PairsSaid T true w e w') (hfew : ∀ X : List PI, X.Nodup → (∀ x ∈ X, Reach T x.1 x.2) → X.length ≤ 4000) :
    ∃ (b : Nat) (Z : List (Nat × PI)), e = .returned (.tuple #[.slice (some ⟨b, 0, none⟩) Z.length Z.length, I64 0]) ∧ (Z.map (·.2)).Pairwise plt ∧ (∀ x, x ∈ Z.map (·.2) ↔ Reach T x.1 x.2) ∧ Z.length ≤ 4000 ∧ (∃ c, OwnP w' w.heap.size 1 (some ⟨b, 0, none⟩) Z.length c (Z.map tz)) ∧ Tups w' Z ∧ (∀ z ∈ Z, w.heap.size ≤ z.1) ∧ ∀ z ∈ Z, z.1 ≠ b := by
  rcases h with ⟨h, _⟩ | ⟨_, ⟨X, hn, hl4, hx, _⟩ | h⟩
  · cases h
  · have := hfew X hn hx; omega
  · exact h
end Go.Proofs.Ytnplopiconabiaa.Span

end
section
/- Span: first ways by layers, the plain part of the document's way. -/
namespace Go.Proofs.Ytnplopiconabiaa.Span
open Go Go.V
set_option linter.unusedVariables false
set_option linter.unusedSimpArgs false

/-- The least of all that have just k edges, and none is shorter. -/
def Best (T : Int → List Int) (a : Int) (k : Nat) (n : Int) (w : List Int) : Prop := Walk T a w n ∧ w.length = k + 1 ∧ ∀ u, Walk T a u n → (2 ≤ u.length ∨ k = 0) → w = u ∨ slt w u
/-- What is known behind k rounds. -/
structure Lay (T : Int → List Int) (a : Int) (k : Nat) (ways : List (List Int)) (seen : List Int) : Prop where
  best : ∀ w ∈ ways, ∃ n, Best T a k n w
  all : ∀ u n, Walk T a u n → u.length = k + 1 → (∀ u', Walk T a u' n → (2 ≤ u'.length ∨ k = 0) → k + 1 ≤ u'.length) → ∃ w ∈ ways, Best T a k n w
  seen : ∀ x, x ∈ seen ↔ ∃ u, Walk T a u x ∧ 2 ≤ u.length ∧ u.length ≤ k + 1
/-- Of the candidates (all of K + 1 numbers) the least for each last number. -/
structure Part (K : Nat) (cs : List Int → Prop) (next : List (List Int)) : Prop where
  sub : ∀ w ∈ next, cs w
  len : ∀ c, cs c → c.length = K + 1
  low : ∀ c, cs c → ∃ w ∈ next, w[K]? = c[K]? ∧ (w = c ∨ lexL w c)
  one : next.Pairwise fun w w' => w[K]? ≠ w'[K]?
theorem Part.congr {K : Nat} {cs cs' : List Int → Prop} {next : List (List Int)} (h : Part K cs next) (e : ∀ c, cs c ↔ cs' c) : Part K cs' next :=
  ⟨fun w hw => (e w).1 (h.sub w hw), fun c hc => h.len c ((e c).2 hc), fun c hc => h.low c ((e c).2 hc), h.one⟩
theorem Part.nil (K : Nat) : Part K (fun _ => False) [] := ⟨fun _ h => (by cases h), fun _ h => h.elim, fun _ h => h.elim, .nil⟩
section
variable {K : Nat} {cs : List Int → Prop} {next : List (List Int)} {c : List Int} (h : Part K cs next) (hc : c.length = K + 1)
include h hc
theorem Part.add (hn : ∀ w ∈ next, w[K]? ≠ c[K]?) : Part K (fun x => cs x ∨ x = c) (next ++ [c]) where
  sub := fun w hw => by
    rcases List.mem_append.1 hw with hw | hw
    · exact .inl (h.sub w hw)
    · exact .inr (List.mem_singleton.1 hw)
  len := fun x hx => by
    rcases hx with hx | rfl
    · exact h.len x hx
    · exact hc
  low := fun x hx => by
    rcases hx with hx | rfl
    · obtain ⟨w, h1, h2⟩ := h.low x hx
      exact ⟨w, List.mem_append_left _ h1, h2⟩
    · exact ⟨x, List.mem_append_right _ (List.mem_singleton.2 rfl), rfl, .inl rfl⟩
  one := List.pairwise_append.2 ⟨h.one, List.pairwise_singleton _ _, fun w hw x hx => by rw [List.mem_singleton.1 hx]; exact hn w hw⟩
theorem Part.keep {w : List Int} (hw : w ∈ next) (e : w[K]? = c[K]?) (hl : ¬ lexL c w) : Part K (fun x => cs x ∨ x = c) next where
  sub := fun w hw => .inl (h.sub w hw)
  len := fun x hx => by
    rcases hx with hx | rfl
    · exact h.len x hx
    · exact hc
  low := fun x hx => by
    rcases hx with hx | rfl
    · exact h.low x hx
    · refine ⟨w, hw, e, ?_⟩
      rcases lexL_tri (show w.length = x.length by rw [h.len w (h.sub w hw), hc]) with h1 | h1 | h1
      · exact .inl h1
      · exact .inr h1
      · exact absurd h1 hl
  one := h.one
theorem Part.put {at_ : Nat} (ha : at_ < next.length) (e : (next[at_])[K]? = c[K]?) (hl : lexL c next[at_]) : Part K (fun x => cs x ∨ x = c) (next.set at_ c) where
  sub := fun w hw => by
    rcases List.mem_or_eq_of_mem_set hw with hw | rfl
    · exact .inl (h.sub w hw)
    · exact .inr rfl
  len := fun x hx => by
    rcases hx with hx | rfl
    · exact h.len x hx
    · exact hc
  low := fun x hx => by
    have hin : c ∈ next.set at_ c := List.mem_set ha c
    rcases hx with hx | rfl
    · obtain ⟨w, h1, h2, h3⟩ := h.low x hx
      obtain ⟨j, hj, rfl⟩ := List.mem_iff_getElem.1 h1
      by_cases e2 : j = at_
      · subst e2
        refine ⟨c, hin, by rw [← e, h2], .inr ?_⟩
        rcases h3 with h3 | h3
        · rw [← h3]; exact hl
        · exact lexL_trans hl h3
      · refine ⟨next[j], ?_, h2, h3⟩
        refine List.mem_iff_getElem.2 ⟨j, by simpa using hj, ?_⟩
        rw [List.getElem_set_ne (fun e => e2 e.symm)]
    · exact ⟨x, hin, rfl, .inl rfl⟩
  one := by
    rw [List.pairwise_iff_getElem]
    intro i j hi hj hij
    rw [List.length_set] at hi hj
    have h0 := (List.pairwise_iff_getElem.1 h.one) i j hi hj hij
    rw [List.getElem_set, List.getElem_set]
    by_cases e1 : at_ = i
    · subst e1
      rw [if_pos rfl, if_neg (by omega)]
      rw [e] at h0; exact h0
    · rw [if_neg e1]
      by_cases e2 : at_ = j
      · subst e2
        rw [if_pos rfl]
        rw [e] at h0; exact h0
      · rw [if_neg e2]; exact h0
end
/-- The candidates of a round: all of the ways ahead of i with every edge, and the i-th with the first j edges. -/
def Cand (ways : List (List Int)) (L : List (Int × Int)) (seen : List Int) (i j : Nat) (c : List Int) : Prop :=
  ∃ (i' j' : Nat) (w : List Int) (p : Int × Int), ways[i']? = some w ∧ L[j']? = some p ∧ (i' < i ∨ (i' = i ∧ j' < j)) ∧ w.getLast? = some p.1 ∧ p.2 ∉ seen ∧ c = w ++ [p.2]
section
variable {ways : List (List Int)} {L : List (Int × Int)} {seen : List Int} {i j : Nat}
theorem Cand.start {c : List Int} : Cand ways L seen 0 0 c ↔ False := ⟨fun ⟨i', j', w, p, _, _, h, _⟩ => by omega, fun h => h.elim⟩
theorem Cand.row {c : List Int} (hj : L.length ≤ j) : Cand ways L seen (i + 1) 0 c ↔ Cand ways L seen i j c := by
  constructor
  · rintro ⟨i', j', w, p, h1, h2, h3, h4⟩
    have := (List.getElem?_eq_some_iff.1 h2).1
    exact ⟨i', j', w, p, h1, h2, by omega, h4⟩
  · rintro ⟨i', j', w, p, h1, h2, h3, h4⟩
    exact ⟨i', j', w, p, h1, h2, by omega, h4⟩
theorem Cand.skip {c : List Int} {w : List Int} {p : Int × Int} (hi : ways[i]? = some w) (hj : L[j]? = some p) (h : ¬ (w.getLast? = some p.1 ∧ p.2 ∉ seen)) : Cand ways L seen i (j + 1) c ↔ Cand ways L seen i j c := by
  constructor
  · rintro ⟨i', j', w', p', h1, h2, h3, h4, h5, h6⟩
    refine ⟨i', j', w', p', h1, h2, ?_, h4, h5, h6⟩
    by_cases e : i' = i ∧ j' = j
    · obtain ⟨rfl, rfl⟩ := e
      rw [hi] at h1; cases h1
      rw [hj] at h2; cases h2
      exact absurd ⟨h4, h5⟩ h
    · omega
  · rintro ⟨i', j', w', p', h1, h2, h3, h4⟩
    exact ⟨i', j', w', p', h1, h2, by omega, h4⟩
theorem Cand.more {c : List Int} {w : List Int} {p : Int × Int} (hi : ways[i]? = some w) (hj : L[j]? = some p) (h : w.getLast? = some p.1) (h' : p.2 ∉ seen) : (Cand ways L seen i j c ∨ c = w ++ [p.2]) ↔ Cand ways L seen i (j + 1) c := by
  constructor
  · rintro (⟨i', j', w', p', h1, h2, h3, h4⟩ | rfl)
    · exact ⟨i', j', w', p', h1, h2, by omega, h4⟩
    · exact ⟨i, j, w, p, hi, hj, by omega, h, h', rfl⟩
  · rintro ⟨i', j', w', p', h1, h2, h3, h4, h5, h6⟩
    by_cases e : i' = i ∧ j' = j
    · obtain ⟨rfl, rfl⟩ := e
      rw [hi] at h1; cases h1
      rw [hj] at h2; cases h2
      exact .inr h6
    · exact .inl ⟨i', j', w', p', h1, h2, by omega, h4, h5, h6⟩
end
theorem Lay.start (T : Int → List Int) (a : Int) : Lay T a 0 [[a]] [] where
  best := fun w hw => by
    rw [List.mem_singleton.1 hw]
    refine ⟨a, .nil, rfl, fun u hu _ => ?_⟩
    cases hu with
    | nil => exact .inl rfl
    | snoc h _ => exact .inr (.inl (by have := h.len; simp; omega))
  all := fun u n hu hl h => by
    refine ⟨[a], by simp, ?_⟩
    cases hu with
    | nil =>
      refine ⟨.nil, rfl, fun u hu _ => ?_⟩
      cases hu with
      | nil => exact .inl rfl
      | snoc h _ => exact .inr (.inl (by have := h.len; simp; omega))
    | snoc h2 _ => have := h2.len; rw [List.length_append, List.length_singleton] at hl; omega
  seen := fun x => by
    constructor
    · intro h; cases h
    · rintro ⟨u, _, h1, h2⟩; omega
theorem Walk.last {T : Int → List Int} {a n : Int} {u : List Int} {k : Nat} (h : Walk T a u n) (hl : u.length = k + 1) : u[k]? = some n := by
  have := h.step.2.1
  rwa [List.getLast?_eq_getElem?, hl] at this
section
variable {T : Int → List Int} {a : Int} {k : Nat} {ways next : List (List Int)} {seen : List Int} {L : List (Int × Int)} (h : Lay T a k ways seen) (hL : ∀ p : Int × Int, p ∈ L ↔ p.2 ∈ T p.1) (hp : Part (k + 1) (Cand ways L seen ways.length 0) next)
include h
theorem Lay.pre {u1 : List Int} {z x : Int} (h1 : Walk T a u1 z) (h2 : x ∈ T z) (hl : u1.length = k + 1) (hx : x ∉ seen) : ∃ w' ∈ ways, Best T a k z w' ∧ (w' = u1 ∨ lexL w' u1) := by
  obtain ⟨w', hw, hb⟩ := h.all u1 z h1 hl (fun u' hu' hc => by
    apply Classical.byContradiction
    intro hn
    refine hx ((h.seen x).2 ⟨u' ++ [x], .snoc hu' h2, ?_, ?_⟩)
    · have := hu'.len; simp; omega
    · simp; omega)
  refine ⟨w', hw, hb, ?_⟩
  rcases hb.2.2 u1 h1 (by omega) with e | e | ⟨_, e⟩
  · exact .inl e
  · have := hb.2.1; omega
  · exact .inr e
include hL hp
/-- Each walk to a node that wasn't seen has a candidate that is no later. -/
theorem Lay.cand {u : List Int} {x : Int} (hu : Walk T a u x) (hl : u.length = k + 2) (hx : x ∉ seen) : ∃ w ∈ next, w[k + 1]? = some x ∧ (w = u ∨ lexL w u) := by
  obtain ⟨u1, z, h1, h2, rfl⟩ := hu.cut (by omega)
  have hl1 : u1.length = k + 1 := by simp at hl; omega
  obtain ⟨w', hw', hb, hle⟩ := h.pre h1 h2 hl1 hx
  obtain ⟨i, hi, e⟩ := List.mem_iff_getElem.1 hw'
  obtain ⟨j, hj, e2⟩ := List.mem_iff_getElem.1 ((hL (z, x)).2 h2)
  have hc : Cand ways L seen ways.length 0 (w' ++ [x]) := ⟨i, j, w', (z, x), by rw [List.getElem?_eq_getElem hi, e], by rw [List.getElem?_eq_getElem hj, e2], by omega, hb.1.step.2.1, hx, rfl⟩
  obtain ⟨w, hw, e3, hlow⟩ := hp.low _ hc
  refine ⟨w, hw, ?_, ?_⟩
  · rw [e3]
    have := hb.2.1
    rw [List.getElem?_append_right (by omega), this, Nat.sub_self]; rfl
  · have hle2 : w' ++ [x] = u1 ++ [x] ∨ lexL (w' ++ [x]) (u1 ++ [x]) := by
      rcases hle with h3 | h3
      · exact .inl (by rw [h3])
      · exact .inr (lexL_snoc h3)
    rcases hlow with h3 | h3 <;> rcases hle2 with h4 | h4
    · exact .inl (by rw [h3, h4])
    · exact .inr (by rw [h3]; exact h4)
    · exact .inr (by rw [← h4]; exact h3)
    · exact .inr (lexL_trans h3 h4)
theorem Lay.nbest {w : List Int} (hw : w ∈ next) : ∃ x, Best T a (k + 1) x w ∧ x ∉ seen := by
  obtain ⟨i', j', v, p, h1, h2, _, h4, h5, rfl⟩ := hp.sub w hw
  obtain ⟨z, hz⟩ := h.best v (List.mem_of_getElem? h1)
  have ez : z = p.1 := by have := hz.1.step.2.1; rw [h4] at this; exact (Option.some.inj this).symm
  have hT : p.2 ∈ T z := by rw [ez]; exact (hL p).1 (List.mem_of_getElem? h2)
  have hwk : Walk T a (v ++ [p.2]) p.2 := .snoc hz.1 hT
  have hlen : (v ++ [p.2]).length = k + 1 + 1 := by have := hz.2.1; simp; omega
  refine ⟨p.2, ⟨hwk, hlen, fun u hu hc => ?_⟩, h5⟩
  have h2u : 2 ≤ u.length := by omega
  by_cases hs : u.length ≤ k + 1
  · exact absurd ((h.seen p.2).2 ⟨u, hu, h2u, hs⟩) h5
  by_cases hs2 : u.length = k + 2
  · obtain ⟨w2, hw2, e2, hle⟩ := h.cand hL hp hu hs2 h5
    have ew : w2 = v ++ [p.2] := by
      obtain ⟨i, hi, e3⟩ := List.mem_iff_getElem.1 hw
      obtain ⟨j, hj, e4⟩ := List.mem_iff_getElem.1 hw2
      have e5 : (v ++ [p.2])[k + 1]? = some p.2 := hwk.last hlen
      rcases Nat.lt_trichotomy i j with hij | hij | hij
      · exact absurd (by rw [e3, e4, e5, e2]) ((List.pairwise_iff_getElem.1 hp.one) i j hi hj hij)
      · subst hij; rw [← e4, e3]
      · exact absurd (by rw [e3, e4, e5, e2]) ((List.pairwise_iff_getElem.1 hp.one) j i hj hi hij)
    rw [← ew]
    exact hle.imp id fun h => .inr ⟨by rw [hp.len _ (hp.sub _ hw2), hs2], h⟩
  · exact .inr (.inl (by omega))
theorem Lay.nall {u : List Int} {n : Int} (hu : Walk T a u n) (hl : u.length = k + 2) (hx : n ∉ seen) : ∃ w ∈ next, Best T a (k + 1) n w := by
  obtain ⟨w, hw, e, _⟩ := h.cand hL hp hu hl hx
  obtain ⟨x, hb, _⟩ := h.nbest hL hp hw
  have := hb.1.last hb.2.1
  rw [e] at this
  cases this
  exact ⟨w, hw, hb⟩
/-- A round. -/
theorem Lay.round {seen' : List Int} (hs : ∀ x, x ∈ seen' ↔ x ∈ seen ∨ ∃ w ∈ next, w[k + 1]? = some x) : Lay T a (k + 1) next seen' where
  best := fun w hw => (h.nbest hL hp hw).imp fun _ h => h.1
  all := fun u n hu hl hmin => h.nall hL hp hu hl fun hin => by
    obtain ⟨u', h1, h2, h3⟩ := (h.seen n).1 hin
    have := hmin u' h1 (.inl h2)
    omega
  seen := fun x => by
    rw [hs]
    constructor
    · rintro (hx | ⟨w, hw, e⟩)
      · obtain ⟨u, h1, h2, h3⟩ := (h.seen x).1 hx
        exact ⟨u, h1, h2, by omega⟩
      · obtain ⟨n, hb, _⟩ := h.nbest hL hp hw
        have := hb.1.last hb.2.1
        rw [e] at this; cases this
        exact ⟨w, hb.1, by rw [hb.2.1]; omega, by rw [hb.2.1]; omega⟩
    · rintro ⟨u, h1, h2, h3⟩
      by_cases hx : x ∈ seen
      · exact .inl hx
      by_cases h4 : u.length ≤ k + 1
      · exact .inl ((h.seen x).2 ⟨u, h1, h2, h4⟩)
      · obtain ⟨w, hw, hb⟩ := h.nall hL hp h1 (by omega) hx
        exact .inr ⟨w, hw, hb.1.last hb.2.1⟩
end
/-- Where no way is left all that is come to was seen. -/
theorem Lay.done {T : Int → List Int} {a : Int} {k : Nat} {seen : List Int} (h : Lay T a (k + 1) [] seen) {u : List Int} {x : Int} (hu : Walk T a u x) (hl : 2 ≤ u.length) : x ∈ seen := by
  induction hu with
  | nil => simp at hl
  | @snoc u y x h1 h2 ih =>
    by_cases e : 2 ≤ u.length
    · obtain ⟨v, h3, h4, h5⟩ := (h.seen y).1 (ih e)
      by_cases h6 : v.length ≤ k + 1
      · exact (h.seen x).2 ⟨v ++ [x], .snoc h3 h2, by simp; omega, by simp; omega⟩
      · -- a shortest one of just k + 2 would be left
        by_cases h7 : ∃ v', Walk T a v' y ∧ 2 ≤ v'.length ∧ v'.length ≤ k + 1
        · obtain ⟨v', h8, h9, h10⟩ := h7
          exact (h.seen x).2 ⟨v' ++ [x], .snoc h8 h2, by simp; omega, by simp; omega⟩
        · obtain ⟨w, hw, _⟩ := h.all v y h3 (by omega) (fun u' hu' hc => by
            apply Classical.byContradiction
            intro hn
            exact h7 ⟨u', hu', by omega, by omega⟩)
          cases hw
    · cases h1 with
      | nil => exact (h.seen x).2 ⟨_, .snoc .nil h2, by simp, by simp⟩
      | snoc h3 _ => have := h3.len; rw [List.length_append, List.length_singleton] at e; omega
theorem Best.way {T : Int → List Int} {a n : Int} {k : Nat} {w : List Int} (h : Best T a (k + 1) n w) : WayIs T a n w := ⟨h.1, by rw [h.2.1]; omega, fun u hu hl => h.2.2 u hu (.inl hl)⟩
end Go.Proofs.Ytnplopiconabiaa.Span

end
section
/- Span: the document's span and rings, the plain part. -/
namespace Go.Proofs.Ytnplopiconabiaa.Span
open Go Go.V
set_option linter.unusedVariables false
set_option linter.unusedSimpArgs false

theorem Reach.left {T : Int → List Int} {a b : Int} (h : Reach T a b) : ∀ P : Int → Prop, (∀ x, b ∈ T x → P x) → (∀ x y, y ∈ T x → P y → P x) → P a := by
  induction h with
  | one h => exact fun P h1 _ => h1 a h
  | more _ h ih => exact fun P h1 h2 => ih P (fun x hx => h2 x _ hx (h1 _ h)) h2
/-- Pairs that were put together till nothing is new. -/
structure Clo (T : Int → List Int) (L out : List (Int × Int)) (i : Nat) : Prop where
  base : ∀ p ∈ L, p ∈ out
  sub : ∀ p ∈ out, Reach T p.1 p.2
  nodup : out.Nodup
  clo : ∀ j (q : Int × Int), j < i → out[j]? = some q → ∀ e ∈ L, e.2 = q.1 → (e.1, q.2) ∈ out
theorem Clo.all {T : Int → List Int} {L out : List (Int × Int)} {i : Nat} (h : Clo T L out i) (hL : ∀ p : Int × Int, p ∈ L ↔ p.2 ∈ T p.1) (hi : out.length ≤ i) {x : Int × Int} : x ∈ out ↔ Reach T x.1 x.2 := by
  refine ⟨h.sub x, fun hr => ?_⟩
  obtain ⟨a, b⟩ := x
  refine hr.left (fun a => (a, b) ∈ out) (fun x hx => h.base _ ((hL (x, b)).2 hx)) fun x y hy hin => ?_
  obtain ⟨j, hj, e⟩ := List.mem_iff_getElem.1 hin
  exact h.clo j (y, b) (by omega) (by rw [List.getElem?_eq_getElem hj, e]) (x, y) ((hL (x, y)).2 hy) rfl
/-- One more pair. -/
theorem Clo.add {T : Int → List Int} {L out : List (Int × Int)} {i : Nat} (h : Clo T L out i) {p : Int × Int} (hr : Reach T p.1 p.2) (hn : p ∉ out) (hi : i ≤ out.length) : Clo T L (out ++ [p]) i where
  base := fun q hq => List.mem_append_left _ (h.base q hq)
  sub := fun q hq => by
    rcases List.mem_append.1 hq with hq | hq
    · exact h.sub q hq
    · rw [List.mem_singleton.1 hq]; exact hr
  nodup := by
    rw [List.nodup_append]
    exact ⟨h.nodup, by simp, fun x hx y hy e => hn (by rw [← List.mem_singleton.1 hy, ← e]; exact hx)⟩
  clo := fun j q hj hq e he h2 => by
    rw [List.getElem?_append_left (by omega)] at hq
    exact List.mem_append_left _ (h.clo j q hj hq e he h2)
theorem clo_few {T : Int → List Int} {L out : List (Int × Int)} {i : Nat} (h : Clo T L out i) (hL : ∀ p : Int × Int, p ∈ L ↔ p.2 ∈ T p.1) : out.length ≤ L.length * L.length := by
  have h2 := sub_len h.nodup (l' := L.flatMap fun e => L.map fun e' => ((e.1, e'.2) : Int × Int)) (fun x hx => by
    have hr := h.sub x hx
    obtain ⟨y, r, h1⟩ := List.exists_cons_of_ne_nil hr.first
    have m1 : (x.1, y) ∈ L := (hL (x.1, y)).2 (show y ∈ T x.1 by rw [h1]; simp)
    obtain ⟨z, hz⟩ := hr.last
    have m2 : (z, x.2) ∈ L := (hL (z, x.2)).2 hz
    exact List.mem_flatMap.2 ⟨_, m1, List.mem_map.2 ⟨_, m2, rfl⟩⟩)
  refine Nat.le_trans h2 ?_
  rw [List.length_flatMap]
  simp only [List.length_map]
  have : ∀ l : List (Int × Int), (l.map fun _ => L.length).sum = l.length * L.length := fun l => by
    induction l with
    | nil => simp
    | cons a l ih => rw [List.map_cons, List.sum_cons, ih, List.length_cons, Nat.succ_mul]; omega
  rw [this]; exact Nat.le_refl _
/-- The first i numbers rise, but for the k-th among them. -/
structure Ins (l : List Int) (i k : Nat) : Prop where
  le : k ≤ i
  lt : i < l.length
  nodup : l.Nodup
  up : ∀ j j' x y, j < j' → j' ≤ i → j' ≠ k → l[j]? = some x → l[j']? = some y → x < y
def Up (l : List Int) (i : Nat) : Prop := ∀ j j' x y, j < j' → j' < i → l[j]? = some x → l[j']? = some y → x < y
theorem Ins.start {l : List Int} {i : Nat} (h : Up l i) (hi : i < l.length) (hn : l.Nodup) : Ins l i i :=
  ⟨Nat.le_refl _, hi, hn, fun j j' x y h1 h2 h3 => h j j' x y h1 (by omega)⟩
theorem Ins.done {l : List Int} {i k : Nat} (h : Ins l i k) (hk : k = 0 ∨ ∃ x y, l[k - 1]? = some x ∧ l[k]? = some y ∧ ¬ y < x) : Up l (i + 1) := fun j j' x y h1 h2 hx hy => by
  by_cases e : j' = k
  · subst e
    rcases hk with hk | ⟨x', y', hx', hy', hle⟩
    · omega
    · rw [hy] at hy'; cases hy'
      have hne : x' ≠ y := fun e => by
        subst e
        obtain ⟨a1, a2⟩ := List.getElem?_eq_some_iff.1 hx'
        obtain ⟨b1, b2⟩ := List.getElem?_eq_some_iff.1 hy
        have := (List.getElem_inj h.nodup).1 (a2.trans b2.symm)
        omega
      by_cases e2 : j = j' - 1
      · subst e2; rw [hx] at hx'; cases hx'; omega
      · have := h.up j (j' - 1) x x' (by omega) (by have := h.le; omega) (by omega) hx hx'
        omega
  · exact h.up j j' x y h1 (by omega) e hx hy
theorem swap_get {l : List Int} {k : Nat} (hk : 0 < k) (hl : k < l.length) {x y : Int} (hx : l[k - 1]? = some x) (hy : l[k]? = some y) (j : Nat) : ((l.set k x).set (k - 1) y)[j]? = if j = k then l[k - 1]? else if j = k - 1 then l[k]? else l[j]? := by
  rw [List.getElem?_set, List.getElem?_set]
  by_cases e1 : k - 1 = j
  · rw [if_pos e1, if_pos (by rw [List.length_set]; omega), if_neg (by omega), if_pos e1.symm, hy]
  · rw [if_neg e1]
    by_cases e2 : k = j
    · subst e2; rw [if_pos rfl, if_pos rfl, if_pos hl, hx]
    · rw [if_neg e2, if_neg (fun e => e2 e.symm), if_neg (fun e => e1 e.symm)]
theorem swap_perm {l : List Int} {k : Nat} (hk : 0 < k) (hl : k < l.length) {x y : Int} (hx : l[k - 1]? = some x) (hy : l[k]? = some y) : ((l.set k x).set (k - 1) y).Perm l := by
  obtain ⟨a1, a2⟩ := List.getElem?_eq_some_iff.1 hx
  obtain ⟨b1, b2⟩ := List.getElem?_eq_some_iff.1 hy
  have e1 : l = l.take (k - 1) ++ x :: y :: l.drop (k + 1) := by
    have h1 : l.drop (k - 1) = x :: y :: l.drop (k + 1) := by
      rw [List.drop_eq_getElem_cons a1, a2, show k - 1 + 1 = k by omega, List.drop_eq_getElem_cons b1, b2]
    rw [← h1, List.take_append_drop]
  have hlen : (l.take (k - 1)).length = k - 1 := by rw [List.length_take]; omega
  have e2 : (l.set k x).set (k - 1) y = l.take (k - 1) ++ y :: x :: l.drop (k + 1) := by
    generalize l.take (k - 1) = A at *
    generalize l.drop (k + 1) = B at *
    subst e1
    rw [List.set_append_right _ _ (by omega), List.set_append_right _ _ (by omega), hlen, show k - (k - 1) = 1 by omega, Nat.sub_self]
    rfl
  rw [e2]
  conv => rhs; rw [e1]
  exact List.Perm.append_left _ (List.Perm.swap _ _ _)
theorem Ins.swap {l : List Int} {i k : Nat} (h : Ins l i k) (hk : 0 < k) {x y : Int} (hx : l[k - 1]? = some x) (hy : l[k]? = some y) (hlt : y < x) : Ins ((l.set k x).set (k - 1) y) i (k - 1) := by
  have hki := h.le
  have hil := h.lt
  refine ⟨by omega, by simpa using h.lt, (swap_perm hk (by omega) hx hy).nodup_iff.2 h.nodup, fun j j' u v h1 h2 h3 hu hv => ?_⟩
  rw [swap_get hk (by omega) hx hy] at hu hv
  by_cases e1 : j' = k
  · subst e1
    rw [if_pos rfl, hx] at hv; cases hv
    rw [if_neg (by omega)] at hu
    by_cases e2 : j = j' - 1
    · rw [if_pos e2, hy] at hu; cases hu; exact hlt
    · rw [if_neg e2] at hu
      exact h.up j (j' - 1) u x (by omega) (by omega) (by omega) hu hx
  · rw [if_neg e1, if_neg h3] at hv
    by_cases e2 : j = k
    · rw [if_pos e2] at hu
      exact h.up (k - 1) j' u v (by omega) h2 e1 hu hv
    · rw [if_neg e2] at hu
      by_cases e3 : j = k - 1
      · rw [if_pos e3] at hu
        exact h.up k j' u v (by omega) h2 e1 hu hv
      · rw [if_neg e3] at hu
        exact h.up j j' u v h1 h2 e1 hu hv
theorem Up.lt {l : List Int} (h : Up l l.length) : l.Pairwise (· < ·) := by
  rw [List.pairwise_iff_getElem]
  intro i j hi hj hij
  exact h i j _ _ hij hj (List.getElem?_eq_getElem hi) (List.getElem?_eq_getElem hj)
section
open Classical
/-- Who is in a ring leads to itself. -/
theorem in_rings {T : Int → List Int} {K : List Int} (hK : ∀ a b, Reach T a b → a ∈ K) {a : Int} : (∃ r ∈ ringsOf T K K, a ∈ r) ↔ Reach T a a := by
  constructor
  · rintro ⟨r, hr, ha⟩
    obtain ⟨h, _, _, rfl⟩ := mem_ringsOf.1 hr
    exact (mem_ringOf.1 ha).2.symm.self
  · intro h
    have hm : Mut T a a := ⟨h, h⟩
    obtain ⟨m, hmm, hmin⟩ := least (l := ringOf T K a) (List.ne_nil_of_mem (mem_ringOf.2 ⟨hK _ _ h, hm⟩))
    have h1 := mem_ringOf.1 hmm
    refine ⟨_, mem_ringsOf.2 ⟨m, h1.1, ⟨h1.2.symm.self, fun y hy h => hmin y (mem_ringOf.2 ⟨hy, h1.2.trans h⟩)⟩, rfl⟩, mem_ringOf.2 ⟨hK _ _ h, h1.2.symm⟩⟩
/-- The rings are the same over all nodes that lead to themselves. -/
theorem rings_ext {T : Int → List Int} {K K' : List Int} (h1 : K.Pairwise (· < ·)) (h2 : K'.Pairwise (· < ·)) (hK : ∀ a, Reach T a a → a ∈ K) (hK' : ∀ a, Reach T a a → a ∈ K') : ringsOf T K K = ringsOf T K' K' := by
  have er : ∀ a, ringOf T K a = ringOf T K' a := fun a => lt_ext (h1.filter _) (h2.filter _) fun x => by
    rw [mem_ringOf, mem_ringOf]
    exact ⟨fun h => ⟨hK' _ h.2.symm.self, h.2⟩, fun h => ⟨hK _ h.2.symm.self, h.2⟩⟩
  have eh : ∀ a, IsHead T K a ↔ IsHead T K' a := fun a => by
    constructor
    · exact fun h => ⟨h.1, fun x hx hm => h.2 x (hK _ hm.symm.self) hm⟩
    · exact fun h => ⟨h.1, fun x hx hm => h.2 x (hK' _ hm.symm.self) hm⟩
  have ef : (K.filter fun a => decide (IsHead T K a)) = K'.filter fun a => decide (IsHead T K' a) := lt_ext (h1.filter _) (h2.filter _) fun x => by
    rw [List.mem_filter, List.mem_filter, decide_eq_true_eq, decide_eq_true_eq]
    exact ⟨fun h => ⟨hK' _ h.2.1, (eh x).1 h.2⟩, fun h => ⟨hK _ h.2.1, (eh x).2 h.2⟩⟩
  unfold ringsOf
  rw [ef]
  exact List.map_congr_left fun a _ => er a
end
end Go.Proofs.Ytnplopiconabiaa.Span

end
section
/- Span: the document's edges and span. -/
namespace Go.Proofs.Ytnplopiconabiaa.Span
open Go Go.V
open Go.Proofs.Ytnplopiconabiaa.VC
open Go.Proofs.Try (prog)
set_option linter.unusedVariables false
set_option linter.unusedSimpArgs false
set_option maxRecDepth 20000

def pcell (p : PI) : List Value := [I64 p.1, I64 p.2]
theorem flatP : Flat pcell 2 := ⟨fun _ => rfl, fun a u hu => by simp [pcell] at hu; rcases hu with rfl | rfl <;> rfl⟩
theorem rhas_c {w : World} {lA : Option Addr} {lC : Nat} {L : List PI} (p : PI) (hr : Row w lA (L.flatMap pcell)) (hl : L.length ≤ 1000000) :
    Calls prog 52 #[.slice lA L.length lC, .agg #[I64 p.1, I64 p.2]] w fun e w' => e = .returned (.bool (decide (p ∈ L))) ∧ Fr [] w w' := by
  refine rhizomeref13_has.link fun k1 => ⟨fun m n w' => ∃ i : Nat, n = i ∧ i ≤ L.length ∧ m = L.length - i ∧ p ∉ L.take i ∧ Fr [] w w', L.length, fun w4 s4 => ⟨0, rfl, by omega, rfl, by simp, s4.fr⟩, ?_⟩
  rintro m n w8 ⟨i, rfl, hi, rfl, hn, F⟩
  refine bc (fun hlt => ?_) fun hge => ?_
  · have hlt : (i : Int) < (L.length : Int) := of_decide_eq_true hlt
    have hlt' : i < L.length := by omega
    obtain ⟨ad, hp, g⟩ := (hr.old F).atF flatP (by decide) hlt'
    have e0 : (i : Int).toNat * 2 = i * 2 := by omega
    refine ⟨ad, hp, ⟨by omega, hlt⟩, _, _, ⟨by rw [e0]; exact g 0 _ rfl, by rw [e0]; exact g 1 _ rfl, trivial⟩, bc (fun h => fun w13 s13 => ⟨?_, F.trans' s13.fr⟩) fun h => ⟨L.length - (i + 1), by omega, fun w16 s16 => ⟨i + 1, by rw [wrapi (by omega) (by omega)]; simp, by omega, rfl, ?_, F.trans' s16.fr⟩⟩⟩
    · have h : L[i].1 = p.1 ∧ L[i].2 = p.2 := by simpa [conj] using h
      rw [decide_eq_true (by rw [← Prod.ext h.1 h.2]; exact List.getElem_mem hlt')]
    · rw [take_snoc hlt', List.mem_append, List.mem_singleton]
      rintro (h2 | h2)
      · exact hn h2
      · rw [h2] at h; simp [conj] at h
  · have hge : ¬ (i : Int) < (L.length : Int) := of_decide_eq_false hge
    rw [List.take_of_length_le (by omega)] at hn
    exact ⟨by rw [decide_eq_false hn], F⟩
/-- The edges of a label as pairs, once each. -/
structure EdgesOf (E : List EG) (lab : ByteArray) (L : List PI) : Prop where
  nodup : L.Nodup
  mem : ∀ p : PI, p ∈ L ↔ ∃ e ∈ E, e.l = lab ∧ e.f = p.1 ∧ e.t = p.2
  len : L.length ≤ E.length
theorem EdgesOf.succs {E : List EG} {lab : ByteArray} {L : List PI} (h : EdgesOf E lab L) (p : PI) : p ∈ L ↔ p.2 ∈ succs E lab p.1 := by rw [h.mem, mem_succs]
theorem redges_c {w : World} {lab : ByteArray} {eA : Option Addr} {eC : Nat} {E : List EG} (hE : Row w eA (E.flatMap gcell)) (hl : E.length ≤ 50000) :
    Calls prog 44 #[.string lab, .slice eA E.length eC] w fun e w' => Fr [] w w' ∧ ∃ (p : Option Addr) (c : Nat) (L : List PI), e = .returned (.slice p L.length c) ∧ EdgesOf E lab L ∧ OwnZ w' w.heap.size 2 p L.length c (L.flatMap pcell) := by
  refine rhizomeref13_Edges.link ⟨fun m p k c n w' => ∃ (i : Nat) (L : List PI), n = i ∧ i ≤ E.length ∧ m = E.length - i ∧ k = L.length ∧ EdgesOf (E.take i) lab L ∧ OwnZ w' w.heap.size 2 p L.length c (L.flatMap pcell) ∧ Fr [] w w', E.length, ⟨0, [], rfl, by omega, rfl, rfl, ⟨by simp, fun p => by simp, by simp⟩, OwnZ.nil _ _ _, Fr.refl _ _⟩, ?_⟩
  rintro m p4 k5 c6 n w8 ⟨i, L, rfl, hi, rfl, rfl, X, o, F⟩
  have hll : L.length ≤ i := by have := X.len; rw [List.length_take] at this; omega
  refine bc (fun hlt => ?_) fun hge => ?_
  · have hlt : (i : Int) < (E.length : Int) := of_decide_eq_true hlt
    have hlt' : i < E.length := by omega
    intro y10 h10
    obtain ⟨ad, hp, g⟩ := (hE.old F).atF flatG (by decide) hlt'
    have e0 : (i : Int).toNat * 3 = i * 3 := by omega
    refine ⟨ad, hp, ⟨by omega, hlt⟩, _, by rw [e0]; exact g 0 _ rfl, ad, hp, ⟨by omega, hlt⟩, _, by rw [e0]; exact g 2 _ rfl, fun k22 y23 h23 => ?_⟩
    refine ⟨ad, hp, ⟨by omega, hlt⟩, _, by rw [e0]; exact g 1 _ rfl, ?_⟩
    have hstep : ∀ L' : List PI, (∀ p : PI, p ∈ L' ↔ p ∈ L ∨ (E[i].l = lab ∧ p = (E[i].f, E[i].t))) → L'.Nodup → L'.length ≤ L.length + 1 → EdgesOf (E.take (i + 1)) lab L' := fun L' h1 h2 h3 => by
      refine ⟨h2, fun p => ?_, by rw [List.length_take]; omega⟩
      rw [h1, X.mem, take_snoc hlt']
      constructor
      · rintro (⟨e, he, h⟩ | ⟨h, rfl⟩)
        · exact ⟨e, List.mem_append_left _ he, h⟩
        · exact ⟨E[i], List.mem_append_right _ (List.mem_singleton.2 rfl), h, rfl, rfl⟩
      · rintro ⟨e, he, h4, h5, h6⟩
        rcases List.mem_append.1 he with he | he
        · exact .inl ⟨e, he, h4, h5, h6⟩
        · rw [List.mem_singleton.1 he] at h4 h5 h6
          exact .inr ⟨h4, Prod.ext h5.symm h6.symm⟩
    have no : ∀ w', Fr [] w w' → OwnZ w' w.heap.size 2 p4 L.length c6 (L.flatMap pcell) → (E[i].l = lab → (E[i].f, E[i].t) ∈ L) → y23 false w' := fun w' F' o' h => h23 _ _ (bF rfl (h10 _ _ _ _ ⟨E.length - (i + 1), by omega, i + 1, L, by rw [wrapi (by omega) (by omega)]; simp, by omega, rfl, rfl, hstep L (fun p => ⟨.inl, fun h' => h'.elim id fun h' => by rw [h'.2]; exact h h'.1⟩) X.nodup (by omega), o', F'⟩))
    refine bc (fun hlab w35 s35 => ?_) fun hlab w40 s40 => no w40 (F.trans' s40.fr) (o.fr s40.fr (fun _ _ => by simp)) fun h => absurd h (of_decide_eq_false hlab)
    have hlab : E[i].l = lab := of_decide_eq_true hlab
    have o35 := o.fr s35.fr (fun _ _ => by simp)
    have n35 := g_new1 s35
    have z35 := s35.fr.size
    have zF := F.size
    refine (rhas_c (E[i].f, E[i].t) o35.row (by omega)).mono ?_
    rintro e37 w38 ⟨rfl, f38⟩
    refine ⟨_, rfl, keepF f38 (by simpa using n35.2), ?_⟩
    have F38 := F.trans' (s35.fr.trans' f38)
    have o38 := o35.fr f38 (fun _ _ => by simp)
    by_cases hin : ((E[i].f, E[i].t) : PI) ∈ L
    · rw [decide_eq_true hin]
      exact no w38 F38 o38 fun _ => hin
    · rw [decide_eq_false hin]
      refine h23 _ _ (bT rfl fun k26 => ?_)
      refine app1 (f := pcell) flatP (x := (E[i].f, E[i].t)) (u := w) (B := w.heap.size) o38 F38 rfl (Nat.le_refl _) F38.size (fun h => by cases h) (by simp) (fun ad hp x hx => ?_) (by omega) (by omega) fun w27 p28 c30 F27 _ _ o27 _ => ?_
      · rcases List.mem_cons.1 hx with rfl | h
        · refine .inr fun e => ?_
          have := (o.lt hp).2
          omega
        · exact .inl h
      · exact h10 _ _ _ _ ⟨E.length - (i + 1), by omega, i + 1, _, by rw [wrapi (by omega) (by omega)]; simp, by omega, rfl, rfl, hstep _ (fun p => by rw [List.mem_append, List.mem_singleton]; exact ⟨fun h => h.imp id fun h => ⟨hlab, h⟩, fun h => h.imp id fun h => h.2⟩) (by
          rw [List.nodup_append]
          exact ⟨X.nodup, by simp, fun x hx y hy e => hin (by rw [← List.mem_singleton.1 hy, ← e]; exact hx)⟩) (by simp), o27, F27⟩
  · have hge : ¬ (i : Int) < (E.length : Int) := of_decide_eq_false hge
    rw [List.take_of_length_le (by omega)] at X
    exact ⟨F, p4, c6, L, rfl, X, o⟩

theorem rspan_c {w : World} {eA : Option Addr} {eC : Nat} {L : List PI} {T : Int → List Int} (hE : Row w eA (L.flatMap pcell)) (hl : L.length ≤ 300) (hn : L.Nodup) (hT : ∀ p : PI, p ∈ L ↔ p.2 ∈ T p.1) :
    Calls prog 43 #[.slice eA L.length eC] w fun e w' => Fr [] w w' ∧ ∃ (p : Option Addr) (c : Nat) (X : List PI), e = .returned (.slice p X.length c) ∧ X.Nodup ∧ (∀ x : PI, x ∈ X ↔ Reach T x.1 x.2) ∧ X.length ≤ L.length * L.length ∧ OwnZ w' w.heap.size 2 p X.length c (X.flatMap pcell) := by
  refine rhizomeref13_Span.link fun k1 w2 s2 b2 => ?_
  have n1 := g_new1 s2
  have b2 : Blk w2 k1 [] := b2
  have hll : L.length * L.length ≤ 300 * 300 := Nat.mul_le_mul hl hl
  refine ⟨L.flatMap pcell, flatP.len L, hE.old s2.fr, ?_⟩
  refine appN (f := pcell) flatP (ys := []) (zs := L) rfl (u := w) (B := w.heap.size) (OwnZ.blk b2 rfl (by simp) n1.1) s2.fr rfl (Nat.le_refl _) s2.fr.size (fun _ => rfl) (by simp) (fun ad hp x hx => by cases hx) (by simp; omega) (by simp; omega) fun w6 p7 c9 F6 _ _ o6 _ => ?_
  rw [List.nil_append] at o6
  -- the least edge count of the variant
  refine ⟨fun m p k c n w' => ∃ (i : Nat) (X : List PI), n = i ∧ i ≤ X.length ∧ m = L.length * L.length - i ∧ k = X.length ∧ Clo T L X i ∧ OwnZ w' w.heap.size 2 p X.length c (X.flatMap pcell) ∧ Fr [] w w', L.length * L.length, ⟨0, L, rfl, by omega, rfl, by simp, ⟨fun p h => h, fun p h => .one ((hT p).1 h), hn, fun j q hj => by omega⟩, by simpa using o6, F6⟩, ?_⟩
  rintro m12 p13 k14 c15 n16 w17 ⟨i, X, rfl, hi, rfl, rfl, C, o17, F17⟩
  have hfew := clo_few C hT
  refine bc (fun hlt => ?_) fun hge => ?_
  · have hlt : (i : Int) < (X.length : Int) := of_decide_eq_true hlt
    have hlt' : i < X.length := by omega
    refine ⟨fun m p k c n w' => ∃ (j : Nat) (Y : List PI), n = j ∧ j ≤ L.length ∧ m = L.length - j ∧ k = Y.length ∧ i < Y.length ∧ Clo T L Y i ∧ (∀ q, Y[i]? = some q → ∀ e ∈ L.take j, e.2 = q.1 → (e.1, q.2) ∈ Y) ∧ OwnZ w' w.heap.size 2 p Y.length c (Y.flatMap pcell) ∧ Fr [] w w', L.length, ⟨0, X, rfl, by omega, rfl, rfl, hlt', C, by simp, o17, F17⟩, ?_⟩
    rintro m21 p22 k23 c24 n25 w26 ⟨j, Y, rfl, hj, rfl, rfl, hiY, C2, hdone, o26, F26⟩
    have hfew2 := clo_few C2 hT
    refine bc (fun hlt2 => ?_) fun hge2 => ?_
    · have hlt2 : (j : Int) < (L.length : Int) := of_decide_eq_true hlt2
      have hlt2' : j < L.length := by omega
      intro y28 h28
      obtain ⟨ad, hp, g⟩ := (hE.old F26).atF flatP (by decide) hlt2'
      obtain ⟨ad2, hp2, g2⟩ := o26.row.atF flatP (by decide) hiY
      have e0 : (j : Int).toNat * 2 = j * 2 := by omega
      have e1 : (i : Int).toNat * 2 = i * 2 := by omega
      refine ⟨ad, hp, ⟨by omega, hlt2⟩, _, by rw [e0]; exact g 0 _ rfl, ad2, hp2, ⟨by omega, by omega⟩, _, by rw [e1]; exact g2 1 _ rfl, fun k40 y41 h41 => ?_⟩
      refine ⟨ad, hp, ⟨by omega, hlt2⟩, _, by rw [e0]; exact g 1 _ rfl, ad2, hp2, ⟨by omega, by omega⟩, _, by rw [e1]; exact g2 0 _ rfl, ?_⟩
      have no : ∀ w', Fr [] w w' → OwnZ w' w.heap.size 2 p22 Y.length c24 (Y.flatMap pcell) → (L[j].2 = Y[i].1 → (L[j].1, Y[i].2) ∈ Y) → y41 false w' := fun w' F' o' h => h41 _ _ (bF rfl (h28 _ _ _ _ ⟨L.length - (j + 1), by omega, j + 1, Y, by rw [wrapi (by omega) (by omega)]; simp, by omega, rfl, rfl, hiY, C2, fun q hq e he h2 => by
        rw [take_snoc hlt2'] at he
        rcases List.mem_append.1 he with he | he
        · exact hdone q hq e he h2
        · rw [List.getElem?_eq_getElem hiY] at hq
          cases hq
          rw [List.mem_singleton.1 he] at h2 ⊢
          exact h h2, o', F'⟩))
      refine bc (fun heq w55 s55 => ?_) fun hne w60 s60 => no w60 (F26.trans' s60.fr) (o26.fr s60.fr (fun _ _ => by simp)) fun h => absurd h (of_decide_eq_false hne)
      have heq : L[j].2 = Y[i].1 := of_decide_eq_true heq
      have o55 := o26.fr s55.fr (fun _ _ => by simp)
      have n55 := g_new1 s55
      have z26 := F26.size
      refine (rhas_c (L[j].1, Y[i].2) o55.row (by omega)).mono ?_
      rintro e57 w58 ⟨rfl, f58⟩
      refine ⟨_, rfl, keepF f58 (by simpa using n55.2), ?_⟩
      have F58 := F26.trans' (s55.fr.trans' f58)
      have o58 := o55.fr f58 (fun _ _ => by simp)
      by_cases hin : ((L[j].1, Y[i].2) : PI) ∈ Y
      · rw [decide_eq_true hin]
        exact no w58 F58 o58 fun _ => hin
      · rw [decide_eq_false hin]
        refine h41 _ _ (bT rfl fun k44 => ?_)
        have hr : Reach T L[j].1 Y[i].2 := by
          have h1 : L[j].2 ∈ T L[j].1 := (hT L[j]).1 (List.getElem_mem hlt2')
          have h2 := C2.sub Y[i] (List.getElem_mem hiY)
          rw [← heq] at h2
          exact (Reach.one h1).trans h2
        have C3 := C2.add (p := (L[j].1, Y[i].2)) hr hin (by omega)
        have hfew3 := clo_few C3 hT
        rw [List.length_append, List.length_singleton] at hfew3
        refine app1 (f := pcell) flatP (x := (L[j].1, Y[i].2)) (u := w) (B := w.heap.size) o58 F58 rfl (Nat.le_refl _) F58.size (fun h => by cases h) (by simp) (fun ad hp x hx => ?_) (by omega) (by omega) fun w45 p46 c48 F45 _ _ o45 _ => ?_
        · rcases List.mem_cons.1 hx with rfl | h
          · refine .inr fun e => ?_
            have := (o26.lt hp).2
            omega
          · exact .inl h
        · refine h28 _ _ _ _ ⟨L.length - (j + 1), by omega, j + 1, _, by rw [wrapi (by omega) (by omega)]; simp, by omega, rfl, rfl, by rw [List.length_append]; omega, C3, fun q hq e he h2 => ?_, o45, F45⟩
          rw [List.getElem?_append_left hiY] at hq
          rw [take_snoc hlt2'] at he
          rcases List.mem_append.1 he with he | he
          · exact List.mem_append_left _ (hdone q hq e he h2)
          · rw [List.getElem?_eq_getElem hiY] at hq
            cases hq
            rw [List.mem_singleton.1 he]
            exact List.mem_append_right _ (List.mem_singleton.2 rfl)
    · have hge2 : ¬ (j : Int) < (L.length : Int) := of_decide_eq_false hge2
      rw [List.take_of_length_le (by omega)] at hdone
      exact ⟨L.length * L.length - (i + 1), by omega, i + 1, Y, by rw [wrapi (by omega) (by omega)]; simp, by omega, rfl, rfl, ⟨C2.base, C2.sub, C2.nodup, fun j' q hj' hq e he h2 => by
        by_cases e3 : j' = i
        · subst e3; exact hdone q hq e he h2
        · exact C2.clo j' q (by omega) hq e he h2⟩, o26, F26⟩
  · have hge : ¬ (i : Int) < (X.length : Int) := of_decide_eq_false hge
    exact ⟨F17, p13, c15, X, rfl, C.nodup, fun x => C.all hT (by omega), hfew, o17⟩
end Go.Proofs.Ytnplopiconabiaa.Span

end
