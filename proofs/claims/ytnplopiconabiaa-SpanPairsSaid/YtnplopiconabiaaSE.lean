/- Span: what holds awake. -/
import Derived.Test.YtnplopiconabiaaSD
import Derived.Test.YtnplopiconabiaaC9
namespace Go.Proofs.Ytnplopiconabiaa.Span
open Go Go.V
open Go.Proofs.Ytnplopiconabiaa.VC
open Go.Proofs.Try (prog)
set_option linter.unusedVariables false
set_option linter.unusedSimpArgs false
set_option maxRecDepth 20000

theorem ints_c {w : World} {p q : Option Addr} {cp cq : Nat} {l : List Int} (hp : Row w p (l.map I64)) (hq : Row w q (l.map I64)) (hl : l.length < 9223372036854775807) :
    Calls prog 21 #[.slice p l.length cp, .slice q l.length cq] w fun e w' => e = .returned (.bool true) ∧ Fr [] w w' := by
  refine rhizomeref01_Ints.link (bF (by simp) ⟨fun m n w' => ∃ i : Nat, n = i ∧ i ≤ l.length ∧ m = l.length - i ∧ Fr [] w w', l.length, ⟨0, rfl, by omega, rfl, Fr.refl _ _⟩, ?_⟩)
  rintro m n w5 ⟨i, rfl, hi, rfl, f5⟩
  refine bc (fun hlt => ?_) fun _ => ⟨rfl, f5⟩
  have hlt : (i : Int) < (l.length : Int) := of_decide_eq_true hlt
  have hlt' : i < l.length := by omega
  refine rd kenc (hp.old f5) rfl hlt' hlt ?_
  refine rd kenc (hq.old f5) rfl hlt' hlt ?_
  exact bF (by simp) ⟨l.length - (i + 1), by omega, fun w14 st => ⟨i + 1, by rw [wrapi (by omega) (by omega)]; simp, by omega, rfl, f5.trans' st.fr⟩⟩
theorem sub_len {α : Type} [DecidableEq α] : ∀ {l l' : List α}, l.Nodup → (∀ x ∈ l, x ∈ l') → l.length ≤ l'.length
  | [], _, _, _ => by simp
  | a :: l, l', hn, h => by
    rw [List.nodup_cons] at hn
    have ha := h a (by simp)
    have ih := sub_len (l := l) (l' := l'.erase a) hn.2 (fun x hx => (List.mem_erase_of_ne (fun e => hn.1 (by rw [← e]; exact hx))).2 (h x (List.mem_cons_of_mem _ hx)))
    rw [List.length_erase_of_mem ha] at ih
    have := List.length_pos_of_mem ha
    rw [List.length_cons]; omega
theorem said_ok {T : Int → List Int} {w w' : World} {e : Ending} {P : List PI} (h : PairsSaid T true w e w') (hp : P.Nodup) (hP : ∀ x : PI, x ∈ P ↔ Reach T x.1 x.2) (hl : P.length ≤ 4000) :
    ∃ (b : Nat) (Z : List (Nat × PI)), e = .returned (.tuple #[.slice (some ⟨b, 0, none⟩) Z.length Z.length, I64 0]) ∧ Z.length = P.length ∧ Tups w' Z := by
  rcases h with ⟨h, _⟩ | ⟨_, ⟨X, hn, hl4, hx, _⟩ | ⟨b, Z, rfl, hs, hm, _, _, ht, _⟩⟩
  · cases h
  · have := sub_len hn (fun x hx' => (hP x).2 (hx x hx')); omega
  · refine ⟨b, Z, rfl, ?_, ht⟩
    have hz : (Z.map (·.2)).Nodup := hs.imp fun h e => by rw [e] at h; exact plt_irrefl _ h
    have hp2 : (Z.map (·.2)).Perm P := (List.perm_ext_iff_of_nodup hz hp).2 fun x => by rw [hm, hP]
    simpa using hp2.length_eq
abbrev labA : ByteArray := ⟨#[97]⟩
theorem labA_ok : isName labA = true := by decide
abbrev E0 : List EG := [⟨1, labA, 2⟩, ⟨2, labA, 3⟩, ⟨3, labA, 2⟩]
theorem T0 {n x : Int} : x ∈ succs E0 labA n ↔ (n = 1 ∧ x = 2) ∨ (n = 2 ∧ x = 3) ∨ (n = 3 ∧ x = 2) := by
  rw [mem_succs]
  simp
  omega
theorem R0 {a b : Int} : Reach (succs E0 labA) a b ↔ (a = 1 ∨ a = 2 ∨ a = 3) ∧ (b = 2 ∨ b = 3) := by
  constructor
  · intro h
    induction h with
    | one h => rw [T0] at h; omega
    | more _ h ih => rw [T0] at h; omega
  · rintro ⟨h1, h2⟩
    have s12 : Reach (succs E0 labA) 1 2 := .one (T0.2 (by omega))
    have s23 : Reach (succs E0 labA) 2 3 := .one (T0.2 (by omega))
    have s32 : Reach (succs E0 labA) 3 2 := .one (T0.2 (by omega))
    rcases h1 with rfl | rfl | rfl <;> rcases h2 with rfl | rfl
    · exact s12
    · exact s12.trans s23
    · exact s23.trans s32
    · exact s23
    · exact s32
    · exact s32.trans s23
theorem way0 : WayIs (succs E0 labA) 2 2 [2, 3, 2] := by
  refine ⟨.snoc (u := [2, 3]) (.snoc (u := [2]) .nil (T0.2 (by omega))) (T0.2 (by omega)), by simp, fun u hu hl => ?_⟩
  obtain ⟨u1, z, h1, h2, rfl⟩ := hu.cut hl
  rw [T0] at h2
  have hz : 2 ≤ u1.length := by
    cases h1 with
    | nil => omega
    | snoc h _ => have := h.len; simp; omega
  obtain ⟨u2, y, h3, h4, rfl⟩ := h1.cut hz
  rw [T0] at h4
  have hz3 : z = 3 := by omega
  cases h3 with
  | nil => rw [hz3]; exact .inl rfl
  | snoc h _ => have := h.len; exact .inr (.inl (by simp; omega))
open Classical in
theorem rings0 {K : List Int} (hK : K.Pairwise (· < ·)) (h : ∀ a b, Reach (succs E0 labA) a b → a ∈ K) : ringsOf (succs E0 labA) K K = [[2, 3]] := by
  have k2 : (2 : Int) ∈ K := h 2 2 (R0.2 (by omega))
  have k3 : (3 : Int) ∈ K := h 3 2 (R0.2 (by omega))
  have hm : ∀ a b, Mut (succs E0 labA) a b ↔ (a = 2 ∨ a = 3) ∧ (b = 2 ∨ b = 3) := fun a b => by unfold Mut; rw [R0, R0]; omega
  have e1 : (K.filter fun a => decide (IsHead (succs E0 labA) K a)) = [2] := lt_ext (hK.filter _) (by simp) fun x => by
    rw [List.mem_filter, List.mem_singleton, decide_eq_true_eq]
    constructor
    · rintro ⟨_, h1, h2⟩
      rw [R0] at h1
      have := h2 2 k2
      rw [hm] at this
      rcases h1.2 with h3 | h3
      · exact h3
      · have := this (by omega); omega
    · rintro rfl
      refine ⟨k2, R0.2 (by omega), fun y _ hy => ?_⟩
      rw [hm] at hy; omega
  have e2 : ringOf (succs E0 labA) K 2 = [2, 3] := lt_ext (hK.filter _) (by simp) fun x => by
    rw [mem_ringOf, hm]
    simp
    rintro (rfl | rfl)
    · exact k2
    · exact k3
  unfold ringsOf
  rw [e1, List.map_singleton, e2]

theorem awake_c (w : World) : Calls prog 14 #[] w fun e w' => e = .returned (.bool true) ∧ Fr [] w w' := by
  refine rhizomelaw13_awake.link (_u := ()) fun k1 w2 s2 b2 => ?_
  have b2 : Blk w2 k1 (E0.flatMap gcell) := b2
  have hrow : Row w2 (some ⟨k1, 0, none⟩) (E0.flatMap gcell) := Row.of_blk (off := 0) b2 (fun j u hj => by rw [Nat.zero_add]; exact hj) (fun u hu => by
    obtain ⟨e, _, he⟩ := List.mem_flatMap.1 hu
    exact flatG.2 e u he)
  refine (pairs_c (lab := labA) (E := E0) (eC := 3) hrow (by simp) (fun e he => by simp at he; unfold inR; rcases he with rfl | rfl | rfl <;> simp)).mono ?_
  rintro e5 w6 ⟨f6, hs⟩
  rw [labA_ok] at hs
  obtain ⟨b, Z, rfl, hZ, _⟩ := said_ok (P := [(1, 2), (1, 3), (2, 2), (2, 3), (3, 2), (3, 3)]) hs (by decide) (fun x => by
    obtain ⟨x1, x2⟩ := x
    rw [R0]; simp; omega) (by simp)
  refine ⟨_, _, _, _, rfl, (way_c (lab := labA) (E := E0) (eC := 3) (hrow.old f6) (by simp) 2 2).mono ?_⟩
  rintro e11 w12 ⟨f12, hw⟩
  rw [labA_ok] at hw
  have hr12 := (hrow.old f6).old f12
  rcases hw with ⟨h, _⟩ | ⟨_, ⟨hno, _⟩ | ⟨u, k, c, cs, hu, _, rfl, hbk, _⟩⟩
  · cases h
  · exact absurd way0.2.1 (hno _ way0.1)
  obtain rfl := hu.uniq way0
  refine ⟨_, _, _, _, rfl, (rings_c (lab := labA) (E := E0) (eC := 3) hr12 (by simp) (fun e he => by simp at he; unfold inR; rcases he with rfl | rfl | rfl <;> simp)).mono ?_⟩
  rintro e17 w18 ⟨f18, K, hK, hKr, hs⟩
  rw [labA_ok] at hs
  rcases hs with ⟨h, _⟩ | ⟨_, p, c2, Z2, rfl, hZ2, o, ht, _, _⟩
  · cases h
  rw [rings0 hK hKr] at hZ2
  obtain ⟨z, rfl⟩ : ∃ z, Z2 = [z] := by
    have h1 : Z2.length = 1 := by simpa using congrArg List.length hZ2
    exact List.length_eq_one_iff.1 h1
  have hz : z.2 = [2, 3] := by simpa using hZ2
  refine ⟨_, _, _, _, rfl, fun y23 h23 => bT rfl (bT (by rw [hZ]; rfl) (bT rfl fun k28 w29 s29 b29 => ?_))⟩
  have b29 : Blk w29 k28 ([2, 3, 2].map I64) := b29
  have rowI : ∀ {w : World} {k : Nat} {l : List Int} {cs : List Value}, Blk w k (l.map I64 ++ cs) → Row w (some ⟨k, 0, none⟩) (l.map I64) := fun {w k l cs} h =>
    Row.of_blk (off := 0) h (fun j u hj => by rw [Nat.zero_add, List.getElem?_append_left (List.getElem?_eq_some_iff.1 hj).1]; exact hj) (fun u hu => by obtain ⟨n, _, rfl⟩ := List.mem_map.1 hu; rfl)
  refine (ints_c (l := [2, 3, 2]) (rowI ((hbk.fr f18 (by simp)).fr s29.fr (by simp))) (rowI (cs := []) (by simpa using b29)) (by simp)).mono ?_
  rintro e32 w33 ⟨rfl, f33⟩
  have o33 := (o.fr s29.fr (fun _ _ => by simp)).fr f33 (fun _ _ => by simp)
  obtain ⟨ad, hp⟩ := o33.row.has (by simp)
  have hcell : w33.cell? (ad.add 0) = some (rz z) := o33.row.get hp rfl
  refine ⟨_, rfl, bT rfl (bT rfl (bT rfl ⟨ad, hp, ⟨by omega, by simp⟩, _, _, _, hcell, fun k39 w40 s40 b40 => ?_⟩))⟩
  have b40 : Blk w40 k39 ([2, 3].map I64) := b40
  have hz40 : RingO w40 z := (((ht z (by simp)).fr s29.fr (by simp)).fr f33 (by simp)).fr s40.fr (by simp)
  obtain ⟨cs2, hz40⟩ := hz40
  rw [hz] at hz40
  have hlz : z.2.length = 2 := by rw [hz]; rfl
  rw [hlz]
  refine (ints_c (l := [2, 3]) (rowI hz40) (rowI (cs := []) (by simpa using b40)) (by simp)).mono ?_
  rintro e43 w44 ⟨rfl, f44⟩
  exact ⟨_, rfl, h23 _ _ ⟨rfl, s2.fr.trans' (f6.trans' (f12.trans' (f18.trans' (s29.fr.trans' (f33.trans' (s40.fr.trans' f44))))))⟩⟩
end Go.Proofs.Ytnplopiconabiaa.Span
