/- The locks: Blockers. -/
import Derived.Test.YtnimejocaaekaaaQA
import Derived.Test.YtnimejocaaekaaaC4
namespace Go.Proofs.Ytnimejocaaekaaa.Lock
open Go Go.V
open Go.Proofs.Ytnimejocaaekaaa.VC
open Go.Proofs.Try (prog)
set_option linter.unusedVariables false
set_option linter.unusedSimpArgs false
set_option maxRecDepth 20000

theorem keys_updM (l : List (Int × Value)) (a : Int) (y : Value) (x : Int) : x ∈ (updM l a y).map (·.1) ↔ x = a ∨ x ∈ l.map (·.1) := by
  induction l with
  | nil => simp [updM]
  | cons p l ih =>
    obtain ⟨k, v⟩ := p
    simp only [updM]
    by_cases h : a = k
    · subst h; rw [if_pos rfl]; simp
    · rw [if_neg h, List.map_cons, List.mem_cons, ih, List.map_cons, List.mem_cons]
      constructor
      · rintro (h | h | h)
        · exact .inr (.inl h)
        · exact .inl h
        · exact .inr (.inr h)
      · rintro (h | h | h)
        · exact .inr (.inl h)
        · exact .inl h
        · exact .inr (.inr h)
/-- Who stops an ask among the holders. -/
def stopsP (I : IM) (s : Int) (al : Bool) (x : Int) : Prop := ∃ has, I.H x = some has ∧ x ≠ s ∧ (has = true ∨ al = true)
/-- For whom a session waits. -/
def blocks (I : IM) (s : Int) (al : Bool) (x : Int) : Prop := stopsP I s al x ∨ ∃ j, ∃ hj : j < I.Q.length, I.Q[j].1 = s ∧ (∀ a ∈ I.Q.take j, a.1 ≠ s) ∧ x ∈ (I.Q.take j).map (·.1)

set_option maxHeartbeats 2000000 in
theorem blockers_n {w : World} {own : List Nat} {tb mi mw : Nat} {ib : Int → Option IB} {N : Nat} {W : Int → Option Int} {M : Int → IM} (h : TabAt w own tb mi mw ib N W M) (ok : TOk W M) (s : Int) :
    Calls prog 16 #[D tb, I64 s] w fun e w' => Fr [] w w' ∧ ((W s = none ∧ e = .returned (.slice none 0 0)) ∨ ∃ (i : Int) (al : Bool) (p : Option Addr) (c : Nat) (l : List Int), W s = some i ∧ (s, al) ∈ (M i).Q ∧ e = .returned (.slice p l.length c) ∧ Row w' p (l.map I64) ∧ l.Pairwise (· < ·) ∧ (∀ x, x ∈ l ↔ blocks (M i) s al x) ∧ ∀ ad, p = some ad → w.heap.size ≤ ad.block) := by
  refine lock_Table_Blockers.link ((waits_c h ok s).mono ?_)
  rintro e w2 ⟨f2, hw⟩
  rcases hw with ⟨hW, rfl⟩ | ⟨i, al, hW, hal, rfl⟩
  · exact ⟨_, _, _, rfl, bT rfl ⟨f2, .inl ⟨hW, rfl⟩⟩⟩
  refine ⟨_, _, _, rfl, bF rfl ?_⟩
  have T2 := h.fr f2 (fun x _ => by simp)
  obtain ⟨li, gl, p, bb, hl, hp⟩ := tabLook T2 i
  cases hi : ib i with
  | none => rw [h.no i hi] at hal; cases hal
  | some b =>
  rw [hi] at hp
  have hp : p = some ⟨b.x, 0, none⟩ := hp
  subst hp
  refine ⟨some mi, T2.c0, li, gl, _, ⟨bb, hl⟩, fun w10 k11 st10 h10 => ?_⟩
  have T10 := T2.fr st10.fr (fun x _ => by simp)
  have hat := T10.it i b hi
  have n10 := g_new1 st10
  refine ⟨_, rfl, _, hat.c0, b.l, hat.map, fun w17 k18 st17 it17 => ?_⟩
  have n17 := g_new1 st17
  have hq16 := ok.q16 i
  have hbh := hat.map.lt
  have F17 : Fr [] w w17 := (f2.trans' st10.fr).trans' st17.fr
  have rng : ∀ x, stopsP (M i) s al x → 1 ≤ x ∧ x ≤ 16 := fun x ⟨hs, h1, _⟩ => ok.rh i x hs h1
  refine ⟨fun m w' => ∃ (done : List Int) (lo : List (Int × Value)), m = rest b.l done ∧ Fr [] w w' ∧ IterO kenc w' k18 (some b.h) b.l done ∧ k18 < w'.heap.size ∧ k11 < k18 ∧ w.heap.size ≤ k11 ∧ Fr [k11, k18] w10 w' ∧ MapG kenc w' k11 lo ∧ ∀ x, x ∈ lo.map (·.1) ↔ x ∈ done ∧ stopsP (M i) s al x, rest b.l [], ⟨[], [], rfl, F17, it17, n17.2, by omega, by have := f2.size; omega, st17.fr.mono (fun x hx => by cases hx), (MapG.new h10).fr st17.fr (by simp), fun x => by simp⟩, ?_⟩
  rintro m w24 ⟨done, lo, rfl, f24, it24, z18, hk, hk0, g24, m24, hlo⟩
  have hbl := T10.lt
  have bown := T10.ow.2.2.2 i b hi
  have bhne : b.h ≠ k11 ∧ b.h ≠ k18 := by
    have := hbl b.h (bown b.h (by simp [IB.blocks]))
    have := T2.lt b.h (bown b.h (by simp [IB.blocks]))
    omega
  refine ⟨some b.h, b.l, done, it24, fun y hy => ?_, fun n31 b32 hmem hnd w35 is35 it35 cur35 => bT rfl ⟨n31, b32, cur35, (stops_c w35 n31 b32 (s, al)).mono ?_⟩, fun hall w88 is88 it88 => bF rfl fun y102 hy102 => ?_⟩
  · obtain ⟨v, hv, _⟩ := hat.held.mem hat.map.nodup (s := y.1) (x := y.2) hy
    rw [hv]
    have e : IsT prog 4 (Value.bool v) = ∃ b', Value.bool b' = Value.bool v := by kernel_rfl
    rw [e]; exact ⟨v, rfl⟩
  · rintro e w42 ⟨rfl, f42⟩
    have hz := is35.size
    obtain ⟨v, hv, hH⟩ := hat.held.mem hat.map.nodup hmem
    injection hv with hv; subst hv
    have k18n : w.heap.size ≤ k18 := by omega
    have F42 : Fr [] w w42 := (f24.trans is35.fr (fun x hx => .inr (by rw [List.mem_singleton.1 hx]; exact k18n))).trans' f42
    have G42 : Fr [k11, k18] w10 w42 := (g24.trans is35.fr (fun x hx => .inl (by rw [List.mem_singleton.1 hx]; simp))).trans f42 (fun x hx => by cases hx)
    have m42 := (m24.fr is35.fr (by simp; omega)).fr f42 (by simp)
    have it42 := it35.fr f42 (by simp) (fun b _ => by simp)
    have hz2 := f42.size
    refine ⟨_, rfl, bc (fun hs => ⟨k11, lo, rfl, m42, fun w46 u46 => ⟨rest b.l (n31 :: done), rest_lt hmem hnd, n31 :: done, _, rfl, F42.trans u46.fr (fun x hx => .inr (by rw [List.mem_singleton.1 hx]; exact hk0)), it42.fr u46.fr (by simp; omega) (fun x hx => by injection hx with hx; subst hx; simp; exact bhne.1), by have := u46.size; omega, hk, hk0, G42.trans u46.fr (fun x hx => .inl (by rw [List.mem_singleton.1 hx]; simp)), u46.map, fun x => ?_⟩⟩) fun hs => ⟨rest b.l (n31 :: done), rest_lt hmem hnd, n31 :: done, lo, rfl, F42, it42, by omega, hk, hk0, G42, m42, fun x => ?_⟩⟩
    · have hs : n31 ≠ s ∧ (b32 = true ∨ al = true) := by simpa using hs
      rw [keys_updM, hlo, List.mem_cons]
      constructor
      · rintro (rfl | ⟨h1, h2⟩)
        · exact ⟨.inl rfl, b32, hH, hs⟩
        · exact ⟨.inr h1, h2⟩
      · rintro ⟨rfl | h1, h2⟩
        · exact .inl rfl
        · exact .inr ⟨h1, h2⟩
    · have hs : ¬ (n31 ≠ s ∧ (b32 = true ∨ al = true)) := by
        intro hh
        have : (!decide (n31 = s) && (b32 || al)) = true := by simpa using hh
        rw [this] at hs; cases hs
      rw [hlo, List.mem_cons]
      constructor
      · rintro ⟨h1, h2⟩; exact ⟨.inr h1, h2⟩
      · rintro ⟨rfl | h1, has, h2, h3⟩
        · rw [hH] at h2; injection h2 with h2; subst h2; exact absurd h3 hs
        · exact ⟨h1, has, h2, h3⟩
  · have k18n : w.heap.size ≤ k18 := by omega
    have F88 : Fr [] w w88 := f24.trans is88.fr (fun x hx => .inr (by rw [List.mem_singleton.1 hx]; exact k18n))
    have G88 : Fr [k11, k18] w10 w88 := g24.trans is88.fr (fun x hx => .inl (by rw [List.mem_singleton.1 hx]; simp))
    have m88 := m24.fr is88.fr (by simp; omega)
    have bn : ∀ x ∈ b.blocks, x ∉ [k11, k18] := fun x hx => by
      have := T2.lt x (bown x hx)
      simp; omega
    have hst : ∀ x, x ∈ lo.map (·.1) ↔ stopsP (M i) s al x := fun x => by
      rw [hlo]
      refine ⟨fun h => h.2, fun hs => ⟨?_, hs⟩⟩
      obtain ⟨has, h1, _⟩ := hs
      have := hat.held x
      rw [h1] at this
      exact hall _ (look_mem this)
    have hat88 := hat.fr G88 bn
    refine ⟨_, rfl, _, _, _, hat88.c1, fun m n w' => ∃ (j : Nat) (lo : List (Int × Value)), n = j ∧ j ≤ (M i).Q.length ∧ m = (M i).Q.length - j ∧ Fr [] w w' ∧ Fr [k11, k18] w10 w' ∧ MapG kenc w' k11 lo ∧ (∀ a ∈ (M i).Q.take j, a.1 ≠ s) ∧ ∀ x, x ∈ lo.map (·.1) ↔ stopsP (M i) s al x ∨ x ∈ ((M i).Q.take j).map (·.1), (M i).Q.length, ⟨0, lo, rfl, by omega, rfl, F88, G88, m88, by simp, fun x => by rw [hst]; simp⟩, ?_⟩
    clear hlo m24 hst m88
    rintro m n w122 ⟨j, lo, rfl, hj, rfl, F122, G122, m122, hno, hlo⟩
    refine bc (fun hlt => ?_) fun hge => ?_
    · have hlt : (j : Int) < ((M i).Q.length : Int) := of_decide_eq_true hlt
      have hlt' : j < (M i).Q.length := by omega
      have hat122 := hat.fr G122 bn
      obtain ⟨ad, hp, c0, c1⟩ := qread hat122.own.row hlt'
      have e0 : (j : Int).toNat * 2 = j * 2 := by omega
      refine ⟨ad, hp, ⟨by omega, hlt⟩, _, _, ⟨by rw [e0]; exact c0, by rw [e0]; exact c1, trivial⟩, fun k127 => bc (fun heq w128 st128 => ?_) fun hne w130 st130 => ⟨k11, lo, rfl, m122.fr st130.fr (by simp), fun w134 u134 => ⟨(M i).Q.length - (j + 1), by omega, j + 1, _, by rw [wrapi (by omega) (by omega)]; simp, by omega, rfl, (F122.trans' st130.fr).trans u134.fr (fun x hx => .inr (by rw [List.mem_singleton.1 hx]; exact hk0)), (G122.trans st130.fr (fun x hx => by cases hx)).trans u134.fr (fun x hx => .inl (by rw [List.mem_singleton.1 hx]; simp)), u134.map, fun a ha => ?_, fun x => ?_⟩⟩⟩
      · have heq : (M i).Q[j].1 = s := of_decide_eq_true heq
        refine hy102 _ ?_
        have m128 := m122.fr st128.fr (by simp)
        have hr : ∀ p ∈ lo, 1 ≤ p.1 ∧ p.1 ≤ 16 := fun p hp => by
          rcases (hlo p.1).1 (List.mem_map.2 ⟨p, hp, rfl⟩) with h1 | h1
          · exact rng _ h1
          · obtain ⟨a, ha, e⟩ := List.mem_map.1 h1
            rw [← e]; exact ok.rq i a (List.mem_of_mem_take ha)
        have hll : lo.length ≤ 16 := by
          have := len16 (lo.map (·.1)) m128.nodup (fun x hx => by
            obtain ⟨p, hp, rfl⟩ := List.mem_map.1 hx
            exact hr p hp)
          simpa using this
        refine (keysB_c m128 (fun p hp => by have := hr p hp; unfold inR; omega) (by omega)).mono ?_
        rintro e w105 ⟨x, rfl, f105, hc⟩
        refine ⟨x, rfl, hc.mono ?_⟩
        rintro e w108 ⟨p, c, rfl, f108, row108, a108⟩
        have hlen : (sortI (lo.map (·.1))).length = lo.length := by rw [(sortI_perm _).length_eq, List.length_map]
        refine ⟨_, _, _, rfl, (F122.trans' st128.fr).trans' f108, .inr ⟨i, al, p, c, sortI (lo.map (·.1)), hW, hal, by rw [hlen], row108, K_lt m128.nodup, fun x => ?_, fun ad hp => by have := a108 ad hp; have := (F122.trans' st128.fr).size; omega⟩⟩
        rw [(sortI_perm _).mem_iff, hlo]
        unfold blocks
        constructor
        · rintro (h1 | h1)
          · exact .inl h1
          · exact .inr ⟨j, hlt', heq, hno, h1⟩
        · rintro (h1 | ⟨j', hj', e1, e2, h1⟩)
          · exact .inl h1
          · right
            have : j' = j := by
              rcases Nat.lt_trichotomy j' j with hh | hh | hh
              · exact absurd e1 (hno _ (List.mem_take_iff_getElem.2 ⟨j', by omega, rfl⟩))
              · exact hh
              · exact absurd heq (e2 _ (List.mem_take_iff_getElem.2 ⟨j, by omega, rfl⟩))
            rw [this] at h1; exact h1
      · rw [List.take_add_one, List.getElem?_eq_getElem hlt'] at ha
        rcases List.mem_append.1 ha with ha | ha
        · exact hno a ha
        · simp at ha; subst ha; exact of_decide_eq_false hne
      · rw [keys_updM, hlo, List.take_add_one, List.getElem?_eq_getElem hlt']
        simp only [Option.toList_some, List.map_append, List.map_cons, List.map_nil, List.mem_append, List.mem_singleton]
        constructor
        · rintro (h1 | h1 | h1)
          · exact .inr (.inr h1)
          · exact .inl h1
          · exact .inr (.inl h1)
        · rintro (h1 | h1 | h1)
          · exact .inr (.inl h1)
          · exact .inr (.inr h1)
          · exact .inl h1
    · have hge : ¬ (j : Int) < ((M i).Q.length : Int) := of_decide_eq_false hge
      rw [List.take_of_length_le (by omega)] at hno
      exact absurd rfl (hno _ hal)
theorem blockers_c {w : World} {own : List Nat} {tb mi mw : Nat} {ib : Int → Option IB} {N : Nat} {W : Int → Option Int} {M : Int → IM} (h : TabAt w own tb mi mw ib N W M) (ok : TOk W M) (s : Int) :
    Calls prog 16 #[D tb, I64 s] w fun e w' => Fr [] w w' ∧ ((W s = none ∧ e = .returned (.slice none 0 0)) ∨ ∃ (i : Int) (al : Bool) (p : Option Addr) (c : Nat) (l : List Int), W s = some i ∧ (s, al) ∈ (M i).Q ∧ e = .returned (.slice p l.length c) ∧ Row w' p (l.map I64) ∧ l.Pairwise (· < ·) ∧ ∀ x, x ∈ l ↔ blocks (M i) s al x) :=
  (blockers_n h ok s).mono fun e w' ⟨hf, hh⟩ => ⟨hf, hh.imp id fun ⟨i, al, p, c, l, h1, h2, h3, h4, h5, h6, _⟩ => ⟨i, al, p, c, l, h1, h2, h3, h4, h5, h6⟩⟩
end Go.Proofs.Ytnimejocaaekaaa.Lock
