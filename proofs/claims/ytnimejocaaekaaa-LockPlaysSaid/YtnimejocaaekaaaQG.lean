/- The locks' reference: Ask. -/
import Derived.Test.YtnimejocaaekaaaQF
namespace Go.Proofs.Ytnimejocaaekaaa.Lock
open Go Go.V
open Go.Proofs.Ytnimejocaaekaaa.VC
open Go.Proofs.Try (prog)
set_option linter.unusedVariables false
set_option linter.unusedSimpArgs false
set_option maxRecDepth 20000

theorem tw_at {α : Type} {P : α → Bool} : ∀ {q : List α} {i : Nat} (hi : i < q.length), (∀ a ∈ q.take i, P a = true) → P q[i] = false → q.takeWhile P = q.take i ∧ q.dropWhile P = q.drop i
  | a :: q, 0, _, _, h => by
    have h : P a = false := h
    simp [List.takeWhile_cons, List.dropWhile_cons, h]
  | a :: q, i + 1, hi, hall, h => by
    have ha : P a = true := hall a (by simp)
    have := tw_at (q := q) (i := i) (by simpa using hi) (fun b hb => hall b (by simp [hb])) (by simpa using h)
    simp [List.takeWhile_cons, List.dropWhile_cons, ha, this.1, this.2]
theorem tw_all {α : Type} {P : α → Bool} : ∀ {q : List α}, (∀ a ∈ q, P a = true) → q.takeWhile P = q ∧ q.dropWhile P = []
  | [], _ => ⟨rfl, rfl⟩
  | a :: q, hall => by
    have ha : P a = true := hall a (by simp)
    have := tw_all (q := q) (fun b hb => hall b (by simp [hb]))
    simp [List.takeWhile_cons, List.dropWhile_cons, ha, this.1, this.2]
/-- What a reference's function leaves of a table. -/
def TabR (w w' : World) (hA qA : Option Addr) (x : List LK × List LK) (p1 : Option Addr) (p2 : Option Addr) (c2 : Nat) : Prop :=
  Row w' p1 (lcells x.1) ∧ Row w' p2 (lcells x.2) ∧ x.2.length ≤ c2 ∧ orNew w w' w.heap.size hA p1 ∧ orNew w w' w.heap.size qA p2
abbrev tabV (p1 : Option Addr) (c1 : Nat) (p2 : Option Addr) (c2 : Nat) (x : List LK × List LK) : Value := .agg #[.slice p1 x.1.length c1, .slice p2 x.2.length c2]

set_option maxHeartbeats 2000000 in
theorem rask_c {w : World} {hA : Option Addr} {hC : Nat} {qA : Option Addr} {qC : Nat} {h q : List LK} (hh : Row w hA (lcells h)) (hq : Row w qA (lcells q)) (bA : lowA w hA) (bQ : lowA w qA) (hqc : q.length ≤ qC) (hl : h.length + q.length ≤ 90000) (s item : Int) (alone : Bool) :
    Calls prog 19 #[.agg #[.slice hA h.length hC, .slice qA q.length qC], I64 s, I64 item, .bool alone] w fun e w' => Fr [] w w' ∧ ∃ p1 c1 p2 c2, e = .returned (.tuple #[tabV p1 c1 p2 c2 (lask h q s item alone).1, I64 (lask h q s item alone).2]) ∧ TabR w w' hA qA (lask h q s item alone).1 p1 p2 c2 := by
  refine rhizomeref16_Ask.link fun k1 k2 y3 hy3 => ?_
  suffices main : ∀ w5, Step w w5 [] [k2, k1] → ((s < 1 ∨ 16 < s) → y3 true w5) ∧ (¬ (s < 1 ∨ 16 < s) → y3 false w5) by
    refine bc (fun h1 w' st => (main w' st).1 (.inl (of_decide_eq_true h1))) fun h1 w' st => ?_
    have h1 := of_decide_eq_false h1
    cases h2 : decide ((16 : Int) < s) with
    | true => exact (main w' st).1 (.inr (of_decide_eq_true h2))
    | false => exact (main w' st).2 (by have := of_decide_eq_false h2; omega)
  intro w5 st5
  have n5 := g_new2 st5
  have same : ∀ code, lask h q s item alone = ((h, q), code) → ∀ w8 w9, Fr [] w5 w8 → Step w8 w9 [k2] [] → Fr [] w w9 ∧ ∃ p1 c1 p2 c2, Ending.returned (.tuple #[.agg #[.slice hA h.length hC, .slice qA q.length qC], I64 code]) = .returned (.tuple #[tabV p1 c1 p2 c2 (lask h q s item alone).1, I64 (lask h q s item alone).2]) ∧ TabR w w9 hA qA (lask h q s item alone).1 p1 p2 c2 := fun code hc w8 w9 f8 s9 => by
    have F : Fr [] w w9 := (st5.fr.trans' f8).trans s9.fr (fun x hx => .inr (by rw [List.mem_singleton.1 hx]; omega))
    have := F.size
    rw [hc]
    exact ⟨F, hA, hC, qA, qC, rfl, hh.old F, hq.old F, hqc, fun ad hp => ⟨.inl hp, by have := bA ad hp; omega⟩, fun ad hp => ⟨.inl hp, by have := bQ ad hp; omega⟩⟩
  refine ⟨fun hs => hy3 _ _ (bT rfl fun w6 s6 => same 1 (by unfold lask; rw [if_pos hs]) _ _ (Fr.refl _ _) s6), fun hs => hy3 _ _ (bF rfl ?_)⟩
  clear hy3
  refine (rat_c (hq.old st5.fr) (by omega) s).mono ?_
  rintro e8 w9 ⟨f9, n10, rfl, hat⟩
  refine ⟨_, rfl, keepF f9 (by simp; omega), ?_⟩
  have hw : (0 ≤ n10) ↔ (waitL q s).isSome = true := by
    unfold waitL
    rw [Option.isSome_map, List.find?_isSome]
    rcases hat with ⟨rfl, hno⟩ | ⟨i, rfl, hi, he, hno⟩
    · exact ⟨fun h => by omega, fun ⟨a, ha, e⟩ => absurd (of_decide_eq_true e) (hno a ha)⟩
    · exact ⟨fun _ => ⟨_, List.getElem_mem hi, by simpa using he⟩, fun _ => by omega⟩
  refine bc (fun hn w11 s11 => ?_) fun hn k13 w14 s14 => ?_
  · exact same 171 (by unfold lask; rw [if_neg hs, if_pos (hw.1 (of_decide_eq_true hn))]) _ _ f9 s11
  have hnw : ¬ (waitL q s).isSome = true := fun h => of_decide_eq_false hn (hw.2 h)
  clear hw hat
  have n14 := g_new1 s14
  have z9 := f9.size
  have f14 : Fr [] w5 w14 := f9.trans' s14.fr
  have F14 := st5.fr.trans' f14
  refine (rholds_c (hh.old F14) (by omega) s item).mono ?_
  rintro e16 w17 ⟨f17, rfl⟩
  refine ⟨_, _, rfl, keepF f17 (by simp; omega), fun y20 hy20 => ?_⟩
  have z17 := f17.size
  have f17' := f14.trans' f17
  have F17 := F14.trans' f17
  have b20 : ∀ w22, Fr [] w17 w22 → ((lheld h s item).isSome = true ∧ ((lheld h s item).getD false = true ∨ alone = false)) → y20 true w22 := fun w22 f22 hc => hy20 _ _ (bT rfl fun w23 s23 => same 0 (by unfold lask; rw [if_neg hs, if_neg hnw, if_pos hc]) _ _ (f17'.trans' f22) s23)
  suffices main2 : ¬ ((lheld h s item).isSome = true ∧ ((lheld h s item).getD false = true ∨ alone = false)) → y20 false w17 by
    refine bc (fun h1 => bc (fun h2 => b20 _ (Fr.refl _ _) ⟨h1, .inl h2⟩) fun h2 => ?_) fun h1 => main2 (fun h => by rw [h1] at h; cases h.1)
    cases ha : alone with
    | false => exact b20 _ (Fr.refl _ _) ⟨h1, .inr ha⟩
    | true => exact main2 (fun h => by rcases h.2 with h | h; rw [h2] at h; cases h; rw [ha] at h; cases h)
  intro hnh
  refine hy20 _ _ (bF rfl ?_)
  clear hy20 b20
  refine ⟨fun m b28 n29 w' => ∃ j : Nat, n29 = j ∧ j ≤ q.length ∧ m = q.length - j ∧ w' = w17 ∧ b28 = (q.take j).any (onI item), q.length, ⟨0, rfl, by omega, rfl, rfl, by simp⟩, ?_⟩
  rintro m b28 n29 w30 ⟨j, rfl, hj, rfl, rfl, rfl⟩
  refine bc (fun hlt y32 hy32 => ?_) fun hge y40 hy40 => ?_
  · have hlt : (j : Int) < (q.length : Int) := of_decide_eq_true hlt
    have hlt' : j < q.length := by omega
    have e0 : (j : Int).toNat * 3 = j * 3 := by omega
    obtain ⟨ad, hp, c0, cc1, c2⟩ := lread (hq.old F17) hlt'
    have next : ∀ b, b = (q.take (j + 1)).any (onI item) → y32 b w30 := fun b hb => hy32 _ _ ⟨q.length - (j + 1), by omega, j + 1, by rw [wrapi (by omega) (by omega)]; simp, by omega, rfl, rfl, hb⟩
    have ea : (q.take (j + 1)).any (onI item) = ((q.take j).any (onI item) || onI item q[j]) := by rw [take_snoc hlt', List.any_append]; simp
    exact bc (fun hb => next _ (by rw [ea, hb]; rfl)) fun hb => ⟨ad, hp, ⟨by omega, hlt⟩, _, by rw [e0]; exact cc1, next _ (by rw [ea, hb]; rfl)⟩
  have hge : ¬ (j : Int) < (q.length : Int) := of_decide_eq_false hge
  have ej : (q.take j).any (onI item) = q.any (onI item) := by rw [List.take_of_length_le (by omega)]
  have hb6 : h.length ≤ 1000000 := by omega
  refine (rfit_c (l := h) (hC := hC) (qA := qA) (qL := q.length) (qC := qC) (hh.old F17) hb6 ⟨s, item, alone⟩).mono ?_
  rintro e114 w115 ⟨f115, rfl⟩
  have z115 := f115.size
  have F115 := F17.trans' f115
  refine ⟨_, rfl, keepF f115 (by simp; omega), ?_⟩
  have yes : (lfits h ⟨s, item, alone⟩ = true ∧ ((lheld h s item).isSome = true ∨ q.any (onI item) = false)) → y40 true w115 := fun hc => hy40 _ _ (bT rfl (by
    refine (rhold_c (hh.old F115) (by omega) ⟨s, item, alone⟩).mono ?_
    rintro e43 w44 ⟨f44, p45, c45, rfl, r45, g45⟩
    refine ⟨p45, _, c45, qA, _, qC, rfl, keepF f44 (by simp; omega), fun w51 s51 => ?_⟩
    have z44 := f44.size
    have z51 := s51.fr.size
    have F44 := F115.trans' f44
    have F51 : Fr [] w w51 := F44.trans s51.fr (fun x hx => .inr (by rw [List.mem_singleton.1 hx]; omega))
    have e : lask h q s item alone = ((lhold h ⟨s, item, alone⟩, q), 0) := by unfold lask; rw [if_neg hs, if_neg hnw, if_neg hnh, if_pos hc]
    rw [e]
    have := F51.size
    refine ⟨F51, p45, c45, qA, qC, rfl, r45.fr s51.fr (fun ad hp => by have := g45 ad hp; simp; omega), hq.old F51, hqc, fun ad hp => ⟨.inr (by have := g45 ad hp; have := F115.size; omega), by have := g45 ad hp; omega⟩, fun ad hp => ⟨.inl hp, by have := bQ ad hp; omega⟩⟩))
  have no : ¬ (lfits h ⟨s, item, alone⟩ = true ∧ ((lheld h s item).isSome = true ∨ q.any (onI item) = false)) → y40 false w115 := fun hc => hy40 _ _ (bF rfl (by
    have e : lask h q s item alone = ((h, lput h q ⟨s, item, alone⟩), 160) := by unfold lask; rw [if_neg hs, if_neg hnw, if_neg hnh, if_neg hc]
    rw [e]
    clear yes hy40 same hnh hc e
    have hfl : Flat lcell1 3 := flatL
    refine ⟨fun m p k c put n w' => ∃ (i : Nat) (out : List LK), n = i ∧ i ≤ q.length ∧ m = q.length - i ∧ k = out.length ∧ out.length ≤ i + 1 ∧ OwnZ w' w115.heap.size 3 p out.length c (lcells out) ∧ Fr [] w115 w' ∧
      ((put = false ∧ out = q.take i ∧ ((lheld h s item).isSome = true → ∀ a ∈ q.take i, (!(onI item a && !(lheld h a.s item).isSome)) = true)) ∨ (put = true ∧ out ++ q.drop i = lput h q ⟨s, item, alone⟩)), q.length, ⟨0, [], rfl, by omega, rfl, rfl, by simp, OwnZ.nil _ _ _, Fr.refl _ _, .inl ⟨rfl, by simp, by simp⟩⟩, ?_⟩
    rintro m p k c put n w61 ⟨i, out, rfl, hi, rfl, rfl, hol, o, f61, hst⟩
    have z61 := f61.size
    refine bc (fun hlt => ?_) fun hge y98 hy98 => ?_
    · have hlt : (i : Int) < (q.length : Int) := of_decide_eq_true hlt
      have hlt' : i < q.length := by omega
      have e0 : (i : Int).toNat * 3 = i * 3 := by omega
      obtain ⟨ad, hp, c0, cc1, c2⟩ := lread (hq.old (F115.trans' f61)) hlt'
      refine ⟨ad, hp, ⟨by omega, hlt⟩, _, _, _, ⟨by rw [e0]; exact c0, by rw [e0]; exact cc1, by rw [e0]; exact c2, trivial⟩, fun k67 w68 s68 => ?_⟩
      have n68 := g_new1 s68
      refine (rholds_c (hh.old ((F115.trans' f61).trans' s68.fr)) (by omega) q[i].s item).mono ?_
      rintro e70 w71 ⟨f71, rfl⟩
      have z71 := f71.size
      have f71' : Fr [] w115 w71 := (f61.trans' s68.fr).trans' f71
      have o71 := (o.fr s68.fr (fun _ _ => by simp)).fr f71 (fun _ _ => by simp)
      refine ⟨_, _, rfl, keepF f71 (by simp; omega), fun y74 hy74 y88 hy88 => ?_⟩
      -- the element goes behind
      have add : ∀ (ys : List LK) (p : Option Addr) (c : Nat) (b : Bool) (v : World), OwnZ v w115.heap.size 3 p ys.length c (lcells ys) → Fr [] w115 v → w71.heap.size ≤ v.heap.size → ys.length ≤ i + 2 → (∀ ad, p = some ad → ad.block ≠ k67) → (ys ++ [q[i]]).length ≤ i + 1 + 1 →
          ((b = false ∧ ys ++ [q[i]] = q.take (i + 1) ∧ ((lheld h s item).isSome = true → ∀ a ∈ q.take (i + 1), (!(onI item a && !(lheld h a.s item).isSome)) = true)) ∨ (b = true ∧ (ys ++ [q[i]]) ++ q.drop (i + 1) = lput h q ⟨s, item, alone⟩)) → y74 p ys.length c b v := fun ys p c b v oy fy zv hyl hne hyl2 hb => hy74 _ _ _ _ _ (fun k80 => by
        refine app1 (x := q[i]) (f := lcell1) hfl (u := w115) (B := w115.heap.size) oy fy rfl (Nat.le_refl _) (by omega) (fun h => by cases h) (by simp) (fun ad hp => by have := oy.lt hp; have := hne ad hp; simp; omega) (by omega) (by omega) fun w81 p82 c83 F81 _ n81 o81 _ => ?_
        exact ⟨q.length - (i + 1), by omega, i + 1, ys ++ [q[i]], by rw [wrapi (by omega) (by omega)]; simp, by omega, rfl, rfl, hyl2, o81, F81, hb⟩)
      have plain : ¬ ((lheld h s item).isSome = true ∧ put = false ∧ q[i].item = item ∧ (lheld h q[i].s item).isSome = false) → y88 false w71 := fun hc => hy88 _ _ (bF rfl (add out p c put w71 o71 f71' (Nat.le_refl _) (by omega) (fun ad hp => by have := (o.lt hp).2; omega) (by simp; omega) (by
        rcases hst with ⟨rfl, rfl, hall⟩ | ⟨rfl, he⟩
        · refine .inl ⟨rfl, (take_snoc hlt').symm, fun hH a ha => ?_⟩
          rw [take_snoc hlt'] at ha
          rcases List.mem_append.1 ha with ha | ha
          · exact hall hH a ha
          · rw [List.mem_singleton.1 ha]
            by_cases h1 : q[i].item = item
            · cases h2 : (lheld h q[i].s item).isSome with
              | true => simp
              | false => exact absurd ⟨hH, rfl, h1, h2⟩ hc
            · simp [onI, h1]
        · refine .inr ⟨rfl, ?_⟩
          rw [List.append_assoc, List.singleton_append, List.getElem_cons_drop]; exact he)))
      have putit : ((lheld h s item).isSome = true ∧ put = false ∧ q[i].item = item ∧ (lheld h q[i].s item).isSome = false) → y88 true w71 := fun ⟨hH, hput, h1, h2⟩ => hy88 _ _ (bT rfl fun k91 => by
        subst hput
        rcases hst with ⟨_, rfl, hall⟩ | ⟨h3, _⟩
        · have e := tw_at (P := fun a => !(onI item a && !(lheld h a.s item).isSome)) hlt' (hall hH) (by simp [onI, h1, h2])
          have lt1 : (q.take i).length = i := by simp; omega
          refine app1 (x := ⟨s, item, alone⟩) (f := lcell1) hfl (u := w115) (B := w115.heap.size) o71 f71' rfl (Nat.le_refl _) (by omega) (fun h => by cases h) (by simp) (fun ad hp => by have := o.lt hp; simp; omega) (by omega) (by omega) fun w92 p93 c94 F92 G92 n92 o92 d92 => ?_
          have z92 := n92 k91 (by simp)
          refine add _ p93 c94 true w92 o92 F92 (by omega) (by simp; omega) (fun ad hp => ?_) (by simp; omega) (.inr ⟨rfl, ?_⟩)
          · rcases d92 ad hp with h3 | h3
            · have := (o.lt h3).2; omega
            · omega
          · unfold lput
            rw [if_pos hH]
            show _ = q.takeWhile (fun a => !(onI item a && !(lheld h a.s item).isSome)) ++ [_] ++ q.dropWhile (fun a => !(onI item a && !(lheld h a.s item).isSome))
            rw [e.1, e.2, List.append_assoc, List.singleton_append, List.getElem_cons_drop]
        · cases h3)
      refine bc (fun hH => bc (fun hp2 => bc (fun hI => ?_) fun hI => ?_) fun hp2 => ?_) fun hH => ?_
      · cases h2 : (lheld h q[i].s item).isSome with
        | false => exact putit ⟨hH, by simpa using hp2, of_decide_eq_true hI, h2⟩
        | true => exact plain (fun hc => by rw [h2] at hc; cases hc.2.2.2)
      · exact plain (fun hc => of_decide_eq_false hI hc.2.2.1)
      · exact plain (fun hc => by rw [hc.2.1] at hp2; cases hp2)
      · exact plain (fun hc => by rw [hH] at hc; cases hc.1)
    · have hge : ¬ (i : Int) < (q.length : Int) := of_decide_eq_false hge
      have hi2 : i = q.length := by omega
      subst hi2
      have fin : ∀ p c v, OwnZ v w115.heap.size 3 p (lput h q ⟨s, item, alone⟩).length c (lcells (lput h q ⟨s, item, alone⟩)) → Fr [] w115 v → y98 p (lput h q ⟨s, item, alone⟩).length c v := fun p c v ov fv => hy98 _ _ _ _ (fun w103 s103 => by
        have zv := fv.size
        have z103 := s103.fr.size
        have zz := F115.size
        have F103 : Fr [] w w103 := (F115.trans' fv).trans s103.fr (fun x hx => by rcases List.mem_cons.1 hx with rfl | hx; exact .inr (by omega); rw [List.mem_singleton.1 hx]; exact .inr (by omega))
        have o103 := ov.fr s103.fr (fun ad hp => by have := (ov.lt hp).1; simp; omega)
        refine ⟨F103, hA, hC, p, c, rfl, hh.old F103, o103.row, o103.2.1, fun ad hp => ⟨.inl hp, by have := bA ad hp; omega⟩, fun ad hp => ⟨.inr (by have := (o103.lt hp).1; omega), (o103.lt hp).2⟩⟩)
      rw [List.take_of_length_le (Nat.le_refl _), List.drop_of_length_le (Nat.le_refl _), List.append_nil] at hst
      rcases hst with ⟨rfl, rfl, hall⟩ | ⟨rfl, rfl⟩
      · refine bT rfl fun k107 => ?_
        have e : lput h out ⟨s, item, alone⟩ = out ++ [⟨s, item, alone⟩] := by
          unfold lput
          split
          · rename_i hH
            have := tw_all (P := fun a => !(onI item a && !(lheld h a.s item).isSome)) (hall hH)
            show out.takeWhile (fun a => !(onI item a && !(lheld h a.s item).isSome)) ++ [_] ++ out.dropWhile (fun a => !(onI item a && !(lheld h a.s item).isSome)) = _
            rw [this.1, this.2, List.append_nil]
          · rfl
        rw [e] at fin
        exact app1 (x := ⟨s, item, alone⟩) (f := lcell1) hfl (u := w115) (B := w115.heap.size) o f61 rfl (Nat.le_refl _) (by omega) (fun h => by cases h) (by simp) (fun ad hp => by have := o.lt hp; simp; omega) (by omega) (by omega) fun w108 p109 c110 F108 _ _ o108 _ => fin _ _ _ o108 F108
      · exact bF rfl (fin _ _ _ o f61)))
  refine bc (fun h1 => bc (fun h2 => yes ⟨h1, .inl h2⟩) fun h2 => ?_) fun h1 => no (fun h => by rw [h1] at h; cases h.1)
  rw [ej]
  cases h3 : q.any (onI item) with
  | false => exact yes ⟨h1, .inr h3⟩
  | true => exact no (fun h => by rcases h.2 with h | h; rw [h2] at h; cases h; rw [h3] at h; cases h)
end Go.Proofs.Ytnimejocaaekaaa.Lock
