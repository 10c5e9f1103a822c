/- The locks: the queue: who is in it, and one that is taken out (slices.IndexFunc, ContainsFunc, DeleteFunc at the law's own closure). -/
import Derived.Test.YtnimejocaaekaaaQ1
import Derived.Test.YtnimejocaaekaaaC2
namespace Go.Proofs.Ytnimejocaaekaaa.Lock
open Go Go.V
open Go.Proofs.Ytnimejocaaekaaa.VC
open Go.Proofs.Try (prog)
set_option linter.unusedVariables false
set_option linter.unusedSimpArgs false
set_option maxRecDepth 20000

/-- The function that tells whether an ask is of the session that stands at an address. -/
abbrev mineV (f : Addr) : Value := .func (.func 29) #[] #[.pointer (some f)]
theorem mine_c {w : World} {f : Addr} {s : Int} (h : w.cell? f = some (I64 s)) (x : Int) (b : Bool) : Calls prog 29 #[.agg #[I64 x, .bool b], .pointer (some f)] w fun e w' => e = .returned (.bool (decide (x = s))) ∧ Fr [] w w' :=
  lock_Table_Release_1.link fun k1 => ⟨s, h, fun w3 st => ⟨rfl, st.fr⟩⟩

theorem addQ (ad : Addr) (i m : Nat) : (ad.add (i * 2)).add m = ad.add (i * 2 + m) := by
  unfold Addr.add
  by_cases h0 : i = 0
  · simp [h0]
  · have h0' : ¬ i * 2 = 0 := by omega
    by_cases hm : m = 0
    · simp [h0, h0', hm]
    · simp [h0, h0', hm, Nat.add_assoc]
theorem qread {w : World} {p : Option Addr} {q : List AskM} (h : Row w p (qcells q)) {i : Nat} (hi : i < q.length) : ∃ ad, p = some ad ∧ w.cell? ((ad.add (i * 2)).add 0) = some (I64 q[i].1) ∧ w.cell? ((ad.add (i * 2)).add 1) = some (.bool q[i].2) := by
  obtain ⟨ad, hp⟩ := h.has (by rw [qcells_len]; omega)
  obtain ⟨g0, g1⟩ := qcells_get q i hi
  exact ⟨ad, hp, by rw [addQ]; exact h.get hp g0, by rw [addQ]; exact h.get hp g1⟩

theorem index_c {w : World} {p : Option Addr} {c : Nat} {q : List AskM} {f : Addr} {s : Int} (hr : Row w p (qcells q)) (hl : q.length ≤ 140737488355328) (hf : w.cell? f = some (I64 s)) :
    Calls prog 48 #[.slice p q.length c, mineV f] w fun e w' => ∃ n : Int, e = .returned (I64 n) ∧ Fr [] w w' ∧ ((n = -1 ∧ ∀ a ∈ q, a.1 ≠ s) ∨ ∃ i, n = ((i : Nat) : Int) ∧ ∃ hi : i < q.length, q[i].1 = s ∧ ∀ a ∈ q.take i, a.1 ≠ s) := by
  refine slices_IndexFunc_g.link ⟨fun m n w' => ∃ i : Nat, n = i ∧ i ≤ q.length ∧ m = q.length - i ∧ Fr [] w w' ∧ ∀ a ∈ q.take i, a.1 ≠ s, q.length, ⟨0, rfl, by omega, rfl, Fr.refl _ _, by simp⟩, ?_⟩
  rintro m n w5 ⟨i, rfl, hi, rfl, f5, hno⟩
  refine bc (fun hlt => ?_) fun hge => ?_
  · have hlt : (i : Int) < (q.length : Int) := of_decide_eq_true hlt
    have hlt' : i < q.length := by omega
    obtain ⟨ad, hp, g0, g1⟩ := qread (g_row f5 hr fun ad _ _ => by simp) hlt'
    have e0 : (i : Int).toNat * 2 = i * 2 := by omega
    refine ⟨ad, hp, ⟨by omega, hlt⟩, _, _, ⟨by rw [e0]; exact g0, by rw [e0]; exact g1, trivial⟩, lock_Table_Release_1.body, (mine_c (cell_fr f5 hf (by simp)) q[i].1 q[i].2).mono ?_⟩
    rintro e w11 ⟨rfl, f11⟩
    refine ⟨_, rfl, bc (fun ht => ⟨_, rfl, f5.trans' f11, .inr ⟨i, rfl, hlt', of_decide_eq_true ht, hno⟩⟩) fun hn => ⟨q.length - (i + 1), by omega, i + 1, by rw [wrapi (by omega) (by omega)]; simp, by omega, rfl, f5.trans' f11, fun a ha => ?_⟩⟩
    rw [List.take_add_one, List.getElem?_eq_getElem hlt'] at ha
    rcases List.mem_append.1 ha with ha | ha
    · exact hno a ha
    · simp at ha; subst ha; exact of_decide_eq_false hn
  · have hge : ¬ (i : Int) < (q.length : Int) := of_decide_eq_false hge
    refine ⟨_, rfl, f5, .inl ⟨rfl, ?_⟩⟩
    rw [List.take_of_length_le (by omega)] at hno
    exact hno

theorem containsF_c {w : World} {p : Option Addr} {c : Nat} {q : List AskM} {f : Addr} {s : Int} (hr : Row w p (qcells q)) (hl : q.length ≤ 140737488355328) (hf : w.cell? f = some (I64 s)) :
    Calls prog 30 #[.slice p q.length c, mineV f] w fun e w' => ∃ b, e = .returned (.bool b) ∧ Fr [] w w' ∧ (b = true ↔ ∃ a ∈ q, a.1 = s) := by
  refine slices_ContainsFunc_g.link ((index_c hr hl hf).mono ?_)
  rintro e w2 ⟨n, rfl, f2, h⟩
  refine ⟨n, rfl, _, rfl, f2, ?_⟩
  rcases h with ⟨rfl, h⟩ | ⟨i, rfl, hi, h, _⟩
  · exact ⟨fun h => by simp at h, fun ⟨a, ha, e⟩ => absurd e (h a ha)⟩
  · exact ⟨fun _ => ⟨q[i], List.getElem_mem hi, h⟩, fun _ => by simp⟩

theorem filter_take_succ (s : Int) (q : List AskM) {j : Nat} (hj : j < q.length) : (q.take (j + 1)).filter (fun a => !decide (a.1 = s)) = (q.take j).filter (fun a => !decide (a.1 = s)) ++ if q[j].1 = s then [] else [q[j]] := by
  rw [List.take_add_one, List.getElem?_eq_getElem hj, List.filter_append]
  congr 1
  by_cases h : q[j].1 = s <;> simp [h]

/-- The asks of a session are taken out of a queue. -/
theorem delete_c {w : World} {p : Option Addr} {c : Nat} {q : List AskM} {f : Addr} {s : Int} (h : OwnQ w p q.length c (qcells q)) (hl : q.length ≤ 140737488355328) (hf : w.cell? f = some (I64 s)) (hfp : ∀ ad, p = some ad → f.block ≠ ad.block) :
    Calls prog 31 #[.slice p q.length c, mineV f] w fun e w' => ∃ p' c', e = .returned (.slice p' (q.filter fun a => !decide (a.1 = s)).length c') ∧ Fr (pb p) w w' ∧ pb p' = pb p ∧ OwnQ w' p' (q.filter fun a => !decide (a.1 = s)).length c' (qcells (q.filter fun a => !decide (a.1 = s))) := by
  refine slices_DeleteFunc_g.link ((index_c h.row hl hf).mono ?_)
  rintro e w2 ⟨n, rfl, f2, hn⟩
  have h2 := h.fr f2 (fun ad _ => by simp)
  refine ⟨n, rfl, ?_⟩
  rcases hn with ⟨rfl, hno⟩ | ⟨i0, rfl, hi0, hs0, hno⟩
  · refine bT rfl ?_
    have e : q.filter (fun a => !decide (a.1 = s)) = q := List.filter_eq_self.2 fun a ha => by simpa using hno a ha
    exact ⟨p, c, by rw [e], f2.mono (fun x hx => by cases hx), rfl, by rw [e]; exact h2⟩
  refine bF (by simp) ?_
  obtain ⟨_, hlc, _, hv⟩ := h2
  rcases hv with ⟨_, rfl⟩ | ⟨b, ys, zs, rfl, hb, hpl, hcz⟩
  · omega
  have hfb : f.block ≠ b := hfp _ rfl
  rw [List.length_append, qcells_len] at hcz
  refine ⟨fun m n7 n8 w' => ∃ (i j : Nat) (J : List Value), n7 = i ∧ n8 = j ∧ m = q.length - j ∧ j ≤ q.length ∧ i < j ∧ i = ((q.take j).filter fun a => !decide (a.1 = s)).length ∧ J.length = (j - i) * 2 ∧ Fr [b] w w' ∧ Blk w' b (ys ++ qcells ((q.take j).filter fun a => !decide (a.1 = s)) ++ J ++ qcells (q.drop j) ++ zs) ∧ Plain w' b, q.length - (i0 + 1), ⟨i0, i0 + 1, [I64 q[i0].1, .bool q[i0].2], rfl, by rw [wrapi (by omega) (by omega)]; simp, rfl, by omega, by omega, ?_, by simp, f2.mono (fun x hx => by cases hx), ?_, hpl⟩, ?_⟩
  · rw [filter_take_succ s q hi0, if_pos hs0, List.append_nil, List.filter_eq_self.2 fun a ha => by simpa using hno a ha]
    simp; omega
  · rw [filter_take_succ s q hi0, if_pos hs0, List.append_nil, List.filter_eq_self.2 fun a ha => by simpa using hno a ha]
    have e : qcells q = qcells (q.take i0) ++ [I64 q[i0].1, .bool q[i0].2] ++ qcells (q.drop (i0 + 1)) := by
      have : q = q.take i0 ++ [q[i0]] ++ q.drop (i0 + 1) := by simp
      conv => lhs; rw [this]
      rw [qcells_app, qcells_app]; rfl
    rw [e] at hb
    simpa [List.append_assoc] using hb
  rintro m n7 n8 w9 ⟨i, j, J, rfl, rfl, rfl, hj, hij, hi, hJ, f9, b9, p9⟩
  have hil : (qcells ((q.take j).filter fun a => !decide (a.1 = s))).length = i * 2 := by rw [qcells_len, ← hi]
  refine bc (fun hlt => ?_) fun hge => ?_
  · have hlt : (j : Int) < (q.length : Int) := of_decide_eq_true hlt
    have hlt' : j < q.length := by omega
    have e0 : (j : Int).toNat * 2 = j * 2 := by omega
    have ei : (i : Int).toNat * 2 = i * 2 := by omega
    intro y11 hy11
    have hdrop : q.drop j = q[j] :: q.drop (j + 1) := List.drop_eq_getElem_cons hlt'
    rw [hdrop, qcells_cons] at b9
    have cell : ∀ (w' : World) (m : Nat) (u : Value), Blk w' b (ys ++ qcells ((q.take j).filter fun a => !decide (a.1 = s)) ++ J ++ (I64 q[j].1 :: .bool q[j].2 :: qcells (q.drop (j + 1))) ++ zs) → (I64 q[j].1 :: .bool q[j].2 :: qcells (q.drop (j + 1)))[m]? = some u → w'.cell? (((⟨b, ys.length, none⟩ : Addr).add (j * 2)).add m) = some u := fun w' m u hb hu => by
      rw [add_mk, add_mk, hb.cell]
      have hm := (List.getElem?_eq_some_iff.1 hu).1
      rw [List.append_assoc, List.getElem?_append_right (by simp only [List.length_append, hil, hJ]; omega)]
      rw [List.getElem?_append_left (by simp only [List.length_append, hil, hJ]; omega)]
      rw [show ys.length + j * 2 + m - (ys ++ qcells ((q.take j).filter fun a => !decide (a.1 = s)) ++ J).length = m by simp only [List.length_append, hil, hJ]; omega]
      exact hu
    refine ⟨_, rfl, ⟨by omega, hlt⟩, _, _, ⟨by rw [e0]; exact cell w9 0 _ b9 rfl, by rw [e0]; exact cell w9 1 _ b9 rfl, trivial⟩, fun k20 => ⟨lock_Table_Release_1.body, fun w21 st21 => ?_⟩⟩
    have n21 := g_new1 st21
    have f21 := f9.trans st21.fr (fun x hx => by cases hx)
    refine (mine_c (cell_fr f21 hf (fun hm => hfb (List.mem_singleton.1 hm))) q[j].1 q[j].2).mono ?_
    rintro e w24 ⟨rfl, f24⟩
    have F24 := f21.trans f24 (fun x hx => by cases hx)
    have b24 := (b9.fr st21.fr (by simp)).fr f24 (by simp)
    have p24 : Plain w24 b := fun cs T lo hi e => p9 cs T lo hi (by
      rw [f24.blk b (by have := b9.lt; have := st21.size; omega) (by simp), st21.fr.blk b b9.lt (by simp)] at e; exact e)
    have hft := filter_take_succ s q hlt'
    refine ⟨_, rfl, g_keep f24 (fun x hx => by simp at hx; subst hx; exact ⟨n21.2, by simp⟩), bc (fun hne => ?_) fun heq => ?_⟩
    · have hne : ¬ q[j].1 = s := by simpa using hne
      rw [if_neg hne] at hft
      have hJ2 : ∃ x y J', J = x :: y :: J' := by
        match J, hJ with
        | [], h => simp at h; omega
        | [_], h => simp at h; omega
        | x :: y :: J', _ => exact ⟨x, y, J', rfl⟩
      obtain ⟨x, y, J', rfl⟩ := hJ2
      have hshape : ys ++ qcells ((q.take j).filter fun a => !decide (a.1 = s)) ++ (x :: y :: J') ++ (I64 q[j].1 :: .bool q[j].2 :: qcells (q.drop (j + 1))) ++ zs = (ys ++ qcells ((q.take j).filter fun a => !decide (a.1 = s))) ++ [x, y] ++ (J' ++ [I64 q[j].1, .bool q[j].2] ++ qcells (q.drop (j + 1)) ++ zs) := by simp [List.append_assoc]
      rw [hshape] at b24
      refine ⟨_, rfl, ⟨by omega, by omega⟩, _, by rw [add_mk]; exact b24, by rw [add_mk], by rw [add_mk, ei]; show ys.length + i * 2 + 2 ≤ _; simp only [List.length_append, hil, List.length_cons]; omega, by rw [add_mk]; simp; have := b9.lt; omega, fun w28 u28 => ?_⟩
      rw [add_mk, ei] at u28
      have hs : sets ((ys ++ qcells ((q.take j).filter fun a => !decide (a.1 = s))) ++ [x, y] ++ (J' ++ [I64 q[j].1, .bool q[j].2] ++ qcells (q.drop (j + 1)) ++ zs)) (ys.length + i * 2) [I64 q[j].1, .bool q[j].2] = (ys ++ qcells ((q.take j).filter fun a => !decide (a.1 = s))) ++ [I64 q[j].1, .bool q[j].2] ++ (J' ++ [I64 q[j].1, .bool q[j].2] ++ qcells (q.drop (j + 1)) ++ zs) := by
        rw [← hil, ← List.length_append]
        exact sets_mid _ _ _ _ rfl
      have u28 : Upd w24 w28 b (sets ((ys ++ qcells ((q.take j).filter fun a => !decide (a.1 = s))) ++ [x, y] ++ (J' ++ [I64 q[j].1, .bool q[j].2] ++ qcells (q.drop (j + 1)) ++ zs)) (ys.length + i * 2) [I64 q[j].1, .bool q[j].2]) := u28
      rw [hs] at u28
      refine hy11 _ _ ⟨q.length - (j + 1), by omega, i + 1, j + 1, J' ++ [I64 q[j].1, .bool q[j].2], by rw [wrapi (by omega) (by omega)]; simp, by rw [wrapi (by omega) (by omega)]; simp, rfl, by omega, by omega, by rw [hft]; simp [hi], by simp at hJ ⊢; omega, F24.trans' u28.fr, ?_, u28.pl p24⟩
      rw [hft, qcells_app]
      have := u28.blk
      simpa [List.append_assoc, qcells] using this
    · have heq : q[j].1 = s := by simpa using heq
      rw [if_pos heq, List.append_nil] at hft
      refine hy11 _ _ ⟨q.length - (j + 1), by omega, i, j + 1, J ++ [I64 q[j].1, .bool q[j].2], rfl, by rw [wrapi (by omega) (by omega)]; simp, rfl, by omega, by omega, by rw [hft]; exact hi, by simp [hJ]; omega, F24, ?_, p24⟩
      rw [hft]
      simpa [List.append_assoc] using b24
  · have hge : ¬ (j : Int) < (q.length : Int) := of_decide_eq_false hge
    obtain rfl : j = q.length := by omega
    rw [List.drop_length, List.take_length] at b9
    rw [List.take_length] at hi hil
    have ei : (i : Int).toNat = i := by omega
    have eq0 : (q.length : Int).toNat = q.length := by omega
    have hci : ¬ c = i := by omega
    refine ⟨⟨by omega, by omega, by omega⟩, .inr ⟨⟨b, ys.length + i * 2, none⟩, _, by rw [ei]; simp [subA, hci, add_mk], rfl, b9, ?_, by simp, fun w32 u32 => ⟨⟨by omega, by omega, by omega⟩, ?_⟩⟩⟩
    · rw [ei, eq0]; simp only [List.length_append, hil, hJ]; omega
    · rw [ei, eq0] at u32
      have hs : sets (ys ++ qcells (q.filter fun a => !decide (a.1 = s)) ++ J ++ qcells [] ++ zs) (ys.length + i * 2) (reps [I64 0, .bool false] (q.length - i)) = ys ++ qcells (q.filter fun a => !decide (a.1 = s)) ++ reps [I64 0, .bool false] (q.length - i) ++ zs := by
        rw [← hil, ← List.length_append]
        have : qcells [] = [] := rfl
        rw [this, List.append_nil]
        exact sets_mid _ _ _ _ (by rw [hJ, reps_length]; rfl)
      have u32 : Upd w9 w32 b (sets (ys ++ qcells (q.filter fun a => !decide (a.1 = s)) ++ J ++ qcells [] ++ zs) (ys.length + i * 2) (reps [I64 0, .bool false] (q.length - i))) := u32
      rw [hs] at u32
      have hc0 : ¬ c = 0 := by omega
      refine ⟨some ⟨b, ys.length, none⟩, c, by rw [ei, ← hi]; simp [subA, hc0, add_mk], f9.trans' u32.fr, rfl, ?_, by rw [← hi]; omega, qcells_one _, .inr ⟨b, ys, _, rfl, by have := u32.blk; rw [List.append_assoc] at this; exact this, u32.pl p9, ?_⟩⟩
      · rw [qcells_len]
      · simp only [List.length_append, hil, reps_length, List.length_cons, List.length_nil]; omega
end Go.Proofs.Ytnimejocaaekaaa.Lock
