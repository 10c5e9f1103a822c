/- Records read: the plain law. -/
import Derived.Test.YtalegpdnhkopmaaDoorEL
import Derived.Test.YtalegpdnhkopmaaDoorEP
namespace Go.Proofs.YtalegpdnhkopmaaDoor.Rc
open Go Go.V Go.RowKit
open Go.Proofs.YtalegpdnhkopmaaDoor.VC Go.Proofs.YtalegpdnhkopmaaDoor.By Go.Proofs.YtalegpdnhkopmaaDoor.Tree Go.Proofs.YtalegpdnhkopmaaDoor.Ky Go.Proofs.YtalegpdnhkopmaaDoor.Vl
open Go.Proofs.Tryd (prog)
set_option linter.unusedVariables false
set_option linter.unusedSimpArgs false
set_option maxRecDepth 20000

def fillF (c : CH) (p : Pt) : CH := if p.t = true then ⟨c.k, c.n, c.f, c.l, c.t, p.s, c.v⟩ else ⟨c.k, p.n, c.f, c.l, c.t, c.key, c.v⟩
def c0 (k : Int) : CH := ⟨k, 0, 0, ByteArray.empty, 0, ByteArray.empty, v0⟩
/-- A change of its parts, and of what is behind them. -/
def rdP (ps : List Pt) (rest : Bs) : Option (CH × Bs) := match ps with
  | [] => none
  | p :: qs => if p.t = true then none else if p.n = 3 ∨ p.n = 4 then (match qs with | [x, y, z] => some (⟨p.n, 0, x.n, y.s, z.n, ByteArray.empty, v0⟩, rest) | _ => none) else if p.n = 5 then (match vdec rest with | none => none | some (v, n) => some (⟨(qs.foldl fillF (c0 p.n)).k, (qs.foldl fillF (c0 p.n)).n, (qs.foldl fillF (c0 p.n)).f, (qs.foldl fillF (c0 p.n)).l, (qs.foldl fillF (c0 p.n)).t, (qs.foldl fillF (c0 p.n)).key, v⟩, rest.drop n)) else some (qs.foldl fillF (c0 p.n), rest)
/-- A change that bytes begin with, and what is behind it. -/
def rd (l : Bs) : Option (CH × Bs) := match l with
  | [] => none
  | b :: t => if t.length < b.toNat then none else rdP (decRes (t.take b.toNat)).1 (t.drop b.toNat)
/-- What a change's bytes keep of it. -/
def normC (c : CH) : CH := if c.k = 1 ∨ c.k = 2 then ⟨c.k, c.n, 0, ByteArray.empty, 0, ByteArray.empty, v0⟩ else if c.k = 3 ∨ c.k = 4 then ⟨c.k, 0, c.f, c.l, c.t, ByteArray.empty, v0⟩ else if c.k = 5 then ⟨c.k, c.n, 0, ByteArray.empty, 0, c.key, plainV c.v⟩ else ⟨c.k, c.n, 0, ByteArray.empty, 0, c.key, v0⟩
theorem parts_int {c : CH} (hI : InC c) : ∀ p ∈ chParts c, IsI p.n := by
  obtain ⟨i1, i2, i3, i4, _, _⟩ := hI
  have i0 : IsI 0 := by unfold IsI; omega
  intro p hp
  unfold chParts at hp
  split at hp
  · simp at hp; rcases hp with rfl | rfl
    · exact i1
    · exact i2
  · split at hp
    · simp at hp; rcases hp with rfl | rfl | rfl | rfl
      · exact i1
      · exact i3
      · exact i0
      · exact i4
    · simp at hp; rcases hp with rfl | rfl | rfl
      · exact i1
      · exact i2
      · exact i0
theorem parts_norm (c : CH) : (chParts c).map norm = chParts c := by
  unfold chParts
  split
  · rfl
  · split <;> rfl
theorem parts_len (c : CH) : (chParts c).length ≤ 4 := by
  unfold chParts
  split
  · simp
  · split <;> simp
theorem flat_kb_len : ∀ l : List Pt, l.length ≤ (l.flatMap kb).length
  | [] => by simp
  | p :: l => by
    have h1 := kb_ne p
    have h2 := flat_kb_len l
    rw [List.flatMap_cons, List.length_append, List.length_cons]; omega
theorem decRes_ch {c : CH} (hf : formB c = true) (hI : InC c) : decRes (keyB c) = (chParts c, 0) := by
  have h1 := keyB_len hf
  have h2 := decB_enc (chParts c) (keyB c).length (flat_kb_len _) (parts_int hI)
  rw [parts_norm] at h2
  unfold decRes
  rw [if_neg (by omega)]
  have : decB (keyB c).length (keyB c) = some (chParts c) := h2
  rw [this]
theorem form_kind {c : CH} (hf : formB c = true) : c.k = 1 ∨ c.k = 2 ∨ c.k = 3 ∨ c.k = 4 ∨ c.k = 5 ∨ c.k = 6 := by
  unfold formB at hf
  by_cases h1 : c.k = 1 ∨ c.k = 2
  · omega
  · rw [if_neg h1] at hf
    by_cases h2 : c.k = 3 ∨ c.k = 4
    · omega
    · rw [if_neg h2] at hf
      by_cases h3 : c.k = 5
      · omega
      · rw [if_neg h3] at hf
        by_cases h4 : c.k = 6
        · omega
        · rw [if_neg h4] at hf; cases hf
theorem rd_chB {c : CH} (hf : formB c = true) (hI : InC c) (r : Bs) : rd (chB c ++ r) = some (normC c, r) := by
  have hl := keyB_len hf
  have hb : (UInt8.ofNat (keyB c).length).toNat = (keyB c).length := by simp; omega
  have e : chB c ++ r = UInt8.ofNat (keyB c).length :: (keyB c ++ ((if c.k = 5 then vb c.v else []) ++ r)) := by unfold chB; simp
  rw [e]
  unfold rd
  simp only
  rw [hb, if_neg (by rw [List.length_append]; omega), List.take_append_of_le_length (Nat.le_refl _), List.take_length, List.drop_append_of_le_length (Nat.le_refl _), List.drop_length, List.nil_append, decRes_ch hf hI]
  simp only
  have hk := form_kind hf
  unfold chParts normC
  by_cases h1 : c.k = 1 ∨ c.k = 2
  · rw [if_pos h1, if_pos h1]
    unfold rdP
    simp only
    rw [if_neg (by show ¬ (false = true); decide), if_neg (by show ¬ (c.k = 3 ∨ c.k = 4); omega), if_neg (by show ¬ c.k = 5; omega), if_neg (by omega)]
    rfl
  · rw [if_neg h1, if_neg h1]
    by_cases h2 : c.k = 3 ∨ c.k = 4
    · rw [if_pos h2, if_pos h2]
      unfold rdP
      simp only
      rw [if_neg (by show ¬ (false = true); decide), if_pos (show (Num c.k).n = 3 ∨ (Num c.k).n = 4 from h2), if_neg (by omega)]
      rfl
    · rw [if_neg h2, if_neg h2]
      unfold rdP
      simp only
      rw [if_neg (by show ¬ (false = true); decide), if_neg (by show ¬ (c.k = 3 ∨ c.k = 4); omega)]
      by_cases h5 : c.k = 5
      · have hc : chk c.v = 0 := by
          unfold formB at hf
          rw [if_neg h1, if_neg h2, if_pos h5] at hf
          simp only [Bool.and_eq_true, decide_eq_true_eq] at hf
          exact hf.2.2
        rw [if_pos (show (Num c.k).n = 5 from h5), if_pos h5, if_pos h5, vdec_vb hc hI.2.2.2.2.2]
        simp only
        rw [List.drop_append_of_le_length (Nat.le_refl _), List.drop_length, List.nil_append]
        rfl
      · rw [if_neg (show ¬ (Num c.k).n = 5 from h5), if_neg h5, if_neg h5]
        rfl
theorem plain_vb (v : VL) : vb (plainV v) = vb v := by
  unfold vb
  rw [plain_chk]
  split
  · unfold plainV
    by_cases h2 : v.k = 2
    · rw [if_pos h2]; unfold vbytes; simp [h2]
    · rw [if_neg h2]; unfold vbytes; simp [h2]
  · rfl
theorem norm_parts {c : CH} : chParts (normC c) = chParts c := by
  unfold normC
  split
  · rename_i h; unfold chParts; simp [h]
  · rename_i h1
    split
    · rename_i h; unfold chParts; simp only; rw [if_neg h1, if_pos h, if_neg h1, if_pos h]
    · rename_i h2
      split
      · unfold chParts; simp only; rw [if_neg h1, if_neg h2, if_neg h1, if_neg h2]
      · unfold chParts; simp only; rw [if_neg h1, if_neg h2, if_neg h1, if_neg h2]
theorem norm_k (c : CH) : (normC c).k = c.k := by
  unfold normC
  split
  · rfl
  · split
    · rfl
    · split <;> rfl
theorem norm_chB (c : CH) : chB (normC c) = chB c := by
  unfold chB keyB
  rw [norm_parts, norm_k]
  by_cases h5 : c.k = 5
  · rw [if_pos h5, if_pos h5]
    have : (normC c).v = plainV c.v := by unfold normC; rw [if_neg (by omega), if_neg (by omega), if_pos h5]
    rw [this, plain_vb]
  · rw [if_neg h5, if_neg h5]
theorem norm_form (c : CH) : formB (normC c) = formB c := by
  by_cases h1 : c.k = 1 ∨ c.k = 2
  · have : normC c = ⟨c.k, c.n, 0, ByteArray.empty, 0, ByteArray.empty, v0⟩ := by unfold normC; rw [if_pos h1]
    rw [this]; unfold formB; simp only; rw [if_pos h1, if_pos h1]
  · by_cases h2 : c.k = 3 ∨ c.k = 4
    · have : normC c = ⟨c.k, 0, c.f, c.l, c.t, ByteArray.empty, v0⟩ := by unfold normC; rw [if_neg h1, if_pos h2]
      rw [this]; unfold formB; simp only; rw [if_neg h1, if_neg h1, if_pos h2, if_pos h2]
    · by_cases h5 : c.k = 5
      · have : normC c = ⟨c.k, c.n, 0, ByteArray.empty, 0, c.key, plainV c.v⟩ := by unfold normC; rw [if_neg h1, if_neg h2, if_pos h5]
        rw [this]; unfold formB; simp only; rw [if_neg h1, if_neg h1, if_neg h2, if_neg h2, if_pos h5, if_pos h5, plain_chk]
      · have : normC c = ⟨c.k, c.n, 0, ByteArray.empty, 0, c.key, v0⟩ := by unfold normC; rw [if_neg h1, if_neg h2, if_neg h5]
        rw [this]; unfold formB; simp only; rw [if_neg h1, if_neg h1, if_neg h2, if_neg h2, if_neg h5, if_neg h5]
theorem flat_norm : ∀ L : List CH, (L.map normC).flatMap chB = L.flatMap chB
  | [] => rfl
  | c :: L => by rw [List.map_cons, List.flatMap_cons, List.flatMap_cons, norm_chB, flat_norm L]
theorem recB1_norm (L : List CH) : recB1 (L.map normC) = recB1 L := by
  have e : rec1 (L.map normC) = rec1 L := by unfold rec1; rw [List.length_map, flat_norm]
  have hq : (60 < (L.map normC).length ∨ ∃ c ∈ L.map normC, formB c = false) ↔ (60 < L.length ∨ ∃ c ∈ L, formB c = false) := by
    rw [List.length_map]
    constructor
    · rintro (h | ⟨c, hc, hx⟩)
      · exact .inl h
      · obtain ⟨d, hd, rfl⟩ := List.mem_map.1 hc
        exact .inr ⟨d, hd, by rw [← norm_form]; exact hx⟩
    · rintro (h | ⟨c, hc, hx⟩)
      · exact .inl h
      · exact .inr ⟨_, List.mem_map.2 ⟨c, hc, rfl⟩, by rw [norm_form]; exact hx⟩
  unfold recB1
  rw [e]
  by_cases h : 60 < L.length ∨ ∃ c ∈ L, formB c = false
  · rw [if_pos h, if_pos (hq.2 h)]
  · rw [if_neg h, if_neg (fun z => h (hq.1 z))]
/-- A record of changes is one. -/
theorem rec_ok {L : List CH} {l : Bs} (h : recB1 L = (l, 0)) : L.length ≤ 60 ∧ (∀ c ∈ L, formB c = true) ∧ l = rec1 L ∧ l.length ≤ 4000 := by
  unfold recB1 at h
  split at h
  · injection h with _ h; cases h
  · rename_i h1
    split at h
    · injection h with _ h; cases h
    · rename_i h2
      injection h with h _
      refine ⟨by omega, fun c hc => ?_, h.symm, by rw [← h]; omega⟩
      cases hx : formB c with
      | true => rfl
      | false => exact absurd (.inr ⟨c, hc, hx⟩) h1
theorem flat_pre : ∀ (L L' : List CH) (X Y : Bs), L.length = L'.length → (∀ c ∈ L, formB c = true ∧ InC c) → (∀ c ∈ L', formB c = true ∧ InC c) → L.flatMap chB ++ X = L'.flatMap chB ++ Y → X = Y
  | [], [], X, Y, _, _, _, h => h
  | c :: L, d :: L', X, Y, hl, h1, h2, h => by
    rw [List.flatMap_cons, List.flatMap_cons, List.append_assoc, List.append_assoc] at h
    have r1 := rd_chB (h1 c List.mem_cons_self).1 (h1 c List.mem_cons_self).2 (L.flatMap chB ++ X)
    have r2 := rd_chB (h2 d List.mem_cons_self).1 (h2 d List.mem_cons_self).2 (L'.flatMap chB ++ Y)
    rw [h, r2] at r1
    injection r1 with r1; injection r1 with _ r1
    exact flat_pre L L' X Y (by simpa using hl) (fun x hx => h1 x (List.mem_cons_of_mem _ hx)) (fun x hx => h2 x (List.mem_cons_of_mem _ hx)) r1.symm
/-- No record begins with another one. -/
theorem rec_pre {L L' : List CH} {l l' X : Bs} (h : recB1 L = (l, 0)) (hI : ∀ c ∈ L, InC c) (h' : recB1 L' = (l', 0)) (hI' : ∀ c ∈ L', InC c) (e : l = l' ++ X) : X = [] := by
  obtain ⟨a1, a2, rfl, _⟩ := rec_ok h
  obtain ⟨b1, b2, rfl, _⟩ := rec_ok h'
  unfold rec1 at e
  rw [List.cons_append, List.cons_append] at e
  injection e with _ e; injection e with e1 e
  have hl : L.length = L'.length := by
    have := congrArg UInt8.toNat e1
    simp at this; omega
  exact (flat_pre L L' [] X hl (fun c hc => ⟨a2 c hc, hI c hc⟩) (fun c hc => ⟨b2 c hc, hI' c hc⟩) (by rw [List.append_nil]; exact e)).symm
/-! ### what is read are numbers -/
theorem take_int {l r : Bs} {p : Pt} (h : takeB l = some (p, r)) : IsI p.n := by
  have i0 : IsI 0 := by unfold IsI; omega
  cases l with
  | nil => cases h
  | cons c t =>
    rw [takeB] at h
    split at h
    · injection h with h; injection h with h _; subst h
      show IsI (unN _)
      unfold unN IsI
      rw [IntKind.wrap_i64]; omega
    · split at h
      · cases hx : untxt t with
        | none => rw [hx] at h; cases h
        | some x =>
          rw [hx] at h
          injection h with h; injection h with h _; subst h
          exact i0
      · cases h
theorem dec_int : ∀ (m : Nat) (l : Bs) (ps : List Pt), decB m l = some ps → ∀ p ∈ ps, IsI p.n
  | 0, [], ps, h => by injection h with h; subst h; simp
  | 0, c :: l, ps, h => by cases h
  | m + 1, [], ps, h => by injection h with h; subst h; simp
  | m + 1, c :: l, ps, h => by
    rw [decB] at h
    · cases hx : takeB (c :: l) with
      | none => rw [hx] at h; cases h
      | some x =>
        rw [hx] at h
        simp only [Option.bind_some] at h
        cases hy : decB m x.2 with
        | none => rw [hy] at h; cases h
        | some q =>
          rw [hy] at h
          injection h with h; subst h
          intro p hp
          rcases List.mem_cons.1 hp with rfl | hp
          · exact take_int (r := x.2) hx
          · exact dec_int m x.2 q hy p hp
    · intro z; cases z
theorem decRes_int (l : Bs) : ∀ p ∈ (decRes l).1, IsI p.n := by
  unfold decRes
  split
  · simp
  · cases h : decB l.length l with
    | none => simp
    | some ps => exact dec_int _ _ _ h
theorem decRes_bad {l : Bs} (h : ¬ (decRes l).2 = 0) : (decRes l).1 = [] := by
  unfold decRes at h ⊢
  split
  · rfl
  · rename_i h1
    rw [if_neg h1] at h
    cases hx : decB l.length l with
    | none => rfl
    | some ps => rw [hx] at h; exact absurd rfl h
theorem numR_lt : ∀ (l : Bs) (i acc N q : Nat), i ≤ 9 → acc < 2 ^ (7 * i) → numR i acc l = some (N, q) → N < 18446744073709551616
  | [], i, acc, N, q, _, _, h => by cases h
  | x :: r, i, acc, N, q, hi, ha, h => by
    rw [numR] at h
    split at h
    · cases h
    · rename_i h1
      have hp : 2 ^ (7 * (i + 1)) = 128 * 2 ^ (7 * i) := by rw [Nat.mul_add, Nat.pow_add]; omega
      have h63 : (2 : Nat) ^ 63 = 9223372036854775808 := by decide
      split at h
      · rename_i h2
        injection h with h; injection h with h _; subst h
        by_cases h9 : i = 9
        · subst h9
          have hx : x.toNat ≤ 1 := by omega
          have : x.toNat * 2 ^ 63 ≤ 1 * 2 ^ 63 := Nat.mul_le_mul_right _ hx
          show acc + x.toNat * 2 ^ 63 < _
          have ha : acc < 2 ^ 63 := ha
          omega
        · have hx : x.toNat * 2 ^ (7 * i) ≤ 127 * 2 ^ (7 * i) := Nat.mul_le_mul_right _ (by omega)
          have : 2 ^ (7 * (i + 1)) ≤ 2 ^ 63 := Nat.pow_le_pow_right (by decide) (by omega)
          omega
      · rename_i h2
        have h9 : i ≠ 9 := by
          intro e
          exact h1 (.inl ⟨e, by omega⟩)
        have hx : x.toNat % 128 * 2 ^ (7 * i) ≤ 127 * 2 ^ (7 * i) := Nat.mul_le_mul_right _ (by omega)
        exact numR_lt r (i + 1) _ N q (by omega) (by omega) h
theorem vdec_int {l : Bs} {v : VL} {n : Nat} (h : vdec l = some (v, n)) : IsI v.k ∧ IsI v.n ∧ n ≤ l.length := by
  refine and_assoc.1 ⟨?_, vdec_le h fun N q hq => by have := numR_le _ _ _ _ _ hq; rw [List.length_drop] at this; omega⟩
  unfold vdec at h
  split at h
  · cases h
  · rename_i v' n' h0
    split at h
    · injection h with h; injection h with h1 h2
      subst h1; subst h2
      unfold vdec0 at h0
      split at h0
      · rename_i a b r
        have ha := a.toNat_lt
        have hb := b.toNat_lt
        split at h0
        · injection h0 with h0; injection h0 with h0 _; subst h0
          unfold IsI; simp only; omega
        · split at h0
          · split at h0
            · cases h0
            · injection h0 with h0; injection h0 with h0 _; subst h0; unfold IsI; simp only; omega
          · split at h0
            · cases h0
            · rename_i N q hn
              have := numR_lt _ _ _ _ _ (by decide) (by decide) hn
              injection h0 with h0; injection h0 with h0 _; subst h0
              unfold IsI unzig; simp only
              refine ⟨by omega, ?_⟩
              split <;> omega
      · cases h0
    · cases h
theorem fill_int : ∀ (qs : List Pt) (c : CH), (∀ p ∈ qs, IsI p.n) → InC c → InC (qs.foldl fillF c)
  | [], c, _, h => h
  | p :: qs, c, hq, h => by
    rw [List.foldl_cons]
    refine fill_int qs _ (fun x hx => hq x (List.mem_cons_of_mem _ hx)) ?_
    obtain ⟨h1, h2, h3, h4, h5, h6⟩ := h
    unfold fillF
    split
    · exact ⟨h1, h2, h3, h4, h5, h6⟩
    · exact ⟨h1, hq p List.mem_cons_self, h3, h4, h5, h6⟩
theorem rd_int {l r : Bs} {c : CH} (h : rd l = some (c, r)) : InC c ∧ r.length < l.length := by
  have i0 : IsI 0 := by unfold IsI; omega
  cases l with
  | nil => cases h
  | cons b t =>
    unfold rd at h
    simp only at h
    split at h
    · cases h
    · have hp := decRes_int (t.take b.toNat)
      generalize (decRes (t.take b.toNat)).1 = ps at h hp
      have hd : (t.drop b.toNat).length < (b :: t).length := by rw [List.length_drop, List.length_cons]; omega
      cases ps with
      | nil => cases h
      | cons p qs =>
        have hp0 := hp p List.mem_cons_self
        have hq : ∀ x ∈ qs, IsI x.n := fun x hx => hp x (List.mem_cons_of_mem _ hx)
        have hf := fill_int qs (c0 p.n) hq ⟨hp0, i0, i0, i0, i0, i0⟩
        unfold rdP at h
        simp only at h
        split at h
        · cases h
        · split at h
          · split at h
            · rename_i x y z
              injection h with h; injection h with h1 h2; subst h1; subst h2
              exact ⟨⟨hp0, i0, hq x (by simp), hq z (by simp), i0, i0⟩, hd⟩
            · cases h
          · split at h
            · split at h
              · cases h
              · rename_i v n hv
                injection h with h; injection h with h1 h2; subst h1; subst h2
                have := vdec_int hv
                obtain ⟨f1, f2, f3, f4, _, _⟩ := hf
                exact ⟨⟨f1, f2, f3, f4, this.1, this.2.1⟩, by rw [List.length_drop]; omega⟩
            · injection h with h; injection h with h1 h2; subst h1; subst h2
              exact ⟨hf, hd⟩
end Go.Proofs.YtalegpdnhkopmaaDoor.Rc
