/- Texts of this session's repo, laid together: T7 T8 T9 TA TB TC. -/
import Derived.Test.YtnplopiconabiaaXT
import Derived.Test.YtnplopiconabiaaE3
import Derived.Test.YtnplopiconabiaaE2
import Derived.Test.YtnplopiconabiaaE4
import Derived.Test.YtnplopiconabiaaE6
import Derived.Test.YtnplopiconabiaaE5
section
/- Dred: edges go. -/
namespace Go.Proofs.Ytnplopiconabiaa.Dred
open Go Go.V
open Go.Proofs.Ytnplopiconabiaa.VC
open Go.Proofs.Ytnplopiconabiaa.Span
open Go.Proofs.Try (prog)
set_option linter.unusedVariables false
set_option linter.unusedSimpArgs false
set_option maxRecDepth 20000

/-- A row without the first i pairs of another one. -/
def era (S L : List PI) : Nat → List PI
  | 0 => S
  | i + 1 => match L[i]? with
    | some x => (era S L i).erase x
    | none => era S L i
theorem era_succ {S L : List PI} {i : Nat} (hi : i < L.length) : era S L (i + 1) = (era S L i).erase L[i] := by
  show (match L[i]? with
    | some x => (era S L i).erase x
    | none => era S L i) = _
  rw [List.getElem?_eq_getElem hi]
theorem nodup_era {S L : List PI} (h : S.Nodup) : ∀ {i : Nat}, i ≤ L.length → (era S L i).Nodup
  | 0, _ => h
  | i + 1, hi => by rw [era_succ (by omega)]; exact (nodup_era h (by omega)).erase _
theorem mem_era {S L : List PI} (h : S.Nodup) : ∀ {i : Nat}, i ≤ L.length → ∀ x, x ∈ era S L i ↔ x ∈ S ∧ x ∉ L.take i
  | 0, _, x => by simp [era]
  | i + 1, hi, x => by
    rw [era_succ (by omega), (nodup_era h (by omega)).mem_erase_iff, mem_era h (by omega), take_snoc (by omega), List.mem_append, List.mem_singleton, not_or]
    exact ⟨fun h => ⟨h.2.1, h.2.2, h.1⟩, fun h => ⟨h.2.2, h.1, h.2.1⟩⟩
theorem len_era {S L : List PI} : ∀ i, (era S L i).length ≤ S.length
  | 0 => Nat.le_refl _
  | i + 1 => by
    have := len_era (S := S) (L := L) i
    show (match L[i]? with
      | some x => (era S L i).erase x
      | none => era S L i).length ≤ _
    cases L[i]? with
    | none => exact this
    | some x => exact Nat.le_trans (List.length_erase_le) this
def bR (S L : List PI) (i : Nat) : Bool := match L[i]? with
  | some x => !decide (x ∈ era S L i)
  | none => false
theorem bR_at {S L : List PI} {i : Nat} (hi : i < L.length) : bR S L i = !decide (L[i] ∈ era S L i) := by unfold bR; rw [List.getElem?_eq_getElem hi]
theorem mem_keptR {S L : List PI} (h : S.Nodup) : ∀ {i : Nat}, i ≤ L.length → (∀ x, x ∈ kept L (bR S L) i ↔ x ∈ S ∧ x ∈ L.take i) ∧ (kept L (bR S L) i).Nodup
  | 0, _ => by simp [kept]
  | i + 1, hi => by
    have hi' : i < L.length := by omega
    obtain ⟨h1, h2⟩ := mem_keptR h (L := L) (i := i) (by omega)
    rw [kept_succ hi', bR_at hi']
    have hm := mem_era h (L := L) (i := i) (by omega) L[i]
    by_cases hin : L[i] ∈ era S L i
    · rw [if_neg (by simpa using hin)]
      have h3 := hm.1 hin
      refine ⟨fun x => ?_, ?_⟩
      · rw [List.mem_append, h1, List.mem_singleton, take_snoc hi', List.mem_append, List.mem_singleton]
        constructor
        · rintro (⟨h4, h5⟩ | rfl)
          · exact ⟨h4, .inl h5⟩
          · exact ⟨h3.1, .inr rfl⟩
        · rintro ⟨h4, h5 | h5⟩
          · exact .inl ⟨h4, h5⟩
          · exact .inr h5
      · rw [List.nodup_append]
        refine ⟨h2, by simp, fun x hx y hy e => h3.2 ?_⟩
        rw [List.mem_singleton.1 hy] at e
        rw [← e]; exact ((h1 x).1 hx).2
    · rw [if_pos (by simpa using hin), List.append_nil]
      refine ⟨fun x => ?_, h2⟩
      rw [h1, take_snoc hi', List.mem_append, List.mem_singleton]
      constructor
      · rintro ⟨h4, h5⟩; exact ⟨h4, .inl h5⟩
      · rintro ⟨h4, h5 | h5⟩
        · exact ⟨h4, h5⟩
        · refine ⟨h4, ?_⟩
          apply Classical.byContradiction
          intro hn
          rw [h5] at h4 hn
          exact hin (hm.2 ⟨h4, hn⟩)
theorem perm_erase {G : List PI} {i : Nat} (h : i < G.length) : (G[i] :: G.eraseIdx i).Perm G := by
  have e : G.eraseIdx i = G.take i ++ G.drop (i + 1) := List.eraseIdx_eq_take_drop_succ ..
  rw [e]
  have e2 : G = G.take i ++ G[i] :: G.drop (i + 1) := by rw [← List.drop_eq_getElem_cons h, List.take_append_drop]
  conv => rhs; rw [e2]
  exact List.perm_middle.symm
section
variable {v w : World} {d e s : Nat} {lab : ByteArray} {be bs : List Nat} {E S : List PI}

set_option maxHeartbeats 2000000 in
theorem remove_c (h : DAt w d lab e s be bs E S) (ht : IsTC E S) {lA : Option Addr} {lC : Nat} {l : List PI} (hr : Row w lA (pcs l)) (hla : ∀ ad, lA = some ad → ad.block ∉ be) (hll : l.length ≤ 60) (hl : S.length ≤ 4000) (hE : E.length ≤ 1000000) :
    Calls prog 58 #[ptr d, .slice lA l.length lC] w fun e' w' => Fr (d :: be ++ bs) w w' ∧ ∃ (p' : Option Addr) (c' : Nat) (G : List PI) (bs' : List Nat) (E' S' : List PI), e' = .returned (.slice p' G.length c') ∧ OwnZ w' w.heap.size 2 p' G.length c' (pcs G) ∧ G.Nodup ∧ (∀ q, q ∈ E' ↔ q ∈ E ∧ q ∉ l) ∧ IsTC E' S' ∧ (∀ q, q ∈ G ↔ q ∈ S ∧ q ∉ S') ∧ (∀ q ∈ S', q ∈ S) ∧
      DAt w' d lab e s be bs' E' S' ∧ Grow w bs bs' ∧ ∀ ad, p' = some ad → ad.block ≠ d ∧ ad.block ∉ be ∧ ad.block ∉ bs' := by
  have hrS := h.sr.rng
  have hnS := h.sr.nodup
  refine dred_Dred_remove.link fun k1 => ⟨fun m pp k c n w' => ∃ (i : Nat) (X : List PI), n = i ∧ i ≤ l.length ∧ m = l.length - i ∧ k = X.length ∧ X.length ≤ i * 16008001 ∧ (∀ q : PI, q ∈ X ↔ ∃ p ∈ l.take i, Thru S p q) ∧ OwnZ w' (k1 + 1) 2 pp X.length c (pcs X) ∧ Fr [] w w' ∧ w.heap.size ≤ k1 ∧ k1 < w'.heap.size, l.length, fun w4 s4 => ⟨0, [], rfl, by omega, rfl, rfl, Nat.zero_le _, by simp, OwnZ.nil _ _ _, s4.fr, (g_new1 s4).1, (g_new1 s4).2⟩, ?_⟩
  rintro m6 p7 k8 c9 n10 w11 ⟨i, X, rfl, hi, rfl, rfl, hXl, hX, oX, F11, hk1, hk1'⟩
  have z11 := F11.size
  refine bc (fun hlt => ?_) fun hge => ?_
  · have hlt : (i : Int) < (l.length : Int) := of_decide_eq_true hlt
    have hlt' : i < l.length := by omega
    obtain ⟨ad, hp, g⟩ := (hr.old F11).atF flatP (by decide) hlt'
    have e0 : (i : Int).toNat * 2 = i * 2 := by omega
    have h11 := h.old F11
    obtain ⟨mf, mt, bf, bt, hb11, hf11, ht11, _⟩ := h11.sr.ex
    refine ⟨ad, hp, ⟨by omega, hlt⟩, _, _, ⟨by rw [e0]; exact g 0 _ rfl, by rw [e0]; exact g 1 _ rfl, trivial⟩, fun k16 => ⟨by decide, ⟨d, 0, none⟩, rfl, some ⟨s, 0, none⟩, h11.c2, ⟨s, 0, none⟩, rfl, some mt, by rw [add_mk, hb11.cell]; rfl, fun w21 s21 => ?_⟩⟩
    have n21 := g_new1 s21
    generalize hpi : l[i] = pi at *
    refine (around_c (ht11.fr s21.fr (by simp) (fun _ _ => by simp)) pi.1 (around_few hnS pi.1).2 (by omega) (fun b hb => (hrS _ hb).1)).mono ?_
    rintro e23 w24 ⟨f24, p25, c27, A, rfl, oA, hA, hAl⟩
    have f1124 := s21.fr.trans' f24
    have F24 := F11.trans' f1124
    have z21 := s21.fr.size
    have z24 := f24.size
    have klt : ∀ {v' : World}, w21.heap.size ≤ v'.heap.size → ∀ x ∈ [k1, k16], x < v'.heap.size := fun hz x hx => by
      rcases List.mem_cons.1 hx with rfl | hx
      · omega
      · rw [List.mem_singleton.1 hx]; omega
    refine ⟨p25, _, c27, rfl, keepF f24 (klt (by omega)), ?_⟩
    have hb24 := hb11.fr f1124 (by simp)
    have hf24 := hf11.fr f1124 (by simp) (fun _ _ => by simp)
    refine ⟨fun m pp k c n w' => ∃ (a : Nat) (Y : List PI), n = a ∧ a ≤ A.length ∧ m = A.length - a ∧ k = Y.length ∧ Y.length ≤ i * 16008001 + a * 4001 ∧ (∀ q : PI, q ∈ Y ↔ (∃ p ∈ l.take i, Thru S p q) ∨ (q.1 ∈ A.take a ∧ (q.2 = pi.2 ∨ ((pi.2, q.2) : PI) ∈ S))) ∧ OwnZ w' (k1 + 1) 2 pp Y.length c (pcs Y) ∧ (∀ ad, pp = some ad → p7 = some ad ∨ w24.heap.size ≤ ad.block) ∧ Fr [] w w' ∧ Fr (pb p7) w24 w' ∧ Row w' p25 (A.map I64), A.length, ⟨0, X, rfl, by omega, rfl, rfl, by rw [Nat.zero_mul, Nat.add_zero]; exact hXl, by simpa using hX, oX.fr f1124 (fun _ _ => by simp), fun ad hp => .inl hp, F24, Fr.refl _ _, oA.row⟩, ?_⟩
    rintro m30 p31 k32 c33 n34 w35 ⟨a, Y, rfl, ha, rfl, rfl, hYl, hY, oY, dY, F35, G35, rA⟩
    have bY : ∀ ad, p31 = some ad → ad.block < w11.heap.size ∨ w24.heap.size ≤ ad.block := fun ad hp => (dY ad hp).imp (fun h => (oX.lt h).2) id
    have z35 := F35.size
    have zG35 := G35.size
    have ha4001 : a ≤ 4001 := by omega
    refine bc (fun hlt2 => ?_) fun hge2 => ?_
    · have hlt2 : (a : Int) < (A.length : Int) := of_decide_eq_true hlt2
      have hlt2' : a < A.length := by omega
      have h35 := h.old F35
      obtain ⟨mf2, mt2, bf2, bt2, hb35, hf35, _⟩ := h35.sr.ex
      refine rd I64 rA rfl hlt2' hlt2 ⟨by decide, ⟨d, 0, none⟩, rfl, some ⟨s, 0, none⟩, h35.c2, ⟨s, 0, none⟩, rfl, some mf2, by rw [add_mk, hb35.cell]; rfl, fun w43 s43 => ?_⟩
      refine (around_c (hf35.fr s43.fr (by simp) (fun _ _ => by simp)) pi.2 (around_few hnS pi.2).1 (by omega) (fun b hb => (hrS _ hb).2)).mono ?_
      rintro e45 w46 ⟨f46, p47, c49, B, rfl, oB, hB, hBl⟩
      have f3546 := s43.fr.trans' f46
      have F46 := F35.trans' f3546
      have z43 := s43.fr.size
      have z46 := f46.size
      refine ⟨p47, _, c49, rfl, keepF f46 (klt (by omega)), ?_⟩
      refine ⟨fun m pp k c n w' => ∃ (b : Nat) (V : List PI), n = b ∧ b ≤ B.length ∧ m = B.length - b ∧ k = V.length ∧ V.length ≤ i * 16008001 + a * 4001 + b ∧ (∀ q : PI, q ∈ V ↔ (∃ p ∈ l.take i, Thru S p q) ∨ (q.1 ∈ A.take a ∧ (q.2 = pi.2 ∨ ((pi.2, q.2) : PI) ∈ S)) ∨ (q.1 = A[a] ∧ q.2 ∈ B.take b)) ∧ OwnZ w' (k1 + 1) 2 pp V.length c (pcs V) ∧ (∀ ad, pp = some ad → p31 = some ad ∨ w46.heap.size ≤ ad.block) ∧ Fr [] w w' ∧ Fr (pb p31) w46 w' ∧ Row w' p47 (B.map I64), B.length, ⟨0, Y, rfl, by omega, rfl, rfl, by rw [Nat.add_zero]; exact hYl, by simpa using hY, oY.fr f3546 (fun _ _ => by simp), fun ad hp => .inl hp, F46, Fr.refl _ _, oB.row⟩, ?_⟩
      rintro m52 p53 k54 c55 n56 w57 ⟨b, V, rfl, hb, rfl, rfl, hVl, hV, oV, dV, F57, G57, rB⟩
      have z57 := F57.size
      have zG57 := G57.size
      have hb4001 : b ≤ 4001 := by omega
      have hi60 : i ≤ 60 := by omega
      have hi16 : i * 16008001 ≤ 960480060 := by omega
      have low31 : ∀ ad, p31 = some ad → ad.block < w35.heap.size := fun ad hp => (oY.lt hp).2
      have lowB : ∀ ad, p47 = some ad → w43.heap.size ≤ ad.block ∧ ad.block < w46.heap.size := fun ad hp => oB.lt hp
      have blkV : ∀ ad, p53 = some ad → (ad.block < w11.heap.size ∨ w24.heap.size ≤ ad.block) ∧ (ad.block < w35.heap.size ∨ w46.heap.size ≤ ad.block) := fun ad hp => by
        rcases dV ad hp with h1 | h1
        · exact ⟨bY ad h1, .inl (low31 ad h1)⟩
        · exact ⟨.inr (by omega), .inr h1⟩
      refine bc (fun hlt3 => ?_) fun hge3 => ?_
      · have hlt3 : (b : Int) < (B.length : Int) := of_decide_eq_true hlt3
        have hlt3' : b < B.length := by omega
        refine rd I64 rB rfl hlt3' hlt3 fun k61 => ?_
        refine app1 (f := pcell) flatP (x := (A[a], B[b])) (u := w) (B := k1 + 1) oV F57 rfl (by omega) (by omega) (fun h => by cases h) (by simp) (fun ad hp x hx => ?_) (by omega) (by omega) fun w62 p63 c65 F62 G62 n62 o62 d62 => ?_
        · have h1 := (oV.lt hp).1
          rcases List.mem_cons.1 hx with rfl | hx
          · exact .inr (by omega)
          · rcases List.mem_cons.1 hx with rfl | hx
            · rcases (blkV ad hp).1 with h2 | h2
              · exact .inr (by omega)
              · exact .inr (by omega)
            · exact .inl hx
        · refine ⟨B.length - (b + 1), by omega, b + 1, V ++ [(A[a], B[b])], by rw [wrapi (by omega) (by omega)]; simp, by omega, rfl, rfl, by simp; omega, fun q => ?_, o62, fun ad hp => ?_, F62, ?_, row_fr0 G62 rB (fun ad hp _ hx => ?_)⟩
          · rw [List.mem_append, List.mem_singleton, hV, take_snoc hlt3', List.mem_append, List.mem_singleton]
            constructor
            · rintro ((h1 | h1 | ⟨h1, h2⟩) | rfl)
              · exact .inl h1
              · exact .inr (.inl h1)
              · exact .inr (.inr ⟨h1, .inl h2⟩)
              · exact .inr (.inr ⟨rfl, .inr rfl⟩)
            · rintro (h1 | h1 | ⟨h1, h2 | h2⟩)
              · exact .inl (.inl h1)
              · exact .inl (.inr (.inl h1))
              · exact .inl (.inr (.inr ⟨h1, h2⟩))
              · exact .inr (Prod.ext h1 h2)
          · rcases d62 ad hp with h1 | h1
            · exact dV ad h1
            · exact .inr (by omega)
          · refine G57.trans G62 (fun x hx => ?_)
            rw [List.nil_append] at hx
            obtain ⟨ad, hp, rfl⟩ := (g_mem_pb _ _).1 hx
            rcases dV ad hp with h1 | h1
            · exact .inl ((g_mem_pb _ _).2 ⟨ad, h1, rfl⟩)
            · exact .inr h1
          · rw [List.nil_append] at hx
            obtain ⟨ad', hp', e1⟩ := (g_mem_pb _ _).1 hx
            have h1 := lowB ad hp
            rcases (blkV ad' hp').2 with h2 | h2
            · omega
            · omega
      · have hge3 : ¬ (b : Int) < (B.length : Int) := of_decide_eq_false hge3
        rw [List.take_of_length_le (show B.length ≤ b by omega)] at hV
        refine ⟨A.length - (a + 1), by omega, a + 1, V, by rw [wrapi (by omega) (by omega)]; simp, by omega, rfl, rfl, by rw [show (a + 1) * 4001 = a * 4001 + 4001 from Nat.succ_mul _ _, ← Nat.add_assoc]; exact Nat.le_trans hVl (Nat.add_le_add_left hb4001 _), fun q => ?_, oV, fun ad hp => ?_, F57, ?_, ?_⟩
        · rw [hV, take_snoc hlt2', List.mem_append, List.mem_singleton, hB]
          constructor
          · rintro (h1 | ⟨h1, h2⟩ | ⟨h1, h2⟩)
            · exact .inl h1
            · exact .inr ⟨.inl h1, h2⟩
            · exact .inr ⟨.inr h1, h2⟩
          · rintro (h1 | ⟨h1 | h1, h2⟩)
            · exact .inl h1
            · exact .inr (.inl ⟨h1, h2⟩)
            · exact .inr (.inr ⟨h1, h2⟩)
        · rcases dV ad hp with h1 | h1
          · exact dY ad h1
          · exact .inr (by omega)
        · refine (G35.trans f3546 (fun x hx => by cases hx)).trans G57 (fun x hx => ?_)
          obtain ⟨ad, hp, rfl⟩ := (g_mem_pb _ _).1 hx
          rcases dY ad hp with h1 | h1
          · exact .inl ((g_mem_pb _ _).2 ⟨ad, h1, rfl⟩)
          · exact .inr h1
        · refine row_fr0 G57 (rA.old f3546) (fun ad hp _ hx => ?_)
          obtain ⟨ad', hp', e1⟩ := (g_mem_pb _ _).1 hx
          have h1 := oA.lt hp
          rcases bY ad' hp' with h2 | h2 <;> omega
    · have hge2 : ¬ (a : Int) < (A.length : Int) := of_decide_eq_false hge2
      rw [List.take_of_length_le (show A.length ≤ a by omega)] at hY
      refine ⟨l.length - (i + 1), by omega, i + 1, Y, by rw [wrapi (by omega) (by omega)]; simp, by omega, rfl, rfl, by omega, fun q => ?_, oY, F35, hk1, by omega⟩
      rw [hY, hA]
      rw [take_snoc hlt']
      constructor
      · rintro (⟨p, hp, h1⟩ | h1)
        · exact ⟨p, List.mem_append_left _ hp, h1⟩
        · exact ⟨pi, List.mem_append_right _ (by rw [List.mem_singleton, hpi]), h1⟩
      · rintro ⟨p, hp, h1⟩
        rcases List.mem_append.1 hp with hp | hp
        · exact .inl ⟨p, hp, h1⟩
        · rw [List.mem_singleton, hpi] at hp
          rw [hp] at h1; exact .inr h1
  have hge : ¬ (i : Int) < (l.length : Int) := of_decide_eq_false hge
  rw [List.take_of_length_le (show l.length ≤ i by omega)] at hX
  have hXl2 : X.length ≤ 960480060 := by
    have : i * 16008001 ≤ 60 * 16008001 := Nat.mul_le_mul_right _ (by omega)
    exact Nat.le_trans hXl this
  clear hXl hge hi
  have h11 := h.old F11
  have hr11 := hr.old F11
  have hnE := h.er.nodup
  have hk1n : k1 ≠ d ∧ k1 ∉ be ∧ k1 ∉ bs := h.new hk1
  -- the edges go
  refine ⟨fun m n w' => ∃ i : Nat, n = i ∧ i ≤ l.length ∧ m = l.length - i ∧ DAt w' d lab e s be bs (era E l i) S ∧ Fr be w11 w', l.length, ⟨0, rfl, by omega, rfl, h11, Fr.refl _ _⟩, ?_⟩
  rintro m71 n72 w73 ⟨i, rfl, hi, rfl, h73, F73⟩
  have z73 := F73.size
  have l73 : Row w73 lA (pcs l) := row_fr0 F73 hr11 fun ad hp _ => hla ad hp
  refine bc (fun hlt => ?_) fun hge => ?_
  · have hlt : (i : Int) < (l.length : Int) := of_decide_eq_true hlt
    have hlt' : i < l.length := by omega
    obtain ⟨ad, hp, g⟩ := l73.atF flatP (by decide) hlt'
    have e0 : (i : Int).toNat * 2 = i * 2 := by omega
    refine ⟨ad, hp, ⟨by omega, hlt⟩, _, _, ⟨by rw [e0]; exact g 0 _ rfl, by rw [e0]; exact g 1 _ rfl, trivial⟩, fun k78 => ⟨⟨d, 0, none⟩, rfl, some ⟨e, 0, none⟩, h73.c1, fun w81 s81 => ?_⟩⟩
    have n81 := g_new1 s81
    have z81 := s81.fr.size
    have h81 := h73.old s81.fr
    have hn78 := h73.new n81.1
    refine (reldrop_c h81.er l[i] (by have := len_era (S := E) (L := l) i; omega)).mono ?_
    rintro e83 w84 ⟨rfl, f84, er84⟩
    refine ⟨_, rfl, g_keep f84 (fun x hx => ?_), l.length - (i + 1), by omega, i + 1, by rw [wrapi (by omega) (by omega)]; simp, by omega, rfl, ⟨h81.blk.imp fun _ hb => hb.fr f84 h.de, by rw [era_succ hlt']; exact er84, h81.sr.fr f84 (fun x hx hx2 => h.dj x hx2 hx), h.dj, h.de, h.ds⟩, (F73.trans s81.fr (fun x hx => by cases hx)).trans f84 (fun x hx => .inl hx)⟩
    rcases List.mem_cons.1 hx with rfl | hx
    · exact ⟨by omega, hk1n.2.1⟩
    · rw [List.mem_singleton.1 hx]; exact ⟨n81.2, hn78.2.1⟩
  have hge : ¬ (i : Int) < (l.length : Int) := of_decide_eq_false hge
  have hi' : i = l.length := by omega
  subst hi'
  intro bk1
  have hE' := mem_era hnE (L := l) (Nat.le_refl _)
  rw [List.take_length] at hE'
  generalize era E l l.length = E' at *
  clear hge hi l73
  have oX73 : OwnZ w73 (k1 + 1) 2 p7 X.length c9 (pcs X) := oX.fr F73 (fun ad hp hx => by have := (oX.lt hp).1; have := h.er.lt _ hx; have := F11.size; omega)
  have low7 : ∀ ad, p7 = some ad → k1 + 1 ≤ ad.block ∧ ad.block < w73.heap.size := fun ad hp => oX73.lt hp
  have out7 : ∀ ad, p7 = some ad → ad.block ≠ d ∧ ad.block ∉ be ∧ ad.block ∉ bs ∧ ad.block ≠ k1 := fun ad hp => by
    have h1 := low7 ad hp
    have h2 := h.new (k := ad.block) (by omega)
    exact ⟨h2.1, h2.2.1, h2.2.2, by omega⟩
  -- what may have hung on them goes
  have J0 : DAt w73 d lab e s be bs E' (era S X 0) ∧ Blk w73 k1 [ptr d] ∧ w73.heap.size ≤ w73.heap.size ∧ Fr (bs ++ pb p7) w73 w73 := ⟨h73, bk1, Nat.le_refl _, Fr.refl _ _⟩
  have hJ : ∀ (i : Nat) (w' w'' : World), (DAt w' d lab e s be bs E' (era S X i) ∧ Blk w' k1 [ptr d] ∧ w73.heap.size ≤ w'.heap.size ∧ Fr (bs ++ pb p7) w73 w') → Fr (pb p7) w' w'' → DAt w'' d lab e s be bs E' (era S X i) ∧ Blk w'' k1 [ptr d] ∧ w73.heap.size ≤ w''.heap.size ∧ Fr (bs ++ pb p7) w73 w'' := by
    rintro i w' w'' ⟨hd, hb, hz, hf⟩ f
    have ho : ∀ x ∈ pb p7, x ≠ d ∧ x ∉ be ∧ x ∉ bs ∧ x ≠ k1 := fun x hx => by
      obtain ⟨ad, hp, rfl⟩ := (g_mem_pb _ _).1 hx
      exact out7 ad hp
    exact ⟨hd.fr f (fun hx => (ho _ hx).1 rfl) (fun x hx hx2 => (ho x hx2).2.1 hx) (fun x hx hx2 => (ho x hx2).2.2.1 hx), hb.fr f (fun hx => (ho _ hx).2.2.2 rfl), by have := f.size; omega, hf.trans f (fun x hx => .inl (List.mem_append_right _ hx))⟩
  have steps : StepsF 81 (.pointer (some ⟨k1, 0, none⟩)) X (bR S X) (fun i w' => DAt w' d lab e s be bs E' (era S X i) ∧ Blk w' k1 [ptr d] ∧ w73.heap.size ≤ w'.heap.size ∧ Fr (bs ++ pb p7) w73 w') p7 := by
    rintro i hi w0 w' ⟨hd, hb, hz, hf⟩ f'
    have hd' := hd.old f'
    have hb' := hb.fr f' (by simp)
    refine dred_Dred_remove_1.link fun k1' => ⟨some ⟨d, 0, none⟩, by rw [hb'.cell]; rfl, ⟨d, 0, none⟩, rfl, some ⟨s, 0, none⟩, hd'.c2, fun w5' s5' => ?_⟩
    have n5' := g_new1 s5'
    have hd5 := hd'.old s5'.fr
    refine (reldrop_c hd5.sr X[i] (by have := len_era (S := S) (L := X) i; omega)).mono ?_
    rintro e7' w8' ⟨rfl, f8', sr2⟩
    have z5' := s5'.fr.size
    have z' := f'.size
    have z8' := f8'.size
    have hbslt : ∀ x ∈ bs, x < w0.heap.size := hd.sr.lt
    refine ⟨_, rfl, g_keep f8' (fun x hx => by rw [List.mem_singleton.1 hx]; exact ⟨n5'.2, fun hx2 => by have := hbslt _ hx2; omega⟩), by rw [bR_at hi], ⟨⟨hd5.blk.imp fun _ hb => hb.fr f8' h.ds, hd5.er.fr f8' (fun x hx hx2 => h.dj x hx hx2), by rw [era_succ hi]; exact sr2, h.dj, h.de, h.ds⟩, (hb'.fr s5'.fr (by simp)).fr f8' hk1n.2.2, by omega, ((hf.trans f' (fun x hx => by cases hx)).trans s5'.fr (fun x hx => by cases hx)).trans f8' (fun x hx => .inl (List.mem_append_left _ hx))⟩, bs, (s5'.fr.mono (G := bs) (fun x hx => (by cases hx))).trans' f8', fun x hx => ⟨hbslt x hx, fun ad hp e1 => (out7 ad hp).2.2.1 (by rw [e1]; exact hx)⟩⟩
  refine (deleteF_c oX73 (by omega) dred_Dred_remove_1.body steps J0 hJ).mono ?_
  rintro e88 w89 ⟨c', rfl, o89, ⟨h89, b89, z89, f89⟩, _⟩
  obtain ⟨hG, hGn⟩ := mem_keptR hnS (L := X) (Nat.le_refl _)
  have hS1 := mem_era hnS (L := X) (Nat.le_refl _)
  rw [List.take_length] at hG hS1
  have hGl : (kept X (bR S X) X.length).length ≤ S.length := sub_len hGn fun x hx => ((hG x).1 hx).1
  have hGG : ∀ q, q ∈ kept X (bR S X) X.length ↔ q ∈ S ∧ q ∉ era S X X.length := fun q => by
    rw [hG, hS1]
    constructor
    · exact fun h => ⟨h.1, fun h2 => h2.2 h.2⟩
    · rintro ⟨h1, h2⟩
      refine ⟨h1, ?_⟩
      apply Classical.byContradiction
      exact fun h3 => h2 ⟨h1, h3⟩
  have hsound : ∀ q ∈ era S X X.length, TC E' q.1 q.2 := fun q hq => by
    have h1 := (hS1 q).1 hq
    refine ht.stay hE' h1.1 fun p hp h2 => h1.2 ((hX q).2 ⟨p, hp, h2⟩)
  have hsub : ∀ q ∈ era S X X.length, q ∈ S := fun q hq => ((hS1 q).1 hq).1
  generalize kept X (bR S X) X.length = G0 at *
  generalize era S X X.length = S0 at *
  clear J0 hJ steps hG hS1
  have z89' := f89.size
  refine ⟨p7, _, c', rfl, fun m pp k c w' => ∃ (G S1 : List PI) (bs' : List Nat), m = G.length ∧ k = G.length ∧ G.length ≤ S.length ∧ OwnZ w' (k1 + 1) 2 pp G.length c (pcs G) ∧ pp = p7 ∧ G.Nodup ∧ (∀ q, q ∈ G ↔ q ∈ S ∧ q ∉ S1) ∧ (∀ q ∈ S1, TC E' q.1 q.2) ∧ (∀ q ∈ S1, q ∈ S) ∧ DAt w' d lab e s be bs' E' S1 ∧ Grow w73 bs bs' ∧ Blk w' k1 [ptr d] ∧ Fr (bs ++ pb p7) w73 w', G0.length, ⟨G0, S0, bs, rfl, rfl, hGl, o89, rfl, hGn, hGG, hsound, hsub, h89, Grow.refl _ _, b89, f89⟩, ?_⟩
  clear h89 b89 o89 hGl hGn hGG hsound hsub
  rintro m95 p96 k97 c98 w99 ⟨G, S1, bs', rfl, rfl, hGl, oG, rfl, hGn, hG, hsound, hsub, h99, gr, b99, f99⟩
  have hbk1 : k1 ∉ bs' := fun hx => by
    rcases gr _ hx with h4 | h4
    · exact hk1n.2.2 h4
    · omega
  have hb7 : ∀ ad, p96 = some ad → ad.block ∉ bs' := fun ad hp hx => by
    rcases gr _ hx with h4 | h4
    · exact (out7 ad hp).2.2.1 h4
    · have := (low7 ad hp).2; omega
  refine ⟨fun m pp k c n w' => ∃ i : Nat, n = i ∧ i ≤ G.length ∧ m = G.length - i ∧ k = G.length ∧ pp = p96 ∧ c = c98 ∧ (∀ j (hj : j < G.length), j < i → ¬ Deriv E' S1 G[j]) ∧ Fr [] w99 w', G.length, ⟨0, rfl, by omega, rfl, rfl, rfl, rfl, fun j _ hj => by omega, Fr.refl _ _⟩, ?_⟩
  rintro m103 p104 k105 c106 n107 w108 ⟨i, rfl, hi, rfl, rfl, rfl, rfl, hno, F108⟩
  have h108 := h99.old F108
  have oG108 := oG.fr F108 (fun _ _ => by simp)
  have b108 := b99.fr F108 (by simp)
  refine bc (fun hlt => ?_) fun hge => ?_
  · have hlt : (i : Int) < (G.length : Int) := of_decide_eq_true hlt
    have hlt' : i < G.length := by omega
    obtain ⟨ad, hp, g⟩ := oG108.row.atF flatP (by decide) hlt'
    have e0 : (i : Int).toNat * 2 = i * 2 := by omega
    refine ⟨ad, hp, ⟨by omega, hlt⟩, _, _, ⟨by rw [e0]; exact g 0 _ rfl, by rw [e0]; exact g 1 _ rfl, trivial⟩, fun k113 => ⟨some ⟨d, 0, none⟩, by rw [b108.cell]; rfl, fun w115 s115 => ?_⟩⟩
    have n115 := g_new1 s115
    have h115 := h108.old s115.fr
    refine (derived_c h115 G[i]).mono ?_
    rintro e117 w118 ⟨⟨bb, rfl, hbb⟩, f118⟩
    have f108118 := s115.fr.trans' f118
    have h118 := h115.old f118
    have b118 := b108.fr f108118 (by simp)
    have oG118 := oG108.fr f108118 (fun _ _ => by simp)
    have z118 := f118.size
    refine ⟨bb, rfl, keepF f118 (by simpa using n115.2), bc (fun ht => ?_) fun hf => ⟨G.length - (i + 1), by omega, i + 1, by rw [wrapi (by omega) (by omega)]; simp, by omega, rfl, rfl, rfl, rfl, fun j hj hji => ?_, F108.trans' f108118⟩⟩
    · refine ⟨some ⟨d, 0, none⟩, by rw [b118.cell]; rfl, ⟨d, 0, none⟩, rfl, some ⟨s, 0, none⟩, h118.c2, fun w123 s123 => ?_⟩
      have h123 := h118.old s123.fr
      have hGi := (hG G[i]).1 (List.getElem_mem hlt')
      have hS1l : S1.length ≤ S.length := sub_len h99.sr.nodup hsub
      refine (relput_c h123.sr G[i] (hrS _ hGi.1) (by omega)).mono ?_
      rintro e125 w126 ⟨rfl, f126, bs2, sr2, g2⟩
      rw [if_neg hGi.2] at sr2
      have z123 := s123.fr.size
      have z126 := f126.size
      have zb108 := F108.size
      have zb118 := f108118.size
      have hk113 : k113 ∉ bs' := fun hx => by have := h108.sr.lt _ hx; omega
      refine ⟨_, rfl, g_keep f126 (fun x hx => by rw [List.mem_singleton.1 hx]; exact ⟨by omega, hk113⟩), ?_⟩
      have oG126 := (oG118.fr s123.fr (fun _ _ => by simp)).fr f126 (fun ad hp hx => hb7 ad hp hx)
      have ei : IntKind.wrap .i64 ((i : Int) + 1) = ((i + 1 : Nat) : Int) := by rw [wrapi (by omega) (by omega)]; simp
      rw [ei]
      refine (delete_c oG126 hlt' (by omega)).mono ?_
      rintro e128 w129 ⟨c2, rfl, f129, o129⟩
      have hp96 : ∀ x ∈ pb p104, x ≠ d ∧ x ∉ be ∧ x ≠ k1 ∧ x ∉ bs2 ∧ x ≠ k113 := fun x hx => by
        obtain ⟨ad, hp, rfl⟩ := (g_mem_pb _ _).1 hx
        have h1 := out7 ad hp
        have h2 := low7 ad hp
        have zz := f99.size
        refine ⟨h1.1, h1.2.1, h1.2.2.2, fun h3 => ?_, by omega⟩
        rcases g2 _ h3 with h4 | h4
        · exact hb7 ad hp h4
        · omega
      have hperm : (G[i] :: G.eraseIdx i).Perm G := perm_erase hlt'
      have hnd2 := hperm.nodup_iff.2 hGn
      rw [List.nodup_cons] at hnd2
      have hmemG : ∀ q, q ∈ G ↔ q = G[i] ∨ q ∈ G.eraseIdx i := fun q => by rw [← hperm.mem_iff, List.mem_cons]
      have hel : (G.eraseIdx i).length = G.length - 1 := List.length_eraseIdx_of_lt hlt'
      refine ⟨p104, _, c2, rfl, g_keep f129 (fun x hx => by rw [List.mem_singleton.1 hx]; exact ⟨by omega, fun hx2 => (hp96 _ hx2).2.2.2.2 rfl⟩), (G.eraseIdx i).length, by omega, G.eraseIdx i, S1 ++ [G[i]], bs2, rfl, rfl, by omega, o129, rfl, hnd2.2, fun q => ?_, fun q hq => ?_, fun q hq => ?_, ?_, ?_, ?_, ?_⟩
      · rw [List.mem_append, List.mem_singleton, not_or]
        constructor
        · intro hq
          have h1 := (hG q).1 ((hmemG q).2 (.inr hq))
          exact ⟨h1.1, h1.2, fun e1 => hnd2.1 (by rw [← e1]; exact hq)⟩
        · rintro ⟨h1, h2, h3⟩
          rcases (hmemG q).1 ((hG q).2 ⟨h1, h2⟩) with h4 | h4
          · exact absurd h4 h3
          · exact h4
      · rcases List.mem_append.1 hq with hq | hq
        · exact hsound q hq
        · rw [List.mem_singleton.1 hq]
          exact (hbb.1 ht).sound hsound
      · rcases List.mem_append.1 hq with hq | hq
        · exact hsub q hq
        · rw [List.mem_singleton.1 hq]; exact hGi.1
      · refine DAt.fr (v := w126) ⟨h123.blk.imp fun _ hb => hb.fr f126 h99.ds, h123.er.fr f126 (fun x hx hx2 => h99.dj x hx hx2), sr2, fun x hx hx2 => ?_, h.de, fun hx => ?_⟩ f129 (fun hx => (hp96 _ hx).1 rfl) (fun x hx hx2 => (hp96 x hx2).2.1 hx) (fun x hx hx2 => (hp96 x hx2).2.2.2.1 hx)
        · rcases g2 x hx2 with h1 | h1
          · exact h99.dj x hx h1
          · have := h123.er.lt x hx; omega
        · rcases g2 d hx with h1 | h1
          · exact h99.ds h1
          · have := h123.dlt; omega
      · exact gr.trans (by have := f99.size; omega) (fun x hx => (g2 x hx).imp id fun h => (by omega : w99.heap.size ≤ x))
      · exact ((b118.fr s123.fr (by simp)).fr f126 hbk1).fr f129 (fun hx => (hp96 _ hx).2.2.1 rfl)
      · refine ((((f99.trans F108 (fun x hx => by cases hx)).trans f108118 (fun x hx => by cases hx)).trans s123.fr (fun x hx => by cases hx)).trans f126 (fun x hx => ?_)).trans f129 (fun x hx => .inl (List.mem_append_right _ hx))
        exact (gr x hx).imp (fun h => List.mem_append_left _ h) id
    · by_cases e1 : j = i
      · subst e1
        intro hd
        rw [hbb.2 hd] at hf; cases hf
      · exact hno j hj (by omega)
  · have hge : ¬ (i : Int) < (G.length : Int) := of_decide_eq_false hge
    have hi' : i = G.length := by omega
    subst hi'
    obtain ⟨over, bd⟩ := h108.blk
    refine ⟨some ⟨d, 0, none⟩, by rw [b108.cell]; rfl, ⟨d, 0, none⟩, rfl, _, by rw [add_mk]; exact bd, by rw [add_mk], by rw [add_mk]; show 0 + 3 + 1 ≤ 4; omega, fun w138 u138 => ?_⟩
    rw [add_mk] at u138
    have u138 : Upd w108 w138 d _ := u138
    have hout : ∀ ad, p104 = some ad → ad.block ≠ d ∧ ad.block ∉ be ∧ ad.block ∉ bs' := fun ad hp => ⟨(out7 ad hp).1, (out7 ad hp).2.1, hb7 ad hp⟩
    have oG138 := oG108.fr u138.fr (fun ad hp hx => (hout ad hp).1 (List.mem_singleton.1 hx))
    refine ⟨?_, p104, c106, G, bs', E', S1, rfl, oG138.mono (by omega), hGn, hE', ht.less (fun q hq => ((hE' q).1 hq).1) hsound (fun q hq hn => ?_), hG, hsub, ⟨⟨_, u138.blk⟩, h108.er.fr u138.fr (fun x hx hx2 => h.de (by rw [← List.mem_singleton.1 hx2]; exact hx)), h108.sr.fr u138.fr (fun x hx hx2 => h99.ds (by rw [← List.mem_singleton.1 hx2]; exact hx)), h99.dj, h.de, h99.ds⟩, fun x hx => (gr x hx).imp id fun h => (by omega), hout⟩
    · refine (((((F11.mono (G := d :: be ++ bs) fun x hx => by cases hx).trans F73 (fun x hx => .inl (List.mem_append_left _ (List.mem_cons_of_mem _ hx)))).trans f99 (fun x hx => ?_)).trans F108 (fun x hx => by cases hx)).trans u138.fr (fun x hx => .inl (by rw [List.mem_singleton.1 hx]; exact List.mem_append_left _ List.mem_cons_self)))
      rcases List.mem_append.1 hx with hx | hx
      · exact .inl (List.mem_append_right _ hx)
      · obtain ⟨ad, hp, rfl⟩ := (g_mem_pb _ _).1 hx
        have := (low7 ad hp).1
        exact .inr (by omega)
    · obtain ⟨j, hj, e1⟩ := List.mem_iff_getElem.1 ((hG q).2 ⟨hq, hn⟩)
      rw [← e1]
      exact hno j hj (by omega)
end
end Go.Proofs.Ytnplopiconabiaa.Dred

end
section
/- Dred: sets of pairs that are handed out; Read, Has, New. -/
namespace Go.Proofs.Ytnplopiconabiaa.Dred
open Go Go.V
open Go.Proofs.Ytnplopiconabiaa.VC
open Go.Proofs.Ytnplopiconabiaa.Span
open Go.Proofs.Try (prog)
set_option linter.unusedVariables false
set_option linter.unusedSimpArgs false
set_option maxRecDepth 20000

abbrev ZP := Nat × PI
/-- A set of pairs that lies somewhere: the row, and each pair's own block. -/
structure SetAt (w : World) (p : Option Addr) (Z : List ZP) : Prop where
  row : Row w p (Z.map tz)
  tups : Tups w Z
  sort : (Z.map (·.2)).Pairwise plt
def OutOf (F : List Nat) (p : Option Addr) (Z : List ZP) : Prop := (∀ ad, p = some ad → ad.block ∉ F) ∧ ∀ z ∈ Z, z.1 ∉ F
theorem SetAt.fr {F : List Nat} {v w : World} {p : Option Addr} {Z : List ZP} (h : SetAt v p Z) (f : Fr F v w) (ho : OutOf F p Z) : SetAt w p Z :=
  ⟨row_fr0 f h.row fun ad hp _ => ho.1 ad hp, fun z hz => (h.tups z hz).fr f (ho.2 z hz), h.sort⟩
theorem SetAt.old {v w : World} {p : Option Addr} {Z : List ZP} (h : SetAt v p Z) (f : Fr [] v w) : SetAt w p Z := h.fr f ⟨fun _ _ => by simp, fun _ _ => by simp⟩
/-- All of it lies in [a, b). -/
def Within (a b : Nat) (p : Option Addr) (Z : List ZP) : Prop := (∀ ad, p = some ad → a ≤ ad.block ∧ ad.block < b) ∧ ∀ z ∈ Z, a ≤ z.1 ∧ z.1 < b
theorem Within.out {a b : Nat} {p : Option Addr} {Z : List ZP} (h : Within a b p Z) {F : List Nat} (hF : ∀ x ∈ F, x < a ∨ b ≤ x) : OutOf F p Z :=
  ⟨fun ad hp hx => by have := h.1 ad hp; have := hF _ hx; omega, fun z hz hx => by have := h.2 z hz; have := hF _ hx; omega⟩
theorem SetAt.nil (w : World) : SetAt w none [] := ⟨Row.nil _ _, fun z hz => (by cases hz), .nil⟩
theorem nodup_plt {l : List PI} (h : l.Pairwise plt) : l.Nodup := h.imp fun h e => by rw [e] at h; exact plt_irrefl _ h

theorem tuples_c {w : World} {lA : Option Addr} {lC : Nat} {L : List PI} (hr : Row w lA (pcs L)) (hn : L.Nodup) (hl : L.length ≤ 50000) :
    Calls prog 57 #[.slice lA L.length lC] w fun e w' => Fr [] w w' ∧ ∃ (p : Option Addr) (Z : List ZP), e = .returned (.slice p Z.length Z.length) ∧ SetAt w' p Z ∧ (∀ x, x ∈ Z.map (·.2) ↔ x ∈ L) ∧ Within w.heap.size w'.heap.size p Z := by
  refine dred_tuples.link ⟨fun m p k c n w' => ∃ (i : Nat) (Z : List ZP), n = i ∧ i ≤ L.length ∧ m = L.length - i ∧ k = Z.length ∧ Z.map (·.2) = L.take i ∧ OwnZ w' w.heap.size 1 p Z.length c (Z.map tz) ∧ Tups w' Z ∧ (∀ z ∈ Z, w.heap.size ≤ z.1) ∧ (∀ ad, p = some ad → ∀ z ∈ Z, z.1 ≠ ad.block) ∧ Fr [] w w', L.length, ⟨0, [], rfl, by omega, rfl, rfl, rfl, OwnZ.nil _ _ _, fun z hz => (by cases hz), by simp, by simp, Fr.refl _ _⟩, ?_⟩
  rintro m16 p17 k18 c19 n20 w21 ⟨i, Z, rfl, hi, rfl, rfl, hZ, o, tu, zw, zb, F⟩
  have hZl : Z.length = i := by have := congrArg List.length hZ; rw [List.length_map, List.length_take] at this; omega
  refine bc (fun hlt => ?_) fun hge => ?_
  · have hlt : (i : Int) < (L.length : Int) := of_decide_eq_true hlt
    have hlt' : i < L.length := by omega
    obtain ⟨ad, hp, g⟩ := (hr.old F).atF flatP (by decide) hlt'
    have e0 : (i : Int).toNat * 2 = i * 2 := by omega
    refine ⟨ad, hp, ⟨by omega, hlt⟩, _, _, ⟨by rw [e0]; exact g 0 _ rfl, by rw [e0]; exact g 1 _ rfl, trivial⟩, fun k13 => ⟨by decide, by decide, fun k27 w28 s28 b28 k31 => ?_⟩⟩
    have n28 := g_new2 s28
    have F28 := F.trans' s28.fr
    have t28 : TupO w28 k27 L[i] := ⟨[], by simpa [spl, reps] using b28⟩
    have zF := F.size
    refine appM1 (C := tz) (fun _ => rfl) (ys := Z) (x := (k27, L[i])) (u := w) (B := w.heap.size) (o.fr s28.fr (fun _ _ => by simp)) F28 rfl (Nat.le_refl _) F28.size (fun h => by cases h) (by simp) (fun ad hp x hx => ?_) (by omega) (by omega) fun w32 p33 c35 F32 G32 _ o32 d32 => ?_
    · rcases List.mem_cons.1 hx with rfl | hx
      · have := (o.lt hp).2; exact .inr (by omega)
      · exact .inl hx
    refine ⟨L.length - (i + 1), by omega, i + 1, Z ++ [(k27, L[i])], by rw [wrapi (by omega) (by omega)]; simp, by omega, rfl, rfl, by rw [List.map_append, hZ, take_snoc hlt']; rfl, o32, fun z hz => ?_, fun z hz => ?_, fun ad hp z hz => ?_, F32⟩
    · rcases List.mem_append.1 hz with hz | hz
      · exact ((tu z hz).fr s28.fr (by simp)).fr G32 (fun hx => by
          rw [List.nil_append] at hx
          obtain ⟨ad, hp, e⟩ := (g_mem_pb _ _).1 hx
          exact zb ad hp z hz e.symm)
      · rw [List.mem_singleton.1 hz]
        exact t28.fr G32 (fun hx => by
          rw [List.nil_append] at hx
          obtain ⟨ad, hp, e⟩ := (g_mem_pb _ _).1 hx
          have := (o.lt hp).2
          have e : k27 = ad.block := e.symm
          omega)
    · rcases List.mem_append.1 hz with hz | hz
      · exact zw z hz
      · rw [List.mem_singleton.1 hz]; show w.heap.size ≤ k27; omega
    · have hzlt : z.1 < w28.heap.size := by
        rcases List.mem_append.1 hz with hz | hz
        · have := (tu z hz).lt; have := s28.fr.size; omega
        · rw [List.mem_singleton.1 hz]; exact n28.2.1
      rcases d32 ad hp with h | h
      · rcases List.mem_append.1 hz with hz | hz
        · exact zb ad h z hz
        · rw [List.mem_singleton.1 hz]
          have := (o.lt h).2
          show k27 ≠ ad.block; omega
      · omega
  · have hge : ¬ (i : Int) < (L.length : Int) := of_decide_eq_false hge
    rw [List.take_of_length_le (by omega)] at hZ
    refine (set_c o.row tu (by rw [hZ]; exact hn) (by omega)).mono ?_
    rintro e37 w38 ⟨f38, b, Z', rfl, perm, sort, ⟨c, o38⟩, t38, low, ne⟩
    have hl' : Z'.length = Z.length := by simpa using perm.length_eq
    have z21 := F.size
    refine ⟨_, _, _, rfl, F.trans' f38, some ⟨b, 0, none⟩, Z', by rw [hl'], ⟨o38.1.row, t38, sort⟩, fun x => by rw [perm.mem_iff, hZ], fun ad hp => ⟨by have := (o38.1.lt hp).1; omega, (o38.1.lt hp).2⟩, fun z hz => ⟨by have := low z hz; omega, (t38 z hz).lt⟩⟩
section
variable {v w : World} {d e s : Nat} {lab : ByteArray} {be bs : List Nat} {E S : List PI}
theorem dhas_c (h : DAt w d lab e s be bs E S) (a b : Int) : Calls prog 34 #[ptr d, I64 a, I64 b] w fun e w' => e = .returned (.bool (decide (((a, b) : PI) ∈ S))) ∧ Fr [] w w' := by
  refine dred_Dred_Has.link ⟨some ⟨s, 0, none⟩, h.c2, (relhas_c h.sr (a, b)).mono ?_⟩
  rintro e2 w3 ⟨rfl, f3⟩
  exact ⟨_, rfl, rfl, f3⟩
theorem isT104 (x : Option Nat) : IsT prog 104 (.map x) := by
  have e : IsT prog 104 (.map x) = ∃ x', Value.map x' = .map x := by kernel_rfl
  rw [e]; exact ⟨_, rfl⟩

set_option maxHeartbeats 1000000 in
theorem read_c (h : DAt w d lab e s be bs E S) (hl : S.length ≤ 50000) : Calls prog 29 #[ptr d] w fun e w' => Fr [] w w' ∧ ∃ (p : Option Addr) (Z : List ZP), e = .returned (.slice p Z.length Z.length) ∧ SetAt w' p Z ∧ (∀ x, x ∈ Z.map (·.2) ↔ x ∈ S) ∧ Within w.heap.size w'.heap.size p Z := by
  obtain ⟨mf, mt, bf, bt, hb, hf, _⟩ := h.sr.ex
  obtain ⟨l, Ml, hnd2, hkeys, hent⟩ := hf.ex
  refine dred_Dred_Read.link ⟨some ⟨s, 0, none⟩, h.c2, ⟨s, 0, none⟩, rfl, some mf, by rw [add_mk, hb.cell]; rfl, l, Ml, fun w5 k6 s5 it5 => ?_⟩
  have n6 := g_new1 s5
  have hnd := Ml.nodup
  refine ⟨fun m p k c w' => ∃ (Z : List ZP) (done : List Int), m = rest l done ∧ k = Z.length ∧ (Z.map (·.2)).Nodup ∧ (∀ x, x ∈ Z.map (·.2) ↔ x ∈ S ∧ x.1 ∈ done) ∧ OwnZ w' w.heap.size 1 p Z.length c (Z.map tz) ∧ Tups w' Z ∧ (∀ z ∈ Z, w.heap.size ≤ z.1) ∧ (∀ ad, p = some ad → ∀ z ∈ Z, z.1 ≠ ad.block) ∧ IterO kenc w' k6 (some mf) l done ∧ Fr [] w w' ∧ k6 < w'.heap.size, rest l [], ⟨[], [], rfl, rfl, by simp, by simp, OwnZ.nil _ _ _, fun z hz => (by cases hz), by simp, by simp, it5, s5.fr, n6.2⟩, ?_⟩
  rintro m11 p12 k13 c14 w15 ⟨Z, done, rfl, rfl, zn, zm, o, tu, zw, zb, it15, F15, h6⟩
  refine ⟨some mf, l, done, it15, fun y hy => ?_, fun n22 p23 hmem hnd22 w26 is26 it26 cur26 => bT rfl ⟨n22, p23, cur26, ?_⟩, fun hall w98 is98 it98 => bF rfl ?_⟩
  · obtain ⟨k, t, e1, _⟩ := hent y hy
    rw [e1]; exact isT104 _
  · obtain ⟨k, t, e1, e2, e3, e4, e5⟩ := hent _ hmem
    have e1 : Value.map p23 = Value.map (some k) := e1
    injection e1 with e1
    subst e1
    have zF15 := F15.size
    have F26 : Fr [] w w26 := F15.trans is26.fr (fun x hx => .inr (by rw [List.mem_singleton.1 hx]; omega))
    have hk6 : ∀ {x : Nat} {cs : List Value}, Blk w15 x cs → x ≠ k6 := fun hb => iter_blk it15 hb
    have o26 := o.fr is26.fr (fun ad hp => by
      obtain ⟨cs, hb⟩ := ownZ_blk o hp
      simpa using hk6 hb)
    have tu26 : Tups w26 Z := fun z hz => (tu z hz).fr is26.fr (by
      obtain ⟨cs, hb⟩ := tu z hz
      simpa using hk6 hb)
    have M26 := e3.fr F26 (by simp)
    have z26 := is26.size
    refine ⟨t, M26, fun w33 k34 s33 it33 => ?_⟩
    have n34 := g_new1 s33
    have hkn := M26.nodup
    refine ⟨fun m p kk c w' => ∃ (Z : List ZP) (done2 : List Int), m = rest t done2 ∧ kk = Z.length ∧ (Z.map (·.2)).Nodup ∧ (∀ x, x ∈ Z.map (·.2) ↔ (x ∈ S ∧ x.1 ∈ done) ∨ (x.1 = n22 ∧ x.2 ∈ done2)) ∧ (∀ b ∈ done2, ((n22, b) : PI) ∈ S) ∧ OwnZ w' w.heap.size 1 p Z.length c (Z.map tz) ∧ Tups w' Z ∧ (∀ z ∈ Z, w.heap.size ≤ z.1) ∧ (∀ ad, p = some ad → ∀ z ∈ Z, z.1 ≠ ad.block) ∧ IterO kenc w' k34 (some k) t done2 ∧ IterO kenc w' k6 (some mf) l (n22 :: done) ∧ Fr [] w w' ∧ k34 < w'.heap.size, rest t [], ⟨Z, [], rfl, rfl, zn, by simpa using zm, by simp, o26.fr s33.fr (fun _ _ => by simp), fun z hz => (tu26 z hz).fr s33.fr (by simp), zw, zb, it33, it26.fr s33.fr (by simp) (fun _ _ => by simp), F26.trans' s33.fr, n34.2⟩, ?_⟩
    clear o o26 tu tu26 zn zm zw zb
    rintro m39 p40 k41 c42 w43 ⟨Z, done2, rfl, rfl, zn, zm, hd2, o, tu, zw, zb, it43, it43o, F43, h34⟩
    have hk34 : ∀ {x : Nat} {cs : List Value}, Blk w43 x cs → x ≠ k34 := fun hb => iter_blk it43 hb
    refine ⟨some k, t, done2, it43, fun y hy => by rw [e4 y hy]; exact isT4 true, fun n50 b51 hmem2 hnd50 w54 is54 it54 cur54 => bT rfl ⟨n50, b51, cur54, fun k60 w61 s61 b61 k64 => ?_⟩, fun hall2 w74 is74 it74 => bF rfl ?_⟩
    · have hS : ((n22, n50) : PI) ∈ S := (e5 n50).1 (List.mem_map.2 ⟨_, hmem2, rfl⟩)
      have zF43 := F43.size
      have F54 : Fr [] w w54 := F43.trans is54.fr (fun x hx => .inr (by rw [List.mem_singleton.1 hx]; omega))
      have z54 := is54.size
      have n61 := g_new1 s61
      have F61 := F54.trans' s61.fr
      have o61 := (o.fr is54.fr (fun ad hp => by
        obtain ⟨cs, hb⟩ := ownZ_blk o hp
        simpa using hk34 hb)).fr s61.fr (fun _ _ => by simp)
      have tu61 : Tups w61 Z := fun z hz => ((tu z hz).fr is54.fr (by
        obtain ⟨cs, hb⟩ := tu z hz
        simpa using hk34 hb)).fr s61.fr (by simp)
      have t61 : TupO w61 k60 (n22, n50) := ⟨[], by simpa [spl, reps] using b61⟩
      have hnew : ((n22, n50) : PI) ∉ Z.map (·.2) := fun hm => by
        rcases (zm _).1 hm with ⟨_, h1⟩ | ⟨_, h1⟩
        · exact hnd22 h1
        · exact hnd50 h1
      have hZS : Z.length ≤ S.length := by
        have := sub_len zn (l' := S) fun x hx => by
          rcases (zm x).1 hx with h1 | ⟨h1, h2⟩
          · exact h1.1
          · have := hd2 _ h2; rw [← h1] at this; exact this
        simpa using this
      have zs61 := s61.fr.size
      have k34ne6 : k6 ≠ k34 := by
        have := F15.size
        intro e; omega
      have it61o : IterO kenc w61 k6 (some mf) l (n22 :: done) := (it43o.fr is54.fr (by simpa using k34ne6) (fun b hb => by
        injection hb with hb; subst hb
        have := Ml.lt
        simp; omega)).fr s61.fr (by simp) (fun _ _ => by simp)
      have it61 : IterO kenc w61 k34 (some k) t (n50 :: done2) := it54.fr s61.fr (by simp) (fun _ _ => by simp)
      have lowp : ∀ ad, p40 = some ad → ad.block < w43.heap.size := fun ad hp => (o.lt hp).2
      refine appM1 (C := tz) (fun _ => rfl) (ys := Z) (x := (k60, (n22, n50))) (u := w) (B := w.heap.size) o61 F61 rfl (Nat.le_refl _) F61.size (fun h => by cases h) (by simp) (fun ad hp x hx => .inl hx) (by omega) (by omega) fun w65 p66 c68 F65 G65 n65 o65 d65 => ?_
      have g65 := G65.size
      have pbne : ∀ x ∈ pb p40, (∃ cs, Blk w61 x cs) := fun x hx => by
        obtain ⟨ad, hp, rfl⟩ := (g_mem_pb _ _).1 hx
        exact ownZ_blk o61 hp
      have it_ok : ∀ {r m : Nat} {l' : List (Int × Value)} {dn : List Int}, IterO kenc w61 r (some m) l' dn → (∃ l'', MapG kenc w61 m l'') → IterO kenc w65 r (some m) l' dn := fun {r m l' dn} it ⟨l'', hm⟩ => it.fr G65 (fun hx => by
        rw [List.nil_append] at hx
        obtain ⟨cs, hb⟩ := pbne _ hx
        exact iter_blk it hb rfl) (fun b hb hx => by
        injection hb with hb; subst hb
        rw [List.nil_append] at hx
        obtain ⟨cs, hb⟩ := pbne _ hx
        exact map_blk hm hb rfl)
      refine ⟨rest t (n50 :: done2), rest_lt hmem2 hnd50, Z ++ [(k60, (n22, n50))], n50 :: done2, rfl, rfl, ?_, fun x => ?_, fun b hb => ?_, o65, fun z hz => ?_, fun z hz => ?_, fun ad hp z hz => ?_, it_ok it61 ⟨t, e3.fr F61 (by simp)⟩, it_ok it61o ⟨l, Ml.fr F61 (by simp)⟩, F65, by omega⟩
      · rw [List.map_append, List.nodup_append]
        exact ⟨zn, by simp, fun a ha b hb e => by
          have hb : b = (n22, n50) := by simpa using hb
          exact hnew (by rw [← hb, ← e]; exact ha)⟩
      · rw [List.map_append, List.mem_append, zm x, List.map_cons, List.map_nil, List.mem_singleton, List.mem_cons]
        constructor
        · rintro ((h | ⟨h, h2⟩) | h)
          · exact .inl h
          · exact .inr ⟨h, .inr h2⟩
          · rw [h]; exact .inr ⟨rfl, .inl rfl⟩
        · rintro (h | ⟨h, h2 | h2⟩)
          · exact .inl (.inl h)
          · exact .inr (Prod.ext h h2)
          · exact .inl (.inr ⟨h, h2⟩)
      · rcases List.mem_cons.1 hb with rfl | hb
        · exact hS
        · exact hd2 b hb
      · rcases List.mem_append.1 hz with hz | hz
        · exact (tu61 z hz).fr G65 (fun hx => by
            rw [List.nil_append] at hx
            obtain ⟨ad, hp, e⟩ := (g_mem_pb _ _).1 hx
            exact zb ad hp z hz e.symm)
        · rw [List.mem_singleton.1 hz]
          exact t61.fr G65 (fun hx => by
            rw [List.nil_append] at hx
            obtain ⟨ad, hp, e⟩ := (g_mem_pb _ _).1 hx
            have := lowp ad hp
            have e : k60 = ad.block := e.symm
            omega)
      · rcases List.mem_append.1 hz with hz | hz
        · exact zw z hz
        · rw [List.mem_singleton.1 hz]; show w.heap.size ≤ k60; omega
      · have hzlt : z.1 < w61.heap.size := by
          rcases List.mem_append.1 hz with hz | hz
          · exact (tu61 z hz).lt
          · rw [List.mem_singleton.1 hz]; exact n61.2
        rcases d65 ad hp with h | h
        · rcases List.mem_append.1 hz with hz | hz
          · exact zb ad h z hz
          · rw [List.mem_singleton.1 hz]
            have := lowp ad h
            show k60 ≠ ad.block; omega
        · omega
    · have hall2' : ∀ b, ((n22, b) : PI) ∈ S → b ∈ done2 := fun b hb => by
        obtain ⟨y, hy, e⟩ := List.mem_map.1 ((e5 b).2 hb)
        have := hall2 y hy
        rw [e] at this; exact this
      have zF43 := F43.size
      have k34ne6 : k6 ≠ k34 := by
        have := F15.size
        intro e; omega
      refine ⟨rest l (n22 :: done), rest_lt hmem hnd22, Z, n22 :: done, rfl, rfl, zn, fun x => ?_, o.fr is74.fr (fun ad hp => ?_), fun z hz => (tu z hz).fr is74.fr ?_, zw, zb, it43o.fr is74.fr (by simpa using k34ne6) (fun b hb => ?_), F43.trans is74.fr (fun x hx => .inr (by rw [List.mem_singleton.1 hx]; omega)), by have := is74.size; omega⟩
      · rw [zm, List.mem_cons]
        constructor
        · rintro (h1 | ⟨h1, h2⟩)
          · exact ⟨h1.1, .inr h1.2⟩
          · have := hd2 _ h2
            rw [← h1] at this; exact ⟨this, .inl h1⟩
        · rintro ⟨h1, h2 | h2⟩
          · refine .inr ⟨h2, hall2' _ ?_⟩
            rw [← h2]; exact h1
          · exact .inl ⟨h1, h2⟩
      · obtain ⟨cs, hb⟩ := ownZ_blk o hp
        simpa using hk34 hb
      · obtain ⟨cs, hb⟩ := tu z hz
        simpa using hk34 hb
      · injection hb with hb; subst hb
        have := Ml.lt
        simp; omega
  · have hall' : ∀ x ∈ S, x.1 ∈ done := fun x hx => by
      obtain ⟨y, hy, e⟩ := List.mem_map.1 (hkeys x.1 x.2 hx)
      have := hall y hy
      rw [e] at this; exact this
    have hmem : ∀ x, x ∈ Z.map (·.2) ↔ x ∈ S := fun x => by
      rw [zm]; exact ⟨fun h => h.1, fun h => ⟨h, hall' x h⟩⟩
    have hZS : Z.length ≤ S.length := by
      have := sub_len zn (l' := S) fun x hx => (hmem x).1 hx
      simpa using this
    have zF15 := F15.size
    have F98 : Fr [] w w98 := F15.trans is98.fr (fun x hx => .inr (by rw [List.mem_singleton.1 hx]; omega))
    have hk6 : ∀ {x : Nat} {cs : List Value}, Blk w15 x cs → x ≠ k6 := fun hb => iter_blk it15 hb
    have o98 := o.fr is98.fr (fun ad hp => by
      obtain ⟨cs, hb⟩ := ownZ_blk o hp
      simpa using hk6 hb)
    have tu98 : Tups w98 Z := fun z hz => (tu z hz).fr is98.fr (by
      obtain ⟨cs, hb⟩ := tu z hz
      simpa using hk6 hb)
    refine (set_c o98.row tu98 zn (by omega)).mono ?_
    rintro e37 w38 ⟨f38, b, Z', rfl, perm, sort, ⟨c, o38⟩, t38, low, ne⟩
    have hl' : Z'.length = Z.length := by simpa using perm.length_eq
    have z98 := F98.size
    refine ⟨_, _, _, rfl, F98.trans' f38, some ⟨b, 0, none⟩, Z', by rw [hl'], ⟨o38.1.row, t38, sort⟩, fun x => by rw [perm.mem_iff, hmem], fun ad hp => ⟨by have := (o38.1.lt hp).1; omega, (o38.1.lt hp).2⟩, fun z hz => ⟨by have := low z hz; omega, (t38 z hz).lt⟩⟩
end
end Go.Proofs.Ytnplopiconabiaa.Dred

end
section
/- Dred: New. -/
namespace Go.Proofs.Ytnplopiconabiaa.Dred
open Go Go.V
open Go.Proofs.Ytnplopiconabiaa.VC
open Go.Proofs.Ytnplopiconabiaa.Span
open Go.Proofs.Try (prog)
set_option linter.unusedVariables false
set_option linter.unusedSimpArgs false
set_option maxRecDepth 20000

/-- The pairs of the edges of a label, in order. -/
def labP (D : List EG) (lab : ByteArray) : List PI := (D.filter fun x => decide (x.l = lab)).map fun x => (x.f, x.t)
theorem mem_labP {D : List EG} {lab : ByteArray} {p : PI} : p ∈ labP D lab ↔ ∃ x ∈ D, x.l = lab ∧ x.f = p.1 ∧ x.t = p.2 := by
  unfold labP
  rw [List.mem_map]
  constructor
  · rintro ⟨x, hx, rfl⟩
    obtain ⟨h1, h2⟩ := List.mem_filter.1 hx
    exact ⟨x, h1, by simpa using h2, rfl, rfl⟩
  · rintro ⟨x, hx, h1, h2, h3⟩
    exact ⟨x, List.mem_filter.2 ⟨hx, by simpa using h1⟩, Prod.ext h2 h3⟩
theorem labP_len (D : List EG) (lab : ByteArray) : (labP D lab).length ≤ D.length := by
  unfold labP; rw [List.length_map]; exact List.length_filter_le _ _
theorem labP_snoc {D : List EG} {lab : ByteArray} {i : Nat} (h : i < D.length) : labP (D.take (i + 1)) lab = labP (D.take i) lab ++ if D[i].l = lab then [(D[i].f, D[i].t)] else [] := by
  unfold labP
  rw [take_snoc h, List.filter_append, List.map_append]
  congr 1
  by_cases e : D[i].l = lab <;> simp [e]
theorem tc_succs {D : List EG} {lab : ByteArray} {E : List PI} (h : ∀ p, p ∈ E ↔ p ∈ labP D lab) (a b : Int) : Span.Reach (succs D lab) a b ↔ TC E a b := by
  have e : ∀ y x, x ∈ succs D lab y ↔ x ∈ succE E y := fun y x => by rw [mem_succs, mem_succE, h, mem_labP]
  exact ⟨reach_mono fun y x hx => (e y x).1 hx, reach_mono fun y x hx => (e y x).2 hx⟩

set_option maxHeartbeats 1000000 in
theorem new_c {w : World} {lab : ByteArray} {eA : Option Addr} {eC : Nat} {D : List EG} (hD : Row w eA (D.flatMap gcell)) (hl : D.length ≤ 5000) (hR : ∀ x ∈ D, inR x.f ∧ inR x.t) (hgood : isName lab = true)
    (hfew : ∀ X : List PI, X.Nodup → (∀ x ∈ X, Span.Reach (succs D lab) x.1 x.2) → X.length ≤ 4000) :
    Calls prog 28 #[.string lab, .slice eA D.length eC] w fun e' w' => Fr [] w w' ∧ ∃ (d e s : Nat) (be bs : List Nat) (E S : List PI), e' = .returned (.tuple #[ptr d, I64 0]) ∧ DAt w' d lab e s be bs E S ∧ (∀ p, p ∈ E ↔ p ∈ labP D lab) ∧ IsTC E S ∧ S.length ≤ 4000 ∧ (∀ x ∈ be, w.heap.size ≤ x) ∧ (∀ x ∈ bs, w.heap.size ≤ x) ∧ w.heap.size ≤ d ∧ E.length ≤ D.length := by
  refine dred_New.link ((pairs_c (lab := lab) hD (by omega) (fun e he => (hR e he).1)).mono ?_)
  rintro e1 w2 ⟨f2, hs⟩
  rw [hgood] at hs
  obtain ⟨pb, Z, rfl, hZs, hZm, hZl, ⟨cz, oz⟩, tZ, lowZ, neZ⟩ := said_list hs hfew
  refine ⟨_, _, _, _, rfl, bF rfl ((newRel_c w2).mono ?_)⟩
  rintro e7 w8 ⟨f8, e, be0, rfl, er8, low8⟩
  refine ⟨_, rfl, (newRel_c w8).mono ?_⟩
  rintro e10 w11 ⟨f11, s, bs0, rfl, sr11, low11⟩
  have er11 := er8.old f11
  have F11 := f2.trans' (f8.trans' f11)
  have z2 := f2.size
  have z8 := f8.size
  have z11 := f11.size
  refine ⟨_, rfl, fun k13 => ⟨fun m n w' => ∃ (i : Nat) (E : List PI) (be : List Nat), n = i ∧ i ≤ D.length ∧ m = D.length - i ∧ RelAt w' e be E ∧ (∀ p, p ∈ E ↔ p ∈ labP (D.take i) lab) ∧ E.length ≤ i ∧ (∀ x ∈ be, w2.heap.size ≤ x ∧ (x < w8.heap.size ∨ k13 < x)) ∧ RelAt w' s bs0 [] ∧ Fr [] w2 w' ∧ w11.heap.size ≤ k13 ∧ k13 < w'.heap.size, D.length, fun w16 s16 => ⟨0, [], be0, rfl, by omega, rfl, er11.old s16.fr, by simp [labP], by simp, fun x hx => ⟨low8 x hx, .inl (er8.lt x hx)⟩, sr11.old s16.fr, (f8.trans' f11).trans' s16.fr, (g_new1 s16).1, (g_new1 s16).2⟩, ?_⟩⟩
  rintro m18 n19 w20 ⟨i, E, be, rfl, hi, rfl, er, hE, hEl, hbe, sr, F20, hk, hk'⟩
  have z20 := F20.size
  refine bc (fun hlt => ?_) fun hge => ?_
  · have hlt : (i : Int) < (D.length : Int) := of_decide_eq_true hlt
    have hlt' : i < D.length := by omega
    intro y22 h22
    have es : IntKind.wrap .i64 ((i : Int) + 1) = ((i + 1 : Nat) : Int) := by rw [wrapi (by omega) (by omega)]; simp
    rw [es] at h22
    obtain ⟨ad, hp, g⟩ := (hD.old (f2.trans' F20)).atF flatG (by decide) hlt'
    have e0 : (i : Int).toNat * 3 = i * 3 := by omega
    refine ⟨ad, hp, ⟨by omega, hlt⟩, _, _, _, ⟨by rw [e0]; exact g 0 _ rfl, by rw [e0]; exact g 1 _ rfl, by rw [e0]; exact g 2 _ rfl, trivial⟩, fun k31 => bc (fun hlab w32 s32 => ?_) fun hlab w37 s37 => ?_⟩
    · have hlab : D[i].l = lab := of_decide_eq_true hlab
      have n32 := g_new1 s32
      have er32 := er.old s32.fr
      refine (relput_c er32 (D[i].f, D[i].t) (hR _ (List.getElem_mem hlt')) (by omega)).mono ?_
      rintro e34 w35 ⟨rfl, f35, be', er35, g35⟩
      have z32 := s32.fr.size
      have z35 := f35.size
      have hbel : ∀ x ∈ be, x < w20.heap.size := er.lt
      have hk13 : k13 ∉ be := fun hx => by have := hbe _ hx; omega
      have hbs0 : ∀ x ∈ bs0, x ∉ be := fun x hx hx2 => by
        have h1 := low11 x hx
        have h2 := sr11.lt x hx
        have := hbe x hx2; omega
      refine ⟨_, rfl, g_keep f35 (fun x hx => ?_), h22 _ ⟨D.length - (i + 1), by omega, i + 1, _, be', rfl, by omega, rfl, er35, fun p => ?_, ?_, fun x hx => ?_, (sr.old s32.fr).fr f35 hbs0, (F20.trans' s32.fr).trans f35 (fun x hx => .inr (hbe x hx).1), hk, by omega⟩⟩
      · rcases List.mem_cons.1 hx with rfl | hx
        · exact ⟨by omega, hk13⟩
        · rw [List.mem_singleton.1 hx]; exact ⟨n32.2, fun hx => by have := hbel _ hx; omega⟩
      · rw [labP_snoc hlt', if_pos hlab, List.mem_append, List.mem_singleton, ← hE]
        by_cases hin : ((D[i].f, D[i].t) : PI) ∈ E
        · rw [if_pos hin]
          exact ⟨.inl, fun h => h.elim id fun h => by rw [h]; exact hin⟩
        · rw [if_neg hin, List.mem_append, List.mem_singleton]
      · by_cases hin : ((D[i].f, D[i].t) : PI) ∈ E
        · rw [if_pos hin]; omega
        · rw [if_neg hin, List.length_append, List.length_singleton]; omega
      · rcases g35 x hx with h1 | h1
        · exact hbe x h1
        · exact ⟨by omega, .inr (by omega)⟩
    · have hlab : ¬ D[i].l = lab := of_decide_eq_false hlab
      have z37 := s37.fr.size
      refine h22 _ ⟨D.length - (i + 1), by omega, i + 1, E, be, rfl, by omega, rfl, er.old s37.fr, fun p => by rw [labP_snoc hlt', if_neg hlab, List.append_nil]; exact hE p, by omega, hbe, sr.old s37.fr, F20.trans' s37.fr, hk, by omega⟩
  have hge : ¬ (i : Int) < (D.length : Int) := of_decide_eq_false hge
  rw [List.take_of_length_le (show D.length ≤ i by omega)] at hE
  have rZ : Row w20 (some ⟨pb, 0, none⟩) (Z.map tz) := (oz.1.row).old F20
  have tZ20 : Tups w20 Z := fun z hz => (tZ z hz).fr F20 (by simp)
  have pblt := oz.1.lt rfl
  have hbe20 := er.lt
  have hZn : (Z.map (·.2)).Nodup := nodup_plt hZs
  -- the span
  refine ⟨fun m n w' => ∃ (i : Nat) (bs : List Nat), n = i ∧ i ≤ Z.length ∧ m = Z.length - i ∧ RelAt w' s bs ((Z.take i).map (·.2)) ∧ (∀ x ∈ bs, x ∈ bs0 ∨ w20.heap.size ≤ x) ∧ Fr bs0 w20 w', Z.length, ⟨0, bs0, rfl, by omega, rfl, sr, fun x hx => .inl hx, Fr.refl _ _⟩, ?_⟩
  rintro m41 n42 w43 ⟨j, bs, rfl, hj, rfl, sr43, hbs', F43⟩
  have hbs : ∀ x ∈ bs, w8.heap.size ≤ x ∧ (x < w11.heap.size ∨ w20.heap.size ≤ x) := fun x hx => by
    rcases hbs' x hx with h1 | h1
    · exact ⟨low11 x h1, .inl (sr11.lt x h1)⟩
    · exact ⟨by omega, .inr h1⟩
  have z43 := F43.size
  have hpb0 : pb ∉ bs0 := fun hx => by have := low11 _ hx; have : pb < w2.heap.size := pblt.2; omega
  have hz0 : ∀ z ∈ Z, z.1 ∉ bs0 := fun z hz hx => by have := low11 _ hx; have := (tZ z hz).lt; omega
  refine bc (fun hlt => ?_) fun hge2 => ?_
  · have hlt : (j : Int) < (Z.length : Int) := of_decide_eq_true hlt
    have hlt' : j < Z.length := by omega
    have r43 : Row w43 (some ⟨pb, 0, none⟩) (Z.map tz) := row_fr0 F43 rZ fun ad hp _ => by injection hp with hp; subst hp; exact hpb0
    have hc : w43.cell? (Addr.add ⟨pb, 0, none⟩ j) = some (tz Z[j]) := r43.get rfl (by simp [hlt'])
    have t43 : TupO w43 Z[j].1 Z[j].2 := (tZ20 _ (List.getElem_mem hlt')).fr F43 (hz0 _ (List.getElem_mem hlt'))
    refine ⟨⟨pb, 0, none⟩, rfl, ⟨by omega, hlt⟩, _, _, _, by rw [Int.toNat_natCast, Nat.mul_one]; exact hc, ⟨Z[j].1, 0, none⟩, rfl, ⟨by omega, by simp⟩, Z[j].2.1, t43.row.get (j := 0) rfl rfl, ⟨Z[j].1, 0, none⟩, rfl, ⟨by omega, by simp⟩, Z[j].2.2, t43.row.get (j := 1) rfl rfl, fun w53 s53 => ?_⟩
    have hzr : inR Z[j].2.1 ∧ inR Z[j].2.2 := by
      have hr := (hZm Z[j].2).1 (List.mem_map.2 ⟨_, List.getElem_mem hlt', rfl⟩)
      obtain ⟨y, r, h1⟩ := List.exists_cons_of_ne_nil hr.first
      obtain ⟨x, hx, _, h3, _⟩ := mem_succs.1 (show y ∈ succs D lab Z[j].2.1 by rw [h1]; simp)
      obtain ⟨y2, hy2⟩ := hr.last
      obtain ⟨x2, hx2, _, _, h4⟩ := mem_succs.1 hy2
      rw [← h3, ← h4]
      exact ⟨(hR x hx).1, (hR x2 hx2).2⟩
    have sr53 := sr43.old s53.fr
    refine (relput_c sr53 Z[j].2 hzr (by rw [List.length_map, List.length_take]; omega)).mono ?_
    rintro e55 w56 ⟨rfl, f56, bs', sr56, g56⟩
    have hnot : Z[j].2 ∉ (Z.take j).map (·.2) := fun h => by
      rw [List.map_take] at h
      obtain ⟨q, hq, e1⟩ := List.mem_take_iff_getElem.1 h
      have hq2 : q < (Z.map (·.2)).length := by rw [List.length_map]; omega
      have hj2 : j < (Z.map (·.2)).length := by rw [List.length_map]; omega
      have e2 : (Z.map (·.2))[q] = (Z.map (·.2))[j] := by rw [e1, List.getElem_map]
      have := (List.getElem_inj hZn).1 e2
      omega
    rw [if_neg hnot] at sr56
    have et : (Z.take j).map (·.2) ++ [Z[j].2] = (Z.take (j + 1)).map (·.2) := by rw [take_snoc hlt', List.map_append]; rfl
    rw [et] at sr56
    have z53 := s53.fr.size
    have hk13 : k13 ∉ bs := fun hx => by have := hbs _ hx; omega
    refine ⟨_, rfl, g_keep f56 (fun x hx => by rw [List.mem_singleton.1 hx]; exact ⟨by omega, hk13⟩), Z.length - (j + 1), by omega, j + 1, bs', by rw [wrapi (by omega) (by omega)]; simp, by omega, rfl, sr56, fun x hx => ?_, (F43.trans s53.fr (fun x hx => by cases hx)).trans f56 (fun x hx => ?_)⟩
    · rcases g56 x hx with h1 | h1
      · exact hbs' x h1
      · exact .inr (by omega)
    · exact hbs' x hx
  · intro bk
    have hge2 : ¬ (j : Int) < (Z.length : Int) := of_decide_eq_false hge2
    rw [List.take_of_length_le (show Z.length ≤ j by omega)] at sr43
    have bk : Blk w43 k13 [.string lab, ptr e, ptr s, I64 0] := bk
    have hbe0 : ∀ x ∈ be, x ∉ bs0 := fun x hx hx2 => by
      have h1 := low11 x hx2
      have h2 := sr11.lt x hx2
      have := hbe x hx; omega
    have hfr : Fr [] w2 w43 := F20.trans F43 (fun x hx => .inr (by have := low11 x hx; omega))
    refine ⟨f2.trans' hfr, k13, e, s, be, bs, E, Z.map (·.2), rfl, ⟨⟨0, bk⟩, er.fr F43 hbe0, sr43, fun x hx hx2 => ?_, fun hx => ?_, fun hx => ?_⟩, hE, fun p => ?_, by rw [List.length_map]; exact hZl, fun x hx => by have := hbe x hx; omega, fun x hx => by have := hbs x hx; omega, by omega, by omega⟩
    · have h1 := hbe x hx
      have h2 := hbs x hx2
      have h3 := hbe20 x hx
      omega
    · have := hbe _ hx; omega
    · have := hbs _ hx; omega
    · rw [hZm]; exact tc_succs hE _ _
end Go.Proofs.Ytnplopiconabiaa.Dred

end
section
/- Dred: Do. -/
namespace Go.Proofs.Ytnplopiconabiaa.Dred
open Go Go.V
open Go.Proofs.Ytnplopiconabiaa.VC
open Go.Proofs.Ytnplopiconabiaa.Span
open Go.Proofs.Try (prog)
set_option linter.unusedVariables false
set_option linter.unusedSimpArgs false
set_option maxRecDepth 20000

/-- Edges that may come, or go. -/
def Okay (add : Bool) (E L : List PI) : Prop := L.Nodup ∧ ∀ p ∈ L, (p ∈ E ↔ add = false)
theorem labP_split (D : List EG) (lab : ByteArray) (i : Nat) : labP D lab = labP (D.take i) lab ++ labP (D.drop i) lab := by
  unfold labP
  rw [← List.map_append, ← List.filter_append, List.take_append_drop]
theorem labP_R {D : List EG} {lab : ByteArray} (hR : ∀ x ∈ D, inR x.f ∧ inR x.t) : ∀ p ∈ labP D lab, inR p.1 ∧ inR p.2 := fun p hp => by
  obtain ⟨x, hx, _, h1, h2⟩ := mem_labP.1 hp
  rw [← h1, ← h2]; exact hR x hx
/-- What Do tells. -/
structure DoSaid (w w' : World) (d : Nat) (lab : ByteArray) (e s : Nat) (be bs : List Nat) (E S L : List PI) (add : Bool) (code : Int) (pA pD : Option Addr) (ZA ZD : List ZP) (be' bs' : List Nat) (E1 S1 : List PI) : Prop where
  at' : DAt w' d lab e s be' bs' E1 S1
  tc : IsTC E1 S1
  small : S1.length ≤ 4000
  elen : E1.length ≤ E.length + L.length
  gbe : Grow w be be'
  gbs : Grow w bs bs'
  setA : SetAt w' pA ZA
  setD : SetAt w' pD ZD
  inA : Within w.heap.size w'.heap.size pA ZA
  inD : Within w.heap.size w'.heap.size pD ZD
  outA : OutOf (d :: be' ++ bs') pA ZA
  outD : OutOf (d :: be' ++ bs') pD ZD
  said : (code = 0 ∧ Okay add E L ∧ (∀ q, q ∈ E1 ↔ if add = true then q ∈ E ∨ q ∈ L else q ∈ E ∧ q ∉ L) ∧ (∀ x, x ∈ ZA.map (·.2) ↔ add = true ∧ x ∈ S1 ∧ x ∉ S) ∧ (∀ x, x ∈ ZD.map (·.2) ↔ add = false ∧ x ∈ S ∧ x ∉ S1) ∧ (add = true → ∀ q ∈ S, q ∈ S1) ∧ (add = false → ∀ q ∈ S1, q ∈ S)) ∨
    (code ≠ 0 ∧ ZA = [] ∧ ZD = [] ∧ (∀ q, q ∈ E1 ↔ q ∈ E) ∧ (∀ q, q ∈ S1 ↔ q ∈ S) ∧ (¬ Okay add E L ∨ (code = 5 ∧ add = true ∧ ∃ E2 S2 : List PI, (∀ q ∈ E2, q ∈ E ∨ q ∈ L) ∧ IsTC E2 S2 ∧ S2.Nodup ∧ 4000 < S2.length)))
theorem within_nil (a b : Nat) : Within a b none [] := ⟨fun ad h => (by cases h), fun z hz => (by cases hz)⟩
theorem out_nil (F : List Nat) : OutOf F none [] := ⟨fun ad h => (by cases h), fun z hz => (by cases hz)⟩
section
variable {v w : World} {d e s : Nat} {lab : ByteArray} {be bs : List Nat} {E S : List PI}

set_option maxHeartbeats 2000000 in
theorem do_c (h : DAt w d lab e s be bs E S) (ht : IsTC E S) (hl : S.length ≤ 4000) (hE : E.length ≤ 5000) {eA : Option Addr} {eC : Nat} {D : List EG} (hD : Row w eA (D.flatMap gcell)) (hDl : D.length ≤ 200) (hR : ∀ x ∈ D, inR x.f ∧ inR x.t) (add : Bool) (h60 : add = false → (labP D lab).length ≤ 60) :
    Calls prog 30 #[ptr d, .slice eA D.length eC, .bool add] w fun e' w' => Fr (d :: be ++ bs) w w' ∧ ∃ (code : Int) (pA pD : Option Addr) (ZA ZD : List ZP) (be' bs' : List Nat) (E1 S1 : List PI), e' = .returned (.tuple #[.agg #[.slice pA ZA.length ZA.length, .slice pD ZD.length ZD.length], I64 code]) ∧ DoSaid w w' d lab e s be bs E S (labP D lab) add code pA pD ZA ZD be' bs' E1 S1 := by
  refine dred_Dred_Do.link fun k1 => ⟨fun m p k c n w' => ∃ (i : Nat) (L : List PI), n = i ∧ i ≤ D.length ∧ m = D.length - i ∧ k = L.length ∧ L = labP (D.take i) lab ∧ L.length ≤ i ∧ L.Nodup ∧ (∀ p ∈ L, (p ∈ E ↔ add = false)) ∧ OwnZ w' (k1 + 1) 2 p L.length c (pcs L) ∧ Fr [] w w' ∧ w.heap.size ≤ k1 ∧ k1 < w'.heap.size, D.length, fun w4 s4 => ⟨0, [], rfl, by omega, rfl, rfl, rfl, by simp, by simp, by simp, OwnZ.nil _ _ _, s4.fr, (g_new1 s4).1, (g_new1 s4).2⟩, ?_⟩
  rintro m6 p7 k8 c9 n10 w11 ⟨i, L, rfl, hi, rfl, rfl, hL, hLi, hLn, hLE, oL, F11, hk1, hk1'⟩
  have z11 := F11.size
  have h11 := h.old F11
  have hk1n : k1 ≠ d ∧ k1 ∉ be ∧ k1 ∉ bs := h.new hk1
  -- refused: nothing changes
  have bad : ∀ (code : Int) (w' w'' : World), code ≠ 0 → ¬ Okay add E (labP D lab) → Fr [] w w' → Step w' w'' [k1] [] → Fr (d :: be ++ bs) w w'' ∧ ∃ (code' : Int) (pA pD : Option Addr) (ZA ZD : List ZP) (be' bs' : List Nat) (E1 S1 : List PI), Ending.returned (.tuple #[.agg #[.slice none 0 0, .slice none 0 0], I64 code]) = .returned (.tuple #[.agg #[.slice pA ZA.length ZA.length, .slice pD ZD.length ZD.length], I64 code']) ∧ DoSaid w w'' d lab e s be bs E S (labP D lab) add code' pA pD ZA ZD be' bs' E1 S1 := fun code w' w'' hc hno f st => by
    have f2 : Fr [] w w'' := f.trans st.fr (fun x hx => .inr (by rw [List.mem_singleton.1 hx]; exact hk1))
    exact ⟨f2.mono fun x hx => (by cases hx), code, none, none, [], [], be, bs, E, S, rfl, ⟨h.old f2, ht, hl, by omega, Grow.refl _ _, Grow.refl _ _, SetAt.nil _, SetAt.nil _, within_nil _ _, within_nil _ _, out_nil _, out_nil _, .inr ⟨hc, rfl, rfl, fun q => Iff.rfl, fun q => Iff.rfl, .inl hno⟩⟩⟩
  refine bc (fun hlt => ?_) fun hge => ?_
  · have hlt : (i : Int) < (D.length : Int) := of_decide_eq_true hlt
    have hlt' : i < D.length := by omega
    intro y13 h13
    have es : IntKind.wrap .i64 ((i : Int) + 1) = ((i + 1 : Nat) : Int) := by rw [wrapi (by omega) (by omega)]; simp
    rw [es] at h13
    obtain ⟨ad, hp, g⟩ := (hD.old F11).atF flatG (by decide) hlt'
    have e0 : (i : Int).toNat * 3 = i * 3 := by omega
    obtain ⟨over, bd⟩ := h11.blk
    refine ⟨ad, hp, ⟨by omega, hlt⟩, _, _, _, ⟨by rw [e0]; exact g 0 _ rfl, by rw [e0]; exact g 1 _ rfl, by rw [e0]; exact g 2 _ rfl, trivial⟩, fun k25 k26 => ⟨lab, by rw [add_mk, bd.cell]; rfl, bc (fun hne w28 s28 => ?_) fun heq => ?_⟩⟩
    · have hne : ¬ D[i].l = lab := by simpa using hne
      refine h13 _ _ _ _ ⟨D.length - (i + 1), by omega, i + 1, L, rfl, by omega, rfl, rfl, by rw [labP_snoc hlt', if_neg hne, List.append_nil]; exact hL, by omega, hLn, hLE, oL.fr s28.fr (fun _ _ => by simp), F11.trans' s28.fr, hk1, by have := s28.fr.size; omega⟩
    have heq : D[i].l = lab := by simpa using heq
    have hsnoc : labP (D.take (i + 1)) lab = L ++ [(D[i].f, D[i].t)] := by rw [labP_snoc hlt', if_pos heq, ← hL]
    have hsp := labP_split D lab (i + 1)
    rw [hsnoc] at hsp
    have hpL : ((D[i].f, D[i].t) : PI) ∈ labP D lab := by rw [hsp]; simp
    intro y30 h30
    -- behind both looks
    have behind : ∀ w32, Fr [] w11 w32 → k25 < w32.heap.size ∨ True → w11.heap.size ≤ k26 ∧ k26 < w32.heap.size → (add = false → ((D[i].f, D[i].t) : PI) ∈ E) → y30 false w32 := fun w32 f32 _ hk26 hin => h30 _ _ (bF rfl fun y35 h35 => by
      have F32 := F11.trans' f32
      have z32 := f32.size
      have kk : ∀ {v' : World}, w32.heap.size ≤ v'.heap.size → ∀ x ∈ [k1, k26], x < v'.heap.size := fun hz x hx => by
        rcases List.mem_cons.1 hx with rfl | hx
        · omega
        · rw [List.mem_singleton.1 hx]; omega
      have twice : ∀ w', Fr [] w w' → ¬ Okay add E (labP D lab) → y35 true w' := fun w' f' hno => h35 _ _ (bT rfl fun w38 s38 => bad 2 w' w38 (by decide) hno f' s38)
      have app : ∀ w', Fr [] w32 w' → (((D[i].f, D[i].t) : PI) ∈ E ↔ add = false) → ((D[i].f, D[i].t) : PI) ∉ L → y35 false w' := fun w' f' hiff hnot => h35 _ _ (bF rfl fun k40 => by
        have F' := F32.trans' f'
        have z' := f'.size
        have o' := (oL.fr f32 (fun _ _ => by simp)).fr f' (fun _ _ => by simp)
        refine app1 (f := pcell) flatP (x := (D[i].f, D[i].t)) (u := w) (B := k1 + 1) o' F' rfl (by omega) (by omega) (fun h => by cases h) (by simp) (fun ad hp x hx => ?_) (by omega) (by omega) fun w41 p42 c44 F41 G41 n41 o41 d41 => ?_
        · have h1 := (oL.lt hp)
          rcases List.mem_cons.1 hx with rfl | hx
          · exact .inr (by omega)
          · rcases List.mem_cons.1 hx with rfl | hx
            · exact .inr (by omega)
            · exact .inl hx
        · have := G41.size
          refine h13 _ _ _ _ ⟨D.length - (i + 1), by omega, i + 1, L ++ [(D[i].f, D[i].t)], rfl, by omega, rfl, rfl, hsnoc.symm, by simp; omega, ?_, fun p hp => ?_, o41, F41, hk1, by omega⟩
          · rw [List.nodup_append]
            exact ⟨hLn, by simp, fun x hx y hy e => hnot (by rw [← List.mem_singleton.1 hy, ← e]; exact hx)⟩
          · rcases List.mem_append.1 hp with hp | hp
            · exact hLE p hp
            · rw [List.mem_singleton.1 hp]; exact hiff)
      have cont : ∀ w', Fr [] w32 w' → (((D[i].f, D[i].t) : PI) ∈ E ↔ add = false) → Calls prog 56 #[.slice p7 L.length c9, .agg #[I64 D[i].f, I64 D[i].t]] w' fun e53 w54 => ∃ b55, e53 = .returned (.bool b55) ∧ Keep [k1, k26] w' w54 ∧ y35 b55 w54 := fun w' f' hiff => by
        have r' := (oL.row.old f32).old f'
        have z' := f'.size
        have c56 := contains_c (lC := c9) (D[i].f, D[i].t) r' (by omega)
        refine c56.mono ?_
        rintro e53 w54 ⟨rfl, f54⟩
        refine ⟨_, rfl, keepF f54 (kk z'), ?_⟩
        by_cases hin : ((D[i].f, D[i].t) : PI) ∈ L
        · rw [decide_eq_true hin]
          refine twice _ (F32.trans' (f'.trans' f54)) fun hok => ?_
          have hn := hok.1
          rw [hsp, List.nodup_append, List.nodup_append] at hn
          exact hn.1.2.2 _ hin _ (List.mem_singleton.2 rfl) rfl
        · rw [decide_eq_false hin]
          exact app _ (f'.trans' f54) hiff hin
      refine bc (fun hadd => ?_) fun hadd w56 s56 => cont w56 s56.fr ⟨fun _ => hadd, fun _ => hin hadd⟩
      have h32 := h11.old f32
      refine ⟨some ⟨e, 0, none⟩, h32.c1, fun w48 s48 => (relhas_c (h32.old s48.fr).er (D[i].f, D[i].t)).mono ?_⟩
      rintro e50 w51 ⟨rfl, f51⟩
      have f3251 := s48.fr.trans' f51
      refine ⟨_, rfl, keepF f51 (kk s48.fr.size), bc (fun hin2 => ?_) fun hin2 => cont w51 f3251 ⟨fun h => absurd h (of_decide_eq_false hin2), fun h => by rw [hadd] at h; cases h⟩⟩
      exact twice _ (F32.trans' f3251) fun hok => by
        have := (hok.2 _ hpL).1 (of_decide_eq_true hin2)
        rw [hadd] at this; cases this)
    refine bc (fun hrem => ?_) fun hadd w69 s69 => ?_
    · have hrem : add = false := by simpa using hrem
      refine ⟨some ⟨e, 0, none⟩, h11.c1, fun w64 s64 => (relhas_c (h11.old s64.fr).er (D[i].f, D[i].t)).mono ?_⟩
      have n64 := g_new2 s64
      rintro e66 w67 ⟨rfl, f67⟩
      have z64 := s64.fr.size
      have z67 := f67.size
      have f1167 := s64.fr.trans' f67
      refine ⟨_, rfl, keepF f67 (fun x hx => ?_), ?_⟩
      · rcases List.mem_cons.1 hx with rfl | hx
        · omega
        · rcases List.mem_cons.1 hx with rfl | hx
          · omega
          · rw [List.mem_singleton.1 hx]; omega
      by_cases hin : ((D[i].f, D[i].t) : PI) ∈ E
      · rw [decide_eq_true hin]
        exact behind w67 f1167 (.inr trivial) ⟨n64.1, by omega⟩ fun _ => hin
      · rw [decide_eq_false hin]
        exact h30 _ _ (bT rfl fun w33 s33 => bad 4 w67 w33 (by decide) (fun hok => hin ((hok.2 _ hpL).2 hrem)) (F11.trans' f1167) s33)
    · have hadd : add = true := by simpa using hadd
      have n69 := g_new2 s69
      exact behind w69 s69.fr (.inr trivial) ⟨n69.1, n69.2.1⟩ fun h => by rw [hadd] at h; cases h
  have hge : ¬ (i : Int) < (D.length : Int) := of_decide_eq_false hge
  rw [List.take_of_length_le (show D.length ≤ i by omega)] at hL
  subst hL
  have hLD := labP_len D lab
  have hLR := labP_R (lab := lab) hR
  have hok : Okay add E (labP D lab) := ⟨hLn, hLE⟩
  generalize labP D lab = L at *
  clear bad hD
  have low7 : ∀ ad, p7 = some ad → k1 + 1 ≤ ad.block ∧ ad.block < w11.heap.size := fun ad hp => oL.lt hp
  have out7 : ∀ ad, p7 = some ad → ad.block ≠ d ∧ ad.block ∉ be ∧ ad.block ∉ bs := fun ad hp => h.new (by have := low7 ad hp; omega)
  refine bc (fun hrem => ?_) fun hadd => ?_
  · -- edges go
    have hrem : add = false := by simpa using hrem
    refine (remove_c h11 ht oL.row (fun ad hp => (out7 ad hp).2.1) (h60 hrem) hl (by omega)).mono ?_
    rintro e71 w72 ⟨f72, p73, c75, G, bs', E', S', rfl, oG, hGn, hE', htc, hG, hsub, h72, gr, hout⟩
    have hGl : G.length ≤ S.length := sub_len hGn fun x hx => ((hG x).1 hx).1
    have hk1F : k1 ∉ d :: be ++ bs := fun hx => by
      rcases List.mem_append.1 hx with hx | hx
      · rcases List.mem_cons.1 hx with hx | hx
        · exact hk1n.1 hx
        · exact hk1n.2.1 hx
      · exact hk1n.2.2 hx
    have z72 := f72.size
    refine ⟨p73, _, c75, rfl, g_keep f72 (fun x hx => by rw [List.mem_singleton.1 hx]; exact ⟨hk1', hk1F⟩), (tuples_c oG.row hGn (by omega)).mono ?_⟩
    rintro e76 w77 ⟨f77, p78, Z, rfl, setZ, hZ, hin⟩
    have z77 := f77.size
    refine ⟨_, _, _, rfl, keepF f77 (by simp; omega), fun w81 s81 => ?_⟩
    have f81 := s81.fr
    have z81 := f81.size
    have hk1bs : k1 ∉ bs' := fun hx => by
      rcases gr _ hx with h1 | h1
      · exact hk1n.2.2 h1
      · omega
    have h77 := h72.old f77
    have h81 : DAt w81 d lab e s be bs' E' S' := h77.fr f81 (by simpa using hk1n.1.symm) (fun x hx hx2 => hk1n.2.1 (by rw [← List.mem_singleton.1 hx2]; exact hx)) (fun x hx hx2 => hk1bs (by rw [← List.mem_singleton.1 hx2]; exact hx))
    have hin81 : Within w.heap.size w81.heap.size p78 Z := ⟨fun ad hp => by have := hin.1 ad hp; omega, fun z hz => by have := hin.2 z hz; omega⟩
    have hlt : ∀ x ∈ d :: be ++ bs', x < w72.heap.size := fun x hx => by
      rcases List.mem_append.1 hx with hx | hx
      · rcases List.mem_cons.1 hx with rfl | hx
        · exact h72.dlt
        · exact h72.er.lt x hx
      · exact h72.sr.lt x hx
    refine ⟨((F11.mono (G := d :: be ++ bs) fun x hx => by cases hx).trans' f72 |>.trans f77 (fun x hx => by cases hx)).trans f81 (fun x hx => .inr (by rw [List.mem_singleton.1 hx]; exact hk1)), 0, none, p78, [], Z, be, bs', E', S', rfl, ⟨h81, htc, ?_, ?_, Grow.refl _ _, fun x hx => (gr x hx).imp id fun h => (by omega), SetAt.nil _, setZ.fr f81 (hin.out fun x hx => .inl (by rw [List.mem_singleton.1 hx]; omega)), within_nil _ _, hin81, out_nil _, hin.out fun x hx => .inl (hlt x hx), .inl ⟨rfl, hok, fun q => ?_, fun x => ?_, fun x => ?_, fun h => ?_, fun _ => hsub⟩⟩⟩
    · exact Nat.le_trans (sub_len h72.sr.nodup hsub) hl
    · exact Nat.le_trans (sub_len h72.er.nodup fun q hq => ((hE' q).1 hq).1) (by omega)
    · rw [hrem]; simpa using hE' q
    · rw [hrem]; simp
    · rw [hZ, hG]; exact ⟨fun h => ⟨hrem, h⟩, fun h => h.2⟩
    · rw [hrem] at h; cases h
  · -- edges come
    have hadd : add = true := by simpa using hadd
    have hLE2 : ∀ p ∈ L, p ∉ E := fun p hp hin => by have := (hLE p hp).1 hin; rw [hadd] at this; cases this
    refine ⟨fun m p k c n w' => ∃ (i : Nat) (F : List PI) (be' bs' : List Nat), n = i ∧ i ≤ L.length ∧ m = L.length - i ∧ k = F.length ∧ DAt w' d lab e s be' bs' (E ++ L.take i) (S ++ F) ∧ IsTC (E ++ L.take i) (S ++ F) ∧ (S ++ F).length ≤ 4000 ∧ Grow w11 be be' ∧ Grow w11 bs bs' ∧ OwnZ w' (k1 + 1) 2 p F.length c (pcs F) ∧ (∀ ad, p = some ad → w11.heap.size ≤ ad.block ∧ ad.block ≠ d ∧ ad.block ∉ be' ∧ ad.block ∉ bs') ∧ Fr (d :: be ++ bs) w11 w' ∧ w11.heap.size ≤ w'.heap.size, L.length, ⟨0, [], be, bs, rfl, by omega, rfl, rfl, by simpa using h11, by simpa using ht, by simpa using hl, Grow.refl _ _, Grow.refl _ _, OwnZ.nil _ _ _, by simp, Fr.refl _ _, Nat.le_refl _⟩, ?_⟩
    rintro m85 p86 k87 c88 n89 w90 ⟨i, F, be', bs', rfl, hi, rfl, rfl, h90, ht90, hl90, gbe, gbs, oF, hF, F90, z90⟩
    have hSl : (S ++ F).length = S.length + F.length := List.length_append
    have hk1b : k1 ≠ d ∧ k1 ∉ be' ∧ k1 ∉ bs' := ⟨hk1n.1, fun hx => by
      rcases gbe _ hx with h1 | h1
      · exact hk1n.2.1 h1
      · omega, fun hx => by
      rcases gbs _ hx with h1 | h1
      · exact hk1n.2.2 h1
      · omega⟩
    have out7b : ∀ ad, p7 = some ad → ad.block ≠ d ∧ ad.block ∉ be' ∧ ad.block ∉ bs' := fun ad hp => ⟨(out7 ad hp).1, fun hx => by
      rcases gbe _ hx with h1 | h1
      · exact (out7 ad hp).2.1 h1
      · have := (low7 ad hp).2; omega, fun hx => by
      rcases gbs _ hx with h1 | h1
      · exact (out7 ad hp).2.2 h1
      · have := (low7 ad hp).2; omega⟩
    have r7 : ∀ {w' : World}, Fr (d :: be ++ bs) w11 w' → Row w' p7 (pcs L) := fun f => row_fr0 f oL.row fun ad hp _ hx => by
      rcases List.mem_append.1 hx with hx | hx
      · rcases List.mem_cons.1 hx with hx | hx
        · exact (out7 ad hp).1 hx
        · exact (out7 ad hp).2.1 hx
      · exact (out7 ad hp).2.2 hx
    -- frames
    have wide : ∀ {w' w'' : World} (be' bs' : List Nat), Grow w11 be be' → Grow w11 bs bs' → Fr (d :: be ++ bs) w11 w' → Fr (be' ++ bs') w' w'' → Fr (d :: be ++ bs) w11 w'' := fun be' bs' g1 g2 f f' => f.trans f' fun x hx => by
      rcases List.mem_append.1 hx with hx | hx
      · exact (g1 x hx).imp (fun h => List.mem_append_left _ (List.mem_cons_of_mem _ h)) id
      · exact (g2 x hx).imp (fun h => List.mem_append_right _ h) id
    refine bc (fun hlt => ?_) fun hge => ?_
    · have hlt : (i : Int) < (L.length : Int) := of_decide_eq_true hlt
      have hlt' : i < L.length := by omega
      obtain ⟨ad, hp, g⟩ := (r7 F90).atF flatP (by decide) hlt'
      have e0 : (i : Int).toNat * 2 = i * 2 := by omega
      refine ⟨ad, hp, ⟨by omega, hlt⟩, _, _, ⟨by rw [e0]; exact g 0 _ rfl, by rw [e0]; exact g 1 _ rfl, trivial⟩, fun k95 w96 s96 => ?_⟩
      have n96 := g_new1 s96
      have h96 := h90.old s96.fr
      have z96 := s96.fr.size
      have hLi : L[i] ∉ E ++ L.take i := fun hx => by
        rcases List.mem_append.1 hx with hx | hx
        · exact hLE2 _ (List.getElem_mem hlt') hx
        · obtain ⟨j, hj, e1⟩ := List.mem_take_iff_getElem.1 hx
          have := (List.getElem_inj hLn).1 e1
          omega
      refine (insert_c h96 L[i] (hLR _ (List.getElem_mem hlt')) (by omega) (by rw [List.length_append, List.length_take]; omega)).mono ?_
      rintro e98 w99 ⟨f99, p100, c102, F2, be2, bs2, rfl, oF2, hF2n, hF2, h99, g2e, g2s, hF2l, hF2o⟩
      rw [if_neg hLi, List.append_assoc, ← take_snoc hlt', List.append_assoc] at h99
      have z99 := f99.size
      have ht99 : IsTC (E ++ L.take (i + 1)) (S ++ (F ++ F2)) := ht90.add (p := L[i]) (fun q => by
        rw [take_snoc hlt', ← List.append_assoc, List.mem_append, List.mem_singleton]) (fun q => by
        rw [← List.append_assoc, List.mem_append (s := S ++ F), hF2]
        constructor
        · rintro (h1 | ⟨_, h1⟩)
          · exact .inl h1
          · exact .inr h1
        · rintro (h1 | h1)
          · exact .inl h1
          · by_cases h2 : q ∈ S ++ F
            · exact .inl h2
            · exact .inr ⟨h2, h1⟩)
      have gbe2 : Grow w11 be be2 := gbe.trans z90 (fun x hx => (g2e x hx).imp id fun h => (by omega : w90.heap.size ≤ x))
      have gbs2 : Grow w11 bs bs2 := gbs.trans z90 (fun x hx => (g2s x hx).imp id fun h => (by omega : w90.heap.size ≤ x))
      have hk95 : k95 ∉ be' ∧ k95 ∉ bs' := (h90.new n96.1).2
      have oF99 : OwnZ w99 (k1 + 1) 2 p86 F.length c88 (pcs F) := (oF.fr s96.fr (fun _ _ => by simp)).fr f99 (fun ad hp hx => by
        rcases List.mem_append.1 hx with hx | hx
        · exact (hF ad hp).2.2.1 hx
        · exact (hF ad hp).2.2.2 hx)
      have F99 : Fr (d :: be ++ bs) w11 w99 := wide be' bs' gbe gbs (F90.trans s96.fr (fun x hx => by cases hx)) f99
      refine ⟨p100, _, c102, rfl, g_keep f99 (fun x hx => ?_), pcs F2, pcs_len F2, oF2.row, ?_⟩
      · rcases List.mem_cons.1 hx with rfl | hx
        · exact ⟨by omega, fun hx => (List.mem_append.1 hx).elim hk1b.2.1 hk1b.2.2⟩
        · rw [List.mem_singleton.1 hx]; exact ⟨n96.2, fun hx => (List.mem_append.1 hx).elim hk95.1 hk95.2⟩
      refine append_z (B := k1 + 1) oF99 (pcs_len F2) (pcs_one F2) (by omega) rfl (fun _ => rfl) (by simp) (fun ad hp hx => ?_) (by omega) (by omega) fun w104 p105 c107 G104 _ o104 d104 => ?_
      · have h1 := (hF ad hp).1
        have h2 := (oF.lt hp).2
        rcases List.mem_cons.1 hx with hx | hx
        · omega
        · rw [List.mem_singleton.1 hx] at h2; omega
      have z104 := G104.size
      have el : F.length + F2.length = (F ++ F2).length := by rw [List.length_append]
      rw [el, ← pcs_app] at o104
      rw [el]
      have hF105 : ∀ ad, p105 = some ad → w11.heap.size ≤ ad.block ∧ ad.block ≠ d ∧ ad.block ∉ be2 ∧ ad.block ∉ bs2 := fun ad hp => by
        rcases d104 ad hp with h1 | ⟨h1, _⟩
        · have h2 := hF ad h1
          have h3 := (oF.lt h1).2
          refine ⟨h2.1, h2.2.1, fun hx => ?_, fun hx => ?_⟩
          · rcases g2e _ hx with h4 | h4
            · exact h2.2.2.1 h4
            · omega
          · rcases g2s _ hx with h4 | h4
            · exact h2.2.2.2 h4
            · omega
        · have := h99.new h1
          exact ⟨by omega, this⟩
      have pbo : ∀ x ∈ [] ++ pb p86, x ≠ d ∧ x ∉ be2 ∧ x ∉ bs2 ∧ w11.heap.size ≤ x := fun x hx => by
        rw [List.nil_append] at hx
        obtain ⟨ad, hp, rfl⟩ := (g_mem_pb _ _).1 hx
        have h2 := hF ad hp
        have h3 := (oF.lt hp).2
        refine ⟨h2.2.1, fun hx => ?_, fun hx => ?_, h2.1⟩
        · rcases g2e _ hx with h4 | h4
          · exact h2.2.2.1 h4
          · omega
        · rcases g2s _ hx with h4 | h4
          · exact h2.2.2.2 h4
          · omega
      have h104 : DAt w104 d lab e s be2 bs2 (E ++ L.take (i + 1)) (S ++ (F ++ F2)) := h99.fr G104 (fun hx => (pbo _ hx).1 rfl) (fun x hx hx2 => (pbo x hx2).2.1 hx) (fun x hx hx2 => (pbo x hx2).2.2.1 hx)
      have F104 : Fr (d :: be ++ bs) w11 w104 := F99.trans G104 fun x hx => .inr (pbo x hx).2.2.2
      obtain ⟨mf, mt, bf, bt, hsb, _⟩ := h104.sr.ex
      have hnS := h104.sr.nodup
      refine ⟨some ⟨s, 0, none⟩, h104.c2, ⟨s, 0, none⟩, rfl, ((S ++ (F ++ F2)).length : Int), by rw [add_mk, hsb.cell]; rfl, bc (fun hbig => ?_) fun hsm => ?_⟩
      · -- too many: all is taken back
        have hbig : (4000 : Int) < ((S ++ (F ++ F2)).length : Int) := of_decide_eq_true hbig
        have es : IntKind.wrap .i64 ((i : Int) + 1) = ((i + 1 : Nat) : Int) := by rw [wrapi (by omega) (by omega)]; simp
        have hc9 : L.length ≤ c9 := oL.2.1
        rw [es, subA_0]
        have e1 : Int.toNat ((i + 1 : Nat) : Int) - 0 = i + 1 := by omega
        rw [e1]
        have htl : (L.take (i + 1)).length = i + 1 := by rw [List.length_take]; omega
        refine ⟨⟨by omega, by omega, by omega⟩, fun m n w' => ∃ j : Nat, n = j ∧ j ≤ i + 1 ∧ m = i + 1 - j ∧ DAt w' d lab e s be2 bs2 (era (E ++ L.take (i + 1)) (L.take (i + 1)) j) (S ++ (F ++ F2)) ∧ Fr (d :: be ++ bs) w11 w' ∧ Fr be2 w104 w', i + 1, ⟨0, rfl, by omega, rfl, h104, F104, Fr.refl _ _⟩, ?_⟩
        rintro m113 n114 w115 ⟨j, rfl, hj, rfl, h115, F115, G115⟩
        have z115 := G115.size
        refine bc (fun hlt3 => ?_) fun hge3 => ?_
        · have hlt3 : (j : Int) < ((i + 1 : Nat) : Int) := of_decide_eq_true hlt3
          have hlt3' : j < (L.take (i + 1)).length := by omega
          have r115 : Row w115 p7 (pcs (L.take (i + 1))) := by
            have := (r7 F115).pre ((i + 1) * 2)
            rw [flatP.take] at this; exact this
          obtain ⟨ad3, hp3, g3⟩ := r115.atF flatP (by decide) hlt3'
          have e03 : (j : Int).toNat * 2 = j * 2 := by omega
          refine ⟨ad3, hp3, ⟨by omega, hlt3⟩, _, _, ⟨by rw [e03]; exact g3 0 _ rfl, by rw [e03]; exact g3 1 _ rfl, trivial⟩, fun k120 => ⟨some ⟨e, 0, none⟩, h115.c1, fun w122 s122 => ?_⟩⟩
          have n122 := g_new1 s122
          have h122 := h115.old s122.fr
          have hn120 := h115.new n122.1
          have z122 := s122.fr.size
          have hel : (era (E ++ L.take (i + 1)) (L.take (i + 1)) j).length ≤ 1000000000 := by
            have := len_era (S := E ++ L.take (i + 1)) (L := L.take (i + 1)) j
            rw [List.length_append] at this; omega
          refine (reldrop_c h122.er (L.take (i + 1))[j] hel).mono ?_
          rintro e124 w125 ⟨rfl, f125, er125⟩
          have hk1b2 : k1 ∉ be2 := fun hx => by
            rcases gbe2 _ hx with h1 | h1
            · exact hk1n.2.1 h1
            · omega
          refine ⟨_, rfl, g_keep f125 (fun x hx => ?_), i + 1 - (j + 1), by omega, j + 1, by rw [wrapi (by omega) (by omega)]; simp, by omega, rfl, ⟨h122.blk.imp fun _ hb => hb.fr f125 h115.de, by rw [era_succ hlt3']; exact er125, h122.sr.fr f125 (fun x hx hx2 => h115.dj x hx2 hx), h115.dj, h115.de, h115.ds⟩, (F115.trans s122.fr (fun x hx => by cases hx)).trans f125 (fun x hx => (gbe2 x hx).imp (fun h => List.mem_append_left _ (List.mem_cons_of_mem _ h)) id), (G115.trans s122.fr (fun x hx => by cases hx)).trans' f125⟩
          rcases List.mem_cons.1 hx with rfl | hx
          · exact ⟨by omega, hk1b2⟩
          · rw [List.mem_singleton.1 hx]; exact ⟨n122.2, hn120.2.1⟩
        have hge3 : ¬ (j : Int) < ((i + 1 : Nat) : Int) := of_decide_eq_false hge3
        have hj' : j = (L.take (i + 1)).length := by omega
        rw [hj'] at h115
        have hE3 := mem_era h104.er.nodup (L := L.take (i + 1)) (Nat.le_refl _)
        rw [List.take_length] at hE3
        have o115 : OwnZ w115 (k1 + 1) 2 p105 (F ++ F2).length c107 (pcs (F ++ F2)) := o104.fr G115 fun ad hp hx => (hF105 ad hp).2.2.1 hx
        have nE3 := h115.er.nodup
        generalize era (E ++ L.take (i + 1)) (L.take (i + 1)) (L.take (i + 1)).length = E3 at *
        refine ⟨fun m n w' => ∃ j : Nat, n = j ∧ j ≤ (F ++ F2).length ∧ m = (F ++ F2).length - j ∧ DAt w' d lab e s be2 bs2 E3 (era (S ++ (F ++ F2)) (F ++ F2) j) ∧ Fr (d :: be ++ bs) w11 w' ∧ Fr bs2 w115 w', (F ++ F2).length, ⟨0, rfl, by omega, rfl, h115, F115, Fr.refl _ _⟩, ?_⟩
        rintro m130 n131 w132 ⟨q, rfl, hq, rfl, h132, F132, G132⟩
        have z132 := G132.size
        have hFl : (F ++ F2).length ≤ 30000000 := by rw [List.length_append]; omega
        have hk1b3 : k1 ∉ bs2 := fun hx => by
          rcases gbs2 _ hx with h1 | h1
          · exact hk1n.2.2 h1
          · omega
        have hk1b2 : k1 ∉ be2 := fun hx => by
          rcases gbe2 _ hx with h1 | h1
          · exact hk1n.2.1 h1
          · omega
        refine bc (fun hlt4 => ?_) fun hge4 w145 s145 => ?_
        · have hlt4 : (q : Int) < ((F ++ F2).length : Int) := of_decide_eq_true hlt4
          have hlt4' : q < (F ++ F2).length := by omega
          have r132 : Row w132 p105 (pcs (F ++ F2)) := row_fr0 G132 o115.row fun ad hp _ hx => (hF105 ad hp).2.2.2 hx
          obtain ⟨ad4, hp4, g4⟩ := r132.atF flatP (by decide) hlt4'
          have e04 : (q : Int).toNat * 2 = q * 2 := by omega
          refine ⟨ad4, hp4, ⟨by omega, hlt4⟩, _, _, ⟨by rw [e04]; exact g4 0 _ rfl, by rw [e04]; exact g4 1 _ rfl, trivial⟩, fun k137 => ⟨some ⟨s, 0, none⟩, h132.c2, fun w139 s139 => ?_⟩⟩
          have n139 := g_new1 s139
          have h139 := h132.old s139.fr
          have hn137 := h132.new n139.1
          have z139 := s139.fr.size
          have hel : (era (S ++ (F ++ F2)) (F ++ F2) q).length ≤ 1000000000 := by
            have := len_era (S := S ++ (F ++ F2)) (L := F ++ F2) q
            rw [List.length_append] at this; omega
          refine (reldrop_c h139.sr (F ++ F2)[q] hel).mono ?_
          rintro e141 w142 ⟨rfl, f142, sr142⟩
          refine ⟨_, rfl, g_keep f142 (fun x hx => ?_), (F ++ F2).length - (q + 1), by omega, q + 1, by rw [wrapi (by omega) (by omega)]; simp, by omega, rfl, ⟨h139.blk.imp fun _ hb => hb.fr f142 h132.ds, h139.er.fr f142 (fun x hx hx2 => h132.dj x hx hx2), by rw [era_succ hlt4']; exact sr142, h132.dj, h132.de, h132.ds⟩, (F132.trans s139.fr (fun x hx => by cases hx)).trans f142 (fun x hx => (gbs2 x hx).imp (fun h => List.mem_append_right _ h) id), (G132.trans s139.fr (fun x hx => by cases hx)).trans' f142⟩
          rcases List.mem_cons.1 hx with rfl | hx
          · exact ⟨by omega, hk1b3⟩
          · rw [List.mem_singleton.1 hx]; exact ⟨n139.2, hn137.2.2⟩
        · have hge4 : ¬ (q : Int) < ((F ++ F2).length : Int) := of_decide_eq_false hge4
          have hq' : q = (F ++ F2).length := by omega
          rw [hq'] at h132
          have hS3 := mem_era hnS (L := F ++ F2) (Nat.le_refl _)
          rw [List.take_length] at hS3
          have nS3 := h132.sr.nodup
          generalize era (S ++ (F ++ F2)) (F ++ F2) (F ++ F2).length = S3 at *
          have hSm : ∀ x, x ∈ S3 ↔ x ∈ S := fun x => by
            rw [hS3, List.mem_append]
            constructor
            · rintro ⟨h1 | h1, h2⟩
              · exact h1
              · exact absurd h1 h2
            · intro h1
              refine ⟨.inl h1, fun h2 => ?_⟩
              rw [List.nodup_append] at hnS
              exact hnS.2.2 x h1 x h2 rfl
          have hEm : ∀ x, x ∈ E3 ↔ x ∈ E := fun x => by
            rw [hE3, List.mem_append]
            constructor
            · rintro ⟨h1 | h1, h2⟩
              · exact h1
              · exact absurd h1 h2
            · intro h1
              exact ⟨.inl h1, fun h2 => hLE2 x (List.mem_of_mem_take h2) h1⟩
          have f145 := s145.fr
          have h145 : DAt w145 d lab e s be2 bs2 E3 S3 := h132.fr f145 (by simpa using hk1n.1.symm) (fun x hx hx2 => hk1b2 (by rw [← List.mem_singleton.1 hx2]; exact hx)) (fun x hx hx2 => hk1b3 (by rw [← List.mem_singleton.1 hx2]; exact hx))
          refine ⟨((F11.mono (G := d :: be ++ bs) fun x hx => by cases hx).trans' F132).trans f145 (fun x hx => .inr (by rw [List.mem_singleton.1 hx]; exact hk1)), 5, none, none, [], [], be2, bs2, E3, S3, rfl, ⟨h145, (ht.congr fun p => (hEm p).symm).congrS fun p => (hSm p).symm, ?_, ?_, fun x hx => (gbe2 x hx).imp id fun h => (by omega), fun x hx => (gbs2 x hx).imp id fun h => (by omega), SetAt.nil _, SetAt.nil _, within_nil _ _, within_nil _ _, out_nil _, out_nil _, .inr ⟨by decide, rfl, rfl, hEm, hSm, .inr ⟨rfl, hadd, _, _, fun q hq => ?_, ht99, hnS, by omega⟩⟩⟩⟩
          · exact Nat.le_trans (sub_len nS3 fun x hx => (hSm x).1 hx) hl
          · exact Nat.le_trans (sub_len nE3 fun x hx => (hEm x).1 hx) (by omega)
          · exact (List.mem_append.1 hq).imp id fun h => List.mem_of_mem_take h
      · have hsm : ¬ (4000 : Int) < ((S ++ (F ++ F2)).length : Int) := of_decide_eq_false hsm
        exact ⟨L.length - (i + 1), by omega, i + 1, F ++ F2, be2, bs2, by rw [wrapi (by omega) (by omega)]; simp, by omega, rfl, rfl, h104, ht99, by omega, gbe2, gbs2, o104, hF105, F104, by omega⟩
    · have hge : ¬ (i : Int) < (L.length : Int) := of_decide_eq_false hge
      rw [List.take_of_length_le (show L.length ≤ i by omega)] at h90 ht90
      obtain ⟨over, bd⟩ := h90.blk
      refine ⟨_, by rw [add_mk]; exact bd, by rw [add_mk], by rw [add_mk]; show 0 + 3 + 1 ≤ 4; omega, by rw [add_mk]; show ¬ d ∈ [k1]; rw [List.mem_singleton]; exact hk1n.1.symm, fun w149 u149 => ?_⟩
      rw [add_mk] at u149
      have u149 : Upd w90 w149 d _ := u149
      have f149 := u149.fr
      have h149 : DAt w149 d lab e s be' bs' (E ++ L) (S ++ F) := ⟨⟨_, u149.blk⟩, h90.er.fr f149 (fun x hx hx2 => h90.de (by rw [← List.mem_singleton.1 hx2]; exact hx)), h90.sr.fr f149 (fun x hx hx2 => h90.ds (by rw [← List.mem_singleton.1 hx2]; exact hx)), h90.dj, h90.de, h90.ds⟩
      have oF149 := oF.fr f149 (fun ad hp hx => (hF ad hp).2.1 (List.mem_singleton.1 hx))
      have hnS := h90.sr.nodup
      have hFn : F.Nodup := (List.nodup_append.1 hnS).2.1
      refine (tuples_c oF149.row hFn (by omega)).mono ?_
      rintro e151 w152 ⟨f152, p153, Z, rfl, setZ, hZ, hin⟩
      have z149 := f149.size
      have z152 := f152.size
      refine ⟨_, _, _, rfl, keepF f152 (by simp; omega), fun w156 s156 => ?_⟩
      have f156 := s156.fr
      have z156 := f156.size
      have h152 := h149.old f152
      have h156 : DAt w156 d lab e s be' bs' (E ++ L) (S ++ F) := h152.fr f156 (by simpa using hk1n.1.symm) (fun x hx hx2 => hk1b.2.1 (by rw [← List.mem_singleton.1 hx2]; exact hx)) (fun x hx hx2 => hk1b.2.2 (by rw [← List.mem_singleton.1 hx2]; exact hx))
      have hin156 : Within w.heap.size w156.heap.size p153 Z := ⟨fun ad hp => by have := hin.1 ad hp; omega, fun z hz => by have := hin.2 z hz; omega⟩
      have hlt : ∀ x ∈ d :: be' ++ bs', x < w149.heap.size := fun x hx => by
        rcases List.mem_append.1 hx with hx | hx
        · rcases List.mem_cons.1 hx with rfl | hx
          · exact h149.dlt
          · exact h149.er.lt x hx
        · exact h149.sr.lt x hx
      refine ⟨(((F11.mono (G := d :: be ++ bs) fun x hx => by cases hx).trans' F90).trans f149 (fun x hx => .inl (by rw [List.mem_singleton.1 hx]; exact List.mem_append_left _ List.mem_cons_self)) |>.trans f152 (fun x hx => by cases hx)).trans f156 (fun x hx => .inr (by rw [List.mem_singleton.1 hx]; exact hk1)), 0, p153, none, Z, [], be', bs', E ++ L, S ++ F, rfl, ⟨h156, ht90, hl90, by rw [List.length_append]; exact Nat.le_refl _, fun x hx => (gbe x hx).imp id fun h => (by omega), fun x hx => (gbs x hx).imp id fun h => (by omega), setZ.fr f156 (hin.out fun x hx => .inl (by rw [List.mem_singleton.1 hx]; omega)), SetAt.nil _, hin156, within_nil _ _, hin.out fun x hx => .inl (hlt x hx), out_nil _, .inl ⟨rfl, hok, fun q => ?_, fun x => ?_, fun x => ?_, fun _ q hq => List.mem_append_left _ hq, fun h => ?_⟩⟩⟩
      · rw [if_pos hadd, List.mem_append]
      · rw [hZ, List.mem_append]
        constructor
        · intro h1
          refine ⟨hadd, .inr h1, fun h2 => ?_⟩
          rw [List.nodup_append] at hnS
          exact hnS.2.2 x h2 x h1 rfl
        · rintro ⟨_, h1 | h1, h2⟩
          · exact absurd h1 h2
          · exact h1
      · rw [hadd]; simp
      · rw [hadd] at h; cases h
end
end Go.Proofs.Ytnplopiconabiaa.Dred

end
section
/- Dred: what holds awake; few. -/
namespace Go.Proofs.Ytnplopiconabiaa.Dred
open Go Go.V
open Go.Proofs.Ytnplopiconabiaa.VC
open Go.Proofs.Ytnplopiconabiaa.Span
open Go.Proofs.Try (prog)
set_option linter.unusedVariables false
set_option linter.unusedSimpArgs false
set_option maxRecDepth 20000

/-- A dred in memory, with what is known of it. -/
structure Dr (w : World) (B d : Nat) (lab : ByteArray) (E S : List PI) : Prop where
  ex : ∃ e s be bs, DAt w d lab e s be bs E S ∧ (∀ x ∈ be, B ≤ x) ∧ ∀ x ∈ bs, B ≤ x
  low : B ≤ d
  tc : IsTC E S
  small : S.length ≤ 4000
theorem rowE {w : World} {k : Nat} {D : List EG} (h : Blk w k (D.flatMap gcell)) : Row w (some ⟨k, 0, none⟩) (D.flatMap gcell) :=
  Row.of_blk (off := 0) h (fun j u hj => by rw [Nat.zero_add]; exact hj) (fun u hu => by
    obtain ⟨e, _, he⟩ := List.mem_flatMap.1 hu
    exact flatG.2 e u he)
theorem len_eq {Z : List ZP} {L : List PI} (h : (Z.map (·.2)).Pairwise plt) (hn : L.Nodup) (e : ∀ x, x ∈ Z.map (·.2) ↔ x ∈ L) : Z.length = L.length := by
  have := ((List.perm_ext_iff_of_nodup (nodup_plt h) hn).2 e).length_eq
  simpa using this
theorem tc_few' {D : List EG} {lab : ByteArray} (h : D.length ≤ 60) : ∀ X : List PI, X.Nodup → (∀ x ∈ X, Span.Reach (succs D lab) x.1 x.2) → X.length ≤ 4000 := fun X hn hx => by
  have := few hn hx
  have : D.length * D.length ≤ 60 * 60 := Nat.mul_le_mul h h
  omega
abbrev DW : List EG := [⟨1, labA, 2⟩, ⟨2, labA, 3⟩, ⟨1, labA, 4⟩, ⟨4, labA, 3⟩]
theorem tc_mem {E : List PI} {P : List PI} (hP : ∀ p ∈ E, p ∈ P) (hc : ∀ p ∈ P, ∀ q ∈ E, p.2 = q.1 → ((p.1, q.2) : PI) ∈ P) (hs : ∀ p ∈ P, TC E p.1 p.2) (p : PI) : TC E p.1 p.2 ↔ p ∈ P := by
  refine ⟨fun h => ?_, hs p⟩
  obtain ⟨a, b⟩ := p
  replace h : TC E a b := h
  show ((a, b) : PI) ∈ P
  induction h with
  | one h => exact hP _ (mem_succE.1 h)
  | more _ h ih => exact hc _ ih _ (mem_succE.1 h) rfl
theorem inR_small {n : Int} (h : -1000000 ≤ n ∧ n ≤ 1000000) : inR n := by unfold inR; omega

set_option maxHeartbeats 1000000 in
theorem awakeD_c (w : World) : Calls prog 26 #[] w fun e w' => e = .returned (.bool true) ∧ Fr [] w w' := by
  refine rhizomelaw14_awake.link (_u := ()) fun k1 w2 s2 b2 => ?_
  have n1 := g_new1 s2
  have b2 : Blk w2 k1 (DW.flatMap gcell) := b2
  have hrow := rowE b2
  have hR : ∀ x ∈ DW, inR x.f ∧ inR x.t := fun x hx => by
    simp at hx
    rcases hx with rfl | rfl | rfl | rfl <;> exact ⟨inR_small (by decide), inR_small (by decide)⟩
  refine (new_c (lab := labA) (eC := 4) hrow (by simp) hR labA_ok (tc_few' (by simp))).mono ?_
  rintro e5 w6 ⟨f6, d, e, s, be, bs, E, S, rfl, h6, hE, htc, hS4, lowbe, lowbs, lowd, hEl⟩
  have hE' : ∀ p, p ∈ E ↔ p ∈ ([(1, 2), (2, 3), (1, 4), (4, 3)] : List PI) := fun p => by rw [hE]; rfl
  have F6 := s2.fr.trans' f6
  refine ⟨_, _, rfl, fun y9 h9 => bF rfl (h9 _ _ (bF rfl fun k12 w13 s13 b13 => ?_))⟩
  have b13 : Blk w13 k12 (([⟨2, labA, 3⟩] : List EG).flatMap gcell) := b13
  have h13 := h6.old s13.fr
  have hE10 : E.length ≤ 4 := by simpa using hEl
  have hR1 : ∀ x ∈ ([⟨2, labA, 3⟩] : List EG), inR x.f ∧ inR x.t := fun x hx => by rw [List.mem_singleton.1 hx]; exact ⟨inR_small (by decide), inR_small (by decide)⟩
  have hlab1 : labP [⟨2, labA, 3⟩] labA = [(2, 3)] := rfl
  have c1 := do_c (eC := 1) h13 htc hS4 (by omega) (rowE b13) (by simp) hR1 false (fun _ => by rw [hlab1]; decide)
  rw [hlab1] at c1
  refine c1.mono ?_
  rintro e16 w17 ⟨f17, code, pA, pD, ZA, ZD, be1, bs1, E1, S1, rfl, hd⟩
  have hok : Okay false E [(2, 3)] := ⟨by decide, fun p hp => by rw [List.mem_singleton.1 hp, hE']; simp⟩
  rcases hd.said with ⟨rfl, _, hE1, hA, hD, _, hsub⟩ | ⟨_, _, _, _, _, hno | ⟨_, h, _⟩⟩
  rotate_left
  · exact absurd hok hno
  · cases h
  have hE1' : ∀ p, p ∈ E1 ↔ p ∈ ([(1, 2), (1, 4), (4, 3)] : List PI) := fun p => by
    rw [hE1, if_neg (by simp), hE']
    simp
    obtain ⟨a, b⟩ := p
    simp
    omega
  have hTC0 : ∀ p, p ∈ S ↔ p ∈ ([(1, 2), (2, 3), (1, 4), (4, 3), (1, 3)] : List PI) := fun p => by
    rw [htc]
    have key := tc_mem (E := [(1, 2), (2, 3), (1, 4), (4, 3)]) (P := [(1, 2), (2, 3), (1, 4), (4, 3), (1, 3)]) (by decide) (by decide) (fun p hp => by
      simp at hp
      rcases hp with rfl | rfl | rfl | rfl | rfl
      · exact TC.edge (by simp)
      · exact TC.edge (by simp)
      · exact TC.edge (by simp)
      · exact TC.edge (by simp)
      · exact (TC.edge (a := 1) (b := 2) (by simp)).trans (TC.edge (by simp))) p
    rw [← key]
    exact ⟨TC.mono fun q hq => (hE' q).1 hq, TC.mono fun q hq => (hE' q).2 hq⟩
  have hTC1 : ∀ p, p ∈ S1 ↔ p ∈ ([(1, 2), (1, 4), (4, 3), (1, 3)] : List PI) := fun p => by
    rw [hd.tc]
    have key := tc_mem (E := [(1, 2), (1, 4), (4, 3)]) (P := [(1, 2), (1, 4), (4, 3), (1, 3)]) (by decide) (by decide) (fun p hp => by
      simp at hp
      rcases hp with rfl | rfl | rfl | rfl
      · exact TC.edge (by simp)
      · exact TC.edge (by simp)
      · exact TC.edge (by simp)
      · exact (TC.edge (a := 1) (b := 4) (by simp)).trans (TC.edge (by simp))) p
    rw [← key]
    exact ⟨TC.mono fun q hq => (hE1' q).1 hq, TC.mono fun q hq => (hE1' q).2 hq⟩
  have hZD : ZD.length = 1 := by
    have := len_eq (L := [(2, 3)]) hd.setD.sort (by decide) fun x => by
      rw [hD, hTC0, hTC1]
      obtain ⟨a, b⟩ := x
      simp
      omega
    simpa using this
  have hZA : ZA.length = 0 := by
    cases ZA with
    | nil => rfl
    | cons z Z => exact absurd ((hA z.2).1 (by simp)).1 (by simp)
  have F13 := F6.trans' s13.fr
  have F17 : Fr [] w w17 := F13.trans f17 (fun x hx => .inr (by
    have := s2.fr.size
    rcases List.mem_append.1 hx with hx | hx
    · rcases List.mem_cons.1 hx with rfl | hx
      · omega
      · have := lowbe x hx; omega
    · have := lowbs x hx; omega))
  refine ⟨_, _, _, _, _, _, _, rfl, fun k25 k26 w27 s27 b27 => ?_⟩
  have n27 := g_new2 s27
  have b27 : Blk w27 k26 (([⟨4, labA, 3⟩] : List EG).flatMap gcell) := b27
  have h27 := hd.at'.old s27.fr
  have hlab2 : labP [⟨4, labA, 3⟩] labA = [(4, 3)] := rfl
  have hR2 : ∀ x ∈ ([⟨4, labA, 3⟩] : List EG), inR x.f ∧ inR x.t := fun x hx => by rw [List.mem_singleton.1 hx]; exact ⟨inR_small (by decide), inR_small (by decide)⟩
  have hE1l : E1.length ≤ 5 := by have := hd.elen; simp at this; omega
  have c2 := do_c (eC := 1) h27 hd.tc hd.small (by omega) (rowE b27) (by simp) hR2 false (fun _ => by rw [hlab2]; decide)
  rw [hlab2] at c2
  refine c2.mono ?_
  rintro e30 w31 ⟨f31, code, pA2, pD2, ZA2, ZD2, be2, bs2, E2, S2, rfl, hd2⟩
  have hok2 : Okay false E1 [(4, 3)] := ⟨by decide, fun p hp => by rw [List.mem_singleton.1 hp, hE1']; simp⟩
  rcases hd2.said with ⟨rfl, _, hE2, hA2, hD2, _, hsub2⟩ | ⟨_, _, _, _, _, hno | ⟨_, h, _⟩⟩
  rotate_left
  · exact absurd hok2 hno
  · cases h
  have hE2' : ∀ p, p ∈ E2 ↔ p ∈ ([(1, 2), (1, 4)] : List PI) := fun p => by
    rw [hE2, if_neg (by simp), hE1']
    simp
    obtain ⟨a, b⟩ := p
    simp
    omega
  have hTC2 : ∀ p, p ∈ S2 ↔ p ∈ ([(1, 2), (1, 4)] : List PI) := fun p => by
    rw [hd2.tc]
    have key := tc_mem (E := [(1, 2), (1, 4)]) (P := [(1, 2), (1, 4)]) (by decide) (by decide) (fun p hp => by
      simp at hp
      rcases hp with rfl | rfl
      · exact TC.edge (by simp)
      · exact TC.edge (by simp)) p
    rw [← key]
    exact ⟨TC.mono fun q hq => (hE2' q).1 hq, TC.mono fun q hq => (hE2' q).2 hq⟩
  have hZD2 : ZD2.length = 2 := by
    have := len_eq (L := [(4, 3), (1, 3)]) hd2.setD.sort (by decide) fun x => by
      rw [hD2, hTC1, hTC2]
      obtain ⟨a, b⟩ := x
      simp
      omega
    simpa using this
  have lowbe1 : ∀ x ∈ be1, w.heap.size ≤ x := fun x hx => by
    have z2 := s2.fr.size
    have z13 := F13.size
    rcases hd.gbe x hx with h1 | h1
    · have := lowbe x h1; omega
    · omega
  have lowbs1 : ∀ x ∈ bs1, w.heap.size ≤ x := fun x hx => by
    have z2 := s2.fr.size
    have z13 := F13.size
    rcases hd.gbs x hx with h1 | h1
    · have := lowbs x h1; omega
    · omega
  have hk25 := hd.at'.new n27.2.2.1
  have F31 : Fr [] w w31 := (F17.trans' s27.fr).trans f31 (fun x hx => .inr (by
    have := s2.fr.size
    rcases List.mem_append.1 hx with hx | hx
    · rcases List.mem_cons.1 hx with rfl | hx
      · omega
      · exact lowbe1 x hx
    · exact lowbs1 x hx))
  refine ⟨_, _, _, _, _, _, _, rfl, g_keep f31 (fun x hx => ?_), fun k39 y40 h40 => bT rfl (bT (by rw [hZD]; rfl) (bT (by rw [hZA]; rfl) (bT rfl fun w45 s45 => h40 _ _ ⟨by rw [hZD2]; rfl, F31.trans' s45.fr⟩)))⟩
  rw [List.mem_singleton.1 hx]
  refine ⟨n27.2.2.2.1, fun hx => ?_⟩
  rcases List.mem_append.1 hx with hx | hx
  · rcases List.mem_cons.1 hx with hx | hx
    · exact hk25.1 hx
    · exact hk25.2.1 hx
  · exact hk25.2.2 hx
end Go.Proofs.Ytnplopiconabiaa.Dred

end
section
/- Dred: deltas turned, compared, empty; few; scripts. -/
namespace Go.Proofs.Ytnplopiconabiaa.Dred
open Go Go.V
open Go.Proofs.Ytnplopiconabiaa.VC
open Go.Proofs.Ytnplopiconabiaa.Span
open Go.Proofs.Try (prog)
set_option linter.unusedVariables false
set_option linter.unusedSimpArgs false
set_option maxRecDepth 20000

abbrev sl (p : Option Addr) (n c : Nat) : Value := .slice p n c
theorem empty_c (w : World) (pA pD : Option Addr) (nA cA nD cD : Nat) (h : nA + nD < 1000000) : Calls prog 33 #[.agg #[sl pA nA cA, sl pD nD cD]] w fun e w' => e = .returned (.bool (decide (nA + nD = 0))) ∧ Fr [] w w' := by
  refine tuple_Empty.link fun k1 w2 s2 => ⟨?_, s2.fr⟩
  rw [wrapi (by omega) (by omega)]
  congr 2
  exact decide_eq_decide.2 (by omega)
/-- A copy of a set. -/
theorem back_c {w : World} {pA pD : Option Addr} {cA cD : Nat} {ZA ZD : List ZP} (hA : SetAt w pA ZA) (hD : SetAt w pD ZD) (lA : ZA.length ≤ 100000) (lD : ZD.length ≤ 100000) :
    Calls prog 32 #[.agg #[sl pA ZA.length cA, sl pD ZD.length cD]] w fun e w' => Fr [] w w' ∧ ∃ (p q : Option Addr) (c c' : Nat) (Z Z' : List ZP), e = .returned (.agg #[sl p Z.length c, sl q Z'.length c']) ∧ SetAt w' p Z ∧ SetAt w' q Z' ∧ Z.map (·.2) = ZD.map (·.2) ∧ Z'.map (·.2) = ZA.map (·.2) := by
  refine tuple_Back.link fun k1 k2 w3 s3 => ?_
  have n3 := g_new2 s3
  have hA3 := hA.old s3.fr
  have hD3 := hD.old s3.fr
  have kk : ∀ {v' : World}, w3.heap.size ≤ v'.heap.size → ∀ x ∈ [k1, k2], x < v'.heap.size := fun hz x hx => by
    rcases List.mem_cons.1 hx with rfl | hx
    · omega
    · rw [List.mem_singleton.1 hx]; omega
  refine (own_c hD3.row hD3.tups lD).mono ?_
  rintro e5 w6 ⟨f6, p7, c9, Z, rfl, o6, _, hZ, t6, low6⟩
  have hl : Z.length = ZD.length := by simpa using congrArg List.length hZ
  have hA6 := hA3.old f6
  rw [← hl]
  refine ⟨_, _, _, rfl, keepF f6 (kk (Nat.le_refl _)), (own_c hA6.row hA6.tups lA).mono ?_⟩
  rintro e10 w11 ⟨f11, p12, c14, Z', rfl, o11, _, hZ', t11, low11⟩
  have hl' : Z'.length = ZA.length := by simpa using congrArg List.length hZ'
  rw [← hl']
  have z6 := f6.size
  have z11 := f11.size
  refine ⟨_, _, _, rfl, keepF f11 (kk f6.size), fun w15 s15 => ?_⟩
  have f15 := s15.fr
  have r6 : SetAt w11 p7 Z := ⟨o6.1.row.old f11, fun z hz => (t6 z hz).fr f11 (by simp), by rw [hZ]; exact hD.sort⟩
  rw [← hl] at o6
  rw [← hl'] at o11
  have r11 : SetAt w11 p12 Z' := ⟨o11.1.row, t11, by rw [hZ']; exact hA.sort⟩
  refine ⟨(s3.fr.trans' (f6.trans' f11)).trans f15 (fun x hx => .inr (by rw [List.mem_singleton.1 hx]; omega)), p7, p12, c9, c14, Z, Z', rfl, r6.fr f15 ⟨fun ad hp hx => ?_, fun z hz hx => ?_⟩, r11.fr f15 ⟨fun ad hp hx => ?_, fun z hz hx => ?_⟩, hZ, hZ'⟩
  · have := (o6.1.lt hp).1; rw [List.mem_singleton.1 hx] at this; omega
  · have := low6 z hz; rw [List.mem_singleton.1 hx] at this; omega
  · have := (o11.1.lt hp).1; rw [List.mem_singleton.1 hx] at this; omega
  · have := low11 z hz; rw [List.mem_singleton.1 hx] at this; omega
theorem sameD_c {w : World} {pA pD qA qD : Option Addr} {cA cD cA' cD' : Nat} {ZA ZD YA YD : List ZP} (hA : SetAt w pA ZA) (hD : SetAt w pD ZD) (hA' : SetAt w qA YA) (hD' : SetAt w qD YD) (l1 : ZA.length ≤ 100000) (l2 : ZD.length ≤ 100000) (e1 : ZA.map (·.2) = YA.map (·.2)) (e2 : ZD.map (·.2) = YD.map (·.2)) :
    Calls prog 31 #[.agg #[sl pA ZA.length cA, sl pD ZD.length cD], .agg #[sl qA YA.length cA', sl qD YD.length cD']] w fun e w' => e = .returned (.bool true) ∧ Fr [] w w' := by
  refine rhizomeref10_SameDelta.link fun k1 k2 y3 h3 w8 s8 => ?_
  have n8 := g_new2 s8
  have kk : ∀ {v' : World}, w8.heap.size ≤ v'.heap.size → ∀ x ∈ [k1, k2], x < v'.heap.size := fun hz x hx => by
    rcases List.mem_cons.1 hx with rfl | hx
    · omega
    · rw [List.mem_singleton.1 hx]; omega
  have a1 := hA.old s8.fr
  have a2 := hA'.old s8.fr
  refine (same_c a1.row a1.tups a2.row a2.tups (by omega)).mono ?_
  rintro e10 w11 ⟨rfl, f11⟩
  have b1 := (hD.old s8.fr).old f11
  have b2 := (hD'.old s8.fr).old f11
  rw [decide_eq_true e1]
  refine ⟨_, rfl, keepF f11 (kk (Nat.le_refl _)), bT rfl ((same_c b1.row b1.tups b2.row b2.tups (by omega)).mono ?_)⟩
  rintro e13 w14 ⟨rfl, f14⟩
  rw [decide_eq_true e2]
  exact ⟨_, rfl, keepF f14 (kk f11.size), h3 _ _ ⟨rfl, s8.fr.trans' (f11.trans' f14)⟩⟩
/-- One act of a script: where its edges lie, their capacity, the edges; whether they come. -/
abbrev OpM := Option Addr × Nat × List EG × Bool
def ocell (o : OpM) : List Value := [sl o.1 o.2.2.1.length o.2.1, .bool o.2.2.2]
theorem flatO : Flat ocell 2 := ⟨fun _ => rfl, fun a u hu => by simp [ocell] at hu; rcases hu with rfl | rfl <;> rfl⟩
def sumO : List OpM → Nat
  | [] => 0
  | o :: Z => o.2.2.1.length + sumO Z
theorem sumO_app : ∀ (A B : List OpM), sumO (A ++ B) = sumO A + sumO B
  | [], B => by simp [sumO]
  | o :: A, B => by
    have := sumO_app A B
    simp only [List.cons_append, sumO, this]; omega
theorem sumO_le {o : OpM} : ∀ {Z : List OpM}, o ∈ Z → o.2.2.1.length ≤ sumO Z
  | a :: Z, h => by
    rcases List.mem_cons.1 h with rfl | h
    · simp [sumO]
    · have := sumO_le h
      simp only [sumO]; omega
theorem few_c {w : World} {lab : ByteArray} {eA : Option Addr} {eL eC : Nat} {sA : Option Addr} {sC : Nat} {Z : List OpM} (hs : Row w sA (Z.flatMap ocell)) (hl : ∀ o ∈ Z, o.2.2.1.length ≤ 140737488355328) (heL : eL ≤ 140737488355328) (hZ : Z.length ≤ 140737488355328) :
    Calls prog 27 #[.string lab, .slice eA eL eC, .slice sA Z.length sC] w fun e w' => (∃ b : Bool, e = .returned (.bool b) ∧ (b = true → eL ≤ 20 ∧ Z.length ≤ 12 ∧ eL + sumO Z ≤ 40)) ∧ w' = w := by
  refine rhizomelaw14_few.link ⟨fun m n4 n5 w' => ∃ i : Nat, n5 = i ∧ i ≤ Z.length ∧ m = Z.length - i ∧ (i ≤ 12 → n4 = ((eL + sumO (Z.take i) : Nat) : Int)) ∧ (i ≤ 12 → sumO (Z.take i) ≤ i * 140737488355328) ∧ w' = w, Z.length, ⟨0, rfl, by omega, rfl, by simp [sumO], by simp [sumO], rfl⟩, ?_⟩
  rintro m n4 n5 w6 ⟨i, rfl, hi, rfl, hn, hsum, rfl⟩
  refine bc (fun hlt => ?_) fun hge => ?_
  · have hlt : (i : Int) < (Z.length : Int) := of_decide_eq_true hlt
    have hlt' : i < Z.length := by omega
    obtain ⟨ad, hp, g⟩ := hs.atF flatO (by decide) hlt'
    have e0 : (i : Int).toNat * 2 = i * 2 := by omega
    have hli := hl _ (List.getElem_mem hlt')
    refine ⟨ad, hp, ⟨by omega, hlt⟩, Z[i].1, Z[i].2.2.1.length, Z[i].2.1, by rw [e0]; exact g 0 _ rfl, Z.length - (i + 1), by omega, i + 1, by rw [wrapi (by omega) (by omega)]; simp, by omega, rfl, fun h12 => ?_, fun h12 => ?_, rfl⟩
    · have h1 := hn (by omega)
      have h2 := hsum (by omega)
      rw [take_snoc hlt', sumO_app]
      have h3 : sumO [Z[i]] = Z[i].2.2.1.length := by simp [sumO]
      have h4 : i * 140737488355328 ≤ 12 * 140737488355328 := Nat.mul_le_mul_right _ (by omega)
      rw [h1, wrapi (by omega) (by omega), h3]
      omega
    · have h2 := hsum (by omega)
      rw [take_snoc hlt', sumO_app]
      have h3 : sumO [Z[i]] = Z[i].2.2.1.length := by simp [sumO]
      rw [h3, Nat.succ_mul]
      omega
  · have hge : ¬ (i : Int) < (Z.length : Int) := of_decide_eq_false hge
    rw [List.take_of_length_le (show Z.length ≤ i by omega)] at hn
    intro y13 h13
    have no : y13 false w6 := h13 _ _ ⟨⟨false, rfl, fun h => by cases h⟩, rfl⟩
    refine bc (fun _ => bc (fun h20 => bc (fun h12 => h13 _ _ ⟨⟨_, rfl, fun h40 => ?_⟩, rfl⟩) fun _ => no) fun _ => no) fun _ => no
    have h20 : (eL : Int) ≤ 20 := of_decide_eq_true h20
    have h12 : (Z.length : Int) ≤ 12 := of_decide_eq_true h12
    have h40 : n4 ≤ 40 := of_decide_eq_true h40
    have := hn (by omega)
    omega
end Go.Proofs.Ytnplopiconabiaa.Dred

end
