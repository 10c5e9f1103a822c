/- Rows of one's own that begin behind their block's first cell (a queue cut at its head). -/
import Derived.Test.YtnplopiconabiaaU10
namespace Go.V
open Go.RowKit
set_option linter.unusedVariables false
set_option linter.unusedSimpArgs false
theorem spl_mid (A X Y B : List Value) (h : X.length = Y.length) : spl (A ++ X ++ B) A.length Y = A ++ Y ++ B := by
  unfold spl
  have e1 : (A ++ X ++ B).take A.length = A := by rw [List.append_assoc, List.take_left]
  have e2 : (A ++ X ++ B).drop (A.length + Y.length) = B := by rw [← h, ← List.length_append, List.drop_left]
  rw [e1, e2]
theorem sets_mid (A X Y B : List Value) (h : X.length = Y.length) : sets (A ++ X ++ B) A.length Y = A ++ Y ++ B := by
  rw [sets_eq _ _ _ (by simp; omega), spl_mid _ _ _ _ h]
def OwnO (w : World) (B : Nat) (p : Option Addr) (l c : Nat) (xs : List Value) : Prop :=
  xs.length = l ∧ l ≤ c ∧ (∀ u ∈ xs, u.oneCell' = true) ∧ ((p = none ∧ c = 0) ∨ ∃ b ys zs, p = some ⟨b, ys.length, none⟩ ∧ B ≤ b ∧ Blk w b (ys ++ xs ++ zs) ∧ c ≤ (xs ++ zs).length)
theorem OwnO.row {w : World} {B : Nat} {p : Option Addr} {l c : Nat} {xs : List Value} (h : OwnO w B p l c xs) : Row w p xs := by
  obtain ⟨h1, h2, h3, ⟨rfl, rfl⟩ | ⟨b, ys, zs, rfl, hB, hb, hl⟩⟩ := h
  · have : xs = [] := List.length_eq_zero_iff.1 (by omega)
    subst this; exact Row.nil _ _
  · exact Row.of_blk (off := ys.length) hb (fun j u hj => by
      have hlt := (List.getElem?_eq_some_iff.1 hj).1
      rw [List.append_assoc, List.getElem?_append_right (by omega), Nat.add_sub_cancel_left, List.getElem?_append_left hlt]; exact hj) h3
theorem OwnO.fr {F : List Nat} {v w : World} {B : Nat} {p : Option Addr} {l c : Nat} {xs : List Value} (h : OwnO v B p l c xs) (hf : Fr F v w) (hn : ∀ ad, p = some ad → ad.block ∉ F) : OwnO w B p l c xs := by
  obtain ⟨h1, h2, h3, ⟨rfl, rfl⟩ | ⟨b, ys, zs, rfl, hB, hb, hl⟩⟩ := h
  · exact ⟨h1, h2, h3, .inl ⟨rfl, rfl⟩⟩
  · exact ⟨h1, h2, h3, .inr ⟨b, ys, zs, rfl, hB, hb.fr hf (hn _ rfl), hl⟩⟩
theorem OwnO.lt {w : World} {B : Nat} {p : Option Addr} {l c : Nat} {xs : List Value} (h : OwnO w B p l c xs) {ad : Addr} (hp : p = some ad) : B ≤ ad.block ∧ ad.block < w.heap.size := by
  obtain ⟨_, _, _, ⟨h, _⟩ | ⟨b, ys, zs, h, hB, hb, _⟩⟩ := h
  · rw [h] at hp; cases hp
  · rw [h] at hp; injection hp with hp; subst hp; exact ⟨hB, hb.lt⟩
theorem OwnO.blk {w : World} {B : Nat} {p : Option Addr} {l c : Nat} {xs : List Value} (h : OwnO w B p l c xs) {ad : Addr} (hp : p = some ad) : ∃ cs, Blk w ad.block cs := by
  obtain ⟨_, _, _, ⟨h, _⟩ | ⟨b, ys, zs, h, hB, hb, _⟩⟩ := h
  · rw [h] at hp; cases hp
  · rw [h] at hp; injection hp with hp; subst hp; exact ⟨_, hb⟩
theorem OwnO.of {w : World} {B b : Nat} {xs : List Value} (h : Blk w b xs) (h1 : ∀ u ∈ xs, u.oneCell' = true) (hB : B ≤ b) : OwnO w B (some ⟨b, 0, none⟩) xs.length xs.length xs :=
  ⟨rfl, Nat.le_refl _, h1, .inr ⟨b, [], [], rfl, hB, by simpa using h, by simp⟩⟩
theorem OwnO.tail {w : World} {B : Nat} {p : Option Addr} {l c : Nat} {x : Value} {xs : List Value} (h : OwnO w B p (l + 1) c (x :: xs)) : OwnO w B (subA p 1 c 1) l (c - 1) xs := by
  obtain ⟨h1, h2, h3, ⟨rfl, rfl⟩ | ⟨b, ys, zs, rfl, hB, hb, hl⟩⟩ := h
  · omega
  · simp only [List.length_cons] at h1
    refine ⟨by omega, by omega, fun u hu => h3 u (List.mem_cons_of_mem _ hu), .inr ?_⟩
    by_cases hc : c = 1
    · subst hc
      have e : xs = [] := List.length_eq_zero_iff.1 (by omega)
      subst e
      exact ⟨b, ys, x :: zs, by simp [subA], hB, by simpa using hb, by simp⟩
    · refine ⟨b, ys ++ [x], zs, ?_, hB, by simpa using hb, ?_⟩
      · simp [subA, hc, add_mk]
      · simp only [List.length_append, List.length_cons] at hl ⊢; omega
theorem append_o {v : World} {B : Nat} {p : Option Addr} {l c k : Nat} {ys : List Value} {x : Value} {K : World → Option Addr → Nat → Nat → Prop} (h : OwnO v B p l c ys) (hx : x.oneCell' = true) (hb : l + 1 ≤ 1000000) (hB : B ≤ v.heap.size)
    (hK : ∀ w' p' c', Fr (pb p) v w' → OwnO w' B p' (l + 1) c' (ys ++ [x]) → (∀ ad, p' = some ad → ad.block ∈ pb p ∨ v.heap.size ≤ ad.block) → K w' p' (l + 1) c') : appendP false [] [k] [k] v p l c 1 [x] 1 8 [.int .i64 0] K := by
  have hrow := h.row
  have hh := h
  obtain ⟨h1, h2, h3, h4⟩ := h
  have h3' : ∀ u ∈ ys ++ [x], u.oneCell' = true := fun u hu => by
    rcases List.mem_append.1 hu with hu | hu
    · exact h3 u hu
    · rw [List.mem_singleton.1 hu]; exact hx
  have hlen : (ys ++ [x]).length = l + 1 := by rw [List.length_append]; simp [h1]
  refine ⟨by omega, by omega, fun hc w st => ?_, fun hc => ⟨ys, by omega, hrow, fun b _ => by simp, fun w b cap st hcap hbk hpl => hK w _ cap (st.fr.mono (fun x hx => by cases hx)) ⟨hlen, hcap, h3', .inr ⟨b, [], _, rfl, ?_, hbk, ?_⟩⟩ (fun ad hp => ?_)⟩⟩
  · have hn := g_new1 st
    rcases h4 with ⟨_, rfl⟩ | ⟨b, A, zs, rfl, hBb, hbk, hcz⟩
    · omega
    · rw [List.length_append] at hcz
      obtain ⟨z1, zs', rfl⟩ : ∃ z1 zs', zs = z1 :: zs' := by
        match zs, hcz with
        | [], h => simp at h; omega
        | z1 :: zs', _ => exact ⟨z1, zs', rfl⟩
      have hlt := hbk.lt
      have hbw : Blk w b (A ++ ys ++ z1 :: zs') := hbk.fr st.fr (by simp)
      refine .inr ⟨⟨b, A.length, none⟩, _, rfl, rfl, hbw, ?_, by simp; omega, fun w' hu => ?_⟩
      · simp only [List.length_append, List.length_cons, List.length_nil, h1]; omega
      · have e : sets (A ++ ys ++ z1 :: zs') (A.length + l * 1) [x] = (A ++ ys) ++ [x] ++ zs' := by
          rw [Nat.mul_one, ← h1, ← List.length_append]
          have := sets_mid (A ++ ys) [z1] [x] zs' rfl
          simpa using this
        have hu : Upd w w' b (sets (A ++ ys ++ z1 :: zs') (A.length + l * 1) [x]) := hu
        rw [e] at hu
        refine hK w' _ c ((st.fr.mono (fun x hx => by cases hx)).trans hu.fr (fun x hx => .inl (by simpa [pb] using hx))) ⟨hlen, hc, h3', .inr ⟨b, A, zs', rfl, hBb, by have := hu.blk; rw [List.append_assoc A] at this; exact this, ?_⟩⟩ (fun ad hp => .inl (by injection hp with hp; subst hp; simp [pb]))
        simp only [List.length_append, List.length_cons] at hcz ⊢
        omega
  · exact Nat.le_trans hB (st.new b List.mem_cons_self).1
  · simp only [List.length_append, reps_length, List.length_cons, List.length_nil, h1]; omega
  · injection hp with hp; subst hp
    exact .inr (st.new b List.mem_cons_self).1
end Go.V
