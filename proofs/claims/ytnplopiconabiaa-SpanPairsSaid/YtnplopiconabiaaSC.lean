/- Span: slices.Reverse over a row of one's own. -/
import Derived.Test.YtnplopiconabiaaSB
import Derived.Test.YtnplopiconabiaaU11
import Derived.Test.YtnplopiconabiaaC8
namespace Go.Proofs.Ytnplopiconabiaa.Span
open Go Go.V
open Go.Proofs.Ytnplopiconabiaa.VC
open Go.Proofs.Try (prog)
set_option linter.unusedVariables false
set_option linter.unusedSimpArgs false
set_option maxRecDepth 20000

/-- A row with its first and last i elements changed over. -/
def Half (xs cur : List Int) (i : Nat) : Prop := cur.length = xs.length ∧ ∀ k, k < xs.length → cur[k]? = if k < i ∨ xs.length < i + 1 + k then xs[xs.length - 1 - k]? else xs[k]?
theorem Half.done {xs cur : List Int} {i : Nat} (h : Half xs cur i) (hi : xs.length ≤ 2 * i + 1) : cur = xs.reverse := by
  refine List.ext_getElem? fun k => ?_
  by_cases hk : k < xs.length
  · rw [h.2 k hk, List.getElem?_reverse hk]
    split
    · rfl
    · have : k = xs.length - 1 - k := by omega
      rw [← this]
  · rw [List.getElem?_eq_none (by rw [h.1]; omega), List.getElem?_eq_none (by rw [List.length_reverse]; omega)]
theorem Half.step {xs cur : List Int} {i j : Nat} (h : Half xs cur i) (hj : j = xs.length - 1 - i) (hi : i < j) (h1 : i < cur.length) (h2 : j < cur.length) : Half xs ((cur.set i cur[j]).set j cur[i]) (i + 1) := by
  have e := h.1
  have ej := h.2 j (by omega)
  have ei := h.2 i (by omega)
  rw [List.getElem?_eq_getElem h2, if_neg (by omega)] at ej
  rw [List.getElem?_eq_getElem h1, if_neg (by omega)] at ei
  refine ⟨by simp [e], fun k hk => ?_⟩
  rw [List.getElem?_set]
  by_cases k1 : j = k
  · rw [if_pos k1, if_pos (by simp; omega), if_pos (by omega), ← k1, ei]
    congr 1; omega
  · rw [if_neg k1, List.getElem?_set]
    by_cases k2 : i = k
    · rw [if_pos k2, if_pos h1, if_pos (by omega), ← k2, ej, hj]
    · rw [if_neg k2, h.2 k hk]
      by_cases k3 : k < i ∨ xs.length < i + 1 + k
      · rw [if_pos k3, if_pos (by omega)]
      · rw [if_neg k3, if_neg (by omega)]
theorem set_map {xs : List Int} {zs : List Value} {i : Nat} {v : Int} (h : i < xs.length) : (xs.map I64 ++ zs).set i (I64 v) = (xs.set i v).map I64 ++ zs := by
  rw [List.set_append_left _ _ (by simpa using h), List.map_set]
theorem reverse_c {w : World} {b c : Nat} {xs : List Int} {zs : List Value} (h : Blk w b (xs.map I64 ++ zs)) (hl : xs.length ≤ 1000000) :
    Calls prog 47 #[.slice (some ⟨b, 0, none⟩) xs.length c] w fun e w' => e = .returned (.tuple #[]) ∧ Fr [b] w w' ∧ Blk w' b (xs.reverse.map I64 ++ zs) := by
  refine slices_Reverse_g47.link ?_
  unfold slices_Reverse_g47.vc
  rw [wrapi (by omega) (by omega)]
  refine ⟨fun m n4 n5 w' => ∃ (i : Nat) (cur : List Int), n4 = i ∧ n5 = (xs.length : Int) - 1 - i ∧ m = xs.length - i ∧ i ≤ xs.length ∧ Half xs cur i ∧ Blk w' b (cur.map I64 ++ zs) ∧ Fr [b] w w', xs.length, ⟨0, xs, rfl, by omega, rfl, by omega, ⟨rfl, fun k hk => by rw [if_neg (by omega)]⟩, h, Fr.refl _ _⟩, ?_⟩
  rintro m n4 n5 w6 ⟨i, cur, rfl, rfl, rfl, hi, hh, hb, F⟩
  refine bc (fun hlt => ?_) fun hge => ?_
  · have hlt : (i : Int) < (xs.length : Int) - 1 - i := of_decide_eq_true hlt
    obtain ⟨j, hj⟩ : ∃ j : Nat, j = xs.length - 1 - i := ⟨_, rfl⟩
    have ej : (xs.length : Int) - 1 - i = j := by omega
    rw [ej] at hlt ⊢
    have hil : i < cur.length := by have := hh.1; omega
    have hjl : j < cur.length := by have := hh.1; omega
    have e1 : ∀ n : Nat, (⟨b, 0, none⟩ : Addr).add (((n : Int)).toNat * 1) = ⟨b, n, none⟩ := fun n => by rw [add_mk]; congr 1; omega
    have cell : ∀ n (hn : n < cur.length), w6.cell? ⟨b, n, none⟩ = some (I64 cur[n]) := fun n hn => by
      rw [hb.cell, List.getElem?_append_left (by simpa using hn), List.getElem?_map, List.getElem?_eq_getElem hn]; rfl
    simp only [e1]
    refine ⟨_, rfl, ⟨by omega, by have := hh.1; omega⟩, cur[j], by rw [e1]; exact cell j hjl, _, rfl, ⟨by omega, by have := hh.1; omega⟩, cur[i], by rw [e1]; exact cell i hil, _, rfl, ⟨by omega, by have := hh.1; omega⟩, fun w13 s13 => ?_⟩
    simp only [e1]
    refine ⟨_, hb.fr s13.fr (by simp), trivial, by simp; omega, fun w16 u16 => ⟨_, rfl, ⟨by omega, by have := hh.1; omega⟩, ?_⟩⟩
    simp only [e1]
    have g1 : sets (cur.map I64 ++ zs) i [I64 cur[j]] = (cur.set i cur[j]).map I64 ++ zs := by
      rw [sets_eq _ _ _ (by simp; omega), spl_one _ _ _ (by simp; omega), set_map hil]
    rw [g1] at u16
    refine ⟨_, u16.blk, trivial, by simp; omega, fun w20 u20 => ?_⟩
    have g2 : sets ((cur.set i cur[j]).map I64 ++ zs) j [I64 cur[i]] = ((cur.set i cur[j]).set j cur[i]).map I64 ++ zs := by
      rw [sets_eq _ _ _ (by simp; omega), spl_one _ _ _ (by simp; omega), set_map (by simpa using hjl)]
    rw [g2] at u20
    refine ⟨xs.length - (i + 1), by omega, i + 1, _, by rw [wrapi (by omega) (by omega)]; simp, by rw [wrapi (by omega) (by omega)]; omega, rfl, by omega, hh.step hj (by omega) hil hjl, u20.blk, ?_⟩
    exact ((F.trans s13.fr (fun x hx => by cases hx)).trans u16.fr (fun x hx => .inl hx)).trans u20.fr (fun x hx => .inl hx)
  · have hge : ¬ (i : Int) < (xs.length : Int) - 1 - i := of_decide_eq_false hge
    refine ⟨rfl, F, ?_⟩
    rw [← hh.done (by omega)]; exact hb
end Go.Proofs.Ytnplopiconabiaa.Span
