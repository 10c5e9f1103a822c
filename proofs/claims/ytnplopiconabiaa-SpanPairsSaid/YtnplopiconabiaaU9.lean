/- An entry gets another value while its map is gone over. -/
import Derived.Test.YtnplopiconabiaaUA
namespace Go.V
open Go.RowKit
set_option linter.unusedVariables false
set_option linter.unusedSimpArgs false
section
variable {κ : Type} [DecidableEq κ]
theorem updM_keys : ∀ (l : List (κ × Value)) (k : κ) (y x : Value), (k, y) ∈ l → (updM l k x).map (·.1) = l.map (·.1)
  | (a, z) :: l, k, y, x, h => by
    simp only [updM]
    split
    · rename_i e; subst e; rfl
    · rename_i e
      rcases List.mem_cons.1 h with h | h
      · injection h with h1; exact absurd h1 e
      · rw [List.map_cons, List.map_cons, updM_keys l k y x h]
theorem IterG.upd {enc : κ → Value} {v w : World} {r m : Nat} {l : List (κ × Value)} {done : List κ} {k : κ} {y x : Value} (h : IterG enc v r m l done) (hu : MUpd enc v w m (updM l k x)) (hk : (k, y) ∈ l) : IterG enc w r m (updM l k x) done := by
  obtain ⟨es, clock, since, seen, last, hr, hm, hl, hb, hnd, hkn, hd⟩ := h
  have hlen : es.toList.length = l.length := by simpa using congrArg List.length hl
  have hkeys := updM_keys l k y x hk
  have hll : (updM l k x).length = l.length := by simpa using congrArg List.length hkeys
  obtain ⟨es', hw, hbo⟩ := hu.bo es clock hm (by rw [hll, ← hlen]; simp)
  obtain ⟨es2, clock2, hw2, hl2, hb2, hnd2, hkn2⟩ := hu.map
  rw [hw] at hw2; injection hw2 with hw2; injection hw2 with hw2 hw3; subst hw2; subst hw3
  have hlen' : es'.toList.length = es.toList.length := by simpa using congrArg List.length hbo
  have hne : r ≠ m := fun e => by rw [e, hm] at hr; injection hr with hr; cases hr
  have born : ∀ (j : Nat) e e', es[j]? = some e → es'[j]? = some e' → e'.born = e.born := fun j e e' h1 h2 => by
    have := congrArg (fun q => q[j]?) hbo
    simp only [List.getElem?_map, Array.getElem?_toList, h1, h2] at this
    simpa using this
  refine ⟨es', clock, since, seen, last, (hu.oth r hne).trans hr, hw, hl2, fun e' he' => ?_, hnd2, hkn2, fun j e' p h1 h2 => ?_⟩
  · obtain ⟨j, hj, rfl⟩ := List.mem_iff_getElem.1 he'
    have hj' : j < es.size := by simp at hlen' hj; omega
    have e1 : es[j]? = some es[j] := Array.getElem?_eq_getElem hj'
    have e2 : es'[j]? = some es'.toList[j] := by simp at hj; simp [hj]
    rw [born j _ _ e1 e2]
    exact hb _ (by simp)
  · have hj' : j < es.size := by
      have := (Array.getElem?_eq_some_iff.1 h1).1
      simp at hlen'; omega
    have e1 : es[j]? = some es[j] := Array.getElem?_eq_getElem hj'
    have hjl : j < l.length := by rw [← hlen]; simpa using hj'
    have e3 : p.1 = (l[j]).1 := by
      have := congrArg (fun q => q[j]?) hkeys
      simp only [List.getElem?_map, h2, List.getElem?_eq_getElem hjl] at this
      simpa using this
    rw [born j _ _ e1 h1, e3]
    exact hd j _ _ e1 (List.getElem?_eq_getElem hjl)
theorem IterO.upd {enc : κ → Value} {v w : World} {r m : Nat} {l : List (κ × Value)} {done : List κ} {k : κ} {y x : Value} (h : IterO enc v r (some m) l done) (hu : MUpd enc v w m (updM l k x)) (hk : (k, y) ∈ l) : IterO enc w r (some m) (updM l k x) done := IterG.upd h hu hk
end
end Go.V
