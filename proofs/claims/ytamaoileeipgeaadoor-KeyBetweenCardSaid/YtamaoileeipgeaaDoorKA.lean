/- Key: the kit's printed contracts, read as rows. -/
import Derived.Test.YtamaoileeipgeaaDoorUA
import Derived.Test.YtamaoileeipgeaaDoorKS
namespace Go.Proofs.YtamaoileeipgeaaDoor.KeyV
open Go Go.V Go.RowKit
open Go.Proofs.YtamaoileeipgeaaDoorW.PrintWords Go.Proofs.YtamaoileeipgeaaDoorW.PrintMore Go.Proofs.YtamaoileeipgeaaDoor.XKey Go.Proofs.YtamaoileeipgeaaDoor
open Go.Proofs.Tryd (prog)
set_option linter.unusedVariables false

/-- A part's cells. -/
abbrev pc (p : S31) : List Value := [.bool p.f0, .string p.f1, .int .i64 p.f2]
abbrev u8v (x : Int) : Value := .int .u8 x
theorem flat_len (l : List S31) : (l.flatMap pc).length = l.length * 3 := by
  induction l with
  | nil => rfl
  | cons a l ih => rw [List.flatMap_cons, List.length_append, ih, List.length_cons]; simp only [List.length_cons, List.length_nil]; omega
theorem flat_get : ∀ {l : List S31} {j i : Nat} {p : S31} {u : Value}, l[j]? = some p → (pc p)[i]? = some u → (l.flatMap pc)[j * 3 + i]? = some u
  | [], j, i, p, u, h, _ => by simp at h
  | a :: l, 0, i, p, u, h, hu => by
    simp at h; subst h
    have hi : i < 3 := (List.getElem?_eq_some_iff.1 hu).1
    rw [List.flatMap_cons, List.getElem?_append_left (by show _ < 3; omega)]
    simpa using hu
  | a :: l, j + 1, i, p, u, h, hu => by
    have := flat_get (l := l) (j := j) (i := i) (by simpa using h) hu
    rw [List.flatMap_cons, List.getElem?_append_right (by show 3 ≤ _; omega)]
    rw [show (j + 1) * 3 + i - (pc a).length = j * 3 + i by show _ - 3 = _; omega]
    exact this
theorem row_C {w : World} {A : Option Addr} {l : List S31} (h : Row w A (l.flatMap pc)) (hl : l.length ≤ 9223372036854775807) : Kd.C k31 w A l.length l := by
  refine ⟨rfl, hl, fun hn => ?_⟩
  obtain ⟨ad, hp⟩ := h.has (by rw [flat_len]; omega)
  refine ⟨ad, hp, fun j p hj => ⟨pc p, rfl, ⟨_, _, rfl, rfl, ⟨_, _, rfl, rfl, rfl⟩⟩, fun i u hu => h.get hp (flat_get hj hu)⟩⟩
theorem C_row {w : World} {A : Option Addr} {n : Nat} {l : List S31} (h : Kd.C k31 w A n l) : Row w A (l.flatMap pc) := by
  obtain ⟨hn, _, hr⟩ := h
  have hone : ∀ u ∈ l.flatMap pc, u.oneCell' = true := fun u hu => by
    obtain ⟨p, _, hp⟩ := List.mem_flatMap.1 hu
    simp at hp
    rcases hp with rfl | rfl | rfl <;> rfl
  refine ⟨fun j u hj => ?_, hone⟩
  have hlt : j < l.length * 3 := by
    have := (List.getElem?_eq_some_iff.1 hj).1
    rwa [flat_len] at this
  obtain ⟨ad, hp, hc⟩ := hr (by omega)
  have hj3 : j / 3 < l.length := by omega
  obtain ⟨c, _, hK, hcell⟩ := hc (j / 3) _ (List.getElem?_eq_getElem hj3)
  have e := k31_open hK
  subst e
  have hi : j % 3 < 3 := Nat.mod_lt _ (by decide)
  have hu : (pc l[j / 3])[j % 3]? = some ((pc l[j / 3])[j % 3]'hi) := List.getElem?_eq_getElem hi
  have h2 := flat_get (l := l) (List.getElem?_eq_getElem hj3) hu
  have e2 : j / 3 * 3 + j % 3 = j := by omega
  rw [e2, hj] at h2
  have h3 : w.cell? (ad.add (j / 3 * 3 + j % 3)) = _ := hcell (j % 3) _ hu
  rw [e2, ← h2] at h3
  exact ⟨ad, hp, h3⟩
theorem byte_row {w : World} {A : Option Addr} {n : Nat} {xs : List Int} (h : Kd.C (Kd.int .u8) w A n xs) : Row w A (xs.map u8v) := by
  obtain ⟨hn, _, hr⟩ := h
  refine ⟨fun j u hj => ?_, fun u hu => by obtain ⟨x, _, rfl⟩ := List.mem_map.1 hu; rfl⟩
  have hlt : j < xs.length := by
    have := (List.getElem?_eq_some_iff.1 hj).1
    rwa [List.length_map] at this
  obtain ⟨ad, hp, hc⟩ := hr (by omega)
  obtain ⟨c, hl, hK, hcell⟩ := hc j _ (List.getElem?_eq_getElem hlt)
  have e : c = [u8v xs[j]] := hK
  subst e
  have h3 := hcell 0 _ rfl
  refine ⟨ad, hp, ?_⟩
  have e1 : j * (Kd.int IntKind.u8).sz + 0 = j := Nat.mul_one j
  rw [e1] at h3
  rw [h3, ← hj, List.getElem?_map, List.getElem?_eq_getElem hlt]; rfl
/-- Encode. -/
theorem encode_v {w : World} {A : Option Addr} {c : Nat} {l : List S31} (h : Row w A (l.flatMap pc)) (hl : l.length ≤ 1000000) (hc : l.length ≤ c) :
    Calls prog 15 #[.slice A l.length c] w fun e w' => Fr [] w w' ∧ ∃ p c', e = .returned (.tuple #[.slice p (encK [] l).1.length c', .int .i64 (encK [] l).2]) ∧ (encK [] l).1.length ≤ c' ∧ Row w' p ((encK [] l).1.map u8v) := by
  obtain ⟨k, hk⟩ := (encode_ev l (by omega)).rounds
  refine (key_Encode.calls k A c l _ _ w (row_C h (by omega)) hc hk).mono ?_
  rintro e w' ⟨v, rfl, hv, hb⟩
  obtain ⟨p, c', rfl, hcc, hF⟩ := hv
  exact ⟨Fr.of_below hb, p, c', rfl, hcc, byte_row (Kd.F_now hF)⟩
end Go.Proofs.YtamaoileeipgeaaDoor.KeyV
