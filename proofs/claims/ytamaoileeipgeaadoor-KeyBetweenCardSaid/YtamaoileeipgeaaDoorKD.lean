/- Key: KeyBetween, the walk. -/
import Derived.Test.YtamaoileeipgeaaDoorKB
import Derived.Test.YtamaoileeipgeaaDoorKC
import Derived.Test.YtamaoileeipgeaaDoorKX3
namespace Go.Proofs.YtamaoileeipgeaaDoor.KeyV
open Go Go.V Go.RowKit
open Go.Proofs.YtamaoileeipgeaaDoor.VC
open Go.Proofs.YtamaoileeipgeaaDoorW.PrintWords Go.Proofs.YtamaoileeipgeaaDoorW.PrintMore Go.Proofs.YtamaoileeipgeaaDoor.XKey Go.Proofs.YtamaoileeipgeaaDoor.KeyP Go.Proofs.YtamaoileeipgeaaDoor
open Go.Proofs.Tryd (prog)
set_option linter.unusedVariables false

theorem bF {b : Bool} {p q : Prop} (h : b = false) (hq : q) : bcase b p q := ⟨fun h' => by (rw [h] at h'; cases h'), fun _ => hq⟩
theorem bT {b : Bool} {p q : Prop} (h : b = true) (hp : p) : bcase b p q := ⟨fun _ => hp, fun h' => by (rw [h] at h'; cases h')⟩
theorem bc {b : Bool} {p q : Prop} (h1 : b = true → p) (h2 : b = false → q) : bcase b p q := ⟨h1, h2⟩
theorem bytes_at {w : World} {p : Option Addr} {X : List Int} (h : Row w p (X.map u8v)) (hB : IsB X) : ∀ k : Nat, k < X.length → ∃ ad, p = some ad ∧ w.cell? (Addr.add ad k) = some (.int .u8 ((UInt8.toNat (List.getD (X.map b8) k 0) : Nat) : Int)) := fun k hk => by
  obtain ⟨ad, hp, hc⟩ := h.1 k (u8v X[k]) (by rw [List.getElem?_map, List.getElem?_eq_getElem hk]; rfl)
  refine ⟨ad, hp, ?_⟩
  rw [hc, List.getD_eq_getElem?_getD, List.getElem?_map, List.getElem?_eq_getElem hk]
  have hb := hB _ (List.getElem_mem hk)
  have e : (b8 X[k]).toNat = X[k].toNat := b8_toNat _ hb.1 hb.2
  show some (u8v X[k]) = some (.int .u8 (((b8 X[k]).toNat : Nat) : Int))
  rw [e, Int.toNat_of_nonneg hb.1]

set_option maxHeartbeats 2000000 in
theorem between_walk {w : World} {A : Option Addr} {c : Nat} {l : List S31} (h : Row w A (l.flatMap pc)) (hl : l.length ≤ 140737488355328) (hc : l.length ≤ c) {n0 n1 : Int} (h0 : -9223372036854775808 ≤ n0 ∧ n0 ≤ 9223372036854775807) (h1 : -9223372036854775808 ≤ n1 ∧ n1 ≤ 9223372036854775807) (s0 s1 : ByteArray) :
    Calls prog 4 #[.slice A l.length c, .agg #[.int .i64 n0, .int .i64 n1], .agg #[.string s0, .string s1]] w fun e w' => e = .returned (.bool true) ∧ Fr [] w w' := by
  refine rhizomelaw01_KeyBetween.link fun k1 k2 k3 y4 h4 w96 s96 => ?_
  have n96 := g_new3 s96
  have z96 := s96.fr.size
  have kk : ∀ {v' : World}, w96.heap.size ≤ v'.heap.size → ∀ x ∈ [k1, k2, k3], x < v'.heap.size := fun hz x hx => by
    simp at hx
    rcases hx with rfl | rfl | rfl <;> omega
  have kk2 : ∀ {v' : World}, w96.heap.size ≤ v'.heap.size → ∀ x ∈ [k2, k3], x < v'.heap.size := fun hz x hx => kk hz x (List.mem_cons_of_mem _ hx)
  refine (awake_v w96).mono ?_
  rintro e98 w99 ⟨rfl, f99⟩
  have z99 := f99.size
  have F99 := s96.fr.trans' f99
  have quit : ∀ w', Fr [] w w' → w96.heap.size ≤ w'.heap.size → y4 true w' := fun w' f hz => h4 _ _ (bT rfl ((awake_v w').mono (by
    rintro e7 w8 ⟨rfl, f8⟩
    exact ⟨_, rfl, keepF f8 (kk hz), rfl, f.trans' f8⟩)))
  refine ⟨_, rfl, keepF f99 (kk (Nat.le_refl _)), bF rfl ((few_v (h.old F99) hl hc).mono ?_)⟩
  rintro e101 w102 ⟨⟨b, rfl, hb'⟩, f102⟩
  have z102 := f102.size
  have F102 := F99.trans' f102
  refine ⟨b, rfl, keepF f102 (kk z99), bc (fun hf => quit _ F102 (by omega)) fun hf => ⟨⟨by decide, by decide⟩, ⟨by decide, by decide⟩, ?_⟩⟩
  have hb : b = true := by simpa using hf
  have hl60 := hb' hb
  have main : y4 false w102 := h4 _ _ (bF rfl fun b1 => ⟨⟨by decide, by decide⟩, ⟨by decide, by decide⟩, fun w11 s11 => ?_⟩)
  · cases hd : decide ((300 : Int) < IntKind.wrap .i64 ((s0.size : Int) + (s1.size : Int))) with
    | true => exact quit _ F102 (by omega)
    | false => exact main
  have F11 := F102.trans' s11.fr
  have z11 := s11.fr.size
  have cellA : ∀ {w' : World}, Fr [] w102 w' → w'.cell? ⟨k1, 0, none⟩ = some (.slice A l.length c) := fun f => by
    rw [(b1.fr f (by simp)).cell]; rfl
  refine (num_v n0 w11).mono ?_
  rintro e13 w14 ⟨rfl, f14⟩
  have z14 := f14.size
  have G14 := s11.fr.trans' f14
  refine ⟨_, _, _, rfl, keepF f14 (kk2 (by omega)), rhizomelaw01_KeyBetween_1.body, ?_⟩
  refine (with_v (cellA G14) (h.old (F102.trans' G14)) (by omega) false ByteArray.empty n0).mono ?_
  rintro e18 w19 ⟨f19, p20, c22, rfl, r20⟩
  have z19 := f19.size
  have G19 := G14.trans' f19
  refine ⟨_, _, _, rfl, keepF f19 (kk2 (by omega)), (num_v n1 w19).mono ?_⟩
  rintro e23 w24 ⟨rfl, f24⟩
  have z24 := f24.size
  have G24 := G19.trans' f24
  refine ⟨_, _, _, rfl, keepF f24 (kk2 (by omega)), rhizomelaw01_KeyBetween_1.body, ?_⟩
  refine (with_v (cellA G24) (h.old (F102.trans' G24)) (by omega) false ByteArray.empty n1).mono ?_
  rintro e28 w29 ⟨f29, p30, c32, rfl, r30⟩
  have z29 := f29.size
  have G29 := G24.trans' f29
  refine ⟨_, _, _, rfl, keepF f29 (kk2 (by omega)), ⟨by decide, by decide⟩, ⟨by decide, by decide⟩, fun w33 s33 => (str_v s0 w33).mono ?_⟩
  rintro e35 w36 ⟨rfl, f36⟩
  have z33 := s33.fr.size
  have z36 := f36.size
  have G36 := (G29.trans' s33.fr).trans' f36
  refine ⟨_, _, _, rfl, keepF f36 (kk2 (by omega)), rhizomelaw01_KeyBetween_1.body, ?_⟩
  refine (with_v (cellA G36) (h.old (F102.trans' G36)) (by omega) true s0 0).mono ?_
  rintro e40 w41 ⟨f41, p42, c44, rfl, r42⟩
  have z41 := f41.size
  have G41 := G36.trans' f41
  refine ⟨_, _, _, rfl, keepF f41 (kk2 (by omega)), (str_v s1 w41).mono ?_⟩
  rintro e45 w46 ⟨rfl, f46⟩
  have z46 := f46.size
  have G46 := G41.trans' f46
  refine ⟨_, _, _, rfl, keepF f46 (kk2 (by omega)), rhizomelaw01_KeyBetween_1.body, ?_⟩
  refine (with_v (cellA G46) (h.old (F102.trans' G46)) (by omega) true s1 0).mono ?_
  rintro e50 w51 ⟨f51, p52, c54, rfl, r52⟩
  have G51 := G46.trans' f51
  have r20' := r20.old (((((f24.trans' f29).trans' s33.fr).trans' f36).trans' f41).trans' (f46.trans' f51))
  have r30' := r30.old (((s33.fr.trans' f36).trans' f41).trans' (f46.trans' f51))
  have r42' := r42.old (f46.trans' f51)
  have done : Ending.returned (.bool true) = Ending.returned (.bool true) ∧ Fr [] w w51 := ⟨rfl, F102.trans' G51⟩
  have LT : ∀ X : List Int, ¬ (0 : Int) < (X.length : Int) ∨ 0 < X.length := fun X => by omega
  refine ⟨_, _, _, rfl, keepF f51 (kk2 (by omega)), fun y55 h55 => ?_⟩
  have y55' : y55 false w51 := h55 _ _ (bF rfl fun y58 h58 => ?_)
  · refine bc (fun ha => bc (fun hb => ?_) fun _ => y55') fun _ => y55'
    have ha : 0 < (encX l ⟨false, ByteArray.empty, n0⟩).length := by have := of_decide_eq_true ha; unfold encX; omega
    have hb : 0 < (encX l ⟨false, ByteArray.empty, n1⟩).length := by have := of_decide_eq_true hb; unfold encX; omega
    refine ⟨_, by rw [List.length_map], bytes_at r20' (encX_B l _), _, by rw [List.length_map], bytes_at r30' (encX_B l _), ⟨by decide, by decide⟩, ⟨by decide, by decide⟩, ?_⟩
    rw [show Op.bytesLess (List.map b8 (encK [] (l ++ [⟨false, ByteArray.empty, n0⟩])).1) (List.map b8 (encK [] (l ++ [⟨false, ByteArray.empty, n1⟩])).1) = decide (n0 < n1) from (less_X ha hb).trans (less_num h0 h1 _ _)]
    simpa using y55'
  have y58' : y58 false w51 := h58 _ _ (bF rfl fun y61 h61 => ?_)
  · refine bc (fun ha => bc (fun hb => ?_) fun _ => y58') fun _ => y58'
    have ha : 0 < (encX l ⟨true, s0, 0⟩).length := by have := of_decide_eq_true ha; unfold encX; omega
    have hb : 0 < (encX l ⟨true, s1, 0⟩).length := by have := of_decide_eq_true hb; unfold encX; omega
    refine ⟨_, by rw [List.length_map], bytes_at r42' (encX_B l _), _, by rw [List.length_map], bytes_at r52 (encX_B l _), ⟨by decide, by decide⟩, ⟨by decide, by decide⟩, ?_⟩
    rw [show Op.bytesLess (List.map b8 (encK [] (l ++ [⟨true, s0, 0⟩])).1) (List.map b8 (encK [] (l ++ [⟨true, s1, 0⟩])).1) = Op.bytesLess s0.data.toList s1.data.toList from (less_X ha hb).trans (less_txt _ _ _ _)]
    simpa using y58'
  have end' : y61 true w51 := h61 _ _ done
  refine bc (fun _ => end') fun ha => bc (fun _ => end') fun hb => ?_
  have ha : 0 < (encX l ⟨false, ByteArray.empty, n0⟩).length := by have := of_decide_eq_false ha; unfold encX; omega
  have hb : 0 < (encX l ⟨true, s0, 0⟩).length := by have := of_decide_eq_false hb; unfold encX; omega
  refine ⟨_, by rw [List.length_map], bytes_at r20' (encX_B l _), _, by rw [List.length_map], bytes_at r42' (encX_B l _), ?_⟩
  rw [show Op.bytesLess (List.map b8 (encK [] (l ++ [⟨false, ByteArray.empty, n0⟩])).1) (List.map b8 (encK [] (l ++ [⟨true, s0, 0⟩])).1) = true from (less_X ha hb).trans (less_kinds _ _ _ _)]
  exact end'
end Go.Proofs.YtamaoileeipgeaaDoor.KeyV
