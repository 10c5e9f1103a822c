/- Key: own, the closure of KeyBetween. -/
import Derived.Test.YtamaoileeipgeaaDoorKA
import Derived.Test.YtamaoileeipgeaaDoorUB
import Derived.Test.YtamaoileeipgeaaDoorKX1
namespace Go.Proofs.YtamaoileeipgeaaDoor.KeyV
open Go Go.V Go.RowKit
open Go.Proofs.YtamaoileeipgeaaDoor.VC
open Go.Proofs.YtamaoileeipgeaaDoorW.PrintWords Go.Proofs.YtamaoileeipgeaaDoorW.PrintMore Go.Proofs.YtamaoileeipgeaaDoor.XKey Go.Proofs.YtamaoileeipgeaaDoor
open Go.Proofs.Tryd (prog)
set_option linter.unusedVariables false

theorem flatPc : Flat pc 3 := ⟨fun _ => rfl, fun a u h => by simp at h; rcases h with rfl | rfl | rfl <;> rfl⟩
theorem own_v {w : World} {A : Option Addr} {c : Nat} {l : List S31} (h : Row w A (l.flatMap pc)) (hl : l.length ≤ 1000000) :
    Calls prog 16 #[.slice A l.length c] w fun e w' => Fr [] w w' ∧ ∃ p c', e = .returned (.slice p l.length c') ∧ OwnZ w' w.heap.size 3 p l.length c' (l.flatMap pc) := by
  refine rhizomelaw01_own.link fun k1 w2 s2 b2 => ?_
  have n2 := g_new1 s2
  have z2 := s2.fr.size
  have b2 : Blk w2 k1 [] := b2
  have o2 : OwnZ w2 w.heap.size 3 (some ⟨k1, 0, none⟩) ([] : List S31).length 0 (([] : List S31).flatMap pc) := OwnZ.blk b2 rfl (by simp) n2.1
  refine ⟨l.flatMap pc, flatPc.len l, h.old s2.fr, ?_⟩
  refine appN (f := pc) flatPc (ys := []) (zs := l) rfl (u := w) (B := w.heap.size) o2 s2.fr rfl (Nat.le_refl _) z2 (fun _ => rfl) (by simp) (fun ad hp => by simp) (by simp; omega) (by simp; omega) fun w6 p7 c9 F6 _ _ o6 _ => ?_
  rw [List.nil_append] at o6 ⊢
  exact ⟨F6, _, _, rfl, o6⟩
theorem num_v (n : Int) (w : World) : Calls prog 17 #[.int .i64 n] w fun e w' => e = .returned (.agg #[.bool false, .string ByteArray.empty, .int .i64 n]) ∧ Fr [] w w' :=
  key_Num.link fun k1 w2 s2 => ⟨rfl, s2.fr⟩
theorem str_v (s : ByteArray) (w : World) : Calls prog 18 #[.string s] w fun e w' => e = .returned (.agg #[.bool true, .string s, .int .i64 0]) ∧ Fr [] w w' :=
  key_Str.link fun k1 w2 s2 => ⟨rfl, s2.fr⟩
theorem with_v {w : World} {f : Addr} {a : Option Addr} {c : Nat} {l : List S31} (hf : w.cell? f = some (.slice a l.length c)) (h : Row w a (l.flatMap pc)) (hl : l.length ≤ 100000) (t : Bool) (s : ByteArray) (n : Int) :
    Calls prog 14 #[.agg #[.bool t, .string s, .int .i64 n], .pointer (some f)] w fun e w' => Fr [] w w' ∧ ∃ p c', e = .returned (.slice p (encK [] (l ++ [⟨t, s, n⟩])).1.length c') ∧ Row w' p ((encK [] (l ++ [⟨t, s, n⟩])).1.map u8v) := by
  refine rhizomelaw01_KeyBetween_1.link fun k1 y2 h2 => ⟨_, _, _, hf, fun w12 s12 => ?_, fun k30 w31 s31 => ?_⟩
  · have n12 := g_new1 s12
    have z12 := s12.fr.size
    refine (own_v (c := c) (h.old s12.fr) (by omega)).mono ?_
    rintro e14 w15 ⟨f15, p16, c18, rfl, o15⟩
    have z15 := f15.size
    have F15 := s12.fr.trans' f15
    refine ⟨_, _, _, rfl, keepF f15 (fun x hx => by rw [List.mem_singleton.1 hx]; exact n12.2), fun k19 => ?_⟩
    refine app1 (f := pc) flatPc (x := ⟨t, s, n⟩) (u := w12) (B := w12.heap.size) o15 f15 rfl (Nat.le_refl _) z15 (fun h => by cases h) (by simp) (fun ad hp x hx => ?_) (by omega) (by omega) fun w20 p21 c23 F20 G20 n20 o20 _ => ?_
    · rcases List.mem_cons.1 hx with rfl | hx
      · have := (o15.lt hp).1; exact .inr (by omega)
      · exact .inl hx
    have z20 := F20.size
    have n19 := g_news1 n20
    refine (encode_v (c := c23) o20.row (by rw [List.length_append]; simp only [List.length_cons, List.length_nil]; omega) o20.2.1).mono ?_
    rintro e24 w25 ⟨f25, p26, c28, rfl, _, r26⟩
    refine ⟨_, _, _, _, rfl, keepF f25 (fun x hx => ?_), h2 _ _ _ _ ⟨(s12.fr.trans' F20).trans' f25, _, _, rfl, r26⟩⟩
    rcases List.mem_cons.1 hx with rfl | hx
    · omega
    · rw [List.mem_singleton.1 hx]; exact n19.2
  · have n31 := g_new2 s31
    have z31 := s31.fr.size
    refine (own_v (c := c) (h.old s31.fr) (by omega)).mono ?_
    rintro e33 w34 ⟨f34, p35, c37, rfl, o34⟩
    have z34 := f34.size
    have kk : ∀ {v' : World}, w31.heap.size ≤ v'.heap.size → ∀ x ∈ [k1, k30], x < v'.heap.size := fun hz x hx => by
      rcases List.mem_cons.1 hx with rfl | hx
      · omega
      · rw [List.mem_singleton.1 hx]; omega
    refine ⟨_, _, _, rfl, keepF f34 (kk (Nat.le_refl _)), ?_⟩
    refine app1 (f := pc) flatPc (x := ⟨t, s, n⟩) (u := w31) (B := w31.heap.size) o34 f34 rfl (Nat.le_refl _) z34 (fun _ => rfl) (by simp) (fun ad hp x hx => ?_) (by omega) (by omega) fun w38 p39 c41 F38 G38 n38 o38 _ => ?_
    · have := (o34.lt hp).1
      have := kk (Nat.le_refl _) x hx
      exact .inr (by omega)
    have z38 := F38.size
    refine (encode_v (c := c41) o38.row (by rw [List.length_append]; simp only [List.length_cons, List.length_nil]; omega) o38.2.1).mono ?_
    rintro e42 w43 ⟨f43, p44, c46, rfl, _, r44⟩
    exact ⟨_, _, _, _, rfl, keepF f43 (kk z38), h2 _ _ _ _ ⟨(s31.fr.trans' F38).trans' f43, _, _, rfl, r44⟩⟩
theorem awake_v (w : World) : Calls prog 10 #[] w fun e w' => e = .returned (.bool true) ∧ Fr [] w w' := by
  obtain ⟨k, hk⟩ := awake_ev.rounds
  refine (rhizomelaw01_awake.calls k true w hk).mono ?_
  rintro e w' ⟨rfl, hb⟩
  exact ⟨rfl, Fr.of_below hb⟩
theorem few_v {w : World} {A : Option Addr} {c : Nat} {l : List S31} (h : Row w A (l.flatMap pc)) (hl : l.length ≤ 140737488355328) (hc : l.length ≤ c) :
    Calls prog 13 #[.slice A l.length c] w fun e w' => (∃ b : Bool, e = .returned (.bool b) ∧ (b = true → l.length ≤ 60)) ∧ Fr [] w w' := by
  obtain ⟨b, hb, hb60⟩ := few_ev l (by omega)
  obtain ⟨k, hk⟩ := hb.rounds
  refine (rhizomelaw01_few.calls k A c l b w (row_C h (by omega)) hc hk).mono ?_
  rintro e w' ⟨rfl, hd⟩
  exact ⟨⟨b, rfl, hb60⟩, Fr.of_below (Drawn0.below hd)⟩
end Go.Proofs.YtamaoileeipgeaaDoor.KeyV
