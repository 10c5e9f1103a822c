/- Keys: Encode, End. -/
import Derived.Test.YtalegpdnhkopmaaDoorEA
namespace Go.Proofs.YtalegpdnhkopmaaDoor.Ky
open Go Go.V Go.RowKit
open Go.Proofs.YtalegpdnhkopmaaDoor.VC Go.Proofs.YtalegpdnhkopmaaDoor.By Go.Proofs.YtalegpdnhkopmaaDoor.Tree
open Go.Proofs.Tryd (prog)
set_option linter.unusedVariables false
set_option linter.unusedSimpArgs false

/-- A row of one's own whose room is not told. -/
def OwnC (w : World) (B : Nat) (p : Option Addr) (xs : List Value) : Prop := (∀ u ∈ xs, u.oneCell' = true) ∧ ((p = none ∧ xs = []) ∨ ∃ b zs, p = some ⟨b, 0, none⟩ ∧ B ≤ b ∧ Blk w b (xs ++ zs))
theorem ownc_of {w : World} {B sz l c : Nat} {p : Option Addr} {xs : List Value} (h : OwnZ w B sz p l c xs) : OwnC w B p xs := by
  obtain ⟨h1, h2, h3, h4⟩ := h
  refine ⟨h3, ?_⟩
  rcases h4 with ⟨rfl, rfl⟩ | ⟨b, zs, rfl, hB, hb, _⟩
  · exact .inl ⟨rfl, List.length_eq_zero_iff.1 (by rw [h1, show l = 0 by omega, Nat.zero_mul])⟩
  · exact .inr ⟨b, zs, rfl, hB, hb⟩
theorem OwnC.row {w : World} {B : Nat} {p : Option Addr} {xs : List Value} (h : OwnC w B p xs) : Row w p xs := by
  obtain ⟨h3, ⟨rfl, rfl⟩ | ⟨b, zs, rfl, hB, hb⟩⟩ := h
  · exact Row.nil _ _
  · exact Row.of_blk (off := 0) hb (fun j u hj => by rw [Nat.zero_add, List.getElem?_append_left (List.getElem?_eq_some_iff.1 hj).1]; exact hj) h3
theorem OwnC.fr {F : List Nat} {v w : World} {B : Nat} {p : Option Addr} {xs : List Value} (h : OwnC v B p xs) (hf : Fr F v w) (hn : ∀ ad, p = some ad → ad.block ∉ F) : OwnC w B p xs := by
  obtain ⟨h3, h4⟩ := h
  refine ⟨h3, h4.imp id ?_⟩
  rintro ⟨b, zs, rfl, hB, hb⟩
  exact ⟨b, zs, rfl, hB, hb.fr hf (hn _ rfl)⟩
theorem OwnC.old {v w : World} {B : Nat} {p : Option Addr} {xs : List Value} (h : OwnC v B p xs) (hf : Fr [] v w) : OwnC w B p xs := h.fr hf fun _ _ => by simp
theorem OwnC.lt {w : World} {B : Nat} {p : Option Addr} {xs : List Value} (h : OwnC w B p xs) {ad : Addr} (hp : p = some ad) : B ≤ ad.block ∧ ad.block < w.heap.size := by
  obtain ⟨_, ⟨h, _⟩ | ⟨b, zs, h, hB, hb⟩⟩ := h
  · rw [h] at hp; cases hp
  · rw [h] at hp; injection hp with hp; subst hp; exact ⟨hB, hb.lt⟩
theorem OwnC.mono {w : World} {B B' : Nat} {p : Option Addr} {xs : List Value} (h : OwnC w B p xs) (hB : B' ≤ B) : OwnC w B' p xs := by
  refine ⟨h.1, h.2.imp id ?_⟩
  rintro ⟨b, zs, rfl, h1, hb⟩
  exact ⟨b, zs, rfl, by omega, hb⟩
/-- A cell of it is written. -/
theorem OwnC.store {w : World} {B : Nat} {p : Option Addr} {xs : List Value} {ad : Addr} {n : Int} {i : Nat} {x : Value} {K : World → Prop} (h : OwnC w B p xs) (hp : p = some ad) (hn : n = i) (hi : i < xs.length) (hx : x.oneCell' = true)
    (hK : ∀ w', Fr [ad.block] w w' → OwnC w' B p (xs.set i x) → K w') :
    ∃ cs : List Value, Blk w (Addr.block (ad.add (n.toNat * 1))) cs ∧ Addr.spot (ad.add (n.toNat * 1)) = none ∧ Addr.off (ad.add (n.toNat * 1)) + [x].length ≤ cs.length ∧
      ∀ w', Upd w w' (Addr.block (ad.add (n.toNat * 1))) (sets cs (Addr.off (ad.add (n.toNat * 1))) [x]) → K w' := by
  obtain ⟨h3, ⟨h4, _⟩ | ⟨b, zs, h4, hB, hb⟩⟩ := h
  · rw [hp] at h4; cases h4
  rw [hp] at h4; injection h4 with h4; subst h4
  subst hn
  rw [add_mk]
  have e : Int.toNat (i : Int) * 1 = i := by omega
  have e0 : 0 + i = i := Nat.zero_add i
  rw [e, e0]
  refine ⟨xs ++ zs, hb, rfl, ?_, fun w' hu => hK w' hu.fr ⟨fun u hu => ?_, .inr ⟨b, zs, hp, hB, ?_⟩⟩⟩
  · rw [List.length_append, List.length_singleton]; show i + 1 ≤ _; omega
  · rcases List.mem_or_eq_of_mem_set hu with h | h
    · exact h3 u h
    · rw [h]; exact hx
  · have := hu.blk
    have e2 : sets (xs ++ zs) i [x] = xs.set i x ++ zs := by
      show List.set _ _ _ = _
      rw [List.set_append_left _ _ (by omega)]
    rw [← e2]; exact this
theorem clipB_c {w : World} {p : Option Addr} {l c : Nat} (h : l ≤ c) : Calls prog 54 #[.slice p l c] w fun e w' => e = .returned (.slice p l l) ∧ w' = w := by
  refine slices_Clip_g_byte.link ⟨⟨by omega, by omega, by omega, by omega⟩, ?_⟩
  rw [Int.toNat_natCast, Nat.sub_zero, subA_0]
  exact ⟨rfl, rfl⟩
theorem num_c (n : Int) (w : World) : Calls prog 20 #[.int .i64 n] w fun e w' => e = .returned (.agg #[.bool false, .string ByteArray.empty, .int .i64 n]) ∧ Fr [] w w' :=
  key_Num.link fun k1 w2 s2 => ⟨rfl, s2.fr⟩
theorem str_c (s : ByteArray) (w : World) : Calls prog 52 #[.string s] w fun e w' => e = .returned (.agg #[.bool true, .string s, .int .i64 0]) ∧ Fr [] w w' :=
  key_Str.link fun k1 w2 s2 => ⟨rfl, s2.fr⟩
theorem flatP : Flat pcell 3 := ⟨fun _ => rfl, fun a u h => by simp at h; rcases h with rfl | rfl | rfl <;> rfl⟩
theorem encB_take {l : List Pt} {i : Nat} (h : 200 < ((l.take i).flatMap kb).length) : encB l = none := by
  unfold encB
  rw [if_neg]
  have : l.flatMap kb = (l.take i).flatMap kb ++ (l.drop i).flatMap kb := by rw [← List.flatMap_append, List.take_append_drop]
  rw [this, List.length_append]; omega
theorem kb_text {q : Pt} (h : q.t = true) : q.s.size + 3 ≤ (kb q).length := by
  unfold kb; rw [if_pos h]; unfold ks
  have := esc_len q.s.data.toList
  have e : q.s.data.toList.length = q.s.size := rfl
  simp; omega
set_option maxHeartbeats 1000000 in
theorem encode_c {w : World} {A : Option Addr} {c : Nat} {l : List Pt} (h : Row w A (l.flatMap pcell)) (hl : l.length ≤ 100000) :
    Calls prog 18 #[.slice A l.length c] w fun e w' => Fr [] w w' ∧ ∃ p c', e = .returned (.tuple #[.slice p ((encB l).getD []).length c', .int .i64 (if (encB l).isSome then 0 else 3)]) ∧ ((encB l).getD []).length ≤ c' ∧ OwnC w' w.heap.size p (((encB l).getD []).map U8) := by
  have bad : ∀ w', Fr [] w w' → encB l = none → (fun (e : Ending) (w' : World) => Fr [] w w' ∧ ∃ p c', e = .returned (.tuple #[.slice p ((encB l).getD []).length c', .int .i64 (if (encB l).isSome then 0 else 3)]) ∧ ((encB l).getD []).length ≤ c' ∧ OwnC w' w.heap.size p (((encB l).getD []).map U8)) (.returned (.tuple #[.slice none 0 0, .int .i64 3])) w' := fun w' f e =>
    ⟨f, none, 0, by rw [e]; rfl, by rw [e]; exact Nat.le_refl _, by rw [e]; exact ⟨fun u hu => (by cases hu), .inl ⟨rfl, rfl⟩⟩⟩
  refine key_Encode.link ⟨fun m p k c' n w' => ∃ (i : Nat), n = (i : Int) ∧ i ≤ l.length ∧ m = l.length - i ∧ ((l.take i).flatMap kb).length ≤ 200 ∧ k = ((l.take i).flatMap kb).length ∧ Fr [] w w' ∧ OwnZ w' w.heap.size 1 p ((l.take i).flatMap kb).length c' (((l.take i).flatMap kb).map U8), l.length, ⟨0, rfl, by omega, rfl, by simp, by simp, Fr.refl _ _, by simpa using OwnZ.nil w w.heap.size 1⟩, ?_⟩
  rintro m p4 k5 c6 n7 w8 ⟨i, rfl, hi, rfl, hacc, rfl, F, o⟩
  refine bc (fun hc => ?_) fun hc => ?_
  · have hc : (i : Int) < (l.length : Int) := of_decide_eq_true hc
    have hlt : i < l.length := by omega
    obtain ⟨ad, hp, hcell⟩ := (h.old F).atF flatP (by decide) hlt
    refine ⟨ad, hp, ⟨by omega, hc⟩, l[i].t, l[i].s, l[i].n, ⟨?_, ?_, ?_, trivial⟩, fun k14 y15 h15 => ?_⟩
    · rw [Int.toNat_natCast]; exact hcell 0 _ rfl
    · rw [Int.toNat_natCast]; exact hcell 1 _ rfl
    · rw [Int.toNat_natCast]; exact hcell 2 _ rfl
    have etake : (l.take (i + 1)).flatMap kb = (l.take i).flatMap kb ++ kb l[i] := by rw [take_snoc hlt, List.flatMap_append]; simp
    have main : ∀ {b : Bool} {w17 : World}, Step w8 w17 [] [k14] → (b = true ↔ (l[i].t = true ∧ 200 < l[i].s.size)) → y15 b w17 := by
      intro b w17 s17 hb
      have f17 := s17.fr
      have n17 := g_new1 s17
      have F17 := F.trans' f17
      refine h15 _ _ (bc (fun hbt => ?_) fun hbf => ?_)
      · obtain ⟨h1, h2⟩ := hb.1 hbt
        refine bad _ F17 (encB_take (i := i + 1) ?_)
        rw [etake, List.length_append]
        have := kb_text h1; omega
      · have hnot : ¬ (l[i].t = true ∧ 200 < l[i].s.size) := fun z => by rw [hb.2 z] at hbf; cases hbf
        refine (put_c l[i] (o.fr f17 (fun _ _ => by simp)) F17 (Nat.le_refl _) F17.size (fun ht => ?_) (by omega)).mono ?_
        · by_cases hz : 200 < l[i].s.size
          · exact absurd ⟨ht, hz⟩ hnot
          · omega
        rintro e w19 ⟨p20, c22, rfl, g, o19⟩
        refine ⟨_, _, _, rfl, g.keep (by intro b hb; rw [List.mem_singleton.1 hb]; exact ⟨n17.2, fun ad hp => by have := (o.lt hp).2; omega⟩), ?_⟩
        rw [← etake] at o19 ⊢
        refine bc (fun hd => ?_) fun hd => ?_
        · exact bad _ g.fu (encB_take (i := i + 1) (by have := of_decide_eq_true hd; omega))
        · exact ⟨l.length - (i + 1), by omega, i + 1, by rw [wrapi (by omega) (by omega)]; simp, by omega, rfl, by have := of_decide_eq_false hd; omega, rfl, g.fu, o19⟩
    refine bc (fun hs w26 s26 => main s26 ⟨fun h => ⟨h, by have := of_decide_eq_true hs; omega⟩, fun h => h.1⟩) fun hs w28 s28 => main s28 ⟨fun h => (by cases h), fun h => absurd h.2 (by have := of_decide_eq_false hs; omega)⟩
  · have hge : i = l.length := by have := of_decide_eq_false hc; omega
    subst hge
    rw [List.take_length] at hacc o ⊢
    have e : encB l = some (l.flatMap kb) := by unfold encB; rw [if_pos hacc]
    refine (clipB_c o.2.1).mono ?_
    rintro e' w31 ⟨rfl, rfl⟩
    rw [e]
    exact ⟨_, _, _, rfl, F, _, _, rfl, Nat.le_refl _, ownc_of o⟩

/-! ### End -/
theorem endR_snoc {l : Bs} {i : Nat} (hi : i < l.length) (h : endR l = endR (l.take (i + 1))) : endR l = if l[i] < 255 then l.take i ++ [l[i] + 1] else endR (l.take i) := by
  rw [h, take_snoc hi]
  split
  · rename_i c; exact endR_lt _ _ c
  · rename_i c
    have : l[i] = 255 := by
      apply UInt8.toNat_inj.mp
      have h1 := l[i].toNat_lt
      have h2 : ¬ l[i].toNat < 255 := fun z => c (UInt8.lt_iff_toNat_lt.mpr z)
      show l[i].toNat = 255
      omega
    rw [this, endR_255]
theorem succ8 {b : UInt8} (h : b < 255) : Value.int .u8 (IntKind.wrap .u8 ((b.toNat : Int) + 1)) = U8 (b + 1) := by
  have h1 := UInt8.lt_iff_toNat_lt.mp h
  have e : (255 : UInt8).toNat = 255 := rfl
  rw [e] at h1
  unfold U8
  rw [UInt8.toNat_add, IntKind.wrap_u8]
  have e2 : (1 : UInt8).toNat = 1 := rfl
  rw [e2]
  congr 1
theorem end_c {w : World} {A : Option Addr} {c : Nat} {l : Bs} (h : Row w A (l.map U8)) (hl : l.length ≤ 1000000) (hc : l.length ≤ c) :
    Calls prog 21 #[.slice A l.length c] w fun e w' => Fr [] w w' ∧ ∃ p c', e = .returned (.slice p (endR l).length c') ∧ (endR l).length ≤ c' ∧ OwnC w' w.heap.size p ((endR l).map U8) := by
  refine key_End.link ⟨fun m n w' => ∃ i : Nat, n = (i : Int) - 1 ∧ i ≤ l.length ∧ m = 0 + i ∧ w' = w ∧ endR l = endR (l.take i), 0 + l.length, ⟨l.length, by rw [wrapi (by omega) (by omega)], Nat.le_refl _, rfl, rfl, by rw [List.take_length]⟩, ?_⟩
  rintro m n w' ⟨i, rfl, hi, rfl, rfl, he⟩
  refine bc (fun hn => ?_) fun hn => ?_
  · have hn : (0 : Int) ≤ (i : Int) - 1 := of_decide_eq_true hn
    obtain ⟨j, rfl⟩ : ∃ j, i = j + 1 := ⟨i - 1, by omega⟩
    have hj : j < l.length := by omega
    have ej : ((j + 1 : Nat) : Int) - 1 = (j : Int) := by omega
    rw [ej]
    have hend := endR_snoc hj he
    obtain ⟨ad, hp, hb, hcell⟩ := rdv h (n := (j : Int)) (L := (l.length : Int)) rfl (u := U8 l[j]) (by rw [List.getElem?_map, List.getElem?_eq_getElem hj]; rfl) (by omega)
    refine ⟨ad, hp, hb, _, hcell, bc (fun hlt => ?_) fun hlt => ?_⟩
    · have hlt : l[j] < 255 := by
        have := of_decide_eq_true hlt
        exact UInt8.lt_iff_toNat_lt.mpr (by show l[j].toNat < 255; omega)
      rw [if_pos hlt] at hend
      rw [wrapi (by omega) (by omega)]
      refine ⟨⟨by omega, by omega, by omega⟩, ?_⟩
      rw [subA_0, show Int.toNat ((j : Int) + 1) - 0 = (l.take (j + 1)).length by rw [List.length_take]; omega]
      have hr : Row w' A ((l.take (j + 1)).map U8) := by rw [List.map_take]; exact h.pre _
      refine (clone_c (c := c - 0) hr (by rw [List.length_take]; omega)).mono ?_
      rintro e w10 ⟨f10, p11, c13, rfl, o⟩
      refine ⟨_, _, _, rfl, (clipB_c o.2.1).mono ?_⟩
      rintro e w15 ⟨rfl, rfl⟩
      have oc := ownc_of o
      have hlen : (l.take (j + 1)).length = j + 1 := by rw [List.length_take]; omega
      obtain ⟨ad2, hp2, hb2, hcell2⟩ := rdv oc.row (n := (j : Int)) (L := ((l.take (j + 1)).length : Int)) rfl (u := U8 l[j]) (by rw [List.getElem?_map, List.getElem?_take, if_pos (by omega), List.getElem?_eq_getElem hj]; rfl) (by omega)
      refine ⟨_, _, _, rfl, ad2, hp2, hb2, _, hcell2, ad2, hp2, hb2, ?_⟩
      rw [succ8 hlt]
      refine OwnC.store oc hp2 rfl (by rw [List.length_map, hlen]; omega) rfl fun w23 f23 o23 => ?_
      have hset : (List.map U8 (l.take (j + 1))).set j (U8 (l[j] + 1)) = (endR l).map U8 := by
        rw [hend, take_snoc hj, List.map_append, List.map_append, List.set_append_right _ _ (by rw [List.length_map, List.length_take]; omega)]
        simp
        rw [Nat.min_eq_left (by omega), Nat.sub_self]; rfl
      have hll : (l.take (j + 1)).length = (endR l).length := by rw [hend, List.length_append, hlen]; simp; omega
      rw [hset] at o23
      rw [hll]
      refine ⟨f10.trans f23 fun x hx => ?_, p11, _, rfl, Nat.le_refl _, o23⟩
      rw [List.mem_singleton.1 hx]
      exact .inr (oc.lt hp2).1
    · have hnl : ¬ l[j] < 255 := fun z => of_decide_eq_false hlt (by have := UInt8.lt_iff_toNat_lt.mp z; have e : (255 : UInt8).toNat = 255 := rfl; rw [e] at this; show (l[j].toNat : Int) < 255; omega)
      rw [if_neg hnl] at hend
      exact ⟨0 + j, by omega, j, by rw [wrapi (by omega) (by omega)], by omega, rfl, rfl, hend⟩
  · have : i = 0 := by have := of_decide_eq_false hn; omega
    subst this
    have : endR l = [] := by rw [he]; rfl
    rw [this]
    exact ⟨Fr.refl _ _, none, 0, rfl, Nat.le_refl _, fun u hu => (by cases hu), .inl ⟨rfl, rfl⟩⟩
end Go.Proofs.YtalegpdnhkopmaaDoor.Ky
