/- KeyOwn: what holds awake, few, same, the document's End; the walk. -/
import Derived.Test.YtalegpdnhkopmaaDoorED
import Derived.Test.YtalegpdnhkopmaaDoorM5
namespace Go.Proofs.YtalegpdnhkopmaaDoor.Ky
open Go Go.V Go.RowKit
open Go.Proofs.YtalegpdnhkopmaaDoor.VC Go.Proofs.YtalegpdnhkopmaaDoor.By Go.Proofs.YtalegpdnhkopmaaDoor.Tree
open Go.Proofs.Tryd (prog)
set_option linter.unusedVariables false
set_option linter.unusedSimpArgs false

theorem bc' {b : Bool} {p q : Prop} (h1 : b = true → p) (h2 : b = false → q) : bcase b p q := ⟨h1, h2⟩
/-- A row of bytes, read as a text. -/
theorem bytes_at {w : World} {p : Option Addr} {S : Bs} (h : Row w p (S.map U8)) : ∀ k : Nat, k < S.length → ∃ ad, p = some ad ∧ w.cell? (Addr.add ad k) = some (.int .u8 ((UInt8.toNat (List.getD S k 0) : Nat) : Int)) := fun k hk => by
  obtain ⟨ad, hp⟩ := h.has (by rw [List.length_map]; omega)
  refine ⟨ad, hp, ?_⟩
  rw [h.get hp (j := k) (u := U8 S[k]) (by rw [List.getElem?_map, List.getElem?_eq_getElem hk]; rfl), List.getD_eq_getElem?_getD, List.getElem?_eq_getElem hk]; rfl
def exA : ByteArray := ⟨#[97, 0, 98]⟩
theorem kawake_c (w : World) : Calls prog 16 #[] w fun e w' => e = .returned (.bool true) ∧ Fr [] w w' := by
  refine rhizomelaw01_awake.link (_u := ()) ((str_c exA w).mono ?_)
  rintro e w2 ⟨rfl, f2⟩
  refine ⟨_, _, _, rfl, fun k6 w7 s7 b7 => ?_⟩
  have F7 := f2.trans' s7.fr
  have b7 : Blk w7 k6 ([Str exA].flatMap pcell) := b7
  have c1 := encode_c (l := [Str exA]) (c := 1) (Row.all b7 (flatP.one _)) (by decide)
  rw [show encB [Str exA] = some [2, 97, 0, 255, 98, 0, 1] by kernel_rfl] at c1
  refine c1.mono ?_
  rintro e w11 ⟨f11, p12, c14, rfl, _, o12⟩
  refine ⟨_, _, _, _, rfl, (num_c 1 w11).mono ?_⟩
  rintro e w17 ⟨rfl, f17⟩
  refine ⟨_, _, _, rfl, fun k21 w22 s22 b22 => ?_⟩
  have b22 : Blk w22 k21 ([Num 1].flatMap pcell) := b22
  have c2 := encode_c (l := [Num 1]) (c := 1) (Row.all b22 (flatP.one _)) (by decide)
  rw [show encB [Num 1] = some [1, 128, 0, 0, 0, 0, 0, 0, 1] by kernel_rfl] at c2
  refine c2.mono ?_
  rintro e w26 ⟨f26, p27, c29, rfl, _, o27⟩
  refine ⟨_, _, _, _, rfl, fun y31 h31 => ?_⟩
  have F26 := ((((F7.trans' f11).trans' f17).trans' s22.fr).trans' f26)
  have o12' := ((o12.old f17).old s22.fr).old f26
  refine bT rfl ⟨[2, 97, 0, 255, 98, 0, 1], rfl, bytes_at o12'.row, bT (decide_eq_true rfl) (bT rfl (bT rfl ?_))⟩
  obtain ⟨ad, hp⟩ := o27.row.has (by decide)
  refine ⟨ad, hp, ⟨by decide, by decide⟩, _, o27.row.get hp (j := 1) rfl, bT rfl fun k42 w43 s43 b43 => ?_⟩
  have b43 : Blk w43 k42 ([1, 255].map U8) := b43
  refine (end_c (l := [1, 255]) (c := 2) (Row.all b43 (fun u hu => by obtain ⟨b, _, rfl⟩ := List.mem_map.1 hu; rfl)) (by decide) (by decide)).mono ?_
  rw [show endR [1, 255] = [2] by decide]
  rintro e w47 ⟨f47, p48, c50, rfl, _, o48⟩
  refine ⟨_, _, _, rfl, [2], rfl, bytes_at o48.row, h31 _ _ ⟨?_, (F26.trans' s43.fr).trans' f47⟩⟩
  rw [decide_eq_true rfl]
theorem kfew_c {w : World} {A : Option Addr} {c : Nat} {l : List Pt} (h : Row w A (l.flatMap pcell)) (hl : l.length ≤ 140737488355328) :
    Calls prog 17 #[.slice A l.length c] w fun e w' => (∃ b : Bool, e = .returned (.bool b) ∧ (b = true → l.length ≤ 60)) ∧ Fr [] w w' := by
  refine rhizomelaw01_few.link ⟨fun m x n w' => ∃ i : Nat, n = (i : Int) ∧ i ≤ l.length ∧ m = l.length - i ∧ w' = w, l.length, ⟨0, rfl, by omega, rfl, rfl⟩, ?_⟩
  rintro m x n w' ⟨i, rfl, hi, rfl, rfl⟩
  refine bc' (fun hlt => ?_) fun hge y hy => ?_
  · have hlt : (i : Int) < (l.length : Int) := of_decide_eq_true hlt
    obtain ⟨ad, hp, hcell⟩ := h.atF flatP (by decide) (i := i) (by omega)
    refine ⟨ad, hp, ⟨by omega, hlt⟩, l[i].s, by rw [Int.toNat_natCast]; exact hcell 1 _ rfl, by decide, l.length - (i + 1), by omega, i + 1, by rw [wrapi (by omega) (by omega)]; simp, by omega, rfl, rfl⟩
  · refine bc' (fun h60 => hy _ _ ⟨⟨_, rfl, fun _ => by have := of_decide_eq_true h60; omega⟩, Fr.refl _ _⟩) fun h60 => hy _ _ ⟨⟨_, rfl, fun h => (by cases h)⟩, Fr.refl _ _⟩
theorem ksame_c {w : World} {A B : Option Addr} {a b : Nat} {l : List Pt} (hA : Row w A (l.flatMap pcell)) (hB : Row w B (l.flatMap pcell)) (hl : l.length ≤ 1000000) :
    Calls prog 22 #[.slice A l.length a, .slice B l.length b] w fun e w' => e = .returned (.bool true) ∧ Fr [] w w' := by
  refine rhizomelaw01_same.link ⟨fun m n w' => ∃ i : Nat, n = (i : Int) ∧ i ≤ l.length ∧ m = l.length - i ∧ Fr [] w w', l.length, ⟨0, rfl, by omega, rfl, Fr.refl _ _⟩, ?_⟩
  rintro m n w' ⟨i, rfl, hi, rfl, F⟩
  refine bc' (fun hlt => ?_) fun hge => ⟨by simp, F⟩
  have hlt : (i : Int) < (l.length : Int) := of_decide_eq_true hlt
  obtain ⟨ad, hp, hcell⟩ := (hA.old F).atF flatP (by decide) (i := i) (by omega)
  obtain ⟨ad2, hp2, hcell2⟩ := (hB.old F).atF flatP (by decide) (i := i) (by omega)
  refine ⟨ad, hp, ⟨by omega, hlt⟩, l[i].t, l[i].s, l[i].n, ⟨by rw [Int.toNat_natCast]; exact hcell 0 _ rfl, by rw [Int.toNat_natCast]; exact hcell 1 _ rfl, by rw [Int.toNat_natCast]; exact hcell 2 _ rfl, trivial⟩, ad2, hp2, ⟨by omega, hlt⟩, l[i].t, l[i].s, l[i].n, ⟨by rw [Int.toNat_natCast]; exact hcell2 0 _ rfl, by rw [Int.toNat_natCast]; exact hcell2 1 _ rfl, by rw [Int.toNat_natCast]; exact hcell2 2 _ rfl, trivial⟩, bF (by simp [conj]) ⟨l.length - (i + 1), by omega, fun w18 s18 => ⟨i + 1, by rw [wrapi (by omega) (by omega)]; simp, by omega, rfl, F.trans' s18.fr⟩⟩⟩
theorem rend_c {w : World} {A : Option Addr} {c : Nat} {l : Bs} (h : Row w A (l.map U8)) (hl : l.length ≤ 1000000) (hc : l.length ≤ c) :
    Calls prog 23 #[.slice A l.length c] w fun e w' => Fr [] w w' ∧ ∃ p c', e = .returned (.slice p (endR l).length c') ∧ Row w' p ((endR l).map U8) := by
  refine rhizomeref01_End.link ⟨fun m n w' => ∃ i : Nat, n = (i : Int) ∧ i ≤ l.length ∧ m = 0 + i ∧ w' = w ∧ endR l = endR (l.take i), 0 + l.length, ⟨l.length, rfl, Nat.le_refl _, rfl, rfl, by rw [List.take_length]⟩, ?_⟩
  rintro m n w' ⟨i, rfl, hi, rfl, rfl, he⟩
  intro y7 h7
  by_cases h0 : i = 0
  · subst h0
    have : endR l = [] := by rw [he]; rfl
    refine bF (by decide) (h7 _ _ (bF rfl (bT rfl ?_)))
    rw [this]
    exact ⟨Fr.refl _ _, none, 0, rfl, Row.nil _ _⟩
  obtain ⟨j, rfl⟩ : ∃ j, i = j + 1 := ⟨i - 1, by omega⟩
  have hj : j < l.length := by omega
  have ej : ((j + 1 : Nat) : Int) - 1 = (j : Int) := by omega
  have hend := endR_snoc hj he
  have hw : IntKind.wrap .i64 (((j + 1 : Nat) : Int) - 1) = (j : Int) := by rw [ej, wrapi (by omega) (by omega)]
  refine bT (decide_eq_true (by omega)) ?_
  obtain ⟨ad, hp, hb, hcell⟩ := rdv h (n := (j : Int)) (L := (l.length : Int)) rfl (u := U8 l[j]) (by rw [List.getElem?_map, List.getElem?_eq_getElem hj]; rfl) (by omega)
  rw [hw] at h7 ⊢
  refine ⟨ad, hp, hb, _, hcell, h7 _ _ (bc' (fun h255 => ?_) fun h255 => ?_)⟩
  · have hn : ¬ l[j] < 255 := fun z => by
      have h1 := UInt8.lt_iff_toNat_lt.mp z
      have e : (255 : UInt8).toNat = 255 := rfl
      rw [e] at h1
      have := of_decide_eq_true h255; omega
    rw [if_neg hn] at hend
    exact ⟨0 + j, by omega, j, rfl, by omega, rfl, rfl, hend⟩
  · have hlt : l[j] < 255 := UInt8.lt_iff_toNat_lt.mpr (by
      have := of_decide_eq_false h255
      have h2 := l[j].toNat_lt
      show l[j].toNat < 255
      omega)
    rw [if_pos hlt] at hend
    refine bF (decide_eq_false (by omega)) fun k11 => ⟨⟨by omega, by omega, by omega⟩, fun w12 s12 b12 => ?_⟩
    have n12 := g_new1 s12
    have z12 := s12.fr.size
    have b12 : Blk w12 k11 [] := b12
    have o2 : OwnZ w12 w'.heap.size 1 (some ⟨k11, 0, none⟩) ([] : Bs).length 0 (([] : Bs).map U8) := OwnZ.blk b12 rfl (by simp) n12.1
    have hlen : (l.take (j + 1)).length = j + 1 := by rw [List.length_take]; omega
    refine ⟨(l.take (j + 1)).map U8, by rw [List.length_map, hlen, Int.toNat_natCast]; omega, ?_, ?_⟩
    · rw [subA_0, List.map_take]; exact (h.old s12.fr).pre _
    refine appB (zs := l.take (j + 1)) (u := w') rfl (by rw [hlen, Int.toNat_natCast]; omega) o2 s12.fr (Nat.le_refl _) z12 rfl (fun _ => rfl) rfl (fun ad hp => by simp) (by rw [hlen]; simp; omega) fun w16 p17 c19 g16 _ _ o16 => ?_
    rw [List.nil_append] at o16 ⊢
    have oc := ownc_of o16
    obtain ⟨ad2, hp2, hb2, hcell2⟩ := rdv oc.row (n := (j : Int)) (L := ((l.take (j + 1)).length : Int)) rfl (u := U8 l[j]) (by rw [List.getElem?_map, List.getElem?_take, if_pos (by omega), List.getElem?_eq_getElem hj]; rfl) (by omega)
    refine ⟨ad2, hp2, hb2, _, hcell2, ad2, hp2, hb2, ?_⟩
    rw [succ8 hlt]
    refine OwnC.store oc hp2 rfl (by rw [List.length_map, hlen]; omega) rfl fun w23 f23 o23 => ?_
    have hset : (List.map U8 (l.take (j + 1))).set j (U8 (l[j] + 1)) = (endR l).map U8 := by
      rw [hend, take_snoc hj, List.map_append, List.map_append, List.set_append_right _ _ (by rw [List.length_map, List.length_take]; omega)]
      simp
      rw [Nat.min_eq_left (by omega), Nat.sub_self]; rfl
    have hll : (l.take (j + 1)).length = (endR l).length := by rw [hend, List.length_append, hlen]; simp; omega
    rw [hset] at o23
    rw [hll]
    refine ⟨g16.fu.trans f23 fun x hx => ?_, p17, _, rfl, o23.row⟩
    rw [List.mem_singleton.1 hx]
    exact .inr (oc.lt hp2).1

theorem decB_len : ∀ (m : Nat) (b : Bs) (ps : List Pt), decB m b = some ps → ps.length ≤ m
  | 0, [], ps, h => by injection h with h; subst h; simp
  | 0, _ :: _, ps, h => by cases h
  | m + 1, [], ps, h => by injection h with h; subst h; simp
  | m + 1, c :: t, ps, h => by
    rw [decB] at h
    · cases hx : takeB (c :: t) with
      | none => rw [hx] at h; cases h
      | some x =>
        rw [hx] at h
        simp only [Option.bind_some] at h
        obtain ⟨q, hq, rfl⟩ := Option.map_eq_some_iff.1 h
        have := decB_len m _ _ hq
        simp; omega
    · intro z; cases z
theorem decRes_len (b : Bs) : (decRes b).1.length ≤ 200 := by
  unfold decRes
  split
  · simp
  · rename_i h
    split
    · simp
    · rename_i ps hp
      have := decB_len _ _ _ hp
      show ps.length ≤ 200
      omega
theorem ownc_pb {w : World} {B : Nat} {p : Option Addr} {xs : List Value} (h : OwnC w B p xs) : ∀ x ∈ pb p, B ≤ x ∧ x < w.heap.size := fun x hx => by
  obtain ⟨ad, hp, rfl⟩ := (g_mem_pb _ _).1 hx
  exact h.lt hp
set_option maxHeartbeats 2000000 in
theorem keyown_walk {w : World} {A B : Option Addr} {ca cb : Nat} {l : List Pt} {b : Bs} (h : Row w A (l.flatMap pcell)) (hl : l.length ≤ 140737488355328) (hB : Row w B (b.map U8)) (hbl : b.length ≤ 140737488355328) (hbc : b.length ≤ cb) :
    Calls prog 3 #[.slice A l.length ca, .slice B b.length cb] w fun e w' => e = .returned (.bool true) ∧ Fr [] w w' := by
  refine rhizomelaw01_KeyOwn.link fun y1 hy1 => ?_
  have quit : ∀ w3, Fr [] w w3 → y1 true w3 := fun w3 F => hy1 _ _ (bT rfl ((kawake_c w3).mono (by
    rintro e w5 ⟨rfl, f5⟩
    exact ⟨_, rfl, rfl, F.trans' f5⟩)))
  have main : ∀ w3, Fr [] w w3 → l.length ≤ 60 → b.length ≤ 500 → y1 false w3 := by
    intro w3 F hl60 hb5
    refine hy1 _ _ (bF rfl ((encode_c (c := ca) (h.old F) (by omega)).mono ?_))
    rintro e w8 ⟨f8, p9, c9, rfl, _, o9⟩
    have z8 := f8.size
    have F8 := F.trans' f8
    refine ⟨_, _, _, _, rfl, (encode_c (c := ca) (h.old F8) (by omega)).mono ?_⟩
    rintro e w14 ⟨f14, p15, c15, rfl, _, o15⟩
    have z14 := f14.size
    have F14 := F8.trans' f14
    have o9' := o9.old f14
    have hp9 := ownc_pb o9
    refine ⟨_, _, _, _, rfl, fun m n w' => ∃ (i : Nat) (S : Bs), n = (i : Int) ∧ i ≤ S.length ∧ m = S.length - i ∧ S.length = ((encB l).getD []).length ∧ OwnC w' w3.heap.size p9 (S.map U8) ∧ Fr (pb p9) w14 w', _, ⟨0, _, rfl, Nat.zero_le _, rfl, rfl, o9', Fr.refl _ _⟩, ?_⟩
    rintro m n w23 ⟨i, S, rfl, hi, rfl, hS, oS, G⟩
    have zF := F.size
    have F23 : Fr [] w w23 := F14.trans G fun x hx => .inr (by have := (hp9 x hx).1; omega)
    refine bc' (fun hlt => ?_) fun hge => ?_
    · have hlt : (i : Int) < (((encB l).getD []).length : Int) := of_decide_eq_true hlt
      have hiS : i < S.length := by omega
      obtain ⟨ad, hp, hbb, hcell⟩ := rdv oS.row (n := (i : Int)) (L := (((encB l).getD []).length : Int)) rfl (u := U8 S[i]) (by rw [List.getElem?_map, List.getElem?_eq_getElem hiS]; rfl) hlt
      refine ⟨ad, hp, hbb, _, hcell, ad, hp, hbb, OwnC.store oS hp rfl (by rw [List.length_map]; exact hiS) rfl fun w29 f29 o29 => ?_⟩
      have e8 : Value.int .u8 (IntKind.wrap .u8 ((S[i].toNat : Int) + 1)) = U8 (b8 (IntKind.wrap .u8 ((S[i].toNat : Int) + 1))) := (b8_U8 _ (u8w _).1 (u8w _).2).symm
      rw [e8] at o29
      have hset : (S.map U8).set i (U8 (b8 (IntKind.wrap .u8 ((S[i].toNat : Int) + 1)))) = (S.set i (b8 (IntKind.wrap .u8 ((S[i].toNat : Int) + 1)))).map U8 := by rw [List.map_set]
      rw [hset] at o29
      have hl60' : S.length < 1000 := by
        rw [hS]; unfold encB; split
        · show (l.flatMap kb).length < 1000; omega
        · exact Nat.zero_lt_succ _
      refine ⟨S.length - (i + 1), by omega, i + 1, _, by rw [wrapi (by omega) (by omega)]; simp, by rw [List.length_set]; omega, by rw [List.length_set], by rw [List.length_set]; exact hS, o29, G.trans f29 fun x hx => ?_⟩
      rw [List.mem_singleton.1 hx]
      exact .inl ((g_mem_pb _ _).2 ⟨ad, hp, rfl⟩)
    · have z23 := G.size
      have o15' : OwnC w23 w8.heap.size p15 (((encB l).getD []).map U8) := o15.fr G fun ad hp hx => by have := (o15.lt hp).1; have := (hp9 _ hx).2; omega
      refine (encode_c (c := ca) (h.old F23) (by omega)).mono ?_
      rintro e w33 ⟨f33, p34, c34, rfl, _, o34⟩
      have F33 := F23.trans' f33
      refine ⟨_, _, _, _, rfl, (decode_c (hB.old F33) (by omega) hbc).mono ?_⟩
      rintro e w39 ⟨f39, p40, c40, rfl, _, o40⟩
      have F39 := F33.trans' f39
      have z33 := f33.size
      have z39 := f39.size
      refine ⟨_, _, _, _, rfl, (decode_c (hB.old F39) (by omega) hbc).mono ?_⟩
      rintro e w45 ⟨f45, p46, c46, rfl, _, o46⟩
      have F45 := F39.trans' f45
      have z45 := f45.size
      have hp40 := ownc_pb o40
      have hdl : (decRes b).1.length ≤ 1000 := by have := decRes_len b; omega
      refine ⟨_, _, _, _, rfl, fun m n w' => ∃ (i : Nat), n = (i : Int) ∧ i ≤ (decRes b).1.length ∧ m = (decRes b).1.length - i ∧ (∃ xs, OwnC w' w33.heap.size p40 xs ∧ xs.length = (decRes b).1.length * 3) ∧ Fr (pb p40) w45 w', _, ⟨0, rfl, Nat.zero_le _, rfl, ⟨_, o40.old f45, flatP.len _⟩, Fr.refl _ _⟩, ?_⟩
      rintro m n w54 ⟨j, rfl, hj, rfl, ⟨xs, oX, hX⟩, G2⟩
      have F54 : Fr [] w w54 := F45.trans G2 fun x hx => .inr (by have := (hp40 x hx).1; have := F33.size; omega)
      refine bc' (fun hlt => ?_) fun hge => ?_
      · have hlt : (j : Int) < ((decRes b).1.length : Int) := of_decide_eq_true hlt
        refine (num_c 77 w54).mono ?_
        rintro e w57 ⟨rfl, f57⟩
        have oX' := oX.old f57
        have oX2 := oX'
        obtain ⟨h3, ⟨h4, hx0⟩ | ⟨bb, zs, h4, hBb, hbk⟩⟩ := oX'
        · rw [hx0] at hX; simp at hX; omega
        refine ⟨_, _, _, rfl, ⟨bb, 0, none⟩, h4, ⟨by omega, hlt⟩, xs ++ zs, ?_, ?_, ?_, fun w63 u63 => ?_⟩
        · rw [add_mk]; exact hbk
        · rw [add_mk]
        · rw [add_mk, List.length_append, hX, Int.toNat_natCast]; simp only [List.length_cons, List.length_nil]; omega
        · rw [add_mk, Int.toNat_natCast] at u63
          have hsl : j * 3 + 3 ≤ xs.length := by rw [hX]; omega
          have hsets : ∃ ys, sets (xs ++ zs) (0 + j * 3) [.bool false, .string ByteArray.empty, .int .i64 77] = ys ++ zs ∧ ys.length = xs.length ∧ ∀ u ∈ ys, u.oneCell' = true := by
            refine ⟨xs.take (0 + j * 3) ++ [.bool false, .string ByteArray.empty, .int .i64 77] ++ xs.drop (0 + j * 3 + 3), ?_, ?_, fun u hu => ?_⟩
            · show (xs ++ zs).take (0 + j * 3) ++ [.bool false, .string ByteArray.empty, .int .i64 77] ++ (xs ++ zs).drop (0 + j * 3 + 3) = _
              rw [List.take_append_of_le_length (by omega), List.drop_append_of_le_length (by omega), List.append_assoc (xs.take _ ++ _)]
            · rw [List.length_append, List.length_append, List.length_take, List.length_drop]
              simp only [List.length_cons, List.length_nil]; omega
            · rcases List.mem_append.1 hu with hu | hu
              · rcases List.mem_append.1 hu with hu | hu
                · exact oX.1 u (List.mem_of_mem_take hu)
                · simp at hu; rcases hu with rfl | rfl | rfl <;> rfl
              · exact oX.1 u (List.mem_of_mem_drop hu)
          obtain ⟨ys, e1, e2, e3⟩ := hsets
          have u63' := u63.blk
          rw [e1] at u63'
          refine ⟨(decRes b).1.length - (j + 1), by omega, j + 1, by rw [wrapi (by omega) (by omega)]; simp, by omega, rfl, ⟨ys, ⟨e3, .inr ⟨bb, zs, h4, hBb, u63'⟩⟩, by rw [e2, hX]⟩, (G2.trans' (f57.mono fun x hx => (by cases hx))).trans u63.fr fun x hx => ?_⟩
          rw [List.mem_singleton.1 hx]
          exact .inl ((g_mem_pb _ _).2 ⟨_, h4, rfl⟩)
      · have z54 := G2.size
        have o46' : OwnC w54 w39.heap.size p46 ((decRes b).1.flatMap pcell) := o46.fr G2 fun ad hp hx => by have := (o46.lt hp).1; have := (hp40 _ hx).2; omega
        have o15'' : OwnC w54 w8.heap.size p15 (((encB l).getD []).map U8) := (((o15'.old f33).old f39).old f45).fr G2 fun ad hp hx => by have := (o15'.lt hp).2; have := (hp40 _ hx).1; omega
        have o34' : OwnC w54 w23.heap.size p34 (((encB l).getD []).map U8) := ((o34.old f39).old f45).fr G2 fun ad hp hx => by have := (o34.lt hp).2; have := (hp40 _ hx).1; omega
        refine (decode_c (hB.old F54) (by omega) hbc).mono ?_
        rintro e w67 ⟨f67, p68, c68, rfl, _, o68⟩
        have F67 := F54.trans' f67
        refine ⟨_, _, _, _, rfl, (end_c (hB.old F67) (by omega) hbc).mono ?_⟩
        rintro e w73 ⟨f73, p74, c74, rfl, _, o74⟩
        have F73 := F67.trans' f73
        have z67 := f67.size
        have z73 := f73.size
        refine ⟨_, _, _, rfl, fun y77 h77 => ?_⟩
        have fin : ∀ w78, Fr [] w67 w78 → y77 w78 := by
          intro w78 f78
          refine h77 _ fun y79 h79 => ?_
          have F78 := F67.trans' f78
          have o15f := (o15''.old f67).old f78
          have o34f := (o34'.old f67).old f78
          refine bT (decide_eq_true rfl) ⟨_, rfl, bytes_at o15f.row, _, rfl, bytes_at o34f.row, bT (decide_eq_true rfl) fun w92 s92 => ?_⟩
          have F92 := F78.trans' s92.fr
          refine (ksame_c (((o46'.old f67).old f78).old s92.fr).row ((o68.old f78).old s92.fr).row (by omega)).mono ?_
          rintro e w95 ⟨rfl, f95⟩
          have F95 := F92.trans' f95
          refine ⟨_, rfl, bT rfl ((end_c (hB.old F95) (by omega) hbc).mono ?_)⟩
          rintro e w98 ⟨f98, p99, c99, rfl, _, o99⟩
          have F98 := F95.trans' f98
          refine ⟨_, _, _, rfl, ⟨_, rfl, bytes_at o99.row, (rend_c (hB.old F98) (by omega) hbc).mono ?_⟩, (rend_c (hB.old F98) (by omega) hbc).mono ?_⟩
          · rintro e w107 ⟨f107, p108, c108, rfl, r108⟩
            exact ⟨_, _, _, rfl, _, rfl, bytes_at r108, h79 _ _ ⟨by rw [decide_eq_true rfl], F98.trans' f107⟩⟩
          · rintro e w107 ⟨f107, p108, c108, rfl, r108⟩
            exact ⟨_, _, _, rfl, _, rfl, bytes_at (o99.old f107).row, _, rfl, bytes_at r108, h79 _ _ ⟨by rw [decide_eq_true rfl], F98.trans' f107⟩⟩
        refine bc' (fun hpos => ?_) fun _ => fin w73 f73
        have hpos : 0 < (endR b).length := by have := of_decide_eq_true hpos; omega
        obtain ⟨ad, hp, hbb, hcell⟩ := rdv o74.row (n := (0 : Int)) (i := 0) (L := ((endR b).length : Int)) rfl (u := U8 (endR b)[0]) (by rw [List.getElem?_map, List.getElem?_eq_getElem hpos]; rfl) (by omega)
        rw [show Int.toNat 0 * 1 = 0 from rfl] at hcell
        have st := OwnC.store (K := fun w138 => y77 w138) (x := .int .u8 (IntKind.wrap .u8 (((endR b)[0].toNat : Int) + 1))) o74 hp (n := (0 : Int)) (i := 0) rfl (by rw [List.length_map]; exact hpos) rfl fun w138 f138 _ => fin w138 (f73.trans f138 fun x hx => by rw [List.mem_singleton.1 hx]; exact .inr (o74.lt hp).1)
        rw [show Int.toNat 0 * 1 = 0 from rfl] at st
        exact ⟨ad, hp, hbb, _, hcell, ad, hp, hbb, st⟩
  refine (kawake_c w).mono ?_
  rintro e w143 ⟨rfl, f143⟩
  refine ⟨_, rfl, bF rfl ((kfew_c (c := ca) (h.old f143) hl).mono ?_)⟩
  rintro e w146 ⟨⟨bw, rfl, h60⟩, f146⟩
  have F := f143.trans' f146
  refine ⟨bw, rfl, bc' (fun _ => quit _ F) fun hb => ?_⟩
  have hb : bw = true := by simpa using hb
  by_cases h5 : b.length ≤ 500
  · rw [decide_eq_false (by omega)]; exact main _ F (h60 hb) h5
  · rw [decide_eq_true (by omega)]; exact quit _ F
end Go.Proofs.YtalegpdnhkopmaaDoor.Ky
