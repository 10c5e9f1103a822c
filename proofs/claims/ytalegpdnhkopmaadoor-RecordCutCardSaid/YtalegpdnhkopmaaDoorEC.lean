/- Keys: take, Decode. -/
import Derived.Test.YtalegpdnhkopmaaDoorEB
import Derived.Test.YtalegpdnhkopmaaDoorM4
import Derived.Laws.BitsAllLaws
namespace Go.Proofs.YtalegpdnhkopmaaDoor.Ky
open Go Go.V Go.RowKit
open Go.Proofs.YtalegpdnhkopmaaDoor.VC Go.Proofs.YtalegpdnhkopmaaDoor.By Go.Proofs.YtalegpdnhkopmaaDoor.Tree
open Go.Proofs.Tryd (prog)
set_option linter.unusedVariables false
set_option linter.unusedSimpArgs false

theorem or_step (x y : Int) (h0 : 0 ≤ x) (h1 : x * 256 + 256 ≤ 18446744073709551616) (h2 : 0 ≤ y) (h3 : y < 256) : Go.bits .or .u64 (IntKind.u64.wrap (x * 256)) (IntKind.u64.wrap y) = x * 256 + y := by
  have w1 : IntKind.u64.wrap (x * 256) = x * 256 := by rw [IntKind.wrap_u64]; omega
  have w2 : IntKind.u64.wrap y = y := by rw [IntKind.wrap_u64]; omega
  rw [w1, w2]
  exact bits_join .u64 64 (by decide) (fun n h h' => by rw [IntKind.wrap_u64]; omega) 8 (x * 256) y (by omega) (by omega) (by omega) (by omega) (by omega) (by omega)
theorem fold_lt : ∀ (xs : Bs) (a : Int) (k : Nat), 0 ≤ a → a < ((256 ^ k : Nat) : Int) → 0 ≤ xs.foldl (fun n b => n * 256 + (b.toNat : Int)) a ∧ xs.foldl (fun n b => n * 256 + (b.toNat : Int)) a < ((256 ^ (k + xs.length) : Nat) : Int)
  | [], a, k, h0, h1 => ⟨h0, h1⟩
  | x :: xs, a, k, h0, h1 => by
    have hx := x.toNat_lt
    have := fold_lt xs (a * 256 + (x.toNat : Int)) (k + 1) (by omega) (by rw [Nat.pow_succ]; omega)
    rw [List.foldl_cons, List.length_cons, show k + (xs.length + 1) = k + 1 + xs.length by omega]
    exact this
theorem ofBe_lt (xs : Bs) : 0 ≤ ofBe xs ∧ ofBe xs < ((256 ^ xs.length : Nat) : Int) := by
  have := fold_lt xs 0 0 (Int.le_refl _) (by decide)
  rw [Nat.zero_add] at this
  exact this
theorem ofBe_snoc (xs : Bs) (b : UInt8) : ofBe (xs ++ [b]) = ofBe xs * 256 + (b.toNat : Int) := by
  unfold ofBe; rw [List.foldl_append]; rfl
theorem ofBe_room {xs : Bs} (h : xs.length ≤ 7) : ofBe xs * 256 + 256 ≤ 18446744073709551616 := by
  have h1 := (ofBe_lt xs).2
  have h2 : 256 ^ xs.length ≤ 256 ^ 7 := Nat.pow_le_pow_right (by decide) h
  have h3 : (256 ^ 7 : Nat) = 72057594037927936 := by decide
  omega
theorem unN_eq {xs : Bs} (h : xs.length = 8) : IntKind.wrap .i64 (Go.bits .xor .u64 (ofBe xs) 9223372036854775808) = unN xs := by
  have h1 := ofBe_lt xs
  rw [h, show (256 ^ 8 : Nat) = 18446744073709551616 by decide] at h1
  obtain ⟨x, hx⟩ := Int.eq_ofNat_of_zero_le h1.1
  have hl : x < 18446744073709551616 := by omega
  unfold unN
  rw [hx, show (9223372036854775808 : Int) = ((9223372036854775808 : Nat) : Int) from rfl, bits_xor_u64_nat _ _ hl (by decide), xor_top x hl, IntKind.wrap_i64, IntKind.wrap_i64]
  omega
theorem untxt_plain : ∀ (A r : Bs), (∀ b ∈ A, b ≠ 0) → untxt (A ++ r) = (untxt r).map fun x => (A ++ x.1, x.2)
  | [], r, _ => by cases h : untxt r <;> simp [h]
  | c :: A, r, h => by
    have hc := h c List.mem_cons_self
    have ih := untxt_plain A r fun b hb => h b (List.mem_cons_of_mem _ hb)
    rw [List.cons_append]
    cases hx : A ++ r with
    | nil =>
      obtain ⟨rfl, rfl⟩ := List.append_eq_nil_iff.1 hx
      rfl
    | cons d t =>
      rw [untxt, if_neg hc, ← hx, ih]
      cases untxt r <;> rfl
theorem untxt_none (A : Bs) (h : ∀ b ∈ A, b ≠ 0) : untxt A = none := by
  have := untxt_plain A [] h
  rw [List.append_nil] at this
  rw [this]; rfl
theorem untxt_one (A : Bs) (h : ∀ b ∈ A, b ≠ 0) : untxt (A ++ [0]) = none := by
  rw [untxt_plain A [0] h]; rfl
theorem idx_spec : ∀ l : Bs, (Lib.indexByte l 0 = -1 ∧ ∀ b ∈ l, b ≠ 0) ∨ ∃ A B, l = A ++ 0 :: B ∧ (∀ b ∈ A, b ≠ 0) ∧ Lib.indexByte l 0 = (A.length : Int)
  | [] => .inl ⟨rfl, by simp⟩
  | x :: l => by
    by_cases c : x = 0
    · subst c
      exact .inr ⟨[], l, rfl, by simp, by simp [Lib.indexByte]⟩
    · have hb : (x == 0) = false := beq_false_of_ne c
      rcases idx_spec l with ⟨e, hn⟩ | ⟨A, B, e, hn, he⟩
      · refine .inl ⟨by rw [Lib.indexByte, hb, e]; rfl, fun y hy => ?_⟩
        rcases List.mem_cons.1 hy with rfl | hy
        · exact c
        · exact hn y hy
      · refine .inr ⟨x :: A, B, by rw [e]; rfl, fun y hy => ?_, ?_⟩
        · rcases List.mem_cons.1 hy with rfl | hy
          · exact c
          · exact hn y hy
        · rw [Lib.indexByte, hb, he]
          have : (((A.length : Nat) : Int) == -1) = false := beq_false_of_ne (by omega)
          rw [this]; simp
theorem index_c {w : World} {A : Option Addr} {l : Bs} {c : Nat} (h : Row w A (l.map U8)) : Calls prog 104 #[.slice A l.length c, .int .u8 0] w fun e w' => e = .returned (.int .i64 (Lib.indexByte l 0)) ∧ w' = w := by
  refine bytes_IndexByte.link ⟨Lib.indexByte l 0, w, ?_, rfl, rfl⟩
  rw [run_callFunc_extern Go.Proofs.Tryd.func146 (by kernel_rfl) (by kernel_rfl) (by kernel_rfl) (e := Extern.BytealgIndexByte.indexByte) (by kernel_rfl)]
  have : (Extern.BytealgIndexByte.indexByte #[.slice A l.length c, .int .u8 0]).run prog w = .ok (.int .i64 (Lib.indexByte l 0)) w := by
    have hs := Lib.run_indexByteString (P := prog) ⟨l.toArray⟩ 0 w
    change Sem.run prog (do
      let b ← Extern.Bytes.bytesOf (.slice A l.length c)
      let c ← Extern.Bytes.asByte (.int .u8 0)
      match (List.range b.size).find? fun i => b[i]! == c with
      | some i => pure (goInt i)
      | none => pure (goInt (-1))) w = _
    change Sem.run prog (do
      let b ← Extern.Bytes.bytesOf (.string ⟨l.toArray⟩)
      let c ← Extern.Bytes.asByte (.int .u8 0)
      match (List.range b.size).find? fun i => b[i]! == c with
      | some i => pure (goInt i)
      | none => pure (goInt (-1))) w = _ at hs
    rw [Sem.run_bind, load_run h]
    rw [Sem.run_bind] at hs
    exact hs
  rw [this]; rfl
theorem row_from {w : World} {p : Option Addr} {l : Bs} (h : Row w p (l.map U8)) {lo c : Nat} (hc : l.length ≤ c) : Row w (subA p lo c 1) ((l.drop lo).map U8) := by
  have := h.from (lo := lo) (c := c) (sz := 1) (n := l.length) (by simp) hc
  rw [Nat.mul_one, ← List.map_drop] at this
  exact this
theorem row_cut {w : World} {p : Option Addr} {l : Bs} (h : Row w p (l.map U8)) {lo hi c : Nat} (hc : hi ≤ c) : Row w (subA p lo c 1) (((l.drop lo).take (hi - lo)).map U8) := by
  have := h.cut (lo := lo) (hi := hi) (c := c) (sz := 1) hc
  rw [Nat.mul_one, Nat.mul_one, ← List.map_drop, ← List.map_take] at this
  exact this
theorem u8_num {b : UInt8} {n : Nat} (h : n < 256) : ((b.toNat : Int) = (n : Int)) ↔ b = UInt8.ofNat n := by
  constructor
  · intro e
    apply UInt8.toNat_inj.mp
    simp; omega
  · rintro rfl; simp; omega
/-- What take answers. -/
def TakeRes (A : Option Addr) (w' : World) (l : Bs) (e : Ending) : Prop := ∃ (t : Bool) (s : ByteArray) (n : Int) (pr : Option Addr) (kr cr : Nat) (b : Bool), e = .returned (.tuple #[.agg #[.bool t, .string s, .int .i64 n], .slice pr kr cr, .bool b]) ∧ ((takeB l = none ∧ b = false) ∨ ∃ r, takeB l = some (⟨t, s, n⟩, r) ∧ b = true ∧ kr = r.length ∧ kr ≤ cr ∧ Row w' pr (r.map U8) ∧ ∀ ad, pr = some ad → ∃ a, A = some a ∧ ad.block = a.block)

set_option maxHeartbeats 2000000 in
theorem take_c {w : World} {A : Option Addr} {C : Nat} {l : Bs} (h : Row w A (l.map U8)) (h0 : 0 < l.length) (hl : l.length ≤ 100000) (hC : l.length ≤ C) :
    Calls prog 55 #[.slice A l.length C] w fun e w' => Fr [] w w' ∧ TakeRes A w' l e := by
  obtain ⟨c0, r, rfl⟩ : ∃ c0 r, l = c0 :: r := by
    cases l with
    | nil => simp at h0
    | cons c r => exact ⟨c, r, rfl⟩
  have hrl : (c0 :: r).length = r.length + 1 := rfl
  refine key_take.link fun k1 y2 hy2 => ?_
  have rd0 : ∀ {w'}, Fr [] w w' → ∃ ad, A = some ad ∧ w'.cell? (ad.add 0) = some (.int .u8 (c0.toNat : Int)) := fun f => by
    have h' := h.old f
    obtain ⟨ad, hp⟩ := h'.has (by simp)
    exact ⟨ad, hp, h'.get hp (j := 0) rfl⟩
  -- the number
  have num : ∀ w4, Fr [] w w4 → w.heap.size ≤ k1 → k1 < w4.heap.size → c0 = 1 → 8 ≤ r.length → y2 true w4 := by
    intro w4 F K0 K hc0 h8
    have hrow : Row w4 (subA A 1 C 1) ((r.take 8).map U8) := row_cut (lo := 1) (hi := 9) (c := C) (h.old F) (by omega)
    have htl : (r.take 8).length = 8 := by rw [List.length_take]; omega
    refine hy2 _ _ (bT rfl ⟨⟨by omega, by omega, by omega⟩, fun m n8 n9 w' => ∃ i : Nat, n9 = (i : Int) ∧ i ≤ 8 ∧ m = 8 - i ∧ w' = w4 ∧ n8 = ofBe ((r.take 8).take i), 8, ⟨0, rfl, by omega, rfl, rfl, rfl⟩, ?_⟩)
    rintro m n8 n9 w' ⟨i, rfl, hi, rfl, rfl, rfl⟩
    refine bc (fun hlt => ?_) fun hge => ?_
    · have hlt : (i : Int) < ((8 : Nat) : Int) := of_decide_eq_true hlt
      have hlt' : i < (r.take 8).length := by omega
      obtain ⟨ad, hp, hb, hcell⟩ := rdv hrow (n := (i : Int)) (L := ((8 : Nat) : Int)) rfl (u := U8 (r.take 8)[i]) (by rw [List.getElem?_map, List.getElem?_eq_getElem hlt']; rfl) hlt
      refine ⟨ad, hp, hb, _, hcell, by decide, 8 - (i + 1), by omega, i + 1, by rw [wrapi (by omega) (by omega)]; simp, by omega, rfl, rfl, ?_⟩
      rw [take_snoc hlt', ofBe_snoc, show ((2 : Int) ^ 8) = 256 by decide]
      have hb8 := (r.take 8)[i].toNat_lt
      exact or_step _ _ (ofBe_lt _).1 (ofBe_room (by rw [List.length_take]; omega)) (by omega) (by omega)
    · have hi8 : i = 8 := by have := of_decide_eq_false hge; omega
      subst hi8
      rw [List.take_of_length_le (by omega : (r.take 8).length ≤ 8)]
      refine ⟨⟨by omega, by omega, by omega⟩, fun w15 s15 => ?_⟩
      rw [unN_eq htl]
      refine (num_c _ w15).mono ?_
      rintro e w18 ⟨rfl, f18⟩
      have F18 := (F.trans' s15.fr).trans' f18
      refine ⟨_, _, _, rfl, keepF f18 (by have := s15.fr.size; simp; omega), fun w22 s22 => ⟨F18.trans s22.fr fun x hx => by rw [List.mem_singleton.1 hx]; exact .inr K0, false, ByteArray.empty, unN (r.take 8), _, _, _, true, rfl, .inr ⟨r.drop 8, ?_, rfl, ?_, ?_, ?_, fun ad h => subA_blk h⟩⟩⟩
      · rw [takeB, if_pos ⟨hc0, h8⟩]; rfl
      · rw [List.length_drop, Int.toNat_natCast]; rw [hrl]; omega
      · rw [Int.toNat_natCast, hrl]; rw [hrl] at hC; omega
      · have := row_from (lo := 9) (c := C) h hC
        have F22 : Fr [] w w22 := F18.trans s22.fr fun x hx => by rw [List.mem_singleton.1 hx]; exact .inr K0
        exact this.old F22
  -- the text
  have txt : ∀ w4, Fr [] w w4 → w.heap.size ≤ k1 → k1 < w4.heap.size → ¬ (c0 = 1 ∧ 8 ≤ r.length) → y2 false w4 := by
    intro w4 F K0 K hnot
    have quit : ∀ w5, Fr [] w w5 → takeB (c0 :: r) = none → ∀ w26, Step w5 w26 [k1] [] → Fr [] w w26 ∧ TakeRes A w26 (c0 :: r) (.returned (.tuple #[.agg #[.bool false, .string ByteArray.empty, .int .i64 0], .slice none 0 0, .bool false])) := fun w5 f he w26 s26 =>
      ⟨f.trans s26.fr fun x hx => by rw [List.mem_singleton.1 hx]; exact .inr K0, _, _, _, _, _, _, _, rfl, .inl ⟨he, rfl⟩⟩
    obtain ⟨ad, hA, hcell⟩ := rd0 F
    refine hy2 _ _ (bF rfl ⟨ad, hA, ⟨by omega, by omega⟩, _, hcell, bc (fun hne w26 s26 => ?_) fun hne => ?_⟩)
    · have hne : ¬ c0 = 2 := fun z => by rw [z] at hne; exact absurd hne (by decide)
      exact quit w4 F (by rw [takeB, if_neg hnot, if_neg hne]) w26 s26
    have h2 : c0 = 2 := by
      have hne : (c0.toNat : Int) = 2 := by simpa using hne
      exact (u8_num (n := 2) (by decide)).1 hne
    have htake : takeB (c0 :: r) = (untxt r).map fun x => (Str ⟨x.1.toArray⟩, x.2) := by rw [takeB, if_neg hnot, if_pos h2]
    refine ⟨⟨by omega, by omega, by omega⟩, fun m p k c p' k' c' w' => ∃ S rest : Bs, k = S.length ∧ OwnZ w' w4.heap.size 1 p S.length c (S.map U8) ∧ Row w p' (rest.map U8) ∧ (∀ ad, p' = some ad → ∃ a, A = some a ∧ ad.block = a.block) ∧ k' = rest.length ∧ k' ≤ c' ∧ m = 0 + rest.length ∧ Fr [] w4 w' ∧ S.length + rest.length ≤ r.length ∧ untxt r = (untxt rest).map fun x => (S ++ x.1, x.2), 0 + r.length, ⟨[], r, rfl, OwnZ.nil _ _ _, row_from (lo := 1) (c := C) h hC, (fun ad h => subA_blk h), by rw [Int.toNat_natCast]; rfl, by rw [Int.toNat_natCast]; omega, rfl, Fr.refl _ _, by simp, by cases h : untxt r <;> simp [h]⟩, ?_⟩
    rintro m p31 k32 c33 p34 k35 c36 w37 ⟨S, rest, rfl, o, hr4, hbk, rfl, hc36, rfl, F37, hSl, hu⟩
    have hr := hr4.old (F.trans' F37)
    have z37 := F37.size
    rw [hrl] at hl
    refine (index_c (c := c36) hr).mono ?_
    rintro e w40 ⟨rfl, rfl⟩
    refine ⟨_, rfl, fun _ _ => rfl, fun y42 h42 => ?_⟩
    have fail : untxt rest = none → y42 true w40 := fun he => h42 _ _ (bT rfl fun w45 s45 => quit w40 (F.trans' F37) (by rw [htake, hu, he]; rfl) w45 s45)
    rcases idx_spec rest with ⟨ei, hn⟩ | ⟨P, B, hB, hn, ei⟩
    · rw [ei]
      exact bT rfl (fail (untxt_none _ hn))
    rw [ei] at h42 ⊢
    have hPl : rest.length = P.length + 1 + B.length := by rw [hB, List.length_append, List.length_cons]; omega
    refine bF (decide_eq_false (by omega)) ?_
    rw [wrapi (n := (P.length : Int) + 1) (by omega) (by omega)]
    refine bc (fun hend => ?_) fun hend => ?_
    · have : B = [] := by have := of_decide_eq_true hend; exact List.length_eq_zero_iff.1 (by omega)
      subst this
      exact fail (by rw [hB]; exact untxt_one _ hn)
    have hBl : 0 < B.length := by have := of_decide_eq_false hend; omega
    obtain ⟨d, R, rfl⟩ : ∃ d R, B = d :: R := by
      cases B with
      | nil => simp at hBl
      | cons d R => exact ⟨d, R, rfl⟩
    rw [List.length_cons] at hPl
    have hnext : untxt rest = if d = 1 then some (P, R) else if d = 255 then (untxt R).map fun x => (P ++ 0 :: x.1, x.2) else none := by
      rw [hB, untxt_plain _ _ hn, untxt, if_pos rfl]
      split
      · simp
      · split
        · cases untxt R <;> rfl
        · rfl
    have rd1 : ∀ {w'}, Fr [] w w' → ∃ ad, p34 = some ad ∧ (0 ≤ (P.length : Int) + 1 ∧ (P.length : Int) + 1 < (rest.length : Int)) ∧ w'.cell? (ad.add (Int.toNat ((P.length : Int) + 1) * 1)) = some (.int .u8 (d.toNat : Int)) := fun f => by
      exact rdv (i := P.length + 1) (hr4.old f) (n := (P.length : Int) + 1) (L := (rest.length : Int)) (by omega) (u := U8 d) (by rw [List.getElem?_map, hB, List.getElem?_append_right (by omega), show P.length + 1 - P.length = 1 by omega]; rfl) (by omega)
    -- the byte behind the zero is 1 or 255
    have go : (d = 1 ∨ d = 255) → y42 false w40 := by
      intro hd
      refine h42 _ _ (bF rfl ⟨⟨by omega, by omega, by omega⟩, P.map U8, by rw [List.length_map]; omega, ?_, ?_⟩)
      · rw [subA_0]
        have := hr.pre P.length
        rw [← List.map_take, hB, List.take_left'  rfl] at this
        exact this
      rw [Int.toNat_natCast, Nat.sub_zero]
      refine appB (zs := P) (u := w4) rfl rfl o F37 (Nat.le_refl _) z37 rfl (fun _ => rfl) rfl (fun ad hp hin => by have := (o.lt hp).1; simp at hin; omega) (by omega) fun w48 p49 c51 g48 n48 d48 o48 => ?_
      rw [wrapi (n := (P.length : Int) + 1) (by omega) (by omega)]
      obtain ⟨ad52, hp52, hb52, hc52⟩ := rd1 (F.trans' g48.fu)
      have z48 := g48.fv.size
      refine ⟨ad52, hp52, hb52, _, hc52, bc (fun h1 => ?_) fun h1 => ?_⟩
      · have h1 : d = 1 := (u8_num (n := 1) (by decide)).1 (of_decide_eq_true h1)
        rw [if_pos h1] at hnext
        refine ⟨S ++ P, rfl, fun k hk => ?_, ?_⟩
        · obtain ⟨ad, hp⟩ := o48.row.has (by rw [List.length_map]; omega)
          refine ⟨ad, hp, ?_⟩
          rw [o48.row.get hp (j := k) (u := U8 (S ++ P)[k]) (by rw [List.getElem?_map, List.getElem?_eq_getElem hk]; rfl), List.getD_eq_getElem?_getD, List.getElem?_eq_getElem hk]; rfl
        rw [wrapi (n := (P.length : Int) + 2) (by omega) (by omega)]
        refine ⟨⟨by omega, by omega, by omega⟩, fun w58 s58 => (str_c _ w58).mono ?_⟩
        rintro e w61 ⟨rfl, f61⟩
        have F61 := (g48.fu.trans' s58.fr).trans' f61
        refine ⟨_, _, _, rfl, keepF f61 (by have := s58.fr.size; simp; omega), fun w65 s65 => ?_⟩
        have F65 : Fr [] w w65 := (F.trans' F61).trans s65.fr fun x hx => by rw [List.mem_singleton.1 hx]; exact .inr K0
        refine ⟨F65, true, _, 0, _, _, _, true, rfl, .inr ⟨R, ?_, rfl, ?_, ?_, ?_, fun ad h => by obtain ⟨a, h1, h2⟩ := subA_blk h; obtain ⟨a2, h3, h4⟩ := hbk a h1; exact ⟨a2, h3, h2.trans h4⟩⟩⟩
        · rw [htake, hu, hnext]; rfl
        · rw [Int.toNat_natCast]; omega
        · rw [Int.toNat_natCast]; omega
        · have e2 : Int.toNat ((P.length : Int) + 2) = P.length + 2 := by omega
          rw [e2]
          have hx := row_from (lo := P.length + 2) (c := c36) hr4 hc36
          rw [hB, show P.length + 2 = P.length + 1 + 1 by omega, ← List.drop_drop, ← List.drop_drop, List.drop_left' rfl] at hx
          have hx : Row w (subA p34 (P.length + 1 + 1) c36 1) (R.map U8) := hx
          exact hx.old F65
      · have h1 : ¬ d = 1 := fun z => of_decide_eq_false h1 ((u8_num (n := 1) (by decide)).2 z)
        have h255 : d = 255 := hd.resolve_left h1
        rw [if_neg h1, if_pos h255] at hnext
        intro k67
        refine appB (zs := [0]) (u := w4) rfl rfl o48 g48.fu (Nat.le_refl _) (by omega) rfl (fun h => by cases h) rfl (fun ad hp hin => by have := (o48.lt hp).1; simp at hin ⊢; omega) (by simp; omega) fun w68 p69 c71 g68 n68 d68 o68 => ?_
        rw [wrapi (n := (P.length : Int) + 2) (by omega) (by omega)]
        have e2 : Int.toNat ((P.length : Int) + 2) = P.length + 2 := by omega
        have e3 : Int.toNat (rest.length : Int) = rest.length := Int.toNat_natCast _
        rw [e2, e3]
        refine ⟨⟨by omega, by omega, by omega⟩, 0 + R.length, by omega, S ++ P ++ [0], R, rfl, o68, ?_, (fun ad h => by obtain ⟨a, h1, h2⟩ := subA_blk h; obtain ⟨a2, h3, h4⟩ := hbk a h1; exact ⟨a2, h3, h2.trans h4⟩), by omega, by omega, rfl, g68.fu, by simp; omega, ?_⟩
        · have hx := row_from (lo := P.length + 2) (c := c36) hr4 hc36
          rw [hB, show P.length + 2 = P.length + 1 + 1 by omega, ← List.drop_drop, ← List.drop_drop, List.drop_left' rfl] at hx
          exact hx
        · rw [hu, hnext]
          cases untxt R <;> simp
    obtain ⟨ad75, hp75, hb75, hc75⟩ := rd1 (F.trans' F37)
    refine ⟨ad75, hp75, hb75, _, hc75, bc (fun h1 => ?_) fun h1 => ?_⟩
    · have h1 : ¬ d = 1 := fun z => by rw [z] at h1; exact absurd h1 (by decide)
      refine ⟨ad75, hp75, hb75, _, hc75, ?_⟩
      by_cases h255 : d = 255
      · rw [decide_eq_true (show (d.toNat : Int) = 255 from (u8_num (n := 255) (by decide)).2 h255)]
        exact go (.inr h255)
      · rw [decide_eq_false (show ¬ (d.toNat : Int) = 255 from fun z => h255 ((u8_num (n := 255) (by decide)).1 z))]
        exact fail (by rw [hnext, if_neg h1, if_neg h255])
    · have h1 : (d.toNat : Int) = 1 := by simpa using h1
      exact go (.inl ((u8_num (n := 1) (by decide)).1 h1))
  obtain ⟨ad, hA, hcell⟩ := rd0 (Fr.refl [] w)
  refine ⟨ad, hA, ⟨by omega, by omega⟩, _, hcell, bc (fun h1 w83 s83 => ?_) fun h1 w85 s85 => ?_⟩
  · have h1 : c0 = 1 := (u8_num (n := 1) (by decide)).1 (of_decide_eq_true h1)
    have n83 := g_new1 s83
    by_cases h8 : 8 ≤ r.length
    · rw [decide_eq_true (by rw [hrl]; omega)]
      exact num _ s83.fr n83.1 n83.2 h1 h8
    · rw [decide_eq_false (by rw [hrl]; omega)]
      exact txt _ s83.fr n83.1 n83.2 fun z => h8 z.2
  · have h1 : ¬ c0 = 1 := fun z => of_decide_eq_false h1 ((u8_num (n := 1) (by decide)).2 z)
    have n85 := g_new1 s85
    exact txt _ s85.fr n85.1 n85.2 fun z => h1 z.1
end Go.Proofs.YtalegpdnhkopmaaDoor.Ky
