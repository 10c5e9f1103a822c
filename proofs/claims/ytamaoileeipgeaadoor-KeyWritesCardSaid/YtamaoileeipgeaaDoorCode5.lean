/- The reading of a key: Decode and the document's Decode decode what parse says. -/
import Derived.Test.YtamaoileeipgeaaDoorCode4
import Derived.Test.YtamaoileeipgeaaDoorXKey10
namespace Go.Proofs.YtamaoileeipgeaaDoor.XKey
open Go.RowKit Go.Proofs.YtamaoileeipgeaaDoorW.PrintWords Go.Proofs.YtamaoileeipgeaaDoorW.PrintLast Go.Proofs.YtamaoileeipgeaaDoorW.PrintMore
set_option linter.unusedVariables false
set_option linter.unusedSimpArgs false

/-- All parts that bytes are; none: they are no key's. -/
def parse : Nat → List Int → Option (List S31)
  | 0, _ => some []
  | n + 1, l => if l = [] then some [] else match parse1 l with
    | none => none
    | some (p, r) => (parse n r).map (p :: ·)
theorem kbp_pos (p : S31) : 0 < (kbp p).length := by
  unfold kbp kb
  split <;> simp
theorem IsB.right {a b : List Int} (h : IsB (a ++ b)) : IsB b := fun x hx => h x (List.mem_append_right a hx)
theorem parse_sound : ∀ (n : Nat) (l : List Int), l.length ≤ n → IsB l → ∀ ps, parse n l = some ps → l = ps.flatMap kbp ∧ ps.length ≤ l.length ∧ ∀ p ∈ ps, plain p = p := by
  intro n
  induction n with
  | zero =>
    intro l hl _ ps h
    have hl0 : l = [] := List.eq_nil_of_length_eq_zero (by omega)
    subst hl0
    obtain rfl := Option.some.inj h
    exact ⟨rfl, by simp, by simp⟩
  | succ n ih =>
    intro l hl hb ps h
    rw [parse] at h
    by_cases c : l = []
    · rw [if_pos c] at h
      obtain rfl := Option.some.inj h
      exact ⟨c, by simp, by simp⟩
    · rw [if_neg c] at h
      cases hp : parse1 l with
      | none => rw [hp] at h; cases h
      | some pr =>
        obtain ⟨p, r⟩ := pr
        rw [hp] at h
        obtain ⟨e, hpl⟩ := parse1_sound l hb p r hp
        have hlen : l.length = (kbp p).length + r.length := by rw [e, List.length_append]
        have := kbp_pos p
        change (parse n r).map (p :: ·) = some ps at h
        cases hr : parse n r with
        | none => rw [hr] at h; cases h
        | some qs =>
          rw [hr] at h
          obtain rfl := Option.some.inj h
          obtain ⟨e2, h2, h3⟩ := ih r (by omega) (IsB.right (e ▸ hb)) qs hr
          refine ⟨by rw [List.flatMap_cons, ← e2]; exact e, by rw [List.length_cons]; omega, fun q hq => ?_⟩
          rcases List.mem_cons.mp hq with rfl | hq
          · exact hpl
          · exact h3 q hq
def In64p (p : S31) : Prop := -9223372036854775808 ≤ p.f2 ∧ p.f2 ≤ 9223372036854775807
theorem parse_complete : ∀ (ps : List S31) (n : Nat), (ps.flatMap kbp).length ≤ n → (∀ p ∈ ps, In64p p) → parse n (ps.flatMap kbp) = some (ps.map plain)
  | [], n, _, _ => by cases n <;> rfl
  | p :: ps, n, hn, hp => by
    have h0 := kbp_pos p
    rw [List.flatMap_cons, List.length_append] at hn
    match n, hn with
    | 0, hn => omega
    | n + 1, hn =>
      have ih := parse_complete ps n (by omega) (fun q hq => hp q (by simp [hq]))
      have hne : ¬ (p :: ps).flatMap kbp = [] := by
        intro z
        have := congrArg List.length z
        rw [List.flatMap_cons, List.length_append, List.length_nil] at this
        omega
      rw [parse, if_neg hne, List.flatMap_cons, parse1_complete p (hp p (by simp))]
      show (parse n (ps.flatMap kbp)).map (plain p :: ·) = _
      rw [ih]; rfl

def decR (acc : List S31) : Option (List S31) → List S31 × Int
  | none => ([], 6)
  | some ps => (acc ++ ps, 0)
theorem decode_l0 : ∀ (n : Nat) (l : List Int) (acc : List S31), l.length ≤ n → IsB l → l.length ≤ 200 → acc.length + l.length < 4398046511104 →
    Ev (fun k => key_Decode.l0 k l acc) (decR acc (parse n l)) := by
  have hnil : ∀ acc, Ev (fun k => key_Decode.l0 k [] acc) (acc, 0) := fun acc =>
    Ev.step (f := fun _ => some (acc, 0)) (fun k => by rw [key_Decode.l0, if_neg (by decide)]; rfl) (Ev.now _)
  intro n
  induction n with
  | zero =>
    intro l acc hl hb h2 ha
    have hl0 : l = [] := List.eq_nil_of_length_eq_zero (by omega)
    subst hl0
    show Ev _ (acc ++ [], 0)
    rw [List.append_nil]
    exact hnil acc
  | succ n ih =>
    intro l acc hl hb h2 ha
    rw [parse]
    by_cases c : l = []
    · rw [if_pos c, c]
      show Ev _ (acc ++ [], 0)
      rw [List.append_nil]
      exact hnil acc
    · rw [if_neg c]
      have hpos : 0 < l.length := List.length_pos_iff.mpr c
      have ht := take_ev l hb hpos (by omega)
      refine Ev.step (f := fun k => (key_take.f k l).bind fun bt263 => (if bt263.2.2.2.2 = true then (if acc.length < 4398046511104 then (key_Decode.l0 k bt263.2.2.2.1 (acc ++ [(⟨bt263.1, bt263.2.1, bt263.2.2.1⟩ : S31)])) else (none)) else (some (([] : List (S31)), 6)))) (fun k => by rw [key_Decode.l0, if_pos (by omega)]) ?_
      refine Ev.bind ht ?_
      cases hp : parse1 l with
      | none => exact Ev.now _
      | some pr =>
        obtain ⟨p, r⟩ := pr
        obtain ⟨e, hpl⟩ := parse1_sound l hb p r hp
        have hlen : l.length = (kbp p).length + r.length := by rw [e, List.length_append]
        have := kbp_pos p
        have h1 := ih r (acc ++ [p]) (by omega) (IsB.right (e ▸ hb)) (by omega) (by rw [List.length_append, List.length_singleton]; omega)
        refine Ev.congr (f := fun k => key_Decode.l0 k r (acc ++ [p])) (fun k => ?_) ?_
        · show (if true = true then (if acc.length < 4398046511104 then key_Decode.l0 k r (acc ++ [p]) else none) else _) = _
          rw [if_pos rfl, if_pos (by omega)]
        · show Ev _ (decR acc ((parse n r).map (p :: ·)))
          cases hr : parse n r with
          | none => rw [hr] at h1; exact h1
          | some qs =>
            rw [hr] at h1
            show Ev _ (acc ++ p :: qs, 0)
            have e3 : acc ++ p :: qs = (acc ++ [p]) ++ qs := by simp
            rw [e3]
            exact h1
theorem decode_ev (l : List Int) (hb : IsB l) : Ev (fun k => key_Decode.f k l) (if l.length > 200 then ([], 3) else decR [] (parse l.length l)) := by
  by_cases c : l.length > 200
  · rw [if_pos c]
    refine Ev.congr (fun k => ?_) (Ev.now _)
    unfold key_Decode.f
    exact if_pos (by omega)
  · rw [if_neg c]
    refine Ev.congr (fun k => ?_) (decode_l0 l.length l [] (Nat.le_refl _) hb (by omega) (by rw [List.length_nil]; omega))
    unfold key_Decode.f
    exact if_neg (by omega)

/-! ### the document's Decode -/
theorem refl1_step (k : Nat) (x0 : List Int) (x4 : List S56) (x5 x7 x8 z y w : Int) (t : Bool) (s : ByteArray) (n : Int) (h8 : x8 < 9) (hz : wrap64 (x5 + x8) = z) (h0 : 0 ≤ z) (h1 : z < (x0.length : Int)) (hy : rd x0 z = y) (hw : wrap64 (x8 + 1) = w) :
    rhizomeref01_Decode.l1 (k + 1) x0 x4 x5 x7 x8 t s n = rhizomeref01_Decode.l1 k x0 x4 x5 (IntKind.u64.wrap (IntKind.u64.wrap (x7 * 256) + IntKind.u64.wrap y)) w t s n := by
  rw [rhizomeref01_Decode.l1, if_pos h8, hz, if_pos h0, if_pos h1, hy, hw]
theorem refl1_end (k : Nat) (x0 : List Int) (x4 : List S56) (x5 x7 N : Int) (t : Bool) (s : ByteArray) (n : Int) (h4 : x4.length < 4398046511104) (hN : wrap64 (IntKind.u64.wrap (x7 + 9223372036854775808)) = N) :
    rhizomeref01_Decode.l1 (k + 1) x0 x4 x5 x7 9 t s n = (rhizomeref01_Bytes.f k t s N).bind fun t318 => rhizomeref01_Decode.l0 k x0 (x4 ++ [(⟨t, s, N⟩ : S56)]) (wrap64 (x5 + (t318.length : Int))) := by
  rw [rhizomeref01_Decode.l1, if_neg (by decide), if_pos h4, hN]
theorem refl1 (x0 b : List Int) (x4 : List S56) (i : Nat) (hb : IsB b) (hbl : b.length = 8) (hi : i + 9 ≤ x0.length) (hx : x0.length ≤ 5000) (h4 : x4.length < 4398046511104)
    (hrd : ∀ j, j < 8 → rd x0 ((i + (j + 1) : Nat) : Int) = rd b (j : Int)) (t : Bool) (s : ByteArray) (n : Int) (R : List S56 × Int) : ∀ (m j : Nat) (x : Int), b.length - j = m → j ≤ b.length → Room8 x m →
    Ev (fun k => (rhizomeref01_Bytes.f k t s (wrap64 (((b.drop j).foldl (fun n x => n * 256 + x) x + 9223372036854775808) % 18446744073709551616))).bind fun t318 => rhizomeref01_Decode.l0 k x0 (x4 ++ [(⟨t, s, wrap64 (((b.drop j).foldl (fun n x => n * 256 + x) x + 9223372036854775808) % 18446744073709551616)⟩ : S56)]) (wrap64 ((i : Int) + (t318.length : Int)))) R →
    Ev (fun k => rhizomeref01_Decode.l1 k x0 x4 (i : Int) x ((j + 1 : Nat) : Int) t s n) R
  | 0, j, x, hm, hj, hr, h => by
    rw [List.drop_eq_nil_of_le (by omega)] at h
    have e9 : ((j + 1 : Nat) : Int) = 9 := by omega
    rw [e9]
    refine Ev.step (fun k => ?_) h
    exact refl1_end k x0 x4 (i : Int) x _ t s n h4 (by rw [IntKind.wrap_u64]; rfl)
  | m + 1, j, x, hm, hj, hr, h => by
    obtain ⟨h0, h1⟩ := hb.at_ j (by omega)
    rw [rd_drop b j (by omega)] at h
    have ih := refl1 x0 b x4 i hb hbl hi hx h4 hrd t s n R m (j + 1) (x * 256 + rd b (j : Int)) (by omega) (by omega) (hr.next h0 h1) h
    refine Ev.step (fun k => ?_) ih
    rw [refl1_step k x0 x4 (i : Int) x ((j + 1 : Nat) : Int) ((i + (j + 1) : Nat) : Int) (rd b (j : Int)) ((j + 1 + 1 : Nat) : Int) t s n (by omega) (by unfold wrap64; omega) (by omega) (by omega) (hrd j (by omega)) (wrap_succ (j + 1) (by omega)), add_step x _ hr.1 hr.now h0 h1]

theorem strOfNums_app (a b : List Int) : strOfNums a ++ strOfNums b = strOfNums (a ++ b) := by
  apply ByteArray.ext
  simp [strOfNums]
theorem l2_out (k : Nat) (x0 : List Int) (x4 : List S56) (x5 x9 : Int) (t : Bool) (s : ByteArray) (n : Int) (h : ¬ x9 < (x0.length : Int)) :
    rhizomeref01_Decode.l2 (k + 1) x0 x4 x5 x9 t s n = rhizomeref01_Decode.j4 k x0 x4 x5 x9 false t s n := by
  rw [rhizomeref01_Decode.l2, if_neg h]
theorem l2_in (k : Nat) (x0 : List Int) (x4 : List S56) (x5 x9 y : Int) (t : Bool) (s : ByteArray) (n : Int) (h : x9 < (x0.length : Int)) (h0 : 0 ≤ x9) (hy : rd x0 x9 = y) (hn : y ≠ 0) :
    rhizomeref01_Decode.l2 (k + 1) x0 x4 x5 x9 t s n = rhizomeref01_Decode.j4 k x0 x4 x5 x9 true t s n := by
  rw [rhizomeref01_Decode.l2, if_pos h, if_pos h0, hy, if_neg hn]
theorem l2_zero (k : Nat) (x0 : List Int) (x4 : List S56) (x5 x9 w z : Int) (t : Bool) (s : ByteArray) (n : Int) (h : x9 < (x0.length : Int)) (h0 : 0 ≤ x9) (hy : rd x0 x9 = 0) (hw : wrap64 (x9 + 1) = w) (h1 : w < (x0.length : Int)) (h2 : 0 ≤ w) (hz : rd x0 w = z) :
    rhizomeref01_Decode.l2 (k + 1) x0 x4 x5 x9 t s n = rhizomeref01_Decode.j4 k x0 x4 x5 x9 (z == 255) t s n := by
  rw [rhizomeref01_Decode.l2, if_pos h, if_pos h0, hy, if_pos rfl, hw, if_pos h1, if_pos h2, hz]
theorem l2_last (k : Nat) (x0 : List Int) (x4 : List S56) (x5 x9 w : Int) (t : Bool) (s : ByteArray) (n : Int) (h : x9 < (x0.length : Int)) (h0 : 0 ≤ x9) (hy : rd x0 x9 = 0) (hw : wrap64 (x9 + 1) = w) (h1 : ¬ w < (x0.length : Int)) :
    rhizomeref01_Decode.l2 (k + 1) x0 x4 x5 x9 t s n = rhizomeref01_Decode.j4 k x0 x4 x5 x9 false t s n := by
  rw [rhizomeref01_Decode.l2, if_pos h, if_pos h0, hy, if_pos rfl, hw, if_neg h1]
theorem j4_t (k : Nat) (x0 : List Int) (x4 : List S56) (x5 x9 w v : Int) (t : Bool) (s u : ByteArray) (n : Int) (hw : wrap64 (x9 + 1) = w) (hv : wrap64 (w + 1) = v) (h0 : 0 ≤ x9) (h1 : x9 ≤ w) (h2 : w ≤ (x0.length : Int)) (hu : strOfNums ((x0.take w.toNat).drop x9.toNat) = u) (hs : s.size + u.size ≤ 9223372036854775807) (h3 : x9 < (x0.length : Int)) (y : Int) (hy : rd x0 x9 = y) :
    rhizomeref01_Decode.j4 (k + 1) x0 x4 x5 x9 true t s n = if y = 0 then rhizomeref01_Decode.l2 k x0 x4 x5 v t (s ++ u) n else rhizomeref01_Decode.l2 k x0 x4 x5 w t (s ++ u) n := by
  rw [rhizomeref01_Decode.j4, if_pos rfl, if_pos h0, hw, if_pos h1, if_pos h2, hu, if_pos hs, if_pos h3, hy, hv]
theorem j4_end (k : Nat) (x0 : List Int) (x4 : List S56) (x5 x9 w : Int) (t : Bool) (s : ByteArray) (n : Int) (hw : wrap64 (x9 + 1) = w) (h : w ≥ (x0.length : Int)) :
    rhizomeref01_Decode.j4 (k + 1) x0 x4 x5 x9 false t s n = some ([], 6) := by
  rw [rhizomeref01_Decode.j4, if_neg (by decide), hw, if_pos h]
theorem j4_f (k : Nat) (x0 : List Int) (x4 : List S56) (x5 x9 w y : Int) (t : Bool) (s : ByteArray) (n : Int) (hw : wrap64 (x9 + 1) = w) (h : ¬ w ≥ (x0.length : Int)) (h0 : 0 ≤ w) (h1 : w < (x0.length : Int)) (hy : rd x0 w = y) (h4 : x4.length < 4398046511104) :
    rhizomeref01_Decode.j4 (k + 1) x0 x4 x5 x9 false t s n = if y = 1 then (rhizomeref01_Bytes.f k t s n).bind fun t330 => rhizomeref01_Decode.l0 k x0 (x4 ++ [(⟨t, s, n⟩ : S56)]) (wrap64 (x5 + (t330.length : Int))) else some ([], 6) := by
  rw [rhizomeref01_Decode.j4, if_neg (by decide), hw, if_neg h, if_pos h0, if_pos h1, hy, if_pos h4]

theorem rd_of_drop (x0 : List Int) (a : Nat) (y : Int) (r : List Int) (h : x0.drop a = y :: r) : rd x0 (a : Int) = y ∧ x0.drop (a + 1) = r ∧ a < x0.length ∧ (x0.take (a + 1)).drop a = [y] := by
  have hl : a < x0.length := by
    rcases Nat.lt_or_ge a x0.length with c | c
    · exact c
    · rw [List.drop_eq_nil_of_le c] at h; cases h
  have h2 := rd_drop x0 a hl
  rw [h] at h2
  obtain ⟨h3, h4⟩ := List.cons.inj h2
  refine ⟨h3.symm, h4.symm, hl, ?_⟩
  rw [List.take_succ_eq_append_getElem hl, List.drop_left' (by rw [List.length_take]; omega), h3]
  simp [rd, hl]
theorem ref_l2 (x0 : List Int) (x4 : List S56) (i : Nat) (hx : x0.length ≤ 5000) (h4 : x4.length < 4398046511104) : ∀ (m a : Nat) (s : List Int), (x0.drop a).length ≤ m → s.length ≤ a → a ≤ x0.length + 1 →
    (txt (x0.drop a) = none → Ev (fun k => rhizomeref01_Decode.l2 k x0 x4 (i : Int) (a : Int) true (strOfNums s) 0) ([], 6)) ∧
    (∀ q r R, txt (x0.drop a) = some (q, r) → Ev (fun k => (rhizomeref01_Bytes.f k true (strOfNums (s ++ q)) 0).bind fun t330 => rhizomeref01_Decode.l0 k x0 (x4 ++ [(⟨true, strOfNums (s ++ q), 0⟩ : S56)]) (wrap64 ((i : Int) + (t330.length : Int)))) R →
      Ev (fun k => rhizomeref01_Decode.l2 k x0 x4 (i : Int) (a : Int) true (strOfNums s) 0) R) := by
  intro m
  have hend : ∀ (a : Nat) (s : List Int), x0.drop a = [] → a ≤ x0.length + 1 → Ev (fun k => rhizomeref01_Decode.l2 k x0 x4 (i : Int) (a : Int) true (strOfNums s) 0) ([], 6) := by
    intro a s e ha
    have hge : x0.length ≤ a := by
      have := congrArg List.length e
      rw [List.length_drop, List.length_nil] at this
      omega
    exact Ev.step (fun k => l2_out k x0 x4 _ _ true _ 0 (by omega)) (Ev.step (f := fun _ => some ([], 6)) (fun k => j4_end k x0 x4 _ _ _ true _ 0 (wrap_succ a (by omega)) (by omega)) (Ev.now _))
  induction m with
  | zero =>
    intro a s hm hs ha
    have e : x0.drop a = [] := List.eq_nil_of_length_eq_zero (by omega)
    refine ⟨fun _ => hend a s e ha, fun q r R h => ?_⟩
    rw [e, txt_nil] at h; cases h
  | succ m ih =>
    intro a s hm hs ha
    cases hd : x0.drop a with
    | nil =>
      refine ⟨fun _ => hend a s hd ha, fun q r R h => ?_⟩
      rw [txt_nil] at h; cases h
    | cons x r =>
      obtain ⟨hrd, hdr, hlt, hsl⟩ := rd_of_drop x0 a x r hd
      rw [hd, List.length_cons] at hm
      have hw := wrap_succ a (by omega)
      have hv := wrap_succ (a + 1) (by omega)
      have hu : strOfNums ((x0.take ((a + 1 : Nat) : Int).toNat).drop (a : Int).toNat) = strOfNums [x] := by rw [Int.toNat_natCast, Int.toNat_natCast, hsl]
      have hsz : (strOfNums s).size + (strOfNums [x]).size ≤ 9223372036854775807 := by
        have e1 := strOfNums_size s
        have e2 := strOfNums_size [x]
        rw [List.length_singleton] at e2
        omega
      have hj : ∀ k, rhizomeref01_Decode.j4 (k + 1) x0 x4 (i : Int) (a : Int) true true (strOfNums s) 0 = if x = 0 then rhizomeref01_Decode.l2 k x0 x4 (i : Int) ((a + 1 + 1 : Nat) : Int) true (strOfNums (s ++ [x])) 0 else rhizomeref01_Decode.l2 k x0 x4 (i : Int) ((a + 1 : Nat) : Int) true (strOfNums (s ++ [x])) 0 := fun k => by
        rw [j4_t k x0 x4 (i : Int) (a : Int) _ _ true (strOfNums s) (strOfNums [x]) 0 hw hv (by omega) (by omega) (by omega) hu hsz (by omega) x hrd, strOfNums_app]
      by_cases c : x = 0
      · cases hr : r with
        | nil =>
          have hlast : ¬ ((a + 1 : Nat) : Int) < (x0.length : Int) := by
            have := congrArg List.length (hdr.trans hr)
            rw [List.length_drop, List.length_nil] at this
            omega
          rw [c]
          refine ⟨fun _ => ?_, fun q r R h => ?_⟩
          · exact Ev.step (fun k => l2_last k x0 x4 _ _ _ true _ 0 (by omega) (by omega) (hrd.trans c) hw hlast) (Ev.step (f := fun _ => some ([], 6)) (fun k => j4_end k x0 x4 _ _ _ true _ 0 hw (by omega)) (Ev.now _))
          · rw [txt_0nil] at h; cases h
        | cons y q =>
          obtain ⟨hrd2, hdr2, hlt2, _⟩ := rd_of_drop x0 (a + 1) y q (hdr.trans hr)
          have hl2 : ∀ k, rhizomeref01_Decode.l2 (k + 1) x0 x4 (i : Int) (a : Int) true (strOfNums s) 0 = rhizomeref01_Decode.j4 k x0 x4 (i : Int) (a : Int) (y == 255) true (strOfNums s) 0 := fun k =>
            l2_zero k x0 x4 _ _ _ _ true _ 0 (by omega) (by omega) (hrd.trans c) hw (by omega) (by omega) hrd2
          have hf : ∀ k, rhizomeref01_Decode.j4 (k + 1) x0 x4 (i : Int) (a : Int) false true (strOfNums s) 0 = if y = 1 then (rhizomeref01_Bytes.f k true (strOfNums s) 0).bind fun t330 => rhizomeref01_Decode.l0 k x0 (x4 ++ [(⟨true, strOfNums s, 0⟩ : S56)]) (wrap64 ((i : Int) + (t330.length : Int))) else some ([], 6) := fun k =>
            j4_f k x0 x4 _ _ _ y true _ 0 hw (by omega) (by omega) (by omega) hrd2 h4
          rw [c, txt_0]
          by_cases c1 : y = 1
          · have hne : (y == 255) = false := beq_false_of_ne (by omega)
            rw [if_pos c1]
            refine ⟨fun h => (by cases h), fun q' r' R h hR => ?_⟩
            obtain ⟨rfl, rfl⟩ := Prod.mk.inj (Option.some.inj h)
            rw [List.append_nil] at hR
            refine Ev.step (fun k => by rw [hl2, hne]) (Ev.step (fun k => by rw [hf, if_pos c1]) hR)
          · rw [if_neg c1]
            by_cases c2 : y = 255
            · have heq : (y == 255) = true := by rw [c2]; rfl
              rw [if_pos c2]
              have hml : (x0.drop (a + 1 + 1)).length ≤ m := by rw [hdr2]; rw [hr, List.length_cons] at hm; omega
              obtain ⟨i1, i2⟩ := ih (a + 1 + 1) (s ++ [x]) hml (by rw [List.length_append, List.length_singleton]; omega) (by omega)
              rw [hdr2] at i1 i2
              have hgo : ∀ R, Ev (fun k => rhizomeref01_Decode.l2 k x0 x4 (i : Int) ((a + 1 + 1 : Nat) : Int) true (strOfNums (s ++ [x])) 0) R → Ev (fun k => rhizomeref01_Decode.l2 k x0 x4 (i : Int) (a : Int) true (strOfNums s) 0) R := fun R h =>
                Ev.step (fun k => by rw [hl2, heq]) (Ev.step (fun k => by rw [hj, if_pos c]) h)
              cases ht : txt q with
              | none => exact ⟨fun _ => hgo _ (i1 ht), fun q' r' R h => by cases h⟩
              | some pr =>
                obtain ⟨p1, p2⟩ := pr
                refine ⟨fun h => (by cases h), fun q' r' R h hR => hgo R (i2 p1 p2 R ht ?_)⟩
                obtain ⟨rfl, rfl⟩ := Prod.mk.inj (Option.some.inj h)
                rw [c, List.append_assoc]
                exact hR
            · have hne : (y == 255) = false := beq_false_of_ne c2
              rw [if_neg c2]
              exact ⟨fun _ => Ev.step (fun k => by rw [hl2, hne]) (Ev.step (f := fun _ => some ([], 6)) (fun k => by rw [hf, if_neg c1]) (Ev.now _)), fun q' r' R h => by cases h⟩
      · have hml : (x0.drop (a + 1)).length ≤ m := by rw [hdr]; omega
        obtain ⟨i1, i2⟩ := ih (a + 1) (s ++ [x]) hml (by rw [List.length_append, List.length_singleton]; omega) (by omega)
        rw [hdr] at i1 i2
        have hgo : ∀ R, Ev (fun k => rhizomeref01_Decode.l2 k x0 x4 (i : Int) ((a + 1 : Nat) : Int) true (strOfNums (s ++ [x])) 0) R → Ev (fun k => rhizomeref01_Decode.l2 k x0 x4 (i : Int) (a : Int) true (strOfNums s) 0) R := fun R h =>
          Ev.step (fun k => l2_in k x0 x4 _ _ x true _ 0 (by omega) (by omega) hrd c) (Ev.step (fun k => by rw [hj, if_neg c]) h)
        rw [txt_nz x r c]
        cases ht : txt r with
        | none => exact ⟨fun _ => hgo _ (i1 ht), fun q' r' R h => by cases h⟩
        | some pr =>
          obtain ⟨p1, p2⟩ := pr
          refine ⟨fun h => (by cases h), fun q' r' R h hR => hgo R (i2 p1 p2 R ht ?_)⟩
          obtain ⟨rfl, rfl⟩ := Prod.mk.inj (Option.some.inj h)
          rw [List.append_assoc]
          exact hR
theorem escI_ge (l : List UInt8) : l.length ≤ (escI l).length := by
  induction l with
  | nil => simp
  | cons b l ih => rw [escI_cons]; split <;> simp <;> omega
theorem kbp_size (p : S31) (h : p.f0 = true) : p.f1.size ≤ (kbp p).length := by
  have := escI_ge p.f1.data.toList
  have h3 : p.f1.data.toList.length = p.f1.size := by rw [Array.length_toList]; rfl
  unfold kbp kb
  rw [if_pos h]
  simp only [List.length_cons, List.length_append]
  omega
theorem encK_all : ∀ (ps : List S31) (acc : List Int), acc.length + (ps.flatMap kbp).length ≤ 200 → encK acc ps = (acc ++ ps.flatMap kbp, 0)
  | [], acc, _ => by simp [encK]
  | p :: ps, acc, h => by
    rw [List.flatMap_cons, List.length_append] at h
    have hs := kbp_size p
    rw [encK, if_neg (fun z => by have := hs z.1; have := z.2; omega), if_neg (by rw [List.length_append]; omega), encK_all ps _ (by rw [List.length_append]; omega), List.flatMap_cons, List.append_assoc]
theorem encK_cases : ∀ (ps : List S31) (acc : List Int), acc.length ≤ 200 → encK acc ps = ([], 3) ∨ (encK acc ps = (acc ++ ps.flatMap kbp, 0) ∧ (acc ++ ps.flatMap kbp).length ≤ 200)
  | [], acc, h => .inr ⟨by simp [encK], by simpa using h⟩
  | p :: ps, acc, h => by
    rw [encK]
    split
    · exact .inl rfl
    · split
      · exact .inl rfl
      · next c =>
        have := encK_cases ps (acc ++ kbp p) (by omega)
        rw [List.append_assoc] at this
        exact this

end Go.Proofs.YtamaoileeipgeaaDoor.XKey
