/- KeyReads and KeyWrites: the plain laws. -/
import Derived.Test.YtamaoileeipgeaaDoorCode5
import Derived.Test.YtamaoileeipgeaaDoorXKey11
namespace Go.Proofs.YtamaoileeipgeaaDoor.XKey
open Go.RowKit Go.Proofs.YtamaoileeipgeaaDoorW.PrintWords Go.Proofs.YtamaoileeipgeaaDoorW.PrintLast Go.Proofs.YtamaoileeipgeaaDoorW.PrintMore
set_option linter.unusedVariables false
set_option linter.unusedSimpArgs false

def decR56 (acc : List S56) : Option (List S31) → List S56 × Int
  | none => ([], 6)
  | some ps => (acc ++ ps.map toRef, 0)
theorem refl0_1 (k : Nat) (x0 : List Int) (x4 : List S56) (i z : Int) (h : i < (x0.length : Int)) (h0 : 0 ≤ i) (hr : rd x0 i = 1) (hz : wrap64 (i + 9) = z) :
    rhizomeref01_Decode.l0 (k + 1) x0 x4 i = rhizomeref01_Decode.j1 k x0 x4 i (decide (z ≤ (x0.length : Int))) false ⟨#[]⟩ 0 := by
  rw [rhizomeref01_Decode.l0, if_pos h, if_pos h0, if_pos hr, hz]
theorem refl0_n (k : Nat) (x0 : List Int) (x4 : List S56) (i : Int) (h : i < (x0.length : Int)) (h0 : 0 ≤ i) (hr : ¬ rd x0 i = 1) :
    rhizomeref01_Decode.l0 (k + 1) x0 x4 i = rhizomeref01_Decode.j1 k x0 x4 i false false ⟨#[]⟩ 0 := by
  rw [rhizomeref01_Decode.l0, if_pos h, if_pos h0, if_neg hr]
theorem refl0_end (k : Nat) (x0 : List Int) (x4 : List S56) (i : Int) (h : ¬ i < (x0.length : Int)) : rhizomeref01_Decode.l0 (k + 1) x0 x4 i = some (x4, 0) := by
  rw [rhizomeref01_Decode.l0, if_neg h]
theorem refj1_t (k : Nat) (x0 : List Int) (x4 : List S56) (i : Int) : rhizomeref01_Decode.j1 (k + 1) x0 x4 i true false ⟨#[]⟩ 0 = rhizomeref01_Decode.l1 k x0 x4 i 0 1 false ⟨#[]⟩ 0 := by
  rw [rhizomeref01_Decode.j1, if_pos rfl]
theorem refj1_f (k : Nat) (x0 : List Int) (x4 : List S56) (i w : Int) (h : i < (x0.length : Int)) (h0 : 0 ≤ i) (hw : wrap64 (i + 1) = w) : rhizomeref01_Decode.j1 (k + 1) x0 x4 i false false ⟨#[]⟩ 0 = if rd x0 i = 2 then rhizomeref01_Decode.l2 k x0 x4 i w true ⟨#[]⟩ 0 else some ([], 6) := by
  rw [rhizomeref01_Decode.j1, if_neg (by decide), if_pos h0, if_pos h, hw]

theorem wrap_add (i j : Nat) (h : i + j < 4611686018427387904) : wrap64 ((i : Int) + (j : Int)) = ((i + j : Nat) : Int) := by unfold wrap64; omega
theorem after_facts (i X L K R A n : Nat) (h1 : L = K + R) (h2 : L = X - i) (h3 : 0 < K) (h4 : 0 < L) (h5 : X ≤ 5000) (h6 : L ≤ n + 1) (h7 : i ≤ X) (h8 : A ≤ i) :
    K ≤ 5000 ∧ R ≤ n ∧ (i + K ≤ X ∧ A + 1 ≤ i + K) ∧ i + K < 4611686018427387904 := by omega
theorem toRef_size (p : S31) (h : (kbp p).length ≤ 5000) (z : (toRef p).f0 = true) : (toRef p).f1.size < 70000000000000 := by
  have h1 : ∀ l : List UInt8, l.length ≤ (escI l).length := by
    intro l
    induction l with
    | nil => simp
    | cons b l ih2 => rw [escI_cons]; split <;> simp <;> omega
  have h2 : (toRef p).f1.data.toList.length ≤ (kb (toRef p).f0 (toRef p).f1 (toRef p).f2).length := by
    have := h1 (toRef p).f1.data.toList
    unfold kb
    rw [if_pos z]
    simp only [List.length_cons, List.length_append]
    omega
  rw [kb_toRef] at h2
  have h3 : (toRef p).f1.data.toList.length = (toRef p).f1.size := by rw [Array.length_toList]; rfl
  rw [h3] at h2
  exact Nat.lt_of_le_of_lt (Nat.le_trans h2 h) (by decide)
theorem refDecode_l0 (x0 : List Int) (hb0 : IsB x0) (hx : x0.length ≤ 5000) : ∀ (n i : Nat) (acc : List S56), (x0.drop i).length ≤ n → i ≤ x0.length → acc.length ≤ i →
    Ev (fun k => rhizomeref01_Decode.l0 k x0 acc (i : Int)) (decR56 acc (parse n (x0.drop i))) := by
  have hnil : ∀ (i : Nat) acc, x0.drop i = [] → Ev (fun k => rhizomeref01_Decode.l0 k x0 acc (i : Int)) (acc, 0) := fun i acc e => by
    have := congrArg List.length e
    rw [List.length_drop, List.length_nil] at this
    exact Ev.step (f := fun _ => some (acc, 0)) (fun k => refl0_end k x0 acc _ (by omega)) (Ev.now _)
  intro n
  induction n with
  | zero =>
    intro i acc hl hi ha
    have e : x0.drop i = [] := List.eq_nil_of_length_eq_zero (by omega)
    show Ev _ (acc ++ [], 0)
    rw [List.append_nil]
    exact hnil i acc e
  | succ n ih =>
    intro i acc hl hi ha
    rw [parse]
    by_cases c : x0.drop i = []
    · rw [if_pos c]
      show Ev _ (acc ++ [], 0)
      rw [List.append_nil]
      exact hnil i acc c
    · rw [if_neg c]
      obtain ⟨l, hle⟩ : ∃ l, x0.drop i = l := ⟨_, rfl⟩
      have hb : IsB l := hle ▸ hb0.drop i
      have hll : l.length = x0.length - i := by rw [← hle, List.length_drop]
      rw [hle] at c hl ⊢
      have hpos := List.length_pos_iff.mpr c
      have hw := wrap_succ i (by omega)
      have h9w : wrap64 ((i : Int) + 9) = ((i + 9 : Nat) : Int) := by unfold wrap64; omega
      have hrd : ∀ j, rd x0 ((i + j : Nat) : Int) = rd l (j : Int) := fun j => by
        rw [← hle]
        simp only [rd, Int.toNat_natCast, List.getD_eq_getElem?_getD, List.getElem?_drop]
      have hrd0 : rd x0 (i : Int) = rd l 0 := hrd 0
      -- what follows a part
      have after : ∀ p r, parse1 l = some (p, r) → Ev (fun k => (rhizomeref01_Bytes.f k (toRef p).f0 (toRef p).f1 (toRef p).f2).bind fun t330 => rhizomeref01_Decode.l0 k x0 (acc ++ [toRef p]) (wrap64 ((i : Int) + (t330.length : Int)))) (decR56 acc (match parse1 l with | none => none | some (p, r) => (parse n r).map (p :: ·))) := by
        intro p r hp
        obtain ⟨e, hpl⟩ := parse1_sound l hb p r hp
        have hk := kbp_pos p
        have hlen : l.length = (kbp p).length + r.length := by rw [e, List.length_append]
        obtain ⟨g1, g2, g3, g4⟩ := after_facts i x0.length l.length (kbp p).length r.length acc.length n hlen hll hk (by omega) hx hl hi ha
        have hsz := toRef_size p g1
        refine Ev.bind (refBytes_ev _ _ _ hsz) ?_
        rw [kb_toRef, hp]
        have hdr : x0.drop (i + (kbp p).length) = r := by rw [← List.drop_drop, hle, e]; simp
        have hww := wrap_add i (kbp p).length g4
        have h1 := ih (i + (kbp p).length) (acc ++ [toRef p]) (by rw [hdr]; exact g2) g3.1 (by rw [List.length_append, List.length_singleton]; exact g3.2)
        rw [hdr] at h1
        rw [hww]
        show Ev _ (decR56 acc ((parse n r).map (p :: ·)))
        cases hr : parse n r with
        | none => rw [hr] at h1; exact h1
        | some qs =>
          rw [hr] at h1
          show Ev _ (acc ++ toRef p :: qs.map toRef, 0)
          have e3 : acc ++ toRef p :: qs.map toRef = (acc ++ [toRef p]) ++ qs.map toRef := by simp
          rw [e3]
          exact h1
      have hno : (¬ (rd l 0 = 1 ∧ 9 ≤ l.length)) → Ev (fun k => rhizomeref01_Decode.j1 k x0 acc (i : Int) false false ⟨#[]⟩ 0) (decR56 acc (match parse1 l with | none => none | some (p, r) => (parse n r).map (p :: ·))) := by
        intro hc
        have hp1 : parse1 l = if rd l 0 = 2 then (txt (l.drop 1)).map (fun p => (⟨true, strOfNums p.1, 0⟩, p.2)) else none := by unfold parse1; rw [if_neg hc]
        by_cases c2 : rd l 0 = 2
        · rw [if_pos c2] at hp1
          have hd1 : x0.drop (i + 1) = l.drop 1 := by rw [← List.drop_drop, hle]
          obtain ⟨i1, i2⟩ := ref_l2 x0 acc i hx (by omega) (x0.drop (i + 1)).length (i + 1) [] (Nat.le_refl _) (by simp) (by omega)
          rw [hd1] at i1 i2
          refine Ev.step (f := fun k => rhizomeref01_Decode.l2 k x0 acc (i : Int) ((i + 1 : Nat) : Int) true ⟨#[]⟩ 0) (fun k => by rw [refj1_f k x0 acc _ _ (by omega) (by omega) hw, hrd0, if_pos c2]) ?_
          cases ht : txt (l.drop 1) with
          | none =>
            rw [ht] at hp1
            rw [hp1]
            exact i1 ht
          | some pr =>
            obtain ⟨q, r⟩ := pr
            rw [ht] at hp1
            exact i2 q r _ ht (after _ r hp1)
        · rw [if_neg c2] at hp1
          rw [hp1]
          exact Ev.step (f := fun _ => some ([], 6)) (fun k => by rw [refj1_f k x0 acc _ _ (by omega) (by omega) hw, hrd0, if_neg c2]) (Ev.now _)
      by_cases c1 : rd l 0 = 1
      · by_cases c9 : 9 ≤ l.length
        · obtain ⟨b, hbe⟩ : ∃ b, (l.take 9).drop 1 = b := ⟨_, rfl⟩
          have hbl : b.length = 8 := by rw [← hbe, List.length_drop, List.length_take]; omega
          have hbb : IsB b := fun x hx => hb x (List.mem_of_mem_take (List.mem_of_mem_drop (hbe ▸ hx)))
          have hp : parse1 l = some (⟨false, ⟨#[]⟩, wrap64 ((val8 b + 9223372036854775808) % 18446744073709551616)⟩, l.drop 9) := by unfold parse1; rw [if_pos ⟨c1, c9⟩, hbe]
          refine Ev.step (f := fun k => rhizomeref01_Decode.j1 k x0 acc (i : Int) true false ⟨#[]⟩ 0) (fun k => by rw [refl0_1 k x0 acc _ _ (by omega) (by omega) (hrd0.trans c1) h9w, decide_eq_true (by omega)]) (Ev.step (fun k => refj1_t k x0 acc _) ?_)
          refine refl1 x0 b acc i hbb hbl (by omega) hx (by omega) (fun j hj => ?_) false ⟨#[]⟩ 0 _ 8 0 0 (by omega) (by omega) room_0 (after _ _ hp)
          rw [hrd (j + 1), ← hbe]
          simp only [rd, Int.toNat_natCast, List.getD_eq_getElem?_getD, List.getElem?_drop, List.getElem?_take]
          rw [if_pos (by omega), Nat.add_comm 1 j]
        · refine Ev.step (f := fun k => rhizomeref01_Decode.j1 k x0 acc (i : Int) false false ⟨#[]⟩ 0) (fun k => by rw [refl0_1 k x0 acc _ _ (by omega) (by omega) (hrd0.trans c1) h9w, decide_eq_false (by omega)]) (hno (fun z => c9 z.2))
      · exact Ev.step (f := fun k => rhizomeref01_Decode.j1 k x0 acc (i : Int) false false ⟨#[]⟩ 0) (fun k => refl0_n k x0 acc _ (by omega) (by omega) (fun z => c1 (hrd0 ▸ z))) (hno (fun z => c1 z.1))
theorem refDecode_ev (l : List Int) (hb : IsB l) : Ev (fun k => rhizomeref01_Decode.f k l) (if l.length > 200 then ([], 3) else decR56 [] (parse l.length l)) := by
  by_cases c : l.length > 200
  · rw [if_pos c]
    refine Ev.congr (fun k => ?_) (Ev.now _)
    unfold rhizomeref01_Decode.f
    exact if_pos (by omega)
  · rw [if_neg c]
    refine Ev.congr (fun k => ?_) (refDecode_l0 l hb (by omega) l.length 0 [] (by simp) (by omega) (by simp))
    unfold rhizomeref01_Decode.f
    exact if_neg (by omega)

theorem reads_j0_end (x0 : List Int) : Ev (fun k => rhizomelaw01_KeyReads.j0 k x0 true) true :=
  Ev.step (f := fun k => (rhizomelaw01_awake.f k).bind fun t => some t) (fun k => by rw [rhizomelaw01_KeyReads.j0, if_pos rfl]) (Ev.bind awake_ev (Ev.now _))
theorem reads_j1_ok (x0 : List Int) (K : List S31) (hK : encK [] K = (x0, 0)) (hl : K.length < 4611686018427387904) : Ev (fun k => rhizomelaw01_KeyReads.j1 k x0 K 0 false) true := by
  have he := encode_ev K hl
  rw [hK] at he
  refine Ev.step (f := fun k => (key_Encode.f k K).bind fun bt353 => (if bt353.2 = 0 then (some ((strOfNums bt353.1).toList == (strOfNums x0).toList)) else (some false))) (fun k => by rw [rhizomelaw01_KeyReads.j1, if_neg (by decide), if_pos rfl]) (Ev.bind he ?_)
  refine Ev.congr (fun k => ?_) (Ev.now _)
  rw [if_pos rfl]
  simp
theorem reads_j1_no (x0 : List Int) (e : Int) (h : e ≠ 0) : Ev (fun k => rhizomelaw01_KeyReads.j1 k x0 [] e false) true :=
  Ev.step (f := fun _ => some true) (fun k => by rw [rhizomelaw01_KeyReads.j1, if_neg (by decide), if_neg h]; rfl) (Ev.now _)
theorem reads_pure (l0 : List Int) (hb : IsB l0) : Ev (fun k => rhizomelaw01_KeyReads.f k l0) true := by
  unfold rhizomelaw01_KeyReads.f
  refine Ev.bind awake_ev ?_
  simp only [if_true]
  by_cases c : (l0.length : Int) > 5000
  · rw [decide_eq_true c]
    exact reads_j0_end l0
  · rw [decide_eq_false c]
    obtain ⟨K, e, hd, hr, hj, hKl⟩ : ∃ K e, Ev (fun k => key_Decode.f k l0) (K, e) ∧ Ev (fun k => rhizomeref01_Decode.f k l0) (K.map toRef, e) ∧ Ev (fun k => rhizomelaw01_KeyReads.j1 k l0 K e false) true ∧ K.length ≤ 5000 := by
      have hd := decode_ev l0 hb
      have hr := refDecode_ev l0 hb
      by_cases c2 : l0.length > 200
      · rw [if_pos c2] at hd hr
        exact ⟨[], 3, hd, hr, reads_j1_no l0 3 (by decide), by simp⟩
      · rw [if_neg c2] at hd hr
        cases hp : parse l0.length l0 with
        | none =>
          rw [hp] at hd hr
          exact ⟨[], 6, hd, hr, reads_j1_no l0 6 (by decide), by simp⟩
        | some ps =>
          rw [hp] at hd hr
          obtain ⟨s1, s2, _⟩ := parse_sound l0.length l0 (Nat.le_refl _) hb ps hp
          have he := encK_all ps [] (by rw [← s1]; simp; omega)
          rw [List.nil_append, ← s1] at he
          exact ⟨ps, 0, hd, hr, reads_j1_ok l0 ps he (by omega), by omega⟩
    refine Ev.step (f := fun k => (key_Decode.f k l0).bind fun bt341 => ((rhizomeref01_Decode.f k l0).bind fun bt345 => (if bt341.2 = bt345.2 then ((rhizomelaw01_Ref.f bt341.1).bind fun t349 => ((rhizomeref01_Same.f k t349 bt345.1).bind fun t352 => (if t352 = true then (rhizomelaw01_KeyReads.j1 k l0 bt341.1 bt345.2 ((strOfNums l0).toList != (strOfNums l0).toList)) else (rhizomelaw01_KeyReads.j1 k l0 bt341.1 bt345.2 true)))) else (rhizomelaw01_KeyReads.j1 k l0 bt341.1 bt345.2 true)))) (fun k => ?_) ?_
    · rw [rhizomelaw01_KeyReads.j0, if_neg (by decide), Option.bind_some, if_pos (by rw [List.length_nil]; omega), Option.bind_some, List.nil_append]
    · refine Ev.bind hd (Ev.bind hr ?_)
      have hf : rhizomelaw01_Ref.f K = some (K.map toRef) := by unfold rhizomelaw01_Ref.f; rw [if_pos (by omega)]
      refine Ev.congr (f := fun k => (rhizomeref01_Same.f k (K.map toRef) (K.map toRef)).bind fun t352 => (if t352 = true then (rhizomelaw01_KeyReads.j1 k l0 K e false) else (rhizomelaw01_KeyReads.j1 k l0 K e true))) (fun k => ?_) (Ev.bind (refSame_self _ (by rw [List.length_map]; omega)) ?_)
      · show (if e = e then _ else _) = _
        rw [if_pos rfl, hf, Option.bind_some, bne_self_eq_false]
      · simp only [if_true]
        exact hj
end Go.Proofs.YtamaoileeipgeaaDoor.XKey
