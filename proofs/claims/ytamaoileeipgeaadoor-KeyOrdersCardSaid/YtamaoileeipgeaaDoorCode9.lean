/- KeyOrders: the plain law. -/
import Derived.Test.YtamaoileeipgeaaDoorCode8
import Derived.Test.YtamaoileeipgeaaDoorXKey12
namespace Go.Proofs.YtamaoileeipgeaaDoor.XKey
open Go.RowKit Go.Proofs.YtamaoileeipgeaaDoorW.PrintWords Go.Proofs.YtamaoileeipgeaaDoorW.PrintLast Go.Proofs.YtamaoileeipgeaaDoorW.PrintMore
set_option linter.unusedVariables false
set_option linter.unusedSimpArgs false

theorem kbB (t : Bool) (s : ByteArray) (n : Int) : IsB (kb t s n) := by
  intro x hx
  unfold kb at hx
  split at hx
  · rcases List.mem_cons.mp hx with rfl | hx
    · omega
    · rcases List.mem_append.mp hx with hx | hx
      · obtain ⟨b, _, hb⟩ := List.mem_flatMap.mp hx
        split at hb
        · simp at hb; omega
        · have := b.toNat_lt
          simp at hb; omega
      · simp at hx; omega
  · simp [be8] at hx
    omega
theorem flatB (ps : List S31) : IsB (ps.flatMap kbp) := fun x hx => by
  obtain ⟨p, _, h⟩ := List.mem_flatMap.mp hx
  exact kbB _ _ _ x h
theorem b8_toNat (x : Int) (h0 : 0 ≤ x) (h1 : x < 256) : (b8 x).toNat = x.toNat := by simp [b8]; omega
theorem less_cmpI : ∀ (A B : List Int), IsB A → IsB B → Op.bytesLess (A.map b8) (B.map b8) = decide (cmpI A B < 0)
  | [], [], _, _ => rfl
  | [], _ :: _, _, _ => rfl
  | _ :: _, [], _, _ => rfl
  | x :: A, y :: B, ha, hb => by
    have ih := less_cmpI A B (fun z hz => ha z (by simp [hz])) (fun z hz => hb z (by simp [hz]))
    obtain ⟨x0, x1⟩ := ha x (by simp)
    obtain ⟨y0, y1⟩ := hb y (by simp)
    have ex := b8_toNat x x0 x1
    have ey := b8_toNat y y0 y1
    rw [List.map_cons, List.map_cons, Op.bytesLess, ih]
    rcases Int.lt_trichotomy x y with c | c | c
    · have h : b8 x < b8 y := UInt8.lt_iff_toNat_lt.mpr (by omega)
      rw [cmpI_lt _ _ _ _ c, decide_eq_true h]; rfl
    · subst c
      have h : ¬ b8 x < b8 x := fun z => by have := UInt8.lt_iff_toNat_lt.mp z; omega
      rw [cmpI_eq, decide_eq_false h, beq_self_eq_true, Bool.false_or, Bool.true_and]
    · have h : ¬ b8 x < b8 y := fun z => by have := UInt8.lt_iff_toNat_lt.mp z; omega
      have hn : (b8 x == b8 y) = false := beq_false_of_ne (fun z => by have := congrArg UInt8.toNat z; omega)
      rw [cmpI_gt _ _ _ _ c, decide_eq_false h, hn]; rfl
theorem b8_inj : ∀ (A B : List Int), IsB A → IsB B → A.map b8 = B.map b8 → A = B
  | [], [], _, _, _ => rfl
  | [], _ :: _, _, _, h => by cases h
  | _ :: _, [], _, _, h => by cases h
  | x :: A, y :: B, ha, hb, h => by
    obtain ⟨x0, x1⟩ := ha x (by simp)
    obtain ⟨y0, y1⟩ := hb y (by simp)
    have ex := b8_toNat x x0 x1
    have ey := b8_toNat y y0 y1
    rw [List.map_cons, List.map_cons] at h
    obtain ⟨h1, h2⟩ := List.cons.inj h
    have := congrArg UInt8.toNat h1
    rw [b8_inj A B (fun z hz => ha z (by simp [hz])) (fun z hz => hb z (by simp [hz])) h2, show x = y from by omega]
theorem str_map (A : List Int) : (strOfNums A).toList = A.map b8 := by rw [Lib.strOfNums_toList, bytesOf_eq]

theorem orders_j3 (a b : List S31) (ha : ∀ p ∈ a, In64q p) (hb : ∀ p ∈ b, In64q p) (la : a.length ≤ 60) (lb : b.length ≤ 60) :
    Ev (fun k => rhizomelaw01_KeyOrders.j3 k a b (a.flatMap kbp) (b.flatMap kbp) false) true := by
  have hbk := begins_key a b ha hb
  obtain ⟨X, hX⟩ : ∃ X, a.flatMap kbp = X := ⟨_, rfl⟩
  obtain ⟨Y, hY⟩ : ∃ Y, b.flatMap kbp = Y := ⟨_, rfl⟩
  have bX : IsB X := hX ▸ flatB a
  have bY : IsB Y := hY ▸ flatB b
  rw [hX, hY] at hbk ⊢
  have hr : ∀ K : List S31, K.length ≤ 60 → rhizomelaw01_Ref.f K = some (K.map toRef) := fun K h => by unfold rhizomelaw01_Ref.f; rw [if_pos (by omega)]
  have hmn : (a.length : Int) ≤ (b.length : Int) → mn (a.length : Int) (b.length : Int) = (a.length : Int) := fun h => by unfold mn; rw [if_neg (by omega)]
  have hP : (∃ z, Y = X ++ z) ↔ ((X.length ≤ Y.length) ∧ Y.take X.length = X) := by
    constructor
    · rintro ⟨z, rfl⟩; simp
    · rintro ⟨_, h⟩
      exact ⟨Y.drop X.length, by conv => lhs; rw [← List.take_append_drop X.length Y, h]⟩
  have hsame : a.length ≤ b.length → Ev (fun k => rhizomeref01_Same.f k (a.map toRef) ((b.take a.length).map toRef)) (kCmp a (b.take a.length) == 0) := fun h => by
    have := refSame_ev a (b.take a.length) (by omega) (by rw [List.length_take]; omega)
    rw [decide_eq_true (by rw [List.length_take]; omega), Bool.true_and] at this
    exact this
  by_cases c1 : (X.length : Int) ≤ (Y.length : Int)
  · by_cases c2 : (a.length : Int) ≤ (b.length : Int)
    · refine Ev.step (f := fun k => (rhizomeref01_Same.f k (a.map toRef) ((b.take a.length).map toRef)).bind fun t409 => some (((strOfNums (Y.take X.length)).toList == (strOfNums X).toList) == t409)) (fun k => ?_) (Ev.bind (hsame (by omega)) ?_)
      · rw [rhizomelaw01_KeyOrders.j3, if_neg (by decide), if_pos c1, if_pos (by omega), Option.bind_some, if_pos c2, hr a la, Option.bind_some, hmn c2, if_pos (by omega), if_pos c2, Int.toNat_natCast, Int.toNat_natCast, hr _ (by rw [List.length_take]; omega), Option.bind_some]
      · refine Ev.congr (fun k => ?_) (Ev.now _)
        rw [str_map, str_map]
        by_cases d : kCmp a (b.take a.length) = 0
        · have h := hP.mp (hbk.mpr ⟨by omega, d⟩)
          rw [h.2, d]
          simp
        · have hn : ¬ (Y.take X.length).map b8 = X.map b8 := fun z => by
            have h1 := b8_inj _ _ (fun x hx => bY x (List.mem_of_mem_take hx)) bX z
            exact d (hbk.mp (hP.mpr ⟨by omega, h1⟩)).2
          have e1 : ((Y.take X.length).map b8 == X.map b8) = false := beq_false_of_ne hn
          have e2 : (kCmp a (b.take a.length) == 0) = false := beq_false_of_ne d
          rw [e1, e2]; rfl
    · have hn : ¬ (Y.take X.length).map b8 = X.map b8 := fun z => by
        have h1 := b8_inj _ _ (fun x hx => bY x (List.mem_of_mem_take hx)) bX z
        have := (hbk.mp (hP.mpr ⟨by omega, h1⟩)).1
        omega
      have e1 : ((Y.take X.length).map b8 == X.map b8) = false := beq_false_of_ne hn
      refine Ev.step (f := fun _ => some true) (fun k => ?_) (Ev.now _)
      rw [rhizomelaw01_KeyOrders.j3, if_neg (by decide), if_pos c1, if_pos (by omega), Option.bind_some, if_neg c2, Int.toNat_natCast, str_map, str_map, e1]
      rfl
  · by_cases c2 : (a.length : Int) ≤ (b.length : Int)
    · refine Ev.step (f := fun k => (rhizomeref01_Same.f k (a.map toRef) ((b.take a.length).map toRef)).bind fun t420 => some (false == t420)) (fun k => ?_) (Ev.bind (hsame (by omega)) ?_)
      · rw [rhizomelaw01_KeyOrders.j3, if_neg (by decide), if_neg c1, if_pos c2, hr a la, Option.bind_some, hmn c2, if_pos (by omega), if_pos c2, Int.toNat_natCast, hr _ (by rw [List.length_take]; omega), Option.bind_some]
      · have d : ¬ kCmp a (b.take a.length) = 0 := fun d => by
          have := (hP.mp (hbk.mpr ⟨by omega, d⟩)).1
          omega
        have e2 : (kCmp a (b.take a.length) == 0) = false := beq_false_of_ne d
        rw [e2]
        exact Ev.now _
    · refine Ev.step (f := fun _ => some true) (fun k => ?_) (Ev.now _)
      rw [rhizomelaw01_KeyOrders.j3, if_neg (by decide), if_neg c1, if_neg c2]
      rfl
theorem encOk : ∀ (ps : List S31) (acc : List Int), encK acc ps = ([], 3) ∨ encK acc ps = (acc ++ ps.flatMap kbp, 0)
  | [], acc => .inr (by simp [encK])
  | p :: ps, acc => by
    rw [encK]
    split
    · exact .inl rfl
    · split
      · exact .inl rfl
      · have := encOk ps (acc ++ kbp p)
        rw [List.append_assoc] at this
        exact this
theorem orders_j2t (a b : List S31) (c : Int) (X Y : List Int) : Ev (fun k => rhizomelaw01_KeyOrders.j2 k a b c X Y true) true :=
  Ev.step (f := fun _ => some true) (fun k => by rw [rhizomelaw01_KeyOrders.j2, if_pos rfl]) (Ev.now _)
theorem orders_j2 (a b : List S31) (ha : ∀ p ∈ a, In64q p) (hb : ∀ p ∈ b, In64q p) (la : a.length ≤ 60) (lb : b.length ≤ 60) :
    Ev (fun k => rhizomelaw01_KeyOrders.j2 k a b (kCmp a b) (a.flatMap kbp) (b.flatMap kbp) false) true := by
  have hc := cmpI_key a b ha hb
  have h1 : Op.bytesLess (strOfNums (a.flatMap kbp)).toList (strOfNums (b.flatMap kbp)).toList = decide (kCmp a b < 0) := by
    rw [str_map, str_map, less_cmpI _ _ (flatB a) (flatB b), hc]
  have h2 : ((strOfNums (a.flatMap kbp)).toList == (strOfNums (b.flatMap kbp)).toList) = (kCmp a b == 0) := by
    rw [str_map, str_map]
    by_cases d : kCmp a b = 0
    · rw [cmpI_zero _ _ (hc.trans d), d]; simp
    · have hn : ¬ (a.flatMap kbp).map b8 = (b.flatMap kbp).map b8 := fun z => d (by rw [← hc, b8_inj _ _ (flatB a) (flatB b) z, cmpI_self])
      have e1 : ((a.flatMap kbp).map b8 == (b.flatMap kbp).map b8) = false := beq_false_of_ne hn
      have e2 : (kCmp a b == 0) = false := beq_false_of_ne d
      rw [e1, e2]
  refine Ev.step (fun k => ?_) (orders_j3 a b ha hb la lb)
  rw [rhizomelaw01_KeyOrders.j2, if_neg (by decide), h1, h2, bne_self_eq_false, bne_self_eq_false, if_neg (by decide)]
theorem orders_j0t (a b : List S31) : Ev (fun k => rhizomelaw01_KeyOrders.j0 k a b true) true :=
  Ev.step (f := fun k => (rhizomelaw01_awake.f k).bind fun t => some t) (fun k => by rw [rhizomelaw01_KeyOrders.j0, if_pos rfl]) (Ev.bind awake_ev (Ev.now _))
theorem orders_pure (a b : List S31) (la : a.length < 4611686018427387904) (lb : b.length < 4611686018427387904) (ha : ∀ p ∈ a, In64q p) (hb : ∀ p ∈ b, In64q p) : Ev (fun k => rhizomelaw01_KeyOrders.f k a b) true := by
  unfold rhizomelaw01_KeyOrders.f
  refine Ev.bind awake_ev ?_
  simp only [if_true]
  obtain ⟨fa, hfa, ha60⟩ := few_ev a la
  obtain ⟨fb, hfb, hb60⟩ := few_ev b lb
  refine Ev.bind hfa ?_
  cases fa with
  | false =>
    simp only [Bool.false_eq_true, if_false]
    exact orders_j0t a b
  | true =>
    have ha60 := ha60 rfl
    simp only [if_true]
    refine Ev.bind hfb ?_
    cases fb with
    | false => exact orders_j0t a b
    | true =>
      have hb60 := hb60 rfl
      show Ev (fun k => rhizomelaw01_KeyOrders.j0 k a b false) true
      have ho : ∀ x : List S31, x.length ≤ 60 → rhizomelaw01_own.f x = some x := fun x h => by
        unfold rhizomelaw01_own.f
        rw [Option.bind_some, if_pos (by rw [List.length_nil]; omega), List.nil_append]
      have hr : ∀ K : List S31, K.length ≤ 60 → rhizomelaw01_Ref.f K = some (K.map toRef) := fun K h => by unfold rhizomelaw01_Ref.f; rw [if_pos (by omega)]
      have h3 := kCmp_three a b
      have hneg : (kCmp b a != wrap64 (-(kCmp a b))) = false := by
        have e : wrap64 (-(kCmp a b)) = -(kCmp a b) := by unfold wrap64; omega
        rw [e, kCmp_swap a b, bne_self_eq_false]
      refine Ev.step (f := fun k => (rhizomeref01_Cmp.f k (a.map toRef) (b.map toRef)).bind fun t384 => (if kCmp a b = t384 then rhizomelaw01_KeyOrders.j1 k a b (kCmp a b) (kCmp b a != wrap64 (-(kCmp a b))) else rhizomelaw01_KeyOrders.j1 k a b (kCmp a b) true)) (fun k => ?_) (Ev.bind (refCmp_ev a b la lb) ?_)
      · rw [rhizomelaw01_KeyOrders.j0, if_neg (by decide), ho a ha60, Option.bind_some, ho b hb60, Option.bind_some]
        show (some (kCmp a b)).bind _ = _
        rw [Option.bind_some, hr a ha60, Option.bind_some, hr b hb60, Option.bind_some]
        rfl
      · refine Ev.congr (f := fun k => rhizomelaw01_KeyOrders.j1 k a b (kCmp a b) false) (fun k => by rw [if_pos rfl, hneg]) ?_
        refine Ev.step (f := fun k => (key_Encode.f k a).bind fun bt386 => ((key_Encode.f k b).bind fun bt390 => (if bt386.2 = 0 then (rhizomelaw01_KeyOrders.j2 k a b (kCmp a b) bt386.1 bt390.1 (bt390.2 != 0)) else (rhizomelaw01_KeyOrders.j2 k a b (kCmp a b) bt386.1 bt390.1 true)))) (fun k => by rw [rhizomelaw01_KeyOrders.j1, if_neg (by decide)]) ?_
        refine Ev.bind (encode_ev a la) (Ev.bind (encode_ev b lb) ?_)
        rcases encOk a [] with ea | ea
        · rw [ea]
          refine Ev.congr (fun k => ?_) (orders_j2t a b (kCmp a b) [] (encK [] b).1)
          exact if_neg (by decide)
        · rw [ea]
          rcases encOk b [] with eb | eb
          · rw [eb]
            refine Ev.congr (fun k => ?_) (orders_j2t a b (kCmp a b) (a.flatMap kbp) [])
            exact if_pos rfl
          · rw [eb]
            refine Ev.congr (fun k => ?_) (orders_j2 a b ha hb ha60 hb60)
            exact if_pos rfl
end Go.Proofs.YtamaoileeipgeaaDoor.XKey
