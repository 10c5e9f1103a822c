/- The reading of a key: what 'take' takes, and what the document's Decode takes, is one part and what is behind it. -/
import Derived.Test.YtamaoileeipgeaaDoorCode2
import Derived.Test.YtamaoileeipgeaaDoorXKey7
namespace Go.Proofs.YtamaoileeipgeaaDoor.XKey
open Go.RowKit Go.Proofs.YtamaoileeipgeaaDoorW.PrintWords Go.Proofs.YtamaoileeipgeaaDoorW.PrintLast Go.Proofs.YtamaoileeipgeaaDoorW.PrintMore
set_option linter.unusedVariables false
set_option linter.unusedSimpArgs false

/-- A text's bytes, and what is behind its end. -/
def txt : List Int → Option (List Int × List Int)
  | [] => none
  | x :: r =>
    if x = 0 then
      match r with
      | [] => none
      | y :: q => if y = 1 then some ([], q) else if y = 255 then (txt q).map (fun p => (0 :: p.1, p.2)) else none
    else (txt r).map (fun p => (x :: p.1, p.2))
theorem txt_nz (x : Int) (r : List Int) (h : x ≠ 0) : txt (x :: r) = (txt r).map (fun p => (x :: p.1, p.2)) := by
  rw [txt.eq_def]
  simp only [h, if_false]
theorem txt_nil : txt [] = none := by rw [txt.eq_def]
theorem txt_0nil : txt [0] = none := by rw [txt.eq_def]; simp
theorem txt_0 (y : Int) (q : List Int) : txt (0 :: y :: q) = if y = 1 then some ([], q) else if y = 255 then (txt q).map (fun p => (0 :: p.1, p.2)) else none := by
  rw [txt.eq_def]
  simp only [if_true]
def val8 (l : List Int) : Int := l.foldl (fun n x => n * 256 + x) 0
/-- One part, and what is behind it. -/
def parse1 (l : List Int) : Option (S31 × List Int) :=
  if rd l 0 = 1 ∧ 9 ≤ l.length then some (⟨false, ⟨#[]⟩, wrap64 ((val8 ((l.take 9).drop 1) + 9223372036854775808) % 18446744073709551616)⟩, l.drop 9)
  else if rd l 0 = 2 then (txt (l.drop 1)).map (fun p => (⟨true, strOfNums p.1, 0⟩, p.2))
  else none

theorem txt_plain (pre q : List Int) (h : ∀ x ∈ pre, x ≠ 0) : txt (pre ++ q) = (txt q).map (fun p => (pre ++ p.1, p.2)) := by
  induction pre with
  | nil => cases h : txt q <;> simp [h]
  | cons x pre ih =>
    rw [List.cons_append, txt_nz _ _ (h x (by simp)), ih (fun y hy => h y (by simp [hy]))]
    cases txt q <;> rfl
theorem txt_none (l : List Int) (h : ∀ x ∈ l, x ≠ 0) : txt l = none := by
  have := txt_plain l [] h
  rw [List.append_nil] at this
  rw [this, txt_nil]; rfl

theorem b8_0 (x : Int) (h0 : 0 ≤ x) (h1 : x < 256) : (b8 x == 0) = decide (x = 0) := by
  have : b8 x = 0 ↔ x = 0 := by
    constructor
    · intro e
      have := congrArg UInt8.toNat e
      simp [b8] at this
      omega
    · rintro rfl; rfl
  by_cases c : x = 0
  · simp [c, b8]
  · rw [decide_eq_false c]
    exact beq_false_of_ne (fun z => c (this.mp z))
/-- Where the first zero stands. -/
theorem index0 (l : List Int) (h : IsB l) : (Lib.indexByte (l.map b8) 0 = -1 ∧ ∀ x ∈ l, x ≠ 0) ∨ ∃ pre q, l = pre ++ 0 :: q ∧ (∀ x ∈ pre, x ≠ 0) ∧ Lib.indexByte (l.map b8) 0 = (pre.length : Int) := by
  induction l with
  | nil => exact .inl ⟨rfl, by simp⟩
  | cons x l ih =>
    obtain ⟨h0, h1⟩ := h x (by simp)
    have hb := b8_0 x h0 h1
    by_cases c : x = 0
    · refine .inr ⟨[], l, by rw [c]; rfl, by simp, ?_⟩
      rw [List.map_cons, Lib.indexByte, hb, decide_eq_true c, if_pos rfl]
      rfl
    · rw [decide_eq_false c] at hb
      rcases ih (fun y hy => h y (by simp [hy])) with ⟨e, hn⟩ | ⟨pre, q, e, hn, he⟩
      · refine .inl ⟨?_, fun y hy => ?_⟩
        · rw [List.map_cons, Lib.indexByte, hb, e]; rfl
        · rcases List.mem_cons.mp hy with rfl | hy
          · exact c
          · exact hn y hy
      · refine .inr ⟨x :: pre, q, by rw [e]; rfl, fun y hy => ?_, ?_⟩
        · rcases List.mem_cons.mp hy with rfl | hy
          · exact c
          · exact hn y hy
        · rw [List.map_cons, Lib.indexByte, hb, he, if_neg (by decide)]
          have : (((pre.length : Nat) : Int) == -1) = false := beq_false_of_ne (by omega)
          rw [this]
          simp

def takeR : Option (S31 × List Int) → Bool × ByteArray × Int × List Int × Bool
  | none => (false, ⟨#[]⟩, 0, [], false)
  | some (p, r) => (p.f0, p.f1, p.f2, r, true)

theorem IsB.drop {l : List Int} (h : IsB l) (i : Nat) : IsB (l.drop i) := fun x hx => h x (List.mem_of_mem_drop hx)
theorem rd_app (pre q : List Int) (i : Nat) : rd (pre ++ q) ((pre.length + i : Nat) : Int) = rd q (i : Int) := by
  simp only [rd, Int.toNat_natCast, List.getD_eq_getElem?_getD]
  rw [List.getElem?_append_right (by omega), Nat.add_sub_cancel_left]
theorem rd_cons (x : Int) (q : List Int) (i : Nat) : rd (x :: q) ((i + 1 : Nat) : Int) = rd q (i : Int) := by simp [rd]

theorem take_f1 (P R S Q : Nat) (h : R = P + (Q + 2)) (hl : S + R < 100000000000000) : ¬ ((P : Int) < 0) := by omega
theorem take_f2 (P R S Q : Nat) (h : R = P + (Q + 2)) (hl : S + R < 100000000000000) : ¬ (((P + 1 : Nat) : Int) = (R : Int)) := by omega
theorem take_f3 (P R S Q : Nat) (h : R = P + (Q + 2)) (hl : S + R < 100000000000000) : (0 : Int) ≤ ((P + 1 : Nat) : Int) := by omega
theorem take_f4 (P R S Q : Nat) (h : R = P + (Q + 2)) (hl : S + R < 100000000000000) : ((P + 1 : Nat) : Int) < (R : Int) := by omega
theorem take_f5 (P R S Q : Nat) (h : R = P + (Q + 2)) (hl : S + R < 100000000000000) : (0 : Int) ≤ (P : Int) := by omega
theorem take_f6 (P R S Q : Nat) (h : R = P + (Q + 2)) (hl : S + R < 100000000000000) : (P : Int) ≤ (R : Int) := by omega
theorem take_f7 (P R S Q : Nat) (h : R = P + (Q + 2)) (hl : S + R < 100000000000000) : S + P < 140737488355328 := by omega
theorem take_f8 (P R S Q : Nat) (h : R = P + (Q + 2)) (hl : S + R < 100000000000000) : (0 : Int) ≤ ((P + 2 : Nat) : Int) := by omega
theorem take_f9 (P R S Q : Nat) (h : R = P + (Q + 2)) (hl : S + R < 100000000000000) : ((P + 2 : Nat) : Int) ≤ (R : Int) := by omega
-- The steps stand over plain Ints: over a Nat's cast the kernel unfolds the sums (it falls with 'excessive memory').
theorem l1_end (k : Nat) (s rest : List Int) (P W : Int) (hi : bytes_IndexByte.f rest 0 = some P) (hw : wrap64 (P + 1) = W) (h1 : ¬ P < 0) (h2 : W = (rest.length : Int)) : key_take.l1 (k + 1) s rest = key_take.j3 k s rest P true := by
  rw [key_take.l1, hi, Option.bind_some, if_neg h1, hw, if_pos h2]
theorem l1_step (k : Nat) (s rest : List Int) (P W y : Int) (hi : bytes_IndexByte.f rest 0 = some P) (hw : wrap64 (P + 1) = W) (hy : rd rest W = y) (h1 : ¬ P < 0) (h2 : ¬ W = (rest.length : Int)) (h3 : 0 ≤ W) (h4 : W < (rest.length : Int)) :
    key_take.l1 (k + 1) s rest = if y = 1 then key_take.j3 k s rest P false else key_take.j3 k s rest P (y != 255) := by
  rw [key_take.l1, hi, Option.bind_some, if_neg h1, hw, if_neg h2, if_pos h3, if_pos h4, hy]
theorem j3_step (k : Nat) (s rest pre q : List Int) (P W V y : Int) (hw : wrap64 (P + 1) = W) (hv : wrap64 (P + 2) = V) (hy : rd rest W = y) (ht : rest.take P.toNat = pre) (hd : rest.drop V.toNat = q)
    (h1 : 0 ≤ P) (h2 : P ≤ (rest.length : Int)) (h3 : s.length + pre.length < 140737488355328) (h3' : (s ++ pre).length < 140737488355328) (h4 : 0 ≤ W) (h5 : W < (rest.length : Int)) (h6 : 0 ≤ V) (h7 : V ≤ (rest.length : Int)) :
    key_take.j3 (k + 1) s rest P false = if y = 1 then some (true, strOfNums (s ++ pre), 0, q, true) else key_take.l1 k (s ++ pre ++ [0]) q := by
  simp only [key_take.j3, Option.bind_some, hw, hv, hy, ht, hd, key_Str.f, Bool.false_eq_true, if_false, h1, h2, h3, h3', h4, h5, h6, h7, if_true]
theorem take_l1 : ∀ (m : Nat) (rest s : List Int), rest.length ≤ m → IsB rest → s.length + rest.length < 100000000000000 →
    Ev (fun k => key_take.l1 k s rest) (takeR ((txt rest).map (fun p => (⟨true, strOfNums (s ++ p.1), 0⟩, p.2)))) := by
  intro m
  induction m with
  | zero =>
    intro rest s hm hb hl
    have : rest = [] := List.eq_nil_of_length_eq_zero (by omega)
    subst this
    rw [txt_nil]
    refine Ev.step (f := fun k => key_take.j3 k s [] (-1) true) (fun k => by simp only [key_take.l1, bytes_IndexByte.f, Option.bind_some, Lib.bytesOf, List.map_nil, Lib.indexByte, show (-1 : Int) < 0 from by decide, if_true]) (Ev.step (f := fun _ => some (false, ⟨#[]⟩, 0, [], false)) (fun k => by simp [key_take.j3]) (Ev.now _))
  | succ m ih =>
    intro rest s hm hb hl
    rcases index0 rest hb with ⟨e, hn⟩ | ⟨pre, q, e, hn, he⟩
    · rw [txt_none rest hn]
      refine Ev.step (f := fun k => key_take.j3 k s rest (-1) true) (fun k => ?_) (Ev.step (f := fun _ => some (false, ⟨#[]⟩, 0, [], false)) (fun k => by simp [key_take.j3]) (Ev.now _))
      simp only [key_take.l1, bytes_IndexByte.f, bytesOf_eq, Option.bind_some, show (0 : Int).toNat.toUInt8 = 0 from rfl, e, show (-1 : Int) < 0 from by decide, if_true]
    · have hi : bytes_IndexByte.f rest 0 = some (pre.length : Int) := by
        simp only [bytes_IndexByte.f, bytesOf_eq, show (0 : Int).toNat.toUInt8 = 0 from rfl, he]
      have hlen : rest.length = pre.length + (q.length + 1) := by rw [e]; simp
      have hw := wrap_succ pre.length (by omega)
      have htx : txt rest = (txt (0 :: q)).map (fun p => (pre ++ p.1, p.2)) := by rw [e]; exact txt_plain pre _ hn
      have hrd : rd rest ((pre.length + 1 : Nat) : Int) = rd q 0 := by
        rw [e, rd_app pre (0 :: q) 1]
        exact rd_cons 0 q 0
      have bad : Ev (fun k => key_take.j3 k s rest (pre.length : Int) true) (false, ⟨#[]⟩, 0, [], false) :=
        Ev.step (f := fun _ => some (false, ⟨#[]⟩, 0, [], false)) (fun k => by simp [key_take.j3]) (Ev.now _)
      cases q with
      | nil =>
        rw [htx, txt_0nil]
        refine Ev.step (f := fun k => key_take.j3 k s rest (pre.length : Int) true) (fun k => ?_) bad
        exact l1_end k s rest _ _ hi hw (by omega) (by rw [hlen, List.length_nil])
      | cons y q =>
        have hrd' : rd rest ((pre.length + 1 : Nat) : Int) = y := by rw [hrd]; rfl
        have hq : rest.length = pre.length + (q.length + 2) := by rw [hlen]; rfl
        have hw2 : wrap64 ((pre.length : Int) + 2) = ((pre.length + 2 : Nat) : Int) := by unfold wrap64; omega
        have htk : rest.take pre.length = pre := by rw [e]; simp
        have hdr : rest.drop (pre.length + 2) = q := by rw [e, ← List.drop_drop]; simp
        have a1 := take_f1 pre.length rest.length s.length q.length hq hl
        have a2 := take_f2 pre.length rest.length s.length q.length hq hl
        have a3 := take_f3 pre.length rest.length s.length q.length hq hl
        have a4 := take_f4 pre.length rest.length s.length q.length hq hl
        have a5 := take_f5 pre.length rest.length s.length q.length hq hl
        have a6 := take_f6 pre.length rest.length s.length q.length hq hl
        have a7 := take_f7 pre.length rest.length s.length q.length hq hl
        have a8 := take_f8 pre.length rest.length s.length q.length hq hl
        have a9 := take_f9 pre.length rest.length s.length q.length hq hl
        have sim1 := fun k => l1_step k s rest _ _ y hi hw hrd' a1 a2 a3 a4
        have sim2 := fun k => j3_step k s rest pre q _ _ _ y hw hw2 hrd' (by rw [Int.toNat_natCast]; exact htk) (by rw [Int.toNat_natCast]; exact hdr) a5 a6 a7 (by rw [List.length_append]; exact a7) a3 a4 a8 a9
        by_cases c1 : y = 1
        · subst c1
          rw [htx, txt_0]
          refine Ev.step (f := fun k => key_take.j3 k s rest (pre.length : Int) false) (fun k => ?_) (Ev.step (f := fun _ => some (true, strOfNums (s ++ pre), 0, q, true)) (fun k => ?_) ?_)
          · rw [sim1, if_pos rfl]
          · rw [sim2, if_pos rfl]
          · simp only [if_true, Option.map_some, List.append_nil, takeR]
            exact Ev.now _
        · by_cases c2 : y = 255
          · subst c2
            rw [htx, txt_0]
            have hb2 : IsB q := hdr ▸ hb.drop _
            have := ih q (s ++ pre ++ [0]) (by omega) hb2 (by simp only [List.length_append, List.length_cons, List.length_nil]; omega)
            refine Ev.step (f := fun k => key_take.j3 k s rest (pre.length : Int) false) (fun k => ?_) (Ev.step (f := fun k => key_take.l1 k (s ++ pre ++ [0]) q) (fun k => ?_) ?_)
            · rw [sim1, if_neg c1, bne_self_eq_false]
            · rw [sim2, if_neg c1]
            · have ee : (Option.map (fun p : List Int × List Int => ((⟨true, strOfNums (s ++ p.1), 0⟩ : S31), p.2)) (Option.map (fun p : List Int × List Int => (pre ++ p.1, p.2)) (if (255 : Int) = 1 then some ([], q) else if (255 : Int) = 255 then (txt q).map (fun p => (0 :: p.1, p.2)) else none))) = (txt q).map (fun p => (⟨true, strOfNums (s ++ pre ++ [0] ++ p.1), 0⟩, p.2)) := by
                rw [if_neg (by decide), if_pos rfl]
                cases txt q <;> simp
              rw [ee]
              exact this
          · rw [htx, txt_0]
            have ee : (if y = 1 then some ([], q) else if y = 255 then (txt q).map (fun p => (0 :: p.1, p.2)) else none) = none := by rw [if_neg c1, if_neg c2]
            simp only [ee]
            refine Ev.step (f := fun k => key_take.j3 k s rest (pre.length : Int) true) (fun k => ?_) bad
            have hbn : (y != 255) = true := bne_iff_ne.mpr c2
            rw [sim1, if_neg c1, hbn]
end Go.Proofs.YtamaoileeipgeaaDoor.XKey
