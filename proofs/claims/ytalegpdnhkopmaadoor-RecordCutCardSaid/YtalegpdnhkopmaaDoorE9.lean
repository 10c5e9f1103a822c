/- strings.ReplaceAll at an old of one byte, without a word on any package-level variable: the shelf's walk of strings.Replace, turned to a one-byte old (Index and Count by their one-byte contracts). -/
import Derived.Shelf.Strings.Replace
import Derived.Shelf.Strings.Search3
import Derived.Shelf.Strings.Count
import Derived.Lib.IndexBytes
namespace Go.Proofs.YtalegpdnhkopmaaDoor
open Go.Shelf Go.RowKit Go.Lib
variable {P : Program} {ρ : Ren}

theorem hidQ {p : Prop} (h : p) : Hid p := h

set_option maxHeartbeats 16000000 in
set_option maxRecDepth 1000000 in
theorem replace1_some (L : Lays.n154 P ρ) (X : Builder.Extra P ρ) (s old new : ByteArray) (w : World)
    (h1 : 1 ≤ old.size) (hne : old ≠ new) (hc0 : Lib.countB s old ≠ 0)
    (hC : ∀ w, Calls P (ρ.f 138) #[.string s, .string old] w fun e w' => e = .returned (.int .i64 (Lib.countB s old)) ∧ w' = w)
    (hI : ∀ (x : ByteArray) w, Calls P (ρ.f 143) #[.string x, .string old] w fun e w' => e = .returned (.int .i64 (Lib.index x.data.toList old.data.toList)) ∧ w' = w)
    (hlen : s.size + Lib.countB s old * new.size ≤ 140737488355328) :
    Calls P (ρ.f 154) #[.string s, .string old, .string new, .int .i64 (-1)] w fun e w' =>
      e = .returned (.string ⟨(Lib.replaceK old.data.toList new.data.toList (Lib.countB s old) s.data.toList).toArray⟩) ∧ Below w.heap.size w w' := by
  have HI := hidQ hI
  clear hI
  replace hC := hC w
  have hmul := Lib.countB_mul_le old h1 s.size s (Nat.le_refl _)
  obtain ⟨K, hK⟩ : ∃ K : Nat, Lib.countB s old = K := ⟨_, rfl⟩
  have hcn' : Lib.count s.data.toList old.data.toList = K := hK
  rw [hK] at hC hlen hc0 hmul
  rw [hK]
  have hbeq : (old.toList == new.toList) = false := (Lib.bytes_beq_false_iff old new).2 hne
  have hnz : ((-1 : Int) == 0) = false := rfl
  have hcz : ((K : Int) == 0) = false := beq_eq_false_iff_ne.2 (by omega)
  have ho0 : (0 : Int) < (old.size : Int) := by omega
  have hlenL : s.data.toList.length = s.size := (Lib.size_eq s).symm
  have hlenO : old.data.toList.length = old.size := (Lib.size_eq old).symm
  have hK1 : 1 ≤ K := by omega
  have hKs : K ≤ s.size := Nat.le_trans (Nat.le_mul_of_pos_right K (by omega)) hmul
  have hga := Lib.grow_arg s.size K new.size old.size hK1 hmul hlen
  have hKcount : K ≤ Lib.count (s.data.toList.drop 0) old.data.toList := by rw [List.drop_zero, hcn']; exact Nat.le_refl _
  clear hK hcn' hmul
  have hod : decide (0 < old.size) = true := decide_eq_true (by omega)
  have hcase : (-1 : Int) < 0 := by decide
  have mixed := L.mixed
  have t72 := L.t72; have a72 := L.a72; have z72 := L.z72; have v72 := L.v72; have u72 := run_underlying L.t72
  have t70 := L.t70; have a70 := L.a70; have z70 := L.z70; have v70 := L.v70; have u70 := run_underlying L.t70
  have t37 := L.t37; have a37 := L.a37; have z37 := L.z37; have v37 := L.v37; have u37 := run_underlying L.t37
  have t3 := L.t3; have a3 := L.a3; have z3 := L.z3; have v3 := L.v3; have u3 := run_underlying L.t3
  have t9 := L.t9; have a9 := L.a9; have z9 := L.z9; have v9 := L.v9; have u9 := run_underlying L.t9
  have t4 := L.t4; have a4 := L.a4; have z4 := L.z4; have v4 := L.v4; have u4 := run_underlying L.t4
  have e138 : ∀ args w, (callFunc (ρ.f 138) args).run P w = .ok (.enter (ρ.f 138) args) w := enters_of L.f138 (by kernel_rfl) rfl
  have e143 : ∀ args w, (callFunc (ρ.f 143) args).run P w = .ok (.enter (ρ.f 143) args) w := enters_of L.f143 (by kernel_rfl) rfl
  have e165 : ∀ args w, (callFunc (ρ.f 165) args).run P w = .ok (.enter (ρ.f 165) args) w := enters_of L.f165 (by kernel_rfl) rfl
  have e166 : ∀ args w, (callFunc (ρ.f 166) args).run P w = .ok (.enter (ρ.f 166) args) w := enters_of L.f166 (by kernel_rfl) rfl
  have e169 : ∀ args w, (callFunc (ρ.f 169) args).run P w = .ok (.enter (ρ.f 169) args) w := enters_of L.f169 (by kernel_rfl) rfl
  go_enter L.f154, Body.n154_ntmps ρ
  go_wp2_with (first | (go_at_fn (ρ.f 138); refine hC.mono ?_; rintro e w' ⟨rfl, hw⟩; rw [hw]))
  all_goals (
    clear hC
    try rw [hga]
    refine (Any.Builder_Grow_fresh { L with } X w.heap.size w.heap.size _ _ (Nat.le_refl _) (heap_alloc_new w _) (by simp) (by omega)).mono ?_
    rintro e w1 ⟨rfl, hb0, hb1⟩
    have H1 := hidQ (Or.inr hb0 : Lib.IsBuilder (ρ.t 72) (ρ.t 5) w.heap.size w.heap.size (Lib.byteCells []) w1)
    have Hb1 := hidQ (((Below.refl w.heap.size w).alloc (Nat.le_refl _) _).trans hb1)
    clear hb0 hb1 hga
    go_wp2_with fail
    go_loopg [11, 53] K (fun g s11 s53 wx => ∃ (i start : Nat) (acc : List UInt8), s53 = .int .i64 i ∧ s11 = .int .i64 start ∧ i + g = K ∧ start ≤ s.size ∧
      Hid (Lib.IsBuilder (ρ.t 72) (ρ.t 5) w.heap.size w.heap.size (Lib.byteCells acc) wx) ∧ Hid (Below w.heap.size w wx) ∧ Hid (acc ++ Lib.replaceK old.data.toList new.data.toList g (s.data.toList.drop start) = Lib.replaceK old.data.toList new.data.toList K s.data.toList) ∧
      g ≤ Lib.count (s.data.toList.drop start) old.data.toList ∧ acc.length + (s.size - start) + g * new.size ≤ s.size + K * new.size)
    case atStart => exact ⟨0, 0, [], rfl, rfl, by omega, Nat.zero_le _, H1, Hb1, hidQ (by simp), hKcount, by simp⟩
    case round =>
      obtain ⟨i, start, acc, rfl, rfl, hig, hst, HB, HW, HR, hgc, hbd⟩ := hrel
      have hBw : w.heap.size ≤ wr.heap.size := HW.out.size
      have c1 : (0 : Int) ≤ (start : Int) := by omega
      have c2 : (start : Int) ≤ (s.size : Int) := by omega
      cases gk with
      | zero =>
        have hiK : ¬ ((i : Int) < (K : Int)) := by omega
        go_wp2_with fail
        refine (Any.Builder_WriteString { L with } X w.heap.size w.heap.size _ _ wr HB.out (by rw [Lib.byteCells_length, ByteArray.size_extract]; omega) hBw).mono ?_
        rintro e w3 ⟨rfl, h3, hb3⟩
        rw [Lib.strCells_eq, Lib.extract_to_end, ← Lib.byteCells_append] at h3
        have hfin : acc ++ s.data.toList.drop start = Lib.replaceK old.data.toList new.data.toList K s.data.toList := HR.out
        rw [hfin] at h3
        have H3 := hidQ (Or.inr h3 : Lib.IsBuilder (ρ.t 72) (ρ.t 5) w.heap.size w.heap.size _ w3)
        have Hb3 := hidQ (HW.out.trans hb3)
        have hBw3 : w.heap.size ≤ w3.heap.size := Hb3.out.size
        clear h3 hb3 hfin
        go_wp2_with fail
        refine (Any.Builder_String_any { L with } X w.heap.size w.heap.size _ w3 H3.out hBw3).mono ?_
        rintro e w5 ⟨rfl, hb5⟩
        have Hb5 := hidQ (Hb3.out.trans hb5)
        clear hb5
        go_wp2
        go_ret
        exact ⟨rfl, Hb5.out⟩
      | succ g =>
        have hiK : (i : Int) < (K : Int) := by omega
        obtain ⟨j, hj⟩ := Lib.index_of_count (s := s.data.toList.drop start) (old := old.data.toList) (by omega)
        have hroom : j + old.size ≤ s.size - start := by
          have := Lib.index_room (s.data.toList.drop start) old.data.toList (by rw [hj]; omega)
          rw [hj, List.length_drop, hlenL, hlenO] at this
          omega
        have hsucc : (g + 1) * new.size = g * new.size + new.size := Nat.succ_mul _ _
        have c3 : (start : Int) ≤ (start : Int) + (j : Int) := by omega
        have c4 : (start : Int) + (j : Int) ≤ (s.size : Int) := by omega
        have hnext : Lib.byteCells acc ++ Lib.strCells (s.extract start (start + j)) ++ Lib.strCells new = Lib.byteCells (acc ++ (s.data.toList.drop start).take j ++ new.data.toList) := by
          rw [Lib.strCells_eq, Lib.strCells_eq, Lib.extract_data, Nat.add_sub_cancel_left, ← Lib.byteCells_append, ← Lib.byteCells_append]
        have hrep : (acc ++ (s.data.toList.drop start).take j ++ new.data.toList) ++ Lib.replaceK old.data.toList new.data.toList g (s.data.toList.drop (start + j + old.size)) = Lib.replaceK old.data.toList new.data.toList K s.data.toList := by
          rw [← HR.out, Lib.replaceK_hit _ _ g _ j hj, List.drop_drop, hlenO]
          simp only [List.append_assoc, Nat.add_assoc]
        have hcnt : g ≤ Lib.count (s.data.toList.drop (start + j + old.size)) old.data.toList := by
          have := Lib.count_hit (s := s.data.toList.drop start) (sub := old.data.toList) (i := j) (fun e => by rw [e] at hlenO; simp at hlenO; omega) hj
          rw [List.drop_drop, hlenO] at this
          rw [show start + j + old.size = start + (j + old.size) by omega]
          omega
        have htl : ((s.data.toList.drop start).take j).length = j := by rw [List.length_take, List.length_drop, hlenL]; omega
        have Hn := hidQ hnext
        have Hrep := hidQ hrep
        clear hnext hrep HR
        go_wp2_with (first | (go_at_fn (ρ.f 143); refine (HI.out _ _).mono ?_; rintro e w' ⟨rfl, hw⟩; rw [hw, Lib.extract_to_end, hj]))
        refine (Any.Builder_WriteString { L with } X w.heap.size w.heap.size _ (s.extract start (start + j)) wr HB.out (by rw [Lib.byteCells_length, ByteArray.size_extract]; omega) hBw).mono ?_
        rintro e w3 ⟨rfl, h3, hb3⟩
        have hBw3 : w.heap.size ≤ w3.heap.size := Nat.le_trans hBw hb3.size
        have H3 := hidQ h3
        have Hb3 := hidQ hb3
        clear h3 hb3
        go_wp2_with fail
        refine (Any.Builder_WriteString { L with } X w.heap.size w.heap.size _ new w3 (Or.inr H3.out) (by rw [List.length_append, Lib.byteCells_length, Lib.strCells_length, ByteArray.size_extract]; omega) hBw3).mono ?_
        rintro e w4 ⟨rfl, h4, hb4⟩
        rw [Hn.out] at h4
        have H4 := hidQ (Or.inr h4 : Lib.IsBuilder (ρ.t 72) (ρ.t 5) w.heap.size w.heap.size _ w4)
        have Hb4 := hidQ ((HW.out.trans Hb3.out).trans hb4)
        clear h4 hb4
        go_wp2
        go_roundg g
        case measure => omega
        case rel => exact ⟨i + 1, start + j + old.size, _, by first | rfl | (simp; unfold wrap64; omega), by first | rfl | simp | (simp; unfold wrap64; omega), by omega, by omega, H4, Hb4, Hrep, hcnt, by simp only [List.length_append, htl, ← Lib.size_eq]; omega⟩)

set_option maxHeartbeats 4000000 in
set_option maxRecDepth 1000000 in
theorem replace1_absent (L : Lays.n154 P ρ) (s old new : ByteArray) (w : World) (hne : old ≠ new) (hc0 : Lib.countB s old = 0)
    (hC : ∀ w, Calls P (ρ.f 138) #[.string s, .string old] w fun e w' => e = .returned (.int .i64 (Lib.countB s old)) ∧ w' = w) :
    Calls P (ρ.f 154) #[.string s, .string old, .string new, .int .i64 (-1)] w fun e w' => e = .returned (.string s) ∧ w' = w := by
  replace hC := hC w
  rw [hc0] at hC
  have hbeq : (old.toList == new.toList) = false := (Lib.bytes_beq_false_iff old new).2 hne
  have t3 := L.t3; have a3 := L.a3; have z3 := L.z3; have v3 := L.v3
  have t9 := L.t9; have a9 := L.a9; have z9 := L.z9; have v9 := L.v9
  have t4 := L.t4; have a4 := L.a4; have z4 := L.z4; have v4 := L.v4
  have e138 : ∀ args w, (callFunc (ρ.f 138) args).run P w = .ok (.enter (ρ.f 138) args) w := enters_of L.f138 (by kernel_rfl) rfl
  go_enter L.f154, Body.n154_ntmps ρ
  go_wp2_with (first | (go_at_fn (ρ.f 138); refine hC.mono ?_; rintro e w' ⟨rfl, hw⟩; rw [hw]))
  go_ret
  exact ⟨rfl, rfl⟩

set_option maxHeartbeats 1000000 in
/-- strings.ReplaceAll at an old of one byte, new another: nothing is asked of the world. -/
theorem replaceAll1 (L : Lays.n155 P ρ) (X : Builder.Extra P ρ) (s : ByteArray) (c : UInt8) (new : ByteArray) (w : World)
    (hne : (⟨#[c]⟩ : ByteArray) ≠ new) (hlen : s.size + s.size * new.size ≤ 140737488355328) :
    Calls P (ρ.f 155) #[.string s, .string ⟨#[c]⟩, .string new] w fun e w' =>
      e = .returned (.string ⟨(Lib.replaceK [c] new.data.toList (Lib.count s.data.toList [c]) s.data.toList).toArray⟩) ∧ Below w.heap.size w w' := by
  have hC : ∀ w, Calls P (ρ.f 138) #[.string s, .string ⟨#[c]⟩] w fun e w' => e = .returned (.int .i64 (Lib.countB s ⟨#[c]⟩)) ∧ w' = w := fun w => by
    refine (Any.strings_Count_one { L with } s c w).mono fun e w' ⟨he, hw⟩ => ⟨?_, hw⟩
    rw [he]
    show _ = Ending.returned (Value.int .i64 ((Lib.count s.data.toList [c] : Nat) : Int))
    rw [Lib.count_one]
    rfl
  have hI : ∀ (x : ByteArray) w, Calls P (ρ.f 143) #[.string x, .string ⟨#[c]⟩] w fun e w' => e = .returned (.int .i64 (Lib.index x.data.toList [c])) ∧ w' = w := fun x w => by
    refine (Any.strings_Index_one { L with } x c w).mono fun e w' ⟨he, hw⟩ => ⟨?_, hw⟩
    rw [he, Lib.index_one]
  have hm := Lib.countB_mul_le ⟨#[c]⟩ (Nat.le_refl 1) s.size s (Nat.le_refl _)
  have hm' : Lib.countB s ⟨#[c]⟩ ≤ s.size := by
    have e1 : (⟨#[c]⟩ : ByteArray).size = 1 := rfl
    rw [e1, Nat.mul_one] at hm
    exact hm
  have hlen' : s.size + Lib.countB s ⟨#[c]⟩ * new.size ≤ 140737488355328 := Nat.le_trans (Nat.add_le_add_left (Nat.mul_le_mul_right _ hm') _) hlen
  have key : Calls P (ρ.f 154) #[.string s, .string ⟨#[c]⟩, .string new, .int .i64 (-1)] w fun e w' =>
      e = .returned (.string ⟨(Lib.replaceK [c] new.data.toList (Lib.count s.data.toList [c]) s.data.toList).toArray⟩) ∧ Below w.heap.size w w' := by
    by_cases hc0 : Lib.countB s ⟨#[c]⟩ = 0
    · refine (replace1_absent { L with } s ⟨#[c]⟩ new w hne hc0 hC).mono fun e w' ⟨h1', h2'⟩ => ⟨?_, h2' ▸ Below.refl _ _⟩
      have e0 : Lib.count s.data.toList [c] = 0 := hc0
      rw [h1', e0, Lib.replaceK, Lib.mk_data]
    · exact replace1_some { L with } X s ⟨#[c]⟩ new w (Nat.le_refl 1) hne hc0 hC hI hlen'
  have t3 := L.t3; have a3 := L.a3; have z3 := L.z3; have v3 := L.v3
  have t9 := L.t9; have a9 := L.a9; have z9 := L.z9; have v9 := L.v9
  have e154 : ∀ args w, (callFunc (ρ.f 154) args).run P w = .ok (.enter (ρ.f 154) args) w := enters_of L.f154 (by kernel_rfl) rfl
  clear hC hI hm hm' hlen hlen'
  go_enter L.f155, Body.n155_ntmps ρ
  go_wp2_with (go_at_fn (ρ.f 154); refine key.mono ?_; rintro e w' ⟨rfl, hw⟩)
  go_ret
  exact ⟨rfl, hw⟩

end Go.Proofs.YtalegpdnhkopmaaDoor
