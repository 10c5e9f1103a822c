-- Written by xprint.py (a program of this session's repo) over the kit's print; Lean checks it.
import Derived.Test.YtamaoileeipgeaaDoorXKey0
namespace Go.Proofs.YtamaoileeipgeaaDoor.XKey
open Go.RowKit Go.Proofs.YtamaoileeipgeaaDoorW.PrintWords Go.Proofs.YtamaoileeipgeaaDoorW.PrintLast Go.Proofs.YtamaoileeipgeaaDoorW.PrintMore
attribute [local go_sem] max2_int min2_int max_two min_two max_three min_three max_four min_four   -- for this text's walks alone
set_option linter.unusedVariables false
set_option linter.unusedSimpArgs false

/-! ### rhizomeref01_End: function 12 (by hand) -/
/-- The document's End. -/
def refEndFrom (l : List Int) : Nat → List Int
  | 0 => []
  | i + 1 => if rd l i = 255 then refEndFrom l i else (l.take (i + 1)).set i ((rd l i + 1) % 256)
def rhizomeref01_End.f (l0 : List Int) : Option (List Int) := if l0.length < 140737488355328 then some (refEndFrom l0 l0.length) else none
set_option maxHeartbeats 4000000 in
set_option maxRecDepth 100000 in
theorem rhizomeref01_End.calls (A0 : Option Addr) (c0 : Nat) (l0 : List Int) (r : List Int) (w : World) (hr0 : Kd.C (Kd.int .u8) w A0 l0.length l0) (hc0 : l0.length ≤ c0) (h : rhizomeref01_End.f l0 = some r) :
    Calls Tryd.prog 12 #[.slice A0 l0.length c0] w fun e w' => ∃ v0_ : Value, e = .returned (v0_) ∧ Kd.R (Kd.int .u8) 5 w' w.heap.size (fun _ => True) v0_ r ∧ Below w.heap.size w w' := by
  have HL := Aside0.mk (show l0.length < 140737488355328 by by_cases c : l0.length < 140737488355328 <;> simp_all [rhizomeref01_End.f])
  have HE := Aside0.mk (show refEndFrom l0 l0.length = r by by_cases c : l0.length < 140737488355328 <;> simp_all [rhizomeref01_End.f])
  clear h
  have HR0 := Aside0.mk hr0
  have HC0 := Aside0.mk hc0
  clear hr0 hc0
  have hl := HL.out
  go_enter Tryd.func12, Tryd.ntmps12
  go_wp2
  go_loop [3] (fun v3 => ∃ i : Int, v3 = .int .i64 i ∧ 0 ≤ i ∧ i ≤ (l0.length : Int) ∧ Aside0 (refEndFrom l0 i.toNat = r)) (fun v3 => (intOf v3).toNat)
  case atStart => exact ⟨(l0.length : Int), rfl, by omega, by omega, ⟨by rw [show ((l0.length : Int)).toNat = l0.length by omega]; exact HE.out⟩⟩
  case round =>
    obtain ⟨i, rfl, hi0, hi1, HE1⟩ := hrel
    clear HE
    by_cases c : 0 < i
    · have cb : decide (0 < i) = true := decide_eq_true c
      obtain ⟨j, rfl⟩ : ∃ j : Int, i = j + 1 := ⟨i - 1, by omega⟩
      have hj0 : 0 ≤ j := by omega
      have hj1 : j < (l0.length : Int) := by omega
      obtain ⟨ad, e, hx⟩ := Kd.at_int HR0.out j hj0 hj1
      subst e
      have hE : refEndFrom l0 (j.toNat + 1) = r := by have := HE1.out; rwa [show (j + 1).toNat = j.toNat + 1 by omega] at this
      simp only [refEndFrom, show ((j.toNat : Nat) : Int) = j by omega] at hE
      have hs : j + 1 - 1 = j := by omega
      by_cases c2 : rd l0 j = 255
      · rw [if_pos c2] at hE
        have c2b : (rd l0 j == 255) = true := beq_iff_eq.mpr c2
        clear c2
        go_wp2
        go_round
        case rel => exact ⟨j, by go_num, by omega, by omega, ⟨hE⟩⟩
        case measure => simp [intOf]; omega
      · rw [if_neg c2] at hE
        have c2b : (rd l0 j == 255) = false := beq_eq_false_iff_ne.mpr c2
        have c3b : (j + 1 == 0) = false := beq_eq_false_iff_ne.mpr (by omega)
        have HE2 := Aside0.mk hE
        clear hE HE1
        have hlen : (l0.take (j + 1).toNat).length = (j + 1).toNat := by rw [List.length_take]; omega
        obtain ⟨i0, hi0', _, hsz, _⟩ := info_parts info5
        obtain ⟨hcut, hA, hC⟩ := print_take_of (P := Tryd.prog) (Value.int .u8) 0 22 5 .i64 Tryd.underlying22 hi0' hsz (some ad) c0 l0 (j + 1) (by omega) (by omega) HC0.out
        have HA := Aside0.mk (Kd.C_of_reads (h1 := fun _ => rfl) (hA _ (Kd.reads_of_C HR0.out)))
        have HC := Aside0.mk hC
        clear hA hC hi0' hsz
        obtain ⟨xs, hxs⟩ : ∃ xs, l0.take (j + 1).toNat = xs := ⟨_, rfl⟩
        have hxl : xs.length = (j + 1).toNat := by rw [← hxs]; exact hlen
        have hrd : rd xs j = rd l0 j := by
          rw [← hxs]
          unfold rd
          rw [List.getD_eq_getElem?_getD, List.getD_eq_getElem?_getD, List.getElem?_take_of_lt (by omega)]
        rw [show j.toNat + 1 = (j + 1).toNat by omega, hxs] at HE2
        rw [hxs] at HA HC hcut
        clear hxs hlen
        have HXL := Aside0.mk hxl
        have HRD := Aside0.mk hrd
        clear hxl hrd c2
        go_wp2_with (first | ((with_reducible refine gate_dst (N := 21) rfl ?_); refine Kd.R_lit (Kd.int .u8) _ 5 ?hg (N := 21) ?hd (xs := ([] : List Int)) (inner := []) (ok := fun _ => True) (okp := fun _ => True) ?hr ?hp (fun _ hk => hk) trivial (Below.refl _ _) (Nat.le_refl _) (by simp) ?_; (case hd => rfl); (case hg => rfl); (case hr => first | (go_simp; done) | (go_simp; rfl)); (case hp => exact (Reps.none _ _)); intro v1 w1 ho1 hb1 hg_ hnew_; clear hg_ hnew_; have HO1 := Aside0.mk ho1; have HB1 := Aside0.mk hb1; clear ho1 hb1) | ((with_reducible refine gate_builtin (b := .append) (xs := #[.tmp 21, .tmp 24]) rfl ?_); at_builtin; (refine Kd.R_append_rows (Kd.int .u8) (w0 := w) w.heap.size rfl (.tmp 21) (.tmp 24) 22 5 (.int .u8 0) 1 rfl Tryd.underlying22 info5 rfl (by decide) (by omega) v1 ([] : List Int) xs _ _ _ (fun _ => True) (fun _ => False) rfl rfl ?aO ?aR (fun _ _ h => h) (fun _ h => h.elim) ?aF ?aB ?aS ?aL ?_); (case aR => exact Kd.C_below HA.out HB1.out); (case aB => exact HB1.out); (case aF => exact (fun _ _ => trivial)); (case aO => exact HO1.out); (case aS => exact HB1.out.size); (case aL => have := HXL.out; simp; omega); intro v2 w2 ho2 hb2 hg2 hat2; (rw [List.nil_append] at ho2); (obtain ⟨g, cap, rfl, hg1, hg2, hgc⟩ := Kd.R_form ho2 (by have := HXL.out; omega)); (have hxl := HXL.out); (have q3 : decide (j < (xs.length : Int)) = true := decide_eq_true (by omega)); (have q5 : j < (xs.length : Int) := by omega); (clear hxl); (obtain ⟨hce, hfz⟩ := Kd.R_celln (0 : Int) ho2 j hj0 q5); (have hce2 : w2.cell? ⟨g, j.toNat, none⟩ = some (.int .u8 (rd l0 j)) := by { rw [hce]; exact congrArg (fun z => some (Value.int .u8 z)) HRD.out }); (have HO2 := Aside0.mk ho2); (have HB2 := Aside0.mk hb2); (clear ho2 hb2 hat2 hce hgc)))
        go_ret
        have hp := Kd.R_putg HO2.out j ((rd l0 j + 1) % 256)
        refine ⟨_, rfl, ?_, HB2.out.setCell (p := ⟨g, j.toNat, none⟩) hg1 _⟩
        have hp1 := hp.1
        rw [HE2.out] at hp1
        exact hp1
    · obtain rfl : i = 0 := by omega
      obtain rfl : r = [] := by have := HE1.out; simpa [refEndFrom] using this.symm
      clear HE1
      go_wp2
      go_ret
      exact ⟨_, rfl, Kd.R_nil _ _ _ _ _, Below.refl _ _⟩

end Go.Proofs.YtamaoileeipgeaaDoor.XKey
