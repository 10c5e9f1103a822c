/- DiskReads. -/
import Derived.Test.YtcaamecdhbgknaaDA
import Derived.Test.YtcaamecdhbgknaaL3
namespace Go.Proofs.Ytcaamecdhbgknaa.Disk
open Go Go.V
open Go.Proofs.Ytcaamecdhbgknaa.VC
open Go.Proofs.Try (prog)
set_option linter.unusedVariables false
set_option linter.unusedSimpArgs false
set_option maxRecDepth 20000

/-- A text of a row's bytes. -/
theorem reads_walk (w : World) (n i : Int) {bA : Option Addr} {bC : Nat} {bs : ByteArray} (hr : Row w bA (byteCells bs)) :
    Calls prog 3 #[I64 n, I64 i, .slice bA bs.size bC] w fun e w' => e = .returned (.bool true) ∧ RowKit.Below w.heap.size w w' := by
  refine rhizomelaw03_DiskReads.link ((awake_c w).mono ?_)
  rintro e w2 ⟨rfl, f2⟩
  refine ⟨_, rfl, bF rfl ⟨by decide, ?_⟩⟩
  obtain ⟨m0, m1⟩ := modN (n := n) (m := 4096) (by decide) (by decide)
  generalize hN0 : IntKind.wrap .i64 (Int.tmod (IntKind.wrap .u64 n) 4096) = N0 at m0 m1 ⊢
  have hN : IntKind.wrap .i64 (N0 + 1) = N0 + 1 := wrapi (by omega) (by omega)
  rw [hN]
  generalize hNN : N0 + 1 = N at hN ⊢
  have n1 : 1 ≤ N := by omega
  have n2 : N ≤ 4096 := by omega
  refine (new_c w2 N).mono ?_
  rintro e w5 ⟨_, h⟩
  obtain ⟨b, ms, mf, rfl, hge, f5, hD⟩ := h (by omega)
  have z2 := f2.size
  have z5 := f5.size
  have hb := hge b (by simp)
  have hms := hge ms (by simp)
  have hmf := hge mf (by simp)
  have hW : ∀ x ∈ [b, ms, mf], x ∈ ([] : List Nat) ∨ w.heap.size ≤ x := fun x hx => .inr (by have := hge x hx; omega)
  have hn := fresh0_n n1
  have f05 : Fr [] w w5 := f2.trans' f5
  refine ⟨_, _, rfl, fun y8 hy8 => bF rfl (bF rfl ((size_c hD).mono ?_))⟩
  rintro e w5x ⟨e5, rfl⟩
  subst w5x
  refine ⟨_, rfl, hy8 _ _ (bF (by rw [hn]; simp) ((read_c hD i).mono ?_))⟩
  rintro e w12 ⟨hbad, hgood⟩
  rw [hn] at hbad hgood
  by_cases hout : i < 0 ∨ N ≤ i
  · obtain ⟨rfl, e12⟩ := hbad hout
    subst w12
    refine ⟨_, _, _, _, rfl, fun y17 hy17 => ?_⟩
    have key : y17 true w5 := by
      refine hy17 _ _ ((bytes_c w5 (Row.fr f05 hr (fun ad _ => by simp))).mono ?_)
      rintro e w21 ⟨k, rfl, zk, f21, bk⟩
      obtain ⟨q1, q2, q3, q4, q5⟩ := hD.bs
      refine ⟨_, _, _, rfl, (write_b (hD.fr f21 (by simp)) i bk (round_size _).symm (by simp; omega)).mono ?_⟩
      rintro e w26 ⟨rfl, f26, D26⟩
      have hM : (DM.fresh0 N.toNat).write i (round bs) = (DM.fresh0 N.toNat, 1) := by
        unfold DM.write; rw [if_pos (by rw [hn]; rcases hout with h | h; exact .inl h; exact .inr (.inl h))]
      rw [hM] at D26 ⊢
      refine ⟨_, rfl, bT rfl fun y28 hy28 => bT rfl (bT rfl (bT rfl ((steps_c D26).mono ?_)))⟩
      rintro e w34 ⟨rfl, rfl⟩
      exact ⟨_, rfl, hy28 _ _ ⟨rfl, ((f05.trans' f21).trans f26 hW).below (Nat.le_refl _) (fun x hx => by cases hx)⟩⟩
    refine ⟨fun _ => key, fun h0 => ?_⟩
    have h0 : ¬ i < 0 := of_decide_eq_false h0
    have : decide (N ≤ i) = true := decide_eq_true (by omega)
    rw [this]; exact key
  · obtain ⟨ka, sa, hsa, rfl, za, f12, ba⟩ := hgood hout
    refine ⟨_, _, _, _, rfl, fun y17 hy17 => ?_⟩
    have key : y17 false w12 := by
      have f012 : Fr [] w w12 := f05.trans' f12
      refine hy17 _ _ ((bytes_c w12 (Row.fr f012 hr (fun ad _ => by simp))).mono ?_)
      rintro e w21 ⟨k, rfl, zk, f21, bk⟩
      obtain ⟨q1, q2, q3, q4, q5⟩ := hD.bs
      have z12 := f12.size
      have z21 := f21.size
      have hi : i.toNat < N.toNat := by omega
      refine ⟨_, _, _, rfl, (write_b ((hD.fr f12 (by simp)).fr f21 (by simp)) i bk (round_size _).symm (by simp; omega)).mono ?_⟩
      rintro e w26 ⟨rfl, f26, D26⟩
      have hM : (DM.fresh0 N.toNat).write i (round bs) = ((DM.fresh0 N.toNat).wrote i.toNat (round bs), 0) := by
        unfold DM.write
        rw [if_neg (by rw [hn, round_size]; rintro (h | h | h); exact hout (.inl h); exact hout (.inr h); exact h rfl), if_neg (by show ¬ (-1 : Int) = 0; omega)]
      rw [hM] at D26 ⊢
      have f026 : Fr [] w w26 := (f012.trans' f21).trans f26 hW
      have hba : Blk w26 ka (byteCells sa) := (ba.fr f21 (by simp)).fr f26 (by simp; omega)
      have hsz : sa = zsec := by
        have := List.mem_of_getElem? hsa
        exact (List.mem_replicate.1 this).2
      subst hsz
      refine ⟨_, rfl, bF rfl fun y36 hy36 => bF rfl (bF rfl ?_)⟩
      obtain ⟨s1, s2⟩ := str_of hba zsec_size
      refine ⟨zsec.data.toList, s1, s2, by decide, fun w121 k122 st121 b121 => ?_⟩
      rw [← zsec_cells] at b121
      obtain ⟨t1, t2⟩ := str_of b121 zsec_size
      refine ⟨zsec.data.toList, t1, t2, hy36 _ _ (bF (by simp) ?_)⟩
      have D121 := D26.fr st121.fr (by simp)
      refine (read_c D121 i).mono ?_
      rintro e w40 ⟨_, h⟩
      have hn2 : ((DM.fresh0 N.toNat).wrote i.toNat (round bs)).n = N := hn
      obtain ⟨kb, sb, hsb, rfl, zb, f40, bb⟩ := h (by rw [hn2]; exact hout)
      have z121 := st121.size
      have z40 := f40.size
      have z26 := f26.size
      have f040 : Fr [] w w40 := (f026.trans' st121.fr).trans' f40
      let I : Nat → Int → World → Prop := fun m q w' => ∃ (c : Nat) (cs : List Value), q = c ∧ c ≤ 64 ∧ m = 64 - c ∧ Fr [kb] w40 w' ∧ Blk w' kb cs ∧ cs.length = 64 ∧ ∀ j, j < 64 → ∃ x : Int, cs[j]? = some (.int .u8 x)
      refine ⟨_, _, _, _, rfl, I, 64, ⟨0, byteCells sb, rfl, by omega, rfl, Fr.refl _ _, bb, ?_, fun j hj => ?_⟩, fun m q w49 hI => ?_⟩
      · rw [byteCells_length, D121.ok.w64 _ _ hsb]
      · have : j < sb.data.size := by
          have h64 : sb.data.size = 64 := D121.ok.w64 _ _ hsb
          rw [h64]; exact hj
        rw [byteCells_get, Array.getElem?_eq_getElem this]; exact ⟨_, rfl⟩
      obtain ⟨c, cs, rfl, hc, rfl, f49, b49, hl, hi8⟩ := hI
      refine ⟨fun hlt => ?_, fun hge => ?_⟩
      · have hlt : (c : Int) < ((64 : Nat) : Int) := of_decide_eq_true hlt
        obtain ⟨x, hx⟩ := hi8 c (by omega)
        have e0 : 0 + (c : Int).toNat * 1 = c := by omega
        refine ⟨_, rfl, ⟨by omega, by omega⟩, x, by rw [add_mk, b49.cell, e0, hx], _, rfl, ⟨by omega, by omega⟩, cs, by rw [add_block]; exact b49, by rw [add_mk], by rw [add_mk, hl]; show 0 + (c : Int).toNat * 1 + 1 ≤ 64; omega, fun w55 hu => ⟨64 - (c + 1), by omega, c + 1, _, by rw [wrapi (by omega) (by omega)]; simp, by omega, rfl, ?_, by have := hu.blk; rw [add_block] at this; exact this, ?_, fun j hj => ?_⟩⟩
        · have := hu.fr
          rw [add_block] at this
          exact f49.trans' this
        · rw [add_mk]; show (cs.set _ _).length = 64; rw [List.length_set]; exact hl
        · rw [add_mk]
          show ∃ y, (cs.set (0 + (c : Int).toNat * 1) _)[j]? = some (Value.int .u8 y)
          rw [List.getElem?_set]
          split
          · rw [if_pos (by omega)]; exact ⟨_, rfl⟩
          · exact hi8 j hj
      · have hkb : ∀ x ∈ [b, ms, mf], x ∉ [kb] := fun x hx hm => by
          have := D121.bs
          simp at hx hm
          rcases hx with rfl | rfl | rfl <;> omega
        have D49 := (D121.fr f40 (by simp)).fr f49 hkb
        refine (read_c D49 i).mono ?_
        rintro e w59 ⟨_, h⟩
        obtain ⟨kc, sc, hsc, rfl, zc, f59, bc⟩ := h (by rw [hn2]; exact hout)
        have hsc' : sc = round bs := by
          have h1 : ((List.replicate N.toNat zsec).set i.toNat (round bs))[i.toNat]? = some sc := hsc
          rw [List.getElem?_set] at h1
          rw [if_pos rfl, List.length_replicate, if_pos hi] at h1
          injection h1 with h1; exact h1.symm
        subst hsc'
        have f059 : Fr [] w w59 := (f040.trans f49 (fun x hx => .inr (by simp at hx; omega))).trans' f59
        have D59 := D49.fr f59 (by simp)
        have hun : ((DM.fresh0 N.toNat).wrote i.toNat (round bs)).unsure.length = 1 := wrote_unsure N.toNat i.toNat hi _
        have last : ∀ (y64 : Bool → World → Prop), (∀ b65 w66, (Ending.returned (Value.bool b65) = .returned (.bool true) ∧ RowKit.Below w.heap.size w w66) → y64 b65 w66) → ∀ w76, Fr [] w59 w76 → Calls prog 26 #[D b] w76 fun e w85 => ∃ (p86 : Option Addr) (k87 k88 : Nat), e = .returned (.slice p86 k87 k88) ∧ y64 (decide ((k87 : Int) = 1)) w85 := fun y64 hy64 w76 f76 => by
          refine (unsure_c (D59.fr f76 (by simp))).mono ?_
          rintro e w85 ⟨p, cc, rfl, f85, _, _⟩
          refine ⟨_, _, _, rfl, hy64 _ _ ⟨by rw [hun]; rfl, ((f059.trans' f76).trans' f85).below (Nat.le_refl _) (fun x hx => by cases hx)⟩⟩
        refine ⟨_, _, _, _, rfl, fun y64 hy64 => bT rfl ⟨?_, fun w89 st89 => ?_⟩⟩
        · obtain ⟨u1, u2⟩ := str_of bc (round_size bs)
          refine ⟨(round bs).data.toList, u1, u2, fun w73 st73 => (bytes_c w73 (Row.fr (f059.trans' st73.fr) hr (fun ad _ => by simp))).mono ?_⟩
          rintro e w76 ⟨kd, rfl, zd, f76, bd⟩
          obtain ⟨v1, v2⟩ := str_of bd (round_size bs)
          exact ⟨_, _, _, rfl, (round bs).data.toList, v1, v2, bT (by simp) (last y64 hy64 w76 (st73.fr.trans' f76))⟩
        · refine (bytes_c w89 (Row.fr (f059.trans' st89.fr) hr (fun ad _ => by simp))).mono ?_
          rintro e w92 ⟨kd, rfl, zd, f92, bd⟩
          obtain ⟨u1, u2⟩ := str_of ((bc.fr st89.fr (by simp)).fr f92 (by simp)) (round_size bs)
          obtain ⟨v1, v2⟩ := str_of bd (round_size bs)
          exact ⟨_, _, _, rfl, (round bs).data.toList, u1, u2, (round bs).data.toList, v1, v2, bT (by simp) (last y64 hy64 w92 (st89.fr.trans' f92))⟩
    refine ⟨fun h0 => absurd (of_decide_eq_true h0) (fun h => hout (.inl h)), fun _ => ?_⟩
    have : decide (N ≤ i) = false := decide_eq_false (fun h => hout (.inr h))
    rw [this]; exact key

end Go.Proofs.Ytcaamecdhbgknaa.Disk
