/- DiskArmed. -/
import Derived.Test.YtcaamecdhbgknaaLReads
import Derived.Test.YtcaamecdhbgknaaL6
namespace Go.Proofs.Ytcaamecdhbgknaa.Disk
open Go Go.V
open Go.Proofs.Ytcaamecdhbgknaa.VC
open Go.Proofs.Try (prog)
set_option linter.unusedVariables false
set_option linter.unusedSimpArgs false
set_option maxRecDepth 20000

theorem armed_walk (w : World) (n : Int) {flA : Option Addr} {flC : Nat} {fl : List Bool} (hr : Row w flA (fl.map .bool)) :
    Calls prog 6 #[I64 n, .slice flA fl.length flC] w fun e w' => e = .returned (.bool true) ∧ RowKit.Below w.heap.size w w' := by
  refine rhizomelaw03_DiskArmed.link ((awake_c w).mono ?_)
  rintro e w2 ⟨rfl, f2⟩
  refine ⟨_, rfl, bF rfl ⟨by decide, ?_⟩⟩
  obtain ⟨m0, m1⟩ := modN (n := n) (m := 50) (by decide) (by decide)
  generalize hN0 : IntKind.wrap .i64 (Int.tmod (IntKind.wrap .u64 n) 50) = N at m0 m1 ⊢
  have hN3 : IntKind.wrap .i64 (N + 3) = N + 3 := wrapi (by omega) (by omega)
  rw [hN3]
  refine (new_c w2 60).mono ?_
  rintro e w5 ⟨_, h⟩
  obtain ⟨b, ms, mf, rfl, hge, f5, hD⟩ := h (by omega)
  have z2 := f2.size
  have z5 := f5.size
  have hb := hge b (by simp)
  have hms := hge ms (by simp)
  have hmf := hge mf (by simp)
  have hW : ∀ x ∈ [b, ms, mf], x ∈ ([] : List Nat) ∨ w.heap.size ≤ x := fun x hx => .inr (by have := hge x hx; omega)
  have f05 : Fr [] w w5 := f2.trans' f5
  refine ⟨_, _, rfl, fun y8 hy8 => bF rfl (bF rfl ((arm_c hD (n := N) (by omega)).mono ?_))⟩
  rintro e w73 ⟨rfl, f73, D73⟩
  have hA : (DM.fresh0 (Int.toNat 60)).arm N = ({ DM.fresh0 (Int.toNat 60) with left := N }, 0) := by
    unfold DM.arm; rw [if_neg (by omega), if_neg (by show ¬ (-1 : Int) = 0; omega)]
  rw [hA] at D73 ⊢
  have f073 : Fr [] w w73 := f05.trans f73 (fun x hx => hW x (by simp at hx; simp [hx]))
  refine ⟨_, rfl, hy8 _ _ (bF rfl ?_)⟩
  let I : Nat → Int → World → Prop := fun m q w' => ∃ (k : Nat) (M : DM), q = k ∧ (k : Int) ≤ N + 3 ∧ (m : Int) = N + 3 - k ∧ Fr [] w w' ∧ DiskAt w' b ms mf M ∧ M.n = 60 ∧
    ((k : Int) < N → M.left = N - k ∧ M.steps = k) ∧ (N ≤ k → M.left = 0 ∧ M.steps = N)
  refine ⟨I, (N + 3).toNat, ⟨0, _, rfl, by omega, by omega, f073, D73, rfl, fun h => ⟨by show N = N - ((0 : Nat) : Int); omega, rfl⟩, fun h => ⟨by show N = 0; omega, by show (0 : Int) = N; omega⟩⟩, fun m q w15 hI => ?_⟩
  obtain ⟨k, M, rfl, hk, hm, f15, D15, hMn, hlive, hdead⟩ := hI
  refine ⟨fun hlt => ?_, fun hge' => ?_⟩
  · have hlt : (k : Int) < N + 3 := of_decide_eq_true hlt
    intro y17 hy17 
    have hnext : IntKind.wrap .i64 ((k : Int) + 1) = ((k + 1 : Nat) : Int) := by rw [wrapi (by omega) (by omega)]; simp
    -- a step that answers as it is to
    have good : ∀ (c : Int) (M' : DM) (w19 : World), Fr [] w w19 → DiskAt w19 b ms mf M' → M'.n = 60 → ((k : Int) < N → c = 0 ∧ M'.left = N - (k + 1) ∧ M'.steps = k + 1) → (N ≤ k → c = 30 ∧ M'.left = 0 ∧ M'.steps = N) → y17 c w19 := fun c M' w19 f19 D19 hn19 h1 h2 => by
      refine hy17 _ _ fun y20 hy20 => ?_
      have next : y20 false w19 := hy20 _ _ (bF rfl ⟨m - 1, by omega, k + 1, M', hnext, by omega, by omega, f19, D19, hn19, fun h => ?_, fun h => ?_⟩)
      · by_cases hc : (k : Int) < N
        · obtain ⟨rfl, _⟩ := h1 hc
          exact bF (by simp [hc]) (bF (by simp) next)
        · obtain ⟨rfl, _⟩ := h2 (by omega)
          exact bF (by simp [hc]) (bT (by simp) next)
      · obtain ⟨_, a, b⟩ := h1 (by omega)
        exact ⟨by omega, by omega⟩
      · by_cases hc : (k : Int) < N
        · obtain ⟨_, a, b⟩ := h1 hc
          exact ⟨by omega, by omega⟩
        · obtain ⟨_, a, b⟩ := h2 (by omega)
          exact ⟨a, b⟩
    have stp : (k : Int) < N → M.stepped.left = N - (k + 1) ∧ M.stepped.steps = k + 1 ∧ ¬ M.dead := fun hc => by
      obtain ⟨a, b⟩ := hlive hc
      refine ⟨?_, ?_, ?_⟩
      · show (if 0 < M.left then M.left - 1 else M.left) = _
        rw [if_pos (by omega)]; omega
      · show IntKind.wrap .i64 (M.steps + 1) = _
        rw [b, wrapi (by omega) (by omega)]
      · intro h
        have h : M.left = 0 := h
        omega
    have ddd : N ≤ k → M.dead := fun hc => (hdead hc).1
    obtain ⟨q1, q2, q3, q4, q5⟩ := D15.bs
    intro y28 hy28
    have both : ∀ b29, y28 b29 w15 := fun b29 => by
      refine hy28 _ _ ⟨fun _ => (flush_c D15).mono ?_, fun _ k34 w35 st35 b35 => (bytes_c w35 (bs := ⟨#[9]⟩) (Row.all b35 (byteCells_one _))).mono ?_⟩
      · rintro e w32 ⟨rfl, f32, D32⟩
        refine ⟨_, rfl, good _ _ w32 (f15.trans f32 hW) D32 ?_ (fun hc => ?_) (fun hc => ?_)⟩
        · unfold DM.flush
          split
          · exact hMn
          · show (M.now.length : Int) = 60
            rw [D15.ok.now]; exact hMn
        · obtain ⟨a, b, c⟩ := stp hc
          have : M.flush = (M.flushed, 0) := by unfold DM.flush; rw [if_neg c]
          rw [this]; exact ⟨rfl, a, b⟩
        · have : M.flush = (M, 30) := by unfold DM.flush; rw [if_pos (ddd hc)]
          rw [this]; exact ⟨rfl, hdead hc⟩
      · rintro e w39 ⟨kb, rfl, zb, f39, bb⟩
        have z35 := st35.size
        refine ⟨_, _, _, rfl, (write_b ((D15.fr st35.fr (by simp)).fr f39 (by simp)) k bb (round_size _).symm (by simp; omega)).mono ?_⟩
        rintro e w44 ⟨rfl, f44, D44⟩
        refine ⟨_, rfl, good _ _ w44 (((f15.trans' st35.fr).trans' f39).trans f44 hW) D44 ?_ (fun hc => ?_) (fun hc => ?_)⟩
        · by_cases hc : (k : Int) < N
          · rw [write_live (by omega) (by omega) (round_size _) (stp hc).2.2]; exact hMn
          · rw [write_dead (by omega) (by omega) (round_size _) (ddd (by omega))]; exact hMn
        · obtain ⟨a, b, c⟩ := stp hc
          rw [write_live (by omega) (by omega) (round_size _) c]; exact ⟨rfl, a, b⟩
        · rw [write_dead (by omega) (by omega) (round_size _) (ddd hc)]; exact ⟨rfl, hdead hc⟩
    refine ⟨fun hl => ?_, fun _ => both false⟩
    have hl : (k : Int) < (fl.length : Int) := of_decide_eq_true hl
    have hr15 : Row w15 flA (fl.map .bool) := Row.fr f15 hr (fun ad _ => by simp)
    obtain ⟨ad, had⟩ := hr15.has (by simp; omega)
    refine ⟨ad, had, ⟨by omega, by omega⟩, fl[k]'(by omega), ?_, both _⟩
    have := hr15.get had (j := k) (u := .bool (fl[k]'(by omega))) (by rw [List.getElem?_map, List.getElem?_eq_getElem (by omega)]; rfl)
    simpa using this
  · have hge' : ¬ (k : Int) < N + 3 := of_decide_eq_false hge'
    obtain ⟨hl0, hst⟩ := hdead (by omega)
    have hdd : M.dead := hl0
    refine (read_c D15 59).mono ?_
    rintro e w51 ⟨_, h⟩
    obtain ⟨ka, sa, hsa, rfl, za, f51, ba⟩ := h (by rw [hMn]; omega)
    have D51 := D15.fr f51 (by simp)
    refine ⟨_, _, _, _, rfl, fun y56 hy56 => (steps_c D51).mono ?_⟩
    rintro e w62 ⟨e62, rfl⟩
    subst w62
    refine ⟨_, rfl, bT (by rw [hst]; simp) (bT (by simp) (bT (by simp) ((arm_c D51 (n := 5) (by omega)).mono ?_)))⟩
    have a5 : M.arm 5 = (M, 30) := by unfold DM.arm; rw [if_neg (by omega), if_pos hdd]
    rw [a5]
    rintro e w65 ⟨rfl, f65, D65⟩
    refine ⟨_, rfl, bT (by simp) ((arm_c D65 (n := -1) (by omega)).mono ?_)⟩
    have am : M.arm (-1) = (M, 1) := by unfold DM.arm; rw [if_pos (by omega)]
    rw [am]
    rintro e w68 ⟨rfl, f68, D68⟩
    have hW1 : ∀ x ∈ [b], x ∈ ([] : List Nat) ∨ w.heap.size ≤ x := fun x hx => hW x (by simp at hx; simp [hx])
    exact ⟨_, rfl, hy56 _ _ ⟨rfl, (((f15.trans' f51).trans f65 hW1).trans f68 hW1).below (Nat.le_refl _) (fun x hx => by cases hx)⟩⟩

end Go.Proofs.Ytcaamecdhbgknaa.Disk
