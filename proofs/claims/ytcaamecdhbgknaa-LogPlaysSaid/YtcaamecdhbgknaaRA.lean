/- Texts of this session's repo, laid together: R1 R2 R3 R4 R5 R6 R7 R8 P1 P2. -/
import Derived.Test.YtcaamecdhbgknaaLLast
import Derived.Test.YtcaamecdhbgknaaC3
import Derived.Test.YtcaamecdhbgknaaUA
section
/- The reference's disk, over the same model. -/
namespace Go.Proofs.Ytcaamecdhbgknaa.Disk
open Go Go.V
open Go.Proofs.Ytcaamecdhbgknaa.VC
open Go.Proofs.Try (prog)
set_option linter.unusedVariables false
set_option linter.unusedSimpArgs false
set_option maxRecDepth 20000

/-- The reference's value of a disk. -/
def rv (sA : Option Addr) (sC : Nat) (nA : Option Addr) (nC : Nat) (fA : Option Addr) (fC : Nat) (M : DM) : Value :=
  .agg #[.slice sA M.sure.length sC, .slice nA M.sure.length nC, .slice fA M.sure.length fC, I64 M.steps, I64 M.left]
/-- It stands for a model; none of its rows lies in the blocks F. -/
def RefAt (w : World) (v : Value) (F : List Nat) (M : DM) : Prop :=
  M.Ok ∧ ∃ sA sC nA nC fA fC, v = rv sA sC nA nC fA fC M ∧ Row w sA (M.sure.map .string) ∧ Row w nA (M.now.map .string) ∧ Row w fA (M.fresh.map .bool) ∧
    ∀ ad, sA = some ad ∨ nA = some ad ∨ fA = some ad → ad.block ∉ F
theorem RefAt.fr {F G : List Nat} {w w' : World} {v : Value} {M : DM} (h : RefAt w v F M) (hf : Fr G w w') (hG : ∀ x ∈ G, x ∈ F ∨ w.heap.size ≤ x) : RefAt w' v F M := by
  obtain ⟨hok, sA, sC, nA, nC, fA, fC, rfl, h1, h2, h3, h4⟩ := h
  have hf' : Fr F w w' := hf.mono hG
  exact ⟨hok, sA, sC, nA, nC, fA, fC, rfl, Row.fr hf' h1 (fun ad h => h4 ad (.inl h)), Row.fr hf' h2 (fun ad h => h4 ad (.inr (.inl h))), Row.fr hf' h3 (fun ad h => h4 ad (.inr (.inr h))), h4⟩

theorem zero_c (w : World) : Calls prog 61 #[] w fun e w' => e = .returned (.string zsec) ∧ Fr [] w w' := by
  refine rhizomeref03_zero.link (_u := ()) ⟨by decide, fun w1 k2 st hb => ?_⟩
  rw [← zsec_cells] at hb
  obtain ⟨h1, h2⟩ := str_of hb zsec_size
  exact ⟨_, h1, h2, by rw [← mk_str zsec], st.fr⟩

theorem rstep_c {w : World} {v : Value} {F : List Nat} {M : DM} (h : RefAt w v F M) : Calls prog 71 #[v] w fun e w' => ∃ v', e = .returned (.tuple #[v', .bool (!decide M.dead)]) ∧ Fr [] w w' ∧ RefAt w' v' F (if M.dead then M else M.stepped) := by
  obtain ⟨hok, sA, sC, nA, nC, fA, fC, rfl, h1, h2, h3, h4⟩ := h
  have key : ∀ w', Fr [] w w' → ∀ M', M'.sure = M.sure → M'.now = M.now → M'.fresh = M.fresh → M'.Ok → RefAt w' (rv sA sC nA nC fA fC M') F M' := fun w' hf M' e1 e2 e3 hok' =>
    ⟨hok', sA, sC, nA, nC, fA, fC, rfl, by rw [e1]; exact Row.fr hf h1 (fun ad _ => by simp), by rw [e2]; exact Row.fr hf h2 (fun ad _ => by simp), by rw [e3]; exact Row.fr hf h3 (fun ad _ => by simp), h4⟩
  have hlft := hok.lft
  refine rhizomeref03_step.link fun k1 k2 => ⟨fun h0 w3 st => ?_, fun h0 y5 hy5 => ?_⟩
  · have hd : M.dead := of_decide_eq_true h0
    rw [if_pos hd]
    exact ⟨_, by simp only [decide_eq_true hd]; rfl, st.fr, key w3 st.fr M rfl rfl rfl hok⟩
  · have hd : ¬ M.dead := of_decide_eq_false h0
    have fin : ∀ w17, Step w w17 [] [k2, k1] → y5 sA M.sure.length sC nA M.sure.length nC fA M.sure.length fC M.steps M.stepped.left w17 := fun w17 st => by
      refine hy5 _ _ _ _ _ _ _ _ _ _ _ _ fun w18 st2 => ?_
      have f : Fr [] w w18 := st.fr.trans st2.fr (fun x hx => .inr (st.new x hx).1)
      rw [if_neg hd]
      exact ⟨_, by simp only [decide_eq_false hd]; rfl, f, key w18 f M.stepped rfl rfl rfl hok.stepped⟩
    refine ⟨fun hp w22 st => ?_, fun hp w24 st => ?_⟩
    · have hp : 0 < M.left := of_decide_eq_true hp
      have e : IntKind.wrap .i64 (M.left - 1) = M.stepped.left := by
        show _ = if 0 < M.left then M.left - 1 else M.left
        rw [if_pos hp, wrapi (by omega) (by omega)]
      rw [e]; exact fin w22 st
    · have hp : ¬ 0 < M.left := of_decide_eq_false hp
      have e : M.left = M.stepped.left := by
        show _ = if 0 < M.left then M.left - 1 else M.left
        rw [if_neg hp]
      have := fin w24 st
      rw [← e] at this
      exact this

theorem rarm_c {w : World} {v : Value} {F : List Nat} {M : DM} (h : RefAt w v F M) {n : Int} (hn : n < 9223372036854775808) : Calls prog 45 #[v, I64 n] w fun e w' => ∃ v', e = .returned (.tuple #[v', I64 (M.arm n).2]) ∧ Fr [] w w' ∧ RefAt w' v' F (M.arm n).1 := by
  obtain ⟨hok, sA, sC, nA, nC, fA, fC, rfl, h1, h2, h3, h4⟩ := h
  have key : ∀ w', Fr [] w w' → ∀ M', M'.sure = M.sure → M'.now = M.now → M'.fresh = M.fresh → M'.Ok → RefAt w' (rv sA sC nA nC fA fC M') F M' := fun w' hf M' e1 e2 e3 hok' =>
    ⟨hok', sA, sC, nA, nC, fA, fC, rfl, by rw [e1]; exact Row.fr hf h1 (fun ad _ => by simp), by rw [e2]; exact Row.fr hf h2 (fun ad _ => by simp), by rw [e3]; exact Row.fr hf h3 (fun ad _ => by simp), h4⟩
  refine rhizomeref03_Arm.link fun k1 k2 => ⟨fun h0 w3 st => ?_, fun h0 => ⟨fun hd w5 st => ?_, fun hd w7 st => ?_⟩⟩
  · have e : M.arm n = (M, 1) := by unfold DM.arm; rw [if_pos (of_decide_eq_true h0)]
    rw [e]; exact ⟨_, rfl, st.fr, key w3 st.fr M rfl rfl rfl hok⟩
  · have e : M.arm n = (M, 30) := by unfold DM.arm; rw [if_neg (of_decide_eq_false h0), if_pos (show M.dead from of_decide_eq_true hd)]
    rw [e]; exact ⟨_, rfl, st.fr, key w5 st.fr M rfl rfl rfl hok⟩
  · have h0 : ¬ n < 0 := of_decide_eq_false h0
    have e : M.arm n = ({ M with left := n }, 0) := by unfold DM.arm; rw [if_neg h0, if_neg (show ¬ M.dead from of_decide_eq_false hd)]
    rw [e]; exact ⟨_, rfl, st.fr, key w7 st.fr { M with left := n } rfl rfl rfl ⟨hok.lo, hok.hi, hok.now, hok.fre, hok.s64, hok.w64, hok.same, by show -1 ≤ n ∧ n < _; omega⟩⟩

end Go.Proofs.Ytcaamecdhbgknaa.Disk

end
section
/- The reference's disk: making all sure. -/
namespace Go.Proofs.Ytcaamecdhbgknaa.Disk
open Go Go.V
open Go.Proofs.Ytcaamecdhbgknaa.VC
open Go.Proofs.Try (prog)
set_option linter.unusedVariables false
set_option linter.unusedSimpArgs false
set_option maxRecDepth 20000

theorem RefAt.more {w : World} {v : Value} {F G : List Nat} {M : DM} (h : RefAt w v F M) (hG : ∀ x ∈ G, w.heap.size ≤ x) : RefAt w v (F ++ G) M := by
  obtain ⟨hok, sA, sC, nA, nC, fA, fC, rfl, h1, h2, h3, h4⟩ := h
  refine ⟨hok, sA, sC, nA, nC, fA, fC, rfl, h1, h2, h3, fun ad hp hm => ?_⟩
  have hlo := hok.lo
  rcases List.mem_append.1 hm with hm | hm
  · exact h4 ad hp hm
  · have hz := hG _ hm
    have : ad.block < w.heap.size := by
      rcases hp with rfl | rfl | rfl
      · exact Row.lt h1 (by rw [List.length_map]; omega)
      · exact Row.lt h2 (by rw [List.length_map, hok.now]; omega)
      · exact Row.lt h3 (by rw [List.length_map, hok.fre]; omega)
    omega
theorem RefAt.less {w : World} {v : Value} {F G : List Nat} {M : DM} (h : RefAt w v G M) (hG : ∀ x ∈ F, x ∈ G) : RefAt w v F M := by
  obtain ⟨hok, sA, sC, nA, nC, fA, fC, rfl, h1, h2, h3, h4⟩ := h
  exact ⟨hok, sA, sC, nA, nC, fA, fC, rfl, h1, h2, h3, fun ad hp hm => h4 ad hp (hG _ hm)⟩

theorem rflush_c {w : World} {v : Value} {F : List Nat} {M : DM} (h : RefAt w v F M) (hF : ∀ x ∈ F, x < w.heap.size) : Calls prog 62 #[v] w fun e w' => ∃ v', e = .returned (.tuple #[v', I64 M.flush.2]) ∧ Fr [] w w' ∧ RefAt w' v' F M.flush.1 := by
  have h0 := h
  obtain ⟨hok, sA, sC, nA, nC, fA, fC, rfl, h1, h2, h3, h4⟩ := h
  refine rhizomeref03_Flush.link fun k1 k2 w3 st => ?_
  have a1 := st.new k1 (by simp)
  have a2 := st.new k2 (by simp)
  have z3 := st.size
  have h' : RefAt w3 (rv sA sC nA nC fA fC M) (F ++ [k1, k2]) M := (h0.more (G := [k1, k2]) (fun x hx => by simp at hx; rcases hx with rfl | rfl <;> omega)).fr st.fr (by simp)
  refine (rstep_c h').mono ?_
  rintro e w6 ⟨v', rfl, f6, hR⟩
  have hR0 := hR
  obtain ⟨hok6, sA6, sC6, nA6, nC6, fA6, fC6, rfl, g1, g2, g3, g4⟩ := hR
  have z6 := f6.size
  have f06 : Fr [] w w6 := st.fr.trans' f6
  refine ⟨_, _, _, _, _, _, _, _, _, _, _, _, rfl, fun x hx => f6.blk x (by simp at hx; rcases hx with rfl | rfl <;> omega) (by simp), ?_⟩
  have back : ∀ w' : World, ∀ G : List Nat, (∀ x ∈ G, x = k1 ∨ x = k2) → Fr G w6 w' → Fr [] w w' := fun w' G hG hf => f06.trans hf (fun x hx => .inr (by rcases hG x hx with rfl | rfl <;> omega))
  by_cases hd : M.dead
  · have e : M.flush = (M, 30) := by unfold DM.flush; rw [if_pos hd]
    rw [e]
    rw [if_pos hd] at hR0 ⊢
    refine bT (by simp [hd]) fun w19 st2 => ⟨_, rfl, back w19 _ (fun x hx => by simp at hx; omega) st2.fr, ?_⟩
    exact (hR0.fr st2.fr (fun x hx => .inl (by simp at hx ⊢; omega))).less (fun x hx => List.mem_append_left _ hx)
  · have e : M.flush = (M.flushed, 0) := by unfold DM.flush; rw [if_neg hd]
    rw [e]
    rw [if_neg hd] at hR0 g1 g2 g3 hok6 ⊢
    have hlo := hok.lo
    have hhi := hok.hi
    have g2' : Row w6 nA6 (M.now.map .string) := g2
    refine bF (by simp [hd]) fun k21 w22 st2 b21 => ⟨M.now.map .string, ?_, ?_, ?_⟩
    · rw [List.length_map, hok.now, Nat.mul_one]; rfl
    · exact Row.fr st2.fr g2' (fun ad hp hm => g4 ad (.inr (.inl hp)) (by simp at hm ⊢; exact .inr (.inl hm)))
    · have a21 := st2.new k21 (by simp)
      have hn : M.stepped.sure.length = M.sure.length := rfl
      have z22 := st2.size
      refine ⟨by rw [hn]; omega, by rw [hn]; omega, fun hc => by rw [hn] at hc; omega, fun hc => ⟨[], rfl, Row.nil _ _, fun b _ hm => by simp at hm, fun w26 kb cap st3 hcap b26 => ?_⟩⟩
      rw [hn] at hcap b26
      refine ⟨⟨by rw [hn]; omega, Int.le_refl _, by rw [hn]; omega, by rw [hn]; omega⟩, fun w30 k31 st4 b30 w34 st5 => ?_⟩
      have akb := st3.new kb (by simp)
      have a31 := st4.new k31 (by simp)
      have z26 := st3.size
      have z30 := st4.size
      have F0 : Fr [k1, k2] w6 w34 := (((st2.fr.mono (G := [k1, k2]) (fun x hx => .inl (by simp at hx ⊢; omega))).trans st3.fr (fun x hx => by cases hx)).trans st4.fr (fun x hx => .inl (by simp at hx ⊢; omega))).trans st5.fr (fun x hx => .inl (by simp at hx ⊢; omega))
      have fbk : Fr [k1, k2] w26 w34 := (st4.fr.mono (G := [k1, k2]) (fun x hx => .inl (by simp at hx ⊢; omega))).trans st5.fr (fun x hx => .inl (by simp at hx ⊢; omega))
      refine ⟨rv (some ⟨kb, 0, none⟩) cap nA6 nC6 (some ⟨k31, 0, none⟩) M.sure.length M.flushed, ?_, back w34 _ (fun x hx => by simpa using hx) F0, hok.flushed, _, _, _, _, _, _, rfl, ?_, ?_, ?_, ?_⟩
      · show Ending.returned (.tuple #[.agg #[.slice (some ⟨kb, 0, none⟩) (0 + M.sure.length) cap, .slice nA6 M.sure.length nC6, .slice (some ⟨k31, 0, none⟩) M.sure.length M.sure.length, I64 M.stepped.steps, I64 M.stepped.left], I64 0]) = _
        rw [Nat.zero_add]
        unfold rv
        rw [show M.flushed.sure.length = M.sure.length from hok.now]
        rfl
      · exact Row.fr fbk (row_prefix b26 rfl (strs_one _)) (fun ad hp hm => by injection hp with hp; subst hp; simp at hm; omega)
      · exact Row.fr F0 g2' (fun ad hp hm => g4 ad (.inr (.inl hp)) (by simp at hm ⊢; omega))
      · have b30' : Blk w30 k31 (M.flushed.fresh.map .bool) := by
          have e : (M.flushed.fresh.map Value.bool) = reps [.bool false] M.sure.length := by
            rw [reps_one]; exact List.map_replicate
          rw [e]; exact b30
        exact Row.fr st5.fr (Row.all b30' (bools_one _)) (fun ad hp hm => by injection hp with hp; subst hp; simp at hm; omega)
      · rintro ad (hp | hp | hp) hm
        · injection hp with hp; subst hp
          have := hF _ hm
          have := f06.size
          have : kb < w.heap.size := hF _ hm
          omega
        · exact g4 ad (.inr (.inl hp)) (List.mem_append_left _ hm)
        · injection hp with hp; subst hp
          have : k31 < w.heap.size := hF _ hm
          have := f06.size
          omega

end Go.Proofs.Ytcaamecdhbgknaa.Disk

end
section
/- The reference's disk: writing. -/
namespace Go.Proofs.Ytcaamecdhbgknaa.Disk
open Go Go.V
open Go.Proofs.Ytcaamecdhbgknaa.VC
open Go.Proofs.Try (prog)
set_option linter.unusedVariables false
set_option linter.unusedSimpArgs false
set_option maxRecDepth 20000

/-- Appending to an empty row that has no room. -/
theorem append_new {privs : List Nat} {w : World} {k n bytes : Nat} {xs z : List Value} {K : World → Option Addr → Nat → Nat → Prop} (hn : 0 < n) (hn2 : n ≤ 4096) (hb : bytes ≤ 16)
    (h : ∀ w' b cap, Fr [] w w' → w.heap.size ≤ b → b < w'.heap.size → n ≤ cap → Blk w' b (xs ++ reps z (cap - n)) → K w' (some ⟨b, 0, none⟩) n cap) : appendP true [] [] privs w (some ⟨k, 0, none⟩) 0 0 n xs 1 bytes z K := by
  have hm : n * bytes ≤ 4096 * 16 := Nat.mul_le_mul hn2 hb
  refine ⟨by rw [Nat.zero_add]; omega, by omega, fun hc => by omega, fun _ => ⟨[], rfl, Row.nil _ _, fun b _ hm => by simp at hm, fun w' b cap st hc hbk => ?_⟩⟩
  rw [Nat.zero_add] at hc hbk ⊢
  rw [List.nil_append] at hbk
  have a := st.new b (by simp)
  exact h w' b cap st.fr a.1 a.2 hc hbk

theorem rwrite_c {w : World} {v : Value} {F : List Nat} {M : DM} (h : RefAt w v F M) (hF : ∀ x ∈ F, x < w.heap.size) (i : Int) (s : ByteArray) : Calls prog 38 #[v, I64 i, .string s] w fun e w' => ∃ v', e = .returned (.tuple #[v', I64 (M.write i s).2]) ∧ Fr [] w w' ∧ RefAt w' v' F (M.write i s).1 := by
  have h0 := h
  obtain ⟨hok, sA, sC, nA, nC, fA, fC, rfl, h1, h2, h3, h4⟩ := h
  have hlo := hok.lo
  have hhi := hok.hi
  refine rhizomeref03_Write.link fun k1 k2 y3 hy3 => ?_
  have bad : ∀ w5, Step w w5 [] [k2, k1] → M.write i s = (M, 1) → y3 true w5 := fun w5 st e => by
    have a1 := st.new k1 (by simp)
    have a2 := st.new k2 (by simp)
    refine hy3 _ _ (bT rfl fun w6 st2 => ?_)
    rw [e]
    have f6 : Fr [] w w6 := st.fr.trans st2.fr (fun x hx => .inr (by simp at hx; omega))
    exact ⟨_, rfl, f6, h0.fr f6 (by simp)⟩
  have good : ∀ w5, Step w w5 [] [k2, k1] → 0 ≤ i → i < M.n → s.size = 64 → y3 false w5 := fun w5 st i0 i1 hs => by
    have a1 := st.new k1 (by simp)
    have a2 := st.new k2 (by simp)
    have z5 := st.size
    have h' : RefAt w5 (rv sA sC nA nC fA fC M) (F ++ [k1, k2]) M := (h0.more (G := [k1, k2]) (fun x hx => by simp at hx; rcases hx with rfl | rfl <;> omega)).fr st.fr (by simp)
    refine hy3 _ _ (bF rfl ((rstep_c h').mono ?_))
    rintro e w9 ⟨v', rfl, f9, hR⟩
    have hR0 := hR
    obtain ⟨hok6, sA6, sC6, nA6, nC6, fA6, fC6, rfl, g1, g2, g3, g4⟩ := hR
    have z9 := f9.size
    have f09 : Fr [] w w9 := st.fr.trans' f9
    refine ⟨_, _, _, _, _, _, _, _, _, _, _, _, rfl, fun x hx => f9.blk x (by simp at hx; rcases hx with rfl | rfl <;> omega) (by simp), ?_⟩
    have back : ∀ w' : World, Fr [k1, k2] w9 w' → Fr [] w w' := fun w' hf => f09.trans hf (fun x hx => .inr (by simp at hx; rcases hx with rfl | rfl <;> omega))
    by_cases hd : M.dead
    · rw [write_dead i0 i1 hs hd]
      rw [if_pos hd] at hR0 ⊢
      refine bT (by simp [hd]) fun w22 st2 => ⟨_, rfl, back w22 (st2.fr.mono (fun x hx => .inl (by simp at hx ⊢; omega))), ?_⟩
      exact (hR0.fr st2.fr (fun x hx => .inl (by simp at hx ⊢; omega))).less (fun x hx => List.mem_append_left _ hx)
    · rw [write_live i0 i1 hs hd]
      rw [if_neg hd] at hR0 g1 g2 g3 hok6 ⊢
      have hn : M.stepped.sure.length = M.sure.length := rfl
      have g1' : Row w9 sA6 (M.sure.map .string) := g1
      have g2' : Row w9 nA6 (M.now.map .string) := g2
      have g3' : Row w9 fA6 (M.fresh.map .bool) := g3
      have hi : i.toNat < M.sure.length := by
        have : i < (M.sure.length : Int) := i1
        omega
      refine bF (by simp [hd]) fun k24 w25 st2 b24 => ⟨M.now.map .string, ?_, ?_, ?_⟩
      · rw [List.length_map, hok.now, Nat.mul_one]; rfl
      · exact Row.fr st2.fr g2' (fun ad hp hm => g4 ad (.inr (.inl hp)) (by simp at hm ⊢; exact .inr (.inl hm)))
      rw [hn]
      refine append_new (by omega) (by omega) (by omega) fun w29 kn capn f29 zn1 zn2 hcn bn k33 w34 st3 b33 => ⟨M.fresh.map .bool, ?_, ?_, ?_⟩
      · rw [List.length_map, hok.fre, Nat.mul_one]
      · have F34 : Fr [k1] w9 w34 := (st2.fr.trans f29 (fun x hx => by cases hx)).trans' st3.fr
        exact Row.fr F34 g3' (fun ad hp hm => g4 ad (.inr (.inr hp)) (by simp at hm ⊢; exact .inr (.inl hm)))
      refine append_new (by omega) (by omega) (by omega) fun w38 kf capf f38 zf1 zf2 hcf bf => ?_
      have ei : 0 + i.toNat * 1 = i.toNat := by omega
      have z25 := st2.size
      have z29 := f29.size
      have z34 := st3.size
      have z38 := f38.size
      refine ⟨⟨kn, 0, none⟩, rfl, ⟨i0, i1⟩, fun w43 st4 => ⟨M.now.map .string ++ reps [.string ⟨⟨[]⟩⟩] (capn - M.sure.length), ?_, ?_, ?_, ?_, fun w46 hu => ⟨⟨kf, 0, none⟩, rfl, ⟨i0, i1⟩, M.fresh.map .bool ++ reps [.bool false] (capf - M.sure.length), ?_, ?_, ?_, ?_, fun w50 hu2 w52 st5 => ?_⟩⟩⟩
      have bn43 : Blk w43 kn (M.now.map .string ++ reps [.string ⟨⟨[]⟩⟩] (capn - M.sure.length)) := ((bn.fr st3.fr (by simp; omega)).fr f38 (by simp)).fr st4.fr (by simp; omega)
      · rw [add_block]; exact bn43
      · rw [add_mk]
      · rw [add_mk, List.length_append, List.length_map, hok.now, ei]; show i.toNat + 1 ≤ _; omega
      · rw [add_block]; simp; omega
      · rw [add_block] at hu ⊢
        have hkk : kf ≠ kn := by omega
        exact (bf.fr st4.fr (by simp; omega)).fr hu.fr (by simpa using hkk)
      · rw [add_mk]
      · rw [add_mk, List.length_append, List.length_map, hok.fre, ei]; show i.toNat + 1 ≤ _; omega
      · rw [add_block]; simp; omega
      · rw [add_block] at hu hu2
        have hkk : kf ≠ kn := by omega
        have z43 := st4.size
        have z46 := hu.size
        have z50 := hu2.size
        have G0 : Fr [k1, k2] w9 w43 := ((((st2.fr.mono (G := [k1, k2]) (fun x hx => .inl (by simp at hx ⊢; omega))).trans f29 (fun x hx => by cases hx)).trans st3.fr (fun x hx => .inl (by simp at hx ⊢; omega))).trans f38 (fun x hx => by cases hx)).trans st4.fr (fun x hx => .inl (by simp at hx ⊢; omega))
        have G1 : Fr [k1, k2] w9 w52 := ((G0.trans hu.fr (fun x hx => .inr (by simp at hx; omega))).trans hu2.fr (fun x hx => .inr (by simp at hx; omega))).trans st5.fr (fun x hx => .inl (by simp at hx ⊢; omega))
        have bn52 := ((hu.blk).fr hu2.fr (by simpa using hkk.symm)).fr st5.fr (by simp; omega)
        have bf52 := (hu2.blk).fr st5.fr (by simp; omega)
        rw [add_mk] at bn52 bf52
        have en : sets (M.now.map Value.string ++ reps [.string ⟨⟨[]⟩⟩] (capn - M.sure.length)) (0 + i.toNat * 1) [.string s] = (M.now.set i.toNat s).map .string ++ reps [.string ⟨⟨[]⟩⟩] (capn - M.sure.length) := by
          show List.set _ _ _ = _
          rw [ei, List.set_append_left _ _ (by rw [List.length_map, hok.now]; exact hi), List.map_set]
        have ef : sets (M.fresh.map Value.bool ++ reps [.bool false] (capf - M.sure.length)) (0 + i.toNat * 1) [.bool true] = (M.fresh.set i.toNat true).map .bool ++ reps [.bool false] (capf - M.sure.length) := by
          show List.set _ _ _ = _
          rw [ei, List.set_append_left _ _ (by rw [List.length_map, hok.fre]; exact hi), List.map_set]
        have bn52' : Blk w52 kn ([] ++ (M.now.set i.toNat s).map .string ++ reps [.string ⟨⟨[]⟩⟩] (capn - M.sure.length)) := by rw [List.nil_append, ← en]; exact bn52
        have bf52' : Blk w52 kf ([] ++ (M.fresh.set i.toNat true).map .bool ++ reps [.bool false] (capf - M.sure.length)) := by rw [List.nil_append, ← ef]; exact bf52
        refine ⟨rv sA6 sC6 (some ⟨kn, 0, none⟩) capn (some ⟨kf, 0, none⟩) capf (M.wrote i.toNat s), rfl, back w52 G1, hok.wrote hi hs, _, _, _, _, _, _, rfl, ?_, row_prefix bn52' rfl (strs_one _), row_prefix bf52' rfl (bools_one _), ?_⟩
        · exact Row.fr G1 g1' (fun ad hp hm => g4 ad (.inl hp) (List.mem_append_right _ hm))
        · have zz := f09.size
          rintro ad (hp | hp | hp) hm
          · exact g4 ad (.inl hp) (List.mem_append_left _ hm)
          · injection hp with hp; subst hp
            have : kn < w.heap.size := hF _ hm
            omega
          · injection hp with hp; subst hp
            have : kf < w.heap.size := hF _ hm
            omega
  refine ⟨fun hlt w56 st => bad w56 st ?_, fun hge => ⟨fun hle w58 st => bad w58 st ?_, fun hgt w60 st => ?_⟩⟩
  · have := of_decide_eq_true hlt
    unfold DM.write; rw [if_pos (.inl this)]
  · have : (M.sure.length : Int) ≤ i := of_decide_eq_true hle
    unfold DM.write; rw [if_pos (.inr (.inl this))]
  · have hge : ¬ i < 0 := of_decide_eq_false hge
    have hgt : ¬ (M.sure.length : Int) ≤ i := of_decide_eq_false hgt
    by_cases hs : s.size = 64
    · have : (!decide ((s.size : Int) = 64)) = false := by simp [hs]
      rw [this]
      exact good w60 st (by omega) (by show i < (M.sure.length : Int); omega) hs
    · have : (!decide ((s.size : Int) = 64)) = true := by
        have : ¬ (s.size : Int) = 64 := by omega
        simp [this]
      rw [this]
      refine bad w60 st ?_
      unfold DM.write; rw [if_pos (.inr (.inr hs))]

end Go.Proofs.Ytcaamecdhbgknaa.Disk

end
section
/- The reference's disk: what is not sure. -/
namespace Go.Proofs.Ytcaamecdhbgknaa.Disk
open Go Go.V
open Go.Proofs.Ytcaamecdhbgknaa.VC
open Go.Proofs.Try (prog)
set_option linter.unusedVariables false
set_option linter.unusedSimpArgs false
set_option maxRecDepth 20000

def DM.unsureTo (M : DM) (k : Nat) : List Int := ((List.range k).filter fun i => decide (M.fresh[i]? = some true)).map Int.ofNat
theorem DM.unsureTo_succ (M : DM) (k : Nat) : M.unsureTo (k + 1) = if M.fresh[k]? = some true then M.unsureTo k ++ [(k : Int)] else M.unsureTo k := by
  unfold DM.unsureTo
  rw [List.range_succ, List.filter_append, List.map_append]
  split
  · rename_i h; simp [h]
  · rename_i h; simp [h]
theorem DM.unsureTo_len (M : DM) (k : Nat) : (M.unsureTo k).length ≤ k := by
  unfold DM.unsureTo
  rw [List.length_map]
  exact Nat.le_trans (List.length_filter_le _ _) (by simp)

theorem runsure_c {w : World} {v : Value} {F : List Nat} {M : DM} (h : RefAt w v F M) : Calls prog 64 #[v] w fun e w' => ∃ p c, e = .returned (.slice p M.unsure.length c) ∧ Fr [] w w' ∧ Row w' p (M.unsure.map I64) ∧ ∀ ad, p = some ad → w.heap.size ≤ ad.block := by
  obtain ⟨hok, sA, sC, nA, nC, fA, fC, rfl, h1, h2, h3, h4⟩ := h
  have hhi := hok.hi
  refine rhizomeref03_Unsure.link fun k1 => ?_
  let I : Nat → Option Addr → Nat → Nat → Int → World → Prop := fun m p l c q w' => ∃ k : Nat, q = k ∧ k ≤ M.sure.length ∧ m = M.sure.length - k ∧ Own w' w.heap.size p l c ((M.unsureTo k).map I64) ∧ Fr [] w w' ∧ w.heap.size ≤ k1 ∧ k1 < w'.heap.size ∧ ∀ ad, p = some ad → k1 ≠ ad.block
  refine ⟨I, M.sure.length, fun w4 st => ⟨0, rfl, by omega, rfl, Own.nil _ _, st.fr, (st.new k1 (by simp)).1, (st.new k1 (by simp)).2, fun ad h => by cases h⟩, fun m p l c q w11 hI => ?_⟩
  obtain ⟨k, rfl, hk, rfl, hown, hf, hk1, hk1', hne⟩ := hI
  have z := hf.size
  refine ⟨fun hlt y13 hy13 => ?_, fun hge => ?_⟩
  · have hlt : (k : Int) < (M.sure.length : Int) := of_decide_eq_true hlt
    have hkf : k < M.fresh.length := by rw [hok.fre]; omega
    have hnext : IntKind.wrap .i64 ((k : Int) + 1) = ((k + 1 : Nat) : Int) := by rw [wrapi (by omega) (by omega)]; simp
    have hr11 : Row w11 fA (M.fresh.map .bool) := Row.fr hf h3 (fun ad _ => by simp)
    obtain ⟨ad, had⟩ := hr11.has (by rw [List.length_map]; omega)
    have hg := List.getElem?_eq_getElem hkf
    have hul := M.unsureTo_len k
    have hll : l = (M.unsureTo k).length := by have := hown.1; rw [List.length_map] at this; exact this.symm
    refine ⟨ad, had, ⟨by omega, by omega⟩, M.fresh[k], ?_, fun hb k23 => ?_, fun hb => ?_⟩
    · have := hr11.get had (j := k) (u := .bool M.fresh[k]) (by rw [List.getElem?_map, hg]; rfl)
      simpa using this
    · refine append_own hown rfl z (fun ad hp => ⟨by simp, fun y hy => ?_⟩) (by omega) (by omega) fun w' p' c' f' hnews hown' hp' => ?_
      · simp at hy
        rcases hy with rfl | rfl
        · exact .inr (hne ad hp)
        · exact .inl (by simp)
      · have hz := f'.size
        refine hy13 _ _ _ _ ⟨M.sure.length - (k + 1), by omega, k + 1, hnext, by omega, rfl, ?_, ?_, hk1, by omega, fun ad hp => ?_⟩
        · rw [DM.unsureTo_succ, if_pos (by rw [hg, hb]), List.map_append]; exact hown'
        · refine hf.trans f' (fun x hx => .inr ?_)
          cases p with
          | none => simp at hx
          | some a =>
            simp at hx
            obtain ⟨_, _, _, ⟨h, _⟩ | ⟨b, zs, h, hB, _, _⟩⟩ := hown
            · cases h
            · injection h with h; subst h; rw [hx]; exact hB
        · rcases hp' ad hp with e | ⟨e, _⟩
          · exact hne ad e.symm
          · omega
    · refine hy13 _ _ _ _ ⟨M.sure.length - (k + 1), by omega, k + 1, hnext, by omega, rfl, ?_, hf, hk1, hk1', hne⟩
      rw [DM.unsureTo_succ, if_neg (by rw [hg, hb]; simp)]; exact hown
  · have hge : ¬ (k : Int) < (M.sure.length : Int) := of_decide_eq_false hge
    have hkk : k = M.sure.length := by omega
    subst hkk
    have hl : l = M.unsure.length := by have := hown.1; rw [List.length_map] at this; exact this.symm
    refine ⟨p, c, by rw [hl], hf, hown.row, fun ad hp => ?_⟩
    obtain ⟨_, _, _, ⟨h, _⟩ | ⟨b, zs, h, hB, _, _⟩⟩ := hown
    · rw [h] at hp; cases hp
    · rw [h] at hp; injection hp with hp; subst hp; exact hB

end Go.Proofs.Ytcaamecdhbgknaa.Disk

end
section
/- Rows of ints are alike. -/
namespace Go.Proofs.Ytcaamecdhbgknaa.Disk
open Go Go.V
open Go.Proofs.Ytcaamecdhbgknaa.VC
open Go.Proofs.Try (prog)
set_option linter.unusedVariables false
set_option linter.unusedSimpArgs false
set_option maxRecDepth 20000

theorem ints_c {w : World} {aA bA : Option Addr} {aC bC : Nat} {xs : List Int} (ha : Row w aA (xs.map I64)) (hb : Row w bA (xs.map I64)) (hlen : xs.length ≤ 4096) :
    Calls prog 63 #[.slice aA xs.length aC, .slice bA xs.length bC] w fun e w' => e = .returned (.bool true) ∧ Fr [] w w' := by
  refine rhizomeref01_Ints.link (bF (by simp) ?_)
  let I : Nat → Int → World → Prop := fun m q w' => ∃ k : Nat, q = k ∧ k ≤ xs.length ∧ m = xs.length - k ∧ Fr [] w w'
  refine ⟨I, xs.length, ⟨0, rfl, by omega, rfl, Fr.refl _ _⟩, fun m q w5 hI => ?_⟩
  obtain ⟨k, rfl, hk, rfl, hf⟩ := hI
  refine ⟨fun hlt => ?_, fun hge => ⟨rfl, hf⟩⟩
  have hlt : (k : Int) < (xs.length : Int) := of_decide_eq_true hlt
  have hkl : k < xs.length := by omega
  have hg : (xs.map I64)[k]? = some (I64 xs[k]) := by rw [List.getElem?_map, List.getElem?_eq_getElem hkl]; rfl
  have ha5 : Row w5 aA (xs.map I64) := Row.fr hf ha (fun ad _ => by simp)
  have hb5 : Row w5 bA (xs.map I64) := Row.fr hf hb (fun ad _ => by simp)
  obtain ⟨a1, e1⟩ := ha5.has (by rw [List.length_map]; omega)
  obtain ⟨b1, e2⟩ := hb5.has (by rw [List.length_map]; omega)
  have e0 : (k : Int).toNat * 1 = k := by omega
  refine ⟨a1, e1, ⟨by omega, by omega⟩, xs[k], by rw [e0]; exact ha5.get e1 hg, b1, e2, ⟨by omega, by omega⟩, xs[k], by rw [e0]; exact hb5.get e2 hg, bF (by simp) ⟨xs.length - (k + 1), by omega, fun w14 st => ⟨k + 1, by rw [wrapi (by omega) (by omega)]; simp, by omega, rfl, hf.trans' st.fr⟩⟩⟩

end Go.Proofs.Ytcaamecdhbgknaa.Disk

end
section
/- The reference's disk: a crash. -/
namespace Go.Proofs.Ytcaamecdhbgknaa.Disk
open Go Go.V
open Go.Proofs.Ytcaamecdhbgknaa.VC
open Go.Proofs.Try (prog)
set_option linter.unusedVariables false
set_option linter.unusedSimpArgs false
set_option maxRecDepth 20000

theorem extract_tear {x y : ByteArray} {c : Nat} (hx : x.size = 64) (hy : y.size = 64) (hc : c ≤ 64) : x.extract 0 c ++ y.extract c 64 = tear c x y := by
  apply byteCells_inj
  rw [tear_cells]
  have hx' : x.data.size = 64 := hx
  have hy' : y.data.size = 64 := hy
  have e : (x.extract 0 c ++ y.extract c 64).data.toList = x.data.toList.take c ++ y.data.toList.drop c := by
    rw [ByteArray.data_append, ByteArray.data_extract, ByteArray.data_extract, Array.toList_append, Array.toList_extract, Array.toList_extract]
    simp only [List.extract_eq_take_drop, List.drop_zero, Nat.sub_zero]
    rw [List.take_of_length_le (l := List.drop c y.data.toList) (by rw [List.length_drop, Array.length_toList]; omega)]
  unfold byteCells
  rw [e, List.map_append, List.map_take, List.map_drop]
theorem DM.rank_succ (M : DM) (i : Nat) : M.rank (i + 1) = if M.fresh[i]? = some true then M.rank i + 1 else M.rank i := by
  unfold DM.rank
  rw [List.range_succ, List.filter_append, List.length_append]
  split
  · rename_i h; simp [h]
  · rename_i h; simp [h]

end Go.Proofs.Ytcaamecdhbgknaa.Disk

end
section
/- The reference's disk: what a crash leaves. -/
namespace Go.Proofs.Ytcaamecdhbgknaa.Disk
open Go Go.V
open Go.Proofs.Ytcaamecdhbgknaa.VC
open Go.Proofs.Try (prog)
set_option linter.unusedVariables false
set_option linter.unusedSimpArgs false
set_option maxRecDepth 20000

/-- What a crash leaves of a sector. -/
def DM.leftOf (M : DM) (keep : List Bool) (torn cut : Int) (i : Nat) : ByteArray := if M.fresh[i]? = some true then M.pick keep torn cut (M.rank i) i else M.sureAt i
theorem DM.crash_take {M : DM} {keep : List Bool} {torn cut : Int} {i : Nat} (hi : i < M.sure.length) : (M.crash keep torn cut).sure.take (i + 1) = (M.crash keep torn cut).sure.take i ++ [M.leftOf keep torn cut i] := by
  rw [List.take_add_one]
  congr 1
  show (((List.range M.sure.length).map fun i => if M.fresh[i]? = some true then M.pick keep torn cut (M.rank i) i else M.sureAt i)[i]?).toList = _
  rw [List.getElem?_map, List.getElem?_range hi]
  rfl

theorem rcrash_c {w : World} {v : Value} {F : List Nat} {M : DM} (h : RefAt w v F M) (hF : ∀ x ∈ F, x < w.heap.size) {keepA : Option Addr} {keepC : Nat} {keep : List Bool} (hkeep : Row w keepA (keep.map .bool)) (torn cut : Int) :
    Calls prog 46 #[v, .slice keepA keep.length keepC, I64 torn, I64 cut] w fun e w' => ∃ v', e = .returned v' ∧ Fr [] w w' ∧ RefAt w' v' F (M.crash keep torn cut) := by
  obtain ⟨hok, sA, sC, nA, nC, fA, fC, rfl, h1, h2, h3, h4⟩ := h
  have hlo := hok.lo
  have hhi := hok.hi
  refine rhizomeref03_Crash.link fun k1 k2 y3 hy3 => ?_
  have all : ∀ (n4 : Int) (w5 : World), ((if 64 < n4 then 64 else n4) = (clamp cut : Int)) → Step w w5 [] [k2, k1] → y3 n4 w5 := fun n4 w5 hn4 st => by
    have a1 := st.new k1 (by simp)
    have a2 := st.new k2 (by simp)
    have z5 := st.size
    have f5 := st.fr
    refine hy3 _ _ fun y6 hy6 => ?_
    have hcl := clamp_le cut
    have all6 : ∀ n7 : Int, n7 = (clamp cut : Int) → y6 n7 w5 := fun n7 hn7 => by
      subst hn7
      refine hy6 _ _ ⟨⟨by omega, Int.le_refl _, by omega, by omega⟩, fun w9 k10 st1 b10 k13 => ?_⟩
      have a10 := st1.new k10 (by simp)
      have z9 := st1.size
      let I : Nat → Int → Int → Option Addr → Nat → Nat → Option Addr → Nat → Nat → Option Addr → Nat → Nat → Int → Int → World → Prop := fun m q r p1 l1 c1 p2 l2 c2 p3 l3 c3 s4 s5 w' =>
        ∃ (i B : Nat), q = (M.rank i : Int) ∧ r = i ∧ i ≤ M.sure.length ∧ m = M.sure.length - i ∧ p3 = some ⟨k10, 0, none⟩ ∧ l3 = M.sure.length ∧ c3 = M.sure.length ∧ s4 = 0 ∧ s5 = -1 ∧
          Own w' B p1 l1 c1 (((M.crash keep torn cut).sure.take i).map .string) ∧ Own w' B p2 l2 c2 (((M.crash keep torn cut).sure.take i).map .string) ∧ Fr [] w w' ∧ B ≤ w'.heap.size ∧ w9.heap.size ≤ B ∧ w9.heap.size ≤ k13 ∧ k13 < B ∧ Blk w' k10 (reps [.bool false] M.sure.length) ∧
          ∀ x y, p1 = some x → p2 = some y → x.block ≠ y.block
      have hkM : ∀ i, i < M.sure.length → M.rank i ≤ i := fun i _ => by
        unfold DM.rank
        exact Nat.le_trans (List.length_filter_le _ _) (by simp)
      refine ⟨I, M.sure.length, fun w16 st2 => ⟨0, w16.heap.size, rfl, rfl, by omega, rfl, rfl, rfl, rfl, rfl, rfl, Own.nil _ _, Own.nil _ _, (f5.trans' st1.fr).trans' st2.fr, Nat.le_refl _, st2.size, (st2.new k13 (by simp)).1, (st2.new k13 (by simp)).2, b10.fr st2.fr (by simp), fun x y h => by cases h⟩, fun m q r p1 l1 c1 p2 l2 c2 p3 l3 c3 s4 s5 w32 hI => ?_⟩
      obtain ⟨i, B, rfl, rfl, hi, rfl, rfl, rfl, rfl, rfl, rfl, o1, o2, f32, hB, hB9, hk13, hk13', b10', hdis⟩ := hI
      have z32 := f32.size
      refine ⟨fun hlt => ?_, fun hge w77 st3 => ?_⟩
      · have hlt : (i : Int) < (M.sure.length : Int) := of_decide_eq_true hlt
        have hil : i < M.sure.length := by omega
        have e0 : (i : Int).toNat * 1 = i := by omega
        have hr := hkM i hil
        obtain ⟨hnw, hnw64⟩ := hok.nowAt hil
        obtain ⟨hsr, hsr64⟩ := hok.sureAt hil
        have r1 : ∀ w', Fr [] w32 w' → Row w' sA (M.sure.map .string) := fun w' hf => Row.fr (f32.trans' hf) h1 (fun ad _ => by simp)
        have r2 : ∀ w', Fr [] w32 w' → Row w' nA (M.now.map .string) := fun w' hf => Row.fr (f32.trans' hf) h2 (fun ad _ => by simp)
        have g1 : (M.sure.map Value.string)[i]? = some (.string (M.sureAt i)) := by rw [List.getElem?_map, hsr]; rfl
        have g2 : (M.now.map Value.string)[i]? = some (.string (M.nowAt i)) := by rw [List.getElem?_map, hnw]; rfl
        have hfl : i < M.fresh.length := by rw [hok.fre]; exact hil
        have g3 : (M.fresh.map Value.bool)[i]? = some (.bool M.fresh[i]) := by rw [List.getElem?_map, List.getElem?_eq_getElem hfl]; rfl
        obtain ⟨aS, eS⟩ := (r1 w32 (Fr.refl _ _)).has (by rw [List.length_map]; omega)
        obtain ⟨aN, eN⟩ := (r2 w32 (Fr.refl _ _)).has (by rw [List.length_map, hok.now]; omega)
        have r3 : Row w32 fA (M.fresh.map .bool) := Row.fr f32 h3 (fun ad _ => by simp)
        obtain ⟨aF, eF⟩ := r3.has (by rw [List.length_map, hok.fre]; omega)
        refine ⟨aS, eS, ⟨by omega, by omega⟩, M.sureAt i, by rw [e0]; exact (r1 w32 (Fr.refl _ _)).get eS g1, fun y36 hy36 => ?_⟩
        have step : ∀ w39, Fr [] w32 w39 → y36 (M.rank (i + 1)) (M.leftOf keep torn cut i) w39 := fun w39 f39 => by
          have z39 := f39.size
          have o1' := o1.fr f39 (fun ad _ => by simp)
          have o2' := o2.fr f39 (fun ad _ => by simp)
          have l1e : l1 = i := by have := o1.1; rw [List.length_map, List.length_take] at this; have hc : (M.crash keep torn cut).sure.length = M.sure.length := by simp [DM.crash]
                                  omega
          have l2e : l2 = i := by have := o2.1; rw [List.length_map, List.length_take] at this; have hc : (M.crash keep torn cut).sure.length = M.sure.length := by simp [DM.crash]
                                  omega
          refine hy36 _ _ _ fun k40 => append_own o1' rfl (by omega) (fun ad hp => ⟨by simp, fun y hy => ?_⟩) (by omega) (by omega) fun w41 p42 c42 f41 n41 o41 d41 k45 => ?_
          · have := o1'.lt hp
            simp at hy
            rcases hy with rfl | rfl | rfl | rfl
            · exact .inr (by omega)
            · exact .inr (by omega)
            · exact .inr (by omega)
            · exact .inl (by simp)
          have z41 := f41.size
          have o2'' : Own w41 B p2 l2 c2 _ := o2'.fr f41 (fun ad hp hm => by
            simp at hm
            obtain ⟨a, ha, e⟩ := hm
            exact hdis a ad ha hp e)
          have n40 := n41 k40 (by simp)
          refine append_own o2'' rfl (by omega) (fun ad hp => ⟨?_, fun y hy => ?_⟩) (by omega) (by omega) fun w46 p47 c47 f46 n46 o46 d46 => ⟨M.sure.length - (i + 1), by omega, fun w51 st5 => ?_⟩
          · have := o2''.lt hp
            simp; omega
          · have := o2'.lt hp
            simp at hy
            rcases hy with rfl | rfl | rfl | rfl | rfl
            · exact .inr (by omega)
            · exact .inr (by omega)
            · exact .inr (by omega)
            · exact .inr (by omega)
            · exact .inl (by simp)
          have z46 := f46.size
          have z51 := st5.size
          have p1b : ∀ ad, p1 = some ad → B ≤ ad.block ∧ ad.block < w39.heap.size := fun ad hp => o1'.lt hp
          have p2b : ∀ ad, p2 = some ad → B ≤ ad.block ∧ ad.block < w39.heap.size := fun ad hp => o2'.lt hp
          have p42b : ∀ ad, p42 = some ad → B ≤ ad.block ∧ ad.block < w41.heap.size := fun ad hp => o41.lt hp
          have p47b : ∀ ad, p47 = some ad → B ≤ ad.block ∧ ad.block < w46.heap.size := fun ad hp => o46.lt hp
          have F41 : Fr [] w w41 := (f32.trans' f39).trans f41 (fun x hx => .inr (by
            simp at hx
            obtain ⟨a, ha, e⟩ := hx
            have := p1b a ha
            omega))
          have F46 : Fr [] w w46 := F41.trans f46 (fun x hx => .inr (by
            simp at hx
            rcases hx with rfl | ⟨a, ha, e⟩
            · omega
            · have := p2b a ha
              omega))
          have F51 : Fr [] w w51 := F46.trans st5.fr (fun x hx => .inr (by simp at hx; omega))
          have et : ∀ i, i < M.sure.length → ((M.crash keep torn cut).sure.take (i + 1)).map Value.string = ((M.crash keep torn cut).sure.take i).map Value.string ++ [Value.string (M.leftOf keep torn cut i)] := fun i hi => by rw [DM.crash_take hi, List.map_append]; rfl
          refine ⟨i + 1, B, rfl, by rw [wrapi (by omega) (by omega)]; simp, by omega, rfl, rfl, rfl, rfl, rfl, rfl, ?_, ?_, F51, by omega, hB9, hk13, hk13', ?_, ?_⟩
          · rw [et i hil]
            refine (o41.fr f46 (fun ad hp hm => ?_)).fr st5.fr (fun ad hp hm => ?_)
            · simp at hm
              rcases hm with hm | ⟨a, ha, e⟩
              · have := p42b ad hp; omega
              · rcases d41 ad hp with h | ⟨h, _⟩
                · exact hdis ad a h.symm ha e.symm
                · have := p2b a ha; omega
            · simp at hm
              have := p42b ad hp; omega
          · rw [et i hil]
            refine o46.fr st5.fr (fun ad hp hm => ?_)
            simp at hm
            have := p47b ad hp; omega
          · refine (((b10'.fr f39 (by simp)).fr f41 (fun hm => ?_)).fr f46 (fun hm => ?_)).fr st5.fr (by simp; omega)
            · simp at hm
              obtain ⟨a, ha, e⟩ := hm
              have := p1b a ha; omega
            · simp at hm
              rcases hm with hm | ⟨a, ha, e⟩
              · omega
              · have := p2b a ha; omega
          · intro x y hx hy
            have hxb := p42b x hx
            have hyb := p47b y hy
            rcases d41 x hx with h1 | ⟨h1, _⟩ <;> rcases d46 y hy with h2 | ⟨h2, _⟩
            · exact hdis x y h1.symm h2.symm
            · have := p1b x h1.symm; omega
            · have := p2b y h2.symm; omega
            · omega
        refine ⟨aF, eF, ⟨by omega, by omega⟩, M.fresh[i], by rw [e0]; exact r3.get eF g3, fun hfr => ?_, fun hfr => ?_⟩
        · have hfr' : M.fresh[i]? = some true := by rw [List.getElem?_eq_getElem hfl, hfr]
          have hlo' : M.leftOf keep torn cut i = M.pick keep torn cut (M.rank i) i := by unfold DM.leftOf; rw [if_pos hfr']
          have hrs : M.rank (i + 1) = M.rank i + 1 := by rw [DM.rank_succ, if_pos hfr']
          intro y57 hy57 y62 hy62
          have out : ∀ w59, Fr [] w32 w59 → y57 (M.pick keep torn cut (M.rank i) i) w59 := fun w59 f59 => hy57 _ _ (by
            have := step w59 f59
            rw [hrs, hlo'] at this
            rw [wrapi (by omega) (by omega)]
            exact this)
          have both : ∀ b63 : Bool, (b63 = true ↔ keep[M.rank i]? = some true) → y62 b63 w32 := fun b63 hb63 => hy62 _ _ ⟨fun ht => ?_, fun hf => ⟨fun htn => ?_, fun htn => ?_⟩⟩
          · refine ⟨fun hlk => ?_, fun hlk => both false ⟨(fun h => by cases h), fun hc => ?_⟩⟩
            · have hlk : ((M.rank i : Nat) : Int) < (keep.length : Int) := of_decide_eq_true hlk
              have hk32 : Row w32 keepA (keep.map .bool) := Row.fr f32 hkeep (fun ad _ => by simp)
              obtain ⟨ad75, h75⟩ := hk32.has (by rw [List.length_map]; omega)
              have hg := List.getElem?_eq_getElem (l := keep) (i := M.rank i) (by omega)
              refine ⟨ad75, h75, ⟨by omega, by omega⟩, keep[M.rank i]'(by omega), ?_, both _ ⟨fun h => by rw [hg, h], fun h => by rw [hg] at h; injection h⟩⟩
              have := hk32.get h75 (j := M.rank i) (u := .bool (keep[M.rank i]'(by omega))) (by rw [List.getElem?_map, hg]; rfl)
              simpa using this
            · have hlk : ¬ ((M.rank i : Nat) : Int) < (keep.length : Int) := of_decide_eq_false hlk
              rw [List.getElem?_eq_none (by omega)] at hc
              cases hc
          · have ep : M.nowAt i = M.pick keep torn cut (M.rank i) i := by unfold DM.pick; rw [if_pos (hb63.1 ht)]
            refine ⟨aN, eN, ⟨by omega, by omega⟩, M.nowAt i, by rw [e0]; exact (r2 w32 (Fr.refl _ _)).get eN g2, ?_⟩
            rw [ep]; exact out w32 (Fr.refl _ _)
          · have htn : ((M.rank i : Nat) : Int) = torn := of_decide_eq_true htn
            have ep : tear (clamp cut) (M.nowAt i) (M.sureAt i) = M.pick keep torn cut (M.rank i) i := by
              unfold DM.pick; rw [if_neg (fun hc => by rw [hb63.2 hc] at hf; cases hf), if_pos htn]
            refine ⟨aN, eN, ⟨by omega, by omega⟩, M.nowAt i, by rw [e0]; exact (r2 w32 (Fr.refl _ _)).get eN g2, ⟨by omega, by omega, by omega⟩, aS, eS, ⟨by omega, by omega⟩, M.sureAt i, by rw [e0]; exact (r1 w32 (Fr.refl _ _)).get eS g1, ⟨by omega, by omega, by omega⟩, ?_, fun w71 st71 => ?_⟩
            · rw [ByteArray.size_extract, ByteArray.size_extract]
              omega
            · have := extract_tear (x := M.nowAt i) (y := M.sureAt i) hnw64 hsr64 hcl
              have e64 : Int.toNat ((ByteArray.size (M.sureAt i) : Nat) : Int) = 64 := by omega
              have ec : Int.toNat ((clamp cut : Nat) : Int) = clamp cut := by omega
              rw [e64, ec, this, ep]
              exact out w71 (st71.fr)
          · have htn : ¬ ((M.rank i : Nat) : Int) = torn := of_decide_eq_false htn
            have ep : M.sureAt i = M.pick keep torn cut (M.rank i) i := by
              unfold DM.pick; rw [if_neg (fun hc => by rw [hb63.2 hc] at hf; cases hf), if_neg htn]
            rw [ep]; exact out w32 (Fr.refl _ _)
        · have hfr' : ¬ M.fresh[i]? = some true := by rw [List.getElem?_eq_getElem hfl, hfr]; simp
          have hlo' : M.leftOf keep torn cut i = M.sureAt i := by unfold DM.leftOf; rw [if_neg hfr']
          have hrs : M.rank (i + 1) = M.rank i := by rw [DM.rank_succ, if_neg hfr']
          have := step w32 (Fr.refl _ _)
          rw [hrs, hlo'] at this
          exact this
      · have hge : ¬ (i : Int) < (M.sure.length : Int) := of_decide_eq_false hge
        have hi' : i = M.sure.length := by omega
        subst hi'
        have hcl' : (M.crash keep torn cut).sure.length = M.sure.length := by simp [DM.crash]
        have ht : (M.crash keep torn cut).sure.take M.sure.length = (M.crash keep torn cut).sure := List.take_of_length_le (by omega)
        rw [ht] at o1 o2
        have l1e : l1 = M.sure.length := by have := o1.1; rw [List.length_map] at this; omega
        have l2e : l2 = M.sure.length := by have := o2.1; rw [List.length_map] at this; omega
        subst l1e
        subst l2e
        have F77 : Fr [] w w77 := f32.trans st3.fr (fun x hx => .inr (by simp at hx; omega))
        refine ⟨rv p1 c1 p2 c2 (some ⟨k10, 0, none⟩) M.sure.length (M.crash keep torn cut), ?_, F77, hok.crash keep torn cut, _, _, _, _, _, _, rfl, ?_, ?_, ?_, ?_⟩
        · unfold rv
          rw [hcl']
          rfl
        · exact Row.fr st3.fr o1.row (fun ad hp hm => by have := o1.lt hp; simp at hm; omega)
        · exact Row.fr st3.fr o2.row (fun ad hp hm => by have := o2.lt hp; simp at hm; omega)
        · have eb : ((M.crash keep torn cut).fresh.map Value.bool) = reps [.bool false] M.sure.length := by
            rw [reps_one]; exact List.map_replicate
          have bb : Blk w77 k10 ((M.crash keep torn cut).fresh.map .bool) := by rw [eb]; exact b10'.fr st3.fr (by simp; omega)
          exact Row.all bb (bools_one _)
        · rintro ad (hp | hp | hp) hm
          · have := hF _ hm
            have := o1.lt hp; omega
          · have := hF _ hm
            have := o2.lt hp; omega
          · injection hp with hp; subst hp
            have : k10 < w.heap.size := hF _ hm
            omega
    refine ⟨fun h => ?_, fun h => ?_⟩
    · have h := of_decide_eq_true h
      rw [if_pos h] at hn4
      exact all6 64 hn4
    · have h := of_decide_eq_false h
      rw [if_neg h] at hn4
      exact all6 n4 hn4
  refine ⟨fun hlt w83 st => all 0 w83 ?_ st, fun hge w85 st => all cut w85 ?_ st⟩
  · have := of_decide_eq_true hlt
    unfold clamp; rw [if_pos this]; rfl
  · have hge := of_decide_eq_false hge
    unfold clamp; rw [if_neg hge]
    split
    · rfl
    · omega

end Go.Proofs.Ytcaamecdhbgknaa.Disk

end
section
/- The reference's disk: a new one. -/
namespace Go.Proofs.Ytcaamecdhbgknaa.Disk
open Go Go.V
open Go.Proofs.Ytcaamecdhbgknaa.VC
open Go.Proofs.Try (prog)
set_option linter.unusedVariables false
set_option linter.unusedSimpArgs false
set_option maxRecDepth 20000

theorem g_disk {F : List Nat} {v w : World} {b ms mf : Nat} {M : DM} (hf : Fr F v w) (h : DiskAt v b ms mf M) (h1 : b ∉ F) (h2 : ms ∉ F) (h3 : mf ∉ F) : DiskAt w b ms mf M :=
  h.fr hf (fun x hx => by simp at hx; rcases hx with rfl | rfl | rfl <;> assumption)
theorem g_disk_lt {w : World} {b ms mf : Nat} {M : DM} (h : DiskAt w b ms mf M) : ms ≠ b ∧ mf ≠ b ∧ b < w.heap.size ∧ ms < w.heap.size ∧ mf < w.heap.size := h.bs
theorem g_ref {F G : List Nat} {w w' : World} {v : Value} {M : DM} (hf : Fr G w w') (h : RefAt w v F M) (hG : ∀ x ∈ G, x ∈ F ∨ w.heap.size ≤ x) : RefAt w' v F M := h.fr hf hG

def NewI (w w7 : World) (k8 k11 : Nat) (n : Int) : Nat → Int → Option Addr → Nat → Nat → Option Addr → Nat → Nat → Option Addr → Nat → Nat → Int → Int → World → Prop := fun m q p1 l1 c1 p2 l2 c2 p3 l3 c3 s4 s5 w' =>
      ∃ i : Nat, q = i ∧ i ≤ n.toNat ∧ m = n.toNat - i ∧ p3 = some ⟨k8, 0, none⟩ ∧ l3 = n.toNat ∧ c3 = n.toNat ∧ s4 = 0 ∧ s5 = -1 ∧ i = l1 ∧ i = l2 ∧ OwnZ w' (k11 + 1) 1 p1 l1 c1 (List.replicate i (.string zsec)) ∧ OwnZ w' (k11 + 1) 1 p2 l2 c2 (List.replicate i (.string zsec)) ∧
        Fr [] w w' ∧ w7.heap.size ≤ k11 ∧ k11 < w'.heap.size ∧ Blk w' k8 (reps [.bool false] n.toNat) ∧ ∀ x y, p1 = some x → p2 = some y → x.block ≠ y.block
theorem rnew_c {w : World} {F : List Nat} (hF : ∀ x ∈ F, x < w.heap.size) (n : Int) : Calls prog 30 #[I64 n] w fun e w' => Fr [] w w' ∧
    (n < 1 ∨ 4096 < n → e = .returned (.tuple #[.agg #[.slice none 0 0, .slice none 0 0, .slice none 0 0, I64 0, I64 0], I64 1])) ∧
    (¬ (n < 1 ∨ 4096 < n) → ∃ v', e = .returned (.tuple #[v', I64 0]) ∧ RefAt w' v' F (DM.fresh0 n.toNat)) := by
  refine rhizomeref03_New.link fun k1 y2 hy2 => ?_
  have good : ∀ w4, Step w w4 [] [k1] → 1 ≤ n → n ≤ 4096 → y2 false w4 := fun w4 st h1 h2 => by
    refine hy2 _ _ (bF rfl ⟨⟨by omega, by omega, by omega, by omega⟩, fun w7 k8 st7 b8 k11 => ?_⟩)
    clear hy2
    refine ⟨NewI w w7 k8 k11 n, n.toNat, fun w14 st14 => ⟨0, rfl, by omega, rfl, rfl, rfl, rfl, rfl, rfl, rfl, rfl, OwnZ.nil _ _ _, OwnZ.nil _ _ _, ?_, ?_, ?_, ?_, fun x y h => by cases h⟩, fun m q p1 l1 c1 p2 l2 c2 p3 l3 c3 s4 s5 w29 hI => ?_⟩
    · (refine mkFr ?_ ?_ ?_ <;> grind (splits := 40) [→ g_size, → g_sys, g_get, → g_step, → g_upd, → g_updb, → g_updz, → g_mupd, → g_mupdm, → g_istep, → g_new1, → g_new2, → g_new3, → g_new4, → g_blk, → g_blk_lt, → g_own, → g_own_lt, → g_row, → g_map, → g_map_lt, → g_ownz, → g_ownz_lt, → g_news1, → g_news2, → g_news3, = g_mem_pb, = g_pb_none, = g_pb_some])
    · grind (splits := 40) [→ g_size, → g_sys, g_get, → g_step, → g_upd, → g_updb, → g_updz, → g_mupd, → g_mupdm, → g_istep, → g_new1, → g_new2, → g_new3, → g_new4, → g_blk, → g_blk_lt, → g_own, → g_own_lt, → g_row, → g_map, → g_map_lt, → g_ownz, → g_ownz_lt, → g_news1, → g_news2, → g_news3, = g_mem_pb, = g_pb_none, = g_pb_some]
    · grind (splits := 40) [→ g_size, → g_sys, g_get, → g_step, → g_upd, → g_updb, → g_updz, → g_mupd, → g_mupdm, → g_istep, → g_new1, → g_new2, → g_new3, → g_new4, → g_blk, → g_blk_lt, → g_own, → g_own_lt, → g_row, → g_map, → g_map_lt, → g_ownz, → g_ownz_lt, → g_news1, → g_news2, → g_news3, = g_mem_pb, = g_pb_none, = g_pb_some]
    · grind (splits := 40) [→ g_size, → g_sys, g_get, → g_step, → g_upd, → g_updb, → g_updz, → g_mupd, → g_mupdm, → g_istep, → g_new1, → g_new2, → g_new3, → g_new4, → g_blk, → g_blk_lt, → g_own, → g_own_lt, → g_row, → g_map, → g_map_lt, → g_ownz, → g_ownz_lt, → g_news1, → g_news2, → g_news3, = g_mem_pb, = g_pb_none, = g_pb_some]
    obtain ⟨i, rfl, hi, rfl, rfl, rfl, rfl, rfl, rfl, rfl, rfl, o1, o2, f29, hk, hk', b8', hd⟩ := hI
    refine ⟨fun hlt => ?_, fun hge w120 st120 => ?_⟩
    · have hlt : (i : Int) < n := of_decide_eq_true hlt
      have hone : ∀ u ∈ [Value.string zsec], u.oneCell' = true := fun u hu => by rw [List.mem_singleton.1 hu]; rfl
      have erep : List.replicate i (Value.string zsec) ++ [Value.string zsec] = List.replicate (i + 1) (.string zsec) := by rw [List.replicate_succ']
      have last : ∀ (ka : Nat) (w37 : World) (p38 : Option Addr) (c39 : Nat), w29.heap.size ≤ w37.heap.size → w29.heap.size ≤ ka → ka < w37.heap.size → OwnZ w37 (k11 + 1) 1 p38 (i + 1) c39 (List.replicate (i + 1) (.string zsec)) → OwnZ w37 (k11 + 1) 1 p2 i c2 (List.replicate i (.string zsec)) → Fr [] w w37 → Blk w37 k8 (reps [.bool false] n.toNat) →
          (∀ x y, p38 = some x → p2 = some y → x.block ≠ y.block) → (∀ x, p2 = some x → x.block ≠ ka) → ∀ w41, Step w37 w41 [k11] [] → Calls prog 61 #[] w41 fun e43 w44 => ∃ s45, e43 = .returned (.string s45) ∧ Keep [k1, k11, ka] w41 w44 ∧
            ∀ kb, appendP false [] [kb] [k1, k11, ka, kb] w44 p2 i c2 1 (spl (reps [Value.string { data := { toList := [] } }] 1) 0 [Value.string s45]) 1 16 [Value.string { data := { toList := [] } }] fun w47 p48 k49 k50 =>
              ∃ k51, k51 < n.toNat - i ∧ ∀ w52, Step w47 w52 [k11] [] → NewI w w7 k8 k11 n k51 (IntKind.wrap IntKind.i64 ((i : Int) + 1)) p38 (i + 1) c39 p48 k49 k50 (some ⟨k8, 0, none⟩) n.toNat n.toNat 0 (-1) w52 := by
        intro ka w37 p38 c39 z37 zka zka' o38 o2' f37 b37 hd' hka w41 st41
        refine (zero_c w41).mono ?_
        rintro e w44 ⟨rfl, f44⟩
        have o2'' : OwnZ w44 (k11 + 1) 1 p2 i c2 (List.replicate i (.string zsec)) := by grind (splits := 40) [→ g_size, → g_sys, g_get, → g_step, → g_upd, → g_updb, → g_updz, → g_mupd, → g_mupdm, → g_istep, → g_new1, → g_new2, → g_new3, → g_new4, → g_blk, → g_blk_lt, → g_own, → g_own_lt, → g_row, → g_map, → g_map_lt, → g_ownz, → g_ownz_lt, → g_news1, → g_news2, → g_news3, = g_mem_pb, = g_pb_none, = g_pb_some]
        have o38' : OwnZ w44 (k11 + 1) 1 p38 (i + 1) c39 (List.replicate (i + 1) (.string zsec)) := by grind (splits := 40) [→ g_size, → g_sys, g_get, → g_step, → g_upd, → g_updb, → g_updz, → g_mupd, → g_mupdm, → g_istep, → g_new1, → g_new2, → g_new3, → g_new4, → g_blk, → g_blk_lt, → g_own, → g_own_lt, → g_row, → g_map, → g_map_lt, → g_ownz, → g_ownz_lt, → g_news1, → g_news2, → g_news3, = g_mem_pb, = g_pb_none, = g_pb_some]
        refine ⟨_, rfl, ?_, fun kb => append_z o2'' rfl hone ?_ rfl (fun h => by cases h) (fun ad _ => by simp) ?_ (by omega) (by omega) fun w47 p48 c48 f47 n47 o47 d47 => ⟨n.toNat - (i + 1), by omega, fun w52 st52 => ⟨i + 1, by rw [wrapi (by omega) (by omega)]; simp, by omega, rfl, rfl, rfl, rfl, rfl, rfl, rfl, rfl, ?_, ?_, ?_, hk, ?_, ?_, ?_⟩⟩⟩
        · refine g_keep f44 ?_
          grind (splits := 40) [→ g_size, → g_sys, g_get, → g_step, → g_upd, → g_updb, → g_updz, → g_mupd, → g_mupdm, → g_istep, → g_new1, → g_new2, → g_new3, → g_new4, → g_blk, → g_blk_lt, → g_own, → g_own_lt, → g_row, → g_map, → g_map_lt, → g_ownz, → g_ownz_lt, → g_news1, → g_news2, → g_news3, = g_mem_pb, = g_pb_none, = g_pb_some]
        · grind (splits := 40) [→ g_size, → g_sys, g_get, → g_step, → g_upd, → g_updb, → g_updz, → g_mupd, → g_mupdm, → g_istep, → g_new1, → g_new2, → g_new3, → g_new4, → g_blk, → g_blk_lt, → g_own, → g_own_lt, → g_row, → g_map, → g_map_lt, → g_ownz, → g_ownz_lt, → g_news1, → g_news2, → g_news3, = g_mem_pb, = g_pb_none, = g_pb_some]
        · grind (splits := 40) [→ g_size, → g_sys, g_get, → g_step, → g_upd, → g_updb, → g_updz, → g_mupd, → g_mupdm, → g_istep, → g_new1, → g_new2, → g_new3, → g_new4, → g_blk, → g_blk_lt, → g_own, → g_own_lt, → g_row, → g_map, → g_map_lt, → g_ownz, → g_ownz_lt, → g_news1, → g_news2, → g_news3, = g_mem_pb, = g_pb_none, = g_pb_some]
        · grind (splits := 40) [→ g_size, → g_sys, g_get, → g_step, → g_upd, → g_updb, → g_updz, → g_mupd, → g_mupdm, → g_istep, → g_new1, → g_new2, → g_new3, → g_new4, → g_blk, → g_blk_lt, → g_own, → g_own_lt, → g_row, → g_map, → g_map_lt, → g_ownz, → g_ownz_lt, → g_news1, → g_news2, → g_news3, = g_mem_pb, = g_pb_none, = g_pb_some]
        · have o47' : OwnZ w47 (k11 + 1) 1 p48 (i + 1) c48 (List.replicate (i + 1) (.string zsec)) := by rw [← erep]; exact o47
          clear o47
          grind (splits := 40) [→ g_size, → g_sys, g_get, → g_step, → g_upd, → g_updb, → g_updz, → g_mupd, → g_mupdm, → g_istep, → g_new1, → g_new2, → g_new3, → g_new4, → g_blk, → g_blk_lt, → g_own, → g_own_lt, → g_row, → g_map, → g_map_lt, → g_ownz, → g_ownz_lt, → g_news1, → g_news2, → g_news3, = g_mem_pb, = g_pb_none, = g_pb_some]
        · (refine mkFr ?_ ?_ ?_ <;> grind (splits := 40) [→ g_size, → g_sys, g_get, → g_step, → g_upd, → g_updb, → g_updz, → g_mupd, → g_mupdm, → g_istep, → g_new1, → g_new2, → g_new3, → g_new4, → g_blk, → g_blk_lt, → g_own, → g_own_lt, → g_row, → g_map, → g_map_lt, → g_ownz, → g_ownz_lt, → g_news1, → g_news2, → g_news3, = g_mem_pb, = g_pb_none, = g_pb_some])
        · grind (splits := 40) [→ g_size, → g_sys, g_get, → g_step, → g_upd, → g_updb, → g_updz, → g_mupd, → g_mupdm, → g_istep, → g_new1, → g_new2, → g_new3, → g_new4, → g_blk, → g_blk_lt, → g_own, → g_own_lt, → g_row, → g_map, → g_map_lt, → g_ownz, → g_ownz_lt, → g_news1, → g_news2, → g_news3, = g_mem_pb, = g_pb_none, = g_pb_some]
        · grind (splits := 40) [→ g_size, → g_sys, g_get, → g_step, → g_upd, → g_updb, → g_updz, → g_mupd, → g_mupdm, → g_istep, → g_new1, → g_new2, → g_new3, → g_new4, → g_blk, → g_blk_lt, → g_own, → g_own_lt, → g_row, → g_map, → g_map_lt, → g_ownz, → g_ownz_lt, → g_news1, → g_news2, → g_news3, = g_mem_pb, = g_pb_none, = g_pb_some]
        · grind (splits := 40) [→ g_size, → g_sys, g_get, → g_step, → g_upd, → g_updb, → g_updz, → g_mupd, → g_mupdm, → g_istep, → g_new1, → g_new2, → g_new3, → g_new4, → g_blk, → g_blk_lt, → g_own, → g_own_lt, → g_row, → g_map, → g_map_lt, → g_ownz, → g_ownz_lt, → g_news1, → g_news2, → g_news3, = g_mem_pb, = g_pb_none, = g_pb_some]
      have first : ∀ w31, Step w29 w31 [] [] → Calls prog 61 #[] w31 fun e33 w34 => ∃ s35, e33 = .returned (.string s35) ∧ Keep [k1, k11] w31 w34 ∧ (s35 = zsec ∧ Fr [] w29 w34) := by
        intro w31 st31
        refine (zero_c w31).mono ?_
        rintro e w34 ⟨rfl, f34⟩
        refine ⟨_, rfl, ?_, rfl, ?_⟩
        · refine g_keep f34 ?_
          grind (splits := 40) [→ g_size, → g_sys, g_get, → g_step, → g_upd, → g_updb, → g_updz, → g_mupd, → g_mupdm, → g_istep, → g_new1, → g_new2, → g_new3, → g_new4, → g_blk, → g_blk_lt, → g_own, → g_own_lt, → g_row, → g_map, → g_map_lt, → g_ownz, → g_ownz_lt, → g_news1, → g_news2, → g_news3, = g_mem_pb, = g_pb_none, = g_pb_some]
        · (refine mkFr ?_ ?_ ?_ <;> grind (splits := 40) [→ g_size, → g_sys, g_get, → g_step, → g_upd, → g_updb, → g_updz, → g_mupd, → g_mupdm, → g_istep, → g_new1, → g_new2, → g_new3, → g_new4, → g_blk, → g_blk_lt, → g_own, → g_own_lt, → g_row, → g_map, → g_map_lt, → g_ownz, → g_ownz_lt, → g_news1, → g_news2, → g_news3, = g_mem_pb, = g_pb_none, = g_pb_some])
      have mid : ∀ (ka : Nat) (w34 : World) (K : World → Option Addr → Nat → Nat → Prop), Fr [] w29 w34 → (∀ w37 p38 c39, w29.heap.size ≤ w37.heap.size → w29.heap.size ≤ ka → ka < w37.heap.size → OwnZ w37 (k11 + 1) 1 p38 (i + 1) c39 (List.replicate (i + 1) (.string zsec)) → OwnZ w37 (k11 + 1) 1 p2 i c2 (List.replicate i (.string zsec)) → Fr [] w w37 → Blk w37 k8 (reps [.bool false] n.toNat) →
          (∀ x y, p38 = some x → p2 = some y → x.block ≠ y.block) → (∀ x, p2 = some x → x.block ≠ ka) → K w37 p38 (i + 1) c39) →
          appendP false [] [ka] [k1, k11, ka] w34 p1 i c1 1 (spl (reps [Value.string { data := { toList := [] } }] 1) 0 [Value.string zsec]) 1 16 [Value.string { data := { toList := [] } }] K := by
        intro ka w34 K f34 hK
        have o1' : OwnZ w34 (k11 + 1) 1 p1 i c1 (List.replicate i (.string zsec)) := by grind (splits := 40) [→ g_size, → g_sys, g_get, → g_step, → g_upd, → g_updb, → g_updz, → g_mupd, → g_mupdm, → g_istep, → g_new1, → g_new2, → g_new3, → g_new4, → g_blk, → g_blk_lt, → g_own, → g_own_lt, → g_row, → g_map, → g_map_lt, → g_ownz, → g_ownz_lt, → g_news1, → g_news2, → g_news3, = g_mem_pb, = g_pb_none, = g_pb_some]
        have o2' : OwnZ w34 (k11 + 1) 1 p2 i c2 (List.replicate i (.string zsec)) := by grind (splits := 40) [→ g_size, → g_sys, g_get, → g_step, → g_upd, → g_updb, → g_updz, → g_mupd, → g_mupdm, → g_istep, → g_new1, → g_new2, → g_new3, → g_new4, → g_blk, → g_blk_lt, → g_own, → g_own_lt, → g_row, → g_map, → g_map_lt, → g_ownz, → g_ownz_lt, → g_news1, → g_news2, → g_news3, = g_mem_pb, = g_pb_none, = g_pb_some]
        refine append_z o1' rfl hone ?_ rfl (fun h => by cases h) (fun ad _ => by simp) ?_ (by omega) (by omega) fun w37 p38 c38 f37 n37 o37 d37 => hK _ _ _ ?_ ?_ ?_ ?_ ?_ ?_ ?_ ?_ ?_
        · grind (splits := 40) [→ g_size, → g_sys, g_get, → g_step, → g_upd, → g_updb, → g_updz, → g_mupd, → g_mupdm, → g_istep, → g_new1, → g_new2, → g_new3, → g_new4, → g_blk, → g_blk_lt, → g_own, → g_own_lt, → g_row, → g_map, → g_map_lt, → g_ownz, → g_ownz_lt, → g_news1, → g_news2, → g_news3, = g_mem_pb, = g_pb_none, = g_pb_some]
        · grind (splits := 40) [→ g_size, → g_sys, g_get, → g_step, → g_upd, → g_updb, → g_updz, → g_mupd, → g_mupdm, → g_istep, → g_new1, → g_new2, → g_new3, → g_new4, → g_blk, → g_blk_lt, → g_own, → g_own_lt, → g_row, → g_map, → g_map_lt, → g_ownz, → g_ownz_lt, → g_news1, → g_news2, → g_news3, = g_mem_pb, = g_pb_none, = g_pb_some]
        · grind (splits := 40) [→ g_size, → g_sys, g_get, → g_step, → g_upd, → g_updb, → g_updz, → g_mupd, → g_mupdm, → g_istep, → g_new1, → g_new2, → g_new3, → g_new4, → g_blk, → g_blk_lt, → g_own, → g_own_lt, → g_row, → g_map, → g_map_lt, → g_ownz, → g_ownz_lt, → g_news1, → g_news2, → g_news3, = g_mem_pb, = g_pb_none, = g_pb_some]
        · grind (splits := 40) [→ g_size, → g_sys, g_get, → g_step, → g_upd, → g_updb, → g_updz, → g_mupd, → g_mupdm, → g_istep, → g_new1, → g_new2, → g_new3, → g_new4, → g_blk, → g_blk_lt, → g_own, → g_own_lt, → g_row, → g_map, → g_map_lt, → g_ownz, → g_ownz_lt, → g_news1, → g_news2, → g_news3, = g_mem_pb, = g_pb_none, = g_pb_some]
        · grind (splits := 40) [→ g_size, → g_sys, g_get, → g_step, → g_upd, → g_updb, → g_updz, → g_mupd, → g_mupdm, → g_istep, → g_new1, → g_new2, → g_new3, → g_new4, → g_blk, → g_blk_lt, → g_own, → g_own_lt, → g_row, → g_map, → g_map_lt, → g_ownz, → g_ownz_lt, → g_news1, → g_news2, → g_news3, = g_mem_pb, = g_pb_none, = g_pb_some]
        · rw [← erep]; exact o37
        · grind (splits := 40) [→ g_size, → g_sys, g_get, → g_step, → g_upd, → g_updb, → g_updz, → g_mupd, → g_mupdm, → g_istep, → g_new1, → g_new2, → g_new3, → g_new4, → g_blk, → g_blk_lt, → g_own, → g_own_lt, → g_row, → g_map, → g_map_lt, → g_ownz, → g_ownz_lt, → g_news1, → g_news2, → g_news3, = g_mem_pb, = g_pb_none, = g_pb_some]
        · (refine mkFr ?_ ?_ ?_ <;> grind (splits := 40) [→ g_size, → g_sys, g_get, → g_step, → g_upd, → g_updb, → g_updz, → g_mupd, → g_mupdm, → g_istep, → g_new1, → g_new2, → g_new3, → g_new4, → g_blk, → g_blk_lt, → g_own, → g_own_lt, → g_row, → g_map, → g_map_lt, → g_ownz, → g_ownz_lt, → g_news1, → g_news2, → g_news3, = g_mem_pb, = g_pb_none, = g_pb_some])
        · grind (splits := 40) [→ g_size, → g_sys, g_get, → g_step, → g_upd, → g_updb, → g_updz, → g_mupd, → g_mupdm, → g_istep, → g_new1, → g_new2, → g_new3, → g_new4, → g_blk, → g_blk_lt, → g_own, → g_own_lt, → g_row, → g_map, → g_map_lt, → g_ownz, → g_ownz_lt, → g_news1, → g_news2, → g_news3, = g_mem_pb, = g_pb_none, = g_pb_some]
        · grind (splits := 40) [→ g_size, → g_sys, g_get, → g_step, → g_upd, → g_updb, → g_updz, → g_mupd, → g_mupdm, → g_istep, → g_new1, → g_new2, → g_new3, → g_new4, → g_blk, → g_blk_lt, → g_own, → g_own_lt, → g_row, → g_map, → g_map_lt, → g_ownz, → g_ownz_lt, → g_news1, → g_news2, → g_news3, = g_mem_pb, = g_pb_none, = g_pb_some]
        · grind (splits := 40) [→ g_size, → g_sys, g_get, → g_step, → g_upd, → g_updb, → g_updz, → g_mupd, → g_mupdm, → g_istep, → g_new1, → g_new2, → g_new3, → g_new4, → g_blk, → g_blk_lt, → g_own, → g_own_lt, → g_row, → g_map, → g_map_lt, → g_ownz, → g_ownz_lt, → g_news1, → g_news2, → g_news3, = g_mem_pb, = g_pb_none, = g_pb_some]
      have dup : ∀ {w41 : World} {w44 : World} {ka : Nat} {e43 : Ending} {X : ByteArray → World → Prop}, (∃ s45, e43 = Ending.returned (.string s45) ∧ Keep [k1, k11, ka] w41 w44 ∧ X s45 w44) → ∃ s45, e43 = Ending.returned (.string s45) ∧ Keep [k1, k11, ka] w41 w44 ∧ X s45 w44 ∧ X s45 w44 := by
        rintro w41 w44 ka e43 X ⟨s45, e, h1, h2⟩
        exact ⟨s45, e, h1, h2, h2⟩
      refine ⟨fun w31 st31 => (first w31 st31).mono ?_, fun w31 st31 => (first w31 st31).mono ?_⟩
      · rintro e w34 ⟨s35, rfl, hk34, rfl, f34⟩
        exact ⟨_, rfl, hk34, fun k36 => mid k36 w34 _ f34 fun w37 p38 c39 a1 a2 a3 a4 a5 a6 a7 a8 a9 => ⟨fun w41 st41 => last k36 w37 p38 c39 a1 a2 a3 a4 a5 a6 a7 a8 a9 w41 st41, fun w41 st41 => (last k36 w37 p38 c39 a1 a2 a3 a4 a5 a6 a7 a8 a9 w41 st41).mono fun e w44 h => dup (X := fun s w44 => ∀ kb, appendP false [] [kb] [k1, k11, k36, kb] w44 p2 i c2 1 (spl (reps [Value.string { data := { toList := [] } }] 1) 0 [Value.string s]) 1 16 [Value.string { data := { toList := [] } }] _) h⟩⟩
      · rintro e w34 ⟨s35, rfl, hk34, rfl, f34⟩
        exact ⟨_, rfl, hk34, fun k36 => mid k36 w34 _ f34 fun w37 p38 c39 a1 a2 a3 a4 a5 a6 a7 a8 a9 => ⟨fun w41 st41 => last k36 w37 p38 c39 a1 a2 a3 a4 a5 a6 a7 a8 a9 w41 st41, fun w41 st41 => (last k36 w37 p38 c39 a1 a2 a3 a4 a5 a6 a7 a8 a9 w41 st41).mono fun e w44 h => dup (X := fun s w44 => ∀ kb, appendP false [] [kb] [k1, k11, k36, kb] w44 p2 i c2 1 (spl (reps [Value.string { data := { toList := [] } }] 1) 0 [Value.string s]) 1 16 [Value.string { data := { toList := [] } }] _) h⟩, fun k36 => mid k36 w34 _ f34 fun w37 p38 c39 a1 a2 a3 a4 a5 a6 a7 a8 a9 => ⟨fun w41 st41 => last k36 w37 p38 c39 a1 a2 a3 a4 a5 a6 a7 a8 a9 w41 st41, fun w41 st41 => (last k36 w37 p38 c39 a1 a2 a3 a4 a5 a6 a7 a8 a9 w41 st41).mono fun e w44 h => dup (X := fun s w44 => ∀ kb, appendP false [] [kb] [k1, k11, k36, kb] w44 p2 i c2 1 (spl (reps [Value.string { data := { toList := [] } }] 1) 0 [Value.string s]) 1 16 [Value.string { data := { toList := [] } }] _) h⟩⟩
    · have hge : ¬ (i : Int) < n := of_decide_eq_false hge
      have hi' : n = i := by omega
      have ei : n.toNat = i := by omega
      rw [ei] at b8 b8' ⊢
      subst hi'
      have hnF : ∀ x ∈ F, x < w.heap.size := hF
      refine ⟨?_, fun hc => by omega, fun _ => ⟨rv p1 c1 p2 c2 (some ⟨k8, 0, none⟩) i (DM.fresh0 i), ?_, DM.fresh0_ok (by omega) (by omega), _, _, _, _, _, _, rfl, ?_, ?_, ?_, ?_⟩⟩
      · (refine mkFr ?_ ?_ ?_ <;> grind (splits := 40) [→ g_size, → g_sys, g_get, → g_step, → g_upd, → g_updb, → g_updz, → g_mupd, → g_mupdm, → g_istep, → g_new1, → g_new2, → g_new3, → g_new4, → g_blk, → g_blk_lt, → g_own, → g_own_lt, → g_row, → g_map, → g_map_lt, → g_ownz, → g_ownz_lt, → g_news1, → g_news2, → g_news3, = g_mem_pb, = g_pb_none, = g_pb_some])
      · unfold rv
        rw [show (DM.fresh0 i).sure.length = i by simp [DM.fresh0]]
        rfl
      · rw [show (DM.fresh0 i).sure.map Value.string = List.replicate i (.string zsec) from List.map_replicate]
        have := o1.row
        grind (splits := 40) [→ g_size, → g_sys, g_get, → g_step, → g_upd, → g_updb, → g_updz, → g_mupd, → g_mupdm, → g_istep, → g_new1, → g_new2, → g_new3, → g_new4, → g_blk, → g_blk_lt, → g_own, → g_own_lt, → g_row, → g_map, → g_map_lt, → g_ownz, → g_ownz_lt, → g_news1, → g_news2, → g_news3, = g_mem_pb, = g_pb_none, = g_pb_some]
      · rw [show (DM.fresh0 i).now.map Value.string = List.replicate i (.string zsec) from List.map_replicate]
        have := o2.row
        grind (splits := 40) [→ g_size, → g_sys, g_get, → g_step, → g_upd, → g_updb, → g_updz, → g_mupd, → g_mupdm, → g_istep, → g_new1, → g_new2, → g_new3, → g_new4, → g_blk, → g_blk_lt, → g_own, → g_own_lt, → g_row, → g_map, → g_map_lt, → g_ownz, → g_ownz_lt, → g_news1, → g_news2, → g_news3, = g_mem_pb, = g_pb_none, = g_pb_some]
      · have eb : ((DM.fresh0 i).fresh.map Value.bool) = reps [.bool false] i := by
          rw [reps_one]; exact List.map_replicate
        have bb : Blk w120 k8 ((DM.fresh0 i).fresh.map .bool) := by rw [eb]; grind (splits := 40) [→ g_size, → g_sys, g_get, → g_step, → g_upd, → g_updb, → g_updz, → g_mupd, → g_mupdm, → g_istep, → g_new1, → g_new2, → g_new3, → g_new4, → g_blk, → g_blk_lt, → g_own, → g_own_lt, → g_row, → g_map, → g_map_lt, → g_ownz, → g_ownz_lt, → g_news1, → g_news2, → g_news3, = g_mem_pb, = g_pb_none, = g_pb_some]
        exact Row.all bb (bools_one _)
      · rintro ad (hp | hp | hp) hm
        · have := hF _ hm
          grind (splits := 40) [→ g_size, → g_sys, g_get, → g_step, → g_upd, → g_updb, → g_updz, → g_mupd, → g_mupdm, → g_istep, → g_new1, → g_new2, → g_new3, → g_new4, → g_blk, → g_blk_lt, → g_own, → g_own_lt, → g_row, → g_map, → g_map_lt, → g_ownz, → g_ownz_lt, → g_news1, → g_news2, → g_news3, = g_mem_pb, = g_pb_none, = g_pb_some]
        · have := hF _ hm
          grind (splits := 40) [→ g_size, → g_sys, g_get, → g_step, → g_upd, → g_updb, → g_updz, → g_mupd, → g_mupdm, → g_istep, → g_new1, → g_new2, → g_new3, → g_new4, → g_blk, → g_blk_lt, → g_own, → g_own_lt, → g_row, → g_map, → g_map_lt, → g_ownz, → g_ownz_lt, → g_news1, → g_news2, → g_news3, = g_mem_pb, = g_pb_none, = g_pb_some]
        · have := hF _ hm
          grind (splits := 40) [→ g_size, → g_sys, g_get, → g_step, → g_upd, → g_updb, → g_updz, → g_mupd, → g_mupdm, → g_istep, → g_new1, → g_new2, → g_new3, → g_new4, → g_blk, → g_blk_lt, → g_own, → g_own_lt, → g_row, → g_map, → g_map_lt, → g_ownz, → g_ownz_lt, → g_news1, → g_news2, → g_news3, = g_mem_pb, = g_pb_none, = g_pb_some]
  have bad : ∀ w4, Step w w4 [] [k1] → n < 1 ∨ 4096 < n → y2 true w4 := fun w4 st hc => by
    refine hy2 _ _ (bT rfl fun w5 st5 => ⟨?_, fun _ => rfl, fun h => absurd hc h⟩)
    clear hy2 good
    (refine mkFr ?_ ?_ ?_ <;> grind (splits := 40) [→ g_size, → g_sys, g_get, → g_step, → g_upd, → g_updb, → g_updz, → g_mupd, → g_mupdm, → g_istep, → g_new1, → g_new2, → g_new3, → g_new4, → g_blk, → g_blk_lt, → g_own, → g_own_lt, → g_row, → g_map, → g_map_lt, → g_ownz, → g_ownz_lt, → g_news1, → g_news2, → g_news3, = g_mem_pb, = g_pb_none, = g_pb_some])
  refine ⟨fun h => fun w4 st => bad w4 st (.inl (of_decide_eq_true h)), fun h w4 st => ?_⟩
  have h : ¬ n < 1 := of_decide_eq_false h
  by_cases h2 : 4096 < n
  · rw [decide_eq_true h2]; exact bad w4 st (.inr h2)
  · rw [decide_eq_false h2]; exact good w4 st (by omega) (by omega)

end Go.Proofs.Ytcaamecdhbgknaa.Disk

end
section
/- What the laws tell of both disks. -/
namespace Go.Proofs.Ytcaamecdhbgknaa.Disk
open Go Go.V
open Go.Proofs.Ytcaamecdhbgknaa.VC
open Go.Proofs.Try (prog)
set_option linter.unusedVariables false
set_option linter.unusedSimpArgs false
set_option maxRecDepth 20000

theorem tells_c {w : World} {b ms mf : Nat} {v : Value} {F : List Nat} {M : DM} (h : DiskAt w b ms mf M) (hv : RefAt w v F M) : Calls prog 32 #[D b, v] w fun e w' => e = .returned (.bool true) ∧ Fr [] w w' := by
  have hv0 := hv
  obtain ⟨hok, sA, sC, nA, nC, fA, fC, rfl, h1, h2, h3, h4⟩ := hv
  have hhi := hok.hi
  refine rhizomelaw03_Tells.link fun k1 y2 hy2 w35 st35 => ?_
  have all : ∀ w54, Fr [] w w54 → w35.heap.size ≤ w54.heap.size → y2 false w54 := fun w54 f54 z54 => by
    refine hy2 _ _ (bF rfl ?_)
    clear hy2
    refine ⟨fun m n w9 => ∃ i : Nat, n = i ∧ i ≤ M.sure.length ∧ m = M.sure.length - i ∧ Fr [] w w9 ∧ w35.heap.size ≤ w9.heap.size, M.sure.length, ⟨0, rfl, by omega, rfl, f54, z54⟩, fun m n w9 hI => ?_⟩
    obtain ⟨i, rfl, hi, rfl, f9, z9⟩ := hI
    have hD9 : DiskAt w9 b ms mf M := by grind (splits := 40) [→ g_size, → g_sys, g_get, → g_step, → g_upd, → g_updb, → g_updz, → g_mupd, → g_mupdm, → g_istep, → g_new1, → g_new2, → g_new3, → g_new4, → g_blk, → g_blk_lt, → g_own, → g_own_lt, → g_row, → g_map, → g_map_lt, → g_ownz, → g_ownz_lt, → g_news1, → g_news2, → g_news3, = g_mem_pb, = g_pb_none, = g_pb_some, → g_disk, → g_disk_lt, → g_ref]
    refine ⟨fun hlt => (read_c hD9 i).mono ?_, fun hge => ⟨rfl, f9⟩⟩
    have hlt : (i : Int) < (M.sure.length : Int) := of_decide_eq_true hlt
    rintro e w12 ⟨_, hr⟩
    obtain ⟨k, s, hs, rfl, hk, f12, b12⟩ := hr (by show ¬ ((i : Int) < 0 ∨ (M.sure.length : Int) ≤ i); omega)
    have e0 : ((i : Int)).toNat = i := by omega
    rw [e0] at hs
    have h64 := hok.w64 _ _ hs
    refine ⟨_, _, _, _, rfl, ?_, fun y17 hy17 => bF (by simp) ?_⟩
    · refine g_keep f12 ?_
      grind (splits := 40) [→ g_size, → g_sys, g_get, → g_step, → g_upd, → g_updb, → g_updz, → g_mupd, → g_mupdm, → g_istep, → g_new1, → g_new2, → g_new3, → g_new4, → g_blk, → g_blk_lt, → g_own, → g_own_lt, → g_row, → g_map, → g_map_lt, → g_ownz, → g_ownz_lt, → g_news1, → g_news2, → g_news3, = g_mem_pb, = g_pb_none, = g_pb_some, → g_disk, → g_disk_lt, → g_ref]
    refine row_str (Row.all b12 (byteCells_one s)) h64 ?_
    have hrow : Row w12 nA (M.now.map .string) := by grind (splits := 40) [→ g_size, → g_sys, g_get, → g_step, → g_upd, → g_updb, → g_updz, → g_mupd, → g_mupdm, → g_istep, → g_new1, → g_new2, → g_new3, → g_new4, → g_blk, → g_blk_lt, → g_own, → g_own_lt, → g_row, → g_map, → g_map_lt, → g_ownz, → g_ownz_lt, → g_news1, → g_news2, → g_news3, = g_mem_pb, = g_pb_none, = g_pb_some, → g_disk, → g_disk_lt, → g_ref]
    have hil : i < M.now.length := by rw [hok.now]; omega
    refine rd Value.string hrow rfl hil hlt fun w31 st31 => hy17 _ _ (bF ?_ ⟨M.sure.length - (i + 1), by omega, i + 1, ?_, by omega, rfl, ?_, ?_⟩)
    · have : M.now[i] = s := by
        rw [List.getElem?_eq_getElem hil] at hs; injection hs
      rw [str_eta, this]; simp
    · rw [wrapi (by omega) (by omega)]; simp
    · clear hy17
      (refine mkFr ?_ ?_ ?_ <;> grind (splits := 40) [→ g_size, → g_sys, g_get, → g_step, → g_upd, → g_updb, → g_updz, → g_mupd, → g_mupdm, → g_istep, → g_new1, → g_new2, → g_new3, → g_new4, → g_blk, → g_blk_lt, → g_own, → g_own_lt, → g_row, → g_map, → g_map_lt, → g_ownz, → g_ownz_lt, → g_news1, → g_news2, → g_news3, = g_mem_pb, = g_pb_none, = g_pb_some])
    · clear hy17
      grind (splits := 40) [→ g_size, → g_sys, g_get, → g_step, → g_upd, → g_updb, → g_updz, → g_mupd, → g_mupdm, → g_istep, → g_new1, → g_new2, → g_new3, → g_new4, → g_blk, → g_blk_lt, → g_own, → g_own_lt, → g_row, → g_map, → g_map_lt, → g_ownz, → g_ownz_lt, → g_news1, → g_news2, → g_news3, = g_mem_pb, = g_pb_none, = g_pb_some]
  clear hy2
  have hD35 : DiskAt w35 b ms mf M := by grind (splits := 40) [→ g_size, → g_sys, g_get, → g_step, → g_upd, → g_updb, → g_updz, → g_mupd, → g_mupdm, → g_istep, → g_new1, → g_new2, → g_new3, → g_new4, → g_blk, → g_blk_lt, → g_own, → g_own_lt, → g_row, → g_map, → g_map_lt, → g_ownz, → g_ownz_lt, → g_news1, → g_news2, → g_news3, = g_mem_pb, = g_pb_none, = g_pb_some, → g_disk, → g_disk_lt, → g_ref]
  refine (size_c hD35).mono ?_
  rintro e w38 ⟨rfl, rfl⟩
  refine ⟨_, rfl, fun b _ => rfl, bF (by simp [DM.n]) ((steps_c hD35).mono ?_)⟩
  rintro e w41 ⟨rfl, rfl⟩
  refine ⟨_, rfl, fun b _ => rfl, bF (by simp) ((unsure_c hD35).mono ?_)⟩
  rintro e w44 ⟨p, c, rfl, f44, r44, n44⟩
  have hv44 : RefAt w44 (rv sA sC nA nC fA fC M) F M := by grind (splits := 40) [→ g_size, → g_sys, g_get, → g_step, → g_upd, → g_updb, → g_updz, → g_mupd, → g_mupdm, → g_istep, → g_new1, → g_new2, → g_new3, → g_new4, → g_blk, → g_blk_lt, → g_own, → g_own_lt, → g_row, → g_map, → g_map_lt, → g_ownz, → g_ownz_lt, → g_news1, → g_news2, → g_news3, = g_mem_pb, = g_pb_none, = g_pb_some, → g_disk, → g_disk_lt, → g_ref]
  refine ⟨_, _, _, rfl, g_keep f44 (by grind (splits := 40) [→ g_size, → g_sys, g_get, → g_step, → g_upd, → g_updb, → g_updz, → g_mupd, → g_mupdm, → g_istep, → g_new1, → g_new2, → g_new3, → g_new4, → g_blk, → g_blk_lt, → g_own, → g_own_lt, → g_row, → g_map, → g_map_lt, → g_ownz, → g_ownz_lt, → g_news1, → g_news2, → g_news3, = g_mem_pb, = g_pb_none, = g_pb_some]), (runsure_c hv44).mono ?_⟩
  rintro e w49 ⟨p2, c2, rfl, f49, r49, n49⟩
  have r44' : Row w49 p (M.unsure.map I64) := by grind (splits := 40) [→ g_size, → g_sys, g_get, → g_step, → g_upd, → g_updb, → g_updz, → g_mupd, → g_mupdm, → g_istep, → g_new1, → g_new2, → g_new3, → g_new4, → g_blk, → g_blk_lt, → g_own, → g_own_lt, → g_row, → g_map, → g_map_lt, → g_ownz, → g_ownz_lt, → g_news1, → g_news2, → g_news3, = g_mem_pb, = g_pb_none, = g_pb_some]
  have hul := M.unsure_len
  refine ⟨_, _, _, rfl, g_keep f49 (by grind (splits := 40) [→ g_size, → g_sys, g_get, → g_step, → g_upd, → g_updb, → g_updz, → g_mupd, → g_mupdm, → g_istep, → g_new1, → g_new2, → g_new3, → g_new4, → g_blk, → g_blk_lt, → g_own, → g_own_lt, → g_row, → g_map, → g_map_lt, → g_ownz, → g_ownz_lt, → g_news1, → g_news2, → g_news3, = g_mem_pb, = g_pb_none, = g_pb_some]), (ints_c r44' r49 (by omega)).mono ?_⟩
  rintro e w54 ⟨rfl, f54⟩
  refine ⟨_, rfl, g_keep f54 (by grind (splits := 40) [→ g_size, → g_sys, g_get, → g_step, → g_upd, → g_updb, → g_updz, → g_mupd, → g_mupdm, → g_istep, → g_new1, → g_new2, → g_new3, → g_new4, → g_blk, → g_blk_lt, → g_own, → g_own_lt, → g_row, → g_map, → g_map_lt, → g_ownz, → g_ownz_lt, → g_news1, → g_news2, → g_news3, = g_mem_pb, = g_pb_none, = g_pb_some]), all w54 ?_ ?_⟩
  · (refine mkFr ?_ ?_ ?_ <;> grind (splits := 40) [→ g_size, → g_sys, g_get, → g_step, → g_upd, → g_updb, → g_updz, → g_mupd, → g_mupdm, → g_istep, → g_new1, → g_new2, → g_new3, → g_new4, → g_blk, → g_blk_lt, → g_own, → g_own_lt, → g_row, → g_map, → g_map_lt, → g_ownz, → g_ownz_lt, → g_news1, → g_news2, → g_news3, = g_mem_pb, = g_pb_none, = g_pb_some])
  · grind (splits := 40) [→ g_size, → g_sys, g_get, → g_step, → g_upd, → g_updb, → g_updz, → g_mupd, → g_mupdm, → g_istep, → g_new1, → g_new2, → g_new3, → g_new4, → g_blk, → g_blk_lt, → g_own, → g_own_lt, → g_row, → g_map, → g_map_lt, → g_ownz, → g_ownz_lt, → g_news1, → g_news2, → g_news3, = g_mem_pb, = g_pb_none, = g_pb_some]
end Go.Proofs.Ytcaamecdhbgknaa.Disk

end
section
/- One call of a script, on both disks. -/
namespace Go.Proofs.Ytcaamecdhbgknaa.Disk
open Go Go.V
open Go.Proofs.Ytcaamecdhbgknaa.VC
open Go.Proofs.Try (prog)
set_option linter.unusedVariables false
set_option linter.unusedSimpArgs false
set_option maxRecDepth 20000

/-- A call of a script. -/
structure POp where
  kind : Int
  n : Int
  cut : Int
  b : ByteArray
  raw : Bool
  keep : List Bool
def POp.data (o : POp) : ByteArray := if o.raw then o.b else round o.b
def DM.play (M : DM) (o : POp) : DM :=
  if o.kind = 1 then (M.write o.n o.data).1 else if o.kind = 2 then M.flush.1 else if o.kind = 3 then (M.arm o.n).1 else if o.kind = 4 then M.crash o.keep o.n o.cut else M

set_option maxHeartbeats 1000000 in
theorem play_c {w : World} {b ms mf : Nat} {v : Value} {F : List Nat} {M : DM} (h : DiskAt w b ms mf M) (hv : RefAt w v F M) (hF : ∀ x ∈ F, x < w.heap.size) (hbF : ∀ x ∈ [b, ms, mf], x ∈ F) (o : POp) {oBA oKA : Option Addr} {oBC oKC : Nat}
    (hB : Row w oBA (byteCells o.b)) (hBz : o.b.size ≤ 140737488351232) (hBd : (∀ ad, oBA = some ad → ad.block ∉ [b, ms, mf]) ∨ o.b.size = 0) (hK : Row w oKA (o.keep.map .bool)) (hKz : o.keep.length ≤ 140737488351232) (hKd : (∀ ad, oKA = some ad → ad.block ∉ [b, ms, mf]) ∨ o.keep = []) (hn : o.n < 9223372036854775808) :
    Calls prog 31 #[D b, v, .agg #[I64 o.kind, I64 o.n, I64 o.cut, .slice oBA o.b.size oBC, .bool o.raw, .slice oKA o.keep.length oKC]] w fun e w' => ∃ b' ms' mf' v', e = .returned (.tuple #[D b', v', .bool true]) ∧ Fr [b, ms, mf] w w' ∧ DiskAt w' b' ms' mf' (M.play o) ∧
      RefAt w' v' (F ++ [b', ms', mf']) (M.play o) ∧ ∀ x ∈ [b', ms', mf'], x ∈ [b, ms, mf] ∨ w.heap.size ≤ x := by
  have hv0 := hv
  obtain ⟨hok, sA, sC, nA, nC, fA, fC, rfl, -, -, -, -⟩ := hv
  refine rhizomelaw03_Play.link fun k1 k2 k3 y4 hy4 => ?_
  have fin : ∀ (b' ms' mf' : Nat) (w19 : World) (n : Int) (M' : DM) (sA' : Option Addr) (sC' : Nat) (nA' : Option Addr) (nC' : Nat) (fA' : Option Addr) (fC' : Nat), M' = M.play o → Fr [b, ms, mf] w w19 → w.heap.size ≤ k3 → k3 ∉ [b', ms', mf'] → DiskAt w19 b' ms' mf' M' →
      RefAt w19 (rv sA' sC' nA' nC' fA' fC' M') (F ++ [k1, k2, k3] ++ [b', ms', mf']) M' → (∀ x ∈ [b', ms', mf'], x ∈ [b, ms, mf] ∨ w.heap.size ≤ x) → y4 (some ⟨b', 0, none⟩) n n sA' M'.sure.length sC' nA' M'.sure.length nC' fA' M'.sure.length fC' M'.steps M'.left w19 := by
    intro b' ms' mf' w19 n M' sA' sC' nA' nC' fA' fC' e f19 hk hk' hD hR hx
    subst e
    refine hy4 _ _ _ _ _ _ _ _ _ _ _ _ _ _ _ fun w20 st => ⟨b', ms', mf', rv sA' sC' nA' nC' fA' fC' (M.play o), by simp only [decide_eq_true (rfl : n = n)]; rfl, ?_, ?_, ?_, hx⟩
    · clear hy4
      (refine mkFr ?_ ?_ ?_ <;> grind (splits := 40) [→ g_size, → g_sys, g_get, → g_step, → g_upd, → g_updb, → g_updz, → g_mupd, → g_mupdm, → g_istep, → g_new1, → g_new2, → g_new3, → g_new4, → g_blk, → g_blk_lt, → g_own, → g_own_lt, → g_row, → g_map, → g_map_lt, → g_ownz, → g_ownz_lt, → g_news1, → g_news2, → g_news3, = g_mem_pb, = g_pb_none, = g_pb_some, → g_disk, → g_disk_lt, → g_ref])
    · clear hy4
      grind (splits := 40) [→ g_size, → g_sys, g_get, → g_step, → g_upd, → g_updb, → g_updz, → g_mupd, → g_mupdm, → g_istep, → g_new1, → g_new2, → g_new3, → g_new4, → g_blk, → g_blk_lt, → g_own, → g_own_lt, → g_row, → g_map, → g_map_lt, → g_ownz, → g_ownz_lt, → g_news1, → g_news2, → g_news3, = g_mem_pb, = g_pb_none, = g_pb_some, → g_disk, → g_disk_lt, → g_ref]
    · clear hy4
      have : RefAt w20 (rv sA' sC' nA' nC' fA' fC' (M.play o)) (F ++ [k1, k2, k3] ++ [b', ms', mf']) (M.play o) := by grind (splits := 40) [→ g_size, → g_sys, g_get, → g_step, → g_upd, → g_updb, → g_updz, → g_mupd, → g_mupdm, → g_istep, → g_new1, → g_new2, → g_new3, → g_new4, → g_blk, → g_blk_lt, → g_own, → g_own_lt, → g_row, → g_map, → g_map_lt, → g_ownz, → g_ownz_lt, → g_news1, → g_news2, → g_news3, = g_mem_pb, = g_pb_none, = g_pb_some, → g_disk, → g_disk_lt, → g_ref]
      exact this.less (fun x hx => by simp at hx ⊢; rcases hx with hx | hx | hx | hx <;> simp [hx])
  clear hy4
  replace fin := Hid.mk fin
  -- where the disk stays the same
  have fin2 : ∀ (w19 : World) (n : Int) (M' : DM) (sA' : Option Addr) (sC' : Nat) (nA' : Option Addr) (nC' : Nat) (fA' : Option Addr) (fC' : Nat), M' = M.play o → Fr [b, ms, mf] w w19 → w.heap.size ≤ k3 → DiskAt w19 b ms mf M' →
      RefAt w19 (rv sA' sC' nA' nC' fA' fC' M') (F ++ [k1, k2, k3]) M' → y4 (some ⟨b, 0, none⟩) n n sA' M'.sure.length sC' nA' M'.sure.length nC' fA' M'.sure.length fC' M'.steps M'.left w19 := by
    intro w19 n M' sA' sC' nA' nC' fA' fC' e f19 hk hD hR
    refine fin.get b ms mf w19 n M' _ _ _ _ _ _ e f19 hk ?_ hD (hR.less fun x hx => ?_) (fun x hx => .inl hx)
    · have := h.bs
      simp; omega
    · rcases List.mem_append.1 hx with hx | hx
      · exact hx
      · exact List.mem_append_left _ (hbF x hx)
  replace fin2 := Hid.mk fin2
  -- both behind the first step
  have beg : ∀ w4, Step w w4 [] [k3, k2, k1] → DiskAt w4 b ms mf M ∧ RefAt w4 (rv sA sC nA nC fA fC M) (F ++ [k1, k2, k3]) M := fun w4 st => by
    refine ⟨by grind (splits := 40) [→ g_size, → g_sys, g_get, → g_step, → g_upd, → g_updb, → g_updz, → g_mupd, → g_mupdm, → g_istep, → g_new1, → g_new2, → g_new3, → g_new4, → g_blk, → g_blk_lt, → g_own, → g_own_lt, → g_row, → g_map, → g_map_lt, → g_ownz, → g_ownz_lt, → g_news1, → g_news2, → g_news3, = g_mem_pb, = g_pb_none, = g_pb_some, → g_disk, → g_disk_lt, → g_ref], (hv0.more (G := [k1, k2, k3]) ?_).fr st.fr (by simp)⟩
    have := g_new3 st
    intro x hx
    simp at hx
    omega
  replace beg := Hid.mk beg
  have hF3 : ∀ w4 w5 : World, Step w w4 [] [k3, k2, k1] → w4.heap.size ≤ w5.heap.size → ∀ x ∈ F ++ [k1, k2, k3], x < w5.heap.size := fun w4 w5 st hz x hx => by
    have := g_new3 st
    rcases List.mem_append.1 hx with hx | hx
    · have := hF x hx
      have := st.size
      omega
    · simp at hx
      omega
  replace hF3 := Hid.mk hF3
  refine ⟨fun hk => ?_, fun hk1 => ⟨fun hk => ?_, fun hk2 => ⟨fun hk => ?_, fun hk3 => ⟨fun hk => ?_, fun hk4 => ?_⟩⟩⟩⟩
  · have hk : o.kind = 1 := of_decide_eq_true hk
    have hp : M.play o = (M.write o.n o.data).1 := by unfold DM.play; rw [if_pos hk]
    intro y24 hy24
    have all : ∀ (p25 : Option Addr) (k27 : Nat) (w28 w4 : World), Step w w4 [] [k3, k2, k1] → Fr [] w4 w28 → Row w28 p25 (byteCells o.data) → o.data.size ≤ 140737488351232 → (∀ ad, p25 = some ad → 0 < (byteCells o.data).length → ad.block ∉ [b, ms, mf, k1]) → y24 p25 o.data.size k27 w28 := by
      intro p25 k27 w28 w4 st4 f28 r28 hz hd
      refine hy24 _ _ _ _ fun k29 w30 st30 b30 => ⟨byteCells o.data, by rw [byteCells_length, Nat.mul_one], by grind (splits := 40) [→ g_size, → g_sys, g_get, → g_step, → g_upd, → g_updb, → g_updz, → g_mupd, → g_mupdm, → g_istep, → g_new1, → g_new2, → g_new3, → g_new4, → g_blk, → g_blk_lt, → g_own, → g_own_lt, → g_row, → g_map, → g_map_lt, → g_ownz, → g_ownz_lt, → g_news1, → g_news2, → g_news3, = g_mem_pb, = g_pb_none, = g_pb_some, → g_disk, → g_disk_lt, → g_ref], ?_⟩
      clear hy24
      have n4 := g_new3 st4
      have o30 : OwnZ w30 w28.heap.size 1 (some ⟨k29, 0, none⟩) 0 0 [] := OwnZ.blk (b := k29) (n := 0) b30 (by simp) (fun u hu => by cases hu) (st30.new k29 (by simp)).1
      refine append_z o30 (by rw [byteCells_length, Nat.mul_one]) (byteCells_one _) (by grind (splits := 40) [→ g_size, → g_sys, g_get, → g_step, → g_upd, → g_updb, → g_updz, → g_mupd, → g_mupdm, → g_istep, → g_new1, → g_new2, → g_new3, → g_new4, → g_blk, → g_blk_lt, → g_own, → g_own_lt, → g_row, → g_map, → g_map_lt, → g_ownz, → g_ownz_lt, → g_news1, → g_news2, → g_news3, = g_mem_pb, = g_pb_none, = g_pb_some]) rfl (fun _ => rfl) (fun ad _ => by simp) ?_ (by omega) (by omega) fun w34 p35 c35 f34 _ o34 d34 => ?_
      · grind (splits := 40) [→ g_size, → g_sys, g_get, → g_step, → g_upd, → g_updb, → g_updz, → g_mupd, → g_mupdm, → g_istep, → g_new1, → g_new2, → g_new3, → g_new4, → g_blk, → g_blk_lt, → g_own, → g_own_lt, → g_row, → g_map, → g_map_lt, → g_ownz, → g_ownz_lt, → g_news1, → g_news2, → g_news3, = g_mem_pb, = g_pb_none, = g_pb_some]
      rw [List.nil_append] at o34
      obtain ⟨hD4, hR4⟩ := beg.get w4 st4
      have hD34 : DiskAt w34 b ms mf M := by grind (splits := 40) [→ g_size, → g_sys, g_get, → g_step, → g_upd, → g_updb, → g_updz, → g_mupd, → g_mupdm, → g_istep, → g_new1, → g_new2, → g_new3, → g_new4, → g_blk, → g_blk_lt, → g_own, → g_own_lt, → g_row, → g_map, → g_map_lt, → g_ownz, → g_ownz_lt, → g_news1, → g_news2, → g_news3, = g_mem_pb, = g_pb_none, = g_pb_some, → g_disk, → g_disk_lt, → g_ref]
      have r34 := o34.row
      have bs34 := hD34.bs
      have hbs := h.bs
      have e0 : 0 + o.data.size = o.data.size := Nat.zero_add _
      rw [e0] at o34 ⊢
      refine (write_c hD34 o.n r34 ?_).mono ?_
      · clear r34 hK hB
        grind (splits := 40) [→ g_size, → g_sys, g_get, → g_step, → g_upd, → g_updb, → g_updz, → g_mupd, → g_mupdm, → g_istep, → g_new1, → g_new2, → g_new3, → g_new4, → g_blk, → g_blk_lt, → g_own, → g_own_lt, → g_row, → g_map, → g_map_lt, → g_ownz, → g_ownz_lt, → g_news1, → g_news2, → g_news3, = g_mem_pb, = g_pb_none, = g_pb_some]
      rintro e w39 ⟨rfl, f39, hD39⟩
      have p35n : ∀ x ∈ pb p35, w28.heap.size ≤ x ∧ x < w34.heap.size := fun x hx => by
        rw [g_mem_pb] at hx
        obtain ⟨ad, hp, rfl⟩ := hx
        exact o34.lt hp
      have hR34 : RefAt w34 (rv sA sC nA nC fA fC M) (F ++ [k1, k2, k3] ++ pb p35) M := by
        refine ((hR4.fr f28 (by simp)).more (G := pb p35) (fun x hx => (p35n x hx).1)).fr (G := []) ?_ (by simp)
        (refine mkFr ?_ ?_ ?_ <;> grind (splits := 40) [→ g_size, → g_sys, g_get, → g_step, → g_upd, → g_updb, → g_updz, → g_mupd, → g_mupdm, → g_istep, → g_new1, → g_new2, → g_new3, → g_new4, → g_blk, → g_blk_lt, → g_own, → g_own_lt, → g_row, → g_map, → g_map_lt, → g_ownz, → g_ownz_lt, → g_news1, → g_news2, → g_news3, = g_mem_pb, = g_pb_none, = g_pb_some])
      have hR39 : RefAt w39 (rv sA sC nA nC fA fC M) (F ++ [k1, k2, k3] ++ pb p35) M := hR34.fr f39 (fun x hx => .inl (List.mem_append_left _ (List.mem_append_left _ (hbF x hx))))
      have f2839 : Fr [b, ms, mf] w28 w39 := by
        clear hR4 hR34 hR39 hB hK r34 r28
        (refine mkFr ?_ ?_ ?_ <;> grind (splits := 40) [→ g_size, → g_sys, g_get, → g_step, → g_upd, → g_updb, → g_updz, → g_mupd, → g_mupdm, → g_istep, → g_new1, → g_new2, → g_new3, → g_new4, → g_blk, → g_blk_lt, → g_own, → g_own_lt, → g_row, → g_map, → g_map_lt, → g_ownz, → g_ownz_lt, → g_news1, → g_news2, → g_news3, = g_mem_pb, = g_pb_none, = g_pb_some])
      refine ⟨_, rfl, g_keep f39 ?_, row_str (s := o.data) (row_fr0 f2839 r28 fun ad hp h0 hm => hd ad hp h0 (by simp at hm ⊢; omega)) rfl ?_⟩
      · clear hR4 hR34 hR39 hB hK r34
        grind (splits := 40) [→ g_size, → g_sys, g_get, → g_step, → g_upd, → g_updb, → g_updz, → g_mupd, → g_mupdm, → g_istep, → g_new1, → g_new2, → g_new3, → g_new4, → g_blk, → g_blk_lt, → g_own, → g_own_lt, → g_row, → g_map, → g_map_lt, → g_ownz, → g_ownz_lt, → g_news1, → g_news2, → g_news3, = g_mem_pb, = g_pb_none, = g_pb_some]
      rw [str_eta]
      have z39 := f39.size
      have z34 := f34.size
      have z30 := st30.size
      have z28 := f28.size
      refine (rwrite_c hR39 (fun x hx => by
        rcases List.mem_append.1 hx with hx | hx
        · exact hF3.get w4 w39 st4 (by omega) x hx
        · have := (p35n x hx).2; omega) o.n o.data).mono ?_
      rintro e w46 ⟨v', rfl, f46, hR46⟩
      have hR46' := hR46
      obtain ⟨_, sA6, sC6, nA6, nC6, fA6, fC6, rfl, -, -, -, -⟩ := hR46
      have o46 : OwnZ w46 w28.heap.size 1 p35 o.data.size c35 (byteCells o.data) := by
        clear hR4 hR34 hR39 hR46' hB hK r34
        grind (splits := 40) [→ g_size, → g_sys, g_get, → g_step, → g_upd, → g_updb, → g_updz, → g_mupd, → g_mupdm, → g_istep, → g_new1, → g_new2, → g_new3, → g_new4, → g_blk, → g_blk_lt, → g_own, → g_own_lt, → g_row, → g_map, → g_map_lt, → g_ownz, → g_ownz_lt, → g_news1, → g_news2, → g_news3, = g_mem_pb, = g_pb_none, = g_pb_some]
      have hD46 : DiskAt w46 b ms mf (M.write o.n o.data).1 := hD39.fr f46 (by simp)
      have f0 : Fr [b, ms, mf] w w46 := by
        clear hR4 hR34 hR39 hR46' hB hK r34
        (refine mkFr ?_ ?_ ?_ <;> grind (splits := 40) [→ g_size, → g_sys, g_get, → g_step, → g_upd, → g_updb, → g_updz, → g_mupd, → g_mupdm, → g_istep, → g_new1, → g_new2, → g_new3, → g_new4, → g_blk, → g_blk_lt, → g_own, → g_own_lt, → g_row, → g_map, → g_map_lt, → g_ownz, → g_ownz_lt, → g_news1, → g_news2, → g_news3, = g_mem_pb, = g_pb_none, = g_pb_some])
      refine ⟨_, _, _, _, _, _, _, _, _, _, _, _, rfl, g_keep f46 ?_, fun m n w' => ∃ (i : Nat) (cs : List Value), n = i ∧ i ≤ o.data.size ∧ m = o.data.size - i ∧ OwnZ w' w28.heap.size 1 p35 o.data.size c35 cs ∧ (∀ j, i ≤ j → cs[j]? = (byteCells o.data)[j]?) ∧ Fr ([k1] ++ pb p35) w46 w', o.data.size, fun w61 st61 => ⟨0, _, rfl, by omega, rfl, ?_, fun j _ => rfl, ?_⟩, fun m n w65 hI => ?_⟩
      · clear hR4 hR34 hR39 hR46' hB hK r34
        grind (splits := 40) [→ g_size, → g_sys, g_get, → g_step, → g_upd, → g_updb, → g_updz, → g_mupd, → g_mupdm, → g_istep, → g_new1, → g_new2, → g_new3, → g_new4, → g_blk, → g_blk_lt, → g_own, → g_own_lt, → g_row, → g_map, → g_map_lt, → g_ownz, → g_ownz_lt, → g_news1, → g_news2, → g_news3, = g_mem_pb, = g_pb_none, = g_pb_some]
      · clear hR4 hR34 hR39 hR46' hB hK r34
        grind (splits := 40) [→ g_size, → g_sys, g_get, → g_step, → g_upd, → g_updb, → g_updz, → g_mupd, → g_mupdm, → g_istep, → g_new1, → g_new2, → g_new3, → g_new4, → g_blk, → g_blk_lt, → g_own, → g_own_lt, → g_row, → g_map, → g_map_lt, → g_ownz, → g_ownz_lt, → g_news1, → g_news2, → g_news3, = g_mem_pb, = g_pb_none, = g_pb_some]
      · clear hR4 hR34 hR39 hR46' hB hK r34
        (refine mkFr ?_ ?_ ?_ <;> grind (splits := 40) [→ g_size, → g_sys, g_get, → g_step, → g_upd, → g_updb, → g_updz, → g_mupd, → g_mupdm, → g_istep, → g_new1, → g_new2, → g_new3, → g_new4, → g_blk, → g_blk_lt, → g_own, → g_own_lt, → g_row, → g_map, → g_map_lt, → g_ownz, → g_ownz_lt, → g_news1, → g_news2, → g_news3, = g_mem_pb, = g_pb_none, = g_pb_some])
      obtain ⟨i, cs, rfl, hi, rfl, o65, hcs, f65⟩ := hI
      have r65 := o65.row
      have p35n : ∀ ad, p35 = some ad → w28.heap.size ≤ ad.block := fun ad hp => (o65.lt hp).1
      have f2865 : Fr [b, ms, mf, k1] w28 w65 := by
        clear hR4 hR34 hR39 hR46' hB hK r34 r28
        (refine mkFr ?_ ?_ ?_ <;> grind (splits := 40) [→ g_size, → g_sys, g_get, → g_step, → g_upd, → g_updb, → g_updz, → g_mupd, → g_mupdm, → g_istep, → g_new1, → g_new2, → g_new3, → g_new4, → g_blk, → g_blk_lt, → g_own, → g_own_lt, → g_row, → g_map, → g_map_lt, → g_ownz, → g_ownz_lt, → g_news1, → g_news2, → g_news3, = g_mem_pb, = g_pb_none, = g_pb_some])
      have rb65 : Row w65 p25 (byteCells o.data) := row_fr0 f2865 r28 hd
      refine ⟨fun hlt => ?_, fun hge => ?_⟩
      · have hlt : (i : Int) < (o.data.size : Int) := of_decide_eq_true hlt
        have hil : i < o.data.data.size := by show i < o.data.size; omega
        have hg : (byteCells o.data)[i]? = some (.int .u8 (o.data.data[i].toNat : Int)) := by rw [byteCells_get, Array.getElem?_eq_getElem hil]; rfl
        obtain ⟨a1, e1, c1, c2⟩ := rdv r65 rfl (by rw [hcs i (Nat.le_refl _)]; exact hg) hlt
        obtain ⟨a2, e2, c3, c4⟩ := rdv rb65 rfl hg hlt
        refine ⟨a1, e1, c1, _, c2, a2, e2, c3, _, c4, bF (by simp) ⟨a1, e1, c1, _, c2, a1, e1, c1, fun w76 st76 => ?_⟩⟩
        have o76 : OwnZ w76 w28.heap.size 1 p35 o.data.size c35 cs := by
          clear hR4 hR34 hR39 hR46' hB hK r34 r28 rb65 r65
          grind (splits := 40) [→ g_size, → g_sys, g_get, → g_step, → g_upd, → g_updb, → g_updz, → g_mupd, → g_mupdm, → g_istep, → g_new1, → g_new2, → g_new3, → g_new4, → g_blk, → g_blk_lt, → g_own, → g_own_lt, → g_row, → g_map, → g_map_lt, → g_ownz, → g_ownz_lt, → g_news1, → g_news2, → g_news3, = g_mem_pb, = g_pb_none, = g_pb_some]
        refine own_store o76 e1 rfl (by omega) rfl ?_ fun w79 _ f79 z79 o79 => ⟨o.data.size - (i + 1), by omega, i + 1, _, by rw [wrapi (by omega) (by omega)]; simp, by omega, rfl, o79, fun j hj => ?_, ?_⟩
        · have := (o65.lt e1).1
          have := f28.size
          simp; omega
        · rw [List.getElem?_set_ne (by omega)]; exact hcs j (by omega)
        · clear hR4 hR34 hR39 hR46' hB hK r34 r28 rb65 r65
          (refine mkFr ?_ ?_ ?_ <;> grind (splits := 40) [→ g_size, → g_sys, g_get, → g_step, → g_upd, → g_updb, → g_updz, → g_mupd, → g_mupdm, → g_istep, → g_new1, → g_new2, → g_new3, → g_new4, → g_blk, → g_blk_lt, → g_own, → g_own_lt, → g_row, → g_map, → g_map_lt, → g_ownz, → g_ownz_lt, → g_news1, → g_news2, → g_news3, = g_mem_pb, = g_pb_none, = g_pb_some])
      · refine fin2.get w65 _ _ _ _ _ _ _ _ hp.symm ?_ (by omega) (hD46.fr f65 ?_) ((hR46'.fr f65 ?_).less ?_)
        · clear hR4 hR34 hR39 hR46' hB hK r34 r28 rb65 r65
          (refine mkFr ?_ ?_ ?_ <;> grind (splits := 40) [→ g_size, → g_sys, g_get, → g_step, → g_upd, → g_updb, → g_updz, → g_mupd, → g_mupdm, → g_istep, → g_new1, → g_new2, → g_new3, → g_new4, → g_blk, → g_blk_lt, → g_own, → g_own_lt, → g_row, → g_map, → g_map_lt, → g_ownz, → g_ownz_lt, → g_news1, → g_news2, → g_news3, = g_mem_pb, = g_pb_none, = g_pb_some])
        · clear hR4 hR34 hR39 hR46' hB hK r34 r28 rb65 r65
          grind (splits := 40) [→ g_size, → g_sys, g_get, → g_step, → g_upd, → g_updb, → g_updz, → g_mupd, → g_mupdm, → g_istep, → g_new1, → g_new2, → g_new3, → g_new4, → g_blk, → g_blk_lt, → g_own, → g_own_lt, → g_row, → g_map, → g_map_lt, → g_ownz, → g_ownz_lt, → g_news1, → g_news2, → g_news3, = g_mem_pb, = g_pb_none, = g_pb_some, → g_disk, → g_disk_lt, → g_ref]
        · intro x hx
          left
          rcases List.mem_append.1 hx with hx | hx
          · simp at hx; simp [hx]
          · exact List.mem_append_right _ hx
        · exact fun x hx => List.mem_append_left _ hx
    replace all := Hid.mk all
    clear hy24
    refine ⟨fun hr w84 st84 => ?_, fun hr w91 st91 => ?_⟩
    · have hr : o.raw = false := by simpa using hr
      have ed : o.data = round o.b := by unfold POp.data; rw [hr]; rfl
      have hB84 : Row w84 oBA (byteCells o.b) := g_row st84.fr hB fun ad hp _ => by simp
      refine (bytes_c w84 hB84).mono ?_
      rintro e w87 ⟨k, rfl, hk87, f87, b87⟩
      refine ⟨_, _, _, rfl, g_keep f87 ?_, ?_⟩
      · clear hB hK hB84
        grind (splits := 40) [→ g_size, → g_sys, g_get, → g_step, → g_upd, → g_updb, → g_updz, → g_mupd, → g_mupdm, → g_istep, → g_new1, → g_new2, → g_new3, → g_new4, → g_blk, → g_blk_lt, → g_own, → g_own_lt, → g_row, → g_map, → g_map_lt, → g_ownz, → g_ownz_lt, → g_news1, → g_news2, → g_news3, = g_mem_pb, = g_pb_none, = g_pb_some]
      · have h64 : o.data.size = 64 := by rw [ed]; exact round_size _
        have := all.get (some ⟨k, 0, none⟩) 64 w87 w84 st84 f87 (by rw [ed]; exact Row.all b87 (byteCells_one _)) (by omega) (fun ad hp _ => by
          injection hp with hp; subst hp
          have := g_new3 st84
          have := h.bs
          have := st84.size
          simp; omega)
        rw [h64] at this
        exact this
    · have hr : o.raw = true := by simpa using hr
      have ed : o.data = o.b := by unfold POp.data; rw [hr]; rfl
      have := all.get oBA oBC w91 w91 st91 (Fr.refl _ _) (by rw [ed]; exact g_row st91.fr hB fun ad hp _ => by simp) (by rw [ed]; exact hBz) (fun ad hp h0 => by
        rw [ed] at h0
        have h1 : ad.block ∉ [b, ms, mf] := by
          rcases hBd with hBd | hBd
          · exact hBd ad hp
          · rw [byteCells_length] at h0; omega
        rw [hp] at hB
        have h2 := Row.lt hB h0
        have := g_new3 st91
        simp at h1 ⊢; omega)
      rw [ed] at this
      exact this
  · have hk1 : ¬ o.kind = 1 := of_decide_eq_false hk1
    have hk : o.kind = 2 := of_decide_eq_true hk
    have hp : M.play o = M.flush.1 := by unfold DM.play; rw [if_neg hk1, if_pos hk]
    intro w93 st93
    obtain ⟨hD93, hR93⟩ := beg.get w93 st93
    have n93 := g_new3 st93
    refine (flush_c hD93).mono ?_
    rintro e w96 ⟨rfl, f96, hD96⟩
    have hR96 : RefAt w96 (rv sA sC nA nC fA fC M) (F ++ [k1, k2, k3]) M := hR93.fr f96 (fun x hx => .inl (List.mem_append_left _ (hbF x hx)))
    refine ⟨_, rfl, g_keep f96 ?_, (rflush_c hR96 (hF3.get w93 w96 st93 f96.size)).mono ?_⟩
    · clear hR93 hR96 hB hK
      grind (splits := 40) [→ g_size, → g_sys, g_get, → g_step, → g_upd, → g_updb, → g_updz, → g_mupd, → g_mupdm, → g_istep, → g_new1, → g_new2, → g_new3, → g_new4, → g_blk, → g_blk_lt, → g_own, → g_own_lt, → g_row, → g_map, → g_map_lt, → g_ownz, → g_ownz_lt, → g_news1, → g_news2, → g_news3, = g_mem_pb, = g_pb_none, = g_pb_some, → g_disk, → g_disk_lt, → g_ref]
    rintro e w99 ⟨v', rfl, f99, hR99⟩
    have hR99' := hR99
    obtain ⟨_, sA6, sC6, nA6, nC6, fA6, fC6, rfl, -, -, -, -⟩ := hR99
    refine ⟨_, _, _, _, _, _, _, _, _, _, _, _, rfl, g_keep f99 ?_, fun w112 st112 => fin2.get w112 _ _ _ _ _ _ _ _ hp.symm ?_ (by omega) ?_ ?_⟩
    · clear hR93 hR96 hB hK hR99'
      grind (splits := 40) [→ g_size, → g_sys, g_get, → g_step, → g_upd, → g_updb, → g_updz, → g_mupd, → g_mupdm, → g_istep, → g_new1, → g_new2, → g_new3, → g_new4, → g_blk, → g_blk_lt, → g_own, → g_own_lt, → g_row, → g_map, → g_map_lt, → g_ownz, → g_ownz_lt, → g_news1, → g_news2, → g_news3, = g_mem_pb, = g_pb_none, = g_pb_some, → g_disk, → g_disk_lt, → g_ref]
    · clear hR93 hR96 hB hK hR99'
      (refine mkFr ?_ ?_ ?_ <;> grind (splits := 40) [→ g_size, → g_sys, g_get, → g_step, → g_upd, → g_updb, → g_updz, → g_mupd, → g_mupdm, → g_istep, → g_new1, → g_new2, → g_new3, → g_new4, → g_blk, → g_blk_lt, → g_own, → g_own_lt, → g_row, → g_map, → g_map_lt, → g_ownz, → g_ownz_lt, → g_news1, → g_news2, → g_news3, = g_mem_pb, = g_pb_none, = g_pb_some, → g_disk, → g_disk_lt, → g_ref])
    · clear hR93 hR96 hB hK hR99'
      grind (splits := 40) [→ g_size, → g_sys, g_get, → g_step, → g_upd, → g_updb, → g_updz, → g_mupd, → g_mupdm, → g_istep, → g_new1, → g_new2, → g_new3, → g_new4, → g_blk, → g_blk_lt, → g_own, → g_own_lt, → g_row, → g_map, → g_map_lt, → g_ownz, → g_ownz_lt, → g_news1, → g_news2, → g_news3, = g_mem_pb, = g_pb_none, = g_pb_some, → g_disk, → g_disk_lt, → g_ref]
    · clear hR93 hR96 hB hK
      have : RefAt w112 (rv sA6 sC6 nA6 nC6 fA6 fC6 M.flush.1) (F ++ [k1, k2, k3]) M.flush.1 := hR99'.fr st112.fr (by simp)
      exact this
  · have hk1 : ¬ o.kind = 1 := of_decide_eq_false hk1
    have hk2 : ¬ o.kind = 2 := of_decide_eq_false hk2
    have hk : o.kind = 3 := of_decide_eq_true hk
    have hp : M.play o = (M.arm o.n).1 := by unfold DM.play; rw [if_neg hk1, if_neg hk2, if_pos hk]
    intro w93 st93
    obtain ⟨hD93, hR93⟩ := beg.get w93 st93
    have n93 := g_new3 st93
    refine (arm_c hD93 hn).mono ?_
    rintro e w96 ⟨rfl, f96, hD96⟩
    have hR96 : RefAt w96 (rv sA sC nA nC fA fC M) (F ++ [k1, k2, k3]) M := hR93.fr f96 (fun x hx => .inl (List.mem_append_left _ (hbF x (by simp at hx ⊢; simp [hx]))))
    refine ⟨_, rfl, g_keep f96 ?_, (rarm_c hR96 hn).mono ?_⟩
    · clear hR93 hR96 hB hK
      grind (splits := 40) [→ g_size, → g_sys, g_get, → g_step, → g_upd, → g_updb, → g_updz, → g_mupd, → g_mupdm, → g_istep, → g_new1, → g_new2, → g_new3, → g_new4, → g_blk, → g_blk_lt, → g_own, → g_own_lt, → g_row, → g_map, → g_map_lt, → g_ownz, → g_ownz_lt, → g_news1, → g_news2, → g_news3, = g_mem_pb, = g_pb_none, = g_pb_some, → g_disk, → g_disk_lt, → g_ref]
    rintro e w99 ⟨v', rfl, f99, hR99⟩
    have hR99' := hR99
    obtain ⟨_, sA6, sC6, nA6, nC6, fA6, fC6, rfl, -, -, -, -⟩ := hR99
    refine ⟨_, _, _, _, _, _, _, _, _, _, _, _, rfl, g_keep f99 ?_, fun w112 st112 => fin2.get w112 _ _ _ _ _ _ _ _ hp.symm ?_ (by omega) ?_ ?_⟩
    · clear hR93 hR96 hB hK hR99'
      grind (splits := 40) [→ g_size, → g_sys, g_get, → g_step, → g_upd, → g_updb, → g_updz, → g_mupd, → g_mupdm, → g_istep, → g_new1, → g_new2, → g_new3, → g_new4, → g_blk, → g_blk_lt, → g_own, → g_own_lt, → g_row, → g_map, → g_map_lt, → g_ownz, → g_ownz_lt, → g_news1, → g_news2, → g_news3, = g_mem_pb, = g_pb_none, = g_pb_some, → g_disk, → g_disk_lt, → g_ref]
    · clear hR93 hR96 hB hK hR99'
      (refine mkFr ?_ ?_ ?_ <;> grind (splits := 40) [→ g_size, → g_sys, g_get, → g_step, → g_upd, → g_updb, → g_updz, → g_mupd, → g_mupdm, → g_istep, → g_new1, → g_new2, → g_new3, → g_new4, → g_blk, → g_blk_lt, → g_own, → g_own_lt, → g_row, → g_map, → g_map_lt, → g_ownz, → g_ownz_lt, → g_news1, → g_news2, → g_news3, = g_mem_pb, = g_pb_none, = g_pb_some, → g_disk, → g_disk_lt, → g_ref])
    · clear hR93 hR96 hB hK hR99'
      grind (splits := 40) [→ g_size, → g_sys, g_get, → g_step, → g_upd, → g_updb, → g_updz, → g_mupd, → g_mupdm, → g_istep, → g_new1, → g_new2, → g_new3, → g_new4, → g_blk, → g_blk_lt, → g_own, → g_own_lt, → g_row, → g_map, → g_map_lt, → g_ownz, → g_ownz_lt, → g_news1, → g_news2, → g_news3, = g_mem_pb, = g_pb_none, = g_pb_some, → g_disk, → g_disk_lt, → g_ref]
    · clear hR93 hR96 hB hK
      have : RefAt w112 (rv sA6 sC6 nA6 nC6 fA6 fC6 (M.arm o.n).1) (F ++ [k1, k2, k3]) (M.arm o.n).1 := hR99'.fr st112.fr (by simp)
      exact this
  · have hk1 : ¬ o.kind = 1 := of_decide_eq_false hk1
    have hk2 : ¬ o.kind = 2 := of_decide_eq_false hk2
    have hk3 : ¬ o.kind = 3 := of_decide_eq_false hk3
    have hk : o.kind = 4 := of_decide_eq_true hk
    have hp : M.play o = M.crash o.keep o.n o.cut := by unfold DM.play; rw [if_neg hk1, if_neg hk2, if_neg hk3, if_pos hk]
    intro k135 w136 st136 b136
    have n136 := g_new4 st136
    have hD136 : DiskAt w136 b ms mf M := by
      clear hB hK
      grind (splits := 40) [→ g_size, → g_sys, g_get, → g_step, → g_upd, → g_updb, → g_updz, → g_mupd, → g_mupdm, → g_istep, → g_new1, → g_new2, → g_new3, → g_new4, → g_blk, → g_blk_lt, → g_own, → g_own_lt, → g_row, → g_map, → g_map_lt, → g_ownz, → g_ownz_lt, → g_news1, → g_news2, → g_news3, = g_mem_pb, = g_pb_none, = g_pb_some, → g_disk, → g_disk_lt, → g_ref]
    have hK136 : Row w136 oKA (o.keep.map .bool) := g_row st136.fr hK fun ad hp _ => by simp
    refine ⟨_, by rw [List.length_map, Nat.mul_one], hK136, ?_⟩
    have o136 : OwnZ w136 w.heap.size 1 (some ⟨k135, 0, none⟩) 0 0 [] := OwnZ.blk (b := k135) (n := 0) b136 (by simp) (fun u hu => by cases hu) (by omega)
    refine append_z o136 (by rw [List.length_map, Nat.mul_one]) (bools_one _) (by omega) rfl (fun _ => rfl) (fun ad _ => by simp) ?_ (by omega) (by omega) fun w140 p141 c140 f140 _ o140 d140 => ?_
    · intro ad hp hm
      injection hp with hp; subst hp
      simp at hm; omega
    have e0 : 0 + o.keep.length = o.keep.length := Nat.zero_add _
    rw [List.nil_append, e0] at o140
    rw [e0]
    have hD140 : DiskAt w140 b ms mf M := by
      clear hB hK hK136
      grind (splits := 40) [→ g_size, → g_sys, g_get, → g_step, → g_upd, → g_updb, → g_updz, → g_mupd, → g_mupdm, → g_istep, → g_new1, → g_new2, → g_new3, → g_new4, → g_blk, → g_blk_lt, → g_own, → g_own_lt, → g_row, → g_map, → g_map_lt, → g_ownz, → g_ownz_lt, → g_news1, → g_news2, → g_news3, = g_mem_pb, = g_pb_none, = g_pb_some, → g_disk, → g_disk_lt, → g_ref]
    have hR140 : RefAt w140 (rv sA sC nA nC fA fC M) (F ++ [k1, k2, k3]) M := by
      refine (hv0.more (G := [k1, k2, k3]) (fun x hx => by simp at hx; omega)).fr (G := []) ?_ (by simp)
      clear hB hK hK136
      (refine mkFr ?_ ?_ ?_ <;> grind (splits := 40) [→ g_size, → g_sys, g_get, → g_step, → g_upd, → g_updb, → g_updz, → g_mupd, → g_mupdm, → g_istep, → g_new1, → g_new2, → g_new3, → g_new4, → g_blk, → g_blk_lt, → g_own, → g_own_lt, → g_row, → g_map, → g_map_lt, → g_ownz, → g_ownz_lt, → g_news1, → g_news2, → g_news3, = g_mem_pb, = g_pb_none, = g_pb_some])
    refine (crash_c hD140 o140.row o.n o.cut).mono ?_
    rintro e w145 ⟨b', ms', mf', rfl, hnew, f145, hD145⟩
    have z140 := f140.size
    have z145 := f145.size
    have z136 := st136.size
    have hbs := h.bs
    have hbs' := hD145.bs
    have hn1 := hnew b' (by simp)
    have hn2 := hnew ms' (by simp)
    have hn3 := hnew mf' (by simp)
    have hR145 : RefAt w145 (rv sA sC nA nC fA fC M) (F ++ [k1, k2, k3] ++ [b', ms', mf']) M := (hR140.more (G := [b', ms', mf']) hnew).fr f145 (by simp)
    have hDo : DiskAt w145 b ms mf M := hD140.fr f145 (by simp)
    refine ⟨_, rfl, g_keep f145 (fun x hx => by simp at hx ⊢; omega), fun y147 hy147 => bF rfl ((tells_c hDo hR145).mono ?_)⟩
    rintro e w182 ⟨rfl, f182⟩
    have z182 := f182.size
    refine ⟨_, rfl, g_keep f182 (fun x hx => by simp at hx ⊢; omega), hy147 _ _ (bF rfl fun k152 w153 st153 b153 => ?_)⟩
    clear hy147
    have z153 := st153.size
    have hk152 := st153.new k152 (by simp)
    have b153' : Row w153 (some ⟨k152, 0, none⟩) (byteCells ⟨#[77]⟩) := Row.all b153 (byteCells_one _)
    refine (bytes_c w153 b153').mono ?_
    rintro e w157 ⟨k158, rfl, hk158, f157, b157⟩
    have z157 := f157.size
    have hD157 : DiskAt w157 b ms mf M := ((hDo.fr f182 (by simp)).fr st153.fr (by simp)).fr f157 (by simp)
    refine ⟨_, _, _, rfl, g_keep f157 (fun x hx => by simp at hx ⊢; omega), (write_b hD157 0 b157 (by rw [round_size]) (by simp; omega)).mono ?_⟩
    rintro e w162 ⟨rfl, f162, hD162⟩
    have z162 := f162.size
    have hR162 : RefAt w162 (rv sA sC nA nC fA fC M) (F ++ [k1, k2, k3] ++ [b', ms', mf']) M :=
      (((hR145.fr f182 (by simp)).fr st153.fr (by simp)).fr f157 (by simp)).fr f162 (fun x hx => .inl (List.mem_append_left _ (List.mem_append_left _ (hbF x hx))))
    have hDn162 : DiskAt w162 b' ms' mf' (M.crash o.keep o.n o.cut) := (((hD145.fr f182 (by simp)).fr st153.fr (by simp)).fr f157 (by simp)).fr f162 (fun x hx => by simp at hx ⊢; omega)
    have f0 : Fr [b, ms, mf] w w162 := by
      clear hB hK hK136 hR145 hR162 hR140 hv0
      (refine mkFr ?_ ?_ ?_ <;> grind (splits := 40) [→ g_size, → g_sys, g_get, → g_step, → g_upd, → g_updb, → g_updz, → g_mupd, → g_mupdm, → g_istep, → g_new1, → g_new2, → g_new3, → g_new4, → g_blk, → g_blk_lt, → g_own, → g_own_lt, → g_row, → g_map, → g_map_lt, → g_ownz, → g_ownz_lt, → g_news1, → g_news2, → g_news3, = g_mem_pb, = g_pb_none, = g_pb_some])
    have hK162 : Row w162 oKA (o.keep.map .bool) := row_fr0 f0 hK fun ad hp h0 => by
      rcases hKd with hKd | hKd
      · exact hKd ad hp
      · rw [hKd] at h0; simp at h0
    refine ⟨_, rfl, g_keep f162 (fun x hx => by simp at hx ⊢; omega), (rcrash_c hR162 (fun x hx => ?_) hK162 o.n o.cut).mono ?_⟩
    · rcases List.mem_append.1 hx with hx | hx
      · rcases List.mem_append.1 hx with hx | hx
        · have := hF x hx; omega
        · simp at hx; omega
      · simp at hx; omega
    rintro e w165 ⟨v', rfl, f165, hR165⟩
    have hR165' := hR165
    obtain ⟨_, sA6, sC6, nA6, nC6, fA6, fC6, rfl, -, -, -, -⟩ := hR165
    refine ⟨_, _, _, _, _, _, _, _, _, _, _, rfl, g_keep f165 (fun x hx => by simp at hx ⊢; omega), fun w177 st177 => ?_⟩
    refine fin.get b' ms' mf' w177 0 _ _ _ _ _ _ _ hp.symm ?_ (by omega) (by simp; omega) ((hDn162.fr f165 (by simp)).fr st177.fr (fun x hx => by simp at hx ⊢; omega)) (hR165'.fr st177.fr (by simp)) (fun x hx => .inr (by simp at hx; omega))
    clear hB hK hK136 hR145 hR162 hR140 hv0 hR165' hK162
    (refine mkFr ?_ ?_ ?_ <;> grind (splits := 40) [→ g_size, → g_sys, g_get, → g_step, → g_upd, → g_updb, → g_updz, → g_mupd, → g_mupdm, → g_istep, → g_new1, → g_new2, → g_new3, → g_new4, → g_blk, → g_blk_lt, → g_own, → g_own_lt, → g_row, → g_map, → g_map_lt, → g_ownz, → g_ownz_lt, → g_news1, → g_news2, → g_news3, = g_mem_pb, = g_pb_none, = g_pb_some])
  · have hk1 : ¬ o.kind = 1 := of_decide_eq_false hk1
    have hk2 : ¬ o.kind = 2 := of_decide_eq_false hk2
    have hk3 : ¬ o.kind = 3 := of_decide_eq_false hk3
    have hk4 : ¬ o.kind = 4 := of_decide_eq_false hk4
    have hp : M.play o = M := by unfold DM.play; rw [if_neg hk1, if_neg hk2, if_neg hk3, if_neg hk4]
    intro w184 st184
    obtain ⟨hD, hR⟩ := beg.get w184 st184
    have n184 := g_new3 st184
    exact fin2.get w184 0 M _ _ _ _ _ _ hp.symm (st184.fr.mono (fun x hx => by cases hx)) (by omega) hD hR
end Go.Proofs.Ytcaamecdhbgknaa.Disk

end
