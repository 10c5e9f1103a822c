/- The log: none of its records any more. -/
import Derived.Test.YtcaamecdhbgknaaG6
namespace Go.Proofs.Ytcaamecdhbgknaa.Log
open Go Go.V
open Go.Proofs.Ytcaamecdhbgknaa.VC
open Go.Proofs.Ytcaamecdhbgknaa.Disk
open Go.Proofs.Try (prog)
set_option linter.unusedVariables false
set_option linter.unusedSimpArgs false
set_option maxRecDepth 20000

def othersTo (L : LM) (k : Nat) : List Int := ((List.range k).filter fun (i : Nat) => !decide (L.first + (i : Int) ∈ L.heads)).map fun (i : Nat) => L.first + (i : Int)
theorem othersTo_succ (L : LM) (k : Nat) : othersTo L (k + 1) = if L.first + (k : Int) ∈ L.heads then othersTo L k else othersTo L k ++ [L.first + (k : Int)] := by
  unfold othersTo
  rw [List.range_succ, List.filter_append, List.map_append, List.filter_cons, List.filter_nil]
  by_cases h : L.first + (k : Int) ∈ L.heads
  · rw [if_pos h, decide_eq_true h]; simp
  · rw [if_neg h, decide_eq_false h]; simp
theorem othersTo_len (L : LM) (k : Nat) : (othersTo L k).length ≤ k := by
  unfold othersTo
  rw [List.length_map]
  exact Nat.le_trans (List.length_filter_le _ _) (by simp)
def others (L : LM) : List Int := othersTo L (L.end_ - L.first).toNat
def LM.none (L : LM) (next : Int) : LM := ⟨L.first, L.first, L.behind, next, []⟩
def lreset (M : DM) (L : LM) (next : Int) : DM × LM × Int :=
  if next < 1 ∨ MOST < next then (M, L, 1) else
  if L.heads = [] then (M, L.none next, 0) else
  let r1 := wipe M L.heads
  if r1.2 ≠ 0 then (r1.1, L, r1.2) else
  let r2 := wipe r1.1 (others L)
  if r2.2 ≠ 0 then (r2.1, L, r2.2) else (r2.1, L.none next, 0)

theorem fld_store0 {w : World} {k : Nat} {cs : List Value} {x : Value} {K : World → Prop} (h : Blk w k cs) (m : Nat) (hm : m < cs.length) (hK : ∀ w', Upd w w' k (cs.set m x) → K w') :
    ∃ l : List Value, Blk w (Addr.block (Addr.add ⟨k, 0, .none⟩ m)) l ∧ Addr.spot (Addr.add ⟨k, 0, .none⟩ m) = .none ∧ Addr.off (Addr.add ⟨k, 0, .none⟩ m) + 1 ≤ l.length ∧
      ∀ w', Upd w w' (Addr.block (Addr.add ⟨k, 0, .none⟩ m)) (sets l (Addr.off (Addr.add ⟨k, 0, .none⟩ m)) [x]) → K w' := by
  refine ⟨cs, ?_⟩
  rw [add_mk, Nat.zero_add]
  exact ⟨h, rfl, hm, fun w' hu => hK w' hu⟩

theorem reset_c {w : World} {own : List Nat} {lb b ms mf : Nat} {M : DM} {L : LM} (h : LogAt w own lb b ms mf M L) (next : Int) :
    Calls prog 43 #[D lb, I64 next] w fun e w' => e = .returned (I64 (lreset M L next).2.2) ∧ Fr own w w' ∧ LogAt w' own lb b ms mf (lreset M L next).1 (lreset M L next).2.1 := by
  have hok := h.ok
  have o0 := hok.f0
  have o1 := hok.fe
  have o2 := hok.eb
  have o3 := hok.bn
  have o4 := hok.n4
  have ohl := hok.hl
  obtain ⟨p, c, hb, hp, hpo⟩ := h.blk
  have hD := h.disk
  have hne := h.ne
  have hbs := hD.bs
  have sub3 : ∀ x ∈ [b, ms, mf], x ∈ own := fun x hx => h.mem x (List.mem_cons_of_mem _ hx)
  refine log_Log_Reset.link fun y1 hy1 => ?_
  have bad : next < 1 ∨ MOST < next → y1 true w := fun hc => by
    refine hy1 _ _ (bT rfl ?_)
    have e1 : lreset M L next = (M, L, 1) := by unfold lreset; rw [if_pos hc]
    rw [e1]
    exact ⟨rfl, Fr.refl _ _, h⟩
  have good : ¬ (next < 1 ∨ MOST < next) → y1 false w := fun hc => by
    refine hy1 _ _ (bF rfl fun y4 hy4 => ?_)
    clear hy1 bad
    have hn1 : 1 ≤ next ∧ next ≤ 4611686018427387904 := by
      constructor
      · rcases Int.lt_or_le next 1 with h | h
        · exact absurd (.inl h) hc
        · exact h
      · rcases Int.lt_or_le MOST next with h | h
        · exact absurd (.inr h) hc
        · exact h
    have fin : ∀ (w5 : World) (M' : DM), lreset M L next = (M', L.none next, 0) → Fr [b, ms, mf] w w5 → DiskAt w5 b ms mf M' → M'.n = M.n → y4 w5 := fun w5 M' e1 f5 hD5 hn => by
      have b5 := hb.fr f5 hne
      refine hy4 _ ⟨_, b5.cell 1, fld_store0 b5 5 (by simp [lcells]) fun w8 u8 => fld_store0 u8.blk 2 (by simp [lcells]) fun w11 u11 => fld_store0 u11.blk 4 (by simp [lcells]) fun w14 u14 => ?_⟩
      rw [e1]
      have f14 : Fr [lb] w5 w14 := (u8.fr.trans' u11.fr).trans' u14.fr
      have hlb := h.mem lb (by simp)
      refine ⟨rfl, (f5.mono fun x hx => .inl (sub3 x hx)).trans f14 (fun x hx => .inl (by simp at hx; subst hx; exact hlb)), hD5.fr f14 (fun x hx hm => by simp at hm; subst hm; exact hne hx), ?_, hne, h.mem, fun x hx => ?_, .none, 0, ?_, ?_, fun ad ha => by cases ha⟩
      · rw [hn]
        exact ⟨o0, Int.le_refl _, by show L.first ≤ L.behind; omega, o3, o4, hn1.1, by show next ≤ 4611686018427387904 + 1; omega, by show (0 : Int) ≤ L.first - L.first; omega, fun x hx => absurd hx (by simp [LM.none])⟩
      · have := h.lt x hx
        have := f5.size
        have := f14.size
        omega
      · have := u14.blk
        have e3 : lcells b (L.none next) .none 0 = ((((lcells b L p c).set 5 (.slice .none 0 0)).set 2 (I64 L.first)).set 4 (I64 next)) := rfl
        rw [e3]; exact this
      · exact OwnZ.nil _ _ _
    clear hy4
    refine ⟨_, _, _, hb.cell 5, fun hpos => ?_, fun hz => ?_⟩
    · have hpos : (0 : Int) < (L.heads.length : Int) := of_decide_eq_true hpos
      have hnn : ¬ L.heads = [] := fun e => by rw [e] at hpos; simp at hpos
      refine ⟨_, hb.cell 1, fun m pq lq cq q w' => ∃ i : Nat, q = L.first + (i : Int) ∧ (i : Int) ≤ L.end_ - L.first ∧ m = (L.end_ - L.first).toNat - i ∧ lq = (othersTo L i).length ∧ OwnZ w' w.heap.size 1 pq lq cq ((othersTo L i).map I64) ∧ Fr [] w w', (L.end_ - L.first).toNat, ⟨0, by omega, by omega, by omega, rfl, OwnZ.nil _ _ _, Fr.refl _ _⟩, ?_⟩
      rintro m pq lq cq q w29 ⟨i, rfl, hi, rfl, rfl, oq, f29⟩
      have z29 := f29.size
      have hb29 := hb.fr f29 (by simp)
      have hp29 : OwnZ w29 0 1 p L.heads.length c (L.heads.map I64) := hp.fr f29 (fun ad _ => by simp)
      have hol := othersTo_len L i
      refine ⟨_, hb29.cell 2, fun hlt y32 hy32 => ?_, fun hge => ?_⟩
      · have hlt : L.first + (i : Int) < L.end_ := of_decide_eq_true hlt
        have hnext : ∀ p33 l33 c33 w36, l33 = (othersTo L (i + 1)).length → OwnZ w36 w.heap.size 1 p33 l33 c33 ((othersTo L (i + 1)).map I64) → Fr [] w w36 → y32 p33 l33 c33 w36 := fun p33 l33 c33 w36 h1 h2 h3 =>
          hy32 _ _ _ _ ⟨(L.end_ - L.first).toNat - (i + 1), by omega, i + 1, by rw [wrapi (by omega) (by omega)]; omega, by omega, rfl, h1, h2, h3⟩
        clear hy32
        refine ⟨_, _, _, hb29.cell 5, (contains_c hp29.row (by omega) (L.first + (i : Int))).mono ?_⟩
        rintro e w44 ⟨rfl, rfl⟩
        refine ⟨_, rfl, fun hnot k46 => ?_, fun hin => ?_⟩
        · have hnot : ¬ L.first + (i : Int) ∈ L.heads := by simpa using hnot
          refine append_z oq rfl (fun u hu => by simp [spl, reps] at hu; subst hu; rfl) z29 rfl (fun h => by cases h) (fun ad _ => by simp) (fun ad _ hm => hm) (by omega) (by omega) fun w47 p48 c50 f47 n47 o47 d47 => ?_
          refine hnext _ _ _ _ ?_ ?_ ?_
          · rw [othersTo_succ, if_neg hnot, List.length_append, List.length_singleton]
          · rw [othersTo_succ, if_neg hnot, List.map_append]; exact o47
          · refine f29.trans f47 fun x hx => ?_
            rw [List.nil_append, g_mem_pb] at hx
            obtain ⟨ad, ha, rfl⟩ := hx
            exact .inr (oq.lt ha).1
        · have hin : L.first + (i : Int) ∈ L.heads := by simpa using hin
          exact hnext _ _ _ _ (by rw [othersTo_succ, if_pos hin]) (by rw [othersTo_succ, if_pos hin]; exact oq) f29
      · have hge : ¬ L.first + (i : Int) < L.end_ := of_decide_eq_false hge
        have hi' : i = (L.end_ - L.first).toNat := by omega
        have hoth : othersTo L i = others L := by unfold others; rw [← hi']
        rw [hoth] at oq hol ⊢
        have hD29 : DiskAt w29 b ms mf M := hD.fr f29 (by simp)
        refine ⟨_, _, _, hb29.cell 5, (wipe_c (cs := [_, _, _, _, _]) hb29 hD29 hne hp29.row (fun ad ha hm => (hpo ad ha).2 (List.mem_cons_of_mem _ hm)) (by omega)).mono ?_⟩
        rintro e w55 ⟨rfl, f55, hD55⟩
        have n1 := wipe_n hD.ok L.heads
        have f055 : Fr [b, ms, mf] w w55 := (f29.mono fun x hx => by cases hx).trans' f55
        refine ⟨_, rfl, fun hne1 => ?_, fun h1 => ?_⟩
        · have hne1 : ¬ (wipe M L.heads).2 = 0 := by simpa using hne1
          have e1 : lreset M L next = ((wipe M L.heads).1, L, (wipe M L.heads).2) := by unfold lreset; simp only; rw [if_neg hc, if_neg hnn, if_pos hne1]
          rw [e1]
          exact ⟨rfl, f055.mono fun x hx => .inl (sub3 x hx), h.setD f055 hD55 n1⟩
        · have h1 : (wipe M L.heads).2 = 0 := by simpa using h1
          have hb55 := hb29.fr f55 hne
          have oq55 := oq.fr f55 (fun ad ha hm => by
            have := (oq.lt ha).1
            simp at hm; omega)
          refine (wipe_c (cs := [_, _, _, _, _]) hb55 hD55 hne oq55.row (fun ad ha => by have := (oq55.lt ha).1; simp; omega) (by omega)).mono ?_
          rintro e w58 ⟨rfl, f58, hD58⟩
          have n2 := wipe_n hD55.ok (others L)
          have f058 := f055.trans' f58
          refine ⟨_, rfl, fun hne2 => ?_, fun h2 => ?_⟩
          · have hne2 : ¬ (wipe (wipe M L.heads).1 (others L)).2 = 0 := by simpa using hne2
            have e1 : lreset M L next = ((wipe (wipe M L.heads).1 (others L)).1, L, (wipe (wipe M L.heads).1 (others L)).2) := by unfold lreset; simp only; rw [if_neg hc, if_neg hnn, if_neg (by simp [h1]), if_pos hne2]
            rw [e1]
            exact ⟨rfl, f058.mono fun x hx => .inl (sub3 x hx), h.setD f058 hD58 (n2.trans n1)⟩
          · have h2 : (wipe (wipe M L.heads).1 (others L)).2 = 0 := by simpa using h2
            have e1 : lreset M L next = ((wipe (wipe M L.heads).1 (others L)).1, L.none next, 0) := by unfold lreset; simp only; rw [if_neg hc, if_neg hnn, if_neg (by simp [h1]), if_neg (by simp [h2])]
            exact fin w58 _ e1 f058 hD58 (n2.trans n1)
    · have hz : ¬ (0 : Int) < (L.heads.length : Int) := of_decide_eq_false hz
      have hnil : L.heads = [] := List.length_eq_zero_iff.1 (by omega)
      exact fin w M (by unfold lreset; rw [if_neg hc, if_pos hnil]) (Fr.refl _ _) hD rfl
  clear hy1
  refine ⟨fun h1 => bad (.inl (of_decide_eq_true h1)), fun h1 => ?_⟩
  have h1 : ¬ next < 1 := of_decide_eq_false h1
  by_cases h2 : MOST < next
  · rw [show decide ((4611686018427387904 : Int) < next) = true from decide_eq_true h2]; exact bad (.inr h2)
  · rw [show decide ((4611686018427387904 : Int) < next) = false from decide_eq_false h2]; exact good (fun h => by rcases h with h | h; exact h1 h; exact h2 h)

end Go.Proofs.Ytcaamecdhbgknaa.Log
