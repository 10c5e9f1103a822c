/- The log, plainly: a record more, wherever the power goes. -/
import Derived.Test.YtcaamecdhbgknaaGP
namespace Go.Proofs.Ytcaamecdhbgknaa.Log
open Go Go.V
open Go.Proofs.Ytcaamecdhbgknaa.Disk
set_option linter.unusedVariables false
set_option linter.unusedSimpArgs false
set_option maxRecDepth 20000

abbrev RL := List (Nat × Nat × ByteArray)
/-- Numbered from one. -/
def Num (rs : RL) : Prop := ∀ (i : Nat) (r : Nat × Nat × ByteArray), rs[i]? = some r → r.2.1 = i + 1
theorem Num.snoc {rs : RL} (h : Num rs) (a : Nat) (d : ByteArray) : Num (rs ++ [(a, rs.length + 1, d)]) := fun i r hi => by
  rcases Nat.lt_trichotomy i rs.length with h1 | h1 | h1
  · rw [List.getElem?_append_left h1] at hi
    exact h i r hi
  · subst h1
    rw [List.getElem?_append_right (Nat.le_refl _), Nat.sub_self] at hi
    injection hi with hi
    rw [← hi]
  · rw [List.getElem?_eq_none (by simp; omega)] at hi
    cases hi
theorem Num.last {rs : RL} (h : Num rs) : (lastOf none rs).getD rs.length = rs.length := by
  rcases List.eq_nil_or_concat rs with rfl | ⟨l, r, rfl⟩
  · rfl
  · have e : lastOf none (l ++ [r]) = some r.2.1 := by simp [lastOf]
    rw [List.concat_eq_append] at h ⊢
    rw [e]
    have := h l.length r (by rw [List.getElem?_append_right (Nat.le_refl _), Nat.sub_self]; rfl)
    show r.2.1 = _
    rw [this]; simp
/-- A log on a disk where all is sure. -/
structure LInv (M : DM) (L : LM) (rs : RL) : Prop where
  ok : M.Ok
  lok : L.Ok M.n
  quiet : ∀ j, M.now.getD j zsec = M.sure.getD j zsec
  lay : Lay M.sure L.behind.toNat L.first.toNat none rs
  e : L.end_ = (endAt L.first.toNat rs : Nat)
  nx : L.next = ((rs.length + 1 : Nat) : Int)
  num : Num rs
  zer : ∀ i, endAt L.first.toNat rs ≤ i → i < L.behind.toNat → M.sure.getD i zsec = zsec
  hds : L.heads = rs.map fun r => (r.1 : Int)
/-- What may be read behind a crash. -/
def After (S : List ByteArray) (L : LM) (rs : RL) : Prop := Lay S L.behind.toNat L.first.toNat none rs ∧ Stop S L.behind.toNat (endAt L.first.toNat rs) (lastOf none rs)
def newR (L : LM) (rs : RL) (d : ByteArray) : Nat × Nat × ByteArray := (endAt L.first.toNat rs, rs.length + 1, d)
/-- Dead while a record was being written. -/
structure Torn (M' : DM) (L : LM) (rs : RL) (d : ByteArray) : Prop where
  ok : M'.Ok
  dead : M'.dead
  after : ∀ keep torn cut, ∃ rs', (rs' = rs ∨ rs' = rs ++ [newR L rs d]) ∧ After (M'.crash keep torn cut).sure L rs'

theorem stop_zero {S : List ByteArray} {H a : Nat} {q : Option Nat} (h : S.getD a zsec = zsec) : Stop S H a q := fun seq d hr => by
  have hr : recAt S a H = some (seq, d) := hr
  rw [recAt_zero h] at hr; exact absurd hr (by simp)
theorem stop_behind {S : List ByteArray} {H a : Nat} {q : Option Nat} (h : H ≤ a) : Stop S H a q := fun seq d hr => by
  have hr : recAt S a H = some (seq, d) := hr
  have := (recAt_lt hr).2.1
  omega
theorem DM.flushed_getD (M : DM) (j : Nat) : M.flushed.sure.getD j zsec = M.now.getD j zsec ∧ M.flushed.now.getD j zsec = M.now.getD j zsec := ⟨rfl, rfl⟩
theorem tear64 (x y : ByteArray) (hx : x.size = 64) (hy : y.size = 64) : tear 64 x y = x := by
  apply byteCells_inj
  rw [tear_cells, List.take_of_length_le (by rw [byteCells_length]; omega), List.drop_eq_nil_iff.2 (by rw [byteCells_length]; omega), List.append_nil]

set_option maxHeartbeats 1000000 in
theorem append_inv {M : DM} {L : LM} {rs : RL} (h : LInv M L rs) {d : ByteArray} (hd : ¬ 4000 < d.size) (hf : ¬ isFull L d.size) :
    ((lappend M L d).2.2 = 0 → (lappend M L d).2.1 = L.more d.size ∧ LInv (lappend M L d).1 (L.more d.size) (rs ++ [newR L rs d])) ∧
    ((lappend M L d).2.2 ≠ 0 → (lappend M L d).2.2 = 30 ∧ (lappend M L d).2.1 = L ∧ Torn (lappend M L d).1 L rs d) := by
  have n30 : (30 : Int) ≠ 0 := by decide
  have z0 : ¬ ((0 : Int) ≠ 0) := by decide
  have hok := h.ok
  have hL := h.lok
  have f0 := hL.f0
  have f1 := hL.fe
  have f2 := hL.eb
  have f3 := hL.bn
  have f4 := hL.n4
  have he := h.e
  have hnx := h.nx
  have hf' : ¬ (MOST < L.next ∨ L.behind < L.end_ + 1 + (secs d.size : Nat)) := hf
  have hnx' : L.next ≤ 4611686018427387904 := by
    rcases Int.lt_or_le MOST L.next with h1 | h1
    · exact absurd (.inl h1) hf'
    · exact h1
  have hroom : L.end_ + 1 + ((secs d.size : Nat) : Int) ≤ L.behind := by
    rcases Int.lt_or_le L.behind (L.end_ + 1 + ((secs d.size : Nat) : Int)) with h1 | h1
    · exact absurd (.inr h1) hf'
    · exact h1
  have hMn : M.n = (M.sure.length : Int) := rfl
  generalize hE : endAt L.first.toNat rs = E at *
  generalize hH : L.behind.toNat = H at *
  have hEH : E + 1 + secs d.size ≤ H := by omega
  have hHn : H ≤ M.sure.length := by omega
  have lay := h.lay
  have h64 := S64_of hok.s64
  have hz := h.zer
  rw [hE] at hz
  rw [hH] at lay hz
  have hnew : newR L rs d = (E, rs.length + 1, d) := by unfold newR; rw [hE]
  have valid : ∀ p ∈ puts L d (secs d.size), 0 ≤ p.1 ∧ p.1 < M.n ∧ p.2.size = 64 := fun p hp => by
    obtain ⟨i, hi, rfl⟩ := List.mem_map.1 hp
    have hi := List.mem_range.1 hi
    exact ⟨by show 0 ≤ L.end_ + 1 + (i : Int); omega, by show L.end_ + 1 + (i : Int) < M.n; omega, chunk_size _ _⟩
  have we := writes_eff (puts L d (secs d.size)) hok valid
  have wn := writes_n (puts L d (secs d.size)) M
  generalize hM1 : (writes M (puts L d (secs d.size))).1 = M1 at *
  generalize hc1 : (writes M (puts L d (secs d.size))).2 = c1 at *
  have out1 : ∀ j : Nat, (j ≤ E ∨ E + 1 + secs d.size ≤ j) → M1.now.getD j zsec = M.sure.getD j zsec := fun j hj => by
    rw [we.oth j (fun p hp => ?_), h.quiet]
    obtain ⟨i, hi, rfl⟩ := List.mem_map.1 hp
    have hi := List.mem_range.1 hi
    show L.end_ + 1 + (i : Int) ≠ (j : Int)
    omega
  -- records that stay
  have keepRs : ∀ S : List ByteArray, (∀ j, j < E → S.getD j zsec = M.sure.getD j zsec) → Lay S H L.first.toNat none rs := fun S hS => lay_congr h64 rs lay (fun i _ hi => hS i (by rw [hE] at hi; exact hi))
  have oldS : ∀ S : List ByteArray, (∀ j, j ≤ E → S.getD j zsec = M.sure.getD j zsec) → After S L rs := fun S hS => by
    refine ⟨by rw [hH]; exact keepRs S fun j hj => hS j (by omega), ?_⟩
    rw [hH, hE]
    exact stop_zero (by rw [hS E (Nat.le_refl _)]; exact hz E (Nat.le_refl _) (by omega))
  have torn1 : M1.dead → Torn M1 L rs d := fun hdead => ⟨we.ok, hdead, fun keep torn cut => ⟨rs, .inl rfl, oldS _ fun j hj => by
    rw [crash_same (by rw [out1 j (.inl hj), we.sure])]
    rw [we.sure]⟩⟩
  unfold lappend
  simp only
  rw [if_neg hd, if_neg hf', hM1, hc1]
  by_cases hc : c1 = 0
  · rw [if_neg (by rw [hc]; simp)]
    have data1 : ∀ i, i < secs d.size → M1.now.getD (E + 1 + i) zsec = chunk d i := fun i hi => by
      refine we.all hc (E + 1 + i) (chunk d i) (List.mem_map.2 ⟨i, List.mem_range.2 hi, ?_⟩) (fun s' hs' => ?_)
      · show (L.end_ + 1 + (i : Int), chunk d i) = _
        congr 1; omega
      · obtain ⟨i', hi', e⟩ := List.mem_map.1 hs'
        injection e with e1 e2
        have : i' = i := by omega
        rw [← e2, this]
    by_cases hd1 : M1.dead
    · have e : M1.flush = (M1, 30) := by unfold DM.flush; rw [if_pos hd1]
      rw [e, if_pos n30]
      exact ⟨fun h => absurd h n30, fun _ => ⟨rfl, rfl, torn1 hd1⟩⟩
    have e2 : M1.flush = (M1.flushed, 0) := by unfold DM.flush; rw [if_neg hd1]
    rw [e2, if_neg z0]
    have ok2 := we.ok.flushed
    have n2 : M1.flushed.n = M.n := by
      have := flush_n we.ok
      rw [e2] at this
      exact this.trans wn
    have h2 : (logHead L.next d.size).size = 64 := logHead_size _ _
    have hi2 : L.end_ < M1.flushed.n := by rw [n2]; omega
    by_cases hd2 : M1.flushed.dead
    · rw [write_dead (by omega) hi2 h2 hd2, if_pos n30]
      refine ⟨fun h => absurd h n30, fun _ => ⟨rfl, rfl, ok2, hd2, fun keep torn cut => ⟨rs, .inl rfl, oldS _ fun j hj => ?_⟩⟩⟩
      rw [crash_same rfl]
      exact out1 j (.inl hj)
    rw [write_live (by omega) hi2 h2 hd2, if_neg z0]
    have hEt : L.end_.toNat = E := by omega
    rw [hEt]
    have n2' : M1.flushed.sure.length = M.sure.length := by
      have : (M1.flushed.sure.length : Int) = (M.sure.length : Int) := n2
      omega
    have hEl : E < M1.flushed.sure.length := by omega
    have ok3 := ok2.wrote hEl h2
    generalize hh : logHead L.next d.size = hd' at *
    have hh' : hd' = logHead ((rs.length + 1 : Nat) : Int) ((d.size : Nat) : Int) := by rw [← hh, hnx]
    have now3 : ∀ j, (M1.flushed.wrote E hd').now.getD j zsec = if E = j then hd' else M1.now.getD j zsec := fun j => upd_getD M1.now E j hd' (by rw [we.ok.now]; have := congrArg List.length we.sure; omega)
    -- the record more
    have newS : ∀ S : List ByteArray, (∀ j, j ≠ E → S.getD j zsec = M1.now.getD j zsec) → S.getD E zsec = hd' → Lay S H L.first.toNat none (rs ++ [newR L rs d]) ∧ ∀ i, E + 1 + secs d.size ≤ i → i < H → S.getD i zsec = zsec := fun S hS hE' => by
      refine ⟨?_, fun i hi hi2 => ?_⟩
      · rw [hnew]
        refine lay_snoc rs (keepRs S fun j hj => by rw [hS j (by omega), out1 j (.inl (by omega))]) hE.symm ?_ ?_
        · refine recAt_new (by rw [hE', hh']) (fun i hi => ?_) (by omega) (by omega) (by omega) hEH
          rw [hS _ (by omega)]
          exact data1 i hi
        · have := h.num.last
          show (lastOf none rs).getD (rs.length + 1 - 1) + 1 = rs.length + 1
          rw [Nat.add_sub_cancel, this]
      · rw [hS i (by omega), out1 i (.inr hi)]
        exact hz i (by omega) hi2
    have endNew : endAt L.first.toNat (rs ++ [newR L rs d]) = E + 1 + secs d.size := by rw [hnew, endAt_snoc]
    by_cases hd3 : (M1.flushed.wrote E hd').dead
    · have e4 : (M1.flushed.wrote E hd').flush = (M1.flushed.wrote E hd', 30) := by unfold DM.flush; rw [if_pos hd3]
      rw [e4, if_pos n30]
      refine ⟨fun h => absurd h n30, fun _ => ⟨rfl, rfl, ok3, hd3, fun keep torn cut => ?_⟩⟩
      have sure3 : ∀ j, (M1.flushed.wrote E hd').sure.getD j zsec = M1.now.getD j zsec := fun j => rfl
      have hoth : ∀ j, j ≠ E → ((M1.flushed.wrote E hd').crash keep torn cut).sure.getD j zsec = M1.now.getD j zsec := fun j hj => by
        rw [crash_same (by rw [now3, if_neg (fun e => hj e.symm), sure3]), sure3]
      have old : ((M1.flushed.wrote E hd').crash keep torn cut).sure.getD E zsec = zsec ∨ (∃ c, c < 64 ∧ ((M1.flushed.wrote E hd').crash keep torn cut).sure.getD E zsec = tear c hd' zsec) ∨ ((M1.flushed.wrote E hd').crash keep torn cut).sure.getD E zsec = hd' := by
        have hzE : M1.now.getD E zsec = zsec := by rw [out1 E (.inl (Nat.le_refl _))]; exact hz E (Nat.le_refl _) (by omega)
        rcases crash_three (M1.flushed.wrote E hd') keep torn cut E with e | e | ⟨c, hc64, e⟩
        · rw [now3, if_pos rfl] at e
          exact .inr (.inr e)
        · rw [sure3, hzE] at e
          exact .inl e
        · rw [now3, if_pos rfl, sure3, hzE] at e
          rcases Nat.lt_or_ge c 64 with hlt | hge
          · exact .inr (.inl ⟨c, hlt, e⟩)
          · have : c = 64 := by omega
            subst this
            rw [tear64 _ _ h2 zsec_size] at e
            exact .inr (.inr e)
      rcases old with e | ⟨c, hc64, e⟩ | e
      · refine ⟨rs, .inl rfl, oldS _ fun j hj => ?_⟩
        by_cases hjE : j = E
        · subst hjE; rw [e]; exact (hz j (Nat.le_refl _) (by omega)).symm
        · rw [hoth j hjE, out1 j (.inl hj)]
      · refine ⟨rs, .inl rfl, by rw [hH]; exact keepRs _ fun j hj => by rw [hoth j (by omega), out1 j (.inl (by omega))], ?_⟩
        rw [hH, hE]
        intro seq dd hr
        have hr : recAt ((M1.flushed.wrote E hd').crash keep torn cut).sure E H = some (seq, dd) := hr
        rw [torn_head _ _ _ hc64 e] at hr
        exact absurd hr (by simp)
      · obtain ⟨g1, g2⟩ := newS _ hoth e
        refine ⟨_, .inr rfl, by rw [hH]; exact g1, ?_⟩
        rw [hH, endNew]
        rcases Nat.lt_or_ge (E + 1 + secs d.size) H with hlt | hge
        · exact stop_zero (g2 _ (Nat.le_refl _) hlt)
        · exact stop_behind hge
    · have e4 : (M1.flushed.wrote E hd').flush = ((M1.flushed.wrote E hd').flushed, 0) := by unfold DM.flush; rw [if_neg hd3]
      rw [e4, if_neg z0]
      have n4 : (M1.flushed.wrote E hd').flushed.n = M.n := by
        have := flush_n ok3
        rw [e4] at this
        rw [this]; exact n2
      obtain ⟨g1, g2⟩ := newS (M1.flushed.wrote E hd').flushed.sure (fun j hj => by
        show (M1.flushed.wrote E hd').now.getD j zsec = _
        rw [now3, if_neg (fun e => hj e.symm)]) (by
        show (M1.flushed.wrote E hd').now.getD E zsec = _
        rw [now3, if_pos rfl])
      have bF' : (L.more d.size).first = L.first := rfl
      have bH' : (L.more d.size).behind = L.behind := rfl
      refine ⟨fun _ => ⟨rfl, ok3.flushed, ?_, fun j => rfl, ?_, ?_, ?_, ?_, ?_, ?_⟩, fun h => absurd rfl h⟩
      · rw [n4]; exact hL.more (by omega) (by omega)
      · rw [bF', bH', hH]; exact g1
      · rw [bF', endNew]
        show L.end_ + 1 + ((secs d.size : Nat) : Int) = _
        omega
      · show L.next + 1 = _
        rw [List.length_append, List.length_singleton]; omega
      · rw [hnew]; exact h.num.snoc _ _
      · rw [bF', bH', hH, endNew]; exact g2
      · show L.heads ++ [L.end_] = _
        rw [h.hds, List.map_append, hnew, he]; rfl
  · obtain ⟨h30, hdead⟩ := we.bad hc
    rw [if_pos hc]
    exact ⟨fun h => absurd h hc, fun _ => ⟨h30, rfl, torn1 hdead⟩⟩

end Go.Proofs.Ytcaamecdhbgknaa.Log
