/- The log, plainly: wiping heads, wherever the power goes. -/
import Derived.Test.YtcaamecdhbgknaaGR
import Derived.Test.YtcaamecdhbgknaaG7
namespace Go.Proofs.Ytcaamecdhbgknaa.Log
open Go Go.V
open Go.Proofs.Ytcaamecdhbgknaa.Disk
set_option linter.unusedVariables false
set_option linter.unusedSimpArgs false
set_option maxRecDepth 20000

theorem layF_take {f : Nat → Option (Nat × ByteArray)} : ∀ (rs : RL) (k : Nat) {a : Nat} {q : Option Nat}, LayF f a q rs → LayF f a q (rs.take k) := by
  intro rs
  induction rs with
  | nil => intro k a q h; rw [List.take_nil]; exact h
  | cons r rs ih =>
    intro k a q h
    obtain ⟨g1, g2, g3, g4⟩ := h
    cases k with
    | zero => trivial
    | succ k => exact ⟨g1, g2, g3, ih k g4⟩
/-- Where some heads are gone, the records ahead of the first one that is gone are read. -/
theorem layF_cut {f g : Nat → Option (Nat × ByteArray)} {H : Nat} (hf : ∀ a x, f a = some x → a + 1 + secs x.2.size ≤ H) : ∀ (rs : RL) {a : Nat} {q : Option Nat}, LayF f a q rs → (∀ r ∈ rs, g r.1 = none ∨ g r.1 = some r.2) → StopF g (endAt a rs) (lastOf q rs) →
    ∃ k, LayF g a q (rs.take k) ∧ StopF g (endAt a (rs.take k)) (lastOf q (rs.take k)) := by
  intro rs
  induction rs with
  | nil => intro a q _ _ hs; exact ⟨0, trivial, hs⟩
  | cons r rs ih =>
    intro a q h hg hs
    obtain ⟨g1, g2, g3, g4⟩ := h
    rcases hg r List.mem_cons_self with e | e
    · exact ⟨0, trivial, fun seq d hr => by
        have hr : g a = some (seq, d) := hr
        rw [← g1, e] at hr
        exact absurd hr (by simp)⟩
    · rw [endAt_cons, lastOf_cons, g1] at hs
      obtain ⟨k, h1, h2⟩ := ih g4 (fun x hx => hg x (List.mem_cons_of_mem _ hx)) hs
      refine ⟨k + 1, ⟨g1, by rw [← g1]; exact e, g3, h1⟩, ?_⟩
      rw [List.take_succ_cons, endAt_cons, lastOf_cons, g1]
      exact h2
theorem layF_mem {f : Nat → Option (Nat × ByteArray)} {H : Nat} (hf : ∀ a x, f a = some x → a + 1 + secs x.2.size ≤ H) : ∀ (rs : RL) {a : Nat} {q : Option Nat}, LayF f a q rs → ∀ r ∈ rs, f r.1 = some r.2 ∧ a ≤ r.1 ∧ r.1 + 1 + secs r.2.2.size ≤ endAt a rs := by
  intro rs
  induction rs with
  | nil => intro a q _ r hr; cases hr
  | cons x rs ih =>
    intro a q h r hr
    obtain ⟨g1, g2, g3, g4⟩ := h
    have h1 := (layF_end hf rs g4).1
    rw [endAt_cons, g1]
    rcases List.mem_cons.1 hr with rfl | hr
    · rw [g1]
      exact ⟨g2, Nat.le_refl _, h1⟩
    · obtain ⟨a1, a2, a3⟩ := ih g4 r hr
      exact ⟨a1, by omega, a3⟩
/-- A head's sector lies in no other record's data. -/
theorem layF_apart {f : Nat → Option (Nat × ByteArray)} {H : Nat} (hf : ∀ a x, f a = some x → a + 1 + secs x.2.size ≤ H) : ∀ (rs : RL) {a : Nat} {q : Option Nat}, LayF f a q rs → ∀ r ∈ rs, ∀ r' ∈ rs, r.1 < r'.1 → r'.1 < r.1 + 1 + secs r.2.2.size → False := by
  intro rs
  induction rs with
  | nil => intro a q _ r hr; cases hr
  | cons x rs ih =>
    intro a q h r hr r' hr' h1 h2
    obtain ⟨g1, g2, g3, g4⟩ := h
    rcases List.mem_cons.1 hr with e1 | m1
    · rcases List.mem_cons.1 hr' with e2 | m2
      · rw [e1, e2] at h1; omega
      · have := (layF_mem hf rs g4 r' m2).2.1
        rw [e1] at h2
        rw [g1] at h2
        omega
    · rcases List.mem_cons.1 hr' with e2 | m2
      · have := (layF_mem hf rs g4 r m1).2.1
        rw [e2, g1] at h1
        omega
      · exact ih g4 r m1 r' m2 h1 h2
theorem After.take {S : List ByteArray} {L : LM} {rs : RL} {k : Nat} (h1 : LayF (fun a => recAt S a L.behind.toNat) L.first.toNat none (rs.take k)) (h2 : StopF (fun a => recAt S a L.behind.toNat) (endAt L.first.toNat (rs.take k)) (lastOf none (rs.take k))) : After S L (rs.take k) := ⟨h1, h2⟩

theorem writes_any : ∀ (l : List (Int × ByteArray)) {M : DM}, M.Ok → ∀ j : Nat, (writes M l).1.now.getD j zsec = M.now.getD j zsec ∨ ∃ s, ((j : Int), s) ∈ l ∧ (writes M l).1.now.getD j zsec = s := by
  intro l
  induction l with
  | nil => intro M _ j; exact .inl rfl
  | cons p l ih =>
    obtain ⟨i, s⟩ := p
    intro M hok j
    have one : (M.write i s).1.now.getD j zsec = M.now.getD j zsec ∨ (i = (j : Int) ∧ (M.write i s).1.now.getD j zsec = s) := by
      unfold DM.write
      split
      · exact .inl rfl
      · split
        · exact .inl rfl
        · rename_i h1 h2
          have h1 : ¬ (i < 0 ∨ (M.sure.length : Int) ≤ i ∨ s.size ≠ 64) := h1
          show (M.now.set i.toNat s).getD j zsec = _ ∨ _ ∧ (M.now.set i.toNat s).getD j zsec = _
          rw [upd_getD _ _ _ _ (by rw [hok.now]; omega)]
          by_cases e : i.toNat = j
          · rw [if_pos e]
            exact .inr ⟨by omega, rfl⟩
          · rw [if_neg e]; exact .inl rfl
    unfold writes
    split
    · rcases ih (DM.Ok.write' hok i s) j with e | ⟨t, ht, e⟩
      · rw [e]
        rcases one with e2 | ⟨e2, e3⟩
        · exact .inl e2
        · exact .inr ⟨s, by rw [← e2]; exact List.mem_cons_self, e3⟩
      · exact .inr ⟨t, List.mem_cons_of_mem _ ht, e⟩
    · rcases one with e2 | ⟨e2, e3⟩
      · exact .inl e2
      · exact .inr ⟨s, by rw [← e2]; exact List.mem_cons_self, e3⟩
/-- What wiping leaves, sure or not. -/
structure WipeBad (M M' : DM) (l : List Int) : Prop where
  ok : M'.Ok
  dead : M'.dead
  sure : M'.sure = M.sure
  oth : ∀ j : Nat, (j : Int) ∉ l → M'.now.getD j zsec = M.sure.getD j zsec
  any : ∀ j : Nat, M'.now.getD j zsec = M.sure.getD j zsec ∨ M'.now.getD j zsec = zsec
structure WipeGood (M M' : DM) (l : List Int) : Prop where
  ok : M'.Ok
  quiet : ∀ j : Nat, M'.now.getD j zsec = M'.sure.getD j zsec
  oth : ∀ j : Nat, (j : Int) ∉ l → M'.sure.getD j zsec = M.sure.getD j zsec
  all : ∀ j : Nat, (j : Int) ∈ l → M'.sure.getD j zsec = zsec
theorem wipe_eff {M : DM} (hok : M.Ok) {l : List Int} (hv : ∀ x ∈ l, 0 ≤ x ∧ x < M.n) (hq : ∀ j, M.now.getD j zsec = M.sure.getD j zsec) :
    ((wipe M l).2 ≠ 0 → (wipe M l).2 = 30 ∧ WipeBad M (wipe M l).1 l) ∧ ((wipe M l).2 = 0 → WipeGood M (wipe M l).1 l) := by
  have n30 : (30 : Int) ≠ 0 := by decide
  have we := writes_eff (l.map fun i => (i, zsec)) hok (fun p hp => by
    obtain ⟨x, hx, rfl⟩ := List.mem_map.1 hp
    exact ⟨(hv x hx).1, (hv x hx).2, zsec_size⟩)
  have wa := writes_any (l.map fun i => (i, zsec)) hok
  have oth : ∀ j : Nat, (j : Int) ∉ l → (writes M (l.map fun i => (i, zsec))).1.now.getD j zsec = M.sure.getD j zsec := fun j hj => by
    rw [we.oth j (fun p hp e => hj (by
      obtain ⟨x, hx, rfl⟩ := List.mem_map.1 hp
      have e : x = (j : Int) := e
      rw [← e]; exact hx)), hq]
  have any : ∀ j : Nat, (writes M (l.map fun i => (i, zsec))).1.now.getD j zsec = M.sure.getD j zsec ∨ (writes M (l.map fun i => (i, zsec))).1.now.getD j zsec = zsec := fun j => by
    rcases wa j with e | ⟨s, hs, e⟩
    · exact .inl (by rw [e, hq])
    · obtain ⟨x, hx, e2⟩ := List.mem_map.1 hs
      injection e2 with _ e2
      exact .inr (by rw [e, e2])
  unfold wipe
  generalize (writes M (l.map fun i => (i, zsec))) = W at *
  by_cases hc : W.2 = 0
  · rw [if_pos hc]
    by_cases hd : W.1.dead
    · have e : W.1.flush = (W.1, 30) := by unfold DM.flush; rw [if_pos hd]
      rw [e]
      exact ⟨fun _ => ⟨rfl, we.ok, hd, we.sure, oth, any⟩, fun h => absurd h n30⟩
    · have e : W.1.flush = (W.1.flushed, 0) := by unfold DM.flush; rw [if_neg hd]
      rw [e]
      refine ⟨fun h => absurd rfl h, fun _ => ⟨we.ok.flushed, fun j => rfl, fun j hj => oth j hj, fun j hj => ?_⟩⟩
      show W.1.now.getD j zsec = zsec
      refine we.all hc j zsec (List.mem_map.2 ⟨j, hj, rfl⟩) (fun s' hs' => ?_)
      obtain ⟨x, _, e2⟩ := List.mem_map.1 hs'
      injection e2 with _ e2
      exact e2.symm
  · rw [if_neg hc]
    obtain ⟨h30, hdead⟩ := we.bad hc
    exact ⟨fun _ => ⟨h30, we.ok, hdead, we.sure, oth, any⟩, fun h => absurd h hc⟩

theorem tear_none (S : List ByteArray) (a H : Nat) {c : Nat} (hc : c ≠ 0) {y : ByteArray} (h : S.getD a zsec = tear c zsec y) : recAt S a H = none := by
  apply no_mark
  rw [h]
  have hz : zsec.data.toList = List.replicate 64 0 := by decide +kernel
  have : (tear c zsec y).data.getD 0 0 = 0 := by
    show ((zsec.data.toList.take c ++ y.data.toList.drop c).toArray).getD 0 0 = 0
    rw [hz, List.take_replicate, Array.getD_eq_getD_getElem?, List.getElem?_toArray]
    obtain ⟨k, hk⟩ : ∃ k, min c 64 = k + 1 := ⟨min c 64 - 1, by omega⟩
    rw [hk, List.replicate_succ]; rfl
  rw [this]
  decide
theorem tear_zero (x y : ByteArray) : tear 0 x y = y := by
  apply byteCells_inj
  rw [tear_cells]; simp

/-- Wherever the power goes within a Reset: the records ahead of some one are read. -/
theorem reset_after {M : DM} {L : LM} {rs : RL} (h : LInv M L rs) {next : Int} (hn : 1 ≤ next) (hn2 : next ≤ 4611686018427387904) :
    ((lreset M L next).2.2 = 0 ∨ (lreset M L next).2.2 = 30) ∧ ((lreset M L next).2.2 = 0 → (lreset M L next).2.1.next = next) ∧ ∀ keep torn cut, ∃ k, After ((lreset M L next).1.crash keep torn cut).sure L (rs.take k) ∧ ((lreset M L next).2.2 = 0 → k = 0) := by
  have n30 : (30 : Int) ≠ 0 := by decide
  have hL := h.lok
  have f0 := hL.f0
  have f1 := hL.fe
  have f2 := hL.eb
  have f3 := hL.bn
  have hMn : M.n = (M.sure.length : Int) := rfl
  have hbadn : ¬ (next < 1 ∨ MOST < next) := fun hc => by
    rcases hc with hc | hc
    · omega
    · have : (4611686018427387904 : Int) < next := hc
      omega
  have hle := h.lay
  have hmem := layF_mem (recF M.sure L.behind.toNat) rs h.lay
  unfold lreset
  simp only
  rw [if_neg hbadn]
  by_cases hnil : L.heads = []
  · rw [if_pos hnil]
    refine ⟨.inl rfl, fun _ => rfl, fun keep torn cut => ⟨0, ?_, fun _ => rfl⟩⟩
    have hrs : rs = [] := by
      have := h.hds
      rw [hnil] at this
      exact (List.map_eq_nil_iff.1 this.symm)
    have := h.after keep torn cut
    rw [hrs] at this ⊢
    exact this
  rw [if_neg hnil]
  have hE := h.e
  have hv1 : ∀ x ∈ L.heads, 0 ≤ x ∧ x < M.n := fun x hx => by
    have := hL.hr x hx
    omega
  have hinH : ∀ j : Nat, (j : Int) ∈ L.heads ↔ ∃ r ∈ rs, r.1 = j := fun j => by
    rw [h.hds, List.mem_map]
    constructor
    · rintro ⟨r, hr, e⟩; exact ⟨r, hr, by omega⟩
    · rintro ⟨r, hr, e⟩; exact ⟨r, hr, by omega⟩
  obtain ⟨bad1, good1⟩ := wipe_eff h.ok hv1 h.quiet
  have h64 := S64_of h.ok.s64
  by_cases hc1 : (wipe M L.heads).2 = 0
  · rw [if_neg (by rw [hc1]; simp)]
    have g := good1 hc1
    -- the first head is gone for good
    obtain ⟨r0, rs0, hrs⟩ : ∃ r0 rs0, rs = r0 :: rs0 := by
      cases hrs : rs with
      | nil => exact absurd (show L.heads = [] by rw [h.hds, hrs]; rfl) hnil
      | cons r rs' => exact ⟨r, rs', rfl⟩
    have hr0 : r0.1 = L.first.toNat := by
      have := h.lay
      rw [hrs] at this
      exact this.1
    have hF0 : ((L.first.toNat : Nat) : Int) ∈ L.heads := (hinH _).2 ⟨r0, by rw [hrs]; exact List.mem_cons_self, hr0⟩
    have hFo : ((L.first.toNat : Nat) : Int) ∉ others L := fun hm => by
      unfold others othersTo at hm
      obtain ⟨i, hi, e⟩ := List.mem_map.1 hm
      have h2 := (List.mem_filter.1 hi).2
      rw [e, decide_eq_true hF0] at h2
      exact absurd h2 (by decide)
    have hv2 : ∀ x ∈ others L, 0 ≤ x ∧ x < (wipe M L.heads).1.n := fun x hx => by
      rw [wipe_n h.ok]
      unfold others othersTo at hx
      obtain ⟨i, hi, rfl⟩ := List.mem_map.1 hx
      have := List.mem_range.1 (List.mem_filter.1 hi).1
      omega
    obtain ⟨bad2, good2⟩ := wipe_eff g.ok hv2 g.quiet
    have zero0 : (wipe M L.heads).1.sure.getD L.first.toNat zsec = zsec := g.all _ hF0
    have none0 : ∀ S : List ByteArray, S.getD L.first.toNat zsec = zsec → After S L (rs.take 0) := fun S hS => ⟨trivial, stop_zero (by rw [List.take_zero]; exact hS)⟩
    by_cases hc2 : (wipe (wipe M L.heads).1 (others L)).2 = 0
    · rw [if_neg (by rw [hc2]; simp)]
      have g2 := good2 hc2
      refine ⟨.inl rfl, fun _ => rfl, fun keep torn cut => ⟨0, none0 _ ?_, fun _ => rfl⟩⟩
      rw [crash_same (g2.quiet _), g2.oth _ hFo, zero0]
    · rw [if_pos hc2]
      obtain ⟨h30, b2⟩ := bad2 hc2
      refine ⟨.inr h30, fun h0 => absurd h0 hc2, fun keep torn cut => ⟨0, none0 _ ?_, fun _ => rfl⟩⟩
      rw [crash_same (by rw [b2.oth _ hFo, b2.sure]), b2.sure, zero0]
  · rw [if_pos hc1]
    obtain ⟨h30, b1⟩ := bad1 hc1
    refine ⟨.inr h30, fun h0 => absurd h0 hc1, fun keep torn cut => ?_⟩
    have calm : ∀ j : Nat, (j : Int) ∉ L.heads → ((wipe M L.heads).1.crash keep torn cut).sure.getD j zsec = M.sure.getD j zsec := fun j hj => by
      rw [crash_same (by rw [b1.oth j hj, b1.sure]), b1.sure]
    have hcut := layF_cut (f := fun a => recAt M.sure a L.behind.toNat) (g := fun a => recAt ((wipe M L.heads).1.crash keep torn cut).sure a L.behind.toNat) (recF M.sure L.behind.toNat) rs h.lay (fun r hr => ?_) ?_
    · obtain ⟨k, h1, h2⟩ := hcut
      exact ⟨k, ⟨h1, h2⟩, fun h0 => absurd h0 hc1⟩
    · show recAt _ r.1 _ = none ∨ recAt _ r.1 _ = some r.2
      have hold : ((wipe M L.heads).1.crash keep torn cut).sure.getD r.1 zsec = M.sure.getD r.1 zsec → recAt ((wipe M L.heads).1.crash keep torn cut).sure r.1 L.behind.toNat = some r.2 := fun e => by
        have hrec : recAt M.sure r.1 L.behind.toNat = some r.2 := (hmem r hr).1
        obtain ⟨r1, seq, d⟩ := r
        refine recAt_congr h64 hrec fun i hi hi2 => ?_
        rcases Nat.eq_or_lt_of_le hi with e2 | e2
        · rw [← e2]; exact e
        · refine calm i fun hm => ?_
          obtain ⟨r', hr', e3⟩ := (hinH i).1 hm
          exact layF_apart (recF M.sure L.behind.toNat) rs h.lay (r1, seq, d) hr r' hr' (by rw [e3]; exact e2) (by rw [e3]; exact hi2)
      have hz : ∀ e : ((wipe M L.heads).1.crash keep torn cut).sure.getD r.1 zsec = zsec, recAt ((wipe M L.heads).1.crash keep torn cut).sure r.1 L.behind.toNat = none := fun e => recAt_zero e
      rcases crash_three (wipe M L.heads).1 keep torn cut r.1 with e | e | ⟨c, hc, e⟩
      · rcases b1.any r.1 with e2 | e2
        · exact .inr (hold (by rw [e, e2]))
        · exact .inl (hz (by rw [e, e2]))
      · exact .inr (hold (by rw [e, b1.sure]))
      · rw [b1.sure] at e
        rcases b1.any r.1 with e2 | e2
        · rw [e2, tear_same] at e
          exact .inr (hold e)
        · rw [e2] at e
          by_cases hc0 : c = 0
          · subst hc0
            rw [tear_zero] at e
            exact .inr (hold e)
          · exact .inl (tear_none _ _ _ hc0 e)
    · have hout : ((endAt L.first.toNat rs : Nat) : Int) ∉ L.heads := fun hm => by
        obtain ⟨r, hr, e⟩ := (hinH _).1 hm
        have := (hmem r hr).2.2
        omega
      rcases Nat.lt_or_ge (endAt L.first.toNat rs) L.behind.toNat with hlt | hge
      · exact stop_zero (by rw [calm _ hout]; exact h.zer _ (Nat.le_refl _) hlt)
      · exact stop_behind hge

theorem wipe_ok {M : DM} (h : M.Ok) (l : List Int) : (wipe M l).1.Ok := by
  unfold wipe
  split
  · unfold DM.flush
    split
    · exact writes_ok _ h
    · exact (writes_ok _ h).flushed
  · exact writes_ok _ h
theorem lreset_n {M : DM} (h : M.Ok) (L : LM) (next : Int) : (lreset M L next).1.n = M.n := by
  have n1 := wipe_n h L.heads
  have n2 := wipe_n (wipe_ok h L.heads) (others L)
  unfold lreset
  simp only
  split
  · rfl
  split
  · rfl
  split
  · exact n1
  split
  · exact n2.trans n1
  · exact n2.trans n1
end Go.Proofs.Ytcaamecdhbgknaa.Log
