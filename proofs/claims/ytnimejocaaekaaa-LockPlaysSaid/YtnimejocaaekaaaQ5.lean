/- The locks: New, at, Holds, Waits. -/
import Derived.Test.YtnimejocaaekaaaQ4
namespace Go.Proofs.Ytnimejocaaekaaa.Lock
open Go Go.V
open Go.Proofs.Ytnimejocaaekaaa.VC
open Go.Proofs.Try (prog)
set_option linter.unusedVariables false
set_option linter.unusedSimpArgs false
set_option maxRecDepth 20000

theorem len_updM (l : List (Int × Value)) (a : Int) (y : Value) : (updM l a y).length ≤ l.length + 1 := by
  induction l with
  | nil => simp [updM]
  | cons p l ih =>
    obtain ⟨k, x⟩ := p
    simp only [updM]
    split
    · simp
    · simp only [List.length_cons]; omega
theorem len_delM (l : List (Int × Value)) (a : Int) : (delM l a).length ≤ l.length := by
  induction l with
  | nil => simp [delM]
  | cons p l ih =>
    obtain ⟨k, x⟩ := p
    simp only [delM]
    split
    · simp
    · simp only [List.length_cons]; omega
theorem mem_delM {l : List (Int × Value)} {a : Int} {p : Int × Value} (h : p ∈ delM l a) : p ∈ l := by
  induction l with
  | nil => simp [delM] at h
  | cons q l ih =>
    obtain ⟨k, x⟩ := q
    simp only [delM] at h
    split at h
    · exact List.mem_cons_of_mem _ h
    · rcases List.mem_cons.1 h with e | e
      · rw [e]; exact List.mem_cons_self
      · exact List.mem_cons_of_mem _ (ih e)
theorem look_delM {l : List (Int × Value)} (hn : (l.map (·.1)).Nodup) (a s : Int) : V.look (delM l a) s = if s = a then none else V.look l s := by
  induction l with
  | nil => simp [delM, V.look]
  | cons p l ih =>
    obtain ⟨k, x⟩ := p
    rw [List.map_cons, List.nodup_cons] at hn
    simp only [delM]
    by_cases hk : a = k
    · subst hk
      rw [if_pos rfl]
      by_cases hs : s = a
      · subst hs
        rw [if_pos rfl]
        exact look_none fun p hp e => hn.1 (by rw [← e]; exact List.mem_map.2 ⟨p, hp, rfl⟩)
      · rw [if_neg hs]; simp [V.look, hs]
    · rw [if_neg hk]
      simp only [V.look]
      rw [ih hn.2]
      by_cases hs : s = k
      · subst hs; rw [if_pos rfl, if_pos rfl, if_neg (fun e => hk e.symm)]
      · rw [if_neg hs, if_neg hs]

section
variable {w w' : World} {own : List Nat} {tb mi mw : Nat} {ib : Int → Option IB} {N : Nat} {W : Int → Option Int} {M : Int → IM}

theorem tabLook (h : TabAt w own tb mi mw ib N W M) (i : Int) : ∃ li, MapG kenc w mi li ∧ ∃ p b, LookRel li i (.pointer none) (.pointer p) b ∧ p = (ib i).map fun b => ⟨b.x, 0, none⟩ := by
  obtain ⟨li, g1, g2, _⟩ := h.items
  have := g2 i
  cases hi : ib i with
  | none => rw [hi] at this; exact ⟨li, g1, none, false, .inr ⟨rfl, this, rfl⟩, rfl⟩
  | some b => rw [hi] at this; exact ⟨li, g1, some ⟨b.x, 0, none⟩, true, .inl ⟨rfl, this⟩, rfl⟩
theorem waitLook (h : TabAt w own tb mi mw ib N W M) (s : Int) : ∃ lw, MapG kenc w mw lw ∧ ∃ n b, LookRel lw s (I64 0) (I64 n) b ∧ n = (W s).getD 0 ∧ b = (W s).isSome := by
  obtain ⟨lw, g1, g2, _⟩ := h.waits
  have := g2 s
  cases hi : W s with
  | none => rw [hi] at this; exact ⟨lw, g1, 0, false, .inr ⟨rfl, this, rfl⟩, rfl, rfl⟩
  | some i => rw [hi] at this; exact ⟨lw, g1, i, true, .inl ⟨rfl, this⟩, rfl, rfl⟩
theorem TabAt.c0 (h : TabAt w own tb mi mw ib N W M) : w.cell? ((⟨tb, 0, none⟩ : Addr).add 0) = some (.map (some mi)) := by rw [add_mk, h.blk.cell]; rfl
theorem TabAt.c1 (h : TabAt w own tb mi mw ib N W M) : w.cell? ((⟨tb, 0, none⟩ : Addr).add 1) = some (.map (some mw)) := by rw [add_mk, h.blk.cell]; rfl
theorem At.c0 {b : IB} {I : IM} (h : At w b I) : w.cell? ((⟨b.x, 0, none⟩ : Addr).add 0) = some (.map (some b.h)) := by rw [add_mk, h.blk.cell]; rfl
theorem At.c1 {b : IB} {I : IM} (h : At w b I) : w.cell? ((⟨b.x, 0, none⟩ : Addr).add 1) = some (.slice b.p I.Q.length b.c) := by rw [add_mk, h.blk.cell]; rfl

theorem new_c (w : World) : Calls prog 9 #[] w fun e w' => ∃ own tb mi mw, e = .returned (D tb) ∧ Fr [] w w' ∧ (∀ x ∈ own, w.heap.size ≤ x) ∧ TabAt w' own tb mi mw (fun _ => none) 0 (fun _ => none) (fun _ => IM.none) := by
  refine lock_New.link (_u := ()) fun w1 k2 st1 h1 w5 k6 st5 h5 k9 w10 st10 b10 => ?_
  have a1 := g_new1 st1
  have a2 := g_new1 st5
  have a3 := g_new1 st10
  have z1 := st1.size
  have z5 := st5.size
  have z10 := st10.size
  refine ⟨[k9, k2, k6], k9, k2, k6, rfl, (st1.fr.trans' st5.fr).trans' st10.fr, fun x hx => by simp at hx; omega, ?_⟩
  refine ⟨b10, ⟨[], ((MapG.new h1).fr st5.fr (by simp)).fr st10.fr (by simp), fun i => rfl, Nat.le_refl _, fun p hp => (by cases hp)⟩, ⟨[], (MapG.new h5).fr st10.fr (by simp), fun i => rfl, fun p hp => (by cases hp)⟩, fun i b h => (by cases h), fun i _ => rfl, fun i j b b' h => (by cases h), fun i b h => (by cases h), by omega, ⟨by simp, by simp, by simp, fun i b h => (by cases h)⟩, fun x hx => by simp at hx; omega⟩

/-- An item that was not there. -/
theorem TabAt.newItem (h : TabAt w own tb mi mw ib N W M) {i : Int} (hr : inR i) (hi : ib i = none) {x hb : Nat} {li : List (Int × Value)} {w1 : World} (hf : Fr [] w w1) (hx : w.heap.size ≤ x) (hhb : w.heap.size ≤ hb) (b1 : Blk w1 x [.map (some hb), .slice none 0 0]) (m1 : MapG kenc w1 hb []) (hm : MapG kenc w1 mi li) (hu : MUpd kenc w1 w' mi (updM li i (D x))) :
    TabAt w' (own ++ [x, hb]) tb mi mw (setI ib i (some ⟨x, hb, none, 0, []⟩)) (N + 1) W M := by
  have h1 := h.fr hf (fun x _ => by simp)
  obtain ⟨li', g1, g2, g3, g4⟩ := h1.items
  obtain rfl : li' = li := by
    obtain ⟨es, ck, e1, e2, _⟩ := g1
    obtain ⟨es', ck', e1', e2', _⟩ := hm
    rw [e1] at e1'; injection e1' with e1'; injection e1' with e3 e4
    subst e3
    rw [e2] at e2'
    refine List.map_inj_right (fun p p' e => ?_) |>.1 e2'
    injection e with e5 e6
    injection e5 with _ e5
    exact Prod.ext e5 e6
  obtain ⟨lw, g5, g6⟩ := h1.waits
  have f2 := hu.fr
  have lt := h.lt
  have hne : ∀ y ∈ own, y ≠ x ∧ y ≠ hb := fun y hy => by have := lt y hy; omega
  have himi : x ≠ mi ∧ hb ≠ mi := by have := hne mi h.ow.2.1; exact ⟨fun e => this.1 e.symm, fun e => this.2 e.symm⟩
  have nmem : ∀ {y : Nat}, y ≠ mi → y ∉ [mi] := fun hy hm => hy (List.mem_singleton.1 hm)
  have tmi : tb ≠ mi := fun e => map_ne_blk g1 (by rw [← e]; exact h1.blk) rfl
  have hb' : At w' ⟨x, hb, none, 0, []⟩ IM.none := ⟨b1.fr f2 (nmem himi.1), m1.fr f2 (nmem himi.2), fun s => rfl, OwnQ.nil _, fun ad hp => (by cases hp)⟩
  have bl : IB.blocks ⟨x, hb, none, 0, []⟩ = [x, hb] := rfl
  refine ⟨h1.blk.fr f2 (nmem tmi), ⟨_, hu.map, fun j => ?_, ?_, fun p hp => ?_⟩, ⟨lw, g5.fr f2 (nmem (Ne.symm h.ne)), g6⟩, fun j c hc => ?_, fun j hj => ?_, fun j k c c' hj hk hne' y hy => ?_, fun j c hc => ?_, h.ne, ⟨by simp [h.ow.1], by simp [h.ow.2.1], by simp [h.ow.2.2.1], fun j c hc y hy => ?_⟩, fun y hy => ?_⟩
  · rw [look_updM]
    unfold setI
    split
    · rfl
    · exact g2 j
  · have := len_updM li' i (D x); omega
  · rcases mem_updM hp with rfl | hp
    · exact hr
    · exact g4 p hp
  · unfold setI at hc
    split at hc
    · rename_i e; injection hc with hc; subst hc; rw [e, h.no i hi]; exact hb'
    · exact (h1.it j c hc).fr f2 (fun y hy hm => (h.apart j c hc).2.1 (by rw [← List.mem_singleton.1 hm]; exact hy))
  · unfold setI at hj
    split at hj
    · cases hj
    · exact h.no j hj
  · unfold setI at hj hk
    split at hj
    · rename_i e; injection hj with hj; subst hj
      rw [if_neg (by rw [← e]; exact Ne.symm hne')] at hk
      intro hm
      have := hne y (h.ow.2.2.2 k c' hk y hm)
      rw [bl] at hy; simp at hy; omega
    · split at hk
      · injection hk with hk; subst hk
        intro hm
        have := hne y (h.ow.2.2.2 j c hj y hy)
        rw [bl] at hm; simp at hm; omega
      · exact h.sep j k c c' hj hk hne' y hy
  · unfold setI at hc
    split at hc
    · injection hc with hc; subst hc
      rw [bl]
      have q1 := hne tb h.ow.1
      have q2 := hne mi h.ow.2.1
      have q3 := hne mw h.ow.2.2.1
      simp; omega
    · exact h.apart j c hc
  · unfold setI at hc
    split at hc
    · injection hc with hc; subst hc; exact List.mem_append_right _ hy
    · exact List.mem_append_left _ (h.ow.2.2.2 j c hc y hy)
  · have zf := f2.size
    rcases List.mem_append.1 hy with hy | hy
    · have := h1.lt y hy; omega
    · exact hb'.lt y (by rw [bl]; exact hy)

theorem at_c (h : TabAt w own tb mi mw ib N W M) {i : Int} (hr : inR i) : Calls prog 22 #[D tb, I64 i] w fun e w' => ∃ own' ib' b, e = .returned (D b.x) ∧ ib' i = some b ∧ TabAt w' own' tb mi mw ib' (N + 1) W M ∧ Fr own w w' ∧ (∀ x ∈ own, x ∈ own') ∧ ∀ x ∈ own', x ∈ own ∨ w.heap.size ≤ x := by
  obtain ⟨li, g1, p, bb, hl, hp⟩ := tabLook h i
  refine lock_Table_at.link ⟨some mi, h.c0, li, g1, p, ⟨bb, hl⟩, fun y5 hy5 => bc (fun hn w10 k11 st10 h10 k14 => ?_) fun hn => hy5 _ _ ?_⟩
  · cases hi : ib i with
    | some b => rw [hi] at hp; subst hp; cases hn
    | none =>
      have h10' := h.fr st10.fr (fun x _ => by simp)
      refine ⟨some mi, h10'.c0, fun w16 st16 b16 => ?_⟩
      have a1 := g_new1 st10
      have a2 := g_new1 st16
      have z1 := st10.size
      have f16 : Fr [] w w16 := st10.fr.trans' st16.fr
      obtain ⟨li2, m2, _⟩ := (h.fr f16 (fun x _ => by simp)).items
      refine ⟨mi, li2, rfl, m2, fun w21 u21 => hy5 _ _ ?_⟩
      have T := h.newItem hr hi f16 (x := k14) (hb := k11) (by omega) a1.1 b16 ((MapG.new h10).fr st16.fr (by simp)) m2 u21
      exact ⟨_, _, _, rfl, by unfold setI; rw [if_pos rfl], T, (f16.mono (fun x hx => by cases hx)).trans u21.fr (fun x hx => .inl (by rw [List.mem_singleton.1 hx]; exact h.ow.2.1)), fun x hx => List.mem_append_left _ hx, fun x hx => by
        rcases List.mem_append.1 hx with hx | hx
        · exact .inl hx
        · right; simp at hx; omega⟩
  · cases hi : ib i with
    | none => rw [hi] at hp; subst hp; cases hn
    | some b =>
      rw [hi] at hp; subst hp
      exact ⟨own, ib, b, rfl, hi, h.mono (by omega), Fr.refl _ _, fun x hx => hx, fun x hx => .inl hx⟩

theorem holds_c (h : TabAt w own tb mi mw ib N W M) (s i : Int) : Calls prog 15 #[D tb, I64 s, I64 i] w fun e w' => w' = w ∧ e = .returned (.tuple #[.bool ((M i).H s).isSome, .bool (((M i).H s).getD false)]) := by
  obtain ⟨li, g1, p, bb, hl, hp⟩ := tabLook h i
  refine lock_Table_Holds.link ⟨some mi, h.c0, li, g1, p, ⟨bb, hl⟩, ?_⟩
  cases hi : ib i with
  | none =>
    rw [hi] at hp; subst hp
    refine bT rfl ⟨rfl, ?_⟩
    rw [h.no i hi]; rfl
  | some b =>
    rw [hi] at hp; subst hp
    have hb := h.it i b hi
    exact bF rfl ⟨_, rfl, _, hb.c0, b.l, hb.map, _, _, hb.held.lookRel s, rfl, rfl⟩

theorem waits_c (h : TabAt w own tb mi mw ib N W M) (ok : TOk W M) (s : Int) : Calls prog 14 #[D tb, I64 s] w fun e w' => Fr [] w w' ∧ ((W s = none ∧ e = .returned (.tuple #[I64 0, .bool false, .bool false])) ∨ ∃ i al, W s = some i ∧ (s, al) ∈ (M i).Q ∧ e = .returned (.tuple #[I64 i, .bool al, .bool true])) := by
  obtain ⟨lw, g1, n, bb, hl, hn, hb⟩ := waitLook h s
  refine lock_Table_Waits.link ⟨some mw, h.c1, lw, g1, n, bb, hl, ?_⟩
  cases hW : W s with
  | none =>
    rw [hW] at hb; subst hb
    exact bT rfl ⟨Fr.refl _ _, .inl ⟨rfl, rfl⟩⟩
  | some i =>
    rw [hW] at hb hn; subst hb
    have hn : n = i := hn
    subst hn
    obtain ⟨al, hal⟩ := (ok.one s n).1 hW
    obtain ⟨li, g1', p, b', hl', hp⟩ := tabLook h n
    refine bF rfl ⟨some mi, h.c0, li, g1', p, ⟨b', hl'⟩, ?_⟩
    cases hi : ib n with
    | none => rw [h.no n hi] at hal; cases hal
    | some b =>
      rw [hi] at hp; subst hp
      have hat := h.it n b hi
      have hq := ok.q16 n
      refine ⟨_, rfl, _, _, _, hat.c1, fun m q w' => ∃ j : Nat, q = j ∧ j ≤ (M n).Q.length ∧ m = (M n).Q.length - j ∧ Fr [] w w' ∧ ∀ a ∈ (M n).Q.take j, a.1 ≠ s, (M n).Q.length, ⟨0, rfl, by omega, rfl, Fr.refl _ _, by simp⟩, ?_⟩
      rintro m q w17 ⟨j, rfl, hj, rfl, f17, hno⟩
      refine bc (fun hlt => ?_) fun hge => ?_
      · have hlt : (j : Int) < ((M n).Q.length : Int) := of_decide_eq_true hlt
        have hlt' : j < (M n).Q.length := by omega
        obtain ⟨ad, hp, c0, c1⟩ := qread (g_row f17 hat.own.row fun ad _ _ => by simp) hlt'
        have e0 : (j : Int).toNat * 2 = j * 2 := by omega
        refine ⟨ad, hp, ⟨by omega, hlt⟩, _, _, ⟨by rw [e0]; exact c0, by rw [e0]; exact c1, trivial⟩, fun k22 => bc (fun he w23 st => ⟨f17.trans' st.fr, .inr ⟨n, _, rfl, ?_, rfl⟩⟩) fun hne => ⟨(M n).Q.length - (j + 1), by omega, fun w26 st => ⟨j + 1, by rw [wrapi (by omega) (by omega)]; simp, by omega, rfl, f17.trans' st.fr, fun a ha => ?_⟩⟩⟩
        · have he := of_decide_eq_true he
          have : (s, (M n).Q[j].2) = (M n).Q[j] := by rw [← he]
          rw [this]; exact List.getElem_mem hlt'
        · rw [List.take_add_one, List.getElem?_eq_getElem hlt'] at ha
          rcases List.mem_append.1 ha with ha | ha
          · exact hno a ha
          · simp at ha; subst ha; exact of_decide_eq_false hne
      · have hge : ¬ (j : Int) < ((M n).Q.length : Int) := of_decide_eq_false hge
        rw [List.take_of_length_le (by omega)] at hno
        exact absurd rfl (hno _ hal)
end
end Go.Proofs.Ytnimejocaaekaaa.Lock
