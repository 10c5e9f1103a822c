/- Where ways meet: what is known holds. -/
import Derived.Test.YtcaamecdhbgknaaV17
namespace Go.V
open Go.RowKit
set_option linter.unusedVariables false
set_option linter.unusedSimpArgs false

theorem getD_get (s : St) (t : Nat) : s.get t = s.env.getD t .no := rfl

theorem inWs_iff (i : Nat) : ∀ (ws : List (Option Nat)), inWs i ws = true ↔ some i ∈ ws
  | [] => by simp [inWs]
  | none :: l => by simp [inWs, inWs_iff i l]
  | some d :: l => by
    simp only [inWs, Bool.or_eq_true, inWs_iff i l, List.mem_cons, Option.some.injEq]
    constructor
    · rintro (h | h)
      · exact .inl (Nat.eq_of_beq_eq_true h).symm
      · exact .inr h
    · rintro (h | h)
      · exact .inl (by rw [h]; exact Nat.beq_refl _)
      · exact .inr h
theorem forget_get (ws : List (Option Nat)) : ∀ (l : List AV) (i t : Nat), (forget ws i l).getD t .no = if some (i + t) ∈ ws then .no else l.getD t .no
  | [], i, t => by simp [forget]
  | x :: l, i, t => by
    cases t with
    | zero =>
      simp only [forget, List.getD_cons_zero, Nat.add_zero]
      by_cases h : some i ∈ ws
      · rw [(inWs_iff i ws).2 h, if_pos h]; rfl
      · have : inWs i ws = false := by
          rw [Bool.eq_false_iff]
          exact fun hc => h ((inWs_iff i ws).1 hc)
        rw [this, if_neg h]; rfl
    | succ t =>
      simp only [forget, List.getD_cons_succ]
      rw [forget_get ws l (i + 1) t, show i + 1 + t = i + (t + 1) by omega]
theorem forget_length (ws : List (Option Nat)) : ∀ (l : List AV) (i : Nat), (forget ws i l).length = l.length
  | [], _ => rfl
  | x :: l, i => by simp [forget, forget_length ws l (i + 1)]
theorem dropHps_get (live : List Nat) : ∀ (l : List (Option PB)) (i k : Nat), (dropHps live i l)[k]? = (l[k]?).map fun x => bif live.any (Nat.beq (i + k)) then x else none
  | [], i, k => by simp [dropHps]
  | x :: l, i, k => by
    cases k with
    | zero => simp [dropHps]
    | succ k =>
      simp only [dropHps, List.getElem?_cons_succ]
      rw [dropHps_get live l (i + 1) k, show i + 1 + k = i + (k + 1) by omega]
theorem dropHps_length (live : List Nat) : ∀ (l : List (Option PB)) (i : Nat), (dropHps live i l).length = l.length
  | [], _ => rfl
  | x :: l, i => by simp [dropHps, dropHps_length live l (i + 1)]
theorem setHps_length : ∀ (hs : List (Nat × List Lf)) (hp : List (Option PB)) (xs : List AV), (setHps hp hs xs).length = hp.length
  | [], hp, xs => rfl
  | (k, ls) :: hs, hp, xs => by
    simp only [setHps]
    split
    · rw [setHps_length hs]; simp
    · rw [setHps_length hs]
theorem any_beq {live : List Nat} {k : Nat} : live.any (Nat.beq k) = true ↔ k ∈ live := by
  constructor
  · intro h
    obtain ⟨x, hx, hb⟩ := List.any_eq_true.1 h
    rw [Nat.eq_of_beq_eq_true hb]; exact hx
  · intro h; exact List.any_eq_true.2 ⟨k, h, Nat.beq_refl k⟩

theorem vals1_map (cs : List Value) : vals1 (cs.map AV.v) = cs := by
  induction cs with
  | nil => rfl
  | cons x cs ih => simp [vals1, ih]

/-- The cells that are handed on are the block's. -/
theorem conv_cells {s' : St} {k : Nat} {ls : List Lf} {ys : List AV} (h : Conv (ls.map Sh.l) (s'.cellsOf k ls.length) ys) : ∃ pb, s'.hp[k]? = some (some pb) ∧ ys = pb.cs.map AV.v ∧ pb.cs.length = ls.length := by
  have hno : ¬ (s'.cellsOf k ls.length = [.no]) := fun e => by
    rw [e] at h
    cases ls with
    | nil => cases h
    | cons l ls =>
      simp only [List.map_cons] at h
      cases h with
      | l hv h => cases hv
  unfold St.cellsOf at h hno
  cases hg : s'.hp.getD k none with
  | none => rw [hg] at hno; exact absurd rfl hno
  | some pb =>
    rw [hg] at h hno
    simp only at h hno
    cases hb : Nat.beq pb.cs.length ls.length with
    | false => rw [hb] at hno; exact absurd rfl hno
    | true =>
      rw [hb] at h
      simp only at h
      have hlen := Nat.eq_of_beq_eq_true hb
      refine ⟨pb, hp_getD hg, ?_, hlen⟩
      clear hno hb hg
      generalize pb.cs = cs at h hlen
      clear hlen
      induction ls generalizing cs ys with
      | nil => cases cs with
        | nil => cases h; rfl
        | cons c cs => cases h
      | cons l ls ih =>
        cases cs with
        | nil => cases h
        | cons c cs =>
          simp only [List.map_cons] at h ⊢
          cases h with
          | l hv h =>
            simp only [AV.value, Option.some.injEq] at hv
            subst hv
            rw [ih cs h]

/-- The private blocks that are handed on. -/
theorem setHps_spec {s' : St} : ∀ {hs : List (Nat × List Lf)} {hp : List (Option PB)} {ys : List AV},
    Conv (hs.flatMap fun h => h.2.map Sh.l) (hs.flatMap fun h => s'.cellsOf h.1 h.2.length) ys →
    ∀ (k : Nat) (q : PB), (setHps hp hs ys)[k]? = some (some q) →
      (hp[k]? = some (some q) ∧ k ∉ hs.map (·.1)) ∨ (k ∈ hs.map (·.1) ∧ ∃ p pb n, hp[k]? = some (some p) ∧ s'.hp[k]? = some (some pb) ∧ q = ⟨p.b, n, pb.cs⟩ ∧ p.ver < n)
  | [], hp, ys, h, k, q, hq => .inl ⟨hq, by simp⟩
  | (k0, ls) :: hs, hp, ys, h, k, q, hq => by
    simp only [List.flatMap_cons] at h
    by_cases hlen : (s'.cellsOf k0 ls.length).length = (ls.map Sh.l).length
    · obtain ⟨y1, y2, rfl, h1, h2⟩ := Conv.split hlen h
      obtain ⟨pb, hpb, rfl, hl⟩ := conv_cells h1
      have ht : (pb.cs.map AV.v ++ y2).take ls.length = pb.cs.map AV.v := by rw [← hl, List.take_append_of_le_length (by simp), List.take_of_length_le (by simp)]
      have hd : (pb.cs.map AV.v ++ y2).drop ls.length = y2 := by rw [← hl]; simp
      simp only [setHps, ht, hd, vals1_map] at hq
      cases hg : hp.getD k0 none with
      | none =>
        rw [hg] at hq
        rcases setHps_spec h2 k q hq with ⟨g1, g2⟩ | ⟨g1, g2⟩
        · by_cases e : k = k0
          · subst e; rw [List.getD_eq_getElem?_getD, g1] at hg; cases hg
          · exact .inl ⟨g1, by simp [e]; simpa using g2⟩
        · exact .inr ⟨by simp only [List.map_cons, List.mem_cons]; exact .inr g1, g2⟩
      | some p =>
        rw [hg] at hq
        have hp0 : hp[k0]? = some (some p) := by
          rw [List.getD_eq_getElem?_getD] at hg
          cases e : hp[k0]? with
          | none => rw [e] at hg; cases hg
          | some x => rw [e] at hg; simp at hg; rw [hg]
        have hlt : k0 < hp.length := by
          rcases Nat.lt_or_ge k0 hp.length with z | z
          · exact z
          · rw [List.getElem?_eq_none z] at hp0; cases hp0
        rcases setHps_spec h2 k q hq with ⟨g1, g2⟩ | ⟨g1, p', pb', n, e1, e2, e3, e4⟩
        · by_cases e : k0 = k
          · subst e
            rw [List.getElem?_set_self hlt] at g1
            injection g1 with g1; injection g1 with g1
            exact .inr ⟨by simp, p, pb, p.ver + 1, hp0, hpb, g1.symm, Nat.lt_succ_self _⟩
          · rw [List.getElem?_set_ne e] at g1
            exact .inl ⟨g1, by simp [Ne.symm e]; simpa using g2⟩
        · by_cases e : k0 = k
          · subst e
            rw [List.getElem?_set_self hlt] at e1
            injection e1 with e1; injection e1 with e1
            subst e1
            rw [hpb] at e2; injection e2 with e2; injection e2 with e2; subst e2
            exact .inr ⟨by simp, p, pb, n, hp0, hpb, e3, by simp only at e4; omega⟩
          · rw [List.getElem?_set_ne e] at e1
            exact .inr ⟨by simp only [List.map_cons, List.mem_cons]; exact .inr g1, p', pb', n, e1, e2, e3, e4⟩
    · -- the counts do not fit: nothing is handed on
      exfalso
      have hno : s'.cellsOf k0 ls.length = [.no] ∧ ls.length ≠ 1 := by
        unfold St.cellsOf at hlen ⊢
        cases hg : s'.hp.getD k0 none with
        | none => rw [hg] at hlen; simp at hlen ⊢; exact fun e => hlen e.symm
        | some pb =>
          rw [hg] at hlen
          simp only at hlen ⊢
          cases hb : Nat.beq pb.cs.length ls.length with
          | true => rw [hb] at hlen; simp at hlen; exact absurd (Nat.eq_of_beq_eq_true hb) hlen
          | false => rw [hb] at hlen; simp at hlen ⊢; exact fun e => hlen e.symm
      rw [hno.1] at h
      cases ls with
      | nil =>
        simp only [List.map_nil, List.nil_append, List.cons_append] at h
        generalize (List.flatMap (fun h : Nat × List Lf => h.2.map Sh.l) hs) = ss at h
        cases h with
        | l hv h => cases hv
        | x hv h => cases hv
      | cons l ls =>
        simp only [List.map_cons, List.cons_append] at h
        cases h with
        | l hv h => cases hv

theorem setAll_length : ∀ (ss : List (Nat × Sh)) (env : List AV) (xs : List AV), (setAll env ss xs).length = env.length
  | [], env, xs => by cases xs <;> rfl
  | (t, sh) :: ss, env, xs => by
    cases xs with
    | nil => rfl
    | cons x xs => simp only [setAll]; rw [setAll_length ss]; simp
theorem setAll_spec {s' sj : St} {a' : Act} (hok : ∀ t, AVok s' (s'.get t) (a'.tmps.getD t undef)) : ∀ {ss : List (Nat × Sh)} {env : List AV} {ys : List AV}, Conv (ss.map (·.2)) (ss.map fun p => s'.get p.1) ys →
    (∀ t, AVok sj (env.getD t .no) (a'.tmps.getD t undef)) → ∀ t, AVok sj ((setAll env ss ys).getD t .no) (a'.tmps.getD t undef)
  | [], env, ys, h, he, t => by cases h; exact he t
  | (u, sh) :: ss, env, ys, h, he, t => by
    simp only [List.map_cons] at h
    have key : ∀ (y : AV) (ys' : List AV), Conv (ss.map (·.2)) (ss.map fun p => s'.get p.1) ys' → AVok sj y (a'.tmps.getD u undef) → AVok sj ((setAll (env.set u y) ss ys').getD t .no) (a'.tmps.getD t undef) := fun y ys' h hy => by
      refine setAll_spec hok h (fun t' => ?_) t
      by_cases e : u = t'
      · subst e
        by_cases hl : u < env.length
        · simp [List.getD, hl]; simpa using hy
        · have : (env.set u y).getD u .no = .no := by simp [List.getD, hl]
          rw [this]; trivial
      · have : (env.set u y).getD t' .no = env.getD t' .no := by simp [List.getD, List.getElem?_set_ne e]
        rw [this]; exact he t'
    obtain ⟨x0, hx0⟩ : ∃ x0, s'.get u = x0 := ⟨_, rfl⟩
    have hu := hok u
    rw [hx0] at h hu
    cases h with
    | l hv h => exact key _ _ h (value_ok hv hu)
    | g h => exact key _ _ h hu
    | a h => exact key _ _ h hu
    | x hv h => exact key _ _ h (value_ok hv hu)

theorem dropRef_ok {s sj : St} {live : List Nat} {x : AV} {z : Value} (hx : AVok s x z) (h : ∀ k ∈ live, ∀ pb, s.hp[k]? = some (some pb) → ∃ q, sj.hp[k]? = some (some q) ∧ q.b = pb.b) : AVok sj (dropRef live x) z := by
  cases x with
  | no => trivial
  | v y => exact hx
  | a ad => exact hx
  | t b => exact hx
  | r k off =>
    obtain ⟨pb, h1, h2⟩ := hx
    simp only [dropRef]
    cases hl : live.any (Nat.beq k) with
    | false => trivial
    | true =>
      obtain ⟨q, g1, g2⟩ := h k (any_beq.1 hl) pb h1
      exact ⟨q, g1, by rw [h2, g2]⟩
  | q k n =>
    obtain ⟨pb, h1, h2⟩ := hx
    simp only [dropRef]
    cases hl : live.any (Nat.beq k) with
    | false => trivial
    | true =>
      obtain ⟨q, g1, g2⟩ := h k (any_beq.1 hl) pb h1
      exact ⟨q, g1, by rw [h2, g2]⟩

/-- What is handed on was alive. -/
theorem conv_alive {s' : St} : ∀ {hs : List (Nat × List Lf)} {ys : List AV}, Conv (hs.flatMap fun h => h.2.map Sh.l) (hs.flatMap fun h => s'.cellsOf h.1 h.2.length) ys → ∀ k ∈ hs.map (·.1), ∃ pb, s'.hp[k]? = some (some pb)
  | [], ys, h, k, hk => by simp at hk
  | (k0, ls) :: hs, ys, h, k, hk => by
    simp only [List.flatMap_cons] at h
    by_cases hlen : (s'.cellsOf k0 ls.length).length = (ls.map Sh.l).length
    · obtain ⟨y1, y2, rfl, h1, h2⟩ := Conv.split hlen h
      obtain ⟨pb, hpb, _, _⟩ := conv_cells h1
      rcases List.mem_cons.1 hk with rfl | hk
      · exact ⟨pb, hpb⟩
      · exact conv_alive h2 k hk
    · exfalso
      have hno : s'.cellsOf k0 ls.length = [.no] := by
        unfold St.cellsOf at hlen ⊢
        cases hg : s'.hp.getD k0 none with
        | none => rfl
        | some pb =>
          rw [hg] at hlen
          simp only at hlen ⊢
          cases hb : Nat.beq pb.cs.length ls.length with
          | true => rw [hb] at hlen; simp at hlen; exact absurd (Nat.eq_of_beq_eq_true hb) hlen
          | false => rfl
      rw [hno] at h
      cases ls with
      | nil =>
        simp only [List.map_nil, List.nil_append, List.cons_append] at h
        generalize (List.flatMap (fun h : Nat × List Lf => h.2.map Sh.l) hs) = ss at h
        cases h with
        | l hv h => cases hv
        | x hv h => cases hv
      | cons l ls =>
        simp only [List.map_cons, List.cons_append] at h
        cases h with
        | l hv h => cases hv

/-- Where ways meet. -/
theorem cut_rel {c : Cut} {s s' : St} {v w w' : World} {a a' : Act} {ws : List (Option Nat)} {ys : List AV} (hr : Rel s v a w) (hr' : Rel s' w' a' w') (hx : Ext s s') (hso : SameOut ws a a')
    (hk : stabOk s s' c.keep = true) (hc : Conv c.shs (c.avs s') ys) : Rel (c.st s ws ys) w' a' w' ∧ Ext s (c.st s ws ys) := by
  obtain ⟨y1, y2, rfl, h1, h2⟩ := Conv.split (by simp) hc
  have hl1 : y1.length = c.slots.length := by simpa using h1.length.2
  have hst : c.st s ws (y1 ++ y2) = { env := setAll ((forget ws 0 s.env).map (dropRef (c.keep ++ c.hps.map (·.1)))) c.slots y1, hp := setHps (dropHps (c.keep ++ c.hps.map (·.1)) 0 s.hp) c.hps y2, mods := [], news := [], clean := true, its := s.its } := by
    unfold Cut.st
    have ht : (y1 ++ y2).take c.slots.length = y1 := by rw [← hl1]; simp
    have hd : (y1 ++ y2).drop c.slots.length = y2 := by rw [← hl1]; simp
    rw [ht, hd]
  -- the private blocks
  have hps : ∀ (k : Nat) (q : PB), (c.st s ws (y1 ++ y2)).hp[k]? = some (some q) → ∃ p pb n, s.hp[k]? = some (some p) ∧ s'.hp[k]? = some (some pb) ∧ q = ⟨p.b, n, pb.cs⟩ ∧ (p.ver < n ∨ q = p) := fun k q hq => by
    rw [hst] at hq
    have hq : (setHps (dropHps (c.keep ++ c.hps.map (·.1)) 0 s.hp) c.hps y2)[k]? = some (some q) := hq
    rcases setHps_spec h2 k q hq with ⟨g1, g2⟩ | ⟨g1, p, pb, n, e1, e2, e3, e4⟩
    · rw [dropHps_get, Nat.zero_add] at g1
      cases hl : (c.keep ++ c.hps.map (·.1)).any (Nat.beq k) with
      | false =>
        rw [hl] at g1
        cases e : s.hp[k]? with
        | none => rw [e] at g1; simp at g1
        | some x => rw [e] at g1; simp at g1
      | true =>
        rw [hl] at g1
        have hmem : k ∈ c.keep := by
          rcases List.mem_append.1 (any_beq.1 hl) with h | h
          · exact h
          · exact absurd h g2
        cases e : s.hp[k]? with
        | none => rw [e] at g1; simp at g1
        | some x =>
          rw [e] at g1; simp at g1; subst g1
          have h1 := List.all_eq_true.1 hk k hmem
          have e1 : s.hp.getD k none = some q := by rw [List.getD_eq_getElem?_getD, e]; rfl
          rw [e1] at h1
          split at h1
          · rename_i p q' e2 e3
            injection e2 with e2; subst e2
            have hq' := hp_getD e3
            have := (hx.num k q q' e hq').2.2 (Nat.eq_of_beq_eq_true h1).symm
            subst this
            exact ⟨q', q', q'.ver, rfl, hq', rfl, .inr rfl⟩
          · cases h1
    · rw [dropHps_get, Nat.zero_add, any_beq.2 (List.mem_append_right _ g1)] at e1
      cases e : s.hp[k]? with
      | none => rw [e] at e1; simp at e1
      | some x => rw [e] at e1; simp at e1; subst e1; exact ⟨p, pb, n, rfl, e2, e3, .inl e4⟩
  have hlive : ∀ k ∈ c.keep ++ c.hps.map (·.1), ∀ pb, s.hp[k]? = some (some pb) → ∃ q, (c.st s ws (y1 ++ y2)).hp[k]? = some (some q) ∧ q.b = pb.b := by
    have gen : ∀ (hs : List (Nat × List Lf)) (hp : List (Option PB)) (ys : List AV) (k : Nat) (pb : PB), hp[k]? = some (some pb) → ∃ q, (setHps hp hs ys)[k]? = some (some q) ∧ q.b = pb.b := by
      intro hs
      induction hs with
      | nil => intro hp ys k pb h; exact ⟨pb, h, rfl⟩
      | cons x hs ih =>
        intro hp ys k pb h
        obtain ⟨k0, ls⟩ := x
        simp only [setHps]
        cases hg : hp.getD k0 none with
        | none => exact ih hp _ k pb h
        | some p =>
          simp only
          by_cases e : k0 = k
          · subst e
            have hlt : k0 < hp.length := by
              rcases Nat.lt_or_ge k0 hp.length with z | z
              · exact z
              · rw [List.getElem?_eq_none z] at h; cases h
            obtain ⟨q, g1, g2⟩ := ih (hp.set k0 (some ⟨p.b, p.ver + 1, vals1 (ys.take ls.length)⟩)) (ys.drop ls.length) k0 _ (List.getElem?_set_self hlt)
            refine ⟨q, g1, g2.trans ?_⟩
            rw [List.getD_eq_getElem?_getD, h] at hg
            injection hg with hg; rw [← hg]
          · exact ih _ _ k pb (by rw [List.getElem?_set_ne e]; exact h)
    intro k hkl pb hpb
    rw [hst]
    refine gen c.hps _ y2 k pb ?_
    rw [dropHps_get, Nat.zero_add, any_beq.2 hkl, hpb]
    rfl
  have hlen : (c.st s ws (y1 ++ y2)).hp.length = s.hp.length := by
    rw [hst]
    show (setHps _ _ _).length = _
    rw [setHps_length, dropHps_length]
  refine ⟨⟨hr'.defers, ?_, fun t => ?_, fun k q hq => ?_, fun k k' q q' hne hq hq' => ?_, by rw [hst]; exact Step.refl _ _, fun _ => rfl, fun k b hkb => by rw [hst] at hkb; rcases hkb with e | e <;> cases e⟩, ⟨by rw [hlen]; exact Nat.le_refl _, fun k p q hp hq => ?_, fun k hk => ?_⟩⟩
  · rw [hst]
    show a'.tmps.size = (setAll _ _ _).length
    rw [setAll_length, List.length_map, forget_length, hso.1]; exact hr.size
  · have henv : (c.st s ws (y1 ++ y2)).get t = (setAll ((forget ws 0 s.env).map (dropRef (c.keep ++ c.hps.map (·.1)))) c.slots y1).getD t .no := by rw [hst]; rfl
    rw [henv]
    refine setAll_spec hr'.env h1 (fun t => ?_) t
    have e : ((forget ws 0 s.env).map (dropRef (c.keep ++ c.hps.map (·.1)))).getD t .no = dropRef (c.keep ++ c.hps.map (·.1)) ((forget ws 0 s.env).getD t .no) := by
      simp only [List.getD_eq_getElem?_getD, List.getElem?_map]
      cases (forget ws 0 s.env)[t]? <;> rfl
    rw [e, forget_get, Nat.zero_add]
    split
    · trivial
    · rename_i hn
      rw [hso.2 t hn]
      exact dropRef_ok (hr.env t) hlive
  · obtain ⟨p, pb, n, e1, e2, rfl, _⟩ := hps k q hq
    obtain ⟨T, hT⟩ := hr'.priv k pb e2
    exact ⟨T, by rw [← (hx.num k p pb e1 e2).1]; exact hT⟩
  · obtain ⟨p, pb, n, e1, e2, rfl, _⟩ := hps k q hq
    obtain ⟨p', pb', n', e1', e2', rfl, _⟩ := hps k' q' hq'
    exact hr.inj k k' p p' hne e1 e1'
  · obtain ⟨p', pb, n, e1, e2, rfl, e4⟩ := hps k q hq
    rw [hp] at e1; injection e1 with e1; injection e1 with e1; subst e1
    rcases e4 with e4 | e4
    · exact ⟨rfl, Nat.le_of_lt e4, fun e => by simp only at e; omega⟩
    · rw [e4]; exact ⟨rfl, Nat.le_refl _, fun _ => rfl⟩
  · have hlt : k < (c.st s ws (y1 ++ y2)).hp.length := by
      rw [hlen]
      rcases Nat.lt_or_ge k s.hp.length with z | z
      · exact z
      · rw [List.getElem?_eq_none z] at hk; cases hk
    obtain ⟨x, hx'⟩ : ∃ x, (c.st s ws (y1 ++ y2)).hp[k]? = some x := ⟨_, List.getElem?_eq_getElem hlt⟩
    cases x with
    | none => exact hx'
    | some q =>
      obtain ⟨p, _, _, e1, _⟩ := hps k q hx'
      rw [hk] at e1; cases e1

end Go.V
