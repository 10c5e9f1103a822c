/- Texts of this session's repo, laid together: T1 T2 T3 T4 T5 T6. -/
import Derived.Test.YtnplopiconabiaaXA
import Derived.Test.YtnplopiconabiaaE1
import Derived.Test.YtnplopiconabiaaXB
import Derived.Test.YtnplopiconabiaaUB
import Derived.Test.YtnplopiconabiaaE7
import Derived.Test.YtnplopiconabiaaE8
section
/- Dred: relations in memory: a pair is in it, is put, is dropped. -/
namespace Go.Proofs.Ytnplopiconabiaa.Dred
open Go Go.V
open Go.Proofs.Ytnplopiconabiaa.VC
open Go.Proofs.Ytnplopiconabiaa.Span
open Go.Proofs.Try (prog)
set_option linter.unusedVariables false
set_option linter.unusedSimpArgs false
set_option maxRecDepth 20000

theorem nodup_map_inj {α β : Type} {f : α → β} : ∀ {l : List α}, (l.map f).Nodup → ∀ {x y : α}, x ∈ l → y ∈ l → f x = f y → x = y
  | [], _, x, y, hx, _, _ => by cases hx
  | a :: l, h, x, y, hx, hy, e => by
    rw [List.map_cons, List.nodup_cons] at h
    rcases List.mem_cons.1 hx with h1 | h1 <;> rcases List.mem_cons.1 hy with h2 | h2
    · rw [h1, h2]
    · rw [h1] at e
      exact absurd (List.mem_map.2 ⟨y, h2, e.symm⟩) h.1
    · rw [h2] at e
      exact absurd (List.mem_map.2 ⟨x, h1, e⟩) h.1
    · exact nodup_map_inj h.2 h1 h2 e
theorem updM_new : ∀ {l : List (Int × Value)} {a : Int} {y : Value}, a ∉ l.map (·.1) → updM l a y = l ++ [(a, y)]
  | [], _, _, _ => rfl
  | (k, x) :: l, a, y, h => by
    simp only [List.map_cons, List.mem_cons, not_or] at h
    unfold updM
    rw [if_neg h.1, updM_new h.2]; rfl
theorem mem_delM : ∀ {l : List (Int × Value)} {a : Int} {e : Int × Value}, e ∈ delM l a → e ∈ l
  | [], _, _, h => h
  | (k, x) :: l, a, e, h => by
    unfold delM at h
    by_cases c : a = k
    · rw [if_pos c] at h; exact List.mem_cons_of_mem _ h
    · rw [if_neg c] at h
      rcases List.mem_cons.1 h with h | h
      · rw [h]; exact List.mem_cons_self
      · exact List.mem_cons_of_mem _ (mem_delM h)
theorem key_delM : ∀ {l : List (Int × Value)}, (l.map (·.1)).Nodup → ∀ {a n : Int}, n ∈ (delM l a).map (·.1) ↔ n ∈ l.map (·.1) ∧ n ≠ a
  | [], _, a, n => by simp [delM]
  | (k, x) :: l, h, a, n => by
    rw [List.map_cons, List.nodup_cons] at h
    unfold delM
    by_cases c : a = k
    · rw [if_pos c, List.map_cons, List.mem_cons, c]
      constructor
      · intro h2
        exact ⟨.inr h2, fun e => h.1 (by rw [← e]; exact h2)⟩
      · rintro ⟨h2 | h2, h3⟩
        · exact absurd h2 h3
        · exact h2
    · rw [if_neg c, List.map_cons, List.map_cons, List.mem_cons, List.mem_cons, key_delM h.2]
      constructor
      · rintro (rfl | ⟨h2, h3⟩)
        · exact ⟨.inl rfl, fun e => c e.symm⟩
        · exact ⟨.inr h2, h3⟩
      · rintro ⟨h2 | h2, h3⟩
        · exact .inl h2
        · exact .inr ⟨h2, h3⟩

/-- One half of a relation: a map of maps, in blocks of bs. -/
structure Half (w : World) (m : Nat) (bs : List Nat) (S : Int → Int → Prop) : Prop where
  ex : ∃ l, MapG kenc w m l ∧ (l.map (·.2)).Nodup ∧ (∀ a b, S a b → a ∈ l.map (·.1)) ∧ ∀ e ∈ l, ∃ k s, e.2 = .map (some k) ∧ k ∈ bs ∧ MapG kenc w k s ∧ (∀ q ∈ s, q.2 = .bool true) ∧ ∀ b, b ∈ s.map (·.1) ↔ S e.1 b
  out : m ∉ bs
  lt : ∀ x ∈ bs, x < w.heap.size
section
variable {v w : World} {m : Nat} {bs : List Nat} {S : Int → Int → Prop}
theorem Half.fr {F : List Nat} (h : Half v m bs S) (f : Fr F v w) (hm : m ∉ F) (hb : ∀ x ∈ bs, x ∉ F) : Half w m bs S := by
  obtain ⟨l, h1, h2, h3, h4⟩ := h.ex
  exact ⟨⟨l, h1.fr f hm, h2, h3, fun e he => by
    obtain ⟨k, s, e1, e2, e3, e4⟩ := h4 e he
    exact ⟨k, s, e1, e2, e3.fr f (hb k e2), e4⟩⟩, h.out, fun x hx => by have := h.lt x hx; have := f.size; omega⟩
theorem Half.congr {S' : Int → Int → Prop} (h : Half w m bs S) (e : ∀ a b, S a b ↔ S' a b) : Half w m bs S' := by
  have : S = S' := funext fun a => funext fun b => propext (e a b)
  rw [← this]; exact h
theorem Half.nilM (hm : MapG kenc w m []) : Half w m [] fun _ _ => False :=
  ⟨⟨[], hm, by simp, fun _ _ h => h.elim, fun e he => by cases he⟩, by simp, fun x hx => by cases hx⟩
theorem Half.mlt (h : Half w m bs S) : m < w.heap.size := by obtain ⟨l, h1, _⟩ := h.ex; exact h1.lt
/-- What is asked of a half. -/
theorem Half.look (h : Half w m bs S) (a : Int) : ∃ l, MapO kenc w (some m) l ∧ ∃ p s, (∃ b, LookRel l a (.map none) (.map p) b) ∧ MapO kenc w p s ∧ (∀ q ∈ s, q.2 = .bool true) ∧ (∀ b, b ∈ s.map (·.1) ↔ S a b) ∧ (s.map (·.1)).Nodup ∧ ∀ k, p = some k → k ∈ bs := by
  obtain ⟨l, h1, h2, h3, h4⟩ := h.ex
  refine ⟨l, h1, ?_⟩
  by_cases hk : a ∈ l.map (·.1)
  · obtain ⟨e, he, rfl⟩ := List.mem_map.1 hk
    obtain ⟨k, s, e1, e2, e3, e4, e5⟩ := h4 e he
    refine ⟨some k, s, ⟨true, .inl ⟨rfl, ?_⟩⟩, e3, e4, e5, e3.nodup, fun k' hk' => by injection hk' with hk'; rw [← hk']; exact e2⟩
    have := look_of_mem h1.nodup (k := e.1) (x := e.2) he
    rw [e1] at this; exact this
  · refine ⟨none, [], ⟨false, .inr ⟨rfl, look_none fun p hp e => hk (List.mem_map.2 ⟨p, hp, e⟩), rfl⟩⟩, rfl, fun q hq => (by cases hq), fun b => ⟨fun h => (by cases h), fun h => absurd (h3 a b h) hk⟩, by simp, fun k hk => (by cases hk)⟩
/-- A pair is put into a half. -/
theorem Half.put (h : Half w m bs S) (a b : Int) {k23 : Nat} {K : World → Prop}
    (hK : ∀ w' bs', Fr (m :: bs) w w' → Half w' m bs' (fun x y => S x y ∨ (x = a ∧ y = b)) → (∀ x ∈ bs', x ∈ bs ∨ w.heap.size ≤ x) → K w') :
    ∀ (y24 : World → Prop), (∀ w25, (∃ l26 : List (Int × Value), MapO kenc w25 (some m) l26 ∧ ∃ p27 : Option Nat, (∃ b28 : Bool, LookRel l26 a (.map none) (.map p27) b28) ∧ ∃ (k29 : Nat), ∃ (l30 : List (Int × Value)), p27 = some k29 ∧ MapG kenc w25 k29 l30 ∧ ∀ w31, MUpd kenc w25 w31 k29 (updM l30 b (.bool true)) → K w31) → y24 w25) →
      ∃ l36 : List (Int × Value), MapO kenc w (some m) l36 ∧ ∃ p37 : Option Nat, (∃ b38 : Bool, LookRel l36 a (.map none) (.map p37) b38) ∧ bcase p37.isNone
        (∀ (w39 : World) (k40 : Nat), Step w w39 [] [k40, k23] → w39.heap[k40]? = some (Obj.map #[] 0) → ∃ (k43 : Nat), ∃ (l44 : List (Int × Value)), some m = some k43 ∧ MapG kenc w39 k43 l44 ∧ ∀ w45, MUpd kenc w39 w45 k43 (updM l44 a (.map (some k40))) → y24 w45)
        (∀ w47, Step w w47 [] [k23] → y24 w47) := by
  intro y24 h24
  obtain ⟨l, h1, h2, h3, h4⟩ := h.ex
  refine ⟨l, h1, ?_⟩
  have hnd := h1.nodup
  by_cases hk : a ∈ l.map (·.1)
  · obtain ⟨e, he, rfl⟩ := List.mem_map.1 hk
    obtain ⟨k, s, e1, e2, e3, e4, e5⟩ := h4 e he
    have hlook : V.look l e.1 = some (.map (some k)) := by
      have := look_of_mem hnd (k := e.1) (x := e.2) he
      rw [e1] at this; exact this
    refine ⟨some k, ⟨true, .inl ⟨rfl, hlook⟩⟩, bF rfl fun w47 s47 => h24 _ ⟨l, h1.fr s47.fr (by simp), some k, ⟨true, .inl ⟨rfl, hlook⟩⟩, k, s, rfl, e3.fr s47.fr (by simp), fun w31 u31 => ?_⟩⟩
    have hmk : m ≠ k := fun e => h.out (by rw [e]; exact e2)
    have F : Fr [k] w w31 := s47.fr.then u31.fr
    refine hK w31 bs (F.mono fun x hx => .inl (List.mem_cons_of_mem _ (by rw [List.mem_singleton.1 hx]; exact e2))) ⟨⟨l, h1.fr F (by simpa using hmk), h2, ?_, fun e' he' => ?_⟩, h.out, fun x hx => by have := h.lt x hx; have := F.size; omega⟩ fun x hx => .inl hx
    · rintro x y (hxy | ⟨rfl, rfl⟩)
      · exact h3 x y hxy
      · exact hk
    · obtain ⟨k', s', g1, g2, g3, g4, g5⟩ := h4 e' he'
      by_cases hee : e' = e
      · subst hee
        rw [e1] at g1
        injection g1 with g1; injection g1 with g1
        refine ⟨k, _, e1, e2, u31.map, fun q hq => ?_, fun y => ?_⟩
        · rcases mem_updM hq with rfl | hq
          · rfl
          · exact e4 q hq
        · rw [key_updM, e5]
          constructor
          · rintro (rfl | h)
            · exact .inr ⟨rfl, rfl⟩
            · exact .inl h
          · rintro (h | ⟨_, rfl⟩)
            · exact .inr h
            · exact .inl rfl
      · have hkk : k' ≠ k := fun ek => hee (nodup_map_inj h2 he' he (by rw [g1, e1, ek]))
        refine ⟨k', s', g1, g2, g3.fr F (by simpa using hkk), g4, fun y => ?_⟩
        rw [g5]
        refine ⟨.inl, fun h => h.elim id fun h => absurd (nodup_map_inj (f := fun x : Int × Value => x.1) hnd he' he h.1) hee⟩
  · have hno : V.look l a = none := look_none fun p hp e => hk (List.mem_map.2 ⟨p, hp, e⟩)
    refine ⟨none, ⟨false, .inr ⟨rfl, hno, rfl⟩⟩, bT rfl fun w39 k40 s39 n39 => ⟨m, l, rfl, h1.fr s39.fr (by simp), fun w45 u45 => h24 _ ?_⟩⟩
    have hk40 := s39.new k40 (by simp)
    have u45m := u45.map
    rw [updM_new hk] at u45m
    have hmlt := h1.lt
    have n45 : MapG kenc w45 k40 [] := (MapG.new n39).fr u45.fr (by simp; omega)
    have hlook : V.look (l ++ [(a, Value.map (some k40))]) a = some (.map (some k40)) := look_of_mem u45m.nodup (by simp)
    refine ⟨_, u45m, some k40, ⟨true, .inl ⟨rfl, hlook⟩⟩, k40, [], rfl, n45, fun w31 u31 => ?_⟩
    have z39 := s39.fr.size
    have F45 : Fr [m] w w45 := s39.fr.then u45.fr
    have F : Fr [m] w w31 := F45.trans u31.fr (fun x hx => .inr (by rw [List.mem_singleton.1 hx]; omega))
    have z31 := u31.fr.size
    have z45 := u45.fr.size
    refine hK w31 (k40 :: bs) (F.mono fun x hx => .inl (by rw [List.mem_singleton.1 hx]; exact List.mem_cons_self)) ⟨⟨_, u45m.fr u31.fr (by simp; omega), ?_, ?_, fun e' he' => ?_⟩, ?_, ?_⟩ fun x hx => ?_
    · rw [List.map_append, List.nodup_append]
      refine ⟨h2, by simp, fun x hx y hy e => ?_⟩
      have hy : y = Value.map (some k40) := by simpa using hy
      obtain ⟨e', he', rfl⟩ := List.mem_map.1 hx
      obtain ⟨k', s', g1, g2, _⟩ := h4 e' he'
      rw [e, hy] at g1
      injection g1 with g1; injection g1 with g1
      have := h.lt k' g2
      omega
    · rintro x y (hxy | ⟨rfl, rfl⟩)
      · rw [List.map_append, List.mem_append]; exact .inl (h3 x y hxy)
      · simp
    · rcases List.mem_append.1 he' with he' | he'
      · obtain ⟨k', s', g1, g2, g3, g4, g5⟩ := h4 e' he'
        have hlt := h.lt k' g2
        have hm' : k' ≠ m := fun e => h.out (by rw [← e]; exact g2)
        refine ⟨k', s', g1, List.mem_cons_of_mem _ g2, (g3.fr F45 (by simpa using hm')).fr u31.fr (by simp; omega), g4, fun y => ?_⟩
        rw [g5]
        refine ⟨.inl, fun h => h.elim id fun h => absurd (List.mem_map.2 ⟨e', he', h.1⟩) hk⟩
      · rw [List.mem_singleton.1 he']
        refine ⟨k40, _, rfl, List.mem_cons_self, u31.map, fun q hq => ?_, fun y => ?_⟩
        · have hq : q = (b, Value.bool true) := by simpa [updM] using hq
          rw [hq]
        · constructor
          · intro h
            have h : y = b := by simpa [updM] using h
            exact .inr ⟨rfl, h⟩
          · rintro (h | ⟨_, rfl⟩)
            · exact absurd (h3 a y h) hk
            · simp [updM]
    · intro hx
      rcases List.mem_cons.1 hx with hx | hx
      · omega
      · exact h.out hx
    · intro x hx
      rcases List.mem_cons.1 hx with rfl | hx
      · omega
      · have := h.lt x hx; omega
    · rcases List.mem_cons.1 hx with rfl | hx
      · exact .inr hk40.1
      · exact .inl hx
/-- A pair is dropped from a half. -/
theorem Half.del (h : Half w m bs S) {a b : Int} (hab : S a b) :
    ∃ l8, MapO kenc w (some m) l8 ∧ ∃ k13 : Nat, (∃ b10 : Bool, LookRel l8 a (.map none) (.map (some k13)) b10) ∧ ∀ w11, Fr [] w w11 → ∃ (l14 : List (Int × Value)), MapG kenc w11 k13 l14 ∧ ∀ w15, MUpd kenc w11 w15 k13 (delM l14 b) → Fr bs w11 w15 ∧ Half w15 m bs (fun x y => S x y ∧ ¬ (x = a ∧ y = b)) := by
  obtain ⟨l, h1, h2, h3, h4⟩ := h.ex
  have hnd := h1.nodup
  obtain ⟨e, he, rfl⟩ := List.mem_map.1 (h3 a b hab)
  obtain ⟨k, s, e1, e2, e3, e4, e5⟩ := h4 e he
  have hlook : V.look l e.1 = some (.map (some k)) := by
    have := look_of_mem hnd (k := e.1) (x := e.2) he
    rw [e1] at this; exact this
  refine ⟨l, h1, k, ⟨true, .inl ⟨rfl, hlook⟩⟩, fun w11 f11 => ⟨s, e3.fr f11 (by simp), fun w15 u15 => ?_⟩⟩
  have F : Fr [k] w w15 := f11.then u15.fr
  have hmk : m ≠ k := fun e => h.out (by rw [e]; exact e2)
  refine ⟨u15.fr.mono fun x hx => .inl (by rw [List.mem_singleton.1 hx]; exact e2), ⟨⟨l, h1.fr F (by simpa using hmk), h2, fun x y hxy => h3 x y hxy.1, fun e' he' => ?_⟩, h.out, fun x hx => by have := h.lt x hx; have := F.size; omega⟩⟩
  obtain ⟨k', s', g1, g2, g3, g4, g5⟩ := h4 e' he'
  by_cases hee : e' = e
  · subst hee
    refine ⟨k, _, e1, e2, u15.map, fun q hq => e4 q (mem_delM hq), fun y => ?_⟩
    rw [key_delM e3.nodup, e5]
    exact ⟨fun h => ⟨h.1, fun h2 => h.2 h2.2⟩, fun h => ⟨h.1, fun h2 => h.2 ⟨rfl, h2⟩⟩⟩
  · have hkk : k' ≠ k := fun ek => hee (nodup_map_inj h2 he' he (by rw [g1, e1, ek]))
    refine ⟨k', s', g1, g2, g3.fr F (by simpa using hkk), g4, fun y => ?_⟩
    rw [g5]
    exact ⟨fun h => ⟨h, fun h2 => hee (nodup_map_inj (f := fun x : Int × Value => x.1) hnd he' he h2.1)⟩, fun h => h.1⟩
end
end Go.Proofs.Ytnplopiconabiaa.Dred

end
section
/- Dred: relations: has, put, drop, a new one. -/
namespace Go.Proofs.Ytnplopiconabiaa.Dred
open Go Go.V
open Go.Proofs.Ytnplopiconabiaa.VC
open Go.Proofs.Ytnplopiconabiaa.Span
open Go.Proofs.Try (prog)
set_option linter.unusedVariables false
set_option linter.unusedSimpArgs false
set_option maxRecDepth 20000

/-- A relation in memory: its record in block r, in all the blocks of bs. -/
structure RelAt (w : World) (r : Nat) (bs : List Nat) (R : List PI) : Prop where
  ex : ∃ mf mt bf bt, Blk w r [.map (some mf), .map (some mt), I64 R.length] ∧ Half w mf bf (fun a b => ((a, b) : PI) ∈ R) ∧ Half w mt bt (fun b a => ((a, b) : PI) ∈ R) ∧ (∀ x ∈ mf :: bf, x ∉ mt :: bt) ∧ (∀ x, x ∈ bs ↔ x = r ∨ x ∈ mf :: bf ∨ x ∈ mt :: bt) ∧ r ∉ mf :: bf ∧ r ∉ mt :: bt
  nodup : R.Nodup
  rng : ∀ p ∈ R, inR p.1 ∧ inR p.2
abbrev ptr (r : Nat) : Value := .pointer (some ⟨r, 0, none⟩)
def Grow (w : World) (bs bs' : List Nat) : Prop := ∀ x ∈ bs', x ∈ bs ∨ w.heap.size ≤ x
theorem Grow.refl (w : World) (bs : List Nat) : Grow w bs bs := fun x hx => .inl hx
theorem Grow.trans {v w : World} {a b c : List Nat} (h : Grow v a b) (f : v.heap.size ≤ w.heap.size) (h2 : Grow w b c) : Grow v a c := fun x hx => by
  rcases h2 x hx with h3 | h3
  · exact h x h3
  · exact .inr (by omega)
section
variable {v w : World} {r : Nat} {bs : List Nat} {R : List PI}
theorem RelAt.lt (h : RelAt w r bs R) : ∀ x ∈ bs, x < w.heap.size := fun x hx => by
  obtain ⟨mf, mt, bf, bt, h1, h2, h3, _, h5, _⟩ := h.ex
  rcases (h5 x).1 hx with rfl | hx | hx
  · exact h1.lt
  · rcases List.mem_cons.1 hx with rfl | hx
    · exact h2.mlt
    · exact h2.lt x hx
  · rcases List.mem_cons.1 hx with rfl | hx
    · exact h3.mlt
    · exact h3.lt x hx
theorem RelAt.r_in (h : RelAt w r bs R) : r ∈ bs := by
  obtain ⟨mf, mt, bf, bt, h1, h2, h3, _, h5, _⟩ := h.ex
  exact (h5 r).2 (.inl rfl)
theorem RelAt.fr {F : List Nat} (h : RelAt v r bs R) (f : Fr F v w) (hb : ∀ x ∈ bs, x ∉ F) : RelAt w r bs R := by
  obtain ⟨mf, mt, bf, bt, h1, h2, h3, h4, h5, h6⟩ := h.ex
  have hf : ∀ x ∈ mf :: bf, x ∉ F := fun x hx => hb x ((h5 x).2 (.inr (.inl hx)))
  have ht : ∀ x ∈ mt :: bt, x ∉ F := fun x hx => hb x ((h5 x).2 (.inr (.inr hx)))
  exact ⟨⟨mf, mt, bf, bt, h1.fr f (hb r h.r_in), h2.fr f (hf mf List.mem_cons_self) (fun x hx => hf x (List.mem_cons_of_mem _ hx)), h3.fr f (ht mt List.mem_cons_self) (fun x hx => ht x (List.mem_cons_of_mem _ hx)), h4, h5, h6⟩, h.nodup, h.rng⟩
theorem RelAt.old (h : RelAt v r bs R) (f : Fr [] v w) : RelAt w r bs R := h.fr f (fun _ _ => by simp)
/-- The same pairs in another order. -/
theorem RelAt.perm {R' : List PI} (h : RelAt w r bs R) (hn : R'.Nodup) (e : ∀ p, p ∈ R' ↔ p ∈ R) : RelAt w r bs R' := by
  obtain ⟨mf, mt, bf, bt, h1, h2, h3, h4, h5, h6⟩ := h.ex
  have hp : R'.Perm R := (List.perm_ext_iff_of_nodup hn h.nodup).2 e
  exact ⟨⟨mf, mt, bf, bt, by rw [hp.length_eq]; exact h1, h2.congr fun a b => (e (a, b)).symm, h3.congr fun b a => (e (a, b)).symm, h4, h5, h6⟩, hn, fun p hp => h.rng p ((e p).1 hp)⟩
theorem relhas_c (h : RelAt w r bs R) (p : PI) : Calls prog 55 #[ptr r, .agg #[I64 p.1, I64 p.2]] w fun e w' => e = .returned (.bool (decide (p ∈ R))) ∧ Fr [] w w' := by
  obtain ⟨mf, mt, bf, bt, h1, h2, _⟩ := h.ex
  refine dred_relation_has.link fun k1 => ⟨some mf, by rw [add_mk, h1.cell]; rfl, by decide, ?_⟩
  obtain ⟨l, hl, p4, s, hlk, hs, hv, hk, hnd, _⟩ := h2.look p.1
  refine ⟨l, hl, p4, hlk, by decide, s, hs, ?_⟩
  by_cases hin : p ∈ R
  · have hmem : p.2 ∈ s.map (·.1) := (hk p.2).2 hin
    obtain ⟨q, hq, e⟩ := List.mem_map.1 hmem
    have hlk2 : V.look s p.2 = some (.bool true) := by
      have := look_of_mem hnd (k := q.1) (x := q.2) hq
      rw [hv q hq, e] at this; exact this
    exact ⟨true, ⟨true, .inl ⟨rfl, hlk2⟩⟩, fun w9 s9 => ⟨by rw [decide_eq_true hin], s9.fr⟩⟩
  · have hno : V.look s p.2 = none := look_none fun q hq e => hin ((hk p.2).1 (List.mem_map.2 ⟨q, hq, e⟩))
    exact ⟨false, ⟨false, .inr ⟨rfl, hno, rfl⟩⟩, fun w9 s9 => ⟨by rw [decide_eq_false hin], s9.fr⟩⟩
theorem newRel_c (w : World) : Calls prog 53 #[] w fun e w' => Fr [] w w' ∧ ∃ r bs, e = .returned (ptr r) ∧ RelAt w' r bs [] ∧ ∀ x ∈ bs, w.heap.size ≤ x := by
  refine dred_newRelation.link (_u := ()) fun w1 k2 s1 m1 w5 k6 s5 m5 k9 w10 s10 b10 => ?_
  have n2 := g_new1 s1
  have n6 := g_new1 s5
  have n9 := g_new1 s10
  have M2 : MapG kenc w10 k2 [] := ((MapG.new m1).fr s5.fr (by simp)).fr s10.fr (by simp)
  have M6 : MapG kenc w10 k6 [] := (MapG.new m5).fr s10.fr (by simp)
  have b10 : Blk w10 k9 [.map (some k2), .map (some k6), I64 0] := b10
  refine ⟨s1.fr.trans' (s5.fr.trans' s10.fr), k9, [k9, k2, k6], rfl, ⟨⟨k2, k6, [], [], b10, (Half.nilM M2).congr fun a b => by simp, (Half.nilM M6).congr fun a b => by simp, ?_, fun x => by simp, ?_, ?_⟩, by simp, by simp⟩, fun x hx => ?_⟩
  · simp; omega
  · simp; omega
  · simp; omega
  · simp at hx
    rcases hx with rfl | rfl | rfl <;> omega

set_option maxHeartbeats 1000000 in
theorem relput_c (h : RelAt w r bs R) (p : PI) (hp : inR p.1 ∧ inR p.2) (hl : R.length ≤ 1000000000) :
    Calls prog 54 #[ptr r, .agg #[I64 p.1, I64 p.2]] w fun e w' => e = .returned (.bool (!decide (p ∈ R))) ∧ Fr bs w w' ∧ ∃ bs', RelAt w' r bs' (if p ∈ R then R else R ++ [p]) ∧ Grow w bs bs' := by
  refine dred_relation_put.link fun k1 w2 s2 => ?_
  have n1 := g_new1 s2
  refine (relhas_c (h.old s2.fr) p).mono ?_
  rintro e4 w5 ⟨rfl, f5⟩
  have F5 := s2.fr.trans' f5
  have h5 := h.old F5
  refine ⟨_, rfl, keepF f5 (by simpa using n1.2), bc (fun hin => ?_) fun hnin => ?_⟩
  · have hin : p ∈ R := of_decide_eq_true hin
    rw [decide_eq_true hin, if_pos hin]
    exact ⟨rfl, F5.mono fun x hx => (by cases hx), bs, h5, Grow.refl _ _⟩
  have hnin : p ∉ R := of_decide_eq_false hnin
  rw [if_neg hnin, decide_eq_false hnin]
  obtain ⟨mf, mt, bf, bt, hb, hf, ht, hdj, hbs, hr1, hr2⟩ := h5.ex
  refine ⟨some mf, by rw [add_mk, hb.cell]; rfl, by decide, by decide, some mt, by rw [add_mk, hb.cell]; rfl, by decide, by decide, fun k9 w10 s10 b10 => ?_⟩
  have n9 := g_new1 s10
  have F10 := F5.trans' s10.fr
  have b10 : Blk w10 k9 [.map (some mf), I64 p.1, I64 p.2, .map (some mt), I64 p.2, I64 p.1] := b10
  have hb10 := hb.fr s10.fr (by simp)
  have hf10 := hf.fr s10.fr (by simp) (fun _ _ => by simp)
  have ht10 := ht.fr s10.fr (by simp) (fun _ _ => by simp)
  have z5 := F5.size
  have z10 := s10.fr.size
  have hbslt := h.lt
  have inb : ∀ x, x ∈ mf :: bf → x ∈ bs := fun x hx => (hbs x).2 (.inr (.inl hx))
  have inb2 : ∀ x, x ∈ mt :: bt → x ∈ bs := fun x hx => (hbs x).2 (.inr (.inr hx))
  have cell : ∀ w' (j : Nat) u, Blk w' k9 [.map (some mf), I64 p.1, I64 p.2, .map (some mt), I64 p.2, I64 p.1] → ([.map (some mf), I64 p.1, I64 p.2, .map (some mt), I64 p.2, I64 p.1] : List Value)[j]? = some u → w'.cell? ⟨k9, j, none⟩ = some u := fun w' j u hb hu => by rw [hb.cell]; exact hu
  refine ⟨fun m n w' => Fr bs w w' ∧ w10.heap.size ≤ w'.heap.size ∧ Blk w' k9 [.map (some mf), I64 p.1, I64 p.2, .map (some mt), I64 p.2, I64 p.1] ∧ Blk w' r [.map (some mf), .map (some mt), I64 R.length] ∧
    ((n = 0 ∧ m = 2 ∧ Half w' mf bf (fun a b => ((a, b) : PI) ∈ R) ∧ Half w' mt bt (fun b a => ((a, b) : PI) ∈ R)) ∨
     (n = 1 ∧ m = 1 ∧ ∃ bf', Half w' mf bf' (fun a b => ((a, b) : PI) ∈ R ++ [p]) ∧ Half w' mt bt (fun b a => ((a, b) : PI) ∈ R) ∧ (∀ x ∈ bf', x ∈ bf ∨ w10.heap.size ≤ x)) ∨
     (n = 2 ∧ m = 0 ∧ ∃ bf' bt', Half w' mf bf' (fun a b => ((a, b) : PI) ∈ R ++ [p]) ∧ Half w' mt bt' (fun b a => ((a, b) : PI) ∈ R ++ [p]) ∧ (∀ x ∈ bf', x ∈ bf ∨ w10.heap.size ≤ x) ∧ (∀ x ∈ bt', x ∈ bt ∨ w10.heap.size ≤ x) ∧ ∀ x ∈ bf', x ∉ bt')), 2,
    ⟨F10.mono fun x hx => (by cases hx), Nat.le_refl _, b10, hb10, .inl ⟨rfl, rfl, hf10, ht10⟩⟩, ?_⟩
  have hrout : ∀ (bf' : List Nat), (∀ x ∈ bf', x ∈ bf ∨ w10.heap.size ≤ x) → r ∉ mf :: bf' := fun bf' hb' hx => by
    rcases List.mem_cons.1 hx with rfl | hx
    · exact hr1 List.mem_cons_self
    · rcases hb' r hx with h1 | h1
      · exact hr1 (List.mem_cons_of_mem _ h1)
      · have := hb10.lt; omega
  have hrout2 : ∀ (bt' : List Nat), (∀ x ∈ bt', x ∈ bt ∨ w10.heap.size ≤ x) → r ∉ mt :: bt' := fun bt' hb' hx => by
    rcases List.mem_cons.1 hx with rfl | hx
    · exact hr2 List.mem_cons_self
    · rcases hb' r hx with h1 | h1
      · exact hr2 (List.mem_cons_of_mem _ h1)
      · have := hb10.lt; omega
  rintro m15 n16 w17 ⟨F17, z17, b17, hr17, hcase⟩
  have hlt9 : k9 < w10.heap.size := n9.2
  have hk9bs : k9 ∉ bs := fun hx => by have := hbslt k9 hx; omega
  rcases hcase with ⟨rfl, rfl, hf17, ht17⟩ | ⟨rfl, rfl, bf', hf17, ht17, hbf'⟩ | ⟨rfl, rfl, bf', bt', hf17, ht17, hbf', hbt', hd⟩
  · refine bT rfl ⟨⟨k9, 0, none⟩, rfl, by decide, some mf, p.1, p.2, ⟨cell w17 0 _ b17 rfl, cell w17 1 _ b17 rfl, cell w17 2 _ b17 rfl, trivial⟩, fun k23 => ?_⟩
    refine hf17.put p.1 p.2 (k23 := k23) fun w31 bf' f31 hf31 hbf' => ?_
    have hout : ∀ x ∈ mf :: bf, x ∉ mt :: bt := hdj
    refine ⟨1, by omega, F17.trans f31 (fun x hx => .inl (inb x hx)), by have := f31.size; omega, b17.fr f31 (fun hx => hk9bs (inb _ hx)), hr17.fr f31 hr1, .inr (.inl ⟨by rw [wrapi (by omega) (by omega)]; rfl, rfl, bf', hf31.congr fun a b => ?_, ht17.fr f31 (fun hx => hdj _ hx List.mem_cons_self) (fun x hx hx2 => hdj x hx2 (List.mem_cons_of_mem _ hx)), fun x hx => (hbf' x hx).imp id fun h => by omega⟩)⟩
    rw [List.mem_append, List.mem_singleton, Prod.ext_iff]
  · refine bT rfl ⟨⟨k9, 0, none⟩, rfl, by decide, some mt, p.2, p.1, ⟨cell w17 3 _ b17 rfl, cell w17 4 _ b17 rfl, cell w17 5 _ b17 rfl, trivial⟩, fun k23 => ?_⟩
    refine ht17.put p.2 p.1 (k23 := k23) fun w31 bt' f31 ht31 hbt' => ?_
    have hmf : ∀ x ∈ mf :: bf', x ∉ mt :: bt := fun x hx hx2 => by
      rcases List.mem_cons.1 hx with rfl | hx
      · exact hdj _ List.mem_cons_self hx2
      · rcases hbf' x hx with h1 | h1
        · exact hdj x (List.mem_cons_of_mem _ h1) hx2
        · have : x < w10.heap.size := by
            rcases List.mem_cons.1 hx2 with rfl | hx2
            · exact ht10.mlt
            · exact ht10.lt x hx2
          omega
    refine ⟨0, by omega, F17.trans f31 (fun x hx => .inl (inb2 x hx)), by have := f31.size; omega, b17.fr f31 (fun hx => hk9bs (inb2 _ hx)), hr17.fr f31 hr2, .inr (.inr ⟨by rw [wrapi (by omega) (by omega)]; rfl, rfl, bf', bt', hf17.fr f31 (fun hx => hmf _ List.mem_cons_self hx) (fun x hx => hmf x (List.mem_cons_of_mem _ hx)), ht31.congr fun a b => ?_, hbf', fun x hx => (hbt' x hx).imp id fun h => by omega, fun x hx hx2 => ?_⟩)⟩
    · rw [List.mem_append, List.mem_singleton, Prod.ext_iff]
      constructor
      · rintro (h | ⟨h1, h2⟩)
        · exact .inl h
        · exact .inr ⟨h2, h1⟩
      · rintro (h | ⟨h1, h2⟩)
        · exact .inl h
        · exact .inr ⟨h2, h1⟩
    · rcases hbt' x hx2 with h1 | h1
      · exact hmf x (List.mem_cons_of_mem _ hx) (List.mem_cons_of_mem _ h1)
      · have := hf17.lt x hx; omega
  · refine bF rfl ⟨R.length, by rw [add_mk, hr17.cell]; rfl, ?_⟩
    rw [add_mk]
    refine ⟨_, hr17, rfl, by show 0 + 2 + 1 ≤ 3; omega, fun w51 u51 => ⟨rfl, ?_, ?_⟩⟩
    · exact F17.trans u51.fr (fun x hx => .inl (by rw [List.mem_singleton.1 hx]; exact h5.r_in))
    have ub : Blk w51 r [.map (some mf), .map (some mt), I64 (R ++ [p]).length] := by
      have := u51.blk
      have e : IntKind.wrap .i64 ((R.length : Int) + 1) = ((R ++ [p]).length : Int) := by rw [wrapi (by omega) (by omega)]; simp
      rw [e] at this; exact this
    have uf := u51.fr
    have h1r := hrout bf' hbf'
    have h2r := hrout2 bt' hbt'
    refine ⟨r :: (mf :: bf') ++ (mt :: bt'), ⟨⟨mf, mt, bf', bt', ub, hf17.fr uf (fun hx => h1r (by rw [List.mem_singleton.1 hx]; exact List.mem_cons_self)) (fun x hx hx2 => h1r (by rw [List.mem_singleton.1 hx2] at hx; exact List.mem_cons_of_mem _ hx)), ht17.fr uf (fun hx => h2r (by rw [List.mem_singleton.1 hx]; exact List.mem_cons_self)) (fun x hx hx2 => h2r (by rw [List.mem_singleton.1 hx2] at hx; exact List.mem_cons_of_mem _ hx)), ?_, fun x => ?_, h1r, h2r⟩, ?_, ?_⟩, ?_⟩
    · intro x hx hx2
      rcases List.mem_cons.1 hx with rfl | hx
      · rcases List.mem_cons.1 hx2 with h1 | hx2
        · exact hdj _ List.mem_cons_self (by rw [h1]; exact List.mem_cons_self)
        · rcases hbt' _ hx2 with h1 | h1
          · exact hdj _ List.mem_cons_self (List.mem_cons_of_mem _ h1)
          · have := hf10.mlt; omega
      · rcases List.mem_cons.1 hx2 with rfl | hx2
        · rcases hbf' _ hx with h1 | h1
          · exact hdj _ (List.mem_cons_of_mem _ h1) List.mem_cons_self
          · have := ht10.mlt; omega
        · exact hd x hx hx2
    · simp only [List.cons_append, List.mem_cons, List.mem_append, or_assoc]
    · rw [List.nodup_append]
      exact ⟨h.nodup, by simp, fun x hx y hy e => hnin (by rw [← List.mem_singleton.1 hy, ← e]; exact hx)⟩
    · intro q hq
      rcases List.mem_append.1 hq with hq | hq
      · exact h.rng q hq
      · rw [List.mem_singleton.1 hq]; exact hp
    · intro x hx
      have : x = r ∨ x ∈ mf :: bf' ∨ x ∈ mt :: bt' := by
        rw [List.cons_append, List.mem_cons, List.mem_append] at hx
        exact hx
      rcases this with rfl | hx | hx
      · exact .inl h5.r_in
      · rcases List.mem_cons.1 hx with rfl | hx
        · exact .inl (inb _ List.mem_cons_self)
        · rcases hbf' x hx with h1 | h1
          · exact .inl (inb _ (List.mem_cons_of_mem _ h1))
          · exact .inr (by omega)
      · rcases List.mem_cons.1 hx with rfl | hx
        · exact .inl (inb2 _ List.mem_cons_self)
        · rcases hbt' x hx with h1 | h1
          · exact .inl (inb2 _ (List.mem_cons_of_mem _ h1))
          · exact .inr (by omega)

theorem reldrop_c (h : RelAt w r bs R) (p : PI) (hl : R.length ≤ 1000000000) :
    Calls prog 60 #[ptr r, .agg #[I64 p.1, I64 p.2]] w fun e w' => e = .returned (.bool (decide (p ∈ R))) ∧ Fr bs w w' ∧ RelAt w' r bs (R.erase p) := by
  refine dred_relation_drop.link fun k1 w2 s2 => ?_
  have n1 := g_new1 s2
  refine (relhas_c (h.old s2.fr) p).mono ?_
  rintro e4 w5 ⟨rfl, f5⟩
  have F5 := s2.fr.trans' f5
  have h5 := h.old F5
  refine ⟨_, rfl, keepF f5 (by simpa using n1.2), bc (fun hnin => ?_) fun hin => ?_⟩
  · have hnin : p ∉ R := by simpa using hnin
    rw [decide_eq_false hnin, List.erase_of_not_mem hnin]
    exact ⟨rfl, F5.mono fun x hx => (by cases hx), h5⟩
  have hin : p ∈ R := by simpa using hin
  rw [decide_eq_true hin]
  obtain ⟨mf, mt, bf, bt, hb, hf, ht, hdj, hbs, hr1, hr2⟩ := h5.ex
  have inb : ∀ x, x ∈ bf → x ∈ bs := fun x hx => (hbs x).2 (.inr (.inl (List.mem_cons_of_mem _ hx)))
  have inb2 : ∀ x, x ∈ bt → x ∈ bs := fun x hx => (hbs x).2 (.inr (.inr (List.mem_cons_of_mem _ hx)))
  obtain ⟨l8, g1, k13, g2, g3⟩ := hf.del (a := p.1) (b := p.2) hin
  refine ⟨some mf, by rw [add_mk, hb.cell]; rfl, by decide, l8, g1, some k13, g2, by decide, fun w11 s11 => ?_⟩
  obtain ⟨l14, g4, g5⟩ := g3 w11 s11.fr
  refine ⟨k13, l14, rfl, g4, fun w15 u15 => ?_⟩
  obtain ⟨f15, hf15⟩ := g5 w15 u15
  have hb15 := (hb.fr s11.fr (by simp)).fr f15 (fun hx => hr1 (List.mem_cons_of_mem _ hx))
  have ht15 := (ht.fr s11.fr (by simp) (fun _ _ => by simp)).fr f15 (fun hx => hdj _ (List.mem_cons_of_mem _ hx) List.mem_cons_self) (fun x hx hx2 => hdj x (List.mem_cons_of_mem _ hx2) (List.mem_cons_of_mem _ hx))
  have F15 : Fr bs w w15 := (F5.trans' s11.fr).mono (G := bs) (fun x hx => (by cases hx)) |>.trans f15 (fun x hx => .inl (inb x hx))
  obtain ⟨l18, g6, k23, g7, g8⟩ := ht15.del (a := p.2) (b := p.1) hin
  refine ⟨some mt, by rw [add_mk, hb15.cell]; rfl, by decide, l18, g6, some k23, g7, by decide, fun w21 s21 => ?_⟩
  obtain ⟨l24, g9, g10⟩ := g8 w21 s21.fr
  refine ⟨k23, l24, rfl, g9, fun w25 u25 => ?_⟩
  obtain ⟨f25, ht25⟩ := g10 w25 u25
  have hb25 := (hb15.fr s21.fr (by simp)).fr f25 (fun hx => hr2 (List.mem_cons_of_mem _ hx))
  have hf25 := (hf15.fr s21.fr (by simp) (fun _ _ => by simp)).fr f25 (fun hx => hdj _ List.mem_cons_self (List.mem_cons_of_mem _ hx)) (fun x hx hx2 => hdj x (List.mem_cons_of_mem _ hx) (List.mem_cons_of_mem _ hx2))
  have F25 : Fr bs w w25 := (F15.trans s21.fr (fun x hx => (by cases hx))).trans f25 (fun x hx => .inl (inb2 x hx))
  refine ⟨R.length, by rw [add_mk, hb25.cell]; rfl, ?_⟩
  rw [add_mk]
  have hrlt : r < w.heap.size := h.lt r h.r_in
  refine ⟨_, hb25, rfl, by show 0 + 2 + 1 ≤ 3; omega, ?_, fun w29 u29 => ⟨rfl, ?_, ?_⟩⟩
  · show ¬ r ∈ [k1]
    rw [List.mem_singleton]; omega
  · exact F25.trans u29.fr (fun x hx => .inl (by rw [List.mem_singleton.1 hx]; exact h5.r_in))
  have hpos := List.length_pos_of_mem hin
  have ub : Blk w29 r [.map (some mf), .map (some mt), I64 (R.erase p).length] := by
    have := u29.blk
    have e : IntKind.wrap .i64 ((R.length : Int) - 1) = ((R.erase p).length : Int) := by rw [wrapi (by omega) (by omega), List.length_erase_of_mem hin]; omega
    rw [e] at this; exact this
  have uf := u29.fr
  have hne : ∀ q : PI, q ∈ R.erase p ↔ q ∈ R ∧ ¬ q = p := fun q => by rw [h.nodup.mem_erase_iff]; exact And.comm
  refine ⟨⟨mf, mt, bf, bt, ub, (hf25.fr uf (fun hx => hr1 (by rw [List.mem_singleton.1 hx]; exact List.mem_cons_self)) (fun x hx hx2 => hr1 (by rw [List.mem_singleton.1 hx2] at hx; exact List.mem_cons_of_mem _ hx))).congr fun a b => ?_, (ht25.fr uf (fun hx => hr2 (by rw [List.mem_singleton.1 hx]; exact List.mem_cons_self)) (fun x hx hx2 => hr2 (by rw [List.mem_singleton.1 hx2] at hx; exact List.mem_cons_of_mem _ hx))).congr fun b a => ?_, hdj, hbs, hr1, hr2⟩, h.nodup.erase p, fun q hq => h.rng q ((hne q).1 hq).1⟩
  · rw [hne, Prod.ext_iff]
  · rw [hne, Prod.ext_iff]
    exact ⟨fun h => ⟨h.1, fun h2 => h.2 ⟨h2.2, h2.1⟩⟩, fun h => ⟨h.1, fun h2 => h.2 ⟨h2.2, h2.1⟩⟩⟩
end
end Go.Proofs.Ytnplopiconabiaa.Dred

end
section
/- Dred: a map's keys, collected; what is around a node. -/
namespace Go.Proofs
open Go.RowKit Go.Maps Go.Sort Go.Shelf
set_option linter.unusedVariables false
set_option maxRecDepth 100000 in
theorem Try.keysCollectB {w : World} {b : Nat} {l : List (Int × Value)} (h : V.MapG (Value.int .i64) w b l) (hk : ∀ p ∈ l, -9223372036854775808 ≤ p.1 ∧ p.1 ≤ 9223372036854775807) (hl : l.length ≤ 1048576) :
    Calls Try.prog 97 #[.map (some b)] w fun e w1 => ∃ x, e = .returned x ∧ Below w.heap.size w w1 ∧ Calls Try.prog 69 #[x] w1 fun e w2 => ∃ (v : Value) (ss : List Int), e = .returned v ∧ ss.Perm (l.map (·.1)) ∧
      w2.ownsRow w.heap.size 3 1 v ss.length (ss.map encZ) ∧ (v = .slice none 0 0 ↔ ss = []) ∧ Below w.heap.size w w2 := by
  obtain ⟨D0, hown, hperm, hsize⟩ := Try.owns_of h hk hl
  have hbl := hown.lt
  have cK : CallsIn Fence.wide 5 Try.prog 97 #[.map (some b)] w fun e w' => e = .returned (.func (.func 122) #[] #[.pointer (some ⟨w.heap.size, 0, none⟩)]) ∧ w' = w.alloc (.cells #[.map (some b)] 104) := AnyZI.keys_in Try.keysB Fence.wide 5 trivial rfl (some b) w
  refine (callsIn_wide.1 cK).mono ?_
  rintro e w1 ⟨rfl, rfl⟩
  refine ⟨_, rfl, (Below.refl _ w).alloc (Nat.le_refl _) _, ?_⟩
  have hseq : SeqGives Fence.wide 3 Try.prog 122 #[.pointer (some ⟨w.heap.size, 0, none⟩)] encZ (fun ss => ss.Perm (intKeys D0)) (Maps.size D0) (w.alloc (.cells #[.map (some b)] 104)) :=
    AnyZI.keys_gives (ρ := Try.keysB_ren) { Try.keysB with } Fence.wide _ trivial rfl (by omega) w.heap.size b l.length D0 _ (by simp) (by simp) (by
      obtain ⟨es, clock, hb, Ft, hs, hD⟩ := hown
      exact ⟨es, clock, (Below.heap_alloc _ _ b hbl).trans hb, Ft, hs, hD⟩)
  have hmax : Maps.size D0 ≤ maxLen := by rw [hsize]; exact Nat.le_trans hl (by decide)
  have hbytes : Maps.size D0 * 8 ≤ 140737488355328 := by rw [hsize]; omega
  have cS := AnyZI.collect_in Try.collectA Fence.wide 5 trivial trivial rfl (by omega) 122 #[.pointer (some ⟨w.heap.size, 0, none⟩)] trivial (enters_of Try.func122 (by kernel_rfl) rfl) _ _ hmax hbytes _ hseq
  refine (callsIn_wide.1 cS).mono ?_
  rintro e w2 ⟨v, ss, rfl, hS, hrow, hnil, hB⟩
  exact ⟨v, ss, rfl, hS.trans hperm, ownsRow_base_a hrow (by simp), hnil, ((Below.refl _ w).alloc (Nat.le_refl _) _).trans (hB.mono (by simp))⟩
set_option maxRecDepth 100000 in
theorem Try.keysCollectN (w : World) :
    Calls Try.prog 97 #[.map none] w fun e w1 => ∃ x, e = .returned x ∧ Below w.heap.size w w1 ∧ Calls Try.prog 69 #[x] w1 fun e w2 => e = .returned (.slice none 0 0) ∧ Below w.heap.size w w2 := by
  have cK : CallsIn Fence.wide 5 Try.prog 97 #[.map none] w fun e w' => e = .returned (.func (.func 122) #[] #[.pointer (some ⟨w.heap.size, 0, none⟩)]) ∧ w' = w.alloc (.cells #[.map none] 104) := AnyZI.keys_in Try.keysB Fence.wide 5 trivial rfl none w
  refine (callsIn_wide.1 cK).mono ?_
  rintro e w1 ⟨rfl, rfl⟩
  refine ⟨_, rfl, (Below.refl _ w).alloc (Nat.le_refl _) _, ?_⟩
  have hseq : SeqGives Fence.wide 3 Try.prog 122 #[.pointer (some ⟨w.heap.size, 0, none⟩)] encZ (fun ss : List Int => ss = []) 0 (w.alloc (.cells #[.map none] 104)) :=
    AnyZI.keys_gives_nil (ρ := Try.keysB_ren) { Try.keysB with } Fence.wide _ trivial rfl w.heap.size _ (by simp) (by simp)
  have cS := AnyZI.collect_in Try.collectA Fence.wide 5 trivial trivial rfl (by omega) 122 #[.pointer (some ⟨w.heap.size, 0, none⟩)] trivial (enters_of Try.func122 (by kernel_rfl) rfl) _ _ (by decide) (by decide) _ hseq
  refine (callsIn_wide.1 cS).mono ?_
  rintro e w2 ⟨v, ss, rfl, hS, hrow, hnil, hB⟩
  exact ⟨by rw [hnil.2 hS], ((Below.refl _ w).alloc (Nat.le_refl _) _).trans (hB.mono (by simp))⟩
end Go.Proofs
namespace Go.Proofs.Ytnplopiconabiaa.Dred
open Go Go.V
open Go.Proofs.Ytnplopiconabiaa.VC
open Go.Proofs.Ytnplopiconabiaa.Span
open Go.Proofs.Try (prog)
set_option linter.unusedVariables false
set_option linter.unusedSimpArgs false
set_option maxRecDepth 20000

theorem owns_z {w : World} {B n : Nat} {v : Value} {xs : List Value} (h : w.ownsRow B 3 1 v n xs) (h1 : ∀ u ∈ xs, u.oneCell' = true) : ∃ p c, v = .slice p n c ∧ OwnZ w B 1 p n c xs := by
  obtain ⟨hl, ⟨rfl, rfl⟩ | ⟨g, cap, cur, rfl, hb, hg, r1, r2, r3, r4⟩⟩ := h
  · have : xs = [] := List.length_eq_zero_iff.1 (by omega)
    subst this
    exact ⟨none, 0, rfl, OwnZ.nil _ _ _⟩
  · refine ⟨_, cap, rfl, hl, r1, h1, .inr ⟨g, cur.toList.drop (n * 1), rfl, hb, ?_, ?_⟩⟩
    · rw [← r4, List.take_append_drop]
      exact ⟨3, 0, 0, by simpa using hg, .inl (Nat.le_refl _)⟩
    · rw [← r4, List.take_append_drop]
      simpa using r3
/-- A node and those that are in a half with it. -/
theorem around_c {w : World} {m : Nat} {bs : List Nat} {S : Int → Int → Prop} (h : Half w m bs S) (n : Int) {N : Nat} (hb : ∀ s : List Int, s.Nodup → (∀ b ∈ s, S n b) → s.length ≤ N) (hN : N ≤ 1000000) (hr : ∀ b, S n b → inR b) :
    Calls prog 79 #[I64 n, .map (some m)] w fun e w' => Fr [] w w' ∧ ∃ (p : Option Addr) (c : Nat) (A : List Int), e = .returned (.slice p A.length c) ∧ OwnZ w' w.heap.size 1 p A.length c (A.map I64) ∧ (∀ x, x ∈ A ↔ x = n ∨ S n x) ∧ A.length ≤ N + 1 := by
  obtain ⟨l, hl, p2, s, hlk, hs, hv, hk, hnd, _⟩ := h.look n
  refine dred_around.link ⟨l, hl, p2, hlk, ?_⟩
  have hsl : s.length ≤ N := by have := hb (s.map (·.1)) hnd fun b hb => (hk b).1 hb; simpa using this
  -- what is collected
  have key : Calls prog 97 #[.map p2] w fun e4 w5 => ∃ x6, e4 = .returned x6 ∧ Fr [] w w5 ∧ Calls prog 69 #[x6] w5 fun e7 w8 => ∃ (p9 : Option Addr) (c11 : Nat) (A : List Int), e7 = .returned (.slice p9 A.length c11) ∧ Fr [] w w8 ∧ OwnZ w8 w.heap.size 1 p9 A.length c11 (A.map I64) ∧ (∀ x, x ∈ A ↔ S n x) ∧ A.length ≤ N := by
    cases p2 with
    | none =>
      have hs : s = [] := hs
      subst hs
      refine (Go.Proofs.Try.keysCollectN w).mono ?_
      rintro e w1 ⟨x, rfl, hb1, hc⟩
      refine ⟨x, rfl, Fr.of_below hb1, hc.mono ?_⟩
      rintro e w2 ⟨rfl, hb2⟩
      exact ⟨none, 0, [], rfl, Fr.of_below hb2, OwnZ.nil _ _ _, fun x => by rw [← hk]; simp, by simp⟩
    | some b =>
      refine (Go.Proofs.Try.keysCollectB hs (fun p hp => hr _ ((hk _).1 (List.mem_map.2 ⟨p, hp, rfl⟩))) (by omega)).mono ?_
      rintro e w1 ⟨x, rfl, hb1, hc⟩
      refine ⟨x, rfl, Fr.of_below hb1, hc.mono ?_⟩
      rintro e w2 ⟨v, ss, rfl, hperm, hrow, _, hb2⟩
      obtain ⟨p, c, rfl, o⟩ := owns_z hrow (fun u hu => by obtain ⟨n, _, rfl⟩ := List.mem_map.1 hu; rfl)
      exact ⟨p, c, ss, rfl, Fr.of_below hb2, o, fun x => by rw [hperm.mem_iff, hk], by have := hperm.length_eq; rw [List.length_map] at this; omega⟩
  refine key.mono ?_
  rintro e4 w5 ⟨x6, rfl, f5, hc⟩
  refine ⟨x6, rfl, hc.mono ?_⟩
  rintro e7 w8 ⟨p9, c11, A, rfl, f8, o, hA, hAl⟩
  refine ⟨p9, _, c11, rfl, fun k12 => ?_⟩
  refine appM1 (C := I64) (fun _ => rfl) (x := n) (u := w) (B := w.heap.size) o f8 rfl (Nat.le_refl _) f8.size (fun h => by cases h) (by simp) (fun ad hp x hx => .inl hx) (by omega) (by omega) fun w13 p14 c16 F13 _ _ o13 _ => ?_
  exact ⟨F13, p14, c16, _, rfl, o13, fun x => by rw [List.mem_append, List.mem_singleton, hA]; exact Or.comm, by simp; omega⟩
end Go.Proofs.Ytnplopiconabiaa.Dred

end
section
/- Dred: slices.DeleteFunc, Delete, Contains over rows of pairs. -/
namespace Go.Proofs.Ytnplopiconabiaa.Dred
open Go Go.V
open Go.Proofs.Ytnplopiconabiaa.VC
open Go.Proofs.Ytnplopiconabiaa.Span
open Go.Proofs.Try (prog)
set_option linter.unusedVariables false
set_option linter.unusedSimpArgs false
set_option maxRecDepth 20000

abbrev pcs (L : List PI) : List Value := L.flatMap pcell
theorem pcs_len (L : List PI) : (pcs L).length = L.length * 2 := flatP.len L
theorem pcs_app (A B : List PI) : pcs (A ++ B) = pcs A ++ pcs B := List.flatMap_append
theorem pcs_one (L : List PI) : ∀ u ∈ pcs L, u.oneCell' = true := flatP.one L
/-- Those of the first i that are kept. -/
def kept (L : List PI) (b : Nat → Bool) : Nat → List PI
  | 0 => []
  | i + 1 => kept L b i ++ match L[i]? with
    | some x => if b i then [] else [x]
    | none => []
theorem kept_succ {L : List PI} {b : Nat → Bool} {i : Nat} (hi : i < L.length) : kept L b (i + 1) = kept L b i ++ if b i then [] else [L[i]] := by
  show kept L b i ++ _ = _
  rw [List.getElem?_eq_getElem hi]
theorem kept_len (L : List PI) (b : Nat → Bool) : ∀ i, (kept L b i).length ≤ i
  | 0 => by simp [kept]
  | i + 1 => by
    have := kept_len L b i
    show (kept L b i ++ _).length ≤ _
    rw [List.length_append]
    cases L[i]? with
    | none => simp; omega
    | some x =>
      show _ + (if b i = true then [] else [x]).length ≤ _
      by_cases h : b i = true
      · rw [if_pos h]; simp; omega
      · rw [if_neg h]; simp; omega
theorem kept_all {L : List PI} {b : Nat → Bool} : ∀ {i : Nat}, i ≤ L.length → (∀ j, j < i → b j = false) → kept L b i = L.take i
  | 0, _, _ => by simp [kept]
  | i + 1, hi, h => by
    rw [kept_succ (by omega), kept_all (by omega) (fun j hj => h j (by omega)), if_neg (by rw [h i (by omega)]; simp), take_snoc (by omega)]

/-- The function f, with the captured value cap, tells of the i-th pair what b says, and goes from J i to J (i + 1); the blocks that it writes are not the row's. -/
def StepsF (f : Nat) (cap : Value) (L : List PI) (b : Nat → Bool) (J : Nat → World → Prop) (p : Option Addr) : Prop :=
  ∀ (i : Nat) (hi : i < L.length) w0 w', J i w0 → Fr [] w0 w' → Calls prog f #[.agg #[I64 L[i].1, I64 L[i].2], cap] w' fun e w'' => e = .returned (.bool (b i)) ∧ J (i + 1) w'' ∧ ∃ F, Fr F w' w'' ∧ ∀ x ∈ F, x < w0.heap.size ∧ ∀ ad, p = some ad → ad.block ≠ x

theorem indexF_c {w : World} {p : Option Addr} {c f : Nat} {cap : Value} {L : List PI} {b : Nat → Bool} {J : Nat → World → Prop} {B : Nat} (o : OwnZ w B 2 p L.length c (pcs L)) (hl : L.length ≤ 1000000000) (hbody : BodyOk prog f) (hs : StepsF f cap L b J p) (h0 : J 0 w) :
    Calls prog 98 #[.slice p L.length c, .func (.func f) #[] #[cap]] w fun e w' => OwnZ w' B 2 p L.length c (pcs L) ∧ w.heap.size ≤ w'.heap.size ∧ ((e = .returned (I64 (-1)) ∧ (∀ j, j < L.length → b j = false) ∧ J L.length w') ∨ ∃ i, e = .returned (I64 ((i : Nat) : Int)) ∧ i < L.length ∧ b i = true ∧ (∀ j, j < i → b j = false) ∧ J (i + 1) w') := by
  refine slices_IndexFunc_g98.link ⟨fun m n w' => ∃ i : Nat, n = i ∧ i ≤ L.length ∧ m = L.length - i ∧ (∀ j, j < i → b j = false) ∧ J i w' ∧ OwnZ w' B 2 p L.length c (pcs L) ∧ w.heap.size ≤ w'.heap.size, L.length, ⟨0, rfl, by omega, rfl, by omega, h0, o, Nat.le_refl _⟩, ?_⟩
  rintro m n w5 ⟨i, rfl, hi, rfl, hno, hJ, o5, z5⟩
  refine bc (fun hlt => ?_) fun hge => ?_
  · have hlt : (i : Int) < (L.length : Int) := of_decide_eq_true hlt
    have hlt' : i < L.length := by omega
    obtain ⟨ad, hp, g⟩ := o5.row.atF flatP (by decide) hlt'
    have e0 : (i : Int).toNat * 2 = i * 2 := by omega
    refine ⟨ad, hp, ⟨by omega, hlt⟩, _, _, ⟨by rw [e0]; exact g 0 _ rfl, by rw [e0]; exact g 1 _ rfl, trivial⟩, hbody, (hs i hlt' w5 w5 hJ (Fr.refl _ _)).mono ?_⟩
    rintro e w11 ⟨rfl, hJ2, F, f11, hF⟩
    have o11 := o5.fr f11 (fun ad hp hx => (hF _ hx).2 ad hp rfl)
    have z11 := f11.size
    refine ⟨_, rfl, bc (fun ht => ⟨o11, by omega, .inr ⟨i, rfl, hlt', ht, hno, hJ2⟩⟩) fun hn => ⟨L.length - (i + 1), by omega, i + 1, by rw [wrapi (by omega) (by omega)]; simp, by omega, rfl, fun j hj => ?_, hJ2, o11, by omega⟩⟩
    by_cases e : j = i
    · rw [e]; exact hn
    · exact hno j (by omega)
  · have hge : ¬ (i : Int) < (L.length : Int) := of_decide_eq_false hge
    have hi' : i = L.length := by omega
    subst hi'
    exact ⟨o5, z5, .inl ⟨rfl, hno, hJ⟩⟩

set_option maxHeartbeats 1000000 in
theorem deleteF_c {w : World} {p : Option Addr} {c f : Nat} {cap : Value} {L : List PI} {b : Nat → Bool} {J : Nat → World → Prop} {B : Nat} (o : OwnZ w B 2 p L.length c (pcs L)) (hl : L.length ≤ 1000000000) (hbody : BodyOk prog f) (hs : StepsF f cap L b J p) (h0 : J 0 w)
    (hJ : ∀ i w' w'', J i w' → Fr (pb p) w' w'' → J i w'') :
    Calls prog 80 #[.slice p L.length c, .func (.func f) #[] #[cap]] w fun e w' => ∃ c', e = .returned (.slice p (kept L b L.length).length c') ∧ OwnZ w' B 2 p (kept L b L.length).length c' (pcs (kept L b L.length)) ∧ J L.length w' ∧ w.heap.size ≤ w'.heap.size := by
  refine slices_DeleteFunc_g80.link ((indexF_c o hl hbody hs h0).mono ?_)
  rintro e w2 ⟨o2, z2, ⟨rfl, hno, hJ2⟩ | ⟨i0, rfl, hi0, hb0, hno, hJ2⟩⟩
  · refine ⟨_, rfl, bT rfl ?_⟩
    have e : kept L b L.length = L := by rw [kept_all (Nat.le_refl _) hno, List.take_length]
    rw [e]
    exact ⟨c, rfl, o2, hJ2, z2⟩
  refine ⟨_, rfl, bF (by simp) ?_⟩
  obtain ⟨h1, h2, h3, ⟨_, rfl⟩ | ⟨bk, zs, rfl, hBb, hbk, hcz⟩⟩ := o2
  · omega
  rw [List.length_append, pcs_len] at hcz
  have pbe : pb (some (⟨bk, 0, none⟩ : Addr)) = [bk] := rfl
  rw [pbe] at hJ
  have hk0 : kept L b i0 = L.take i0 := kept_all (by omega) hno
  have hk1 : kept L b (i0 + 1) = L.take i0 := by rw [kept_succ hi0, if_pos hb0, hk0, List.append_nil]
  refine ⟨fun m n7 n8 w' => ∃ (i j : Nat) (Jk : List Value), n7 = i ∧ n8 = j ∧ m = L.length - j ∧ j ≤ L.length ∧ i < j ∧ i = (kept L b j).length ∧ Jk.length = (j - i) * 2 ∧ J j w' ∧ w.heap.size ≤ w'.heap.size ∧ Blk w' bk (pcs (kept L b j) ++ Jk ++ pcs (L.drop j) ++ zs), L.length - (i0 + 1), ⟨i0, i0 + 1, pcell L[i0], rfl, by rw [wrapi (by omega) (by omega)]; simp, rfl, by omega, by omega, ?_, ?_, hJ2, z2, ?_⟩, ?_⟩
  · rw [hk1, List.length_take]; omega
  · show 2 = _; omega
  · rw [hk1]
    have e : pcs L = pcs (L.take i0) ++ pcell L[i0] ++ pcs (L.drop (i0 + 1)) := by
      have e : L = L.take i0 ++ [L[i0]] ++ L.drop (i0 + 1) := by simp
      conv => lhs; rw [e]
      rw [pcs_app, pcs_app]; rfl
    rw [e] at hbk
    exact hbk
  rintro m n7 n8 w9 ⟨i, j, Jk, rfl, rfl, rfl, hj, hij, hi, hJl, hJ9, z9, b9⟩
  have hil : (pcs (kept L b j)).length = i * 2 := by rw [pcs_len, ← hi]
  refine bc (fun hlt => ?_) fun hge => ?_
  · have hlt : (j : Int) < (L.length : Int) := of_decide_eq_true hlt
    have hlt' : j < L.length := by omega
    have e0 : (j : Int).toNat * 2 = j * 2 := by omega
    have ei : (i : Int).toNat * 2 = i * 2 := by omega
    intro y11 hy11
    have hdrop : pcs (L.drop j) = I64 L[j].1 :: I64 L[j].2 :: pcs (L.drop (j + 1)) := by rw [List.drop_eq_getElem_cons hlt']; rfl
    rw [hdrop] at b9
    have cell : ∀ (m : Nat) (u : Value), (I64 L[j].1 :: I64 L[j].2 :: pcs (L.drop (j + 1)))[m]? = some u → w9.cell? (((⟨bk, 0, none⟩ : Addr).add (j * 2)).add m) = some u := fun m u hu => by
      rw [add_mk, add_mk, b9.cell]
      have hm := (List.getElem?_eq_some_iff.1 hu).1
      rw [List.append_assoc, List.getElem?_append_right (by simp only [List.length_append, hil, hJl]; omega)]
      rw [List.getElem?_append_left (by simp only [List.length_append, hil, hJl]; omega)]
      rw [show 0 + j * 2 + m - (pcs (kept L b j) ++ Jk).length = m by simp only [List.length_append, hil, hJl]; omega]
      exact hu
    refine ⟨_, rfl, ⟨by omega, hlt⟩, _, _, ⟨by rw [e0]; exact cell 0 _ rfl, by rw [e0]; exact cell 1 _ rfl, trivial⟩, fun k20 => ⟨hbody, fun w21 st21 => ?_⟩⟩
    have n21 := g_new1 st21
    refine (hs j hlt' w9 w21 hJ9 st21.fr).mono ?_
    rintro e w24 ⟨rfl, hJ24, F, f24, hF⟩
    have hbF : bk ∉ F := fun hx => (hF _ hx).2 _ rfl rfl
    have b24 := (b9.fr st21.fr (by simp)).fr f24 hbF
    have z21 := st21.fr.size
    have z24 := f24.size
    have hks := kept_succ (b := b) hlt'
    have hbklt := b9.lt
    refine ⟨_, rfl, g_keep f24 (fun x hx => by simp at hx; subst hx; exact ⟨n21.2, fun hx => by have := (hF _ hx).1; omega⟩), bc (fun hne => ?_) fun heq => ?_⟩
    · have hne : b j = false := by simpa using hne
      rw [if_neg (by rw [hne]; simp)] at hks
      obtain ⟨x, y, J', rfl⟩ : ∃ x y J', Jk = x :: y :: J' := by
        match Jk, hJl with
        | [], h => simp at h; omega
        | [_], h => simp at h; omega
        | x :: y :: J', _ => exact ⟨x, y, J', rfl⟩
      have hshape : pcs (kept L b j) ++ (x :: y :: J') ++ (I64 L[j].1 :: I64 L[j].2 :: pcs (L.drop (j + 1))) ++ zs = pcs (kept L b j) ++ [x, y] ++ (J' ++ [I64 L[j].1, I64 L[j].2] ++ pcs (L.drop (j + 1)) ++ zs) := by simp [List.append_assoc]
      rw [hshape] at b24
      refine ⟨_, rfl, ⟨by omega, by omega⟩, _, by rw [add_mk]; exact b24, by rw [add_mk], by rw [add_mk, ei]; show 0 + i * 2 + 2 ≤ _; simp only [List.length_append, hil, List.length_cons]; omega, by rw [add_mk]; simp; omega, fun w28 u28 => ?_⟩
      rw [add_mk, ei] at u28
      have hs2 : sets (pcs (kept L b j) ++ [x, y] ++ (J' ++ [I64 L[j].1, I64 L[j].2] ++ pcs (L.drop (j + 1)) ++ zs)) (0 + i * 2) [I64 L[j].1, I64 L[j].2] = pcs (kept L b j) ++ [I64 L[j].1, I64 L[j].2] ++ (J' ++ [I64 L[j].1, I64 L[j].2] ++ pcs (L.drop (j + 1)) ++ zs) := by
        rw [Nat.zero_add, ← hil]
        exact sets_mid _ _ _ _ rfl
      have u28 : Upd w24 w28 bk (sets (pcs (kept L b j) ++ [x, y] ++ (J' ++ [I64 L[j].1, I64 L[j].2] ++ pcs (L.drop (j + 1)) ++ zs)) (0 + i * 2) [I64 L[j].1, I64 L[j].2]) := u28
      rw [hs2] at u28
      have z28 := u28.fr.size
      refine hy11 _ _ ⟨L.length - (j + 1), by omega, i + 1, j + 1, J' ++ [I64 L[j].1, I64 L[j].2], by rw [wrapi (by omega) (by omega)]; simp, by rw [wrapi (by omega) (by omega)]; simp, rfl, by omega, by omega, by rw [hks]; simp [hi], by simp at hJl ⊢; omega, hJ _ _ _ hJ24 u28.fr, by omega, ?_⟩
      rw [hks, pcs_app]
      have := u28.blk
      simpa [List.append_assoc, pcs, pcell] using this
    · have heq : b j = true := by simpa using heq
      rw [if_pos heq, List.append_nil] at hks
      refine hy11 _ _ ⟨L.length - (j + 1), by omega, i, j + 1, Jk ++ [I64 L[j].1, I64 L[j].2], rfl, by rw [wrapi (by omega) (by omega)]; simp, rfl, by omega, by omega, by rw [hks]; exact hi, by simp [hJl]; omega, hJ24, by omega, ?_⟩
      rw [hks]
      simpa [List.append_assoc] using b24
  · have hge : ¬ (j : Int) < (L.length : Int) := of_decide_eq_false hge
    obtain rfl : j = L.length := by omega
    rw [List.drop_length] at b9
    have ei : (i : Int).toNat = i := by omega
    have eq0 : (L.length : Int).toNat = L.length := by omega
    have hci : ¬ c = i := by omega
    refine ⟨⟨by omega, by omega, by omega⟩, .inr ⟨⟨bk, 0 + i * 2, none⟩, _, by rw [ei]; simp [subA, hci, add_mk], rfl, b9, ?_, by simp, fun w32 u32 => ⟨⟨by omega, by omega, by omega⟩, ?_⟩⟩⟩
    · rw [ei, eq0]; simp only [List.length_append, hil, hJl]; omega
    · rw [ei, eq0] at u32
      have hs2 : sets (pcs (kept L b L.length) ++ Jk ++ pcs [] ++ zs) (0 + i * 2) (reps [I64 0, I64 0] (L.length - i)) = pcs (kept L b L.length) ++ reps [I64 0, I64 0] (L.length - i) ++ zs := by
        rw [Nat.zero_add, ← hil]
        have : pcs [] = [] := rfl
        rw [this, List.append_nil]
        exact sets_mid _ _ _ _ (by rw [hJl, reps_length]; rfl)
      have u32 : Upd w9 w32 bk (sets (pcs (kept L b L.length) ++ Jk ++ pcs [] ++ zs) (0 + i * 2) (reps [I64 0, I64 0] (L.length - i))) := u32
      rw [hs2] at u32
      have z32 := u32.fr.size
      refine ⟨c, by rw [ei, ← hi]; simp [subA_0], ⟨pcs_len _, by rw [← hi]; omega, pcs_one _, .inr ⟨bk, _, rfl, hBb, by have := u32.blk; rw [List.append_assoc] at this; exact this, ?_⟩⟩, hJ _ _ _ hJ9 u32.fr, by omega⟩
      simp only [List.length_append, hil, reps_length, List.length_cons, List.length_nil]; omega
/-- One pair is taken out of a row. -/
theorem delete_c {w : World} {p : Option Addr} {c : Nat} {L : List PI} {B i : Nat} (o : OwnZ w B 2 p L.length c (pcs L)) (hi : i < L.length) (hl : L.length ≤ 1000000000) :
    Calls prog 83 #[.slice p L.length c, I64 i, I64 ((i + 1 : Nat) : Int)] w fun e w' => ∃ c', e = .returned (.slice p (L.eraseIdx i).length c') ∧ Fr (pb p) w w' ∧ OwnZ w' B 2 p (L.eraseIdx i).length c' (pcs (L.eraseIdx i)) := by
  have hel : (L.eraseIdx i).length = L.length - 1 := List.length_eraseIdx_of_lt hi
  have hce := o.2.1
  refine slices_Delete_g83.link ⟨⟨by omega, by omega, by omega, by omega⟩, bF (by simp; omega) ⟨⟨by omega, by omega, by omega⟩, ⟨by omega, by omega, by omega⟩, ?_⟩⟩
  have e1 : Int.toNat (L.length : Int) - Int.toNat ((i + 1 : Nat) : Int) = L.length - (i + 1) := by omega
  have e2 : Int.toNat ((i + 1 : Nat) : Int) = i + 1 := by omega
  have e3 : Int.toNat (i : Int) - 0 = i := by omega
  have er := o.row.from (lo := i + 1) (c := c) (sz := 2) (n := L.length) (pcs_len L) hce
  have hd : (pcs L).drop ((i + 1) * 2) = pcs (L.drop (i + 1)) := flatP.drop L (i + 1)
  rw [hd] at er
  rw [e1, e2, e3, subA_0]
  have ot : OwnZ w B 2 p i c (pcs (L.take i)) := by
    obtain ⟨h1, h2, h3, h4⟩ := o
    refine ⟨by rw [pcs_len, List.length_take]; omega, by omega, pcs_one _, h4.imp (fun h => h) fun ⟨bk, zs, e, hB, hb, hc⟩ => ⟨bk, pcs (L.drop i) ++ zs, e, hB, ?_, ?_⟩⟩
    · have : pcs L = pcs (L.take i) ++ pcs (L.drop i) := by rw [← pcs_app, List.take_append_drop]
      rw [this, List.append_assoc] at hb; exact hb
    · have : pcs L = pcs (L.take i) ++ pcs (L.drop i) := by rw [← pcs_app, List.take_append_drop]
      rw [this, List.append_assoc] at hc; exact hc
  refine ⟨pcs (L.drop (i + 1)), by rw [pcs_len, List.length_drop], er, ?_⟩
  have ee : L.eraseIdx i = L.take i ++ L.drop (i + 1) := List.eraseIdx_eq_take_drop_succ ..
  obtain ⟨h1, h2, h3, ⟨_, rfl⟩ | ⟨bk, zs, rfl, hBb, hbk, hcz⟩⟩ := o
  · omega
  have hpl : pcs L = pcs (L.take i) ++ pcell L[i] ++ pcs (L.drop (i + 1)) := by
    have e : L = L.take i ++ [L[i]] ++ L.drop (i + 1) := by simp
    conv => lhs; rw [e]
    rw [pcs_app, pcs_app]; rfl
  refine ⟨by omega, by omega, fun hc w1 st1 => ?_, fun hc => by omega⟩
  have b1 : Blk w1 bk (pcs L ++ zs) := hbk.fr st1.fr (by simp)
  by_cases hnil : L.drop (i + 1) = []
  · left
    have hlast : L.length = i + 1 := by have := congrArg List.length hnil; rw [List.length_drop] at this; simp at this; omega
    have en : pcs (L.drop (i + 1)) = [] := by rw [hnil]; rfl
    refine ⟨en, ⟨by omega, by omega, by omega⟩, .inr ⟨⟨bk, 0 + i * 2, none⟩, _, ?_, rfl, b1, ?_, by simp, fun w8 u8 => ?_⟩⟩
    · have e5 : (((i + (L.length - (i + 1)) : Nat) : Int)).toNat = i := by omega
      rw [e5]
      have hci : ¬ c - 0 = i := by omega
      simp [subA, add_mk]
      omega
    · rw [List.length_append, pcs_len]; show 0 + i * 2 + (Int.toNat (L.length : Int) - Int.toNat (((i + (L.length - (i + 1)) : Nat) : Int))) * 2 ≤ _; omega
    · have e6 : Int.toNat (L.length : Int) - Int.toNat (((i + (L.length - (i + 1)) : Nat) : Int)) = 1 := by omega
      rw [e6] at u8
      have hs2 : sets (pcs L ++ zs) (0 + i * 2) (reps [I64 0, I64 0] 1) = pcs (L.take i) ++ reps [I64 0, I64 0] 1 ++ zs := by
        rw [Nat.zero_add, hpl, en, List.append_nil]
        have hil : (pcs (L.take i)).length = i * 2 := by rw [pcs_len, List.length_take]; omega
        rw [← hil]
        exact sets_mid _ _ _ _ rfl
      have u8 : Upd w1 w8 bk (sets (pcs L ++ zs) (0 + i * 2) (reps [I64 0, I64 0] 1)) := u8
      rw [hs2] at u8
      have e7 : i + (L.length - (i + 1)) = (L.eraseIdx i).length := by rw [hel]; omega
      rw [e7]
      refine ⟨c - 0, rfl, st1.fr.then u8.fr, pcs_len _, by rw [hel]; omega, pcs_one _, .inr ⟨bk, reps [I64 0, I64 0] 1 ++ zs, rfl, hBb, ?_, ?_⟩⟩
      · rw [ee, hnil, List.append_nil]
        have := u8.blk
        rw [List.append_assoc] at this; exact this
      · rw [List.length_append, pcs_len] at hcz
        simp only [List.length_append, pcs_len, reps_length, List.length_cons, List.length_nil]
        rw [hel]; omega
  · right
    have hpos := List.length_pos_iff.2 hnil
    rw [List.length_drop] at hpos
    have hil : (pcs (L.take i)).length = i * 2 := by rw [pcs_len, List.length_take]; omega
    refine ⟨⟨bk, 0, none⟩, _, rfl, rfl, b1, ?_, by simp, fun w2 u2 => ?_⟩
    · rw [List.length_append, pcs_len, pcs_len, List.length_drop]; show 0 + i * 2 + _ ≤ _; omega
    have hs1 : sets (pcs L ++ zs) (0 + i * 2) (pcs (L.drop (i + 1))) = pcs (L.take i) ++ pcs (L.drop (i + 1)) ++ (pcell (L[L.length - 1]'(by omega)) ++ zs) := by
      rw [Nat.zero_add, ← hil]
      have e8 : pcell L[i] ++ pcs (L.drop (i + 1)) = pcs (L.drop i) := by rw [List.drop_eq_getElem_cons hi]; rfl
      have e9 : L.drop i = (L.drop i).take (L.length - (i + 1)) ++ [L[L.length - 1]'(by omega)] := by
        have e10 : (L.drop i).drop (L.length - (i + 1)) = [L[L.length - 1]'(by omega)] := by
          rw [List.drop_drop, List.drop_eq_getElem_cons (by omega), List.drop_of_length_le (by omega)]
          congr 2
          omega
        rw [← e10, List.take_append_drop]
      have e12 : pcs L = pcs (L.take i) ++ (pcs ((L.drop i).take (L.length - (i + 1))) ++ pcs [L[L.length - 1]'(by omega)]) := by
        rw [← pcs_app, ← e9, ← pcs_app, List.take_append_drop]
      rw [e12]
      have e11 : (pcs ((L.drop i).take (L.length - (i + 1)))).length = (pcs (L.drop (i + 1))).length := by rw [pcs_len, pcs_len, List.length_take, List.length_drop, List.length_drop]; omega
      have := sets_mid (pcs (L.take i)) (pcs ((L.drop i).take (L.length - (i + 1)))) (pcs (L.drop (i + 1))) (pcs [L[L.length - 1]'(by omega)] ++ zs) e11
      simp only [List.append_assoc] at this ⊢
      rw [this]
      rfl
    have u2 : Upd w1 w2 bk (sets (pcs L ++ zs) (0 + i * 2) (pcs (L.drop (i + 1)))) := u2
    rw [hs1] at u2
    have e7 : i + (L.length - (i + 1)) = (L.eraseIdx i).length := by rw [hel]; omega
    have hil2 : (pcs (L.take i) ++ pcs (L.drop (i + 1))).length = (L.length - 1) * 2 := by rw [List.length_append, hil, pcs_len, List.length_drop]; omega
    rw [e7]
    refine ⟨⟨by omega, by rw [hel]; omega, by omega⟩, .inr ⟨⟨bk, 0 + (L.length - 1) * 2, none⟩, _, ?_, rfl, u2.blk, ?_, by simp, fun w8 u8 => ?_⟩⟩
    · have e5 : (((L.eraseIdx i).length : Int)).toNat = L.length - 1 := by omega
      rw [e5]
      simp [subA, add_mk]
      omega
    · simp only [List.length_append, hil]
      show 0 + (L.length - 1) * 2 + (Int.toNat (L.length : Int) - Int.toNat ((L.eraseIdx i).length : Int)) * 2 ≤ _
      rw [pcs_len, List.length_drop]
      have : (pcell (L[L.length - 1]'(by omega))).length = 2 := rfl
      omega
    · have e6 : Int.toNat (L.length : Int) - Int.toNat ((L.eraseIdx i).length : Int) = 1 := by omega
      rw [e6] at u8
      have hs2 : sets (pcs (L.take i) ++ pcs (L.drop (i + 1)) ++ (pcell (L[L.length - 1]'(by omega)) ++ zs)) (0 + (L.length - 1) * 2) (reps [I64 0, I64 0] 1) = pcs (L.take i) ++ pcs (L.drop (i + 1)) ++ (reps [I64 0, I64 0] 1 ++ zs) := by
        rw [Nat.zero_add, ← hil2, ← List.append_assoc, ← List.append_assoc]
        exact sets_mid _ _ _ _ rfl
      have u8 : Upd w2 w8 bk (sets (pcs (L.take i) ++ pcs (L.drop (i + 1)) ++ (pcell (L[L.length - 1]'(by omega)) ++ zs)) (0 + (L.length - 1) * 2) (reps [I64 0, I64 0] 1)) := u8
      rw [hs2] at u8
      refine ⟨c - 0, rfl, (st1.fr.then u2.fr).trans' u8.fr, pcs_len _, by rw [hel]; omega, pcs_one _, .inr ⟨bk, reps [I64 0, I64 0] 1 ++ zs, rfl, hBb, ?_, ?_⟩⟩
      · rw [ee, pcs_app]; exact u8.blk
      · rw [List.length_append, pcs_len] at hcz
        simp only [List.length_append, pcs_len, reps_length, List.length_cons, List.length_nil]
        rw [hel]; omega
theorem contains_c {w : World} {lA : Option Addr} {lC : Nat} {L : List PI} (p : PI) (hr : Row w lA (pcs L)) (hl : L.length ≤ 1000000000) :
    Calls prog 56 #[.slice lA L.length lC, .agg #[I64 p.1, I64 p.2]] w fun e w' => e = .returned (.bool (decide (p ∈ L))) ∧ Fr [] w w' := by
  refine slices_Contains_g56.link fun k1 w2 s2 => ?_
  have n1 := g_new1 s2
  have hr2 := hr.old s2.fr
  have key : Calls prog 78 #[.slice lA L.length lC, .agg #[I64 p.1, I64 p.2]] w2 fun e w' => (∃ n : Int, e = .returned (I64 n) ∧ (0 ≤ n ↔ p ∈ L)) ∧ Fr [] w2 w' := by
    refine slices_Index_g78.link fun k1 => ⟨fun m n w' => ∃ i : Nat, n = i ∧ i ≤ L.length ∧ m = L.length - i ∧ p ∉ L.take i ∧ Fr [] w2 w', L.length, fun w4 s4 => ⟨0, rfl, by omega, rfl, by simp, s4.fr⟩, ?_⟩
    rintro m n w8 ⟨i, rfl, hi, rfl, hn, F⟩
    refine bc (fun hlt => ?_) fun hge => ?_
    · have hlt : (i : Int) < (L.length : Int) := of_decide_eq_true hlt
      have hlt' : i < L.length := by omega
      obtain ⟨ad, hp, g⟩ := (hr2.old F).atF flatP (by decide) hlt'
      have e0 : (i : Int).toNat * 2 = i * 2 := by omega
      refine ⟨ad, hp, ⟨by omega, hlt⟩, _, _, ⟨by rw [e0]; exact g 0 _ rfl, by rw [e0]; exact g 1 _ rfl, trivial⟩, bc (fun h => fun w13 s13 => ⟨⟨_, rfl, ?_⟩, F.trans' s13.fr⟩) fun h => ⟨L.length - (i + 1), by omega, fun w16 s16 => ⟨i + 1, by rw [wrapi (by omega) (by omega)]; simp, by omega, rfl, ?_, F.trans' s16.fr⟩⟩⟩
      · have h : p.1 = L[i].1 ∧ p.2 = L[i].2 := by simpa [conj] using h
        have : p = L[i] := Prod.ext h.1 h.2
        exact ⟨fun _ => by rw [this]; exact List.getElem_mem hlt', fun _ => by omega⟩
      · rw [take_snoc hlt', List.mem_append, List.mem_singleton]
        rintro (h2 | h2)
        · exact hn h2
        · rw [h2] at h; simp [conj] at h
    · have hge : ¬ (i : Int) < (L.length : Int) := of_decide_eq_false hge
      rw [List.take_of_length_le (by omega)] at hn
      exact ⟨⟨_, rfl, ⟨fun h => by omega, fun h => absurd h hn⟩⟩, F⟩
  refine key.mono ?_
  rintro e4 w5 ⟨⟨n, rfl, hn⟩, f5⟩
  refine ⟨n, rfl, keepF f5 (by simpa using n1.2), ?_, s2.fr.trans' f5⟩
  by_cases h : p ∈ L
  · rw [decide_eq_true h, decide_eq_true (hn.2 h)]
  · rw [decide_eq_false h, decide_eq_false (fun h2 => h (hn.1 h2))]
end Go.Proofs.Ytnplopiconabiaa.Dred

end
section
/- Dred: plain facts: the closure of edges that come and go. -/
namespace Go.Proofs.Ytnplopiconabiaa.Dred
open Go Go.V
open Go.Proofs.Ytnplopiconabiaa.Span
set_option linter.unusedVariables false
set_option linter.unusedSimpArgs false

def succE (E : List PI) (y : Int) : List Int := (E.filter fun p => decide (p.1 = y)).map (·.2)
theorem mem_succE {E : List PI} {y x : Int} : x ∈ succE E y ↔ ((y, x) : PI) ∈ E := by
  unfold succE
  rw [List.mem_map]
  constructor
  · rintro ⟨p, hp, rfl⟩
    obtain ⟨h1, h2⟩ := List.mem_filter.1 hp
    have h2 : p.1 = y := by simpa using h2
    rw [← h2]; exact h1
  · intro h
    exact ⟨(y, x), List.mem_filter.2 ⟨h, by simp⟩, rfl⟩
abbrev TC (E : List PI) (a b : Int) : Prop := Span.Reach (succE E) a b
/-- S is the closure of E. -/
def IsTC (E S : List PI) : Prop := ∀ p : PI, p ∈ S ↔ TC E p.1 p.2
theorem TC.mono {E E' : List PI} (h : ∀ p ∈ E, p ∈ E') {a b : Int} (hr : TC E a b) : TC E' a b := reach_mono (T := succE E) (T' := succE E') (fun y x hx => mem_succE.2 (h _ (mem_succE.1 hx))) hr
theorem TC.edge {E : List PI} {a b : Int} (h : ((a, b) : PI) ∈ E) : TC E a b := Span.Reach.one (mem_succE.2 h)
theorem IsTC.congr {E E' S : List PI} (h : IsTC E S) (e : ∀ p, p ∈ E ↔ p ∈ E') : IsTC E' S := fun p => (h p).trans ⟨TC.mono fun p hp => (e p).1 hp, TC.mono fun p hp => (e p).2 hp⟩
theorem IsTC.congrS {E S S' : List PI} (h : IsTC E S) (e : ∀ p, p ∈ S ↔ p ∈ S') : IsTC E S' := fun p => (e p).symm.trans (h p)
/-- Who leads to the beginning of p, and whom its end leads to. -/
def Thru (S : List PI) (p q : PI) : Prop := (q.1 = p.1 ∨ ((q.1, p.1) : PI) ∈ S) ∧ (q.2 = p.2 ∨ ((p.2, q.2) : PI) ∈ S)
theorem IsTC.add {E E' S S' : List PI} {p : PI} (h : IsTC E S) (hE : ∀ q, q ∈ E' ↔ q ∈ E ∨ q = p) (hS : ∀ q, q ∈ S' ↔ q ∈ S ∨ Thru S p q) : IsTC E' S' := fun q => by
  have sub : ∀ {a b : Int}, TC E a b → TC E' a b := TC.mono fun q hq => (hE q).2 (.inl hq)
  have hp : TC E' p.1 p.2 := TC.edge ((hE _).2 (.inr rfl))
  rw [hS]
  constructor
  · rintro (hq | ⟨h1, h2⟩)
    · exact sub ((h q).1 hq)
    · have a1 : q.1 = p.1 ∨ TC E' q.1 p.1 := h1.imp id fun h1 => sub ((h _).1 h1)
      have a2 : q.2 = p.2 ∨ TC E' p.2 q.2 := h2.imp id fun h2 => sub ((h _).1 h2)
      have b1 : TC E' q.1 p.2 := by
        rcases a1 with a1 | a1
        · rw [a1]; exact hp
        · exact a1.trans hp
      rcases a2 with a2 | a2
      · rw [a2]; exact b1
      · exact b1.trans a2
  · intro hr
    obtain ⟨a, b⟩ := q
    replace hr : TC E' a b := hr
    show ((a, b) : PI) ∈ S ∨ Thru S p (a, b)
    induction hr with
    | @one b hb =>
      rcases (hE _).1 (mem_succE.1 hb) with h1 | h1
      · exact .inl ((h _).2 (TC.edge h1))
      · exact .inr ⟨.inl (congrArg Prod.fst h1), .inl (congrArg Prod.snd h1)⟩
    | @more b c hab hbc ih =>
      rcases (hE _).1 (mem_succE.1 hbc) with h1 | h1
      · rcases ih with h2 | ⟨h2, h3⟩
        · exact .inl ((h _).2 (((h _).1 h2).trans (TC.edge h1)))
        · refine .inr ⟨h2, .inr ((h _).2 ?_)⟩
          rcases h3 with h3 | h3
          · have h3 : b = p.2 := h3
            rw [← h3]; exact TC.edge h1
          · exact ((h _).1 h3).trans (TC.edge h1)
      · have e1 : b = p.1 := congrArg Prod.fst h1
        have e2 : c = p.2 := congrArg Prod.snd h1
        rcases ih with h2 | ⟨h2, h3⟩
        · exact .inr ⟨.inr (by rw [← e1]; exact h2), .inl e2⟩
        · exact .inr ⟨h2, .inl e2⟩
/-- What doesn't hang on edges that go is still there. -/
theorem IsTC.stay {E E' S l : List PI} (h : IsTC E S) (hE : ∀ q, q ∈ E' ↔ q ∈ E ∧ q ∉ l) {q : PI} (hq : q ∈ S) (hn : ∀ p ∈ l, ¬ Thru S p q) : TC E' q.1 q.2 := by
  have key : ∀ {a b : Int}, TC E a b → (∃ p ∈ l, Thru S p (a, b)) ∨ TC E' a b := fun {a b} hr => by
    induction hr with
    | @one b hb =>
      have hb := mem_succE.1 hb
      by_cases hl : ((a, b) : PI) ∈ l
      · exact .inl ⟨_, hl, .inl rfl, .inl rfl⟩
      · exact .inr (TC.edge ((hE _).2 ⟨hb, hl⟩))
    | @more b c hab hbc ih =>
      have hbc := mem_succE.1 hbc
      rcases ih with ⟨p, hp, h1, h2⟩ | ih
      · refine .inl ⟨p, hp, h1, .inr ((h _).2 ?_)⟩
        rcases h2 with h2 | h2
        · have h2 : b = p.2 := h2
          rw [← h2]; exact TC.edge hbc
        · exact ((h _).1 h2).trans (TC.edge hbc)
      · by_cases hl : ((b, c) : PI) ∈ l
        · exact .inl ⟨_, hl, .inr ((h _).2 hab), .inl rfl⟩
        · exact .inr (Span.Reach.trans ih (TC.edge ((hE _).2 ⟨hbc, hl⟩)))
  rcases key ((h q).1 hq) with ⟨p, hp, h1⟩ | h1
  · exact absurd h1 (hn p hp)
  · exact h1
/-- What an edge and a pair that is there make. -/
def Deriv (E S : List PI) (q : PI) : Prop := q ∈ E ∨ ∃ c, ((q.1, c) : PI) ∈ E ∧ ((c, q.2) : PI) ∈ S
theorem Deriv.sound {E S : List PI} {q : PI} (h : Deriv E S q) (hs : ∀ p ∈ S, TC E p.1 p.2) : TC E q.1 q.2 := by
  rcases h with h | ⟨c, h1, h2⟩
  · exact TC.edge h
  · exact (TC.edge h1).trans (hs _ h2)
/-- Where nothing is derived any more all is there. -/
theorem IsTC.less {E E' S S1 : List PI} (h : IsTC E S) (hE : ∀ q ∈ E', q ∈ E) (hs : ∀ p ∈ S1, TC E' p.1 p.2) (hd : ∀ q ∈ S, q ∉ S1 → ¬ Deriv E' S1 q) : IsTC E' S1 := fun q => by
  refine ⟨hs q, fun hr => ?_⟩
  obtain ⟨a, b⟩ := q
  have hr : TC E' a b := hr
  refine hr.left (fun a => ((a, b) : PI) ∈ S1) (fun x hx => ?_) fun x y hy hin => ?_
  · have hx := mem_succE.1 hx
    apply Classical.byContradiction
    intro hn
    exact hd _ ((h _).2 (TC.edge (hE _ hx))) hn (.inl hx)
  · have hy := mem_succE.1 hy
    apply Classical.byContradiction
    intro hn
    exact hd (x, b) ((h _).2 ((TC.edge (hE _ hy)).trans (TC.mono hE (hs _ hin)))) hn (.inr ⟨y, hy, hin⟩)
/-- Of few edges the closure has few pairs. -/
theorem tc_few {E S : List PI} (h : IsTC E S) (hn : S.Nodup) : S.length ≤ E.length * E.length := clo_few (T := succE E) (i := 0) ⟨fun p hp => (h p).2 (TC.edge hp), fun p hp => (h p).1 hp, hn, fun j q hj => by omega⟩ fun p => mem_succE.symm
end Go.Proofs.Ytnplopiconabiaa.Dred

end
section
/- Dred: a pair is derived; an edge comes. -/
namespace Go.Proofs.Ytnplopiconabiaa.Dred
open Go Go.V
open Go.Proofs.Ytnplopiconabiaa.VC
open Go.Proofs.Ytnplopiconabiaa.Span
open Go.Proofs.Try (prog)
set_option linter.unusedVariables false
set_option linter.unusedSimpArgs false
set_option maxRecDepth 20000

/-- The first i pairs, once each. -/
def dd (L : List PI) : Nat → List PI
  | 0 => []
  | i + 1 => dd L i ++ match L[i]? with
    | some x => if x ∈ dd L i then [] else [x]
    | none => []
def bI (L : List PI) (i : Nat) : Bool := match L[i]? with
  | some x => decide (x ∈ dd L i)
  | none => false
theorem bI_at {L : List PI} {i : Nat} (hi : i < L.length) : bI L i = decide (L[i] ∈ dd L i) := by unfold bI; rw [List.getElem?_eq_getElem hi]
theorem kept_dd (L : List PI) : ∀ i, kept L (bI L) i = dd L i
  | 0 => rfl
  | i + 1 => by
    show kept L (bI L) i ++ _ = dd L i ++ _
    rw [kept_dd L i]
    congr 1
    cases h : L[i]? with
    | none => rfl
    | some x =>
      have : bI L i = decide (x ∈ dd L i) := by unfold bI; rw [h]
      show (if bI L i = true then [] else [x]) = if x ∈ dd L i then [] else [x]
      rw [this]
      by_cases hx : x ∈ dd L i
      · rw [if_pos (decide_eq_true hx), if_pos hx]
      · rw [if_neg (by simpa using hx), if_neg hx]
theorem dd_succ {L : List PI} {i : Nat} (hi : i < L.length) : dd L (i + 1) = dd L i ++ if L[i] ∈ dd L i then [] else [L[i]] := by
  show dd L i ++ _ = _
  rw [List.getElem?_eq_getElem hi]
theorem mem_dd {L : List PI} : ∀ {i : Nat}, i ≤ L.length → ∀ x, x ∈ dd L i ↔ x ∈ L.take i
  | 0, _, x => by simp [dd]
  | i + 1, hi, x => by
    rw [dd_succ (by omega), take_snoc (by omega), List.mem_append, List.mem_append, mem_dd (by omega), List.mem_singleton]
    have hm := mem_dd (L := L) (i := i) (by omega) (L[i]'(by omega))
    by_cases h : L[i]'(by omega) ∈ dd L i
    · rw [if_pos h]
      constructor
      · rintro (h1 | h1)
        · exact .inl h1
        · cases h1
      · rintro (h1 | rfl)
        · exact .inl h1
        · exact .inl (hm.1 h)
    · rw [if_neg h, List.mem_singleton]
theorem nodup_dd {L : List PI} : ∀ {i : Nat}, i ≤ L.length → (dd L i).Nodup
  | 0, _ => by simp [dd]
  | i + 1, hi => by
    rw [dd_succ (by omega)]
    have := nodup_dd (L := L) (i := i) (by omega)
    by_cases h : L[i]'(by omega) ∈ dd L i
    · rw [if_pos h, List.append_nil]; exact this
    · rw [if_neg h, List.nodup_append]
      exact ⟨this, by simp, fun x hx y hy e => h (by rw [← List.mem_singleton.1 hy, ← e]; exact hx)⟩

/-- A dred's memory: its record d, its edges' relation e, its span's relation s. -/
structure DAt (w : World) (d : Nat) (lab : ByteArray) (e s : Nat) (be bs : List Nat) (E S : List PI) : Prop where
  blk : ∃ over : Int, Blk w d [.string lab, ptr e, ptr s, I64 over]
  er : RelAt w e be E
  sr : RelAt w s bs S
  dj : ∀ x ∈ be, x ∉ bs
  de : d ∉ be
  ds : d ∉ bs
section
variable {v w : World} {d e s : Nat} {lab : ByteArray} {be bs : List Nat} {E S : List PI}
theorem DAt.fr {F : List Nat} (h : DAt v d lab e s be bs E S) (f : Fr F v w) (hd : d ∉ F) (he : ∀ x ∈ be, x ∉ F) (hs : ∀ x ∈ bs, x ∉ F) : DAt w d lab e s be bs E S :=
  ⟨h.blk.imp fun _ h => h.fr f hd, h.er.fr f he, h.sr.fr f hs, h.dj, h.de, h.ds⟩
theorem DAt.old (h : DAt v d lab e s be bs E S) (f : Fr [] v w) : DAt w d lab e s be bs E S := h.fr f (by simp) (fun _ _ => by simp) (fun _ _ => by simp)
theorem DAt.dlt (h : DAt w d lab e s be bs E S) : d < w.heap.size := by obtain ⟨_, h⟩ := h.blk; exact h.lt
theorem DAt.c1 (h : DAt w d lab e s be bs E S) : w.cell? (Addr.add ⟨d, 0, none⟩ 1) = some (ptr e) := by obtain ⟨_, h⟩ := h.blk; rw [add_mk, h.cell]; rfl
theorem DAt.c2 (h : DAt w d lab e s be bs E S) : w.cell? (Addr.add ⟨d, 0, none⟩ 2) = some (ptr s) := by obtain ⟨_, h⟩ := h.blk; rw [add_mk, h.cell]; rfl
/-- A block that lies behind all is none of its. -/
theorem DAt.new (h : DAt w d lab e s be bs E S) {k : Nat} (hk : w.heap.size ≤ k) : k ≠ d ∧ k ∉ be ∧ k ∉ bs :=
  ⟨by have := h.dlt; omega, fun hx => by have := h.er.lt k hx; omega, fun hx => by have := h.sr.lt k hx; omega⟩
theorem isT4 (b : Bool) : IsT prog 4 (.bool b) := by
  have e : IsT prog 4 (.bool b) = ∃ b', Value.bool b' = .bool b := by kernel_rfl
  rw [e]; exact ⟨_, rfl⟩
theorem derived_c (h : DAt w d lab e s be bs E S) (q : PI) : Calls prog 82 #[ptr d, .agg #[I64 q.1, I64 q.2]] w fun e' w' => (∃ b, e' = .returned (.bool b) ∧ (b = true ↔ Deriv E S q)) ∧ Fr [] w w' := by
  refine dred_Dred_derived.link fun k1 => ⟨some ⟨e, 0, none⟩, h.c1, fun w3 s3 => ?_⟩
  have n1 := g_new1 s3
  have h3 := h.old s3.fr
  refine (relhas_c h3.er q).mono ?_
  rintro e5 w6 ⟨rfl, f6⟩
  have F6 := s3.fr.trans' f6
  have z6 := f6.size
  have h6 := h3.old f6
  refine ⟨_, rfl, keepF f6 (by simpa using n1.2), bc (fun hin => ⟨⟨true, rfl, fun _ => .inl (of_decide_eq_true hin), fun _ => rfl⟩, F6⟩) fun hnin => ?_⟩
  have hnin := of_decide_eq_false hnin
  obtain ⟨mf, mt, bf, bt, hb, hf, _⟩ := h6.er.ex
  obtain ⟨l, hl, p12, t, hlk, ht, hv, hk, hnd, hkb⟩ := hf.look q.1
  refine ⟨some ⟨e, 0, none⟩, h6.c1, ⟨e, 0, none⟩, rfl, some mf, by rw [add_mk, hb.cell]; rfl, by decide, l, hl, p12, hlk, t, ht, fun w15 k16 s15 it15 => ?_⟩
  have n16 := g_new1 s15
  have h15 := h6.old s15.fr
  have F15 := F6.trans' s15.fr
  have nk := h6.new n16.1
  have nk15 : ∀ {w' : World}, Fr [k16] w15 w' → DAt w' d lab e s be bs E S := fun f => h15.fr f (by simpa using nk.1.symm) (fun x hx hx2 => nk.2.1 (by rw [← List.mem_singleton.1 hx2]; exact hx)) (fun x hx hx2 => nk.2.2 (by rw [← List.mem_singleton.1 hx2]; exact hx))
  have out : ∀ {w' : World}, Fr [k16] w15 w' → Fr [] w w' := fun f => F15.trans f (fun x hx => .inr (by rw [List.mem_singleton.1 hx]; have := F6.size; omega))
  refine ⟨fun m w' => ∃ done, m = rest t done ∧ (∀ c ∈ done, ((c, q.2) : PI) ∉ S) ∧ IterO kenc w' k16 p12 t done ∧ Fr [k16] w15 w', rest t [], ⟨[], rfl, by simp, it15, Fr.refl _ _⟩, ?_⟩
  rintro m w22 ⟨done, rfl, hdone, it22, f22⟩
  refine ⟨p12, t, done, it22, fun y hy => by rw [hv y hy]; exact isT4 true, fun n29 b30 hmem hnd29 w33 is33 it33 cur33 => bT rfl ⟨n29, b30, cur33, ?_⟩, fun hall w49 is49 it49 => bF rfl ⟨⟨false, rfl, ?_⟩, ?_⟩⟩
  · have f33 := f22.trans' is33.fr
    have h33 := nk15 f33
    refine ⟨some ⟨s, 0, none⟩, h33.c2, by decide, fun w40 s40 => (relhas_c (h33.old s40.fr).sr (n29, q.2)).mono ?_⟩
    rintro e42 w43 ⟨rfl, f43⟩
    have f3343 := s40.fr.trans' f43
    have f43' : Fr [k16] w15 w43 := f33.trans f3343 (fun x hx => by cases hx)
    refine ⟨_, rfl, keepF f43 (fun x hx => by rw [List.mem_singleton.1 hx]; have := f33.size; have := s40.fr.size; have := s15.fr.size; omega), bc (fun hin => ⟨⟨true, rfl, fun _ => .inr ⟨n29, (hk n29).1 (List.mem_map.2 ⟨_, hmem, rfl⟩), of_decide_eq_true hin⟩, fun _ => rfl⟩, out f43'⟩) fun hno => ⟨rest t (n29 :: done), rest_lt hmem hnd29, n29 :: done, rfl, fun c hc => ?_, it33.fr f3343 (by simp) (fun _ _ => by simp), f43'⟩⟩
    rcases List.mem_cons.1 hc with rfl | hc
    · exact of_decide_eq_false hno
    · exact hdone c hc
  · constructor
    · intro h; cases h
    · rintro (h1 | ⟨c, h1, h2⟩)
      · exact absurd h1 hnin
      · obtain ⟨y, hy, e1⟩ := List.mem_map.1 ((hk c).2 h1)
        have := hall y hy
        rw [e1] at this
        exact absurd h2 (hdone c this)
  · exact out (f22.trans' is49.fr)
theorem around_few (hS : S.Nodup) (n : Int) : (∀ s : List Int, s.Nodup → (∀ b ∈ s, ((n, b) : PI) ∈ S) → s.length ≤ S.length) ∧ ∀ s : List Int, s.Nodup → (∀ b ∈ s, ((b, n) : PI) ∈ S) → s.length ≤ S.length := by
  refine ⟨fun s hs h => ?_, fun s hs h => ?_⟩
  · have := sub_len (l := s.map fun b => ((n, b) : PI)) (l' := S) (by
      unfold List.Nodup
      rw [List.pairwise_map]
      exact hs.imp fun h e => h (congrArg Prod.snd e)) (fun x hx => by obtain ⟨b, hb, rfl⟩ := List.mem_map.1 hx; exact h b hb)
    simpa using this
  · have := sub_len (l := s.map fun b => ((b, n) : PI)) (l' := S) (by
      unfold List.Nodup
      rw [List.pairwise_map]
      exact hs.imp fun h e => h (congrArg Prod.fst e)) (fun x hx => by obtain ⟨b, hb, rfl⟩ := List.mem_map.1 hx; exact h b hb)
    simpa using this

/-- The pairs of two rows that aren't there. -/
def cross (S : List PI) (A B : List Int) : List PI := A.flatMap fun a => (B.map fun b => ((a, b) : PI)).filter fun q => !decide (q ∈ S)

set_option maxHeartbeats 1000000 in
theorem insert_c (h : DAt w d lab e s be bs E S) (p : PI) (hp : inR p.1 ∧ inR p.2) (hl : S.length ≤ 5000) (hE : E.length ≤ 1000000) :
    Calls prog 59 #[ptr d, .agg #[I64 p.1, I64 p.2]] w fun e' w' => Fr (be ++ bs) w w' ∧ ∃ (p' : Option Addr) (c' : Nat) (F : List PI) (be' bs' : List Nat), e' = .returned (.slice p' F.length c') ∧ OwnZ w' w.heap.size 2 p' F.length c' (pcs F) ∧ F.Nodup ∧ (∀ q, q ∈ F ↔ q ∉ S ∧ Thru S p q) ∧
      DAt w' d lab e s be' bs' (if p ∈ E then E else E ++ [p]) (S ++ F) ∧ Grow w be be' ∧ Grow w bs bs' ∧ F.length ≤ 26000000 ∧ ∀ ad, p' = some ad → ad.block ≠ d ∧ ad.block ∉ be' ∧ ad.block ∉ bs' := by
  refine dred_Dred_insert.link fun k1 k2 => ⟨⟨d, 0, none⟩, rfl, some ⟨e, 0, none⟩, h.c1, fun w5 s5 => ?_⟩
  have n5 := g_new2 s5
  have h5 := h.old s5.fr
  have z5 := s5.fr.size
  refine (relput_c h5.er p hp (by omega)).mono ?_
  rintro e7 w8 ⟨rfl, f8, be', er8, gr8⟩
  have hk1 := h.new n5.2.2.1
  have hk2 := h.new n5.1
  have z8 := f8.size
  have be'_lt := er8.lt
  have beg : Grow w be be' := fun x hx => (gr8 x hx).imp id fun h => by omega
  -- the new blocks of the edges are none of the others
  have hdj8 : ∀ x ∈ be', x ∉ bs := fun x hx hx2 => by
    rcases gr8 x hx with h1 | h1
    · exact h.dj x h1 hx2
    · have := h5.sr.lt x hx2; omega
  have hde8 : d ∉ be' := fun hx => by
    rcases gr8 d hx with h1 | h1
    · exact h.de h1
    · have := h5.dlt; omega
  have h8 : DAt w8 d lab e s be' bs (if p ∈ E then E else E ++ [p]) S := ⟨h5.blk.imp fun _ hb => hb.fr f8 h.de, er8, h5.sr.fr f8 (fun x hx hx2 => h.dj x hx2 hx), hdj8, hde8, h.ds⟩
  have hkeep8 : Keep [k1, k2] w5 w8 := g_keep f8 fun x hx => by
    rcases List.mem_cons.1 hx with rfl | hx
    · exact ⟨n5.2.2.2.1, hk1.2.1⟩
    · rw [List.mem_singleton.1 hx]; exact ⟨n5.2.1, hk2.2.1⟩
  have klt : ∀ {v' : World}, w5.heap.size ≤ v'.heap.size → ∀ x ∈ [k1, k2], x < v'.heap.size := fun hz x hx => by
    rcases List.mem_cons.1 hx with rfl | hx
    · omega
    · rw [List.mem_singleton.1 hx]; omega
  have F8 : Fr be w w8 := s5.fr.mono (G := be) (fun x hx => by cases hx) |>.trans' f8
  generalize (if p ∈ E then E else E ++ [p]) = E' at *
  obtain ⟨mf, mt, bf, bt, hb8, hf8, ht8, _⟩ := h8.sr.ex
  have hrS := h8.sr.rng
  have hnS := h8.sr.nodup
  refine ⟨_, rfl, hkeep8, by decide, ⟨d, 0, none⟩, rfl, some ⟨s, 0, none⟩, h8.c2, ⟨s, 0, none⟩, rfl, some mt, by rw [add_mk, hb8.cell]; rfl, fun w14 s14 => ?_⟩
  have ht14 := ht8.fr s14.fr (by simp) (fun _ _ => by simp)
  refine (around_c ht14 p.1 (around_few hnS p.1).2 (by omega) (fun b hb => (hrS _ hb).1)).mono ?_
  rintro e16 w17 ⟨f17, p18, c20, A, rfl, oA, hA, hAl⟩
  have f817 := s14.fr.trans' f17
  have z14 := s14.fr.size
  have z17 := f17.size
  have h17 := h8.old f817
  refine ⟨p18, _, c20, rfl, keepF f17 (klt (by omega)), ?_⟩
  -- what is new
  refine ⟨fun m pp k c n w' => ∃ (i : Nat) (X : List PI), n = i ∧ i ≤ A.length ∧ m = A.length - i ∧ k = X.length ∧ X.length ≤ i * 5001 ∧ (∀ q : PI, q ∈ X ↔ q ∉ S ∧ q.1 ∈ A.take i ∧ (q.2 = p.2 ∨ ((p.2, q.2) : PI) ∈ S)) ∧ OwnZ w' w17.heap.size 2 pp X.length c (pcs X) ∧ Fr [] w17 w', A.length, ⟨0, [], rfl, by omega, rfl, rfl, by simp, by simp, OwnZ.nil _ _ _, Fr.refl _ _⟩, ?_⟩
  rintro m23 p24 k25 c26 n27 w28 ⟨i, X, rfl, hi, rfl, rfl, hXl, hX, oX, F28⟩
  have hSl := hl
  have hi5001 : i ≤ 5001 := by omega
  have z28 := F28.size
  refine bc (fun hlt => ?_) fun hge => ?_
  · have hlt : (i : Int) < (A.length : Int) := of_decide_eq_true hlt
    have hlt' : i < A.length := by omega
    refine rd I64 (oA.row.old F28) rfl hlt' hlt ?_
    have h28 := h17.old F28
    have hf28 := ((hf8.fr f817 (by simp) (fun _ _ => by simp)).fr F28 (by simp) (fun _ _ => by simp))
    have hb28 := (hb8.fr f817 (by simp)).fr F28 (by simp)
    refine ⟨by decide, ⟨d, 0, none⟩, rfl, some ⟨s, 0, none⟩, h28.c2, ⟨s, 0, none⟩, rfl, some mf, by rw [add_mk, hb28.cell]; rfl, fun w36 s36 => ?_⟩
    refine (around_c (hf28.fr s36.fr (by simp) (fun _ _ => by simp)) p.2 (around_few hnS p.2).1 (by omega) (fun b hb => (hrS _ hb).2)).mono ?_
    rintro e38 w39 ⟨f39, p40, c42, B, rfl, oB, hB, hBl⟩
    have F39 := F28.trans' (s36.fr.trans' f39)
    have f2839 := s36.fr.trans' f39
    have z39 := f2839.size
    have z36 := s36.fr.size
    refine ⟨p40, _, c42, rfl, keepF f39 (klt (by omega)), ?_⟩
    refine ⟨fun m pp k c n w' => ∃ (j : Nat) (Y : List PI), n = j ∧ j ≤ B.length ∧ m = B.length - j ∧ k = Y.length ∧ Y.length ≤ i * 5001 + j ∧ (∀ q : PI, q ∈ Y ↔ q ∉ S ∧ ((q.1 ∈ A.take i ∧ (q.2 = p.2 ∨ ((p.2, q.2) : PI) ∈ S)) ∨ (q.1 = A[i] ∧ q.2 ∈ B.take j))) ∧ OwnZ w' w17.heap.size 2 pp Y.length c (pcs Y) ∧ Fr [] w17 w' ∧ Fr (pb p24) w39 w' ∧ Row w' p40 (B.map I64) ∧ (∀ ad, pp = some ad → p24 = some ad ∨ w39.heap.size ≤ ad.block), B.length, ⟨0, X, rfl, by omega, rfl, rfl, by omega, by simpa using hX, oX.fr f2839 (fun _ _ => by simp), F39, Fr.refl _ _, oB.row, fun ad hp => .inl hp⟩, ?_⟩
    rintro m45 p46 k47 c48 n49 w50 ⟨j, Y, rfl, hj, rfl, rfl, hYl, hY, oY, F50, G50, rB, d50⟩
    have hnp : ∀ ad, p40 = some ad → ∀ ad', p46 = some ad' → ad'.block ≠ ad.block := fun ad h1 ad' h2 e => by
      have h3 := (oB.lt h1)
      rcases d50 ad' h2 with h4 | h4
      · have := (oX.lt h4).2; omega
      · omega
    refine bc (fun hlt2 => ?_) fun hge2 => ?_
    · have hlt2 : (j : Int) < (B.length : Int) := of_decide_eq_true hlt2
      have hlt2' : j < B.length := by omega
      intro y52 h52
      have h50 := h17.old F50
      refine rd I64 rB rfl hlt2' hlt2 ⟨⟨d, 0, none⟩, rfl, some ⟨s, 0, none⟩, h50.c2, ?_⟩
      have z50 := F50.size
      refine (relhas_c h50.sr (A[i], B[j])).mono ?_
      rintro e64 w65 ⟨rfl, f65⟩
      have z65 := f65.size
      have es : IntKind.wrap .i64 ((j : Int) + 1) = ((j + 1 : Nat) : Int) := by rw [wrapi (by omega) (by omega)]; simp
      rw [es] at h52
      refine ⟨_, rfl, keepF f65 (klt (by omega)), bc (fun hno k67 => ?_) fun hyes => ?_⟩
      · have hno : ((A[i], B[j]) : PI) ∉ S := by simpa using hno
        refine app1 (f := pcell) flatP (x := (A[i], B[j])) (u := w17) (B := w17.heap.size) (oY.fr f65 (fun _ _ => by simp)) (F50.trans' f65) rfl (Nat.le_refl _) (F50.trans' f65).size (fun h => by cases h) (by simp) (fun ad hp x hx => ?_) (by omega) (by omega) fun w68 p69 c71 F68 G68 n68 o68 d68 => ?_
        · have h1 := (oY.lt hp).1
          rcases List.mem_cons.1 hx with rfl | hx
          · exact .inr (by omega)
          · rcases List.mem_cons.1 hx with rfl | hx
            · exact .inr (by omega)
            · exact .inl hx
        · refine h52 _ _ _ _ ⟨B.length - (j + 1), by omega, j + 1, Y ++ [(A[i], B[j])], rfl, by omega, rfl, rfl, by simp; omega, fun q => ?_, o68, F68, ?_, row_fr0 G68 (rB.old f65) (fun ad hp _ hx => ?_), fun ad hp => ?_⟩
          · rw [List.mem_append, List.mem_singleton, hY, take_snoc hlt2', List.mem_append, List.mem_singleton]
            constructor
            · rintro (⟨h1, h2 | ⟨h2, h3⟩⟩ | rfl)
              · exact ⟨h1, .inl h2⟩
              · exact ⟨h1, .inr ⟨h2, .inl h3⟩⟩
              · exact ⟨hno, .inr ⟨rfl, .inr rfl⟩⟩
            · rintro ⟨h1, h2 | ⟨h2, h3 | h3⟩⟩
              · exact .inl ⟨h1, .inl h2⟩
              · exact .inl ⟨h1, .inr ⟨h2, h3⟩⟩
              · exact .inr (Prod.ext h2 h3)
          · refine (G50.trans f65 (fun x hx => by cases hx)).trans G68 (fun x hx => ?_)
            rw [List.nil_append] at hx
            obtain ⟨ad, hp, rfl⟩ := (g_mem_pb _ _).1 hx
            rcases d50 ad hp with h1 | h1
            · exact .inl ((g_mem_pb _ _).2 ⟨ad, h1, rfl⟩)
            · exact .inr h1
          · rw [List.nil_append] at hx
            obtain ⟨ad', hp', e⟩ := (g_mem_pb _ _).1 hx
            exact hnp ad hp ad' hp' e
          · rcases d68 ad hp with h1 | h1
            · exact d50 ad h1
            · have := G50.size; exact .inr (by omega)
      · have hyes : ((A[i], B[j]) : PI) ∈ S := by simpa using hyes
        refine h52 _ _ _ _ ⟨B.length - (j + 1), by omega, j + 1, Y, rfl, by omega, rfl, rfl, by omega, fun q => ?_, oY.fr f65 (fun _ _ => by simp), F50.trans' f65, G50.trans f65 (fun x hx => by cases hx), rB.old f65, d50⟩
        rw [hY, take_snoc hlt2', List.mem_append, List.mem_singleton]
        constructor
        · rintro ⟨h1, h2 | ⟨h2, h3⟩⟩
          · exact ⟨h1, .inl h2⟩
          · exact ⟨h1, .inr ⟨h2, .inl h3⟩⟩
        · rintro ⟨h1, h2 | ⟨h2, h3 | h3⟩⟩
          · exact ⟨h1, .inl h2⟩
          · exact ⟨h1, .inr ⟨h2, h3⟩⟩
          · exact absurd (by rw [show q = (A[i], B[j]) from Prod.ext h2 h3]; exact hyes) h1
    · have hge2 : ¬ (j : Int) < (B.length : Int) := of_decide_eq_false hge2
      rw [List.take_of_length_le (show B.length ≤ j by omega)] at hY
      refine ⟨A.length - (i + 1), by omega, i + 1, Y, by rw [wrapi (by omega) (by omega)]; simp, by omega, rfl, rfl, by omega, fun q => ?_, oY, F50⟩
      rw [hY, take_snoc hlt', List.mem_append, List.mem_singleton, hB]
      constructor
      · rintro ⟨h1, ⟨h2, h3⟩ | ⟨h2, h3⟩⟩
        · exact ⟨h1, .inl h2, h3⟩
        · exact ⟨h1, .inr h2, h3⟩
      · rintro ⟨h1, h2 | h2, h3⟩
        · exact ⟨h1, .inl ⟨h2, h3⟩⟩
        · exact ⟨h1, .inr ⟨h2, h3⟩⟩
  have hge : ¬ (i : Int) < (A.length : Int) := of_decide_eq_false hge
  rw [List.take_of_length_le (show A.length ≤ i by omega)] at hX
  have hXl2 : X.length ≤ 25010001 := by omega
  have h28 := h17.old F28
  intro bk1
  have hXn : ∀ q ∈ X, q ∉ S := fun q hq => ((hX q).1 hq).1
  -- put, one behind the other
  have low24 : ∀ ad, p24 = some ad → w17.heap.size ≤ ad.block ∧ ad.block < w28.heap.size := fun ad hp => oX.lt hp
  have hk1' : k1 ≠ d ∧ k1 ∉ be' ∧ k1 ∉ bs := ⟨hk1.1, fun hx => by
    have hx2 : k1 < w5.heap.size := n5.2.2.2.1
    rcases gr8 k1 hx with h1 | h1
    · exact hk1.2.1 h1
    · omega, hk1.2.2⟩
  have out24 : ∀ ad, p24 = some ad → ad.block ≠ d ∧ ad.block ∉ be' ∧ ad.block ∉ bs := fun ad hp => h17.new (low24 ad hp).1
  have J0 : ∃ bs', DAt w28 d lab e s be' bs' E' (S ++ dd X 0) ∧ Grow w28 bs bs' ∧ Blk w28 k1 [ptr d] ∧ w28.heap.size ≤ w28.heap.size ∧ Fr (bs ++ pb p24) w28 w28 := ⟨bs, by simpa [dd] using h28, Grow.refl _ _, bk1, Nat.le_refl _, Fr.refl _ _⟩
  have hJ : ∀ (i : Nat) (w' w'' : World), (∃ bs', DAt w' d lab e s be' bs' E' (S ++ dd X i) ∧ Grow w28 bs bs' ∧ Blk w' k1 [ptr d] ∧ w28.heap.size ≤ w'.heap.size ∧ Fr (bs ++ pb p24) w28 w') → Fr (pb p24) w' w'' → ∃ bs', DAt w'' d lab e s be' bs' E' (S ++ dd X i) ∧ Grow w28 bs bs' ∧ Blk w'' k1 [ptr d] ∧ w28.heap.size ≤ w''.heap.size ∧ Fr (bs ++ pb p24) w28 w'' := by
    rintro i w' w'' ⟨bs', hd, hg, hb, hz, hf⟩ f
    have ho : ∀ x ∈ pb p24, x ≠ d ∧ x ∉ be' ∧ x ∉ bs' ∧ x ≠ k1 := fun x hx => by
      obtain ⟨ad, hp, rfl⟩ := (g_mem_pb _ _).1 hx
      have h1 := out24 ad hp
      have h2 := low24 ad hp
      refine ⟨h1.1, h1.2.1, fun h3 => ?_, by omega⟩
      rcases hg _ h3 with h4 | h4
      · exact h1.2.2 h4
      · omega
    exact ⟨bs', hd.fr f (fun hx => (ho _ hx).1 rfl) (fun x hx hx2 => (ho x hx2).2.1 hx) (fun x hx hx2 => (ho x hx2).2.2.1 hx), hg, hb.fr f (fun hx => (ho _ hx).2.2.2 rfl), by have := f.size; omega, hf.trans f (fun x hx => .inl (List.mem_append_right _ hx))⟩
  have steps : StepsF 84 (.pointer (some ⟨k1, 0, none⟩)) X (bI X) (fun i w' => ∃ bs', DAt w' d lab e s be' bs' E' (S ++ dd X i) ∧ Grow w28 bs bs' ∧ Blk w' k1 [ptr d] ∧ w28.heap.size ≤ w'.heap.size ∧ Fr (bs ++ pb p24) w28 w') p24 := by
    rintro i hi w0 w' ⟨bs', hd, hg, hb, hz, hf⟩ f'
    have hd' := hd.old f'
    have hb' := hb.fr f' (by simp)
    refine dred_Dred_insert_1.link fun k1' => ⟨some ⟨d, 0, none⟩, by rw [hb'.cell]; rfl, ⟨d, 0, none⟩, rfl, some ⟨s, 0, none⟩, hd'.c2, fun w5' s5' => ?_⟩
    have n5' := g_new1 s5'
    have hd5 := hd'.old s5'.fr
    have hddl : (dd X i).length ≤ i := by rw [← kept_dd]; exact kept_len _ _ _
    have hrx : inR X[i].1 ∧ inR X[i].2 := by
      obtain ⟨_, h1, h2⟩ := (hX X[i]).1 (List.getElem_mem hi)
      rw [hA] at h1
      refine ⟨?_, ?_⟩
      · rcases h1 with h1 | h1
        · rw [h1]; exact hp.1
        · exact (hrS _ h1).1
      · rcases h2 with h2 | h2
        · rw [h2]; exact hp.2
        · exact (hrS _ h2).2
    refine (relput_c hd5.sr X[i] hrx (by rw [List.length_append]; omega)).mono ?_
    rintro e7' w8' ⟨rfl, f8', bs2, sr2, g2⟩
    have z5' := s5'.fr.size
    have z' := f'.size
    have hbslt : ∀ x ∈ bs', x < w0.heap.size := hd.sr.lt
    have hiff : (X[i] ∈ S ++ dd X i) ↔ X[i] ∈ dd X i := by
      rw [List.mem_append]
      exact ⟨fun h => h.elim (fun h => absurd h (hXn _ (List.getElem_mem hi))) id, .inr⟩
    have hk1bs : k1 ∉ bs' := fun hx => by
      rcases hg _ hx with h4 | h4
      · exact hk1'.2.2 h4
      · have := n5.2.2.2.1; omega
    have hdbs : d ∉ bs' := hd.ds
    refine ⟨_, rfl, g_keep f8' (fun x hx => by rw [List.mem_singleton.1 hx]; exact ⟨n5'.2, fun hx2 => by have := hbslt _ hx2; omega⟩), ?_, ⟨bs2, ⟨hd5.blk.imp fun _ hb => hb.fr f8' hdbs, hd5.er.fr f8' (fun x hx hx2 => hd.dj x hx hx2), ?_, fun x hx hx2 => ?_, hd.de, fun hx => ?_⟩, ?_, ?_, ?_, ?_⟩, bs', (s5'.fr.mono (G := bs') (fun x hx => (by cases hx))).trans' f8', fun x hx => ⟨hbslt x hx, fun ad hp e => ?_⟩⟩
    · rw [bI_at hi, Bool.not_not]
      congr 2
      exact decide_eq_decide.2 hiff
    · rw [dd_succ hi]
      by_cases hin : X[i] ∈ dd X i
      · rw [if_pos (hiff.2 hin)] at sr2
        rw [if_pos hin, List.append_nil]; exact sr2
      · rw [if_neg (fun h => hin (hiff.1 h))] at sr2
        rw [if_neg hin, ← List.append_assoc]; exact sr2
    · rcases g2 x hx2 with h1 | h1
      · exact hd.dj x hx h1
      · have := hd5.er.lt x hx; omega
    · rcases g2 d hx with h1 | h1
      · exact hdbs h1
      · have := hd5.dlt; omega
    · exact hg.trans (by omega) (fun x hx => (g2 x hx).imp id fun h => (by omega : w0.heap.size ≤ x))
    · exact (hb'.fr s5'.fr (by simp)).fr f8' hk1bs
    · have := f8'.size; omega
    · exact ((hf.trans f' (fun x hx => by cases hx)).trans s5'.fr (fun x hx => by cases hx)).trans f8' (fun x hx => (hg x hx).imp (fun h => List.mem_append_left _ h) id)
    · have h1 := out24 ad hp
      have h2 := low24 ad hp
      rw [← e] at hx
      rcases hg _ hx with h4 | h4
      · exact h1.2.2 h4
      · omega
  refine (deleteF_c oX (by omega) dred_Dred_insert_1.body steps J0 hJ).mono ?_
  rintro e74 w75 ⟨c', rfl, o75, ⟨bs', hd75, hg75, hb75, hz75, hf75⟩, _⟩
  rw [kept_dd] at o75 ⊢
  have hk2F : k2 ∉ bs ++ pb p24 := fun hx => by
    rcases List.mem_append.1 hx with hx | hx
    · exact hk2.2.2 hx
    · obtain ⟨ad, hp, e⟩ := (g_mem_pb _ _).1 hx
      have := (low24 ad hp).1
      have := n5.2.1
      omega
  have hmem : ∀ q, q ∈ dd X X.length ↔ q ∉ S ∧ Thru S p q := fun q => by
    rw [mem_dd (Nat.le_refl _), List.take_length, hX, hA]
    rfl
  refine ⟨_, _, _, rfl, g_keep hf75 (fun x hx => by rw [List.mem_singleton.1 hx]; exact ⟨by have := n5.2.1; omega, hk2F⟩), ?_, p24, c', dd X X.length, be', bs', rfl, o75.mono (by omega), nodup_dd (Nat.le_refl _), hmem, hd75, beg, fun x hx => (hg75 x hx).imp id fun h => (by omega), ?_, fun ad hp => ⟨(out24 ad hp).1, (out24 ad hp).2.1, fun hx => ?_⟩⟩
  · refine ((F8.mono (G := be ++ bs) fun x hx => .inl (List.mem_append_left _ hx)).trans (f817.trans' F28) (fun x hx => by cases hx)).trans hf75 (fun x hx => ?_)
    rcases List.mem_append.1 hx with hx | hx
    · exact .inl (List.mem_append_right _ hx)
    · obtain ⟨ad, hp, rfl⟩ := (g_mem_pb _ _).1 hx
      have := (low24 ad hp).1
      exact .inr (by omega)
  · have : (dd X X.length).length ≤ X.length := by rw [← kept_dd]; exact kept_len _ _ _
    omega
  · rcases hg75 _ hx with h4 | h4
    · exact (out24 ad hp).2.2 h4
    · have := (low24 ad hp).2; omega
end
end Go.Proofs.Ytnplopiconabiaa.Dred

end
