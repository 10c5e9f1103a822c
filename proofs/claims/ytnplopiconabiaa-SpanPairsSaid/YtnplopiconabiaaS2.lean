/- Span: the map from each node to those behind it. -/
import Derived.Test.YtnplopiconabiaaS1
import Derived.Test.YtnplopiconabiaaU9
import Derived.Test.YtnplopiconabiaaC2
namespace Go.Proofs.Ytnplopiconabiaa.Span
open Go Go.V
open Go.Proofs.Ytnplopiconabiaa.VC
open Go.Proofs.Try (prog)
set_option linter.unusedVariables false
set_option linter.unusedSimpArgs false
set_option maxRecDepth 20000

abbrev kenc : Int → Value := Value.int .i64
structure EG where
  f : Int
  l : ByteArray
  t : Int
def gcell (e : EG) : List Value := [I64 e.f, .string e.l, I64 e.t]
theorem flatG : Flat gcell 3 := ⟨fun _ => rfl, fun a u hu => by simp [gcell] at hu; rcases hu with rfl | rfl | rfl <;> rfl⟩
def tgt (E : List EG) (lab : ByteArray) (n : Int) : List Int := (E.filter fun e => decide (e.l = lab) && decide (e.f = n)).map (·.t)
def succs (E : List EG) (lab : ByteArray) (n : Int) : List Int := comp (sortI (tgt E lab n))
theorem tgt_len (E : List EG) (lab : ByteArray) (n : Int) : (tgt E lab n).length ≤ E.length := by
  unfold tgt; rw [List.length_map]; exact List.length_filter_le _ _
theorem comp_nil {l : List Int} (h : l ≠ []) : comp l ≠ [] := by
  intro e
  unfold comp Lib.compact Lib.compactUpTo at e
  have h0 : 0 ∈ (List.range l.length).filter (Lib.keeps l.toArray) := List.mem_filter.2 ⟨List.mem_range.2 (List.length_pos_iff.2 h), Lib.keeps_lt_one _ 0 (by omega)⟩
  rw [List.map_eq_nil_iff] at e
  rw [e] at h0; cases h0
theorem sortI_nil {l : List Int} (h : l ≠ []) : sortI l ≠ [] := fun e => h (by have := (sortI_perm l).length_eq; rw [e] at this; exact List.length_eq_zero_iff.1 this.symm)
theorem succs_nil {E : List EG} {lab : ByteArray} {n : Int} (h : tgt E lab n = []) : succs E lab n = [] := by
  unfold succs; rw [h]; simp [sortI, comp, Lib.compact, Lib.compactUpTo]
def ne2 (p q : Option Addr) : Prop := ∀ ad, p = some ad → ∀ ad', q = some ad' → ad'.block ≠ ad.block
theorem ne2.symm {p q : Option Addr} (h : ne2 p q) : ne2 q p := fun a ha a' ha' e => h a' ha' a ha e.symm

theorem mem_updM2 {l : List (Int × Value)} (hn : (l.map (·.1)).Nodup) {a : Int} {y : Value} {e : Int × Value} (h : e ∈ updM l a y) : e = (a, y) ∨ (e ∈ l ∧ e.1 ≠ a) := by
  have h1 := look_of_mem (nodup_updM hn a y) (k := e.1) (x := e.2) h
  rw [look_updM] at h1
  by_cases he : e.1 = a
  · rw [if_pos he] at h1
    injection h1 with h1
    exact .inl (by rw [← he, h1])
  · rw [if_neg he] at h1
    exact .inr ⟨look_mem h1, he⟩
theorem key_updM {l : List (Int × Value)} {a : Int} {y : Value} {n : Int} : n ∈ (updM l a y).map (·.1) ↔ n = a ∨ n ∈ l.map (·.1) := by
  induction l with
  | nil => simp [updM]
  | cons p l ih =>
    obtain ⟨k, v⟩ := p
    simp only [updM]
    by_cases h : a = k
    · subst h; rw [if_pos rfl]; simp
    · rw [if_neg h, List.map_cons, List.mem_cons, ih, List.map_cons, List.mem_cons]
      constructor
      · rintro (h | h | h)
        · exact .inr (.inl h)
        · exact .inl h
        · exact .inr (.inr h)
      · rintro (h | h | h)
        · exact .inr (.inl h)
        · exact .inl h
        · exact .inr (.inr h)

/-- A map's entries: each node that has some behind it has a row of its own of these. -/
structure EntOk (w : World) (B : Nat) (T : Int → List Int) (l : List (Int × Value)) : Prop where
  ent : ∀ e ∈ l, ∃ p c, e.2 = .slice p (T e.1).length c ∧ OwnP w B 1 p (T e.1).length c ((T e.1).map I64) ∧ T e.1 ≠ []
  all : ∀ n, T n ≠ [] → n ∈ l.map (·.1)
  sep : ∀ e ∈ l, ∀ e' ∈ l, e.1 ≠ e'.1 → ∀ p k c p' k' c', e.2 = .slice p k c → e'.2 = .slice p' k' c' → ne2 p p'
theorem EntOk.nil (w : World) (B : Nat) : EntOk w B (fun _ => []) [] := ⟨fun e h => (by cases h), fun n h => absurd rfl h, fun e h => (by cases h)⟩
theorem EntOk.fr {F : List Nat} {v w : World} {B : Nat} {T : Int → List Int} {l : List (Int × Value)} (h : EntOk v B T l) (hf : Fr F v w) (hn : ∀ b cs, Blk v b cs → b ∉ F) : EntOk w B T l :=
  ⟨fun e he => by
    obtain ⟨p, c, h1, h2, h3⟩ := h.ent e he
    refine ⟨p, c, h1, h2.fr hf fun ad hp => ?_, h3⟩
    obtain ⟨_, _, _, h4⟩ := h2.1
    rcases h4 with ⟨e4, _⟩ | ⟨b, zs, e4, _, hb, _⟩
    · rw [e4] at hp; cases hp
    · rw [e4] at hp; injection hp with hp; subst hp; exact hn _ _ hb, h.all, h.sep⟩
theorem own_blk {w : World} {B l c : Nat} {p : Option Addr} {xs : List Value} (h : OwnP w B 1 p l c xs) {ad : Addr} (hp : p = some ad) : ∃ cs, Blk w ad.block cs := by
  obtain ⟨_, _, _, h4⟩ := h.1
  rcases h4 with ⟨e4, _⟩ | ⟨b, zs, e4, _, hb, _⟩
  · rw [e4] at hp; cases hp
  · rw [e4] at hp; injection hp with hp; subst hp; exact ⟨_, hb⟩
theorem EntOk.look {w : World} {B : Nat} {T : Int → List Int} {l : List (Int × Value)} (h : EntOk w B T l) (n : Int) : ∃ p c b, LookRel l n (.slice none 0 0) (.slice p (T n).length c) b ∧ OwnP w B 1 p (T n).length c ((T n).map I64) ∧ (V.look l n = some (.slice p (T n).length c) ∨ (V.look l n = none ∧ p = none)) := by
  cases hl : V.look l n with
  | some y =>
    obtain ⟨p, c, h1, h2, h3⟩ := h.ent (n, y) (look_mem hl)
    have h1 : y = .slice p (T n).length c := h1
    subst h1
    exact ⟨p, c, true, .inl ⟨rfl, hl⟩, h2, .inl rfl⟩
  | none =>
    have hT : T n = [] := by
      cases ht : T n with
      | nil => rfl
      | cons a r =>
        obtain ⟨e, he, e1⟩ := List.mem_map.1 (h.all n (by rw [ht]; simp))
        exfalso
        have : ∀ (l : List (Int × Value)) (n : Int), V.look l n = none → n ∉ l.map (·.1) := by
          intro l n
          induction l with
          | nil => simp
          | cons q l ih =>
            obtain ⟨k, x⟩ := q
            simp only [V.look]
            split
            · intro h; cases h
            · rename_i hk
              intro h
              simp only [List.map_cons, List.mem_cons]
              rintro (e | e)
              · exact hk e
              · exact ih h e
        exact this l n hl (h.all n (by rw [ht]; simp))
    rw [hT]
    exact ⟨none, 0, false, .inr ⟨rfl, hl, rfl⟩, OwnP.nil _ _ _, .inr ⟨rfl, rfl⟩⟩
theorem EntOk.set {F : List Nat} {v w : World} {B : Nat} {T : Int → List Int} {l : List (Int × Value)} (h : EntOk v B T l) (hn : (l.map (·.1)).Nodup) (hf : Fr F v w) {n : Int} {p0 : Option Addr} {k0 c0 : Nat} (hold : V.look l n = some (.slice p0 k0 c0) ∨ (V.look l n = none ∧ p0 = none))
    (hF : ∀ x ∈ F, (∃ ad, p0 = some ad ∧ ad.block = x) ∨ (∀ cs, ¬ Blk v x cs) ∨ v.heap.size ≤ x) {xs : List Int} {p' : Option Addr} {c' : Nat} (o : OwnP w B 1 p' xs.length c' (xs.map I64)) (hx : xs ≠ []) (hd : ∀ ad, p' = some ad → p0 = some ad ∨ v.heap.size ≤ ad.block) :
    EntOk w B (fun m => if m = n then xs else T m) (updM l n (.slice p' xs.length c')) := by
  -- another entry's row stays
  have other : ∀ e ∈ l, e.1 ≠ n → ∀ p k c, e.2 = .slice p k c → ne2 p p0 := fun e he hne p k c hp => by
    rcases hold with h1 | ⟨_, h1⟩
    · exact h.sep e he (n, .slice p0 k0 c0) (look_mem h1) hne p k c p0 k0 c0 hp rfl
    · intro a _ a' ha'; rw [h1] at ha'; cases ha'
  refine ⟨fun e he => ?_, fun m hm => ?_, fun e he e' he' hne p k c p1 k1 c1 hp hp1 => ?_⟩
  · rcases mem_updM2 hn he with rfl | ⟨he, hne⟩
    · simp only [if_true]
      exact ⟨p', c', rfl, o, hx⟩
    · simp only [if_neg hne]
      obtain ⟨p, c, h1, h2, h3⟩ := h.ent e he
      refine ⟨p, c, h1, h2.fr hf fun ad hp hm => ?_, h3⟩
      rcases hF _ hm with ⟨a, ha, e1⟩ | h4 | h4
      · exact other e he hne _ _ _ h1 ad hp a ha e1
      · obtain ⟨cs, hb⟩ := own_blk h2 hp
        exact h4 cs hb
      · have := (h2.1.lt hp).2; omega
  · rw [key_updM]
    by_cases e : m = n
    · exact .inl e
    · simp only [if_neg e] at hm
      exact .inr (h.all m hm)
  · have low : ∀ e ∈ l, ∀ p k c, e.2 = .slice p k c → ∀ ad, p = some ad → ad.block < v.heap.size := fun e he p k c hp ad hpa => by
      obtain ⟨p2, c2, h1, h2, _⟩ := h.ent e he
      rw [hp] at h1; injection h1 with h1; subst h1
      exact (h2.1.lt hpa).2
    have new : ∀ e ∈ l, e.1 ≠ n → ∀ p k c, e.2 = .slice p k c → ne2 p p' := fun e he hne p k c hp a ha a' ha' => by
      rcases hd a' ha' with h1 | h1
      · exact other e he hne p k c hp a ha a' h1
      · have := low e he p k c hp a ha; omega
    rcases mem_updM2 hn he with rfl | ⟨he, hne1⟩
    · rcases mem_updM2 hn he' with rfl | ⟨he', hne2⟩
      · exact absurd rfl hne
      · have hp : Value.slice p' xs.length c' = .slice p k c := hp
        injection hp with hp; subst hp
        exact (new e' he' hne2 p1 k1 c1 hp1).symm
    · rcases mem_updM2 hn he' with rfl | ⟨he', hne2⟩
      · have hp1 : Value.slice p' xs.length c' = .slice p1 k1 c1 := hp1
        injection hp1 with hp1; subst hp1
        exact new e he hne1 p k c hp
      · exact h.sep e he e' he' hne p k c p1 k1 c1 hp hp1
theorem EntOk.congr {w : World} {B : Nat} {T T' : Int → List Int} {l : List (Int × Value)} (h : EntOk w B T l) (h1 : ∀ n ∈ l.map (·.1), T' n = T n) (h2 : ∀ n, T' n ≠ [] → n ∈ l.map (·.1)) : EntOk w B T' l :=
  ⟨fun e he => by
    rw [h1 e.1 (List.mem_map.2 ⟨e, he, rfl⟩)]; exact h.ent e he, h2, h.sep⟩
theorem map_blk {w : World} {m b : Nat} {l : List (Int × Value)} {cs : List Value} (h : MapG kenc w m l) (hb : Blk w b cs) : b ≠ m := fun e => map_ne_blk h hb e.symm
theorem iter_blk {w : World} {r m b : Nat} {l : List (Int × Value)} {d : List Int} {cs : List Value} (h : IterO kenc w r (some m) l d) (hb : Blk w b cs) : b ≠ r := fun e => by
  obtain ⟨es, clock, since, seen, last, hr, _⟩ := h
  obtain ⟨T, lo, hi, hb, _⟩ := hb
  rw [e, hr] at hb; injection hb with hb; cases hb
theorem rest_keys (l l' : List (Int × Value)) (h : l.map (·.1) = l'.map (·.1)) (d : List Int) : rest l d = rest l' d := by
  have e : ∀ l : List (Int × Value), rest l d = ((l.map (·.1)).filter fun n => !(decide (n ∈ d))).length := fun l => by
    unfold rest; rw [List.filter_map, List.length_map]; rfl
  rw [e, e, h]
end Go.Proofs.Ytnplopiconabiaa.Span
