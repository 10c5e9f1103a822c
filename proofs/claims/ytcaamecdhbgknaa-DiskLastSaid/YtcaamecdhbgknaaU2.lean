/- Maps and rows of bytes. -/
import Derived.Test.YtcaamecdhbgknaaU1
namespace Go.V
open Go.RowKit
set_option linter.unusedVariables false
set_option linter.unusedSimpArgs false
section
variable {κ : Type} [DecidableEq κ]
theorem look_updM (l : List (κ × Value)) (a k : κ) (y : Value) : V.look (updM l a y) k = if k = a then some y else V.look l k := by
  induction l with
  | nil =>
    by_cases h : k = a
    · subst h; simp [updM, V.look]
    · simp [updM, V.look, h]
  | cons p l ih =>
    obtain ⟨q, x⟩ := p
    simp only [updM]
    by_cases hq : a = q
    · subst hq
      by_cases h : k = a
      · subst h; simp [V.look]
      · simp [V.look, h]
    · rw [if_neg hq]
      simp only [V.look]
      by_cases h : k = q
      · subst h
        rw [if_pos rfl, if_neg (fun e => hq e.symm), if_pos rfl]
      · rw [if_neg h, ih, if_neg h]
theorem mem_updM {l : List (κ × Value)} {a : κ} {y : Value} {p : κ × Value} (h : p ∈ updM l a y) : p = (a, y) ∨ p ∈ l := by
  induction l with
  | nil => simpa [updM] using h
  | cons q l ih =>
    obtain ⟨q, x⟩ := q
    simp only [updM] at h
    split at h
    · rcases List.mem_cons.1 h with e | e
      · exact .inl e
      · exact .inr (List.mem_cons_of_mem _ e)
    · rcases List.mem_cons.1 h with e | e
      · exact .inr (by rw [e]; exact List.mem_cons_self)
      · rcases ih e with e | e
        · exact .inl e
        · exact .inr (List.mem_cons_of_mem _ e)
theorem look_mem {l : List (κ × Value)} {k : κ} {x : Value} (h : V.look l k = some x) : (k, x) ∈ l := by
  induction l with
  | nil => simp [V.look] at h
  | cons q l ih =>
    obtain ⟨q, y⟩ := q
    simp only [V.look] at h
    split at h
    · rename_i e; subst e; injection h with h; subst h; exact List.mem_cons_self
    · exact List.mem_cons_of_mem _ (ih h)
theorem look_none {l : List (κ × Value)} {k : κ} (h : ∀ p ∈ l, p.1 ≠ k) : V.look l k = none := by
  induction l with
  | nil => rfl
  | cons q l ih =>
    obtain ⟨q, y⟩ := q
    simp only [V.look]
    rw [if_neg (fun e => h (q, y) List.mem_cons_self e.symm)]
    exact ih fun p hp => h p (List.mem_cons_of_mem _ hp)
theorem look_of_mem {l : List (κ × Value)} (hn : (l.map (·.1)).Nodup) {k : κ} {x : Value} (h : (k, x) ∈ l) : V.look l k = some x := by
  induction l with
  | nil => cases h
  | cons q l ih =>
    obtain ⟨q, y⟩ := q
    simp only [V.look]
    rcases List.mem_cons.1 h with e | e
    · injection e with e1 e2; subst e1; subst e2; rw [if_pos rfl]
    · have hn := List.nodup_cons.1 hn
      have : k ≠ q := fun e2 => hn.1 (by rw [← e2]; exact List.mem_map.2 ⟨_, e, rfl⟩)
      rw [if_neg this]
      exact ih hn.2 e
end

theorem MapG.nodup {κ : Type} {enc : κ → Value} {w : World} {m : Nat} {l : List (κ × Value)} (h : MapG enc w m l) : (l.map (·.1)).Nodup := by
  obtain ⟨es, clock, _, _, _, _, hn⟩ := h
  exact hn
section
variable {κ : Type} [DecidableEq κ] {enc : κ → Value}
theorem IterO.fr {F : List Nat} {v w : World} {r : Nat} {m : Option Nat} {l : List (κ × Value)} {done : List κ} (h : IterO enc v r m l done) (hf : Fr F v w) (hr : r ∉ F) (hm : ∀ b, m = some b → b ∉ F) : IterO enc w r m l done := by
  cases m with
  | none =>
    obtain ⟨h1, since, seen, last, h2⟩ := h
    exact ⟨h1, since, seen, last, hf.get h2 hr⟩
  | some m =>
    obtain ⟨es, clock, since, seen, last, h1, h2, h3⟩ := h
    exact ⟨es, clock, since, seen, last, hf.get h1 hr, hf.get h2 (hm m rfl), h3⟩
/-- How many keys are still to come. -/
def rest (l : List (κ × Value)) (done : List κ) : Nat := (l.filter fun p => !(decide (p.1 ∈ done))).length
theorem rest_lt {l : List (κ × Value)} {done : List κ} {k : κ} {x : Value} (h : (k, x) ∈ l) (hn : k ∉ done) : rest l (k :: done) < rest l done := by
  unfold rest
  have e : (l.filter fun p => !(decide (p.1 ∈ k :: done))) = (l.filter fun p => !(decide (p.1 ∈ done))).filter fun p => !(decide (p.1 = k)) := by
    rw [List.filter_filter]
    congr 1
    funext p
    by_cases h1 : p.1 = k <;> by_cases h2 : p.1 ∈ done <;> simp [h1, h2]
  rw [e]
  exact List.length_filter_lt_length_iff_exists.2 ⟨(k, x), List.mem_filter.2 ⟨h, by simpa using hn⟩, by simp⟩
end

theorem byteCells_one (s : ByteArray) : ∀ u ∈ byteCells s, u.oneCell' = true := fun u hu => by
  unfold byteCells at hu
  obtain ⟨b, _, rfl⟩ := List.mem_map.1 hu
  rfl
theorem byteCells_inj {s t : ByteArray} (h : byteCells s = byteCells t) : s = t := by
  obtain ⟨⟨s⟩⟩ := s
  obtain ⟨⟨t⟩⟩ := t
  replace h : List.map (fun b : UInt8 => Value.int IntKind.u8 (b.toNat : Int)) s = List.map (fun b : UInt8 => Value.int IntKind.u8 (b.toNat : Int)) t := h
  have : s = t := by
    induction s generalizing t with
    | nil => cases t with
      | nil => rfl
      | cons _ _ => simp at h
    | cons a s ih => cases t with
      | nil => simp at h
      | cons b t =>
        simp only [List.map_cons, List.cons.injEq] at h
        obtain ⟨h1, h2⟩ := h
        injection h1 with _ h1
        have : a = b := UInt8.toNat_inj.1 (by exact_mod_cast h1)
        rw [this, ih t h2]
  rw [this]
theorem byteCells_get (s : ByteArray) (i : Nat) : (byteCells s)[i]? = (s.data[i]?).map fun b => Value.int .u8 (b.toNat : Int) := by
  unfold byteCells
  rw [List.getElem?_map]
  simp

/-- A row of a block's cells. -/
theorem Row.all {w : World} {b : Nat} {cs : List Value} (h : Blk w b cs) (h1 : ∀ u ∈ cs, u.oneCell' = true) : Row w (some ⟨b, 0, none⟩) cs :=
  Row.of_blk (off := 0) h (fun j u hj => by simpa using hj) h1

end Go.V
