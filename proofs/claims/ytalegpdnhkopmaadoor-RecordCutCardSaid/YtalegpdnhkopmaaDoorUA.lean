/- Texts of this session's repo, laid together: U1 U2 U3 U4 U5 U6. -/
import Derived.Test.YtalegpdnhkopmaaDoorVB
import Derived.SizedLaws
import Derived.OpenShut
import Derived.ChangeArms
section
/- What stays where the world moves on. -/
namespace Go.V
open Go.RowKit
set_option linter.unusedVariables false
set_option linter.unusedSimpArgs false

/-- From v to w: of the blocks that were there only those of F may have turned. -/
structure Fr (F : List Nat) (v w : World) : Prop where
  os : w.os = v.os
  tape : w.tape = v.tape
  output : w.output = v.output
  size : v.heap.size ≤ w.heap.size
  blk : ∀ b, b < v.heap.size → b ∉ F → w.heap[b]? = v.heap[b]?

theorem Fr.refl (F : List Nat) (v : World) : Fr F v v := ⟨rfl, rfl, rfl, Nat.le_refl _, fun _ _ _ => rfl⟩
theorem Fr.mono {F G : List Nat} {v w : World} (h : Fr F v w) (hs : ∀ x ∈ F, x ∈ G ∨ v.heap.size ≤ x) : Fr G v w :=
  ⟨h.os, h.tape, h.output, h.size, fun b hb hn => h.blk b hb fun hf => by
    rcases hs b hf with h1 | h1
    · exact hn h1
    · omega⟩
theorem Fr.trans {F G : List Nat} {u v w : World} (h : Fr F u v) (k : Fr G v w) (hs : ∀ x ∈ G, x ∈ F ∨ u.heap.size ≤ x) : Fr F u w :=
  ⟨k.os.trans h.os, k.tape.trans h.tape, k.output.trans h.output, Nat.le_trans h.size k.size, fun b hb hn => by
    rw [k.blk b (Nat.lt_of_lt_of_le hb h.size) fun hg => ?_]
    · exact h.blk b hb hn
    · rcases hs b hg with h1 | h1
      · exact hn h1
      · omega⟩
theorem Fr.trans' {F : List Nat} {u v w : World} (h : Fr F u v) (k : Fr F v w) : Fr F u w := h.trans k fun _ hx => .inl hx
theorem Fr.then {F G : List Nat} {u v w : World} (h : Fr F u v) (k : Fr G v w) : Fr (F ++ G) u w :=
  (h.mono (G := F ++ G) fun x hx => .inl (List.mem_append_left _ hx)).trans k fun x hx => .inl (List.mem_append_right _ hx)
theorem Step.fr {v w : World} {mods news : List Nat} (h : Step v w mods news) : Fr mods v w := ⟨h.os, h.tape, h.output, h.size, h.blk⟩
theorem Upd.fr {v w : World} {b : Nat} {cs : List Value} (h : Upd v w b cs) : Fr [b] v w :=
  ⟨h.os, h.tape, h.output, Nat.le_of_eq h.size.symm, fun b' _ hn => h.oth b' fun e => hn (by rw [e]; exact List.mem_singleton.2 rfl)⟩
theorem MUpd.fr {κ : Type} [DecidableEq κ] {enc : κ → Value} {v w : World} {m : Nat} {l : List (κ × Value)} (h : MUpd enc v w m l) : Fr [m] v w :=
  ⟨h.os, h.tape, h.output, Nat.le_of_eq h.size.symm, fun b' _ hn => h.oth b' fun e => hn (by rw [e]; exact List.mem_singleton.2 rfl)⟩
theorem IStep.fr {v w : World} {r : Nat} (h : IStep v w r) : Fr [r] v w :=
  ⟨h.os, h.tape, h.output, Nat.le_of_eq h.size.symm, fun b' _ hn => h.oth b' fun e => hn (by rw [e]; exact List.mem_singleton.2 rfl)⟩
theorem Fr.of_below {v w : World} (h : Below v.heap.size v w) : Fr [] v w := ⟨h.os, h.tape, h.output, h.size, fun b hb _ => h.block b hb⟩
theorem Fr.below {F : List Nat} {v w : World} {n : Nat} (h : Fr F v w) (hn : n ≤ v.heap.size) (hF : ∀ x ∈ F, n ≤ x) : Below n v w :=
  ⟨h.os, h.tape, h.output, h.size, fun b hb => h.blk b (Nat.lt_of_lt_of_le hb hn) fun hf => Nat.lt_irrefl _ (Nat.lt_of_lt_of_le hb (hF b hf))⟩

theorem lt_of_get {w : World} {b : Nat} {o : Obj} (h : w.heap[b]? = some o) : b < w.heap.size := by
  rcases Nat.lt_or_ge b w.heap.size with z | z
  · exact z
  · rw [Array.getElem?_eq_none z] at h; cases h
theorem Fr.get {F : List Nat} {v w : World} (h : Fr F v w) {b : Nat} {o : Obj} (hb : v.heap[b]? = some o) (hn : b ∉ F) : w.heap[b]? = some o :=
  (h.blk b (lt_of_get hb) hn).trans hb

theorem Blk.lt {w : World} {b : Nat} {cs : List Value} (h : Blk w b cs) : b < w.heap.size := by
  obtain ⟨T, lo, hi, hb, _⟩ := h
  exact lt_of_get hb
theorem Blk.fr {F : List Nat} {v w : World} {b : Nat} {cs : List Value} (h : Blk v b cs) (hf : Fr F v w) (hn : b ∉ F) : Blk w b cs := by
  obtain ⟨T, lo, hi, hb, hc⟩ := h
  exact ⟨T, lo, hi, hf.get hb hn, hc⟩
theorem Blk.cell {w : World} {b : Nat} {cs : List Value} (h : Blk w b cs) (o : Nat) : w.cell? ⟨b, o, none⟩ = cs[o]? := by
  obtain ⟨T, lo, hi, hb, hc⟩ := h
  rw [cell_of_cells hb]
theorem Blk.uniq {w : World} {b : Nat} {cs cs' : List Value} (h : Blk w b cs) (h' : Blk w b cs') : cs = cs' := by
  obtain ⟨T, lo, hi, hb, hc⟩ := h
  obtain ⟨T', lo', hi', hb', hc'⟩ := h'
  rw [hb] at hb'
  injection hb' with hb'
  injection hb' with h1
  have := congrArg Array.toList h1
  simpa using this
theorem cell_fr {F : List Nat} {v w : World} (hf : Fr F v w) {ad : Addr} {x : Value} (h : v.cell? ad = some x) (hn : ad.block ∉ F) : w.cell? ad = some x := by
  have hb : ad.block < v.heap.size := by
    rcases Nat.lt_or_ge ad.block v.heap.size with z | z
    · exact z
    · simp [World.cell?, Array.getElem?_eq_none z] at h
  rw [← h]
  simp only [World.cell?]
  rw [hf.blk ad.block hb hn]
theorem add_block' (ad : Addr) (n : Nat) : (ad.add n).block = ad.block := by
  unfold Addr.add; split <;> rfl
theorem Row.fr {F : List Nat} {v w : World} (hf : Fr F v w) {p : Option Addr} {xs : List Value} (h : Row v p xs) (hn : ∀ ad, p = some ad → ad.block ∉ F) : Row w p xs := by
  refine ⟨fun j u hj => ?_, h.2⟩
  obtain ⟨ad, hp, hc⟩ := h.1 j u hj
  exact ⟨ad, hp, cell_fr hf hc (by rw [add_block']; exact hn ad hp)⟩
theorem MapG.lt {κ : Type} [DecidableEq κ] {enc : κ → Value} {w : World} {m : Nat} {l : List (κ × Value)} (h : MapG enc w m l) : m < w.heap.size := by
  obtain ⟨es, clock, hb, _⟩ := h
  exact lt_of_get hb
theorem MapG.fr {κ : Type} [DecidableEq κ] {enc : κ → Value} {F : List Nat} {v w : World} {m : Nat} {l : List (κ × Value)} (h : MapG enc v m l) (hf : Fr F v w) (hn : m ∉ F) : MapG enc w m l := by
  obtain ⟨es, clock, hb, hr⟩ := h
  exact ⟨es, clock, hf.get hb hn, hr⟩
theorem MapG.new {κ : Type} [DecidableEq κ] {enc : κ → Value} {w : World} {m : Nat} (h : w.heap[m]? = some (Obj.map #[] 0)) : MapG enc w m [] :=
  ⟨#[], 0, h, rfl, fun _ h => by simp at h, by simp, by simp⟩
theorem map_ne_blk {κ : Type} [DecidableEq κ] {enc : κ → Value} {w : World} {m b : Nat} {l : List (κ × Value)} {cs : List Value} (h : MapG enc w m l) (hb : Blk w b cs) : m ≠ b := by
  rintro rfl
  obtain ⟨es, clock, h1, _⟩ := h
  obtain ⟨T, lo, hi, h2, _⟩ := hb
  rw [h1] at h2; cases h2

theorem add_block (ad : Addr) (n : Nat) : (ad.add n).block = ad.block := add_block' ad n
theorem add0 (ad : Addr) : ad.add 0 = ad := by
  obtain ⟨b, o, s⟩ := ad
  cases s <;> simp [Addr.add]

/-- Rows of blocks. -/
theorem Row.of_blk {w : World} {b : Nat} {cs xs : List Value} {off : Nat} (h : Blk w b cs) (hx : ∀ j u, xs[j]? = some u → cs[off + j]? = some u) (h1 : ∀ u ∈ xs, u.oneCell' = true) : Row w (some ⟨b, off, none⟩) xs :=
  ⟨fun j u hj => ⟨_, rfl, by rw [add_mk, h.cell]; exact hx j u hj⟩, h1⟩
theorem Row.nil (w : World) (p : Option Addr) : Row w p [] := ⟨fun j u h => by simp at h, fun u h => by simp at h⟩
theorem Row.get {w : World} {p : Option Addr} {xs : List Value} (h : Row w p xs) {ad : Addr} (hp : p = some ad) {j : Nat} {u : Value} (hj : xs[j]? = some u) : w.cell? (ad.add j) = some u := by
  obtain ⟨ad', hp', hc⟩ := h.1 j u hj
  rw [hp] at hp'; injection hp' with hp'; subst hp'; exact hc
theorem Row.has {w : World} {p : Option Addr} {xs : List Value} (h : Row w p xs) (hn : 0 < xs.length) : ∃ ad, p = some ad := by
  obtain ⟨ad, hp, _⟩ := h.1 0 xs[0] (by simp [hn])
  exact ⟨ad, hp⟩

theorem sets0 {cs xs : List Value} (h : xs.length = cs.length) : sets cs 0 xs = xs := by
  rw [sets_eq _ _ _ (by omega)]
  unfold spl
  simp [h]

theorem bc {b : Bool} {p q : Prop} (h1 : b = true → p) (h2 : b = false → q) : bcase b p q := ⟨h1, h2⟩

/-- Wrapping does nothing within the bounds. -/
theorem wrapi {n : Int} (h1 : -9223372036854775808 ≤ n) (h2 : n < 9223372036854775808) : IntKind.wrap .i64 n = n := by
  have e : IntKind.wrap .i64 n = if n % 18446744073709551616 ≥ 9223372036854775808 then n % 18446744073709551616 - 18446744073709551616 else n % 18446744073709551616 := by
    simp [IntKind.wrap, IntKind.bits, IntKind.signed]
  rw [e]
  split <;> omega

end Go.V

end
section
/- Maps and rows of bytes. -/
namespace Go.V
open Go.RowKit
set_option linter.unusedVariables false
set_option linter.unusedSimpArgs false
section
variable {κ : Type} [DecidableEq κ]
theorem look_updM (l : List (κ × Value)) (a k : κ) (y : Value) : V.look (updM l a y) k = if k = a then some y else V.look l k := by
  induction l with
  | nil =>
    by_cases h : k = a
    · subst h; simp [updM, V.look]
    · simp [updM, V.look, h]
  | cons p l ih =>
    obtain ⟨q, x⟩ := p
    simp only [updM]
    by_cases hq : a = q
    · subst hq
      by_cases h : k = a
      · subst h; simp [V.look]
      · simp [V.look, h]
    · rw [if_neg hq]
      simp only [V.look]
      by_cases h : k = q
      · subst h
        rw [if_pos rfl, if_neg (fun e => hq e.symm), if_pos rfl]
      · rw [if_neg h, ih, if_neg h]
theorem mem_updM {l : List (κ × Value)} {a : κ} {y : Value} {p : κ × Value} (h : p ∈ updM l a y) : p = (a, y) ∨ p ∈ l := by
  induction l with
  | nil => simpa [updM] using h
  | cons q l ih =>
    obtain ⟨q, x⟩ := q
    simp only [updM] at h
    split at h
    · rcases List.mem_cons.1 h with e | e
      · exact .inl e
      · exact .inr (List.mem_cons_of_mem _ e)
    · rcases List.mem_cons.1 h with e | e
      · exact .inr (by rw [e]; exact List.mem_cons_self)
      · rcases ih e with e | e
        · exact .inl e
        · exact .inr (List.mem_cons_of_mem _ e)
theorem look_mem {l : List (κ × Value)} {k : κ} {x : Value} (h : V.look l k = some x) : (k, x) ∈ l := by
  induction l with
  | nil => simp [V.look] at h
  | cons q l ih =>
    obtain ⟨q, y⟩ := q
    simp only [V.look] at h
    split at h
    · rename_i e; subst e; injection h with h; subst h; exact List.mem_cons_self
    · exact List.mem_cons_of_mem _ (ih h)
theorem look_none {l : List (κ × Value)} {k : κ} (h : ∀ p ∈ l, p.1 ≠ k) : V.look l k = none := by
  induction l with
  | nil => rfl
  | cons q l ih =>
    obtain ⟨q, y⟩ := q
    simp only [V.look]
    rw [if_neg (fun e => h (q, y) List.mem_cons_self e.symm)]
    exact ih fun p hp => h p (List.mem_cons_of_mem _ hp)
theorem look_of_mem {l : List (κ × Value)} (hn : (l.map (·.1)).Nodup) {k : κ} {x : Value} (h : (k, x) ∈ l) : V.look l k = some x := by
  induction l with
  | nil => cases h
  | cons q l ih =>
    obtain ⟨q, y⟩ := q
    simp only [V.look]
    rcases List.mem_cons.1 h with e | e
    · injection e with e1 e2; subst e1; subst e2; rw [if_pos rfl]
    · have hn := List.nodup_cons.1 hn
      have : k ≠ q := fun e2 => hn.1 (by rw [← e2]; exact List.mem_map.2 ⟨_, e, rfl⟩)
      rw [if_neg this]
      exact ih hn.2 e
end

theorem MapG.nodup {κ : Type} {enc : κ → Value} {w : World} {m : Nat} {l : List (κ × Value)} (h : MapG enc w m l) : (l.map (·.1)).Nodup := by
  obtain ⟨es, clock, _, _, _, _, hn⟩ := h
  exact hn
section
variable {κ : Type} [DecidableEq κ] {enc : κ → Value}
theorem IterO.fr {F : List Nat} {v w : World} {r : Nat} {m : Option Nat} {l : List (κ × Value)} {done : List κ} (h : IterO enc v r m l done) (hf : Fr F v w) (hr : r ∉ F) (hm : ∀ b, m = some b → b ∉ F) : IterO enc w r m l done := by
  cases m with
  | none =>
    obtain ⟨h1, since, seen, last, h2⟩ := h
    exact ⟨h1, since, seen, last, hf.get h2 hr⟩
  | some m =>
    obtain ⟨es, clock, since, seen, last, h1, h2, h3⟩ := h
    exact ⟨es, clock, since, seen, last, hf.get h1 hr, hf.get h2 (hm m rfl), h3⟩
/-- How many keys are still to come. -/
def rest (l : List (κ × Value)) (done : List κ) : Nat := (l.filter fun p => !(decide (p.1 ∈ done))).length
theorem rest_lt {l : List (κ × Value)} {done : List κ} {k : κ} {x : Value} (h : (k, x) ∈ l) (hn : k ∉ done) : rest l (k :: done) < rest l done := by
  unfold rest
  have e : (l.filter fun p => !(decide (p.1 ∈ k :: done))) = (l.filter fun p => !(decide (p.1 ∈ done))).filter fun p => !(decide (p.1 = k)) := by
    rw [List.filter_filter]
    congr 1
    funext p
    by_cases h1 : p.1 = k <;> by_cases h2 : p.1 ∈ done <;> simp [h1, h2]
  rw [e]
  exact List.length_filter_lt_length_iff_exists.2 ⟨(k, x), List.mem_filter.2 ⟨h, by simpa using hn⟩, by simp⟩
end

theorem byteCells_one (s : ByteArray) : ∀ u ∈ byteCells s, u.oneCell' = true := fun u hu => by
  unfold byteCells at hu
  obtain ⟨b, _, rfl⟩ := List.mem_map.1 hu
  rfl
theorem byteCells_inj {s t : ByteArray} (h : byteCells s = byteCells t) : s = t := by
  obtain ⟨⟨s⟩⟩ := s
  obtain ⟨⟨t⟩⟩ := t
  replace h : List.map (fun b : UInt8 => Value.int IntKind.u8 (b.toNat : Int)) s = List.map (fun b : UInt8 => Value.int IntKind.u8 (b.toNat : Int)) t := h
  have : s = t := by
    induction s generalizing t with
    | nil => cases t with
      | nil => rfl
      | cons _ _ => simp at h
    | cons a s ih => cases t with
      | nil => simp at h
      | cons b t =>
        simp only [List.map_cons, List.cons.injEq] at h
        obtain ⟨h1, h2⟩ := h
        injection h1 with _ h1
        have : a = b := UInt8.toNat_inj.1 (by exact_mod_cast h1)
        rw [this, ih t h2]
  rw [this]
theorem byteCells_get (s : ByteArray) (i : Nat) : (byteCells s)[i]? = (s.data[i]?).map fun b => Value.int .u8 (b.toNat : Int) := by
  unfold byteCells
  rw [List.getElem?_map]
  simp

/-- A row of a block's cells. -/
theorem Row.all {w : World} {b : Nat} {cs : List Value} (h : Blk w b cs) (h1 : ∀ u ∈ cs, u.oneCell' = true) : Row w (some ⟨b, 0, none⟩) cs :=
  Row.of_blk (off := 0) h (fun j u hj => by simpa using hj) h1

end Go.V

end
section
/- Rows of one's own that grow. -/
namespace Go.V
open Go.RowKit
set_option linter.unusedVariables false
set_option linter.unusedSimpArgs false

/-- A slice of one's own: nil, or a block behind B that holds xs first. -/
def Own (w : World) (B : Nat) (p : Option Addr) (l c : Nat) (xs : List Value) : Prop :=
  xs.length = l ∧ l ≤ c ∧ (∀ u ∈ xs, u.oneCell' = true) ∧ ((p = none ∧ c = 0) ∨ ∃ b zs, p = some ⟨b, 0, none⟩ ∧ B ≤ b ∧ Blk w b (xs ++ zs) ∧ (xs ++ zs).length = c)
theorem Own.nil (w : World) (B : Nat) : Own w B none 0 0 [] := ⟨rfl, Nat.le_refl _, fun u h => by simp at h, .inl ⟨rfl, rfl⟩⟩
theorem Own.row {w : World} {B : Nat} {p : Option Addr} {l c : Nat} {xs : List Value} (h : Own w B p l c xs) : Row w p xs := by
  obtain ⟨h1, h2, h3, ⟨rfl, rfl⟩ | ⟨b, zs, rfl, hB, hb, hl⟩⟩ := h
  · have : xs = [] := List.length_eq_zero_iff.1 (by omega)
    subst this; exact Row.nil _ _
  · exact Row.of_blk (off := 0) hb (fun j u hj => by rw [Nat.zero_add, List.getElem?_append_left (List.getElem?_eq_some_iff.1 hj).1]; exact hj) h3
theorem Own.fr {F : List Nat} {v w : World} {B : Nat} {p : Option Addr} {l c : Nat} {xs : List Value} (h : Own v B p l c xs) (hf : Fr F v w) (hn : ∀ ad, p = some ad → ad.block ∉ F) : Own w B p l c xs := by
  obtain ⟨h1, h2, h3, ⟨rfl, rfl⟩ | ⟨b, zs, rfl, hB, hb, hl⟩⟩ := h
  · exact ⟨h1, h2, h3, .inl ⟨rfl, rfl⟩⟩
  · exact ⟨h1, h2, h3, .inr ⟨b, zs, rfl, hB, hb.fr hf (hn _ rfl), hl⟩⟩

theorem Own.lt {w : World} {B : Nat} {p : Option Addr} {l c : Nat} {xs : List Value} (h : Own w B p l c xs) {ad : Addr} (hp : p = some ad) : B ≤ ad.block ∧ ad.block < w.heap.size := by
  obtain ⟨_, _, _, ⟨h, _⟩ | ⟨b, zs, h, hB, hb, _⟩⟩ := h
  · rw [h] at hp; cases hp
  · rw [h] at hp; injection hp with hp; subst hp; exact ⟨hB, hb.lt⟩

/-- One more: behind it the row is longer by one; only blocks behind B have turned. -/
theorem append_own {mods news privs : List Nat} {v : World} {B bytes : Nat} {p : Option Addr} {l c : Nat} {xs : List Value} {x z : Value} {K : World → Option Addr → Nat → Nat → Prop} (h : Own v B p l c xs) (hx : x.oneCell' = true) (hB : B ≤ v.heap.size)
    (hpm : ∀ ad, p = some ad → ad.block ∉ mods ∧ ∀ y ∈ privs, y ∈ news ∨ y ≠ ad.block) (hb : bytes ≤ 64) (hl : l < 1099511627776)
    (hK : ∀ w' p' c', Fr (mods ++ (p.map (·.block)).toList) v w' → (∀ n ∈ news, v.heap.size ≤ n ∧ n < w'.heap.size) → Own w' B p' (l + 1) c' (xs ++ [x]) → (∀ ad, p' = some ad → (some ad = p) ∨ (v.heap.size ≤ ad.block ∧ ad.block ∉ news)) → K w' p' (l + 1) c') :
    appendP false mods news privs v p l c 1 [x] 1 bytes [z] K := by
  obtain ⟨h1, h2, h3, h4⟩ := h
  have hm : (l + 1) * bytes ≤ 1099511627776 * 64 := Nat.mul_le_mul (by omega) hb
  have h3' : ∀ u ∈ xs ++ [x], u.oneCell' = true := fun u hu => by
    rcases List.mem_append.1 hu with hu | hu
    · exact h3 u hu
    · rw [List.mem_singleton.1 hu]; exact hx
  refine ⟨by omega, by omega, fun hc => ?_, fun hc => ?_⟩
  · show ∀ w, Step v w mods news → _
    intro w st
    right
    rcases h4 with ⟨rfl, rfl⟩ | ⟨b, zs, rfl, hBb, hbk, hlen⟩
    · omega
    obtain ⟨m1, m2⟩ := hpm _ rfl
    have hw : Blk w b (xs ++ zs) := hbk.fr st.fr m1
    refine ⟨⟨b, 0, none⟩, xs ++ zs, rfl, rfl, hw, by simp only [List.length_singleton]; omega, (fun hm => by
      rcases m2 b hm with hn | hn
      · have := (st.new b hn).1
        have := hbk.lt
        omega
      · exact hn rfl), fun w' hu => hK w' _ c ?_ (fun n hn => ?_) ⟨by simp; omega, hc, h3', .inr ⟨b, zs.tail, rfl, hBb, ?_, ?_⟩⟩ (fun ad hp => .inl hp.symm)⟩
    · refine (st.fr.mono (fun y hy => .inl (List.mem_append_left _ hy))).trans hu.fr (fun y hy => .inl (List.mem_append_right _ ?_))
      simpa using hy
    · have := st.new n hn
      have := hu.size
      omega
    · have hbk' := hu.blk
      have e : sets (xs ++ zs) (0 + l * 1) [x] = (xs ++ [x]) ++ zs.tail := by
        show List.set _ _ _ = _
        have e0 : 0 + l * 1 = xs.length := by omega
        rw [e0, List.set_append_right _ _ (Nat.le_refl _), Nat.sub_self, List.append_assoc]
        cases zs with
        | nil => simp at hlen; omega
        | cons a zs => rfl
      rw [← e]; exact hbk'
    · cases zs with
      | nil => simp at hlen; omega
      | cons a zs => simp at hlen ⊢; omega
  · have hrow : Row v p xs := Own.row (B := B) ⟨h1, h2, h3, h4⟩
    refine ⟨xs, by omega, hrow, fun b hb2 => ?_, fun w b cap st hcap hbk _ => hK w _ cap ?_ (fun n hn => ?_) ⟨by simp; omega, hcap, h3', .inr ⟨b, reps [z] (cap - (l + 1)), rfl, ?_, hbk, ?_⟩⟩ (fun ad hp => .inr ?_)⟩
    · cases p with
      | none => cases hb2
      | some ad => injection hb2 with hb2; subst hb2; exact (hpm ad rfl).1
    · exact st.fr.mono (fun y hy => .inl (List.mem_append_left _ hy))
    · exact st.new n (List.mem_cons_of_mem _ hn)
    · have := (st.new b List.mem_cons_self).1
      omega
    · simp [reps_length]; omega
    · injection hp with hp; subst hp
      exact ⟨(st.new b List.mem_cons_self).1, (List.nodup_cons.1 st.nd).1⟩
end Go.V

end
section
/- What a search of one's own may use: what stays, what is new. -/
namespace Go.V
open Go.RowKit
set_option linter.unusedVariables false
set_option linter.unusedSimpArgs false

/-- A fact that a search shall not see. -/
def Hid (p : Prop) : Prop := p
theorem Hid.mk {p : Prop} (h : p) : Hid p := h
theorem Hid.get {p : Prop} (h : Hid p) : p := h
/-- The block of an address, if there is one. -/
def pb (p : Option Addr) : List Nat := (p.map (·.block)).toList
theorem g_mem_pb (p : Option Addr) (x : Nat) : x ∈ pb p ↔ ∃ ad, p = some ad ∧ ad.block = x := by
  unfold pb
  simp
theorem g_pb_none : pb none = [] := rfl
theorem g_pb_some (ad : Addr) : pb (some ad) = [ad.block] := rfl
theorem g_size {F : List Nat} {v w : World} (h : Fr F v w) : v.heap.size ≤ w.heap.size := h.size
theorem g_sys {F : List Nat} {v w : World} (h : Fr F v w) : w.os = v.os ∧ w.tape = v.tape ∧ w.output = v.output := ⟨h.os, h.tape, h.output⟩
theorem g_get {F : List Nat} {v w : World} {b : Nat} (h : Fr F v w) (hb : b < v.heap.size) (hn : b ∉ F) : w.heap[b]? = v.heap[b]? := h.blk b hb hn
theorem g_step {F G : List Nat} {v w : World} (h : Step v w F G) : Fr F v w := h.fr
theorem g_upd {v w : World} {b : Nat} {cs : List Value} (h : Upd v w b cs) : Fr [b] v w := h.fr
theorem g_updb {v w : World} {b : Nat} {cs : List Value} (h : Upd v w b cs) : Blk w b cs := h.blk
theorem g_updz {v w : World} {b : Nat} {cs : List Value} (h : Upd v w b cs) : w.heap.size = v.heap.size := h.size
theorem g_mupd {κ : Type} [DecidableEq κ] {enc : κ → Value} {v w : World} {m : Nat} {l : List (κ × Value)} (h : MUpd enc v w m l) : Fr [m] v w := h.fr
theorem g_mupdm {κ : Type} [DecidableEq κ] {enc : κ → Value} {v w : World} {m : Nat} {l : List (κ × Value)} (h : MUpd enc v w m l) : MapG enc w m l := h.map
theorem g_istep {v w : World} {r : Nat} (h : IStep v w r) : Fr [r] v w := h.fr
theorem g_new1 {F : List Nat} {v w : World} {k : Nat} (h : Step v w F [k]) : v.heap.size ≤ k ∧ k < w.heap.size := h.new k (by simp)
theorem g_new2 {F : List Nat} {v w : World} {k k2 : Nat} (h : Step v w F [k, k2]) : v.heap.size ≤ k ∧ k < w.heap.size ∧ v.heap.size ≤ k2 ∧ k2 < w.heap.size ∧ k ≠ k2 :=
  ⟨(h.new k (by simp)).1, (h.new k (by simp)).2, (h.new k2 (by simp)).1, (h.new k2 (by simp)).2, fun e => (List.nodup_cons.1 h.nd).1 (by simp [e])⟩
theorem g_new3 {F : List Nat} {v w : World} {k k2 k3 : Nat} (h : Step v w F [k, k2, k3]) : v.heap.size ≤ k ∧ k < w.heap.size ∧ v.heap.size ≤ k2 ∧ k2 < w.heap.size ∧ v.heap.size ≤ k3 ∧ k3 < w.heap.size ∧ k ≠ k2 ∧ k ≠ k3 ∧ k2 ≠ k3 :=
  ⟨(h.new k (by simp)).1, (h.new k (by simp)).2, (h.new k2 (by simp)).1, (h.new k2 (by simp)).2, (h.new k3 (by simp)).1, (h.new k3 (by simp)).2, fun e => (List.nodup_cons.1 h.nd).1 (by simp [e]), fun e => (List.nodup_cons.1 h.nd).1 (by simp [e]), fun e => (List.nodup_cons.1 (List.nodup_cons.1 h.nd).2).1 (by simp [e])⟩
theorem g_new4 {F : List Nat} {v w : World} {k k2 k3 k4 : Nat} (h : Step v w F [k, k2, k3, k4]) : (v.heap.size ≤ k ∧ k < w.heap.size ∧ v.heap.size ≤ k2 ∧ k2 < w.heap.size ∧ v.heap.size ≤ k3 ∧ k3 < w.heap.size ∧ v.heap.size ≤ k4 ∧ k4 < w.heap.size) ∧ k ≠ k2 ∧ k ≠ k3 ∧ k2 ≠ k3 ∧ k ≠ k4 ∧ k2 ≠ k4 ∧ k3 ≠ k4 := by
  have h1 := h.new k (by simp)
  have h2 := h.new k2 (by simp)
  have h3 := h.new k3 (by simp)
  have h4 := h.new k4 (by simp)
  have hn := h.nd
  simp at hn
  omega
theorem g_blk {F : List Nat} {v w : World} {b : Nat} {cs : List Value} (hf : Fr F v w) (h : Blk v b cs) (hn : b ∉ F) : Blk w b cs := h.fr hf hn
theorem g_blk_lt {w : World} {b : Nat} {cs : List Value} (h : Blk w b cs) : b < w.heap.size := h.lt
theorem g_own {F : List Nat} {v w : World} {B : Nat} {p : Option Addr} {l c : Nat} {xs : List Value} (hf : Fr F v w) (h : Own v B p l c xs) (hn : ∀ ad, p = some ad → ad.block ∉ F) : Own w B p l c xs := h.fr hf hn
theorem g_own_lt {w : World} {B : Nat} {ad : Addr} {l c : Nat} {xs : List Value} (h : Own w B (some ad) l c xs) : B ≤ ad.block ∧ ad.block < w.heap.size := h.lt rfl
theorem g_row {F : List Nat} {v w : World} {p : Option Addr} {xs : List Value} (hf : Fr F v w) (h : Row v p xs) (hn : ∀ ad, p = some ad → ad.block < v.heap.size → ad.block ∉ F) : Row w p xs := by
  refine ⟨fun j u hj => ?_, h.2⟩
  obtain ⟨ad, hp, hc⟩ := h.1 j u hj
  have hb : ad.block < v.heap.size := by
    have := World.block_lt_of_cell? v _ hc
    rwa [add_block] at this
  exact ⟨ad, hp, cell_fr hf hc (by rw [add_block']; exact hn ad hp hb)⟩
theorem row_fr0 {F : List Nat} {v w : World} {p : Option Addr} {xs : List Value} (hf : Fr F v w) (h : Row v p xs) (hn : ∀ ad, p = some ad → 0 < xs.length → ad.block ∉ F) : Row w p xs := by
  by_cases h0 : 0 < xs.length
  · exact g_row hf h fun ad hp _ => hn ad hp h0
  · have : xs = [] := List.length_eq_zero_iff.1 (by omega)
    subst this; exact Row.nil _ _
theorem g_map {κ : Type} [DecidableEq κ] {enc : κ → Value} {F : List Nat} {v w : World} {m : Nat} {l : List (κ × Value)} (hf : Fr F v w) (h : MapG enc v m l) (hn : m ∉ F) : MapG enc w m l := h.fr hf hn
theorem g_map_lt {κ : Type} [DecidableEq κ] {enc : κ → Value} {w : World} {m : Nat} {l : List (κ × Value)} (h : MapG enc w m l) : m < w.heap.size := h.lt
theorem g_map_blk {κ : Type} [DecidableEq κ] {enc : κ → Value} {w : World} {m b : Nat} {l : List (κ × Value)} {cs : List Value} (h : MapG enc w m l) (hb : Blk w b cs) : m ≠ b := map_ne_blk h hb
theorem g_keep {bs : List Nat} {v w : World} {F : List Nat} (hf : Fr F v w) (h : ∀ b ∈ bs, b < v.heap.size ∧ b ∉ F) : Keep bs v w := fun b hb => hf.blk b (h b hb).1 (h b hb).2
theorem g_wrap {n : Int} (h1 : -9223372036854775808 ≤ n) (h2 : n < 9223372036854775808) : IntKind.wrap .i64 n = n := wrapi h1 h2

theorem mkFr {F : List Nat} {v w : World} (h1 : w.os = v.os ∧ w.tape = v.tape ∧ w.output = v.output) (h2 : v.heap.size ≤ w.heap.size) (h3 : ∀ b, b < v.heap.size → b ∉ F → w.heap[b]? = v.heap[b]?) : Fr F v w := ⟨h1.1, h1.2.1, h1.2.2, h2, h3⟩
/-- What an element of a row is. -/
theorem rd {α : Type} (C : α → Value) {w : World} {p : Option Addr} {l : List α} {i : Nat} {n L : Int} {K : α → Prop} (h : Row w p (l.map C)) (hn : n = i) (hi : i < l.length) (hL : n < L) (k : K l[i]) :
    ∃ ad, p = some ad ∧ (0 ≤ n ∧ n < L) ∧ ∃ y, w.cell? (ad.add (n.toNat * 1)) = some (C y) ∧ K y := by
  obtain ⟨ad, hp⟩ := h.has (by rw [List.length_map]; omega)
  subst hn
  refine ⟨ad, hp, ⟨by omega, hL⟩, l[i], ?_, k⟩
  have := h.get hp (j := i) (u := C l[i]) (by rw [List.getElem?_map, List.getElem?_eq_getElem hi]; rfl)
  simpa using this
/-- A function came back. -/
theorem called {P : Program} {f : FuncId} {as : Array Value} {w : World} {Q R : Ending → World → Prop} (h : Calls P f as w Q) (k : ∀ e w', Q e w' → R e w') : Calls P f as w R := h.mono k

/-- What was made is new. -/
def News (v w : World) (news : List Nat) : Prop := ∀ n ∈ news, v.heap.size ≤ n ∧ n < w.heap.size
theorem g_news1 {v w : World} {k : Nat} (h : News v w [k]) : v.heap.size ≤ k ∧ k < w.heap.size := h k (by simp)
theorem g_news2 {v w : World} {k k2 : Nat} (h : News v w [k, k2]) : v.heap.size ≤ k ∧ k < w.heap.size ∧ v.heap.size ≤ k2 ∧ k2 < w.heap.size := ⟨(h k (by simp)).1, (h k (by simp)).2, h k2 (by simp)⟩
theorem g_news3 {v w : World} {k k2 k3 : Nat} (h : News v w [k, k2, k3]) : v.heap.size ≤ k ∧ k < w.heap.size ∧ v.heap.size ≤ k2 ∧ k2 < w.heap.size ∧ v.heap.size ≤ k3 ∧ k3 < w.heap.size := ⟨(h k (by simp)).1, (h k (by simp)).2, (h k2 (by simp)).1, (h k2 (by simp)).2, h k3 (by simp)⟩

/-- A slice of one's own: nil, or a block behind B that holds xs first; each element has sz cells. -/
def OwnZ (w : World) (B sz : Nat) (p : Option Addr) (l c : Nat) (xs : List Value) : Prop :=
  xs.length = l * sz ∧ l ≤ c ∧ (∀ u ∈ xs, u.oneCell' = true) ∧ ((p = none ∧ c = 0) ∨ ∃ b zs, p = some ⟨b, 0, none⟩ ∧ B ≤ b ∧ Blk w b (xs ++ zs) ∧ (xs ++ zs).length = c * sz)
theorem OwnZ.nil (w : World) (B sz : Nat) : OwnZ w B sz none 0 0 [] := ⟨by simp, Nat.le_refl _, fun u h => by simp at h, .inl ⟨rfl, rfl⟩⟩
theorem OwnZ.row {w : World} {B sz : Nat} {p : Option Addr} {l c : Nat} {xs : List Value} (h : OwnZ w B sz p l c xs) : Row w p xs := by
  obtain ⟨h1, h2, h3, ⟨rfl, rfl⟩ | ⟨b, zs, rfl, hB, hb, hl⟩⟩ := h
  · have : l = 0 := by omega
    subst this
    have : xs = [] := List.length_eq_zero_iff.1 (by omega)
    subst this; exact Row.nil _ _
  · exact Row.of_blk (off := 0) hb (fun j u hj => by rw [Nat.zero_add, List.getElem?_append_left (List.getElem?_eq_some_iff.1 hj).1]; exact hj) h3
theorem OwnZ.fr {F : List Nat} {v w : World} {B sz : Nat} {p : Option Addr} {l c : Nat} {xs : List Value} (h : OwnZ v B sz p l c xs) (hf : Fr F v w) (hn : ∀ ad, p = some ad → ad.block ∉ F) : OwnZ w B sz p l c xs := by
  obtain ⟨h1, h2, h3, ⟨rfl, rfl⟩ | ⟨b, zs, rfl, hB, hb, hl⟩⟩ := h
  · exact ⟨h1, h2, h3, .inl ⟨rfl, rfl⟩⟩
  · exact ⟨h1, h2, h3, .inr ⟨b, zs, rfl, hB, hb.fr hf (hn _ rfl), hl⟩⟩
theorem OwnZ.lt {w : World} {B sz : Nat} {p : Option Addr} {l c : Nat} {xs : List Value} (h : OwnZ w B sz p l c xs) {ad : Addr} (hp : p = some ad) : B ≤ ad.block ∧ ad.block < w.heap.size := by
  obtain ⟨_, _, _, ⟨h, _⟩ | ⟨b, zs, h, hB, hb, _⟩⟩ := h
  · rw [h] at hp; cases hp
  · rw [h] at hp; injection hp with hp; subst hp; exact ⟨hB, hb.lt⟩
theorem OwnZ.len {w : World} {B sz : Nat} {p : Option Addr} {l c : Nat} {xs : List Value} (h : OwnZ w B sz p l c xs) : xs.length = l * sz := h.1
theorem OwnZ.mono {w : World} {B B' sz : Nat} {p : Option Addr} {l c : Nat} {xs : List Value} (h : OwnZ w B sz p l c xs) (hB : B' ≤ B) : OwnZ w B' sz p l c xs := by
  obtain ⟨h1, h2, h3, h4 | ⟨b, zs, rfl, hb, h5⟩⟩ := h
  · exact ⟨h1, h2, h3, .inl h4⟩
  · exact ⟨h1, h2, h3, .inr ⟨b, zs, rfl, Nat.le_trans hB hb, h5⟩⟩
theorem OwnZ.blk {w : World} {B sz b n : Nat} {xs : List Value} (h : Blk w b xs) (hl : xs.length = n * sz) (h1 : ∀ u ∈ xs, u.oneCell' = true) (hB : B ≤ b) : OwnZ w B sz (some ⟨b, 0, none⟩) n n xs :=
  ⟨hl, Nat.le_refl _, h1, .inr ⟨b, [], rfl, hB, by rw [List.append_nil]; exact h, by rw [List.append_nil]; exact hl⟩⟩
theorem g_ownz {F : List Nat} {v w : World} {B sz : Nat} {p : Option Addr} {l c : Nat} {xs : List Value} (hf : Fr F v w) (h : OwnZ v B sz p l c xs) (hn : ∀ ad, p = some ad → ad.block ∉ F) : OwnZ w B sz p l c xs := h.fr hf hn
theorem g_ownz_lt {w : World} {B sz : Nat} {ad : Addr} {l c : Nat} {xs : List Value} (h : OwnZ w B sz (some ad) l c xs) : B ≤ ad.block ∧ ad.block < w.heap.size := h.lt rfl

/-- More behind a row of one's own. -/
theorem append_z {cl : Bool} {mods news privs : List Nat} {v : World} {B sz bytes n : Nat} {p : Option Addr} {l c : Nat} {ys xs z : List Value} {K : World → Option Addr → Nat → Nat → Prop} (h : OwnZ v B sz p l c ys) (hn : xs.length = n * sz)
    (hx : ∀ u ∈ xs, u.oneCell' = true) (hB : B ≤ v.heap.size) (hz : z.length = sz) (hcl : cl = true → news = [])
    (hm : ∀ ad, p = some ad → ad.block ∉ mods) (hpr : ∀ ad, p = some ad → ad.block ∈ privs → ad.block ∈ news) (hb : (l + n) * bytes ≤ 140737488355328) (hl : l + n ≤ 140737488355328)
    (hK : ∀ w' p' c', Fr (mods ++ pb p) v w' → News v w' news → OwnZ w' B sz p' (l + n) c' (ys ++ xs) → (∀ ad, p' = some ad → p = some ad ∨ (v.heap.size ≤ ad.block ∧ ad.block ∉ news)) → K w' p' (l + n) c') :
    appendP cl mods news privs v p l c n xs sz bytes z K := by
  have hrow := h.row
  obtain ⟨h1, h2, h3, h4⟩ := h
  have h3' : ∀ u ∈ ys ++ xs, u.oneCell' = true := fun u hu => by
    rcases List.mem_append.1 hu with hu | hu
    · exact h3 u hu
    · exact hx u hu
  have hlen' : (ys ++ xs).length = (l + n) * sz := by rw [List.length_append, Nat.add_mul, h1, hn]
  refine ⟨by omega, by omega, fun hc => ?_, fun hc => ?_⟩
  · have room : ∀ w, Fr mods v w → News v w news → (xs = [] ∧ K w p (l + n) c) ∨
      ∃ ad cs, p = some ad ∧ ad.spot = none ∧ Blk w ad.block cs ∧ ad.off + l * sz + xs.length ≤ cs.length ∧ ad.block ∉ privs ∧ ∀ w', Upd w w' ad.block (sets cs (ad.off + l * sz) xs) → K w' p (l + n) c := fun w st hnw => by
      rcases h4 with ⟨rfl, rfl⟩ | ⟨b, zs, rfl, hBb, hbk, hlen⟩
      · have hn0 : n = 0 := by omega
        have hl0 : l = 0 := by omega
        subst hn0; subst hl0
        have e1 : xs = [] := List.length_eq_zero_iff.1 (by omega)
        subst e1
        left
        refine ⟨rfl, hK w none 0 (st.mono fun x hx => .inl (List.mem_append_left _ hx)) hnw ⟨by simpa using h1, by omega, h3', .inl ⟨rfl, rfl⟩⟩ (fun ad h => by cases h)⟩
      · right
        have hw : Blk w b (ys ++ zs) := hbk.fr st (hm _ rfl)
        have hbl := hbk.lt
        rw [List.length_append] at hlen
        have hzs : n * sz ≤ zs.length := by
          have e := Nat.mul_le_mul_right sz hc
          rw [Nat.add_mul] at e
          omega
        refine ⟨⟨b, 0, none⟩, ys ++ zs, rfl, rfl, hw, by simp only [List.length_append]; omega, (fun hp => by
          have := hnw _ (hpr _ rfl hp)
          simp at this
          omega), fun w' hu => hK w' _ c ?_ (fun n hn => ?_) ⟨hlen', hc, h3', .inr ⟨b, zs.drop (n * sz), rfl, hBb, ?_, ?_⟩⟩ (fun ad hp => .inl hp)⟩
        · exact (st.mono (fun y hy => .inl (List.mem_append_left _ hy))).trans hu.fr (fun y hy => .inl (List.mem_append_right _ (by rw [g_pb_some]; exact hy)))
        · have := hnw n hn
          have := hu.size
          omega
        · have hbk' := hu.blk
          have e : sets (ys ++ zs) (0 + l * sz) xs = (ys ++ xs) ++ zs.drop (n * sz) := by
            rw [sets_eq _ _ _ (by simp only [List.length_append]; omega)]
            unfold spl
            have ed : (ys ++ zs).drop (ys.length + xs.length) = zs.drop xs.length := by rw [List.drop_append]; simp
            rw [Nat.zero_add, ← h1, List.take_left, ← hn, ed]
          rw [← e]; exact hbk'
        · rw [List.length_append, hlen', List.length_drop, Nat.add_mul]
          have e := Nat.mul_le_mul_right sz hc
          rw [Nat.add_mul] at e
          omega
    cases cl with
    | true =>
      rw [hcl rfl] at room ⊢
      exact room v (Fr.refl _ _) (fun n hn => by cases hn)
    | false => exact fun w st => room w st.fr (fun n hn => st.new n hn)
  · refine ⟨ys, h1, hrow, fun b hb2 => ?_, fun w b cap st hcap hbk _ => hK w _ cap ?_ (fun n hn => ?_) ⟨hlen', hcap, h3', .inr ⟨b, reps z (cap - (l + n)), rfl, ?_, hbk, ?_⟩⟩ (fun ad hp => .inr ?_)⟩
    · cases p with
      | none => cases hb2
      | some ad => injection hb2 with hb2; subst hb2; exact hm ad rfl
    · exact st.fr.mono (fun y hy => .inl (List.mem_append_left _ hy))
    · exact st.new n (List.mem_cons_of_mem _ hn)
    · have := (st.new b List.mem_cons_self).1
      omega
    · rw [List.length_append, hlen', reps_length, hz, ← Nat.add_mul]
      congr 1
      omega
    · injection hp with hp; subst hp
      exact ⟨(st.new b List.mem_cons_self).1, (List.nodup_cons.1 st.nd).1⟩
end Go.V

end
section
/- Rows: bytes that become texts, elements that are written. -/
namespace Go.V
open Go.RowKit
set_option linter.unusedVariables false
set_option linter.unusedSimpArgs false

/-- Bytes that become a text. -/
theorem row_str {w : World} {p : Option Addr} {s : ByteArray} {n : Nat} {K : List UInt8 → Prop} (h : Row w p (byteCells s)) (hn : s.size = n) (k : K s.data.toList) :
    ∃ l : List UInt8, l.length = n ∧ (∀ j, j < n → ∃ ad, p = some ad ∧ w.cell? (ad.add j) = some (.int .u8 ((UInt8.toNat (l.getD j 0) : Nat) : Int))) ∧ K l := by
  refine ⟨s.data.toList, by rw [← hn]; exact Array.length_toList, fun j hj => ?_, k⟩
  have hj' : j < s.data.size := by rw [← hn] at hj; exact hj
  obtain ⟨ad, hp⟩ := h.has (by rw [byteCells_length]; omega)
  refine ⟨ad, hp, ?_⟩
  rw [h.get hp (j := j) (u := .int .u8 ((s.data[j].toNat : Nat) : Int)) (by rw [byteCells_get, Array.getElem?_eq_getElem hj']; rfl)]
  rw [List.getD_eq_getElem?_getD, List.getElem?_eq_getElem (by simpa using hj')]
  simp
theorem str_eta (s : ByteArray) : ByteArray.mk (Array.mk s.data.toList) = s := by
  obtain ⟨⟨l⟩⟩ := s; rfl

/-- An element of a row of cells. -/
theorem rdv {w : World} {p : Option Addr} {cs : List Value} {i : Nat} {n L : Int} {u : Value} (h : Row w p cs) (hn : n = i) (hi : cs[i]? = some u) (hL : n < L) :
    ∃ ad, p = some ad ∧ (0 ≤ n ∧ n < L) ∧ w.cell? (ad.add (n.toNat * 1)) = some u := by
  have hi' : i < cs.length := (List.getElem?_eq_some_iff.1 hi).1
  obtain ⟨ad, hp⟩ := h.has (by omega)
  subst hn
  refine ⟨ad, hp, ⟨by omega, hL⟩, ?_⟩
  have := h.get hp hi
  simpa using this

/-- An element of a row of one's own is written. -/
theorem own_store {w : World} {B : Nat} {p : Option Addr} {l c : Nat} {xs : List Value} {ad : Addr} {n : Int} {i : Nat} {x : Value} {privs : List Nat} {K : World → Prop} (h : OwnZ w B 1 p l c xs) (hp : p = some ad) (hn : n = i) (hi : i < l) (hx : x.oneCell' = true)
    (hpr : ad.block ∉ privs) (hK : ∀ w', Upd w w' ad.block ((xs.set i x) ++ (List.replicate 0 x)) ∨ Fr [ad.block] w w' → Fr [ad.block] w w' → w'.heap.size = w.heap.size → OwnZ w' B 1 p l c (xs.set i x) → K w') :
    ∃ cs : List Value, Blk w (Addr.block (ad.add (n.toNat * 1))) cs ∧ Addr.spot (ad.add (n.toNat * 1)) = none ∧ Addr.off (ad.add (n.toNat * 1)) + [x].length ≤ cs.length ∧ ¬ Addr.block (ad.add (n.toNat * 1)) ∈ privs ∧
      ∀ w', Upd w w' (Addr.block (ad.add (n.toNat * 1))) (sets cs (Addr.off (ad.add (n.toNat * 1))) [x]) → K w' := by
  obtain ⟨h1, h2, h3, ⟨h4, _⟩ | ⟨b, zs, h4, hB, hb, hl⟩⟩ := h
  · rw [hp] at h4; cases h4
  rw [hp] at h4; injection h4 with h4; subst h4
  subst hn
  rw [add_mk]
  have e : Int.toNat (i : Int) * 1 = i := by omega
  have e0 : 0 + i = i := Nat.zero_add i
  rw [e, e0]
  refine ⟨xs ++ zs, hb, rfl, ?_, hpr, fun w' hu => hK w' (.inr hu.fr) hu.fr hu.size ⟨by rw [List.length_set]; exact h1, h2, fun u hu => ?_, .inr ⟨b, zs, hp, hB, ?_, by rw [List.length_append, List.length_set]; rw [List.length_append] at hl; exact hl⟩⟩⟩
  · rw [List.length_append, List.length_singleton]; show i + 1 ≤ _; omega
  · rcases List.mem_or_eq_of_mem_set hu with h | h
    · exact h3 u h
    · rw [h]; exact hx
  · have := hu.blk
    have e2 : sets (xs ++ zs) i [x] = xs.set i x ++ zs := by
      show List.set _ _ _ = _
      rw [List.set_append_left _ _ (by omega)]
    rw [← e2]; exact this
end Go.V

end
section
/- What a law is given, read as plain data, whatever its type of numbers, texts, truth values, rows, structs and arrays. -/
namespace Go.V
open Go.RowKit
set_option linter.unusedVariables false
set_option linter.unusedSimpArgs false

/-- Plain data. -/
inductive Dt where
  | i (n : Int)
  | b (x : Bool)
  | s (x : ByteArray)
  | l (x : List Dt)

/-- Cells that read as data. -/
inductive Rd (P : Program) (w : World) : TypeId → List Value → Dt → Prop where
  | int {t : TypeId} {k : IntKind} {n : Int} : P.underlying t = some (.int k) → (Lit.int k n).wf = true → Rd P w t [.int k n] (.i n)
  | bool {t : TypeId} {x : Bool} : P.underlying t = some .bool → Rd P w t [.bool x] (.b x)
  | str {t : TypeId} {x : ByteArray} : P.underlying t = some .string → x.size ≤ reachBytes → Rd P w t [.string x] (.s x)
  | nil {t e : TypeId} : P.underlying t = some (.slice e) → Rd P w t [.slice none 0 0] (.l [])
  | sl {t e : TypeId} {ad : Addr} {len cap : Nat} {z : List Dt} (C : Nat → List Value) : P.underlying t = some (.slice e) → len ≤ cap → cap ≤ maxLen → len * P.bytesOf e ≤ reachBytes → z.length = len →
      (∀ (i : Nat), i < len → (C i).length = P.cellsOf e ∧ ∀ (j : Nat), j < P.cellsOf e → w.cell? ((ad.add (i * P.cellsOf e)).add j) = (C i)[j]?) → (∀ (i : Nat) (d : Dt), z[i]? = some d → Rd P w e (C i) d) → Rd P w t [.slice (some ad) len cap] (.l z)
  | st {t : TypeId} {fs : Array Field} {cs : List Value} {z : List Dt} : P.underlying t = some (.struct fs) → cs.length = P.cellsOf t → z.length = fs.size →
      (∀ (i : Nat) (f : Field) (d : Dt), fs[i]? = some f → z[i]? = some d → Rd P w f.type ((cs.drop f.offset).take (P.cellsOf f.type)) d) → Rd P w t cs (.l z)
  | ar {t e : TypeId} {n : Nat} {cs : List Value} {z : List Dt} : P.underlying t = some (.array n e) → cs.length = P.cellsOf t → z.length = n →
      (∀ (i : Nat) (d : Dt), z[i]? = some d → Rd P w e ((cs.drop (i * P.cellsOf e)).take (P.cellsOf e)) d) → Rd P w t cs (.l z)

/-- Such a type. -/
def plainT (P : Program) : Nat → TypeId → Bool
  | 0, _ => false
  | n + 1, t => match P.underlying t with
    | some (.int _) => true
    | some .bool => true
    | some .string => true
    | some (.slice e) => plainT P n e
    | some (.struct fs) => fs.toList.all fun f => plainT P n f.type
    | some (.array _ e) => plainT P n e
    | _ => false

theorem choose_list {α : Type} {p : Nat → α → Prop} : ∀ {n : Nat}, (∀ i, i < n → ∃ x, p i x) → ∃ l : List α, l.length = n ∧ ∀ i x, l[i]? = some x → p i x
  | 0, _ => ⟨[], rfl, fun i x h => by simp at h⟩
  | n + 1, h => by
    obtain ⟨l, h1, h2⟩ := choose_list (n := n) fun i hi => h i (by omega)
    obtain ⟨x, hx⟩ := h n (by omega)
    refine ⟨l ++ [x], by simp [h1], fun i y hy => ?_⟩
    rcases Nat.lt_trichotomy i n with hi | rfl | hi
    · rw [List.getElem?_append_left (by omega)] at hy
      exact h2 i y hy
    · rw [List.getElem?_append_right (by omega), h1, Nat.sub_self] at hy
      injection hy with hy
      rw [← hy]; exact hx
    · rw [List.getElem?_eq_none (by simp; omega)] at hy
      cases hy

section
variable {H : Type} {enc : TypeId × Value → H} {P : Program} {w : World} {base : Nat} {spare : Nat → Bool} {held : Bool}
theorem mem_all {e : TypeId} : ∀ {l : List (DataW H)} {d : DataW H} {n : Nat}, d ∈ l → n ∈ d.weights P e → n ∈ DataW.weightsAll P e l
  | [], _, _, h, _ => by cases h
  | a :: l, d, n, h, hn => by
    simp only [DataW.weightsAll, List.mem_append]
    rcases List.mem_cons.1 h with rfl | h
    · exact .inl hn
    · exact .inr (mem_all h hn)
theorem rd_of : ∀ (m : Nat) {t : TypeId} {fuel : Nat} {cs : List Value} {x : DataW H × List MemPlace}, plainT P m t = true → DataW.trod enc P w base spare held fuel t cs = some x → (∀ n ∈ x.1.weights P t, n ≤ reachBytes) → ∃ d, Rd P w t cs d
  | 0, _, _, _, _, h, _, _ => by cases h
  | m + 1, t, fuel, cs, x, hp, h, hw => by
    unfold plainT at hp
    split at hp
    · rename_i k hu
      obtain ⟨n, rfl, _, hwf⟩ := DataW.trod_int hu h
      exact ⟨_, .int hu hwf⟩
    · rename_i hu
      obtain ⟨b, rfl, _⟩ := DataW.trod_bool hu h
      exact ⟨_, .bool hu⟩
    · rename_i hu
      obtain ⟨s, rfl, rfl, _⟩ := DataW.trod_string hu h
      exact ⟨_, .str hu (hw _ (by simp [DataW.weights]))⟩
    · rename_i e hu
      rcases DataW.trod_slice hu h with ⟨rfl, _⟩ | ⟨a, len, cap, elems, rest, n, _, rfl, rfl, _, hl, hc, hlen, hel, _⟩
      · exact ⟨_, .nil hu⟩
      · have hw0 : (elems.length + rest.length) * P.bytesOf e ≤ reachBytes := hw _ (by simp [DataW.weights, hu])
        have hwe : ∀ y ∈ elems, ∀ n ∈ y.1.weights P e, n ≤ reachBytes := fun y hy n hn => hw n (by
          simp only [DataW.weights, hu, List.mem_cons, List.mem_append]
          exact .inr (.inl (mem_all (List.mem_map.2 ⟨y, hy, rfl⟩) hn)))
        have hall : ∀ i, i < len → ∃ q : List Value × Dt, (q.1.length = P.cellsOf e ∧ ∀ j, j < P.cellsOf e → w.cell? ((a.add (i * P.cellsOf e)).add j) = q.1[j]?) ∧ Rd P w e q.1 q.2 := fun i hi => by
          have h1 := hel i hi
          have hie : i < elems.length := by omega
          rw [List.getElem?_eq_getElem hie] at h1
          cases hc : w.cells? base (a.add (i * P.cellsOf e)) (P.cellsOf e) with
          | none => rw [hc] at h1; cases h1
          | some cs =>
            rw [hc] at h1
            obtain ⟨d, hd⟩ := rd_of m hp (show DataW.trod enc P w base spare held n e cs = some elems[i] from h1) (hwe _ (List.getElem_mem hie))
            obtain ⟨_, c1, c2⟩ := World.cells?_some hc
            exact ⟨(cs, d), ⟨c1, c2⟩, hd⟩
        obtain ⟨l, h1, h2⟩ := choose_list hall
        refine ⟨.l (l.map (·.2)), .sl (fun i => (l.getD i ([], .i 0)).1) hu hl hc ?_ (by rw [List.length_map]; exact h1) (fun i hi => ?_) (fun i d hd => ?_)⟩
        · have := Nat.mul_le_mul_right (P.bytesOf e) (show len ≤ elems.length + rest.length by omega)
          omega
        · have hil : i < l.length := by omega
          have e1 := List.getElem?_eq_getElem hil
          have := (h2 i _ e1).1
          show (l.getD i ([], .i 0)).1.length = _ ∧ _
          rw [List.getD_eq_getElem?_getD, e1]
          exact this
        · rw [List.getElem?_map] at hd
          cases e1 : l[i]? with
          | none => rw [e1] at hd; cases hd
          | some q =>
            rw [e1] at hd
            injection hd with hd
            have := (h2 i q e1).2
            show Rd P w e (l.getD i ([], .i 0)).1 d
            rw [List.getD_eq_getElem?_getD, e1, ← hd]
            exact this
    · rename_i fs hu
      obtain ⟨xs, n, _, rfl, hl, hlen, hf⟩ := DataW.trod_struct hu h
      have hall : ∀ i, i < fs.size → ∃ d : Dt, ∀ f, fs[i]? = some f → Rd P w f.type ((cs.drop f.offset).take (P.cellsOf f.type)) d := fun i hi => by
        have hix : i < xs.length := by omega
        have h1 := hf i fs[i] (Array.getElem?_eq_getElem hi)
        rw [List.getElem?_eq_getElem hix] at h1
        have hpi : plainT P m fs[i].type = true := List.all_eq_true.1 hp fs[i] (by simp)
        obtain ⟨d, hd⟩ := rd_of m hpi h1 (fun n hn => hw n (by
          simp only [DataW.weights, hu]
          exact DataW.weights_mem_each (j := i) (t := fs[i].type) (d := xs[i].1) (by simp [hi]) (by simp [hix]) n hn))
        exact ⟨d, fun f hf' => by rw [Array.getElem?_eq_getElem hi] at hf'; injection hf' with hf'; rw [← hf']; exact hd⟩
      obtain ⟨l, h1, h2⟩ := choose_list hall
      exact ⟨.l l, .st hu hl h1 fun i f d hf' hd => h2 i d hd f hf'⟩
    · rename_i n e hu
      obtain ⟨xs, k, _, rfl, hl, hlen, hf⟩ := DataW.trod_array hu h
      have hall : ∀ i, i < n → ∃ d : Dt, Rd P w e ((cs.drop (i * P.cellsOf e)).take (P.cellsOf e)) d := fun i hi => by
        have hix : i < xs.length := by omega
        have h1 := hf i hi
        rw [List.getElem?_eq_getElem hix] at h1
        exact rd_of m hp h1 (fun n hn => hw n (by
          simp only [DataW.weights, hu]
          exact mem_all (List.mem_map.2 ⟨_, List.getElem_mem hix, rfl⟩) hn))
      obtain ⟨l, h1, h2⟩ := choose_list hall
      exact ⟨.l l, .ar hu hl h1 h2⟩
    · cases hp
end

/-! ### What they are, by the type -/
section
variable {P : Program} {w : World} {t : TypeId} {cs : List Value} {d : Dt}
theorem Rd.int' {k : IntKind} (hu : P.underlying t = some (.int k)) (h : Rd P w t cs d) : ∃ n, cs = [.int k n] ∧ d = .i n ∧ (Lit.int k n).wf = true := by
  cases h <;> rename_i hu' <;> simp_all
theorem Rd.bool' (hu : P.underlying t = some .bool) (h : Rd P w t cs d) : ∃ x, cs = [.bool x] ∧ d = .b x := by
  cases h <;> simp_all
theorem Rd.str' (hu : P.underlying t = some .string) (h : Rd P w t cs d) : ∃ x, cs = [.string x] ∧ d = .s x ∧ x.size ≤ reachBytes := by
  cases h <;> simp_all
theorem Rd.sl' {e : TypeId} (hu : P.underlying t = some (.slice e)) (h : Rd P w t cs d) : ∃ a len cap z, cs = [.slice a len cap] ∧ d = .l z ∧ z.length = len ∧ len ≤ cap ∧ len * P.bytesOf e ≤ reachBytes ∧
    ∀ i d, z[i]? = some d → ∃ ad C, a = some ad ∧ C.length = P.cellsOf e ∧ (∀ j, j < P.cellsOf e → w.cell? ((ad.add (i * P.cellsOf e)).add j) = C[j]?) ∧ Rd P w e C d := by
  cases h with
  | int hu' => rw [hu] at hu'; cases hu'
  | bool hu' => rw [hu] at hu'; cases hu'
  | str hu' => rw [hu] at hu'; cases hu'
  | nil hu' => exact ⟨none, 0, 0, [], rfl, rfl, rfl, Nat.le_refl _, by simp, fun i d h => by simp at h⟩
  | sl C hu' hl hm hw hz hc hr =>
    rw [hu] at hu'; injection hu' with hu'; injection hu' with hu'; subst hu'
    refine ⟨_, _, _, _, rfl, rfl, hz, hl, hw, fun i d hd => ?_⟩
    have hi := (List.getElem?_eq_some_iff.1 hd).1
    obtain ⟨h1, h2⟩ := hc i (by omega)
    exact ⟨_, C i, rfl, h1, h2, hr i d hd⟩
  | st hu' => rw [hu] at hu'; cases hu'
  | ar hu' => rw [hu] at hu'; cases hu'
theorem Rd.st' {fs : Array Field} (hu : P.underlying t = some (.struct fs)) (h : Rd P w t cs d) : ∃ z, d = .l z ∧ cs.length = P.cellsOf t ∧ z.length = fs.size ∧ ∀ (i : Nat) (f : Field) (d : Dt), fs[i]? = some f → z[i]? = some d → Rd P w f.type ((cs.drop f.offset).take (P.cellsOf f.type)) d := by
  cases h with
  | st hu' h1 h2 h3 =>
    rw [hu] at hu'; injection hu' with hu'; injection hu' with hu'; subst hu'
    exact ⟨_, rfl, h1, h2, h3⟩
  | int hu' => rw [hu] at hu'; cases hu'
  | bool hu' => rw [hu] at hu'; cases hu'
  | str hu' => rw [hu] at hu'; cases hu'
  | nil hu' => rw [hu] at hu'; cases hu'
  | sl C hu' => rw [hu] at hu'; cases hu'
  | ar hu' => rw [hu] at hu'; cases hu'
theorem Rd.ar' {n : Nat} {e : TypeId} (hu : P.underlying t = some (.array n e)) (h : Rd P w t cs d) : ∃ z, d = .l z ∧ cs.length = P.cellsOf t ∧ z.length = n ∧ ∀ i d, z[i]? = some d → Rd P w e ((cs.drop (i * P.cellsOf e)).take (P.cellsOf e)) d := by
  cases h with
  | ar hu' h1 h2 h3 =>
    rw [hu] at hu'; injection hu' with hu'; injection hu' with e1 e2; subst e1; subst e2
    exact ⟨_, rfl, h1, h2, h3⟩
  | int hu' => rw [hu] at hu'; cases hu'
  | bool hu' => rw [hu] at hu'; cases hu'
  | str hu' => rw [hu] at hu'; cases hu'
  | nil hu' => rw [hu] at hu'; cases hu'
  | sl C hu' => rw [hu] at hu'; cases hu'
  | st hu' => rw [hu] at hu'; cases hu'

theorem cell1 {w : World} {ad : Addr} {i : Nat} {C : List Value} {v : Value} (hC : C = [v]) (h : ∀ j, j < 1 → w.cell? ((ad.add (i * 1)).add j) = C[j]?) : w.cell? (ad.add i) = some v := by
  have := h 0 (by omega)
  rw [add0, Nat.mul_one, hC] at this
  exact this
/-- A row of bytes. -/
theorem Rd.bytes2 {e : TypeId} (hu : P.underlying t = some (.slice e)) (he : P.underlying e = some (.int .u8)) (hc : P.cellsOf e = 1) (hb : P.bytesOf e = 1) (h : Rd P w t cs d) :
    ∃ a s cap, cs = [.slice a s.size cap] ∧ Row w a (byteCells s) ∧ s.size ≤ 140737488351232 ∧ s.size ≤ cap := by
  obtain ⟨a, len, cap, z, rfl, rfl, hz, hl, hw, hr⟩ := h.sl' hu
  have hall : ∀ i, i < len → ∃ u : UInt8, ∃ ad, a = some ad ∧ w.cell? (ad.add i) = some (.int .u8 (u.toNat : Int)) := fun i hi => by
    obtain ⟨ad, C, ha, h1, h2, h3⟩ := hr i z[i] (List.getElem?_eq_getElem (by omega))
    obtain ⟨n, hC, _, hwf⟩ := h3.int' he
    rw [hc] at h2
    have e1 : IntKind.u8.min = 0 := by kernel_rfl
    have e2 : IntKind.u8.max = 255 := by kernel_rfl
    simp [Lit.wf, e1, e2] at hwf
    refine ⟨UInt8.ofNat n.toNat, ad, ha, ?_⟩
    rw [cell1 hC h2, UInt8.toNat_ofNat']
    congr 2
    omega
  obtain ⟨l, h1, h2⟩ := choose_list hall
  refine ⟨a, ⟨⟨l⟩⟩, cap, by rw [← h1]; rfl, ⟨fun j u hj => ?_, byteCells_one _⟩, ?_⟩
  · rw [byteCells_get] at hj
    cases e : l[j]? with
    | none => simp [e] at hj
    | some x =>
      simp [e] at hj
      obtain ⟨ad, ha, hcl⟩ := h2 j x e
      exact ⟨ad, ha, by rw [hcl, hj]⟩
  · have e : reachBytes = 140737488351232 := by kernel_rfl
    rw [hb, e, Nat.mul_one] at hw
    show l.length ≤ _ ∧ l.length ≤ _
    omega
theorem Rd.bytes' {e : TypeId} (hu : P.underlying t = some (.slice e)) (he : P.underlying e = some (.int .u8)) (hc : P.cellsOf e = 1) (hb : P.bytesOf e = 1) (h : Rd P w t cs d) :
    ∃ a s cap, cs = [.slice a s.size cap] ∧ Row w a (byteCells s) ∧ s.size ≤ 140737488351232 := by
  obtain ⟨a, s, cap, h1, h2, h3, _⟩ := h.bytes2 hu he hc hb
  exact ⟨a, s, cap, h1, h2, h3⟩
/-- A row of rows of bytes. -/
def RowsC (w : World) (a : Option Addr) (len : Nat) (z : List ByteArray) : Prop :=
  z.length = len ∧ ∀ (r : Nat) (s : ByteArray), z[r]? = some s → ∃ ad A C, a = some ad ∧ w.cell? (ad.add r) = some (.slice A s.size C) ∧ Row w A (byteCells s) ∧ s.size ≤ 140737488351232 ∧ s.size ≤ C
theorem Rd.rows' {f e : TypeId} (hv : P.underlying t = some (.slice f)) (hcf : P.cellsOf f = 1) (hu : P.underlying f = some (.slice e)) (he : P.underlying e = some (.int .u8)) (hc : P.cellsOf e = 1) (hb : P.bytesOf e = 1) (h : Rd P w t cs d) :
    ∃ a z cap, cs = [.slice a z.length cap] ∧ RowsC w a z.length z := by
  obtain ⟨a, len, cap, z, rfl, rfl, hz, hl, hw, hr⟩ := h.sl' hv
  rw [hcf] at hr
  have hall : ∀ i, i < len → ∃ s : ByteArray, ∃ ad A C, a = some ad ∧ w.cell? (ad.add i) = some (.slice A s.size C) ∧ Row w A (byteCells s) ∧ s.size ≤ 140737488351232 ∧ s.size ≤ C := fun i hi => by
    obtain ⟨ad, C, ha, h1, h2, h3⟩ := hr i z[i] (List.getElem?_eq_getElem (by omega))
    obtain ⟨A, s, C2, e1, g1, g2, g3⟩ := h3.bytes2 hu he hc hb
    exact ⟨s, ad, A, C2, ha, cell1 e1 h2, g1, g2, g3⟩
  obtain ⟨l, h1, h2⟩ := choose_list hall
  exact ⟨a, l, cap, by rw [h1], by rw [h1]; exact ⟨h1, h2⟩⟩
theorem RowsC.get {v : World} {a : Option Addr} {len : Nat} {z : List ByteArray} (h : RowsC v a len z) (hf : Fr [] v w) {i : Nat} (hi : i < len) : ∃ s ad A C, z[i]? = some s ∧ a = some ad ∧ w.cell? (ad.add i) = some (.slice A s.size C) ∧ Row w A (byteCells s) ∧ Row v A (byteCells s) ∧ s.size ≤ 140737488351232 ∧ s.size ≤ C := by
  obtain ⟨hl, hz⟩ := h
  have hi' : i < z.length := by omega
  obtain ⟨ad, A, C, e, c, r, b1, b2⟩ := hz i z[i] (List.getElem?_eq_getElem hi')
  exact ⟨z[i], ad, A, C, List.getElem?_eq_getElem hi', e, cell_fr hf c (by simp), g_row hf r (fun ad _ _ => by simp), r, b1, b2⟩
theorem Rd.bools' {e : TypeId} (hu : P.underlying t = some (.slice e)) (he : P.underlying e = some .bool) (hc : P.cellsOf e = 1) (hb : P.bytesOf e = 1) (h : Rd P w t cs d) :
    ∃ (a : Option Addr) (l : List Bool) (cap : Nat), cs = [.slice a l.length cap] ∧ Row w a (l.map .bool) ∧ l.length ≤ 140737488351232 := by
  obtain ⟨a, len, cap, z, rfl, rfl, hz, hl, hw, hr⟩ := h.sl' hu
  have hall : ∀ i, i < len → ∃ u : Bool, ∃ ad, a = some ad ∧ w.cell? (ad.add i) = some (.bool u) := fun i hi => by
    obtain ⟨ad, C, ha, h1, h2, h3⟩ := hr i z[i] (List.getElem?_eq_getElem (by omega))
    obtain ⟨n, hC, _⟩ := h3.bool' he
    rw [hc] at h2
    exact ⟨n, ad, ha, cell1 hC h2⟩
  obtain ⟨l, h1, h2⟩ := choose_list hall
  refine ⟨a, l, cap, by rw [← h1], ⟨fun j u hj => ?_, fun u hu => by obtain ⟨x, _, rfl⟩ := List.mem_map.1 hu; rfl⟩, ?_⟩
  · rw [List.getElem?_map] at hj
    cases e : l[j]? with
    | none => simp [e] at hj
    | some x =>
      simp [e] at hj
      obtain ⟨ad, ha, hcl⟩ := h2 j x e
      exact ⟨ad, ha, by rw [hcl, hj]⟩
  · have e : reachBytes = 140737488351232 := by kernel_rfl
    rw [hb, e, Nat.mul_one] at hw
    omega
theorem Rd.ints' {e : TypeId} (hu : P.underlying t = some (.slice e)) (he : P.underlying e = some (.int .i64)) (hc : P.cellsOf e = 1) (hb : P.bytesOf e = 8) (h : Rd P w t cs d) :
    ∃ (a : Option Addr) (l : List Int) (cap : Nat), cs = [.slice a l.length cap] ∧ Row w a (l.map (Value.int .i64)) ∧ l.length * 8 ≤ 140737488351232 ∧ ∀ n ∈ l, (Lit.int .i64 n).wf = true := by
  obtain ⟨a, len, cap, z, rfl, rfl, hz, hl, hw, hr⟩ := h.sl' hu
  have hall : ∀ i, i < len → ∃ u : Int, (Lit.int .i64 u).wf = true ∧ ∃ ad, a = some ad ∧ w.cell? (ad.add i) = some (.int .i64 u) := fun i hi => by
    obtain ⟨ad, C, ha, h1, h2, h3⟩ := hr i z[i] (List.getElem?_eq_getElem (by omega))
    obtain ⟨n, hC, _, hwf⟩ := h3.int' he
    rw [hc] at h2
    exact ⟨n, hwf, ad, ha, cell1 hC h2⟩
  obtain ⟨l, h1, h2⟩ := choose_list hall
  refine ⟨a, l, cap, by rw [← h1], ⟨fun j u hj => ?_, fun u hu => by obtain ⟨x, _, rfl⟩ := List.mem_map.1 hu; rfl⟩, ?_, fun n hn => ?_⟩
  · rw [List.getElem?_map] at hj
    cases e : l[j]? with
    | none => simp [e] at hj
    | some x =>
      simp [e] at hj
      obtain ⟨_, ad, ha, hcl⟩ := h2 j x e
      exact ⟨ad, ha, by rw [hcl, hj]⟩
  · have e : reachBytes = 140737488351232 := by kernel_rfl
    rw [hb, e] at hw
    omega
  · obtain ⟨i, hi⟩ := List.getElem?_of_mem hn
    exact (h2 i n hi).1
end
theorem wf64 {n : Int} (h : (Lit.int .i64 n).wf = true) : -9223372036854775808 ≤ n ∧ n < 9223372036854775808 := by
  have e1 : IntKind.i64.min = -9223372036854775808 := by kernel_rfl
  have e2 : IntKind.i64.max = 9223372036854775807 := by kernel_rfl
  simp [Lit.wf, e1, e2] at h
  omega
theorem okWide_arr {P : Program} {w : World} {r : Reach} {base : Nat} {t e : TypeId} {n : Nat} {v : Value} (ht : P.underlying t = some (.array n e)) (h : Value.okWide P w r base t v) : ∃ cs, v = .agg cs ∧ cs.size = P.cellsOf t := by
  simp only [Value.okWide, ht] at h
  obtain ⟨cs, h1, h2, _⟩ := h
  exact ⟨cs, h1, h2⟩
theorem Rd.arrInts' {P : Program} {w : World} {t e : TypeId} {cs : List Value} {d : Dt} {n : Nat} {k : IntKind} (hu : P.underlying t = some (.array n e)) (he : P.underlying e = some (.int k)) (hc : P.cellsOf e = 1) (hT : P.cellsOf t = n) (h : Rd P w t cs d) :
    ∃ l : List Int, l.length = n ∧ cs = l.map (Value.int k) ∧ ∀ x ∈ l, (Lit.int k x).wf = true := by
  obtain ⟨z, rfl, hl, hz, hr⟩ := h.ar' hu
  rw [hT] at hl
  have hall : ∀ i, i < n → ∃ m : Int, cs[i]? = some (.int k m) ∧ (Lit.int k m).wf = true := fun i hi => by
    have h1 := hr i z[i] (List.getElem?_eq_getElem (by omega))
    rw [hc, Nat.mul_one] at h1
    obtain ⟨m, e1, _, hwf⟩ := h1.int' he
    refine ⟨m, ?_, hwf⟩
    have e2 : ((cs.drop i).take 1)[0]? = some (.int k m) := by rw [e1]; rfl
    rw [List.getElem?_take_of_lt (by omega), List.getElem?_drop, Nat.add_zero] at e2
    exact e2
  obtain ⟨l, h1, h2⟩ := choose_list hall
  refine ⟨l, h1, List.ext_getElem? fun i => ?_, fun x hx => ?_⟩
  · by_cases hi : i < n
    · have hil : i < l.length := by omega
      rw [List.getElem?_map, List.getElem?_eq_getElem hil, (h2 i _ (List.getElem?_eq_getElem hil)).1]; rfl
    · rw [List.getElem?_eq_none (by omega), List.getElem?_eq_none (by rw [List.length_map]; omega)]
  · obtain ⟨i, hi⟩ := List.getElem?_of_mem hx
    exact (h2 i x hi).2
end Go.V

end
