/- What stays where the world moves on. -/
import Derived.Test.YtcaamecdhbgknaaV20
namespace Go.V
open Go.RowKit
set_option linter.unusedVariables false
set_option linter.unusedSimpArgs false

/-- From v to w: of the blocks that were there only those of F may have turned. -/
structure Fr (F : List Nat) (v w : World) : Prop where
  os : w.os = v.os
  tape : w.tape = v.tape
  output : w.output = v.output
  size : v.heap.size ≤ w.heap.size
  blk : ∀ b, b < v.heap.size → b ∉ F → w.heap[b]? = v.heap[b]?

theorem Fr.refl (F : List Nat) (v : World) : Fr F v v := ⟨rfl, rfl, rfl, Nat.le_refl _, fun _ _ _ => rfl⟩
theorem Fr.mono {F G : List Nat} {v w : World} (h : Fr F v w) (hs : ∀ x ∈ F, x ∈ G ∨ v.heap.size ≤ x) : Fr G v w :=
  ⟨h.os, h.tape, h.output, h.size, fun b hb hn => h.blk b hb fun hf => by
    rcases hs b hf with h1 | h1
    · exact hn h1
    · omega⟩
theorem Fr.trans {F G : List Nat} {u v w : World} (h : Fr F u v) (k : Fr G v w) (hs : ∀ x ∈ G, x ∈ F ∨ u.heap.size ≤ x) : Fr F u w :=
  ⟨k.os.trans h.os, k.tape.trans h.tape, k.output.trans h.output, Nat.le_trans h.size k.size, fun b hb hn => by
    rw [k.blk b (Nat.lt_of_lt_of_le hb h.size) fun hg => ?_]
    · exact h.blk b hb hn
    · rcases hs b hg with h1 | h1
      · exact hn h1
      · omega⟩
theorem Fr.trans' {F : List Nat} {u v w : World} (h : Fr F u v) (k : Fr F v w) : Fr F u w := h.trans k fun _ hx => .inl hx
theorem Fr.then {F G : List Nat} {u v w : World} (h : Fr F u v) (k : Fr G v w) : Fr (F ++ G) u w :=
  (h.mono (G := F ++ G) fun x hx => .inl (List.mem_append_left _ hx)).trans k fun x hx => .inl (List.mem_append_right _ hx)
theorem Step.fr {v w : World} {mods news : List Nat} (h : Step v w mods news) : Fr mods v w := ⟨h.os, h.tape, h.output, h.size, h.blk⟩
theorem Upd.fr {v w : World} {b : Nat} {cs : List Value} (h : Upd v w b cs) : Fr [b] v w :=
  ⟨h.os, h.tape, h.output, Nat.le_of_eq h.size.symm, fun b' _ hn => h.oth b' fun e => hn (by rw [e]; exact List.mem_singleton.2 rfl)⟩
theorem MUpd.fr {κ : Type} [DecidableEq κ] {enc : κ → Value} {v w : World} {m : Nat} {l : List (κ × Value)} (h : MUpd enc v w m l) : Fr [m] v w :=
  ⟨h.os, h.tape, h.output, Nat.le_of_eq h.size.symm, fun b' _ hn => h.oth b' fun e => hn (by rw [e]; exact List.mem_singleton.2 rfl)⟩
theorem IStep.fr {v w : World} {r : Nat} (h : IStep v w r) : Fr [r] v w :=
  ⟨h.os, h.tape, h.output, Nat.le_of_eq h.size.symm, fun b' _ hn => h.oth b' fun e => hn (by rw [e]; exact List.mem_singleton.2 rfl)⟩
theorem Fr.of_below {v w : World} (h : Below v.heap.size v w) : Fr [] v w := ⟨h.os, h.tape, h.output, h.size, fun b hb _ => h.block b hb⟩
theorem Fr.below {F : List Nat} {v w : World} {n : Nat} (h : Fr F v w) (hn : n ≤ v.heap.size) (hF : ∀ x ∈ F, n ≤ x) : Below n v w :=
  ⟨h.os, h.tape, h.output, h.size, fun b hb => h.blk b (Nat.lt_of_lt_of_le hb hn) fun hf => Nat.lt_irrefl _ (Nat.lt_of_lt_of_le hb (hF b hf))⟩

theorem lt_of_get {w : World} {b : Nat} {o : Obj} (h : w.heap[b]? = some o) : b < w.heap.size := by
  rcases Nat.lt_or_ge b w.heap.size with z | z
  · exact z
  · rw [Array.getElem?_eq_none z] at h; cases h
theorem Fr.get {F : List Nat} {v w : World} (h : Fr F v w) {b : Nat} {o : Obj} (hb : v.heap[b]? = some o) (hn : b ∉ F) : w.heap[b]? = some o :=
  (h.blk b (lt_of_get hb) hn).trans hb

theorem Blk.lt {w : World} {b : Nat} {cs : List Value} (h : Blk w b cs) : b < w.heap.size := by
  obtain ⟨T, lo, hi, hb, _⟩ := h
  exact lt_of_get hb
theorem Blk.fr {F : List Nat} {v w : World} {b : Nat} {cs : List Value} (h : Blk v b cs) (hf : Fr F v w) (hn : b ∉ F) : Blk w b cs := by
  obtain ⟨T, lo, hi, hb, hc⟩ := h
  exact ⟨T, lo, hi, hf.get hb hn, hc⟩
theorem Blk.cell {w : World} {b : Nat} {cs : List Value} (h : Blk w b cs) (o : Nat) : w.cell? ⟨b, o, none⟩ = cs[o]? := by
  obtain ⟨T, lo, hi, hb, hc⟩ := h
  rw [cell_of_cells hb]
theorem Blk.uniq {w : World} {b : Nat} {cs cs' : List Value} (h : Blk w b cs) (h' : Blk w b cs') : cs = cs' := by
  obtain ⟨T, lo, hi, hb, hc⟩ := h
  obtain ⟨T', lo', hi', hb', hc'⟩ := h'
  rw [hb] at hb'
  injection hb' with hb'
  injection hb' with h1
  have := congrArg Array.toList h1
  simpa using this
theorem cell_fr {F : List Nat} {v w : World} (hf : Fr F v w) {ad : Addr} {x : Value} (h : v.cell? ad = some x) (hn : ad.block ∉ F) : w.cell? ad = some x := by
  have hb : ad.block < v.heap.size := by
    rcases Nat.lt_or_ge ad.block v.heap.size with z | z
    · exact z
    · simp [World.cell?, Array.getElem?_eq_none z] at h
  rw [← h]
  simp only [World.cell?]
  rw [hf.blk ad.block hb hn]
theorem add_block' (ad : Addr) (n : Nat) : (ad.add n).block = ad.block := by
  unfold Addr.add; split <;> rfl
theorem Row.fr {F : List Nat} {v w : World} (hf : Fr F v w) {p : Option Addr} {xs : List Value} (h : Row v p xs) (hn : ∀ ad, p = some ad → ad.block ∉ F) : Row w p xs := by
  refine ⟨fun j u hj => ?_, h.2⟩
  obtain ⟨ad, hp, hc⟩ := h.1 j u hj
  exact ⟨ad, hp, cell_fr hf hc (by rw [add_block']; exact hn ad hp)⟩
theorem MapG.lt {κ : Type} [DecidableEq κ] {enc : κ → Value} {w : World} {m : Nat} {l : List (κ × Value)} (h : MapG enc w m l) : m < w.heap.size := by
  obtain ⟨es, clock, hb, _⟩ := h
  exact lt_of_get hb
theorem MapG.fr {κ : Type} [DecidableEq κ] {enc : κ → Value} {F : List Nat} {v w : World} {m : Nat} {l : List (κ × Value)} (h : MapG enc v m l) (hf : Fr F v w) (hn : m ∉ F) : MapG enc w m l := by
  obtain ⟨es, clock, hb, hr⟩ := h
  exact ⟨es, clock, hf.get hb hn, hr⟩
theorem MapG.new {κ : Type} [DecidableEq κ] {enc : κ → Value} {w : World} {m : Nat} (h : w.heap[m]? = some (Obj.map #[] 0)) : MapG enc w m [] :=
  ⟨#[], 0, h, rfl, fun _ h => by simp at h, by simp, by simp⟩
theorem map_ne_blk {κ : Type} [DecidableEq κ] {enc : κ → Value} {w : World} {m b : Nat} {l : List (κ × Value)} {cs : List Value} (h : MapG enc w m l) (hb : Blk w b cs) : m ≠ b := by
  rintro rfl
  obtain ⟨es, clock, h1, _⟩ := h
  obtain ⟨T, lo, hi, h2, _⟩ := hb
  rw [h1] at h2; cases h2

theorem add_block (ad : Addr) (n : Nat) : (ad.add n).block = ad.block := add_block' ad n
theorem add0 (ad : Addr) : ad.add 0 = ad := by
  obtain ⟨b, o, s⟩ := ad
  cases s <;> simp [Addr.add]

/-- Rows of blocks. -/
theorem Row.of_blk {w : World} {b : Nat} {cs xs : List Value} {off : Nat} (h : Blk w b cs) (hx : ∀ j u, xs[j]? = some u → cs[off + j]? = some u) (h1 : ∀ u ∈ xs, u.oneCell' = true) : Row w (some ⟨b, off, none⟩) xs :=
  ⟨fun j u hj => ⟨_, rfl, by rw [add_mk, h.cell]; exact hx j u hj⟩, h1⟩
theorem Row.nil (w : World) (p : Option Addr) : Row w p [] := ⟨fun j u h => by simp at h, fun u h => by simp at h⟩
theorem Row.get {w : World} {p : Option Addr} {xs : List Value} (h : Row w p xs) {ad : Addr} (hp : p = some ad) {j : Nat} {u : Value} (hj : xs[j]? = some u) : w.cell? (ad.add j) = some u := by
  obtain ⟨ad', hp', hc⟩ := h.1 j u hj
  rw [hp] at hp'; injection hp' with hp'; subst hp'; exact hc
theorem Row.has {w : World} {p : Option Addr} {xs : List Value} (h : Row w p xs) (hn : 0 < xs.length) : ∃ ad, p = some ad := by
  obtain ⟨ad, hp, _⟩ := h.1 0 xs[0] (by simp [hn])
  exact ⟨ad, hp⟩

theorem sets0 {cs xs : List Value} (h : xs.length = cs.length) : sets cs 0 xs = xs := by
  rw [sets_eq _ _ _ (by omega)]
  unfold spl
  simp [h]

theorem bc {b : Bool} {p q : Prop} (h1 : b = true → p) (h2 : b = false → q) : bcase b p q := ⟨h1, h2⟩

/-- Wrapping does nothing within the bounds. -/
theorem wrapi {n : Int} (h1 : -9223372036854775808 ≤ n) (h2 : n < 9223372036854775808) : IntKind.wrap .i64 n = n := by
  have e : IntKind.wrap .i64 n = if n % 18446744073709551616 ≥ 9223372036854775808 then n % 18446744073709551616 - 18446744073709551616 else n % 18446744073709551616 := by
    simp [IntKind.wrap, IntKind.bits, IntKind.signed]
  rw [e]
  split <;> omega

end Go.V
