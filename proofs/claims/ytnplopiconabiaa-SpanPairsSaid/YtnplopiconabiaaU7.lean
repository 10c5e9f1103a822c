/- Rows of structs, pieces of rows, rows that grow within a function that writes nothing of the elder world. -/
import Derived.Test.YtnplopiconabiaaUA
import Derived.Deep.Slices
namespace Go.V
open Go.RowKit
set_option linter.unusedVariables false
set_option linter.unusedSimpArgs false

/-- Elements of sz cells each. -/
structure Flat {α : Type} (f : α → List Value) (sz : Nat) : Prop where
  len1 : ∀ a, (f a).length = sz
  one1 : ∀ a, ∀ u ∈ f a, u.oneCell' = true
section
variable {α : Type} {f : α → List Value} {sz : Nat}
theorem Flat.len (h : Flat f sz) (l : List α) : (l.flatMap f).length = l.length * sz := by
  induction l with
  | nil => simp
  | cons a l ih => rw [List.flatMap_cons, List.length_append, h.len1, ih, List.length_cons, Nat.add_mul]; omega
theorem Flat.one (h : Flat f sz) (l : List α) : ∀ u ∈ l.flatMap f, u.oneCell' = true := fun u hu => by
  obtain ⟨a, _, ha⟩ := List.mem_flatMap.1 hu
  exact h.one1 a u ha
theorem Flat.get (h : Flat f sz) : ∀ (l : List α) (i : Nat) (hi : i < l.length) (j : Nat), j < sz → (l.flatMap f)[i * sz + j]? = (f l[i])[j]?
  | a :: l, 0, _, j, hj => by
    rw [List.flatMap_cons, Nat.zero_mul, Nat.zero_add, List.getElem?_append_left (by rw [h.len1]; exact hj)]; rfl
  | a :: l, i + 1, hi, j, hj => by
    have e := h.get l i (by simpa using hi) j hj
    rw [List.flatMap_cons, Nat.add_mul, Nat.one_mul, List.getElem?_append_right (by rw [h.len1]; omega), h.len1]
    rw [show i * sz + sz + j - sz = i * sz + j by omega, e]; rfl
theorem Flat.take (h : Flat f sz) : ∀ (l : List α) (i : Nat), (l.flatMap f).take (i * sz) = (l.take i).flatMap f
  | [], i => by simp
  | a :: l, 0 => by simp
  | a :: l, i + 1 => by
    rw [List.flatMap_cons, Nat.add_mul, Nat.one_mul, Nat.add_comm (i * sz), List.take_append, h.len1, List.take_of_length_le (by rw [h.len1]; omega), show sz + i * sz - sz = i * sz by omega, h.take l i, List.take_succ_cons, List.flatMap_cons]
theorem Flat.drop (h : Flat f sz) : ∀ (l : List α) (i : Nat), (l.flatMap f).drop (i * sz) = (l.drop i).flatMap f
  | [], i => by simp
  | a :: l, 0 => by simp
  | a :: l, i + 1 => by
    rw [List.flatMap_cons, Nat.add_mul, Nat.one_mul, Nat.add_comm (i * sz), List.drop_append, h.len1, List.drop_of_length_le (by rw [h.len1]; omega), show sz + i * sz - sz = i * sz by omega, h.drop l i, List.drop_succ_cons, List.nil_append]
theorem Row.atF {w : World} {p : Option Addr} {l : List α} (h : Row w p (l.flatMap f)) (F : Flat f sz) (hs : 0 < sz) {i : Nat} (hi : i < l.length) :
    ∃ ad, p = some ad ∧ ∀ j u, (f l[i])[j]? = some u → w.cell? ((ad.add (i * sz)).add j) = some u := by
  have hpos : 0 < (l.flatMap f).length := by
    rw [F.len]; exact Nat.mul_pos (by omega) hs
  obtain ⟨ad, hp⟩ := h.has hpos
  refine ⟨ad, hp, fun j u hu => ?_⟩
  have hj : j < sz := by have := (List.getElem?_eq_some_iff.1 hu).1; rw [F.len1] at this; exact this
  rw [Go.Deep.add_add]
  exact h.get hp (by rw [F.get l i hi j hj]; exact hu)
end
/-- A piece of a row. -/
theorem Row.cut {w : World} {p : Option Addr} {xs : List Value} (h : Row w p xs) {lo hi c sz : Nat} (hc : hi ≤ c) : Row w (subA p lo c sz) ((xs.drop (lo * sz)).take ((hi - lo) * sz)) := by
  refine ⟨fun j u hu => ?_, fun u hu => h.2 u (List.mem_of_mem_drop (List.mem_of_mem_take hu))⟩
  rw [List.getElem?_take] at hu
  split at hu
  · rename_i hj
    rw [List.getElem?_drop] at hu
    obtain ⟨ad, hp, hcell⟩ := h.1 _ u hu
    have hne : c ≠ lo := by
      intro e
      subst e
      have : hi - c = 0 := by omega
      rw [this, Nat.zero_mul] at hj; omega
    refine ⟨ad.add (lo * sz), ?_, by rw [Go.Deep.add_add]; exact hcell⟩
    unfold subA
    rw [if_neg hne, hp]; rfl
  · cases hu
theorem Row.from {w : World} {p : Option Addr} {xs : List Value} (h : Row w p xs) {lo c sz n : Nat} (hl : xs.length = n * sz) (hc : n ≤ c) : Row w (subA p lo c sz) (xs.drop (lo * sz)) := by
  have := h.cut (lo := lo) (hi := n) (c := c) (sz := sz) hc
  rwa [List.take_of_length_le (by rw [List.length_drop, hl, Nat.sub_mul]; omega)] at this
theorem Row.pre {w : World} {p : Option Addr} {xs : List Value} (h : Row w p xs) (n : Nat) : Row w p (xs.take n) :=
  ⟨fun j u hu => (by
    rw [List.getElem?_take] at hu
    split at hu
    · exact h.1 j u hu
    · exact absurd hu (by simp)), fun u hu => h.2 u (List.mem_of_mem_take hu)⟩
theorem subA_blk {p : Option Addr} {l c s : Nat} {ad : Addr} (h : subA p l c s = some ad) : ∃ a, p = some a ∧ ad.block = a.block := by
  unfold subA at h
  split at h
  · exact ⟨ad, h, rfl⟩
  · cases p with
    | none => cases h
    | some a => injection h with h; subst h; exact ⟨a, rfl, add_block a _⟩
theorem subA_0 (p : Option Addr) (c s : Nat) : subA p 0 c s = p := by
  unfold subA
  split
  · rfl
  · cases p with
    | none => rfl
    | some a => simp [add0]
theorem Row.old {v w : World} {p : Option Addr} {xs : List Value} (h : Row v p xs) (hf : Fr [] v w) : Row w p xs := h.fr hf (fun _ _ => by simp)
theorem keepF {bs : List Nat} {v w : World} (hf : Fr [] v w) (h : ∀ b ∈ bs, b < v.heap.size) : Keep bs v w := g_keep hf fun b hb => ⟨h b hb, by simp⟩
/-- More behind a row of one's own, within a function that leaves the elder world (u) as it is; B parts the elder blocks and one's own private ones from what has been made behind them. -/
theorem append_p {cl : Bool} {mods news privs : List Nat} {u v : World} {B sz bytes n : Nat} {p : Option Addr} {l c : Nat} {ys xs z : List Value} {K : World → Option Addr → Nat → Nat → Prop} (h : OwnZ v B sz p l c ys) (f : Fr [] u v) (hn : xs.length = n * sz)
    (hx : ∀ x ∈ xs, x.oneCell' = true) (hz : z.length = sz) (hu : u.heap.size ≤ B) (hB : B ≤ v.heap.size) (hcl : cl = true → news = [])
    (hm : ∀ x ∈ mods, u.heap.size ≤ x ∧ x < B) (hpr : ∀ ad, p = some ad → ∀ x ∈ privs, x ∈ news ∨ ad.block ≠ x) (hb : (l + n) * bytes ≤ 140737488355328) (hl : l + n ≤ 140737488355328)
    (hK : ∀ w' p' c', Fr [] u w' → Fr (mods ++ pb p) v w' → News v w' news → OwnZ w' B sz p' (l + n) c' (ys ++ xs) → (∀ ad, p' = some ad → p = some ad ∨ v.heap.size ≤ ad.block) → K w' p' (l + n) c') :
    appendP cl mods news privs v p l c n xs sz bytes z K := by
  refine append_z h hn hx hB hz hcl (fun ad hp hm' => ?_) (fun ad hp hpr' => ?_) hb hl fun w' p' c' f' n' o' d' => hK w' p' c' (f.trans f' fun x hx => ?_) f' n' o' fun ad hp => (d' ad hp).imp id (·.1)
  · have := (h.lt hp).1; have := (hm _ hm').2; omega
  · rcases hpr ad hp _ hpr' with h1 | h1
    · exact h1
    · exact absurd rfl h1
  · rcases List.mem_append.1 hx with hx | hx
    · exact .inr (hm x hx).1
    · obtain ⟨ad, hp, rfl⟩ := (g_mem_pb _ _).1 hx
      exact .inr (by have := (h.lt hp).1; omega)
theorem appendP_mono {cl : Bool} {mods news privs : List Nat} {v : World} {base : Option Addr} {l c n : Nat} {xs : List Value} {sz bytes : Nat} {z : List Value} {K K' : World → Option Addr → Nat → Nat → Prop} (h : appendP cl mods news privs v base l c n xs sz bytes z K) (hK : ∀ w p l c, K w p l c → K' w p l c) : appendP cl mods news privs v base l c n xs sz bytes z K' := by
  obtain ⟨h1, h2, h3, h4⟩ := h
  refine ⟨h1, h2, fun hc => ?_, fun hc => ?_⟩
  · have := h3 hc
    unfold syncC at this ⊢
    revert this
    cases cl with
    | true =>
      rintro (⟨a, b⟩ | ⟨ad, cs, a, b, c, d, e, g⟩)
      · exact .inl ⟨a, hK _ _ _ _ b⟩
      · exact .inr ⟨ad, cs, a, b, c, d, e, fun w' u => hK _ _ _ _ (g w' u)⟩
    | false =>
      intro this w st
      rcases this w st with ⟨a, b⟩ | ⟨ad, cs, a, b, c, d, e, g⟩
      · exact .inl ⟨a, hK _ _ _ _ b⟩
      · exact .inr ⟨ad, cs, a, b, c, d, e, fun w' u => hK _ _ _ _ (g w' u)⟩
  · obtain ⟨olds, a, b, c, d⟩ := h4 hc
    exact ⟨olds, a, b, c, fun w b cap st hl hb hp => hK _ _ _ _ (d w b cap st hl hb hp)⟩
end Go.V
