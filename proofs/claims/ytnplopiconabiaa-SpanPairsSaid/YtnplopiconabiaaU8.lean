/- One or more elements behind a row of one's own. -/
import Derived.Test.YtnplopiconabiaaU7
namespace Go.V
open Go.RowKit
set_option linter.unusedVariables false
set_option linter.unusedSimpArgs false
section
variable {cl : Bool} {mods news privs : List Nat} {u v : World} {B bytes : Nat} {p : Option Addr} {c : Nat} {z : List Value} {K : World → Option Addr → Nat → Nat → Prop}
theorem appN {α : Type} {f : α → List Value} {sz : Nat} (F : Flat f sz) {ys zs : List α} {n : Nat} (en : n = zs.length) (h : OwnZ v B sz p ys.length c (ys.flatMap f)) (fr : Fr [] u v) (hz : z.length = sz) (hu : u.heap.size ≤ B) (hB : B ≤ v.heap.size) (hcl : cl = true → news = [])
    (hm : ∀ x ∈ mods, u.heap.size ≤ x ∧ x < B) (hpr : ∀ ad, p = some ad → ∀ x ∈ privs, x ∈ news ∨ ad.block ≠ x) (hb : (ys.length + zs.length) * bytes ≤ 140737488355328) (hl : ys.length + zs.length ≤ 140737488355328)
    (hK : ∀ w' p' c', Fr [] u w' → Fr (mods ++ pb p) v w' → News v w' news → OwnZ w' B sz p' (ys ++ zs).length c' ((ys ++ zs).flatMap f) → (∀ ad, p' = some ad → p = some ad ∨ v.heap.size ≤ ad.block) → K w' p' (ys ++ zs).length c') :
    appendP cl mods news privs v p ys.length c n (zs.flatMap f) sz bytes z K := by
  subst en
  refine append_p h fr (F.len zs) (F.one zs) hz hu hB hcl hm hpr hb hl fun w' p' c' f1 f2 n o d => ?_
  have e : ys.length + zs.length = (ys ++ zs).length := by simp
  have e2 : ys.flatMap f ++ zs.flatMap f = (ys ++ zs).flatMap f := by simp
  rw [e2, e] at o
  rw [e]
  exact hK w' p' c' f1 f2 n o d
theorem app1 {α : Type} {f : α → List Value} {sz : Nat} (F : Flat f sz) {ys : List α} {x : α} (h : OwnZ v B sz p ys.length c (ys.flatMap f)) (fr : Fr [] u v) (hz : z.length = sz) (hu : u.heap.size ≤ B) (hB : B ≤ v.heap.size) (hcl : cl = true → news = [])
    (hm : ∀ x ∈ mods, u.heap.size ≤ x ∧ x < B) (hpr : ∀ ad, p = some ad → ∀ x ∈ privs, x ∈ news ∨ ad.block ≠ x) (hb : (ys.length + 1) * bytes ≤ 140737488355328) (hl : ys.length + 1 ≤ 140737488355328)
    (hK : ∀ w' p' c', Fr [] u w' → Fr (mods ++ pb p) v w' → News v w' news → OwnZ w' B sz p' (ys ++ [x]).length c' ((ys ++ [x]).flatMap f) → (∀ ad, p' = some ad → p = some ad ∨ v.heap.size ≤ ad.block) → K w' p' (ys ++ [x]).length c') :
    appendP cl mods news privs v p ys.length c 1 (f x) sz bytes z K := by
  have := appN (zs := [x]) F rfl h fr hz hu hB hcl hm hpr hb hl hK
  simpa using this
theorem appMN {α : Type} {C : α → Value} (hC : ∀ a, (C a).oneCell' = true) {ys zs : List α} {n : Nat} (en : n = zs.length) (h : OwnZ v B 1 p ys.length c (ys.map C)) (fr : Fr [] u v) (hz : z.length = 1) (hu : u.heap.size ≤ B) (hB : B ≤ v.heap.size) (hcl : cl = true → news = [])
    (hm : ∀ x ∈ mods, u.heap.size ≤ x ∧ x < B) (hpr : ∀ ad, p = some ad → ∀ x ∈ privs, x ∈ news ∨ ad.block ≠ x) (hb : (ys.length + zs.length) * bytes ≤ 140737488355328) (hl : ys.length + zs.length ≤ 140737488355328)
    (hK : ∀ w' p' c', Fr [] u w' → Fr (mods ++ pb p) v w' → News v w' news → OwnZ w' B 1 p' (ys ++ zs).length c' ((ys ++ zs).map C) → (∀ ad, p' = some ad → p = some ad ∨ v.heap.size ≤ ad.block) → K w' p' (ys ++ zs).length c') :
    appendP cl mods news privs v p ys.length c n (zs.map C) 1 bytes z K := by
  subst en
  refine append_p h fr (by simp) (fun x hx => by obtain ⟨a, _, rfl⟩ := List.mem_map.1 hx; exact hC a) hz hu hB hcl hm hpr hb hl fun w' p' c' f1 f2 n o d => ?_
  have e : ys.length + zs.length = (ys ++ zs).length := by simp
  have e2 : ys.map C ++ zs.map C = (ys ++ zs).map C := by simp
  rw [e2, e] at o
  rw [e]
  exact hK w' p' c' f1 f2 n o d
theorem appM1 {α : Type} {C : α → Value} (hC : ∀ a, (C a).oneCell' = true) {ys : List α} {x : α} (h : OwnZ v B 1 p ys.length c (ys.map C)) (fr : Fr [] u v) (hz : z.length = 1) (hu : u.heap.size ≤ B) (hB : B ≤ v.heap.size) (hcl : cl = true → news = [])
    (hm : ∀ x ∈ mods, u.heap.size ≤ x ∧ x < B) (hpr : ∀ ad, p = some ad → ∀ x ∈ privs, x ∈ news ∨ ad.block ≠ x) (hb : (ys.length + 1) * bytes ≤ 140737488355328) (hl : ys.length + 1 ≤ 140737488355328)
    (hK : ∀ w' p' c', Fr [] u w' → Fr (mods ++ pb p) v w' → News v w' news → OwnZ w' B 1 p' (ys ++ [x]).length c' ((ys ++ [x]).map C) → (∀ ad, p' = some ad → p = some ad ∨ v.heap.size ≤ ad.block) → K w' p' (ys ++ [x]).length c') :
    appendP cl mods news privs v p ys.length c 1 [C x] 1 bytes z K :=
  appMN (zs := [x]) hC rfl h fr hz hu hB hcl hm hpr hb hl hK
end
theorem Row.blk_lt {w : World} {p : Option Addr} {xs : List Value} (h : Row w p xs) (hn : 0 < xs.length) : ∀ ad, p = some ad → ad.block < w.heap.size := fun ad hp => by
  obtain ⟨ad', hp', hc⟩ := h.1 0 _ (List.getElem?_eq_getElem hn)
  rw [hp] at hp'; injection hp' with hp'; subst hp'
  have := World.block_lt_of_cell? w _ hc
  rwa [add_block] at this
theorem take_snoc {α : Type} {l : List α} {i : Nat} (h : i < l.length) : l.take (i + 1) = l.take i ++ [l[i]] := by rw [List.take_add_one, List.getElem?_eq_getElem h]; rfl
end Go.V
