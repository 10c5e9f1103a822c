/- Texts of this session's repo, laid together: U7 U8 U9 U10 U11. -/
import Derived.Test.YtalegpdnhkopmaaDoorUA
import Derived.Deep.Slices
import Derived.Sort.Row
import Derived.Sort.Grow
section
/- Rows of structs, pieces of rows, rows that grow within a function that writes nothing of the elder world. -/
namespace Go.V
open Go.RowKit
set_option linter.unusedVariables false
set_option linter.unusedSimpArgs false

/-- Elements of sz cells each. -/
structure Flat {α : Type} (f : α → List Value) (sz : Nat) : Prop where
  len1 : ∀ a, (f a).length = sz
  one1 : ∀ a, ∀ u ∈ f a, u.oneCell' = true
section
variable {α : Type} {f : α → List Value} {sz : Nat}
theorem Flat.len (h : Flat f sz) (l : List α) : (l.flatMap f).length = l.length * sz := by
  induction l with
  | nil => simp
  | cons a l ih => rw [List.flatMap_cons, List.length_append, h.len1, ih, List.length_cons, Nat.add_mul]; omega
theorem Flat.one (h : Flat f sz) (l : List α) : ∀ u ∈ l.flatMap f, u.oneCell' = true := fun u hu => by
  obtain ⟨a, _, ha⟩ := List.mem_flatMap.1 hu
  exact h.one1 a u ha
theorem Flat.get (h : Flat f sz) : ∀ (l : List α) (i : Nat) (hi : i < l.length) (j : Nat), j < sz → (l.flatMap f)[i * sz + j]? = (f l[i])[j]?
  | a :: l, 0, _, j, hj => by
    rw [List.flatMap_cons, Nat.zero_mul, Nat.zero_add, List.getElem?_append_left (by rw [h.len1]; exact hj)]; rfl
  | a :: l, i + 1, hi, j, hj => by
    have e := h.get l i (by simpa using hi) j hj
    rw [List.flatMap_cons, Nat.add_mul, Nat.one_mul, List.getElem?_append_right (by rw [h.len1]; omega), h.len1]
    rw [show i * sz + sz + j - sz = i * sz + j by omega, e]; rfl
theorem Flat.take (h : Flat f sz) : ∀ (l : List α) (i : Nat), (l.flatMap f).take (i * sz) = (l.take i).flatMap f
  | [], i => by simp
  | a :: l, 0 => by simp
  | a :: l, i + 1 => by
    rw [List.flatMap_cons, Nat.add_mul, Nat.one_mul, Nat.add_comm (i * sz), List.take_append, h.len1, List.take_of_length_le (by rw [h.len1]; omega), show sz + i * sz - sz = i * sz by omega, h.take l i, List.take_succ_cons, List.flatMap_cons]
theorem Flat.drop (h : Flat f sz) : ∀ (l : List α) (i : Nat), (l.flatMap f).drop (i * sz) = (l.drop i).flatMap f
  | [], i => by simp
  | a :: l, 0 => by simp
  | a :: l, i + 1 => by
    rw [List.flatMap_cons, Nat.add_mul, Nat.one_mul, Nat.add_comm (i * sz), List.drop_append, h.len1, List.drop_of_length_le (by rw [h.len1]; omega), show sz + i * sz - sz = i * sz by omega, h.drop l i, List.drop_succ_cons, List.nil_append]
theorem Row.atF {w : World} {p : Option Addr} {l : List α} (h : Row w p (l.flatMap f)) (F : Flat f sz) (hs : 0 < sz) {i : Nat} (hi : i < l.length) :
    ∃ ad, p = some ad ∧ ∀ j u, (f l[i])[j]? = some u → w.cell? ((ad.add (i * sz)).add j) = some u := by
  have hpos : 0 < (l.flatMap f).length := by
    rw [F.len]; exact Nat.mul_pos (by omega) hs
  obtain ⟨ad, hp⟩ := h.has hpos
  refine ⟨ad, hp, fun j u hu => ?_⟩
  have hj : j < sz := by have := (List.getElem?_eq_some_iff.1 hu).1; rw [F.len1] at this; exact this
  rw [Go.Deep.add_add]
  exact h.get hp (by rw [F.get l i hi j hj]; exact hu)
end
/-- A piece of a row. -/
theorem Row.cut {w : World} {p : Option Addr} {xs : List Value} (h : Row w p xs) {lo hi c sz : Nat} (hc : hi ≤ c) : Row w (subA p lo c sz) ((xs.drop (lo * sz)).take ((hi - lo) * sz)) := by
  refine ⟨fun j u hu => ?_, fun u hu => h.2 u (List.mem_of_mem_drop (List.mem_of_mem_take hu))⟩
  rw [List.getElem?_take] at hu
  split at hu
  · rename_i hj
    rw [List.getElem?_drop] at hu
    obtain ⟨ad, hp, hcell⟩ := h.1 _ u hu
    have hne : c ≠ lo := by
      intro e
      subst e
      have : hi - c = 0 := by omega
      rw [this, Nat.zero_mul] at hj; omega
    refine ⟨ad.add (lo * sz), ?_, by rw [Go.Deep.add_add]; exact hcell⟩
    unfold subA
    rw [if_neg hne, hp]; rfl
  · cases hu
theorem Row.from {w : World} {p : Option Addr} {xs : List Value} (h : Row w p xs) {lo c sz n : Nat} (hl : xs.length = n * sz) (hc : n ≤ c) : Row w (subA p lo c sz) (xs.drop (lo * sz)) := by
  have := h.cut (lo := lo) (hi := n) (c := c) (sz := sz) hc
  rwa [List.take_of_length_le (by rw [List.length_drop, hl, Nat.sub_mul]; omega)] at this
theorem Row.pre {w : World} {p : Option Addr} {xs : List Value} (h : Row w p xs) (n : Nat) : Row w p (xs.take n) :=
  ⟨fun j u hu => (by
    rw [List.getElem?_take] at hu
    split at hu
    · exact h.1 j u hu
    · exact absurd hu (by simp)), fun u hu => h.2 u (List.mem_of_mem_take hu)⟩
theorem subA_blk {p : Option Addr} {l c s : Nat} {ad : Addr} (h : subA p l c s = some ad) : ∃ a, p = some a ∧ ad.block = a.block := by
  unfold subA at h
  split at h
  · exact ⟨ad, h, rfl⟩
  · cases p with
    | none => cases h
    | some a => injection h with h; subst h; exact ⟨a, rfl, add_block a _⟩
theorem subA_0 (p : Option Addr) (c s : Nat) : subA p 0 c s = p := by
  unfold subA
  split
  · rfl
  · cases p with
    | none => rfl
    | some a => simp [add0]
theorem Row.old {v w : World} {p : Option Addr} {xs : List Value} (h : Row v p xs) (hf : Fr [] v w) : Row w p xs := h.fr hf (fun _ _ => by simp)
theorem keepF {bs : List Nat} {v w : World} (hf : Fr [] v w) (h : ∀ b ∈ bs, b < v.heap.size) : Keep bs v w := g_keep hf fun b hb => ⟨h b hb, by simp⟩
/-- More behind a row of one's own, within a function that leaves the elder world (u) as it is; B parts the elder blocks and one's own private ones from what has been made behind them. -/
theorem append_p {cl : Bool} {mods news privs : List Nat} {u v : World} {B sz bytes n : Nat} {p : Option Addr} {l c : Nat} {ys xs z : List Value} {K : World → Option Addr → Nat → Nat → Prop} (h : OwnZ v B sz p l c ys) (f : Fr [] u v) (hn : xs.length = n * sz)
    (hx : ∀ x ∈ xs, x.oneCell' = true) (hz : z.length = sz) (hu : u.heap.size ≤ B) (hB : B ≤ v.heap.size) (hcl : cl = true → news = [])
    (hm : ∀ x ∈ mods, u.heap.size ≤ x ∧ x < B) (hpr : ∀ ad, p = some ad → ∀ x ∈ privs, x ∈ news ∨ ad.block ≠ x) (hb : (l + n) * bytes ≤ 140737488355328) (hl : l + n ≤ 140737488355328)
    (hK : ∀ w' p' c', Fr [] u w' → Fr (mods ++ pb p) v w' → News v w' news → OwnZ w' B sz p' (l + n) c' (ys ++ xs) → (∀ ad, p' = some ad → p = some ad ∨ v.heap.size ≤ ad.block) → K w' p' (l + n) c') :
    appendP cl mods news privs v p l c n xs sz bytes z K := by
  refine append_z h hn hx hB hz hcl (fun ad hp hm' => ?_) (fun ad hp hpr' => ?_) hb hl fun w' p' c' f' n' o' d' => hK w' p' c' (f.trans f' fun x hx => ?_) f' n' o' fun ad hp => (d' ad hp).imp id (·.1)
  · have := (h.lt hp).1; have := (hm _ hm').2; omega
  · rcases hpr ad hp _ hpr' with h1 | h1
    · exact h1
    · exact absurd rfl h1
  · rcases List.mem_append.1 hx with hx | hx
    · exact .inr (hm x hx).1
    · obtain ⟨ad, hp, rfl⟩ := (g_mem_pb _ _).1 hx
      exact .inr (by have := (h.lt hp).1; omega)
theorem appendP_mono {cl : Bool} {mods news privs : List Nat} {v : World} {base : Option Addr} {l c n : Nat} {xs : List Value} {sz bytes : Nat} {z : List Value} {K K' : World → Option Addr → Nat → Nat → Prop} (h : appendP cl mods news privs v base l c n xs sz bytes z K) (hK : ∀ w p l c, K w p l c → K' w p l c) : appendP cl mods news privs v base l c n xs sz bytes z K' := by
  obtain ⟨h1, h2, h3, h4⟩ := h
  refine ⟨h1, h2, fun hc => ?_, fun hc => ?_⟩
  · have := h3 hc
    unfold syncC at this ⊢
    revert this
    cases cl with
    | true =>
      rintro (⟨a, b⟩ | ⟨ad, cs, a, b, c, d, e, g⟩)
      · exact .inl ⟨a, hK _ _ _ _ b⟩
      · exact .inr ⟨ad, cs, a, b, c, d, e, fun w' u => hK _ _ _ _ (g w' u)⟩
    | false =>
      intro this w st
      rcases this w st with ⟨a, b⟩ | ⟨ad, cs, a, b, c, d, e, g⟩
      · exact .inl ⟨a, hK _ _ _ _ b⟩
      · exact .inr ⟨ad, cs, a, b, c, d, e, fun w' u => hK _ _ _ _ (g w' u)⟩
  · obtain ⟨olds, a, b, c, d⟩ := h4 hc
    exact ⟨olds, a, b, c, fun w b cap st hl hb hp => hK _ _ _ _ (d w b cap st hl hb hp)⟩
end Go.V

end
section
/- One or more elements behind a row of one's own. -/
namespace Go.V
open Go.RowKit
set_option linter.unusedVariables false
set_option linter.unusedSimpArgs false
section
variable {cl : Bool} {mods news privs : List Nat} {u v : World} {B bytes : Nat} {p : Option Addr} {c : Nat} {z : List Value} {K : World → Option Addr → Nat → Nat → Prop}
theorem appN {α : Type} {f : α → List Value} {sz : Nat} (F : Flat f sz) {ys zs : List α} {n : Nat} (en : n = zs.length) (h : OwnZ v B sz p ys.length c (ys.flatMap f)) (fr : Fr [] u v) (hz : z.length = sz) (hu : u.heap.size ≤ B) (hB : B ≤ v.heap.size) (hcl : cl = true → news = [])
    (hm : ∀ x ∈ mods, u.heap.size ≤ x ∧ x < B) (hpr : ∀ ad, p = some ad → ∀ x ∈ privs, x ∈ news ∨ ad.block ≠ x) (hb : (ys.length + zs.length) * bytes ≤ 140737488355328) (hl : ys.length + zs.length ≤ 140737488355328)
    (hK : ∀ w' p' c', Fr [] u w' → Fr (mods ++ pb p) v w' → News v w' news → OwnZ w' B sz p' (ys ++ zs).length c' ((ys ++ zs).flatMap f) → (∀ ad, p' = some ad → p = some ad ∨ v.heap.size ≤ ad.block) → K w' p' (ys ++ zs).length c') :
    appendP cl mods news privs v p ys.length c n (zs.flatMap f) sz bytes z K := by
  subst en
  refine append_p h fr (F.len zs) (F.one zs) hz hu hB hcl hm hpr hb hl fun w' p' c' f1 f2 n o d => ?_
  have e : ys.length + zs.length = (ys ++ zs).length := by simp
  have e2 : ys.flatMap f ++ zs.flatMap f = (ys ++ zs).flatMap f := by simp
  rw [e2, e] at o
  rw [e]
  exact hK w' p' c' f1 f2 n o d
theorem app1 {α : Type} {f : α → List Value} {sz : Nat} (F : Flat f sz) {ys : List α} {x : α} (h : OwnZ v B sz p ys.length c (ys.flatMap f)) (fr : Fr [] u v) (hz : z.length = sz) (hu : u.heap.size ≤ B) (hB : B ≤ v.heap.size) (hcl : cl = true → news = [])
    (hm : ∀ x ∈ mods, u.heap.size ≤ x ∧ x < B) (hpr : ∀ ad, p = some ad → ∀ x ∈ privs, x ∈ news ∨ ad.block ≠ x) (hb : (ys.length + 1) * bytes ≤ 140737488355328) (hl : ys.length + 1 ≤ 140737488355328)
    (hK : ∀ w' p' c', Fr [] u w' → Fr (mods ++ pb p) v w' → News v w' news → OwnZ w' B sz p' (ys ++ [x]).length c' ((ys ++ [x]).flatMap f) → (∀ ad, p' = some ad → p = some ad ∨ v.heap.size ≤ ad.block) → K w' p' (ys ++ [x]).length c') :
    appendP cl mods news privs v p ys.length c 1 (f x) sz bytes z K := by
  have := appN (zs := [x]) F rfl h fr hz hu hB hcl hm hpr hb hl hK
  simpa using this
theorem appMN {α : Type} {C : α → Value} (hC : ∀ a, (C a).oneCell' = true) {ys zs : List α} {n : Nat} (en : n = zs.length) (h : OwnZ v B 1 p ys.length c (ys.map C)) (fr : Fr [] u v) (hz : z.length = 1) (hu : u.heap.size ≤ B) (hB : B ≤ v.heap.size) (hcl : cl = true → news = [])
    (hm : ∀ x ∈ mods, u.heap.size ≤ x ∧ x < B) (hpr : ∀ ad, p = some ad → ∀ x ∈ privs, x ∈ news ∨ ad.block ≠ x) (hb : (ys.length + zs.length) * bytes ≤ 140737488355328) (hl : ys.length + zs.length ≤ 140737488355328)
    (hK : ∀ w' p' c', Fr [] u w' → Fr (mods ++ pb p) v w' → News v w' news → OwnZ w' B 1 p' (ys ++ zs).length c' ((ys ++ zs).map C) → (∀ ad, p' = some ad → p = some ad ∨ v.heap.size ≤ ad.block) → K w' p' (ys ++ zs).length c') :
    appendP cl mods news privs v p ys.length c n (zs.map C) 1 bytes z K := by
  subst en
  refine append_p h fr (by simp) (fun x hx => by obtain ⟨a, _, rfl⟩ := List.mem_map.1 hx; exact hC a) hz hu hB hcl hm hpr hb hl fun w' p' c' f1 f2 n o d => ?_
  have e : ys.length + zs.length = (ys ++ zs).length := by simp
  have e2 : ys.map C ++ zs.map C = (ys ++ zs).map C := by simp
  rw [e2, e] at o
  rw [e]
  exact hK w' p' c' f1 f2 n o d
theorem appM1 {α : Type} {C : α → Value} (hC : ∀ a, (C a).oneCell' = true) {ys : List α} {x : α} (h : OwnZ v B 1 p ys.length c (ys.map C)) (fr : Fr [] u v) (hz : z.length = 1) (hu : u.heap.size ≤ B) (hB : B ≤ v.heap.size) (hcl : cl = true → news = [])
    (hm : ∀ x ∈ mods, u.heap.size ≤ x ∧ x < B) (hpr : ∀ ad, p = some ad → ∀ x ∈ privs, x ∈ news ∨ ad.block ≠ x) (hb : (ys.length + 1) * bytes ≤ 140737488355328) (hl : ys.length + 1 ≤ 140737488355328)
    (hK : ∀ w' p' c', Fr [] u w' → Fr (mods ++ pb p) v w' → News v w' news → OwnZ w' B 1 p' (ys ++ [x]).length c' ((ys ++ [x]).map C) → (∀ ad, p' = some ad → p = some ad ∨ v.heap.size ≤ ad.block) → K w' p' (ys ++ [x]).length c') :
    appendP cl mods news privs v p ys.length c 1 [C x] 1 bytes z K :=
  appMN (zs := [x]) hC rfl h fr hz hu hB hcl hm hpr hb hl hK
end
theorem Row.blk_lt {w : World} {p : Option Addr} {xs : List Value} (h : Row w p xs) (hn : 0 < xs.length) : ∀ ad, p = some ad → ad.block < w.heap.size := fun ad hp => by
  obtain ⟨ad', hp', hc⟩ := h.1 0 _ (List.getElem?_eq_getElem hn)
  rw [hp] at hp'; injection hp' with hp'; subst hp'
  have := World.block_lt_of_cell? w _ hc
  rwa [add_block] at this
theorem take_snoc {α : Type} {l : List α} {i : Nat} (h : i < l.length) : l.take (i + 1) = l.take i ++ [l[i]] := by rw [List.take_add_one, List.getElem?_eq_getElem h]; rfl
end Go.V

end
section
/- An entry gets another value while its map is gone over. -/
namespace Go.V
open Go.RowKit
set_option linter.unusedVariables false
set_option linter.unusedSimpArgs false
section
variable {κ : Type} [DecidableEq κ]
theorem updM_keys : ∀ (l : List (κ × Value)) (k : κ) (y x : Value), (k, y) ∈ l → (updM l k x).map (·.1) = l.map (·.1)
  | (a, z) :: l, k, y, x, h => by
    simp only [updM]
    split
    · rename_i e; subst e; rfl
    · rename_i e
      rcases List.mem_cons.1 h with h | h
      · injection h with h1; exact absurd h1 e
      · rw [List.map_cons, List.map_cons, updM_keys l k y x h]
theorem IterG.upd {enc : κ → Value} {v w : World} {r m : Nat} {l : List (κ × Value)} {done : List κ} {k : κ} {y x : Value} (h : IterG enc v r m l done) (hu : MUpd enc v w m (updM l k x)) (hk : (k, y) ∈ l) : IterG enc w r m (updM l k x) done := by
  obtain ⟨es, clock, since, seen, last, hr, hm, hl, hb, hnd, hkn, hd⟩ := h
  have hlen : es.toList.length = l.length := by simpa using congrArg List.length hl
  have hkeys := updM_keys l k y x hk
  have hll : (updM l k x).length = l.length := by simpa using congrArg List.length hkeys
  obtain ⟨es', hw, hbo⟩ := hu.bo es clock hm (by rw [hll, ← hlen]; simp)
  obtain ⟨es2, clock2, hw2, hl2, hb2, hnd2, hkn2⟩ := hu.map
  rw [hw] at hw2; injection hw2 with hw2; injection hw2 with hw2 hw3; subst hw2; subst hw3
  have hlen' : es'.toList.length = es.toList.length := by simpa using congrArg List.length hbo
  have hne : r ≠ m := fun e => by rw [e, hm] at hr; injection hr with hr; cases hr
  have born : ∀ (j : Nat) e e', es[j]? = some e → es'[j]? = some e' → e'.born = e.born := fun j e e' h1 h2 => by
    have := congrArg (fun q => q[j]?) hbo
    simp only [List.getElem?_map, Array.getElem?_toList, h1, h2] at this
    simpa using this
  refine ⟨es', clock, since, seen, last, (hu.oth r hne).trans hr, hw, hl2, fun e' he' => ?_, hnd2, hkn2, fun j e' p h1 h2 => ?_⟩
  · obtain ⟨j, hj, rfl⟩ := List.mem_iff_getElem.1 he'
    have hj' : j < es.size := by simp at hlen' hj; omega
    have e1 : es[j]? = some es[j] := Array.getElem?_eq_getElem hj'
    have e2 : es'[j]? = some es'.toList[j] := by simp at hj; simp [hj]
    rw [born j _ _ e1 e2]
    exact hb _ (by simp)
  · have hj' : j < es.size := by
      have := (Array.getElem?_eq_some_iff.1 h1).1
      simp at hlen'; omega
    have e1 : es[j]? = some es[j] := Array.getElem?_eq_getElem hj'
    have hjl : j < l.length := by rw [← hlen]; simpa using hj'
    have e3 : p.1 = (l[j]).1 := by
      have := congrArg (fun q => q[j]?) hkeys
      simp only [List.getElem?_map, h2, List.getElem?_eq_getElem hjl] at this
      simpa using this
    rw [born j _ _ e1 h1, e3]
    exact hd j _ _ e1 (List.getElem?_eq_getElem hjl)
theorem IterO.upd {enc : κ → Value} {v w : World} {r m : Nat} {l : List (κ × Value)} {done : List κ} {k : κ} {y x : Value} (h : IterO enc v r (some m) l done) (hu : MUpd enc v w m (updM l k x)) (hk : (k, y) ∈ l) : IterO enc w r (some m) (updM l k x) done := IterG.upd h hu hk
end
end Go.V

end
section
/- Rows of one's own no cell of which is frozen; what the shelf's sorts leave of them. -/
namespace Go.V
open Go.RowKit
set_option linter.unusedVariables false
set_option linter.unusedSimpArgs false
theorem Plain.fr {F : List Nat} {v w : World} {b : Nat} (h : Plain v b) (hf : Fr F v w) (hb : b < v.heap.size) (hn : b ∉ F) : Plain w b := fun cs T lo hi e => by
  rw [hf.blk b hb hn] at e
  exact h _ _ _ _ e
def OwnP (w : World) (B sz : Nat) (p : Option Addr) (l c : Nat) (xs : List Value) : Prop := OwnZ w B sz p l c xs ∧ ∀ ad, p = some ad → Plain w ad.block
theorem OwnP.fr {F : List Nat} {v w : World} {B sz : Nat} {p : Option Addr} {l c : Nat} {xs : List Value} (h : OwnP v B sz p l c xs) (hf : Fr F v w) (hn : ∀ ad, p = some ad → ad.block ∉ F) : OwnP w B sz p l c xs :=
  ⟨h.1.fr hf hn, fun ad hp => (h.2 ad hp).fr hf (h.1.lt hp).2 (hn ad hp)⟩
theorem OwnP.nil (w : World) (B sz : Nat) : OwnP w B sz none 0 0 [] := ⟨OwnZ.nil _ _ _, fun _ h => by cases h⟩
theorem OwnP.made {w : World} {B sz b n : Nat} {xs : List Value} (h : Made w b xs) (hl : xs.length = n * sz) (h1 : ∀ u ∈ xs, u.oneCell' = true) (hB : B ≤ b) : OwnP w B sz (some ⟨b, 0, none⟩) n n xs :=
  ⟨OwnZ.blk h.1 hl h1 hB, fun ad hp => by injection hp with hp; subst hp; exact h.2⟩
/-- A slice that is made with room, and nothing in it. -/
theorem OwnP.made0 {w : World} {B sz b n : Nat} {xs : List Value} (h : Made w b xs) (hl : xs.length = n * sz) (hB : B ≤ b) : OwnP w B sz (some ⟨b, 0, none⟩) 0 n [] :=
  ⟨⟨by simp, Nat.zero_le _, fun u hu => (by cases hu), .inr ⟨b, xs, rfl, hB, by simpa using h.1, by simpa using hl⟩⟩, fun ad hp => by injection hp with hp; subst hp; exact h.2⟩
/-- One element less at the end. -/
theorem OwnZ.front {w : World} {B sz : Nat} {p : Option Addr} {l c k : Nat} {xs ys : List Value} (h : OwnZ w B sz p l c (xs ++ ys)) (hl : xs.length = k * sz) (hk : k ≤ l) : OwnZ w B sz p k c xs := by
  obtain ⟨h1, h2, h3, h4⟩ := h
  refine ⟨hl, by omega, fun u hu => h3 u (List.mem_append_left _ hu), ?_⟩
  rcases h4 with h4 | ⟨b, zs, e, hB, hb, hc⟩
  · exact .inl h4
  · exact .inr ⟨b, ys ++ zs, e, hB, by rw [← List.append_assoc]; exact hb, by rw [← List.append_assoc]; exact hc⟩
theorem OwnP.front {w : World} {B sz : Nat} {p : Option Addr} {l c k : Nat} {xs ys : List Value} (h : OwnP w B sz p l c (xs ++ ys)) (hl : xs.length = k * sz) (hk : k ≤ l) : OwnP w B sz p k c xs := ⟨h.1.front hl hk, h.2⟩
/-- What is appended to stays plain. -/
theorem appendP_plain {cl : Bool} {mods news privs : List Nat} {v : World} {base : Option Addr} {l c n : Nat} {xs : List Value} {sz bytes : Nat} {z : List Value} {K : World → Option Addr → Nat → Nat → Prop} (hp : ∀ ad, base = some ad → Plain v ad.block ∧ ad.block < v.heap.size ∧ ad.block ∉ mods)
    (h : appendP cl mods news privs v base l c n xs sz bytes z fun w p l c => (∀ ad, p = some ad → Plain w ad.block) → K w p l c) : appendP cl mods news privs v base l c n xs sz bytes z K := by
  obtain ⟨h1, h2, h3, h4⟩ := h
  have stay : ∀ w, Fr mods v w → ∀ ad, base = some ad → Plain w ad.block := fun w f ad e => (hp ad e).1.fr f (hp ad e).2.1 (hp ad e).2.2
  refine ⟨h1, h2, fun hc => ?_, fun hc => ?_⟩
  · have := h3 hc
    unfold syncC at this ⊢
    revert this
    cases cl with
    | true =>
      rintro (⟨a, b⟩ | ⟨ad, cs, a, b, c, d, e, g⟩)
      · exact .inl ⟨a, b (stay v (Fr.refl _ _))⟩
      · exact .inr ⟨ad, cs, a, b, c, d, e, fun w' u => g w' u fun ad' hp' => by rw [a] at hp'; injection hp' with hp'; subst hp'; exact u.pl (hp _ a).1⟩
    | false =>
      intro this w st
      rcases this w st with ⟨a, b⟩ | ⟨ad, cs, a, b, c, d, e, g⟩
      · exact .inl ⟨a, b (stay w st.fr)⟩
      · exact .inr ⟨ad, cs, a, b, c, d, e, fun w' u => g w' u fun ad' hp' => by rw [a] at hp'; injection hp' with hp'; subst hp'; exact u.pl (stay w st.fr _ a)⟩
  · obtain ⟨olds, a, b, c, d⟩ := h4 hc
    exact ⟨olds, a, b, c, fun w b cap st hl hb hpl => d w b cap st hl hb hpl fun ad e => by injection e with e; subst e; exact hpl⟩
theorem OwnP.pl {v : World} {B sz : Nat} {p : Option Addr} {l c : Nat} {xs : List Value} {mods : List Nat} (h : OwnP v B sz p l c xs) (hm : ∀ x ∈ mods, x < B) : ∀ ad, p = some ad → Plain v ad.block ∧ ad.block < v.heap.size ∧ ad.block ∉ mods := fun ad hp =>
  ⟨h.2 ad hp, (h.1.lt hp).2, fun hm' => by have := hm _ hm'; have := (h.1.lt hp).1; omega⟩
section
variable {α : Type} [Inhabited α]
theorem putCells_list (enc : α → Value) (d : Array α) (cs ys zs : List Value) (h : cs = ys ++ zs) (hl : ys.length = d.size) : (Sort.putCells enc 0 d cs.toArray).toList = d.toList.map enc ++ zs := by
  subst h
  apply List.ext_getElem?
  intro i
  have e1 : (Sort.putCells enc 0 d (ys ++ zs).toArray).toList[i]? = ((ys ++ zs)[i]?).map fun x => if 0 ≤ i ∧ i < 0 + d.size then enc d[i - 0]! else x := by
    simp [Sort.putCells, Array.getElem?_mapIdx]
  rw [e1]
  by_cases hi : i < d.size
  · rw [List.getElem?_append_left (by omega), List.getElem?_append_left (by simpa using hi)]
    rw [List.getElem?_eq_getElem (by omega : i < ys.length)]
    simp [hi]
  · rw [List.getElem?_append_right (by omega), List.getElem?_append_right (by simp; omega), hl]
    simp only [List.length_map, Array.length_toList]
    cases zs[i - d.size]? with
    | none => rfl
    | some x => simp [hi]
/-- What a sort leaves of a row of one's own. -/
theorem OwnP.put {enc : α → Value} (h1 : ∀ a, (enc a).oneCell' = true) {w : World} {B b l c : Nat} {xs : List Value} (h : OwnP w B 1 (some ⟨b, 0, none⟩) l c xs) {d : Array α} (hd : d.size = l) (n : Nat) (os : Array Obj) :
    Fr [b] w (Sort.grow (Sort.putRow enc (Sort.ahead w n) b 0 d) os) ∧ OwnP (Sort.grow (Sort.putRow enc (Sort.ahead w n) b 0 d) os) B 1 (some ⟨b, 0, none⟩) l c (d.toList.map enc) := by
  obtain ⟨⟨hl, hlc, hx, ho⟩, hp⟩ := h
  rcases ho with ⟨e, _⟩ | ⟨b', zs, e, hB, ⟨T, lo, hi, hb, hf⟩, hc⟩
  · cases e
  injection e with e; injection e with e; subst e
  have hpl := hp _ rfl _ _ _ _ hb
  have hbs : b < w.heap.size := (Array.getElem?_eq_some_iff.1 hb).1
  have hz : (Sort.putRow enc (Sort.ahead w n) b 0 d).heap.size = w.heap.size := by
    show (w.heap.modify b _).size = _
    simp
  have old : ∀ k, k < w.heap.size → (Sort.grow (Sort.putRow enc (Sort.ahead w n) b 0 d) os).heap[k]? = (w.heap.modify b (Sort.onCells (Sort.putCells enc 0 d)))[k]? := fun k hk => by
    rw [Sort.heap_grow_old _ _ (by rw [hz]; exact hk)]; rfl
  have hfr : Fr [b] w (Sort.grow (Sort.putRow enc (Sort.ahead w n) b 0 d) os) := by
    refine ⟨rfl, rfl, rfl, by rw [Sort.size_grow, hz]; omega, fun k hk hn => ?_⟩
    rw [old k hk, Array.getElem?_modify, if_neg (fun e => hn (by rw [e]; simp))]
  have hnew : (Sort.grow (Sort.putRow enc (Sort.ahead w n) b 0 d) os).heap[b]? = some (.cells (d.toList.map enc ++ zs).toArray T (lo, hi)) := by
    rw [old b hbs, Array.getElem?_modify, if_pos rfl, hb]
    simp only [Option.map_some, Sort.onCells]
    congr 2
    rw [← putCells_list enc d (xs ++ zs) xs zs rfl (by omega)]
  refine ⟨hfr, ⟨⟨by simp [hd], hlc, fun u hu => by obtain ⟨a, _, rfl⟩ := List.mem_map.1 hu; exact h1 a, .inr ⟨b, zs, rfl, hB, ⟨T, lo, hi, hnew, .inl hpl⟩, ?_⟩⟩, fun ad hp' => by injection hp' with hp'; subst hp'; exact Plain.of hnew hpl⟩⟩
  simp only [List.length_append, List.length_map, Array.length_toList] at hc ⊢
  omega
/-- A row of one's own, as the shelf has it. -/
theorem OwnP.holds {enc : α → Value} {w : World} {B b l c : Nat} {d : Array α} (h : OwnP w B 1 (some ⟨b, 0, none⟩) l c (d.toList.map enc)) : Sort.Holds enc w b 0 d := fun j hj => by
  obtain ⟨⟨hl, hlc, hx, ho⟩, hp⟩ := h
  rcases ho with ⟨e, _⟩ | ⟨b', zs, e, hB, ⟨T, lo, hi, hb, hf⟩, hc⟩
  · cases e
  injection e with e; injection e with e; subst e
  have hpl := hp _ rfl _ _ _ _ hb
  constructor
  · rw [Nat.zero_add, cell_of_cells hb]

    rw [List.getElem?_append_left (by simpa using hj)]
    simp [hj]
  · simp only [World.frozen?, hb, Nat.zero_add]
    simp; omega
end
end Go.V

end
section
/- Rows of one's own that begin behind their block's first cell (a queue cut at its head). -/
namespace Go.V
open Go.RowKit
set_option linter.unusedVariables false
set_option linter.unusedSimpArgs false
theorem spl_mid (A X Y B : List Value) (h : X.length = Y.length) : spl (A ++ X ++ B) A.length Y = A ++ Y ++ B := by
  unfold spl
  have e1 : (A ++ X ++ B).take A.length = A := by rw [List.append_assoc, List.take_left]
  have e2 : (A ++ X ++ B).drop (A.length + Y.length) = B := by rw [← h, ← List.length_append, List.drop_left]
  rw [e1, e2]
theorem sets_mid (A X Y B : List Value) (h : X.length = Y.length) : sets (A ++ X ++ B) A.length Y = A ++ Y ++ B := by
  rw [sets_eq _ _ _ (by simp; omega), spl_mid _ _ _ _ h]
def OwnO (w : World) (B : Nat) (p : Option Addr) (l c : Nat) (xs : List Value) : Prop :=
  xs.length = l ∧ l ≤ c ∧ (∀ u ∈ xs, u.oneCell' = true) ∧ ((p = none ∧ c = 0) ∨ ∃ b ys zs, p = some ⟨b, ys.length, none⟩ ∧ B ≤ b ∧ Blk w b (ys ++ xs ++ zs) ∧ c ≤ (xs ++ zs).length)
theorem OwnO.row {w : World} {B : Nat} {p : Option Addr} {l c : Nat} {xs : List Value} (h : OwnO w B p l c xs) : Row w p xs := by
  obtain ⟨h1, h2, h3, ⟨rfl, rfl⟩ | ⟨b, ys, zs, rfl, hB, hb, hl⟩⟩ := h
  · have : xs = [] := List.length_eq_zero_iff.1 (by omega)
    subst this; exact Row.nil _ _
  · exact Row.of_blk (off := ys.length) hb (fun j u hj => by
      have hlt := (List.getElem?_eq_some_iff.1 hj).1
      rw [List.append_assoc, List.getElem?_append_right (by omega), Nat.add_sub_cancel_left, List.getElem?_append_left hlt]; exact hj) h3
theorem OwnO.fr {F : List Nat} {v w : World} {B : Nat} {p : Option Addr} {l c : Nat} {xs : List Value} (h : OwnO v B p l c xs) (hf : Fr F v w) (hn : ∀ ad, p = some ad → ad.block ∉ F) : OwnO w B p l c xs := by
  obtain ⟨h1, h2, h3, ⟨rfl, rfl⟩ | ⟨b, ys, zs, rfl, hB, hb, hl⟩⟩ := h
  · exact ⟨h1, h2, h3, .inl ⟨rfl, rfl⟩⟩
  · exact ⟨h1, h2, h3, .inr ⟨b, ys, zs, rfl, hB, hb.fr hf (hn _ rfl), hl⟩⟩
theorem OwnO.lt {w : World} {B : Nat} {p : Option Addr} {l c : Nat} {xs : List Value} (h : OwnO w B p l c xs) {ad : Addr} (hp : p = some ad) : B ≤ ad.block ∧ ad.block < w.heap.size := by
  obtain ⟨_, _, _, ⟨h, _⟩ | ⟨b, ys, zs, h, hB, hb, _⟩⟩ := h
  · rw [h] at hp; cases hp
  · rw [h] at hp; injection hp with hp; subst hp; exact ⟨hB, hb.lt⟩
theorem OwnO.blk {w : World} {B : Nat} {p : Option Addr} {l c : Nat} {xs : List Value} (h : OwnO w B p l c xs) {ad : Addr} (hp : p = some ad) : ∃ cs, Blk w ad.block cs := by
  obtain ⟨_, _, _, ⟨h, _⟩ | ⟨b, ys, zs, h, hB, hb, _⟩⟩ := h
  · rw [h] at hp; cases hp
  · rw [h] at hp; injection hp with hp; subst hp; exact ⟨_, hb⟩
theorem OwnO.of {w : World} {B b : Nat} {xs : List Value} (h : Blk w b xs) (h1 : ∀ u ∈ xs, u.oneCell' = true) (hB : B ≤ b) : OwnO w B (some ⟨b, 0, none⟩) xs.length xs.length xs :=
  ⟨rfl, Nat.le_refl _, h1, .inr ⟨b, [], [], rfl, hB, by simpa using h, by simp⟩⟩
theorem OwnO.tail {w : World} {B : Nat} {p : Option Addr} {l c : Nat} {x : Value} {xs : List Value} (h : OwnO w B p (l + 1) c (x :: xs)) : OwnO w B (subA p 1 c 1) l (c - 1) xs := by
  obtain ⟨h1, h2, h3, ⟨rfl, rfl⟩ | ⟨b, ys, zs, rfl, hB, hb, hl⟩⟩ := h
  · omega
  · simp only [List.length_cons] at h1
    refine ⟨by omega, by omega, fun u hu => h3 u (List.mem_cons_of_mem _ hu), .inr ?_⟩
    by_cases hc : c = 1
    · subst hc
      have e : xs = [] := List.length_eq_zero_iff.1 (by omega)
      subst e
      exact ⟨b, ys, x :: zs, by simp [subA], hB, by simpa using hb, by simp⟩
    · refine ⟨b, ys ++ [x], zs, ?_, hB, by simpa using hb, ?_⟩
      · simp [subA, hc, add_mk]
      · simp only [List.length_append, List.length_cons] at hl ⊢; omega
theorem append_o {v : World} {B : Nat} {p : Option Addr} {l c k : Nat} {ys : List Value} {x : Value} {K : World → Option Addr → Nat → Nat → Prop} (h : OwnO v B p l c ys) (hx : x.oneCell' = true) (hb : l + 1 ≤ 1000000) (hB : B ≤ v.heap.size)
    (hK : ∀ w' p' c', Fr (pb p) v w' → OwnO w' B p' (l + 1) c' (ys ++ [x]) → (∀ ad, p' = some ad → ad.block ∈ pb p ∨ v.heap.size ≤ ad.block) → K w' p' (l + 1) c') : appendP false [] [k] [k] v p l c 1 [x] 1 8 [.int .i64 0] K := by
  have hrow := h.row
  have hh := h
  obtain ⟨h1, h2, h3, h4⟩ := h
  have h3' : ∀ u ∈ ys ++ [x], u.oneCell' = true := fun u hu => by
    rcases List.mem_append.1 hu with hu | hu
    · exact h3 u hu
    · rw [List.mem_singleton.1 hu]; exact hx
  have hlen : (ys ++ [x]).length = l + 1 := by rw [List.length_append]; simp [h1]
  refine ⟨by omega, by omega, fun hc w st => ?_, fun hc => ⟨ys, by omega, hrow, fun b _ => by simp, fun w b cap st hcap hbk hpl => hK w _ cap (st.fr.mono (fun x hx => by cases hx)) ⟨hlen, hcap, h3', .inr ⟨b, [], _, rfl, ?_, hbk, ?_⟩⟩ (fun ad hp => ?_)⟩⟩
  · have hn := g_new1 st
    rcases h4 with ⟨_, rfl⟩ | ⟨b, A, zs, rfl, hBb, hbk, hcz⟩
    · omega
    · rw [List.length_append] at hcz
      obtain ⟨z1, zs', rfl⟩ : ∃ z1 zs', zs = z1 :: zs' := by
        match zs, hcz with
        | [], h => simp at h; omega
        | z1 :: zs', _ => exact ⟨z1, zs', rfl⟩
      have hlt := hbk.lt
      have hbw : Blk w b (A ++ ys ++ z1 :: zs') := hbk.fr st.fr (by simp)
      refine .inr ⟨⟨b, A.length, none⟩, _, rfl, rfl, hbw, ?_, by simp; omega, fun w' hu => ?_⟩
      · simp only [List.length_append, List.length_cons, List.length_nil, h1]; omega
      · have e : sets (A ++ ys ++ z1 :: zs') (A.length + l * 1) [x] = (A ++ ys) ++ [x] ++ zs' := by
          rw [Nat.mul_one, ← h1, ← List.length_append]
          have := sets_mid (A ++ ys) [z1] [x] zs' rfl
          simpa using this
        have hu : Upd w w' b (sets (A ++ ys ++ z1 :: zs') (A.length + l * 1) [x]) := hu
        rw [e] at hu
        refine hK w' _ c ((st.fr.mono (fun x hx => by cases hx)).trans hu.fr (fun x hx => .inl (by simpa [pb] using hx))) ⟨hlen, hc, h3', .inr ⟨b, A, zs', rfl, hBb, by have := hu.blk; rw [List.append_assoc A] at this; exact this, ?_⟩⟩ (fun ad hp => .inl (by injection hp with hp; subst hp; simp [pb]))
        simp only [List.length_append, List.length_cons] at hcz ⊢
        omega
  · exact Nat.le_trans hB (st.new b List.mem_cons_self).1
  · simp only [List.length_append, reps_length, List.length_cons, List.length_nil, h1]; omega
  · injection hp with hp; subst hp
    exact .inr (st.new b List.mem_cons_self).1
end Go.V

end
