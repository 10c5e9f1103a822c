/- Rows of one's own no cell of which is frozen; what the shelf's sorts leave of them. -/
import Derived.Test.YtnplopiconabiaaU8
import Derived.Sort.Row
import Derived.Sort.Grow
namespace Go.V
open Go.RowKit
set_option linter.unusedVariables false
set_option linter.unusedSimpArgs false
theorem Plain.fr {F : List Nat} {v w : World} {b : Nat} (h : Plain v b) (hf : Fr F v w) (hb : b < v.heap.size) (hn : b ∉ F) : Plain w b := fun cs T lo hi e => by
  rw [hf.blk b hb hn] at e
  exact h _ _ _ _ e
def OwnP (w : World) (B sz : Nat) (p : Option Addr) (l c : Nat) (xs : List Value) : Prop := OwnZ w B sz p l c xs ∧ ∀ ad, p = some ad → Plain w ad.block
theorem OwnP.fr {F : List Nat} {v w : World} {B sz : Nat} {p : Option Addr} {l c : Nat} {xs : List Value} (h : OwnP v B sz p l c xs) (hf : Fr F v w) (hn : ∀ ad, p = some ad → ad.block ∉ F) : OwnP w B sz p l c xs :=
  ⟨h.1.fr hf hn, fun ad hp => (h.2 ad hp).fr hf (h.1.lt hp).2 (hn ad hp)⟩
theorem OwnP.nil (w : World) (B sz : Nat) : OwnP w B sz none 0 0 [] := ⟨OwnZ.nil _ _ _, fun _ h => by cases h⟩
theorem OwnP.made {w : World} {B sz b n : Nat} {xs : List Value} (h : Made w b xs) (hl : xs.length = n * sz) (h1 : ∀ u ∈ xs, u.oneCell' = true) (hB : B ≤ b) : OwnP w B sz (some ⟨b, 0, none⟩) n n xs :=
  ⟨OwnZ.blk h.1 hl h1 hB, fun ad hp => by injection hp with hp; subst hp; exact h.2⟩
/-- A slice that is made with room, and nothing in it. -/
theorem OwnP.made0 {w : World} {B sz b n : Nat} {xs : List Value} (h : Made w b xs) (hl : xs.length = n * sz) (hB : B ≤ b) : OwnP w B sz (some ⟨b, 0, none⟩) 0 n [] :=
  ⟨⟨by simp, Nat.zero_le _, fun u hu => (by cases hu), .inr ⟨b, xs, rfl, hB, by simpa using h.1, by simpa using hl⟩⟩, fun ad hp => by injection hp with hp; subst hp; exact h.2⟩
/-- One element less at the end. -/
theorem OwnZ.front {w : World} {B sz : Nat} {p : Option Addr} {l c k : Nat} {xs ys : List Value} (h : OwnZ w B sz p l c (xs ++ ys)) (hl : xs.length = k * sz) (hk : k ≤ l) : OwnZ w B sz p k c xs := by
  obtain ⟨h1, h2, h3, h4⟩ := h
  refine ⟨hl, by omega, fun u hu => h3 u (List.mem_append_left _ hu), ?_⟩
  rcases h4 with h4 | ⟨b, zs, e, hB, hb, hc⟩
  · exact .inl h4
  · exact .inr ⟨b, ys ++ zs, e, hB, by rw [← List.append_assoc]; exact hb, by rw [← List.append_assoc]; exact hc⟩
theorem OwnP.front {w : World} {B sz : Nat} {p : Option Addr} {l c k : Nat} {xs ys : List Value} (h : OwnP w B sz p l c (xs ++ ys)) (hl : xs.length = k * sz) (hk : k ≤ l) : OwnP w B sz p k c xs := ⟨h.1.front hl hk, h.2⟩
/-- What is appended to stays plain. -/
theorem appendP_plain {cl : Bool} {mods news privs : List Nat} {v : World} {base : Option Addr} {l c n : Nat} {xs : List Value} {sz bytes : Nat} {z : List Value} {K : World → Option Addr → Nat → Nat → Prop} (hp : ∀ ad, base = some ad → Plain v ad.block ∧ ad.block < v.heap.size ∧ ad.block ∉ mods)
    (h : appendP cl mods news privs v base l c n xs sz bytes z fun w p l c => (∀ ad, p = some ad → Plain w ad.block) → K w p l c) : appendP cl mods news privs v base l c n xs sz bytes z K := by
  obtain ⟨h1, h2, h3, h4⟩ := h
  have stay : ∀ w, Fr mods v w → ∀ ad, base = some ad → Plain w ad.block := fun w f ad e => (hp ad e).1.fr f (hp ad e).2.1 (hp ad e).2.2
  refine ⟨h1, h2, fun hc => ?_, fun hc => ?_⟩
  · have := h3 hc
    unfold syncC at this ⊢
    revert this
    cases cl with
    | true =>
      rintro (⟨a, b⟩ | ⟨ad, cs, a, b, c, d, e, g⟩)
      · exact .inl ⟨a, b (stay v (Fr.refl _ _))⟩
      · exact .inr ⟨ad, cs, a, b, c, d, e, fun w' u => g w' u fun ad' hp' => by rw [a] at hp'; injection hp' with hp'; subst hp'; exact u.pl (hp _ a).1⟩
    | false =>
      intro this w st
      rcases this w st with ⟨a, b⟩ | ⟨ad, cs, a, b, c, d, e, g⟩
      · exact .inl ⟨a, b (stay w st.fr)⟩
      · exact .inr ⟨ad, cs, a, b, c, d, e, fun w' u => g w' u fun ad' hp' => by rw [a] at hp'; injection hp' with hp'; subst hp'; exact u.pl (stay w st.fr _ a)⟩
  · obtain ⟨olds, a, b, c, d⟩ := h4 hc
    exact ⟨olds, a, b, c, fun w b cap st hl hb hpl => d w b cap st hl hb hpl fun ad e => by injection e with e; subst e; exact hpl⟩
theorem OwnP.pl {v : World} {B sz : Nat} {p : Option Addr} {l c : Nat} {xs : List Value} {mods : List Nat} (h : OwnP v B sz p l c xs) (hm : ∀ x ∈ mods, x < B) : ∀ ad, p = some ad → Plain v ad.block ∧ ad.block < v.heap.size ∧ ad.block ∉ mods := fun ad hp =>
  ⟨h.2 ad hp, (h.1.lt hp).2, fun hm' => by have := hm _ hm'; have := (h.1.lt hp).1; omega⟩
section
variable {α : Type} [Inhabited α]
theorem putCells_list (enc : α → Value) (d : Array α) (cs ys zs : List Value) (h : cs = ys ++ zs) (hl : ys.length = d.size) : (Sort.putCells enc 0 d cs.toArray).toList = d.toList.map enc ++ zs := by
  subst h
  apply List.ext_getElem?
  intro i
  have e1 : (Sort.putCells enc 0 d (ys ++ zs).toArray).toList[i]? = ((ys ++ zs)[i]?).map fun x => if 0 ≤ i ∧ i < 0 + d.size then enc d[i - 0]! else x := by
    simp [Sort.putCells, Array.getElem?_mapIdx]
  rw [e1]
  by_cases hi : i < d.size
  · rw [List.getElem?_append_left (by omega), List.getElem?_append_left (by simpa using hi)]
    rw [List.getElem?_eq_getElem (by omega : i < ys.length)]
    simp [hi]
  · rw [List.getElem?_append_right (by omega), List.getElem?_append_right (by simp; omega), hl]
    simp only [List.length_map, Array.length_toList]
    cases zs[i - d.size]? with
    | none => rfl
    | some x => simp [hi]
/-- What a sort leaves of a row of one's own. -/
theorem OwnP.put {enc : α → Value} (h1 : ∀ a, (enc a).oneCell' = true) {w : World} {B b l c : Nat} {xs : List Value} (h : OwnP w B 1 (some ⟨b, 0, none⟩) l c xs) {d : Array α} (hd : d.size = l) (n : Nat) (os : Array Obj) :
    Fr [b] w (Sort.grow (Sort.putRow enc (Sort.ahead w n) b 0 d) os) ∧ OwnP (Sort.grow (Sort.putRow enc (Sort.ahead w n) b 0 d) os) B 1 (some ⟨b, 0, none⟩) l c (d.toList.map enc) := by
  obtain ⟨⟨hl, hlc, hx, ho⟩, hp⟩ := h
  rcases ho with ⟨e, _⟩ | ⟨b', zs, e, hB, ⟨T, lo, hi, hb, hf⟩, hc⟩
  · cases e
  injection e with e; injection e with e; subst e
  have hpl := hp _ rfl _ _ _ _ hb
  have hbs : b < w.heap.size := (Array.getElem?_eq_some_iff.1 hb).1
  have hz : (Sort.putRow enc (Sort.ahead w n) b 0 d).heap.size = w.heap.size := by
    show (w.heap.modify b _).size = _
    simp
  have old : ∀ k, k < w.heap.size → (Sort.grow (Sort.putRow enc (Sort.ahead w n) b 0 d) os).heap[k]? = (w.heap.modify b (Sort.onCells (Sort.putCells enc 0 d)))[k]? := fun k hk => by
    rw [Sort.heap_grow_old _ _ (by rw [hz]; exact hk)]; rfl
  have hfr : Fr [b] w (Sort.grow (Sort.putRow enc (Sort.ahead w n) b 0 d) os) := by
    refine ⟨rfl, rfl, rfl, by rw [Sort.size_grow, hz]; omega, fun k hk hn => ?_⟩
    rw [old k hk, Array.getElem?_modify, if_neg (fun e => hn (by rw [e]; simp))]
  have hnew : (Sort.grow (Sort.putRow enc (Sort.ahead w n) b 0 d) os).heap[b]? = some (.cells (d.toList.map enc ++ zs).toArray T (lo, hi)) := by
    rw [old b hbs, Array.getElem?_modify, if_pos rfl, hb]
    simp only [Option.map_some, Sort.onCells]
    congr 2
    rw [← putCells_list enc d (xs ++ zs) xs zs rfl (by omega)]
  refine ⟨hfr, ⟨⟨by simp [hd], hlc, fun u hu => by obtain ⟨a, _, rfl⟩ := List.mem_map.1 hu; exact h1 a, .inr ⟨b, zs, rfl, hB, ⟨T, lo, hi, hnew, .inl hpl⟩, ?_⟩⟩, fun ad hp' => by injection hp' with hp'; subst hp'; exact Plain.of hnew hpl⟩⟩
  simp only [List.length_append, List.length_map, Array.length_toList] at hc ⊢
  omega
/-- A row of one's own, as the shelf has it. -/
theorem OwnP.holds {enc : α → Value} {w : World} {B b l c : Nat} {d : Array α} (h : OwnP w B 1 (some ⟨b, 0, none⟩) l c (d.toList.map enc)) : Sort.Holds enc w b 0 d := fun j hj => by
  obtain ⟨⟨hl, hlc, hx, ho⟩, hp⟩ := h
  rcases ho with ⟨e, _⟩ | ⟨b', zs, e, hB, ⟨T, lo, hi, hb, hf⟩, hc⟩
  · cases e
  injection e with e; injection e with e; subst e
  have hpl := hp _ rfl _ _ _ _ hb
  constructor
  · rw [Nat.zero_add, cell_of_cells hb]

    rw [List.getElem?_append_left (by simpa using hj)]
    simp [hj]
  · simp only [World.frozen?, hb, Nat.zero_add]
    simp; omega
end
end Go.V
