/- The locks: the model of an item, of a table; its plain laws. -/
import Derived.Test.YtnimejocaaekaaaUA
namespace Go.Proofs.Ytnimejocaaekaaa.Lock
open Go Go.V
set_option linter.unusedVariables false
set_option linter.unusedSimpArgs false

abbrev AskM := Int × Bool
abbrev Holders := Int → Option Bool
/-- An item: who holds it, and alone or not; who waits. -/
structure IM where
  H : Holders
  Q : List AskM
def IM.none : IM := ⟨fun _ => Option.none, []⟩
def fits (H : Holders) (a : AskM) : Prop := ∀ h al, H h = some al → h ≠ a.1 → al = false ∧ a.2 = false
def hold (H : Holders) (a : AskM) : Holders := fun s => if s = a.1 then some (((H s).getD false) || a.2) else H s
def drop (H : Holders) (s : Int) : Holders := fun h => if h = s then Option.none else H h
open Classical in
/-- As many as fit have it. -/
noncomputable def grant : Holders → List AskM → IM × List Int
  | H, [] => (⟨H, []⟩, [])
  | H, a :: q => if fits H a then ((grant (hold H a) q).1, a.1 :: (grant (hold H a) q).2) else (⟨H, a :: q⟩, [])
/-- A session gives an item up. -/
noncomputable def rel (s : Int) (I : IM) : IM × List Int := grant (drop I.H s) (I.Q.filter fun a => !decide (a.1 = s))
def qcells (q : List AskM) : List Value := q.flatMap fun a => [.int .i64 a.1, .bool a.2]
theorem qcells_len (q : List AskM) : (qcells q).length = q.length * 2 := by
  induction q with
  | nil => rfl
  | cons a q ih =>
    show (Value.int .i64 a.1 :: Value.bool a.2 :: qcells q).length = _
    simp only [List.length_cons]; omega
theorem qcells_cons (a : AskM) (q : List AskM) : qcells (a :: q) = .int .i64 a.1 :: .bool a.2 :: qcells q := rfl
theorem qcells_app (p q : List AskM) : qcells (p ++ q) = qcells p ++ qcells q := by simp [qcells]
theorem qcells_one (q : List AskM) : ∀ u ∈ qcells q, u.oneCell' = true := fun u hu => by
  obtain ⟨a, _, h⟩ := List.mem_flatMap.1 hu
  simp at h
  rcases h with rfl | rfl <;> rfl
theorem qcells_get : ∀ (q : List AskM) (i : Nat) (hi : i < q.length), (qcells q)[i * 2 + 0]? = some (.int .i64 q[i].1) ∧ (qcells q)[i * 2 + 1]? = some (.bool q[i].2)
  | a :: q, 0, _ => ⟨rfl, rfl⟩
  | a :: q, i + 1, hi => by
    have := qcells_get q i (by simpa using hi)
    rw [qcells_cons, show (i + 1) * 2 + 0 = i * 2 + 0 + 1 + 1 by omega, show (i + 1) * 2 + 1 = i * 2 + 1 + 1 + 1 by omega]
    simpa using this
theorem qcells_take (q : List AskM) : ∀ i, (qcells q).take (i * 2) = qcells (q.take i) := by
  induction q with
  | nil => intro i; simp [qcells]
  | cons a q ih =>
    intro i
    cases i with
    | zero => simp [qcells]
    | succ i =>
      rw [qcells_cons, show (i + 1) * 2 = i * 2 + 1 + 1 by omega, List.take_succ_cons, List.take_succ_cons, ih, List.take_succ_cons, qcells_cons]
theorem qcells_drop (q : List AskM) : ∀ i, (qcells q).drop (i * 2) = qcells (q.drop i) := by
  induction q with
  | nil => intro i; simp [qcells]
  | cons a q ih =>
    intro i
    cases i with
    | zero => simp [qcells]
    | succ i =>
      rw [qcells_cons, show (i + 1) * 2 = i * 2 + 1 + 1 by omega, List.drop_succ_cons, List.drop_succ_cons, ih, List.drop_succ_cons]

/-! ### Rows that may begin within a block -/
theorem spl_mid (A X Y B : List Value) (h : X.length = Y.length) : spl (A ++ X ++ B) A.length Y = A ++ Y ++ B := by
  unfold spl
  have e1 : (A ++ X ++ B).take A.length = A := by rw [List.append_assoc, List.take_left]
  have e2 : (A ++ X ++ B).drop (A.length + Y.length) = B := by rw [← h, ← List.length_append, List.drop_left]
  rw [e1, e2]
theorem sets_mid (A X Y B : List Value) (h : X.length = Y.length) : sets (A ++ X ++ B) A.length Y = A ++ Y ++ B := by
  rw [sets_eq _ _ _ (by simp; omega), spl_mid _ _ _ _ h]
/-- A row of cells in pairs, one's own; its block is plain. -/
def OwnQ (w : World) (p : Option Addr) (l c : Nat) (xs : List Value) : Prop :=
  xs.length = l * 2 ∧ l ≤ c ∧ (∀ u ∈ xs, u.oneCell' = true) ∧ ((p = none ∧ c = 0) ∨ ∃ b ys zs, p = some ⟨b, ys.length, none⟩ ∧ Blk w b (ys ++ xs ++ zs) ∧ Plain w b ∧ c * 2 ≤ (xs ++ zs).length)
theorem OwnQ.nil (w : World) : OwnQ w none 0 0 [] := ⟨rfl, Nat.le_refl _, fun u h => (by cases h), .inl ⟨rfl, rfl⟩⟩
theorem OwnQ.row {w : World} {p : Option Addr} {l c : Nat} {xs : List Value} (h : OwnQ w p l c xs) : Row w p xs := by
  obtain ⟨h1, h2, h3, ⟨rfl, rfl⟩ | ⟨b, ys, zs, rfl, hb, hp, hl⟩⟩ := h
  · have : xs = [] := List.length_eq_zero_iff.1 (by omega)
    subst this; exact Row.nil _ _
  · exact Row.of_blk (off := ys.length) hb (fun j u hj => by
      have hlt := (List.getElem?_eq_some_iff.1 hj).1
      rw [List.append_assoc, List.getElem?_append_right (by omega), Nat.add_sub_cancel_left, List.getElem?_append_left hlt]; exact hj) h3
theorem OwnQ.fr {F : List Nat} {v w : World} {p : Option Addr} {l c : Nat} {xs : List Value} (h : OwnQ v p l c xs) (hf : Fr F v w) (hn : ∀ ad, p = some ad → ad.block ∉ F) : OwnQ w p l c xs := by
  obtain ⟨h1, h2, h3, ⟨rfl, rfl⟩ | ⟨b, ys, zs, rfl, hb, hp, hl⟩⟩ := h
  · exact ⟨h1, h2, h3, .inl ⟨rfl, rfl⟩⟩
  · refine ⟨h1, h2, h3, .inr ⟨b, ys, zs, rfl, hb.fr hf (hn _ rfl), fun cs T lo hi e => ?_, hl⟩⟩
    rw [hf.blk b hb.lt (hn _ rfl)] at e
    exact hp _ _ _ _ e
theorem OwnQ.lt {w : World} {p : Option Addr} {l c : Nat} {xs : List Value} (h : OwnQ w p l c xs) {ad : Addr} (hp : p = some ad) : ad.block < w.heap.size := by
  obtain ⟨_, _, _, ⟨h, _⟩ | ⟨b, ys, zs, h, hb, _⟩⟩ := h
  · rw [h] at hp; cases hp
  · rw [h] at hp; injection hp with hp; subst hp; exact hb.lt
theorem OwnQ.tail {w : World} {p : Option Addr} {l c : Nat} {x y : Value} {xs : List Value} (h : OwnQ w p (l + 1) c (x :: y :: xs)) : OwnQ w (subA p 1 c 2) l (c - 1) xs := by
  obtain ⟨h1, h2, h3, ⟨rfl, rfl⟩ | ⟨b, ys, zs, rfl, hb, hp, hl⟩⟩ := h
  · omega
  · simp only [List.length_cons] at h1
    refine ⟨by omega, by omega, fun u hu => h3 u (List.mem_cons_of_mem _ (List.mem_cons_of_mem _ hu)), .inr ?_⟩
    by_cases hc : c = 1
    · subst hc
      have e : xs = [] := List.length_eq_zero_iff.1 (by omega)
      subst e
      exact ⟨b, ys, x :: y :: zs, by simp [subA], by simpa using hb, hp, by simp⟩
    · refine ⟨b, ys ++ [x, y], zs, ?_, by simpa using hb, hp, ?_⟩
      · simp [subA, hc, add_mk]
      · simp only [List.length_append, List.length_cons] at hl ⊢; omega
end Go.Proofs.Ytnimejocaaekaaa.Lock
