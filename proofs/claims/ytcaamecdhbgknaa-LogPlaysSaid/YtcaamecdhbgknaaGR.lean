/- The log, plainly: opening a disk that is alive; what is read. -/
import Derived.Test.YtcaamecdhbgknaaGQ
namespace Go.Proofs.Ytcaamecdhbgknaa.Log
open Go Go.V
open Go.Proofs.Ytcaamecdhbgknaa.Disk
set_option linter.unusedVariables false
set_option linter.unusedSimpArgs false
set_option maxRecDepth 20000

theorem rcells_get : ∀ {l : List RI} {i : Nat} {r : RI}, l[i]? = some r → (rcells l)[i * 2]? = some (I64 (r.seq : Nat)) ∧ (rcells l)[i * 2 + 1]? = some (.slice r.p r.data.size r.c) := by
  intro l
  induction l with
  | nil => intro i r h; simp at h
  | cons x l ih =>
    intro i r h
    have e : rcells (x :: l) = I64 (x.seq : Nat) :: .slice x.p x.data.size x.c :: rcells l := by simp [rcells, RI.cells]
    rw [e]
    cases i with
    | zero =>
      simp at h; subst h
      exact ⟨rfl, rfl⟩
    | succ i =>
      have h : l[i]? = some r := by simpa using h
      obtain ⟨h1, h2⟩ := ih h
      rw [show (i + 1) * 2 = i * 2 + 1 + 1 by omega]
      exact ⟨by simpa using h1, by simpa using h2⟩
theorem nextAt_num {rs : RL} (h : Num rs) : nextAt rs = rs.length + 1 := by
  rcases List.eq_nil_or_concat rs with rfl | ⟨l, r, rfl⟩
  · rfl
  · rw [List.concat_eq_append] at h ⊢
    have := h l.length r (by rw [List.getElem?_append_right (Nat.le_refl _), Nat.sub_self]; rfl)
    rw [nextAt_snoc, this]; simp
theorem wipe_alive {M : DM} (hl : M.left < 0) {l : List Int} (h : ∀ x ∈ l, 0 ≤ x ∧ x < M.n) : (wipe M l).2 = 0 ∧ (wipe M l).1.left = M.left := by
  obtain ⟨a1, a2⟩ := writes_alive (l.map fun i => (i, zsec)) hl (fun p hp => by
    obtain ⟨x, hx, rfl⟩ := List.mem_map.1 hp
    exact ⟨(h x hx).1, (h x hx).2, zsec_size⟩)
  unfold wipe
  rw [if_pos a1]
  obtain ⟨b1, b2⟩ := flush_alive (M := (writes M (l.map fun i => (i, zsec))).1) (by omega)
  exact ⟨b1, by omega⟩
theorem ldirty_in {M : DM} {first count : Int} (hb : ¬ badArea M first count) : ∀ x ∈ ldirty M first count, 0 ≤ x ∧ x < M.n := fun x hx => by
  have hb' : ¬ (first < 0 ∨ count < 2 ∨ M.n < first ∨ M.n - first < count) := hb
  unfold ldirty dirtyTo at hx
  obtain ⟨i, hi, rfl⟩ := List.mem_map.1 hx
  have := List.mem_range.1 (List.mem_filter.1 hi).1
  omega
theorem open_alive {M : DM} (hl : M.left < 0) {first count : Int} (hb : ¬ badArea M first count) : (lopen M first count).2 = 0 := by
  unfold lopen
  rw [if_neg hb]
  split
  · rfl
  · exact (wipe_alive hl (ldirty_in hb)).1
/-- What is opened behind a crash. -/
theorem after_scan {C : DM} {L : LM} {rs : RL} {F H : Nat} (hF : L.first = F) (hH : L.behind = H) (hn : C.now = C.sure) (h : After C.sure L rs) : lscan C F H = rs := by
  unfold lscan
  rw [hn]
  obtain ⟨h1, h2⟩ := h
  have e1 : L.first.toNat = F := by omega
  have e2 : L.behind.toNat = H := by omega
  rw [e1, e2] at h1 h2
  exact scan_of_lay rs h1 (by omega) h2
theorem LInv.after {M : DM} {L : LM} {rs : RL} (h : LInv M L rs) (keep : List Bool) (torn cut : Int) : After (M.crash keep torn cut).sure L rs := by
  have e : ∀ j, (M.crash keep torn cut).sure.getD j zsec = M.sure.getD j zsec := fun j => crash_same (h.quiet j) keep torn cut
  refine ⟨lay_congr (S64_of h.ok.s64) rs h.lay (fun i _ _ => e i), ?_⟩
  rcases Nat.lt_or_ge (endAt L.first.toNat rs) L.behind.toNat with hlt | hge
  · exact stop_zero (by rw [e]; exact h.zer _ (Nat.le_refl _) hlt)
  · exact stop_behind hge
/-- A slice that is at hand. -/
structure SI where
  s : ByteArray
  p : Option Addr
  c : Nat
def scells (l : List SI) : List Value := l.map fun x => .slice x.p x.s.size x.c
theorem scells_one (l : List SI) : ∀ u ∈ scells l, u.oneCell' = true := fun u hu => by
  obtain ⟨x, _, rfl⟩ := List.mem_map.1 hu; rfl
theorem add2 (ad : Addr) (m n : Nat) : (ad.add m).add n = ad.add (m + n) := by
  unfold Addr.add
  by_cases hm : m = 0
  · subst hm; simp
  · by_cases hn : n = 0
    · subst hn; simp
    · simp [hm, hn, Nat.add_assoc]
theorem rdS {w : World} {p : Option Addr} {l : List SI} {i : Nat} {n L : Int} {K : Option Addr → Nat → Nat → Prop} (h : Row w p (scells l)) (hn : n = i) (hi : i < l.length) (hL : n < L) (k : K l[i].p l[i].s.size l[i].c) :
    ∃ ad, p = some ad ∧ (0 ≤ n ∧ n < L) ∧ ∃ A k c, w.cell? (ad.add (n.toNat * 1)) = some (.slice A k c) ∧ K A k c := by
  obtain ⟨ad, hp, hb, hc⟩ := rdv (u := .slice l[i].p l[i].s.size l[i].c) h hn (by unfold scells; rw [List.getElem?_map, List.getElem?_eq_getElem hi]; rfl) hL
  exact ⟨ad, hp, hb, _, _, _, hc, k⟩
theorem cut_row {w0 w : World} {a : Option Addr} {len : Nat} {z : List ByteArray} (hz : RowsC w0 a len z) (hf : Fr [] w0 w) {i m : Nat} (hi : i < len) : ∃ s ad A C, a = some ad ∧ w.cell? (ad.add i) = some (.slice A s.size C) ∧ Row w0 A (byteCells (pre s m)) ∧ (pre s m).size = min m s.size ∧ s.size ≤ C := by
  obtain ⟨s, ad, A, C, hs, ha, hcell, _, hrow, hz1, hz2⟩ := hz.get hf hi
  exact ⟨s, ad, A, C, ha, hcell, by rw [pre_cells]; exact Row.take hrow m, pre_size s m, hz2⟩

end Go.Proofs.Ytcaamecdhbgknaa.Log
