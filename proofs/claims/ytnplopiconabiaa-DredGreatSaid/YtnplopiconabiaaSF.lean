/- Span: SpanGreat. -/
import Derived.Test.YtnplopiconabiaaXB
import Derived.Test.YtnplopiconabiaaL8
namespace Go.Proofs.Ytnplopiconabiaa.Span
open Go Go.V
open Go.Proofs.Ytnplopiconabiaa.VC
open Go.Proofs.Try (prog)
set_option linter.unusedVariables false
set_option linter.unusedSimpArgs false
set_option maxRecDepth 20000

def rowE (i : Nat) : List EG := (List.range i).map fun (j : Nat) => ⟨(j : Int) + 1, labA, (j : Int) + 2⟩
def leafE (i : Nat) : List EG := (List.range i).map fun (j : Nat) => ⟨200 + 2 * (j : Int), labA, 201 + 2 * (j : Int)⟩
theorem rowE_succ (i : Nat) : rowE (i + 1) = rowE i ++ [⟨(i : Int) + 1, labA, (i : Int) + 2⟩] := by unfold rowE; rw [List.range_succ, List.map_append]; rfl
theorem leafE_succ (i : Nat) : leafE (i + 1) = leafE i ++ [⟨200 + 2 * (i : Int), labA, 201 + 2 * (i : Int)⟩] := by unfold leafE; rw [List.range_succ, List.map_append]; rfl
theorem rowE_len (i : Nat) : (rowE i).length = i := by simp [rowE]
theorem leafE_len (i : Nat) : (leafE i).length = i := by simp [leafE]
abbrev E8 (n : Nat) : List EG := rowE 88 ++ leafE n
theorem mem_E8 {n : Nat} {e : EG} : e ∈ E8 n ↔ (∃ j : Nat, j < 88 ∧ e = ⟨(j : Int) + 1, labA, (j : Int) + 2⟩) ∨ ∃ j : Nat, j < n ∧ e = ⟨200 + 2 * (j : Int), labA, 201 + 2 * (j : Int)⟩ := by
  unfold E8
  rw [List.mem_append]
  unfold rowE leafE
  simp only [List.mem_map, List.mem_range]
  constructor
  · rintro (⟨j, h, rfl⟩ | ⟨j, h, rfl⟩)
    · exact .inl ⟨j, h, rfl⟩
    · exact .inr ⟨j, h, rfl⟩
  · rintro (⟨j, h, rfl⟩ | ⟨j, h, rfl⟩)
    · exact .inl ⟨j, h, rfl⟩
    · exact .inr ⟨j, h, rfl⟩
theorem T8 {n : Nat} {y x : Int} : x ∈ succs (E8 n) labA y ↔ (1 ≤ y ∧ y ≤ 88 ∧ x = y + 1) ∨ ∃ i : Nat, i < n ∧ y = 200 + 2 * (i : Int) ∧ x = 201 + 2 * (i : Int) := by
  rw [mem_succs]
  constructor
  · rintro ⟨e, he, h1, h2, h3⟩
    rcases mem_E8.1 he with ⟨j, hj, rfl⟩ | ⟨j, hj, rfl⟩
    · have h2 : (j : Int) + 1 = y := h2
      have h3 : (j : Int) + 2 = x := h3
      exact .inl (by omega)
    · exact .inr ⟨j, hj, h2.symm, h3.symm⟩
  · rintro (⟨h1, h2, rfl⟩ | ⟨i, hi, rfl, rfl⟩)
    · refine ⟨⟨((y - 1).toNat : Int) + 1, labA, ((y - 1).toNat : Int) + 2⟩, mem_E8.2 (.inl ⟨_, by omega, rfl⟩), rfl, ?_, ?_⟩
      · show ((y - 1).toNat : Int) + 1 = y; omega
      · show ((y - 1).toNat : Int) + 2 = y + 1; omega
    · exact ⟨_, mem_E8.2 (.inr ⟨i, hi, rfl⟩), rfl, rfl, rfl⟩
theorem R8 {n : Nat} {a b : Int} : Reach (succs (E8 n) labA) a b ↔ (1 ≤ a ∧ a < b ∧ b ≤ 89) ∨ ∃ i : Nat, i < n ∧ a = 200 + 2 * (i : Int) ∧ b = 201 + 2 * (i : Int) := by
  constructor
  · intro h
    induction h with
    | one h =>
      rcases T8.1 h with h | h
      · exact .inl (by omega)
      · exact .inr h
    | more _ h ih =>
      rcases ih with ih | ⟨i, hi, h1, h2⟩ <;> rcases T8.1 h with h | ⟨i', hi', h1', h2'⟩
      · exact .inl (by omega)
      · omega
      · omega
      · omega
  · rintro (⟨h1, h2, h3⟩ | ⟨i, hi, h1, h2⟩)
    · have key : ∀ d : Nat, a + 1 + d ≤ 89 → Reach (succs (E8 n) labA) a (a + 1 + d) := fun d => by
        induction d with
        | zero => intro h; exact .one (T8.2 (.inl (by omega)))
        | succ d ih => intro h; exact .more (ih (by omega)) (T8.2 (.inl (by omega)))
      have := key (b - a - 1).toNat (by omega)
      rw [show a + 1 + ((b - a - 1).toNat : Int) = b by omega] at this
      exact this
    · exact .one (T8.2 (.inr ⟨i, hi, h1, h2⟩))
def P8a : List PI := (List.range 88).flatMap fun (i : Nat) => (List.range (88 - i)).map fun (j : Nat) => ((i : Int) + 1, (i : Int) + 2 + (j : Int))
def P8b (n : Nat) : List PI := (List.range n).map fun (i : Nat) => (200 + 2 * (i : Int), 201 + 2 * (i : Int))
theorem mem_P8a {x : PI} : x ∈ P8a ↔ 1 ≤ x.1 ∧ x.1 < x.2 ∧ x.2 ≤ 89 := by
  unfold P8a
  simp only [List.mem_flatMap, List.mem_map, List.mem_range]
  constructor
  · rintro ⟨i, hi, j, hj, rfl⟩
    show (1 : Int) ≤ (i : Int) + 1 ∧ (i : Int) + 1 < (i : Int) + 2 + (j : Int) ∧ (i : Int) + 2 + (j : Int) ≤ 89
    omega
  · rintro ⟨h1, h2, h3⟩
    refine ⟨(x.1 - 1).toNat, by omega, (x.2 - x.1 - 1).toNat, by omega, ?_⟩
    refine Prod.ext ?_ ?_
    · show ((x.1 - 1).toNat : Int) + 1 = x.1; omega
    · show ((x.1 - 1).toNat : Int) + 2 + ((x.2 - x.1 - 1).toNat : Int) = x.2; omega
theorem mem_P8b {n : Nat} {x : PI} : x ∈ P8b n ↔ ∃ i : Nat, i < n ∧ x.1 = 200 + 2 * (i : Int) ∧ x.2 = 201 + 2 * (i : Int) := by
  unfold P8b
  simp only [List.mem_map, List.mem_range]
  constructor
  · rintro ⟨i, hi, rfl⟩; exact ⟨i, hi, rfl, rfl⟩
  · rintro ⟨i, hi, h1, h2⟩; exact ⟨i, hi, Prod.ext h1.symm h2.symm⟩
theorem P8a_len : P8a.length = 3916 := by
  unfold P8a
  rw [List.length_flatMap]
  simp only [List.length_map, List.length_range]
  decide
theorem P8_nodup (n : Nat) : (P8a ++ P8b n).Nodup := by
  rw [List.nodup_append]
  refine ⟨?_, ?_, fun x hx y hy e => ?_⟩
  · unfold P8a List.Nodup
    rw [List.pairwise_flatMap]
    refine ⟨fun i _ => ?_, ?_⟩
    · rw [List.pairwise_map]
      refine List.pairwise_lt_range.imp (fun {a b} h => ?_)
      intro e
      injection e with _ e; omega
    · refine List.pairwise_lt_range.imp (fun {a b} h => ?_)
      intro x hx y hy e
      obtain ⟨j, _, rfl⟩ := List.mem_map.1 hx
      obtain ⟨j', _, rfl⟩ := List.mem_map.1 hy
      injection e with e _; omega
  · unfold P8b List.Nodup
    rw [List.pairwise_map]
    refine List.pairwise_lt_range.imp (fun {a b} h => ?_)
    intro e
    injection e with e _; omega
  · rw [mem_P8a] at hx
    subst e
    obtain ⟨i, _, h, _⟩ := mem_P8b.1 hy
    omega
theorem mod3 (more : Int) : ∃ r : Nat, r < 3 ∧ IntKind.wrap .i64 (Int.tmod (IntKind.wrap .u64 more) 3) = (r : Int) := by
  have e : IntKind.wrap .u64 more = more % 18446744073709551616 := rfl
  have h0 : 0 ≤ more % 18446744073709551616 := Int.emod_nonneg _ (by omega)
  rw [e, Int.tmod_eq_emod_of_nonneg h0]
  have h1 : 0 ≤ more % 18446744073709551616 % 3 := Int.emod_nonneg _ (by omega)
  have h2 : more % 18446744073709551616 % 3 < 3 := Int.emod_lt_of_pos _ (by omega)
  generalize more % 18446744073709551616 % 3 = q at *
  exact ⟨q.toNat, by omega, by rw [wrapi (by omega) (by omega)]; omega⟩

set_option maxHeartbeats 1000000 in
theorem great_walk (w : World) (more : Int) : Calls prog 8 #[I64 more] w fun e w' => e = .returned (.bool true) ∧ RowKit.Below w.heap.size w w' := by
  refine rhizomelaw13_SpanGreat.link ((awake_c w).mono ?_)
  rintro e1 w2 ⟨rfl, f2⟩
  obtain ⟨r, hr, er⟩ := mod3 more
  refine ⟨_, rfl, bF rfl ⟨by omega, ?_⟩⟩
  rw [er]
  refine ⟨fun mm p k c n w' => ∃ i : Nat, n = (i : Int) + 1 ∧ i ≤ 88 ∧ mm = 88 - i ∧ k = (rowE i).length ∧ OwnZ w' w2.heap.size 3 p (rowE i).length c ((rowE i).flatMap gcell) ∧ Fr [] w2 w', 88, ⟨0, rfl, by omega, rfl, rfl, OwnZ.nil _ _ _, Fr.refl _ _⟩, ?_⟩
  rintro mm p7 k8 c9 n w11 ⟨i, rfl, hi, rfl, rfl, o, F⟩
  refine bc (fun hlt => ?_) fun hge => ?_
  · have hlt : (i : Int) + 1 < 89 := of_decide_eq_true hlt
    have ew : IntKind.wrap .i64 ((i : Int) + 1 + 1) = (i : Int) + 2 := by rw [wrapi (by omega) (by omega)]; omega
    rw [ew]
    intro k13
    have hln := rowE_len i
    refine app1 (f := gcell) flatG (x := ⟨(i : Int) + 1, labA, (i : Int) + 2⟩) (u := w2) (B := w2.heap.size) o F rfl (Nat.le_refl _) F.size (fun h => by cases h) (by simp) (fun ad hp x hx => .inl hx) (by omega) (by omega) fun w14 p15 c17 F14 _ _ o14 _ => ?_
    rw [← rowE_succ] at o14 ⊢
    exact ⟨88 - (i + 1), by omega, i + 1, by omega, by omega, rfl, rfl, o14, F14⟩
  · have hge : ¬ (i : Int) + 1 < 89 := of_decide_eq_false hge
    have hi88 : i = 88 := by omega
    subst hi88
    refine ⟨fun mm p k c n w' => ∃ j : Nat, n = (j : Int) ∧ j ≤ 83 + r ∧ mm = 83 + r - j ∧ k = (E8 j).length ∧ OwnZ w' w2.heap.size 3 p (E8 j).length c ((E8 j).flatMap gcell) ∧ Fr [] w2 w', 83 + r, ⟨0, rfl, by omega, rfl, by simp [E8, leafE], by simpa [E8, leafE] using o, F⟩, ?_⟩
    clear F o
    rintro mm p22 k23 c24 n w26 ⟨j, rfl, hj, rfl, rfl, o, F⟩
    have ew : IntKind.wrap .i64 ((83 : Int) + (r : Int)) = 83 + (r : Int) := wrapi (by omega) (by omega)
    have hln : (E8 j).length = 88 + j := by simp [E8, rowE_len, leafE_len]
    rw [ew]
    refine bc (fun hlt => ?_) fun hge => ?_
    · have hlt : (j : Int) < 83 + (r : Int) := of_decide_eq_true hlt
      have e1 : IntKind.wrap .i64 ((200 : Int) + IntKind.wrap .i64 (2 * (j : Int))) = 200 + 2 * (j : Int) := by rw [wrapi (n := 2 * (j : Int)) (by omega) (by omega), wrapi (by omega) (by omega)]
      have e2 : IntKind.wrap .i64 ((201 : Int) + IntKind.wrap .i64 (2 * (j : Int))) = 201 + 2 * (j : Int) := by rw [wrapi (n := 2 * (j : Int)) (by omega) (by omega), wrapi (by omega) (by omega)]
      rw [e1, e2]
      intro k28
      refine app1 (f := gcell) flatG (x := ⟨200 + 2 * (j : Int), labA, 201 + 2 * (j : Int)⟩) (u := w2) (B := w2.heap.size) o F rfl (Nat.le_refl _) F.size (fun h => by cases h) (by simp) (fun ad hp x hx => .inl hx) (by omega) (by omega) fun w14 p15 c17 F14 _ _ o14 _ => ?_
      have es : E8 j ++ [⟨200 + 2 * (j : Int), labA, 201 + 2 * (j : Int)⟩] = E8 (j + 1) := by unfold E8; rw [leafE_succ, List.append_assoc]
      rw [es] at o14 ⊢
      exact ⟨83 + r - (j + 1), by omega, j + 1, by rw [wrapi (by omega) (by omega)]; omega, by omega, rfl, rfl, o14, F14⟩
    · have hge : ¬ (j : Int) < 83 + (r : Int) := of_decide_eq_false hge
      have hj' : j = 83 + r := by omega
      subst hj'
      have hP : ∀ x : PI, x ∈ P8a ++ P8b (83 + r) ↔ Reach (succs (E8 (83 + r)) labA) x.1 x.2 := fun x => by rw [List.mem_append, mem_P8a, mem_P8b, R8]
      have hPl : (P8a ++ P8b (83 + r)).length = 3999 + r := by rw [List.length_append, P8a_len]; simp [P8b]; omega
      refine (pairs_c (lab := labA) (E := E8 (83 + r)) o.row (by omega) (fun e he => ?_)).mono ?_
      · unfold inR
        rcases mem_E8.1 he with ⟨j, hj, rfl⟩ | ⟨j, hj, rfl⟩
        · show -9223372036854775808 ≤ (j : Int) + 1 ∧ (j : Int) + 1 ≤ 9223372036854775807; omega
        · show -9223372036854775808 ≤ 200 + 2 * (j : Int) ∧ 200 + 2 * (j : Int) ≤ 9223372036854775807; omega
      rintro e34 w35 ⟨f35, hs⟩
      rw [labA_ok] at hs
      have Fin : RowKit.Below w.heap.size w w35 := (f2.trans' (F.trans' f35)).below (Nat.le_refl _) (by simp)
      by_cases hr2 : r = 2
      · have hX : e34 = .returned (.tuple #[.slice none 0 0, I64 5]) := by
          rcases hs with ⟨h, _⟩ | ⟨_, ⟨X, _, _, _, e⟩ | ⟨b, Z, _, hs, hm, hl, _⟩⟩
          · cases h
          · exact e
          · exfalso
            have hz : (Z.map (·.2)).Nodup := hs.imp fun h e => by rw [e] at h; exact plt_irrefl _ h
            have hp2 : (Z.map (·.2)).Perm (P8a ++ P8b (83 + r)) := (List.perm_ext_iff_of_nodup hz (P8_nodup _)).2 fun x => by rw [hm, hP]
            have := hp2.length_eq
            rw [hPl, List.length_map] at this
            omega
        subst hX
        refine ⟨_, _, _, _, rfl, bT (by subst hr2; rfl) fun y40 h40 => bT rfl (h40 _ _ ⟨rfl, Fin⟩)⟩
      · obtain ⟨b, Z, rfl, hZ, _⟩ := said_ok hs (P8_nodup (83 + r)) hP (by omega)
        refine ⟨_, _, _, _, rfl, bF (decide_eq_false (by omega)) fun y45 h45 => bT rfl (h45 _ _ ⟨?_, Fin⟩)⟩
        have : decide ((Z.length : Int) = IntKind.wrap .i64 ((3999 : Int) + (r : Int))) = true := decide_eq_true (by rw [wrapi (by omega) (by omega)]; omega)
        rw [this]
end Go.Proofs.Ytnplopiconabiaa.Span
