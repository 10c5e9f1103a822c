/- Dred: DredRing. -/
import Derived.Test.YtnplopiconabiaaTD
import Derived.Test.YtnplopiconabiaaL12
namespace Go.Proofs.Ytnplopiconabiaa.Dred
open Go Go.V
open Go.Proofs.Ytnplopiconabiaa.VC
open Go.Proofs.Ytnplopiconabiaa.Span
open Go.Proofs.Try (prog)
set_option linter.unusedVariables false
set_option linter.unusedSimpArgs false
set_option maxRecDepth 20000

abbrev labR : ByteArray := ⟨#[114]⟩
theorem labR_ok : isName labR = true := by decide
theorem tmodN (x N : Nat) : Int.tmod (x : Int) (N : Int) = ((x % N : Nat) : Int) := by
  rw [Int.tmod_eq_emod_of_nonneg (by omega)]; exact (Int.natCast_emod x N).symm
/-- The i-th node behind the cut. -/
def fN (N A i : Nat) : Int := (((A + 1 + i) % N : Nat) : Int) + 1
section
variable {N A : Nat} (hA : A < N)
include hA
theorem fN_eq {i : Nat} (hi : i ≤ N) : fN N A i = if A + 1 + i < N then ((A + 1 + i : Nat) : Int) + 1 else if A + 1 + i < 2 * N then ((A + 1 + i - N : Nat) : Int) + 1 else 1 + ((A + 1 + i - 2 * N : Nat) : Int) := by
  unfold fN
  by_cases h : A + 1 + i < N
  · rw [if_pos h, Nat.mod_eq_of_lt h]
  · rw [if_neg h, Nat.mod_eq_sub_mod (by omega)]
    by_cases h2 : A + 1 + i < 2 * N
    · rw [if_pos h2, Nat.mod_eq_of_lt (by omega)]
    · rw [if_neg h2, Nat.mod_eq_sub_mod (by omega), Nat.mod_eq_of_lt (by omega)]; omega
theorem fN_inj {i k : Nat} (hi : i < N) (hk : k < N) (e : fN N A i = fN N A k) : i = k := by
  rw [fN_eq hA (by omega), fN_eq hA (by omega)] at e
  split at e <;> split at e <;> (try split at e) <;> (try split at e) <;> omega
omit hA in
theorem fN_N : fN N A N = fN N A 0 := by unfold fN; rw [Nat.add_mod_right, Nat.add_zero]
theorem fN_last : fN N A (N - 1) = (A : Int) + 1 := by
  unfold fN
  rw [show A + 1 + (N - 1) = A + N by omega, Nat.add_mod_right, Nat.mod_eq_of_lt hA]
theorem fN_all {x : Nat} (hx : x < N) : ∃ i, i < N ∧ fN N A i = (x : Int) + 1 ∧ fN N A (i + 1) = (((x + 1) % N : Nat) : Int) + 1 := by
  by_cases h : A + 1 ≤ x
  · refine ⟨x - (A + 1), by omega, ?_, ?_⟩
    · unfold fN; rw [show A + 1 + (x - (A + 1)) = x by omega, Nat.mod_eq_of_lt hx]
    · unfold fN; rw [show A + 1 + (x - (A + 1) + 1) = x + 1 by omega]
  · refine ⟨x + N - (A + 1), by omega, ?_, ?_⟩
    · unfold fN; rw [show A + 1 + (x + N - (A + 1)) = x + N by omega, Nat.add_mod_right, Nat.mod_eq_of_lt hx]
    · unfold fN; rw [show A + 1 + (x + N - (A + 1) + 1) = x + 1 + N by omega, Nat.add_mod_right]
theorem fN_rng (i : Nat) : ∃ x : Nat, x < N ∧ fN N A i = (x : Int) + 1 := ⟨_, Nat.mod_lt _ (by omega), rfl⟩
end
/-- A ring's pairs, told by the places behind the cut. -/
def IsRing (N A : Nat) (p : PI) : Prop := ∃ i, i < N ∧ p = (fN N A i, fN N A (i + 1))
def IsCut (N A : Nat) (p : PI) : Prop := ∃ i, i + 1 < N ∧ p = (fN N A i, fN N A (i + 1))
theorem tc_cut {N A : Nat} (hA : A < N) {E : List PI} (hE : ∀ p, p ∈ E ↔ IsCut N A p) {a b : Int} : TC E a b ↔ ∃ i k, i < k ∧ k < N ∧ a = fN N A i ∧ b = fN N A k := by
  constructor
  · intro h
    induction h with
    | one h =>
      obtain ⟨i, hi, e⟩ := (hE _).1 (mem_succE.1 h)
      exact ⟨i, i + 1, by omega, hi, congrArg Prod.fst e, congrArg Prod.snd e⟩
    | more _ h ih =>
      obtain ⟨i, k, hik, hk, rfl, rfl⟩ := ih
      obtain ⟨j, hj, e⟩ := (hE _).1 (mem_succE.1 h)
      have e1 : fN N A k = fN N A j := congrArg Prod.fst e
      have := fN_inj hA hk (by omega) e1
      subst this
      exact ⟨i, k + 1, by omega, hj, rfl, congrArg Prod.snd e⟩
  · rintro ⟨i, k, hik, hk, rfl, rfl⟩
    have key : ∀ d, i + 1 + d < N → TC E (fN N A i) (fN N A (i + 1 + d)) := fun d => by
      induction d with
      | zero => intro h; exact TC.edge ((hE _).2 ⟨i, h, rfl⟩)
      | succ d ih => intro h; exact .more (ih (by omega)) (mem_succE.2 ((hE _).2 ⟨i + 1 + d, h, rfl⟩))
    have := key (k - i - 1) (by omega)
    rwa [show i + 1 + (k - i - 1) = k by omega] at this
theorem tc_ring {N A : Nat} (hA : A < N) {E : List PI} (hE : ∀ p, p ∈ E ↔ IsRing N A p) {a b : Int} : TC E a b ↔ ∃ i k, i < N ∧ k < N ∧ a = fN N A i ∧ b = fN N A k := by
  constructor
  · intro h
    have nxt : ∀ i, i < N → ∃ k, k < N ∧ fN N A (i + 1) = fN N A k := fun i hi => by
      by_cases h : i + 1 < N
      · exact ⟨i + 1, h, rfl⟩
      · refine ⟨0, by omega, ?_⟩
        rw [show i + 1 = N by omega, fN_N]
    induction h with
    | one h =>
      obtain ⟨i, hi, e⟩ := (hE _).1 (mem_succE.1 h)
      obtain ⟨k, hk, e2⟩ := nxt i hi
      exact ⟨i, k, hi, hk, congrArg Prod.fst e, (congrArg Prod.snd e).trans e2⟩
    | more _ h ih =>
      obtain ⟨i, k, hik, hk, rfl, rfl⟩ := ih
      obtain ⟨j, hj, e⟩ := (hE _).1 (mem_succE.1 h)
      obtain ⟨k2, hk2, e2⟩ := nxt j hj
      exact ⟨i, k2, hik, hk2, rfl, (congrArg Prod.snd e).trans e2⟩
  · rintro ⟨i, k, hi, hk, rfl, rfl⟩
    have up : ∀ d i, i + 1 + d ≤ N → TC E (fN N A i) (fN N A (i + 1 + d)) := fun d => by
      induction d with
      | zero => intro i h; exact TC.edge ((hE _).2 ⟨i, by omega, rfl⟩)
      | succ d ih => intro i h; exact .more (ih i (by omega)) (mem_succE.2 ((hE _).2 ⟨i + 1 + d, by omega, rfl⟩))
    have h1 : TC E (fN N A i) (fN N A 0) := by
      have := up (N - i - 1) i (by omega)
      rwa [show i + 1 + (N - i - 1) = N by omega, fN_N] at this
    by_cases hk0 : k = 0
    · subst hk0; exact h1
    · have h2 := up (k - 1) 0 (by omega)
      rw [show 0 + 1 + (k - 1) = k by omega] at h2
      exact h1.trans h2
def PAll (N A : Nat) : List PI := (List.range N).flatMap fun i => (List.range N).map fun k => (fN N A i, fN N A k)
def PCut (N A : Nat) : List PI := (List.range N).flatMap fun k => (List.range k).map fun i => (fN N A i, fN N A k)
theorem PAll_len (N A : Nat) : (PAll N A).length = N * N := by
  unfold PAll
  rw [List.length_flatMap]
  simp only [List.length_map, List.length_range]
  have : ∀ l : List Nat, (l.map fun _ => N).sum = l.length * N := fun l => by
    induction l with
    | nil => simp
    | cons a l ih => rw [List.map_cons, List.sum_cons, ih, List.length_cons, Nat.succ_mul]; omega
  rw [this, List.length_range]
theorem PCut_len (N A : Nat) : (PCut N A).length * 2 = N * (N - 1) := by
  have key : ∀ M, ((List.range M).flatMap fun k => (List.range k).map fun i => ((fN N A i, fN N A k) : PI)).length * 2 = M * (M - 1) := fun M => by
    induction M with
    | zero => rfl
    | succ M ih =>
      rw [List.range_succ, List.flatMap_append, List.length_append, Nat.add_mul, ih]
      simp only [List.flatMap_cons, List.flatMap_nil, List.append_nil, List.length_map, List.length_range]
      cases M with
      | zero => rfl
      | succ M =>
        show (M + 1) * M + (M + 1) * 2 = (M + 2) * (M + 1)
        rw [← Nat.mul_add, Nat.mul_comm]
  exact key N
theorem mem_PAll {N A : Nat} {p : PI} : p ∈ PAll N A ↔ ∃ i k, i < N ∧ k < N ∧ p.1 = fN N A i ∧ p.2 = fN N A k := by
  unfold PAll
  simp only [List.mem_flatMap, List.mem_map, List.mem_range]
  constructor
  · rintro ⟨i, hi, k, hk, rfl⟩; exact ⟨i, k, hi, hk, rfl, rfl⟩
  · rintro ⟨i, k, hi, hk, e1, e2⟩; exact ⟨i, hi, k, hk, Prod.ext e1.symm e2.symm⟩
theorem mem_PCut {N A : Nat} {p : PI} : p ∈ PCut N A ↔ ∃ i k, i < k ∧ k < N ∧ p.1 = fN N A i ∧ p.2 = fN N A k := by
  unfold PCut
  simp only [List.mem_flatMap, List.mem_map, List.mem_range]
  constructor
  · rintro ⟨k, hk, i, hi, rfl⟩; exact ⟨i, k, hi, hk, rfl, rfl⟩
  · rintro ⟨i, k, hi, hk, e1, e2⟩; exact ⟨k, hk, i, hi, Prod.ext e1.symm e2.symm⟩
theorem PAll_nodup {N A : Nat} (hA : A < N) : (PAll N A).Nodup := by
  unfold PAll List.Nodup
  rw [List.pairwise_flatMap]
  refine ⟨fun i hi => ?_, ?_⟩
  · rw [List.pairwise_map]
    refine List.pairwise_lt_range.imp_of_mem fun {a b} ha hb h e => ?_
    have := fN_inj hA (List.mem_range.1 ha) (List.mem_range.1 hb) (congrArg Prod.snd e)
    omega
  · refine List.pairwise_lt_range.imp_of_mem fun {a b} ha hb h => ?_
    intro x hx y hy e
    obtain ⟨j, hj, rfl⟩ := List.mem_map.1 hx
    obtain ⟨j', hj', rfl⟩ := List.mem_map.1 hy
    have := fN_inj hA (List.mem_range.1 ha) (List.mem_range.1 hb) (congrArg Prod.fst e)
    omega
theorem PCut_nodup {N A : Nat} (hA : A < N) : (PCut N A).Nodup := by
  unfold PCut List.Nodup
  rw [List.pairwise_flatMap]
  refine ⟨fun k hk => ?_, ?_⟩
  · rw [List.pairwise_map]
    have hk := List.mem_range.1 hk
    refine List.pairwise_lt_range.imp_of_mem fun {a b} ha hb h e => ?_
    have ha := List.mem_range.1 ha
    have hb := List.mem_range.1 hb
    have := fN_inj hA (by omega) (by omega) (congrArg Prod.fst e)
    omega
  · refine List.pairwise_lt_range.imp_of_mem fun {a b} ha hb h => ?_
    intro x hx y hy e
    obtain ⟨j, hj, rfl⟩ := List.mem_map.1 hx
    obtain ⟨j', hj', rfl⟩ := List.mem_map.1 hy
    have := fN_inj hA (List.mem_range.1 ha) (List.mem_range.1 hb) (congrArg Prod.snd e)
    omega
theorem len_all {N A : Nat} (hA : A < N) {E S : List PI} (hE : ∀ p, p ∈ E ↔ IsRing N A p) (h : IsTC E S) (hn : S.Nodup) : S.length = N * N := by
  rw [← PAll_len N A]
  exact ((List.perm_ext_iff_of_nodup hn (PAll_nodup hA)).2 fun p => by rw [h, tc_ring hA hE, mem_PAll]).length_eq
theorem len_cut {N A : Nat} (hA : A < N) {E S : List PI} (hE : ∀ p, p ∈ E ↔ IsCut N A p) (h : IsTC E S) (hn : S.Nodup) : S.length * 2 = N * (N - 1) := by
  rw [← PCut_len N A]
  congr 1
  exact ((List.perm_ext_iff_of_nodup hn (PCut_nodup hA)).2 fun p => by rw [h, tc_cut hA hE, mem_PCut]).length_eq
/-- The ring's edges. -/
def ringE (N i : Nat) : List EG := (List.range i).map fun (j : Nat) => ⟨(j : Int) + 1, labR, (((j + 1) % N : Nat) : Int) + 1⟩
theorem ringE_succ (N i : Nat) : ringE N (i + 1) = ringE N i ++ [⟨(i : Int) + 1, labR, (((i + 1) % N : Nat) : Int) + 1⟩] := by unfold ringE; rw [List.range_succ, List.map_append]; rfl
theorem ringE_len (N i : Nat) : (ringE N i).length = i := by simp [ringE]
theorem ringE_at {N i j : Nat} (h : j < (ringE N i).length) : (ringE N i)[j] = ⟨(j : Int) + 1, labR, (((j + 1) % N : Nat) : Int) + 1⟩ := by simp [ringE]
theorem lab_ring {N A : Nat} (hA : A < N) (p : PI) : p ∈ labP (ringE N N) labR ↔ IsRing N A p := by
  rw [mem_labP]
  constructor
  · rintro ⟨x, hx, _, h2, h3⟩
    obtain ⟨j, hj, rfl⟩ := List.mem_map.1 hx
    obtain ⟨i, hi, e1, e2⟩ := fN_all hA (List.mem_range.1 hj)
    exact ⟨i, hi, Prod.ext (h2.symm.trans e1.symm) (h3.symm.trans e2.symm)⟩
  · rintro ⟨i, hi, rfl⟩
    have hm : (A + 1 + i) % N < N := Nat.mod_lt _ (by omega)
    refine ⟨_, List.mem_map.2 ⟨(A + 1 + i) % N, List.mem_range.2 hm, rfl⟩, rfl, rfl, ?_⟩
    show ((((A + 1 + i) % N + 1) % N : Nat) : Int) + 1 = fN N A (i + 1)
    unfold fN
    rw [Nat.mod_add_mod, Nat.add_assoc (A + 1) i 1]
theorem inR_ring {N i : Nat} (hN : N ≤ 20) (hN0 : 0 < N) (hi : i ≤ N) : ∀ x ∈ ringE N i, inR x.f ∧ inR x.t := fun x hx => by
  obtain ⟨j, hj, rfl⟩ := List.mem_map.1 hx
  have := List.mem_range.1 hj
  have := Nat.mod_lt (j + 1) hN0
  exact ⟨inR_small (by simp only; omega), inR_small (by simp only; omega)⟩
/-- A piece of one edge of a row. -/
theorem row_one {w : World} {p : Option Addr} {D : List EG} {A c : Nat} (h : Row w p (D.flatMap gcell)) (hA : A < D.length) (hc : D.length ≤ c) : Row w (subA p A c 3) ([D[A]].flatMap gcell) := by
  have h1 := h.cut (lo := A) (hi := A + 1) (c := c) (sz := 3) (by omega)
  rw [flatG.drop D A] at h1
  have h2 := flatG.take (D.drop A) (A + 1 - A)
  rw [h2] at h1
  have e : (D.drop A).take (A + 1 - A) = [D[A]] := by
    rw [show A + 1 - A = 1 by omega, List.drop_eq_getElem_cons hA]; rfl
  rw [e] at h1; exact h1

set_option maxHeartbeats 4000000 in
theorem ring_walk (w : World) (n at0 : Int) : Calls prog 12 #[I64 n, I64 at0] w fun e w' => e = .returned (.bool true) ∧ RowKit.Below w.heap.size w w' := by
  refine rhizomelaw14_DredRing.link ((awakeD_c w).mono ?_)
  rintro e1 w2 ⟨rfl, f2⟩
  refine ⟨_, rfl, bF rfl ?_⟩
  obtain ⟨r, hr, e0⟩ : ∃ r : Nat, r < 20 ∧ IntKind.wrap .i64 (Int.tmod (IntKind.wrap .u64 n) 20) = (r : Int) := by
    have e : IntKind.wrap .u64 n = n % 18446744073709551616 := rfl
    have h0 : 0 ≤ n % 18446744073709551616 := Int.emod_nonneg _ (by omega)
    rw [e, Int.tmod_eq_emod_of_nonneg h0]
    have h1 : 0 ≤ n % 18446744073709551616 % 20 := Int.emod_nonneg _ (by omega)
    have h2 : n % 18446744073709551616 % 20 < 20 := Int.emod_lt_of_pos _ (by omega)
    generalize n % 18446744073709551616 % 20 = q at *
    exact ⟨q.toNat, by omega, by rw [wrapi (by omega) (by omega)]; omega⟩
  have e1 : IntKind.wrap .i64 ((r : Int) + 1) = ((r + 1 : Nat) : Int) := by rw [wrapi (by omega) (by omega)]; simp
  have e2 : IntKind.wrap .u64 ((r + 1 : Nat) : Int) = ((r + 1 : Nat) : Int) := by
    show ((r + 1 : Nat) : Int) % 18446744073709551616 = _
    exact Int.emod_eq_of_lt (by omega) (by omega)
  obtain ⟨A, hA, e3⟩ : ∃ A : Nat, A < r + 1 ∧ IntKind.wrap .i64 (Int.tmod (IntKind.wrap .u64 at0) ((r + 1 : Nat) : Int)) = (A : Int) := by
    have e : IntKind.wrap .u64 at0 = at0 % 18446744073709551616 := rfl
    have h0 : 0 ≤ at0 % 18446744073709551616 := Int.emod_nonneg _ (by omega)
    rw [e, Int.tmod_eq_emod_of_nonneg h0]
    have h1 : 0 ≤ at0 % 18446744073709551616 % ((r + 1 : Nat) : Int) := Int.emod_nonneg _ (by omega)
    have h2 : at0 % 18446744073709551616 % ((r + 1 : Nat) : Int) < ((r + 1 : Nat) : Int) := Int.emod_lt_of_pos _ (by omega)
    generalize at0 % 18446744073709551616 % ((r + 1 : Nat) : Int) = q at *
    exact ⟨q.toNat, by omega, by rw [wrapi (by omega) (by omega)]; omega⟩
  have e4 : IntKind.wrap .i64 ((A : Int) + 1) = ((A + 1 : Nat) : Int) := by rw [wrapi (by omega) (by omega)]; simp
  simp only [e0, e1, e2, e3, e4]
  generalize hN : r + 1 = N at *
  have hN20 : N ≤ 20 := by omega
  have hN0 : 0 < N := by omega
  clear e0 e1 e2 e3 e4 hr
  have hNN : N * N ≤ 400 := Nat.mul_le_mul hN20 hN20
  have hNN1 : N * (N - 1) ≤ 400 := Nat.le_trans (Nat.mul_le_mul_left N (by omega)) hNN
  have hNe : N * (N - 1) + N = N * N := by
    cases N with
    | zero => rfl
    | succ M => show (M + 1) * M + (M + 1) = (M + 1) * (M + 1); rw [Nat.mul_succ]
  have hcast : (N : Int) * (N : Int) = ((N * N : Nat) : Int) := (Int.natCast_mul N N).symm
  have hcast1 : (N : Int) * ((N - 1 : Nat) : Int) = ((N * (N - 1) : Nat) : Int) := (Int.natCast_mul N (N - 1)).symm
  refine ⟨by decide, by omega, ?_⟩
  refine ⟨fun mm p k c n w' => ∃ i : Nat, n = (i : Int) ∧ i ≤ N ∧ mm = N - i ∧ k = (ringE N i).length ∧ OwnZ w' w2.heap.size 3 p (ringE N i).length c ((ringE N i).flatMap gcell) ∧ Fr [] w2 w', N, ⟨0, rfl, by omega, rfl, rfl, OwnZ.nil _ _ _, Fr.refl _ _⟩, ?_⟩
  rintro mm p7 k8 c9 n10 w11 ⟨i, rfl, hi, rfl, rfl, o, F⟩
  have hli := ringE_len N i
  refine bc (fun hlt => ?_) fun hge => ?_
  · have hlt : (i : Int) < (N : Int) := of_decide_eq_true hlt
    refine ⟨by omega, fun k13 => ?_⟩
    have x1 : IntKind.wrap .i64 ((i : Int) + 1) = ((i + 1 : Nat) : Int) := by rw [wrapi (by omega) (by omega)]; simp
    have hm := Nat.mod_lt (i + 1) hN0
    rw [x1, tmodN]
    have x2 : IntKind.wrap .i64 ((((i + 1) % N : Nat) : Int) + 1) = (((i + 1) % N : Nat) : Int) + 1 := wrapi (by omega) (by omega)
    rw [x2]
    refine app1 (f := gcell) flatG (x := ⟨((i + 1 : Nat) : Int), labR, (((i + 1) % N : Nat) : Int) + 1⟩) (u := w2) (B := w2.heap.size) o F rfl (Nat.le_refl _) F.size (fun h => by cases h) (by simp) (fun ad hp x hx => .inl hx) (by omega) (by omega) fun w14 p15 c17 F14 _ _ o14 _ => ?_
    have es : ringE N i ++ [⟨((i + 1 : Nat) : Int), labR, (((i + 1) % N : Nat) : Int) + 1⟩] = ringE N (i + 1) := by rw [ringE_succ]; simp
    rw [es] at o14 ⊢
    exact ⟨N - (i + 1), by omega, i + 1, rfl, by omega, rfl, rfl, o14, F14⟩
  have hge : ¬ (i : Int) < (N : Int) := of_decide_eq_false hge
  have hi' : i = N := by omega
  subst hi'
  have hcap : (ringE i i).length ≤ c9 := o.2.1
  have hfew : ∀ X : List PI, X.Nodup → (∀ x ∈ X, Span.Reach (succs (ringE i i) labR) x.1 x.2) → X.length ≤ 4000 := tc_few' (by omega)
  refine (new_c (lab := labR) (eC := c9) o.row (by omega) (inR_ring hN20 hN0 (Nat.le_refl _)) labR_ok hfew).mono ?_
  rintro e19 w20 ⟨f20, d, e, s, be, bs, E, S, rfl, h20, hE, htc, hS4, lowbe, lowbs, lowd, hEl⟩
  have hER : ∀ p, p ∈ E ↔ IsRing i A p := fun p => by rw [hE, lab_ring hA]
  have hSl := len_all hA hER htc h20.sr.nodup
  have ds20 : DS w11 w20 d labR e s be bs E S := ⟨h20, htc, hS4, fun x hx => by
    rcases List.mem_append.1 hx with hx | hx
    · rcases List.mem_cons.1 hx with rfl | hx
      · omega
      · exact lowbe x hx
    · exact lowbs x hx, f20⟩
  have F11 := f2.trans' F
  have endsG : ∀ {w' : World}, Fr [] w11 w' → Ending.returned (.bool true) = Ending.returned (.bool true) ∧ RowKit.Below w.heap.size w w' := fun f => ⟨rfl, (F11.trans' f).below (Nat.le_refl _) (by simp)⟩
  refine ⟨_, _, rfl, fun y23 h23 => bF rfl (bF rfl ((read_c h20 (by omega)).mono ?_))⟩
  rintro e110 w111 ⟨f111, p112, Z0, rfl, set0, hZ0, in0⟩
  have hZ0l := len_eq set0.sort h20.sr.nodup hZ0
  have ww : IntKind.wrap .i64 ((i : Int) * (i : Int)) = ((i * i : Nat) : Int) := by rw [hcast, wrapi (by omega) (by omega)]
  have w1 : IntKind.wrap .i64 ((i : Int) - 1) = ((i - 1 : Nat) : Int) := by rw [wrapi (by omega) (by omega)]; omega
  have w2' : IntKind.wrap .i64 ((i : Int) * ((i - 1 : Nat) : Int)) = ((i * (i - 1) : Nat) : Int) := by rw [hcast1, wrapi (by omega) (by omega)]
  have w3 : IntKind.wrap .i64 (Int.tdiv ((i * (i - 1) : Nat) : Int) 2) = ((i * (i - 1) / 2 : Nat) : Int) := by rw [Int.tdiv_eq_ediv_of_nonneg (by omega), wrapi (by omega) (by omega)]; omega
  refine ⟨_, _, _, rfl, ?_⟩
  rw [ww] at h23 ⊢
  simp only [w1, w2', w3] at h23
  rw [show (!decide ((Z0.length : Int) = ((i * i : Nat) : Int))) = false by rw [hZ0l, hSl]; simp]
  have ds111 := ds20.old f111
  refine h23 _ _ (bF rfl ⟨⟨by omega, by omega, by omega⟩, ?_⟩)
  clear h23
  have eA : Int.toNat (A : Int) = A := by omega
  have eA1 : Int.toNat ((A + 1 : Nat) : Int) - A = 1 := by omega
  rw [eA, eA1]
  have hAl : A < (ringE i i).length := by omega
  have hDA := ringE_at hAl
  have one : ∀ {w' : World}, Fr [] w11 w' → Row w' (subA p7 A c9 3) ([(ringE i i)[A]].flatMap gcell) := fun f => row_one (o.row.old f) hAl hcap
  have hR1 : ∀ x ∈ [(ringE i i)[A]], inR x.f ∧ inR x.t := fun x hx => by rw [List.mem_singleton.1 hx]; exact inR_ring hN20 hN0 (Nat.le_refl _) _ (List.getElem_mem hAl)
  have hlab1 : labP [(ringE i i)[A]] labR = [(fN i A (i - 1), fN i A i)] := by
    rw [hDA]
    have g1 : fN i A (i - 1) = (A : Int) + 1 := fN_last hA
    have g2 : fN i A i = (((A + 1) % i : Nat) : Int) + 1 := by unfold fN; rw [Nat.add_mod_right]
    rw [g1, g2]
    rfl
  have c1 := do_s (eC := c9 - A) ds111 (by omega) (one ds111.fr) (by simp) hR1 false (fun _ => by rw [hlab1]; simp)
  rw [hlab1] at c1
  refine c1.mono ?_
  rintro e26 w27 ⟨code, pA, pD, ZA, ZD, be1, bs1, E1, S1, rfl, hd, ds27, f27⟩
  have hcutin : ((fN i A (i - 1), fN i A i) : PI) ∈ E := (hER _).2 ⟨i - 1, by omega, by rw [show i - 1 + 1 = i by omega]⟩
  have hok : Okay false E [(fN i A (i - 1), fN i A i)] := ⟨by simp, fun p hp => by rw [List.mem_singleton.1 hp]; exact ⟨fun _ => rfl, fun _ => hcutin⟩⟩
  rcases hd.said with ⟨rfl, _, hE1, hAA, hDD, _, hsub⟩ | ⟨_, _, _, _, _, hno | ⟨_, h, _⟩⟩
  rotate_left
  · exact absurd hok hno
  · cases h
  have hE1C : ∀ p, p ∈ E1 ↔ IsCut i A p := fun p => by
    rw [hE1, if_neg (by simp), hER, List.mem_singleton]
    constructor
    · rintro ⟨⟨j, hj, rfl⟩, h2⟩
      refine ⟨j, ?_, rfl⟩
      apply Classical.byContradiction
      intro hn
      have : j = i - 1 := by omega
      subst this
      exact h2 (by rw [show i - 1 + 1 = i by omega])
    · rintro ⟨j, hj, rfl⟩
      refine ⟨⟨j, by omega, rfl⟩, fun e => ?_⟩
      have := fN_inj hA (by omega) (by omega) (congrArg Prod.fst e)
      omega
  have hS1n := ds27.at'.sr.nodup
  have hS1l := len_cut hA hE1C hd.tc hS1n
  have hZA : ZA = [] := by
    cases ZA with
    | nil => rfl
    | cons z Y => exact absurd ((hAA z.2).1 (by simp)).1 (by simp)
  subst hZA
  have hZDn := nodup_plt hd.setD.sort
  have hZDl : ZD.length + S1.length = i * i := by
    have hp : ((ZD.map (·.2)) ++ S1).Perm S := (List.perm_ext_iff_of_nodup (by
      rw [List.nodup_append]
      exact ⟨hZDn, hS1n, fun x hx y hy e => ((hDD x).1 hx).2.2 (by rw [e]; exact hy)⟩) h20.sr.nodup).2 fun x => by
      rw [List.mem_append, hDD]
      constructor
      · rintro (h1 | h1)
        · exact h1.2.1
        · exact hsub rfl x h1
      · intro h1
        by_cases h2 : x ∈ S1
        · exact .inr h2
        · exact .inl ⟨rfl, h1, h2⟩
    have := hp.length_eq
    rw [List.length_append, List.length_map, hSl] at this
    exact this
  refine ⟨_, _, _, _, _, _, _, rfl, fun k35 y36 h36 => bF rfl (bF rfl ⟨by decide, ?_⟩)⟩
  have w4 : IntKind.wrap .i64 (((i * i : Nat) : Int) - ((i * (i - 1) / 2 : Nat) : Int)) = ((i * i : Nat) : Int) - ((i * (i - 1) / 2 : Nat) : Int) := wrapi (by omega) (by omega)
  simp only [w1, w2', w3, w4]
  refine bF (by
    have : (ZD.length : Int) = ((i * i : Nat) : Int) - ((i * (i - 1) / 2 : Nat) : Int) := by omega
    simp only [this, decide_true, Bool.not_true]) fun w101 s101 => ?_
  have n101 := g_new1 s101
  have z101 := s101.fr.size
  have ds101 := ds27.old s101.fr
  refine (read_c ds101.at' (by have := ds27.small; omega)).mono ?_
  rintro e103 w104 ⟨f104, p105, Z1, rfl, set1, hZ1, in1⟩
  have hZ1l := len_eq set1.sort hS1n hZ1
  refine ⟨_, _, _, rfl, keepF f104 (by simpa using n101.2), by decide, ?_⟩
  rw [show (!decide ((Z1.length : Int) = ((i * (i - 1) / 2 : Nat) : Int))) = false by
    have : (Z1.length : Int) = ((i * (i - 1) / 2 : Nat) : Int) := by omega
    simp only [this, decide_true, Bool.not_true]]
  have ds104 := ds101.old f104
  have z104 := f104.size
  have setD104 : SetAt w104 pD ZD := (hd.setD.old s101.fr).old f104
  have setA104 : SetAt w104 pA [] := (hd.setA.old s101.fr).old f104
  refine h36 _ _ (bF rfl ?_)
  clear h36
  refine ⟨fun m n w' => ∃ j : Nat, n = (j : Int) ∧ j ≤ i ∧ m = i - j ∧ Fr [] w104 w', i, ⟨0, rfl, by omega, rfl, Fr.refl _ _⟩, ?_⟩
  rintro m41 n42 w43 ⟨j, rfl, hj, rfl, F43⟩
  refine bc (fun hlt => ?_) fun hge => ?_
  · have hlt : (j : Int) < (i : Int) := of_decide_eq_true hlt
    have hlt' : j < i := by omega
    refine ⟨fun m n w' => ∃ k : Nat, n = (k : Int) ∧ k ≤ i ∧ m = i - k ∧ Fr [] w104 w', i, ⟨0, rfl, by omega, rfl, F43⟩, ?_⟩
    rintro m47 n48 w49 ⟨k, rfl, hk, rfl, F49⟩
    refine bc (fun hlt2 => ?_) fun hge2 => ⟨i - (j + 1), by omega, j + 1, by rw [wrapi (by omega) (by omega)]; simp, by omega, rfl, F49⟩
    have hlt2 : (k : Int) < (i : Int) := of_decide_eq_true hlt2
    have hlt2' : k < i := by omega
    refine ⟨by omega, by omega, fun w51 s51 => ?_⟩
    have n51 := s51.fr.size
    have fx : ∀ q : Nat, q < i → IntKind.wrap .i64 (Int.tmod (IntKind.wrap .i64 (((A + 1 : Nat) : Int) + (q : Int))) (i : Int) + 1) = fN i A q := fun q hq => by
      have h1 : IntKind.wrap .i64 (((A + 1 : Nat) : Int) + (q : Int)) = ((A + 1 + q : Nat) : Int) := by rw [wrapi (by omega) (by omega)]; simp
      rw [h1, tmodN]
      have hm := Nat.mod_lt (A + 1 + q) hN0
      rw [wrapi (by omega) (by omega)]; rfl
    rw [fx j hlt', fx k hlt2']
    have ds51 := (ds104.old F49).old s51.fr
    refine (dhas_c ds51.at' (fN i A j) (fN i A k)).mono ?_
    rintro e53 w54 ⟨rfl, f54⟩
    have z49 := F49.size
    refine ⟨_, rfl, keepF f54 (by simp; omega), bF ?_ ⟨i - (k + 1), by omega, k + 1, by rw [wrapi (by omega) (by omega)]; simp, by omega, rfl, (F49.trans' s51.fr).trans' f54⟩⟩
    have hiff : ((fN i A j, fN i A k) : PI) ∈ S1 ↔ (j : Int) < (k : Int) := by
      rw [hd.tc, tc_cut hA hE1C]
      constructor
      · rintro ⟨a, b, hab, hb, h1, h2⟩
        have := fN_inj hA hlt' (by omega) h1
        have := fN_inj hA hlt2' hb h2
        omega
      · intro h
        exact ⟨j, k, by omega, hlt2', rfl, rfl⟩
    by_cases hjk : (j : Int) < (k : Int)
    · rw [decide_eq_true hjk, decide_eq_true (hiff.2 hjk)]; rfl
    · rw [decide_eq_false hjk, decide_eq_false (fun h => hjk (hiff.1 h))]; rfl
  · -- and joined again
    refine ⟨⟨by omega, by omega, by omega⟩, ?_⟩
    have ds43 := ds104.old F43
    have c2 := do_s (eC := c9 - A) ds43 (by have := hd.elen; simp at this; omega) (one ds43.fr) (by simp) hR1 true (fun h => by cases h)
    rw [hlab1] at c2
    refine c2.mono ?_
    rintro e58 w59 ⟨code2, pA2, pD2, ZA2, ZD2, be2, bs2, E2, S2, rfl, hd2, ds59, f59⟩
    have z43 := F43.size
    have hk35 : k35 ∉ d :: be1 ++ bs1 := fun hx => by
      have := ds27.at'.new n101.1
      rcases List.mem_append.1 hx with hx | hx
      · rcases List.mem_cons.1 hx with hx | hx
        · exact this.1 hx
        · exact this.2.1 hx
      · exact this.2.2 hx
    refine ⟨_, _, _, _, _, _, _, rfl, g_keep f59 (fun x hx => by rw [List.mem_singleton.1 hx]; exact ⟨by omega, hk35⟩), fun k67 y68 h68 => ?_⟩
    have hnotin : ((fN i A (i - 1), fN i A i) : PI) ∉ E1 := fun h => by
      have := (hE1 _).1 h
      simp at this
    have hok2 : Okay true E1 [(fN i A (i - 1), fN i A i)] := ⟨by simp, fun p hp => by rw [List.mem_singleton.1 hp]; exact ⟨fun h => absurd h hnotin, fun h => by cases h⟩⟩
    have hback : ∀ p, (p ∈ E1 ∨ p ∈ [((fN i A (i - 1), fN i A i) : PI)]) ↔ p ∈ E := fun p => by
      rw [hE1, if_neg (by simp), List.mem_singleton]
      constructor
      · rintro (h | rfl)
        · exact h.1
        · exact hcutin
      · intro h
        by_cases e : p = (fN i A (i - 1), fN i A i)
        · exact .inr e
        · exact .inl ⟨h, e⟩
    rcases hd2.said with ⟨rfl, _, hE2, hA2, hD2, hsup2, _⟩ | ⟨_, _, _, _, _, hno | ⟨_, _, E3, S3, hE3, hS3, hn3, h3⟩⟩
    rotate_left
    · exact absurd hok2 hno
    · exfalso
      have h1 := tc_len (E := E) hn3 fun x hx => TC.mono (fun q hq => (hback q).1 (hE3 q hq)) ((hS3 x).1 hx)
      have : E.length ≤ 20 := by omega
      have := Nat.mul_le_mul this this
      omega
    have hE2E : ∀ q, q ∈ E2 ↔ q ∈ E := fun q => by rw [hE2, if_pos rfl, hback]
    have hS2S : ∀ q, q ∈ S2 ↔ q ∈ S := fun q => by rw [ds59.tc, htc]; exact ⟨TC.mono fun p hp => (hE2E p).1 hp, TC.mono fun p hp => (hE2E p).2 hp⟩
    have hS2l := len_all hA (fun p => (hE2E p).trans (hER p)) ds59.tc ds59.at'.sr.nodup
    have hZD2 : ZD2 = [] := by
      cases ZD2 with
      | nil => rfl
      | cons z Y => exact absurd ((hD2 z.2).1 (by simp)).1 (by simp)
    subst hZD2
    refine bT rfl fun w73 s73 => ?_
    have n73 := g_new1 s73
    have z59 := f59.size
    have z73 := s73.fr.size
    have sD : SetAt w73 pD ZD := (((setD104.old F43).fr f59 hd.outD)).old s73.fr
    have sA : SetAt w73 pA [] := (((setA104.old F43).fr f59 hd.outA)).old s73.fr
    have kk : ∀ {v' : World}, w73.heap.size ≤ v'.heap.size → ∀ x ∈ [k35, k67], x < v'.heap.size := fun hz x hx => by
      rcases List.mem_cons.1 hx with rfl | hx
      · omega
      · rw [List.mem_singleton.1 hx]; omega
    refine (back_c (cA := 0) (cD := ZD.length) sA sD (by simp) (by omega)).mono ?_
    rintro e75 w76 ⟨f76, p77, p80, c79, c82, Y, Y', rfl, sY, sY', eY, eY'⟩
    refine ⟨_, _, _, _, _, _, rfl, keepF f76 (kk (Nat.le_refl _)), ?_⟩
    have sA2 : SetAt w76 pA2 ZA2 := (hd2.setA.old s73.fr).old f76
    have sD2 : SetAt w76 pD2 [] := (hd2.setD.old s73.fr).old f76
    have q1 : ZA2.map (·.2) = Y.map (·.2) := by
      rw [eY]
      refine plt_ext hd2.setA.sort hd.setD.sort fun x => ?_
      rw [hA2, hDD, hS2S]
      simp
    have lA2 : ZA2.length ≤ 4000 := Nat.le_trans (set_len hd2.setA.sort fun x hx => ((hA2 x).1 hx).2.1) ds59.small
    have hY' : Y' = [] := by
      cases Y' with
      | nil => rfl
      | cons a b => simp at eY'
    subst hY'
    refine (sameD_c (cA := ZA2.length) (cD := 0) (cA' := c79) (cD' := c82) sA2 sD2 sY sY' (by omega) (by simp) q1 rfl).mono ?_
    rintro e83 w84 ⟨rfl, f84⟩
    have z76 := f76.size
    have z84 := f84.size
    have ds84 := ((ds59.old s73.fr).old f76).old f84
    refine ⟨_, rfl, keepF f84 (kk z76), bT rfl ((read_c ds84.at' (by have := ds59.small; omega)).mono ?_)⟩
    rintro e86 w87 ⟨f87, p88, Z2, rfl, set2, hZ2, in2⟩
    have hZ2l := len_eq set2.sort ds59.at'.sr.nodup hZ2
    refine ⟨_, _, _, rfl, keepF f87 (kk (by omega)), h68 _ _ ?_⟩
    rw [decide_eq_true (by rw [hZ2l, hS2l])]
    exact endsG (ds84.fr.trans' f87)
end Go.Proofs.Ytnplopiconabiaa.Dred
