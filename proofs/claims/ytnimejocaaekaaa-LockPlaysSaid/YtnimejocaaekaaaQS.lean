/- LockShares: the law's own walk. -/
import Derived.Test.YtnimejocaaekaaaQA
import Derived.Test.YtnimejocaaekaaaL4
namespace Go.Proofs.Ytnimejocaaekaaa.Lock
open Go Go.V
open Go.Proofs.Ytnimejocaaekaaa.VC
open Go.Proofs.Try (prog)
set_option linter.unusedVariables false
set_option linter.unusedSimpArgs false
set_option maxRecDepth 20000

/-- A call of the script. -/
structure KOp where
  give : Bool
  s : Int
  item : Int
  alone : Bool
def IsKOps (w : World) (a : Option Addr) (len : Nat) (z : List KOp) : Prop :=
  z.length = len ∧ ∀ r o, z[r]? = some o → inR o.item ∧ ∃ ad, a = some ad ∧ w.cell? ((ad.add (r * 4)).add 0) = some (.bool o.give) ∧ w.cell? ((ad.add (r * 4)).add 1) = some (I64 o.s) ∧ w.cell? ((ad.add (r * 4)).add 2) = some (I64 o.item) ∧ w.cell? ((ad.add (r * 4)).add 3) = some (.bool o.alone)
theorem IsKOps.get {v w : World} {a : Option Addr} {len : Nat} {z : List KOp} (h : IsKOps v a len z) (hf : Fr [] v w) {i : Nat} (hi : i < len) : ∃ (o : KOp) (ad : Addr), inR o.item ∧ a = some ad ∧ w.cell? ((ad.add (i * 4)).add 0) = some (.bool o.give) ∧ w.cell? ((ad.add (i * 4)).add 1) = some (I64 o.s) ∧ w.cell? ((ad.add (i * 4)).add 2) = some (I64 o.item) ∧ w.cell? ((ad.add (i * 4)).add 3) = some (.bool o.alone) := by
  obtain ⟨hl, hz⟩ := h
  have hi' : i < z.length := by omega
  obtain ⟨hr, ad, e, c0, c1, c2, c3⟩ := hz i z[i] (List.getElem?_eq_getElem hi')
  exact ⟨z[i], ad, hr, e, cell_fr hf c0 (by simp), cell_fr hf c1 (by simp), cell_fr hf c2 (by simp), cell_fr hf c3 (by simp)⟩
/-- A session's number out of any number. -/
theorem ses (n : Int) : ∃ s : Int, 1 ≤ s ∧ s ≤ 16 ∧ IntKind.wrap .i64 (IntKind.wrap .i64 (Int.tmod (IntKind.wrap .u64 n) 16) + 1) = s := by
  have h : 0 ≤ IntKind.wrap .u64 n := by
    simp [IntKind.wrap, IntKind.bits, IntKind.signed]; omega
  generalize IntKind.wrap .u64 n = x at h
  rw [Int.tmod_eq_emod_of_nonneg h]
  refine ⟨x % 16 + 1, by omega, by omega, ?_⟩
  rw [wrapi (n := x % 16) (by omega) (by omega), wrapi (by omega) (by omega)]

def Shared (M : Int → IM) (i : Int) : Prop := (M i).Q = [] ∧ ∀ s al, (M i).H s = some al → al = false
theorem shared_rel {M : Int → IM} {item : Int} (h : Shared M item) (s : Int) (K : List Int) : Shared (relM M s K) item := by
  unfold Shared relM
  split
  · unfold relI
    split
    · unfold rel
      rw [h.1]
      refine ⟨rfl, fun t al ht => ?_⟩
      have ht : drop (M item).H s t = some al := ht
      unfold drop at ht
      split at ht
      · cases ht
      · exact h.2 t al ht
    · exact h
  · exact h
theorem shared_ask {W : Int → Option Int} {M : Int → IM} {item : Int} (h : Shared M item) {s i : Int} {alone : Bool} (hs : 1 ≤ s ∧ s ≤ 16) (ha : i = item → alone = false) :
    Shared (ask W M s i alone).2.1 item ∧ ((ask W M s i alone).2.2 = 171 ↔ (W s).isSome = true) ∧ (i = item → W s = none → (ask W M s i alone).2.2 = 0 ∧ ((ask W M s i alone).2.1 item).H s = some false) := by
  unfold ask
  rw [if_neg (by omega)]
  split
  · rename_i hw
    exact ⟨h, ⟨fun _ => hw, fun _ => rfl⟩, fun _ hn => by rw [hn] at hw; cases hw⟩
  rename_i hw
  split
  · rename_i hh
    refine ⟨h, ⟨fun h => absurd h (show ¬ (0 : Int) = 171 by decide), fun h => absurd h hw⟩, fun hi _ => ⟨rfl, ?_⟩⟩
    subst hi
    obtain ⟨al, hal⟩ := Option.isSome_iff_exists.1 hh.1
    show (M i).H s = some false
    rw [hal, h.2 s al hal]
  rename_i hh
  split
  · refine ⟨⟨?_, fun t al ht => ?_⟩, ⟨fun h => absurd h (show ¬ (0 : Int) = 171 by decide), fun h => absurd h hw⟩, fun hi _ => ⟨rfl, ?_⟩⟩
    · show (setM M i ⟨hold (M i).H (s, alone), (M i).Q⟩ item).Q = []
      unfold setM; split
      · rename_i e; rw [← e]; exact h.1
      · exact h.1
    · have ht : (setM M i ⟨hold (M i).H (s, alone), (M i).Q⟩ item).H t = some al := ht
      unfold setM at ht
      split at ht
      · rename_i e
        have ht : hold (M i).H (s, alone) t = some al := ht
        unfold hold at ht
        split at ht
        · injection ht with ht
          rw [← ht]
          have hf := ha e.symm
          show (((M i).H t).getD false || alone) = false
          rw [hf, Bool.or_false]
          cases hx : (M i).H t with
          | none => rfl
          | some x => exact h.2 t x (by rw [e]; exact hx)
        · exact h.2 t al (by rw [e]; exact ht)
      · exact h.2 t al ht
    · subst hi
      show (setM M i ⟨hold (M i).H (s, alone), (M i).Q⟩ i).H s = some false
      unfold setM
      rw [if_pos rfl]
      show hold (M i).H (s, alone) s = some false
      unfold hold
      rw [if_pos rfl, ha rfl]
      cases hx : (M i).H s with
      | none => rfl
      | some x => have := h.2 s x hx; subst this; rfl
  · rename_i hno
    have hne : i ≠ item := fun e => by
      subst e
      refine hno ⟨fun t al ht hne => ⟨h.2 t al ht, ha rfl⟩, .inr h.1⟩
    refine ⟨?_, ⟨fun h => absurd h (show ¬ (160 : Int) = 171 by decide), fun h => absurd h hw⟩, fun hi _ => absurd hi hne⟩
    have : setM M i ⟨(M i).H, putQ (M i).H (M i).Q (s, alone)⟩ item = M item := by unfold setM; rw [if_neg (fun e => hne e.symm)]
    show Shared (setM M i ⟨(M i).H, putQ (M i).H (M i).Q (s, alone)⟩) item
    unfold Shared
    rw [this]; exact h

set_option maxHeartbeats 2000000 in
theorem shares_walk (w : World) {a : Option Addr} {len cap : Nat} {z : List KOp} (hz : IsKOps w a len z) (item : Int) :
    Calls prog 4 #[.slice a len cap, I64 item] w fun e w' => e = .returned (.bool true) ∧ RowKit.Below w.heap.size w w' := by
  have below : ∀ w', Fr [] w w' → RowKit.Below w.heap.size w w' := fun w' f => f.below (Nat.le_refl _) (fun x hx => by cases hx)
  refine rhizomelaw16_LockShares.link ((new_c w).mono ?_)
  rintro e w2 ⟨own, tb, mi, mw, rfl, f2, hown, T2⟩
  refine ⟨_, rfl, fun y4 hy4 => (awake_c w2).mono ?_⟩
  rintro e w73 ⟨rfl, f73⟩
  have T73 := T2.fr f73 (fun x _ => by simp)
  refine ⟨_, rfl, bF rfl (hy4 _ _ (bF rfl ?_))⟩
  clear hy4
  refine ⟨fun m n w' => ∃ (i N : Nat) (own : List Nat) (ib : Int → Option IB) (W : Int → Option Int) (M : Int → IM), n = i ∧ i ≤ 80 ∧ m = 80 - i ∧ N ≤ i ∧ TabAt w' own tb mi mw ib N W M ∧ TOk W M ∧ Fr [] w w' ∧ (∀ x ∈ own, w.heap.size ≤ x) ∧ Shared M item, 80,
    ⟨0, 0, own, _, _, _, rfl, by omega, rfl, Nat.le_refl _, T73, TOk.empty, f2.trans' f73, hown, rfl, fun s al h => (by cases h)⟩, ?_⟩
  clear hown T2 T73
  rintro m n w11 ⟨i, N, own, ib, W, M, rfl, hi, rfl, hN, T, ok, f11, hown, hsh⟩ y13 hy13
  have done : y13 false w11 := hy13 _ _ (bF rfl ⟨rfl, below _ f11⟩)
  refine bc (fun hlt => ?_) fun _ => done
  cases h80 : decide ((i : Int) < 80) with
  | false => exact done
  | true =>
  clear done
  have h80 : (i : Int) < 80 := of_decide_eq_true h80
  have hlt : (i : Int) < (len : Int) := of_decide_eq_true hlt
  refine hy13 _ _ (bT rfl fun y16 hy16 => ?_)
  clear hy13
  obtain ⟨o, ad, hr, rfl, c0, c1, c2, c3⟩ := hz.get f11 (i := i) (by omega)
  have e0 : (i : Int).toNat * 4 = i * 4 := by omega
  have next : ∀ (w' : World) (N' : Nat) (own' : List Nat) (ib' : Int → Option IB) (W' : Int → Option Int) (M' : Int → IM), N' ≤ i + 1 → TabAt w' own' tb mi mw ib' N' W' M' → TOk W' M' → Fr [] w w' → (∀ x ∈ own', w.heap.size ≤ x) → Shared M' item → y16 w' := fun w' N' own' ib' W' M' h1 h2 h3 h4 h5 h6 =>
    hy16 _ ⟨80 - (i + 1), by omega, i + 1, N', own', ib', W', M', by rw [wrapi (by omega) (by omega)]; simp, by omega, rfl, h1, h2, h3, h4, h5, h6⟩
  clear hy16
  obtain ⟨s, hs1, hs2, hse⟩ := ses o.s
  refine ⟨ad, rfl, ⟨by omega, hlt⟩, _, _, _, _, ⟨by rw [e0]; exact c0, by rw [e0]; exact c1, by rw [e0]; exact c2, by rw [e0]; exact c3, trivial⟩, fun k26 => ⟨by decide, bc (fun _ w27 st27 => ?_) fun _ w35 st35 => ?_⟩⟩
  · rw [hse]
    have n27 := g_new1 st27
    have T27 := T.fr st27.fr (fun x _ => by simp)
    have f27 := f11.trans' st27.fr
    refine (release_c T27 ok (by omega) s).mono ?_
    rintro e w30 (⟨hb, _⟩ | ⟨_, p, c, K, ib8, rfl, hK, hKi, f30, row30, hp30, T30⟩)
    · omega
    refine ⟨_, _, _, _, rfl, g_keep f30 (fun x hx => by simp at hx; subst hx; exact ⟨n27.2, fun hm => by have := T.lt _ hm; omega⟩), ?_⟩
    exact next _ N own ib8 _ _ (by omega) T30 (rel_ok ok hKi) (f27.trans f30 (fun x hx => .inr (hown x hx))) hown (shared_rel hsh s K)
  · rw [hse]
    have n35 := g_new1 st35
    have T35 := T.fr st35.fr (fun x _ => by simp)
    have f35 := f11.trans' st35.fr
    refine (waits_c T35 ok s).mono ?_
    rintro e w38 ⟨f38, hw⟩
    have z38 := f38.size
    have T38 := T35.fr f38 (fun x _ => by simp)
    have F38 := f35.trans' f38
    have hw' : ∃ n39 b40 b41, e = .returned (.tuple #[I64 n39, .bool b40, .bool b41]) ∧ b41 = (W s).isSome := by
      rcases hw with ⟨h1, rfl⟩ | ⟨j, al, h1, _, rfl⟩
      · exact ⟨_, _, _, rfl, by rw [h1]; rfl⟩
      · exact ⟨_, _, _, rfl, by rw [h1]; rfl⟩
    clear hw
    obtain ⟨n39, b40, b41, rfl, hb41⟩ := hw'
    refine ⟨_, _, _, rfl, g_keep f38 (fun x hx => by simp at hx; subst hx; exact ⟨n35.2, by simp⟩), fun y42 hy42 => ?_⟩
    have main : ∀ al : Bool, (o.item = item → al = false) → ∀ w44, Fr [] w38 w44 → y42 al w44 := by
      intro al hal w44 f44
      refine hy42 _ _ ?_
      clear hy42
      have T44 := T38.fr f44 (fun x _ => by simp)
      have F44 := F38.trans' f44
      have z44 := F44.size
      refine (ask_c T44 ok s hr al).mono ?_
      rintro e w46 ⟨rfl, own', ib', f46, hsub, hnew, T46⟩
      obtain ⟨g1, g2, g3⟩ := shared_ask (W := W) hsh (s := s) (i := o.item) (alone := al) ⟨hs1, hs2⟩ hal
      have hown' : ∀ x ∈ own', w.heap.size ≤ x := fun x hx => by
        rcases hnew x hx with h | h
        · exact hown x h
        · omega
      have F46 := F44.trans f46 (fun x hx => .inr (hown x hx))
      have fin : ∀ w', Fr [] w46 w' → y16 w' := fun w' f => next _ (N + 1) own' ib' _ _ (by omega) (T46.fr f (fun x _ => by simp)) (ask_ok ok s o.item al) (F46.trans' f) hown' g1
      refine ⟨_, rfl, bF ?_ fun y48 hy48 => ?_⟩
      · rw [hb41]
        by_cases h : (ask W M s o.item al).2.2 = 171
        · rw [decide_eq_true h, g2.1 h]; rfl
        · rw [decide_eq_false h]
          have : (W s).isSome = false := by
            cases hh : (W s).isSome with
            | false => rfl
            | true => exact absurd (g2.2 hh) h
          rw [this]; rfl
      · have no : y48 false w46 := hy48 _ _ (bF rfl (fin _ (Fr.refl _ _)))
        refine bc (fun hit => ?_) fun _ => no
        have hit : o.item = item := of_decide_eq_true hit
        cases hbb : b41 with
        | true => exact no
        | false =>
          have hWn : W s = none := by
            rw [hbb] at hb41
            cases hh : W s with
            | none => rfl
            | some x => rw [hh] at hb41; cases hb41
          obtain ⟨h0, hH⟩ := g3 hit hWn
          refine hy48 _ _ (bT rfl ((holds_c T46 s o.item).mono ?_))
          rintro e w52 ⟨rfl, rfl⟩
          rw [← hit] at hH
          rw [hH]
          exact ⟨_, _, rfl, fun y55 hy55 => bF (by simp [h0]) (bF rfl (hy55 _ _ (bF rfl (fin _ (Fr.refl _ _)))))⟩
    refine bc (fun _ w64 st => main false (fun _ => rfl) _ st.fr) fun hne w66 st => main o.alone (fun h => absurd h (of_decide_eq_false hne)) _ st.fr
end Go.Proofs.Ytnimejocaaekaaa.Lock
