/- Opened again: the same records. -/
import Derived.Test.YtcaamecdhbgknaaGR
import Derived.Test.YtcaamecdhbgknaaH6
namespace Go.Proofs.Ytcaamecdhbgknaa.Log
open Go Go.V
open Go.Proofs.Ytcaamecdhbgknaa.Disk
set_option linter.unusedVariables false
set_option linter.unusedSimpArgs false
set_option maxRecDepth 20000

theorem scanF_lay {f : Nat → Option (Nat × ByteArray)} {H : Nat} (hf : ∀ a x, f a = some x → a + 1 + secs x.2.size ≤ H) : ∀ (fuel a : Nat) (q : Option Nat), H ≤ fuel + a → LayF f a q (scanF f H fuel a q) ∧ StopF f (endAt a (scanF f H fuel a q)) (lastOf q (scanF f H fuel a q)) := by
  intro fuel
  induction fuel with
  | zero =>
    intro a q h
    refine ⟨trivial, fun seq d hr => ?_⟩
    have := hf _ _ hr
    have e : endAt a (scanF f H 0 a q) = a := rfl
    rw [e] at this
    omega
  | succ n ih =>
    intro a q h
    by_cases ha : a < H
    · cases e : f a with
      | none =>
        have es : scanF f H (n + 1) a q = [] := by rw [scanF, if_pos ha, e]
        rw [es]
        refine ⟨trivial, fun seq d hr => ?_⟩
        have hr : f a = some (seq, d) := hr
        rw [e] at hr; cases hr
      | some x =>
        by_cases hq : q.getD (x.1 - 1) + 1 = x.1
        · have es : scanF f H (n + 1) a q = (a, x.1, x.2) :: scanF f H n (a + 1 + secs x.2.size) (some x.1) := by
            rw [scanF, if_pos ha, e]; exact if_pos hq
          rw [es]
          obtain ⟨h1, h2⟩ := ih (a + 1 + secs x.2.size) (some x.1) (by omega)
          exact ⟨⟨rfl, e, hq, h1⟩, h2⟩
        · have es : scanF f H (n + 1) a q = [] := by
            rw [scanF, if_pos ha, e]; exact if_neg hq
          rw [es]
          refine ⟨trivial, fun seq d hr => ?_⟩
          have hr : f a = some (seq, d) := hr
          rw [e] at hr
          have hr := Option.some.inj hr
          subst hr
          exact hq
    · have es : scanF f H (n + 1) a q = [] := by rw [scanF, if_neg ha]
      rw [es]
      refine ⟨trivial, fun seq d hr => ?_⟩
      have hr : f a = some (seq, d) := hr
      have := hf _ _ hr
      omega
theorem scan_lay (now : List ByteArray) (H fuel a : Nat) (q : Option Nat) (h : H ≤ fuel + a) : Lay now H a q (scan now H fuel a q) ∧ Stop now H (endAt a (scan now H fuel a q)) (lastOf q (scan now H fuel a q)) := by
  rw [scan_F]
  exact scanF_lay (recF now H) fuel a q h

theorem mem_dirtyTo {M : DM} {a k j : Nat} : ((j : Nat) : Int) ∈ dirtyTo M a k ↔ a ≤ j ∧ j < a + k ∧ M.now.getD j zsec ≠ zsec := by
  unfold dirtyTo
  constructor
  · intro h
    obtain ⟨i, hi, e⟩ := List.mem_map.1 h
    have h2 := List.mem_filter.1 hi
    have h3 := List.mem_range.1 h2.1
    have : a + i = j := by omega
    subst this
    exact ⟨by omega, by omega, by simpa using h2.2⟩
  · rintro ⟨h1, h2, h3⟩
    refine List.mem_map.2 ⟨j - a, List.mem_filter.2 ⟨List.mem_range.2 (by omega), ?_⟩, by omega⟩
    rw [show a + (j - a) = j by omega, decide_eq_false h3]; rfl

/-- A disk that lives: opened again it has the same records. -/
theorem lopen_again {M : DM} (hok : M.Ok) (hl : M.left < 0) {first count : Int} (hb : ¬ badArea M first count) :
    lscan (lopen M first count).1 first.toNat (first + count).toNat = lscan M first.toNat (first + count).toNat ∧ (lopen M first count).1.left < 0 ∧ (lopen M first count).1.n = M.n := by
  have hb' : ¬ (first < 0 ∨ count < 2 ∨ M.n < first ∨ M.n - first < count) := hb
  have hMn : M.n = (M.sure.length : Int) := rfl
  obtain ⟨f, rfl⟩ : ∃ f : Nat, first = f := ⟨first.toNat, by omega⟩
  obtain ⟨c, rfl⟩ : ∃ c : Nat, count = c := ⟨count.toNat, by omega⟩
  have e1 : ((f : Int)).toNat = f := by omega
  have e2 : ((f : Int) + (c : Int)).toNat = f + c := by omega
  rw [e1, e2]
  unfold lopen
  rw [if_neg hb]
  split
  · exact ⟨rfl, hl, rfl⟩
  have hv := ldirty_in hb
  obtain ⟨a1, a2⟩ := wipe_alive hl hv
  refine ⟨?_, by omega, wipe_n hok _⟩
  have hld : ldirty M (f : Int) (c : Int) = dirtyTo M (endAt f (lscan M f (f + c))) (f + c - endAt f (lscan M f (f + c))) := by
    unfold ldirty lend; rw [e1, e2]
  generalize ldirty M (f : Int) (c : Int) = ld at *
  obtain ⟨hlay, hstop⟩ := scan_lay M.now (f + c) (f + c - f) f none (by omega)
  have hs : scan M.now (f + c) (f + c - f) f none = lscan M f (f + c) := rfl
  rw [hs] at hlay hstop
  generalize lscan M f (f + c) = s at *
  have hW := writes_eff (ld.map fun i => (i, zsec)) hok (fun p hp => by
    obtain ⟨x, hx, rfl⟩ := List.mem_map.1 hp
    exact ⟨(hv x hx).1, (hv x hx).2, zsec_size⟩)
  have hw0 : (writes M (ld.map fun i => (i, zsec))).2 = 0 := by
    unfold wipe at a1
    split at a1
    · assumption
    · exact a1
  have hnow : (wipe M ld).1.now = (writes M (ld.map fun i => (i, zsec))).1.now := by
    unfold wipe
    rw [if_pos hw0]
    unfold DM.flush
    split <;> rfl
  unfold lscan
  rw [hnow]
  refine scan_of_lay s (lay_congr (S64_of hok.w64) s hlay fun i _ hi => hW.oth i fun p hp e => ?_) (by omega) ?_
  · obtain ⟨x, hx, rfl⟩ := List.mem_map.1 hp
    have e : x = (i : Int) := e
    subst e
    rw [hld] at hx
    have := (mem_dirtyTo.1 hx).1
    omega
  · have hend := lay_end s hlay
    by_cases hE : f + c ≤ endAt f s
    · exact stop_behind hE
    · refine stop_zero ?_
      by_cases hz : M.now.getD (endAt f s) zsec = zsec
      · rw [hW.oth _ fun p hp e => ?_, hz]
        obtain ⟨x, hx, rfl⟩ := List.mem_map.1 hp
        have e : x = ((endAt f s : Nat) : Int) := e
        subst e
        rw [hld] at hx
        exact (mem_dirtyTo.1 hx).2.2 hz
      · refine hW.all hw0 (endAt f s) zsec (List.mem_map.2 ⟨_, ?_, rfl⟩) fun s' hs' => ?_
        · rw [hld]; exact mem_dirtyTo.2 ⟨Nat.le_refl _, by omega, hz⟩
        · obtain ⟨x, _, e⟩ := List.mem_map.1 hs'
          injection e with _ e
          exact e.symm

end Go.Proofs.Ytcaamecdhbgknaa.Log
