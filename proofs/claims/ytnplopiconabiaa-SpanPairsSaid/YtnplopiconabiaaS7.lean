/- Span: a map's keys, sorted, in V's words. -/
import Derived.Test.YtnplopiconabiaaS6
import Derived.Test.YtnplopiconabiaaSK
namespace Go.Proofs.Ytnplopiconabiaa.Span
open Go Go.V
open Go.Proofs.Ytnplopiconabiaa.VC
open Go.Proofs.Try (prog)
set_option linter.unusedVariables false
set_option linter.unusedSimpArgs false
set_option maxRecDepth 20000

def inR (n : Int) : Prop := -9223372036854775808 ≤ n ∧ n ≤ 9223372036854775807
theorem sortI_eq {l l' : List Int} (h : l.Perm l') : sortI l = sortI l' := by
  have p1 : (sortI l).Pairwise (fun a b => decide (a ≤ b) = true) := List.pairwise_mergeSort (fun a b c h1 h2 => by simp at h1 h2 ⊢; omega) (fun a b => by simp; omega) l
  have p2 : (sortI l').Pairwise (fun a b => decide (a ≤ b) = true) := List.pairwise_mergeSort (fun a b c h1 h2 => by simp at h1 h2 ⊢; omega) (fun a b => by simp; omega) l'
  have hp : (sortI l).Perm (sortI l') := (sortI_perm l).trans (h.trans (sortI_perm l').symm)
  exact hp.eq_of_pairwise (fun a b _ _ h1 h2 => by simp at h1 h2; omega) p1 p2

theorem keys_fin {w w1 w2 : World} {l : List (Int × Value)} {v : Value} {ss : List Int} (hperm : ss.Perm (l.map (·.1))) (hrow : w2.ownsRow w.heap.size 3 1 v ss.length ((ss.mergeSort (fun x y => decide (x ≤ y))).map encZ)) (hnil : v = .slice none 0 0 ↔ ss = []) (hB : RowKit.Below w.heap.size w w2) :
    ∃ p c, v = .slice p l.length c ∧ Fr [] w w2 ∧ Row w2 p ((sortI (l.map (·.1))).map kenc) ∧ ∀ ad, p = some ad → w.heap.size ≤ ad.block := by
  have hl : ss.length = l.length := by have := hperm.length_eq; rwa [List.length_map] at this
  have hs : ss.mergeSort (fun x y => decide (x ≤ y)) = sortI (l.map (·.1)) := sortI_eq hperm
  obtain ⟨hr1, hr2⟩ := hrow
  rcases hr2 with ⟨rfl, hz⟩ | ⟨g, cap, cur, rfl, hbase, hg, r1, r2, r3, r4⟩
  · have hn0 : ss = [] := List.length_eq_zero_iff.1 (by omega)
    have hm : l.length = 0 := by rw [← hl, hn0]; rfl
    refine ⟨none, 0, by rw [hm], Fr.of_below hB, ?_, fun ad h => by cases h⟩
    rw [← hs, hn0]
    have e : (([] : List Int).mergeSort fun x y => decide (x ≤ y)) = [] := List.mergeSort_nil
    rw [e]; exact Row.nil _ _
  · refine ⟨_, cap, by rw [hl], Fr.of_below hB, ?_, fun ad h => by injection h with h; subst h; exact hbase⟩
    rw [← hs]
    refine Row.of_blk (off := 0) (cs := cur.toList) ⟨3, 0, 0, by simpa using hg, .inl (Nat.le_refl _)⟩ (fun j u hj => ?_) (fun u hu => by obtain ⟨n, _, rfl⟩ := List.mem_map.1 hu; rfl)
    have hj' : (cur.toList.take (ss.length * 1))[j]? = some u := by rw [r4]; exact hj
    rw [Nat.zero_add]
    rw [List.getElem?_take] at hj'
    split at hj'
    · exact hj'
    · cases hj'

/-- A map's keys, sorted. -/
def KeysOk (w : World) (l : List (Int × Value)) (e : Ending) (w1 : World) : Prop := ∃ x, e = .returned x ∧ Fr [] w w1 ∧ Calls prog 38 #[x] w1 fun e w2 => ∃ p c, e = .returned (.slice p l.length c) ∧ Fr [] w w2 ∧ Row w2 p ((sortI (l.map (·.1))).map kenc) ∧ ∀ ad, p = some ad → w.heap.size ≤ ad.block
section
variable {w : World} {m : Nat} {l : List (Int × Value)}
theorem keysE_c (h : MapG kenc w m l) (hk : ∀ p ∈ l, inR p.1) (hl : l.length ≤ 1048576) : Calls prog 39 #[.map (some m)] w (KeysOk w l) := by
  refine (Go.Proofs.Try.keysSortedE h hk hl).mono ?_
  rintro e w1 ⟨x, rfl, hb, hc⟩
  refine ⟨x, rfl, Fr.of_below hb, hc.mono ?_⟩
  rintro e w2 ⟨v, ss, rfl, h1, h2, h3, h4⟩
  obtain ⟨p, c, rfl, g⟩ := keys_fin (w1 := w1) h1 h2 h3 h4
  exact ⟨p, c, rfl, g⟩
theorem keysI_c (h : MapG kenc w m l) (hk : ∀ p ∈ l, inR p.1) (hl : l.length ≤ 1048576) : Calls prog 50 #[.map (some m)] w (KeysOk w l) := by
  refine (Go.Proofs.Try.keysSortedI h hk hl).mono ?_
  rintro e w1 ⟨x, rfl, hb, hc⟩
  refine ⟨x, rfl, Fr.of_below hb, hc.mono ?_⟩
  rintro e w2 ⟨v, ss, rfl, h1, h2, h3, h4⟩
  obtain ⟨p, c, rfl, g⟩ := keys_fin (w1 := w1) h1 h2 h3 h4
  exact ⟨p, c, rfl, g⟩
theorem keysB_c (h : MapG kenc w m l) (hk : ∀ p ∈ l, inR p.1) (hl : l.length ≤ 1048576) : Calls prog 97 #[.map (some m)] w (KeysOk w l) := by
  refine (Go.Proofs.Try.keysSortedB h hk hl).mono ?_
  rintro e w1 ⟨x, rfl, hb, hc⟩
  refine ⟨x, rfl, Fr.of_below hb, hc.mono ?_⟩
  rintro e w2 ⟨v, ss, rfl, h1, h2, h3, h4⟩
  obtain ⟨p, c, rfl, g⟩ := keys_fin (w1 := w1) h1 h2 h3 h4
  exact ⟨p, c, rfl, g⟩
end
end Go.Proofs.Ytnplopiconabiaa.Span
