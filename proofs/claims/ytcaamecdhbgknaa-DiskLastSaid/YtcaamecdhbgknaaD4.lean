/- The disk: what is not sure; copying a map; making all sure. -/
import Derived.Test.YtcaamecdhbgknaaD3
import Derived.Test.YtcaamecdhbgknaaK1
import Derived.Test.YtcaamecdhbgknaaC2
namespace Go.Proofs.Ytcaamecdhbgknaa.Disk
open Go Go.V
open Go.Proofs.Ytcaamecdhbgknaa.VC
open Go.Proofs.Try (prog)
set_option linter.unusedVariables false
set_option linter.unusedSimpArgs false
set_option maxRecDepth 20000

def DM.unsure (M : DM) : List Int := ((List.range M.sure.length).filter fun i => decide (M.fresh[i]? = some true)).map Int.ofNat

theorem DM.unsure_sorted (M : DM) : M.unsure.Pairwise (fun a b => a < b) := by
  unfold DM.unsure
  refine List.pairwise_map.2 ?_
  refine (List.pairwise_lt_range.filter _).imp fun h => ?_
  exact Int.ofNat_lt.2 h
theorem DM.mem_unsure {M : DM} {k : Int} : k ∈ M.unsure ↔ ∃ i : Nat, k = i ∧ i < M.sure.length ∧ M.fresh[i]? = some true := by
  unfold DM.unsure
  simp only [List.mem_map, List.mem_filter, List.mem_range, decide_eq_true_eq]
  constructor
  · rintro ⟨i, ⟨h1, h2⟩, rfl⟩; exact ⟨i, rfl, h1, h2⟩
  · rintro ⟨i, rfl, h1, h2⟩; exact ⟨i, ⟨h1, h2⟩, rfl⟩

theorem FreshL.keys {M : DM} (hok : M.Ok) {l : List (Int × Value)} (h : FreshL M l) (hn : (l.map (·.1)).Nodup) : (l.map (·.1)).Perm M.unsure := by
  refine (List.perm_ext_iff_of_nodup hn (M.unsure_sorted.imp fun h => by omega)).2 fun k => ?_
  rw [DM.mem_unsure]
  constructor
  · intro hk
    obtain ⟨p, hp, rfl⟩ := List.mem_map.1 hk
    obtain ⟨h1, h2⟩ := h.2.2 p hp
    have hlt : p.1.toNat < M.sure.length := by have : p.1 < (M.sure.length : Int) := h2; omega
    have hfl : p.1.toNat < M.fresh.length := by rw [hok.fre]; exact hlt
    refine ⟨p.1.toNat, by omega, hlt, ?_⟩
    rw [List.getElem?_eq_getElem hfl]
    cases e : M.fresh[p.1.toNat] with
    | true => rfl
    | false =>
      exfalso
      have := h.2.1 p.1.toNat (by rw [List.getElem?_eq_getElem hfl, e])
      rw [show ((p.1.toNat : Nat) : Int) = p.1 by omega, look_of_mem hn hp] at this
      cases this
  · rintro ⟨i, rfl, h1, h2⟩
    obtain ⟨s, hs, hl⟩ := h.1 i h2
    exact List.mem_map.2 ⟨_, look_mem hl, rfl⟩

theorem sorted_eq {ss us : List Int} (h : ss.Perm us) (hu : us.Pairwise (fun a b => a < b)) : ss.mergeSort (fun x y => decide (x ≤ y)) = us := by
  have tr : ∀ a b c : Int, decide (a ≤ b) = true → decide (b ≤ c) = true → decide (a ≤ c) = true := fun a b c h1 h2 => by simp only [decide_eq_true_eq] at *; omega
  have to : ∀ a b : Int, (decide (a ≤ b) || decide (b ≤ a)) = true := fun a b => by simp only [Bool.or_eq_true, decide_eq_true_eq]; omega
  refine List.Perm.eq_of_pairwise (le := fun a b => decide (a ≤ b) = true) (fun a b _ _ h1 h2 => ?_) (List.pairwise_mergeSort tr to ss) (hu.imp fun h => by simp only [decide_eq_true_eq]; omega) ((List.mergeSort_perm ss _).trans h)
  simp only [decide_eq_true_eq] at h1 h2
  omega

theorem DM.unsure_len {M : DM} : M.unsure.length ≤ M.sure.length := by
  unfold DM.unsure
  rw [List.length_map]
  exact Nat.le_trans (List.length_filter_le _ _) (by simp)

theorem unsure_c {w : World} {b ms mf : Nat} {M : DM} (h : DiskAt w b ms mf M) : Calls prog 26 #[D b] w fun e w' =>
    ∃ p c, e = .returned (.slice p M.unsure.length c) ∧ Fr [] w w' ∧ Row w' p (M.unsure.map I64) ∧ (∀ ad, p = some ad → w.heap.size ≤ ad.block) := by
  obtain ⟨lf, hbk, hl⟩ := h.blk
  obtain ⟨l2, g2, s2⟩ := h.fresh
  have hkeys := s2.keys h.ok g2.nodup
  have hhi := h.ok.hi
  have hlen : l2.length ≤ 1048576 := by
    have := hkeys.length_eq
    rw [List.length_map] at this
    have := M.unsure_len
    omega
  refine disk_Disk_Unsure.link ⟨_, hbk.cell 2, ?_⟩
  refine (Go.Proofs.Try.keysSorted g2 (fun p hp => ?_) hlen).mono ?_
  · obtain ⟨h1, h2⟩ := s2.2.2 p hp
    have h2 : p.1 < (M.sure.length : Int) := h2
    omega
  rintro e w1 ⟨x, rfl, hc⟩
  refine ⟨x, rfl, hc.mono ?_⟩
  rintro e w2 ⟨v, ss, rfl, hperm, hrow, hnil, hB⟩
  have hp := hperm.trans hkeys
  have hss := sorted_eq hp M.unsure_sorted
  have hsl : ss.length = M.unsure.length := hp.length_eq
  obtain ⟨hr1, hr2⟩ := hrow
  rcases hr2 with ⟨rfl, hz⟩ | ⟨g, cap, cur, rfl, hbase, hg, r1, r2, r3, r4⟩
  · have hn0 : M.unsure = [] := List.length_eq_zero_iff.1 (by omega)
    refine ⟨none, 0, 0, rfl, none, 0, by rw [hn0]; rfl, Fr.of_below hB, by rw [hn0]; exact Row.nil _ _, fun ad h => by cases h⟩
  · refine ⟨_, _, _, rfl, _, cap, by rw [hsl], Fr.of_below hB, ?_, fun ad h => by injection h with h; subst h; exact hbase⟩
    have hr4 : M.unsure.map I64 = (ss.mergeSort (fun x y => decide (x ≤ y))).map I64 := by rw [hss]
    rw [hr4]
    refine Row.of_blk (off := 0) (cs := cur.toList) ⟨3, 0, 0, by simpa using hg, .inl (Nat.le_refl _)⟩ (fun j u hj => ?_) (fun u hu => by obtain ⟨n, _, rfl⟩ := List.mem_map.1 hu; rfl)
    have hj' : (cur.toList.take (ss.length * 1))[j]? = some u := by rw [r4]; exact hj
    rw [Nat.zero_add]
    rw [List.getElem?_take] at hj'
    split at hj'
    · exact hj'
    · cases hj'

end Go.Proofs.Ytcaamecdhbgknaa.Disk
