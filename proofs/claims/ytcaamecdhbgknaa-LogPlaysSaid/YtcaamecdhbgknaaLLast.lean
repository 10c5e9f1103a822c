/- DiskLast. -/
import Derived.Test.YtcaamecdhbgknaaLArmed
import Derived.Test.YtcaamecdhbgknaaB2
import Derived.Test.YtcaamecdhbgknaaL4
namespace Go.Proofs.Ytcaamecdhbgknaa.Disk
open Go Go.V
open Go.Proofs.Ytcaamecdhbgknaa.VC
open Go.Proofs.Try (prog)
set_option linter.unusedVariables false
set_option linter.unusedSimpArgs false
set_option maxRecDepth 20000

theorem unsure_one {M : DM} {i : Nat} (hi : i < M.sure.length) (hf : M.fresh[i]? = some true) (ho : ∀ j : Nat, M.fresh[j]? = some true → j = i) : M.unsure.length = 1 := by
  have hp : M.unsure.Perm [(i : Int)] := by
    refine (List.perm_ext_iff_of_nodup (M.unsure_sorted.imp fun h => by omega) (by simp)).2 fun k => ?_
    rw [DM.mem_unsure, List.mem_singleton]
    constructor
    · rintro ⟨j, rfl, hj, h⟩; rw [ho j h]
    · rintro rfl; exact ⟨i, rfl, hi, hf⟩
  exact hp.length_eq
theorem toNat_lt {j m : Int} {n : Nat} (h0 : 0 ≤ j) (h1 : j < m) (h : (n : Int) = m) : j.toNat < n := by omega
theorem unsure_nil {M : DM} (ho : ∀ j : Nat, M.fresh[j]? ≠ some true) : M.unsure = [] := by
  apply List.eq_nil_iff_forall_not_mem.2
  intro k hk
  obtain ⟨j, _, _, h⟩ := DM.mem_unsure.1 hk
  exact ho j h
theorem IsRows.fr {F : List Nat} {v w : World} {a : Option Addr} {len cap : Nat} {z : List ByteArray} (h : IsRows v a len cap z) (hf : Fr [] v w) : IsRows w a len cap z :=
  ⟨h.1, fun r s hs => by
    obtain ⟨ad, A, C, h1, h2, h3⟩ := h.2 r s hs
    exact ⟨ad, A, C, h1, cell_fr hf h2 (by simp), Row.fr hf h3 (fun ad _ => by simp)⟩⟩

theorem last_walk (w : World) (i : Int) {wrA : Option Addr} {wrL wrC : Nat} {wr : List ByteArray} (hwr : IsRows w wrA wrL wrC wr) {flA : Option Addr} {flC : Nat} {fl : List Bool} (hr : Row w flA (fl.map .bool)) :
    Calls prog 4 #[I64 i, .slice wrA wrL wrC, .slice flA fl.length flC] w fun e w' => e = .returned (.bool true) ∧ RowKit.Below w.heap.size w w' := by
  refine rhizomelaw03_DiskLast.link ((awake_c w).mono ?_)
  rintro e w2 ⟨rfl, f2⟩
  refine ⟨_, rfl, bF rfl ((new_c w2 8).mono ?_)⟩
  rintro e w5 ⟨_, h⟩
  obtain ⟨b, ms, mf, rfl, hge, f5, hD⟩ := h (by omega)
  have z2 := f2.size
  have z5 := f5.size
  have hb := hge b (by simp)
  have hms := hge ms (by simp)
  have hmf := hge mf (by simp)
  have hW : ∀ x ∈ [b, ms, mf], x ∈ ([] : List Nat) ∨ w.heap.size ≤ x := fun x hx => .inr (by have := hge x hx; omega)
  have f05 : Fr [] w w5 := f2.trans' f5
  obtain ⟨q1, q2, q3, q4, q5⟩ := hD.bs
  refine ⟨_, _, rfl, fun y8 hy8 => bF rfl (hy8 _ _ (bF rfl ⟨by decide, fun y11 hy11 => ?_⟩))⟩
  obtain ⟨m0, m1⟩ := modN (n := i) (m := 8) (by decide) (by decide)
  generalize hN0 : IntKind.wrap .i64 (Int.tmod (IntKind.wrap .u64 i) 8) = j at m0 m1 hy11 ⊢
  have start : ∀ (ks : Nat) (w15 : World), w5.heap.size ≤ ks → Fr [] w5 w15 → Blk w15 ks (byteCells zsec) → y11 (some ⟨ks, 0, none⟩) 64 64 w15 := fun ks w15 zs f15 bs => by
    let I : Nat → Option Addr → Nat → Nat → Int → World → Prop := fun m p l c q w' => ∃ (k : Nat) (M : DM) (kk : Nat) (S : ByteArray), q = k ∧ k ≤ wrL ∧ m = wrL - k ∧ p = some ⟨kk, 0, none⟩ ∧ l = 64 ∧ c = 64 ∧ kk ∉ [b, ms, mf] ∧ Fr [] w w' ∧ w5.heap.size ≤ w'.heap.size ∧ DiskAt w' b ms mf M ∧ M.n = 8 ∧ M.left = -1 ∧
      Blk w' kk (byteCells S) ∧ M.sureAt j.toNat = S ∧ ∀ x, M.fresh[x]? = some true → x = j.toNat
    refine hy11 _ _ _ _ ⟨I, wrL, ⟨0, _, ks, zsec, rfl, by omega, rfl, rfl, rfl, rfl, by simp; omega, f05.trans' f15, f15.size, hD.fr f15 (by simp), rfl, rfl, bs, ?_, fun x hx => ?_⟩, fun m p l c q w23 hI => ?_⟩
    · show (List.replicate (Int.toNat 8) zsec).getD j.toNat zsec = zsec
      rw [List.getD_eq_getElem?_getD, List.getElem?_replicate]
      split <;> rfl
    · have hx : (List.replicate (Int.toNat 8) false)[x]? = some true := hx
      rw [List.getElem?_replicate] at hx
      split at hx <;> cases hx
    obtain ⟨k, M, kk, S, rfl, hk, rfl, rfl, rfl, rfl, hkk, f23, z23, D23, hMn, hMl, bS, hS, honly⟩ := hI
    intro y25 hy25
    have hj8 : j.toNat < M.sure.length := by
      have : (M.sure.length : Int) = 8 := hMn
      omega
    have hdd : ¬ M.dead := fun h : M.left = 0 => by omega
    have stop : y25 false w23 := hy25 _ _ (bF rfl ⟨rfl, f23.below (Nat.le_refl _) (fun x hx => by cases hx)⟩)
    refine ⟨fun hlt => ?_, fun _ => stop⟩
    have hlt : (k : Int) < (wrL : Int) := of_decide_eq_true hlt
    have hltn : k < wrL := by omega
    cases h30 : decide ((k : Int) < 30) with
    | false => exact stop
    | true =>
    have hk30 : (k : Int) < 30 := of_decide_eq_true h30
    have hnext : IntKind.wrap .i64 ((k : Int) + 1) = ((k + 1 : Nat) : Int) := by rw [wrapi (by omega) (by omega)]; simp
    refine hy25 _ _ (bT rfl ?_)
    have hz : k < wr.length := by rw [hwr.1]; exact hltn
    obtain ⟨ad, A, C, rfl, hcell, hrow⟩ := (IsRows.fr (F := []) hwr f23).2 k wr[k] (List.getElem?_eq_getElem hz)
    refine ⟨ad, rfl, ⟨by omega, by omega⟩, A, _, C, ?_, (bytes_c w23 hrow).mono ?_⟩
    · have : (k : Int).toNat * 1 = k := by omega
      rw [this]; exact hcell
    rintro e w33 ⟨kl, rfl, zl, f33, bl⟩
    have z33 := f33.size
    have hkl : kl ∉ [b, ms, mf] := by simp; omega
    refine ⟨_, _, _, rfl, (write_b (D23.fr f33 (by simp)) j bl (round_size _).symm hkl).mono ?_⟩
    rintro e w38 ⟨rfl, f38, D38⟩
    have hwl := write_live (M := M) (i := j) (s := round wr[k]) m0 (by rw [hMn]; exact m1) (round_size _) hdd
    rw [hwl] at D38 ⊢
    have f038 : Fr [] w w38 := (f23.trans' f33).trans f38 hW
    have bl38 := bl.fr f38 hkl
    have bS38 := (bS.fr f33 (by simp)).fr f38 hkk
    have z38 := f38.size
    have hfl : j.toNat < M.fresh.length := by rw [D23.ok.fre]; exact hj8
    have hnl : j.toNat < M.now.length := by rw [D23.ok.now]; exact hj8
    refine ⟨_, rfl, bF rfl fun y40 hy40 => ?_⟩
    -- behind the flush, or without it
    have tail : ∀ (kq : Nat) (Q : ByteArray) (u : Int) (M' : DM) (w45 : World), kq ∉ [b, ms, mf] → Fr [] w w45 → w5.heap.size ≤ w45.heap.size → DiskAt w45 b ms mf M' → M'.n = 8 → M'.left = -1 → Blk w45 kq (byteCells Q) → Blk w45 kl (byteCells (round wr[k])) → M'.sureAt j.toNat = Q →
        M'.now[j.toNat]? = some (round wr[k]) → (∀ x, M'.fresh[x]? = some true → x = j.toNat) → (M'.unsure.length : Int) = u → y40 (some ⟨kq, 0, none⟩) 64 64 u w45 := by
      intro kq Q u M' w45 hkq f45 z45 D45 hn45 hl45 bq bl45 hsu hnow hon hu
      refine hy40 _ _ _ _ _ ((read_c D45 j).mono ?_)
      rintro e w47 ⟨_, h⟩
      obtain ⟨ka, sa, hsa, rfl, za, f47, ba⟩ := h (by rw [hn45]; omega)
      rw [hnow] at hsa; injection hsa with hsa; subst hsa
      have D47 := D45.fr f47 (by simp)
      refine ⟨_, _, _, _, rfl, (crash_c D47 (keepA := none) (keepC := 0) (keep := []) (Row.nil _ _) (-1) 0).mono ?_⟩
      rintro e w53 ⟨cb, cs, cf, rfl, hge', f53, D53⟩
      have D53' := D47.fr f53 (by simp)
      have f053 : Fr [] w w53 := (f45.trans' f47).trans' f53
      refine ⟨_, rfl, fun y55 hy55 => bF rfl ?_⟩
      obtain ⟨u1, u2⟩ := str_of (ba.fr f53 (by simp)) (round_size wr[k])
      obtain ⟨v1, v2⟩ := str_of ((bl45.fr f47 (by simp)).fr f53 (by simp)) (round_size wr[k])
      refine ⟨_, u1, u2, _, v1, v2, bF (by simp) ((unsure_c D53').mono ?_)⟩
      rintro e w89 ⟨pu, cu, rfl, f89, _, _⟩
      refine ⟨_, _, _, rfl, bF (by rw [hu]; simp) (hy55 _ _ (bF rfl ((read_c (D53.fr f89 (by simp)) j).mono ?_)))⟩
      rintro e w59 ⟨_, h⟩
      have hlen' : (M'.sure.length : Int) = 8 := hn45
      have hnc : (M'.crash [] (-1) 0).n = 8 := by
        show (((List.range M'.sure.length).map _).length : Int) = 8
        rw [List.length_map, List.length_range]; exact hlen'
      obtain ⟨kc, sc, hsc, rfl, zc, f59, bc⟩ := h (by rw [hnc]; omega)
      have hj' : j.toNat < M'.sure.length := toNat_lt m0 m1 hlen'
      have hsc' : sc = Q := by
        have h1 : (M'.crash [] (-1) 0).sure[j.toNat]? = some sc := hsc
        have h2 := DM.crash_at M' [] (-1) 0 hj'
        have h3 : (M'.crash [] (-1) 0).sureAt j.toNat = sc := by
          unfold DM.sureAt; rw [List.getD_eq_getElem?_getD, h1]; rfl
        rw [← h3, h2, ← hsu]
        split
        · unfold DM.pick
          rw [if_neg (by simp), if_neg (by omega)]
        · rfl
      subst hsc'
      have f059 : Fr [] w w59 := (f053.trans' f89).trans' f59
      have bq59 := (((bq.fr f47 (by simp)).fr f53 (by simp)).fr f89 (by simp)).fr f59 (by simp)
      have hsz : sc.size = 64 := D53.ok.s64 _ _ hsc
      refine ⟨_, _, _, _, rfl, fun y64 hy64 => bF rfl ?_⟩
      obtain ⟨u1, u2⟩ := str_of bc hsz
      obtain ⟨v1, v2⟩ := str_of bq59 hsz
      refine ⟨_, u1, u2, _, v1, v2, hy64 _ _ (bF (by simp) ⟨wrL - (k + 1), by omega, k + 1, M', kq, sc, hnext, by omega, rfl, rfl, rfl, rfl, hkq, f059, ?_, ?_, hn45, hl45, bq59, hsu, hon⟩)⟩
      · have := f47.size
        have := f53.size
        have := f89.size
        have := f59.size
        omega
      · exact (D53'.fr f89 (by simp)).fr f59 (by simp)
    have hnowW : (M.wrote j.toNat (round wr[k])).now[j.toNat]? = some (round wr[k]) := by
      show (M.now.set j.toNat (round wr[k]))[j.toNat]? = _
      rw [List.getElem?_set, if_pos rfl, if_pos hnl]
    have hlW : (M.wrote j.toNat (round wr[k])).left = -1 := by
      show (if 0 < M.left then M.left - 1 else M.left) = -1
      rw [if_neg (by omega)]; exact hMl
    have honW : ∀ x, (M.wrote j.toNat (round wr[k])).fresh[x]? = some true → x = j.toNat := fun x hx => by
      have hx : (M.fresh.set j.toNat true)[x]? = some true := hx
      rw [List.getElem?_set] at hx
      split at hx
      · rename_i e; exact e.symm
      · exact honly x hx
    have hfW : (M.wrote j.toNat (round wr[k])).fresh[j.toNat]? = some true := by
      show (M.fresh.set j.toNat true)[j.toNat]? = _
      rw [List.getElem?_set, if_pos rfl, if_pos hfl]
    intro y95 hy95
    have hw5 : w5.heap.size ≤ w38.heap.size := by omega
    have both : ∀ b96, y95 b96 w38 := fun b96 => hy95 _ _ ⟨fun _ => ?_, fun _ => tail kk S 1 _ w38 hkk f038 hw5 D38 hMn hlW bS38 bl38 hS hnowW honW (by rw [unsure_one (M := M.wrote j.toNat (round wr[k])) hj8 hfW honW]; rfl)⟩
    · refine ⟨fun hl => ?_, fun _ => both false⟩
      have hl : (k : Int) < (fl.length : Int) := of_decide_eq_true hl
      have hr38 : Row w38 flA (fl.map .bool) := Row.fr f038 hr (fun ad _ => by simp)
      obtain ⟨ad', had⟩ := hr38.has (by simp; omega)
      refine ⟨ad', had, ⟨by omega, by omega⟩, fl[k]'(by omega), ?_, both _⟩
      have := hr38.get had (j := k) (u := .bool (fl[k]'(by omega))) (by rw [List.getElem?_map, List.getElem?_eq_getElem (by omega)]; rfl)
      simpa using this
    · refine (flush_c D38).mono ?_
      have hdW : ¬ (M.wrote j.toNat (round wr[k])).dead := fun h : (M.wrote j.toNat (round wr[k])).left = 0 => by omega
      have hfl2 : (M.wrote j.toNat (round wr[k])).flush = ((M.wrote j.toNat (round wr[k])).flushed, 0) := by unfold DM.flush; rw [if_neg hdW]
      rw [hfl2]
      rintro e w99 ⟨rfl, f99, D99⟩
      have z99 := f99.size
      refine ⟨_, rfl, bF rfl (tail kl (round wr[k]) 0 _ w99 hkl (f038.trans f99 hW) (by omega) D99 ?_ ?_ (bl38.fr f99 hkl) (bl38.fr f99 hkl) ?_ hnowW (fun x hx => ?_) ?_)⟩
      · show ((M.now.set j.toNat (round wr[k])).length : Int) = 8
        rw [List.length_set, D23.ok.now]; exact hMn
      · show (if 0 < (M.wrote j.toNat (round wr[k])).left then _ else (M.wrote j.toNat (round wr[k])).left) = -1
        rw [if_neg (by omega)]; exact hlW
      · show (M.now.set j.toNat (round wr[k])).getD j.toNat zsec = _
        rw [List.getD_eq_getElem?_getD, List.getElem?_set, if_pos rfl, if_pos hnl]; rfl
      · have hx : (List.replicate (M.wrote j.toNat (round wr[k])).sure.length false)[x]? = some true := hx
        rw [List.getElem?_replicate] at hx
        split at hx <;> cases hx
      · rw [unsure_nil (fun x hx => by
          have hx : (List.replicate (M.wrote j.toNat (round wr[k])).sure.length false)[x]? = some true := hx
          rw [List.getElem?_replicate] at hx
          split at hx <;> cases hx)]
        rfl
  refine ⟨⟨by decide, fun w109 k110 st1 b1 => ⟨by decide, fun w113 k114 st2 b2 => start k114 w113 ?_ (st1.fr.trans' st2.fr) ?_⟩⟩, by decide, fun w117 k118 st1 b1 => ⟨by decide, fun w121 k122 st2 b2 => start k118 w121 (st1.new k118 (by simp)).1 (st1.fr.trans' st2.fr) ?_⟩⟩
  · have := st1.size
    have := (st2.new k114 (by simp)).1
    omega
  · rw [zsec_cells]; exact b2
  · rw [zsec_cells]; exact b1.fr st2.fr (by simp)

end Go.Proofs.Ytcaamecdhbgknaa.Disk
