/- The disk: what a crash leaves. -/
import Derived.Test.YtcaamecdhbgknaaD5
import Derived.Test.YtcaamecdhbgknaaK2
namespace Go.Proofs.Ytcaamecdhbgknaa.Disk
open Go Go.V
open Go.Proofs.Ytcaamecdhbgknaa.VC
open Go.Proofs.Try (prog)
set_option linter.unusedVariables false
set_option linter.unusedSimpArgs false
set_option maxRecDepth 20000

theorem clone_c {w : World} {m : Nat} {l : List (Int × Value)} (h : MapG kenc w m l) : Calls prog 60 #[.map (some m)] w fun e w' => ∃ k, e = .returned (.map (some k)) ∧ w.heap.size ≤ k ∧ Fr [] w w' ∧ MapG kenc w' k l := by
  obtain ⟨es, clock, hb, hr⟩ := h
  refine (AnyW.maps_Clone Go.Proofs.Try.cloneM m es clock w hb).mono ?_
  rintro e w' ⟨rfl, rfl⟩
  obtain ⟨g1, g2, g3, g4, g5, g6⟩ := alloc_facts w (.map es clock)
  exact ⟨_, rfl, Nat.le_refl _, ⟨g1, g2, g3, by omega, fun b hb _ => g5 b hb⟩, es, clock, g6, hr⟩

/-- Of how many unsure ones a sector is. -/
def DM.rank (M : DM) (i : Nat) : Nat := ((List.range i).filter fun j => decide (M.fresh[j]? = some true)).length
theorem filter_range_get (p : Nat → Bool) {i n : Nat} (h : i < n) (hp : p i = true) : ((List.range n).filter p)[((List.range i).filter p).length]? = some i := by
  obtain ⟨m, rfl⟩ : ∃ m, n = i + (m + 1) := ⟨n - i - 1, by omega⟩
  rw [List.range_add, List.filter_append, List.getElem?_append_right (Nat.le_refl _), Nat.sub_self, List.range_succ_eq_map, List.map_cons, List.filter_cons]
  simp [hp]
theorem DM.unsure_rank {M : DM} {i : Nat} (hi : i < M.sure.length) (h : M.fresh[i]? = some true) : M.unsure[M.rank i]? = some (i : Int) := by
  unfold DM.unsure DM.rank
  rw [List.getElem?_map, filter_range_get (fun j => decide (M.fresh[j]? = some true)) hi (by simp [h])]
  rfl
theorem DM.unsure_get {M : DM} {k : Nat} {u : Int} (h : M.unsure[k]? = some u) : ∃ i : Nat, u = i ∧ i < M.sure.length ∧ M.fresh[i]? = some true ∧ M.rank i = k := by
  obtain ⟨i, hu, hi, hf⟩ := DM.mem_unsure.1 (List.mem_of_getElem? h)
  refine ⟨i, hu, hi, hf, ?_⟩
  have h2 := DM.unsure_rank hi hf
  have hn : M.unsure.Nodup := M.unsure_sorted.imp fun h => by omega
  have h1 : k < M.unsure.length := (List.getElem?_eq_some_iff.1 h).1
  have h3 : M.rank i < M.unsure.length := (List.getElem?_eq_some_iff.1 h2).1
  have e1 := (List.getElem?_eq_some_iff.1 h).2
  have e2 := (List.getElem?_eq_some_iff.1 h2).2
  exact (List.getElem_inj hn).1 (by rw [e1, e2, hu])

def tear (c : Nat) (x y : ByteArray) : ByteArray := ⟨(x.data.toList.take c ++ y.data.toList.drop c).toArray⟩
theorem tear_cells (c : Nat) (x y : ByteArray) : byteCells (tear c x y) = (byteCells x).take c ++ (byteCells y).drop c := by
  simp [byteCells, tear, List.map_take, List.map_drop]
def clamp (c : Int) : Nat := if c < 0 then 0 else if 64 < c then 64 else c.toNat
def DM.nowAt (M : DM) (i : Nat) : ByteArray := M.now.getD i zsec
def DM.sureAt (M : DM) (i : Nat) : ByteArray := M.sure.getD i zsec
def DM.pick (M : DM) (keep : List Bool) (torn cut : Int) (k i : Nat) : ByteArray :=
  if keep[k]? = some true then M.nowAt i else if (k : Int) = torn then tear (clamp cut) (M.nowAt i) (M.sureAt i) else M.sureAt i
/-- A sector behind the first n rounds. -/
def DM.left1 (M : DM) (keep : List Bool) (torn cut : Int) (n i : Nat) : ByteArray :=
  if M.fresh[i]? = some true ∧ M.rank i < n then M.pick keep torn cut (M.rank i) i else M.sureAt i
theorem DM.left1_ne {M : DM} {keep : List Bool} {torn cut : Int} {k i j : Nat} (hu : M.unsure[k]? = some (i : Int)) (hj : j < M.sure.length) (hne : j ≠ i) : M.left1 keep torn cut (k + 1) j = M.left1 keep torn cut k j := by
  unfold DM.left1
  by_cases hf : M.fresh[j]? = some true
  · have hr : M.rank j ≠ k := fun hr => by
      have := DM.unsure_rank hj hf
      rw [hr, hu] at this
      injection this with this
      exact hne (by omega)
    have : (M.fresh[j]? = some true ∧ M.rank j < k + 1) ↔ (M.fresh[j]? = some true ∧ M.rank j < k) := ⟨fun hc => ⟨hc.1, by have := hc.2; omega⟩, fun hc => ⟨hc.1, by have := hc.2; omega⟩⟩
    simp only [this]
  · simp [hf]
theorem DM.left1_eq {M : DM} {keep : List Bool} {torn cut : Int} {k i : Nat} (hf : M.fresh[i]? = some true) (hr : M.rank i = k) : M.left1 keep torn cut (k + 1) i = M.pick keep torn cut k i ∧ M.left1 keep torn cut k i = M.sureAt i := by
  unfold DM.left1
  constructor
  · rw [if_pos ⟨hf, by omega⟩, hr]
  · rw [if_neg (fun hc => by have := hc.2; omega)]
def DM.crash (M : DM) (keep : List Bool) (torn cut : Int) : DM :=
  let S := (List.range M.sure.length).map fun i => if M.fresh[i]? = some true then M.pick keep torn cut (M.rank i) i else M.sureAt i
  ⟨S, S, List.replicate M.sure.length false, 0, -1⟩

theorem DM.crash_at (M : DM) (keep : List Bool) (torn cut : Int) {i : Nat} (hi : i < M.sure.length) : (M.crash keep torn cut).sureAt i = if M.fresh[i]? = some true then M.pick keep torn cut (M.rank i) i else M.sureAt i := by
  show ((List.range M.sure.length).map fun i => if M.fresh[i]? = some true then M.pick keep torn cut (M.rank i) i else M.sureAt i).getD i zsec = _
  rw [List.getD_eq_getElem?_getD, List.getElem?_map, List.getElem?_range hi]
  rfl
theorem DM.Ok.nowAt {M : DM} (h : M.Ok) {i : Nat} (hi : i < M.sure.length) : M.now[i]? = some (M.nowAt i) ∧ (M.nowAt i).size = 64 := by
  have e : M.now[i]? = some (M.nowAt i) := by
    unfold DM.nowAt
    rw [List.getD_eq_getElem?_getD, List.getElem?_eq_getElem (by rw [h.now]; exact hi)]; rfl
  exact ⟨e, h.w64 _ _ e⟩
theorem DM.Ok.sureAt {M : DM} (h : M.Ok) {i : Nat} (hi : i < M.sure.length) : M.sure[i]? = some (M.sureAt i) ∧ (M.sureAt i).size = 64 := by
  have e : M.sure[i]? = some (M.sureAt i) := by
    unfold DM.sureAt
    rw [List.getD_eq_getElem?_getD, List.getElem?_eq_getElem hi]; rfl
  exact ⟨e, h.s64 _ _ e⟩
theorem tear_size {c : Nat} {x y : ByteArray} (hx : x.size = 64) (hy : y.size = 64) (hc : c ≤ 64) : (tear c x y).size = 64 := by
  rw [← byteCells_length, tear_cells, List.length_append, List.length_take, List.length_drop, byteCells_length, byteCells_length]
  omega
theorem clamp_le (c : Int) : clamp c ≤ 64 := by unfold clamp; split <;> (try split) <;> omega
theorem DM.Ok.pick {M : DM} (h : M.Ok) {keep : List Bool} {torn cut : Int} {k i : Nat} (hi : i < M.sure.length) : (M.pick keep torn cut k i).size = 64 := by
  unfold DM.pick
  split
  · exact (h.nowAt hi).2
  · split
    · exact tear_size (h.nowAt hi).2 (h.sureAt hi).2 (clamp_le _)
    · exact (h.sureAt hi).2
theorem DM.Ok.crash {M : DM} (h : M.Ok) (keep : List Bool) (torn cut : Int) : (M.crash keep torn cut).Ok := by
  have hl : (M.crash keep torn cut).sure.length = M.sure.length := by simp [DM.crash]
  have hs : ∀ (i : Nat) (s : ByteArray), (M.crash keep torn cut).sure[i]? = some s → s.size = 64 := fun i s hs => by
    have hi : i < M.sure.length := by
      have := (List.getElem?_eq_some_iff.1 hs).1
      omega
    simp only [DM.crash, List.getElem?_map, List.getElem?_range hi, Option.map_some, Option.some.injEq] at hs
    subst hs
    split
    · exact h.pick hi
    · exact (h.sureAt hi).2
  exact ⟨by rw [hl]; exact h.lo, by rw [hl]; exact h.hi, rfl, by rw [hl]; simp [DM.crash], hs, hs, fun i _ => rfl, by simp [DM.crash]⟩

/-- A map's sector. -/
def Holds (l : List (Int × Value)) (i : Nat) (s : ByteArray) : Prop := V.look l (i : Int) = some (sec s) ∨ (V.look l (i : Int) = none ∧ s = zsec)
theorem Holds.rel {l : List (Int × Value)} {i : Nat} {s : ByteArray} (h : Holds l i s) : ∃ b, LookRel l (i : Int) (.agg (reps [Value.int .u8 0] 64).toArray) (.agg (byteCells s).toArray) b := by
  rcases h with e | ⟨e, e2⟩
  · exact ⟨true, .inl ⟨rfl, e⟩⟩
  · exact ⟨false, .inr ⟨rfl, e, by rw [e2, zsec_cells]⟩⟩

theorem clamp_eq (cut : Int) : Int.toNat (if 64 < (if 0 > cut then 0 else cut) then 64 else if 0 > cut then 0 else cut) = clamp cut := by
  unfold clamp
  by_cases h : cut < 0
  · rw [if_pos h, if_pos (show 0 > cut from h)]; rfl
  · rw [if_neg h, if_neg (show ¬ 0 > cut from h)]
    split <;> rfl

end Go.Proofs.Ytcaamecdhbgknaa.Disk
