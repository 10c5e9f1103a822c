/- The image: writing sectors; what is handed over by sectors. -/
import Derived.Test.YtcaamecdhbgknaaGR
import Derived.Test.YtcaamecdhbgknaaI2
namespace Go.Proofs.Ytcaamecdhbgknaa.Image
open Go Go.V
open Go.Proofs.Ytcaamecdhbgknaa.VC
open Go.Proofs.Ytcaamecdhbgknaa.Disk
open Go.Proofs.Ytcaamecdhbgknaa.Log
open Go.Proofs.Try (prog)
set_option linter.unusedVariables false
set_option linter.unusedSimpArgs false
set_option maxRecDepth 20000

def zipAt (at0 : Int) (l : List ByteArray) : List (Int × ByteArray) := (List.range l.length).map fun (i : Nat) => (at0 + (i : Int), l.getD i zsec)
def wflush (M : DM) (l : List (Int × ByteArray)) : DM × Int := if (Log.writes M l).2 = 0 then (Log.writes M l).1.flush else Log.writes M l
theorem wflush_n {M : DM} (h : M.Ok) (l : List (Int × ByteArray)) : (wflush M l).1.n = M.n := by
  unfold wflush
  split
  · rw [flush_n (writes_ok l h), writes_n]
  · rw [writes_n]
theorem wflush_ok {M : DM} (h : M.Ok) (l : List (Int × ByteArray)) : (wflush M l).1.Ok := by
  unfold wflush
  split
  · unfold DM.flush
    split
    · exact writes_ok l h
    · exact (writes_ok l h).flushed
  · exact writes_ok l h
theorem zipAt_drop (at0 : Int) (l : List ByteArray) {i : Nat} (hi : i < l.length) : (zipAt at0 l).drop i = (at0 + (i : Int), l[i]) :: (zipAt at0 l).drop (i + 1) := by
  unfold zipAt
  rw [← List.map_drop, ← List.map_drop, range_drop _ _ hi, List.map_cons]
  congr 2
  rw [List.getD_eq_getElem?_getD, List.getElem?_eq_getElem hi]; rfl

theorem iwrite_c {w : World} {ib b ms mf : Nat} {M : DM} {first count : Nat} (h : ImgAt w ib b ms mf M first count) {at0 : Int} {aA : Option Addr} {aC : Nat} {l : List SI} (h0 : 0 ≤ at0) (h1 : at0 + l.length ≤ 4611686018427387904)
    (ha : Row w aA (scells l)) (hd : ∀ ad, aA = some ad → ad.block ∉ [b, ms, mf]) (hr : ∀ x ∈ l, Row w x.p (byteCells x.s) ∧ ∀ ad, x.p = some ad → ad.block ∉ [b, ms, mf]) :
    Calls prog 79 #[D ib, I64 at0, .slice aA l.length aC] w fun e w' => e = .returned (I64 (wflush M (zipAt at0 (l.map (·.s)))).2) ∧ Fr [b, ms, mf] w w' ∧ DiskAt w' b ms mf (wflush M (zipAt at0 (l.map (·.s)))).1 := by
  have hD := h.disk
  have hlb := h.ne
  have hll : (l.map (·.s)).length = l.length := List.length_map _
  have hzl : (zipAt at0 (l.map (·.s))).length = l.length := by unfold zipAt; rw [List.length_map, List.length_range, hll]
  refine image_Image_write.link ⟨fun m q w' => ∃ (i : Nat) (M' : DM), q = i ∧ i ≤ l.length ∧ m = l.length - i ∧ Fr [b, ms, mf] w w' ∧ DiskAt w' b ms mf M' ∧ Log.writes M (zipAt at0 (l.map (·.s))) = Log.writes M' ((zipAt at0 (l.map (·.s))).drop i), l.length, ⟨0, M, rfl, by omega, rfl, Fr.refl _ _, hD, rfl⟩, ?_⟩
  rintro m q w5 ⟨i, M', rfl, hi, rfl, f5, hD5, heq⟩
  have hb5 : Blk w5 ib _ := h.blk.fr f5 hlb
  refine bc (fun hlt => ?_) fun hge => ?_
  · have hlt : (i : Int) < (l.length : Int) := of_decide_eq_true hlt
    have hil : i < l.length := by omega
    have hx := hr l[i] (List.getElem_mem hil)
    refine rdS (g_row f5 ha fun ad hp _ => hd ad hp) rfl hil hlt ⟨_, hb5.cell 0, ?_⟩
    have x1 : IntKind.wrap .i64 (at0 + (i : Int)) = at0 + (i : Int) := wrapi (by omega) (by omega)
    rw [x1]
    refine (write_c hD5 (at0 + (i : Int)) (bC := l[i].c) (g_row f5 hx.1 fun ad hp _ => hx.2 ad hp) hx.2).mono ?_
    rintro e w15 ⟨rfl, f15, hD15⟩
    have f015 : Fr [b, ms, mf] w w15 := f5.trans' f15
    have hil2 : i < (l.map (·.s)).length := by rw [hll]; exact hil
    have hstep := zipAt_drop at0 (l.map (·.s)) hil2
    have es : (l.map (·.s))[i] = l[i].s := List.getElem_map _
    rw [es] at hstep
    rw [hstep] at heq
    refine ⟨_, rfl, bc (fun hne => ?_) fun h0 => ⟨l.length - (i + 1), by omega, i + 1, _, by rw [wrapi (by omega) (by omega)]; simp, by omega, rfl, f015, hD15, ?_⟩⟩
    · have hne : ¬ (M'.write (at0 + (i : Int)) l[i].s).2 = 0 := by simpa using hne
      have e1 : Log.writes M (zipAt at0 (l.map (·.s))) = M'.write (at0 + (i : Int)) l[i].s := by rw [heq]; unfold Log.writes; rw [if_neg hne]
      have e2 : wflush M (zipAt at0 (l.map (·.s))) = M'.write (at0 + (i : Int)) l[i].s := by unfold wflush; rw [e1, if_neg hne]
      rw [e2]
      exact ⟨rfl, f015, hD15⟩
    · have h0 : (M'.write (at0 + (i : Int)) l[i].s).2 = 0 := by simpa using h0
      rw [heq, Log.writes, if_pos h0]
  · have hge : ¬ (i : Int) < (l.length : Int) := of_decide_eq_false hge
    have hd0 : (zipAt at0 (l.map (·.s))).drop i = [] := List.drop_eq_nil_iff.2 (by omega)
    rw [hd0] at heq
    have heq : Log.writes M (zipAt at0 (l.map (·.s))) = (M', 0) := heq
    refine ⟨_, hb5.cell 0, (flush_c hD5).mono ?_⟩
    rintro e w20 ⟨rfl, f20, hD20⟩
    have e2 : wflush M (zipAt at0 (l.map (·.s))) = M'.flush := by unfold wflush; rw [heq, if_pos rfl]
    rw [e2]
    exact ⟨_, rfl, rfl, f5.trans' f20, hD20⟩

/-! ### what is handed over by sectors -/
theorem yieldsV_mono {P : Program} {l : Nat} {args : List Value} {w : World} {R R' : Ending → World → Prop} (h : YieldsV P l args w R) (k : ∀ e w', R e w' → R' e w') : YieldsV P l args w R' := by
  obtain ⟨fn, t, x, y, h1, h2⟩ := h
  exact ⟨fn, t, x, y, h1, h2.mono k⟩
def cend (size i : Nat) : Nat := min (64 * (i + 1)) size
def chunkArg (sA : Option Addr) (size i : Nat) : List Value := [.slice (subA sA (64 * i) (cend size i) 1) (cend size i - 64 * i) (cend size i - 64 * i)]
def chunkArgs (sA : Option Addr) (size : Nat) : List (List Value) := (List.range (secs size)).map (chunkArg sA size)
theorem chunk_c (w : World) {sA : Option Addr} {size sC : Nat} : Calls prog 80 #[.slice sA size sC, I64 64] w fun e w' => ∃ k1 k2, e = .returned (.func (.func 90) #[] #[.pointer (some ⟨k1, 0, none⟩), .pointer (some ⟨k2, 0, none⟩)]) ∧ Fr [] w w' ∧ w.heap.size ≤ k1 ∧ w.heap.size ≤ k2 ∧ Blk w' k1 [.slice sA size sC] ∧ Blk w' k2 [I64 64] := by
  refine slices_Chunk_g.link fun k1 k2 y3 hy => bF (by decide) fun w9 st => hy w9 fun b1 b2 => ⟨k1, k2, rfl, st.fr, ?_, ?_, b1, b2⟩
  · have := g_new2 st; omega
  · have := g_new2 st; omega
theorem chunk_iter {J : Nat → World → Prop} {p1 p2 : Addr} {sA : Option Addr} {size sC : Nat} (hJ : ∀ i w, J i w → w.cell? p1 = some (.slice sA size sC) ∧ w.cell? p2 = some (I64 64)) (hz : size ≤ 140737488351232) (hC : size ≤ sC) :
    IterOk prog 90 [.pointer (some p1), .pointer (some p2)] (chunkArgs sA size) J := by
  intro l J' hst hJJ hround w h0
  have hsS : secs size = (size + 63) / 64 := rfl
  have hlen : (chunkArgs sA size).length = secs size := by simp [chunkArgs]
  rw [hlen]
  refine slices_Chunk_g_1.link ⟨fun m q w' => ∃ i : Nat, q = ((64 * i : Nat) : Int) ∧ i ≤ secs size ∧ m = secs size - i ∧ J' i w', secs size, ⟨0, rfl, by omega, rfl, h0⟩, ?_⟩
  rintro m q w5 ⟨i, rfl, hi, rfl, h5⟩
  obtain ⟨c1, c2⟩ := hJ i w5 (hJJ i w5 h5)
  refine ⟨_, _, _, c1, bc (fun hlt => ?_) fun hge => ?_⟩
  · have hlt := of_decide_eq_true hlt
    have hce : cend size i = min (64 * (i + 1)) size := rfl
    have x1 : IntKind.wrap .i64 (((64 * i : Nat) : Int) + if ((Int.toNat (size : Int) - Int.toNat ((64 * i : Nat) : Int) : Nat) : Int) < 64 then ((Int.toNat (size : Int) - Int.toNat ((64 * i : Nat) : Int) : Nat) : Int) else 64) = ((cend size i : Nat) : Int) := by
      rw [wrapi (by split <;> omega) (by split <;> omega)]
      split <;> omega
    have x2 : Int.toNat ((cend size i : Nat) : Int) = cend size i := by omega
    have x3 : Int.toNat ((64 * i : Nat) : Int) = 64 * i := by omega
    refine ⟨_, c2, _, _, _, c1, ⟨by omega, by omega, by omega⟩, _, _, _, c1, ?_⟩
    rw [x1, x2, x3]
    refine ⟨⟨by omega, by omega, by omega, by omega⟩, fun w17 st17 => ?_⟩
    have hz : (chunkArgs sA size)[i]? = some (chunkArg sA size i) := by
      unfold chunkArgs
      rw [List.getElem?_map, List.getElem?_range (by omega)]; rfl
    refine yieldsV_mono (hround i _ w17 hz (hst i w5 w17 h5 st17)) ?_
    rintro e w20 ⟨rfl, h20⟩
    obtain ⟨_, c2'⟩ := hJ _ _ (hJJ _ _ h20)
    refine ⟨true, rfl, bF rfl ⟨_, c2', secs size - (i + 1), by omega, i + 1, ?_, by omega, rfl, h20⟩⟩
    rw [wrapi (by omega) (by omega)]; omega
  · have hge := of_decide_eq_false hge
    have hi' : i = secs size := by omega
    subst hi'
    exact ⟨⟨_, rfl⟩, h5⟩
end Go.Proofs.Ytcaamecdhbgknaa.Image
