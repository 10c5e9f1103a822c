/- Span: sets of pairs. -/
import Derived.Test.YtnplopiconabiaaS4
import Derived.WalkKit
import Derived.Shelf.SlicesG.Cmp
import Derived.Shelf.SlSortCmp.Whole1
import Derived.Shelf.SlSortCmp.NoneTotal
namespace Go.Proofs.Ytnplopiconabiaa.Span
open Go Go.V
open Go.Proofs.Ytnplopiconabiaa.VC
open Go.Proofs.Try (prog)
set_option linter.unusedVariables false
set_option linter.unusedSimpArgs false
set_option maxRecDepth 20000

abbrev PI := Int × Int
def pcmp (x y : PI) : Int := if Lib.compareInt x.1 y.1 ≠ 0 then Lib.compareInt x.1 y.1 else Lib.compareInt x.2 y.2
def plt (x y : PI) : Prop := x.1 < y.1 ∨ (x.1 = y.1 ∧ x.2 < y.2)
theorem cI (x y : Int) : (Lib.compareInt x y = -1 ∧ x < y) ∨ (Lib.compareInt x y = 1 ∧ y < x) ∨ (Lib.compareInt x y = 0 ∧ x = y) := by
  unfold Lib.compareInt
  split
  · exact .inl ⟨rfl, by omega⟩
  · split
    · exact .inr (.inl ⟨rfl, by omega⟩)
    · exact .inr (.inr ⟨rfl, by omega⟩)
theorem pcmp_lt (x y : PI) : pcmp x y < 0 ↔ plt x y := by
  unfold pcmp plt
  rcases cI x.1 y.1 with ⟨h, h'⟩ | ⟨h, h'⟩ | ⟨h, h'⟩
  · rw [h, if_pos (by decide)]; exact ⟨fun _ => .inl h', fun _ => by decide⟩
  · rw [h, if_pos (by decide)]; exact ⟨fun h2 => by omega, fun h2 => by omega⟩
  · rw [h, if_neg (by simp)]
    rcases cI x.2 y.2 with ⟨g, g'⟩ | ⟨g, g'⟩ | ⟨g, g'⟩ <;> rw [g]
    · exact ⟨fun _ => .inr ⟨h', g'⟩, fun _ => by decide⟩
    · exact ⟨fun h2 => by omega, fun h2 => by omega⟩
    · exact ⟨fun h2 => by omega, fun h2 => by omega⟩
theorem pcmp_eq (x y : PI) : pcmp x y = 0 ↔ x = y := by
  obtain ⟨x1, x2⟩ := x
  obtain ⟨y1, y2⟩ := y
  unfold pcmp
  simp only [Prod.mk.injEq]
  rcases cI x1 y1 with ⟨h, h'⟩ | ⟨h, h'⟩ | ⟨h, h'⟩
  · rw [h, if_pos (by decide)]; omega
  · rw [h, if_pos (by decide)]; omega
  · rw [h, if_neg (by simp)]
    rcases cI x2 y2 with ⟨g, g'⟩ | ⟨g, g'⟩ | ⟨g, g'⟩ <;> rw [g] <;> omega
theorem plt_trans {x y z : PI} (h1 : plt x y) (h2 : plt y z) : plt x z := by unfold plt at *; omega
theorem plt_irrefl (x : PI) : ¬ plt x x := by unfold plt; omega
theorem plt_total (x y : PI) : plt x y ∨ x = y ∨ plt y x := by
  obtain ⟨x1, x2⟩ := x
  obtain ⟨y1, y2⟩ := y
  unfold plt; simp only [Prod.mk.injEq]; omega

open Go.RowKit in
theorem cmpI_c (x y : Int) (W : World) : Calls prog 121 #[.int .i64 x, .int .i64 y] W fun e w' => e = .returned (.int .i64 (Lib.compareInt x y)) ∧ w' = W := AnyG.cmp_Compare_int Try.cmpI x y W
open Go.RowKit in
set_option maxHeartbeats 1000000 in
theorem compare_w (ba bb ca cb : Nat) (a0 a1 b0 b1 : Int) (w : World) (ha0 : w.cell? ⟨ba, 0, none⟩ = some (.int .i64 a0)) (ha1 : w.cell? ⟨ba, 1, none⟩ = some (.int .i64 a1)) (hb0 : w.cell? ⟨bb, 0, none⟩ = some (.int .i64 b0)) (hb1 : w.cell? ⟨bb, 1, none⟩ = some (.int .i64 b1)) :
    Calls prog 96 #[.slice (some ⟨ba, 0, none⟩) 2 ca, .slice (some ⟨bb, 0, none⟩) 2 cb] w fun e w' => e = .returned (.int .i64 (pcmp (a0, a1) (b0, b1))) ∧ w' = w := by
  have h0 := cmpI_c a0 b0
  have h1 := cmpI_c a1 b1
  unfold pcmp
  simp only
  generalize Lib.compareInt a0 b0 = r0 at *
  generalize Lib.compareInt a1 b1 = r1 at *
  go_enter Try.func96, Try.ntmps96
  go_wp2
  have H0 := Go.V.Hid.mk h0
  have H1 := Go.V.Hid.mk h1
  clear h0 h1
  go_loop [11] (fun i => ∃ k : Nat, k ≤ 2 ∧ i = .int .i64 k ∧ (1 ≤ k → r0 = 0) ∧ (2 ≤ k → r1 = 0)) (fun i => 2 - (intOf i).toNat)
  case atStart => exact ⟨0, by omega, rfl, by omega, by omega⟩
  case round =>
    obtain ⟨k, hk, rfl, z0, z1⟩ := hrel
    rcases (by omega : k = 0 ∨ k = 1 ∨ k = 2) with rfl | rfl | rfl
    · clear z0 z1
      by_cases e : r0 = 0
      · subst e
        go_wp2_with (go_at_call 121; refine (H0.get _).mono ?_; rintro e w' ⟨rfl, rfl⟩)
        go_round
        case rel => exact ⟨1, by omega, by go_num, by simp, by simp⟩
        case measure => simp [intOf]
      · have e1 : (r0 == 0) = false := by simpa using e
        go_wp2_with (go_at_call 121; refine (H0.get _).mono ?_; rintro e w' ⟨rfl, rfl⟩)
        go_ret
        exact ⟨rfl, rfl⟩
    · have e0 := z0 (by omega)
      subst e0
      clear z0 z1
      by_cases e : r1 = 0
      · subst e
        go_wp2_with (go_at_call 121; refine (H1.get _).mono ?_; rintro e w' ⟨rfl, rfl⟩)
        go_round
        case rel => exact ⟨2, by omega, by go_num, by simp, by simp⟩
        case measure => simp [intOf]
      · have e1 : (r1 == 0) = false := by simpa using e
        go_wp2_with (go_at_call 121; refine (H1.get _).mono ?_; rintro e w' ⟨rfl, rfl⟩)
        go_ret
        exact ⟨rfl, rfl⟩
    · have e0 := z0 (by omega)
      have e1 := z1 (by omega)
      subst e0
      subst e1
      clear z0 z1
      go_wp2
      go_ret
      exact ⟨rfl, rfl⟩
open Go.RowKit in
theorem cmp_w (ba bb ca cb : Nat) (x y : PI) (w : World) (ha0 : w.cell? ⟨ba, 0, none⟩ = some (.int .i64 x.1)) (ha1 : w.cell? ⟨ba, 1, none⟩ = some (.int .i64 x.2)) (hb0 : w.cell? ⟨bb, 0, none⟩ = some (.int .i64 y.1)) (hb1 : w.cell? ⟨bb, 1, none⟩ = some (.int .i64 y.2)) :
    Calls prog 73 #[.slice (some ⟨ba, 0, none⟩) 2 ca, .slice (some ⟨bb, 0, none⟩) 2 cb] w fun e w' => e = .returned (.int .i64 (pcmp x y)) ∧ w' = w := by
  have h := Go.V.Hid.mk (compare_w ba bb ca cb x.1 x.2 y.1 y.2 w ha0 ha1 hb0 hb1)
  clear ha0 ha1 hb0 hb1
  have e : pcmp (x.1, x.2) (y.1, y.2) = pcmp x y := rfl
  rw [e] at h
  clear e
  generalize pcmp x y = r at h ⊢
  go_enter Try.func73, Try.ntmps73
  go_wp2_with (go_at_call 96; refine (h.get).mono ?_; rintro e w' ⟨rfl, rfl⟩)
  go_ret
  exact ⟨rfl, rfl⟩

/-- A pair in memory: the first two cells of a block. -/
def TupO (w : World) (b : Nat) (x : PI) : Prop := ∃ cs, Blk w b (I64 x.1 :: I64 x.2 :: cs)
abbrev tv (b : Nat) : Value := .slice (some ⟨b, 0, none⟩) 2 2
abbrev tz (z : Nat × PI) : Value := tv z.1
theorem TupO.fr {F : List Nat} {v w : World} {b : Nat} {x : PI} (h : TupO v b x) (hf : Fr F v w) (hn : b ∉ F) : TupO w b x := by
  obtain ⟨cs, hb⟩ := h; exact ⟨cs, hb.fr hf hn⟩
theorem TupO.lt {w : World} {b : Nat} {x : PI} (h : TupO w b x) : b < w.heap.size := by obtain ⟨cs, hb⟩ := h; exact hb.lt
theorem TupO.c0 {w : World} {b : Nat} {x : PI} (h : TupO w b x) : w.cell? ⟨b, 0, none⟩ = some (I64 x.1) := by obtain ⟨cs, hb⟩ := h; rw [hb.cell]; rfl
theorem TupO.c1 {w : World} {b : Nat} {x : PI} (h : TupO w b x) : w.cell? ⟨b, 1, none⟩ = some (I64 x.2) := by obtain ⟨cs, hb⟩ := h; rw [hb.cell]; rfl
theorem TupO.row {w : World} {b : Nat} {x : PI} (h : TupO w b x) : Row w (some ⟨b, 0, none⟩) [I64 x.1, I64 x.2] := by
  obtain ⟨cs, hb⟩ := h
  refine Row.of_blk (off := 0) hb (fun j u hj => ?_) (fun u hu => by simp at hu; rcases hu with rfl | rfl <;> rfl)
  match j, hj with
  | 0, hj => simpa using hj
  | 1, hj => simpa using hj
theorem cmp_v {w : World} {b c : Nat} {x y : PI} (hx : TupO w b x) (hy : TupO w c y) : Calls prog 73 #[tv b, tv c] w fun e w' => e = .returned (I64 (pcmp x y)) ∧ w' = w := cmp_w b c 2 2 x y w hx.c0 hx.c1 hy.c0 hy.c1
theorem same_v {w : World} {b c : Nat} {x y : PI} (hx : TupO w b x) (hy : TupO w c y) : Calls prog 76 #[tv b, tv c] w fun e w' => e = .returned (.bool (decide (x = y))) ∧ w' = w := by
  refine tuple_same.link ((cmp_v hx hy).mono ?_)
  rintro e w2 ⟨rfl, rfl⟩
  exact ⟨_, rfl, by rw [decide_eq_decide.2 (pcmp_eq x y)], rfl⟩
end Go.Proofs.Ytnplopiconabiaa.Span
