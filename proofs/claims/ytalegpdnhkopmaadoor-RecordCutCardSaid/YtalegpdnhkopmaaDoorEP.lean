/- Values: Decode's code. -/
import Derived.Test.YtalegpdnhkopmaaDoorEO
namespace Go.Proofs.YtalegpdnhkopmaaDoor.Vl
open Go Go.V Go.RowKit
open Go.Proofs.YtalegpdnhkopmaaDoor.VC Go.Proofs.YtalegpdnhkopmaaDoor.By Go.Proofs.YtalegpdnhkopmaaDoor.Tree Go.Proofs.YtalegpdnhkopmaaDoor.Ky
open Go.Proofs.Tryd (prog)
set_option linter.unusedVariables false
set_option linter.unusedSimpArgs false
set_option maxRecDepth 20000
set_option maxHeartbeats 1000000 in
theorem vdecode_c {w : World} {A : Option Addr} {C : Nat} {l : Bs} (h : Row w A (l.map U8)) (hl : l.length ≤ 1000000) (hC : l.length ≤ C) (hT : Tabs w) :
    Calls prog 117 #[.slice A l.length C] w fun e w' => Fr [] w w' ∧ e = .returned (.tuple #[.agg #[.int .i64 (vres l).1.k, .int .i64 (vres l).1.n, .string (vres l).1.s], .int .i64 ((vres l).2.1 : Int), .int .i64 (vres l).2.2]) := by
  refine val_Decode.link fun k1 => ?_
  have bad : ∀ w', Fr [] w w' → vdec l = none → (fun (e : Ending) (w' : World) => Fr [] w w' ∧ e = .returned (.tuple #[.agg #[.int .i64 (vres l).1.k, .int .i64 (vres l).1.n, .string (vres l).1.s], .int .i64 ((vres l).2.1 : Int), .int .i64 (vres l).2.2])) (.returned (.tuple #[.agg #[.int .i64 0, .int .i64 0, .string ByteArray.empty], .int .i64 0, .int .i64 6])) w' := fun w' f e =>
    ⟨f, by unfold vres; rw [e]; rfl⟩
  refine bc' (fun h2 w2 s2 => bad w2 s2.fr ?_) fun h2 => ?_
  · have h2 : l.length < 2 := by have := of_decide_eq_true h2; omega
    unfold vdec vdec0
    match l, h2 with
    | [], _ => rfl
    | [a], _ => rfl
  have h2 : 2 ≤ l.length := by have := of_decide_eq_false h2; omega
  obtain ⟨a, b, r, rfl⟩ : ∃ a b r, l = a :: b :: r := by
    match l, h2 with
    | a :: b :: r, _ => exact ⟨a, b, r, rfl⟩
  have hll : (a :: b :: r).length = r.length + 2 := rfl
  rw [hll] at hl hC
  have ha := a.toNat_lt
  have hb := b.toNat_lt
  obtain ⟨ad, hp⟩ := h.has (by simp)
  have c0 : w.cell? (ad.add 0) = some (.int .u8 (a.toNat : Int)) := h.get hp (j := 0) rfl
  have c1 : w.cell? (ad.add 1) = some (.int .u8 (b.toNat : Int)) := h.get hp (j := 1) rfl
  have wa : IntKind.wrap .i64 (a.toNat : Int) = (a.toNat : Int) := wrapi (by omega) (by omega)
  have wb : IntKind.wrap .i64 (b.toNat : Int) = (b.toNat : Int) := wrapi (by omega) (by omega)
  refine ⟨ad, hp, ⟨by omega, by rw [hll]; omega⟩, _, c0, fun k6 y7 h7 => ?_⟩
  rw [wa]
  -- what was read is checked
  have chkd : ∀ (n : Nat) (v : VL) (w12 : World), Fr [] w w12 → w.heap.size ≤ k1 → k1 < w12.heap.size → k6 < w12.heap.size → vdec0 (a :: b :: r) = some (v, n) → y7 (n : Int) v.k v.n v.s w12 := by
    intro n v w12 F K0 K K6 hv
    refine h7 _ _ _ _ _ ((check_c v (hT.old F)).mono ?_)
    rintro e w14 ⟨rfl, f14⟩
    have F14 := F.trans' f14
    refine ⟨_, rfl, keepF f14 (by simp; omega), bc' (fun hc w16 s16 => ?_) fun hc w18 s18 => ⟨?_, ?_⟩⟩
    · have hc : ¬ chk v = 0 := by simpa using hc
      exact bad w16 (F14.trans s16.fr fun x hx => by rw [List.mem_singleton.1 hx]; exact .inr K0) (by unfold vdec; rw [hv]; simp only; rw [if_neg hc])
    · exact F14.trans s18.fr fun x hx => by rw [List.mem_singleton.1 hx]; exact .inr K0
    · have hc : chk v = 0 := by simpa using hc
      have : vres (a :: b :: r) = (v, n, 0) := by unfold vres vdec; rw [hv]; simp only; rw [if_pos hc]
      rw [this]; rfl
  refine bc' (fun h3 => ⟨ad, hp, ⟨by omega, by rw [hll]; omega⟩, _, c1, fun w24 s24 => ?_⟩) fun h3 => ?_
  · have h3 : a = 3 := (u8_num (n := 3) (by decide)).1 (of_decide_eq_true h3)
    have n24 := g_new2 s24
    rw [wb]
    have := chkd 2 ⟨3, (b.toNat : Int), ByteArray.empty⟩ w24 s24.fr n24.2.2.1 n24.2.2.2.1 n24.2.1 (by unfold vdec0; simp only; rw [if_pos h3])
    rw [h3]
    exact this
  have h3 : ¬ a = 3 := fun z => of_decide_eq_false h3 ((u8_num (n := 3) (by decide)).2 z)
  refine bc' (fun h4 => ⟨ad, hp, ⟨by omega, by rw [hll]; omega⟩, _, c1, ?_⟩) fun h4 => ?_
  · have h4 : a = 2 := (u8_num (n := 2) (by decide)).1 (of_decide_eq_true h4)
    have w2b : IntKind.wrap .i64 (2 + (b.toNat : Int)) = ((2 + b.toNat : Nat) : Int) := by rw [wrapi (by omega) (by omega)]; omega
    rw [wb, w2b]
    have hv0 : vdec0 (a :: b :: r) = if r.length < b.toNat then none else some (⟨2, 0, ⟨⟨r.take b.toNat⟩⟩⟩, 2 + b.toNat) := by unfold vdec0; simp only; rw [if_neg h3, if_pos h4]
    refine bc' (fun hlong w28 s28 => bad w28 s28.fr ?_) fun hlong => ?_
    · have hlong := of_decide_eq_true hlong
      rw [hll] at hlong
      rw [if_pos (by omega)] at hv0
      unfold vdec; rw [hv0]
    · have hlong := of_decide_eq_false hlong
      rw [hll] at hlong
      rw [if_neg (by omega)] at hv0
      have htl : (r.take b.toNat).length = b.toNat := by rw [List.length_take]; omega
      refine ⟨⟨by omega, by omega, by omega⟩, r.take b.toNat, by rw [Int.toNat_natCast, htl]; omega, fun k hk => ?_, fun w34 s34 => ?_⟩
      · rw [Int.toNat_natCast] at hk
        have hr := row_cut (lo := 2) (hi := 2 + b.toNat) (c := C) h (by omega)
        rw [show 2 + b.toNat - 2 = b.toNat by omega] at hr
        have hr : Row w (subA A 2 C 1) ((r.take b.toNat).map U8) := hr
        exact bytes_at hr k (by omega)
      · have n34 := g_new2 s34
        have := chkd (2 + b.toNat) ⟨2, 0, ⟨⟨r.take b.toNat⟩⟩⟩ w34 s34.fr n34.2.2.1 n34.2.2.2.1 n34.2.1 hv0
        rw [h4]
        exact this
  have h4 : ¬ a = 2 := fun z => of_decide_eq_false h4 ((u8_num (n := 2) (by decide)).2 z)
  refine ⟨⟨by omega, by rw [hll]; omega, by rw [hll]; omega⟩, fun w36 s36 => ?_⟩
  have n36 := g_new2 s36
  have hr := (row_from (lo := 1) (c := C) h hC).old s36.fr
  have hr : Row w36 (subA A 1 C 1) ((b :: r).map U8) := hr
  have hlen : Int.toNat ((a :: b :: r).length : Int) - 1 = (b :: r).length := by rw [Int.toNat_natCast]; rfl
  rw [hlen]
  refine (number_c (C := C - 1) hr (by rw [List.length_cons]; omega)).mono ?_
  rintro e w39 ⟨⟨n, k, rfl, hres⟩, rfl⟩
  refine ⟨_, _, rfl, fun _ _ => rfl, ?_⟩
  have hv0 : vdec0 (a :: b :: r) = match numR 0 0 (b :: r) with
    | none => none
    | some (N, q) => some (⟨(a.toNat : Int), unzig N, ByteArray.empty⟩, q + 1) := by unfold vdec0; simp only; rw [if_neg h3, if_neg h4]; cases numR 0 0 (b :: r) <;> rfl
  have off : ∀ {w44 : World} {F : List Nat}, Step w39 w44 F [] → (∀ x ∈ F, x = k1 ∨ x = k6) → Fr [] w w44 := fun s hF => s36.fr.trans s.fr fun x hx => by
    rcases hF x hx with rfl | rfl
    · exact .inr n36.2.2.1
    · exact .inr n36.1
  cases hn : numR 0 0 (b :: r) with
  | none =>
    rw [hn] at hres hv0
    obtain ⟨rfl, rfl⟩ := hres
    exact bT rfl fun w42 s42 => bad w42 (off s42 (by simp)) (by unfold vdec; rw [hv0])
  | some p =>
    obtain ⟨N, q⟩ := p
    rw [hn] at hres hv0
    obtain ⟨rfl, rfl, hq1, hq2⟩ := hres
    refine bF (decide_eq_false (by omega)) fun w44 s44 => ?_
    have z44 := s44.fr.size
    rw [List.length_cons] at hq2
    rw [wrapi (n := (q : Int) + 1) (by omega) (by omega)]
    have := chkd (q + 1) ⟨(a.toNat : Int), unzig N, ByteArray.empty⟩ w44 (off s44 (by simp)) n36.2.2.1 (by omega) (by omega) hv0
    exact this
end Go.Proofs.YtalegpdnhkopmaaDoor.Vl
