/- RecordCut: the walk. -/
import Derived.Test.YtalegpdnhkopmaaDoorES
namespace Go.Proofs.YtalegpdnhkopmaaDoor.Rc
open Go Go.V Go.RowKit
open Go.Proofs.YtalegpdnhkopmaaDoor.VC Go.Proofs.YtalegpdnhkopmaaDoor.By Go.Proofs.YtalegpdnhkopmaaDoor.Tree Go.Proofs.YtalegpdnhkopmaaDoor.Ky Go.Proofs.YtalegpdnhkopmaaDoor.Vl
open Go.Proofs.Tryd (prog)
set_option linter.unusedVariables false
set_option linter.unusedSimpArgs false
set_option maxRecDepth 20000
theorem rec_no (L : List CH) (h : ¬ (recB1 L).2 = 0) : (recB1 L).1 = [] := by
  unfold recB1 at h ⊢
  split
  · rfl
  · rename_i h1
    rw [if_neg h1] at h
    split
    · rfl
    · rename_i h2
      rw [if_neg h2] at h
      exact absurd rfl h
theorem rec_yes (L : List CH) (h : (recB1 L).2 = 0) : recB1 L = (rec1 L, 0) := by
  unfold recB1 at h ⊢
  split
  · rename_i h1; rw [if_pos h1] at h; cases h
  · rename_i h1
    rw [if_neg h1] at h
    split
    · rename_i h2; rw [if_pos h2] at h; cases h
    · rfl
set_option maxHeartbeats 2000000 in
theorem cut_walk {w : World} {A mA : Option Addr} {C mC : Nat} {L : List CH} {more : Bs} (cut : Int) (hr : Row w A (L.flatMap ccell)) (hT : Tabs w) (hI : ∀ c ∈ L, InC c) (hl : L.length ≤ 140737488355328) (hm : Row w mA (more.map U8)) (hml : more.length ≤ 140737488355328) :
    Calls prog 14 #[.slice A L.length C, .int .i64 cut, .slice mA more.length mC] w fun e w' => e = .returned (.bool true) ∧ Fr [] w w' := by
  refine rhizomelaw15_RecordCut.link fun y1 h1 => (rawake_c hT).mono ?_
  rintro e w75 ⟨rfl, f75⟩
  have early : y1 true w75 := h1 _ _ (bT rfl ((rawake_c (hT.old f75)).mono (by
    rintro e w5 ⟨rfl, f5⟩
    exact ⟨_, rfl, rfl, f75.trans' f5⟩)))
  refine ⟨true, rfl, bF rfl (bc' (fun h30 => early) fun h30 => ?_)⟩
  cases h500 : decide ((500 : Int) < (more.length : Int)) with
  | true => exact early
  | false =>
  have h500 : more.length ≤ 500 := by have := of_decide_eq_false h500; omega
  refine h1 _ _ (bF rfl ((encode1_c (hr.old f75) (hT.old f75) hI hl).mono ?_))
  rintro e w8 ⟨f8, p9, k11, rfl, o9⟩
  have F8 := f75.trans' f8
  refine ⟨_, _, _, _, rfl, bc' (fun hn => ?_) fun hn => ?_⟩
  · have hn : ¬ (recB1 L).2 = 0 := by simpa using hn
    rw [rec_no L hn]
    exact ⟨rfl, F8⟩
  have hn : (recB1 L).2 = 0 := by simpa using hn
  have hrec := rec_yes L hn
  rw [hrec] at o9 ⊢
  simp only at o9 ⊢
  have hK2 := rec_len hrec
  have hK4 := (rec_ok hrec).2.2.2
  have hcap := o9.2.1
  have wK : IntKind.wrap .u64 ((rec1 L).length : Int) = ((rec1 L).length : Int) := by rw [IntKind.wrap_u64]; omega
  obtain ⟨q, hq, hqK⟩ : ∃ q : Nat, IntKind.wrap .i64 (Int.tmod (IntKind.wrap .u64 cut) (IntKind.wrap .u64 ((rec1 L).length : Int))) = (q : Int) ∧ q < (rec1 L).length := by
    rw [wK]
    have g1 : 0 ≤ IntKind.wrap .u64 cut := by rw [IntKind.wrap_u64]; omega
    rw [Int.tmod_eq_emod_of_nonneg g1]
    generalize IntKind.wrap .u64 cut = x at g1
    have g2 := Int.emod_nonneg x (show ((rec1 L).length : Int) ≠ 0 by omega)
    have g3 := Int.emod_lt_of_pos x (show (0 : Int) < ((rec1 L).length : Int) by omega)
    generalize x % ((rec1 L).length : Int) = r at g2 g3
    exact ⟨r.toNat, by rw [wrapi (by omega) (by omega)]; omega, by omega⟩
  rw [hq, wK]
  simp only [Int.toNat_natCast, Nat.sub_zero]
  rw [subA_0]
  refine ⟨by omega, ⟨by omega, by omega, by omega⟩, ?_⟩
  have htl : ((rec1 L).take q).length = q := by rw [List.length_take]; omega
  have hpre : Row w8 p9 (((rec1 L).take q).map U8) := by
    rw [List.map_take]; exact o9.row.pre q
  have c1 := decode1_c (C := k11) hpre (by omega) (by omega) (hT.old F8) (by
    cases q with
    | zero => exact .inl rfl
    | succ q => exact .inr ⟨_, rfl⟩)
  rw [htl] at c1
  refine c1.mono ?_
  rintro e w14 ⟨f14, M, n10, p11, k12, k13, s14, n15, p16, k17, k18, p19, k20, k21, s22, s23, n, rfl, hn3, hn3', hn0, _⟩
  have F14 := F8.trans' f14
  have hn6 : n = 6 := by
    rcases hn3 with rfl | rfl | rfl
    · exfalso
      obtain ⟨_, _, _, _, hIM, hM⟩ := hn0 rfl
      have := rec_pre hrec hI hM hIM (X := (rec1 L).drop q) (List.take_append_drop q _).symm
      have := congrArg List.length this
      rw [List.length_drop, List.length_nil] at this; omega
    · have := hn3'.1 rfl; omega
    · rfl
  subst hn6
  refine ⟨_, _, _, _, _, _, _, _, _, _, _, _, _, _, _, rfl, fun k30 k31 w32 s32 b32 => ?_⟩
  have n32 := g_new2 s32
  have F32 := F14.trans' s32.fr
  have z14 := F14.size
  have z32 := s32.fr.size
  have b32 : Blk w32 k31 (([] : Bs).map U8) := b32
  have o9' := (o9.fr f14 fun _ _ => by simp).fr s32.fr fun _ _ => by simp
  have o32 : OwnZ w32 w14.heap.size 1 (some ⟨k31, 0, none⟩) ([] : Bs).length 0 (([] : Bs).map U8) := OwnZ.blk (n := 0) b32 rfl (by simp) n32.1
  refine ⟨(rec1 L).map U8, by rw [List.length_map, Nat.mul_one], o9'.row, ?_⟩
  refine appB (zs := rec1 L) (u := w) rfl rfl o32 F32 z14 z32 rfl (fun _ => rfl) rfl (fun ad hp hin => ?_) (by simp; omega) fun w36 p37 c39 g36 _ _ o36 => ?_
  · injection hp with hp; subst hp; simp at hin; omega
  rw [List.nil_append] at o36 ⊢
  have z36 := g36.fv.size
  refine ⟨more.map U8, by rw [List.length_map, Nat.mul_one], hm.old g36.fu, ?_⟩
  refine appB (zs := more) (u := w) rfl rfl o36 g36.fu z14 (by omega) rfl (fun _ => rfl) rfl (fun ad hp hin => ?_) (by omega) fun w41 p42 c44 g41 _ _ o41 => ?_
  · simp at hin
    rcases g36.d ad hp with h | h
    · injection h with h; subst h; simp at hin; omega
    · omega
  have z41 := g41.fv.size
  have hl2 : (rec1 L ++ more).length ≤ 5000 := by rw [List.length_append]; omega
  refine (decode1_c (C := c44) o41.row (by omega) o41.2.1 (hT.old g41.fu) (.inr ⟨_, rfl⟩)).mono ?_
  rintro e w46 ⟨f46, M', n10', p11', k12', k13', s14', n15', p16', k17', k18', p19', k20', k21', s22', s23', n', rfl, hn3b, _, hn0b, hnL⟩
  have F46 := g41.fu.trans' f46
  refine ⟨_, _, _, _, _, _, _, _, _, _, _, _, _, _, _, rfl, keepF f46 (by simp; omega), fun k62 y63 h63 => bT rfl fun w68 s68 => ?_⟩
  have hiff : n' = 0 ↔ more = [] := by
    constructor
    · intro z
      obtain ⟨_, _, _, _, hIM, hM⟩ := hn0b z
      exact rec_pre hM hIM hrec hI rfl
    · intro z
      subst z
      exact (hnL L hI (by rw [List.append_nil]; exact hrec)).1
  have : (decide (n' = 0) == decide ((more.length : Int) = 0)) = true := by
    by_cases z : more = []
    · rw [decide_eq_true (hiff.2 z), z]; rfl
    · rw [decide_eq_false (fun y => z (hiff.1 y)), decide_eq_false (fun y => z (List.length_eq_zero_iff.1 (by omega)))]; rfl
  rw [this]
  exact h63 _ _ ⟨rfl, F46.trans' s68.fr⟩
end Go.Proofs.YtalegpdnhkopmaaDoor.Rc
