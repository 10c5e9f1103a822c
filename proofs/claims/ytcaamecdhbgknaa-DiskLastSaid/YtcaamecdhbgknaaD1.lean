/- The disk: its model, and what its functions do. -/
import Derived.Test.YtcaamecdhbgknaaU1
import Derived.Test.YtcaamecdhbgknaaC1
namespace Go.Proofs.Ytcaamecdhbgknaa.Disk
open Go Go.V
open Go.Proofs.Ytcaamecdhbgknaa.VC
open Go.Proofs.Try (prog)
set_option linter.unusedVariables false
set_option linter.unusedSimpArgs false

abbrev I64 (n : Int) : Value := .int .i64 n
abbrev kenc : Int → Value := Value.int .i64

/-- A disk: each sector as it is sure, as it is, whether it was written since; steps; steps left (below 0: not armed). -/
structure DM where
  sure : List ByteArray
  now : List ByteArray
  fresh : List Bool
  steps : Int
  left : Int

def zsec : ByteArray := ⟨Array.replicate 64 0⟩
def sec (s : ByteArray) : Value := .agg (byteCells s).toArray

structure DM.Ok (M : DM) : Prop where
  lo : 1 ≤ M.sure.length
  hi : M.sure.length ≤ 4096
  now : M.now.length = M.sure.length
  fre : M.fresh.length = M.sure.length
  s64 : ∀ (i : Nat) (s : ByteArray), M.sure[i]? = some s → s.size = 64
  w64 : ∀ (i : Nat) (s : ByteArray), M.now[i]? = some s → s.size = 64
  same : ∀ i : Nat, M.fresh[i]? = some false → M.now[i]? = M.sure[i]?
  lft : -1 ≤ M.left ∧ M.left < 9223372036854775808

def DM.n (M : DM) : Int := (M.sure.length : Int)

def fields (M : DM) (ms mf : Nat) (lf : Int) : List Value := [I64 M.n, .map (some ms), .map (some mf), I64 M.steps, .bool (decide (0 ≤ M.left)), I64 lf]

/-- What the sure sectors' map holds. -/
def SureL (M : DM) (l : List (Int × Value)) : Prop :=
  (∀ (i : Nat) (s : ByteArray), M.sure[i]? = some s → V.look l (i : Int) = some (sec s) ∨ (V.look l (i : Int) = none ∧ s = zsec)) ∧ ∀ p ∈ l, 0 ≤ p.1 ∧ p.1 < M.n
def FreshL (M : DM) (l : List (Int × Value)) : Prop :=
  (∀ i : Nat, M.fresh[i]? = some true → ∃ s, M.now[i]? = some s ∧ V.look l (i : Int) = some (sec s)) ∧ (∀ i : Nat, M.fresh[i]? = some false → V.look l (i : Int) = none) ∧ ∀ p ∈ l, 0 ≤ p.1 ∧ p.1 < M.n

structure DiskAt (w : World) (b ms mf : Nat) (M : DM) : Prop where
  ok : M.Ok
  ne : ms ≠ mf
  blk : ∃ lf, Blk w b (fields M ms mf lf) ∧ (0 ≤ M.left → lf = M.left)
  sure : ∃ l, MapG kenc w ms l ∧ SureL M l
  fresh : ∃ l, MapG kenc w mf l ∧ FreshL M l

theorem DiskAt.bs {w : World} {b ms mf : Nat} {M : DM} (h : DiskAt w b ms mf M) : ms ≠ b ∧ mf ≠ b ∧ b < w.heap.size ∧ ms < w.heap.size ∧ mf < w.heap.size := by
  obtain ⟨lf, hb, _⟩ := h.blk
  obtain ⟨l1, h1, _⟩ := h.sure
  obtain ⟨l2, h2, _⟩ := h.fresh
  exact ⟨map_ne_blk h1 hb, map_ne_blk h2 hb, hb.lt, h1.lt, h2.lt⟩
theorem DiskAt.fr {F : List Nat} {v w : World} {b ms mf : Nat} {M : DM} (h : DiskAt v b ms mf M) (hf : Fr F v w) (hn : ∀ x ∈ [b, ms, mf], x ∉ F) : DiskAt w b ms mf M := by
  obtain ⟨lf, hb, hl⟩ := h.blk
  obtain ⟨l1, h1, s1⟩ := h.sure
  obtain ⟨l2, h2, s2⟩ := h.fresh
  exact ⟨h.ok, h.ne, ⟨lf, hb.fr hf (hn _ (by simp)), hl⟩, ⟨l1, h1.fr hf (hn _ (by simp)), s1⟩, ⟨l2, h2.fr hf (hn _ (by simp)), s2⟩⟩

abbrev D (b : Nat) : Value := .pointer (some ⟨b, 0, none⟩)

theorem size_c {w : World} {b ms mf : Nat} {M : DM} (h : DiskAt w b ms mf M) : Calls prog 21 #[D b] w fun e w' => w' = w ∧ e = .returned (I64 M.n) := by
  obtain ⟨lf, hb, hl⟩ := h.blk
  exact disk_Disk_Size.link ⟨_, hb.cell 0, rfl, rfl⟩
theorem steps_c {w : World} {b ms mf : Nat} {M : DM} (h : DiskAt w b ms mf M) : Calls prog 25 #[D b] w fun e w' => w' = w ∧ e = .returned (I64 M.steps) := by
  obtain ⟨lf, hb, hl⟩ := h.blk
  exact disk_Disk_Steps.link ⟨_, hb.cell 3, rfl, rfl⟩
theorem none_c {w : World} {b ms mf : Nat} {M : DM} (h : DiskAt w b ms mf M) (i : Int) : Calls prog 55 #[D b, I64 i] w fun e w' => w' = w ∧ e = .returned (.bool (decide (i < 0 ∨ M.n ≤ i))) := by
  obtain ⟨lf, hb, hl⟩ := h.blk
  refine disk_Disk_none.link fun y hy => ⟨fun h1 => hy _ _ ⟨rfl, ?_⟩, fun h1 => ⟨_, hb.cell 0, hy _ _ ⟨rfl, ?_⟩⟩⟩
  · have : i < 0 := of_decide_eq_true h1
    simp [this]
  · have : ¬ i < 0 := of_decide_eq_false h1
    simp [this]

/-- A step. -/
def DM.dead (M : DM) : Prop := M.left = 0
instance (M : DM) : Decidable M.dead := inferInstanceAs (Decidable (_ = _))
def DM.stepped (M : DM) : DM := { M with left := if 0 < M.left then M.left - 1 else M.left, steps := IntKind.wrap .i64 (M.steps + 1) }
theorem DM.Ok.stepped {M : DM} (h : M.Ok) : M.stepped.Ok :=
  ⟨h.lo, h.hi, h.now, h.fre, h.s64, h.w64, h.same, by
    have := h.lft
    simp only [DM.stepped]; split <;> omega⟩

theorem step_c {w : World} {b ms mf : Nat} {M : DM} (h : DiskAt w b ms mf M) : Calls prog 56 #[D b] w fun e w' =>
    (M.dead → e = .returned (I64 30) ∧ w' = w) ∧ (¬ M.dead → e = .returned (I64 0) ∧ Fr [b] w w' ∧ DiskAt w' b ms mf M.stepped) := by
  obtain ⟨lf, hb, hl⟩ := h.blk
  obtain ⟨l1, h1, s1⟩ := h.sure
  obtain ⟨l2, h2, s2⟩ := h.fresh
  obtain ⟨n1, n2, _⟩ := h.bs
  have hlft := h.ok.lft
  -- behind the first store
  have key : ∀ w2 lf', Fr [b] w w2 → Blk w2 b (fields { M with left := M.left } ms mf lf') → ¬ M.dead → (0 ≤ M.left → lf' = M.left - 1) → ∀ w5, Upd w2 w5 b (sets (fields M ms mf lf') 3 [I64 (IntKind.wrap .i64 (M.steps + 1))]) →
      Fr [b] w w5 ∧ DiskAt w5 b ms mf M.stepped := fun w2 lf' hf hb2 hd hlf w5 hu => by
    have hf5 := hf.trans' hu.fr
    refine ⟨hf5, h.ok.stepped, h.ne, ⟨lf', ?_, fun h0 => ?_⟩, ⟨l1, h1.fr hf5 (by simpa using n1), s1⟩, ⟨l2, h2.fr hf5 (by simpa using n2), s2⟩⟩
    · have hb5 := hu.blk
      have e : fields M.stepped ms mf lf' = sets (fields M ms mf lf') 3 [I64 (IntKind.wrap .i64 (M.steps + 1))] := by
        have : (decide (0 ≤ M.stepped.left)) = decide (0 ≤ M.left) := by
          have hd' : M.left ≠ 0 := hd
          simp only [DM.stepped]
          split
          · have : 0 ≤ M.left - 1 := by omega
            simp [this]; omega
          · rfl
        show [I64 M.stepped.n, _, _, _, Value.bool (decide (0 ≤ M.stepped.left)), _] = _
        rw [this]; rfl
      rw [e]; exact hb5
    · have hd' : M.left ≠ 0 := hd
      simp only [DM.stepped] at h0 ⊢
      split at h0
      · rename_i hp
        rw [if_pos hp]; exact hlf (by omega)
      · omega
  have le {m n : Nat} (h : Nat.ble m n = true) : m ≤ n := Nat.le_of_ble_eq_true h
  refine disk_Disk_step.link fun y hy => ⟨_, hb.cell 4, fun ha => ⟨_, hb.cell 5, fun h5 => ⟨fun _ => ⟨rfl, rfl⟩, fun hd => ?_⟩, fun h5 => ⟨_, hb.cell 5, _, hb, rfl, le rfl, fun w13 hu => hy _ ?_⟩⟩, fun ha => hy _ ?_⟩
  · exfalso
    have ha : 0 ≤ M.left := of_decide_eq_true ha
    have h5 : lf = 0 := of_decide_eq_true h5
    have := hl ha
    exact hd (show M.left = 0 by omega)
  · have ha : 0 ≤ M.left := of_decide_eq_true ha
    have h5 : ¬ lf = 0 := of_decide_eq_false h5
    have hlf := hl ha
    have hnd : ¬ M.dead := fun h : M.left = 0 => h5 (by omega)
    have hw : IntKind.wrap .i64 (lf - 1) = lf - 1 := wrapi (by omega) (by omega)
    have hb13 : Blk w13 b (fields M ms mf (lf - 1)) := by
      have := hu.blk
      rw [hw] at this
      exact this
    exact ⟨_, hb13.cell 3, _, hb13, rfl, le rfl, fun w5 hu5 => ⟨fun hd => absurd hd hnd, fun _ => ⟨rfl, key w13 (lf - 1) hu.fr hb13 hnd (fun _ => by rw [hlf]) w5 hu5⟩⟩⟩
  · have ha : ¬ 0 ≤ M.left := of_decide_eq_false ha
    have hnd : ¬ M.dead := fun h : M.left = 0 => ha (by omega)
    exact ⟨_, hb.cell 3, _, hb, rfl, le rfl, fun w5 hu5 => ⟨fun hd => absurd hd hnd, fun _ => ⟨rfl, key w lf (Fr.refl _ _) hb hnd (fun h => absurd h ha) w5 hu5⟩⟩⟩

end Go.Proofs.Ytcaamecdhbgknaa.Disk
