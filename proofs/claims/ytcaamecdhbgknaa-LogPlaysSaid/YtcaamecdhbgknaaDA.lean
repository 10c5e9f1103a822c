/- Texts of this session's repo, laid together: D1 D2 D3 K1 K2 D4 D5 D6 D7 D8 D9 D10. -/
import Derived.Test.YtcaamecdhbgknaaUA
import Derived.Test.YtcaamecdhbgknaaC1
import Derived.Test.YtcaamecdhbgknaaShelf
import Derived.Test.YtcaamecdhbgknaaProg
import Derived.Test.YtcaamecdhbgknaaC2
section
/- The disk: its model, and what its functions do. -/
namespace Go.Proofs.Ytcaamecdhbgknaa.Disk
open Go Go.V
open Go.Proofs.Ytcaamecdhbgknaa.VC
open Go.Proofs.Try (prog)
set_option linter.unusedVariables false
set_option linter.unusedSimpArgs false

abbrev I64 (n : Int) : Value := .int .i64 n
abbrev kenc : Int → Value := Value.int .i64

/-- A disk: each sector as it is sure, as it is, whether it was written since; steps; steps left (below 0: not armed). -/
structure DM where
  sure : List ByteArray
  now : List ByteArray
  fresh : List Bool
  steps : Int
  left : Int

def zsec : ByteArray := ⟨Array.replicate 64 0⟩
def sec (s : ByteArray) : Value := .agg (byteCells s).toArray

structure DM.Ok (M : DM) : Prop where
  lo : 1 ≤ M.sure.length
  hi : M.sure.length ≤ 4096
  now : M.now.length = M.sure.length
  fre : M.fresh.length = M.sure.length
  s64 : ∀ (i : Nat) (s : ByteArray), M.sure[i]? = some s → s.size = 64
  w64 : ∀ (i : Nat) (s : ByteArray), M.now[i]? = some s → s.size = 64
  same : ∀ i : Nat, M.fresh[i]? = some false → M.now[i]? = M.sure[i]?
  lft : -1 ≤ M.left ∧ M.left < 9223372036854775808

def DM.n (M : DM) : Int := (M.sure.length : Int)

def fields (M : DM) (ms mf : Nat) (lf : Int) : List Value := [I64 M.n, .map (some ms), .map (some mf), I64 M.steps, .bool (decide (0 ≤ M.left)), I64 lf]

/-- What the sure sectors' map holds. -/
def SureL (M : DM) (l : List (Int × Value)) : Prop :=
  (∀ (i : Nat) (s : ByteArray), M.sure[i]? = some s → V.look l (i : Int) = some (sec s) ∨ (V.look l (i : Int) = none ∧ s = zsec)) ∧ ∀ p ∈ l, 0 ≤ p.1 ∧ p.1 < M.n
def FreshL (M : DM) (l : List (Int × Value)) : Prop :=
  (∀ i : Nat, M.fresh[i]? = some true → ∃ s, M.now[i]? = some s ∧ V.look l (i : Int) = some (sec s)) ∧ (∀ i : Nat, M.fresh[i]? = some false → V.look l (i : Int) = none) ∧ ∀ p ∈ l, 0 ≤ p.1 ∧ p.1 < M.n

structure DiskAt (w : World) (b ms mf : Nat) (M : DM) : Prop where
  ok : M.Ok
  ne : ms ≠ mf
  blk : ∃ lf, Blk w b (fields M ms mf lf) ∧ (0 ≤ M.left → lf = M.left)
  sure : ∃ l, MapG kenc w ms l ∧ SureL M l
  fresh : ∃ l, MapG kenc w mf l ∧ FreshL M l

theorem DiskAt.bs {w : World} {b ms mf : Nat} {M : DM} (h : DiskAt w b ms mf M) : ms ≠ b ∧ mf ≠ b ∧ b < w.heap.size ∧ ms < w.heap.size ∧ mf < w.heap.size := by
  obtain ⟨lf, hb, _⟩ := h.blk
  obtain ⟨l1, h1, _⟩ := h.sure
  obtain ⟨l2, h2, _⟩ := h.fresh
  exact ⟨map_ne_blk h1 hb, map_ne_blk h2 hb, hb.lt, h1.lt, h2.lt⟩
theorem DiskAt.fr {F : List Nat} {v w : World} {b ms mf : Nat} {M : DM} (h : DiskAt v b ms mf M) (hf : Fr F v w) (hn : ∀ x ∈ [b, ms, mf], x ∉ F) : DiskAt w b ms mf M := by
  obtain ⟨lf, hb, hl⟩ := h.blk
  obtain ⟨l1, h1, s1⟩ := h.sure
  obtain ⟨l2, h2, s2⟩ := h.fresh
  exact ⟨h.ok, h.ne, ⟨lf, hb.fr hf (hn _ (by simp)), hl⟩, ⟨l1, h1.fr hf (hn _ (by simp)), s1⟩, ⟨l2, h2.fr hf (hn _ (by simp)), s2⟩⟩

abbrev D (b : Nat) : Value := .pointer (some ⟨b, 0, none⟩)

theorem size_c {w : World} {b ms mf : Nat} {M : DM} (h : DiskAt w b ms mf M) : Calls prog 21 #[D b] w fun e w' => w' = w ∧ e = .returned (I64 M.n) := by
  obtain ⟨lf, hb, hl⟩ := h.blk
  exact disk_Disk_Size.link ⟨_, hb.cell 0, rfl, rfl⟩
theorem steps_c {w : World} {b ms mf : Nat} {M : DM} (h : DiskAt w b ms mf M) : Calls prog 25 #[D b] w fun e w' => w' = w ∧ e = .returned (I64 M.steps) := by
  obtain ⟨lf, hb, hl⟩ := h.blk
  exact disk_Disk_Steps.link ⟨_, hb.cell 3, rfl, rfl⟩
theorem none_c {w : World} {b ms mf : Nat} {M : DM} (h : DiskAt w b ms mf M) (i : Int) : Calls prog 55 #[D b, I64 i] w fun e w' => w' = w ∧ e = .returned (.bool (decide (i < 0 ∨ M.n ≤ i))) := by
  obtain ⟨lf, hb, hl⟩ := h.blk
  refine disk_Disk_none.link fun y hy => ⟨fun h1 => hy _ _ ⟨rfl, ?_⟩, fun h1 => ⟨_, hb.cell 0, hy _ _ ⟨rfl, ?_⟩⟩⟩
  · have : i < 0 := of_decide_eq_true h1
    simp [this]
  · have : ¬ i < 0 := of_decide_eq_false h1
    simp [this]

/-- A step. -/
def DM.dead (M : DM) : Prop := M.left = 0
instance (M : DM) : Decidable M.dead := inferInstanceAs (Decidable (_ = _))
def DM.stepped (M : DM) : DM := { M with left := if 0 < M.left then M.left - 1 else M.left, steps := IntKind.wrap .i64 (M.steps + 1) }
theorem DM.Ok.stepped {M : DM} (h : M.Ok) : M.stepped.Ok :=
  ⟨h.lo, h.hi, h.now, h.fre, h.s64, h.w64, h.same, by
    have := h.lft
    simp only [DM.stepped]; split <;> omega⟩

theorem step_c {w : World} {b ms mf : Nat} {M : DM} (h : DiskAt w b ms mf M) : Calls prog 56 #[D b] w fun e w' =>
    (M.dead → e = .returned (I64 30) ∧ w' = w) ∧ (¬ M.dead → e = .returned (I64 0) ∧ Fr [b] w w' ∧ DiskAt w' b ms mf M.stepped) := by
  obtain ⟨lf, hb, hl⟩ := h.blk
  obtain ⟨l1, h1, s1⟩ := h.sure
  obtain ⟨l2, h2, s2⟩ := h.fresh
  obtain ⟨n1, n2, _⟩ := h.bs
  have hlft := h.ok.lft
  -- behind the first store
  have key : ∀ w2 lf', Fr [b] w w2 → Blk w2 b (fields { M with left := M.left } ms mf lf') → ¬ M.dead → (0 ≤ M.left → lf' = M.left - 1) → ∀ w5, Upd w2 w5 b (sets (fields M ms mf lf') 3 [I64 (IntKind.wrap .i64 (M.steps + 1))]) →
      Fr [b] w w5 ∧ DiskAt w5 b ms mf M.stepped := fun w2 lf' hf hb2 hd hlf w5 hu => by
    have hf5 := hf.trans' hu.fr
    refine ⟨hf5, h.ok.stepped, h.ne, ⟨lf', ?_, fun h0 => ?_⟩, ⟨l1, h1.fr hf5 (by simpa using n1), s1⟩, ⟨l2, h2.fr hf5 (by simpa using n2), s2⟩⟩
    · have hb5 := hu.blk
      have e : fields M.stepped ms mf lf' = sets (fields M ms mf lf') 3 [I64 (IntKind.wrap .i64 (M.steps + 1))] := by
        have : (decide (0 ≤ M.stepped.left)) = decide (0 ≤ M.left) := by
          have hd' : M.left ≠ 0 := hd
          simp only [DM.stepped]
          split
          · have : 0 ≤ M.left - 1 := by omega
            simp [this]; omega
          · rfl
        show [I64 M.stepped.n, _, _, _, Value.bool (decide (0 ≤ M.stepped.left)), _] = _
        rw [this]; rfl
      rw [e]; exact hb5
    · have hd' : M.left ≠ 0 := hd
      simp only [DM.stepped] at h0 ⊢
      split at h0
      · rename_i hp
        rw [if_pos hp]; exact hlf (by omega)
      · omega
  have le {m n : Nat} (h : Nat.ble m n = true) : m ≤ n := Nat.le_of_ble_eq_true h
  refine disk_Disk_step.link fun y hy => ⟨_, hb.cell 4, fun ha => ⟨_, hb.cell 5, fun h5 => ⟨fun _ => ⟨rfl, rfl⟩, fun hd => ?_⟩, fun h5 => ⟨_, hb.cell 5, _, hb, rfl, le rfl, fun w13 hu => hy _ ?_⟩⟩, fun ha => hy _ ?_⟩
  · exfalso
    have ha : 0 ≤ M.left := of_decide_eq_true ha
    have h5 : lf = 0 := of_decide_eq_true h5
    have := hl ha
    exact hd (show M.left = 0 by omega)
  · have ha : 0 ≤ M.left := of_decide_eq_true ha
    have h5 : ¬ lf = 0 := of_decide_eq_false h5
    have hlf := hl ha
    have hnd : ¬ M.dead := fun h : M.left = 0 => h5 (by omega)
    have hw : IntKind.wrap .i64 (lf - 1) = lf - 1 := wrapi (by omega) (by omega)
    have hb13 : Blk w13 b (fields M ms mf (lf - 1)) := by
      have := hu.blk
      rw [hw] at this
      exact this
    exact ⟨_, hb13.cell 3, _, hb13, rfl, le rfl, fun w5 hu5 => ⟨fun hd => absurd hd hnd, fun _ => ⟨rfl, key w13 (lf - 1) hu.fr hb13 hnd (fun _ => by rw [hlf]) w5 hu5⟩⟩⟩
  · have ha : ¬ 0 ≤ M.left := of_decide_eq_false ha
    have hnd : ¬ M.dead := fun h : M.left = 0 => ha (by omega)
    exact ⟨_, hb.cell 3, _, hb, rfl, le rfl, fun w5 hu5 => ⟨fun hd => absurd hd hnd, fun _ => ⟨rfl, key w lf (Fr.refl _ _) hb hnd (fun h => absurd h ha) w5 hu5⟩⟩⟩

end Go.Proofs.Ytcaamecdhbgknaa.Disk

end
section
/- The disk: writing, reading, arming, a new one. -/
namespace Go.Proofs.Ytcaamecdhbgknaa.Disk
open Go Go.V
open Go.Proofs.Ytcaamecdhbgknaa.VC
open Go.Proofs.Try (prog)
set_option linter.unusedVariables false
set_option linter.unusedSimpArgs false

def DM.wrote (M : DM) (i : Nat) (s : ByteArray) : DM := { M.stepped with now := M.now.set i s, fresh := M.fresh.set i true }
def DM.write (M : DM) (i : Int) (s : ByteArray) : DM × Int :=
  if i < 0 ∨ M.n ≤ i ∨ s.size ≠ 64 then (M, 1) else if M.dead then (M, 30) else (M.wrote i.toNat s, 0)

theorem DM.Ok.wrote {M : DM} (h : M.Ok) {i : Nat} {s : ByteArray} (hi : i < M.sure.length) (hs : s.size = 64) : (M.wrote i s).Ok := by
  have h' := h.stepped
  refine ⟨h.lo, h.hi, by show (M.now.set i s).length = _; rw [List.length_set]; exact h.now, by show (M.fresh.set i true).length = _; rw [List.length_set]; exact h.fre, h.s64, fun j t hj => ?_, fun j hj => ?_, h'.lft⟩
  · have hj : (M.now.set i s)[j]? = some t := hj
    rw [List.getElem?_set] at hj
    split at hj
    · split at hj
      · injection hj with hj; subst hj; exact hs
      · cases hj
    · exact h.w64 j t hj
  · have hj : (M.fresh.set i true)[j]? = some false := hj
    rw [List.getElem?_set] at hj
    show (M.now.set i s)[j]? = M.sure[j]?
    rw [List.getElem?_set]
    split at hj
    · split at hj
      · cases hj
      · cases hj
    · rename_i hne
      rw [if_neg hne]; exact h.same j hj

theorem FreshL.wrote {M : DM} (hok : M.Ok) {l : List (Int × Value)} (h : FreshL M.stepped l) {i : Nat} (hi : i < M.sure.length) (s : ByteArray) : FreshL (M.wrote i s) (updM l (i : Int) (sec s)) := by
  obtain ⟨h1, h2, h3⟩ := h
  refine ⟨fun j hj => ?_, fun j hj => ?_, fun p hp => ?_⟩
  · have hj : (M.fresh.set i true)[j]? = some true := hj
    show ∃ t, (M.now.set i s)[j]? = some t ∧ _
    rw [List.getElem?_set] at hj ⊢
    by_cases e : i = j
    · subst e
      rw [if_pos rfl, if_pos (by rw [hok.now]; exact hi), look_updM, if_pos rfl]
      exact ⟨s, rfl, rfl⟩
    · rw [if_neg e] at hj ⊢
      obtain ⟨t, ht, hl⟩ := h1 j hj
      exact ⟨t, ht, by rw [look_updM, if_neg (by omega)]; exact hl⟩
  · have hj : (M.fresh.set i true)[j]? = some false := hj
    rw [List.getElem?_set] at hj
    by_cases e : i = j
    · rw [if_pos e] at hj; split at hj <;> cases hj
    · rw [if_neg e] at hj
      rw [look_updM, if_neg (by omega)]; exact h2 j hj
  · rcases mem_updM hp with rfl | hp
    · exact ⟨by simp, by show (i : Int) < (M.sure.length : Int); omega⟩
    · exact h3 p hp

theorem write_c {w : World} {b ms mf : Nat} {M : DM} (h : DiskAt w b ms mf M) (i : Int) {bA : Option Addr} {bC : Nat} {s : ByteArray} (hr : Row w bA (byteCells s)) (hd : ∀ ad, bA = some ad → ad.block ∉ [b, ms, mf]) :
    Calls prog 23 #[D b, I64 i, .slice bA s.size bC] w fun e w' => e = .returned (I64 (M.write i s).2) ∧ Fr [b, ms, mf] w w' ∧ DiskAt w' b ms mf (M.write i s).1 := by
  refine disk_Disk_Write.link fun y hy => (none_c h i).mono ?_
  rintro e w2 ⟨rfl, rfl⟩
  refine ⟨_, rfl, fun hb => hy _ _ ⟨fun _ => ?_, fun h => (Bool.noConfusion h)⟩, fun hb => hy _ _ ⟨fun h2 => ?_, fun h2 => ?_⟩⟩
  · have hb := of_decide_eq_true hb
    have : DM.write M i s = (M, 1) := by unfold DM.write; rw [if_pos (by rcases hb with h | h; exact .inl h; exact .inr (.inl h))]
    rw [this]; exact ⟨rfl, Fr.refl _ _, h⟩
  · have h2 : ¬ (s.size : Int) = 64 := by simpa using h2
    have : DM.write M i s = (M, 1) := by unfold DM.write; rw [if_pos (.inr (.inr (by omega)))]
    rw [this]; exact ⟨rfl, Fr.refl _ _, h⟩
  · have h2 : (s.size : Int) = 64 := by simpa using h2
    have h2 : s.size = 64 := by omega
    have hb := of_decide_eq_false hb
    have hi0 : ¬ i < 0 := fun h => hb (.inl h)
    have hin : ¬ M.n ≤ i := fun h => hb (.inr h)
    have hc : ¬ (i < 0 ∨ M.n ≤ i ∨ s.size ≠ 64) := by rintro (h | h | h); exact hi0 h; exact hin h; exact h h2
    refine (step_c h).mono ?_
    rintro e w5 ⟨hdead, hlive⟩
    by_cases hdd : M.dead
    · obtain ⟨rfl, rfl⟩ := hdead hdd
      have : DM.write M i s = (M, 30) := by unfold DM.write; rw [if_neg hc, if_pos hdd]
      refine ⟨_, rfl, fun y7 hy7 => ⟨fun h => by simp at h, fun _ => hy7 _ ?_⟩⟩
      rw [this]; exact ⟨rfl, Fr.refl _ _, h⟩
    · obtain ⟨rfl, hf, hD⟩ := hlive hdd
      have hM : DM.write M i s = (M.wrote i.toNat s, 0) := by unfold DM.write; rw [if_neg hc, if_neg hdd]
      refine ⟨_, rfl, fun y7 hy7 => ⟨fun _ => ?_, fun h => by simp at h⟩⟩
      obtain ⟨lf, hbk, hl⟩ := hD.blk
      obtain ⟨l1, g1, s1⟩ := hD.sure
      obtain ⟨l2, g2, s2⟩ := hD.fresh
      have hlen : (byteCells s).length = 64 := by rw [byteCells_length, h2]
      obtain ⟨ad, had⟩ := hr.has (by omega)
      have hr5 : Row w5 bA (byteCells s) := Row.fr hf hr fun ad hp hm => hd ad hp (by simp at hm ⊢; exact .inl hm)
      refine ⟨_, hbk.cell 2, by omega, ad, by rw [had], byteCells s, hlen, fun k hk => ?_, fun w16 hst => ⟨_, l2, rfl, g2.fr hst.fr (by simp), fun w20 hm => hy7 _ ?_⟩⟩
      · have hk' : k < (byteCells s).length := by omega
        rw [hr5.get had (List.getElem?_eq_getElem hk'), List.getElem?_eq_getElem hk']
      · rw [hM]
        have hi1 : i.toNat < M.sure.length := by
          have : i < (M.sure.length : Int) := by
            have : ¬ (M.sure.length : Int) ≤ i := hin
            omega
          omega
        have hit : (i.toNat : Int) = i := by omega
        have hf20 : Fr [mf] w5 w20 := (hst.fr.mono (G := [mf]) (fun x hx => by cases hx)).trans' hm.fr
        have hsub : ∀ x ∈ [mf], x ∈ [b, ms, mf] ∨ w2.heap.size ≤ x := fun x hx => .inl (by simp at hx; subst hx; simp)
        obtain ⟨n1, n2, _⟩ := h.bs
        refine ⟨rfl, (hf.mono (G := [b, ms, mf]) (fun x hx => .inl (by simp at hx; subst hx; simp))).trans hf20 hsub, h.ok.wrote hi1 h2, h.ne, ⟨lf, hbk.fr hf20 (by simpa using n2.symm), hl⟩, ⟨l1, g1.fr hf20 (by simpa using h.ne), s1⟩, ⟨_, hm.map, ?_⟩⟩
        have := s2.wrote h.ok hi1 s
        rw [hit] at this
        exact this

end Go.Proofs.Ytcaamecdhbgknaa.Disk

end
section
/- The disk: reading, arming, a new one. -/
namespace Go.Proofs.Ytcaamecdhbgknaa.Disk
open Go Go.V
open Go.Proofs.Ytcaamecdhbgknaa.VC
open Go.Proofs.Try (prog)
set_option linter.unusedVariables false
set_option linter.unusedSimpArgs false
set_option maxRecDepth 20000

theorem zsec_cells : byteCells zsec = reps [Value.int .u8 0] 64 := by
  have e : zsec.data.toList = List.replicate 64 0 := by decide +kernel
  unfold byteCells
  rw [e]
  rfl
theorem zsec_size : zsec.size = 64 := by decide +kernel

theorem read_c {w : World} {b ms mf : Nat} {M : DM} (h : DiskAt w b ms mf M) (i : Int) : Calls prog 22 #[D b, I64 i] w fun e w' =>
    (i < 0 ∨ M.n ≤ i → e = .returned (.tuple #[.slice none 0 0, I64 1]) ∧ w' = w) ∧
    (¬ (i < 0 ∨ M.n ≤ i) → ∃ k s, M.now[i.toNat]? = some s ∧ e = .returned (.tuple #[.slice (some ⟨k, 0, none⟩) 64 64, I64 0]) ∧ w.heap.size ≤ k ∧ Fr [] w w' ∧ Blk w' k (byteCells s)) := by
  refine disk_Disk_Read.link ((none_c h i).mono ?_)
  rintro e w2 ⟨rfl, rfl⟩
  refine ⟨_, rfl, fun hb => ⟨fun _ => ⟨rfl, rfl⟩, fun hn => absurd (of_decide_eq_true hb) hn⟩, fun hb => ?_⟩
  have hb := of_decide_eq_false hb
  have hi0 : ¬ i < 0 := fun h => hb (.inl h)
  have hin : ¬ (M.sure.length : Int) ≤ i := fun h => hb (.inr h)
  have hi1 : i.toNat < M.sure.length := by omega
  have hit : (i.toNat : Int) = i := by omega
  obtain ⟨lf, hbk, hl⟩ := h.blk
  obtain ⟨l1, g1, s1⟩ := h.sure
  obtain ⟨l2, g2, s2⟩ := h.fresh
  have hfl : i.toNat < M.fresh.length := by rw [h.ok.fre]; exact hi1
  have hnl : i.toNat < M.now.length := by rw [h.ok.now]; exact hi1
  -- what both ways end in
  have fin : ∀ (s : ByteArray) (k8 : Nat) (w19 : World), M.now[i.toNat]? = some s → w2.heap.size ≤ k8 → Fr [] w2 w19 → Blk w19 k8 (byteCells s) →
      ((i < 0 ∨ M.n ≤ i → Ending.returned (.tuple #[.slice (subA (some ⟨k8, 0, none⟩) 0 64 1) 64 64, I64 0]) = .returned (.tuple #[.slice none 0 0, I64 1]) ∧ w19 = w2) ∧
      (¬ (i < 0 ∨ M.n ≤ i) → ∃ k s, M.now[i.toNat]? = some s ∧ Ending.returned (.tuple #[.slice (subA (some ⟨k8, 0, none⟩) 0 64 1) 64 64, I64 0]) = .returned (.tuple #[.slice (some ⟨k, 0, none⟩) 64 64, I64 0]) ∧ w2.heap.size ≤ k ∧ Fr [] w2 w19 ∧ Blk w19 k (byteCells s))) := fun s k8 w19 h1 h2 h3 h4 =>
    ⟨fun h => absurd h hb, fun _ => ⟨k8, s, h1, by simp [subA, add0], h2, h3, h4⟩⟩
  have hz64 : (reps [Value.int .u8 0] 64).length = 64 := by rw [reps_length]; rfl
  have hz1 : ∀ x ∈ reps [Value.int .u8 0] 64, x.oneCell' = true := by rw [← zsec_cells]; exact byteCells_one _
  obtain ⟨s, hs⟩ : ∃ s, M.now[i.toNat]? = some s := ⟨_, List.getElem?_eq_getElem hnl⟩
  have hs64 := h.ok.w64 _ _ hs
  have hlen : (byteCells s).length = 64 := by rw [byteCells_length, hs64]
  have hbn : ∀ k8, w2.heap.size ≤ k8 → ∀ x ∈ [b, ms, mf], x ∉ [k8] := fun k8 hk x hx hm => by
    have := h.bs
    simp at hx hm
    rcases hx with rfl | rfl | rfl <;> omega
  refine ⟨_, hbk.cell 2, l2, g2, ?_⟩
  cases hfr : M.fresh[i.toNat]'hfl with
  | true =>
    have hfr : M.fresh[i.toNat]? = some true := by rw [List.getElem?_eq_getElem hfl, hfr]
    obtain ⟨s', hs', hlk⟩ := s2.1 _ hfr
    rw [hs] at hs'; injection hs' with hs'; subst hs'
    rw [hit] at hlk
    refine ⟨byteCells s, hlen, true, .inl ⟨rfl, hlk⟩, fun k8 w9 hst hblk => ⟨_, rfl, hlen, byteCells_one s, _, hblk, rfl, by rw [hlen, hz64]; decide, fun w16 hu y18 hy18 => ⟨fun h => by simp at h, fun _ => hy18 _ ⟨by decide, ?_⟩⟩⟩⟩
    have hk8 := (hst.new k8 (by simp)).1
    have hb16 := hu.blk
    rw [sets0 (by rw [hlen, hz64])] at hb16
    exact fin s k8 w16 hs hk8 (hst.fr.trans hu.fr fun x hx => .inr (by simp at hx; omega)) hb16
  | false =>
    have hfr : M.fresh[i.toNat]? = some false := by rw [List.getElem?_eq_getElem hfl, hfr]
    have hlk := s2.2.1 _ hfr
    rw [hit] at hlk
    refine ⟨reps [Value.int .u8 0] 64, hz64, false, .inr ⟨rfl, hlk, rfl⟩, fun k8 w9 hst hblk => ⟨_, rfl, hz64, hz1, _, hblk, rfl, by rw [hz64]; decide, fun w16 hu y18 hy18 => ⟨fun _ => ?_, fun h => by simp at h⟩⟩⟩
    have hk8 := (hst.new k8 (by simp)).1
    have hf16 : Fr [] w2 w16 := hst.fr.trans hu.fr fun x hx => .inr (by simp at hx; omega)
    have hb16 := hu.blk
    have hss : M.sure[i.toNat]? = some s := by rw [← h.ok.same _ hfr]; exact hs
    refine ⟨_, (hbk.fr hf16 (by simp)).cell 1, l1, g1.fr hf16 (by simp), byteCells s, hlen, ?_, _, rfl, hlen, byteCells_one s, _, hb16, rfl, by rw [sets0 (by rw [hz64]), hlen, hz64]; decide, fun w30 hu2 => hy18 _ ⟨by decide, ?_⟩⟩
    · rcases s1.1 _ _ hss with e | ⟨e, e2⟩
      · exact ⟨true, .inl ⟨rfl, by rw [← hit]; exact e⟩⟩
      · exact ⟨false, .inr ⟨rfl, by rw [← hit]; exact e, by rw [e2, zsec_cells]⟩⟩
    · have hb30 := hu2.blk
      rw [sets0 (xs := byteCells s) (by rw [sets0 (by rw [hz64]), hlen, hz64])] at hb30
      exact fin s k8 w30 hs hk8 (hf16.trans hu2.fr fun x hx => .inr (by simp at hx; omega)) hb30

/-- Arming. -/
def DM.arm (M : DM) (n : Int) : DM × Int := if n < 0 then (M, 1) else if M.dead then (M, 30) else ({ M with left := n }, 0)
theorem arm_c {w : World} {b ms mf : Nat} {M : DM} (h : DiskAt w b ms mf M) {n : Int} (hn : n < 9223372036854775808) : Calls prog 29 #[D b, I64 n] w fun e w' =>
    e = .returned (I64 (M.arm n).2) ∧ Fr [b] w w' ∧ DiskAt w' b ms mf (M.arm n).1 := by
  obtain ⟨lf, hbk, hl⟩ := h.blk
  obtain ⟨l1, g1, s1⟩ := h.sure
  obtain ⟨l2, g2, s2⟩ := h.fresh
  obtain ⟨n1, n2, _⟩ := h.bs
  have le {m n : Nat} (h : Nat.ble m n = true) : m ≤ n := Nat.le_of_ble_eq_true h
  have alive : ¬ n < 0 → ¬ M.dead → ∃ l4, Blk w b l4 ∧ Addr.spot ((⟨b, 0, none⟩ : Addr).add 4) = none ∧ ((⟨b, 0, none⟩ : Addr).add 4).off + 1 ≤ l4.length ∧ ∀ w5, Upd w w5 b (sets l4 4 [.bool true]) →
      ∃ l7, Blk w5 b l7 ∧ Addr.spot ((⟨b, 0, none⟩ : Addr).add 5) = none ∧ ((⟨b, 0, none⟩ : Addr).add 5).off + [I64 n].length ≤ l7.length ∧ ∀ w8, Upd w5 w8 b (sets l7 5 [I64 n]) →
        Ending.returned (I64 0) = .returned (I64 (M.arm n).2) ∧ Fr [b] w w8 ∧ DiskAt w8 b ms mf (M.arm n).1 := fun h0 hd => by
    have hM : M.arm n = ({ M with left := n }, 0) := by unfold DM.arm; rw [if_neg h0, if_neg hd]
    refine ⟨_, hbk, rfl, le rfl, fun w5 hu => ⟨_, hu.blk, rfl, le rfl, fun w8 hu2 => ?_⟩⟩
    rw [hM]
    have hf : Fr [b] w w8 := hu.fr.trans' hu2.fr
    refine ⟨rfl, hf, ⟨h.ok.lo, h.ok.hi, h.ok.now, h.ok.fre, h.ok.s64, h.ok.w64, h.ok.same, by show -1 ≤ n ∧ n < _; omega⟩, h.ne, ⟨n, ?_, fun _ => rfl⟩, ⟨l1, g1.fr hf (by simpa using n1), s1⟩, ⟨l2, g2.fr hf (by simpa using n2), s2⟩⟩
    have e : fields { M with left := n } ms mf n = [I64 M.n, .map (some ms), .map (some mf), I64 M.steps, .bool true, I64 n] := by
      show [_, _, _, _, Value.bool (decide (0 ≤ n)), _] = _
      have : decide (0 ≤ n) = true := decide_eq_true (by omega)
      rw [this]; rfl
    rw [e]
    exact hu2.blk
  refine disk_Disk_Arm.link ⟨fun h0 => ?_, fun h0 y hy => ⟨_, hbk.cell 4, fun ha => ⟨_, hbk.cell 5, hy _ _ ⟨fun h5 => ?_, fun h5 => alive (of_decide_eq_false h0) ?_⟩⟩, fun ha => hy _ _ ⟨fun h => Bool.noConfusion h, fun _ => alive (of_decide_eq_false h0) ?_⟩⟩⟩
  · have : M.arm n = (M, 1) := by unfold DM.arm; rw [if_pos (of_decide_eq_true h0)]
    rw [this]; exact ⟨rfl, Fr.refl _ _, h⟩
  · have ha : 0 ≤ M.left := of_decide_eq_true ha
    have h5 : lf = 0 := of_decide_eq_true h5
    have hd : M.dead := show M.left = 0 by have := hl ha; omega
    have : M.arm n = (M, 30) := by unfold DM.arm; rw [if_neg (of_decide_eq_false h0), if_pos hd]
    rw [this]; exact ⟨rfl, Fr.refl _ _, h⟩
  · have ha : 0 ≤ M.left := of_decide_eq_true ha
    have h5 : ¬ lf = 0 := of_decide_eq_false h5
    exact fun hd : M.left = 0 => h5 (by have := hl ha; omega)
  · have ha : ¬ 0 ≤ M.left := of_decide_eq_false ha
    exact fun hd : M.left = 0 => ha (by omega)

/-- A new one. -/
def DM.fresh0 (n : Nat) : DM := ⟨List.replicate n zsec, List.replicate n zsec, List.replicate n false, 0, -1⟩
theorem DM.fresh0_ok {n : Nat} (h1 : 1 ≤ n) (h2 : n ≤ 4096) : (DM.fresh0 n).Ok := by
  refine ⟨by simpa [DM.fresh0] using h1, by simpa [DM.fresh0] using h2, by simp [DM.fresh0], by simp [DM.fresh0], fun i s hs => ?_, fun i s hs => ?_, fun i hi => rfl, by simp [DM.fresh0]⟩
  · have hs := List.mem_of_getElem? hs
    obtain ⟨_, rfl⟩ := List.mem_replicate.1 hs
    exact zsec_size
  · have hs := List.mem_of_getElem? hs
    obtain ⟨_, rfl⟩ := List.mem_replicate.1 hs
    exact zsec_size
theorem new_c (w : World) (n : Int) : Calls prog 20 #[I64 n] w fun e w' =>
    (n < 1 ∨ 4096 < n → e = .returned (.tuple #[.pointer none, I64 1]) ∧ w' = w) ∧
    (¬ (n < 1 ∨ 4096 < n) → ∃ b ms mf, e = .returned (.tuple #[D b, I64 0]) ∧ (∀ x ∈ [b, ms, mf], w.heap.size ≤ x) ∧ Fr [] w w' ∧ DiskAt w' b ms mf (DM.fresh0 n.toNat)) := by
  have key : ∀ b2, (b2 = true ↔ n < 1 ∨ 4096 < n) → bcase b2 ((n < 1 ∨ 4096 < n → Ending.returned (.tuple #[.pointer none, I64 1]) = .returned (.tuple #[.pointer none, I64 1]) ∧ w = w) ∧ (¬ (n < 1 ∨ 4096 < n) → ∃ b ms mf, Ending.returned (.tuple #[.pointer none, I64 1]) = .returned (.tuple #[D b, I64 0]) ∧ (∀ x ∈ [b, ms, mf], w.heap.size ≤ x) ∧ Fr [] w w ∧ DiskAt w b ms mf (DM.fresh0 n.toNat)))
      (∀ (w4 : World) (k5 : Nat), Step w w4 [] [k5] → w4.heap[k5]? = some (Obj.map #[] 0) → ∀ (w8 : World) (k9 : Nat), Step w4 w8 [] [k9] → w8.heap[k9]? = some (Obj.map #[] 0) → ∀ (k12 : Nat) (w13 : World), Step w8 w13 [] [k12] →
        Blk w13 k12 [I64 n, .map (some k5), .map (some k9), I64 0, .bool false, I64 0] →
        ((n < 1 ∨ 4096 < n → Ending.returned (.tuple #[.pointer (some ⟨k12, 0, none⟩), I64 0]) = .returned (.tuple #[.pointer none, I64 1]) ∧ w13 = w) ∧ (¬ (n < 1 ∨ 4096 < n) → ∃ b ms mf, Ending.returned (.tuple #[.pointer (some ⟨k12, 0, none⟩), I64 0]) = .returned (.tuple #[D b, I64 0]) ∧ (∀ x ∈ [b, ms, mf], w.heap.size ≤ x) ∧ Fr [] w w13 ∧ DiskAt w13 b ms mf (DM.fresh0 n.toNat)))) := fun b2 hb2 =>
    ⟨fun h => ⟨fun _ => ⟨rfl, rfl⟩, fun hn => absurd (hb2.1 h) hn⟩, fun h w4 k5 s1 m1 w8 k9 s2 m2 k12 w13 s3 hb => by
      have hn : ¬ (n < 1 ∨ 4096 < n) := fun hc => by rw [hb2.2 hc] at h; cases h
      have a1 := s1.new k5 (by simp)
      have a2 := s2.new k9 (by simp)
      have a3 := s3.new k12 (by simp)
      have z1 := s1.size
      have z2 := s2.size
      have f13 : Fr [] w w13 := (s1.fr.trans' s2.fr).trans' s3.fr
      refine ⟨fun hc => absurd hc hn, fun _ => ⟨k12, k5, k9, rfl, fun x hx => ?_, f13, ?_⟩⟩
      · simp at hx; rcases hx with rfl | rfl | rfl <;> omega
      · have hnn : (n.toNat : Int) = n := by omega
        have g1 : MapG kenc w13 k5 [] := ((MapG.new (enc := kenc) m1).fr s2.fr (by simp)).fr s3.fr (by simp)
        have g2 : MapG kenc w13 k9 [] := (MapG.new (enc := kenc) m2).fr s3.fr (by simp)
        refine ⟨DM.fresh0_ok (by omega) (by omega), by omega, ⟨0, ?_, fun h => by simp [DM.fresh0] at h⟩, ⟨[], g1, fun i s hs => .inr ⟨rfl, ?_⟩, fun p hp => by cases hp⟩, ⟨[], g2, fun i hi => ?_, fun i hi => rfl, fun p hp => by cases hp⟩⟩
        · have e : fields (DM.fresh0 n.toNat) k5 k9 0 = [I64 n, .map (some k5), .map (some k9), I64 0, .bool false, I64 0] := by
            simp [fields, DM.fresh0, DM.n, hnn]
          rw [e]; exact hb
        · have hs := List.mem_of_getElem? hs
          exact (List.mem_replicate.1 hs).2
        · have hi := List.mem_of_getElem? hi
          have := (List.mem_replicate.1 hi).2
          cases this⟩
  refine disk_New.link fun y hy => ⟨fun h => hy _ _ (key true ?_), fun h => hy _ _ (key _ ?_)⟩
  · have := of_decide_eq_true h; simp [this]
  · have := of_decide_eq_false h; simp [this]

end Go.Proofs.Ytcaamecdhbgknaa.Disk

end
section
/- A map's keys, sorted; a map's copy, its clone: by the shelf's contracts and by the text. -/
namespace Go.Proofs
open Go.RowKit Go.Maps Go.Sort Go.Shelf
set_option linter.unusedVariables false
set_option linter.unusedSimpArgs false

theorem Try.sortsA (m : Nat) : AnyZI.SortsIn Try.prog Try.sortedA_ren Fence.wide m :=
  ⟨fun blk off cap ss W hH hblk hsz => callsIn_wide.2 (AnyM.slices_Sort_int Try.sortA blk off cap ss W hH hblk hsz),
   fun p cap W => callsIn_wide.2 (AnyM.slices_Sort_int_none Try.sortA p cap W)⟩

/-- A map that reads as a datum. -/
theorem Try.owns_of {w : World} {b : Nat} {l : List (Int × Value)} (h : V.MapG (Value.int .i64) w b l) (hk : ∀ p ∈ l, -9223372036854775808 ≤ p.1 ∧ p.1 ≤ 9223372036854775807) (hl : l.length ≤ 1048576) :
    ∃ D : DataW Unit, w.ownsMap Try.prog 3 (fun _ => some (.lit (.bool true), [])) b l.length D ∧ (intKeys D).Perm (l.map (·.1)) ∧ Maps.size D = l.length := by
  obtain ⟨es, clock, hb, he, hborn, hnd, hkeys⟩ := h
  have hlen : es.toList.length = l.length := by simpa using congrArg List.length he
  have hget : ∀ x ∈ es.toList, ∃ p ∈ l, x.key = Value.int .i64 p.1 := fun x hx => by
    have : (x.key, x.val) ∈ es.toList.map (fun e => (e.key, e.val)) := List.mem_map.2 ⟨x, hx, rfl⟩
    rw [he] at this
    obtain ⟨p, hp, e⟩ := List.mem_map.1 this
    injection e with e1 e2
    exact ⟨p, hp, e1.symm⟩
  have hu : Try.prog.underlying 3 = some (.int .i64) := by kernel_rfl
  have hrd : ∀ x ∈ es.toList, Go.WideElems.rd Try.prog 3 (fun _ => some ((.lit (.bool true) : DataW Unit), [])) x = some ((match x.key with | .int _ n => .int .i64 n | _ => .bool false), .lit (.bool true)) := fun x hx => by
    obtain ⟨p, hp, hkey⟩ := hget x hx
    have hw : (Lit.int .i64 p.1).wf = true := by
      have := hk p hp
      simp only [Lit.wf, Bool.and_eq_true, decide_eq_true_eq]
      exact this
    obtain ⟨xk, xv, xb⟩ := x
    simp only at hkey
    subst hkey
    have hkk : keyOf Try.prog 3 (.int .i64 p.1) = some (.int .i64 p.1) := by simp [keyOf, hu, mapKey, hw]
    exact Go.WideElems.rd_mk (R := fun _ => some ((.lit (.bool true) : DataW Unit), [])) hkk rfl
  have hrg : es.toList.map (Go.WideElems.rg Try.prog 3 (fun _ => some ((.lit (.bool true) : DataW Unit), []))) = l.map fun p => (Lit.int .i64 p.1, .lit (.bool true)) := by
    have e1 : es.toList.map (Go.WideElems.rg Try.prog 3 (fun _ => some ((.lit (.bool true) : DataW Unit), []))) = (es.toList.map (fun e => (e.key, e.val))).map fun kv => ((match kv.1 with | .int _ n => Lit.int .i64 n | _ => .bool false), (.lit (.bool true) : DataW Unit)) := by
      rw [List.map_map]
      refine List.map_congr_left fun x hx => ?_
      rw [Go.WideElems.rg_of (hrd x hx)]; rfl
    rw [e1, he, List.map_map]
    rfl
  refine ⟨.map ((es.toList.map (Go.WideElems.rg Try.prog 3 (fun _ => some (.lit (.bool true), [])))).foldr DataW.insert []), ⟨es, clock, hb, ⟨?_, ⟨hborn, hnd, ?_⟩, fun x hx => ⟨_, hrd x hx⟩⟩, by rw [← hlen]; simp, rfl⟩, ?_, ?_⟩
  · have : es.size = l.length := by simpa using hlen
    rw [this]; exact Nat.le_trans hl (by decide)
  · have e2 : es.toList.map (·.key) = (es.toList.map (fun e => (e.key, e.val))).map (·.1) := by rw [List.map_map]; rfl
    rw [e2, he, List.map_map]
    have e3 : ((fun x : Value × Value => x.1) ∘ fun p : Int × Value => (Value.int IntKind.i64 p.1, p.2)) = (Value.int IntKind.i64) ∘ (·.1) := rfl
    rw [e3, ← List.map_map]
    exact List.pairwise_map.2 (hkeys.imp fun hne e => hne (by injection e))
  · rw [hrg]
    have hp := WideShapes.sorted_perm (l.map fun p => (Lit.int .i64 p.1, (.lit (.bool true) : DataW Unit)))
    have := hp.map fun q => Go.intOf q.1
    refine this.trans ?_
    rw [List.map_map]
    exact .of_eq rfl
  · rw [hrg]
    have hp := WideShapes.sorted_perm (l.map fun p => (Lit.int .i64 p.1, (.lit (.bool true) : DataW Unit)))
    have := hp.length_eq
    rw [List.length_map] at this
    exact this

theorem Try.keysSorted {w : World} {b : Nat} {l : List (Int × Value)} (h : V.MapG (Value.int .i64) w b l) (hk : ∀ p ∈ l, -9223372036854775808 ≤ p.1 ∧ p.1 ≤ 9223372036854775807) (hl : l.length ≤ 1048576) :
    Calls Try.prog 58 #[.map (some b)] w fun e w1 => ∃ x, e = .returned x ∧ Calls Try.prog 57 #[x] w1 fun e w2 => ∃ (v : Value) (ss : List Int), e = .returned v ∧ ss.Perm (l.map (·.1)) ∧
      w2.ownsRow w.heap.size 3 1 v ss.length ((ss.mergeSort (fun x y => decide (x ≤ y))).map encZ) ∧ (v = .slice none 0 0 ↔ ss = []) ∧ Below w.heap.size w w2 := by
  obtain ⟨D0, hown, hperm, hsize⟩ := Try.owns_of h hk hl
  have hbl := hown.lt
  have cK : CallsIn Fence.wide 5 Try.prog 58 #[.map (some b)] w fun e w' => e = .returned (.func (.func 85) #[] #[.pointer (some ⟨w.heap.size, 0, none⟩)]) ∧ w' = w.alloc (.cells #[.map (some b)] 103) := AnyZI.keys_in Try.keysA Fence.wide 5 trivial rfl (some b) w
  refine (callsIn_wide.1 cK).mono ?_
  rintro e w1 ⟨rfl, rfl⟩
  refine ⟨_, rfl, ?_⟩
  have hseq : SeqGives Fence.wide 2 Try.prog 85 #[.pointer (some ⟨w.heap.size, 0, none⟩)] encZ (fun ss => ss.Perm (intKeys D0)) (Maps.size D0) (w.alloc (.cells #[.map (some b)] 103)) :=
    AnyZI.keys_gives (ρ := Try.keysA_ren) { Try.keysA with } Fence.wide _ trivial rfl (by omega) w.heap.size b l.length D0 _ (by simp) (by simp) (by
      obtain ⟨es, clock, hb, Ft, hs, hD⟩ := hown
      exact ⟨es, clock, (Below.heap_alloc _ _ b hbl).trans hb, Ft, hs, hD⟩)
  have hmax : Maps.size D0 ≤ maxLen := by rw [hsize]; exact Nat.le_trans hl (by decide)
  have hbytes : Maps.size D0 * 8 ≤ 140737488355328 := by rw [hsize]; omega
  have cS := AnyZI.sorted_in Try.sortedA Fence.wide 5 trivial trivial trivial trivial rfl (by omega) (Try.sortsA _) (enters_of Try.func84 (by kernel_rfl) rfl) 85 #[.pointer (some ⟨w.heap.size, 0, none⟩)] trivial (enters_of Try.func85 (by kernel_rfl) rfl) _ _ hmax hbytes _ hseq
  refine (callsIn_wide.1 cS).mono ?_
  rintro e w2 ⟨v, ss, rfl, hS, hrow, hnil, hB⟩
  exact ⟨v, ss, rfl, hS.trans hperm, ownsRow_base_a hrow (by simp), hnil, ((Below.refl _ w).alloc (Nat.le_refl _) _).trans (hB.mono (by simp))⟩
end Go.Proofs

end
section
/- A map's clone: by the shelf's contract. -/

end
section
/- The disk: what is not sure; copying a map; making all sure. -/
namespace Go.Proofs.Ytcaamecdhbgknaa.Disk
open Go Go.V
open Go.Proofs.Ytcaamecdhbgknaa.VC
open Go.Proofs.Try (prog)
set_option linter.unusedVariables false
set_option linter.unusedSimpArgs false
set_option maxRecDepth 20000

def DM.unsure (M : DM) : List Int := ((List.range M.sure.length).filter fun i => decide (M.fresh[i]? = some true)).map Int.ofNat

theorem DM.unsure_sorted (M : DM) : M.unsure.Pairwise (fun a b => a < b) := by
  unfold DM.unsure
  refine List.pairwise_map.2 ?_
  refine (List.pairwise_lt_range.filter _).imp fun h => ?_
  exact Int.ofNat_lt.2 h
theorem DM.mem_unsure {M : DM} {k : Int} : k ∈ M.unsure ↔ ∃ i : Nat, k = i ∧ i < M.sure.length ∧ M.fresh[i]? = some true := by
  unfold DM.unsure
  simp only [List.mem_map, List.mem_filter, List.mem_range, decide_eq_true_eq]
  constructor
  · rintro ⟨i, ⟨h1, h2⟩, rfl⟩; exact ⟨i, rfl, h1, h2⟩
  · rintro ⟨i, rfl, h1, h2⟩; exact ⟨i, ⟨h1, h2⟩, rfl⟩

theorem FreshL.keys {M : DM} (hok : M.Ok) {l : List (Int × Value)} (h : FreshL M l) (hn : (l.map (·.1)).Nodup) : (l.map (·.1)).Perm M.unsure := by
  refine (List.perm_ext_iff_of_nodup hn (M.unsure_sorted.imp fun h => by omega)).2 fun k => ?_
  rw [DM.mem_unsure]
  constructor
  · intro hk
    obtain ⟨p, hp, rfl⟩ := List.mem_map.1 hk
    obtain ⟨h1, h2⟩ := h.2.2 p hp
    have hlt : p.1.toNat < M.sure.length := by have : p.1 < (M.sure.length : Int) := h2; omega
    have hfl : p.1.toNat < M.fresh.length := by rw [hok.fre]; exact hlt
    refine ⟨p.1.toNat, by omega, hlt, ?_⟩
    rw [List.getElem?_eq_getElem hfl]
    cases e : M.fresh[p.1.toNat] with
    | true => rfl
    | false =>
      exfalso
      have := h.2.1 p.1.toNat (by rw [List.getElem?_eq_getElem hfl, e])
      rw [show ((p.1.toNat : Nat) : Int) = p.1 by omega, look_of_mem hn hp] at this
      cases this
  · rintro ⟨i, rfl, h1, h2⟩
    obtain ⟨s, hs, hl⟩ := h.1 i h2
    exact List.mem_map.2 ⟨_, look_mem hl, rfl⟩

theorem sorted_eq {ss us : List Int} (h : ss.Perm us) (hu : us.Pairwise (fun a b => a < b)) : ss.mergeSort (fun x y => decide (x ≤ y)) = us := by
  have tr : ∀ a b c : Int, decide (a ≤ b) = true → decide (b ≤ c) = true → decide (a ≤ c) = true := fun a b c h1 h2 => by simp only [decide_eq_true_eq] at *; omega
  have to : ∀ a b : Int, (decide (a ≤ b) || decide (b ≤ a)) = true := fun a b => by simp only [Bool.or_eq_true, decide_eq_true_eq]; omega
  refine List.Perm.eq_of_pairwise (le := fun a b => decide (a ≤ b) = true) (fun a b _ _ h1 h2 => ?_) (List.pairwise_mergeSort tr to ss) (hu.imp fun h => by simp only [decide_eq_true_eq]; omega) ((List.mergeSort_perm ss _).trans h)
  simp only [decide_eq_true_eq] at h1 h2
  omega

theorem DM.unsure_len {M : DM} : M.unsure.length ≤ M.sure.length := by
  unfold DM.unsure
  rw [List.length_map]
  exact Nat.le_trans (List.length_filter_le _ _) (by simp)

theorem unsure_c {w : World} {b ms mf : Nat} {M : DM} (h : DiskAt w b ms mf M) : Calls prog 26 #[D b] w fun e w' =>
    ∃ p c, e = .returned (.slice p M.unsure.length c) ∧ Fr [] w w' ∧ Row w' p (M.unsure.map I64) ∧ (∀ ad, p = some ad → w.heap.size ≤ ad.block) := by
  obtain ⟨lf, hbk, hl⟩ := h.blk
  obtain ⟨l2, g2, s2⟩ := h.fresh
  have hkeys := s2.keys h.ok g2.nodup
  have hhi := h.ok.hi
  have hlen : l2.length ≤ 1048576 := by
    have := hkeys.length_eq
    rw [List.length_map] at this
    have := M.unsure_len
    omega
  refine disk_Disk_Unsure.link ⟨_, hbk.cell 2, ?_⟩
  refine (Go.Proofs.Try.keysSorted g2 (fun p hp => ?_) hlen).mono ?_
  · obtain ⟨h1, h2⟩ := s2.2.2 p hp
    have h2 : p.1 < (M.sure.length : Int) := h2
    omega
  rintro e w1 ⟨x, rfl, hc⟩
  refine ⟨x, rfl, hc.mono ?_⟩
  rintro e w2 ⟨v, ss, rfl, hperm, hrow, hnil, hB⟩
  have hp := hperm.trans hkeys
  have hss := sorted_eq hp M.unsure_sorted
  have hsl : ss.length = M.unsure.length := hp.length_eq
  obtain ⟨hr1, hr2⟩ := hrow
  rcases hr2 with ⟨rfl, hz⟩ | ⟨g, cap, cur, rfl, hbase, hg, r1, r2, r3, r4⟩
  · have hn0 : M.unsure = [] := List.length_eq_zero_iff.1 (by omega)
    refine ⟨none, 0, 0, rfl, none, 0, by rw [hn0]; rfl, Fr.of_below hB, by rw [hn0]; exact Row.nil _ _, fun ad h => by cases h⟩
  · refine ⟨_, _, _, rfl, _, cap, by rw [hsl], Fr.of_below hB, ?_, fun ad h => by injection h with h; subst h; exact hbase⟩
    have hr4 : M.unsure.map I64 = (ss.mergeSort (fun x y => decide (x ≤ y))).map I64 := by rw [hss]
    rw [hr4]
    refine Row.of_blk (off := 0) (cs := cur.toList) ⟨3, 0, 0, by simpa using hg, .inl (Nat.le_refl _)⟩ (fun j u hj => ?_) (fun u hu => by obtain ⟨n, _, rfl⟩ := List.mem_map.1 hu; rfl)
    have hj' : (cur.toList.take (ss.length * 1))[j]? = some u := by rw [r4]; exact hj
    rw [Nat.zero_add]
    rw [List.getElem?_take] at hj'
    split at hj'
    · exact hj'
    · cases hj'

end Go.Proofs.Ytcaamecdhbgknaa.Disk

end
section
/- Copying a map into another; making all sure. -/
namespace Go.Proofs.Ytcaamecdhbgknaa.Disk
open Go Go.V
open Go.Proofs.Ytcaamecdhbgknaa.VC
open Go.Proofs.Try (prog)
set_option linter.unusedVariables false
set_option linter.unusedSimpArgs false
set_option maxRecDepth 20000

theorem isT_sec {s : ByteArray} (h : s.size = 64) : IsT prog 107 (sec s) := by
  have e : IsT prog 107 (sec s) = ∃ l : List Value, l.length = 64 ∧ Value.agg l.toArray = sec s := by kernel_rfl
  rw [e]
  exact ⟨byteCells s, by rw [byteCells_length, h], rfl⟩

/-- All values are sectors. -/
def Secs (l : List (Int × Value)) : Prop := ∀ p ∈ l, ∃ s : ByteArray, s.size = 64 ∧ p.2 = sec s

/-- What a map holds once another was copied over it. -/
def Over (l1 l2 l : List (Int × Value)) : Prop := (∀ k, V.look l k = match V.look l2 k with | some x => some x | none => V.look l1 k) ∧ ∀ p ∈ l, p ∈ l1 ∨ p ∈ l2

theorem copy_c {w : World} {ms mf : Nat} {l1 l2 : List (Int × Value)} (h1 : MapG kenc w ms l1) (h2 : MapG kenc w mf l2) (hne : ms ≠ mf) (hs : Secs l2) :
    Calls prog 59 #[.map (some ms), .map (some mf)] w fun e w' => e = .returned (.tuple #[]) ∧ Fr [ms] w w' ∧ ∃ l, MapG kenc w' ms l ∧ Over l1 l2 l := by
  have hms := h1.lt
  have hmf := h2.lt
  refine maps_Copy_g.link ⟨l2, h2, fun w2 k3 st hit => ?_⟩
  have hk3 := (st.new k3 (by simp)).1
  have hsz2 := st.size
  let I : Nat → World → Prop := fun n w' => ∃ done l, n = rest l2 done ∧ IterO kenc w' k3 (some mf) l2 done ∧ MapG kenc w' ms l ∧ Fr [ms] w w' ∧ w2.heap.size ≤ w'.heap.size ∧
    (∀ k, V.look l k = if k ∈ done then V.look l2 k else V.look l1 k) ∧ (∀ p ∈ l, p ∈ l1 ∨ p ∈ l2) ∧ ∀ k ∈ done, V.look l2 k ≠ none
  refine ⟨I, rest l2 [], ⟨[], l1, rfl, hit, h1.fr st.fr (by simp), st.fr.mono (fun x hx => by cases hx), Nat.le_refl _, fun k => by simp, fun p hp => .inl hp, fun k hk => by cases hk⟩, fun n w9 hI => ?_⟩
  obtain ⟨done, l, rfl, it, hm, hf, hsz, hl, hin, hdn⟩ := hI
  refine ⟨some mf, l2, done, it, fun p hp => ?_, fun k x hx hmem hnd w21 is it21 hcur => ⟨fun _ => ?_, fun h => by cases h⟩, fun hall w48 is it48 => ⟨(fun h => by cases h), fun _ => ?_⟩⟩
  · obtain ⟨s, h64, e⟩ := hs p hp
    rw [e]; exact isT_sec h64
  · obtain ⟨s, h64, e⟩ := hs _ hmem
    have e : Value.agg x.toArray = sec s := e
    have ex : x = byteCells s := by
      injection e with e
      simpa using congrArg Array.toList e
    subst ex
    have hz64 : (reps [Value.int .u8 0] 64).length = 64 := by rw [reps_length]; rfl
    have hc64 : (byteCells s).length = 64 := hx
    refine ⟨k, byteCells s, hx, hcur, fun k27 w28 st28 hb28 => ⟨byteCells s, rfl, hx, byteCells_one s, _, hb28, rfl, by rw [hc64, hz64]; decide, fun w35 hu => ⟨byteCells s, hx, fun k' hk' => ?_, ms, l, rfl, ?_, fun w42 hmu => ?_⟩⟩⟩
    · have hb := hu.blk
      rw [sets0 (by rw [hc64, hz64])] at hb
      show w35.cell? ((⟨k27, 0, none⟩ : Addr).add k') = _
      rw [add_mk, hb.cell, Nat.zero_add]
    · have hk27 := (st28.new k27 (by simp)).1
      have z9 := is.size
      refine ((hm.fr is.fr (by simp; omega)).fr st28.fr (by simp)).fr hu.fr ?_
      have := hm.lt
      simp; omega
    · have hk27 := (st28.new k27 (by simp)).1
      have z9 := is.size
      have z28 := st28.size
      have z35 := hu.size
      have z42 := hmu.size
      have hmlt := hm.lt
      have f28 : Fr [k3] w9 w28 := is.fr.trans st28.fr (fun x hx => by cases hx)
      have f35 : Fr [k3] w9 w35 := f28.trans hu.fr (fun x hx => .inr (by simp at hx; omega))
      have f42 : Fr [k3, ms] w9 w42 := (f35.mono (fun x hx => .inl (by simp at hx; simp [hx]))).trans hmu.fr (fun x hx => .inl (by simp at hx; simp [hx]))
      refine ⟨rest l2 (k :: done), rest_lt hmem hnd, k :: done, _, rfl, ?_, hmu.map, ?_, by omega, fun k' => ?_, fun p hp => ?_, fun k' hk' => ?_⟩
      · have it35 : IterO kenc w35 k3 (some mf) l2 (k :: done) := (it21.fr st28.fr (by simp) (fun b hb => by simp)).fr hu.fr (by
          have : k3 < w28.heap.size := by
            have := (st.new k3 (by simp)).2
            omega
          have : k3 < w9.heap.size := by
            have := (st.new k3 (by simp)).2
            omega
          simp; omega) (fun b hb => by injection hb with hb; subst hb; have := hf.size; simp; omega)
        exact it35.fr hmu.fr (by simp; omega) (fun b hb => by injection hb with hb; subst hb; simpa using hne.symm)
      · exact hf.trans f42 (fun x hx => by
          simp at hx
          rcases hx with rfl | rfl
          · exact .inr hk3
          · exact .inl (by simp))
      · rw [look_updM, hl k']
        by_cases hk : k' = k
        · subst hk
          rw [if_pos rfl, if_pos List.mem_cons_self]
          exact (look_of_mem h2.nodup hmem).symm
        · rw [if_neg hk]
          by_cases hd : k' ∈ done
          · rw [if_pos hd, if_pos (List.mem_cons_of_mem _ hd)]
          · rw [if_neg hd, if_neg (fun h => by rcases List.mem_cons.1 h with h | h; exact hk h; exact hd h)]
      · rcases mem_updM hp with rfl | hp
        · exact .inr hmem
        · exact hin p hp
      · rcases List.mem_cons.1 hk' with rfl | hk'
        · rw [look_of_mem h2.nodup hmem]; intro h; cases h
        · exact hdn k' hk'
  · have hmlt := hm.lt
    refine ⟨rfl, hf.trans is.fr (fun x hx => .inr (by simp at hx; omega)), l, hm.fr is.fr (by simp; omega), fun k => ?_, hin⟩
    rw [hl k]
    cases e : V.look l2 k with
    | none => rw [if_neg (fun h => hdn k h e)]
    | some x =>
      have : k ∈ done := hall _ (look_mem e)
      rw [if_pos this]

/-- All is sure. -/
def DM.flushed (M : DM) : DM := { M.stepped with sure := M.now, fresh := List.replicate M.sure.length false }
def DM.flush (M : DM) : DM × Int := if M.dead then (M, 30) else (M.flushed, 0)
theorem DM.Ok.flushed {M : DM} (h : M.Ok) : M.flushed.Ok := by
  refine ⟨by show 1 ≤ M.now.length; rw [h.now]; exact h.lo, by show M.now.length ≤ _; rw [h.now]; exact h.hi, rfl, by show (List.replicate _ _).length = M.now.length; rw [h.now, List.length_replicate], h.w64, h.w64, fun i _ => rfl, h.stepped.lft⟩

theorem FreshL.secs {M : DM} (hok : M.Ok) {l : List (Int × Value)} (h : FreshL M l) (hn : (l.map (·.1)).Nodup) : Secs l := fun p hp => by
  have hmem : p.1 ∈ M.unsure := (h.keys hok hn).mem_iff.1 (List.mem_map.2 ⟨p, hp, rfl⟩)
  obtain ⟨i, hi, h1, h2⟩ := DM.mem_unsure.1 hmem
  obtain ⟨s, hs, hl⟩ := h.1 i h2
  refine ⟨s, hok.w64 i s hs, ?_⟩
  have := look_of_mem hn (show (p.1, p.2) ∈ l from hp)
  rw [hi, hl] at this
  injection this with this
  exact this.symm

theorem flush_c {w : World} {b ms mf : Nat} {M : DM} (h : DiskAt w b ms mf M) : Calls prog 27 #[D b] w fun e w' =>
    e = .returned (I64 M.flush.2) ∧ Fr [b, ms, mf] w w' ∧ DiskAt w' b ms mf M.flush.1 := by
  refine disk_Disk_Flush.link ((step_c h).mono ?_)
  rintro e w2 ⟨hdead, hlive⟩
  by_cases hdd : M.dead
  · obtain ⟨rfl, rfl⟩ := hdead hdd
    have : M.flush = (M, 30) := by unfold DM.flush; rw [if_pos hdd]
    refine ⟨_, rfl, fun y hy => ⟨fun h => by simp at h, fun _ => hy _ ?_⟩⟩
    rw [this]; exact ⟨rfl, Fr.refl _ _, h⟩
  · obtain ⟨rfl, hf, hD⟩ := hlive hdd
    have hM : M.flush = (M.flushed, 0) := by unfold DM.flush; rw [if_neg hdd]
    refine ⟨_, rfl, fun y hy => ⟨fun _ => ?_, fun h => by simp at h⟩⟩
    obtain ⟨lf, hbk, hl⟩ := hD.blk
    obtain ⟨l1, g1, s1⟩ := hD.sure
    obtain ⟨l2, g2, s2⟩ := hD.fresh
    obtain ⟨n1, n2, _⟩ := h.bs
    refine ⟨_, hbk.cell 1, _, hbk.cell 2, fun w10 st => ?_⟩
    refine (copy_c (g1.fr st.fr (by simp)) (g2.fr st.fr (by simp)) h.ne (s2.secs hD.ok g2.nodup)).mono ?_
    rintro e w13 ⟨rfl, hf13, l, hm, hov⟩
    have hb13 := (hbk.fr st.fr (by simp)).fr hf13 (by simpa using n1.symm)
    refine ⟨rfl, _, hb13.cell 2, mf, l2, rfl, (g2.fr st.fr (by simp)).fr hf13 (by simpa using h.ne.symm), fun w17 hmu => hy _ ?_⟩
    rw [hM]
    have f10 : Fr [b] w w10 := hf.trans st.fr (fun x hx => by cases hx)
    have f13 : Fr [b, ms, mf] w w13 := (f10.mono (G := [b, ms, mf]) (fun x hx => .inl (by simp at hx; simp [hx]))).trans hf13 (fun x hx => .inl (by simp at hx; simp [hx]))
    have f17 : Fr [b, ms, mf] w w17 := f13.trans hmu.fr (fun x hx => .inl (by simp at hx; simp [hx]))
    refine ⟨rfl, f17, h.ok.flushed, h.ne, ⟨lf, ?_, hl⟩, ⟨l, hm.fr hmu.fr (by simpa using h.ne), ?_⟩, ⟨[], hmu.map, ?_⟩⟩
    · have e : fields M.flushed ms mf lf = fields M.stepped ms mf lf := by
        have : M.flushed.n = M.stepped.n := by show (M.now.length : Int) = (M.sure.length : Int); rw [h.ok.now]
        show [I64 M.flushed.n, _, _, _, _, _] = _
        rw [this]; rfl
      rw [e]
      exact hb13.fr hmu.fr (by simpa using n2.symm)
    · refine ⟨fun i s hi => ?_, fun p hp => ?_⟩
      · have hi : M.now[i]? = some s := hi
        have hlt : i < M.now.length := (List.getElem?_eq_some_iff.1 hi).1
        have hfl : i < M.fresh.length := by rw [h.ok.fre, ← h.ok.now]; exact hlt
        rw [hov.1 (i : Int)]
        cases e : M.fresh[i] with
        | true =>
          obtain ⟨t, ht, hlk⟩ := s2.1 i (by show M.fresh[i]? = _; rw [List.getElem?_eq_getElem hfl, e])
          have ht : M.now[i]? = some t := ht
          rw [hi] at ht; injection ht with ht; subst ht
          rw [hlk]; exact .inl rfl
        | false =>
          have hfr : M.fresh[i]? = some false := by rw [List.getElem?_eq_getElem hfl, e]
          rw [s2.2.1 i hfr]
          exact s1.1 i s (by show M.sure[i]? = _; rw [← h.ok.same i hfr]; exact hi)
      · have hn : M.flushed.n = M.stepped.n := by show (M.now.length : Int) = (M.sure.length : Int); rw [h.ok.now]
        rw [hn]
        rcases hov.2 p hp with hp | hp
        · exact s1.2 p hp
        · exact s2.2.2 p hp
    · refine ⟨fun i hi => ?_, fun i hi => rfl, fun p hp => by cases hp⟩
      have hi := List.mem_of_getElem? hi
      have := (List.mem_replicate.1 hi).2
      cases this

end Go.Proofs.Ytcaamecdhbgknaa.Disk

end
section
/- The disk: what a crash leaves. -/
namespace Go.Proofs.Ytcaamecdhbgknaa.Disk
open Go Go.V
open Go.Proofs.Ytcaamecdhbgknaa.VC
open Go.Proofs.Try (prog)
set_option linter.unusedVariables false
set_option linter.unusedSimpArgs false
set_option maxRecDepth 20000

theorem clone_c {w : World} {m : Nat} {l : List (Int × Value)} (h : MapG kenc w m l) : Calls prog 60 #[.map (some m)] w fun e w' => ∃ k, e = .returned (.map (some k)) ∧ w.heap.size ≤ k ∧ Fr [] w w' ∧ MapG kenc w' k l := by
  obtain ⟨es, clock, hb, hr⟩ := h
  refine (AnyW.maps_Clone Go.Proofs.Try.cloneM m es clock w hb).mono ?_
  rintro e w' ⟨rfl, rfl⟩
  obtain ⟨g1, g2, g3, g4, g5, g6⟩ := alloc_facts w (.map es clock)
  exact ⟨_, rfl, Nat.le_refl _, ⟨g1, g2, g3, by omega, fun b hb _ => g5 b hb⟩, es, clock, g6, hr⟩

/-- Of how many unsure ones a sector is. -/
def DM.rank (M : DM) (i : Nat) : Nat := ((List.range i).filter fun j => decide (M.fresh[j]? = some true)).length
theorem filter_range_get (p : Nat → Bool) {i n : Nat} (h : i < n) (hp : p i = true) : ((List.range n).filter p)[((List.range i).filter p).length]? = some i := by
  obtain ⟨m, rfl⟩ : ∃ m, n = i + (m + 1) := ⟨n - i - 1, by omega⟩
  rw [List.range_add, List.filter_append, List.getElem?_append_right (Nat.le_refl _), Nat.sub_self, List.range_succ_eq_map, List.map_cons, List.filter_cons]
  simp [hp]
theorem DM.unsure_rank {M : DM} {i : Nat} (hi : i < M.sure.length) (h : M.fresh[i]? = some true) : M.unsure[M.rank i]? = some (i : Int) := by
  unfold DM.unsure DM.rank
  rw [List.getElem?_map, filter_range_get (fun j => decide (M.fresh[j]? = some true)) hi (by simp [h])]
  rfl
theorem DM.unsure_get {M : DM} {k : Nat} {u : Int} (h : M.unsure[k]? = some u) : ∃ i : Nat, u = i ∧ i < M.sure.length ∧ M.fresh[i]? = some true ∧ M.rank i = k := by
  obtain ⟨i, hu, hi, hf⟩ := DM.mem_unsure.1 (List.mem_of_getElem? h)
  refine ⟨i, hu, hi, hf, ?_⟩
  have h2 := DM.unsure_rank hi hf
  have hn : M.unsure.Nodup := M.unsure_sorted.imp fun h => by omega
  have h1 : k < M.unsure.length := (List.getElem?_eq_some_iff.1 h).1
  have h3 : M.rank i < M.unsure.length := (List.getElem?_eq_some_iff.1 h2).1
  have e1 := (List.getElem?_eq_some_iff.1 h).2
  have e2 := (List.getElem?_eq_some_iff.1 h2).2
  exact (List.getElem_inj hn).1 (by rw [e1, e2, hu])

def tear (c : Nat) (x y : ByteArray) : ByteArray := ⟨(x.data.toList.take c ++ y.data.toList.drop c).toArray⟩
theorem tear_cells (c : Nat) (x y : ByteArray) : byteCells (tear c x y) = (byteCells x).take c ++ (byteCells y).drop c := by
  simp [byteCells, tear, List.map_take, List.map_drop]
def clamp (c : Int) : Nat := if c < 0 then 0 else if 64 < c then 64 else c.toNat
def DM.nowAt (M : DM) (i : Nat) : ByteArray := M.now.getD i zsec
def DM.sureAt (M : DM) (i : Nat) : ByteArray := M.sure.getD i zsec
def DM.pick (M : DM) (keep : List Bool) (torn cut : Int) (k i : Nat) : ByteArray :=
  if keep[k]? = some true then M.nowAt i else if (k : Int) = torn then tear (clamp cut) (M.nowAt i) (M.sureAt i) else M.sureAt i
/-- A sector behind the first n rounds. -/
def DM.left1 (M : DM) (keep : List Bool) (torn cut : Int) (n i : Nat) : ByteArray :=
  if M.fresh[i]? = some true ∧ M.rank i < n then M.pick keep torn cut (M.rank i) i else M.sureAt i
theorem DM.left1_ne {M : DM} {keep : List Bool} {torn cut : Int} {k i j : Nat} (hu : M.unsure[k]? = some (i : Int)) (hj : j < M.sure.length) (hne : j ≠ i) : M.left1 keep torn cut (k + 1) j = M.left1 keep torn cut k j := by
  unfold DM.left1
  by_cases hf : M.fresh[j]? = some true
  · have hr : M.rank j ≠ k := fun hr => by
      have := DM.unsure_rank hj hf
      rw [hr, hu] at this
      injection this with this
      exact hne (by omega)
    have : (M.fresh[j]? = some true ∧ M.rank j < k + 1) ↔ (M.fresh[j]? = some true ∧ M.rank j < k) := ⟨fun hc => ⟨hc.1, by have := hc.2; omega⟩, fun hc => ⟨hc.1, by have := hc.2; omega⟩⟩
    simp only [this]
  · simp [hf]
theorem DM.left1_eq {M : DM} {keep : List Bool} {torn cut : Int} {k i : Nat} (hf : M.fresh[i]? = some true) (hr : M.rank i = k) : M.left1 keep torn cut (k + 1) i = M.pick keep torn cut k i ∧ M.left1 keep torn cut k i = M.sureAt i := by
  unfold DM.left1
  constructor
  · rw [if_pos ⟨hf, by omega⟩, hr]
  · rw [if_neg (fun hc => by have := hc.2; omega)]
def DM.crash (M : DM) (keep : List Bool) (torn cut : Int) : DM :=
  let S := (List.range M.sure.length).map fun i => if M.fresh[i]? = some true then M.pick keep torn cut (M.rank i) i else M.sureAt i
  ⟨S, S, List.replicate M.sure.length false, 0, -1⟩

theorem DM.crash_at (M : DM) (keep : List Bool) (torn cut : Int) {i : Nat} (hi : i < M.sure.length) : (M.crash keep torn cut).sureAt i = if M.fresh[i]? = some true then M.pick keep torn cut (M.rank i) i else M.sureAt i := by
  show ((List.range M.sure.length).map fun i => if M.fresh[i]? = some true then M.pick keep torn cut (M.rank i) i else M.sureAt i).getD i zsec = _
  rw [List.getD_eq_getElem?_getD, List.getElem?_map, List.getElem?_range hi]
  rfl
theorem DM.Ok.nowAt {M : DM} (h : M.Ok) {i : Nat} (hi : i < M.sure.length) : M.now[i]? = some (M.nowAt i) ∧ (M.nowAt i).size = 64 := by
  have e : M.now[i]? = some (M.nowAt i) := by
    unfold DM.nowAt
    rw [List.getD_eq_getElem?_getD, List.getElem?_eq_getElem (by rw [h.now]; exact hi)]; rfl
  exact ⟨e, h.w64 _ _ e⟩
theorem DM.Ok.sureAt {M : DM} (h : M.Ok) {i : Nat} (hi : i < M.sure.length) : M.sure[i]? = some (M.sureAt i) ∧ (M.sureAt i).size = 64 := by
  have e : M.sure[i]? = some (M.sureAt i) := by
    unfold DM.sureAt
    rw [List.getD_eq_getElem?_getD, List.getElem?_eq_getElem hi]; rfl
  exact ⟨e, h.s64 _ _ e⟩
theorem tear_size {c : Nat} {x y : ByteArray} (hx : x.size = 64) (hy : y.size = 64) (hc : c ≤ 64) : (tear c x y).size = 64 := by
  rw [← byteCells_length, tear_cells, List.length_append, List.length_take, List.length_drop, byteCells_length, byteCells_length]
  omega
theorem clamp_le (c : Int) : clamp c ≤ 64 := by unfold clamp; split <;> (try split) <;> omega
theorem DM.Ok.pick {M : DM} (h : M.Ok) {keep : List Bool} {torn cut : Int} {k i : Nat} (hi : i < M.sure.length) : (M.pick keep torn cut k i).size = 64 := by
  unfold DM.pick
  split
  · exact (h.nowAt hi).2
  · split
    · exact tear_size (h.nowAt hi).2 (h.sureAt hi).2 (clamp_le _)
    · exact (h.sureAt hi).2
theorem DM.Ok.crash {M : DM} (h : M.Ok) (keep : List Bool) (torn cut : Int) : (M.crash keep torn cut).Ok := by
  have hl : (M.crash keep torn cut).sure.length = M.sure.length := by simp [DM.crash]
  have hs : ∀ (i : Nat) (s : ByteArray), (M.crash keep torn cut).sure[i]? = some s → s.size = 64 := fun i s hs => by
    have hi : i < M.sure.length := by
      have := (List.getElem?_eq_some_iff.1 hs).1
      omega
    simp only [DM.crash, List.getElem?_map, List.getElem?_range hi, Option.map_some, Option.some.injEq] at hs
    subst hs
    split
    · exact h.pick hi
    · exact (h.sureAt hi).2
  exact ⟨by rw [hl]; exact h.lo, by rw [hl]; exact h.hi, rfl, by rw [hl]; simp [DM.crash], hs, hs, fun i _ => rfl, by simp [DM.crash]⟩

/-- A map's sector. -/
def Holds (l : List (Int × Value)) (i : Nat) (s : ByteArray) : Prop := V.look l (i : Int) = some (sec s) ∨ (V.look l (i : Int) = none ∧ s = zsec)
theorem Holds.rel {l : List (Int × Value)} {i : Nat} {s : ByteArray} (h : Holds l i s) : ∃ b, LookRel l (i : Int) (.agg (reps [Value.int .u8 0] 64).toArray) (.agg (byteCells s).toArray) b := by
  rcases h with e | ⟨e, e2⟩
  · exact ⟨true, .inl ⟨rfl, e⟩⟩
  · exact ⟨false, .inr ⟨rfl, e, by rw [e2, zsec_cells]⟩⟩

theorem clamp_eq (cut : Int) : Int.toNat (if 64 < (if 0 > cut then 0 else cut) then 64 else if 0 > cut then 0 else cut) = clamp cut := by
  unfold clamp
  by_cases h : cut < 0
  · rw [if_pos h, if_pos (show 0 > cut from h)]; rfl
  · rw [if_neg h, if_neg (show ¬ 0 > cut from h)]
    split <;> rfl

end Go.Proofs.Ytcaamecdhbgknaa.Disk

end
section
/- The disk: a crash. -/
namespace Go.Proofs.Ytcaamecdhbgknaa.Disk
open Go Go.V
open Go.Proofs.Ytcaamecdhbgknaa.VC
open Go.Proofs.Try (prog)
set_option linter.unusedVariables false
set_option linter.unusedSimpArgs false
set_option maxRecDepth 20000

/-- A big row's store. -/
theorem store_big {w : World} {k : Nat} {cs xs : List Value} {Q : World → Prop} (hb : Blk w k cs) (hx : xs.length = 64) (hc : cs.length = 64) (h1 : ∀ x ∈ xs, x.oneCell' = true) (h : ∀ w', Upd w w' k xs → Q w') :
    ∃ l : List Value, Value.agg xs.toArray = .agg l.toArray ∧ l.length = 64 ∧ (∀ x ∈ l, x.oneCell' = true) ∧ ∃ l2 : List Value, Blk w k l2 ∧ Addr.spot ⟨0, 0, none⟩ = none ∧ 0 + l.length ≤ l2.length ∧ ∀ w', Upd w w' k (sets l2 0 l) → Q w' :=
  ⟨xs, rfl, hx, h1, cs, hb, rfl, by omega, fun w' hu => h w' (by rw [sets0 (by omega)] at hu; exact hu)⟩

theorem crash_c {w : World} {b ms mf : Nat} {M : DM} (h : DiskAt w b ms mf M) {keepA : Option Addr} {keepC : Nat} {keep : List Bool} (hkeep : Row w keepA (keep.map .bool)) (torn cut : Int) :
    Calls prog 28 #[D b, .slice keepA keep.length keepC, I64 torn, I64 cut] w fun e w' => ∃ b' ms' mf', e = .returned (D b') ∧ (∀ x ∈ [b', ms', mf'], w.heap.size ≤ x) ∧ Fr [] w w' ∧ DiskAt w' b' ms' mf' (M.crash keep torn cut) := by
  obtain ⟨lf, hbk, hl⟩ := h.blk
  obtain ⟨l1, g1, s1⟩ := h.sure
  obtain ⟨l2, g2, s2⟩ := h.fresh
  obtain ⟨hb1, hb2, hblt, hmslt, hmflt⟩ := h.bs
  have hz64 : (reps [Value.int .u8 0] 64).length = 64 := by rw [reps_length]; rfl
  have hhi := h.ok.hi
  have hul := M.unsure_len
  refine disk_Disk_Crash.link fun y1 hy1 => ?_
  -- the new disk is made
  have start : ∀ (kc kf ko : Nat) (w3 : World), w.heap.size ≤ kc → w.heap.size ≤ kf → w.heap.size ≤ ko → kc ≠ kf → kc ≠ ko → kf ≠ ko → Fr [] w w3 → MapG kenc w3 kc l1 → MapG kenc w3 kf [] → Blk w3 ko [I64 M.n, .map (some kc), .map (some kf), I64 0, .bool false, I64 0] → y1 ⟨ko, 0, none⟩ w3 := by
    intro kc kf ko w3 zc zf zo ne1 ne2 ne3 f3 gc gf gb
    refine hy1 _ _ ((unsure_c (h.fr f3 (fun x _ => by simp))).mono ?_)
    rintro e w5 ⟨p, c, rfl, f5, hrow, hpn⟩
    have z35 := f5.size
    have z03 := f3.size
    -- a round
    let I : Nat → Int → World → Prop := fun m n w' => ∃ k : Nat, n = k ∧ k ≤ M.unsure.length ∧ m = M.unsure.length - k ∧ Fr [kc] w5 w' ∧ ∃ l, MapG kenc w' kc l ∧ (∀ i, i < M.sure.length → Holds l i (M.left1 keep torn cut k i)) ∧ ∀ q ∈ l, 0 ≤ q.1 ∧ q.1 < M.n
    refine ⟨p, _, c, rfl, I, M.unsure.length, ⟨0, rfl, Nat.zero_le _, rfl, Fr.refl _ _, l1, gc.fr f5 (by simp), fun i hi => ?_, s1.2⟩, fun m n w13 hI => ?_⟩
    · unfold DM.left1
      rw [if_neg (by omega)]
      exact s1.1 i _ (h.ok.sureAt hi).1
    obtain ⟨k, rfl, hk, rfl, f13, l, gl, hl', hq⟩ := hI
    have f013 : Fr [] w w13 := (f3.trans f5 (fun x hx => by cases hx)).trans f13 (fun x hx => .inr (by simp at hx; omega))
    have z13 := f13.size
    refine ⟨fun hlt => ?_, fun hge => ?_⟩
    · have hlt : (k : Int) < (M.unsure.length : Int) := of_decide_eq_true hlt
      have hlt : k < M.unsure.length := by omega
      obtain ⟨u, hu⟩ : ∃ u, M.unsure[k]? = some u := ⟨_, List.getElem?_eq_getElem hlt⟩
      obtain ⟨i, rfl, hi, hfr, hrk⟩ := DM.unsure_get hu
      have hrow13 : Row w13 p (M.unsure.map I64) := Row.fr f13 hrow (fun ad hp hm => by
        have := hpn ad hp
        have h3 := gc.lt
        simp at hm; omega)
      have hnext : IntKind.wrap .i64 ((k : Int) + 1) = ((k + 1 : Nat) : Int) := by rw [wrapi (by omega) (by omega)]; simp
      intro y15 hy15
      obtain ⟨ad20, had⟩ := hrow13.has (by simp; omega)
      refine ⟨ad20, had, ⟨by omega, by omega⟩, (i : Int), ?_, ?_⟩
      · have := hrow13.get had (j := k) (u := I64 (i : Int)) (by rw [List.getElem?_map, hu]; rfl)
        simpa using this
      -- behind the two loads
      intro y22 hy22
      obtain ⟨hnw, hnw64⟩ := h.ok.nowAt hi
      obtain ⟨hsr, hsr64⟩ := h.ok.sureAt hi
      have hnl : (byteCells (M.nowAt i)).length = 64 := by rw [byteCells_length, hnw64]
      have hsl : (byteCells (M.sureAt i)).length = 64 := by rw [byteCells_length, hsr64]
      have hD13 := h.fr f013 (fun x _ => by simp)
      -- what the round leaves where it keeps a sector s'
      have store : ∀ (kb : Nat) (s' : ByteArray) (w27 : World), w13.heap.size ≤ kb → Fr [] w13 w27 → Blk w27 kb (byteCells s') → s'.size = 64 → s' = M.pick keep torn cut k i →
          ∃ (p28 : Option Nat), World.cell? w27 ⟨ko, 1, none⟩ = some (Value.map p28) ∧ ∃ (l29 : List Value), l29.length = 64 ∧ (∀ k30, k30 < 64 → World.cell? w27 ((⟨kb, 0, none⟩ : Addr).add k30) = l29[k30]?) ∧
            ∀ w32, Step w27 w32 [] [] → ∃ (k34 : Nat) (l35 : List (Int × Value)), p28 = some k34 ∧ MapG kenc w32 k34 l35 ∧ ∀ w36, MUpd kenc w32 w36 k34 (updM l35 (i : Int) (.agg l29.toArray)) → y15 w36 := by
        intro kb s' w27 zb f27 hb27 h64 hpick
        have hgb27 : Blk w27 ko [I64 M.n, .map (some kc), .map (some kf), I64 0, .bool false, I64 0] := (((gb.fr f5 (by simp)).fr f13 (by simpa using ne2.symm)).fr f27 (by simp))
        have hl64 : (byteCells s').length = 64 := by rw [byteCells_length, h64]
        refine ⟨some kc, hgb27.cell 1, byteCells s', hl64, fun k30 _ => by rw [add_mk, hb27.cell, Nat.zero_add], fun w32 st => ⟨kc, l, rfl, (gl.fr f27 (by simp)).fr st.fr (by simp), fun w36 hm => hy15 _ ?_⟩⟩
        have f36 : Fr [kc] w5 w36 := ((f13.trans f27 (fun x hx => by cases hx)).trans st.fr (fun x hx => by cases hx)).trans' hm.fr
        refine ⟨M.unsure.length - (k + 1), by omega, k + 1, hnext, by omega, rfl, f36, _, hm.map, fun j hj => ?_, fun q hqm => ?_⟩
        · by_cases e : j = i
          · subst e
            left
            rw [look_updM, if_pos rfl]
            have : M.left1 keep torn cut (k + 1) j = s' := by rw [(DM.left1_eq hfr hrk).1, hpick]
            rw [this]; rfl
          · have hne : ¬ ((j : Int) = (i : Int)) := by omega
            have e2 := DM.left1_ne (keep := keep) (torn := torn) (cut := cut) hu hj e
            unfold Holds
            rw [look_updM, if_neg hne, e2]
            exact hl' j hj
        · rcases mem_updM hqm with rfl | hqm
          · exact ⟨by show (0 : Int) ≤ (i : Int); omega, by show (i : Int) < (M.sure.length : Int); omega⟩
          · exact hq q hqm
      -- where nothing is kept
      have skip : ∀ (w42 : World), Fr [] w13 w42 → M.pick keep torn cut k i = M.sureAt i → y15 w42 := by
        intro w42 f42 hpick
        refine hy15 _ ⟨M.unsure.length - (k + 1), by omega, k + 1, hnext, by omega, rfl, f13.trans f42 (fun x hx => by cases hx), l, gl.fr f42 (by simp), fun j hj => ?_, hq⟩
        have e2 : M.left1 keep torn cut (k + 1) j = M.left1 keep torn cut k j := by
          by_cases e : j = i
          · subst e
            rw [(DM.left1_eq hfr hrk).1, (DM.left1_eq hfr hrk).2, hpick]
          · exact DM.left1_ne hu hj e
        rw [e2]; exact hl' j hj
      have hkl : (clamp cut) ≤ 64 := clamp_le cut
      have leaf : ∀ (kb kw : Nat) (w25 : World), w13.heap.size ≤ kb → w13.heap.size ≤ kw → kb ≠ kw → Fr [] w13 w25 → Blk w25 kb (byteCells (M.nowAt i)) → Blk w25 kw (byteCells (M.sureAt i)) → y22 ⟨kb, 0, none⟩ ⟨kw, 0, none⟩ w25 := by
        intro kb kw w25 zb zw hne f25 hbb hbw
        refine hy22 _ _ _ fun y26 hy26 y40 hy40 => ?_
        have cell25 : ∀ k', World.cell? w25 ((⟨kb, 0, none⟩ : Addr).add k') = (byteCells (M.nowAt i))[k']? := fun k' => by rw [add_mk, hbb.cell, Nat.zero_add]
        have hcl := clamp_eq cut
        have hc0 : (0 : Int) ≤ (if 64 < (if 0 > cut then 0 else cut) then 64 else if 0 > cut then 0 else cut) ∧ (if 64 < (if 0 > cut then 0 else cut) then 64 else if 0 > cut then 0 else cut) ≤ ((64 : Nat) : Int) ∧ ((64 : Nat) : Int) ≤ ((64 : Nat) : Int) := by
          refine ⟨?_, ?_, Int.le_refl _⟩ <;> (split <;> (try split) <;> omega)
        have use : ∀ (b41 : Bool), (b41 = true ↔ keep[k]? = some true) → y40 b41 w25 := fun b41 hb41 => by
          refine hy40 _ _ ⟨fun ht => hy26 _ (store kb (M.nowAt i) w25 zb f25 hbb hnw64 ?_), fun hf => ⟨fun htn => ⟨hc0, hc0, ?_⟩, fun htn => skip w25 f25 ?_⟩⟩
          · unfold DM.pick; rw [if_pos (hb41.1 ht)]
          · have htn : (k : Int) = torn := of_decide_eq_true htn
            have hpk : tear (clamp cut) (M.nowAt i) (M.sureAt i) = M.pick keep torn cut k i := by
              unfold DM.pick; rw [if_neg (fun hc => by rw [hb41.2 hc] at hf; cases hf), if_pos htn]
            rw [hcl]
            have hdl : ((byteCells (M.sureAt i)).drop (clamp cut)).length = 64 - clamp cut := by rw [List.length_drop, hsl]
            refine ⟨(byteCells (M.sureAt i)).drop (clamp cut), by rw [hdl]; omega, ?_, (fun b hb hm => by cases hm), fun w26 st => ?_⟩
            · unfold subA
              split
              · rename_i e
                rw [List.drop_eq_nil_iff.2 (by rw [hsl]; omega)]
                exact Row.nil _ _
              · show Row w25 (some ((⟨kw, 0, none⟩ : Addr).add (clamp cut * 1))) _
                rw [Nat.mul_one, add_mk, Nat.zero_add]
                exact Row.of_blk (off := clamp cut) hbw (fun j u hj => by rw [List.getElem?_drop] at hj; exact hj) (fun u hu => byteCells_one _ u (List.mem_of_mem_drop hu))
            · by_cases e : 64 = clamp cut
              · left
                refine ⟨List.drop_eq_nil_iff.2 (by rw [hsl]; omega), ?_⟩
                refine hy26 _ (store kb (M.nowAt i) w26 zb (f25.trans st.fr (fun x hx => by cases hx)) (hbb.fr st.fr (by simp)) hnw64 ?_)
                rw [← hpk]
                apply byteCells_inj
                rw [tear_cells, List.take_of_length_le (by omega), List.drop_eq_nil_iff.2 (by rw [hsl]; omega), List.append_nil]
              · right
                refine ⟨⟨kb, clamp cut, none⟩, byteCells (M.nowAt i), ?_, rfl, hbb.fr st.fr (by simp), by rw [hdl, hnl]; show clamp cut + _ ≤ _; omega, by simp, fun w27 hu => ?_⟩
                · unfold subA
                  rw [if_neg e]
                  show some ((⟨kb, 0, none⟩ : Addr).add (clamp cut * 1)) = _
                  rw [Nat.mul_one, add_mk, Nat.zero_add]
                · have f27 : Fr [] w13 w27 := (f25.trans st.fr (fun x hx => by cases hx)).trans hu.fr (fun x hx => .inr (by simp at hx; omega))
                  refine hy26 _ (store kb (tear (clamp cut) (M.nowAt i) (M.sureAt i)) w27 zb f27 ?_ (tear_size hnw64 hsr64 hkl) hpk)
                  have hb27 := hu.blk
                  rw [sets_eq _ _ _ (by rw [hdl, hnl]; show clamp cut + (64 - clamp cut) ≤ 64; omega)] at hb27
                  have e3 : spl (byteCells (M.nowAt i)) (clamp cut) ((byteCells (M.sureAt i)).drop (clamp cut)) = byteCells (tear (clamp cut) (M.nowAt i) (M.sureAt i)) := by
                    rw [tear_cells]
                    unfold spl
                    have d0 : (byteCells (M.nowAt i)).drop (clamp cut + (64 - clamp cut)) = [] := List.drop_eq_nil_iff.2 (by rw [hnl]; omega)
                    rw [hdl, d0, List.append_nil]
                  rw [e3] at hb27
                  exact hb27
          · have htn : ¬ (k : Int) = torn := of_decide_eq_false htn
            unfold DM.pick
            rw [if_neg (fun hc => by rw [hb41.2 hc] at hf; cases hf), if_neg htn]
        refine ⟨fun hlk => ?_, fun hlk => use false ⟨(fun h => by cases h), fun hc => ?_⟩⟩
        · have hlk : (k : Int) < (keep.length : Int) := of_decide_eq_true hlk
          have hkeep25 : Row w25 keepA (keep.map .bool) := Row.fr (f013.trans f25 (fun x hx => by cases hx)) hkeep (fun ad _ => by simp)
          obtain ⟨ad47, h47⟩ := hkeep25.has (by simp; omega)
          have hg := List.getElem?_eq_getElem (l := keep) (i := k) (by omega)
          refine ⟨ad47, h47, ⟨by omega, by omega⟩, keep[k]'(by omega), ?_, use _ ⟨fun h => by rw [hg, h], fun h => by rw [hg] at h; injection h⟩⟩
          have := hkeep25.get h47 (j := k) (u := .bool (keep[k]'(by omega))) (by rw [List.getElem?_map, hg]; rfl)
          simpa using this
        · have hlk : ¬ (k : Int) < (keep.length : Int) := of_decide_eq_false hlk
          rw [List.getElem?_eq_none (by omega)] at hc
          cases hc
      -- the two loads and the four orders
      obtain ⟨t2, ht2, hlk2⟩ := s2.1 i hfr
      rw [hnw] at ht2; injection ht2 with ht2; subst ht2
      obtain ⟨lf13, hbk13, _⟩ := hD13.blk
      have hbk13 : Blk w13 b (fields M ms mf lf) := hbk.fr f013 (by simp)
      refine ⟨_, hbk13.cell 2, l2, g2.fr f013 (by simp), byteCells (M.nowAt i), hnl, ⟨true, .inl ⟨rfl, hlk2⟩⟩, _, hbk13.cell 1, l1, g1.fr f013 (by simp), byteCells (M.sureAt i), hsl, Holds.rel (s1.1 i _ hsr), ?_, ?_⟩
      · intro k59 w60 st1 hb1 k63 w64 st2 hb2
        have a1 := st1.new k59 (by simp)
        have a2 := st2.new k63 (by simp)
        have z1 := st1.size
        have z2 := st2.size
        refine store_big (hb1.fr st2.fr (by simp)) hnl hz64 (byteCells_one _) fun w71 hu1 => store_big (hb2.fr hu1.fr (by simp; omega)) hsl hz64 (byteCells_one _) fun w77 hu2 => leaf _ _ _ a1.1 (by omega) (by omega) ?_ (hu1.blk.fr hu2.fr (by simp; omega)) hu2.blk
        exact ((st1.fr.trans' st2.fr).trans hu1.fr (fun x hx => .inr (by simp at hx; omega))).trans hu2.fr (fun x hx => .inr (by simp at hx; omega))
      · intro k79 w80 st1 hb1 k83 w84 st2 hb2
        have a1 := st1.new k79 (by simp)
        have a2 := st2.new k83 (by simp)
        have z1 := st1.size
        have z2 := st2.size
        refine store_big hb2 hnl hz64 (byteCells_one _) fun w91 hu1 => store_big ((hb1.fr st2.fr (by simp)).fr hu1.fr (by simp; omega)) hsl hz64 (byteCells_one _) fun w97 hu2 => leaf _ _ _ (by omega) a1.1 (by omega) ?_ (hu1.blk.fr hu2.fr (by simp; omega)) hu2.blk
        exact ((st1.fr.trans' st2.fr).trans hu1.fr (fun x hx => .inr (by simp at hx; omega))).trans hu2.fr (fun x hx => .inr (by simp at hx; omega))
    · have hge : ¬ (k : Int) < (M.unsure.length : Int) := of_decide_eq_false hge
      have hkk : k = M.unsure.length := by omega
      subst hkk
      have hfin : ∀ i, i < M.sure.length → M.left1 keep torn cut M.unsure.length i = (M.crash keep torn cut).sureAt i := fun i hi => by
        rw [DM.crash_at M keep torn cut hi]
        unfold DM.left1
        by_cases hf : M.fresh[i]? = some true
        · have : M.rank i < M.unsure.length := (List.getElem?_eq_some_iff.1 (DM.unsure_rank hi hf)).1
          rw [if_pos ⟨hf, this⟩, if_pos hf]
        · rw [if_neg (fun hc => hf hc.1), if_neg hf]
      have hlen : (M.crash keep torn cut).sure.length = M.sure.length := by simp [DM.crash]
      refine ⟨ko, kc, kf, rfl, fun x hx => ?_, f013, h.ok.crash keep torn cut, ne1, ⟨0, ?_, fun h => by simp [DM.crash] at h⟩, ⟨l, gl, fun i s hs => ?_, fun q hq' => ?_⟩, ⟨[], (gf.fr f5 (by simp)).fr f13 (by simpa using ne1.symm), fun i hi => ?_, fun i hi => rfl, fun p hp => by cases hp⟩⟩
      · simp at hx; rcases hx with rfl | rfl | rfl <;> omega
      · have e : fields (M.crash keep torn cut) kc kf 0 = [I64 M.n, .map (some kc), .map (some kf), I64 0, .bool false, I64 0] := by
          have : (M.crash keep torn cut).n = M.n := by unfold DM.n; rw [hlen]
          show [I64 (M.crash keep torn cut).n, _, _, _, _, _] = _
          rw [this]; rfl
        rw [e]
        exact (gb.fr f5 (by simp)).fr f13 (by simpa using ne2.symm)
      · have hi : i < M.sure.length := by rw [← hlen]; exact (List.getElem?_eq_some_iff.1 hs).1
        have hh := hl' i hi
        rw [hfin i hi] at hh
        have : (M.crash keep torn cut).sureAt i = s := by
          unfold DM.sureAt
          rw [List.getD_eq_getElem?_getD, hs]; rfl
        rw [this] at hh
        exact hh
      · have : (M.crash keep torn cut).n = M.n := by unfold DM.n; rw [hlen]
        rw [this]; exact hq q hq'
      · have hi := List.mem_of_getElem? hi
        have := (List.mem_replicate.1 hi).2
        cases this
  -- first the clone, then the map
  have fin1 : ∀ w1, Fr [] w w1 → Calls prog 60 #[.map (some ms)] w1 fun e w2 => ∃ p, e = .returned (.map p) ∧ World.cell? w2 ⟨b, 0, none⟩ = some (I64 M.n) ∧
      ∀ w3 k3, Step w2 w3 [] [k3] → w3.heap[k3]? = some (Obj.map #[] 0) → ∀ k4 w4, Step w3 w4 [] [k4] → Blk w4 k4 [I64 M.n, .map p, .map (some k3), I64 0, .bool false, I64 0] → y1 ⟨k4, 0, none⟩ w4 := fun w1 f1 => by
    refine (clone_c (g1.fr f1 (by simp))).mono ?_
    rintro e w2 ⟨kc, rfl, zc, f2, gc⟩
    have f02 := f1.trans' f2
    refine ⟨_, rfl, (hbk.fr f02 (by simp)).cell 0, fun w3 k3 st3 m3 k4 w4 st4 b4 => ?_⟩
    have a3 := st3.new k3 (by simp)
    have a4 := st4.new k4 (by simp)
    have z1 := f1.size
    have z2 := f2.size
    have z3 := st3.size
    have := gc.lt
    exact start kc k3 k4 w4 (by omega) (by omega) (by omega) (by omega) (by omega) (by omega) ((f02.trans' st3.fr).trans' st4.fr) ((gc.fr st3.fr (by simp)).fr st4.fr (by simp)) ((MapG.new m3).fr st4.fr (by simp)) b4
  -- first the map, then the clone
  have fin2 : ∀ w1 k1, Step w w1 [] [k1] → w1.heap[k1]? = some (Obj.map #[] 0) → Calls prog 60 #[.map (some ms)] w1 fun e w2 => ∃ p, e = .returned (.map p) ∧ World.cell? w2 ⟨b, 0, none⟩ = some (I64 M.n) ∧
      ∀ k4 w4, Step w2 w4 [] [k4] → Blk w4 k4 [I64 M.n, .map p, .map (some k1), I64 0, .bool false, I64 0] → y1 ⟨k4, 0, none⟩ w4 := fun w1 k1 st1 m1 => by
    refine (clone_c (g1.fr st1.fr (by simp))).mono ?_
    rintro e w2 ⟨kc, rfl, zc, f2, gc⟩
    have f02 := st1.fr.trans' f2
    refine ⟨_, rfl, (hbk.fr f02 (by simp)).cell 0, fun k4 w4 st4 b4 => ?_⟩
    have a1 := st1.new k1 (by simp)
    have a4 := st4.new k4 (by simp)
    have z1 := st1.size
    have z2 := f2.size
    have := gc.lt
    exact start kc k1 k4 w4 (by omega) (by omega) (by omega) (by omega) (by omega) (by omega) (f02.trans' st4.fr) (gc.fr st4.fr (by simp)) (((MapG.new m1).fr f2 (by simp)).fr st4.fr (by simp)) b4
  refine ⟨_, hbk.cell 1, ⟨_, hbk.cell 0, fun w1 st1 => (fin1 w1 st1.fr).mono ?_, fun w1 k1 st1 m1 => (fin2 w1 k1 st1 m1).mono ?_⟩, fun w1 st1 => (fin1 w1 st1.fr).mono ?_, fun w1 k1 st1 m1 => ⟨⟨_, (hbk.fr st1.fr (by simp)).cell 0, (fin2 w1 k1 st1 m1).mono ?_⟩, (fin2 w1 k1 st1 m1).mono ?_⟩⟩
  · rintro e w2 ⟨p, rfl, hc, h3⟩; exact ⟨p, rfl, h3⟩
  · rintro e w2 ⟨p, rfl, hc, h3⟩; exact ⟨p, rfl, h3⟩
  · rintro e w2 ⟨p, rfl, hc, h3⟩; exact ⟨p, rfl, _, hc, h3⟩
  · rintro e w2 ⟨p, rfl, hc, h3⟩; exact ⟨p, rfl, h3⟩
  · rintro e w2 ⟨p, rfl, hc, h3⟩; exact ⟨p, rfl, _, hc, h3⟩

end Go.Proofs.Ytcaamecdhbgknaa.Disk

end
section
/- The laws' own words: a sector by going round in some bytes. -/
namespace Go.Proofs.Ytcaamecdhbgknaa.Disk
open Go Go.V
open Go.Proofs.Ytcaamecdhbgknaa.VC
open Go.Proofs.Try (prog)
set_option linter.unusedVariables false
set_option linter.unusedSimpArgs false
set_option maxRecDepth 20000

def roundByte (bs : ByteArray) (i : Nat) : UInt8 := if bs.size = 0 then 0 else bs.data.getD (i % bs.size) 0
def round (bs : ByteArray) : ByteArray := ⟨((List.range 64).map (roundByte bs)).toArray⟩
theorem round_size (bs : ByteArray) : (round bs).size = 64 := by simp [round, ByteArray.size]
theorem round_cells (bs : ByteArray) : byteCells (round bs) = (List.range 64).map fun i => Value.int .u8 ((roundByte bs i).toNat : Int) := by
  simp [byteCells, round]

theorem bytes_c (w : World) {bA : Option Addr} {bC : Nat} {bs : ByteArray} (hr : Row w bA (byteCells bs)) : Calls prog 24 #[.slice bA bs.size bC] w fun e w' =>
    ∃ k, e = .returned (.slice (some ⟨k, 0, none⟩) 64 64) ∧ w.heap.size ≤ k ∧ Fr [] w w' ∧ Blk w' k (byteCells (round bs)) := by
  have hz64 : (reps [Value.int .u8 0] 64).length = 64 := by rw [reps_length]; rfl
  refine rhizomelaw03_Bytes.link ⟨by decide, fun w1 k2 st hb => ?_⟩
  have hk2 := st.new k2 (by simp)
  let row : Nat → List Value := fun n => (List.range 64).map fun i => if i < n then Value.int .u8 ((roundByte bs i).toNat : Int) else .int .u8 0
  have hrl : ∀ n, (row n).length = 64 := fun n => by simp [row]
  let I : Nat → Int → World → Prop := fun m n w' => ∃ k : Nat, n = k ∧ k ≤ 64 ∧ m = 64 - k ∧ Fr [] w w' ∧ Blk w' k2 (row k)
  refine ⟨I, 64, ⟨0, rfl, by omega, rfl, st.fr, ?_⟩, fun m n w9 hI => ?_⟩
  · have : row 0 = reps [Value.int .u8 0] 64 := by
      apply List.ext_getElem?
      intro i
      by_cases hi : i < 64
      · rw [reps_get _ _ _ (by simpa using hi)]
        simp [row, hi, Nat.mod_one]
      · rw [List.getElem?_eq_none (by rw [hrl]; omega), List.getElem?_eq_none (by rw [hz64]; omega)]
    rw [this]; exact hb
  obtain ⟨k, rfl, hk, rfl, hf, hbk⟩ := hI
  refine ⟨fun hlt => ?_, fun hge => ?_⟩
  · have hlt : (k : Int) < ((64 : Nat) : Int) := of_decide_eq_true hlt
    have hlt : k < 64 := by omega
    intro y11 hy11
    have hnext : IntKind.wrap .i64 ((k : Int) + 1) = ((k + 1 : Nat) : Int) := by rw [wrapi (by omega) (by omega)]; simp
    have step : ∀ w12, Fr [] w w12 → Blk w12 k2 (row (k + 1)) → y11 w12 := fun w12 f12 b12 => hy11 _ ⟨64 - (k + 1), by omega, k + 1, hnext, by omega, rfl, f12, b12⟩
    refine ⟨fun hpos => ?_, fun hz => step _ hf ?_⟩
    · have hpos : (0 : Int) < (bs.size : Int) := of_decide_eq_true hpos
      have hr9 : Row w9 bA (byteCells bs) := Row.fr hf hr (fun ad _ => by simp)
      obtain ⟨ad, had⟩ := hr9.has (by rw [byteCells_length]; omega)
      have hm : Int.tmod (k : Int) (bs.size : Int) = ((k % bs.size : Nat) : Int) := rfl
      have hml : k % bs.size < bs.size := Nat.mod_lt _ (by omega)
      refine ⟨by omega, ad, had, ⟨by rw [hm]; omega, by rw [hm]; omega⟩, ((roundByte bs k).toNat : Int), ?_, ⟨k2, 0, none⟩, rfl, ⟨by omega, by omega⟩, row k, ?_, ?_, ?_, fun w20 hu => step _ ?_ ?_⟩
      · rw [hm]
        have hg : (byteCells bs)[k % bs.size]? = some (Value.int .u8 ((roundByte bs k).toNat : Int)) := by
          rw [byteCells_get]
          have : k % bs.size < bs.data.size := hml
          unfold roundByte
          rw [if_neg (by omega), Array.getElem?_eq_getElem this]
          have e2 : bs.data.getD (k % bs.size) 0 = bs.data[k % bs.size] := by
            unfold Array.getD
            rw [dif_pos this]; rfl
          rw [e2]; rfl
        have e3 : Int.toNat ((k % bs.size : Nat) : Int) * 1 = k % bs.size := by omega
        rw [e3]
        exact hr9.get had hg
      · rw [add_block]; exact hbk
      · rw [add_mk]
      · rw [add_mk, hrl]; show 0 + ((k : Int).toNat * 1) + 1 ≤ 64; omega
      · exact hf.trans hu.fr (fun x hx => .inr (by rw [add_block] at hx; simp at hx; omega))
      · have hb20 := hu.blk
        rw [add_block] at hb20
        have e : sets (row k) (((⟨k2, 0, none⟩ : Addr).add ((k : Int).toNat * 1)).off) [Value.int .u8 ((roundByte bs k).toNat : Int)] = row (k + 1) := by
          rw [add_mk]
          show (row k).set (0 + (k : Int).toNat * 1) _ = _
          have : 0 + (k : Int).toNat * 1 = k := by omega
          rw [this]
          apply List.ext_getElem?
          intro i
          rw [List.getElem?_set]
          by_cases hi : i < 64
          · by_cases e : k = i
            · subst e; simp [row, hlt]
            · rw [if_neg e]
              have : (i < k + 1) ↔ (i < k) := by omega
              simp [row, hi, this]
          · rw [if_neg (by omega), List.getElem?_eq_none (by rw [hrl]; omega), List.getElem?_eq_none (by rw [hrl]; omega)]
        rw [e] at hb20
        exact hb20
    · have hz : ¬ (0 : Int) < (bs.size : Int) := of_decide_eq_false hz
      have : row (k + 1) = row k := by
        apply List.map_congr_left
        intro i hi
        have hzero : roundByte bs i = 0 := by unfold roundByte; rw [if_pos (by omega)]
        by_cases h1 : i < k
        · rw [if_pos h1, if_pos (by omega)]
        · by_cases h2 : i < k + 1
          · rw [if_pos h2, if_neg h1, hzero]; rfl
          · rw [if_neg h2, if_neg h1]
      rw [this]; exact hbk
  · have hge : ¬ (k : Int) < ((64 : Nat) : Int) := of_decide_eq_false hge
    have : k = 64 := by omega
    subst this
    refine ⟨k2, rfl, hk2.1, hf, ?_⟩
    have : row 64 = byteCells (round bs) := by
      rw [round_cells]
      apply List.map_congr_left
      intro i hi
      rw [if_pos (List.mem_range.1 hi)]
    rw [← this]; exact hbk

end Go.Proofs.Ytcaamecdhbgknaa.Disk

end
section
/- The laws' fixed fact holds. -/
namespace Go.Proofs.Ytcaamecdhbgknaa.Disk
open Go Go.V
open Go.Proofs.Ytcaamecdhbgknaa.VC
open Go.Proofs.Try (prog)
set_option linter.unusedVariables false
set_option linter.unusedSimpArgs false
set_option maxRecDepth 20000

theorem bF {b : Bool} {p q : Prop} (h : b = false) (hq : q) : bcase b p q := ⟨fun h' => by (rw [h] at h'; cases h'), fun _ => hq⟩
theorem bT {b : Bool} {p q : Prop} (h : b = true) (hp : p) : bcase b p q := ⟨fun _ => hp, fun h' => by (rw [h] at h'; cases h')⟩

/-- A write of a block's bytes. -/
theorem write_b {w : World} {b ms mf : Nat} {M : DM} (h : DiskAt w b ms mf M) (i : Int) {k bC n : Nat} {s : ByteArray} (hb : Blk w k (byteCells s)) (hn : n = s.size) (hd : k ∉ [b, ms, mf]) :
    Calls prog 23 #[D b, I64 i, .slice (some ⟨k, 0, none⟩) n bC] w fun e w' => e = .returned (I64 (M.write i s).2) ∧ Fr [b, ms, mf] w w' ∧ DiskAt w' b ms mf (M.write i s).1 := by
  subst hn
  exact write_c h i (Row.all hb (byteCells_one s)) (fun ad hp => by injection hp with hp; subst hp; exact hd)

def one1 : ByteArray := ⟨#[1]⟩
def am1 : DM := ((DM.fresh0 2).write 1 (round one1)).1
def am2 : DM := (am1.write 0 (round one1)).1
def am3 : DM := am2.crash [false, true] 0 2

theorem awake_c (w : World) : Calls prog 19 #[] w fun e w' => e = .returned (.bool true) ∧ Fr [] w w' := by
  refine rhizomelaw03_awake.link (_u := ()) ((new_c w 2).mono ?_)
  rintro e w2 ⟨_, h⟩
  obtain ⟨b, ms, mf, rfl, hge, f2, hD⟩ := h (by decide)
  have z2 := f2.size
  obtain ⟨_, _, q1, q2, q3⟩ := hD.bs
  have one : ∀ u ∈ byteCells one1, u.oneCell' = true := byteCells_one _
  have hb := hge b (by simp)
  have hms := hge ms (by simp)
  have hmf := hge mf (by simp)
  have hW : ∀ x ∈ [b, ms, mf], x ∈ ([] : List Nat) ∨ w.heap.size ≤ x := fun x hx => .inr (hge x hx)
  refine ⟨_, _, rfl, fun y5 hy5 => bF rfl (bF rfl fun k40 w41 st41 b41 => (bytes_c w41 (bs := one1) (Row.all b41 one)).mono ?_)⟩
  rintro e w45 ⟨k, rfl, zk, f45, bk⟩
  have z41 := st41.size
  have D45 := (hD.fr st41.fr (by simp)).fr f45 (by simp)
  refine ⟨_, _, _, rfl, (write_b D45 1 bk (round_size _).symm (by simp; omega)).mono ?_⟩
  rintro e w50 ⟨rfl, f50, D50⟩
  have f050 : Fr [] w w50 := ((f2.trans' st41.fr).trans' f45).trans f50 hW
  refine ⟨_, rfl, bF (by decide +kernel) fun k52 w53 st53 b53 => (bytes_c w53 (bs := one1) (Row.all b53 one)).mono ?_⟩
  rintro e w57 ⟨k', rfl, zk', f57, bk'⟩
  have z45 := f45.size
  have z50 := f50.size
  have z53 := st53.size
  have D57 := (D50.fr st53.fr (by simp)).fr f57 (by simp)
  refine ⟨_, _, _, rfl, (write_b D57 0 bk' (round_size _).symm (by simp; omega)).mono ?_⟩
  rintro e w62 ⟨rfl, f62, D62⟩
  have f062 : Fr [] w w62 := ((f050.trans' st53.fr).trans' f57).trans f62 hW
  refine ⟨_, rfl, hy5 _ _ (bF (by decide +kernel) fun k8 w9 st9 b9 => ?_)⟩
  have D9 := D62.fr st9.fr (by simp)
  refine (crash_c D9 (keep := [false, true]) (Row.all b9 (by decide)) 0 2).mono ?_
  rintro e w13 ⟨b', ms', mf', rfl, hge', f13, D13⟩
  refine ⟨_, rfl, bF rfl ((read_c D13 0).mono ?_)⟩
  rintro e w16 ⟨_, h⟩
  obtain ⟨ka, sa, hsa, rfl, za, f16, ba⟩ := h (by decide +kernel)
  refine ⟨_, _, _, _, rfl, (read_c (D13.fr f16 (by simp)) 1).mono ?_⟩
  rintro e w22 ⟨_, h⟩
  obtain ⟨kb, sb, hsb, rfl, zb, f22, bb⟩ := h (by decide +kernel)
  have ba22 := ba.fr f22 (by simp)
  have e1 : (am3.now[0]?).map (fun s => (s.data[1]?, s.data[2]?)) = some (some 1, some 0) := by decide +kernel
  have e2 : (am3.now[1]?).map (fun s => s.data[63]?) = some (some 1) := by decide +kernel
  have hsa : am3.now[0]? = some sa := hsa
  have hsb : am3.now[1]? = some sb := hsb
  rw [hsa] at e1
  rw [hsb] at e2
  have e1 : (sa.data[1]?, sa.data[2]?) = (some 1, some 0) := by simpa using e1
  have e2 : sb.data[63]? = some 1 := by simpa using e2
  injection e1 with e11 e12
  have c1 : World.cell? w22 ⟨ka, 1, none⟩ = some (.int .u8 1) := by rw [ba22.cell, byteCells_get, e11]; rfl
  have c2 : World.cell? w22 ⟨ka, 2, none⟩ = some (.int .u8 0) := by rw [ba22.cell, byteCells_get, e12]; rfl
  have c3 : World.cell? w22 ⟨kb, 63, none⟩ = some (.int .u8 1) := by rw [bb.cell, byteCells_get, e2]; rfl
  refine ⟨_, _, _, _, rfl, fun y27 hy27 => bT (by decide) (bT (by decide) ⟨_, rfl, by decide, 1, c1, bT (by decide) ⟨_, rfl, by decide, 0, c2, bT (by decide) ⟨_, rfl, by decide, 1, c3, hy27 _ _ ⟨rfl, ?_⟩⟩⟩⟩)⟩
  exact (((f062.trans' st9.fr).trans' f13).trans' f16).trans' f22

end Go.Proofs.Ytcaamecdhbgknaa.Disk

end
section
/- What the laws and the layers above use of the disk. -/
namespace Go.Proofs.Ytcaamecdhbgknaa.Disk
open Go Go.V
open Go.Proofs.Ytcaamecdhbgknaa.VC
open Go.Proofs.Try (prog)
set_option linter.unusedVariables false
set_option linter.unusedSimpArgs false
set_option maxRecDepth 20000

theorem str_of {w : World} {k n : Nat} {s : ByteArray} (hb : Blk w k (byteCells s)) (hn : s.size = n) : s.data.toList.length = n ∧ ∀ j, j < n → ∃ ad, (some ⟨k, 0, none⟩ : Option Addr) = some ad ∧ World.cell? w (ad.add j) = some (.int .u8 ((UInt8.toNat (s.data.toList.getD j 0) : Nat) : Int)) := by
  refine ⟨by rw [← hn]; exact Array.length_toList, fun j hj => ⟨_, rfl, ?_⟩⟩
  rw [add_mk, hb.cell, Nat.zero_add, byteCells_get]
  have : j < s.data.size := by rw [← hn] at hj; exact hj
  rw [Array.getElem?_eq_getElem this, List.getD_eq_getElem?_getD, List.getElem?_eq_getElem (by simpa using this)]
  simp

theorem mk_str (s : ByteArray) : ByteArray.mk (Array.mk s.data.toList) = s := by
  obtain ⟨⟨l⟩⟩ := s; rfl


theorem modN {n m : Int} (hm : 1 ≤ m) (hm2 : m ≤ 4096) : 0 ≤ IntKind.wrap .i64 (Int.tmod (IntKind.wrap .u64 n) m) ∧ IntKind.wrap .i64 (Int.tmod (IntKind.wrap .u64 n) m) < m := by
  have h0 : 0 ≤ IntKind.wrap .u64 n := by
    have e : IntKind.wrap .u64 n = n % 18446744073709551616 := by simp [IntKind.wrap, IntKind.bits, IntKind.signed]
    rw [e]; omega
  have h1 : 0 ≤ Int.tmod (IntKind.wrap .u64 n) m := Int.tmod_nonneg _ h0
  have h2 : Int.tmod (IntKind.wrap .u64 n) m < m := Int.tmod_lt_of_pos _ (by omega)
  rw [wrapi (by omega) (by omega)]
  exact ⟨h1, h2⟩


theorem fresh0_n {n : Int} (h : 1 ≤ n) : (DM.fresh0 n.toNat).n = n := by
  show ((List.replicate n.toNat zsec).length : Int) = n
  rw [List.length_replicate]; omega

theorem wrote_unsure (n i : Nat) (hi : i < n) (s : ByteArray) : ((DM.fresh0 n).wrote i s).unsure.length = 1 := by
  have hp : ((DM.fresh0 n).wrote i s).unsure.Perm [(i : Int)] := by
    refine (List.perm_ext_iff_of_nodup ((DM.unsure_sorted _).imp fun h => by omega) (by simp)).2 fun k => ?_
    rw [DM.mem_unsure]
    show (∃ j : Nat, k = j ∧ j < (List.replicate n zsec).length ∧ ((List.replicate n false).set i true)[j]? = some true) ↔ _
    simp only [List.length_replicate, List.mem_singleton]
    constructor
    · rintro ⟨j, rfl, hj, hf⟩
      rw [List.getElem?_set] at hf
      split at hf
      · rename_i e; rw [e]
      · rw [List.getElem?_replicate] at hf
        split at hf <;> cases hf
    · rintro rfl
      exact ⟨i, rfl, hi, by rw [List.getElem?_set]; simp [hi]⟩
  exact hp.length_eq


theorem write_live {M : DM} {i : Int} {s : ByteArray} (h0 : 0 ≤ i) (h1 : i < M.n) (hs : s.size = 64) (hd : ¬ M.dead) : M.write i s = (M.wrote i.toNat s, 0) := by
  unfold DM.write
  rw [if_neg (by rintro (h | h | h); omega; omega; exact h hs), if_neg hd]

theorem write_dead {M : DM} {i : Int} {s : ByteArray} (h0 : 0 ≤ i) (h1 : i < M.n) (hs : s.size = 64) (hd : M.dead) : M.write i s = (M, 30) := by
  unfold DM.write
  rw [if_neg (by rintro (h | h | h); omega; omega; exact h hs), if_pos hd]


theorem row_prefix {w : World} {b : Nat} {xs ys zs : List Value} (h : Blk w b (xs ++ ys ++ zs)) (h0 : xs = []) (h1 : ∀ u ∈ ys, u.oneCell' = true) : Row w (some ⟨b, 0, none⟩) ys := by
  subst h0
  refine Row.of_blk (off := 0) h (fun j u hj => ?_) h1
  rw [Nat.zero_add, List.nil_append, List.getElem?_append_left ((List.getElem?_eq_some_iff.1 hj).1)]
  exact hj

theorem strs_one (l : List ByteArray) : ∀ u ∈ l.map Value.string, u.oneCell' = true := fun u hu => by obtain ⟨x, _, rfl⟩ := List.mem_map.1 hu; rfl

theorem bools_one (l : List Bool) : ∀ u ∈ l.map Value.bool, u.oneCell' = true := fun u hu => by obtain ⟨x, _, rfl⟩ := List.mem_map.1 hu; rfl

theorem reps_one (x : Value) : ∀ n, reps [x] n = List.replicate n x
  | 0 => rfl
  | n + 1 => by rw [reps, reps_one x n]; rfl


theorem Row.lt {w : World} {ad : Addr} {xs : List Value} (h : Row w (some ad) xs) (hn : 0 < xs.length) : ad.block < w.heap.size := by
  obtain ⟨ad', hp, hc⟩ := h.1 0 xs[0] (by simp [hn])
  injection hp with hp
  subst hp
  have := World.block_lt_of_cell? w _ hc
  rw [add_block] at this
  exact this

theorem DM.crash_calm {M : DM} (hok : M.Ok) (h : ∀ i : Nat, M.fresh[i]? ≠ some true) (keep : List Bool) (torn cut : Int) : (M.crash keep torn cut).sure = M.sure ∧ (M.crash keep torn cut).now = M.sure := by
  have e : ((List.range M.sure.length).map fun i => if M.fresh[i]? = some true then M.pick keep torn cut (M.rank i) i else M.sureAt i) = M.sure := by
    apply List.ext_getElem?
    intro i
    by_cases hi : i < M.sure.length
    · rw [List.getElem?_map, List.getElem?_range hi]
      simp only [Option.map_some, if_neg (h i)]
      exact (hok.sureAt hi).1.symm
    · rw [List.getElem?_eq_none (by simp; omega), List.getElem?_eq_none (by omega)]
  exact ⟨e, e⟩

theorem DM.crash_fresh (M : DM) (keep : List Bool) (torn cut : Int) (i : Nat) : (M.crash keep torn cut).fresh[i]? ≠ some true := by
  intro h
  have := List.mem_of_getElem? (show (List.replicate M.sure.length false)[i]? = some true from h)
  exact absurd (List.mem_replicate.1 this).2 (by decide)

theorem read_in {w : World} {b ms mf : Nat} {M : DM} (h : DiskAt w b ms mf M) {i : Nat} (hi : i < M.sure.length) : Calls prog 22 #[D b, I64 (i : Int)] w fun e w' => ∃ k s, M.now[i]? = some s ∧ s.size = 64 ∧ e = .returned (.tuple #[.slice (some ⟨k, 0, none⟩) 64 64, I64 0]) ∧ w.heap.size ≤ k ∧ Fr [] w w' ∧ Blk w' k (byteCells s) := by
  refine (read_c h i).mono ?_
  rintro e w' ⟨_, hr⟩
  obtain ⟨k, s, hs, he, hk, f, hb⟩ := hr (by show ¬ ((i : Int) < 0 ∨ (M.sure.length : Int) ≤ i); omega)
  have e0 : (i : Int).toNat = i := by omega
  rw [e0] at hs
  exact ⟨k, s, hs, h.ok.w64 _ _ hs, he, hk, f, hb⟩


end Go.Proofs.Ytcaamecdhbgknaa.Disk

end
