/- The disk: reading, arming, a new one. -/
import Derived.Test.YtcaamecdhbgknaaD2
namespace Go.Proofs.Ytcaamecdhbgknaa.Disk
open Go Go.V
open Go.Proofs.Ytcaamecdhbgknaa.VC
open Go.Proofs.Try (prog)
set_option linter.unusedVariables false
set_option linter.unusedSimpArgs false
set_option maxRecDepth 20000

theorem zsec_cells : byteCells zsec = reps [Value.int .u8 0] 64 := by
  have e : zsec.data.toList = List.replicate 64 0 := by decide +kernel
  unfold byteCells
  rw [e]
  rfl
theorem zsec_size : zsec.size = 64 := by decide +kernel

theorem read_c {w : World} {b ms mf : Nat} {M : DM} (h : DiskAt w b ms mf M) (i : Int) : Calls prog 22 #[D b, I64 i] w fun e w' =>
    (i < 0 ∨ M.n ≤ i → e = .returned (.tuple #[.slice none 0 0, I64 1]) ∧ w' = w) ∧
    (¬ (i < 0 ∨ M.n ≤ i) → ∃ k s, M.now[i.toNat]? = some s ∧ e = .returned (.tuple #[.slice (some ⟨k, 0, none⟩) 64 64, I64 0]) ∧ w.heap.size ≤ k ∧ Fr [] w w' ∧ Blk w' k (byteCells s)) := by
  refine disk_Disk_Read.link ((none_c h i).mono ?_)
  rintro e w2 ⟨rfl, rfl⟩
  refine ⟨_, rfl, fun hb => ⟨fun _ => ⟨rfl, rfl⟩, fun hn => absurd (of_decide_eq_true hb) hn⟩, fun hb => ?_⟩
  have hb := of_decide_eq_false hb
  have hi0 : ¬ i < 0 := fun h => hb (.inl h)
  have hin : ¬ (M.sure.length : Int) ≤ i := fun h => hb (.inr h)
  have hi1 : i.toNat < M.sure.length := by omega
  have hit : (i.toNat : Int) = i := by omega
  obtain ⟨lf, hbk, hl⟩ := h.blk
  obtain ⟨l1, g1, s1⟩ := h.sure
  obtain ⟨l2, g2, s2⟩ := h.fresh
  have hfl : i.toNat < M.fresh.length := by rw [h.ok.fre]; exact hi1
  have hnl : i.toNat < M.now.length := by rw [h.ok.now]; exact hi1
  -- what both ways end in
  have fin : ∀ (s : ByteArray) (k8 : Nat) (w19 : World), M.now[i.toNat]? = some s → w2.heap.size ≤ k8 → Fr [] w2 w19 → Blk w19 k8 (byteCells s) →
      ((i < 0 ∨ M.n ≤ i → Ending.returned (.tuple #[.slice (subA (some ⟨k8, 0, none⟩) 0 64 1) 64 64, I64 0]) = .returned (.tuple #[.slice none 0 0, I64 1]) ∧ w19 = w2) ∧
      (¬ (i < 0 ∨ M.n ≤ i) → ∃ k s, M.now[i.toNat]? = some s ∧ Ending.returned (.tuple #[.slice (subA (some ⟨k8, 0, none⟩) 0 64 1) 64 64, I64 0]) = .returned (.tuple #[.slice (some ⟨k, 0, none⟩) 64 64, I64 0]) ∧ w2.heap.size ≤ k ∧ Fr [] w2 w19 ∧ Blk w19 k (byteCells s))) := fun s k8 w19 h1 h2 h3 h4 =>
    ⟨fun h => absurd h hb, fun _ => ⟨k8, s, h1, by simp [subA, add0], h2, h3, h4⟩⟩
  have hz64 : (reps [Value.int .u8 0] 64).length = 64 := by rw [reps_length]; rfl
  have hz1 : ∀ x ∈ reps [Value.int .u8 0] 64, x.oneCell' = true := by rw [← zsec_cells]; exact byteCells_one _
  obtain ⟨s, hs⟩ : ∃ s, M.now[i.toNat]? = some s := ⟨_, List.getElem?_eq_getElem hnl⟩
  have hs64 := h.ok.w64 _ _ hs
  have hlen : (byteCells s).length = 64 := by rw [byteCells_length, hs64]
  have hbn : ∀ k8, w2.heap.size ≤ k8 → ∀ x ∈ [b, ms, mf], x ∉ [k8] := fun k8 hk x hx hm => by
    have := h.bs
    simp at hx hm
    rcases hx with rfl | rfl | rfl <;> omega
  refine ⟨_, hbk.cell 2, l2, g2, ?_⟩
  cases hfr : M.fresh[i.toNat]'hfl with
  | true =>
    have hfr : M.fresh[i.toNat]? = some true := by rw [List.getElem?_eq_getElem hfl, hfr]
    obtain ⟨s', hs', hlk⟩ := s2.1 _ hfr
    rw [hs] at hs'; injection hs' with hs'; subst hs'
    rw [hit] at hlk
    refine ⟨byteCells s, hlen, true, .inl ⟨rfl, hlk⟩, fun k8 w9 hst hblk => ⟨_, rfl, hlen, byteCells_one s, _, hblk, rfl, by rw [hlen, hz64]; decide, fun w16 hu y18 hy18 => ⟨fun h => by simp at h, fun _ => hy18 _ ⟨by decide, ?_⟩⟩⟩⟩
    have hk8 := (hst.new k8 (by simp)).1
    have hb16 := hu.blk
    rw [sets0 (by rw [hlen, hz64])] at hb16
    exact fin s k8 w16 hs hk8 (hst.fr.trans hu.fr fun x hx => .inr (by simp at hx; omega)) hb16
  | false =>
    have hfr : M.fresh[i.toNat]? = some false := by rw [List.getElem?_eq_getElem hfl, hfr]
    have hlk := s2.2.1 _ hfr
    rw [hit] at hlk
    refine ⟨reps [Value.int .u8 0] 64, hz64, false, .inr ⟨rfl, hlk, rfl⟩, fun k8 w9 hst hblk => ⟨_, rfl, hz64, hz1, _, hblk, rfl, by rw [hz64]; decide, fun w16 hu y18 hy18 => ⟨fun _ => ?_, fun h => by simp at h⟩⟩⟩
    have hk8 := (hst.new k8 (by simp)).1
    have hf16 : Fr [] w2 w16 := hst.fr.trans hu.fr fun x hx => .inr (by simp at hx; omega)
    have hb16 := hu.blk
    have hss : M.sure[i.toNat]? = some s := by rw [← h.ok.same _ hfr]; exact hs
    refine ⟨_, (hbk.fr hf16 (by simp)).cell 1, l1, g1.fr hf16 (by simp), byteCells s, hlen, ?_, _, rfl, hlen, byteCells_one s, _, hb16, rfl, by rw [sets0 (by rw [hz64]), hlen, hz64]; decide, fun w30 hu2 => hy18 _ ⟨by decide, ?_⟩⟩
    · rcases s1.1 _ _ hss with e | ⟨e, e2⟩
      · exact ⟨true, .inl ⟨rfl, by rw [← hit]; exact e⟩⟩
      · exact ⟨false, .inr ⟨rfl, by rw [← hit]; exact e, by rw [e2, zsec_cells]⟩⟩
    · have hb30 := hu2.blk
      rw [sets0 (xs := byteCells s) (by rw [sets0 (by rw [hz64]), hlen, hz64])] at hb30
      exact fin s k8 w30 hs hk8 (hf16.trans hu2.fr fun x hx => .inr (by simp at hx; omega)) hb30

/-- Arming. -/
def DM.arm (M : DM) (n : Int) : DM × Int := if n < 0 then (M, 1) else if M.dead then (M, 30) else ({ M with left := n }, 0)
theorem arm_c {w : World} {b ms mf : Nat} {M : DM} (h : DiskAt w b ms mf M) {n : Int} (hn : n < 9223372036854775808) : Calls prog 29 #[D b, I64 n] w fun e w' =>
    e = .returned (I64 (M.arm n).2) ∧ Fr [b] w w' ∧ DiskAt w' b ms mf (M.arm n).1 := by
  obtain ⟨lf, hbk, hl⟩ := h.blk
  obtain ⟨l1, g1, s1⟩ := h.sure
  obtain ⟨l2, g2, s2⟩ := h.fresh
  obtain ⟨n1, n2, _⟩ := h.bs
  have le {m n : Nat} (h : Nat.ble m n = true) : m ≤ n := Nat.le_of_ble_eq_true h
  have alive : ¬ n < 0 → ¬ M.dead → ∃ l4, Blk w b l4 ∧ Addr.spot ((⟨b, 0, none⟩ : Addr).add 4) = none ∧ ((⟨b, 0, none⟩ : Addr).add 4).off + 1 ≤ l4.length ∧ ∀ w5, Upd w w5 b (sets l4 4 [.bool true]) →
      ∃ l7, Blk w5 b l7 ∧ Addr.spot ((⟨b, 0, none⟩ : Addr).add 5) = none ∧ ((⟨b, 0, none⟩ : Addr).add 5).off + [I64 n].length ≤ l7.length ∧ ∀ w8, Upd w5 w8 b (sets l7 5 [I64 n]) →
        Ending.returned (I64 0) = .returned (I64 (M.arm n).2) ∧ Fr [b] w w8 ∧ DiskAt w8 b ms mf (M.arm n).1 := fun h0 hd => by
    have hM : M.arm n = ({ M with left := n }, 0) := by unfold DM.arm; rw [if_neg h0, if_neg hd]
    refine ⟨_, hbk, rfl, le rfl, fun w5 hu => ⟨_, hu.blk, rfl, le rfl, fun w8 hu2 => ?_⟩⟩
    rw [hM]
    have hf : Fr [b] w w8 := hu.fr.trans' hu2.fr
    refine ⟨rfl, hf, ⟨h.ok.lo, h.ok.hi, h.ok.now, h.ok.fre, h.ok.s64, h.ok.w64, h.ok.same, by show -1 ≤ n ∧ n < _; omega⟩, h.ne, ⟨n, ?_, fun _ => rfl⟩, ⟨l1, g1.fr hf (by simpa using n1), s1⟩, ⟨l2, g2.fr hf (by simpa using n2), s2⟩⟩
    have e : fields { M with left := n } ms mf n = [I64 M.n, .map (some ms), .map (some mf), I64 M.steps, .bool true, I64 n] := by
      show [_, _, _, _, Value.bool (decide (0 ≤ n)), _] = _
      have : decide (0 ≤ n) = true := decide_eq_true (by omega)
      rw [this]; rfl
    rw [e]
    exact hu2.blk
  refine disk_Disk_Arm.link ⟨fun h0 => ?_, fun h0 y hy => ⟨_, hbk.cell 4, fun ha => ⟨_, hbk.cell 5, hy _ _ ⟨fun h5 => ?_, fun h5 => alive (of_decide_eq_false h0) ?_⟩⟩, fun ha => hy _ _ ⟨fun h => Bool.noConfusion h, fun _ => alive (of_decide_eq_false h0) ?_⟩⟩⟩
  · have : M.arm n = (M, 1) := by unfold DM.arm; rw [if_pos (of_decide_eq_true h0)]
    rw [this]; exact ⟨rfl, Fr.refl _ _, h⟩
  · have ha : 0 ≤ M.left := of_decide_eq_true ha
    have h5 : lf = 0 := of_decide_eq_true h5
    have hd : M.dead := show M.left = 0 by have := hl ha; omega
    have : M.arm n = (M, 30) := by unfold DM.arm; rw [if_neg (of_decide_eq_false h0), if_pos hd]
    rw [this]; exact ⟨rfl, Fr.refl _ _, h⟩
  · have ha : 0 ≤ M.left := of_decide_eq_true ha
    have h5 : ¬ lf = 0 := of_decide_eq_false h5
    exact fun hd : M.left = 0 => h5 (by have := hl ha; omega)
  · have ha : ¬ 0 ≤ M.left := of_decide_eq_false ha
    exact fun hd : M.left = 0 => ha (by omega)

/-- A new one. -/
def DM.fresh0 (n : Nat) : DM := ⟨List.replicate n zsec, List.replicate n zsec, List.replicate n false, 0, -1⟩
theorem DM.fresh0_ok {n : Nat} (h1 : 1 ≤ n) (h2 : n ≤ 4096) : (DM.fresh0 n).Ok := by
  refine ⟨by simpa [DM.fresh0] using h1, by simpa [DM.fresh0] using h2, by simp [DM.fresh0], by simp [DM.fresh0], fun i s hs => ?_, fun i s hs => ?_, fun i hi => rfl, by simp [DM.fresh0]⟩
  · have hs := List.mem_of_getElem? hs
    obtain ⟨_, rfl⟩ := List.mem_replicate.1 hs
    exact zsec_size
  · have hs := List.mem_of_getElem? hs
    obtain ⟨_, rfl⟩ := List.mem_replicate.1 hs
    exact zsec_size
theorem new_c (w : World) (n : Int) : Calls prog 20 #[I64 n] w fun e w' =>
    (n < 1 ∨ 4096 < n → e = .returned (.tuple #[.pointer none, I64 1]) ∧ w' = w) ∧
    (¬ (n < 1 ∨ 4096 < n) → ∃ b ms mf, e = .returned (.tuple #[D b, I64 0]) ∧ (∀ x ∈ [b, ms, mf], w.heap.size ≤ x) ∧ Fr [] w w' ∧ DiskAt w' b ms mf (DM.fresh0 n.toNat)) := by
  have key : ∀ b2, (b2 = true ↔ n < 1 ∨ 4096 < n) → bcase b2 ((n < 1 ∨ 4096 < n → Ending.returned (.tuple #[.pointer none, I64 1]) = .returned (.tuple #[.pointer none, I64 1]) ∧ w = w) ∧ (¬ (n < 1 ∨ 4096 < n) → ∃ b ms mf, Ending.returned (.tuple #[.pointer none, I64 1]) = .returned (.tuple #[D b, I64 0]) ∧ (∀ x ∈ [b, ms, mf], w.heap.size ≤ x) ∧ Fr [] w w ∧ DiskAt w b ms mf (DM.fresh0 n.toNat)))
      (∀ (w4 : World) (k5 : Nat), Step w w4 [] [k5] → w4.heap[k5]? = some (Obj.map #[] 0) → ∀ (w8 : World) (k9 : Nat), Step w4 w8 [] [k9] → w8.heap[k9]? = some (Obj.map #[] 0) → ∀ (k12 : Nat) (w13 : World), Step w8 w13 [] [k12] →
        Blk w13 k12 [I64 n, .map (some k5), .map (some k9), I64 0, .bool false, I64 0] →
        ((n < 1 ∨ 4096 < n → Ending.returned (.tuple #[.pointer (some ⟨k12, 0, none⟩), I64 0]) = .returned (.tuple #[.pointer none, I64 1]) ∧ w13 = w) ∧ (¬ (n < 1 ∨ 4096 < n) → ∃ b ms mf, Ending.returned (.tuple #[.pointer (some ⟨k12, 0, none⟩), I64 0]) = .returned (.tuple #[D b, I64 0]) ∧ (∀ x ∈ [b, ms, mf], w.heap.size ≤ x) ∧ Fr [] w w13 ∧ DiskAt w13 b ms mf (DM.fresh0 n.toNat)))) := fun b2 hb2 =>
    ⟨fun h => ⟨fun _ => ⟨rfl, rfl⟩, fun hn => absurd (hb2.1 h) hn⟩, fun h w4 k5 s1 m1 w8 k9 s2 m2 k12 w13 s3 hb => by
      have hn : ¬ (n < 1 ∨ 4096 < n) := fun hc => by rw [hb2.2 hc] at h; cases h
      have a1 := s1.new k5 (by simp)
      have a2 := s2.new k9 (by simp)
      have a3 := s3.new k12 (by simp)
      have z1 := s1.size
      have z2 := s2.size
      have f13 : Fr [] w w13 := (s1.fr.trans' s2.fr).trans' s3.fr
      refine ⟨fun hc => absurd hc hn, fun _ => ⟨k12, k5, k9, rfl, fun x hx => ?_, f13, ?_⟩⟩
      · simp at hx; rcases hx with rfl | rfl | rfl <;> omega
      · have hnn : (n.toNat : Int) = n := by omega
        have g1 : MapG kenc w13 k5 [] := ((MapG.new (enc := kenc) m1).fr s2.fr (by simp)).fr s3.fr (by simp)
        have g2 : MapG kenc w13 k9 [] := (MapG.new (enc := kenc) m2).fr s3.fr (by simp)
        refine ⟨DM.fresh0_ok (by omega) (by omega), by omega, ⟨0, ?_, fun h => by simp [DM.fresh0] at h⟩, ⟨[], g1, fun i s hs => .inr ⟨rfl, ?_⟩, fun p hp => by cases hp⟩, ⟨[], g2, fun i hi => ?_, fun i hi => rfl, fun p hp => by cases hp⟩⟩
        · have e : fields (DM.fresh0 n.toNat) k5 k9 0 = [I64 n, .map (some k5), .map (some k9), I64 0, .bool false, I64 0] := by
            simp [fields, DM.fresh0, DM.n, hnn]
          rw [e]; exact hb
        · have hs := List.mem_of_getElem? hs
          exact (List.mem_replicate.1 hs).2
        · have hi := List.mem_of_getElem? hi
          have := (List.mem_replicate.1 hi).2
          cases this⟩
  refine disk_New.link fun y hy => ⟨fun h => hy _ _ (key true ?_), fun h => hy _ _ (key _ ?_)⟩
  · have := of_decide_eq_true h; simp [this]
  · have := of_decide_eq_false h; simp [this]

end Go.Proofs.Ytcaamecdhbgknaa.Disk
