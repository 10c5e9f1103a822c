/- Copying a map into another; making all sure. -/
import Derived.Test.YtcaamecdhbgknaaD4
namespace Go.Proofs.Ytcaamecdhbgknaa.Disk
open Go Go.V
open Go.Proofs.Ytcaamecdhbgknaa.VC
open Go.Proofs.Try (prog)
set_option linter.unusedVariables false
set_option linter.unusedSimpArgs false
set_option maxRecDepth 20000

theorem isT_sec {s : ByteArray} (h : s.size = 64) : IsT prog 107 (sec s) := by
  have e : IsT prog 107 (sec s) = ∃ l : List Value, l.length = 64 ∧ Value.agg l.toArray = sec s := by kernel_rfl
  rw [e]
  exact ⟨byteCells s, by rw [byteCells_length, h], rfl⟩

/-- All values are sectors. -/
def Secs (l : List (Int × Value)) : Prop := ∀ p ∈ l, ∃ s : ByteArray, s.size = 64 ∧ p.2 = sec s

/-- What a map holds once another was copied over it. -/
def Over (l1 l2 l : List (Int × Value)) : Prop := (∀ k, V.look l k = match V.look l2 k with | some x => some x | none => V.look l1 k) ∧ ∀ p ∈ l, p ∈ l1 ∨ p ∈ l2

theorem copy_c {w : World} {ms mf : Nat} {l1 l2 : List (Int × Value)} (h1 : MapG kenc w ms l1) (h2 : MapG kenc w mf l2) (hne : ms ≠ mf) (hs : Secs l2) :
    Calls prog 59 #[.map (some ms), .map (some mf)] w fun e w' => e = .returned (.tuple #[]) ∧ Fr [ms] w w' ∧ ∃ l, MapG kenc w' ms l ∧ Over l1 l2 l := by
  have hms := h1.lt
  have hmf := h2.lt
  refine maps_Copy_g.link ⟨l2, h2, fun w2 k3 st hit => ?_⟩
  have hk3 := (st.new k3 (by simp)).1
  have hsz2 := st.size
  let I : Nat → World → Prop := fun n w' => ∃ done l, n = rest l2 done ∧ IterO kenc w' k3 (some mf) l2 done ∧ MapG kenc w' ms l ∧ Fr [ms] w w' ∧ w2.heap.size ≤ w'.heap.size ∧
    (∀ k, V.look l k = if k ∈ done then V.look l2 k else V.look l1 k) ∧ (∀ p ∈ l, p ∈ l1 ∨ p ∈ l2) ∧ ∀ k ∈ done, V.look l2 k ≠ none
  refine ⟨I, rest l2 [], ⟨[], l1, rfl, hit, h1.fr st.fr (by simp), st.fr.mono (fun x hx => by cases hx), Nat.le_refl _, fun k => by simp, fun p hp => .inl hp, fun k hk => by cases hk⟩, fun n w9 hI => ?_⟩
  obtain ⟨done, l, rfl, it, hm, hf, hsz, hl, hin, hdn⟩ := hI
  refine ⟨some mf, l2, done, it, fun p hp => ?_, fun k x hx hmem hnd w21 is it21 hcur => ⟨fun _ => ?_, fun h => by cases h⟩, fun hall w48 is it48 => ⟨(fun h => by cases h), fun _ => ?_⟩⟩
  · obtain ⟨s, h64, e⟩ := hs p hp
    rw [e]; exact isT_sec h64
  · obtain ⟨s, h64, e⟩ := hs _ hmem
    have e : Value.agg x.toArray = sec s := e
    have ex : x = byteCells s := by
      injection e with e
      simpa using congrArg Array.toList e
    subst ex
    have hz64 : (reps [Value.int .u8 0] 64).length = 64 := by rw [reps_length]; rfl
    have hc64 : (byteCells s).length = 64 := hx
    refine ⟨k, byteCells s, hx, hcur, fun k27 w28 st28 hb28 => ⟨byteCells s, rfl, hx, byteCells_one s, _, hb28, rfl, by rw [hc64, hz64]; decide, fun w35 hu => ⟨byteCells s, hx, fun k' hk' => ?_, ms, l, rfl, ?_, fun w42 hmu => ?_⟩⟩⟩
    · have hb := hu.blk
      rw [sets0 (by rw [hc64, hz64])] at hb
      show w35.cell? ((⟨k27, 0, none⟩ : Addr).add k') = _
      rw [add_mk, hb.cell, Nat.zero_add]
    · have hk27 := (st28.new k27 (by simp)).1
      have z9 := is.size
      refine ((hm.fr is.fr (by simp; omega)).fr st28.fr (by simp)).fr hu.fr ?_
      have := hm.lt
      simp; omega
    · have hk27 := (st28.new k27 (by simp)).1
      have z9 := is.size
      have z28 := st28.size
      have z35 := hu.size
      have z42 := hmu.size
      have hmlt := hm.lt
      have f28 : Fr [k3] w9 w28 := is.fr.trans st28.fr (fun x hx => by cases hx)
      have f35 : Fr [k3] w9 w35 := f28.trans hu.fr (fun x hx => .inr (by simp at hx; omega))
      have f42 : Fr [k3, ms] w9 w42 := (f35.mono (fun x hx => .inl (by simp at hx; simp [hx]))).trans hmu.fr (fun x hx => .inl (by simp at hx; simp [hx]))
      refine ⟨rest l2 (k :: done), rest_lt hmem hnd, k :: done, _, rfl, ?_, hmu.map, ?_, by omega, fun k' => ?_, fun p hp => ?_, fun k' hk' => ?_⟩
      · have it35 : IterO kenc w35 k3 (some mf) l2 (k :: done) := (it21.fr st28.fr (by simp) (fun b hb => by simp)).fr hu.fr (by
          have : k3 < w28.heap.size := by
            have := (st.new k3 (by simp)).2
            omega
          have : k3 < w9.heap.size := by
            have := (st.new k3 (by simp)).2
            omega
          simp; omega) (fun b hb => by injection hb with hb; subst hb; have := hf.size; simp; omega)
        exact it35.fr hmu.fr (by simp; omega) (fun b hb => by injection hb with hb; subst hb; simpa using hne.symm)
      · exact hf.trans f42 (fun x hx => by
          simp at hx
          rcases hx with rfl | rfl
          · exact .inr hk3
          · exact .inl (by simp))
      · rw [look_updM, hl k']
        by_cases hk : k' = k
        · subst hk
          rw [if_pos rfl, if_pos List.mem_cons_self]
          exact (look_of_mem h2.nodup hmem).symm
        · rw [if_neg hk]
          by_cases hd : k' ∈ done
          · rw [if_pos hd, if_pos (List.mem_cons_of_mem _ hd)]
          · rw [if_neg hd, if_neg (fun h => by rcases List.mem_cons.1 h with h | h; exact hk h; exact hd h)]
      · rcases mem_updM hp with rfl | hp
        · exact .inr hmem
        · exact hin p hp
      · rcases List.mem_cons.1 hk' with rfl | hk'
        · rw [look_of_mem h2.nodup hmem]; intro h; cases h
        · exact hdn k' hk'
  · have hmlt := hm.lt
    refine ⟨rfl, hf.trans is.fr (fun x hx => .inr (by simp at hx; omega)), l, hm.fr is.fr (by simp; omega), fun k => ?_, hin⟩
    rw [hl k]
    cases e : V.look l2 k with
    | none => rw [if_neg (fun h => hdn k h e)]
    | some x =>
      have : k ∈ done := hall _ (look_mem e)
      rw [if_pos this]

/-- All is sure. -/
def DM.flushed (M : DM) : DM := { M.stepped with sure := M.now, fresh := List.replicate M.sure.length false }
def DM.flush (M : DM) : DM × Int := if M.dead then (M, 30) else (M.flushed, 0)
theorem DM.Ok.flushed {M : DM} (h : M.Ok) : M.flushed.Ok := by
  refine ⟨by show 1 ≤ M.now.length; rw [h.now]; exact h.lo, by show M.now.length ≤ _; rw [h.now]; exact h.hi, rfl, by show (List.replicate _ _).length = M.now.length; rw [h.now, List.length_replicate], h.w64, h.w64, fun i _ => rfl, h.stepped.lft⟩

theorem FreshL.secs {M : DM} (hok : M.Ok) {l : List (Int × Value)} (h : FreshL M l) (hn : (l.map (·.1)).Nodup) : Secs l := fun p hp => by
  have hmem : p.1 ∈ M.unsure := (h.keys hok hn).mem_iff.1 (List.mem_map.2 ⟨p, hp, rfl⟩)
  obtain ⟨i, hi, h1, h2⟩ := DM.mem_unsure.1 hmem
  obtain ⟨s, hs, hl⟩ := h.1 i h2
  refine ⟨s, hok.w64 i s hs, ?_⟩
  have := look_of_mem hn (show (p.1, p.2) ∈ l from hp)
  rw [hi, hl] at this
  injection this with this
  exact this.symm

theorem flush_c {w : World} {b ms mf : Nat} {M : DM} (h : DiskAt w b ms mf M) : Calls prog 27 #[D b] w fun e w' =>
    e = .returned (I64 M.flush.2) ∧ Fr [b, ms, mf] w w' ∧ DiskAt w' b ms mf M.flush.1 := by
  refine disk_Disk_Flush.link ((step_c h).mono ?_)
  rintro e w2 ⟨hdead, hlive⟩
  by_cases hdd : M.dead
  · obtain ⟨rfl, rfl⟩ := hdead hdd
    have : M.flush = (M, 30) := by unfold DM.flush; rw [if_pos hdd]
    refine ⟨_, rfl, fun y hy => ⟨fun h => by simp at h, fun _ => hy _ ?_⟩⟩
    rw [this]; exact ⟨rfl, Fr.refl _ _, h⟩
  · obtain ⟨rfl, hf, hD⟩ := hlive hdd
    have hM : M.flush = (M.flushed, 0) := by unfold DM.flush; rw [if_neg hdd]
    refine ⟨_, rfl, fun y hy => ⟨fun _ => ?_, fun h => by simp at h⟩⟩
    obtain ⟨lf, hbk, hl⟩ := hD.blk
    obtain ⟨l1, g1, s1⟩ := hD.sure
    obtain ⟨l2, g2, s2⟩ := hD.fresh
    obtain ⟨n1, n2, _⟩ := h.bs
    refine ⟨_, hbk.cell 1, _, hbk.cell 2, fun w10 st => ?_⟩
    refine (copy_c (g1.fr st.fr (by simp)) (g2.fr st.fr (by simp)) h.ne (s2.secs hD.ok g2.nodup)).mono ?_
    rintro e w13 ⟨rfl, hf13, l, hm, hov⟩
    have hb13 := (hbk.fr st.fr (by simp)).fr hf13 (by simpa using n1.symm)
    refine ⟨rfl, _, hb13.cell 2, mf, l2, rfl, (g2.fr st.fr (by simp)).fr hf13 (by simpa using h.ne.symm), fun w17 hmu => hy _ ?_⟩
    rw [hM]
    have f10 : Fr [b] w w10 := hf.trans st.fr (fun x hx => by cases hx)
    have f13 : Fr [b, ms, mf] w w13 := (f10.mono (G := [b, ms, mf]) (fun x hx => .inl (by simp at hx; simp [hx]))).trans hf13 (fun x hx => .inl (by simp at hx; simp [hx]))
    have f17 : Fr [b, ms, mf] w w17 := f13.trans hmu.fr (fun x hx => .inl (by simp at hx; simp [hx]))
    refine ⟨rfl, f17, h.ok.flushed, h.ne, ⟨lf, ?_, hl⟩, ⟨l, hm.fr hmu.fr (by simpa using h.ne), ?_⟩, ⟨[], hmu.map, ?_⟩⟩
    · have e : fields M.flushed ms mf lf = fields M.stepped ms mf lf := by
        have : M.flushed.n = M.stepped.n := by show (M.now.length : Int) = (M.sure.length : Int); rw [h.ok.now]
        show [I64 M.flushed.n, _, _, _, _, _] = _
        rw [this]; rfl
      rw [e]
      exact hb13.fr hmu.fr (by simpa using n2.symm)
    · refine ⟨fun i s hi => ?_, fun p hp => ?_⟩
      · have hi : M.now[i]? = some s := hi
        have hlt : i < M.now.length := (List.getElem?_eq_some_iff.1 hi).1
        have hfl : i < M.fresh.length := by rw [h.ok.fre, ← h.ok.now]; exact hlt
        rw [hov.1 (i : Int)]
        cases e : M.fresh[i] with
        | true =>
          obtain ⟨t, ht, hlk⟩ := s2.1 i (by show M.fresh[i]? = _; rw [List.getElem?_eq_getElem hfl, e])
          have ht : M.now[i]? = some t := ht
          rw [hi] at ht; injection ht with ht; subst ht
          rw [hlk]; exact .inl rfl
        | false =>
          have hfr : M.fresh[i]? = some false := by rw [List.getElem?_eq_getElem hfl, e]
          rw [s2.2.1 i hfr]
          exact s1.1 i s (by show M.sure[i]? = _; rw [← h.ok.same i hfr]; exact hi)
      · have hn : M.flushed.n = M.stepped.n := by show (M.now.length : Int) = (M.sure.length : Int); rw [h.ok.now]
        rw [hn]
        rcases hov.2 p hp with hp | hp
        · exact s1.2 p hp
        · exact s2.2.2 p hp
    · refine ⟨fun i hi => ?_, fun i hi => rfl, fun p hp => by cases hp⟩
      have hi := List.mem_of_getElem? hi
      have := (List.mem_replicate.1 hi).2
      cases this

end Go.Proofs.Ytcaamecdhbgknaa.Disk
