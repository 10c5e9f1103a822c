/- The locks, plain: what a table's model always is stays behind Ask and Release. -/
import Derived.Test.YtnimejocaaekaaaQ7
namespace Go.Proofs.Ytnimejocaaekaaa.Lock
open Go Go.V
set_option linter.unusedVariables false
set_option linter.unusedSimpArgs false

theorem fits_hold {H : Holders} {x a : AskM} (h : fits (hold H x) a) : fits H a := fun s al hs hne => by
  by_cases he : s = x.1
  · have := h s (((H s).getD false) || x.2) (by unfold hold; rw [if_pos he]) hne
    rw [hs] at this
    simp at this
    exact ⟨this.1.1, this.2⟩
  · exact h s al (by unfold hold; rw [if_neg he]; exact hs) hne
theorem putQ_perm (H : Holders) (Q : List AskM) (a : AskM) : (putQ H Q a).Perm (a :: Q) := by
  unfold putQ
  have h1 : (Q.take (placeQ H Q a.1) ++ [a] ++ Q.drop (placeQ H Q a.1)).Perm ([a] ++ Q.take (placeQ H Q a.1) ++ Q.drop (placeQ H Q a.1)) := List.Perm.append_right _ List.perm_append_comm
  refine h1.trans ?_
  rw [List.append_assoc, List.take_append_drop]
  exact List.Perm.refl _
theorem mem_putQ {H : Holders} {Q : List AskM} {a x : AskM} : x ∈ putQ H Q a ↔ x = a ∨ x ∈ Q := by
  rw [(putQ_perm H Q a).mem_iff, List.mem_cons]

theorem TOk.empty : TOk (fun _ => none) (fun _ => IM.none) :=
  ⟨fun s i => ⟨fun h => (by cases h), fun ⟨al, h⟩ => (by cases h)⟩, fun i => List.nodup_nil, fun i a ha => (by cases ha), fun i s al h => (by cases h), fun i a q h => (by cases h)⟩

theorem ask_ok {W : Int → Option Int} {M : Int → IM} (ok : TOk W M) (s i : Int) (alone : Bool) : TOk (ask W M s i alone).1 (ask W M s i alone).2.1 := by
  unfold ask
  split
  · exact ok
  rename_i hs
  split
  · exact ok
  rename_i hW
  have hWs : W s = none := by
    cases h : W s with
    | none => rfl
    | some x => rw [h] at hW; exact absurd rfl hW
  split
  · exact ok
  split
  · rename_i hf
    refine ⟨fun t j => ?_, fun j => ?_, fun j a ha => ?_, fun j t al h => ?_, fun j a q h => ?_⟩
    · show W t = some j ↔ ∃ al, (t, al) ∈ (setM M i ⟨hold (M i).H (s, alone), (M i).Q⟩ j).Q
      rw [ok.one t j]; unfold setM; split
      · rename_i e; rw [e]
      · rfl
    · show ((setM M i ⟨hold (M i).H (s, alone), (M i).Q⟩ j).Q.map (·.1)).Nodup
      unfold setM; split
      · exact ok.nd i
      · exact ok.nd j
    · have ha : a ∈ (setM M i ⟨hold (M i).H (s, alone), (M i).Q⟩ j).Q := ha
      unfold setM at ha; split at ha
      · exact ok.rq i a ha
      · exact ok.rq j a ha
    · have h : (setM M i ⟨hold (M i).H (s, alone), (M i).Q⟩ j).H t = some al := h
      unfold setM at h; split at h
      · have h : hold (M i).H (s, alone) t = some al := h
        unfold hold at h; split at h
        · rename_i e; have e : t = s := e; omega
        · exact ok.rh i t al h
      · exact ok.rh j t al h
    · have h : (setM M i ⟨hold (M i).H (s, alone), (M i).Q⟩ j).Q = a :: q := h
      show ¬ fits (setM M i ⟨hold (M i).H (s, alone), (M i).Q⟩ j).H a
      unfold setM at h ⊢; split at h
      · rename_i e; rw [if_pos e]; exact fun hh => ok.head i a q h (fits_hold hh)
      · rename_i e; rw [if_neg e]; exact ok.head j a q h
  · rename_i hno
    have hsQ : ∀ j al, (s, al) ∉ (M j).Q := fun j al hm => by
      have := (ok.one s j).2 ⟨al, hm⟩
      rw [hWs] at this; cases this
    refine ⟨fun t j => ?_, fun j => ?_, fun j a ha => ?_, fun j t al h => ?_, fun j a q h => ?_⟩
    · show setW W s (some i) t = some j ↔ ∃ al, (t, al) ∈ (setM M i ⟨(M i).H, putQ (M i).H (M i).Q (s, alone)⟩ j).Q
      unfold setW setM
      by_cases ht : t = s
      · subst ht
        rw [if_pos rfl]
        by_cases hj : j = i
        · subst hj; rw [if_pos rfl]
          exact ⟨fun _ => ⟨alone, mem_putQ.2 (.inl rfl)⟩, fun _ => rfl⟩
        · rw [if_neg hj]
          exact ⟨fun e => absurd (Option.some.inj e).symm hj, fun ⟨al, hm⟩ => absurd hm (hsQ j al)⟩
      · rw [if_neg ht, ok.one t j]
        by_cases hj : j = i
        · subst hj; rw [if_pos rfl]
          refine ⟨fun ⟨al, hm⟩ => ⟨al, mem_putQ.2 (.inr hm)⟩, fun ⟨al, hm⟩ => ?_⟩
          rcases mem_putQ.1 hm with e | e
          · exact absurd (Prod.mk.inj e).1 ht
          · exact ⟨al, e⟩
        · rw [if_neg hj]
    · show ((setM M i ⟨(M i).H, putQ (M i).H (M i).Q (s, alone)⟩ j).Q.map (·.1)).Nodup
      unfold setM; split
      · refine (((putQ_perm (M i).H (M i).Q (s, alone)).map (·.1)).nodup_iff).2 (List.nodup_cons.2 ⟨fun hm => ?_, ok.nd i⟩)
        obtain ⟨x, hx, e⟩ := List.mem_map.1 hm
        have hxe : (s, x.2) = x := by rw [← show x.1 = s from e]
        exact hsQ i x.2 (by rw [hxe]; exact hx)
      · exact ok.nd j
    · have ha : a ∈ (setM M i ⟨(M i).H, putQ (M i).H (M i).Q (s, alone)⟩ j).Q := ha
      unfold setM at ha; split at ha
      · rcases mem_putQ.1 ha with e | e
        · rw [e]; show 1 ≤ s ∧ s ≤ 16; omega
        · exact ok.rq i a e
      · exact ok.rq j a ha
    · have h : (setM M i ⟨(M i).H, putQ (M i).H (M i).Q (s, alone)⟩ j).H t = some al := h
      unfold setM at h; split at h
      · exact ok.rh i t al h
      · exact ok.rh j t al h
    · have h : (setM M i ⟨(M i).H, putQ (M i).H (M i).Q (s, alone)⟩ j).Q = a :: q := h
      show ¬ fits (setM M i ⟨(M i).H, putQ (M i).H (M i).Q (s, alone)⟩ j).H a
      unfold setM at h ⊢; split at h
      · rename_i e; rw [if_pos e]
        show ¬ fits (M i).H a
        have h : putQ (M i).H (M i).Q (s, alone) = a :: q := h
        unfold putQ at h
        cases hp : placeQ (M i).H (M i).Q (s, alone).1 with
        | zero =>
          rw [hp] at h
          have ha : (s, alone) = a := by simpa using (List.cons.inj h).1
          rw [← ha]
          intro hf
          refine hno ⟨hf, ?_⟩
          unfold placeQ at hp
          split at hp
          · rename_i hh; exact .inl hh
          · exact .inr (List.length_eq_zero_iff.1 hp)
        | succ k =>
          rw [hp] at h
          cases hQ : (M i).Q with
          | nil => have := placeQ_le (M i).H (M i).Q (s, alone).1; rw [hp, hQ] at this; simp at this
          | cons b Q' =>
            rw [hQ] at h
            have ha : b = a := by simpa using (List.cons.inj h).1
            rw [← ha]; exact ok.head i b Q' hQ
      · rename_i e; rw [if_neg e]; exact ok.head j a q h

theorem grant_spec : ∀ (q : List AskM) (H : Holders), ∃ tk, q = tk ++ (grant H q).1.Q ∧ (grant H q).2 = tk.map (·.1) ∧ (∀ a r, (grant H q).1.Q = a :: r → ¬ fits (grant H q).1.H a) ∧ ∀ t al, (grant H q).1.H t = some al → (∃ al', H t = some al') ∨ t ∈ tk.map (·.1)
  | [], H => ⟨[], rfl, rfl, fun a r h => (by cases h), fun t al h => .inl ⟨al, h⟩⟩
  | a :: q, H => by
    unfold grant
    split
    · obtain ⟨tk, h1, h2, h3, h4⟩ := grant_spec q (hold H a)
      refine ⟨a :: tk, by simpa using h1, by simp [h2], h3, fun t al h => ?_⟩
      rcases h4 t al h with ⟨al', h5⟩ | h5
      · unfold hold at h5; split at h5
        · rename_i e; right; rw [List.map_cons, e]; exact List.mem_cons_self
        · exact .inl ⟨al', h5⟩
      · right; rw [List.map_cons]; exact List.mem_cons_of_mem _ h5
    · rename_i hf
      exact ⟨[], rfl, rfl, fun b r h => by
        have h : a :: q = b :: r := h
        rw [← (List.cons.inj h).1]; exact hf, fun t al h => .inl ⟨al, h⟩⟩

/-- What a session's giving up leaves of an item. -/
theorem relI_spec {W : Int → Option Int} {M : Int → IM} (ok : TOk W M) (s i : Int) : ∃ tk, ((M i).Q.filter fun a => !decide (a.1 = s)) = tk ++ (relI M s i).1.Q ∧ (relI M s i).2 = tk.map (·.1) ∧ (∀ a r, (relI M s i).1.Q = a :: r → ¬ fits (relI M s i).1.H a) ∧ ∀ t al, (relI M s i).1.H t = some al → ((∃ al', (M i).H t = some al') ∧ t ≠ s) ∨ t ∈ tk.map (·.1) := by
  unfold relI
  split
  · obtain ⟨tk, h1, h2, h3, h4⟩ := grant_spec ((M i).Q.filter fun a => !decide (a.1 = s)) (drop (M i).H s)
    refine ⟨tk, h1, h2, h3, fun t al h => ?_⟩
    rcases h4 t al h with ⟨al', h5⟩ | h5
    · unfold drop at h5; split at h5
      · cases h5
      · rename_i e; exact .inl ⟨⟨al', h5⟩, e⟩
    · exact .inr h5
  · rename_i hn
    refine ⟨[], ?_, rfl, fun a r h => ok.head i a r h, fun t al h => .inl ⟨⟨al, h⟩, fun e => hn (.inl (by rw [← e, h]; rfl))⟩⟩
    rw [List.nil_append]
    exact List.filter_eq_self.2 fun a ha => by
      simp; exact fun e => hn (.inr ⟨a, ha, e⟩)

theorem rel_ok {W : Int → Option Int} {M : Int → IM} (ok : TOk W M) {s : Int} {K : List Int} (hK : ∀ i, inv M s i → i ∈ K) : TOk (relW W s (outs M s K)) (relM M s K) := by
  have uni : ∀ i, relM M s K i = (relI M s i).1 := fun i => by
    unfold relM
    split
    · rfl
    · rename_i hn; unfold relI; rw [if_neg (fun h => hn (hK i h))]
  have out : ∀ t, t ∈ outs M s K ↔ ∃ i, t ∈ (relI M s i).2 := fun t => by
    unfold outs
    rw [List.mem_flatMap]
    refine ⟨fun ⟨i, _, h⟩ => ⟨i, h⟩, fun ⟨i, h⟩ => ⟨i, ?_, h⟩⟩
    refine hK i ?_
    unfold relI at h
    split at h
    · assumption
    · cases h
  have mem : ∀ i t al, (t, al) ∈ (relI M s i).1.Q → (t, al) ∈ (M i).Q ∧ t ≠ s ∧ t ∉ (relI M s i).2 := fun i t al h => by
    obtain ⟨tk, h1, h2, _⟩ := relI_spec ok s i
    have hf : (t, al) ∈ (M i).Q.filter fun a => !decide (a.1 = s) := by rw [h1]; exact List.mem_append_right _ h
    obtain ⟨h3, h4⟩ := List.mem_filter.1 hf
    refine ⟨h3, by simpa using h4, fun hm => ?_⟩
    rw [h2] at hm
    obtain ⟨b, hb, e⟩ := List.mem_map.1 hm
    have hnd : (((M i).Q.filter fun a => !decide (a.1 = s)).map (·.1)).Nodup := (List.filter_sublist.map _).nodup (ok.nd i)
    rw [h1, List.map_append] at hnd
    exact (List.nodup_append.1 hnd).2.2 _ (List.mem_map.2 ⟨b, hb, rfl⟩) _ (List.mem_map.2 ⟨_, h, rfl⟩) e
  have back : ∀ i t al, (t, al) ∈ (M i).Q → t ≠ s → t ∉ (relI M s i).2 → (t, al) ∈ (relI M s i).1.Q := fun i t al h hne hn => by
    obtain ⟨tk, h1, h2, _⟩ := relI_spec ok s i
    have hf : (t, al) ∈ (M i).Q.filter fun a => !decide (a.1 = s) := List.mem_filter.2 ⟨h, by simpa using hne⟩
    rw [h1] at hf
    rcases List.mem_append.1 hf with h3 | h3
    · exact absurd (by rw [h2]; exact List.mem_map.2 ⟨_, h3, rfl⟩) hn
    · exact h3
  have took : ∀ i t, t ∈ (relI M s i).2 → ∃ al, (t, al) ∈ (M i).Q := fun i t h => by
    obtain ⟨tk, h1, h2, _⟩ := relI_spec ok s i
    rw [h2] at h
    obtain ⟨b, hb, rfl⟩ := List.mem_map.1 h
    have : b ∈ (M i).Q.filter fun a => !decide (a.1 = s) := by rw [h1]; exact List.mem_append_left _ hb
    exact ⟨b.2, (List.mem_filter.1 this).1⟩
  refine ⟨fun t j => ?_, fun j => ?_, fun j a ha => ?_, fun j t al h => ?_, fun j a q h => ?_⟩
  · rw [uni]
    unfold relW
    constructor
    · intro h
      split at h
      · cases h
      · rename_i hn
        obtain ⟨al, hm⟩ := (ok.one t j).1 h
        exact ⟨al, back j t al hm (fun e => hn (.inl e)) (fun hm => hn (.inr ((out t).2 ⟨j, hm⟩)))⟩
    · rintro ⟨al, hm⟩
      obtain ⟨h1, h2, h3⟩ := mem j t al hm
      have hW := (ok.one t j).2 ⟨al, h1⟩
      rw [if_neg, hW]
      rintro (e | e)
      · exact h2 e
      · obtain ⟨k, hk⟩ := (out t).1 e
        obtain ⟨al', h4⟩ := took k t hk
        have := (ok.one t k).2 ⟨al', h4⟩
        rw [hW] at this
        obtain rfl := Option.some.inj this
        exact h3 hk
  · rw [uni]
    obtain ⟨tk, h1, _⟩ := relI_spec ok s j
    have hnd : (((M j).Q.filter fun a => !decide (a.1 = s)).map (·.1)).Nodup := (List.filter_sublist.map _).nodup (ok.nd j)
    rw [h1, List.map_append] at hnd
    exact (List.nodup_append.1 hnd).2.1
  · rw [uni] at ha
    exact ok.rq j a (mem j a.1 a.2 ha).1
  · rw [uni] at h
    obtain ⟨tk, h1, h2, _, h4⟩ := relI_spec ok s j
    rcases h4 t al h with ⟨⟨al', h5⟩, _⟩ | h5
    · exact ok.rh j t al' h5
    · obtain ⟨al', h6⟩ := took j t (by rw [h2]; exact h5)
      exact ok.rq j _ h6
  · rw [uni] at h ⊢
    obtain ⟨tk, _, _, h3, _⟩ := relI_spec ok s j
    exact h3 a q h
end Go.Proofs.Ytnimejocaaekaaa.Lock
