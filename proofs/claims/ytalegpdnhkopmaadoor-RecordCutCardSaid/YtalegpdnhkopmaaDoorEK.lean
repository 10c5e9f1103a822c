/- Records: the document's form; a change's bytes. -/
import Derived.Test.YtalegpdnhkopmaaDoorEJ
import Derived.Test.YtalegpdnhkopmaaDoorM9
namespace Go.Proofs.YtalegpdnhkopmaaDoor.Rc
open Go Go.V Go.RowKit
open Go.Proofs.YtalegpdnhkopmaaDoor.VC Go.Proofs.YtalegpdnhkopmaaDoor.By Go.Proofs.YtalegpdnhkopmaaDoor.Tree Go.Proofs.YtalegpdnhkopmaaDoor.Ky Go.Proofs.YtalegpdnhkopmaaDoor.Vl
open Go.Proofs.Tryd (prog)
set_option linter.unusedVariables false
set_option linter.unusedSimpArgs false
set_option maxRecDepth 20000

theorem rform_c {w : World} (c : CH) (h1 : c.l.size ≤ 1000000) (h2 : c.key.size ≤ 1000000) (h3 : c.v.s.size ≤ 1000000) : Calls prog 44 #[.agg #[.int .i64 c.k, .int .i64 c.n, .int .i64 c.f, .string c.l, .int .i64 c.t, .string c.key, .int .i64 c.v.k, .int .i64 c.v.n, .string c.v.s]] w fun e w' => e = .returned (.bool (formB c)) ∧ Fr [] w w' := by
  refine rhizomeref15_Form.link fun k1 y2 h2' => ?_
  have main : ∀ (b : Bool) (w9 : World), Fr [] w w9 → k1 < w9.heap.size → (b = true ↔ (c.k = 1 ∨ c.k = 2)) → y2 b w9 := by
    intro b w9 F K hb
    refine h2' _ _ (bc' (fun hbt => ?_) fun hbf y8 h8 => ?_)
    · refine (rnode_c _ _).mono ?_
      rintro e w' ⟨rfl, rfl⟩
      exact ⟨_, rfl, fun _ _ => rfl, by unfold formB; rw [if_pos (hb.1 hbt)], F⟩
    have h12 : ¬ (c.k = 1 ∨ c.k = 2) := fun z => by rw [hb.2 z] at hbf; cases hbf
    have ef : formB c = if c.k = 3 ∨ c.k = 4 then isNode c.f && (isName c.l && isNode c.t) else if c.k = 5 then isNode c.n && (isName c.key && decide (chk c.v = 0)) else if c.k = 6 then isNode c.n && isName c.key else false := by unfold formB; rw [if_neg h12]
    have main2 : ∀ (b : Bool), (b = true ↔ (c.k = 3 ∨ c.k = 4)) → y8 b w9 := by
      intro b hb
      refine h8 _ _ (bc' (fun hbt y11 h11 => ?_) fun hbf => ?_)
      · rw [if_pos (hb.1 hbt)] at ef
        have fin : ∀ b w', b = formB c → Fr [] w w' → y11 b w' := fun b w' hb f => h11 _ _ ⟨by rw [hb], f⟩
        refine (rnode_c _ _).mono ?_
        rintro e w' ⟨rfl, rfl⟩
        refine ⟨_, rfl, fun _ _ => rfl, bc' (fun h => ?_) fun h => fin _ _ (by rw [ef, h]; rfl) F⟩
        rw [h, Bool.true_and] at ef
        refine (rnode_c _ _).mono ?_
        rintro e w' ⟨rfl, rfl⟩
        refine ⟨_, rfl, fun _ _ => rfl, bc' (fun h => ?_) fun h => fin _ _ (by rw [ef, h, Bool.and_false]) F⟩
        rw [h, Bool.and_true] at ef
        refine (name_c _ _ h1).mono ?_
        rintro e w20 ⟨rfl, f20⟩
        exact ⟨_, rfl, keepF f20 (by simpa using K), fin _ _ ef.symm (F.trans' f20)⟩
      have h34 : ¬ (c.k = 3 ∨ c.k = 4) := fun z => by rw [hb.2 z] at hbf; cases hbf
      rw [if_neg h34] at ef
      refine bc' (fun h5 y25 h25 => ?_) fun h5 => bc' (fun h6 y39 h39 => ?_) fun h6 => ⟨by rw [ef, if_neg (of_decide_eq_false h5), if_neg (of_decide_eq_false h6)], F⟩
      · rw [if_pos (of_decide_eq_true h5)] at ef
        have fin : ∀ b w', b = formB c → Fr [] w w' → y25 b w' := fun b w' hb f => h25 _ _ ⟨by rw [hb], f⟩
        refine (rnode_c _ _).mono ?_
        rintro e w' ⟨rfl, rfl⟩
        refine ⟨_, rfl, fun _ _ => rfl, bc' (fun h => ?_) fun h => fin _ _ (by rw [ef, h]; rfl) F⟩
        rw [h, Bool.true_and] at ef
        refine (name_c _ _ h2).mono ?_
        rintro e w29 ⟨rfl, f29⟩
        have F29 := F.trans' f29
        refine ⟨_, rfl, keepF f29 (by simpa using K), bc' (fun h => ?_) fun h => fin _ _ (by rw [ef, h]; rfl) F29⟩
        rw [h, Bool.true_and] at ef
        refine (rcheck_c c.v h3).mono ?_
        rintro e w32 ⟨rfl, f32⟩
        exact ⟨_, rfl, keepF f32 (by have := f29.size; simp; omega), fin _ _ ef.symm (F29.trans' f32)⟩
      · rw [if_neg (of_decide_eq_false h5), if_pos (of_decide_eq_true h6)] at ef
        have fin : ∀ b w', b = formB c → Fr [] w w' → y39 b w' := fun b w' hb f => h39 _ _ ⟨by rw [hb], f⟩
        refine (rnode_c _ _).mono ?_
        rintro e w' ⟨rfl, rfl⟩
        refine ⟨_, rfl, fun _ _ => rfl, bc' (fun h => ?_) fun h => fin _ _ (by rw [ef, h]; rfl) F⟩
        rw [h, Bool.true_and] at ef
        refine (name_c _ _ h2).mono ?_
        rintro e w38 ⟨rfl, f38⟩
        exact ⟨_, rfl, keepF f38 (by simpa using K), fin _ _ ef.symm (F.trans' f38)⟩
    refine bc' (fun h => main2 _ ⟨fun _ => .inl (of_decide_eq_true h), fun _ => rfl⟩) fun h => main2 _ ?_
    have h := of_decide_eq_false h
    rw [decide_eq_true_eq]
    omega
  refine bc' (fun h w44 s44 => main _ _ s44.fr (g_new1 s44).2 ⟨fun _ => .inl (of_decide_eq_true h), fun _ => rfl⟩) fun h w46 s46 => main _ _ s46.fr (g_new1 s46).2 ?_
  have h := of_decide_eq_false h
  rw [decide_eq_true_eq]
  omega

/-! ### a change's bytes -/
def chParts (c : CH) : List Pt := if c.k = 1 ∨ c.k = 2 then [Num c.k, Num c.n] else if c.k = 3 ∨ c.k = 4 then [Num c.k, Num c.f, Str c.l, Num c.t] else [Num c.k, Num c.n, Str c.key]
def keyB (c : CH) : Bs := (chParts c).flatMap kb
def chB (c : CH) : Bs := UInt8.ofNat (keyB c).length :: keyB c ++ (if c.k = 5 then vb c.v else [])
def InC (c : CH) : Prop := IsI c.k ∧ IsI c.n ∧ IsI c.f ∧ IsI c.t ∧ IsI c.v.k ∧ IsI c.v.n
theorem kb_num (n : Int) : (kb (Num n)).length = 9 := rfl
theorem name_bytes {s : ByteArray} (h : isName s = true) : s.size ≤ 16 ∧ 1 ≤ s.size ∧ ∀ b ∈ s.data.toList, b ≠ 0 := by
  unfold isName at h
  simp only [Bool.and_eq_true, decide_eq_true_eq] at h
  refine ⟨h.1.2, h.1.1, fun b hb e => ?_⟩
  have := List.all_eq_true.1 h.2 b hb
  rw [e] at this
  simp [letter] at this
theorem kb_name {s : ByteArray} (h : isName s = true) : (kb (Str s)).length ≤ 19 := by
  obtain ⟨h1, _, h2⟩ := name_bytes h
  show (ks s.data.toList).length ≤ 19
  unfold ks
  rw [esc_plain h2, List.length_cons, List.length_append]
  have : s.data.toList.length = s.size := rfl
  simp; omega
theorem keyB_len {c : CH} (h : formB c = true) : (keyB c).length ≤ 60 := by
  unfold formB at h
  unfold keyB chParts
  split at h
  · rename_i h1
    rw [if_pos h1]; simp [kb_num]
  · rename_i h1
    rw [if_neg h1]
    split at h
    · rename_i h2
      rw [if_pos h2]
      simp only [Bool.and_eq_true] at h
      have := kb_name h.2.1
      simp [kb_num]; omega
    · rename_i h2
      rw [if_neg h2]
      have hk : isName c.key = true := by
        split at h
        · simp only [Bool.and_eq_true] at h; exact h.2.1
        · split at h
          · simp only [Bool.and_eq_true] at h; exact h.2
          · cases h
      have := kb_name hk
      simp [kb_num]; omega
theorem vb_len (v : VL) : (vb v).length ≤ 80 := by
  unfold vb
  split
  · rename_i h
    unfold vbytes
    split
    · simp
    · rename_i h3
      split
      · rename_i h2
        have : v.s.size ≤ 64 := by
          unfold chk at h
          rw [if_neg (by omega), if_neg h3, if_pos h2] at h
          by_cases z : 64 < v.s.size
          · rw [if_pos z] at h; cases h
          · omega
        have e : v.s.data.toList.length = v.s.size := rfl
        simp; omega
      · have := vint_len 10 (zig v.n)
        simp; omega
  · simp
theorem encB_ch {c : CH} (h : formB c = true) : encB (chParts c) = some (keyB c) := by
  have := keyB_len h
  unfold encB
  rw [if_pos (by unfold keyB at this; omega)]; rfl
set_option maxHeartbeats 2000000 in
theorem change_c {w : World} (c : CH) (hT : Tabs w) (hf : formB c = true) (hI : InC c) : Calls prog 100 #[.agg #[.int .i64 c.k, .int .i64 c.n, .int .i64 c.f, .string c.l, .int .i64 c.t, .string c.key, .int .i64 c.v.k, .int .i64 c.v.n, .string c.v.s]] w fun e w' => Fr [] w w' ∧ ∃ p c', e = .returned (.slice p (chB c).length c') ∧ OwnZ w' w.heap.size 1 p (chB c).length c' ((chB c).map U8) := by
  have hkl := keyB_len hf
  refine record_change.link fun k1 w2 s2 => ?_
  have n2 := g_new1 s2
  refine (num_c c.k w2).mono ?_
  rintro e w5 ⟨rfl, f5⟩
  have F5 := s2.fr.trans' f5
  have z5 := f5.size
  refine ⟨_, _, _, rfl, keepF f5 (by simpa using n2.2), fun k9 y10 h10 => ?_⟩
  -- behind the parts
  have fin : ∀ {p : Option Addr} {cp : Nat} {w14 : World}, Fr [] w w14 → k1 < w14.heap.size → Row w14 p ((chParts c).flatMap pcell) → (chParts c).length ≤ 4 → y10 p (chParts c).length cp w14 := by
    intro p cp w14 F K hr hl4
    refine h10 _ _ _ _ ?_
    have ce := encode_c (c := cp) hr (by omega)
    rw [encB_ch hf] at ce
    refine ce.mono ?_
    rintro e w16 ⟨f16, p17, c19, rfl, _, o17⟩
    have z16 := f16.size
    have F16 := F.trans' f16
    refine ⟨_, _, _, _, rfl, keepF f16 (by simpa using K), fun k21 w22 s22 b22 => ?_⟩
    have n22 := g_new1 s22
    have F22 := F16.trans' s22.fr
    have b22 : Blk w22 k21 ([UInt8.ofNat (keyB c).length].map U8) := by
      rw [List.map_cons, List.map_nil, ofNat_U8 _ (by omega)]
      have : IntKind.wrap .u8 ((keyB c).length : Int) = ((keyB c).length : Int) := by rw [IntKind.wrap_u8]; omega
      rw [← this]; exact b22
    have zF := F.size
    have o21 : OwnZ w22 w.heap.size 1 (some ⟨k21, 0, none⟩) [UInt8.ofNat (keyB c).length].length 1 ([UInt8.ofNat (keyB c).length].map U8) := OwnZ.blk (n := 1) b22 rfl (by simp [U8, Value.oneCell']) (by omega)
    have z22 := s22.fr.size
    refine ⟨(keyB c).map U8, by rw [List.length_map]; simp, (o17.old s22.fr).row, ?_⟩
    refine appB (zs := keyB c) (u := w) rfl rfl o21 F22 (Nat.le_refl _) (by omega) rfl (fun _ => rfl) rfl (fun ad hp hin => ?_) (by simp; omega) fun w26 p27 c29 g26 _ _ o26 => ?_
    · injection hp with hp; subst hp; simp at hin; omega
    intro y30 h30
    refine bc' (fun h5 => ?_) fun h5 => ?_
    · have h5 : c.k = 5 := of_decide_eq_true h5
      have K26 : k1 < w26.heap.size := by have := g26.fv.size; omega
      refine (vencode_c c.v (hT.old g26.fu) hI.2.2.2.2.2).mono ?_
      rintro e w38 ⟨f38, p39, c41, rfl, o39⟩
      refine ⟨_, _, _, _, rfl, keepF f38 (by simpa using K26), (vb c.v).map U8, by rw [List.length_map]; simp, o39.row, ?_⟩
      have hvl := vb_len c.v
      have z38 := f38.size
      have z26 := g26.fv.size
      refine appB (zs := vb c.v) (u := w) rfl rfl (o26.fr f38 fun _ _ => by simp) (g26.fu.trans' f38) (Nat.le_refl _) (by omega) rfl (fun _ => rfl) rfl (fun ad hp hin => ?_) (by simp; omega) fun w44 p45 c47 g44 _ _ o44 => ?_
      · simp at hin
        rcases g26.d ad hp with h | h
        · injection h with h; subst h; simp at hin; omega
        · omega
      have e : [UInt8.ofNat (keyB c).length] ++ keyB c ++ vb c.v = chB c := by unfold chB; rw [if_pos h5]; rfl
      rw [e] at o44 ⊢
      exact h30 _ _ _ _ ⟨g44.fu, _, _, rfl, o44⟩
    · have h5 : ¬ c.k = 5 := of_decide_eq_false h5
      have e : [UInt8.ofNat (keyB c).length] ++ keyB c = chB c := by unfold chB; rw [if_neg h5, List.append_nil]; rfl
      rw [e] at o26 ⊢
      exact h30 _ _ _ _ ⟨g26.fu, _, _, rfl, o26⟩
  intro y50 h50
  have main : ∀ (b : Bool) (w52 : World), Fr [] w w52 → k1 < w52.heap.size → w2.heap.size ≤ k9 → k9 < w52.heap.size → (b = true ↔ (c.k = 1 ∨ c.k = 2)) → y50 b w52 := by
    intro b w52 F K K9 K9' hb
    refine h50 _ _ (bc' (fun hbt => ?_) fun hbf y66 h66 => ?_)
    · have ep : chParts c = [Num c.k] ++ [Num c.n] := by unfold chParts; rw [if_pos (hb.1 hbt)]; rfl
      refine (num_c c.n w52).mono ?_
      rintro e w54 ⟨rfl, f54⟩
      have z54 := f54.size
      have zF := F.size
      refine ⟨_, _, _, rfl, keepF f54 (by simp; omega), fun k58 w59 s59 b59 => ?_⟩
      have n59 := g_new1 s59
      have b59 : Blk w59 k9 ([Num c.k].flatMap pcell) := b59
      have o59 : OwnZ w59 w.heap.size 3 (some ⟨k9, 0, none⟩) [Num c.k].length 1 ([Num c.k].flatMap pcell) := OwnZ.blk (n := 1) b59 rfl (flatP.one _) (by have := s2.fr.size; omega)
      have z59 := s59.fr.size
      refine app1 (f := pcell) flatP (x := Num c.n) (u := w) (B := w.heap.size) o59 ((F.trans' f54).trans' s59.fr) rfl (Nat.le_refl _) (by omega) (fun _ => rfl) (by simp) (fun ad hp x hx => ?_) (by simp) (by simp) fun w62 p63 c65 F62 G62 _ o62 _ => ?_
      · injection hp with hp; subst hp; simp at hx; right; rcases hx with rfl | rfl <;> simp <;> omega
      have z62 := G62.size
      rw [← ep] at o62 ⊢
      exact fin F62 (by omega) o62.row (by rw [ep]; simp)
    have h12 : ¬ (c.k = 1 ∨ c.k = 2) := fun z => by rw [hb.2 z] at hbf; cases hbf
    have main2 : ∀ (b : Bool), (b = true ↔ (c.k = 3 ∨ c.k = 4)) → y66 b w52 := by
      intro b hb
      refine h66 _ _ (bc' (fun hbt w69 s69 => ?_) fun hbf w94 s94 => ?_)
      · have ep : chParts c = [Num c.k] ++ [Num c.f, Str c.l, Num c.t] := by unfold chParts; rw [if_neg h12, if_pos (hb.1 hbt)]; rfl
        have zF := F.size
        have z69 := s69.fr.size
        refine (num_c c.f w69).mono ?_
        rintro e w72 ⟨rfl, f72⟩
        have z72 := f72.size
        refine ⟨_, _, _, rfl, keepF f72 (by simp; omega), (str_c c.l w72).mono ?_⟩
        rintro e w77 ⟨rfl, f77⟩
        have z77 := f77.size
        refine ⟨_, _, _, rfl, keepF f77 (by simp; omega), (num_c c.t w77).mono ?_⟩
        rintro e w82 ⟨rfl, f82⟩
        have z82 := f82.size
        refine ⟨_, _, _, rfl, keepF f82 (by simp; omega), fun k86 w87 s87 b87 => ?_⟩
        have n87 := g_new1 s87
        have b87 : Blk w87 k9 ([Num c.k].flatMap pcell) := b87
        have o87 : OwnZ w87 w.heap.size 3 (some ⟨k9, 0, none⟩) [Num c.k].length 1 ([Num c.k].flatMap pcell) := OwnZ.blk (n := 1) b87 rfl (flatP.one _) (by have := s2.fr.size; omega)
        have z87 := s87.fr.size
        refine appN (f := pcell) flatP (zs := [Num c.f, Str c.l, Num c.t]) rfl (u := w) (B := w.heap.size) o87 (((((F.trans' s69.fr).trans' f72).trans' f77).trans' f82).trans' s87.fr) rfl (Nat.le_refl _) (by omega) (fun _ => rfl) (by simp) (fun ad hp x hx => ?_) (by simp) (by simp) fun w62 p63 c65 F62 G62 _ o62 _ => ?_
        · injection hp with hp; subst hp; simp at hx; right; rcases hx with rfl | rfl <;> simp <;> omega
        have z62 := G62.size
        rw [← ep] at o62 ⊢
        exact fin F62 (by omega) o62.row (by rw [ep]; simp)
      · have h34 : ¬ (c.k = 3 ∨ c.k = 4) := fun z => by rw [hb.2 z] at hbf; cases hbf
        have ep : chParts c = [Num c.k] ++ [Num c.n, Str c.key] := by unfold chParts; rw [if_neg h12, if_neg h34]; rfl
        have zF := F.size
        have z94 := s94.fr.size
        refine (num_c c.n w94).mono ?_
        rintro e w97 ⟨rfl, f97⟩
        have z97 := f97.size
        refine ⟨_, _, _, rfl, keepF f97 (by simp; omega), (str_c c.key w97).mono ?_⟩
        rintro e w102 ⟨rfl, f102⟩
        have z102 := f102.size
        refine ⟨_, _, _, rfl, keepF f102 (by simp; omega), fun k106 w107 s107 b107 => ?_⟩
        have n107 := g_new1 s107
        have b107 : Blk w107 k9 ([Num c.k].flatMap pcell) := b107
        have o107 : OwnZ w107 w.heap.size 3 (some ⟨k9, 0, none⟩) [Num c.k].length 1 ([Num c.k].flatMap pcell) := OwnZ.blk (n := 1) b107 rfl (flatP.one _) (by have := s2.fr.size; omega)
        have z107 := s107.fr.size
        refine appN (f := pcell) flatP (zs := [Num c.n, Str c.key]) rfl (u := w) (B := w.heap.size) o107 ((((F.trans' s94.fr).trans' f97).trans' f102).trans' s107.fr) rfl (Nat.le_refl _) (by omega) (fun _ => rfl) (by simp) (fun ad hp x hx => ?_) (by simp) (by simp) fun w62 p63 c65 F62 G62 _ o62 _ => ?_
        · injection hp with hp; subst hp; simp at hx; right; rcases hx with rfl | rfl <;> simp <;> omega
        have z62 := G62.size
        rw [← ep] at o62 ⊢
        exact fin F62 (by omega) o62.row (by rw [ep]; simp)
    refine bc' (fun h => main2 _ ⟨fun _ => .inl (of_decide_eq_true h), fun _ => rfl⟩) fun h => main2 _ ?_
    have h := of_decide_eq_false h
    rw [decide_eq_true_eq]
    omega
  refine bc' (fun h w118 s118 => main _ _ (F5.trans' s118.fr) (by have := s118.fr.size; omega) (by have := (g_new1 s118).1; omega) (g_new1 s118).2 ⟨fun _ => .inl (of_decide_eq_true h), fun _ => rfl⟩) fun h w120 s120 => main _ _ (F5.trans' s120.fr) (by have := s120.fr.size; omega) (by have := (g_new1 s120).1; omega) (g_new1 s120).2 ?_
  have h := of_decide_eq_false h
  rw [decide_eq_true_eq]
  omega
end Go.Proofs.YtalegpdnhkopmaaDoor.Rc
