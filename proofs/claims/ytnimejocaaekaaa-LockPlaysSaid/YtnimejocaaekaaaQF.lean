/- The locks' reference: hold, grants. -/
import Derived.Test.YtnimejocaaekaaaQE
import Derived.Test.YtnimejocaaekaaaU8
import Derived.Test.YtnimejocaaekaaaC8
namespace Go.Proofs.Ytnimejocaaekaaa.Lock
open Go Go.V
open Go.Proofs.Ytnimejocaaekaaa.VC
open Go.Proofs.Try (prog)
set_option linter.unusedVariables false
set_option linter.unusedSimpArgs false
set_option maxRecDepth 20000

def lcell1 (a : LK) : List Value := [I64 a.s, I64 a.item, .bool a.alone]
theorem flatL : Flat lcell1 3 := ⟨fun _ => rfl, fun a u hu => by simp [lcell1] at hu; rcases hu with rfl | rfl | rfl <;> rfl⟩
theorem lcells_flat (l : List LK) : lcells l = l.flatMap lcell1 := rfl

theorem rhold_c {w : World} {hA : Option Addr} {hC : Nat} {qA : Option Addr} {qL qC : Nat} {l : List LK} (hh : Row w hA (lcells l)) (hl : l.length ≤ 100000) (a : LK) :
    Calls prog 39 #[.agg #[.slice hA l.length hC, .slice qA qL qC], .agg #[I64 a.s, I64 a.item, .bool a.alone]] w fun e w' => Fr [] w w' ∧ ∃ p c, e = .returned (.agg #[.slice p (lhold l a).length c, .slice qA qL qC]) ∧ Row w' p (lcells (lhold l a)) ∧ ∀ ad, p = some ad → w.heap.size ≤ ad.block ∧ ad.block < w'.heap.size := by
  refine rhizomeref16_hold.link fun k1 k2 k3 => ⟨fun m p k c i' n13 n14 b15 w' => ∃ i B : Nat, i' = i ∧ i ≤ l.length ∧ m = l.length - i ∧ n13 = a.s ∧ n14 = a.item ∧ b15 = (a.alone || (l.take i).any fun x => isL a.s a.item x && x.alone) ∧ k = ((l.take i).filter fun x => !isL a.s a.item x).length ∧
    OwnZ w' B 3 p k c (lcells ((l.take i).filter fun x => !isL a.s a.item x)) ∧ Fr [] w w' ∧ w.heap.size ≤ B ∧ (w.heap.size ≤ k1 ∧ k1 < B) ∧ (w.heap.size ≤ k2 ∧ k2 < B) ∧ (w.heap.size ≤ k3 ∧ k3 < B) ∧ B ≤ w'.heap.size, l.length, fun w6 st => ?_, ?_⟩
  · have n6 := g_new3 st
    have := st.fr.size
    exact ⟨0, w6.heap.size, rfl, by omega, rfl, rfl, rfl, by simp, rfl, OwnZ.nil _ _ _, st.fr, by omega, by omega, by omega, by omega, by omega⟩
  rintro m p k c i' n13 n14 b15 w16 ⟨i, B, rfl, hi, rfl, rfl, rfl, rfl, rfl, o, f, hB, h1, h2, h3, hB2⟩
  have hfl := List.length_filter_le (fun x => !isL a.s a.item x) (l.take i)
  rw [List.length_take] at hfl
  refine bc (fun hlt y18 hy18 => ?_) fun hge k59 => ?_
  · have hlt : (i : Int) < (l.length : Int) := of_decide_eq_true hlt
    have hlt' : i < l.length := by omega
    obtain ⟨ad, hp, c0, c1, c2⟩ := lread (hh.old f) hlt'
    have e0 : (i : Int).toNat * 3 = i * 3 := by omega
    refine ⟨ad, hp, ⟨by omega, hlt⟩, _, _, _, ⟨by rw [e0]; exact c0, by rw [e0]; exact c1, by rw [e0]; exact c2, trivial⟩, fun k33 y34 hy34 => ?_⟩
    have next : ∀ bb pp kk cc ww, bb = (a.alone || (l.take (i + 1)).any fun x => isL a.s a.item x && x.alone) → kk = ((l.take (i + 1)).filter fun x => !isL a.s a.item x).length → OwnZ ww B 3 pp kk cc (lcells ((l.take (i + 1)).filter fun x => !isL a.s a.item x)) → Fr [] w ww → B ≤ ww.heap.size → y18 pp kk cc a.s a.item bb ww :=
      fun bb pp kk cc ww hbb hkk ho hf hs => hy18 _ _ _ _ _ _ _ ⟨l.length - (i + 1), by omega, i + 1, B, by rw [wrapi (by omega) (by omega)]; simp, by omega, rfl, rfl, rfl, hbb, hkk, ho, hf, hB, h1, h2, h3, hs⟩
    have main : ∀ bb w', bb = isL a.s a.item l[i] → Step w16 w' [] [k33] → y34 bb w' := fun bb w' hbb st => by
      have f' := f.trans' st.fr
      have o' := o.fr st.fr (fun _ _ => by simp)
      have z' := st.fr.size
      have n33 := g_new1 st
      refine hy34 _ _ (bc (fun ht y37 hy37 => ?_) fun hf k48 => ?_)
      · have fin : ∀ b2, b2 = (a.alone || (l.take (i + 1)).any fun x => isL a.s a.item x && x.alone) → ∀ w44, Step w' w44 [k2] [] → y37 a.s a.item b2 w44 := fun b2 hb2 w44 s44 => hy37 _ _ _ _ (next _ _ _ _ _ hb2 (by rw [take_snoc hlt', List.filter_append, List.length_append, List.filter_cons, ← hbb, ht]; simp)
          (by
            have : (l.take (i + 1)).filter (fun x => !isL a.s a.item x) = (l.take i).filter (fun x => !isL a.s a.item x) := by rw [take_snoc hlt', List.filter_append, List.filter_cons, ← hbb, ht]; simp
            rw [this]
            exact o'.fr s44.fr (fun ad hp => by have := (o.lt hp).1; simp; omega))
          (f'.trans s44.fr (fun x hx => .inr (by rw [List.mem_singleton.1 hx]; exact h2.1))) (by have := s44.fr.size; omega))
        have e : ((l.take (i + 1)).any fun x => isL a.s a.item x && x.alone) = (((l.take i).any fun x => isL a.s a.item x && x.alone) || l[i].alone) := by
          rw [take_snoc hlt', List.any_append]; simp [← hbb, ht]
        refine bc (fun hb => fin true (by rw [e, ← Bool.or_assoc, hb, Bool.true_or])) fun hb => fin _ (by rw [e, ← Bool.or_assoc, hb, Bool.false_or])
      · refine app1 (x := l[i]) (f := lcell1) flatL (u := w) (B := B) o' f' rfl hB (by omega) (fun h => by cases h) (by simp) (fun ad hp => by have := o.lt hp; simp; omega) (by omega) (by omega) fun w2 p2 c2 f2 _ n2 o2 _ => ?_
        have : (l.take (i + 1)).filter (fun x => !isL a.s a.item x) = (l.take i).filter (fun x => !isL a.s a.item x) ++ [l[i]] := by rw [take_snoc hlt', List.filter_append, List.filter_cons, ← hbb, hf]; simp
        refine next _ _ _ _ _ ?_ (by rw [this]) (by rw [this]; exact o2) f2 (by have := (n2 k48 (by simp)).1; have := (n2 k48 (by simp)).2; omega)
        rw [take_snoc hlt', List.any_append]; simp [← hbb, hf]
    refine bc (fun hd w55 st => main _ _ ?_ st) fun hd w57 st => main _ _ ?_ st
    · unfold isL; rw [hd]; rfl
    · unfold isL; rw [hd]; rfl
  · have hge : ¬ (i : Int) < (l.length : Int) := of_decide_eq_false hge
    rw [List.take_of_length_le (by omega)] at o ⊢
    refine app1 (x := ⟨a.s, a.item, a.alone || l.any fun x => isL a.s a.item x && x.alone⟩) (f := lcell1) flatL (u := w) (B := B) o f rfl hB (by omega) (fun h => by cases h) (by simp) (fun ad hp => by have := o.lt hp; simp; omega) (by rw [List.take_of_length_le (by omega)] at hfl; omega) (by rw [List.take_of_length_le (by omega)] at hfl; omega) fun w2 p2 c2 f2 _ n2 o2 _ w64 s64 => ?_
    have F64 := f2.trans s64.fr (fun x hx => by rcases List.mem_cons.1 hx with rfl | hx; exact .inr h3.1; rw [List.mem_singleton.1 hx]; exact .inr h1.1)
    refine ⟨F64, p2, c2, rfl, (o2.fr s64.fr (fun ad hp => by have := (o2.lt hp).1; simp; omega)).row, fun ad hp => by have := (o2.lt hp); have := s64.fr.size; omega⟩

theorem find_take {q : List LK} {item : Int} {i : Nat} (hi : i < q.length) (hit : q[i].item = item) (hno : ∀ a ∈ q.take i, onI item a = false) : q.find? (onI item) = some q[i] ∧ q.eraseP (onI item) = q.take i ++ q.drop (i + 1) := by
  induction q generalizing i with
  | nil => simp at hi
  | cons a q ih =>
    cases i with
    | zero =>
      have : onI item a = true := by simpa [onI] using hit
      simp [List.find?_cons, List.eraseP_cons, this]
    | succ i =>
      have ha : onI item a = false := hno a (by simp)
      have := ih (i := i) (by simpa using hi) (by simpa using hit) (fun b hb => hno b (by simp [hb]))
      rw [List.find?_cons, List.eraseP_cons, ha]
      simp [this.1, this.2]
theorem lgr_enough (i : Int) : ∀ (n : Nat) (h q : List LK), q.length ≤ n → lgr n h q i = lgr q.length h q i := by
  intro n
  induction n with
  | zero => intro h q hq; rw [show q.length = 0 by omega]
  | succ n ih =>
    intro h q hq
    cases hf : q.find? (onI i) with
    | none =>
      rw [lgr, hf]
      cases hl : q.length with
      | zero => rw [lgr]
      | succ m => rw [lgr, hf]
    | some l =>
      have hm : l ∈ q := List.mem_of_find?_eq_some hf
      obtain ⟨m, hl⟩ : ∃ m, q.length = m + 1 := by cases q with
        | nil => cases hm
        | cons a q => exact ⟨q.length, rfl⟩
      have he : (q.eraseP (onI i)).length = m := by
        rw [List.length_eraseP_of_mem hm (List.find?_some hf), hl]; rfl
      rw [hl, lgr, lgr, hf]
      simp only
      rw [ih _ _ (by omega), he]
theorem lhold_len (l : List LK) (a : LK) : (lhold l a).length ≤ l.length + 1 := by
  unfold lhold
  have := List.length_filter_le (fun h => !isL a.s a.item h) l
  simp; omega
def ne2 (p q : Option Addr) : Prop := ∀ ad, p = some ad → ∀ ad', q = some ad' → ad'.block ≠ ad.block
def lowA (w : World) (p : Option Addr) : Prop := ∀ ad, p = some ad → ad.block < w.heap.size
/-- The elder place, or one that was made since. -/
def orNew (w w' : World) (B : Nat) (q p : Option Addr) : Prop := ∀ ad, p = some ad → (q = some ad ∨ B ≤ ad.block) ∧ ad.block < w'.heap.size

set_option maxHeartbeats 1000000 in
theorem rgrants_c {w : World} {hA : Option Addr} {hC : Nat} {qA : Option Addr} {qC : Nat} {h q : List LK} (hh : Row w hA (lcells h)) (hq : Row w qA (lcells q)) (bA : lowA w hA) (bQ : lowA w qA) (hqc : q.length ≤ qC) (hl : h.length + q.length ≤ 90000) (item : Int) :
    Calls prog 35 #[.agg #[.slice hA h.length hC, .slice qA q.length qC], I64 item] w fun e w' => Fr [] w w' ∧ ∃ p1 c1 p2 c2 p3 c3, e = .returned (.tuple #[.agg #[.slice p1 (lgr q.length h q item).1.1.length c1, .slice p2 (lgr q.length h q item).1.2.length c2], .slice p3 (lgr q.length h q item).2.length c3]) ∧
      Row w' p1 (lcells (lgr q.length h q item).1.1) ∧ Row w' p2 (lcells (lgr q.length h q item).1.2) ∧ (lgr q.length h q item).1.2.length ≤ c2 ∧ Row w' p3 ((lgr q.length h q item).2.map I64) ∧ orNew w w' w.heap.size hA p1 ∧ orNew w w' w.heap.size qA p2 ∧
      orNew w w' w.heap.size none p3 ∧ (lgr q.length h q item).1.1.length + (lgr q.length h q item).1.2.length ≤ h.length + q.length ∧ (lgr q.length h q item).2.length ≤ q.length := by
  refine rhizomeref16_grants.link fun k1 k2 => ⟨fun m p8 l8 c8 p11 l11 c11 p14 l14 c14 w' => ∃ (h' q' : List LK) (out : List Int) (B : Nat), m = q'.length ∧ l8 = out.length ∧ l11 = h'.length ∧ l14 = q'.length ∧ q'.length ≤ c14 ∧ (lgr q.length h q item).1 = (lgr q'.length h' q' item).1 ∧ (lgr q.length h q item).2 = out ++ (lgr q'.length h' q' item).2 ∧
    OwnZ w' B 1 p8 out.length c8 (out.map I64) ∧ Row w' p11 (lcells h') ∧ Row w' p14 (lcells q') ∧ Fr [] w w' ∧ w.heap.size ≤ B ∧ (w.heap.size ≤ k1 ∧ k1 < B) ∧ (w.heap.size ≤ k2 ∧ k2 < B) ∧ B ≤ w'.heap.size ∧ ne2 p8 p11 ∧ ne2 p8 p14 ∧
    orNew w w' B hA p11 ∧ orNew w w' B qA p14 ∧ h'.length + q'.length ≤ h.length + q.length ∧ out.length + q'.length ≤ q.length, q.length, fun w5 st => ?_, ?_⟩
  · have n5 := g_new2 st
    have := st.fr.size
    exact ⟨h, q, [], w5.heap.size, rfl, rfl, rfl, rfl, hqc, rfl, rfl, OwnZ.nil _ _ _, hh.old st.fr, hq.old st.fr, st.fr, by omega, by omega, by omega, by omega, fun _ h => (by cases h), fun _ h => (by cases h), fun ad h => ⟨.inl h, by have := bA ad h; omega⟩, fun ad h => ⟨.inl h, by have := bQ ad h; omega⟩, by omega, by simp⟩
  rintro m p8 l8 c8 p11 l11 c11 p14 l14 c14 w17 ⟨h', q', out, B, rfl, rfl, rfl, rfl, hcap, e1, e2, o, r1, r2, f, hB, hk1, hk2, hB2, d1, d2, g1, g2, hs1, hs2⟩
  have out1 : ∀ k, w.heap.size ≤ k ∧ k < B → ∀ ad, p11 = some ad → ad.block ≠ k := fun k hk ad hp => by
    rcases (g1 ad hp).1 with h1 | h1
    · have := bA ad h1; omega
    · omega
  have out2 : ∀ k, w.heap.size ≤ k ∧ k < B → ∀ ad, p14 = some ad → ad.block ≠ k := fun k hk ad hp => by
    rcases (g2 ad hp).1 with h1 | h1
    · have := bQ ad h1; omega
    · omega
  refine ⟨fun m n22 n23 w' => ∃ j : Nat, n23 = j ∧ j ≤ q'.length ∧ m = q'.length - j ∧ w' = w17 ∧ ((n22 = -1 ∧ ∀ a ∈ q'.take j, onI item a = false) ∨ ∃ i : Nat, n22 = i ∧ ∃ hi : i < q'.length, i < j ∧ q'[i].item = item ∧ ∀ a ∈ q'.take i, onI item a = false), q'.length, ⟨0, rfl, by omega, rfl, rfl, .inl ⟨rfl, by simp⟩⟩, ?_⟩
  rintro m n22 n23 w24 ⟨j, rfl, hj, rfl, rfl, hst⟩
  refine bc (fun hlt y26 hy26 y32 hy32 => ?_) fun hge y39 hy39 => ?_
  · have hlt : (j : Int) < (q'.length : Int) := of_decide_eq_true hlt
    have hlt' : j < q'.length := by omega
    have e0 : (j : Int).toNat * 3 = j * 3 := by omega
    have next : ∀ n : Int, ((n = -1 ∧ ∀ a ∈ q'.take (j + 1), onI item a = false) ∨ ∃ i : Nat, n = i ∧ ∃ hi : i < q'.length, i < j + 1 ∧ q'[i].item = item ∧ ∀ a ∈ q'.take i, onI item a = false) → y26 n w24 := fun n hn => hy26 _ _ ⟨q'.length - (j + 1), by omega, j + 1, by rw [wrapi (by omega) (by omega)]; simp, by omega, rfl, rfl, hn⟩
    rcases hst with ⟨rfl, hno⟩ | ⟨i, rfl, hi, hij, hit, hno⟩
    · obtain ⟨ad, hp, c0, cc1, c2⟩ := lread r2 hlt'
      refine bT (by decide) ⟨ad, hp, ⟨by omega, hlt⟩, _, by rw [e0]; exact cc1, hy32 _ _ (bc (fun ht => next _ (.inr ⟨j, rfl, hlt', by omega, of_decide_eq_true ht, hno⟩)) fun hf => next _ (.inl ⟨rfl, fun a ha => ?_⟩))⟩
      rw [take_snoc hlt'] at ha
      rcases List.mem_append.1 ha with ha | ha
      · exact hno a ha
      · rw [List.mem_singleton.1 ha]; exact hf
    · refine bF (by simp) (hy32 _ _ (bF rfl (next _ (.inr ⟨i, rfl, hi, by omega, hit, hno⟩))))
  have hge : ¬ (j : Int) < (q'.length : Int) := of_decide_eq_false hge
  have stop : lgr q'.length h' q' item = ((h', q'), []) → ∀ w41, Fr [] w24 w41 → y39 true w41 := fun hlg w41 f41 => hy39 _ _ (bT rfl fun w42 st => by
    rw [hlg] at e1 e2
    rw [e1, e2]
    have z1 := f41.size
    have z2 := st.fr.size
    have F : Fr [k2] w24 w42 := (f41.mono (fun x hx => by cases hx)).trans' st.fr
    have F0 : Fr [] w w42 := f.trans F (fun x hx => .inr (by rw [List.mem_singleton.1 hx]; exact hk2.1))
    have nb : ∀ ad, p8 = some ad → ad.block ∉ [k2] := fun ad hp => by have := (o.lt hp).1; simp; omega
    refine ⟨F0, p11, c11, p14, c14, p8, c8, by simp; rfl, r1.fr F (fun ad hp => by have := out1 k2 hk2 ad hp; simpa using this), r2.fr F (fun ad hp => by have := out2 k2 hk2 ad hp; simpa using this), hcap, by simpa using (o.fr F nb).row, fun ad hp => ?_, fun ad hp => ?_, fun ad hp => ?_, hs1, by simp; omega⟩
    · have := g1 ad hp; exact ⟨this.1.imp id (by omega), by omega⟩
    · have := g2 ad hp; exact ⟨this.1.imp id (by omega), by omega⟩
    · have := o.lt hp; exact ⟨.inr (by omega), by omega⟩)
  have go : ∀ (i : Nat) (hi : i < q'.length), n22 = i → q'[i].item = item → (∀ a ∈ q'.take i, onI item a = false) → lfits h' q'[i] = true → ∀ w41, Fr [] w24 w41 → y39 false w41 := fun i hi hn hit hno hfit w41 f41 => hy39 _ _ (bF rfl (by
    subst hn
    have e0 : (i : Int).toNat * 3 = i * 3 := by omega
    obtain ⟨ad, hp, c0, cc1, c2⟩ := lread (r2.old f41) hi
    refine ⟨ad, hp, ⟨by omega, by omega⟩, _, _, _, ⟨by rw [e0]; exact c0, by rw [e0]; exact cc1, by rw [e0]; exact c2, trivial⟩, fun k48 => ?_⟩
    have eN : IntKind.wrap .i64 ((i : Int) + 1) = ((i + 1 : Nat) : Int) := by rw [wrapi (by omega) (by omega)]; simp
    have b1 : ((0 : Int) ≤ 0 ∧ (0 : Int) ≤ (i : Int) ∧ (i : Int) ≤ (c14 : Int)) = True := by simp; omega
    have b2 : ((0 : Int) ≤ ((i + 1 : Nat) : Int) ∧ ((i + 1 : Nat) : Int) ≤ (q'.length : Int) ∧ (q'.length : Int) ≤ (c14 : Int)) = True := by simp; omega
    simp only [eN, b1, b2, true_and, and_true, and_self, Int.toNat_natCast, Nat.sub_zero]
    clear stop hst
    intro k49 w50 s50 b49
    have n50 := g_new2 s50
    have z41 := f41.size
    have F50 := f41.trans' s50.fr
    have ow : OwnZ w50 w41.heap.size 3 (some ⟨k49, 0, none⟩) ([] : List LK).length 0 (([] : List LK).flatMap lcell1) := OwnZ.blk b49 rfl (by simp) (by omega)
    have lt1 : (q'.take i).length = i := by simp; omega
    have ld1 : (q'.drop (i + 1)).length = q'.length - (i + 1) := by simp
    refine ⟨(q'.take i).flatMap lcell1, by rw [flatL.len, lt1], by rw [subA_0, ← flatL.take]; exact (r2.old F50).pre _, ?_⟩
    refine appN (ys := []) (zs := q'.take i) flatL lt1.symm (u := w41) (B := w41.heap.size) ow s50.fr rfl (Nat.le_refl _) (by omega) (fun _ => rfl) (by simp) (fun ad hp => by injection hp with hp; subst hp; simp; omega) (by rw [lt1]; simp; omega) (by rw [lt1]; simp; omega) fun w54 p55 c56 F54 G54 _ o54 d54 => ?_
    have nb55 : ∀ ad, p55 = some ad → ad.block ≠ k48 := fun ad hp => by
      rcases d54 ad hp with h1 | h1
      · injection h1 with h1; subst h1; simp; omega
      · omega
    refine ⟨(q'.drop (i + 1)).flatMap lcell1, by rw [flatL.len, ld1], by rw [← flatL.drop]; exact (r2.old (f41.trans' F54)).from (by rw [lcells_len]) hcap, ?_⟩
    refine appN (zs := q'.drop (i + 1)) flatL ld1.symm (u := w41) (B := w41.heap.size) o54 F54 rfl (Nat.le_refl _) (by have := F54.size; omega) (fun _ => rfl) (by simp) (fun ad hp => by have := nb55 ad hp; have := (o54.lt hp).1; simp; omega) (by rw [ld1, List.nil_append, lt1]; omega) (by rw [ld1, List.nil_append, lt1]; omega) fun w59 p60 c61 F59 G59 _ o59 d59 w63 s63 => ?_
    obtain ⟨hfd, her⟩ := find_take hi hit hno
    rw [List.nil_append, ← her] at o59 ⊢
    have z59 := F59.size
    have z54 := G54.size
    have z59b := G59.size
    have z63 := s63.fr.size
    have F63 : Fr [k1] w24 w63 := ((f41.trans' F59).mono (fun x hx => by cases hx)).trans' s63.fr
    have R1 : Row w63 p11 (lcells h') := r1.fr F63 (fun ad hp => by have := out1 k1 hk1 ad hp; simpa using this)
    have o63 := o59.fr s63.fr (fun ad hp => by have := (o59.lt hp).1; simp; omega)
    refine (rhold_c R1 (by omega) q'[i]).mono ?_
    rintro e65 w66 ⟨F66, p67, c67, rfl, r67, g67⟩
    have z66 := F66.size
    refine ⟨p67, _, c67, p60, _, c61, rfl, keepF F66 (by simp; omega), fun k73 => ?_⟩
    have F66' : Fr [k1] w24 w66 := F63.trans F66 (fun x hx => by cases hx)
    have o66 := o.fr F66' (fun ad hp => by have := (o.lt hp).1; simp; omega)
    have F0 : Fr [] w w66 := f.trans F66' (fun x hx => .inr (by rw [List.mem_singleton.1 hx]; exact hk1.1))
    refine appM1 (C := I64) (fun _ => rfl) (x := q'[i].s) o66 F0 rfl hB (by omega) (fun h => by cases h) (by simp; exact hk1) (fun ad hp => by have := o.lt hp; simp; omega) (by omega) (by omega) fun w74 p75 c76 F74 F74' n74 o74 d74 => ?_
    have z74 := (n74 k73 (by simp))
    have hm : q'[i] ∈ q' := List.getElem_mem hi
    have elen : (q'.eraseP (onI item)).length = q'.length - 1 := List.length_eraseP_of_mem hm (List.find?_some hfd)
    have hlg : lgr q'.length h' q' item = ((lgr (q'.eraseP (onI item)).length (lhold h' q'[i]) (q'.eraseP (onI item)) item).1, q'[i].s :: (lgr (q'.eraseP (onI item)).length (lhold h' q'[i]) (q'.eraseP (onI item)) item).2) := by
      obtain ⟨m, hm2⟩ : ∃ m, q'.length = m + 1 := ⟨q'.length - 1, by omega⟩
      rw [elen, hm2, lgr, hfd]
      simp only [if_pos hfit]; rfl
    have hh1 := lhold_len h' q'[i]
    have nd : ∀ pp : Option Addr, (∀ ad, pp = some ad → w41.heap.size ≤ ad.block ∧ ad.block < w66.heap.size) → ne2 p75 pp := fun pp hpp ad hp ad' hp' => by
      have := hpp ad' hp'
      rcases d74 ad hp with h1 | h1
      · have := o.lt h1; omega
      · omega
    have in60 : ∀ ad, p60 = some ad → w41.heap.size ≤ ad.block ∧ ad.block < w66.heap.size := fun ad hp => by have := o59.lt hp; omega
    have in67 : ∀ ad, p67 = some ad → w41.heap.size ≤ ad.block ∧ ad.block < w66.heap.size := fun ad hp => by have := g67 ad hp; omega
    have nb : ∀ pp : Option Addr, (∀ ad, pp = some ad → w41.heap.size ≤ ad.block ∧ ad.block < w66.heap.size) → ∀ ad, pp = some ad → ad.block ∉ [k1] ++ pb p8 := fun pp hpp ad hp => by
      have := hpp ad hp
      rw [List.mem_append, g_mem_pb]
      rintro (h1 | ⟨ad', h1, h2⟩)
      · rw [List.mem_singleton.1 h1] at this; omega
      · have := o.lt h1; omega
    refine ⟨(q'.eraseP (onI item)).length, by omega, lhold h' q'[i], q'.eraseP (onI item), out ++ [q'[i].s], B, rfl, rfl, rfl, rfl, o59.2.1, by rw [e1, hlg], by rw [e2, hlg]; simp, o74, r67.fr F74' (nb _ in67), ((o63.fr F66 (fun _ _ => by simp)).fr F74' (nb _ in60)).row, F74, hB, hk1, hk2, by omega, nd _ in67, nd _ in60, fun ad hp => ?_, fun ad hp => ?_, by omega, by simp; omega⟩
    · have := in67 ad hp; exact ⟨.inr (by omega), by omega⟩
    · have := in60 ad hp; exact ⟨.inr (by omega), by omega⟩))
  rw [List.take_of_length_le (by omega)] at hst
  rcases hst with ⟨rfl, hno⟩ | ⟨i, rfl, hi, hij, hit, hno⟩
  · refine bT (by decide) fun w288 s288 => stop ?_ _ s288.fr
    have hf : q'.find? (onI item) = none := List.find?_eq_none.2 (fun a ha => by rw [hno a ha]; simp)
    cases hl : q'.length with
    | zero => rfl
    | succ n => rw [lgr, hf]
  · refine bF (by simp) ?_
    have e0 : (i : Int).toNat * 3 = i * 3 := by omega
    obtain ⟨ad, hp, c0, cc1, c2⟩ := lread r2 hi
    refine ⟨ad, hp, ⟨by omega, by omega⟩, _, _, _, ⟨by rw [e0]; exact c0, by rw [e0]; exact cc1, by rw [e0]; exact c2, trivial⟩, fun w294 s294 => ?_⟩
    have hb : h'.length ≤ 1000000 := by omega
    have R1 := r1.old s294.fr
    clear r1 r2 out1 out2 d1 d2 g1 g2 o f hh hq bA bQ
    refine (rfit_c (hC := c11) (qA := p14) (qL := q'.length) (qC := c14) R1 hb (q'[i]'hi)).mono ?_
    rintro e296 w297 ⟨F297, rfl⟩
    have z294 := s294.fr.size
    refine ⟨_, rfl, keepF F297 (by simp; omega), ?_⟩
    have F := s294.fr.trans' F297
    cases hfit : lfits h' q'[i] with
    | true => exact go i hi rfl hit hno hfit _ F
    | false =>
      refine stop ?_ _ F
      obtain ⟨hfd, _⟩ := find_take hi hit hno
      obtain ⟨m, hm2⟩ : ∃ m, q'.length = m + 1 := ⟨q'.length - 1, by omega⟩
      rw [hm2, lgr, hfd]
      simp [hfit]
end Go.Proofs.Ytnimejocaaekaaa.Lock
