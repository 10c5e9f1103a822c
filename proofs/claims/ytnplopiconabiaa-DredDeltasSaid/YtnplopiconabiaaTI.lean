/- Dred: walk over two sets, Apply. -/
import Derived.Test.YtnplopiconabiaaTH
namespace Go.Proofs.Ytnplopiconabiaa.Dred
open Go Go.V
open Go.Proofs.Ytnplopiconabiaa.VC
open Go.Proofs.Ytnplopiconabiaa.Span
open Go.Proofs.Try (prog)
set_option linter.unusedVariables false
set_option linter.unusedSimpArgs false
set_option maxRecDepth 20000

/-- Those of A that are not in B; and those that are. -/
def offZ (A B : List ZP) : List ZP := A.filter fun z => decide (z.2 ∉ B.map (·.2))
def inZ (A B : List ZP) : List ZP := A.filter fun z => decide (z.2 ∈ B.map (·.2))
theorem mem_off {A B : List ZP} {x : PI} : x ∈ (offZ A B).map (·.2) ↔ x ∈ A.map (·.2) ∧ x ∉ B.map (·.2) := by
  constructor
  · intro h
    obtain ⟨z, hz, rfl⟩ := List.mem_map.1 h
    obtain ⟨h1, h2⟩ := List.mem_filter.1 hz
    exact ⟨List.mem_map_of_mem h1, of_decide_eq_true h2⟩
  · rintro ⟨h1, h2⟩
    obtain ⟨z, hz, rfl⟩ := List.mem_map.1 h1
    exact List.mem_map_of_mem (f := fun z : ZP => z.2) (List.mem_filter.2 ⟨hz, decide_eq_true h2⟩)
/-- Two rows of one's own that lie apart. -/
def Ap (p q : Option Addr) : Prop := ∀ a b, p = some a → q = some b → a.block ≠ b.block
theorem Ap.symm {p q : Option Addr} (h : Ap p q) : Ap q p := fun a b ha hb e => h b a hb ha e.symm
theorem Ap.nil (p : Option Addr) : Ap none p := fun a b ha hb => by cases ha
theorem Ap.step {v : World} {B l c : Nat} {xs : List Value} {p p' q : Option Addr} (h : Ap p q) (o : OwnZ v B 1 q l c xs) (d : ∀ ad, p' = some ad → p = some ad ∨ v.heap.size ≤ ad.block) : Ap p' q := fun a b ha hb => by
  have hq := (o.lt hb).2
  rcases d a ha with h1 | h1
  · exact h a b h1 hb
  · omega
theorem Ap.stay {v w : World} {B l c : Nat} {xs : List Value} {p q : Option Addr} (h : Ap p q) (o : OwnZ v B 1 q l c xs) (f : Fr ([] ++ pb p) v w) : OwnZ w B 1 q l c xs := o.fr f fun ad hp hx => by
  rw [List.nil_append] at hx
  obtain ⟨a, ha, e⟩ := (g_mem_pb _ _).1 hx
  exact h a ad ha hp e

/-- Where the walk over two sets stands. -/
structure WI (w : World) (A B A1 a B1 b : List ZP) (pl : Option Addr) (cl : Nat) (pm : Option Addr) (cm : Nat) (pr : Option Addr) (cr : Nat) (w' : World) : Prop where
  eA : A = A1 ++ a
  eB : B = B1 ++ b
  hx : ∀ x ∈ A1, ∀ y ∈ b, plt x.2 y.2
  hy : ∀ y ∈ B1, ∀ x ∈ a, plt y.2 x.2
  ol : OwnZ w' w.heap.size 1 pl (offZ A1 B).length cl ((offZ A1 B).map tz)
  om : OwnZ w' w.heap.size 1 pm (inZ A1 B).length cm ((inZ A1 B).map tz)
  or' : OwnZ w' w.heap.size 1 pr (offZ B1 A).length cr ((offZ B1 A).map tz)
  ap1 : Ap pl pm
  ap2 : Ap pl pr
  ap3 : Ap pm pr
  fr : Fr [] w w'
  sA : (A.map (·.2)).Pairwise plt
  sB : (B.map (·.2)).Pairwise plt
  lA : A.length ≤ 100000
  lB : B.length ≤ 100000
section
variable {w v v1 : World} {A B A1 a B1 b : List ZP} {pl pm pr : Option Addr} {cl cm cr : Nat}
theorem WI.old (h : WI w A B A1 a B1 b pl cl pm cm pr cr v) (f : Fr [] v v1) : WI w A B A1 a B1 b pl cl pm cm pr cr v1 :=
  { h with ol := h.ol.fr f (fun _ _ => by simp), om := h.om.fr f (fun _ _ => by simp), or' := h.or'.fr f (fun _ _ => by simp), fr := h.fr.trans' f }
theorem sort_split {X X1 x : List ZP} (h : (X.map (·.2)).Pairwise plt) (e : X = X1 ++ x) : (∀ u ∈ X1, ∀ y ∈ x, plt u.2 y.2) ∧ (x.map (·.2)).Pairwise plt := by
  rw [e, List.map_append, List.pairwise_append] at h
  exact ⟨fun u hu y hy => h.2.2 _ (List.mem_map_of_mem (f := fun z : ZP => z.2) hu) _ (List.mem_map_of_mem (f := fun z : ZP => z.2) hy), h.2.1⟩
theorem WI.lens (h : WI w A B A1 a B1 b pl cl pm cm pr cr v) : (offZ A1 B).length ≤ 100000 ∧ (inZ A1 B).length ≤ 100000 ∧ (offZ B1 A).length ≤ 100000 := by
  have h1 : (offZ A1 B).length ≤ A1.length := List.length_filter_le _ _
  have h2 : (inZ A1 B).length ≤ A1.length := List.length_filter_le _ _
  have h3 : (offZ B1 A).length ≤ B1.length := List.length_filter_le _ _
  have e1 := congrArg List.length h.eA
  have e2 := congrArg List.length h.eB
  rw [List.length_append] at e1 e2
  have := h.lA
  have := h.lB
  omega
theorem off_snoc {A1 B : List ZP} {z : ZP} (h : z.2 ∉ B.map (·.2)) : offZ A1 B ++ [z] = offZ (A1 ++ [z]) B ∧ inZ A1 B = inZ (A1 ++ [z]) B := by
  unfold offZ inZ
  rw [List.filter_append, List.filter_append]
  rw [List.filter_cons_of_pos (by simpa using h), List.filter_cons_of_neg (by simpa using h)]
  simp
theorem in_snoc {A1 B : List ZP} {z : ZP} (h : z.2 ∈ B.map (·.2)) : inZ A1 B ++ [z] = inZ (A1 ++ [z]) B ∧ offZ A1 B = offZ (A1 ++ [z]) B := by
  unfold offZ inZ
  rw [List.filter_append, List.filter_append]
  rw [List.filter_cons_of_pos (by simpa using h), List.filter_cons_of_neg (by simpa using h)]
  simp
theorem not_in {X X1 x : List ZP} {z : ZP} (e : X = X1 ++ x) (h1 : ∀ u ∈ X1, plt u.2 z.2) (h2 : ∀ u ∈ x, plt z.2 u.2) : z.2 ∉ X.map (·.2) := fun h => by
  obtain ⟨y, hy, e2⟩ := List.mem_map.1 h
  rw [e] at hy
  rcases List.mem_append.1 hy with h3 | h3
  · have := h1 y h3
    rw [e2] at this; exact plt_irrefl _ this
  · have := h2 y h3
    rw [e2] at this; exact plt_irrefl _ this
theorem WI.left {z : ZP} {k : Nat} (h : WI w A B A1 (z :: a) B1 b pl cl pm cm pr cr v) (hz : ∀ y ∈ b, plt z.2 y.2) :
    appendP false [] [k] [k] v pl (offZ A1 B).length cl 1 [tz z] 1 24 [.slice none 0 0] fun w' p l c => l = (offZ (A1 ++ [z]) B).length ∧ (inZ A1 B).length = (inZ (A1 ++ [z]) B).length ∧ WI w A B (A1 ++ [z]) a B1 b p c pm cm pr cr w' := by
  have hl := h.lens
  have zF := h.fr.size
  refine appM1 (C := tz) (fun _ => rfl) (x := z) (u := w) (B := w.heap.size) h.ol h.fr rfl (Nat.le_refl _) zF (fun h => by cases h) (by simp) (fun ad hp x hx => .inl hx) (by omega) (by omega) fun w32 p33 c35 F32 G32 _ o32 d32 => ?_
  obtain ⟨es, es2⟩ := off_snoc (A1 := A1) (not_in h.eB (fun u hu => h.hy u hu z (by simp)) hz)
  have om := h.ap1.stay h.om G32
  rw [es] at o32 ⊢
  refine ⟨rfl, by rw [← es2], ?_⟩
  rw [es2] at om
  exact { h with eA := by rw [h.eA]; simp, hx := fun x hx y hy => (List.mem_append.1 hx).elim (fun h1 => h.hx x h1 y hy) (fun h1 => by rw [List.mem_singleton.1 h1]; exact hz y hy), hy := fun y hy x hx => h.hy y hy x (by simp [hx]), ol := o32, om := om, or' := h.ap2.stay h.or' G32, ap1 := h.ap1.step h.om d32, ap2 := h.ap2.step h.or' d32, fr := F32 }
theorem WI.right {z : ZP} {k : Nat} (h : WI w A B A1 a B1 (z :: b) pl cl pm cm pr cr v) (hz : ∀ x ∈ a, plt z.2 x.2) :
    appendP false [] [k] [k] v pr (offZ B1 A).length cr 1 [tz z] 1 24 [.slice none 0 0] fun w' p l c => l = (offZ (B1 ++ [z]) A).length ∧ WI w A B A1 a (B1 ++ [z]) b pl cl pm cm p c w' := by
  have hl := h.lens
  have zF := h.fr.size
  refine appM1 (C := tz) (fun _ => rfl) (x := z) (u := w) (B := w.heap.size) h.or' h.fr rfl (Nat.le_refl _) zF (fun h => by cases h) (by simp) (fun ad hp x hx => .inl hx) (by omega) (by omega) fun w32 p33 c35 F32 G32 _ o32 d32 => ?_
  obtain ⟨es, es2⟩ := off_snoc (A1 := B1) (not_in h.eA (fun u hu => h.hx u hu z (by simp)) hz)
  rw [es] at o32 ⊢
  refine ⟨rfl, ?_⟩
  exact { h with eB := by rw [h.eB]; simp, hy := fun x hx y hy => (List.mem_append.1 hx).elim (fun h1 => h.hy x h1 y hy) (fun h1 => by rw [List.mem_singleton.1 h1]; exact hz y hy), hx := fun y hy x hx => h.hx y hy x (by simp [hx]), ol := h.ap2.symm.stay h.ol G32, om := h.ap3.symm.stay h.om G32, or' := o32, ap2 := (h.ap2.symm.step h.ol d32).symm, ap3 := (h.ap3.symm.step h.om d32).symm, fr := F32 }
theorem WI.both {z y : ZP} {k : Nat} (h : WI w A B A1 (z :: a) B1 (y :: b) pl cl pm cm pr cr v) (he : z.2 = y.2) :
    appendP false [] [k] [k] v pm (inZ A1 B).length cm 1 [tz z] 1 24 [.slice none 0 0] fun w' p l c => l = (inZ (A1 ++ [z]) B).length ∧ (offZ A1 B).length = (offZ (A1 ++ [z]) B).length ∧ (offZ B1 A).length = (offZ (B1 ++ [y]) A).length ∧ WI w A B (A1 ++ [z]) a (B1 ++ [y]) b pl cl p c pr cr w' := by
  have hl := h.lens
  have zF := h.fr.size
  refine appM1 (C := tz) (fun _ => rfl) (x := z) (u := w) (B := w.heap.size) h.om h.fr rfl (Nat.le_refl _) zF (fun h => by cases h) (by simp) (fun ad hp x hx => .inl hx) (by omega) (by omega) fun w32 p33 c35 F32 G32 _ o32 d32 => ?_
  have hzB : z.2 ∈ B.map (·.2) := by rw [he, h.eB]; simp
  have hyA : y.2 ∈ A.map (·.2) := by rw [← he, h.eA]; simp
  obtain ⟨es, es2⟩ := in_snoc (A1 := A1) hzB
  obtain ⟨_, es3⟩ := in_snoc (A1 := B1) hyA
  obtain ⟨q1, q2⟩ := sort_split h.sA h.eA
  obtain ⟨q3, q4⟩ := sort_split h.sB h.eB
  rw [List.map_cons, List.pairwise_cons] at q2 q4
  rw [es] at o32 ⊢
  have ol := h.ap1.symm.stay h.ol G32
  have or' := h.ap3.stay h.or' G32
  refine ⟨rfl, by rw [← es2], by rw [← es3], ?_⟩
  rw [es2] at ol
  rw [es3] at or'
  refine { h with eA := by rw [h.eA]; simp, eB := by rw [h.eB]; simp, hx := fun x hx y' hy => ?_, hy := fun y' hy x hx => ?_, ol := ol, om := o32, or' := or', ap1 := (h.ap1.symm.step h.ol d32).symm, ap3 := h.ap3.step h.or' d32, fr := F32 }
  · rcases List.mem_append.1 hx with h1 | h1
    · exact h.hx x h1 y' (by simp [hy])
    · rw [List.mem_singleton.1 h1, he]; exact q4.1 _ (List.mem_map_of_mem (f := fun z : ZP => z.2) hy)
  · rcases List.mem_append.1 hy with h1 | h1
    · exact h.hy y' h1 x (by simp [hx])
    · rw [List.mem_singleton.1 h1, ← he]; exact q2.1 _ (List.mem_map_of_mem (f := fun z : ZP => z.2) hx)
end
theorem row_head {w : World} {p : Option Addr} {z : ZP} {a : List ZP} (h : Row w p ((z :: a).map tz)) : ∃ ad, p = some ad ∧ w.cell? (ad.add 0) = some (tz z) := by
  obtain ⟨ad, hp⟩ := h.has (by simp)
  exact ⟨ad, hp, h.get hp (by simp)⟩
theorem row_tail {w : World} {p : Option Addr} {z : ZP} {a : List ZP} {c : Nat} (h : Row w p ((z :: a).map tz)) (hc : a.length + 1 ≤ c) : Row w (subA p 1 c 1) (a.map tz) := by
  have := h.cut (lo := 1) (hi := a.length + 1) (c := c) (sz := 1) hc
  simpa [List.take_of_length_le] using this

set_option maxHeartbeats 2000000 in
theorem twalk_c {w : World} {p q : Option Addr} {cp cq : Nat} {A B : List ZP} (hA : SetAt w p A) (hB : SetAt w q B) (lA : A.length ≤ 100000) (lB : B.length ≤ 100000) (hcp : A.length ≤ cp) (hcq : B.length ≤ cq) :
    Calls prog 63 #[.slice p A.length cp, .slice q B.length cq] w fun e w' => Fr [] w w' ∧ ∃ p1 c1 p2 c2 p3 c3, e = .returned (.tuple #[.slice p1 (offZ A B).length c1, .slice p2 (inZ A B).length c2, .slice p3 (offZ B A).length c3]) ∧ Row w' p1 ((offZ A B).map tz) := by
  refine tuple_walk.link ⟨fun m pa la ca pq lb cb pl ll cl pm lm cm pr lr cr w' => ∃ A1 a B1 b : List ZP, la = a.length ∧ lb = b.length ∧ la ≤ ca ∧ lb ≤ cb ∧ m = a.length + b.length ∧ Row w pa (a.map tz) ∧ Row w pq (b.map tz) ∧ ll = (offZ A1 B).length ∧ lm = (inZ A1 B).length ∧ lr = (offZ B1 A).length ∧ WI w A B A1 a B1 b pl cl pm cm pr cr w', A.length + B.length, ⟨[], A, [], B, rfl, rfl, hcp, hcq, rfl, hA.row, hB.row, rfl, rfl, rfl, ⟨rfl, rfl, by simp, by simp, OwnZ.nil _ _ _, OwnZ.nil _ _ _, OwnZ.nil _ _ _, Ap.nil _, Ap.nil _, Ap.nil _, Fr.refl _ _, hA.sort, hB.sort, lA, lB⟩⟩, ?_⟩
  rintro m pa la ca pq lb cb pl ll cl pm lm cm pr lr cr w19 ⟨A1, a, B1, b, rfl, rfl, hca, hcb, rfl, ra, rb, rfl, rfl, rfl, h⟩ y21 h21
  have hl := h.lens
  have tup : ∀ {w' : World}, Fr [] w19 w' → ∀ x, x ∈ a ∨ x ∈ b → TupO w' x.1 x.2 := fun f x hx => by
    rcases hx with hx | hx
    · exact (hA.tups _ (by rw [h.eA]; simp [hx])).fr (h.fr.trans' f) (by simp)
    · exact (hB.tups _ (by rw [h.eB]; simp [hx])).fr (h.fr.trans' f) (by simp)
  cases a with
  | nil =>
    cases b with
    | nil =>
      have e1 : A1 = A := by rw [h.eA]; simp
      have e2 : B1 = B := by rw [h.eB]; simp
      subst e1; subst e2
      exact bF rfl (h21 _ _ (bF rfl ⟨h.fr, _, _, _, _, _, _, rfl, h.ol.row⟩))
    | cons z b =>
      replace hcb : b.length + 1 ≤ cb := hcb
      refine bF rfl (h21 _ _ (bT (by first | rfl | (simp only [List.length_cons, List.length_nil, decide_eq_true_eq, decide_eq_false_iff_not, ge_iff_le]; omega) | (simp only [List.length_cons, List.length_nil, decide_eq_true_eq, decide_eq_false_iff_not, ge_iff_le]; done) | omega) fun y24 h24 => bT rfl (h24 _ _ (bF (by decide) (bT (by decide) ?_)))))
      obtain ⟨ad, hp, hc⟩ := row_head (rb.old h.fr)
      refine ⟨ad, hp, ⟨by omega, (by first | rfl | (simp only [List.length_cons, List.length_nil, decide_eq_true_eq, decide_eq_false_iff_not, ge_iff_le]; omega) | (simp only [List.length_cons, List.length_nil, decide_eq_true_eq, decide_eq_false_iff_not, ge_iff_le]; done) | omega)⟩, _, _, _, hc, ⟨by omega, (by first | rfl | (simp only [List.length_cons, List.length_nil, decide_eq_true_eq, decide_eq_false_iff_not, ge_iff_le]; omega) | (simp only [List.length_cons, List.length_nil, decide_eq_true_eq, decide_eq_false_iff_not, ge_iff_le]; done) | omega), (by first | rfl | (simp only [List.length_cons, List.length_nil, decide_eq_true_eq, decide_eq_false_iff_not, ge_iff_le]; omega) | (simp only [List.length_cons, List.length_nil, decide_eq_true_eq, decide_eq_false_iff_not, ge_iff_le]; done) | omega)⟩, fun k => appendP_mono (h.right (k := k) (by simp)) ?_⟩
      rintro w' p l c ⟨rfl, h'⟩
      exact ⟨b.length, (by first | rfl | (simp only [List.length_cons, List.length_nil, decide_eq_true_eq, decide_eq_false_iff_not, ge_iff_le]; omega) | (simp only [List.length_cons, List.length_nil, decide_eq_true_eq, decide_eq_false_iff_not, ge_iff_le]; done) | omega), A1, [], B1 ++ [z], b, rfl, (by first | rfl | (simp only [List.length_cons, List.length_nil, decide_eq_true_eq, decide_eq_false_iff_not, ge_iff_le]; omega) | (simp only [List.length_cons, List.length_nil, decide_eq_true_eq, decide_eq_false_iff_not, ge_iff_le]; done) | omega), hca, (by first | rfl | (simp only [List.length_cons, List.length_nil, decide_eq_true_eq, decide_eq_false_iff_not, ge_iff_le]; omega) | (simp only [List.length_cons, List.length_nil, decide_eq_true_eq, decide_eq_false_iff_not, ge_iff_le]; done) | omega), (by first | rfl | (simp only [List.length_cons, List.length_nil, decide_eq_true_eq, decide_eq_false_iff_not, ge_iff_le]; omega) | (simp only [List.length_cons, List.length_nil, decide_eq_true_eq, decide_eq_false_iff_not, ge_iff_le]; done) | omega), ra, row_tail rb hcb, rfl, rfl, rfl, h'⟩
  | cons x a =>
    replace hca : a.length + 1 ≤ ca := hca
    have sa := (sort_split h.sA h.eA).2
    have sb := (sort_split h.sB h.eB).2
    rw [List.map_cons, List.pairwise_cons] at sa
    obtain ⟨adx, hpx, _⟩ := row_head ra
    cases b with
    | nil =>
      refine bT (by first | rfl | (simp only [List.length_cons, List.length_nil, decide_eq_true_eq, decide_eq_false_iff_not, ge_iff_le]; omega) | (simp only [List.length_cons, List.length_nil, decide_eq_true_eq, decide_eq_false_iff_not, ge_iff_le]; done) | omega) (h21 _ _ (bT rfl fun y24 h24 => bF (by first | rfl | (simp only [List.length_cons, List.length_nil, decide_eq_true_eq, decide_eq_false_iff_not, ge_iff_le]; omega) | (simp only [List.length_cons, List.length_nil, decide_eq_true_eq, decide_eq_false_iff_not, ge_iff_le]; done) | omega) (bT rfl (h24 _ _ (bT (by decide) ?_)))))
      obtain ⟨ad, hp, hc⟩ := row_head (ra.old h.fr)
      refine ⟨ad, hp, ⟨by omega, (by first | rfl | (simp only [List.length_cons, List.length_nil, decide_eq_true_eq, decide_eq_false_iff_not, ge_iff_le]; omega) | (simp only [List.length_cons, List.length_nil, decide_eq_true_eq, decide_eq_false_iff_not, ge_iff_le]; done) | omega)⟩, _, _, _, hc, ⟨by omega, (by first | rfl | (simp only [List.length_cons, List.length_nil, decide_eq_true_eq, decide_eq_false_iff_not, ge_iff_le]; omega) | (simp only [List.length_cons, List.length_nil, decide_eq_true_eq, decide_eq_false_iff_not, ge_iff_le]; done) | omega), (by first | rfl | (simp only [List.length_cons, List.length_nil, decide_eq_true_eq, decide_eq_false_iff_not, ge_iff_le]; omega) | (simp only [List.length_cons, List.length_nil, decide_eq_true_eq, decide_eq_false_iff_not, ge_iff_le]; done) | omega)⟩, fun k => appendP_mono (h.left (k := k) (by simp)) ?_⟩
      rintro w' p l c ⟨rfl, e2, h'⟩
      exact ⟨a.length, (by first | rfl | (simp only [List.length_cons, List.length_nil, decide_eq_true_eq, decide_eq_false_iff_not, ge_iff_le]; omega) | (simp only [List.length_cons, List.length_nil, decide_eq_true_eq, decide_eq_false_iff_not, ge_iff_le]; done) | omega), A1 ++ [x], a, B1, [], (by first | rfl | (simp only [List.length_cons, List.length_nil, decide_eq_true_eq, decide_eq_false_iff_not, ge_iff_le]; omega) | (simp only [List.length_cons, List.length_nil, decide_eq_true_eq, decide_eq_false_iff_not, ge_iff_le]; done) | omega), rfl, (by first | rfl | (simp only [List.length_cons, List.length_nil, decide_eq_true_eq, decide_eq_false_iff_not, ge_iff_le]; omega) | (simp only [List.length_cons, List.length_nil, decide_eq_true_eq, decide_eq_false_iff_not, ge_iff_le]; done) | omega), hcb, (by first | rfl | (simp only [List.length_cons, List.length_nil, decide_eq_true_eq, decide_eq_false_iff_not, ge_iff_le]; omega) | (simp only [List.length_cons, List.length_nil, decide_eq_true_eq, decide_eq_false_iff_not, ge_iff_le]; done) | omega), row_tail ra hca, rb, rfl, e2, rfl, h'⟩
    | cons y b =>
      replace hcb : b.length + 1 ≤ cb := hcb
      rw [List.map_cons, List.pairwise_cons] at sb
      refine bT (by first | rfl | (simp only [List.length_cons, List.length_nil, decide_eq_true_eq, decide_eq_false_iff_not, ge_iff_le]; omega) | (simp only [List.length_cons, List.length_nil, decide_eq_true_eq, decide_eq_false_iff_not, ge_iff_le]; done) | omega) (h21 _ _ (bT rfl fun y24 h24 => bF (by first | rfl | (simp only [List.length_cons, List.length_nil, decide_eq_true_eq, decide_eq_false_iff_not, ge_iff_le]; omega) | (simp only [List.length_cons, List.length_nil, decide_eq_true_eq, decide_eq_false_iff_not, ge_iff_le]; done) | omega) (bF (by first | rfl | (simp only [List.length_cons, List.length_nil, decide_eq_true_eq, decide_eq_false_iff_not, ge_iff_le]; omega) | (simp only [List.length_cons, List.length_nil, decide_eq_true_eq, decide_eq_false_iff_not, ge_iff_le]; done) | omega) ?_)))
      obtain ⟨ad, hp, hc⟩ := row_head (ra.old h.fr)
      obtain ⟨ad2, hp2, hc2⟩ := row_head (rb.old h.fr)
      refine ⟨ad, hp, ⟨by omega, (by first | rfl | (simp only [List.length_cons, List.length_nil, decide_eq_true_eq, decide_eq_false_iff_not, ge_iff_le]; omega) | (simp only [List.length_cons, List.length_nil, decide_eq_true_eq, decide_eq_false_iff_not, ge_iff_le]; done) | omega)⟩, _, _, _, hc, ad2, hp2, ⟨by omega, (by first | rfl | (simp only [List.length_cons, List.length_nil, decide_eq_true_eq, decide_eq_false_iff_not, ge_iff_le]; omega) | (simp only [List.length_cons, List.length_nil, decide_eq_true_eq, decide_eq_false_iff_not, ge_iff_le]; done) | omega)⟩, _, _, _, hc2, fun w67 s67 => ?_⟩
      refine (cmp_v (tup s67.fr x (by simp)) (tup s67.fr y (by simp))).mono ?_
      rintro e69 w70 ⟨rfl, rfl⟩
      refine ⟨_, rfl, h24 _ _ ?_⟩
      have h := h.old s67.fr
      obtain ⟨ad, hp, hc⟩ := row_head (ra.old h.fr)
      obtain ⟨ad2, hp2, hc2⟩ := row_head (rb.old h.fr)
      refine bc (fun hn => ?_) fun hn => bc (fun hn2 => ?_) fun hn2 => ?_
      · have hn := (pcmp_lt _ _).1 (of_decide_eq_true hn)
        refine ⟨ad, hp, ⟨by omega, (by first | rfl | (simp only [List.length_cons, List.length_nil, decide_eq_true_eq, decide_eq_false_iff_not, ge_iff_le]; omega) | (simp only [List.length_cons, List.length_nil, decide_eq_true_eq, decide_eq_false_iff_not, ge_iff_le]; done) | omega)⟩, _, _, _, hc, ⟨by omega, (by first | rfl | (simp only [List.length_cons, List.length_nil, decide_eq_true_eq, decide_eq_false_iff_not, ge_iff_le]; omega) | (simp only [List.length_cons, List.length_nil, decide_eq_true_eq, decide_eq_false_iff_not, ge_iff_le]; done) | omega), (by first | rfl | (simp only [List.length_cons, List.length_nil, decide_eq_true_eq, decide_eq_false_iff_not, ge_iff_le]; omega) | (simp only [List.length_cons, List.length_nil, decide_eq_true_eq, decide_eq_false_iff_not, ge_iff_le]; done) | omega)⟩, fun k => appendP_mono (h.left (k := k) fun y' hy => ?_) ?_⟩
        · rcases List.mem_cons.1 hy with rfl | hy
          · exact hn
          · exact plt_trans hn (sb.1 _ (List.mem_map_of_mem (f := fun z : ZP => z.2) hy))
        rintro w' p l c ⟨rfl, e2, h'⟩
        exact ⟨a.length + (b.length + 1), (by first | rfl | (simp only [List.length_cons, List.length_nil, decide_eq_true_eq, decide_eq_false_iff_not, ge_iff_le]; omega) | (simp only [List.length_cons, List.length_nil, decide_eq_true_eq, decide_eq_false_iff_not, ge_iff_le]; done) | omega), A1 ++ [x], a, B1, y :: b, (by first | rfl | (simp only [List.length_cons, List.length_nil, decide_eq_true_eq, decide_eq_false_iff_not, ge_iff_le]; omega) | (simp only [List.length_cons, List.length_nil, decide_eq_true_eq, decide_eq_false_iff_not, ge_iff_le]; done) | omega), rfl, (by first | rfl | (simp only [List.length_cons, List.length_nil, decide_eq_true_eq, decide_eq_false_iff_not, ge_iff_le]; omega) | (simp only [List.length_cons, List.length_nil, decide_eq_true_eq, decide_eq_false_iff_not, ge_iff_le]; done) | omega), hcb, (by first | rfl | (simp only [List.length_cons, List.length_nil, decide_eq_true_eq, decide_eq_false_iff_not, ge_iff_le]; omega) | (simp only [List.length_cons, List.length_nil, decide_eq_true_eq, decide_eq_false_iff_not, ge_iff_le]; done) | omega), row_tail ra hca, rb, rfl, e2, rfl, h'⟩
      · have hn1 := of_decide_eq_false hn
        have hn2 := of_decide_eq_true hn2
        have hyx : plt y.2 x.2 := by
          rcases plt_total x.2 y.2 with h1 | h1 | h1
          · exact absurd ((pcmp_lt _ _).2 h1) hn1
          · have := (pcmp_eq _ _).2 h1; omega
          · exact h1
        refine ⟨ad2, hp2, ⟨by omega, (by first | rfl | (simp only [List.length_cons, List.length_nil, decide_eq_true_eq, decide_eq_false_iff_not, ge_iff_le]; omega) | (simp only [List.length_cons, List.length_nil, decide_eq_true_eq, decide_eq_false_iff_not, ge_iff_le]; done) | omega)⟩, _, _, _, hc2, ⟨by omega, (by first | rfl | (simp only [List.length_cons, List.length_nil, decide_eq_true_eq, decide_eq_false_iff_not, ge_iff_le]; omega) | (simp only [List.length_cons, List.length_nil, decide_eq_true_eq, decide_eq_false_iff_not, ge_iff_le]; done) | omega), (by first | rfl | (simp only [List.length_cons, List.length_nil, decide_eq_true_eq, decide_eq_false_iff_not, ge_iff_le]; omega) | (simp only [List.length_cons, List.length_nil, decide_eq_true_eq, decide_eq_false_iff_not, ge_iff_le]; done) | omega)⟩, fun k => appendP_mono (h.right (k := k) fun y' hy => ?_) ?_⟩
        · rcases List.mem_cons.1 hy with rfl | hy
          · exact hyx
          · exact plt_trans hyx (sa.1 _ (List.mem_map_of_mem (f := fun z : ZP => z.2) hy))
        rintro w' p l c ⟨rfl, h'⟩
        exact ⟨(a.length + 1) + b.length, (by first | rfl | (simp only [List.length_cons, List.length_nil, decide_eq_true_eq, decide_eq_false_iff_not, ge_iff_le]; omega) | (simp only [List.length_cons, List.length_nil, decide_eq_true_eq, decide_eq_false_iff_not, ge_iff_le]; done) | omega), A1, x :: a, B1 ++ [y], b, rfl, (by first | rfl | (simp only [List.length_cons, List.length_nil, decide_eq_true_eq, decide_eq_false_iff_not, ge_iff_le]; omega) | (simp only [List.length_cons, List.length_nil, decide_eq_true_eq, decide_eq_false_iff_not, ge_iff_le]; done) | omega), hca, (by first | rfl | (simp only [List.length_cons, List.length_nil, decide_eq_true_eq, decide_eq_false_iff_not, ge_iff_le]; omega) | (simp only [List.length_cons, List.length_nil, decide_eq_true_eq, decide_eq_false_iff_not, ge_iff_le]; done) | omega), (by first | rfl | (simp only [List.length_cons, List.length_nil, decide_eq_true_eq, decide_eq_false_iff_not, ge_iff_le]; omega) | (simp only [List.length_cons, List.length_nil, decide_eq_true_eq, decide_eq_false_iff_not, ge_iff_le]; done) | omega), ra, row_tail rb hcb, rfl, rfl, rfl, h'⟩
      · have hn1 := of_decide_eq_false hn
        have hn2 := of_decide_eq_false hn2
        have hxy : x.2 = y.2 := (pcmp_eq _ _).1 (by omega)
        refine ⟨ad, hp, ⟨by omega, (by first | rfl | (simp only [List.length_cons, List.length_nil, decide_eq_true_eq, decide_eq_false_iff_not, ge_iff_le]; omega) | (simp only [List.length_cons, List.length_nil, decide_eq_true_eq, decide_eq_false_iff_not, ge_iff_le]; done) | omega)⟩, _, _, _, hc, ⟨by omega, (by first | rfl | (simp only [List.length_cons, List.length_nil, decide_eq_true_eq, decide_eq_false_iff_not, ge_iff_le]; omega) | (simp only [List.length_cons, List.length_nil, decide_eq_true_eq, decide_eq_false_iff_not, ge_iff_le]; done) | omega), (by first | rfl | (simp only [List.length_cons, List.length_nil, decide_eq_true_eq, decide_eq_false_iff_not, ge_iff_le]; omega) | (simp only [List.length_cons, List.length_nil, decide_eq_true_eq, decide_eq_false_iff_not, ge_iff_le]; done) | omega)⟩, ⟨by omega, (by first | rfl | (simp only [List.length_cons, List.length_nil, decide_eq_true_eq, decide_eq_false_iff_not, ge_iff_le]; omega) | (simp only [List.length_cons, List.length_nil, decide_eq_true_eq, decide_eq_false_iff_not, ge_iff_le]; done) | omega), (by first | rfl | (simp only [List.length_cons, List.length_nil, decide_eq_true_eq, decide_eq_false_iff_not, ge_iff_le]; omega) | (simp only [List.length_cons, List.length_nil, decide_eq_true_eq, decide_eq_false_iff_not, ge_iff_le]; done) | omega)⟩, fun k => appendP_mono (h.both (k := k) hxy) ?_⟩
        rintro w' p l c ⟨rfl, e2, e3, h'⟩
        exact ⟨a.length + b.length, (by first | rfl | (simp only [List.length_cons, List.length_nil, decide_eq_true_eq, decide_eq_false_iff_not, ge_iff_le]; omega) | (simp only [List.length_cons, List.length_nil, decide_eq_true_eq, decide_eq_false_iff_not, ge_iff_le]; done) | omega), A1 ++ [x], a, B1 ++ [y], b, (by first | rfl | (simp only [List.length_cons, List.length_nil, decide_eq_true_eq, decide_eq_false_iff_not, ge_iff_le]; omega) | (simp only [List.length_cons, List.length_nil, decide_eq_true_eq, decide_eq_false_iff_not, ge_iff_le]; done) | omega), (by first | rfl | (simp only [List.length_cons, List.length_nil, decide_eq_true_eq, decide_eq_false_iff_not, ge_iff_le]; omega) | (simp only [List.length_cons, List.length_nil, decide_eq_true_eq, decide_eq_false_iff_not, ge_iff_le]; done) | omega), (by first | rfl | (simp only [List.length_cons, List.length_nil, decide_eq_true_eq, decide_eq_false_iff_not, ge_iff_le]; omega) | (simp only [List.length_cons, List.length_nil, decide_eq_true_eq, decide_eq_false_iff_not, ge_iff_le]; done) | omega), (by first | rfl | (simp only [List.length_cons, List.length_nil, decide_eq_true_eq, decide_eq_false_iff_not, ge_iff_le]; omega) | (simp only [List.length_cons, List.length_nil, decide_eq_true_eq, decide_eq_false_iff_not, ge_iff_le]; done) | omega), rfl, row_tail ra hca, row_tail rb hcb, e2, rfl, e3, h'⟩
theorem apply_c {w : World} {pS pA pD : Option Addr} {cS cA cD : Nat} {ZS ZA ZD : List ZP} (hS : SetAt w pS ZS) (hA : SetAt w pA ZA) (hD : SetAt w pD ZD) (lS : ZS.length ≤ 10000) (lA : ZA.length ≤ 10000) (lD : ZD.length ≤ 10000) (qS : ZS.length ≤ cS) (qA : ZA.length ≤ cA) (qD : ZD.length ≤ cD)
    (h1 : ∀ x ∈ ZA.map (·.2), x ∉ ZS.map (·.2)) (h2 : ∀ x ∈ ZD.map (·.2), x ∈ ZS.map (·.2)) :
    Calls prog 35 #[.slice pS ZS.length cS, .agg #[.slice pA ZA.length cA, .slice pD ZD.length cD]] w fun e w' => Fr [] w w' ∧ ∃ (p : Option Addr) (Z : List ZP), e = .returned (.tuple #[.slice p Z.length Z.length, I64 0]) ∧ SetAt w' p Z ∧ (∀ x, x ∈ Z.map (·.2) ↔ (x ∈ ZS.map (·.2) ∧ x ∉ ZD.map (·.2)) ∨ x ∈ ZA.map (·.2)) ∧ Within w.heap.size w'.heap.size p Z := by
  refine tuple_Apply.link fun k1 k2 w3 s3 b3 => ?_
  have n3 := g_new2 s3
  have b3 : Blk w3 k2 (([(pS, cS, ZS), (pA, cA, ZA), (pD, cD, ZD)] : List R3).map rv) := b3
  have r3 : Row w3 (some ⟨k2, 0, none⟩) (([(pS, cS, ZS), (pA, cA, ZA), (pD, cD, ZD)] : List R3).map rv) := Row.of_blk (off := 0) b3 (fun j u hj => by rw [Nat.zero_add]; exact hj) (fun u hu => by
    obtain ⟨o, _, ho⟩ := List.mem_map.1 hu
    rw [← ho]; rfl)
  have kk : ∀ {v' : World}, w3.heap.size ≤ v'.heap.size → ∀ x ∈ [k1], x < v'.heap.size := fun hz x hx => by rw [List.mem_singleton.1 hx]; omega
  have cs := sets_c (lC := 3) r3 (fun o ho => by
    rcases List.mem_cons.1 ho with rfl | ho
    · exact ⟨hS.old s3.fr, by show ZS.length ≤ _; omega⟩
    rcases List.mem_cons.1 ho with rfl | ho
    · exact ⟨hA.old s3.fr, by show ZA.length ≤ _; omega⟩
    rw [List.mem_singleton.1 ho]
    exact ⟨hD.old s3.fr, by show ZD.length ≤ _; omega⟩) (by simp)
  refine cs.mono ?_
  rintro e6 w7 ⟨rfl, f7⟩
  have F7 := s3.fr.trans' f7
  refine ⟨_, rfl, keepF f7 (kk (Nat.le_refl _)), bF rfl ((twalk_c (hS.old F7) (hA.old F7) (by omega) (by omega) qS qA).mono ?_)⟩
  rintro e9 w10 ⟨f10, p11, c13, p14, c16, p17, c19, rfl, _⟩
  have z7 := f7.size
  have z10 := f10.size
  have hin : (inZ ZS ZA).length = 0 := by
    rw [List.length_eq_zero_iff]
    unfold inZ
    rw [List.filter_eq_nil_iff]
    intro z hz hzA
    have hzA : z.2 ∈ ZA.map (·.2) := of_decide_eq_true hzA
    exact h1 _ hzA (List.mem_map_of_mem (f := fun z : ZP => z.2) hz)
  have F10 := F7.trans' f10
  refine ⟨_, _, _, _, _, _, _, _, _, rfl, keepF f10 (kk z7), bF (by rw [hin]; rfl) ((twalk_c (hS.old F10) (hD.old F10) (by omega) (by omega) qS qD).mono ?_)⟩
  rintro e20 w21 ⟨f21, p22, c24, p25, c27, p28, c30, rfl, r22⟩
  have z21 := f21.size
  have hoff : (offZ ZD ZS).length = 0 := by
    rw [List.length_eq_zero_iff]
    unfold offZ
    rw [List.filter_eq_nil_iff]
    intro z hz hzA
    exact of_decide_eq_true hzA (h2 _ (List.mem_map_of_mem (f := fun z : ZP => z.2) hz))
  have F21 := F10.trans' f21
  have hsub : ∀ z ∈ offZ ZS ZD, z ∈ ZS := fun z hz => (List.mem_filter.1 hz).1
  have hlen : (offZ ZS ZD).length ≤ ZS.length := List.length_filter_le _ _
  have hnd : ((offZ ZS ZD ++ ZA).map (·.2)).Nodup := by
    rw [List.map_append, List.nodup_append]
    refine ⟨nodup_plt (hS.sort.sublist (List.filter_sublist.map _)), nodup_plt hA.sort, fun x hx y hy e => ?_⟩
    subst e
    exact h1 _ hy (mem_off.1 hx).1
  refine ⟨_, _, _, _, _, _, _, _, _, rfl, keepF f21 (kk (by omega)), bF (by rw [hoff]; rfl) ((union_c (cp := c24) (cq := cA) r22 (hA.old F21).row (fun z hz => (hS.old F21).tups z (hsub z hz)) (hA.old F21).tups hnd (by omega) lA).mono ?_)⟩
  rintro e31 w32 ⟨f32, p33, Z, rfl, set, hZ, inZ⟩
  have z3 := s3.fr.size
  refine ⟨_, _, _, rfl, keepF f32 (kk (by omega)), F21.trans' f32, p33, Z, rfl, set, fun x => by rw [hZ, mem_off], ?_⟩
  exact ⟨fun ad hp => ⟨by have := (inZ.1 ad hp).1; omega, (inZ.1 ad hp).2⟩, fun z hz => ⟨by have := (inZ.2 z hz).1; omega, (inZ.2 z hz).2⟩⟩
end Go.Proofs.Ytnplopiconabiaa.Dred
