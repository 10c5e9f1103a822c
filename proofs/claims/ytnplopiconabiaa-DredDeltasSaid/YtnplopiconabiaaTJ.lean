/- Dred: DredDeltas. -/
import Derived.Test.YtnplopiconabiaaTI
import Derived.Test.YtnplopiconabiaaTE
import Derived.Test.YtnplopiconabiaaL13
namespace Go.Proofs.Ytnplopiconabiaa.Dred
open Go Go.V
open Go.Proofs.Ytnplopiconabiaa.VC
open Go.Proofs.Ytnplopiconabiaa.Span
open Go.Proofs.Try (prog)
set_option linter.unusedVariables false
set_option linter.unusedSimpArgs false
set_option maxRecDepth 20000

/-- The edge z is one of D's. -/
def gone (D : List EG) (y : EG) : Bool := D.any fun z => conj [decide (y.f = z.f), decide (y.l = z.l), decide (y.t = z.t)]
theorem gone_iff {D : List EG} {y : EG} : gone D y = true ↔ ∃ z ∈ D, y.f = z.f ∧ y.l = z.l ∧ y.t = z.t := by
  unfold gone
  simp [conj]
theorem gone_snoc {D : List EG} {j : Nat} (h : j < D.length) (y : EG) : gone (D.take (j + 1)) y = (gone (D.take j) y || conj [decide (y.f = D[j].f), decide (y.l = D[j].l), decide (y.t = D[j].t)]) := by
  unfold gone
  rw [take_snoc h, List.any_append]; simp
theorem lab_left (Y D : List EG) (lab : ByteArray) (p : PI) : p ∈ labP (Y.filter fun y => !gone D y) lab ↔ p ∈ labP Y lab ∧ p ∉ labP D lab := by
  rw [mem_labP, mem_labP, mem_labP]
  constructor
  · rintro ⟨x, hx, h1, h2, h3⟩
    obtain ⟨hxY, hg⟩ := List.mem_filter.1 hx
    refine ⟨⟨x, hxY, h1, h2, h3⟩, ?_⟩
    rintro ⟨z, hz, g1, g2, g3⟩
    have : gone D x = true := gone_iff.2 ⟨z, hz, by rw [h2, g2], by rw [h1, g1], by rw [h3, g3]⟩
    rw [this] at hg; cases hg
  · rintro ⟨⟨x, hx, h1, h2, h3⟩, hn⟩
    refine ⟨x, List.mem_filter.2 ⟨hx, ?_⟩, h1, h2, h3⟩
    cases hg : gone D x with
    | false => rfl
    | true =>
      obtain ⟨z, hz, g1, g2, g3⟩ := gone_iff.1 hg
      exact absurd ⟨z, hz, by rw [← g2, h1], by rw [← g1, h2], by rw [← g3, h3]⟩ hn
theorem lab_app (Y D : List EG) (lab : ByteArray) (p : PI) : p ∈ labP (Y ++ D) lab ↔ p ∈ labP Y lab ∨ p ∈ labP D lab := by
  unfold labP
  rw [List.filter_append, List.map_append, List.mem_append]

/-- Where DredDeltas stands: the dred, the sum of the deltas, and all edges. -/
structure St (u w : World) (d e s : Nat) (be bs : List Nat) (E S : List PI) (pS : Option Addr) (ZS : List ZP) (lo hi : Nat) (pY : Option Addr) (cY : Nat) (Y : List EG) : Prop where
  ds : DS u w d labA e s be bs E S
  set : SetAt w pS ZS
  ins : Within lo hi pS ZS
  hhi : hi ≤ w.heap.size
  cl : Clear d be bs lo hi
  row : OwnZ w u.heap.size 3 pY Y.length cY (Y.flatMap gcell)
  out : ∀ ad, pY = some ad → ad.block ∉ d :: be ++ bs ∧ (ad.block < lo ∨ hi ≤ ad.block)
section
variable {u v w : World} {d e s : Nat} {be bs : List Nat} {E S : List PI} {pS : Option Addr} {ZS : List ZP} {lo hi : Nat} {pY : Option Addr} {cY : Nat} {Y : List EG}
theorem DS.lt (h : DS u w d labA e s be bs E S) : ∀ x ∈ d :: be ++ bs, x < w.heap.size := fun x hx => by
  rcases List.mem_append.1 hx with hx | hx
  · rcases List.mem_cons.1 hx with rfl | hx
    · exact h.at'.dlt
    · exact h.at'.er.lt x hx
  · exact h.at'.sr.lt x hx
theorem DS.fr' {F : List Nat} (h : DS u v d labA e s be bs E S) (f : Fr F v w) (hF : ∀ x ∈ F, u.heap.size ≤ x ∧ x ∉ d :: be ++ bs) : DS u w d labA e s be bs E S := by
  have zu := h.fr.size
  refine ⟨h.at'.fr f (fun hx => (hF _ hx).2 (by simp)) (fun x hx hx2 => (hF _ hx2).2 (by simp [hx])) (fun x hx hx2 => (hF _ hx2).2 (by simp [hx])), h.tc, h.small, h.low, h.fr.trans f fun x hx => .inr (hF x hx).1⟩
theorem St.old (h : St u v d e s be bs E S pS ZS lo hi pY cY Y) (f : Fr [] v w) : St u w d e s be bs E S pS ZS lo hi pY cY Y :=
  ⟨h.ds.old f, h.set.old f, h.ins, by have := h.hhi; have := f.size; omega, h.cl, h.row.fr f (fun _ _ => by simp), h.out⟩
/-- A step of the heap's that touches a block behind all of it. -/
theorem St.fr1 {k : Nat} (h : St u v d e s be bs E S pS ZS lo hi pY cY Y) (f : Fr [k] v w) (hk : u.heap.size ≤ k) (h1 : k ∉ d :: be ++ bs) (h2 : k < lo ∨ hi ≤ k) (h3 : ∀ ad, pY = some ad → ad.block ≠ k) : St u w d e s be bs E S pS ZS lo hi pY cY Y :=
  ⟨h.ds.fr' f fun x hx => by rw [List.mem_singleton.1 hx]; exact ⟨hk, h1⟩, h.set.fr f (h.ins.out fun x hx => by rw [List.mem_singleton.1 hx]; exact h2), h.ins, by have := h.hhi; have := f.size; omega, h.cl, h.row.fr f (fun ad hp hx => h3 ad hp (List.mem_singleton.1 hx)), h.out⟩
/-- Do. -/
theorem St.doS (h : St u v d e s be bs E S pS ZS lo hi pY cY Y) {L : List PI} {add : Bool} {code : Int} {pA pD : Option Addr} {ZA ZD : List ZP} {be1 bs1 : List Nat} {E1 S1 : List PI} (f : Fr (d :: be ++ bs) v w) (hd : DoSaid v w d labA e s be bs E S L add code pA pD ZA ZD be1 bs1 E1 S1) : St u w d e s be1 bs1 E1 S1 pS ZS lo hi pY cY Y := by
  refine ⟨h.ds.step f hd, h.set.fr f (h.ins.out h.cl), h.ins, by have := h.hhi; have := f.size; omega, h.cl.grow hd.gbe hd.gbs h.hhi, h.row.fr f (fun ad hp => (h.out ad hp).1), fun ad hp => ⟨fun hx => ?_, (h.out ad hp).2⟩⟩
  have hlt := (h.row.lt hp).2
  have hno := (h.out ad hp).1
  rcases List.mem_append.1 hx with hx | hx
  · rcases List.mem_cons.1 hx with hx | hx
    · exact hno (by rw [hx]; simp)
    · rcases hd.gbe _ hx with h1 | h1
      · exact hno (by simp [h1])
      · omega
  · rcases hd.gbs _ hx with h1 | h1
    · exact hno (by simp [h1])
    · omega
/-- Another sum, made behind world v. -/
theorem St.sum (h : St u v d e s be bs E S pS ZS lo hi pY cY Y) (f : Fr [] v w) {p : Option Addr} {Z : List ZP} (set : SetAt w p Z) (ins : Within v.heap.size w.heap.size p Z) : St u w d e s be bs E S p Z v.heap.size w.heap.size pY cY Y := by
  have h2 := h.old f
  exact ⟨h2.ds, set, ins, Nat.le_refl _, h.ds.clear, h2.row, fun ad hp => ⟨(h.out ad hp).1, .inl (h.row.lt hp).2⟩⟩
/-- Another row of edges: it stands where the old one stood, or behind world v. -/
theorem St.edges (h : St u v d e s be bs E S pS ZS lo hi pY cY Y) (f : Fr ([] ++ pb pY) v w) {p : Option Addr} {c : Nat} {X : List EG} (o : OwnZ w u.heap.size 3 p X.length c (X.flatMap gcell)) (hd : ∀ ad, p = some ad → pY = some ad ∨ v.heap.size ≤ ad.block) : St u w d e s be bs E S pS ZS lo hi p c X := by
  have hz := h.hhi
  have fz := f.size
  have hlow := h.row
  refine ⟨h.ds.fr' f fun x hx => ?_, h.set.fr f (h.ins.out fun x hx => ?_), h.ins, by omega, h.cl, o, fun ad hp => ?_⟩
  · rw [List.nil_append] at hx
    obtain ⟨ad, hp, rfl⟩ := (g_mem_pb _ _).1 hx
    exact ⟨(h.row.lt hp).1, (h.out ad hp).1⟩
  · rw [List.nil_append] at hx
    obtain ⟨ad, hp, rfl⟩ := (g_mem_pb _ _).1 hx
    exact (h.out ad hp).2
  · rcases hd ad hp with h1 | h1
    · exact h.out ad h1
    · exact ⟨fun hx => by have := h.ds.lt _ hx; omega, .inr (by omega)⟩
end
end Go.Proofs.Ytnplopiconabiaa.Dred
