/- LogPlays: where the log and its reference have come to, and each kind of step. -/
import Derived.Test.YtcaamecdhbgknaaH7
import Derived.Test.YtcaamecdhbgknaaH9
import Derived.Test.YtcaamecdhbgknaaGS
namespace Go.Proofs.Ytcaamecdhbgknaa.Log
open Go Go.V
open Go.Proofs.Ytcaamecdhbgknaa.VC
open Go.Proofs.Ytcaamecdhbgknaa.Disk
open Go.Proofs.Try (prog)
set_option linter.unusedVariables false
set_option linter.unusedSimpArgs false
set_option maxRecDepth 20000

/-- A call of the script on a log. -/
structure LOp where
  kind : Int
  n : Int
  cut : Int
  data : ByteArray
  keep : List Bool
def IsLOps (w : World) (a : Option Addr) (len cap : Nat) (z : List LOp) : Prop :=
  z.length = len ∧ ∀ r o, z[r]? = some o → ∃ ad A C A2 C2, a = some ad ∧ w.cell? ((ad.add (r * 5)).add 0) = some (I64 o.kind) ∧ w.cell? ((ad.add (r * 5)).add 1) = some (I64 o.n) ∧ w.cell? ((ad.add (r * 5)).add 2) = some (I64 o.cut) ∧
    w.cell? ((ad.add (r * 5)).add 3) = some (.slice A o.data.size C) ∧ w.cell? ((ad.add (r * 5)).add 4) = some (.slice A2 o.keep.length C2) ∧
    Row w A (byteCells o.data) ∧ Row w A2 (o.keep.map .bool) ∧ o.data.size ≤ 140737488351232 ∧ o.keep.length ≤ 140737488351232 ∧ o.n < 9223372036854775808
theorem cell_old' {v w : World} (hf : Fr [] v w) {ad : Addr} {x : Value} (h : v.cell? ad = some x) : w.cell? ad = some x := cell_fr hf h (by simp)
theorem IsLOps.get {v w : World} {a : Option Addr} {len cap : Nat} {z : List LOp} (h : IsLOps v a len cap z) (hf : Fr [] v w) {i : Nat} (hi : i < len) : ∃ (o : LOp) (ad : Addr) (A : Option Addr) (C : Nat) (A2 : Option Addr) (C2 : Nat), a = some ad ∧ w.cell? ((ad.add (i * 5)).add 0) = some (I64 o.kind) ∧ w.cell? ((ad.add (i * 5)).add 1) = some (I64 o.n) ∧ w.cell? ((ad.add (i * 5)).add 2) = some (I64 o.cut) ∧
    w.cell? ((ad.add (i * 5)).add 3) = some (.slice A o.data.size C) ∧ w.cell? ((ad.add (i * 5)).add 4) = some (.slice A2 o.keep.length C2) ∧
    Row v A (byteCells o.data) ∧ Row v A2 (o.keep.map .bool) ∧ o.data.size ≤ 140737488351232 ∧ o.keep.length ≤ 140737488351232 ∧ o.n < 9223372036854775808 := by
  obtain ⟨hl, hz⟩ := h
  have hi' : i < z.length := by omega
  obtain ⟨ad, A, C, A2, C2, e, c0, c1, c2, c3, c4, r⟩ := hz i z[i] (List.getElem?_eq_getElem hi')
  exact ⟨z[i], ad, A, C, A2, C2, e, cell_old' hf c0, cell_old' hf c1, cell_old' hf c2, cell_old' hf c3, cell_old' hf c4, r⟩
theorem row_low {v : World} {A : Option Addr} {xs : List Value} (h : Row v A xs) (h0 : 0 < xs.length) {ad : Addr} (hp : A = some ad) : ad.block < v.heap.size := by
  subst hp; exact Row.lt h h0

theorem _root_.Go.Proofs.Ytcaamecdhbgknaa.Disk.RefAt.ext {w : World} {v : Value} {F G : List Nat} {M : DM} (h : RefAt w v F M) (hG : ∀ x ∈ G, x ∈ F ∨ w.heap.size ≤ x) : RefAt w v G M := by
  have := h.more (G := G.filter fun x => decide (w.heap.size ≤ x)) (fun x hx => by simp at hx; exact hx.2)
  refine this.less fun x hx => ?_
  rcases hG x hx with h1 | h1
  · exact List.mem_append_left _ h1
  · exact List.mem_append_right _ (by simp [hx, h1])

/-- The positions of records that lie one behind the other. -/
theorem lay_pos {f : Nat → Option (Nat × ByteArray)} : ∀ (s : List (Nat × Nat × ByteArray)) {a : Nat} {q : Option Nat}, LayF f a q s → s.map (fun r => (r.1 : Int)) = hpos a (s.map fun r => r.2) s.length ∧ endAt a s = rend a (s.map fun r => r.2)
  | [], _, _, _ => ⟨rfl, rfl⟩
  | r :: s, a, q, h => by
    obtain ⟨h1, h2, h3, h4⟩ := h
    obtain ⟨g1, g2⟩ := lay_pos s h4
    constructor
    · rw [List.map_cons, g1, h1]
      show _ = hpos a (r.2 :: s.map fun r => r.2) (s.length + 1)
      unfold hpos
      rw [List.range_succ_eq_map, List.map_cons, List.map_map]
      rfl
    · show endAt (r.1 + 1 + secs r.2.2.size) s = rend (a + 1 + secs r.2.2.size) (s.map fun r => r.2)
      rw [h1]; exact g2
theorem hpos_snoc (first : Nat) (rs : RR) (r : Nat × ByteArray) : hpos first (rs ++ [r]) (rs ++ [r]).length = hpos first rs rs.length ++ [((rend first rs : Nat) : Int)] := by
  rw [List.length_append, List.length_singleton, hpos_succ, List.take_left]
  congr 1
  unfold hpos
  refine List.map_congr_left fun j hj => ?_
  rw [List.mem_range] at hj
  rw [List.take_append_of_le_length (by omega)]

/-- Where both have come to: the log on its disk, the reference's disk and log. -/
structure PlaysAt (w0 w : World) (own ks : List Nat) (lb b ms mf : Nat) (n : Int) (first count : Nat) (v : Value) (M : DM) (L : LM) (p : Option Addr) (rs : RR) (q : Nat) : Prop where
  log : LogAt w own lb b ms mf M L
  ref : RefAt w v (own ++ ks) M
  n : M.n = n
  fr : Fr [] w0 w
  kb : ∀ x ∈ ks, w0.heap.size ≤ x ∧ x < w.heap.size ∧ x ∉ own
  ob : ∀ x ∈ own, w0.heap.size ≤ x
  row : Row w p (rrcells rs)
  pb : ∀ ad, p = some ad → ad.block < w.heap.size ∧ ad.block ∉ own ∧ ad.block ∉ ks
  sz : ∀ r ∈ rs, r.2.size ≤ 4000
  hf : L.first = (first : Int)
  hb : L.behind = ((first + count : Nat) : Int)
  he : L.end_ = ((rend first rs : Nat) : Int)
  hh : L.heads = hpos first rs rs.length
  hq : L.next = (q : Int)
/-- The bounds that go with it. -/
theorem PlaysAt.bounds {w0 w : World} {own ks : List Nat} {lb b ms mf : Nat} {n : Int} {first count : Nat} {v : Value} {M : DM} {L : LM} {p : Option Addr} {rs : RR} {q : Nat} (h : PlaysAt w0 w own ks lb b ms mf n first count v M L p rs q) :
    rend first rs ≤ first + count ∧ first + count ≤ M.sure.length ∧ M.sure.length ≤ 4096 ∧ rs.length ≤ 4096 ∧ q ≤ 4611686018427387905 ∧ 1 ≤ q := by
  have o := h.log.ok
  have h1 := o.eb
  have h2 := o.bn
  have h3 := o.n4
  have h4 := o.n1
  have h5 := o.n2
  have h6 := o.hl
  have h7 := o.f0
  have hM : M.n = (M.sure.length : Int) := rfl
  have hln : L.heads.length = rs.length := by rw [h.hh, hpos_len]
  have hmost : L.next ≤ 4611686018427387904 + 1 := h5
  rw [h.hb] at h1 h2
  rw [h.he] at h1 h6
  rw [h.hq] at h4 hmost
  rw [h.hf] at h6
  refine ⟨by omega, by omega, by omega, by omega, by omega, by omega⟩
theorem PlaysAt.step {w0 w w' : World} {own ks : List Nat} {lb b ms mf : Nat} {n : Int} {first count : Nat} {v : Value} {M : DM} {L : LM} {p : Option Addr} {rs : RR} {q : Nat} (h : PlaysAt w0 w own ks lb b ms mf n first count v M L p rs q) {F : List Nat} (hF : ∀ x ∈ F, x ∈ ks) (f : Fr F w w') : PlaysAt w0 w' own ks lb b ms mf n first count v M L p rs q := by
  have z := f.size
  refine ⟨h.log.fr f (fun x hx hm => (h.kb x (hF x hm)).2.2 hx), h.ref.fr f (fun x hx => .inl (List.mem_append_right _ (hF x hx))), h.n, h.fr.trans f (fun x hx => .inr (h.kb x (hF x hx)).1), fun x hx => ⟨(h.kb x hx).1, by have := (h.kb x hx).2.1; omega, (h.kb x hx).2.2⟩, h.ob, g_row f h.row (fun ad hp _ hm => (h.pb ad hp).2.2 (hF _ hm)), fun ad hp => ⟨by have := (h.pb ad hp).1; omega, (h.pb ad hp).2⟩, h.sz, h.hf, h.hb, h.he, h.hh, h.hq⟩
theorem PlaysAt.lts {w0 w : World} {own ks : List Nat} {lb b ms mf : Nat} {n : Int} {first count : Nat} {v : Value} {M : DM} {L : LM} {p : Option Addr} {rs : RR} {q : Nat} (h : PlaysAt w0 w own ks lb b ms mf n first count v M L p rs q) : ∀ x ∈ own ++ ks, x < w.heap.size := fun x hx => by
  rcases List.mem_append.1 hx with hx | hx
  · exact h.log.lt x hx
  · exact (h.kb x hx).2.1
/-- What is written in the log's own blocks keeps all else. -/
theorem PlaysAt.keep {w0 w v' w' : World} {own ks : List Nat} {lb b ms mf : Nat} {n : Int} {first count : Nat} {v : Value} {M : DM} {L : LM} {p : Option Addr} {rs : RR} {q : Nat} (h : PlaysAt w0 w own ks lb b ms mf n first count v M L p rs q) (hz : w.heap.size ≤ v'.heap.size) {F : List Nat} (hF : ∀ x ∈ F, x ∈ own) (f : Fr F v' w') {K : List Nat} (hK : ∀ x ∈ K, x ∈ ks ∨ (w.heap.size ≤ x ∧ x < v'.heap.size)) : Keep K v' w' :=
  g_keep f (fun x hx => by
    rcases hK x hx with hx | hx
    · have := h.kb x hx
      exact ⟨by omega, fun hm => this.2.2 (hF _ hm)⟩
    · exact ⟨hx.2, fun hm => by have := h.log.lt _ (hF _ hm); omega⟩)

end Go.Proofs.Ytcaamecdhbgknaa.Log
