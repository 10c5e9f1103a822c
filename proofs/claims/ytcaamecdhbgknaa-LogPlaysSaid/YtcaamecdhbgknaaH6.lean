/- The laws' Same: records of the log against the reference's. -/
import Derived.Test.YtcaamecdhbgknaaH5
namespace Go.Proofs.Ytcaamecdhbgknaa.Log
open Go Go.V
open Go.Proofs.Ytcaamecdhbgknaa.VC
open Go.Proofs.Ytcaamecdhbgknaa.Disk
open Go.Proofs.Try (prog)
set_option linter.unusedVariables false
set_option linter.unusedSimpArgs false
set_option maxRecDepth 20000

theorem ri_get : ∀ {l : List RI} {i : Nat} {r : RI}, l[i]? = some r → (rcells l)[i * 2]? = some (I64 (r.seq : Nat)) ∧ (rcells l)[i * 2 + 1]? = some (.slice r.p r.data.size r.c)
  | [], i, r, h => by simp at h
  | x :: l, i, r, h => by
    have e : rcells (x :: l) = I64 (x.seq : Nat) :: .slice x.p x.data.size x.c :: rcells l := rfl
    rw [e]
    cases i with
    | zero =>
      simp at h; subst h; exact ⟨rfl, rfl⟩
    | succ i =>
      have := ri_get (l := l) (i := i) (r := r) (by simpa using h)
      rw [show (i + 1) * 2 = i * 2 + 1 + 1 by omega]
      simpa using this
theorem add3 (ad : Addr) (i m : Nat) : (ad.add (i * 2)).add m = ad.add (i * 2 + m) := by
  unfold Addr.add
  by_cases h0 : i = 0
  · simp [h0]
  · have h0' : ¬ i * 2 = 0 := by omega
    by_cases hm : m = 0
    · simp [h0, h0', hm]
    · simp [h0, h0', hm, Nat.add_assoc]
theorem str_row {w : World} {p : Option Addr} {s : ByteArray} (h : Row w p (byteCells s)) : s.data.toList.length = s.size ∧ ∀ j, j < s.size → ∃ ad, p = some ad ∧ World.cell? w (ad.add j) = some (.int .u8 ((UInt8.toNat (s.data.toList.getD j 0) : Nat) : Int)) := by
  refine ⟨Array.length_toList, fun j hj => h.1 j _ ?_⟩
  have hj' : j < s.data.size := hj
  rw [byteCells_get, Array.getElem?_eq_getElem hj', List.getD_eq_getElem?_getD, List.getElem?_eq_getElem (by simpa using hj')]
  simp

/-- Records of the log that are the reference's are the same. -/
theorem same_c {w : World} {aA bA : Option Addr} {aC bC : Nat} {ris : List RI} {rs : RR} (ha : Row w aA (rcells ris)) (hr : ∀ r ∈ ris, Row w r.p (byteCells r.data)) (hb : Row w bA (rrcells rs)) (heq : ris.map (fun r => (r.seq, r.data)) = rs) (hl : ris.length < 9223372036854775807) :
    Calls prog 41 #[.slice aA ris.length aC, .slice bA rs.length bC] w fun e w' => e = .returned (.bool true) ∧ Fr [] w w' := by
  have hln : ris.length = rs.length := by rw [← heq, List.length_map]
  refine rhizomelaw04_Same.link (bF (by simp [hln]) ⟨fun m n w' => ∃ i : Nat, n = i ∧ i ≤ ris.length ∧ m = ris.length - i ∧ Fr [] w w', ris.length, ⟨0, rfl, by omega, rfl, Fr.refl _ _⟩, ?_⟩)
  rintro m n w5 ⟨i, rfl, hi, rfl, f5⟩
  refine ⟨fun hlt y7 hy7 => ?_, fun hge => ⟨rfl, f5⟩⟩
  have hlt : (i : Int) < (ris.length : Int) := of_decide_eq_true hlt
  have hi' : i < ris.length := by omega
  have ha5 := g_row f5 ha (fun ad _ _ => by simp)
  have hb5 := g_row f5 hb (fun ad _ _ => by simp)
  obtain ⟨ad1, e1⟩ := ha5.has (by rw [rcells_len]; omega)
  obtain ⟨ad2, e2⟩ := hb5.has (by rw [rrcells_len]; omega)
  obtain ⟨p1, p2⟩ := ri_get (List.getElem?_eq_getElem hi')
  obtain ⟨q1, q2⟩ := rrcells_get rs i (by omega)
  have hpair : rs[i]'(by omega) = (ris[i].seq, ris[i].data) := by
    subst heq; simp
  rw [hpair] at q1 q2
  have e0 : (i : Int).toNat * 2 = i * 2 := by omega
  obtain ⟨s1, s2⟩ := str_row (g_row f5 (hr _ (List.getElem_mem hi')) (fun ad _ _ => by simp))
  refine ⟨ad1, e1, ⟨by omega, hlt⟩, _, by rw [e0, add3]; exact ha5.get e1 p1, ad2, e2, ⟨by omega, by omega⟩, _, by rw [e0, add3]; exact hb5.get e2 q1, bF (by simp) ⟨ad1, e1, ⟨by omega, hlt⟩, _, _, _, by rw [e0, add3]; exact ha5.get e1 p2, _, s1, s2, ad2, e2, ⟨by omega, by omega⟩, _, by rw [e0, add3]; exact hb5.get e2 q2, fun w29 st => hy7 _ _ (bF (by rw [mk_str]; simp) ⟨ris.length - (i + 1), by omega, i + 1, by rw [wrapi (by omega) (by omega)]; simp, by omega, rfl, f5.trans' st.fr⟩)⟩⟩

end Go.Proofs.Ytcaamecdhbgknaa.Log
