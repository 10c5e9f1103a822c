/- An argument that is a row of parts, opened: it reads as a list of parts, whose numbers are in range. -/
import Derived.Test.YtamaoileeipgeaaDoorXKey0
import Derived.Deep.Strs
import Derived.WalkKit
import Derived.SizedLaws
import Derived.ChangeSlices
import Derived.KernelRfl
namespace Go.Proofs.YtamaoileeipgeaaDoor.JParts
open Go.RowKit Go.Deep Go.ChangeShapes Go.WideShapes Go.Proofs.YtamaoileeipgeaaDoorW.PrintWords Go.Proofs.YtamaoileeipgeaaDoorW.PrintLast Go.Proofs.YtamaoileeipgeaaDoor.XKey
def IsParts (w : World) (a : Option Addr) (len cap : Nat) (zs : List S31) : Prop :=
  Kd.C k31 w a len zs ∧ zs.length = len ∧ len ≤ cap ∧ len ≤ maxLen ∧ ∀ p ∈ zs, -9223372036854775808 ≤ p.f2 ∧ p.f2 ≤ 9223372036854775807
section
variable {H : Type} {enc : TypeId × Value → H} {w : World} {base : Nat} {spare : Nat → Bool} {held : Bool}
theorem open_part {fuel : Nat} {cs : List Value} {x : DataW H × List MemPlace} (h : DataW.trod enc Tryd.prog w base spare held fuel 31 cs = some x) :
    ∃ p : S31, cs = [.bool p.f0, .string p.f1, .int .i64 p.f2] ∧ -9223372036854775808 ≤ p.f2 ∧ p.f2 ≤ 9223372036854775807 := by
  obtain ⟨y0, y1, y2, n, hx, hl, h0, h1, h2⟩ := trod_struct3 Tryd.underlying31 h
  have hC : Tryd.prog.cellsOf 31 = 3 := by kernel_rfl
  have c0 : Tryd.prog.cellsOf 4 = 1 := by kernel_rfl
  have c1 : Tryd.prog.cellsOf 9 = 1 := by kernel_rfl
  have c2 : Tryd.prog.cellsOf 3 = 1 := by kernel_rfl
  rw [hC] at hl
  match cs, hl with
  | [v0, v1, v2], _ =>
    simp only [c0, c1, c2] at h0 h1 h2
    obtain ⟨b, e0, _⟩ := DataW.trod_bool Tryd.underlying4 h0
    obtain ⟨s, e1, _⟩ := DataW.trod_string Tryd.underlying9 h1
    obtain ⟨m, e2, _, hw⟩ := DataW.trod_int Tryd.underlying3 h2
    have f0 : v0 = .bool b := by simpa using e0
    have f1 : v1 = .string s := by simpa using e1
    have f2 : v2 = .int .i64 m := by simpa using e2
    have m1 : IntKind.i64.min = -9223372036854775808 := by kernel_rfl
    have m2 : IntKind.i64.max = 9223372036854775807 := by kernel_rfl
    simp [Lit.wf, m1, m2] at hw
    exact ⟨⟨b, s, m⟩, by rw [f0, f1, f2], hw.1, hw.2⟩
theorem open_parts {a : Option Addr} {len cap : Nat} {d : DataW H} {p : List MemPlace} (h : DataW.Trod enc Tryd.prog w base spare held 26 (.slice a len cap) d p) : ∃ zs, IsParts w a len cap zs := by
  obtain ⟨fuel, hf⟩ := h
  have hC : Tryd.prog.cellsOf 31 = 3 := by kernel_rfl
  rcases open_slice Tryd.underlying26 hf with ⟨hcs, _⟩ | ⟨x, l, c, m, n, D, Pl, hcs, hb, hl, hm, hmm, _, hi⟩
  · simp [Value.cells] at hcs
    obtain ⟨rfl, rfl, rfl⟩ := hcs
    exact ⟨[], ⟨rfl, by omega, fun h => absurd h (by omega)⟩, rfl, Nat.le_refl _, Nat.zero_le _, fun p hp => by simp at hp⟩
  · simp [Value.cells] at hcs
    obtain ⟨rfl, rfl, rfl⟩ := hcs
    have hle : len ≤ m := by rw [hmm]; split <;> omega
    have hmx : len ≤ maxLen := Nat.le_trans hl hm
    haveI : Inhabited S31 := ⟨z31⟩
    obtain ⟨V, hV⟩ := choose_lt (α := S31) (n := len) (p := fun i v => (∀ j u, [Value.bool v.f0, .string v.f1, .int .i64 v.f2][j]? = some u → w.cell? (x.add (i * 3 + j)) = some u) ∧ -9223372036854775808 ≤ v.f2 ∧ v.f2 ≤ 9223372036854775807) (fun i hil => by
      obtain ⟨cs', h1, h2⟩ := hi i (by omega)
      obtain ⟨q, e, q1, q2⟩ := open_part h2
      rw [hC] at h1
      obtain ⟨_, hcl, hat⟩ := World.cells?_some h1
      subst e
      refine ⟨q, fun j u hu => ?_, q1, q2⟩
      have hj : j < 3 := (List.getElem?_eq_some_iff.1 hu).1
      rw [← Go.Deep.add_add, hat j hj]
      exact hu)
    refine ⟨(List.range len).map V, ⟨by simp, ?_, fun _ => ⟨x, rfl, fun j p hj => ?_⟩⟩, by simp, hl, hmx, fun p hp => ?_⟩
    · have e : maxLen = 9223372036854775807 := by kernel_rfl
      omega
    · obtain ⟨hjl, hp⟩ := List.getElem?_eq_some_iff.1 hj
      have hjl' : j < len := by simpa using hjl
      have hp' : V j = p := by simpa using hp
      subst hp'
      exact ⟨_, rfl, k31_mk w (V j), (hV j hjl').1⟩
    · obtain ⟨i, hil, rfl⟩ := List.mem_map.mp hp
      exact (hV i (List.mem_range.mp hil)).2
theorem parts_len {ts : List TypeId} {ds : List (DataW H)} {j : Nat} {a : Option Addr} {len cap : Nat} {d : DataW H} {p : List MemPlace} (hsz : (DataW.weightsEach Tryd.prog ts ds).all (· ≤ reachBytes) = true) (ht : ts[j]? = some 26) (hd : ds[j]? = some d)
    (h : DataW.Trod enc Tryd.prog w base spare held 26 (.slice a len cap) d p) : len ≤ 140737488351232 := by
  obtain ⟨fuel, hf⟩ := h
  rcases open_slice Tryd.underlying26 hf with ⟨hcs, _⟩ | ⟨x, l, c, m, n, D, Pl, hcs, hb, hl, hm, hmm, hx, hi⟩
  · simp [Value.cells] at hcs
    obtain ⟨rfl, rfl, rfl⟩ := hcs
    simp
  · simp [Value.cells] at hcs
    obtain ⟨rfl, rfl, rfl⟩ := hcs
    obtain ⟨hx, _⟩ := Prod.mk.inj hx
    subst hx
    have z := sized_slice hsz ht hd Tryd.underlying26
    have hB : Tryd.prog.bytesOf 31 = 32 := by kernel_rfl
    have hR : reachBytes = 140737488351232 := by kernel_rfl
    have hle : len ≤ m := by rw [hmm]; split <;> omega
    rw [hB, hR] at z
    simp only [List.length_map, List.length_range] at z
    omega
end
end Go.Proofs.YtamaoileeipgeaaDoor.JParts
