/- Span: a map's keys, sorted (by the shelf's contracts). -/
import Derived.Test.YtnplopiconabiaaShelf
import Derived.Test.YtnplopiconabiaaUA
import Derived.Test.YtnplopiconabiaaProg
namespace Go.Proofs
open Go.RowKit Go.Maps Go.Sort Go.Shelf
set_option linter.unusedVariables false
set_option linter.unusedSimpArgs false

theorem Try.sortsA (m : Nat) : AnyZI.SortsIn Try.prog Try.sortedA_ren Fence.wide m :=
  ⟨fun blk off cap ss W hH hblk hsz => callsIn_wide.2 (AnyM.slices_Sort_int Try.sortA blk off cap ss W hH hblk hsz),
   fun p cap W => callsIn_wide.2 (AnyM.slices_Sort_int_none Try.sortA p cap W)⟩

/-- A map that reads as a datum. -/
theorem Try.owns_of {w : World} {b : Nat} {l : List (Int × Value)} (h : V.MapG (Value.int .i64) w b l) (hk : ∀ p ∈ l, -9223372036854775808 ≤ p.1 ∧ p.1 ≤ 9223372036854775807) (hl : l.length ≤ 1048576) :
    ∃ D : DataW Unit, w.ownsMap Try.prog 3 (fun _ => some (.lit (.bool true), [])) b l.length D ∧ (intKeys D).Perm (l.map (·.1)) ∧ Maps.size D = l.length := by
  obtain ⟨es, clock, hb, he, hborn, hnd, hkeys⟩ := h
  have hlen : es.toList.length = l.length := by simpa using congrArg List.length he
  have hget : ∀ x ∈ es.toList, ∃ p ∈ l, x.key = Value.int .i64 p.1 := fun x hx => by
    have : (x.key, x.val) ∈ es.toList.map (fun e => (e.key, e.val)) := List.mem_map.2 ⟨x, hx, rfl⟩
    rw [he] at this
    obtain ⟨p, hp, e⟩ := List.mem_map.1 this
    injection e with e1 e2
    exact ⟨p, hp, e1.symm⟩
  have hu : Try.prog.underlying 3 = some (.int .i64) := by kernel_rfl
  have hrd : ∀ x ∈ es.toList, Go.WideElems.rd Try.prog 3 (fun _ => some ((.lit (.bool true) : DataW Unit), [])) x = some ((match x.key with | .int _ n => .int .i64 n | _ => .bool false), .lit (.bool true)) := fun x hx => by
    obtain ⟨p, hp, hkey⟩ := hget x hx
    have hw : (Lit.int .i64 p.1).wf = true := by
      have := hk p hp
      simp only [Lit.wf, Bool.and_eq_true, decide_eq_true_eq]
      exact this
    obtain ⟨xk, xv, xb⟩ := x
    simp only at hkey
    subst hkey
    have hkk : keyOf Try.prog 3 (.int .i64 p.1) = some (.int .i64 p.1) := by simp [keyOf, hu, mapKey, hw]
    exact Go.WideElems.rd_mk (R := fun _ => some ((.lit (.bool true) : DataW Unit), [])) hkk rfl
  have hrg : es.toList.map (Go.WideElems.rg Try.prog 3 (fun _ => some ((.lit (.bool true) : DataW Unit), []))) = l.map fun p => (Lit.int .i64 p.1, .lit (.bool true)) := by
    have e1 : es.toList.map (Go.WideElems.rg Try.prog 3 (fun _ => some ((.lit (.bool true) : DataW Unit), []))) = (es.toList.map (fun e => (e.key, e.val))).map fun kv => ((match kv.1 with | .int _ n => Lit.int .i64 n | _ => .bool false), (.lit (.bool true) : DataW Unit)) := by
      rw [List.map_map]
      refine List.map_congr_left fun x hx => ?_
      rw [Go.WideElems.rg_of (hrd x hx)]; rfl
    rw [e1, he, List.map_map]
    rfl
  refine ⟨.map ((es.toList.map (Go.WideElems.rg Try.prog 3 (fun _ => some (.lit (.bool true), [])))).foldr DataW.insert []), ⟨es, clock, hb, ⟨?_, ⟨hborn, hnd, ?_⟩, fun x hx => ⟨_, hrd x hx⟩⟩, by rw [← hlen]; simp, rfl⟩, ?_, ?_⟩
  · have : es.size = l.length := by simpa using hlen
    rw [this]; exact Nat.le_trans hl (by decide)
  · have e2 : es.toList.map (·.key) = (es.toList.map (fun e => (e.key, e.val))).map (·.1) := by rw [List.map_map]; rfl
    rw [e2, he, List.map_map]
    have e3 : ((fun x : Value × Value => x.1) ∘ fun p : Int × Value => (Value.int IntKind.i64 p.1, p.2)) = (Value.int IntKind.i64) ∘ (·.1) := rfl
    rw [e3, ← List.map_map]
    exact List.pairwise_map.2 (hkeys.imp fun hne e => hne (by injection e))
  · rw [hrg]
    have hp := WideShapes.sorted_perm (l.map fun p => (Lit.int .i64 p.1, (.lit (.bool true) : DataW Unit)))
    have := hp.map fun q => Go.intOf q.1
    refine this.trans ?_
    rw [List.map_map]
    exact .of_eq rfl
  · rw [hrg]
    have hp := WideShapes.sorted_perm (l.map fun p => (Lit.int .i64 p.1, (.lit (.bool true) : DataW Unit)))
    have := hp.length_eq
    rw [List.length_map] at this
    exact this

theorem Try.keysSortedE {w : World} {b : Nat} {l : List (Int × Value)} (h : V.MapG (Value.int .i64) w b l) (hk : ∀ p ∈ l, -9223372036854775808 ≤ p.1 ∧ p.1 ≤ 9223372036854775807) (hl : l.length ≤ 1048576) :
    Calls Try.prog 39 #[.map (some b)] w fun e w1 => ∃ x, e = .returned x ∧ Below w.heap.size w w1 ∧ Calls Try.prog 38 #[x] w1 fun e w2 => ∃ (v : Value) (ss : List Int), e = .returned v ∧ ss.Perm (l.map (·.1)) ∧
      w2.ownsRow w.heap.size 3 1 v ss.length ((ss.mergeSort (fun x y => decide (x ≤ y))).map encZ) ∧ (v = .slice none 0 0 ↔ ss = []) ∧ Below w.heap.size w w2 := by
  obtain ⟨D0, hown, hperm, hsize⟩ := Try.owns_of h hk hl
  have hbl := hown.lt
  have cK : CallsIn Fence.wide 5 Try.prog 39 #[.map (some b)] w fun e w' => e = .returned (.func (.func 70) #[] #[.pointer (some ⟨w.heap.size, 0, none⟩)]) ∧ w' = w.alloc (.cells #[.map (some b)] 74) := AnyZI.keys_in Try.keysE Fence.wide 5 trivial rfl (some b) w
  refine (callsIn_wide.1 cK).mono ?_
  rintro e w1 ⟨rfl, rfl⟩
  refine ⟨_, rfl, (Below.refl _ w).alloc (Nat.le_refl _) _, ?_⟩
  have hseq : SeqGives Fence.wide 2 Try.prog 70 #[.pointer (some ⟨w.heap.size, 0, none⟩)] encZ (fun ss => ss.Perm (intKeys D0)) (Maps.size D0) (w.alloc (.cells #[.map (some b)] 74)) :=
    AnyZI.keys_gives (ρ := Try.keysE_ren) { Try.keysE with } Fence.wide _ trivial rfl (by omega) w.heap.size b l.length D0 _ (by simp) (by simp) (by
      obtain ⟨es, clock, hb, Ft, hs, hD⟩ := hown
      exact ⟨es, clock, (Below.heap_alloc _ _ b hbl).trans hb, Ft, hs, hD⟩)
  have hmax : Maps.size D0 ≤ maxLen := by rw [hsize]; exact Nat.le_trans hl (by decide)
  have hbytes : Maps.size D0 * 8 ≤ 140737488355328 := by rw [hsize]; omega
  have cS := AnyZI.sorted_in Try.sortedA Fence.wide 5 trivial trivial trivial trivial rfl (by omega) (Try.sortsA _) (enters_of Try.func67 (by kernel_rfl) rfl) 70 #[.pointer (some ⟨w.heap.size, 0, none⟩)] trivial (enters_of Try.func70 (by kernel_rfl) rfl) _ _ hmax hbytes _ hseq
  refine (callsIn_wide.1 cS).mono ?_
  rintro e w2 ⟨v, ss, rfl, hS, hrow, hnil, hB⟩
  exact ⟨v, ss, rfl, hS.trans hperm, ownsRow_base_a hrow (by simp), hnil, ((Below.refl _ w).alloc (Nat.le_refl _) _).trans (hB.mono (by simp))⟩
theorem Try.keysSortedI {w : World} {b : Nat} {l : List (Int × Value)} (h : V.MapG (Value.int .i64) w b l) (hk : ∀ p ∈ l, -9223372036854775808 ≤ p.1 ∧ p.1 ≤ 9223372036854775807) (hl : l.length ≤ 1048576) :
    Calls Try.prog 50 #[.map (some b)] w fun e w1 => ∃ x, e = .returned x ∧ Below w.heap.size w w1 ∧ Calls Try.prog 38 #[x] w1 fun e w2 => ∃ (v : Value) (ss : List Int), e = .returned v ∧ ss.Perm (l.map (·.1)) ∧
      w2.ownsRow w.heap.size 3 1 v ss.length ((ss.mergeSort (fun x y => decide (x ≤ y))).map encZ) ∧ (v = .slice none 0 0 ↔ ss = []) ∧ Below w.heap.size w w2 := by
  obtain ⟨D0, hown, hperm, hsize⟩ := Try.owns_of h hk hl
  have hbl := hown.lt
  have cK : CallsIn Fence.wide 5 Try.prog 50 #[.map (some b)] w fun e w' => e = .returned (.func (.func 77) #[] #[.pointer (some ⟨w.heap.size, 0, none⟩)]) ∧ w' = w.alloc (.cells #[.map (some b)] 80) := AnyZI.keys_in Try.keysI Fence.wide 5 trivial rfl (some b) w
  refine (callsIn_wide.1 cK).mono ?_
  rintro e w1 ⟨rfl, rfl⟩
  refine ⟨_, rfl, (Below.refl _ w).alloc (Nat.le_refl _) _, ?_⟩
  have hseq : SeqGives Fence.wide 2 Try.prog 77 #[.pointer (some ⟨w.heap.size, 0, none⟩)] encZ (fun ss => ss.Perm (intKeys D0)) (Maps.size D0) (w.alloc (.cells #[.map (some b)] 80)) :=
    AnyZI.keys_gives (ρ := Try.keysI_ren) { Try.keysI with } Fence.wide _ trivial rfl (by omega) w.heap.size b l.length D0 _ (by simp) (by simp) (by
      obtain ⟨es, clock, hb, Ft, hs, hD⟩ := hown
      exact ⟨es, clock, (Below.heap_alloc _ _ b hbl).trans hb, Ft, hs, hD⟩)
  have hmax : Maps.size D0 ≤ maxLen := by rw [hsize]; exact Nat.le_trans hl (by decide)
  have hbytes : Maps.size D0 * 8 ≤ 140737488355328 := by rw [hsize]; omega
  have cS := AnyZI.sorted_in Try.sortedA Fence.wide 5 trivial trivial trivial trivial rfl (by omega) (Try.sortsA _) (enters_of Try.func67 (by kernel_rfl) rfl) 77 #[.pointer (some ⟨w.heap.size, 0, none⟩)] trivial (enters_of Try.func77 (by kernel_rfl) rfl) _ _ hmax hbytes _ hseq
  refine (callsIn_wide.1 cS).mono ?_
  rintro e w2 ⟨v, ss, rfl, hS, hrow, hnil, hB⟩
  exact ⟨v, ss, rfl, hS.trans hperm, ownsRow_base_a hrow (by simp), hnil, ((Below.refl _ w).alloc (Nat.le_refl _) _).trans (hB.mono (by simp))⟩
theorem Try.keysSortedB {w : World} {b : Nat} {l : List (Int × Value)} (h : V.MapG (Value.int .i64) w b l) (hk : ∀ p ∈ l, -9223372036854775808 ≤ p.1 ∧ p.1 ≤ 9223372036854775807) (hl : l.length ≤ 1048576) :
    Calls Try.prog 97 #[.map (some b)] w fun e w1 => ∃ x, e = .returned x ∧ Below w.heap.size w w1 ∧ Calls Try.prog 38 #[x] w1 fun e w2 => ∃ (v : Value) (ss : List Int), e = .returned v ∧ ss.Perm (l.map (·.1)) ∧
      w2.ownsRow w.heap.size 3 1 v ss.length ((ss.mergeSort (fun x y => decide (x ≤ y))).map encZ) ∧ (v = .slice none 0 0 ↔ ss = []) ∧ Below w.heap.size w w2 := by
  obtain ⟨D0, hown, hperm, hsize⟩ := Try.owns_of h hk hl
  have hbl := hown.lt
  have cK : CallsIn Fence.wide 5 Try.prog 97 #[.map (some b)] w fun e w' => e = .returned (.func (.func 122) #[] #[.pointer (some ⟨w.heap.size, 0, none⟩)]) ∧ w' = w.alloc (.cells #[.map (some b)] 104) := AnyZI.keys_in Try.keysB Fence.wide 5 trivial rfl (some b) w
  refine (callsIn_wide.1 cK).mono ?_
  rintro e w1 ⟨rfl, rfl⟩
  refine ⟨_, rfl, (Below.refl _ w).alloc (Nat.le_refl _) _, ?_⟩
  have hseq : SeqGives Fence.wide 2 Try.prog 122 #[.pointer (some ⟨w.heap.size, 0, none⟩)] encZ (fun ss => ss.Perm (intKeys D0)) (Maps.size D0) (w.alloc (.cells #[.map (some b)] 104)) :=
    AnyZI.keys_gives (ρ := Try.keysB_ren) { Try.keysB with } Fence.wide _ trivial rfl (by omega) w.heap.size b l.length D0 _ (by simp) (by simp) (by
      obtain ⟨es, clock, hb, Ft, hs, hD⟩ := hown
      exact ⟨es, clock, (Below.heap_alloc _ _ b hbl).trans hb, Ft, hs, hD⟩)
  have hmax : Maps.size D0 ≤ maxLen := by rw [hsize]; exact Nat.le_trans hl (by decide)
  have hbytes : Maps.size D0 * 8 ≤ 140737488355328 := by rw [hsize]; omega
  have cS := AnyZI.sorted_in Try.sortedA Fence.wide 5 trivial trivial trivial trivial rfl (by omega) (Try.sortsA _) (enters_of Try.func67 (by kernel_rfl) rfl) 122 #[.pointer (some ⟨w.heap.size, 0, none⟩)] trivial (enters_of Try.func122 (by kernel_rfl) rfl) _ _ hmax hbytes _ hseq
  refine (callsIn_wide.1 cS).mono ?_
  rintro e w2 ⟨v, ss, rfl, hS, hrow, hnil, hB⟩
  exact ⟨v, ss, rfl, hS.trans hperm, ownsRow_base_a hrow (by simp), hnil, ((Below.refl _ w).alloc (Nat.le_refl _) _).trans (hB.mono (by simp))⟩
end Go.Proofs
