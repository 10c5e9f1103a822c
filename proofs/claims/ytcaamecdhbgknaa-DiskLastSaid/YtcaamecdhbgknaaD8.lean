/- The laws' own words: a sector by going round in some bytes. -/
import Derived.Test.YtcaamecdhbgknaaD7
namespace Go.Proofs.Ytcaamecdhbgknaa.Disk
open Go Go.V
open Go.Proofs.Ytcaamecdhbgknaa.VC
open Go.Proofs.Try (prog)
set_option linter.unusedVariables false
set_option linter.unusedSimpArgs false
set_option maxRecDepth 20000

def roundByte (bs : ByteArray) (i : Nat) : UInt8 := if bs.size = 0 then 0 else bs.data.getD (i % bs.size) 0
def round (bs : ByteArray) : ByteArray := ⟨((List.range 64).map (roundByte bs)).toArray⟩
theorem round_size (bs : ByteArray) : (round bs).size = 64 := by simp [round, ByteArray.size]
theorem round_cells (bs : ByteArray) : byteCells (round bs) = (List.range 64).map fun i => Value.int .u8 ((roundByte bs i).toNat : Int) := by
  simp [byteCells, round]

theorem bytes_c (w : World) {bA : Option Addr} {bC : Nat} {bs : ByteArray} (hr : Row w bA (byteCells bs)) : Calls prog 24 #[.slice bA bs.size bC] w fun e w' =>
    ∃ k, e = .returned (.slice (some ⟨k, 0, none⟩) 64 64) ∧ w.heap.size ≤ k ∧ Fr [] w w' ∧ Blk w' k (byteCells (round bs)) := by
  have hz64 : (reps [Value.int .u8 0] 64).length = 64 := by rw [reps_length]; rfl
  refine rhizomelaw03_Bytes.link ⟨by decide, fun w1 k2 st hb => ?_⟩
  have hk2 := st.new k2 (by simp)
  let row : Nat → List Value := fun n => (List.range 64).map fun i => if i < n then Value.int .u8 ((roundByte bs i).toNat : Int) else .int .u8 0
  have hrl : ∀ n, (row n).length = 64 := fun n => by simp [row]
  let I : Nat → Int → World → Prop := fun m n w' => ∃ k : Nat, n = k ∧ k ≤ 64 ∧ m = 64 - k ∧ Fr [] w w' ∧ Blk w' k2 (row k)
  refine ⟨I, 64, ⟨0, rfl, by omega, rfl, st.fr, ?_⟩, fun m n w9 hI => ?_⟩
  · have : row 0 = reps [Value.int .u8 0] 64 := by
      apply List.ext_getElem?
      intro i
      by_cases hi : i < 64
      · rw [reps_get _ _ _ (by simpa using hi)]
        simp [row, hi, Nat.mod_one]
      · rw [List.getElem?_eq_none (by rw [hrl]; omega), List.getElem?_eq_none (by rw [hz64]; omega)]
    rw [this]; exact hb
  obtain ⟨k, rfl, hk, rfl, hf, hbk⟩ := hI
  refine ⟨fun hlt => ?_, fun hge => ?_⟩
  · have hlt : (k : Int) < ((64 : Nat) : Int) := of_decide_eq_true hlt
    have hlt : k < 64 := by omega
    intro y11 hy11
    have hnext : IntKind.wrap .i64 ((k : Int) + 1) = ((k + 1 : Nat) : Int) := by rw [wrapi (by omega) (by omega)]; simp
    have step : ∀ w12, Fr [] w w12 → Blk w12 k2 (row (k + 1)) → y11 w12 := fun w12 f12 b12 => hy11 _ ⟨64 - (k + 1), by omega, k + 1, hnext, by omega, rfl, f12, b12⟩
    refine ⟨fun hpos => ?_, fun hz => step _ hf ?_⟩
    · have hpos : (0 : Int) < (bs.size : Int) := of_decide_eq_true hpos
      have hr9 : Row w9 bA (byteCells bs) := Row.fr hf hr (fun ad _ => by simp)
      obtain ⟨ad, had⟩ := hr9.has (by rw [byteCells_length]; omega)
      have hm : Int.tmod (k : Int) (bs.size : Int) = ((k % bs.size : Nat) : Int) := rfl
      have hml : k % bs.size < bs.size := Nat.mod_lt _ (by omega)
      refine ⟨by omega, ad, had, ⟨by rw [hm]; omega, by rw [hm]; omega⟩, ((roundByte bs k).toNat : Int), ?_, ⟨k2, 0, none⟩, rfl, ⟨by omega, by omega⟩, row k, ?_, ?_, ?_, fun w20 hu => step _ ?_ ?_⟩
      · rw [hm]
        have hg : (byteCells bs)[k % bs.size]? = some (Value.int .u8 ((roundByte bs k).toNat : Int)) := by
          rw [byteCells_get]
          have : k % bs.size < bs.data.size := hml
          unfold roundByte
          rw [if_neg (by omega), Array.getElem?_eq_getElem this]
          have e2 : bs.data.getD (k % bs.size) 0 = bs.data[k % bs.size] := by
            unfold Array.getD
            rw [dif_pos this]; rfl
          rw [e2]; rfl
        have e3 : Int.toNat ((k % bs.size : Nat) : Int) * 1 = k % bs.size := by omega
        rw [e3]
        exact hr9.get had hg
      · rw [add_block]; exact hbk
      · rw [add_mk]
      · rw [add_mk, hrl]; show 0 + ((k : Int).toNat * 1) + 1 ≤ 64; omega
      · exact hf.trans hu.fr (fun x hx => .inr (by rw [add_block] at hx; simp at hx; omega))
      · have hb20 := hu.blk
        rw [add_block] at hb20
        have e : sets (row k) (((⟨k2, 0, none⟩ : Addr).add ((k : Int).toNat * 1)).off) [Value.int .u8 ((roundByte bs k).toNat : Int)] = row (k + 1) := by
          rw [add_mk]
          show (row k).set (0 + (k : Int).toNat * 1) _ = _
          have : 0 + (k : Int).toNat * 1 = k := by omega
          rw [this]
          apply List.ext_getElem?
          intro i
          rw [List.getElem?_set]
          by_cases hi : i < 64
          · by_cases e : k = i
            · subst e; simp [row, hlt]
            · rw [if_neg e]
              have : (i < k + 1) ↔ (i < k) := by omega
              simp [row, hi, this]
          · rw [if_neg (by omega), List.getElem?_eq_none (by rw [hrl]; omega), List.getElem?_eq_none (by rw [hrl]; omega)]
        rw [e] at hb20
        exact hb20
    · have hz : ¬ (0 : Int) < (bs.size : Int) := of_decide_eq_false hz
      have : row (k + 1) = row k := by
        apply List.map_congr_left
        intro i hi
        have hzero : roundByte bs i = 0 := by unfold roundByte; rw [if_pos (by omega)]
        by_cases h1 : i < k
        · rw [if_pos h1, if_pos (by omega)]
        · by_cases h2 : i < k + 1
          · rw [if_pos h2, if_neg h1, hzero]; rfl
          · rw [if_neg h2, if_neg h1]
      rw [this]; exact hbk
  · have hge : ¬ (k : Int) < ((64 : Nat) : Int) := of_decide_eq_false hge
    have : k = 64 := by omega
    subst this
    refine ⟨k2, rfl, hk2.1, hf, ?_⟩
    have : row 64 = byteCells (round bs) := by
      rw [round_cells]
      apply List.map_congr_left
      intro i hi
      rw [if_pos (List.mem_range.1 hi)]
    rw [← this]; exact hbk

end Go.Proofs.Ytcaamecdhbgknaa.Disk
