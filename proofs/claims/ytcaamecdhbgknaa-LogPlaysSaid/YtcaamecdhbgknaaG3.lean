/- The log: one record more. -/
import Derived.Test.YtcaamecdhbgknaaG2
namespace Go.Proofs.Ytcaamecdhbgknaa.Log
open Go Go.V
open Go.Proofs.Ytcaamecdhbgknaa.VC
open Go.Proofs.Ytcaamecdhbgknaa.Disk
open Go.Proofs.Try (prog)
set_option linter.unusedVariables false
set_option linter.unusedSimpArgs false
set_option maxRecDepth 20000

/-- A sector's bytes of what is padded by zeros. -/
def chunk (s : ByteArray) (i : Nat) : ByteArray := ⟨((List.range 64).map fun j => s.data.getD (64 * i + j) 0).toArray⟩
theorem chunk_size (s : ByteArray) (i : Nat) : (chunk s i).size = 64 := by
  show ((List.range 64).map fun j => s.data.getD (64 * i + j) 0).toArray.size = 64
  rw [List.size_toArray, List.length_map, List.length_range]
theorem zeros_get (m j : Nat) : (reps [Value.int .u8 0] m)[j]? = if j < m then some (.int .u8 0) else none := by
  rw [reps_one, List.getElem?_replicate]
theorem chunk_cells (s : ByteArray) (m i : Nat) (h : 64 * (i + 1) ≤ s.size + m) : byteCells (chunk s i) = ((byteCells s ++ reps [Value.int .u8 0] m).drop (64 * i)).take 64 := by
  apply List.ext_getElem?
  intro j
  rw [List.getElem?_take, List.getElem?_drop, byteCells_get]
  by_cases hj : j < 64
  · rw [if_pos hj]
    have e1 : (chunk s i).data[j]? = some (s.data.getD (64 * i + j) 0) := by
      show ((List.range 64).map fun j => s.data.getD (64 * i + j) 0).toArray[j]? = _
      rw [List.getElem?_toArray, List.getElem?_map, List.getElem?_range hj]; rfl
    rw [e1]
    by_cases hs : 64 * i + j < s.size
    · have hs' : 64 * i + j < s.data.size := hs
      rw [List.getElem?_append_left (by rw [byteCells_length]; exact hs), byteCells_get, Array.getElem?_eq_getElem hs']
      simp [Array.getD, hs', hs]
    · have hs' : ¬ 64 * i + j < s.data.size := hs
      rw [List.getElem?_append_right (by rw [byteCells_length]; omega), byteCells_length, zeros_get, if_pos (by omega)]
      simp [Array.getD, hs', hs]
  · rw [if_neg hj, Array.getElem?_eq_none (by have h64 : (chunk s i).data.size = 64 := chunk_size s i
                                              omega)]
    rfl
/-- A row that begins further on. -/
theorem row_sub {w : World} {B l c off n : Nat} {p : Option Addr} {xs : List Value} (h : OwnZ w B 1 p l c xs) (hn : 0 < n) (hl : off + n ≤ l) : Row w (subA p off c 1) ((xs.drop off).take n) ∧ ∀ ad, subA p off c 1 = some ad → ∃ a, p = some a ∧ ad.block = a.block := by
  obtain ⟨h1, h2, h3, ⟨rfl, rfl⟩ | ⟨b, zs, rfl, hB, hb, hlen⟩⟩ := h
  · omega
  · have e : subA (some ⟨b, 0, none⟩) off c 1 = some ⟨b, off, none⟩ := by
      unfold subA
      rw [if_neg (by omega)]
      show some ((⟨b, 0, none⟩ : Addr).add (off * 1)) = _
      rw [Nat.mul_one, add_mk, Nat.zero_add]
    rw [e]
    refine ⟨Row.of_blk (off := off) hb (fun j u hj => ?_) (fun u hu => h3 u (List.mem_of_mem_drop (List.mem_of_mem_take hu))), fun ad hp => ⟨_, rfl, by injection hp with hp; rw [← hp]⟩⟩
    rw [List.getElem?_take] at hj
    split at hj
    · rw [List.getElem?_drop] at hj
      have := (List.getElem?_eq_some_iff.1 hj).1
      rw [List.getElem?_append_left this]; exact hj
    · cases hj

def puts (L : LM) (data : ByteArray) (k : Nat) : List (Int × ByteArray) := (List.range k).map fun (i : Nat) => (L.end_ + 1 + (i : Int), chunk data i)
def LM.more (L : LM) (n : Nat) : LM := { L with heads := L.heads ++ [L.end_], end_ := L.end_ + 1 + (secs n : Nat), next := L.next + 1 }
/-- Appending. -/
def lappend (M : DM) (L : LM) (data : ByteArray) : DM × LM × Int :=
  if 4000 < data.size then (M, L, 3) else if MOST < L.next ∨ L.behind < L.end_ + 1 + (secs data.size : Nat) then (M, L, 5) else
  let r1 := writes M (puts L data (secs data.size))
  if r1.2 ≠ 0 then (r1.1, L, r1.2) else
  let r2 := r1.1.flush
  if r2.2 ≠ 0 then (r2.1, L, r2.2) else
  let r3 := r2.1.write L.end_ (logHead L.next data.size)
  if r3.2 ≠ 0 then (r3.1, L, r3.2) else
  let r4 := r3.1.flush
  if r4.2 ≠ 0 then (r4.1, L, r4.2) else (r4.1, L.more data.size, 0)
theorem lappend_n {M : DM} (h : M.Ok) (L : LM) (data : ByteArray) : (lappend M L data).1.n = M.n := by
  have h1 := writes_ok (puts L data (secs data.size)) h
  have n1 := writes_n (puts L data (secs data.size)) M
  have n2 := flush_n h1
  have h2 : (writes M (puts L data (secs data.size))).1.flush.1.Ok := by
    unfold DM.flush; split
    · exact h1
    · exact h1.flushed
  have n3 := write_n (writes M (puts L data (secs data.size))).1.flush.1 L.end_ (logHead L.next data.size)
  have h3 := DM.Ok.write' h2 L.end_ (logHead L.next data.size)
  have n4 := flush_n h3
  unfold lappend
  simp only
  split
  · rfl
  split
  · rfl
  split
  · exact n1
  split
  · exact n2.trans n1
  split
  · exact n3.trans (n2.trans n1)
  split
  · exact n4.trans (n3.trans (n2.trans n1))
  · exact n4.trans (n3.trans (n2.trans n1))

theorem range_drop (k i : Nat) (hi : i < k) : (List.range k).drop i = i :: (List.range k).drop (i + 1) := by
  rw [List.drop_eq_getElem_cons (by simpa using hi)]
  simp

theorem LM.Ok.more {L : LM} {n : Int} (h : L.Ok n) {k : Nat} (h1 : ¬ MOST < L.next) (h2 : ¬ L.behind < L.end_ + 1 + (secs k : Nat)) : (L.more k).Ok n := by
  have := h.f0
  have := h.fe
  have := h.hl
  have := h.n1
  refine ⟨h.f0, ?_, ?_, h.bn, h.n4, ?_, ?_, ?_, ?_⟩
  · show L.first ≤ L.end_ + 1 + (secs k : Nat); omega
  · show L.end_ + 1 + (secs k : Nat) ≤ L.behind; omega
  · show 1 ≤ L.next + 1; omega
  · show L.next + 1 ≤ MOST + 1; omega
  · show ((L.heads ++ [L.end_]).length : Int) ≤ L.end_ + 1 + (secs k : Nat) - L.first
    rw [List.length_append, List.length_singleton]; omega
  · intro x hx
    show L.first ≤ x ∧ x < L.end_ + 1 + (secs k : Nat)
    rcases List.mem_append.1 hx with hx | hx
    · have := h.hr x hx; omega
    · simp at hx; subst hx; omega

set_option maxHeartbeats 1000000 in
theorem append_c {w : World} {own : List Nat} {lb b ms mf : Nat} {M : DM} {L : LM} (h : LogAt w own lb b ms mf M L) {dA : Option Addr} {dC : Nat} {data : ByteArray} (hd : Row w dA (byteCells data)) (hz : data.size ≤ 140737488351232) :
    Calls prog 35 #[D lb, .slice dA data.size dC] w fun e w' => e = .returned (I64 (lappend M L data).2.2) ∧ Fr own w w' ∧ ∃ own', (∀ x ∈ own', x ∈ own ∨ w.heap.size ≤ x) ∧ (∀ x ∈ own, x ∈ own') ∧ LogAt w' own' lb b ms mf (lappend M L data).1 (lappend M L data).2.1 := by
  have hok := h.ok
  have o0 := hok.f0
  have o1 := hok.fe
  have o2 := hok.eb
  have o3 := hok.bn
  have o4 := hok.n4
  have o5 := hok.n1
  obtain ⟨p, c, hb, hp, hpo⟩ := h.blk
  have hD := h.disk
  have hne := h.ne
  have sub3 : ∀ x ∈ [b, ms, mf], x ∈ own := fun x hx => h.mem x (List.mem_cons_of_mem _ hx)
  have same : ∀ (w' : World) (M' : DM), Fr [b, ms, mf] w w' → DiskAt w' b ms mf M' → M'.n = M.n → Fr own w w' ∧ ∃ own', (∀ x ∈ own', x ∈ own ∨ w.heap.size ≤ x) ∧ (∀ x ∈ own, x ∈ own') ∧ LogAt w' own' lb b ms mf M' L := fun w' M' f d n =>
    ⟨f.mono fun x hx => .inl (sub3 x hx), own, fun x hx => .inl hx, fun x hx => hx, h.setD f d n⟩
  refine log_Log_Append.link ((sectors_c w (n := (data.size : Int)) (by omega) (by omega)).mono ?_)
  rintro e w2 ⟨rfl, rfl⟩
  have es : ((data.size : Int)).toNat = data.size := by omega
  rw [es]
  have hsz : secs data.size = (data.size + 63) / 64 := rfl
  refine ⟨_, rfl, fun hlong => ?_, fun hlong y4 hy4 => ?_⟩
  · have hlong : 4000 < data.size := by have := of_decide_eq_true hlong; omega
    have e1 : lappend M L data = (M, L, 3) := by unfold lappend; rw [if_pos hlong]
    rw [e1]
    exact ⟨rfl, same _ _ (Fr.refl _ _) hD rfl⟩
  have hlong : ¬ 4000 < data.size := by have := of_decide_eq_false hlong; omega
  have full : ∀ w6, Fr [] w2 w6 → (MOST < L.next ∨ L.behind < L.end_ + 1 + (secs data.size : Nat)) → y4 true w6 := fun w6 f6 hf => by
    refine hy4 _ _ (bT rfl ?_)
    have e1 : lappend M L data = (M, L, 5) := by unfold lappend; rw [if_neg hlong, if_pos hf]
    rw [e1]
    exact ⟨rfl, same _ _ (f6.mono fun x hx => by cases hx) (hD.fr f6 (by simp)) rfl⟩
  have room : ∀ w6, Fr [] w2 w6 → ¬ (MOST < L.next ∨ L.behind < L.end_ + 1 + (secs data.size : Nat)) → y4 false w6 := fun w6 f6 hf => by
    refine hy4 _ _ (bF rfl ((clone_b (g_row f6 hd fun ad _ _ => by simp) hz).mono ?_))
    clear hy4 full
    rintro e w8 ⟨p9, c9, rfl, f8, o8⟩
    have e64 : IntKind.wrap .i64 (((secs data.size : Nat) : Int) * 64) = ((secs data.size * 64 : Nat) : Int) := by rw [wrapi (by omega) (by omega)]; omega
    have epad : IntKind.wrap .i64 (((secs data.size * 64 : Nat) : Int) - (data.size : Int)) = ((secs data.size * 64 - data.size : Nat) : Int) := by rw [wrapi (by omega) (by omega)]; omega
    rw [e64, epad]
    have epn : Int.toNat ((secs data.size * 64 - data.size : Nat) : Int) = secs data.size * 64 - data.size := by omega
    rw [epn]
    refine ⟨_, _, _, rfl, ⟨by omega, by omega, by omega⟩, append_z o8 (by rw [reps_length]; rfl) (fun u hu => by rw [reps_one] at hu; rw [(List.mem_replicate.1 hu).2]; rfl) f8.size rfl (fun _ => rfl) (fun ad _ => by simp) (fun ad _ hm => by cases hm) (by omega) (by omega) fun w12 p13 c15 f12 _ o12 d12 => ?_⟩
    have epl : data.size + (secs data.size * 64 - data.size) = secs data.size * 64 := by omega
    rw [epl] at o12
    have f212 : Fr [] w2 w12 := by
      refine (f6.trans' f8).trans f12 fun x hx => ?_
      rw [List.nil_append, g_mem_pb] at hx
      obtain ⟨ad, hp9, rfl⟩ := hx
      have := (o8.lt hp9).1
      have := f6.size
      exact .inr (by omega)
    have hl12 : OwnZ w12 w2.heap.size 1 p13 (secs data.size * 64) c15 (byteCells data ++ reps [Value.int .u8 0] (secs data.size * 64 - data.size)) := o12.mono f6.size
    have hbs := hD.bs
    have hblt := hb.lt
    refine ⟨fun m q w' => ∃ (i : Nat) (M' : DM), q = i ∧ i ≤ secs data.size ∧ m = secs data.size - i ∧ Fr [b, ms, mf] w12 w' ∧ DiskAt w' b ms mf M' ∧ M'.n = M.n ∧ writes M (puts L data (secs data.size)) = writes M' (((List.range (secs data.size)).drop i).map fun (i : Nat) => (L.end_ + 1 + (i : Int), chunk data i)), secs data.size, ⟨0, M, rfl, by omega, rfl, Fr.refl _ _, hD.fr f212 (by simp), rfl, rfl⟩, ?_⟩
    rintro m q w20 ⟨i, M', rfl, hi, rfl, f20, hD20, hn20, heq⟩
    have f220 : Fr [b, ms, mf] w2 w20 := (f212.mono fun x hx => by cases hx).trans' f20
    have hb20 := hb.fr f220 hne
    refine ⟨fun hlt => ?_, fun hge => ?_⟩
    · have hlt : (i : Int) < ((secs data.size : Nat) : Int) := of_decide_eq_true hlt
      have hil : i < secs data.size := by omega
      have w1 : IntKind.wrap .i64 ((i : Int) * 64) = ((64 * i : Nat) : Int) := by rw [wrapi (by omega) (by omega)]; omega
      have w2' : IntKind.wrap .i64 ((i : Int) + 1) = ((i + 1 : Nat) : Int) := by rw [wrapi (by omega) (by omega)]; omega
      have w3 : IntKind.wrap .i64 (((i + 1 : Nat) : Int) * 64) = ((64 * (i + 1) : Nat) : Int) := by rw [wrapi (by omega) (by omega)]; omega
      have w4 : IntKind.wrap .i64 (L.end_ + 1) = L.end_ + 1 := wrapi (by omega) (by omega)
      have w5 : IntKind.wrap .i64 (L.end_ + 1 + (i : Int)) = L.end_ + 1 + (i : Int) := wrapi (by omega) (by omega)
      have t1 : Int.toNat ((64 * i : Nat) : Int) = 64 * i := by omega
      have t2 : Int.toNat ((64 * (i + 1) : Nat) : Int) - 64 * i = 64 := by omega
      refine ⟨_, hb20.cell 0, _, hb20.cell 2, ?_⟩
      rw [w1, w2', w3, w4, w5, t1, t2]
      have hcap : secs data.size * 64 ≤ c15 := hl12.2.1
      refine ⟨⟨by omega, by omega, by omega⟩, fun w24 st24 => ?_⟩
      have o24 : OwnZ w24 w2.heap.size 1 p13 (secs data.size * 64) c15 (byteCells data ++ reps [Value.int .u8 0] (secs data.size * 64 - data.size)) := by
        refine (hl12.fr f20 fun ad hp => ?_).fr st24.fr (fun ad _ => by simp)
        have := (hl12.lt hp).1
        simp; omega
      obtain ⟨r24, a24⟩ := row_sub (off := 64 * i) (n := 64) o24 (by omega) (by omega)
      rw [← chunk_cells data _ i (by omega)] at r24
      have hD24 : DiskAt w24 b ms mf M' := hD20.fr st24.fr (by simp)
      have hw := write_c hD24 (L.end_ + 1 + (i : Int)) (bC := c15 - 64 * i) r24 (fun ad hp => by
        obtain ⟨a, ha, e⟩ := a24 ad hp
        have := (o24.lt ha).1
        simp; omega)
      rw [chunk_size] at hw
      refine hw.mono ?_
      rintro e w27 ⟨rfl, f27, hD27⟩
      have f1227 : Fr [b, ms, mf] w12 w27 := (f20.trans st24.fr (by simp)).trans' f27
      rw [range_drop _ _ hil] at heq
      refine ⟨_, rfl, fun hne' => ?_, fun h0 => ⟨secs data.size - (i + 1), by omega, i + 1, _, rfl, by omega, rfl, f1227, hD27, by rw [write_n, hn20], ?_⟩⟩
      · have hne' : ¬ (M'.write (L.end_ + 1 + (i : Int)) (chunk data i)).2 = 0 := by simpa using hne'
        have e1 : writes M (puts L data (secs data.size)) = M'.write (L.end_ + 1 + (i : Int)) (chunk data i) := by
          rw [heq]; simp only [List.map_cons]; unfold writes; rw [if_neg hne']
        have e2 : lappend M L data = ((M'.write (L.end_ + 1 + (i : Int)) (chunk data i)).1, L, (M'.write (L.end_ + 1 + (i : Int)) (chunk data i)).2) := by
          unfold lappend; simp only; rw [if_neg hlong, if_neg hf, e1, if_pos hne']
        rw [e2]
        exact ⟨rfl, same _ _ ((f212.mono fun x hx => by cases hx).trans' f1227) hD27 (by rw [write_n, hn20])⟩
      · have h0 : (M'.write (L.end_ + 1 + (i : Int)) (chunk data i)).2 = 0 := by simpa using h0
        rw [heq]; simp only [List.map_cons]; rw [writes, if_pos h0]
    · have hge : ¬ (i : Int) < ((secs data.size : Nat) : Int) := of_decide_eq_false hge
      have hd0 : (List.range (secs data.size)).drop i = [] := List.drop_eq_nil_iff.2 (by simp; omega)
      rw [hd0] at heq
      have heq : writes M (puts L data (secs data.size)) = (M', 0) := heq
      refine ⟨_, hb20.cell 0, (flush_c hD20).mono ?_⟩
      rintro e w32 ⟨rfl, f32, hD32⟩
      have f232 := f220.trans' f32
      have hn32 : M'.flush.1.n = M.n := by rw [flush_n hD20.ok, hn20]
      refine ⟨_, rfl, fun hne' => ?_, fun h0 y34 hy34 => ?_⟩
      · have hne' : ¬ M'.flush.2 = 0 := by simpa using hne'
        have e2 : lappend M L data = (M'.flush.1, L, M'.flush.2) := by
          unfold lappend; simp only; rw [if_neg hlong, if_neg hf, heq, if_neg (by simp), if_pos hne']
        rw [e2]
        exact ⟨rfl, same _ _ f232 hD32 hn32⟩
      have h0 : M'.flush.2 = 0 := by simpa using h0
      have hb32 := hb.fr f232 hne
      have hwr : ∀ w69 k, Fr [] w32 w69 → w32.heap.size ≤ k → Blk w69 k (byteCells (logHead L.next data.size)) → Calls prog 23 #[D b, I64 L.end_, .slice (some ⟨k, 0, none⟩) 64 64] w69 fun e w74 => ∃ n, e = .returned (I64 n) ∧ y34 n w74 := by
        intro w69 k f69 hk b69
        have hbs32 := hD32.bs
        refine (write_b (hD32.fr f69 (by simp)) L.end_ b69 (by rw [logHead_size]) (by simp; omega)).mono ?_
        rintro e w74 ⟨rfl, f74, hD74⟩
        have f274 : Fr [b, ms, mf] w2 w74 := (f232.trans f69 (by simp)).trans' f74
        have hn74 : (M'.flush.1.write L.end_ (logHead L.next data.size)).1.n = M.n := by rw [write_n, hn32]
        refine ⟨_, rfl, hy34 _ _ ⟨fun hne' => ?_, fun h1 => ?_⟩⟩
        · have hne' : ¬ (M'.flush.1.write L.end_ (logHead L.next data.size)).2 = 0 := by simpa using hne'
          have e2 : lappend M L data = ((M'.flush.1.write L.end_ (logHead L.next data.size)).1, L, (M'.flush.1.write L.end_ (logHead L.next data.size)).2) := by
            unfold lappend; simp only; rw [if_neg hlong, if_neg hf, heq, if_neg (by simp), if_neg (by simp [h0]), if_pos hne']
          rw [e2]
          exact ⟨rfl, same _ _ f274 hD74 hn74⟩
        have h1 : (M'.flush.1.write L.end_ (logHead L.next data.size)).2 = 0 := by simpa using h1
        refine ⟨_, (hb.fr f274 hne).cell 0, (flush_c hD74).mono ?_⟩
        rintro e w39 ⟨rfl, f39, hD39⟩
        have f239 := f274.trans' f39
        have hn39 : (M'.flush.1.write L.end_ (logHead L.next data.size)).1.flush.1.n = M.n := by rw [flush_n hD74.ok, hn74]
        refine ⟨_, rfl, fun hne' => ?_, fun h2 => ?_⟩
        · have hne' : ¬ (M'.flush.1.write L.end_ (logHead L.next data.size)).1.flush.2 = 0 := by simpa using hne'
          have e2 : lappend M L data = ((M'.flush.1.write L.end_ (logHead L.next data.size)).1.flush.1, L, (M'.flush.1.write L.end_ (logHead L.next data.size)).1.flush.2) := by
            unfold lappend; simp only; rw [if_neg hlong, if_neg hf, heq, if_neg (by simp), if_neg (by simp [h0]), if_neg (by simp [h1]), if_pos hne']
          rw [e2]
          exact ⟨rfl, same _ _ f239 hD39 hn39⟩
        have h2 : (M'.flush.1.write L.end_ (logHead L.next data.size)).1.flush.2 = 0 := by simpa using h2
        have e2 : lappend M L data = ((M'.flush.1.write L.end_ (logHead L.next data.size)).1.flush.1, L.more data.size, 0) := by
          unfold lappend; simp only; rw [if_neg hlong, if_neg hf, heq, if_neg (by simp), if_neg (by simp [h0]), if_neg (by simp [h1]), if_neg (by simp [h2])]
        rw [e2]
        have hb39 := hb.fr f239 hne
        have hp39 : OwnZ w39 0 1 p L.heads.length c (L.heads.map I64) := hp.fr f239 (fun ad hp hm => (hpo ad hp).2 (List.mem_cons_of_mem _ hm))
        have hhl := hok.hl
        refine ⟨p, _, _, hb39.cell 5, _, hb39.cell 2, fun k45 => append_z hp39 rfl (fun u hu => by simp [spl, reps] at hu; subst hu; rfl) (Nat.zero_le _) rfl (fun h => by cases h) (fun ad _ => by simp) (fun ad _ hm => hm) (by omega) (by omega) fun w46 p47 c49 f46 n46 o46 d46 => ?_⟩
        have hk45 := g_news1 n46
        have hlb39 := hb39.lt
        have hb46 : Blk w46 lb (lcells b L p c) := hb39.fr f46 (fun hm => by
          rw [List.nil_append, g_mem_pb] at hm
          obtain ⟨ad, hp, e⟩ := hm
          exact (hpo ad hp).2 (by rw [e]; simp))
        have p47n : ∀ ad, p47 = some ad → ad.block ∉ [lb, b, ms, mf] ∧ (ad.block ∈ own ∨ w2.heap.size ≤ ad.block) ∧ ad.block < w46.heap.size := fun ad hp => by
          have hlt := (o46.lt hp).2
          have hbs39 := hD39.bs
          rcases d46 ad hp with e | ⟨e, _⟩
          · exact ⟨(hpo ad e).2, .inl (hpo ad e).1, hlt⟩
          · have := f239.size
            exact ⟨by simp; omega, .inr (by omega), hlt⟩
        refine fld_store hb46 5 (by simp [lcells]) (by simp; omega) fun w51 u51 => ?_
        refine ⟨_, (u51.blk).cell 2, fld_store u51.blk 2 (by simp [lcells]) (by simp; omega) fun w55 u55 => ⟨_, (u55.blk).cell 4, fld_store u55.blk 4 (by simp [lcells]) (by simp; omega) fun w59 u59 => ?_⟩⟩
        have b59 := u59.blk
        have fin : Fr [lb] w46 w59 := (u51.fr.trans' u55.fr).trans' u59.fr
        have x1 : IntKind.wrap .i64 (1 + ((secs data.size : Nat) : Int)) = 1 + ((secs data.size : Nat) : Int) := wrapi (by omega) (by omega)
        have x2 : IntKind.wrap .i64 (L.end_ + (1 + ((secs data.size : Nat) : Int))) = L.end_ + 1 + ((secs data.size : Nat) : Int) := by rw [wrapi (by omega) (by omega)]; omega
        have hnx : ¬ MOST < L.next := fun h => hf (.inl h)
        have hnx' : L.next ≤ 4611686018427387904 := Int.not_lt.1 hnx
        have x3 : IntKind.wrap .i64 (L.next + 1) = L.next + 1 := wrapi (by omega) (by omega)
        have Fw : Fr own w2 w59 := by
          refine ((f239.mono fun x hx => .inl (sub3 x hx)).trans f46 fun x hx => ?_).trans fin fun x hx => ?_
          · rw [List.nil_append, g_mem_pb] at hx
            obtain ⟨ad, hp, rfl⟩ := hx
            exact .inl (hpo ad hp).1
          · simp at hx; subst hx
            exact .inl (h.mem _ (by simp))
        have z59 := fin.size
        have z46 := f46.size
        refine ⟨rfl, Fw, own ++ pb p47, fun x hx => ?_, fun x hx => List.mem_append_left _ hx, (hD39.fr f46 fun x hx hm => ?_).fr fin (fun x hx hm => ?_), ?_, hne, fun x hx => List.mem_append_left _ (h.mem x hx), fun x hx => ?_, p47, c49, ?_, ?_, fun ad hp => ⟨?_, (p47n ad hp).1⟩⟩
        · rcases List.mem_append.1 hx with hx | hx
          · exact .inl hx
          · rw [g_mem_pb] at hx
            obtain ⟨ad, hp, rfl⟩ := hx
            exact (p47n ad hp).2.1
        · rw [List.nil_append, g_mem_pb] at hm
          obtain ⟨ad, hp, rfl⟩ := hm
          exact (hpo ad hp).2 (List.mem_cons_of_mem _ hx)
        · simp at hm; subst hm
          exact hne hx
        · rw [hn39]
          exact hok.more hnx (fun h => hf (.inr h))
        · rcases List.mem_append.1 hx with hx | hx
          · have := h.lt x hx
            have := f239.size
            omega
          · rw [g_mem_pb] at hx
            obtain ⟨ad, hp, rfl⟩ := hx
            have := (p47n ad hp).2.2
            omega
        · have e3 : lcells b (L.more data.size) p47 c49 = ((((lcells b L p c).set 5 (.slice p47 (L.heads.length + 1) c49)).set 2 (I64 (IntKind.wrap .i64 (L.end_ + IntKind.wrap .i64 (1 + ((secs data.size : Nat) : Int)))))).set 4 (I64 (IntKind.wrap .i64 (L.next + 1)))) := by
            rw [x1, x2, x3]
            show [_, _, _, _, _, Value.slice p47 (L.heads ++ [L.end_]).length c49] = _
            rw [List.length_append, List.length_singleton]
            rfl
          rw [e3]
          exact b59
        · have o59 := o46.fr fin (fun ad hp hm => by
            simp at hm
            exact (p47n ad hp).1 (by rw [hm]; simp))
          have e4 : (L.more data.size).heads.length = L.heads.length + 1 := by simp [LM.more]
          have e5 : (L.more data.size).heads.map I64 = L.heads.map I64 ++ [I64 L.end_] := by simp [LM.more]
          rw [e4, e5]
          exact o59
        · exact List.mem_append_right _ ((g_mem_pb _ _).2 ⟨ad, hp, rfl⟩)
      have hhd : ∀ w66, Step w32 w66 [] [] → Calls prog 70 #[I64 L.next, I64 (data.size : Int)] w66 fun e w69 => ∃ k, e = .returned (.slice (some ⟨k, 0, none⟩) 64 64) ∧ Fr [] w32 w69 ∧ w32.heap.size ≤ k ∧ Blk w69 k (byteCells (logHead L.next data.size)) := fun w66 st66 => by
        refine (head_c w66 L.next data.size).mono ?_
        rintro e w69 ⟨k, rfl, hk, f69, b69⟩
        have := st66.size
        exact ⟨k, rfl, st66.fr.trans' f69, by omega, b69⟩
      have hbx : ∀ w', Fr [] w32 w' → Blk w' lb (lcells b L p c) := fun w' f => hb32.fr f (by simp)
      clear hy34
      refine ⟨_, hb32.cell 4, ⟨_, hb32.cell 0, ⟨_, hb32.cell 2, fun w66 st => (hhd w66 st).mono ?_⟩, fun w66 st => (hhd w66 st).mono ?_⟩, ⟨_, hb32.cell 2, ⟨_, hb32.cell 0, fun w66 st => (hhd w66 st).mono ?_⟩, fun w66 st => (hhd w66 st).mono ?_⟩, fun w66 st => (hhd w66 st).mono ?_⟩
      · rintro e w69 ⟨k, rfl, f69, hk, b69⟩
        exact ⟨_, _, _, rfl, hwr w69 k f69 hk b69⟩
      · rintro e w69 ⟨k, rfl, f69, hk, b69⟩
        exact ⟨_, _, _, rfl, _, (hbx w69 f69).cell 2, hwr w69 k f69 hk b69⟩
      · rintro e w69 ⟨k, rfl, f69, hk, b69⟩
        exact ⟨_, _, _, rfl, hwr w69 k f69 hk b69⟩
      · rintro e w69 ⟨k, rfl, f69, hk, b69⟩
        exact ⟨_, _, _, rfl, _, (hbx w69 f69).cell 0, hwr w69 k f69 hk b69⟩
      · rintro e w69 ⟨k, rfl, f69, hk, b69⟩
        exact ⟨_, _, _, rfl, _, (hbx w69 f69).cell 0, _, (hbx w69 f69).cell 2, hwr w69 k f69 hk b69⟩
  clear hy4
  refine ⟨_, hb.cell 4, fun hm => ?_, fun hm => ⟨_, hb.cell 2, _, hb.cell 3, fun w129 st129 => ?_⟩⟩
  · have hm : MOST < L.next := of_decide_eq_true hm
    exact fun w125 st125 => full w125 st125.fr (.inl hm)
  · have hm : ¬ MOST < L.next := of_decide_eq_false hm
    have x1 : IntKind.wrap .i64 (L.end_ + 1) = L.end_ + 1 := wrapi (by omega) (by omega)
    have x2 : IntKind.wrap .i64 (L.end_ + 1 + ((secs data.size : Nat) : Int)) = L.end_ + 1 + ((secs data.size : Nat) : Int) := wrapi (by omega) (by omega)
    rw [x1, x2]
    by_cases hf : L.behind < L.end_ + 1 + ((secs data.size : Nat) : Int)
    · rw [decide_eq_true hf]
      exact full w129 st129.fr (.inr hf)
    · rw [decide_eq_false hf]
      exact room w129 st129.fr (fun h => by rcases h with h | h; exact hm h; exact hf h)

end Go.Proofs.Ytcaamecdhbgknaa.Log
