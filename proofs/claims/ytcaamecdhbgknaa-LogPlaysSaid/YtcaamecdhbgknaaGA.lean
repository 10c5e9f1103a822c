/- The log: disks that are alive; the document's example. -/
import Derived.Test.YtcaamecdhbgknaaG6
import Derived.Test.YtcaamecdhbgknaaC6
namespace Go.Proofs.Ytcaamecdhbgknaa.Log
open Go Go.V
open Go.Proofs.Ytcaamecdhbgknaa.VC
open Go.Proofs.Ytcaamecdhbgknaa.Disk
open Go.Proofs.Try (prog)
set_option linter.unusedVariables false
set_option linter.unusedSimpArgs false
set_option maxRecDepth 20000

theorem write_alive {M : DM} (hl : M.left < 0) {i : Int} {s : ByteArray} (h0 : 0 ≤ i) (h1 : i < M.n) (hs : s.size = 64) : (M.write i s).2 = 0 ∧ (M.write i s).1.left = M.left := by
  rw [write_live h0 h1 hs (fun h : M.left = 0 => by omega)]
  refine ⟨rfl, ?_⟩
  show (if 0 < M.left then M.left - 1 else M.left) = M.left
  rw [if_neg (by omega)]
theorem flush_alive {M : DM} (hl : M.left < 0) : M.flush.2 = 0 ∧ M.flush.1.left = M.left := by
  unfold DM.flush
  rw [if_neg (show ¬ M.dead from fun h : M.left = 0 => by omega)]
  refine ⟨rfl, ?_⟩
  show (if 0 < M.left then M.left - 1 else M.left) = M.left
  rw [if_neg (by omega)]
theorem writes_alive : ∀ (l : List (Int × ByteArray)) {M : DM}, M.left < 0 → (∀ p ∈ l, 0 ≤ p.1 ∧ p.1 < M.n ∧ p.2.size = 64) → (writes M l).2 = 0 ∧ (writes M l).1.left = M.left
  | [], M, _, _ => ⟨rfl, rfl⟩
  | (i, s) :: l, M, hl, h => by
    obtain ⟨h0, h1, h2⟩ := h (i, s) List.mem_cons_self
    obtain ⟨e1, e2⟩ := write_alive hl h0 h1 h2
    unfold writes
    rw [if_pos e1]
    obtain ⟨f1, f2⟩ := writes_alive l (M := (M.write i s).1) (by rw [e2]; exact hl) (fun p hp => by rw [write_n]; exact h p (List.mem_cons_of_mem _ hp))
    exact ⟨f1, f2.trans e2⟩
def isFull (L : LM) (n : Nat) : Prop := MOST < L.next ∨ L.behind < L.end_ + 1 + (secs n : Nat)
instance (L : LM) (n : Nat) : Decidable (isFull L n) := inferInstanceAs (Decidable (_ ∨ _))
theorem lappend_long {M : DM} {L : LM} {d : ByteArray} (h : 4000 < d.size) : lappend M L d = (M, L, 3) := by unfold lappend; rw [if_pos h]
theorem lappend_full {M : DM} {L : LM} {d : ByteArray} (h : ¬ 4000 < d.size) (hf : isFull L d.size) : lappend M L d = (M, L, 5) := by unfold lappend; rw [if_neg h, if_pos (show MOST < L.next ∨ L.behind < L.end_ + 1 + (secs d.size : Nat) from hf)]
theorem lappend_alive {M : DM} {L : LM} {d : ByteArray} (hM : M.Ok) (hok : L.Ok M.n) (hl : M.left < 0) (h : ¬ 4000 < d.size) (hf : ¬ isFull L d.size) : (lappend M L d).2 = (L.more d.size, 0) ∧ (lappend M L d).1.left = M.left := by
  have h0 := hok.f0
  have h1 := hok.fe
  have h3 := hok.bn
  have hf' : ¬ (MOST < L.next ∨ L.behind < L.end_ + 1 + (secs d.size : Nat)) := hf
  obtain ⟨a1, a2⟩ := writes_alive (puts L d (secs d.size)) hl (fun p hp => by
    obtain ⟨i, hi, rfl⟩ := List.mem_map.1 hp
    have hi := List.mem_range.1 hi
    exact ⟨by show 0 ≤ L.end_ + 1 + (i : Int); omega, by show L.end_ + 1 + (i : Int) < M.n; omega, chunk_size _ _⟩)
  have n1 := writes_n (puts L d (secs d.size)) M
  obtain ⟨b1, b2⟩ := flush_alive (M := (writes M (puts L d (secs d.size))).1) (by omega)
  have n2 : (writes M (puts L d (secs d.size))).1.flush.1.n = M.n := by rw [flush_n (writes_ok _ hM), n1]
  have hs0 : 0 ≤ ((secs d.size : Nat) : Int) := by omega
  obtain ⟨c1, c2⟩ := write_alive (M := (writes M (puts L d (secs d.size))).1.flush.1) (i := L.end_) (s := logHead L.next d.size) (by omega) (by omega) (by omega) (logHead_size _ _)
  obtain ⟨d1, d2⟩ := flush_alive (M := ((writes M (puts L d (secs d.size))).1.flush.1.write L.end_ (logHead L.next d.size)).1) (by omega)
  unfold lappend
  simp only
  rw [if_neg h, if_neg hf', if_neg (by rw [a1]; simp), if_neg (by rw [b1]; simp), if_neg (by rw [c1]; simp), if_neg (by rw [d1]; simp)]
  exact ⟨rfl, by rw [d2, c2, b2, a2]⟩

/-- Zeros are no head. -/
theorem recAt_zero {now : List ByteArray} {a behind : Nat} (h : now.getD a zsec = zsec) : recAt now a behind = none := by
  have e : beN (bytesAt zsec 1 8) = 0 := by decide +kernel
  unfold recAt
  simp only [h]
  rw [if_neg (by rw [e]; omega)]
theorem fresh_get (n i : Nat) : (DM.fresh0 n).now.getD i zsec = zsec := by
  show (List.replicate n zsec).getD i zsec = zsec
  rw [List.getD_eq_getElem?_getD, List.getElem?_replicate]
  split <;> rfl
theorem fresh_scan (n first behind : Nat) : lscan (DM.fresh0 n) first behind = [] := by
  unfold lscan
  cases behind - first with
  | zero => rfl
  | succ k =>
    unfold scan
    rw [recAt_zero (fresh_get n first)]
    split <;> rfl
theorem fresh_dirty (n a k : Nat) : dirtyTo (DM.fresh0 n) a k = [] := by
  induction k with
  | zero => rfl
  | succ k ih => rw [dirtyTo_succ, if_pos (fresh_get n _), ih]
theorem fresh_open {n : Nat} {first count : Int} (h : ¬ badArea (DM.fresh0 n) first count) : lopen (DM.fresh0 n) first count = (DM.fresh0 n, 0) ∧ lopenL (DM.fresh0 n) first count = ⟨first, first, first + count, 1, []⟩ := by
  have h' : ¬ (first < 0 ∨ count < 2 ∨ (DM.fresh0 n).n < first ∨ (DM.fresh0 n).n - first < count) := h
  constructor
  · unfold lopen
    rw [if_neg h, if_pos (by unfold ldirty; exact fresh_dirty _ _ _)]
  · unfold lopenL
    rw [fresh_scan]
    show (⟨first, ((first.toNat : Nat) : Int), first + count, 1, []⟩ : LM) = _
    rw [show ((first.toNat : Nat) : Int) = first by omega]

def five : ByteArray := ⟨#[102, 105, 118, 101, 33]⟩
def L4 : LM := ⟨0, 0, 4, 1, []⟩
theorem lawake_c (w : World) : Calls prog 33 #[] w fun e w' => e = .returned (.bool true) ∧ Fr [] w w' := by
  refine rhizomelaw04_awake.link (_u := ()) ((new_c w 4).mono ?_)
  rintro e w2 ⟨_, hgood⟩
  obtain ⟨b, ms, mf, rfl, hnew, f2, hD⟩ := hgood (by omega)
  have hn1 := hnew b (by simp)
  have hn2 := hnew ms (by simp)
  have hn3 := hnew mf (by simp)
  refine ⟨_, _, rfl, fun y5 hy5 => bF rfl (hy5 _ _ (bF rfl ((open_c hD (first := 0) (count := 4) (by omega) (by omega)).mono ?_)))⟩
  clear hy5
  obtain ⟨eo, eL⟩ := fresh_open (n := 4) (first := 0) (count := 4) (by decide)
  rintro e w9 ⟨f9, hD9, _, h9⟩
  rw [show (4 : Int).toNat = 4 from rfl, eo] at h9
  obtain ⟨lb, p, c, rs, own, rfl, hL, hR, hrs, hown, _⟩ := h9 rfl
  rw [eL] at hL
  rw [fresh_scan] at hrs
  have hrs0 : rs = [] := List.map_eq_nil_iff.1 hrs
  subst hrs0
  have z2 := f2.size
  have hbl : ∀ x ∈ own, w.heap.size ≤ x := fun x hx => by
    rcases hown x hx with h | h
    · simp at h; omega
    · omega
  have f29 : Fr [] w w9 := f2.trans f9 (fun x hx => .inr (by simp at hx; omega))
  have m1 : (lappend (DM.fresh0 4) L4 five).2.2 = 0 ∧ (lappend (DM.fresh0 4) L4 five).1.steps = 4 ∧ (lappend (DM.fresh0 4) L4 five).2.1.room = 64 ∧ (lappend (DM.fresh0 4) L4 five).2.1.next = 2 ∧ isFull (lappend (DM.fresh0 4) L4 five).2.1 65 := by decide +kernel
  refine ⟨_, _, _, _, _, rfl, fun y15 hy15 => bT rfl (bT rfl (bT rfl fun k20 w21 st21 w23 u23 => ?_))⟩
  have n20 := g_new1 st21
  have hL23 : LogAt w23 own lb b ms mf (DM.fresh0 4) L4 := (hL.fr st21.fr (fun x _ => by simp)).fr u23.fr (fun x hx hm => by
    simp at hm; subst hm
    have := hL.lt x hx
    omega)
  have r23 : Row w23 (some ⟨k20, 0, none⟩) (byteCells five) := Row.all u23.blk (byteCells_one _)
  refine (append_c hL23 (dC := 5) r23 (by decide)).mono ?_
  rintro e w26 ⟨rfl, f26, own2, ho2, ho2', hL26⟩
  refine ⟨_, rfl, bT (by rw [m1.1]; rfl) ((steps_c hL26.disk).mono ?_)⟩
  rintro e w29 ⟨rfl, rfl⟩
  refine ⟨_, rfl, bT (by rw [m1.2.1]; rfl) ⟨by decide, fun w31 k32 st31 b31 => ?_⟩⟩
  have hz : (⟨Array.replicate 65 0⟩ : ByteArray).size = 65 := by decide +kernel
  have b31' : Blk w31 k32 (byteCells ⟨Array.replicate 65 0⟩) := by
    have e : byteCells ⟨Array.replicate 65 0⟩ = reps [Value.int .u8 0] 65 := by rw [reps_one]; simp [byteCells]
    rw [e]; exact b31
  have ap := append_c (hL26.fr st31.fr (fun x _ => by simp)) (dC := 65) (Row.all b31' (byteCells_one _)) (by rw [hz]; omega)
  rw [hz, lappend_full (by rw [hz]; omega) (by rw [hz]; exact m1.2.2.2.2)] at ap
  refine ap.mono ?_
  rintro e w36 ⟨rfl, f36, own3, ho3, ho3', hL36⟩
  refine ⟨_, rfl, bT rfl ((room_c hL36).mono ?_)⟩
  rintro e w39 ⟨f39, rfl⟩
  refine ⟨_, rfl, bT (by rw [m1.2.2.1]; rfl) ((next_c (hL36.fr f39 (fun x _ => by simp))).mono ?_)⟩
  rintro e w42 ⟨rfl, rfl⟩
  refine ⟨_, rfl, hy15 _ _ ?_⟩
  have hfin : Fr [] w w42 := by
    have z9 := f29.size
    have z21 := st21.size
    refine (((((f29.trans' st21.fr).trans u23.fr (fun x hx => .inr (by simp at hx; omega))).trans f26 (fun x hx => .inr (hbl x hx))).trans' st31.fr).trans f36 (fun x hx => .inr ?_)).trans' f39
    rcases ho2 x hx with h | h
    · exact hbl x h
    · have := u23.size; omega
  exact ⟨by rw [m1.2.2.2.1]; rfl, hfin⟩

/-- A beginning. -/
def pre (s : ByteArray) (n : Nat) : ByteArray := ⟨(s.data.toList.take n).toArray⟩
theorem pre_cells (s : ByteArray) (n : Nat) : byteCells (pre s n) = (byteCells s).take n := by simp [pre, byteCells, List.map_take]
theorem pre_size (s : ByteArray) (n : Nat) : (pre s n).size = min n s.size := by rw [← byteCells_length, pre_cells, List.length_take, byteCells_length]
def zeroB (n : Nat) : ByteArray := ⟨Array.replicate n 0⟩
theorem zeroB_size (n : Nat) : (zeroB n).size = n := by
  show (Array.replicate n (0 : UInt8)).size = n
  rw [Array.size_replicate]
theorem zeroB_cells (n : Nat) : byteCells (zeroB n) = reps [Value.int .u8 0] n := by rw [reps_one]; simp [byteCells, zeroB]

end Go.Proofs.Ytcaamecdhbgknaa.Log
