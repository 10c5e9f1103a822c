/- The log: its model; wiping, Room, Next. -/
import Derived.Test.YtcaamecdhbgknaaG1
namespace Go.Proofs.Ytcaamecdhbgknaa.Log
open Go Go.V
open Go.Proofs.Ytcaamecdhbgknaa.VC
open Go.Proofs.Ytcaamecdhbgknaa.Disk
open Go.Proofs.Try (prog)
set_option linter.unusedVariables false
set_option linter.unusedSimpArgs false
set_option maxRecDepth 20000

abbrev MOST : Int := 4611686018427387904
/-- A log: its first sector, its records' end, the sector behind all, the next number, the records' first sectors. -/
structure LM where
  first : Int
  end_ : Int
  behind : Int
  next : Int
  heads : List Int
structure LM.Ok (L : LM) (n : Int) : Prop where
  f0 : 0 ≤ L.first
  fe : L.first ≤ L.end_
  eb : L.end_ ≤ L.behind
  bn : L.behind ≤ n
  n4 : n ≤ 4096
  n1 : 1 ≤ L.next
  n2 : L.next ≤ MOST + 1
  hl : (L.heads.length : Int) ≤ L.end_ - L.first
  hr : ∀ x ∈ L.heads, L.first ≤ x ∧ x < L.end_
def lcells (b : Nat) (L : LM) (p : Option Addr) (c : Nat) : List Value := [D b, I64 L.first, I64 L.end_, I64 L.behind, I64 L.next, .slice p L.heads.length c]
/-- A log in memory, on a disk; its own blocks. -/
structure LogAt (w : World) (own : List Nat) (lb b ms mf : Nat) (M : DM) (L : LM) : Prop where
  disk : DiskAt w b ms mf M
  ok : L.Ok M.n
  ne : lb ∉ [b, ms, mf]
  mem : ∀ x ∈ [lb, b, ms, mf], x ∈ own
  lt : ∀ x ∈ own, x < w.heap.size
  blk : ∃ p c, Blk w lb (lcells b L p c) ∧ OwnZ w 0 1 p L.heads.length c (L.heads.map I64) ∧ ∀ ad, p = some ad → ad.block ∈ own ∧ ad.block ∉ [lb, b, ms, mf]
theorem LogAt.fr {F own : List Nat} {v w : World} {lb b ms mf : Nat} {M : DM} {L : LM} (h : LogAt v own lb b ms mf M L) (hf : Fr F v w) (hn : ∀ x ∈ own, x ∉ F) : LogAt w own lb b ms mf M L := by
  obtain ⟨p, c, h1, h2, h3⟩ := h.blk
  exact ⟨h.disk.fr hf (fun x hx => hn x (h.mem x (by simp at hx ⊢; simp [hx]))), h.ok, h.ne, h.mem, fun x hx => Nat.lt_of_lt_of_le (h.lt x hx) hf.size, p, c, h1.fr hf (hn _ (h.mem _ (by simp))), h2.fr hf (fun ad hp => hn _ (h3 ad hp).1), h3⟩
theorem LogAt.setD {own : List Nat} {v w : World} {lb b ms mf : Nat} {M M' : DM} {L : LM} (h : LogAt v own lb b ms mf M L) (hf : Fr [b, ms, mf] v w) (hD : DiskAt w b ms mf M') (hn : M'.n = M.n) : LogAt w own lb b ms mf M' L := by
  obtain ⟨p, c, h1, h2, h3⟩ := h.blk
  exact ⟨hD, by rw [hn]; exact h.ok, h.ne, h.mem, fun x hx => Nat.lt_of_lt_of_le (h.lt x hx) hf.size, p, c, h1.fr hf h.ne, h2.fr hf (fun ad hp hm => (h3 ad hp).2 (List.mem_cons_of_mem _ hm)), h3⟩

/-! ### Writing many sectors -/
def writes (M : DM) : List (Int × ByteArray) → DM × Int
  | [] => (M, 0)
  | (i, s) :: l => if (M.write i s).2 = 0 then writes (M.write i s).1 l else M.write i s
def wipe (M : DM) (l : List Int) : DM × Int := if (writes M (l.map fun i => (i, zsec))).2 = 0 then (writes M (l.map fun i => (i, zsec))).1.flush else writes M (l.map fun i => (i, zsec))
theorem write_n (M : DM) (i : Int) (s : ByteArray) : (M.write i s).1.n = M.n := by
  unfold DM.write
  split
  · rfl
  · split <;> rfl
theorem flush_n {M : DM} (h : M.Ok) : M.flush.1.n = M.n := by
  unfold DM.flush
  split
  · rfl
  · show (M.now.length : Int) = M.sure.length
    rw [h.now]
theorem DM.Ok.write' {M : DM} (h : M.Ok) (i : Int) (s : ByteArray) : (M.write i s).1.Ok := by
  unfold DM.write
  split
  · exact h
  · split
    · exact h
    · rename_i h1 h2
      have h1 : ¬ (i < 0 ∨ (M.sure.length : Int) ≤ i ∨ s.size ≠ 64) := h1
      exact h.wrote (by omega) (by omega)
theorem writes_n (l : List (Int × ByteArray)) : ∀ M : DM, (writes M l).1.n = M.n := by
  induction l with
  | nil => intro M; rfl
  | cons p l ih =>
    obtain ⟨i, s⟩ := p
    intro M
    unfold writes
    split
    · rw [ih, write_n]
    · rw [write_n]
theorem writes_ok (l : List (Int × ByteArray)) : ∀ {M : DM}, M.Ok → (writes M l).1.Ok := by
  induction l with
  | nil => intro M h; exact h
  | cons p l ih =>
    obtain ⟨i, s⟩ := p
    intro M h
    unfold writes
    split
    · exact ih (DM.Ok.write' h i s)
    · exact DM.Ok.write' h i s

theorem wipe_c {w : World} {lb b ms mf : Nat} {M : DM} {cs : List Value} (hb : Blk w lb (D b :: cs)) (hD : DiskAt w b ms mf M) (hlb : lb ∉ [b, ms, mf]) {aA : Option Addr} {aC : Nat} {l : List Int} (ha : Row w aA (l.map I64)) (hd : ∀ ad, aA = some ad → ad.block ∉ [b, ms, mf]) (hl : l.length ≤ 4096) :
    Calls prog 68 #[D lb, .slice aA l.length aC] w fun e w' => e = .returned (I64 (wipe M l).2) ∧ Fr [b, ms, mf] w w' ∧ DiskAt w' b ms mf (wipe M l).1 := by
  refine log_Log_wipe.link ⟨fun m q w' => ∃ (i : Nat) (M' : DM), q = i ∧ i ≤ l.length ∧ m = l.length - i ∧ Fr [b, ms, mf] w w' ∧ DiskAt w' b ms mf M' ∧ writes M (l.map fun i => (i, zsec)) = writes M' ((l.drop i).map fun i => (i, zsec)), l.length, ⟨0, M, rfl, by omega, rfl, Fr.refl _ _, hD, rfl⟩, ?_⟩
  rintro m q w5 ⟨i, M', rfl, hi, rfl, f5, hD5, heq⟩
  have hb5 : Blk w5 lb (D b :: cs) := hb.fr f5 hlb
  refine ⟨fun hlt => ?_, fun hge => ?_⟩
  · have hlt : (i : Int) < (l.length : Int) := of_decide_eq_true hlt
    have hil : i < l.length := by omega
    refine rd I64 (g_row f5 ha fun ad hp _ => hd ad hp) rfl hil hlt ⟨_, hb5.cell 0, by decide, fun w10 k11 st10 b10 => ?_⟩
    have n11 := g_new1 st10
    rw [← zsec_cells] at b10
    have hD10 : DiskAt w10 b ms mf M' := hD5.fr st10.fr (by simp)
    have hbs := hD5.bs
    have z10 := st10.size
    refine (write_b hD10 l[i] b10 (by rw [zsec_size]) (by simp; omega)).mono ?_
    rintro e w15 ⟨rfl, f15, hD15⟩
    have f015 : Fr [b, ms, mf] w w15 := (f5.trans st10.fr (by simp)).trans' f15
    have hstep : (l.drop i).map (fun i => (i, zsec)) = (l[i], zsec) :: (l.drop (i + 1)).map fun i => (i, zsec) := by
      rw [List.drop_eq_getElem_cons hil]; rfl
    rw [hstep] at heq
    refine ⟨_, rfl, fun hne => ?_, fun h0 => ⟨l.length - (i + 1), by omega, i + 1, _, by rw [wrapi (by omega) (by omega)]; simp, by omega, rfl, f015, hD15, ?_⟩⟩
    · have hne : ¬ (M'.write l[i] zsec).2 = 0 := by simpa using hne
      have e1 : writes M (l.map fun i => (i, zsec)) = M'.write l[i] zsec := by rw [heq]; unfold writes; rw [if_neg hne]
      have e2 : wipe M l = M'.write l[i] zsec := by unfold wipe; rw [e1, if_neg hne]
      rw [e2]
      exact ⟨rfl, f015, hD15⟩
    · have h0 : (M'.write l[i] zsec).2 = 0 := by simpa using h0
      rw [heq]
      show writes M' ((l[i], zsec) :: _) = _
      rw [writes, if_pos h0]
  · have hge : ¬ (i : Int) < (l.length : Int) := of_decide_eq_false hge
    have hd0 : l.drop i = [] := List.drop_eq_nil_iff.2 (by omega)
    rw [hd0] at heq
    have heq : writes M (l.map fun i => (i, zsec)) = (M', 0) := heq
    refine ⟨_, hb5.cell 0, (flush_c hD5).mono ?_⟩
    rintro e w20 ⟨rfl, f20, hD20⟩
    have e2 : wipe M l = M'.flush := by unfold wipe; rw [heq, if_pos rfl]
    rw [e2]
    exact ⟨_, rfl, rfl, f5.trans' f20, hD20⟩

/-! ### What it tells -/
theorem next_c {w : World} {own : List Nat} {lb b ms mf : Nat} {M : DM} {L : LM} (h : LogAt w own lb b ms mf M L) : Calls prog 37 #[D lb] w fun e w' => w' = w ∧ e = .returned (I64 L.next) := by
  obtain ⟨p, c, h1, _⟩ := h.blk
  exact log_Log_Next.link ⟨_, h1.cell 4, rfl, rfl⟩
def LM.room (L : LM) : Int := if MOST < L.next then -1 else max (-1) (min 4000 ((L.behind - L.end_ - 1) * 64))
theorem room_c {w : World} {own : List Nat} {lb b ms mf : Nat} {M : DM} {L : LM} (h : LogAt w own lb b ms mf M L) : Calls prog 36 #[D lb] w fun e w' => Fr [] w w' ∧ e = .returned (I64 L.room) := by
  obtain ⟨p, c, h1, _⟩ := h.blk
  have hok := h.ok
  have := hok.f0
  have := hok.fe
  have := hok.eb
  have := hok.bn
  have := hok.n4
  refine log_Log_Room.link ⟨_, h1.cell 4, fun hm => ?_, fun hm => ⟨_, h1.cell 3, _, h1.cell 2, fun w4 st => ?_⟩⟩
  · have hm : MOST < L.next := of_decide_eq_true hm
    refine ⟨Fr.refl _ _, ?_⟩
    unfold LM.room; rw [if_pos hm]
  · have hm : ¬ MOST < L.next := of_decide_eq_false hm
    refine ⟨st.fr, ?_⟩
    unfold LM.room; rw [if_neg hm]
    rw [wrapi (n := L.behind - L.end_) (by omega) (by omega), wrapi (n := L.behind - L.end_ - 1) (by omega) (by omega), wrapi (n := (L.behind - L.end_ - 1) * 64) (by omega) (by omega)]
    have key : ∀ x : Int, (if (if x < 4000 then x else 4000) > -1 then (if x < 4000 then x else 4000) else -1) = max (-1) (min 4000 x) := fun x => by
      by_cases h1 : x < 4000
      · rw [if_pos h1]
        split <;> omega
      · rw [if_neg h1, if_pos (by omega)]; omega
    rw [key]

/-- A field of a struct is written. -/
theorem fld_store {w : World} {k : Nat} {cs : List Value} {x : Value} {K : World → Prop} {privs : List Nat} (h : Blk w k cs) (m : Nat) (hm : m < cs.length) (hp : k ∉ privs) (hK : ∀ w', Upd w w' k (cs.set m x) → K w') :
    ∃ l : List Value, Blk w (Addr.block (Addr.add ⟨k, 0, none⟩ m)) l ∧ Addr.spot (Addr.add ⟨k, 0, none⟩ m) = none ∧ Addr.off (Addr.add ⟨k, 0, none⟩ m) + 1 ≤ l.length ∧ ¬ Addr.block (Addr.add ⟨k, 0, none⟩ m) ∈ privs ∧
      ∀ w', Upd w w' (Addr.block (Addr.add ⟨k, 0, none⟩ m)) (sets l (Addr.off (Addr.add ⟨k, 0, none⟩ m)) [x]) → K w' := by
  refine ⟨cs, ?_⟩
  rw [add_mk, Nat.zero_add]
  exact ⟨h, rfl, hm, hp, fun w' hu => hK w' hu⟩

end Go.Proofs.Ytcaamecdhbgknaa.Log
