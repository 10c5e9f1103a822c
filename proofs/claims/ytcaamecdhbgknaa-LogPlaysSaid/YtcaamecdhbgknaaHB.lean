/- LogPlays: what each kind of call does to both. -/
import Derived.Test.YtcaamecdhbgknaaHA
namespace Go.Proofs.Ytcaamecdhbgknaa.Log
open Go Go.V
open Go.Proofs.Ytcaamecdhbgknaa.VC
open Go.Proofs.Ytcaamecdhbgknaa.Disk
open Go.Proofs.Try (prog)
set_option linter.unusedVariables false
set_option linter.unusedSimpArgs false
set_option maxRecDepth 20000

theorem lappend_L (M : DM) (L : LM) (d : ByteArray) : (lappend M L d).2.1 = if (lappend M L d).2.2 = 0 then L.more d.size else L := by
  unfold lappend
  simp only
  by_cases h1 : 4000 < d.size
  · rw [if_pos h1]; rw [if_neg (show ¬ (3 : Int) = 0 by decide)]
  rw [if_neg h1]
  by_cases h2 : MOST < L.next ∨ L.behind < L.end_ + 1 + (secs d.size : Nat)
  · rw [if_pos h2]; rw [if_neg (show ¬ (5 : Int) = 0 by decide)]
  rw [if_neg h2]
  generalize writes M (puts L d (secs d.size)) = r1
  by_cases h3 : r1.2 ≠ 0
  · rw [if_pos h3]; rw [if_neg h3]
  rw [if_neg h3]
  generalize r1.1.flush = r2
  by_cases h4 : r2.2 ≠ 0
  · rw [if_pos h4]; rw [if_neg h4]
  rw [if_neg h4]
  generalize r2.1.write L.end_ (logHead L.next d.size) = r3
  by_cases h5 : r3.2 ≠ 0
  · rw [if_pos h5]; rw [if_neg h5]
  rw [if_neg h5]
  generalize r3.1.flush = r4
  by_cases h6 : r4.2 ≠ 0
  · rw [if_pos h6]; rw [if_neg h6]
  rw [if_neg h6, if_pos rfl]
theorem lappend_low {M : DM} {L : LM} {d : ByteArray} (h : (lappend M L d).2.2 = 0) : d.size ≤ 4000 := by
  rcases Nat.lt_or_ge 4000 d.size with h1 | h1
  · rw [lappend_long h1] at h; exact absurd h (show ¬ (3 : Int) = 0 by decide)
  · exact h1
theorem lreset_L (M : DM) (L : LM) (x : Int) : (lreset M L x).2.1 = if (lreset M L x).2.2 = 0 then L.none x else L := by
  unfold lreset
  simp only
  by_cases h1 : x < 1 ∨ MOST < x
  · rw [if_pos h1]; rw [if_neg (show ¬ (1 : Int) = 0 by decide)]
  rw [if_neg h1]
  by_cases h2 : L.heads = []
  · rw [if_pos h2, if_pos rfl]
  rw [if_neg h2]
  generalize wipe M L.heads = r1
  by_cases h3 : r1.2 ≠ 0
  · rw [if_pos h3]; rw [if_neg h3]
  rw [if_neg h3]
  generalize wipe r1.1 (others L) = r2
  by_cases h4 : r2.2 ≠ 0
  · rw [if_pos h4]; rw [if_neg h4]
  rw [if_neg h4, if_pos rfl]
theorem lreset_low {M : DM} {L : LM} {x : Int} (h : (lreset M L x).2.2 = 0) : 1 ≤ x := by
  rcases Int.lt_or_le x 1 with h1 | h1
  · unfold lreset at h; rw [if_pos (.inl h1)] at h; exact absurd h (show ¬ (1 : Int) = 0 by decide)
  · exact h1

section
variable {w0 w : World} {own ks : List Nat} {lb b ms mf : Nat} {n : Int} {first count : Nat} {v : Value} {M : DM} {L : LM} {p : Option Addr} {rs : RR} {q : Nat} {c : Nat}

/-- Appended to the log, and to the reference. -/
theorem PlaysAt.append (h : PlaysAt w0 w own ks lb b ms mf n first count v M L p rs q) {dA : Option Addr} {dC : Nat} {data : ByteArray} (hd : Row w dA (byteCells data)) (hz : data.size ≤ 140737488351232) :
    Calls prog 35 #[D lb, .slice dA data.size dC] w fun e w1 => e = .returned (I64 (lappend M L data).2.2) ∧ Fr own w w1 ∧
      Calls prog 42 #[v, rlog first count p c rs (q : Int), .string data] w1 fun e w2 => ∃ v' lv own' p' c' rs' q', e = .returned (.tuple #[v', lv, I64 (lappend M L data).2.2]) ∧ lv = rlog first count p' c' rs' ((q' : Nat) : Int) ∧ Fr [] w1 w2 ∧ PlaysAt w0 w2 own' ks lb b ms mf n first count v' (lappend M L data).1 (lappend M L data).2.1 p' rs' q' := by
  obtain ⟨B1, B2, B3, B4, B5, B6⟩ := h.bounds
  refine (append_c h.log hd hz).mono ?_
  rintro e w1 ⟨rfl, f1, own', ho', hsub, hL⟩
  refine ⟨rfl, f1, ?_⟩
  have z1 := f1.size
  have obs : ∀ x ∈ own', w0.heap.size ≤ x := fun x hx => by
    rcases ho' x hx with h1 | h1
    · exact h.ob x h1
    · have := h.fr.size; omega
  have kn : ∀ x ∈ ks, x ∉ own' := fun x hx hm => by
    have := h.kb x hx
    rcases ho' x hm with h1 | h1
    · exact this.2.2 h1
    · omega
  have hR : RefAt w1 v (own' ++ ks) M := (h.ref.ext (G := own' ++ ks) (fun x hx => by
    rcases List.mem_append.1 hx with hx | hx
    · rcases ho' x hx with h1 | h1
      · exact .inl (List.mem_append_left _ h1)
      · exact .inr h1
    · exact .inl (List.mem_append_right _ hx))).fr f1 (fun x hx => .inl (List.mem_append_left _ (hsub x hx)))
  have hlt : ∀ x ∈ own' ++ ks, x < w1.heap.size := fun x hx => by
    rcases List.mem_append.1 hx with hx | hx
    · exact hL.lt x hx
    · have := (h.kb x hx).2.1; omega
  have row1 : Row w1 p (rrcells rs) := g_row f1 h.row (fun ad hp _ hm => (h.pb ad hp).2.1 hm)
  refine (rappend_c hR hlt (L := L) row1 (fun ad hp => by have := (h.pb ad hp).1; omega) h.sz B4 (by omega) h.he h.hb h.hq (by omega) B1 hz).mono ?_
  rintro e w2 ⟨v', lv, rfl, hA⟩
  have z2 := hA.fr.size
  have F2 : Fr [] w0 w2 := (h.fr.trans f1 (fun x hx => .inr (h.ob x hx))).trans' hA.fr
  have hL2 := hL.fr hA.fr (fun x _ => by simp)
  have kb2 : ∀ x ∈ ks, w0.heap.size ≤ x ∧ x < w2.heap.size ∧ x ∉ own' := fun x hx => ⟨(h.kb x hx).1, by have := (h.kb x hx).2.1; omega, kn x hx⟩
  by_cases hc : (lappend M L data).2.2 = 0
  · obtain ⟨p', c', rfl, hrow, hpb⟩ := hA.good hc
    have hfull := lappend_low hc
    have hLm : (lappend M L data).2.1 = L.more data.size := by rw [lappend_L, if_pos hc]
    refine ⟨v', _, own', p', c', rs ++ [(q, data)], q + 1, rfl, rfl, hA.fr, ?_⟩
    refine ⟨hL2, hA.ref, ?_, F2, kb2, obs, hrow, fun ad hp => ?_, ?_, ?_, ?_, ?_, ?_, ?_⟩
    · rw [lappend_n h.log.disk.ok]; exact h.n
    · have g1 := hpb ad hp
      refine ⟨?_, fun hm => ?_, fun hm => ?_⟩
      · subst hp; exact Row.lt hrow (by rw [rrcells_len]; simp)
      · have := hL.lt _ hm; omega
      · have := (h.kb _ hm).2.1; omega
    · intro r hr
      rcases List.mem_append.1 hr with hr | hr
      · exact h.sz r hr
      · rw [List.mem_singleton.1 hr]; show data.size ≤ 4000; omega
    · rw [hLm]; exact h.hf
    · rw [hLm]; exact h.hb
    · rw [hLm, rend_snoc]
      show L.end_ + 1 + (secs data.size : Nat) = ((rend first rs + 1 + secs data.size : Nat) : Int)
      rw [h.he]; omega
    · rw [hLm, hpos_snoc]
      show L.heads ++ [L.end_] = _
      rw [h.hh, h.he]
    · rw [hLm]
      show L.next + 1 = _
      rw [h.hq]; omega
  · obtain rfl := hA.bad hc
    have hLm : (lappend M L data).2.1 = L := by rw [lappend_L, if_neg hc]
    refine ⟨v', _, own', p, c, rs, q, rfl, rfl, hA.fr, ?_⟩
    refine ⟨hL2, hA.ref, ?_, F2, kb2, obs, g_row hA.fr row1 (fun ad _ _ => by simp), fun ad hp => ?_, h.sz, ?_, ?_, ?_, ?_, ?_⟩
    · rw [lappend_n h.log.disk.ok]; exact h.n
    · have g1 := h.pb ad hp
      refine ⟨by omega, fun hm => ?_, g1.2.2⟩
      rcases ho' _ hm with h1 | h1
      · exact g1.2.1 h1
      · omega
    · rw [hLm]; exact h.hf
    · rw [hLm]; exact h.hb
    · rw [hLm]; exact h.he
    · rw [hLm]; exact h.hh
    · rw [hLm]; exact h.hq

/-- Reset, both. -/
theorem PlaysAt.reset (h : PlaysAt w0 w own ks lb b ms mf n first count v M L p rs q) (next : Int) :
    Calls prog 43 #[D lb, I64 next] w fun e w1 => e = .returned (I64 (lreset M L next).2.2) ∧ Fr own w w1 ∧
      Calls prog 44 #[v, rlog first count p c rs (q : Int), I64 next] w1 fun e w2 => ∃ v' lv p' c' rs' q', e = .returned (.tuple #[v', lv, I64 (lreset M L next).2.2]) ∧ lv = rlog first count p' c' rs' ((q' : Nat) : Int) ∧ Fr [] w1 w2 ∧ PlaysAt w0 w2 own ks lb b ms mf n first count v' (lreset M L next).1 (lreset M L next).2.1 p' rs' q' := by
  obtain ⟨B1, B2, B3, B4, B5, B6⟩ := h.bounds
  refine (reset_c h.log next).mono ?_
  rintro e w1 ⟨rfl, f1, hL⟩
  refine ⟨rfl, f1, ?_⟩
  have z1 := f1.size
  have hR : RefAt w1 v (own ++ ks) M := h.ref.fr f1 (fun x hx => .inl (List.mem_append_left _ hx))
  have row1 : Row w1 p (rrcells rs) := g_row f1 h.row (fun ad hp _ hm => (h.pb ad hp).2.1 hm)
  refine (rreset_c hR (fun x hx => by have := h.lts x hx; omega) (L := L) row1 (fun ad hp => by have := (h.pb ad hp).1; omega) h.sz B4 (by omega) h.hf h.hh h.he next).mono ?_
  rintro e w2 ⟨v', lv, rfl, hA⟩
  have z2 := hA.fr.size
  have F2 : Fr [] w0 w2 := (h.fr.trans f1 (fun x hx => .inr (h.ob x hx))).trans' hA.fr
  have hL2 := hL.fr hA.fr (fun x _ => by simp)
  have kb2 : ∀ x ∈ ks, w0.heap.size ≤ x ∧ x < w2.heap.size ∧ x ∉ own := fun x hx => ⟨(h.kb x hx).1, by have := (h.kb x hx).2.1; omega, (h.kb x hx).2.2⟩
  have hn : (lreset M L next).1.n = n := by rw [lreset_n h.log.disk.ok]; exact h.n
  by_cases hc : (lreset M L next).2.2 = 0
  · obtain rfl := hA.good hc
    have hLm : (lreset M L next).2.1 = L.none next ∧ 1 ≤ next := ⟨by rw [lreset_L, if_pos hc], lreset_low hc⟩
    have hnx := hLm.2
    refine ⟨v', _, none, 0, [], next.toNat, rfl, by rw [show ((next.toNat : Nat) : Int) = next by omega], hA.fr, ?_⟩
    refine ⟨hL2, hA.ref, hn, F2, kb2, h.ob, Row.nil _ _, fun ad hp => (by cases hp), fun r hr => (by cases hr), ?_, ?_, ?_, ?_, ?_⟩
    · rw [hLm.1]; exact h.hf
    · rw [hLm.1]; exact h.hb
    · rw [hLm.1]; exact h.hf
    · rw [hLm.1]; rfl
    · rw [hLm.1]; show next = _; omega
  · obtain rfl := hA.bad hc
    have hLm : (lreset M L next).2.1 = L := by rw [lreset_L, if_neg hc]
    refine ⟨v', _, p, c, rs, q, rfl, rfl, hA.fr, ?_⟩
    refine ⟨hL2, hA.ref, hn, F2, kb2, h.ob, g_row hA.fr row1 (fun ad _ _ => by simp), fun ad hp => ?_, h.sz, ?_, ?_, ?_, ?_, ?_⟩
    · have g1 := h.pb ad hp
      exact ⟨by omega, g1.2⟩
    · rw [hLm]; exact h.hf
    · rw [hLm]; exact h.hb
    · rw [hLm]; exact h.he
    · rw [hLm]; exact h.hh
    · rw [hLm]; exact h.hq

theorem lopen_n'' {M : DM} (h : M.Ok) (first count : Int) : (lopen M first count).1.n = M.n := by
  unfold lopen
  split
  · rfl
  · split
    · rfl
    · exact wipe_n h _
theorem arm_n (M : DM) (x : Int) : (M.arm x).1.n = M.n := by
  unfold DM.arm
  split
  · rfl
  · split <;> rfl
/-- Armed, both. -/
theorem PlaysAt.arm (h : PlaysAt w0 w own ks lb b ms mf n first count v M L p rs q) {x : Int} (hx : x < 9223372036854775808) :
    Calls prog 29 #[D b, I64 x] w fun e w1 => e = .returned (I64 (M.arm x).2) ∧ Fr own w w1 ∧
      Calls prog 45 #[v, I64 x] w1 fun e w2 => ∃ v', e = .returned (.tuple #[v', I64 (M.arm x).2]) ∧ Fr [] w1 w2 ∧ PlaysAt w0 w2 own ks lb b ms mf n first count v' (M.arm x).1 L p rs q := by
  refine (arm_c h.log.disk hx).mono ?_
  rintro e w1 ⟨rfl, f1, hD⟩
  have hb : b ∈ own := h.log.mem b (by simp)
  have f1' : Fr own w w1 := f1.mono (fun x hx => .inl (by rw [List.mem_singleton.1 hx]; exact hb))
  refine ⟨rfl, f1', ?_⟩
  have z1 := f1.size
  refine (rarm_c (h.ref.fr f1' (fun x hx => .inl (List.mem_append_left _ hx))) hx).mono ?_
  rintro e w2 ⟨v', rfl, f2, hR⟩
  have z2 := f2.size
  have hL := h.log.setD (f1.mono (fun x hx => .inl (by rw [List.mem_singleton.1 hx]; simp))) hD (arm_n M x)
  refine ⟨v', rfl, f2, hL.fr f2 (fun x _ => by simp), hR, by rw [arm_n]; exact h.n, (h.fr.trans f1' (fun x hx => .inr (h.ob x hx))).trans' f2, fun x hx => ⟨(h.kb x hx).1, by have := (h.kb x hx).2.1; omega, (h.kb x hx).2.2⟩, h.ob, g_row f2 (g_row f1' h.row (fun ad hp _ hm => (h.pb ad hp).2.1 hm)) (fun ad _ _ => by simp), fun ad hp => ⟨by have := (h.pb ad hp).1; omega, (h.pb ad hp).2⟩, h.sz, h.hf, h.hb, h.he, h.hh, h.hq⟩

/-- A sector is written, on both. -/
theorem PlaysAt.write (h : PlaysAt w0 w own ks lb b ms mf n first count v M L p rs q) (i : Int) {k bC : Nat} {s : ByteArray} (hb : Blk w k (byteCells s)) (hk : k ∉ own) (hs : s.size = 64) :
    Calls prog 23 #[D b, I64 i, .slice (some ⟨k, 0, none⟩) 64 bC] w fun e w1 => e = .returned (I64 (M.write i s).2) ∧ Fr own w w1 ∧
      ∀ w2, Fr [] w1 w2 → Calls prog 38 #[v, I64 i, .string s] w2 fun e w3 => ∃ v', e = .returned (.tuple #[v', I64 (M.write i s).2]) ∧ Fr [] w2 w3 ∧ PlaysAt w0 w3 own ks lb b ms mf n first count v' (M.write i s).1 L p rs q := by
  have hbs : ∀ x ∈ [b, ms, mf], x ∈ own := fun x hx => h.log.mem x (List.mem_cons_of_mem _ hx)
  refine (write_b h.log.disk i hb hs.symm (fun hm => hk (hbs _ hm))).mono ?_
  rintro e w1 ⟨rfl, f1, hD⟩
  have f1' : Fr own w w1 := f1.mono (fun x hx => .inl (hbs x hx))
  refine ⟨rfl, f1', fun w2 f2 => ?_⟩
  have z1 := f1.size
  have z2 := f2.size
  refine (rwrite_c ((h.ref.fr f1' (fun x hx => .inl (List.mem_append_left _ hx))).fr f2 (by simp)) (fun x hx => by have := h.lts x hx; omega) i s).mono ?_
  rintro e w3 ⟨v', rfl, f3, hR⟩
  have z3 := f3.size
  have hL := h.log.setD f1 hD (write_n M i s)
  refine ⟨v', rfl, f3, (hL.fr f2 (fun x _ => by simp)).fr f3 (fun x _ => by simp), hR, by rw [write_n]; exact h.n, ((h.fr.trans f1' (fun x hx => .inr (h.ob x hx))).trans' f2).trans' f3, fun x hx => ⟨(h.kb x hx).1, by have := (h.kb x hx).2.1; omega, (h.kb x hx).2.2⟩, h.ob, g_row f3 (g_row f2 (g_row f1' h.row (fun ad hp _ hm => (h.pb ad hp).2.1 hm)) (fun ad _ _ => by simp)) (fun ad _ _ => by simp), fun ad hp => ⟨by have := (h.pb ad hp).1; omega, (h.pb ad hp).2⟩, h.sz, h.hf, h.hb, h.he, h.hh, h.hq⟩

/-- A crash, and both are opened again. -/
theorem PlaysAt.crash (h : PlaysAt w0 w own ks lb b ms mf n first count v M L p rs q) (h2 : 2 ≤ count) {kA : Option Addr} {kC : Nat} {kp : List Bool} (hk : Row w kA (kp.map .bool)) (torn cut : Int) :
    Calls prog 28 #[D b, .slice kA kp.length kC, I64 torn, I64 cut] w fun e w1 => ∃ b', e = .returned (D b') ∧ Fr [] w w1 ∧
      (Row w1 kA (kp.map .bool) → Calls prog 46 #[v, .slice kA kp.length kC, I64 torn, I64 cut] w1 fun e w2 => ∃ v1 sA sC nA nC fA fC N, v1 = rv sA sC nA nC fA fC N ∧ e = .returned v1 ∧ Fr [] w1 w2 ∧
        ∀ w3 F, (∀ x ∈ F, x ∈ ks) → Fr F w2 w3 → Calls prog 34 #[D b', I64 (first : Int), I64 (count : Int)] w3 fun e w4 => ∃ lb' p4 l4 c4 G, e = .returned (.tuple #[D lb', .slice p4 l4 c4, I64 0]) ∧ (∀ x ∈ G, w.heap.size ≤ x) ∧ Fr G w3 w4 ∧
          Calls prog 40 #[v1, I64 (first : Int), I64 (count : Int)] w4 fun e w5 => ∃ v' lv p' c' rs' q', e = .returned (.tuple #[v', lv, I64 0]) ∧ lv = rlog first count p' c' rs' ((q' : Nat) : Int) ∧ Fr [] w4 w5 ∧ (∃ F M, RefAt w5 v' F M) ∧
            ∀ w6 F, (∀ x ∈ F, x ∈ ks) → Fr F w5 w6 → Calls prog 41 #[.slice p4 l4 c4, .slice p' rs'.length c'] w6 fun e w7 => e = .returned (.bool true) ∧ Fr [] w6 w7 ∧ ∃ own' ms' mf' M' L', PlaysAt w0 w7 own' ks lb' b' ms' mf' n first count v' M' L' p' rs' q') := by
  obtain ⟨B1, B2, B3, B4, B5, B6⟩ := h.bounds
  have z0 := h.fr.size
  refine (crash_c h.log.disk hk torn cut).mono ?_
  rintro e w1 ⟨b', ms', mf', rfl, hnew, f1, D1⟩
  refine ⟨b', rfl, f1, fun hk1 => ?_⟩
  have z1 := f1.size
  have hbl := D1.bs
  have hlt1 : ∀ x ∈ [b', ms', mf'], x < w1.heap.size := fun x hx => by simp at hx; omega
  have kn : ∀ x ∈ ks, x ∉ [b', ms', mf'] := fun x hx hm => by
    have := h.kb x hx; have := hnew x hm; omega
  have hR1 : RefAt w1 v ([b', ms', mf'] ++ ks) M := (h.ref.ext (G := [b', ms', mf'] ++ ks) (fun x hx => by
    rcases List.mem_append.1 hx with hx | hx
    · exact .inr (hnew x hx)
    · exact .inl (List.mem_append_right _ hx))).fr f1 (by simp)
  have hltF : ∀ x ∈ [b', ms', mf'] ++ ks, x < w1.heap.size := fun x hx => by
    rcases List.mem_append.1 hx with hx | hx
    · exact hlt1 x hx
    · have := (h.kb x hx).2.1; omega
  refine (rcrash_c hR1 hltF hk1 torn cut).mono ?_
  rintro e w2 ⟨v1, rfl, f2, hR2⟩
  have hR2' := hR2
  obtain ⟨_, sA, sC, nA, nC, fA, fC, rfl, _⟩ := hR2'
  refine ⟨_, sA, sC, nA, nC, fA, fC, _, rfl, rfl, f2, fun w3 F hF f3 => ?_⟩
  have z2 := f2.size
  have z3 := f3.size
  have hM1n : (M.crash kp torn cut).n = M.n := by
    show ((((List.range M.sure.length).map _).length : Nat) : Int) = (M.sure.length : Int)
    simp
  generalize hM1 : M.crash kp torn cut = M1 at D1 hR2 hM1n
  have hl1 : M1.left < 0 := by rw [← hM1]; show (-1 : Int) < 0; decide
  clear hM1
  have hMn : M.n = (M.sure.length : Int) := rfl
  have D3 := (D1.fr f2 (by simp)).fr f3 (fun x hx hm => kn x (hF x hm) hx)
  have hR3 : RefAt w3 (rv sA sC nA nC fA fC M1) ([b', ms', mf'] ++ ks) M1 := hR2.fr f3 (fun x hx => .inl (List.mem_append_right _ (hF x hx)))
  have hnb : ¬ badArea M1 (first : Int) (count : Int) := by
    rintro (h | h | h | h) <;> omega
  have hop := open_alive hl1 hnb
  refine (open_c D3 (by omega) (by omega)).mono ?_
  rintro e w4 ⟨f4, D4, _, hgood⟩
  obtain ⟨lb', p4, c4, ris, own', rfl, hL4, hRc, hris, hown, hsep⟩ := hgood hop
  refine ⟨lb', p4, ris.length, c4, [b', ms', mf'], rfl, hnew, f4, ?_⟩
  have z4 := f4.size
  have kn' : ∀ x ∈ ks, x ∉ own' := fun x hx hm => by
    rcases hown x hm with h1 | h1
    · exact kn x hx h1
    · have := h.kb x hx; omega
  have obs : ∀ x ∈ own', w0.heap.size ≤ x := fun x hx => by
    rcases hown x hx with h1 | h1
    · have := hnew x h1; omega
    · omega
  have hR4 : RefAt w4 (rv sA sC nA nC fA fC M1) (own' ++ ks) M1 := by
    have := (hR3.ext (G := ([b', ms', mf'] ++ ks) ++ own') (fun x hx => by
      rcases List.mem_append.1 hx with hx | hx
      · exact .inl hx
      · rcases hown x hx with h1 | h1
        · exact .inl (List.mem_append_left _ h1)
        · exact .inr h1)).fr f4 (fun x hx => .inl (List.mem_append_left _ (List.mem_append_left _ hx)))
    refine this.less fun x hx => ?_
    rcases List.mem_append.1 hx with hx | hx
    · exact List.mem_append_right _ hx
    · exact List.mem_append_left _ (List.mem_append_right _ hx)
  have hlt4 : ∀ x ∈ own' ++ ks, x < w4.heap.size := fun x hx => by
    rcases List.mem_append.1 hx with hx | hx
    · exact hL4.lt x hx
    · have := (h.kb x hx).2.1; omega
  refine (ropen_c hR4 hlt4 (by omega) (by omega)).mono ?_
  rintro e w5 ⟨v', lv, rfl, hO⟩
  obtain ⟨p', c', rfl, row5, pb5, sz5, so5⟩ := hO.good hop
  have e1 : ((first : Int)).toNat = first := by omega
  have e2 : ((first : Int) + (count : Int)).toNat = first + count := by omega
  rw [e1, e2] at row5 sz5 so5 ⊢
  rw [e1, e2] at hris
  have f5 := hO.fr
  have z5 := f5.size
  refine ⟨v', _, p', c', (lscan M1 first (first + count)).map (fun r => r.2), nextAt (lscan M1 first (first + count)), by rw [hop], rfl, f5, ⟨_, _, hO.ref⟩, fun w6 F6 hF6 f6 => ?_⟩
  have z6 := f6.size
  have f46 : Fr F6 w4 w6 := (f5.mono (fun x hx => by cases hx)).trans f6 (fun x hx => .inl hx)
  have farF : ∀ x, w3.heap.size ≤ x → x ∉ F6 := fun x hx hm => by
    have := (h.kb x (hF6 x hm)).2.1; omega
  have hRc6 := hRc.fr f46 (fun ad hp => farF _ (hRc.own.lt hp).1) (fun r hr ad hp => farF _ ((hRc.row r hr).2 ad hp).1)
  have row6 := g_row f6 row5 (fun ad hp _ => farF _ (by have := pb5 ad hp; omega))
  have hrl : ris.length < 9223372036854775807 := by
    have g1 := congrArg List.length hris
    simp at g1
    have := so5.l
    have := so5.e2
    omega
  refine (same_c hRc6.own.row (fun r hr => (hRc6.row r hr).1) row6 hris hrl).mono ?_
  rintro e w7 ⟨rfl, f7⟩
  have z7 := f7.size
  refine ⟨rfl, f7, own', ms', mf', (lopen M1 (first : Int) (count : Int)).1, lopenL M1 (first : Int) (count : Int), ?_⟩
  have hL7 := ((hL4.fr f5 (fun x _ => by simp)).fr f6 (fun x hx hm => kn' x (hF6 x hm) hx)).fr f7 (fun x _ => by simp)
  have hR7 := (hO.ref.fr f6 (fun x hx => .inl (List.mem_append_right _ (hF6 x hx)))).fr f7 (by simp)
  have hLL : lopenL M1 (first : Int) (count : Int) = ⟨(first : Int), (endAt first (lscan M1 first (first + count)) : Nat), (first : Int) + (count : Int), (nextAt (lscan M1 first (first + count)) : Nat), (lscan M1 first (first + count)).map fun r => (r.1 : Int)⟩ := by
    unfold lopenL; rw [e1, e2]
  obtain ⟨lp1, lp2⟩ := lay_pos (lscan M1 first (first + count)) (scan_lay M1.now (first + count) (first + count - first) first none (by omega)).1
  have fr7 : Fr [] w0 w7 := by
    have a2 : Fr [] w0 w2 := (h.fr.trans' f1).trans' f2
    have a3 : Fr [] w0 w3 := a2.trans f3 (fun x hx => .inr (h.kb x (hF x hx)).1)
    have a4 : Fr [] w0 w4 := a3.trans f4 (fun x hx => .inr (by have := hnew x hx; omega))
    exact ((a4.trans' f5).trans f6 (fun x hx => .inr (h.kb x (hF6 x hx)).1)).trans' f7
  refine ⟨hL7, hR7, ?_, fr7, fun x hx => ⟨(h.kb x hx).1, by have := (h.kb x hx).2.1; omega, kn' x hx⟩, obs, g_row f7 row6 (fun ad _ _ => by simp), fun ad hp => ?_, fun r hr => ?_, ?_, ?_, ?_, ?_, ?_⟩
  · rw [lopen_n'' D3.ok, hM1n]; exact h.n
  · have g1 := pb5 ad hp
    refine ⟨by omega, fun hm => ?_, fun hm => ?_⟩
    · have := hL4.lt _ hm; omega
    · have := (h.kb _ hm).2.1; omega
  · obtain ⟨x, hx, rfl⟩ := List.mem_map.1 hr
    exact sz5 x hx
  · rw [hLL]
  · rw [hLL]; show (first : Int) + (count : Int) = _; omega
  · rw [hLL]; show ((endAt first (lscan M1 first (first + count)) : Nat) : Int) = _
    rw [lp2]
  · rw [hLL]; show (lscan M1 first (first + count)).map (fun r => (r.1 : Int)) = _
    rw [List.length_map]; exact lp1
  · rw [hLL]
end

end Go.Proofs.Ytcaamecdhbgknaa.Log
