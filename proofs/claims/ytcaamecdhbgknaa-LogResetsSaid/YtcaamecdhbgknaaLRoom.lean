/- LogRoom: the law's own walk. -/
import Derived.Test.YtcaamecdhbgknaaGA
import Derived.Test.YtcaamecdhbgknaaL9
namespace Go.Proofs.Ytcaamecdhbgknaa.Log
open Go Go.V
open Go.Proofs.Ytcaamecdhbgknaa.VC
open Go.Proofs.Ytcaamecdhbgknaa.Disk
open Go.Proofs.Try (prog)
set_option linter.unusedVariables false
set_option linter.unusedSimpArgs false
set_option maxRecDepth 20000

/-- A beginning. -/
def pre (s : ByteArray) (n : Nat) : ByteArray := ⟨(s.data.toList.take n).toArray⟩
theorem pre_cells (s : ByteArray) (n : Nat) : byteCells (pre s n) = (byteCells s).take n := by simp [pre, byteCells, List.map_take]
theorem pre_size (s : ByteArray) (n : Nat) : (pre s n).size = min n s.size := by rw [← byteCells_length, pre_cells, List.length_take, byteCells_length]
def zeroB (n : Nat) : ByteArray := ⟨Array.replicate n 0⟩
theorem zeroB_size (n : Nat) : (zeroB n).size = n := by
  show (Array.replicate n (0 : UInt8)).size = n
  rw [Array.size_replicate]
theorem zeroB_cells (n : Nat) : byteCells (zeroB n) = reps [Value.int .u8 0] n := by rw [reps_one]; simp [byteCells, zeroB]

/-- Where the law's log has come to. -/
def RoomAt (w0 w : World) (p : Option Addr) (M : DM) (L : LM) : Prop := ∃ own lb b ms mf, p = some ⟨lb, 0, none⟩ ∧ LogAt w own lb b ms mf M L ∧ M.left < 0 ∧ Fr [] w0 w ∧ ∀ x ∈ own, w0.heap.size ≤ x
theorem RoomAt.fr {w0 w w' : World} {p : Option Addr} {M : DM} {L : LM} (h : RoomAt w0 w p M L) (hf : Fr [] w w') : RoomAt w0 w' p M L := by
  obtain ⟨own, lb, b, ms, mf, e, hL, hl, f, ho⟩ := h
  exact ⟨own, lb, b, ms, mf, e, hL.fr hf (fun x _ => by simp), hl, f.trans' hf, ho⟩
theorem RoomAt.append {w0 w : World} {p : Option Addr} {M : DM} {L : LM} (h : RoomAt w0 w p M L) {dA : Option Addr} {dC : Nat} {data : ByteArray} (hd : Row w dA (byteCells data)) (hz : data.size ≤ 140737488351232) :
    Calls prog 35 #[.pointer p, .slice dA data.size dC] w fun e w' => (4000 < data.size → e = .returned (I64 3) ∧ RoomAt w0 w' p M L) ∧ (¬ 4000 < data.size → isFull L data.size → e = .returned (I64 5) ∧ RoomAt w0 w' p M L) ∧
      (¬ 4000 < data.size → ¬ isFull L data.size → e = .returned (I64 0) ∧ ∃ M', RoomAt w0 w' p M' (L.more data.size)) := by
  obtain ⟨own, lb, b, ms, mf, rfl, hL, hl, f, ho⟩ := h
  refine (append_c hL hd hz).mono ?_
  rintro e w' ⟨rfl, f', own', ho', _, hL'⟩
  have z := f.size
  have stay : ∀ M' L', LogAt w' own' lb b ms mf M' L' → M'.left < 0 → RoomAt w0 w' (some ⟨lb, 0, none⟩) M' L' := fun M' L' h1 h2 => ⟨own', lb, b, ms, mf, rfl, h1, h2, f.trans f' (fun x hx => .inr (ho x hx)), fun x hx => by
    rcases ho' x hx with h | h
    · exact ho x h
    · omega⟩
  refine ⟨fun h => ?_, fun h hf => ?_, fun h hf => ?_⟩
  · rw [lappend_long h] at hL' ⊢
    exact ⟨rfl, stay _ _ hL' hl⟩
  · rw [lappend_full h hf] at hL' ⊢
    exact ⟨rfl, stay _ _ hL' hl⟩
  · obtain ⟨e1, e2⟩ := lappend_alive hL.disk.ok hL.ok hl h hf
    rw [e1] at hL' ⊢
    exact ⟨rfl, _, stay _ _ hL' (by omega)⟩

theorem logroom_walk (w : World) (sz first count : Int) (hf1 : -9223372036854775808 ≤ first) (hc2 : count < 9223372036854775808) {a : Option Addr} {cap : Nat} {z : List ByteArray} (hz : RowsC w a z.length z) :
    Calls prog 9 #[.agg #[I64 sz, I64 first, I64 count], .slice a z.length cap] w fun e w' => e = .returned (.bool true) ∧ RowKit.Below w.heap.size w w' := by
  refine rhizomelaw04_LogRoom.link fun k1 y2 hy2 w109 st109 => (lawake_c w109).mono ?_
  rintro e w112 ⟨rfl, f112⟩
  have n1 := g_new1 st109
  have z112 := f112.size
  have below : ∀ w', Fr [] w w' → RowKit.Below w.heap.size w w' := fun w' f => f.below (Nat.le_refl _) (fun x hx => by cases hx)
  have F112 : Fr [] w w112 := st109.fr.trans' f112
  have no : y2 true w112 := by
    refine hy2 _ _ (bT rfl ((lawake_c w112).mono ?_))
    rintro e w6 ⟨rfl, f6⟩
    exact ⟨_, rfl, g_keep f6 (fun x hx => by simp at hx; subst hx; exact ⟨by omega, by simp⟩), rfl, below w6 (F112.trans' f6)⟩
  refine ⟨_, rfl, g_keep f112 (fun x hx => by simp at hx; subst hx; exact ⟨by omega, by simp⟩), bF rfl ⟨fun _ => no, fun h1 => ?_⟩⟩
  have h1 : ¬ sz < 1 := of_decide_eq_false h1
  by_cases h80 : 80 < sz
  · rw [decide_eq_true h80]; exact no
  rw [decide_eq_false h80]
  clear no
  refine hy2 _ _ (bF rfl ((new_c w112 sz).mono ?_))
  clear hy2
  rintro e w9 ⟨_, hgood⟩
  obtain ⟨b, ms, mf, rfl, hnew, f9, hD⟩ := hgood (by omega)
  have z9 := f9.size
  have hn1 := hnew b (by simp)
  have hn2 := hnew ms (by simp)
  have hn3 := hnew mf (by simp)
  refine ⟨_, _, rfl, g_keep f9 (fun x hx => by simp at hx; subst hx; exact ⟨by omega, by simp⟩), fun y12 hy12 => bF rfl (hy12 _ _ (bF rfl ((open_c hD hf1 hc2).mono ?_)))⟩
  clear hy12
  rintro e w16 ⟨f16, hD16, hbad, hok⟩
  have F16 : Fr [] w w16 := (F112.trans' f9).trans f16 (fun x hx => .inr (by simp at hx; have := F112.size; omega))
  have hk16 : Keep [k1] w9 w16 := g_keep f16 (fun x hx => by simp at hx ⊢; omega)
  by_cases hb : badArea (DM.fresh0 sz.toNat) first count
  · have e1 : lopen (DM.fresh0 sz.toNat) first count = (DM.fresh0 sz.toNat, 1) := by unfold lopen; rw [if_pos hb]
    rw [e1] at hbad
    obtain rfl := hbad (show (1 : Int) ≠ 0 by decide)
    exact ⟨_, _, _, _, _, rfl, hk16, fun y22 hy22 => bT rfl (hy22 _ _ (bT rfl ⟨rfl, below w16 F16⟩))⟩
  obtain ⟨eo, eL⟩ := fresh_open hb
  rw [eo, eL] at hok
  obtain ⟨lb, p, c, rs, own, rfl, hL, hR, hrs, hown, _⟩ := hok rfl
  have hroom : RoomAt w w16 (some ⟨lb, 0, none⟩) (DM.fresh0 sz.toNat) ⟨first, first, first + count, 1, []⟩ := ⟨own, lb, b, ms, mf, rfl, hL, by simp [DM.fresh0], F16, fun x hx => by
    have := F112.size
    rcases hown x hx with h | h
    · simp at h; omega
    · omega⟩
  refine ⟨_, _, _, _, _, rfl, hk16, fun y22 hy22 => bF rfl (hy22 _ _ (bF rfl ⟨fun m q w' => ∃ (i : Nat) (M : DM) (L : LM), q = i ∧ i ≤ 10 ∧ m = 10 - i ∧ RoomAt w w' (some ⟨lb, 0, none⟩) M L, 10, ⟨0, _, _, rfl, by omega, rfl, hroom⟩, ?_⟩))⟩
  clear hy22 hroom hok hbad hL hR
  rintro m q w29 ⟨i, M, L, rfl, hi, rfl, hP⟩ y31 hy31
  have F29 : Fr [] w w29 := by obtain ⟨_, _, _, _, _, _, _, _, f, _⟩ := hP; exact f
  have done : y31 false w29 := by
    refine hy31 _ _ (bF rfl ?_)
    clear hy31
    have hLok : ∃ n, L.Ok n := by obtain ⟨_, _, _, _, _, _, hL, _⟩ := hP; exact ⟨_, hL.ok⟩
    obtain ⟨n, hLok⟩ := hLok
    have l0 := hLok.f0
    have l1 := hLok.fe
    have l2 := hLok.eb
    have l3 := hLok.bn
    have l4 := hLok.n4
    have l5 := hLok.n1
    have l6 := hLok.n2
    have roomc : ∀ w' M L, RoomAt w w' (some ⟨lb, 0, none⟩) M L → Calls prog 36 #[.pointer (some ⟨lb, 0, none⟩)] w' fun e w2 => e = .returned (I64 L.room) ∧ RoomAt w w2 (some ⟨lb, 0, none⟩) M L := fun w' M L h => by
      have h0 := h
      obtain ⟨own, lb', b, ms, mf, e, hL, hl, f, ho⟩ := h
      injection e with e
      injection e with e
      subst e
      refine (room_c hL).mono ?_
      rintro e w2 ⟨f2, rfl⟩
      exact ⟨rfl, h0.fr f2⟩
    have nextc : ∀ w' M L, RoomAt w w' (some ⟨lb, 0, none⟩) M L → Calls prog 37 #[.pointer (some ⟨lb, 0, none⟩)] w' fun e w2 => e = .returned (I64 L.next) ∧ w2 = w' := fun w' M L h => by
      obtain ⟨own, lb', b, ms, mf, e, hL, hl, f, ho⟩ := h
      injection e with e
      injection e with e
      subst e
      refine (next_c hL).mono ?_
      rintro e w2 ⟨rfl, rfl⟩
      exact ⟨rfl, rfl⟩
    have fin : ∀ w' M L, RoomAt w w' (some ⟨lb, 0, none⟩) M L → RowKit.Below w.heap.size w w' := fun w' M L h => by
      obtain ⟨own, lb', b, ms, mf, e, hL, hl, f, ho⟩ := h
      exact below w' f
    refine (roomc w29 M L hP).mono ?_
    rintro e w49 ⟨rfl, hP49⟩
    have hr : L.room = if MOST < L.next then -1 else max (-1) (min 4000 ((L.behind - L.end_ - 1) * 64)) := rfl
    have hMOST : MOST = 4611686018427387904 := rfl
    have appz : ∀ (k : Nat) (w' : World) (M : DM) (L : LM) (kb : Nat), k ≤ 4001 → RoomAt w w' (some ⟨lb, 0, none⟩) M L → Blk w' kb (reps [Value.int .u8 0] k) → Calls prog 35 #[.pointer (some ⟨lb, 0, none⟩), .slice (some ⟨kb, 0, none⟩) k k] w' fun e w2 => (4000 < k → e = .returned (I64 3) ∧ RoomAt w w2 (some ⟨lb, 0, none⟩) M L) ∧ (¬ 4000 < k → isFull L k → e = .returned (I64 5) ∧ RoomAt w w2 (some ⟨lb, 0, none⟩) M L) ∧
        (¬ 4000 < k → ¬ isFull L k → e = .returned (I64 0) ∧ ∃ M', RoomAt w w2 (some ⟨lb, 0, none⟩) M' (L.more k)) := fun k w' M L kb hk h hb => by
      have := h.append (dA := some ⟨kb, 0, none⟩) (dC := k) (data := zeroB k) (Row.all (by rw [zeroB_cells]; exact hb) (byteCells_one _)) (by rw [zeroB_size]; omega)
      rw [zeroB_size] at this
      exact this
    refine ⟨_, rfl, fun hneg => ?_, fun hneg y54 hy54 => ?_⟩
    · have hneg : L.room < 0 := of_decide_eq_true hneg
      have := hP49.append (dA := none) (dC := 0) (data := zeroB 0) (by rw [zeroB_cells]; exact Row.nil _ _) (by rw [zeroB_size]; omega)
      rw [zeroB_size] at this
      refine this.mono ?_
      rintro e w52 ⟨_, hfull, _⟩
      have hf : isFull L 0 := by
        show MOST < L.next ∨ L.behind < L.end_ + 1 + ((secs 0 : Nat) : Int)
        have : secs 0 = 0 := rfl
        rw [hr] at hneg
        split at hneg
        · left; assumption
        · right; omega
      obtain ⟨rfl, hP52⟩ := hfull (by omega) hf
      exact ⟨_, rfl, rfl, fin _ _ _ hP52⟩
    · have hneg : ¬ L.room < 0 := of_decide_eq_false hneg
      have hnx : ¬ MOST < L.next := fun h => hneg (by rw [hr, if_pos h]; omega)
      rw [if_neg hnx] at hr
      obtain ⟨R, hR⟩ : ∃ R : Nat, L.room = R := ⟨L.room.toNat, by omega⟩
      have hR4 : R ≤ 4000 := by omega
      rw [hR]
      have last : ∀ w56, RoomAt w w56 (some ⟨lb, 0, none⟩) M L → y54 false w56 := fun w56 hP56 => by
        refine hy54 _ _ (bF rfl ((nextc w56 M L hP56).mono ?_))
        clear hy54
        rintro e w58 ⟨rfl, rfl⟩
        refine ⟨_, rfl, fun y60 hy60 => ?_⟩
        rw [hR]
        refine ⟨⟨by omega, by omega, by omega, by omega⟩, fun w65 k66 st65 b65 => ?_⟩
        have eR : Int.toNat (R : Int) = R := by omega
        rw [eR] at b65 ⊢
        have hnf : ¬ isFull L R := by
          show ¬ (MOST < L.next ∨ L.behind < L.end_ + 1 + ((secs R : Nat) : Int))
          have : secs R = (R + 63) / 64 := rfl
          omega
        refine (appz R w65 M L k66 (by omega) (hP56.fr st65.fr) b65).mono ?_
        rintro e w70 ⟨_, _, hok⟩
        obtain ⟨rfl, M', hP70⟩ := hok (by omega) hnf
        refine ⟨_, rfl, bT rfl ((nextc w70 M' _ hP70).mono ?_)⟩
        rintro e w73 ⟨rfl, rfl⟩
        have en : (L.more R).next = L.next + 1 := rfl
        refine ⟨_, rfl, bT (by rw [en, wrapi (by omega) (by omega)]; simp) ⟨fun h4 => hy60 _ _ ⟨rfl, fin _ _ _ hP70⟩, fun h4 => (roomc w73 M' _ hP70).mono ?_⟩⟩
        have h4 : ¬ (R : Int) = 4000 := of_decide_eq_false h4
        rintro e w76 ⟨rfl, hP76⟩
        have er : (L.more R).room = -1 := by
          have e1 : (L.more R).room = if MOST < L.next + 1 then -1 else max (-1) (min 4000 ((L.behind - (L.end_ + 1 + ((secs R : Nat) : Int)) - 1) * 64)) := rfl
          have : secs R = (R + 63) / 64 := rfl
          rw [e1]
          split
          · rfl
          · omega
        refine ⟨_, rfl, hy60 _ _ ⟨?_, fin _ _ _ hP76⟩⟩
        rw [er]; rfl
      clear hy54
      have long : ∀ (w49 : World) (w94 : World) (k95 : Nat), RoomAt w w49 (some ⟨lb, 0, none⟩) M L → Step w49 w94 [] [k95] → Blk w94 k95 (reps [Value.int .u8 0] 4001) → Calls prog 35 #[.pointer (some ⟨lb, 0, none⟩), .slice (some ⟨k95, 0, none⟩) 4001 4001] w94 fun e98 w99 => ∃ n100, e98 = .returned (I64 n100) ∧ y54 (!decide (n100 = 3)) w99 := fun w49 w94 k95 hP st hb => by
        refine (appz 4001 w94 M L k95 (by omega) (hP.fr st.fr) hb).mono ?_
        rintro e w99 ⟨h3, _, _⟩
        obtain ⟨rfl, hP99⟩ := h3 (by omega)
        exact ⟨_, rfl, last w99 hP99⟩
      refine ⟨fun hlt => ?_, fun hge => ⟨⟨by omega, by omega, by omega, by omega⟩, fun w94 k95 st94 b94 => long w49 w94 k95 hP49 st94 b94⟩⟩
      have hlt : (R : Int) < 4000 := of_decide_eq_true hlt
      rw [wrapi (n := (R : Int) + 1) (by omega) (by omega)]
      have eR : Int.toNat ((R : Int) + 1) = R + 1 := by omega
      refine ⟨⟨by omega, by omega, by omega, by omega⟩, fun w80 k81 st80 b80 => ?_⟩
      rw [eR] at b80 ⊢
      refine (appz (R + 1) w80 M L k81 (by omega) (hP49.fr st80.fr) b80).mono ?_
      rintro e w85 ⟨_, hfull, _⟩
      have hf : isFull L (R + 1) := by
        show MOST < L.next ∨ L.behind < L.end_ + 1 + ((secs (R + 1) : Nat) : Int)
        have : secs (R + 1) = (R + 1 + 63) / 64 := rfl
        right; omega
      obtain ⟨rfl, hP85⟩ := hfull (by omega) hf
      exact ⟨_, rfl, bF rfl ⟨⟨by omega, by omega, by omega, by omega⟩, fun w87 k88 st87 b87 => long w85 w87 k88 hP85 st87 b87⟩⟩
  refine ⟨fun hlt => ?_, fun _ => done⟩
  by_cases h10 : ¬ (i : Int) < 10
  · rw [decide_eq_false h10]; exact done
  clear done
  have h10 : (i : Int) < 10 := by omega
  rw [decide_eq_true h10]
  refine hy31 _ _ (bT rfl ?_)
  clear hy31
  have hlt : (i : Int) < (z.length : Int) := of_decide_eq_true hlt
  obtain ⟨s, ad, A, C, hs, rfl, hcell, hrow, _, hz1, hz2⟩ := hz.get F29 (i := i) (by omega)
  have e0 : (i : Int).toNat * 1 = i := by omega
  refine ⟨ad, rfl, ⟨by omega, hlt⟩, _, _, _, by rw [e0]; exact hcell, ad, rfl, ⟨by omega, hlt⟩, _, _, _, by rw [e0]; exact hcell, ?_⟩
  have em : (if (400 : Int) < (s.size : Int) then (400 : Int) else (s.size : Int)) = ((min 400 s.size : Nat) : Int) := by split <;> omega
  rw [em, subA0]
  have em2 : Int.toNat ((min 400 s.size : Nat) : Int) - 0 = (pre s 400).size := by rw [pre_size]; omega
  rw [em2]
  refine ⟨⟨by omega, by omega, by omega⟩, fun w42 st42 => ?_⟩
  have hps := pre_size s 400
  refine ((hP.fr st42.fr).append (data := pre s 400) (by rw [pre_cells]; exact Row.take (g_row st42.fr hrow fun ad _ _ => by simp) 400) (by omega)).mono ?_
  rintro e w45 ⟨_, hf, hnf⟩
  have next : ∀ M' L', RoomAt w w45 (some ⟨lb, 0, none⟩) M' L' → ∃ k47, k47 < 10 - i ∧ ∃ (j : Nat) (M : DM) (L : LM), IntKind.wrap .i64 ((i : Int) + 1) = j ∧ j ≤ 10 ∧ k47 = 10 - j ∧ RoomAt w w45 (some ⟨lb, 0, none⟩) M L := fun M' L' h =>
    ⟨10 - (i + 1), by omega, i + 1, M', L', by rw [wrapi (by omega) (by omega)]; simp, by omega, rfl, h⟩
  by_cases hfull : isFull L (pre s 400).size
  · obtain ⟨rfl, h⟩ := hf (by omega) hfull
    exact ⟨_, rfl, next _ _ h⟩
  · obtain ⟨rfl, M', h⟩ := hnf (by omega) hfull
    exact ⟨_, rfl, next _ _ h⟩

end Go.Proofs.Ytcaamecdhbgknaa.Log
