/- ImageWhole: the law's own walk. -/
import Derived.Test.YtcaamecdhbgknaaI6
import Derived.Test.YtcaamecdhbgknaaL18
namespace Go.Proofs.Ytcaamecdhbgknaa.Image
open Go Go.V
open Go.Proofs.Ytcaamecdhbgknaa.VC
open Go.Proofs.Ytcaamecdhbgknaa.Disk
open Go.Proofs.Ytcaamecdhbgknaa.Log
open Go.Proofs.Try (prog)
set_option linter.unusedVariables false
set_option linter.unusedSimpArgs false
set_option maxRecDepth 20000

/-- Where the law has come to: the disk, the image that counts. -/
structure WholeAt (w0 w : World) (b ms mf : Nat) (M : DM) (s : Nat) (p : Option Addr) (x : ByteArray) : Prop where
  disk : DiskAt w b ms mf M
  fr : Fr [] w0 w
  new : ∀ y ∈ [b, ms, mf], w0.heap.size ≤ y
  n : M.n = 20
  quiet : Quiet M
  alive : M.left < 0
  load : iload M.now 1 9 = (s, x, decide (0 < s))
  row : Row w0 p (byteCells x)
theorem iload_fst (now : List ByteArray) (first count : Nat) : (iload now first count).1 = (icounts now first count).2.1 := by
  unfold iload
  simp only
  split
  · rename_i h; exact h.symm
  · rfl

set_option maxHeartbeats 1000000 in
theorem iwhole_walk (w : World) {a : Option Addr} {cap : Nat} {z : List ByteArray} (hz : RowsC w a z.length z) {kA : Option Addr} {kC : Nat} {keep : List Bool} (hkeep : Row w kA (keep.map .bool)) {cA : Option Addr} {cC : Nat} {cuts : List Int} (hcuts : Row w cA (cuts.map I64)) :
    Calls prog 18 #[.slice a z.length cap, .slice kA keep.length kC, .slice cA cuts.length cC] w fun e w' => e = .returned (.bool true) ∧ RowKit.Below w.heap.size w w' := by
  refine rhizomelaw05_ImageWhole.link ((iawake_c w).mono ?_)
  rintro e w2 ⟨rfl, f2⟩
  have below : ∀ w', Fr [] w w' → RowKit.Below w.heap.size w w' := fun w' f => f.below (Nat.le_refl _) (fun x hx => by cases hx)
  refine ⟨_, rfl, bF rfl ((new_c w2 20).mono ?_)⟩
  rintro e w5 ⟨_, hgood⟩
  obtain ⟨b, ms, mf, rfl, hnew, f5, hD⟩ := hgood (by omega)
  have z2 := f2.size
  have z5 := f5.size
  have hl0 : iload (DM.fresh0 20).now 1 9 = (0, nob, false) := by decide +kernel
  refine ⟨_, _, rfl, fun y8 hy8 => bF rfl (hy8 _ _ (bF rfl ⟨fun m pd pn kn cn n18 q w' => ∃ (i b ms mf s : Nat) (M : DM) (x : ByteArray), q = i ∧ i ≤ 8 ∧ m = 8 - i ∧ pd = some ⟨b, 0, none⟩ ∧ n18 = (s : Int) ∧ s ≤ i ∧ kn = x.size ∧ WholeAt w w' b ms mf M s pn x, 8,
    ⟨0, b, ms, mf, 0, DM.fresh0 20, nob, rfl, by omega, rfl, rfl, rfl, by omega, rfl, hD, f2.trans' f5, (fun x hx => by have := hnew x hx; omega), by decide +kernel, fun j => rfl, by decide, hl0, Row.nil _ _⟩, ?_⟩))⟩
  clear hy8 hD hnew
  rintro m pd pn kn cn n18 q w20 ⟨i, b, ms, mf, s, M, x, rfl, hi, rfl, rfl, rfl, hs, rfl, hT⟩ y22 hy22
  have done : y22 false w20 := hy22 _ _ (bF rfl ⟨rfl, below _ hT.fr⟩)
  refine bc (fun hlt => ?_) fun hge => done
  have hlt := of_decide_eq_true hlt
  by_cases h8 : (i : Int) < 8
  case neg => rw [decide_eq_false h8]; exact done
  rw [decide_eq_true h8]
  clear done
  have hil : i < z.length := by omega
  refine hy22 _ _ (bT rfl fun y25 hy25 => ?_)
  clear hy22
  have hMn := hT.n
  refine (iopen_c hT.disk (first := 1) (count := 9) (by omega) (by omega)).mono ?_
  rintro e w36 ⟨_, h36⟩
  obtain ⟨ib, rfl, hib, f36, hI⟩ := h36 (by rw [hMn]; omega)
  rw [show (1 : Int).toNat = 1 from rfl, show (9 : Int).toNat = 9 from rfl] at hI
  have F36 := hT.fr.trans' f36
  refine ⟨_, _, rfl, fun y39 hy39 => bF rfl (hy39 _ _ (bF rfl fun y42 hy42 => ?_))⟩
  clear hy39
  suffices main : ∀ n43, y42 n43 w36 by
    refine bc (fun hc => ?_) fun hc => main 0
    have hc := of_decide_eq_true hc
    refine rd I64 (g_row F36 hcuts fun ad _ _ => by simp) rfl (by omega) hc (main _)
  intro n43
  refine hy42 _ _ ⟨by decide, ?_⟩
  clear hy42
  have m16 := modN (n := n43) (m := 16) (by omega) (by omega)
  refine (arm_c hI.disk (n := IntKind.wrap .i64 (Int.tmod (IntKind.wrap .u64 n43) 16)) (by omega)).mono ?_
  generalize IntKind.wrap .i64 (Int.tmod (IntKind.wrap .u64 n43) 16) = N at *
  rintro e w46 ⟨rfl, f46, hD46⟩
  have earm : M.arm N = ({ M with left := N }, 0) := by
    have hal := hT.alive
    unfold DM.arm
    rw [if_neg (by omega), if_neg (show ¬ M.dead from show ¬ (M.left = 0) by omega)]
  rw [earm] at hD46 ⊢
  have hbs := hI.disk.bs
  have sub3 : ∀ x ∈ [b, ms, mf], w.heap.size ≤ x := hT.new
  have f46' : Fr [b, ms, mf] w36 w46 := f46.mono fun x hx => .inl (by simp at hx ⊢; simp [hx])
  have hI46 : ImgAt w46 ib b ms mf { M with left := N } 1 9 := hI.setD f46' hD46 rfl
  have F46 : Fr [] w w46 := F36.trans f46' (fun x hx => .inr (sub3 x hx))
  obtain ⟨t, ad, A, C, ht, ha, hcell, _, hrow, hsz1, hsz2⟩ := hz.get F46 hil
  have hps := pre_size t 500
  have et : Int.toNat (i : Int) * 1 = i := by omega
  have x3 : (if (500 : Int) < (t.size : Int) then (500 : Int) else (t.size : Int)) = (((pre t 500).size : Nat) : Int) := by
    rw [hps]; split <;> omega
  have x4 : IntKind.wrap .i64 ((s : Int) + 1) = ((s + 1 : Nat) : Int) := by
    rw [wrapi (by omega) (by omega)]; omega
  have x5 : Int.toNat (((pre t 500).size : Nat) : Int) - 0 = (pre t 500).size := by omega
  refine ⟨_, rfl, bF rfl ⟨ad, ha, ⟨by omega, hlt⟩, A, t.size, C, by rw [et]; exact hcell, ad, ha, ⟨by omega, hlt⟩, A, t.size, C, by rw [et]; exact hcell, ?_⟩⟩
  rw [x3, x4, x5, subA0]
  have hpz : (pre t 500).size ≤ 500 ∧ (pre t 500).size ≤ t.size := by omega
  have hprow : Row w A (byteCells (pre t 500)) := by rw [pre_cells]; exact Row.take hrow 500
  refine ⟨⟨by omega, by omega, by omega⟩, fun w56 st56 => ?_⟩
  generalize pre t 500 = data at *
  have F56 := F46.trans' st56.fr
  have hI56 := hI46.fr st56.fr (fun x _ => by simp)
  have hdb : ∀ ad, A = some ad → 0 < data.size → ad.block ∉ [b, ms, mf] := fun ad hp h0 hm => by
    have hl0 : 0 < (byteCells data).length := by rw [byteCells_length]; omega
    obtain ⟨ad', hp', hc⟩ := hprow.1 0 _ (List.getElem?_eq_getElem hl0)
    rw [hp] at hp'; injection hp' with hp'; subst hp'
    have h1 := World.block_lt_of_cell? w _ hc
    rw [add_block] at h1
    have h2 := hT.new ad.block hm
    omega
  have hseq : (icounts M.now 1 9).2.1 = s := by rw [← iload_fst, hT.load]
  obtain ⟨S, _⟩ := isave_all (M := { M with left := N }) (first := 1) (count := 9) (seq := s + 1) (data := data) hI46.disk.ok hT.quiet (by omega) hI46.hi (by show (icounts M.now 1 9).2.1 < s + 1; omega) (by omega) (by omega)
  refine (isave_c hI56 (seq := ((s + 1 : Nat) : Int)) (dC := C - 0) (g_row F56 hprow fun ad _ _ => by simp) hdb (by omega)).mono ?_
  rintro e w59 ⟨rfl, f59, hI59⟩
  have hn' := S.n
  have hbad := S.bad
  have haft := S.after
  have hld : iload ({ M with left := N } : DM).now 1 9 = (s, x, decide (0 < s)) := hT.load
  rw [hld] at haft
  clear S hld
  generalize isave { M with left := N } 1 9 ((s + 1 : Nat) : Int) data = r at *
  have F59 : Fr [] w w59 := F56.trans f59 (fun x hx => .inr (sub3 x hx))
  refine ⟨_, rfl, fun y61 hy61 => ?_⟩
  suffices go : y61 false w59 by
    refine bc (fun hne => ?_) fun _ => go
    have hne : ¬ r.2 = 0 := by simpa using hne
    rw [hbad hne]
    exact go
  refine hy61 _ _ (bF rfl ⟨by decide, by decide, (crash_c hI59.disk (g_row F59 hkeep fun ad _ _ => by simp) _ _).mono ?_⟩)
  clear hy61
  rintro e w65 ⟨b', ms', mf', rfl, hnew', f65, hC⟩
  have haft := haft keep (IntKind.wrap .i64 (Int.tmod n43 7 - 1)) (Int.tmod n43 65)
  have hCn : (r.1.crash keep (IntKind.wrap .i64 (Int.tmod n43 7 - 1)) (Int.tmod n43 65)).n = 20 := by
    have : (r.1.crash keep (IntKind.wrap .i64 (Int.tmod n43 7 - 1)) (Int.tmod n43 65)).n = r.1.n := by simp [DM.crash, DM.n]
    rw [this, hn']; exact hMn
  have hCq : Quiet (r.1.crash keep (IntKind.wrap .i64 (Int.tmod n43 7 - 1)) (Int.tmod n43 65)) := fun j => rfl
  have hCl : (r.1.crash keep (IntKind.wrap .i64 (Int.tmod n43 7 - 1)) (Int.tmod n43 65)).left < 0 := show ((-1 : Int)) < 0 by decide
  generalize r.1.crash keep (IntKind.wrap .i64 (Int.tmod n43 7 - 1)) (Int.tmod n43 65) = K at *
  have z59 := F59.size
  refine ⟨_, rfl, bF rfl ((iopen_c hC (first := 1) (count := 9) (by omega) (by omega)).mono ?_)⟩
  rintro e w68 ⟨_, h68⟩
  obtain ⟨ib2, rfl, hib2, f68, hI68⟩ := h68 (by rw [hCn]; omega)
  rw [show (1 : Int).toNat = 1 from rfl, show (9 : Int).toNat = 9 from rfl] at hI68
  refine ⟨_, _, rfl, fun y71 hy71 => bF rfl (hy71 _ _ (bF rfl ((iload_c hI68).mono ?_)))⟩
  clear hy71
  rintro e w75 ⟨p77, c79, rfl, f75, o75⟩
  have hI75 := hI68.fr f75 (fun x _ => by simp)
  have F75 : Fr [] w w75 := ((F59.trans' f65).trans' f68).trans' f75
  have xi : IntKind.wrap .i64 ((i : Int) + 1) = ((i + 1 : Nat) : Int) := by rw [wrapi (by omega) (by omega)]; omega
  have next : ∀ (p26 : Option Addr) (kn k29 : Nat) (s' : Nat) (x' : ByteArray) (w' : World), Fr [] w75 w' → s' ≤ i + 1 → kn = x'.size → iload K.now 1 9 = (s', x', decide (0 < s')) → Row w p26 (byteCells x') → y25 (some ⟨b', 0, none⟩) p26 kn k29 (s' : Int) w' := fun p26 kn k29 s' x' w' fw hs' hk hl hr => by
    refine hy25 _ _ _ _ _ _ ⟨8 - (i + 1), by omega, i + 1, b', ms', mf', s', K, x', xi, by omega, rfl, rfl, rfl, hs', hk, hI75.disk.fr fw (fun x _ => by simp), F75.trans' fw, (fun y hy => by have := hnew' y hy; omega), hCn, hCq, hCl, hl, hr⟩
  clear hy25
  have rdata : ∀ {u : World}, Fr [] w75 u → Row u A (byteCells data) := fun fu => g_row (F75.trans' fu) hprow fun ad _ _ => by simp
  have rx : ∀ {u : World}, Fr [] w75 u → Row u pn (byteCells x) := fun fu => g_row (F75.trans' fu) hT.row fun ad _ _ => by simp
  refine ⟨_, _, _, _, _, rfl, fun y81 hy81 => ?_⟩
  have f0 := Fr.refl ([] : List Nat) w75
  rcases haft with hl | ⟨hc, hl⟩
  · -- the newer one
    rw [hl] at o75 hy81 ⊢
    refine bT rfl (bT (by simp) (row_str o75.row rfl (row_str (rdata f0) rfl (hy81 _ _ (bT (by simp) ?_)))))
    exact next A data.size _ (s + 1) data w75 f0 (by omega) rfl (by rw [hl]; simp) hprow
  · rw [hl] at o75 hy81 ⊢
    have last : y81 false w75 := by
      refine hy81 _ _ (bF rfl fun y84 hy84 => bF (by simpa using hc) (bF ?_ (bF (by simp) (row_str o75.row rfl (row_str (rx f0) rfl (hy84 _ _ (bF (by simp) ?_)))))))
      · have e : decide ((0 : Int) < (s : Int)) = decide (0 < s) := by
          by_cases h : 0 < s
          · rw [decide_eq_true h, decide_eq_true (by omega)]
          · rw [decide_eq_false h, decide_eq_false (by omega)]
        rw [e]
        cases decide (0 < s) <;> rfl
      · exact next pn x.size _ s x w75 f0 (by omega) rfl (by rw [hl]) hT.row
    refine bc (fun _ => bF ?_ last) fun _ => last
    rw [decide_eq_false_iff_not]; omega
end Go.Proofs.Ytcaamecdhbgknaa.Image
