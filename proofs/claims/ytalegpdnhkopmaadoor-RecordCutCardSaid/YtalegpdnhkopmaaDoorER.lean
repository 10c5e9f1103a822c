/- Records: read. -/
import Derived.Test.YtalegpdnhkopmaaDoorEQ
import Derived.Test.YtalegpdnhkopmaaDoorMA
namespace Go.Proofs.YtalegpdnhkopmaaDoor.Rc
open Go Go.V Go.RowKit
open Go.Proofs.YtalegpdnhkopmaaDoor.VC Go.Proofs.YtalegpdnhkopmaaDoor.By Go.Proofs.YtalegpdnhkopmaaDoor.Tree Go.Proofs.YtalegpdnhkopmaaDoor.Ky Go.Proofs.YtalegpdnhkopmaaDoor.Vl
open Go.Proofs.Tryd (prog)
set_option linter.unusedVariables false
set_option linter.unusedSimpArgs false
set_option maxRecDepth 20000
/-- What read answers. -/
def ReadRes (A : Option Addr) (w' : World) (l : Bs) (e : Ending) : Prop := ∃ (c : CH) (p : Option Addr) (k cc : Nat) (b : Bool), e = .returned (.tuple #[.agg #[.int .i64 c.k, .int .i64 c.n, .int .i64 c.f, .string c.l, .int .i64 c.t, .string c.key, .int .i64 c.v.k, .int .i64 c.v.n, .string c.v.s], .slice p k cc, .bool b]) ∧ ((rd l = none ∧ b = false) ∨ ∃ r, rd l = some (c, r) ∧ b = true ∧ k = r.length ∧ k ≤ cc ∧ Row w' p (r.map U8) ∧ ∀ ad, p = some ad → ∃ a, A = some a ∧ ad.block = a.block)
theorem fill_k : ∀ (qs : List Pt) (c : CH), (qs.foldl fillF c).k = c.k
  | [], c => rfl
  | p :: qs, c => by
    rw [List.foldl_cons, fill_k qs]
    unfold fillF; split <;> rfl
theorem cells3 {w : World} {p : Option Addr} {l : List Pt} (h : Row w p (l.flatMap pcell)) (i : Nat) (hi : i < l.length) : ∃ ad, p = some ad ∧ w.cell? ((ad.add (i * 3)).add 0) = some (.bool l[i].t) ∧ w.cell? ((ad.add (i * 3)).add 1) = some (.string l[i].s) ∧ w.cell? ((ad.add (i * 3)).add 2) = some (.int .i64 l[i].n) := by
  obtain ⟨ad, hp, hc⟩ := h.atF flatP (by decide) hi
  exact ⟨ad, hp, hc 0 _ rfl, hc 1 _ rfl, hc 2 _ rfl⟩
theorem rdP_edge {p x y z : Pt} {rest : Bs} (ht : ¬ p.t = true) (hk : p.n = 3 ∨ p.n = 4) : rdP [p, x, y, z] rest = some (⟨p.n, 0, x.n, y.s, z.n, ByteArray.empty, v0⟩, rest) := by
  unfold rdP; simp only; rw [if_neg ht, if_pos hk]
theorem rdP_few {p : Pt} {qs : List Pt} {rest : Bs} (ht : ¬ p.t = true) (hk : p.n = 3 ∨ p.n = 4) (h : ¬ qs.length = 3) : rdP (p :: qs) rest = none := by
  unfold rdP; simp only; rw [if_neg ht, if_pos hk]
  match qs, h with
  | [], _ => rfl
  | [a], _ => rfl
  | [a, b], _ => rfl
  | [a, b, d], z => exact absurd rfl z
  | a :: b :: d :: e :: q, _ => rfl
theorem rdP_none {p : Pt} {qs : List Pt} {rest : Bs} (ht : ¬ p.t = true) (hk : ¬ (p.n = 3 ∨ p.n = 4)) (h5 : p.n = 5) (hv : vdec rest = none) : rdP (p :: qs) rest = none := by
  unfold rdP; simp only; rw [if_neg ht, if_neg hk, if_pos h5, hv]
theorem rdP_val {p : Pt} {qs : List Pt} {rest : Bs} {v : VL} {n : Nat} {a1 a2 a3 : Int} {a4 : ByteArray} {a5 : Int} {a6 : ByteArray} {v' : VL} (ht : ¬ p.t = true) (hk : ¬ (p.n = 3 ∨ p.n = 4)) (h5 : p.n = 5) (hv : vdec rest = some (v, n)) (hc : (⟨a1, a2, a3, a4, a5, a6, v'⟩ : CH) = qs.foldl fillF (c0 p.n)) : rdP (p :: qs) rest = some (⟨a1, a2, a3, a4, a5, a6, v⟩, rest.drop n) := by
  unfold rdP; simp only; rw [if_neg ht, if_neg hk, if_pos h5, hv, ← hc]
theorem rdP_else {p : Pt} {qs : List Pt} {rest : Bs} (ht : ¬ p.t = true) (hk : ¬ (p.n = 3 ∨ p.n = 4)) (h5 : ¬ p.n = 5) : rdP (p :: qs) rest = some (qs.foldl fillF (c0 p.n), rest) := by
  unfold rdP; simp only; rw [if_neg ht, if_neg hk, if_neg h5]
theorem dec_le : ∀ (m : Nat) (l : Bs) (ps : List Pt), decB m l = some ps → ps.length ≤ l.length
  | 0, [], ps, h => by injection h with h; subst h; simp
  | 0, c :: l, ps, h => by cases h
  | m + 1, [], ps, h => by injection h with h; subst h; simp
  | m + 1, c :: l, ps, h => by
    rw [decB] at h
    · cases hx : takeB (c :: l) with
      | none => rw [hx] at h; cases h
      | some x =>
        rw [hx] at h
        simp only [Option.bind_some] at h
        have h1 := takeB_lt (q := x.1) (r := x.2) hx
        cases hy : decB m x.2 with
        | none => rw [hy] at h; cases h
        | some q =>
          rw [hy] at h
          injection h with h; subst h
          have := dec_le m x.2 q hy
          rw [List.length_cons]; omega
    · intro z; cases z
theorem decRes_le (l : Bs) : (decRes l).1.length ≤ l.length := by
  unfold decRes
  split
  · simp
  · cases h : decB l.length l with
    | none => simp
    | some ps => exact dec_le _ _ _ h
set_option maxHeartbeats 2000000 in
theorem read_c {w : World} {A : Option Addr} {C : Nat} {l : Bs} (h : Row w A (l.map U8)) (hl : l.length ≤ 10000) (hC : l.length ≤ C) (hT : Tabs w) :
    Calls prog 101 #[.slice A l.length C] w fun e w' => Fr [] w w' ∧ ReadRes A w' l e := by
  refine record_read.link fun k1 k2 y3 h3 => ?_
  have bad : ∀ (c : CH) (e : Ending) (w' : World), Fr [] w w' → rd l = none → e = .returned (.tuple #[.agg #[.int .i64 c.k, .int .i64 c.n, .int .i64 c.f, .string c.l, .int .i64 c.t, .string c.key, .int .i64 c.v.k, .int .i64 c.v.n, .string c.v.s], .slice none 0 0, .bool false]) → Fr [] w w' ∧ ReadRes A w' l e := fun c e w' f hn he => ⟨f, c, none, 0, 0, false, he, .inl ⟨hn, rfl⟩⟩
  refine bc' (fun h0 w118 s118 => ?_) fun h0 => ?_
  · have : l = [] := List.length_eq_zero_iff.1 (by have := of_decide_eq_true h0; omega)
    subst this
    have n118 := g_new2 s118
    exact h3 _ _ (bT rfl fun w6 s6 => bad (c0 0) _ _ (s118.fr.trans s6.fr fun x hx => by rw [List.mem_singleton.1 hx]; exact .inr n118.2.2.1) rfl rfl)
  obtain ⟨c, t, rfl⟩ : ∃ c t, l = c :: t := by
    cases l with
    | nil => simp at h0
    | cons c t => exact ⟨c, t, rfl⟩
  have hll : (c :: t).length = t.length + 1 := rfl
  have hc8 := c.toNat_lt
  obtain ⟨ad, hp⟩ := h.has (by simp)
  have wc : IntKind.wrap .i64 (c.toNat : Int) = (c.toNat : Int) := wrapi (by omega) (by omega)
  have w1c : IntKind.wrap .i64 (1 + (c.toNat : Int)) = ((1 + c.toNat : Nat) : Int) := by rw [wrapi (by omega) (by omega)]; omega
  refine ⟨ad, hp, ⟨by omega, by rw [hll]; omega⟩, _, h.get hp (j := 0) rfl, fun w5 s5 => ?_⟩
  have n5 := g_new2 s5
  have F5 := s5.fr
  have h5 := h.old F5
  have offA : ∀ {v w' : World} {F : List Nat}, Fr [] w v → Fr F v w' → (∀ x ∈ F, x = k1 ∨ x = k2) → Fr [] w w' := fun f g hF => f.trans g fun x hx => by
    rcases hF x hx with rfl | rfl
    · exact .inr n5.2.2.1
    · exact .inr n5.1
  rw [wc]
  refine h3 _ _ (bc' (fun hs w6 s6 => bad (c0 0) _ _ (offA F5 s6.fr (by simp)) ?_ rfl) fun hs => ?_)
  · unfold rd
    simp only
    rw [if_pos (by have := of_decide_eq_true hs; rw [hll] at this; omega)]
  have hs : c.toNat ≤ t.length := by have := of_decide_eq_false hs; rw [hll] at this; omega
  refine ⟨ad, hp, ⟨by omega, by rw [hll]; omega⟩, _, h5.get hp (j := 0) rfl, ?_⟩
  rw [wc, w1c]
  simp only [Int.toNat_natCast]
  rw [hll] at hC hl
  have hrow : Row w5 (subA A 1 C 1) ((t.take c.toNat).map U8) := by
    have := row_cut (lo := 1) (hi := 1 + c.toNat) (c := C) h5 (by omega)
    rw [show 1 + c.toNat - 1 = c.toNat by omega] at this
    exact this
  have htl : (t.take c.toNat).length = c.toNat := by rw [List.length_take]; omega
  have ce := decode_c (C := C - 1) hrow (by omega) (by omega)
  rw [htl] at ce
  rw [show 1 + c.toNat - 1 = c.toNat by omega]
  refine ⟨⟨by omega, by omega, by omega⟩, ce.mono ?_⟩
  rintro e w11 ⟨f11, p12, c14, rfl, hcap, o⟩
  have z11 := f11.size
  have F11 := F5.trans' f11
  refine ⟨p12, _, c14, _, rfl, keepF f11 (by simp; omega), ad, hp, ⟨by omega, by rw [hll]; omega⟩, _, (h5.old f11).get hp (j := 0) rfl, ?_⟩
  rw [wc, w1c]
  simp only [Int.toNat_natCast]
  refine ⟨⟨by omega, by rw [hll]; omega, by rw [hll]; omega⟩, fun y18 h18 => ?_⟩
  have hrd : rd (c :: t) = rdP (decRes (t.take c.toNat)).1 (t.drop c.toNat) := by
    unfold rd; simp only; rw [if_neg (by omega)]
  have hbad := @decRes_bad (t.take c.toNat)
  have hple := decRes_le (t.take c.toNat)
  have hr := o.row
  have hpb : ∀ x, x = k1 ∨ x = k2 → ∀ a, p12 = some a → a.block ≠ x := fun x hx a ha e => by
    have := (o.lt ha).1
    rcases hx with rfl | rfl <;> omega
  have hrest : ∀ {w' : World}, Fr [] w w' → Row w' (subA A (1 + c.toNat) C 1) ((t.drop c.toNat).map U8) := fun f => by
    have := row_from (lo := 1 + c.toNat) (c := C) (h.old f) (by rw [hll]; omega)
    rw [Nat.add_comm 1 c.toNat] at this ⊢
    exact this
  generalize (decRes (t.take c.toNat)).1 = ps at hrd hbad hr hcap hple h18 ⊢
  generalize (decRes (t.take c.toNat)).2 = cd at hbad h18 ⊢
  refine bc' (fun hb => h18 _ _ (bT rfl fun w21 s21 => bad (c0 0) _ _ (offA F11 s21.fr (by simp)) ?_ rfl)) fun hb => bc' (fun hz => h18 _ _ (bT rfl fun w21 s21 => bad (c0 0) _ _ (offA F11 s21.fr (by simp)) ?_ rfl)) fun hz => ?_
  · rw [hrd, hbad (by simpa using hb)]; rfl
  · have : ps = [] := List.length_eq_zero_iff.1 (by have := of_decide_eq_true hz; omega)
    rw [hrd, this]; rfl
  obtain ⟨p, qs, rfl⟩ : ∃ p qs, ps = p :: qs := by
    cases ps with
    | nil => simp at hz
    | cons p qs => exact ⟨p, qs, rfl⟩
  have hpl : (p :: qs).length = qs.length + 1 := rfl
  have hql : qs.length ≤ 255 := by rw [hpl] at hple; omega
  obtain ⟨a0, ha0, c00, c01, c02⟩ := cells3 hr 0 (by simp)
  refine ⟨a0, ha0, ⟨by omega, by rw [hpl]; omega⟩, _, c00, h18 _ _ (bc' (fun ht w21 s21 => bad (c0 0) _ _ (offA F11 s21.fr (by simp)) ?_ rfl) fun ht => ?_)⟩
  · rw [hrd]; unfold rdP; simp only; rw [if_pos (show p.t = true from ht)]
  have htn : ¬ p.t = true := by rw [show p.t = false from ht]; decide
  clear ht
  refine ⟨a0, ha0, ⟨by omega, by rw [hpl]; omega⟩, _, c02, fun y25 h25 => ?_⟩
  have main : ∀ (b : Bool) (w27 : World), Fr [] w w27 → Row w27 p12 ((p :: qs).flatMap pcell) → w11.heap.size ≤ w27.heap.size → (b = true ↔ (p.n = 3 ∨ p.n = 4)) → y25 b w27 := by
    intro b w27 F27 hr27 z27 hb
    refine h25 _ _ (bc' (fun hbt => ?_) fun hbf => ?_)
    · have hk := hb.1 hbt
      refine bc' (fun h4 w28 s28 => bad (c0 p.n) _ _ (offA F27 s28.fr (by simp)) ?_ rfl) fun h4 => ?_
      · have h4 : ¬ qs.length = 3 := fun z => by rw [hpl, z] at h4; simp at h4
        rw [hrd]; exact rdP_few htn hk h4
      · obtain ⟨x, y, z, rfl⟩ : ∃ x y z, qs = [x, y, z] := by
          have h4 : qs.length = 3 := by rw [hpl] at h4; simp at h4; omega
          match qs, h4 with
          | [a, b, d], _ => exact ⟨a, b, d, rfl⟩
        obtain ⟨a1, ha1, _, _, d1⟩ := cells3 hr27 1 (by simp)
        obtain ⟨a2, ha2, _, d2, _⟩ := cells3 hr27 2 (by simp)
        obtain ⟨a3, ha3, _, _, d3⟩ := cells3 hr27 3 (by simp)
        refine ⟨a1, ha1, ⟨by decide, by simp⟩, _, d1, a2, ha2, ⟨by decide, by simp⟩, _, d2, a3, ha3, ⟨by decide, by simp⟩, _, d3, fun w36 s36 => ?_⟩
        have F36 := offA F27 s36.fr (by simp)
        refine ⟨F36, ⟨p.n, 0, x.n, y.s, z.n, ByteArray.empty, v0⟩, _, _, _, true, rfl, .inr ⟨_, hrd.trans (rdP_edge htn hk), rfl, ?_, ?_, hrest F36, fun ad h => subA_blk h⟩⟩
        · rw [List.length_drop, hll]; omega
        · rw [hll]; omega
    · have hk : ¬ (p.n = 3 ∨ p.n = 4) := fun z => by rw [hb.2 z] at hbf; cases hbf
      rw [hpl]
      refine ⟨⟨by omega, by omega, by rw [hpl] at hcap; omega⟩, fun m i n42 n43 n44 s45 n46 s47 n48 n49 s50 w' => ∃ j : Nat, i = (j : Int) ∧ j ≤ qs.length ∧ m = qs.length - j ∧ (⟨n42, n43, n44, s45, n46, s47, ⟨n48, n49, s50⟩⟩ : CH) = (qs.take j).foldl fillF (c0 p.n) ∧ Fr [] w w' ∧ Row w' p12 ((p :: qs).flatMap pcell) ∧ w11.heap.size ≤ w'.heap.size, qs.length, ⟨0, rfl, by omega, rfl, rfl, F27, hr27, z27⟩, ?_⟩
      rintro m i n42 n43 n44 s45 n46 s47 n48 n49 s50 w51 ⟨j, rfl, hj, rfl, hcc, F, hr51, z51⟩
      refine bc' (fun hlt y53 h53 => ?_) fun hge y76 h76 => ?_
      · have hlt' : j < qs.length := by
          have := of_decide_eq_true hlt
          have e : (Int.toNat ((qs.length + 1 : Nat) : Int) - 1 : Nat) = qs.length := by rw [Int.toNat_natCast]; omega
          omega
        have hq : Row w51 (subA p12 1 c14 3) (qs.flatMap pcell) := by
          have := hr51.from (lo := 1) (sz := 3) (c := c14) (n := qs.length + 1) (flatP.len _) (by rw [hpl] at hcap; omega)
          rw [List.flatMap_cons] at this
          exact this
        obtain ⟨a1, ha1, e0, e1, e2⟩ := cells3 hq j hlt'
        refine ⟨a1, ha1, ⟨by omega, of_decide_eq_true hlt⟩, _, _, _, ⟨by rw [Int.toNat_natCast]; exact e0, by rw [Int.toNat_natCast]; exact e1, by rw [Int.toNat_natCast]; exact e2, trivial⟩, fun k71 => ?_⟩
        have nxt : ∀ (w72 : World), Step w51 w72 [k2] [k71] → Fr [] w w72 ∧ Row w72 p12 ((p :: qs).flatMap pcell) ∧ w11.heap.size ≤ w72.heap.size := fun w72 s72 =>
          ⟨offA F s72.fr (by simp), row_fr0 s72.fr hr51 fun a ha _ hx => hpb k2 (.inr rfl) a ha (List.mem_singleton.1 hx), by have := s72.fr.size; omega⟩
        have es : (qs.take (j + 1)).foldl fillF (c0 p.n) = fillF ⟨n42, n43, n44, s45, n46, s47, ⟨n48, n49, s50⟩⟩ qs[j] := by
          rw [take_snoc hlt', List.foldl_append, ← hcc]; rfl
        refine bc' (fun hb w72 s72 => h53 _ _ _ _ _ _ _ _ _ _ ⟨qs.length - (j + 1), by omega, j + 1, by rw [wrapi (by omega) (by omega)]; simp, by omega, rfl, ?_, nxt w72 s72⟩) fun hb w72 s72 => h53 _ _ _ _ _ _ _ _ _ _ ⟨qs.length - (j + 1), by omega, j + 1, by rw [wrapi (by omega) (by omega)]; simp, by omega, rfl, ?_, nxt w72 s72⟩
        · rw [es]; unfold fillF; rw [if_pos hb]
        · rw [es]; unfold fillF; rw [if_neg (by rw [hb]; decide)]
      · have hjl : j = qs.length := by
          have := of_decide_eq_false hge
          have e : (Int.toNat ((qs.length + 1 : Nat) : Int) - 1 : Nat) = qs.length := by rw [Int.toNat_natCast]; omega
          omega
        subst hjl
        rw [List.take_length] at hcc
        have hk2 : n42 = p.n := by
          have := congrArg CH.k hcc
          rw [fill_k] at this
          exact this
        have k12 : k1 < w51.heap.size ∧ k2 < w51.heap.size := by omega
        refine bc' (fun h5 => ?_) fun h5 => ?_
        · have h5 : p.n = 5 := by rw [← hk2]; exact of_decide_eq_true h5
          have hdl : (t.drop c.toNat).length = (c :: t).length - (1 + c.toNat) := by rw [List.length_drop, hll]; omega
          have cv := vdecode_c (C := C - (1 + c.toNat)) (hrest F) (by rw [hdl]; omega) (by rw [hdl, hll]; omega) (hT.old F)
          rw [hdl] at cv
          refine cv.mono ?_
          rintro e w95 ⟨f95, rfl⟩
          have F95 := F.trans' f95
          have z95 := f95.size
          refine ⟨_, _, _, _, _, rfl, keepF f95 (by simp; omega), fun k101 => ?_⟩
          cases hv : vdec (t.drop c.toNat) with
          | none =>
            have ev : vres (t.drop c.toNat) = (v0, 0, 6) := by unfold vres; rw [hv]
            rw [ev]
            exact bT rfl fun w102 s102 => bad ⟨n42, n43, n44, s45, n46, s47, ⟨n48, n49, s50⟩⟩ _ _ (offA F95 s102.fr (by simp)) (hrd.trans (rdP_none htn hk h5 hv)) rfl
          | some x =>
            obtain ⟨v, n⟩ := x
            have ev : vres (t.drop c.toNat) = (v, n, 0) := by unfold vres; rw [hv]
            have hn := (vdec_int hv).2.2
            rw [hdl] at hn
            rw [ev]
            simp only [Int.toNat_natCast]
            refine bF rfl ⟨⟨by omega, by omega, by rw [hll]; omega⟩, fun w104 s104 => h76 _ _ _ _ _ _ _ _ _ _ _ _ _ fun w90 s90 => ?_⟩
            have F104 := offA F95 s104.fr (by simp)
            have F90 := offA F104 s90.fr (by simp)
            refine ⟨F90, ⟨n42, n43, n44, s45, n46, s47, v⟩, _, _, _, true, rfl, .inr ⟨(t.drop c.toNat).drop n, hrd.trans (rdP_val htn hk h5 hv hcc), rfl, ?_, ?_, ?_, fun ad h => ?_⟩⟩
            · rw [List.length_drop, hdl]
            · rw [hll]; omega
            · exact row_from (hrest F90) (by rw [hdl, hll]; omega)
            · obtain ⟨a, g1, g2⟩ := subA_blk h
              obtain ⟨a', g3, g4⟩ := subA_blk g1
              exact ⟨a', g3, g2.trans g4⟩
        · have h5 : ¬ p.n = 5 := by rw [← hk2]; exact of_decide_eq_false h5
          have hrd2 : rd (c :: t) = some (⟨n42, n43, n44, s45, n46, s47, ⟨n48, n49, s50⟩⟩, t.drop c.toNat) := by
            rw [hcc]; exact hrd.trans (rdP_else htn hk h5)
          refine h76 _ _ _ _ _ _ _ _ _ _ _ _ _ fun w90 s90 => ?_
          have F90 := offA F s90.fr (by simp)
          refine ⟨F90, ⟨n42, n43, n44, s45, n46, s47, ⟨n48, n49, s50⟩⟩, _, _, _, true, rfl, .inr ⟨_, hrd2, rfl, ?_, ?_, hrest F90, fun ad h => subA_blk h⟩⟩
          · rw [List.length_drop, hll]; omega
          · rw [hll]; omega
  have stepK2 : ∀ {w108 : World}, Step w11 w108 [k2] [] → Fr [] w w108 ∧ Row w108 p12 ((p :: qs).flatMap pcell) ∧ w11.heap.size ≤ w108.heap.size := fun s =>
    ⟨offA F11 s.fr (by simp), row_fr0 s.fr hr fun a ha _ hx => hpb k2 (.inr rfl) a ha (List.mem_singleton.1 hx), s.fr.size⟩
  refine bc' (fun hx w108 s108 => ?_) fun hx w110 s110 => ?_
  · obtain ⟨g1, g2, g3⟩ := stepK2 s108
    exact main _ _ g1 g2 g3 ⟨fun _ => .inl (of_decide_eq_true hx), fun _ => rfl⟩
  · obtain ⟨g1, g2, g3⟩ := stepK2 s110
    refine main _ _ g1 g2 g3 ?_
    have hx : ¬ p.n = 3 := of_decide_eq_false hx
    show decide (p.n = 4) = true ↔ _
    rw [decide_eq_true_eq]
    omega
end Go.Proofs.YtalegpdnhkopmaaDoor.Rc
