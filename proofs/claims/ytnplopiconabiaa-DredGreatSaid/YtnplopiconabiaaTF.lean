/- Dred: DredGreat. -/
import Derived.Test.YtnplopiconabiaaTD
import Derived.Test.YtnplopiconabiaaSF
import Derived.Test.YtnplopiconabiaaL10
namespace Go.Proofs.Ytnplopiconabiaa.Dred
open Go Go.V
open Go.Proofs.Ytnplopiconabiaa.VC
open Go.Proofs.Ytnplopiconabiaa.Span
open Go.Proofs.Try (prog)
set_option linter.unusedVariables false
set_option linter.unusedSimpArgs false
set_option maxRecDepth 20000

def chainE (n : Nat) : List EG := (List.range n).flatMap fun (j : Nat) => [⟨500 + 3 * (j : Int), labA, 501 + 3 * (j : Int)⟩, ⟨501 + 3 * (j : Int), labA, 502 + 3 * (j : Int)⟩]
theorem chainE_succ (n : Nat) : chainE (n + 1) = chainE n ++ [⟨500 + 3 * (n : Int), labA, 501 + 3 * (n : Int)⟩, ⟨501 + 3 * (n : Int), labA, 502 + 3 * (n : Int)⟩] := by unfold chainE; rw [List.range_succ, List.flatMap_append]; rfl
theorem chainE_len : ∀ n, (chainE n).length = n * 2
  | 0 => rfl
  | n + 1 => by rw [chainE_succ, List.length_append, chainE_len n]; simp only [List.length_cons, List.length_nil]; omega
theorem mem_chainE {n : Nat} {e : EG} : e ∈ chainE n ↔ ∃ j : Nat, j < n ∧ (e = ⟨500 + 3 * (j : Int), labA, 501 + 3 * (j : Int)⟩ ∨ e = ⟨501 + 3 * (j : Int), labA, 502 + 3 * (j : Int)⟩) := by
  unfold chainE
  simp only [List.mem_flatMap, List.mem_range, List.mem_cons, List.not_mem_nil, or_false]
def LG (n : Nat) : List PI := (List.range n).flatMap fun (j : Nat) => [(500 + 3 * (j : Int), 501 + 3 * (j : Int)), (501 + 3 * (j : Int), 502 + 3 * (j : Int))]
theorem lab_chain : ∀ n, labP (chainE n) labA = LG n
  | 0 => rfl
  | n + 1 => by
    have ih := lab_chain n
    unfold labP at *
    rw [chainE_succ, List.filter_append, List.map_append, ih]
    unfold LG
    rw [List.range_succ, List.flatMap_append]
    simp
theorem mem_LG {n : Nat} {p : PI} : p ∈ LG n ↔ ∃ j : Nat, j < n ∧ ((p.1 = 500 + 3 * (j : Int) ∧ p.2 = 501 + 3 * (j : Int)) ∨ (p.1 = 501 + 3 * (j : Int) ∧ p.2 = 502 + 3 * (j : Int))) := by
  unfold LG
  simp only [List.mem_flatMap, List.mem_range, List.mem_cons, List.not_mem_nil, or_false, Prod.ext_iff]
theorem LG_nodup (n : Nat) : (LG n).Nodup := by
  unfold LG List.Nodup
  rw [List.pairwise_flatMap]
  refine ⟨fun i _ => ?_, ?_⟩
  · simp
  · refine List.pairwise_lt_range.imp (fun {a b} h => ?_)
    intro x hx y hy e
    subst e
    simp [Prod.ext_iff] at hx hy
    omega
/-- The row's edges, and the chains'. -/
def IsG (n : Nat) (p : PI) : Prop := (1 ≤ p.1 ∧ p.1 ≤ 88 ∧ p.2 = p.1 + 1) ∨ ∃ j : Nat, j < n ∧ ((p.1 = 500 + 3 * (j : Int) ∧ p.2 = 501 + 3 * (j : Int)) ∨ (p.1 = 501 + 3 * (j : Int) ∧ p.2 = 502 + 3 * (j : Int)))
theorem tcG {n : Nat} {E : List PI} (hE : ∀ p, p ∈ E ↔ IsG n p) {a b : Int} : TC E a b ↔ (1 ≤ a ∧ a < b ∧ b ≤ 89) ∨ ∃ j : Nat, j < n ∧ ((a = 500 + 3 * (j : Int) ∧ b = 501 + 3 * (j : Int)) ∨ (a = 501 + 3 * (j : Int) ∧ b = 502 + 3 * (j : Int)) ∨ (a = 500 + 3 * (j : Int) ∧ b = 502 + 3 * (j : Int))) := by
  have ed : ∀ {y x : Int}, x ∈ succE E y ↔ IsG n (y, x) := fun {y x} => by rw [mem_succE, hE]
  constructor
  · intro h
    induction h with
    | one h =>
      rcases ed.1 h with h | ⟨j, hj, h | h⟩
      · simp only at h; exact .inl (by omega)
      · exact .inr ⟨j, hj, .inl h⟩
      · exact .inr ⟨j, hj, .inr (.inl h)⟩
    | more _ h ih =>
      rcases ih with ih | ⟨j, hj, ih⟩ <;> rcases ed.1 h with h | ⟨j', hj', h⟩ <;> simp only at h
      · exact .inl (by omega)
      · omega
      · omega
      · have : j = j' := by omega
        subst this
        exact .inr ⟨j, hj, by omega⟩
  · have edge : ∀ {y x : Int}, IsG n (y, x) → TC E y x := fun h => .one (ed.2 h)
    rintro (⟨h1, h2, h3⟩ | ⟨j, hj, ⟨rfl, rfl⟩ | ⟨rfl, rfl⟩ | ⟨rfl, rfl⟩⟩)
    · have key : ∀ d : Nat, a + 1 + d ≤ 89 → TC E a (a + 1 + d) := fun d => by
        induction d with
        | zero => intro h; exact edge (.inl ⟨h1, by simp only; omega, by simp⟩)
        | succ d ih => intro h; exact .more (ih (by omega)) (ed.2 (.inl ⟨by simp only; omega, by simp only; omega, by simp only; omega⟩))
      have := key (b - a - 1).toNat (by omega)
      rw [show a + 1 + ((b - a - 1).toNat : Int) = b by omega] at this
      exact this
    · exact edge (.inr ⟨j, hj, .inl ⟨rfl, rfl⟩⟩)
    · exact edge (.inr ⟨j, hj, .inr ⟨rfl, rfl⟩⟩)
    · exact (edge (.inr ⟨j, hj, .inl ⟨rfl, rfl⟩⟩)).trans (edge (.inr ⟨j, hj, .inr ⟨rfl, rfl⟩⟩))
def PC (n : Nat) : List PI := (List.range n).flatMap fun (j : Nat) => [(500 + 3 * (j : Int), 501 + 3 * (j : Int)), (501 + 3 * (j : Int), 502 + 3 * (j : Int)), (500 + 3 * (j : Int), 502 + 3 * (j : Int))]
theorem PC_len : ∀ n, (PC n).length = 3 * n
  | 0 => rfl
  | n + 1 => by
    have ih := PC_len n
    unfold PC at *
    rw [List.range_succ, List.flatMap_append, List.length_append, ih]
    simp only [List.flatMap_cons, List.flatMap_nil, List.append_nil, List.length_cons, List.length_nil]; omega
theorem mem_PC {n : Nat} {p : PI} : p ∈ PC n ↔ ∃ j : Nat, j < n ∧ ((p.1 = 500 + 3 * (j : Int) ∧ p.2 = 501 + 3 * (j : Int)) ∨ (p.1 = 501 + 3 * (j : Int) ∧ p.2 = 502 + 3 * (j : Int)) ∨ (p.1 = 500 + 3 * (j : Int) ∧ p.2 = 502 + 3 * (j : Int))) := by
  unfold PC
  simp only [List.mem_flatMap, List.mem_range, List.mem_cons, List.not_mem_nil, or_false, Prod.ext_iff]
theorem PC_nodup (n : Nat) : (PC n).Nodup := by
  unfold PC List.Nodup
  rw [List.pairwise_flatMap]
  refine ⟨fun i _ => ?_, ?_⟩
  · simp
  · refine List.pairwise_lt_range.imp (fun {a b} h => ?_)
    intro x hx y hy e
    subst e
    simp [Prod.ext_iff] at hx hy
    omega
theorem P8a_nodup : P8a.Nodup := (List.nodup_append.1 (P8_nodup 0)).1
theorem PG_nodup (n : Nat) : (P8a ++ PC n).Nodup := by
  rw [List.nodup_append]
  refine ⟨P8a_nodup, PC_nodup n, fun x hx y hy e => ?_⟩
  subst e
  rw [mem_P8a] at hx
  obtain ⟨j, _, h⟩ := mem_PC.1 hy
  omega
theorem mem_PG {n : Nat} {E : List PI} (hE : ∀ p, p ∈ E ↔ IsG n p) (p : PI) : TC E p.1 p.2 ↔ p ∈ P8a ++ PC n := by
  rw [tcG hE, List.mem_append, mem_P8a, mem_PC]
theorem lenG {n : Nat} {E S : List PI} (hE : ∀ p, p ∈ E ↔ IsG n p) (h : IsTC E S) (hn : S.Nodup) : S.length = 3916 + 3 * n := by
  have := ((List.perm_ext_iff_of_nodup hn (PG_nodup n)).2 fun p => by rw [h, mem_PG hE]).length_eq
  rw [this, List.length_append, P8a_len, PC_len]
theorem mod40 (more : Int) : ∃ r : Nat, r < 40 ∧ IntKind.wrap .i64 (Int.tmod (IntKind.wrap .u64 more) 40) = (r : Int) := by
  have e : IntKind.wrap .u64 more = more % 18446744073709551616 := rfl
  have h0 : 0 ≤ more % 18446744073709551616 := Int.emod_nonneg _ (by omega)
  rw [e, Int.tmod_eq_emod_of_nonneg h0]
  have h1 : 0 ≤ more % 18446744073709551616 % 40 := Int.emod_nonneg _ (by omega)
  have h2 : more % 18446744073709551616 % 40 < 40 := Int.emod_lt_of_pos _ (by omega)
  generalize more % 18446744073709551616 % 40 = q at *
  exact ⟨q.toNat, by omega, by rw [wrapi (by omega) (by omega)]; omega⟩

set_option maxHeartbeats 2000000 in
theorem dgreat_walk (w : World) (n : Int) : Calls prog 10 #[I64 n] w fun e w' => e = .returned (.bool true) ∧ RowKit.Below w.heap.size w w' := by
  refine rhizomelaw14_DredGreat.link ((awakeD_c w).mono ?_)
  rintro e1 w2 ⟨rfl, f2⟩
  obtain ⟨r, hr, er⟩ := mod40 n
  refine ⟨_, rfl, bF rfl ⟨by decide, ?_⟩⟩
  rw [er]
  refine ⟨fun mm p k c n w' => ∃ i : Nat, n = (i : Int) + 1 ∧ i ≤ 88 ∧ mm = 88 - i ∧ k = (Span.rowE i).length ∧ OwnZ w' w2.heap.size 3 p (Span.rowE i).length c ((Span.rowE i).flatMap gcell) ∧ Fr [] w2 w', 88, ⟨0, rfl, by omega, rfl, rfl, OwnZ.nil _ _ _, Fr.refl _ _⟩, ?_⟩
  rintro mm p7 k8 c9 n w11 ⟨i, rfl, hi, rfl, rfl, o, F⟩
  refine bc (fun hlt => ?_) fun hge => ?_
  · have hlt : (i : Int) + 1 < 89 := of_decide_eq_true hlt
    intro k13
    have ex : IntKind.wrap .i64 ((i : Int) + 1 + 1) = (i : Int) + 2 := by rw [wrapi (by omega) (by omega)]; omega
    rw [ex]
    have hli := rowE_len i
    refine app1 (f := gcell) flatG (x := ⟨(i : Int) + 1, labA, (i : Int) + 2⟩) (u := w2) (B := w2.heap.size) o F rfl (Nat.le_refl _) F.size (fun h => by cases h) (by simp) (fun ad hp x hx => .inl hx) (by omega) (by omega) fun w14 p15 c17 F14 _ _ o14 _ => ?_
    rw [← rowE_succ] at o14 ⊢
    exact ⟨88 - (i + 1), by omega, i + 1, by omega, by omega, rfl, rfl, o14, F14⟩
  have hge : ¬ (i : Int) + 1 < 89 := of_decide_eq_false hge
  have hi' : i = 88 := by omega
  subst hi'
  have z11 := F.size
  refine ⟨fun mm p k c n w' => ∃ j : Nat, n = (j : Int) ∧ j ≤ r ∧ mm = r - j ∧ k = (chainE j).length ∧ OwnZ w' w11.heap.size 3 p (chainE j).length c ((chainE j).flatMap gcell) ∧ Fr [] w11 w', r, ⟨0, rfl, by omega, rfl, rfl, OwnZ.nil _ _ _, Fr.refl _ _⟩, ?_⟩
  rintro mm p22 k23 c24 n w26 ⟨j, rfl, hj, rfl, rfl, o2, F2⟩
  refine bc (fun hlt => ?_) fun hge => ?_
  · have hlt : (j : Int) < (r : Int) := of_decide_eq_true hlt
    intro k28
    have x0 : IntKind.wrap .i64 (3 * (j : Int)) = 3 * (j : Int) := wrapi (by omega) (by omega)
    rw [x0]
    have x1 : IntKind.wrap .i64 (500 + 3 * (j : Int)) = 500 + 3 * (j : Int) := wrapi (by omega) (by omega)
    have x2 : IntKind.wrap .i64 (501 + 3 * (j : Int)) = 501 + 3 * (j : Int) := wrapi (by omega) (by omega)
    have x3 : IntKind.wrap .i64 (502 + 3 * (j : Int)) = 502 + 3 * (j : Int) := wrapi (by omega) (by omega)
    rw [x1, x2, x3]
    have hlj := chainE_len j
    refine appN (f := gcell) flatG (zs := [⟨500 + 3 * (j : Int), labA, 501 + 3 * (j : Int)⟩, ⟨501 + 3 * (j : Int), labA, 502 + 3 * (j : Int)⟩]) rfl (u := w11) (B := w11.heap.size) o2 F2 rfl (Nat.le_refl _) F2.size (fun h => by cases h) (by simp) (fun ad hp x hx => .inl hx) (by simp only [List.length_cons, List.length_nil]; omega) (by simp only [List.length_cons, List.length_nil]; omega) fun w29 p30 c32 F29 _ _ o29 _ => ?_
    rw [← chainE_succ] at o29 ⊢
    exact ⟨r - (j + 1), by omega, j + 1, by rw [wrapi (by omega) (by omega)]; simp, by omega, rfl, rfl, o29, F29⟩
  have hge : ¬ (j : Int) < (r : Int) := of_decide_eq_false hge
  have hj' : j = r := by omega
  subst hj'
  have rowD : Row w26 p7 ((Span.rowE 88).flatMap gcell) := o.row.old F2
  have hli := rowE_len 88
  have hlc := chainE_len j
  have memR : ∀ x ∈ Span.rowE 88, ∃ q : Nat, q < 88 ∧ x = ⟨(q : Int) + 1, labA, (q : Int) + 2⟩ := fun x hx => by
    unfold Span.rowE at hx
    obtain ⟨q, hq, rfl⟩ := List.mem_map.1 hx
    exact ⟨q, List.mem_range.1 hq, rfl⟩
  have hR : ∀ x ∈ Span.rowE 88, inR x.f ∧ inR x.t := fun x hx => by
    obtain ⟨q, hq, rfl⟩ := memR x hx
    exact ⟨inR_small (by simp only; omega), inR_small (by simp only; omega)⟩
  have hRc : ∀ x ∈ chainE j, inR x.f ∧ inR x.t := fun x hx => by
    obtain ⟨q, hq, rfl | rfl⟩ := mem_chainE.1 hx
    · exact ⟨inR_small (by simp only; omega), inR_small (by simp only; omega)⟩
    · exact ⟨inR_small (by simp only; omega), inR_small (by simp only; omega)⟩
  have hlabR : ∀ p, p ∈ labP (Span.rowE 88) labA ↔ IsG 0 p := fun p => by
    rw [mem_labP]
    unfold IsG
    constructor
    · rintro ⟨x, hx, _, h2, h3⟩
      obtain ⟨q, hq, rfl⟩ := memR x hx
      simp only at h2 h3
      exact .inl (by omega)
    · rintro (⟨h1, h2, h3⟩ | ⟨q, hq, _⟩)
      · refine ⟨⟨((p.1 - 1).toNat : Int) + 1, labA, ((p.1 - 1).toNat : Int) + 2⟩, ?_, rfl, by simp only; omega, by simp only; omega⟩
        unfold Span.rowE
        exact List.mem_map.2 ⟨(p.1 - 1).toNat, List.mem_range.2 (by omega), rfl⟩
      · omega
  have hfew : ∀ X : List PI, X.Nodup → (∀ x ∈ X, Span.Reach (succs (Span.rowE 88) labA) x.1 x.2) → X.length ≤ 4000 := fun X hn hx => by
    have := sub_len hn (l' := P8a) fun x hx' => by
      have h1 := (tc_succs (E := labP (Span.rowE 88) labA) (fun p => Iff.rfl) _ _).1 (hx x hx')
      have h2 := (mem_PG hlabR x).1 h1
      rcases List.mem_append.1 h2 with h3 | h3
      · exact h3
      · cases h3
    rw [P8a_len] at this; omega
  refine (new_c (lab := labA) (eC := c9) rowD (by omega) hR labA_ok hfew).mono ?_
  rintro e34 w35 ⟨f35, d, e, s, be, bs, E, S, rfl, h35, hE, htc, hS4, lowbe, lowbs, lowd, hEl⟩
  have hEG : ∀ p, p ∈ E ↔ IsG 0 p := fun p => by rw [hE, hlabR]
  have hSl : S.length = 3916 := by have := lenG hEG htc h35.sr.nodup; omega
  have F26 := f2.trans' (F.trans' F2)
  have ds35 : DS w w35 d labA e s be bs E S := ⟨h35, htc, hS4, fun x hx => by
    have := F26.size
    rcases List.mem_append.1 hx with hx | hx
    · rcases List.mem_cons.1 hx with rfl | hx
      · omega
      · have := lowbe x hx; omega
    · have := lowbs x hx; omega, F26.trans' f35⟩
  refine ⟨_, _, rfl, fun y38 h38 => bF rfl (h38 _ _ (bF rfl ?_))⟩
  clear h38
  have cdo := do_s (eC := c24) ds35 (by omega) (o2.row.old f35) (by omega) hRc true (fun h => by cases h)
  rw [lab_chain] at cdo
  refine cdo.mono ?_
  rintro e41 w42 ⟨code, pA, pD, ZA, ZD, be1, bs1, E1, S1, rfl, hd, ds42, f42⟩
  have hok : Okay true E (LG j) := ⟨LG_nodup j, fun p hp => by
    obtain ⟨q, hq, h⟩ := mem_LG.1 hp
    refine ⟨fun h2 => ?_, fun h => by cases h⟩
    rcases (hEG p).1 h2 with h3 | ⟨q', hq', _⟩
    · omega
    · omega⟩
  have w1 : IntKind.wrap .i64 (3 * (j : Int)) = 3 * (j : Int) := wrapi (by omega) (by omega)
  have w2' : IntKind.wrap .i64 (3916 + 3 * (j : Int)) = 3916 + 3 * (j : Int) := wrapi (by omega) (by omega)
  refine ⟨_, _, _, _, _, _, _, rfl, fun k50 => ?_⟩
  rw [w1, w2']
  have endsG : ∀ {w' : World}, Fr [] w w' → Ending.returned (.bool true) = Ending.returned (.bool true) ∧ RowKit.Below w.heap.size w w' := fun f => ⟨rfl, f.below (Nat.le_refl _) (by simp)⟩
  have hall : ∀ p, (p ∈ E ∨ p ∈ LG j) ↔ IsG j p := fun p => by
    rw [hEG, mem_LG]
    unfold IsG
    constructor
    · rintro ((h | ⟨q, hq, _⟩) | h)
      · exact .inl h
      · omega
      · exact .inr h
    · rintro (h | h)
      · exact .inl (.inl h)
      · exact .inr h
  have hs1 := ds42.small
  rcases hd.said with ⟨rfl, _, hE1, hA, hDD, hsup, _⟩ | ⟨_, rfl, rfl, hE1, hS1, hno | ⟨rfl, _, E3, S3, hE3, hS3, hn3, h3⟩⟩
  · -- they fit
    have hE1G : ∀ p, p ∈ E1 ↔ IsG j p := fun p => by rw [hE1, if_pos rfl, hall]
    have hS1l := lenG hE1G hd.tc ds42.at'.sr.nodup
    have hsm : ¬ (4000 : Int) < 3916 + 3 * (j : Int) := by omega
    have hZA : ZA.length = 3 * j := by
      have := len_eq (L := PC j) hd.setA.sort (PC_nodup j) fun x => by
        rw [hA, hd.tc, mem_PG hE1G, htc, mem_PG hEG, List.mem_append, List.mem_append]
        constructor
        · rintro ⟨_, h1 | h1, h2⟩
          · exact absurd (.inl h1) h2
          · exact h1
        · intro h1
          refine ⟨rfl, .inr h1, ?_⟩
          rintro (h2 | h2)
          · rw [mem_P8a] at h2
            obtain ⟨q, _, h⟩ := mem_PC.1 h1
            omega
          · cases h2
      rw [this, PC_len]
    refine bF (decide_eq_false hsm) fun y68 h68 => bT rfl (bT (by rw [hZA]; simp) fun w73 s73 => ?_)
    have n73 := g_new1 s73
    have ds73 := ds42.old s73.fr
    refine (read_c ds73.at' (by omega)).mono ?_
    rintro e75 w76 ⟨f76, p77, Y, rfl, setY, hY, inY⟩
    have hYl := len_eq setY.sort ds42.at'.sr.nodup hY
    refine ⟨_, _, _, rfl, keepF f76 (by simpa using n73.2), h68 _ _ ?_⟩
    rw [decide_eq_true (by rw [hYl, hS1l]; omega)]
    exact endsG (ds42.fr.trans' (s73.fr.trans' f76))
  · exact absurd hok hno
  · -- they don't
    have hbig : (4000 : Int) < 3916 + 3 * (j : Int) := by
      have := sub_len hn3 (l' := P8a ++ PC j) fun x hx => by
        have h1 := (hS3 x).1 hx
        have h2 : TC (E ++ LG j) x.1 x.2 := TC.mono (fun q hq => List.mem_append.2 (hE3 q hq)) h1
        exact (mem_PG (E := E ++ LG j) (fun p => by rw [List.mem_append, hall]) x).1 h2
      rw [List.length_append, P8a_len, PC_len] at this
      omega
    refine bT (decide_eq_true hbig) fun y51 h51 => bT rfl fun w56 s56 => ?_
    have n56 := g_new1 s56
    have c33 := empty_c w56 pA pD 0 0 0 0 (by decide)
    refine c33.mono ?_
    rintro e58 w59 ⟨rfl, f59⟩
    have ds59 := (ds42.old s56.fr).old f59
    refine ⟨_, rfl, keepF f59 (by simpa using n56.2), bT rfl ((read_c ds59.at' (by omega)).mono ?_)⟩
    rintro e61 w62 ⟨f62, p63, Y, rfl, setY, hY, inY⟩
    have hYl := len_eq setY.sort h35.sr.nodup fun x => by rw [hY, hS1]
    have z59 := f59.size
    refine ⟨_, _, _, rfl, keepF f62 (by simp; omega), h51 _ _ ?_⟩
    rw [decide_eq_true (by rw [hYl, hSl]; rfl)]
    exact endsG (ds59.fr.trans' f62)
end Go.Proofs.Ytnplopiconabiaa.Dred
