/- Span: SpanMore. -/
import Derived.Test.YtnplopiconabiaaSI
import Derived.Test.YtnplopiconabiaaL7
namespace Go.Proofs.Ytnplopiconabiaa.Span
open Go Go.V
open Go.Proofs.Ytnplopiconabiaa.VC
open Go.Proofs.Try (prog)
set_option linter.unusedVariables false
set_option linter.unusedSimpArgs false
set_option maxRecDepth 20000

/-- What Pairs tells of edges E, kept in a later world. -/
structure SaidAt (E : List EG) (w : World) (p : Option Addr) (Z : List (Nat × PI)) : Prop where
  row : Row w p (Z.map tz)
  tups : Tups w Z
  sort : (Z.map (·.2)).Pairwise plt
  mem : ∀ x, x ∈ Z.map (·.2) ↔ Reach (succs E labA) x.1 x.2
  len : Z.length ≤ 4000
theorem SaidAt.fr {E : List EG} {v w : World} {p : Option Addr} {Z : List (Nat × PI)} (h : SaidAt E v p Z) (f : Fr [] v w) : SaidAt E w p Z :=
  ⟨h.row.old f, fun z hz => (h.tups z hz).fr f (by simp), h.sort, h.mem, h.len⟩
theorem SaidAt.frk {E : List EG} {F : List Nat} {v w : World} {p : Option Addr} {Z : List (Nat × PI)} (h : SaidAt E v p Z) (f : Fr F v w) (hp : ∀ ad, p = some ad → ad.block ∉ F) (hz : ∀ z ∈ Z, z.1 ∉ F) : SaidAt E w p Z :=
  ⟨row_fr0 f h.row fun ad e _ => hp ad e, fun z hz' => (h.tups z hz').fr f (hz z hz'), h.sort, h.mem, h.len⟩
theorem pairsA_c {w : World} {eA : Option Addr} {eC : Nat} {E : List EG} (hE : Row w eA (E.flatMap gcell)) (hl : E.length ≤ 50000) (hR : ∀ e ∈ E, inR e.f) (hfew : ∀ X : List PI, X.Nodup → (∀ x ∈ X, Reach (succs E labA) x.1 x.2) → X.length ≤ 4000) :
    Calls prog 15 #[.string labA, .slice eA E.length eC] w fun e w' => Fr [] w w' ∧ ∃ (p : Option Addr) (Z : List (Nat × PI)), e = .returned (.tuple #[.slice p Z.length Z.length, I64 0]) ∧ SaidAt E w' p Z ∧ (∀ ad, p = some ad → w.heap.size ≤ ad.block) ∧ ∀ z ∈ Z, w.heap.size ≤ z.1 := by
  refine (pairs_c (lab := labA) hE hl hR).mono ?_
  rintro e w' ⟨f, hs⟩
  rw [labA_ok] at hs
  obtain ⟨b, Z, rfl, h1, h2, h3, ⟨c, o⟩, h4, h5, _⟩ := said_list hs hfew
  exact ⟨f, some ⟨b, 0, none⟩, Z, rfl, ⟨o.1.row, h4, h1, h2, h3⟩, fun ad hp => (o.1.lt hp).1, h5⟩
theorem saidFew {E : List EG} (h : E.length ≤ 60) : ∀ X : List PI, X.Nodup → (∀ x ∈ X, Reach (succs E labA) x.1 x.2) → X.length ≤ 4000 := fun X hn hx => by
  have := few hn hx
  have : E.length * E.length ≤ 60 * 60 := Nat.mul_le_mul h h
  omega

set_option maxHeartbeats 2000000 in
theorem more_walk {w : World} {eA : Option Addr} {eC : Nat} {E : List EG} (hE : Row w eA (E.flatMap gcell)) (hR : ∀ e ∈ E, inR e.f ∧ inR e.t) (mf mt : Int) (ml : ByteArray) (hmf : inR mf) (hmt : inR mt) :
    Calls prog 7 #[.slice eA E.length eC, .agg #[I64 mf, .string ml, I64 mt]] w fun e w' => e = .returned (.bool true) ∧ Fr [] w w' := by
  refine rhizomelaw13_SpanMore.link fun k1 y2 h2 w137 s137 => ?_
  have n1 := g_new1 s137
  refine (awake_c w137).mono ?_
  rintro e139 w140 ⟨rfl, f140⟩
  have F140 := s137.fr.trans' f140
  have z140 := f140.size
  refine ⟨_, rfl, keepF f140 (by simpa using n1.2), bF rfl (h2 _ _ (bc (fun hbig => ?_) fun hsm => ?_))⟩
  · refine (awake_c w140).mono ?_
    rintro e5 w6 ⟨rfl, f6⟩
    exact ⟨_, rfl, keepF f6 (by simp; omega), rfl, F140.trans' f6⟩
  have hsm : ¬ (20 : Int) < (E.length : Int) := of_decide_eq_false hsm
  have hl20 : E.length ≤ 20 := by omega
  refine (pairsA_c (hE.old F140) (by omega) (fun e he => (hR e he).1) (saidFew (by omega))).mono ?_
  rintro e8 w9 ⟨f9, p10, Z, rfl, hZ, lowp, lowz⟩
  have F9 := F140.trans' f9
  have z9 := f9.size
  refine ⟨_, _, _, _, rfl, keepF f9 (by simp; omega), fun y14 h14 => ?_⟩
  have hR' : ∀ e ∈ E ++ [(⟨mf, labA, mt⟩ : EG)], inR e.f ∧ inR e.t := fun e he => by
    rcases List.mem_append.1 he with h | h
    · exact hR e h
    · rw [List.mem_singleton.1 h]; exact ⟨hmf, hmt⟩
  have hl' : (E ++ [(⟨mf, labA, mt⟩ : EG)]).length = E.length + 1 := by simp
  have rest : ∀ (p15 : Option Addr) (Z2 : List (Nat × PI)) (w19 : World), Fr [] w w19 → w9.heap.size ≤ w19.heap.size → SaidAt E w19 p10 Z → SaidAt (E ++ [⟨mf, labA, mt⟩]) w19 p15 Z2 → y14 p15 Z2.length Z2.length 0 w19 := fun p15 Z2 w19 F19 z19 hZ19 hZ2 => h14 _ _ _ _ _ fun y20 h20 => by
    refine bF rfl (bF rfl ((without_c hZ19.row hZ19.tups hZ2.row hZ2.tups (by have := hZ.len; omega) (by have := hZ2.len; omega)).mono ?_))
    rintro e62 w63 ⟨f63, p64, c66, rfl⟩
    have hsub : ∀ x ∈ Z.map (·.2), x ∈ Z2.map (·.2) := fun x hx => (hZ2.mem x).2 (reach_mono (succs_mono (fun e he => List.mem_append_left _ he) labA) ((hZ.mem x).1 hx))
    have hnil : (Z.filter fun z => !decide (z.2 ∈ Z2.map (·.2))) = [] := by
      rw [List.filter_eq_nil_iff]
      intro z hz
      have := hsub z.2 (List.mem_map.2 ⟨z, hz, rfl⟩)
      simp only [this, decide_true, Bool.not_true]
      decide
    rw [hnil]
    refine ⟨_, _, _, rfl, keepF f63 (by simp; omega), bF rfl fun k67 w68 s68 b68 => ?_⟩
    have F68 := F19.trans' (f63.trans' s68.fr)
    have t68 : TupO w68 k67 (mf, mt) := ⟨[], by simpa [spl, reps] using b68⟩
    have z68 := s68.fr.size
    have z63 := f63.size
    have hZ68 := (hZ2.fr f63).fr s68.fr
    refine (has_c hZ68.row hZ68.tups t68.rowI (by have := hZ2.len; omega)).mono ?_
    rintro e71 w72 ⟨rfl, f72⟩
    have hin : ((mf, mt) : PI) ∈ Z2.map (·.2) := (hZ2.mem _).2 (.one (mem_succs.2 ⟨_, List.mem_append_right _ (List.mem_singleton.2 rfl), rfl, rfl, rfl⟩))
    refine ⟨_, rfl, keepF f72 (by simp; omega), h20 _ _ ?_⟩
    rw [decide_eq_true hin]
    refine bF rfl ?_
    have F72 := F68.trans' f72
    have hZ72 := ((hZ19.fr f63).fr s68.fr).fr f72
    have mk : ∀ z : Nat × PI, z ∈ Z → inR z.2.1 := fun z hz => by
      have hr := (hZ.mem z.2).1 (List.mem_map.2 ⟨z, hz, rfl⟩)
      obtain ⟨y, r, h1⟩ := List.exists_cons_of_ne_nil hr.first
      obtain ⟨e, he, _, h3, _⟩ := mem_succs.1 (show y ∈ succs E labA z.2.1 by rw [h1]; simp)
      rw [← h3]; exact (hR e he).1
    have hYl : ∀ i, i ≤ Z.length → ((Z.take i).map fun z => (⟨z.2.1, labA, z.2.2⟩ : EG)).length = i := fun i hi => by rw [List.length_map, List.length_take]; omega
    have hZl := hZ.len
    refine ⟨fun mm p k c n w' => ∃ i : Nat, n = i ∧ i ≤ Z.length ∧ mm = Z.length - i ∧ k = ((Z.take i).map fun z => (⟨z.2.1, labA, z.2.2⟩ : EG)).length ∧ OwnZ w' w72.heap.size 3 p ((Z.take i).map fun z => (⟨z.2.1, labA, z.2.2⟩ : EG)).length c (((Z.take i).map fun z => (⟨z.2.1, labA, z.2.2⟩ : EG)).flatMap gcell) ∧ Fr [] w72 w', Z.length, ⟨0, rfl, by omega, rfl, rfl, OwnZ.nil _ _ _, Fr.refl _ _⟩, ?_⟩
    rintro mm p26 k27 c28 n w30 ⟨i, rfl, hi, rfl, rfl, o, F30⟩
    have hYi := hYl i hi
    refine bc (fun hlt => ?_) fun hge => ?_
    · have hlt : (i : Int) < (Z.length : Int) := of_decide_eq_true hlt
      have hlt' : i < Z.length := by omega
      have hrow := hZ72.row.old F30
      obtain ⟨ad, hp⟩ := hrow.has (by rw [List.length_map]; omega)
      have hcell : w30.cell? (ad.add i) = some (tz Z[i]) := hrow.get hp (by simp [hlt'])
      have hti : TupO w30 Z[i].1 Z[i].2 := (hZ72.tups _ (List.getElem_mem hlt')).fr F30 (by simp)
      refine ⟨ad, hp, ⟨by omega, hlt⟩, _, _, _, by rw [Int.toNat_natCast, Nat.mul_one]; exact hcell, _, rfl, ⟨by omega, by simp⟩, Z[i].2.1, hti.row.get rfl rfl, _, rfl, ⟨by omega, by simp⟩, Z[i].2.2, hti.row.get rfl rfl, fun k40 => ?_⟩
      refine app1 (f := gcell) flatG (x := ⟨Z[i].2.1, labA, Z[i].2.2⟩) (u := w72) (B := w72.heap.size) o F30 rfl (Nat.le_refl _) F30.size (fun h => by cases h) (by simp) (fun ad hp x hx => .inl hx) (by omega) (by omega) fun w41 p42 c44 F41 _ _ o41 _ => ?_
      have es : ((Z.take i).map fun z => (⟨z.2.1, labA, z.2.2⟩ : EG)) ++ [⟨Z[i].2.1, labA, Z[i].2.2⟩] = (Z.take (i + 1)).map fun z => (⟨z.2.1, labA, z.2.2⟩ : EG) := by rw [take_snoc hlt', List.map_append]; rfl
      rw [es] at o41 ⊢
      exact ⟨Z.length - (i + 1), by omega, i + 1, by rw [wrapi (by omega) (by omega)]; simp, by omega, rfl, rfl, o41, F41⟩
    · have hge : ¬ (i : Int) < (Z.length : Int) := of_decide_eq_false hge
      have hi' : i = Z.length := by omega
      subst hi'
      rw [List.take_length] at o hYi ⊢
      clear hge hi
      generalize hE3 : (Z.map fun z => (⟨z.2.1, labA, z.2.2⟩ : EG)) = E3 at *
      have hl50 : E3.length ≤ 50000 := by rw [hYi]; exact Nat.le_trans hZl (by decide)
      have eE : E3 = (Z.map (·.2)).map fun x => (⟨x.1, labA, x.2⟩ : EG) := by rw [← hE3, List.map_map]; rfl
      have hreach : ∀ a b, Reach (succs E3 labA) a b ↔ Reach (succs E labA) a b := fun a b => by rw [eE]; exact reach_pairs hZ.mem
      refine (pairsA_c (E := E3) o.row hl50 (fun e he => ?_) (fun X hn hx => ?_)).mono ?_
      · rw [← hE3] at he
        obtain ⟨z, hz, rfl⟩ := List.mem_map.1 he
        exact mk z hz
      · have := sub_len hn (l' := Z.map (·.2)) (fun x hx' => (hZ.mem x).2 ((hreach _ _).1 (hx x hx')))
        rw [List.length_map] at this; omega
      rintro e46 w47 ⟨f47, p48, Z3, rfl, hZ3, _, _⟩
      refine ⟨_, _, _, _, rfl, fun y52 h52 => bT rfl ?_⟩
      have hZ47 := (hZ72.fr F30).fr f47
      refine (same_c hZ47.row hZ47.tups hZ3.row hZ3.tups (by omega)).mono ?_
      rintro e57 w58 ⟨rfl, f58⟩
      have heq : Z.map (·.2) = Z3.map (·.2) := plt_ext hZ.sort hZ3.sort fun x => by rw [hZ.mem, hZ3.mem, hreach]
      exact ⟨_, rfl, h52 _ _ ⟨by rw [decide_eq_true heq], F72.trans' (F30.trans' (f47.trans' f58))⟩⟩
  have fin : ∀ (p87 : Option Addr) (c89 : Nat) (w86 : World) (ks : List Nat), Fr [] w w86 → w9.heap.size ≤ w86.heap.size → SaidAt E w86 p10 Z → Row w86 p87 ((E ++ [(⟨mf, labA, mt⟩ : EG)]).flatMap gcell) → (∀ x ∈ ks, x < w86.heap.size) → Calls prog 15 #[.string labA, .slice p87 (E ++ [(⟨mf, labA, mt⟩ : EG)]).length c89] w86 fun e w' => ∃ (p92 : Option Addr) (k93 k94 : Nat) (n95 : Int), e = .returned (.tuple #[.slice p92 k93 k94, I64 n95]) ∧ Keep ks w86 w' ∧ y14 p92 k93 k94 n95 w' := fun p87 c89 w86 ks F86 z86 hZ86 hr hks => by
    refine (pairsA_c hr (by rw [hl']; omega) (fun e he => (hR' e he).1) (saidFew (by rw [hl']; omega))).mono ?_
    rintro e90 w91 ⟨f91, p92, Z2, rfl, hZ2, _, _⟩
    exact ⟨_, _, _, _, rfl, keepF f91 hks, rest _ _ _ (F86.trans' f91) (Nat.le_trans z86 f91.size) (hZ86.fr f91) hZ2⟩
  have k1w : w.heap.size ≤ k1 ∧ k1 < w140.heap.size := ⟨n1.1, by omega⟩
  have hZk : ∀ w', Fr [k1] w9 w' → SaidAt E w' p10 Z := fun w' f => hZ.frk f (fun ad hp => by have := lowp ad hp; simp; omega) (fun z hz => by have := lowz z hz; simp; omega)
  have es : E.flatMap gcell ++ gcell ⟨mf, labA, mt⟩ = (E ++ [(⟨mf, labA, mt⟩ : EG)]).flatMap gcell := by simp
  have ord : ∀ (kb kp : Nat) (w77 : World), Fr [k1] w9 w77 → w9.heap.size ≤ kb → kb ≠ kp → kp < w77.heap.size → w9.heap.size ≤ kp → Blk w77 kb [] → ∃ l80 : List Value, l80.length = E.length * 3 ∧ Row w77 eA l80 ∧ appendP true [] [] [k1, kp] w77 (some ⟨kb, 0, none⟩) 0 0 E.length l80 3 32 [I64 0, .string ⟨#[]⟩, I64 0] fun w101 p102 k103 k104 => appendP true [] [] [k1, kp] w101 p102 k103 k104 1 (gcell ⟨mf, labA, mt⟩) 3 32 [I64 0, .string ⟨#[]⟩, I64 0] fun w105 p106 k107 k108 => Calls prog 15 #[.string labA, .slice p106 k107 k108] w105 fun e w' => ∃ (p92 : Option Addr) (k93 k94 : Nat) (n95 : Int), e = .returned (.tuple #[.slice p92 k93 k94, I64 n95]) ∧ Keep [k1, kp] w105 w' ∧ y14 p92 k93 k94 n95 w' := fun kb kp w77 f77 hkb hne hkp hkp9 b77 => by
    have F77 : Fr [] w w77 := F9.trans f77 (fun x hx => .inr (by rw [List.mem_singleton.1 hx]; exact k1w.1))
    have z77 := f77.size
    have zw := F9.size
    refine ⟨E.flatMap gcell, flatG.len E, hE.old F77, appN (f := gcell) flatG (ys := []) (zs := E) rfl (u := w) (B := w9.heap.size) (OwnZ.blk b77 rfl (by simp) hkb) F77 rfl zw z77 (fun _ => rfl) (by simp) (fun ad hp x hx => .inr (by
      injection hp with hp; subst hp
      rcases List.mem_cons.1 hx with rfl | h
      · show kb ≠ _; omega
      · rw [List.mem_singleton.1 h]; exact hne)) (by simp; omega) (by simp; omega) fun w81 p82 c84 F81 G81 _ o81 d81 => ?_⟩
    refine app1 (f := gcell) flatG (ys := E) (x := ⟨mf, labA, mt⟩) (u := w) (B := w9.heap.size) o81 F81 rfl zw (by have := G81.size; omega) (fun _ => rfl) (by simp) (fun ad hp x hx => .inr (by
      have h1 := (o81.lt hp).1
      rcases List.mem_cons.1 hx with rfl | h
      · omega
      · rw [List.mem_singleton.1 h]
        rcases d81 ad hp with h2 | h2
        · injection h2 with h2; subst h2; exact hne
        · omega)) (by omega) (by omega) fun w86 p87 c89 F86 G86 n86 o86 _ => ?_
    have H81 : Fr [k1] w9 w81 := f77.trans G81 (fun x hx => by
      rw [List.nil_append] at hx
      obtain ⟨ad, hp, rfl⟩ := (g_mem_pb _ _).1 hx
      injection hp with hp; subst hp; exact .inr hkb)
    have H86 : Fr [k1] w9 w86 := H81.trans G86 (fun x hx => by
      rw [List.nil_append] at hx
      obtain ⟨ad, hp, rfl⟩ := (g_mem_pb _ _).1 hx
      exact .inr (o81.lt hp).1)
    have g81 := G81.size
    have g86 := G86.size
    exact fin p87 c89 w86 [k1, kp] F86 H86.size (hZk _ H86) o86.row (fun x hx => by
      rcases List.mem_cons.1 hx with rfl | h
      · omega
      · rw [List.mem_singleton.1 h]; omega)
  refine ⟨fun k76 => ⟨fun w77 s77 b77 => ?_, fun k96 w97 s97 b97 => ?_⟩, fun k115 k116 w117 s117 b117 => ?_⟩
  · have n76 := s77.new k76 (by simp)
    have F77 : Fr [] w w77 := F9.trans s77.fr (fun x hx => .inr (by rw [List.mem_singleton.1 hx]; exact k1w.1))
    have z77 := s77.fr.size
    have zw := F9.size
    have b77 : Blk w77 k76 [] := b77
    refine ⟨E.flatMap gcell, flatG.len E, hE.old F77, appN (f := gcell) flatG (ys := []) (zs := E) rfl (u := w) (B := w9.heap.size) (OwnZ.blk b77 rfl (by simp) n76.1) F77 rfl zw z77 (fun _ => rfl) (by simp) (fun ad hp x hx => .inr (by injection hp with hp; subst hp; rw [List.mem_singleton.1 hx]; show k76 ≠ k1; have := n76.1; omega)) (by simp; omega) (by simp; omega) fun w81 p82 c84 F81 G81 _ o81 _ k85 => ?_⟩
    refine app1 (f := gcell) flatG (ys := E) (x := ⟨mf, labA, mt⟩) (u := w) (B := w9.heap.size) o81 F81 rfl zw (by have := G81.size; omega) (fun h => by cases h) (by simp) (fun ad hp x hx => by
      rcases List.mem_cons.1 hx with rfl | h
      · have := (o81.lt hp).1; exact .inr (by omega)
      · exact .inl h) (by omega) (by omega) fun w86 p87 c89 F86 G86 n86 o86 _ => ?_
    have H81 : Fr [k1] w9 w81 := s77.fr.trans G81 (fun x hx => by
      rw [List.nil_append] at hx
      obtain ⟨ad, hp, rfl⟩ := (g_mem_pb _ _).1 hx
      injection hp with hp; subst hp; exact .inr n76.1)
    have H86 : Fr [k1] w9 w86 := H81.trans G86 (fun x hx => by
      rw [List.nil_append] at hx
      obtain ⟨ad, hp, rfl⟩ := (g_mem_pb _ _).1 hx
      exact .inr (o81.lt hp).1)
    exact fin p87 c89 w86 [k1, k85] F86 H86.size (hZk _ H86) o86.row (fun x hx => by
      have := H86.size
      rcases List.mem_cons.1 hx with rfl | h
      · omega
      · rw [List.mem_singleton.1 h]; exact (n86 k85 (by simp)).2)
  · have n := g_new2 s97
    exact ord k76 k96 w97 s97.fr n.2.2.1 (fun e => n.2.2.2.2 e.symm) n.2.1 n.1 b97
  · have n := g_new2 s117
    exact ord k116 k115 w117 s117.fr n.1 n.2.2.2.2 n.2.2.2.1 n.2.2.1 b117
end Go.Proofs.Ytnplopiconabiaa.Span
