/- Span: the document's way. -/
import Derived.Test.YtnplopiconabiaaSR
import Derived.Test.YtnplopiconabiaaSL
namespace Go.Proofs.Ytnplopiconabiaa.Span
open Go Go.V
open Go.Proofs.Ytnplopiconabiaa.VC
open Go.Proofs.Try (prog)
set_option linter.unusedVariables false
set_option linter.unusedSimpArgs false
set_option maxRecDepth 20000

/-- A row's numbers, copied into a new block. -/
theorem grow1 {u w' : World} {k : Nat} {pu : Option Addr} {us : List Int} {privs : List Nat} {K : World → Option Addr → Nat → Nat → Prop} (f : Fr [] u w') (hk : u.heap.size ≤ k) (hb : Blk w' k []) (hr : Row u pu (us.map I64)) (hpr : ∀ x ∈ privs, x ≠ k) (hl : us.length ≤ 1000000)
    (hK : ∀ w2 p c, Fr [] u w2 → w'.heap.size ≤ w2.heap.size → OwnZ w2 u.heap.size 1 p us.length c (us.map I64) → (∀ ad, p = some ad → ad.block = k ∨ w'.heap.size ≤ ad.block) → K w2 p us.length c) :
    ∃ l : List Value, l.length = us.length * 1 ∧ Row w' pu l ∧ appendP true [] [] privs w' (some ⟨k, 0, none⟩) 0 0 us.length l 1 8 [I64 0] K := by
  refine ⟨us.map I64, by simp, hr.old f, appMN (C := I64) (fun _ => rfl) (ys := []) (zs := us) rfl (u := u) (B := u.heap.size) (OwnZ.blk hb rfl (by simp) hk) f rfl (Nat.le_refl _) f.size (fun _ => rfl) (by simp) (fun ad hp x hx => .inr (by
    injection hp with hp; subst hp
    exact fun e => hpr x hx e.symm)) (by simp; omega) (by simp; omega) fun w2 p c F G n o d => ?_⟩
  exact hK w2 p c F G.size o fun ad hp => (d ad hp).imp (fun h => by injection h with h; rw [← h]) id
/-- One number more. -/
theorem grow2 {u w' : World} {p : Option Addr} {c : Nat} {us : List Int} {x : Int} {cl : Bool} {news privs : List Nat} {K : World → Option Addr → Nat → Nat → Prop} (f : Fr [] u w') (o : OwnZ w' u.heap.size 1 p us.length c (us.map I64)) (hcl : cl = true → news = []) (hpr : ∀ ad, p = some ad → ∀ x ∈ privs, x ∈ news ∨ ad.block ≠ x) (hl : us.length ≤ 1000000)
    (hK : ∀ w2 p c, Fr [] u w2 → OwnZ w2 u.heap.size 1 p (us ++ [x]).length c ((us ++ [x]).map I64) → K w2 p (us ++ [x]).length c) :
    appendP cl [] news privs w' p us.length c 1 [I64 x] 1 8 [I64 0] K :=
  appM1 (C := I64) (fun _ => rfl) (x := x) (u := u) (B := u.heap.size) o f rfl (Nat.le_refl _) f.size hcl (by simp) hpr (by omega) (by omega) fun w2 p c F _ _ o2 _ => hK w2 p c F o2

/-- The number at a row's end. -/
def endAt (k : Nat) (z : RC) : Int := (z.2.2[k]?).getD 0
/-- The ways that the next round has, and where they lie. -/
structure NextAt (K : Nat) (cs : List Int → Prop) (u w : World) (p : Option Addr) (c : Nat) (Nx : List RC) : Prop where
  part : Part K cs (Nx.map (·.2.2))
  own : OwnZ w u.heap.size 1 p Nx.length c (Nx.map rv)
  rows : RowsI w Nx
  apart : ∀ z ∈ Nx, (∀ ad, z.1 = some ad → u.heap.size ≤ ad.block ∧ ad.block < w.heap.size) ∧ Dj p z.1
  fr : Fr [] u w
theorem NextAt.old {K : Nat} {cs : List Int → Prop} {u v w : World} {p : Option Addr} {c : Nat} {Nx : List RC} (h : NextAt K cs u v p c Nx) (f : Fr [] v w) : NextAt K cs u w p c Nx :=
  ⟨h.part, h.own.fr f (fun _ _ => by simp), h.rows.old f, fun z hz => ⟨fun ad h2 => ⟨((h.apart z hz).1 ad h2).1, by have := ((h.apart z hz).1 ad h2).2; have := f.size; omega⟩, (h.apart z hz).2⟩, h.fr.trans' f⟩
theorem NextAt.congr {K : Nat} {cs cs' : List Int → Prop} {u w : World} {p : Option Addr} {c : Nat} {Nx : List RC} (h : NextAt K cs u w p c Nx) (e : ∀ x, cs x ↔ cs' x) : NextAt K cs' u w p c Nx := ⟨h.part.congr e, h.own, h.rows, h.apart, h.fr⟩
theorem NextAt.len {K : Nat} {cs : List Int → Prop} {u w : World} {p : Option Addr} {c : Nat} {Nx : List RC} (h : NextAt K cs u w p c Nx) {z : RC} (hz : z ∈ Nx) : z.2.2.length = K + 1 := h.part.len _ (h.part.sub _ (List.mem_map.2 ⟨z, hz, rfl⟩))
theorem NextAt.few {K : Nat} {cs : List Int → Prop} {u w : World} {p : Option Addr} {c : Nat} {Nx : List RC} (h : NextAt K cs u w p c Nx) {l : List Int} (hl : ∀ x, cs x → ∃ y ∈ l, x[K]? = some y) : (Nx.map (endAt K)).Nodup ∧ Nx.length ≤ l.length := by
  have hn : (Nx.map (endAt K)).Nodup := by
    unfold List.Nodup
    rw [List.pairwise_map]
    have := h.part.one
    rw [List.pairwise_map] at this
    refine this.imp_of_mem fun {z z'} hz hz' h1 e => h1 ?_
    have l1 := h.len hz
    have l2 := h.len hz'
    unfold endAt at e
    rw [List.getElem?_eq_getElem (by omega), List.getElem?_eq_getElem (by omega)] at e ⊢
    exact congrArg some e
  refine ⟨hn, ?_⟩
  have := sub_len hn (l' := l) (fun x hx => by
    obtain ⟨z, hz, rfl⟩ := List.mem_map.1 hx
    obtain ⟨y, hy, e⟩ := hl _ (h.part.sub _ (List.mem_map.2 ⟨z, hz, rfl⟩))
    unfold endAt; rw [e]; exact hy)
  rwa [List.length_map] at this

set_option maxHeartbeats 1000000 in
theorem rway_c {w : World} {lab : ByteArray} {eA : Option Addr} {eC : Nat} {E : List EG} (hE : Row w eA (E.flatMap gcell)) (hl : E.length ≤ 60) (hs : lab.size ≤ 1000000) (a b : Int) :
    Calls prog 20 #[.string lab, .slice eA E.length eC, I64 a, I64 b] w fun e w' => Fr [] w w' ∧ ((isName lab = false ∧ e = .returned (.tuple #[.slice none 0 0, I64 1])) ∨
      (isName lab = true ∧ ((NoWay (succs E lab) a b ∧ e = .returned (.tuple #[.slice none 0 0, I64 4])) ∨
        ∃ (p : Option Addr) (c : Nat) (u : List Int), WayIs (succs E lab) a b u ∧ u.length ≤ 1000 ∧ e = .returned (.tuple #[.slice p u.length c, I64 0]) ∧ Row w' p (u.map I64)))) := by
  refine rhizomeref13_Way.link ((name_c w lab hs).mono ?_)
  rintro e1 w2 ⟨rfl, f2⟩
  refine ⟨_, rfl, bc (fun hb => ⟨f2, .inl ⟨by simpa using hb, rfl⟩⟩) fun hb => ?_⟩
  have hgood : isName lab = true := by simpa using hb
  refine (redges_c (hE.old f2) (by omega)).mono ?_
  rintro e4 w5 ⟨f5, p6, c8, L, rfl, X5, o5⟩
  have hLl : L.length ≤ 60 := by have := X5.len; omega
  have hLT := X5.succs
  have rL := o5.row
  have F5 := f2.trans' f5
  clear X5 o5
  generalize succs E lab = T at *
  refine ⟨p6, _, c8, rfl, fun k9 w10 s10 b10 k13 w14 s14 b14 => ?_⟩
  have n10 := g_new1 s10
  have n14 := g_new1 s14
  have F14 := s10.fr.trans' s14.fr
  have b10' : Blk w14 k9 ([a].map I64 ++ []) := (show Blk w10 k9 ([a].map I64 ++ []) from b10).fr s14.fr (by simp)
  have b14' : Blk w14 k13 ([((some ⟨k9, 0, none⟩, 1, [a]) : RC)].map rv) := b14
  have hrow14 : Row w14 (some ⟨k13, 0, none⟩) ([((some ⟨k9, 0, none⟩, 1, [a]) : RC)].map rv) := (OwnZ.blk (B := 0) (sz := 1) (n := 1) b14' rfl (fun u hu => by rw [List.mem_singleton.1 hu]; rfl) (by omega)).row
  have hends : ∀ {k : Nat} {ways : List (List Int)} {seen : List Int} {i j : Nat} (h : Lay T a k ways seen) (x : List Int), Cand ways L seen i j x → ∃ y ∈ L.map (·.2), x[k + 1]? = some y := fun {k ways seen i j} h x hx => by
    obtain ⟨i', j', v, p, h1, h2, _, h4, h5, rfl⟩ := hx
    obtain ⟨z, hz⟩ := h.best v (List.mem_of_getElem? h1)
    refine ⟨p.2, List.mem_map.2 ⟨p, List.mem_of_getElem? h2, rfl⟩, ?_⟩
    have := hz.2.1
    rw [List.getElem?_append_right (by omega), this, Nat.sub_self]; rfl
  refine ⟨fun m p k c pd kd cd w' => ∃ (r : Nat) (Ws : List RC) (S : List Int), k = Ws.length ∧ kd = S.length ∧ Lay T a r (Ws.map fun z : RC => z.2.2) S ∧ S.Nodup ∧ (∀ x ∈ S, x ∈ L.map (·.2)) ∧ b ∉ S ∧ (Ws ≠ [] → r ≤ S.length) ∧ (r = 0 → Ws ≠ []) ∧ Ws.length ≤ 61 ∧ m = (L.length + 1 - S.length) * 2 + (if Ws = [] then 0 else 1) ∧ Row w' p (Ws.map rv) ∧ RowsI w' Ws ∧ OwnZ w' w5.heap.size 1 pd S.length cd (S.map I64) ∧ Fr [] w5 w', _,
    ⟨0, [(some ⟨k9, 0, none⟩, 1, [a])], [], rfl, rfl, Lay.start T a, by simp, by simp, by simp, by simp, by simp, by simp, rfl, hrow14, fun z hz => by rw [List.mem_singleton.1 hz]; exact rowI' b10', OwnZ.nil _ _ _, F14⟩, ?_⟩
  clear b10' b14' hrow14
  rintro m19 p20 k21 c22 p23 k24 c25 w26 ⟨r, Ws, S, rfl, rfl, hLay, hSn, hSL, hbS, hr, hr0, hWl, rfl, rW, riW, oS, F26⟩
  have hSl : S.length ≤ 60 := by
    have := sub_len hSn hSL
    rw [List.length_map] at this; omega
  have hSl2 : S.length ≤ L.length := by
    have := sub_len hSn hSL
    rwa [List.length_map] at this
  refine bc (fun hpos => ?_) fun hnp => ?_
  · have hpos : (0 : Int) < (Ws.length : Int) := of_decide_eq_true hpos
    have hne : Ws ≠ [] := fun e => by rw [e] at hpos; simp at hpos
    have hr60 := hr hne
    have hwl : ∀ (i : Nat) (h : i < Ws.length), Ws[i].2.2.length = r + 1 ∧ ∃ y, Ws[i].2.2.getLast? = some y ∧ Ws[i].2.2[r]? = some y := fun i h => by
      obtain ⟨n, hb⟩ := hLay.best Ws[i].2.2 (List.mem_map.2 ⟨_, List.getElem_mem h, rfl⟩)
      exact ⟨hb.2.1, n, hb.1.step.2.1, hb.1.last hb.2.1⟩
    rw [if_neg hne]
    generalize hways : Ws.map (·.2.2) = ways at *
    have hwget : ∀ (i : Nat) (h : i < Ws.length), ways[i]? = some Ws[i].2.2 := fun i h => by rw [← hways, List.getElem?_map, List.getElem?_eq_getElem h]; rfl
    have hwlen : ways.length = Ws.length := by rw [← hways, List.length_map]
    refine ⟨fun m p k c n w' => ∃ (i : Nat) (Nx : List RC), n = i ∧ i ≤ Ws.length ∧ m = Ws.length - i ∧ k = Nx.length ∧ NextAt (r + 1) (Cand ways L S i 0) w26 w' p c Nx, Ws.length, ⟨0, [], rfl, by omega, rfl, rfl, ⟨(Part.nil _).congr fun c => Cand.start.symm, OwnZ.nil _ _ _, fun z hz => (by cases hz), fun z hz => (by cases hz), Fr.refl _ _⟩⟩, ?_⟩
    rintro m30 p31 k32 c33 n34 w35 ⟨i, Nx, rfl, hi, rfl, rfl, X35⟩
    refine bc (fun hlt => ?_) fun hge => ?_
    · have hlt : (i : Int) < (Ws.length : Int) := of_decide_eq_true hlt
      have hlt' : i < Ws.length := by omega
      obtain ⟨hwi, y, hy1, hy2⟩ := hwl i hlt'
      have cellW : ∀ w', Fr [] w26 w' → ∃ ad, p20 = some ad ∧ w'.cell? (ad.add i) = some (rv Ws[i]) := fun w' f' => by
        obtain ⟨ad, hp⟩ := (rW.old f').has (by rw [List.length_map]; omega)
        exact ⟨ad, hp, (rW.old f').get hp (by simp [hlt'])⟩
      obtain ⟨ad, hp, hc⟩ := cellW w35 X35.fr
      have ewr : IntKind.wrap .i64 (((r + 1 : Nat) : Int) - 1) = (r : Int) := by rw [wrapi (by omega) (by omega)]; omega
      refine ⟨ad, hp, ⟨by omega, hlt⟩, _, _, _, by rw [Int.toNat_natCast, Nat.mul_one]; exact hc, ad, hp, ⟨by omega, hlt⟩, _, _, _, by rw [Int.toNat_natCast, Nat.mul_one]; exact hc, ?_⟩
      have rowi := (riW _ (List.getElem_mem hlt'))
      have hyr : Ws[i].2.2[r] = y := by
        rw [List.getElem?_eq_getElem (by omega)] at hy2; exact Option.some.inj hy2
      rw [hwi, ewr]
      refine rd I64 (i := r) (rowi.old X35.fr) rfl (by omega) (by omega) ?_
      rw [hyr]
      refine ⟨fun m p k c n w' => ∃ (j : Nat) (Nx : List RC), n = j ∧ j ≤ L.length ∧ m = L.length - j ∧ k = Nx.length ∧ NextAt (r + 1) (Cand ways L S i j) w26 w' p c Nx, L.length, fun w49 s49 => ⟨0, Nx, rfl, by omega, rfl, rfl, X35.old s49.fr⟩, ?_⟩
      clear X35 hc Nx
      rintro m51 p52 k53 c54 n55 w56 ⟨j, Nx, rfl, hj, rfl, rfl, X⟩
      refine bc (fun hlt2 => ?_) fun hge2 => ?_
      · have hlt2 : (j : Int) < (L.length : Int) := of_decide_eq_true hlt2
        have hlt2' : j < L.length := by omega
        have hLj : L[j]? = some L[j] := List.getElem?_eq_getElem hlt2'
        intro y58 h58 y66 h66
        have es : IntKind.wrap .i64 ((j : Int) + 1) = ((j + 1 : Nat) : Int) := by rw [wrapi (by omega) (by omega)]; simp
        rw [es] at h58
        have e0 : (j : Int).toNat * 2 = j * 2 := by omega
        have skip : ∀ w', Fr [] w56 w' → ¬ (L[j].1 = y ∧ L[j].2 ∉ S) → y66 true w' := fun w' f' hno => h66 _ _ (bT rfl (h58 _ _ _ _ ⟨L.length - (j + 1), by omega, j + 1, Nx, rfl, by omega, rfl, rfl, (X.old f').congr fun c => (Cand.skip (hwget i hlt') hLj fun h => hno ⟨by
          have h1 := h.1
          rw [hy1] at h1; exact (Option.some.inj h1).symm, h.2⟩).symm⟩))
        have take : ∀ w68, Fr [] w56 w68 → L[j].1 = y → L[j].2 ∉ S → y66 false w68 := fun w68 f68 hyes hnS => h66 _ _ (bF rfl (by
          have X68 := X.old f68
          have F68 := X68.fr
          obtain ⟨ad, hp, hc⟩ := cellW w68 F68
          obtain ⟨ad2, hp2, g⟩ := (rL.old (F26.trans' F68)).atF flatP (by decide) hlt2'
          have hcand : ∀ c, Cand ways L S i j c ∨ c = Ws[i].2.2 ++ [L[j].2] ↔ Cand ways L S i (j + 1) c := fun c => Cand.more (hwget i hlt') hLj (by rw [hy1, hyes]) hnS
          have hclen : (Ws[i].2.2 ++ [L[j].2]).length = r + 1 + 1 := by simp [hwi]
          have hcend : (Ws[i].2.2 ++ [L[j].2])[r + 1]? = some L[j].2 := by rw [List.getElem?_append_right (by omega), hwi, Nat.sub_self]; rfl
          have hfew := X68.few (hends hLay)
          have hNl : Nx.length ≤ 60 := by have := hfew.2; rw [List.length_map] at this; omega
          intro y69 h69
          -- the new way stands in a block of its own
          have made : ∀ (w73 : World) (p70 : Option Addr) (c72 : Nat), Fr [] w68 w73 → OwnZ w73 w68.heap.size 1 p70 (Ws[i].2.2 ++ [L[j].2]).length c72 ((Ws[i].2.2 ++ [L[j].2]).map I64) → y69 p70 (Ws[i].2.2 ++ [L[j].2]).length c72 w73 := fun w73 p70 c72 f73 o73 => h69 _ _ _ _ (by
            have X73 := X68.old f73
            rw [hclen]
            have ewr2 : IntKind.wrap .i64 (((r + 1 + 1 : Nat) : Int) - 1) = ((r + 1 : Nat) : Int) := by rw [wrapi (by omega) (by omega)]; omega
            rw [ewr2]
            have F73 := X73.fr
            generalize hcc : Ws[i].2.2 ++ [L[j].2] = c at *
            have dj70 : Dj p52 p70 := fun a1 b1 h1 h2 e => by
              have := (X68.own.lt h1).2; have := (o73.lt h2).1; omega
            refine ⟨fun m n77 n78 w' => ∃ q : Nat, n78 = q ∧ q ≤ Nx.length ∧ m = Nx.length - q ∧ ((n77 = -1 ∧ ∀ z ∈ Nx.take q, z.2.2[r + 1]? ≠ some L[j].2) ∨ ∃ t : Nat, n77 = t ∧ ∃ h : t < Nx.length, t < q ∧ Nx[t].2.2[r + 1]? = some L[j].2) ∧ Fr [] w73 w', Nx.length, ⟨0, rfl, by omega, rfl, .inl ⟨rfl, by simp⟩, Fr.refl _ _⟩, ?_⟩
            rintro m76 n77 n78 w79 ⟨q, rfl, hq, rfl, hat, f79⟩
            have F79 := F73.trans' f79
            refine bc (fun hlt3 => ?_) fun hge3 => ?_
            · have hlt3 : (q : Int) < (Nx.length : Int) := of_decide_eq_true hlt3
              have hlt3' : q < Nx.length := by omega
              intro y81 h81
              have es3 : IntKind.wrap .i64 ((q : Int) + 1) = ((q + 1 : Nat) : Int) := by rw [wrapi (by omega) (by omega)]; simp
              rw [es3] at h81
              have rN := X73.own.row.old f79
              obtain ⟨ad3, hp3⟩ := rN.has (by rw [List.length_map]; omega)
              have hc3 : w79.cell? (ad3.add q) = some (rv Nx[q]) := rN.get hp3 (by simp [hlt3'])
              have hzl := X68.len (List.getElem_mem hlt3')
              refine ⟨ad3, hp3, ⟨by omega, hlt3⟩, _, _, _, by rw [Int.toNat_natCast, Nat.mul_one]; exact hc3, ?_⟩
              refine rd I64 (i := r + 1) ((X73.rows _ (List.getElem_mem hlt3')).old f79) rfl (by omega) (by omega) ?_
              obtain ⟨ad4, hp4, g4⟩ := (rL.old (F26.trans' F79)).atF flatP (by decide) hlt2'
              have hzg : Nx[q].2.2[r + 1]? = some (Nx[q].2.2[r + 1]'(by omega)) := List.getElem?_eq_getElem (by omega)
              refine ⟨ad4, hp4, ⟨by omega, hlt2⟩, L[j].2, by rw [e0]; exact g4 1 _ rfl, bc (fun heq w95 s95 => ?_) fun hne w97 s97 => ?_⟩
              · have heq := of_decide_eq_true heq
                exact h81 _ _ ⟨Nx.length - (q + 1), by omega, q + 1, rfl, by omega, rfl, .inr ⟨q, rfl, hlt3', by omega, by rw [hzg, heq]⟩, f79.trans' s95.fr⟩
              · have hne := of_decide_eq_false hne
                refine h81 _ _ ⟨Nx.length - (q + 1), by omega, q + 1, rfl, by omega, rfl, ?_, f79.trans' s97.fr⟩
                rcases hat with ⟨h1, h2⟩ | ⟨t, h1, h2, h3, h4⟩
                · refine .inl ⟨h1, fun z hz => ?_⟩
                  rw [take_snoc hlt3'] at hz
                  rcases List.mem_append.1 hz with hz | hz
                  · exact h2 z hz
                  · rw [List.mem_singleton.1 hz, hzg]
                    exact fun e => hne (Option.some.inj e)
                · exact .inr ⟨t, h1, h2, by omega, h4⟩
            · have hge3 : ¬ (q : Int) < (Nx.length : Int) := of_decide_eq_false hge3
              have hq' : q = Nx.length := by omega
              subst hq'
              rw [List.take_length] at hat
              have X79 := X73.old f79
              have o79 := o73.fr f79 (fun _ _ => by simp)
              have f6879 := f73.trans' f79
              refine bc (fun hneg => ?_) fun hpos2 => ?_
              · have hneg : n77 < 0 := of_decide_eq_true hneg
                obtain ⟨_, hno⟩ : n77 = -1 ∧ ∀ z ∈ Nx, z.2.2[r + 1]? ≠ some L[j].2 := by
                  rcases hat with h | ⟨t, h, _⟩
                  · exact h
                  · omega
                intro k99
                have ex : spl (reps [Value.slice none 0 0] 1) 0 [Value.slice p70 (r + 1 + 1) c72] = [rv (p70, c72, c)] := by
                  show [Value.slice p70 (r + 1 + 1) c72] = [Value.slice p70 c.length c72]
                  rw [hclen]
                rw [ex]
                refine appM1 (C := rv) (fun _ => rfl) (ys := Nx) (x := (p70, c72, c)) (u := w26) (B := w26.heap.size) X79.own F79 rfl (Nat.le_refl _) F79.size (fun h => by cases h) (by simp) (fun ad hp x hx => .inl hx) (by omega) (by omega) fun w100 p101 c103 F100 G100 n100 o100 d100 => ?_
                have g100 := G100.size
                refine h58 _ _ _ _ ⟨L.length - (j + 1), by omega, j + 1, Nx ++ [(p70, c72, c)], rfl, by omega, rfl, rfl, ⟨?_, o100, fun z hz => ?_, fun z hz => ?_, F100⟩⟩
                · rw [List.map_append]
                  exact (X79.part.add hclen fun v hv => by
                    obtain ⟨z, hz, rfl⟩ := List.mem_map.1 hv
                    rw [hcend]; exact hno z hz).congr hcand
                · rcases List.mem_append.1 hz with hz | hz
                  · exact row_fr0 G100 (X79.rows z hz) fun ad hp _ => (X79.apart z hz).2.out ad hp
                  · rw [List.mem_singleton.1 hz]
                    exact (o79.fr G100 dj70.out).row
                · rcases List.mem_append.1 hz with hz | hz
                  · exact ⟨fun ad h => ⟨((X79.apart z hz).1 ad h).1, by have := ((X79.apart z hz).1 ad h).2; omega⟩, (X79.apart z hz).2.grow d100 fun b hb => ((X79.apart z hz).1 b hb).2⟩
                  · rw [List.mem_singleton.1 hz]
                    exact ⟨fun ad h => ⟨by have := (o79.lt h).1; have := F68.size; omega, by have := (o79.lt h).2; omega⟩, dj70.grow d100 fun b hb => (o79.lt hb).2⟩
              · have hpos2 : ¬ n77 < 0 := of_decide_eq_false hpos2
                obtain ⟨t, rfl, ht, _, het⟩ : ∃ t : Nat, n77 = t ∧ ∃ h : t < Nx.length, t < Nx.length ∧ Nx[t].2.2[r + 1]? = some L[j].2 := by
                  rcases hat with ⟨h, _⟩ | h
                  · omega
                  · exact h
                have rN := X79.own.row
                obtain ⟨ad3, hp3⟩ := rN.has (by rw [List.length_map]; omega)
                have hc3 : w79.cell? (ad3.add t) = some (rv Nx[t]) := rN.get hp3 (by simp [ht])
                have hzl := X68.len (List.getElem_mem ht)
                have htg : (Nx.map (·.2.2))[t]'(by simpa using ht) = Nx[t].2.2 := List.getElem_map _
                refine ⟨ad3, hp3, ⟨by omega, by omega⟩, _, _, _, by rw [Int.toNat_natCast, Nat.mul_one]; exact hc3, ?_⟩
                have cl := rless_c (aC := c72) (bC := Nx[t].2.1) o79.row (X79.rows _ (List.getElem_mem ht)) (by rw [hclen, hzl]) (by rw [hclen]; omega)
                rw [hclen] at cl
                refine cl.mono ?_
                rintro e108 w109 ⟨⟨bb, rfl, hbb⟩, f109⟩
                have X109 := X79.old f109
                have o109 := o79.fr f109 (fun _ _ => by simp)
                refine ⟨bb, rfl, bc (fun hbt => ⟨ad3, hp3, ⟨by omega, by omega⟩, ?_⟩) fun hbf => ?_⟩
                · have hlex := hbb.1 hbt
                  refine own_put (i := t) (x := .slice p70 (r + 1 + 1) c72) X109.own hp3 rfl (by omega) rfl fun w113 f113 o113 => ?_
                  have hbk := (X109.own.lt hp3).1
                  have e5 : Fr ([] ++ pb p52) w109 w113 := by
                    rw [hp3]; exact f113
                  have g113 := f113.size
                  have e6 : (Nx.map rv).set t (.slice p70 (r + 1 + 1) c72) = (Nx.set t (p70, c72, c)).map rv := by
                    rw [List.map_set]; show _ = List.set _ _ (Value.slice p70 c.length c72); rw [hclen]
                  rw [e6] at o113
                  refine h58 _ _ _ _ ⟨L.length - (j + 1), by omega, j + 1, Nx.set t (p70, c72, c), rfl, by omega, rfl, by rw [List.length_set], ⟨?_, by rw [List.length_set]; exact o113, fun z hz => ?_, fun z hz => ?_, (F79.trans' f109).trans f113 (fun x hx => .inr (by rw [List.mem_singleton.1 hx]; exact hbk))⟩⟩
                  · rw [List.map_set]
                    exact (X79.part.put hclen (at_ := t) (by simpa using ht) (by rw [htg, het, hcend]) (by rw [htg]; exact hlex)).congr hcand
                  · rcases List.mem_or_eq_of_mem_set hz with hz | hz
                    · exact row_fr0 e5 (X109.rows z hz) fun ad hp _ => (X109.apart z hz).2.out ad hp
                    · rw [hz]
                      exact (o109.fr e5 dj70.out).row
                  · rcases List.mem_or_eq_of_mem_set hz with hz | hz
                    · exact ⟨fun ad h => ⟨((X109.apart z hz).1 ad h).1, by have := ((X109.apart z hz).1 ad h).2; omega⟩, (X109.apart z hz).2⟩
                    · rw [hz]
                      exact ⟨fun ad h => ⟨by have := (o109.lt h).1; have := F68.size; omega, by have := (o109.lt h).2; omega⟩, dj70⟩
                · have hnl : ¬ lexL c Nx[t].2.2 := fun h => by rw [hbb.2 h] at hbf; cases hbf
                  exact h58 _ _ _ _ ⟨L.length - (j + 1), by omega, j + 1, Nx, rfl, by omega, rfl, rfl, ⟨(X79.part.keep hclen (w := Nx[t].2.2) (List.mem_map.2 ⟨_, List.getElem_mem ht, rfl⟩) (by rw [het, hcend]) hnl).congr hcand, X109.own, X109.rows, X109.apart, X109.fr⟩⟩)
          clear h69 skip
          have row68 := rowi.old F68
          have hwi2 : Ws[i].2.2.length ≤ 1000000 := by omega
          have pre : ∀ (w' : World), Fr [] w68 w' → World.cell? w' (Addr.add (Addr.add ad2 (Int.toNat (j : Int) * 2)) 1) = some (I64 L[j].2) := fun w' f' => by
            obtain ⟨ad4, hp4, g4⟩ := (rL.old (F26.trans' (F68.trans' f'))).atF flatP (by decide) hlt2'
            rw [hp2] at hp4; injection hp4 with hp4; subst hp4
            rw [e0]; exact g4 1 _ rfl
          have cell68 := pre w68 (Fr.refl _ _)
          refine ⟨ad, hp, ⟨by omega, hlt⟩, _, _, _, by rw [Int.toNat_natCast, Nat.mul_one]; exact hc, ad2, hp2, ⟨by omega, hlt2⟩, ?_⟩
          have fresh : ∀ (k : Nat) (w' : World), Step w68 w' [] [k] → Blk w' k [] → ∃ l : List Value, l.length = Ws[i].2.2.length * 1 ∧ Row w' Ws[i].1 l ∧ appendP true [] [] [] w' (some ⟨k, 0, none⟩) 0 0 Ws[i].2.2.length l 1 8 [I64 0] fun w127 p128 k129 k130 => ∀ k132 : Nat, appendP false [] [k132] [k132] w127 p128 k129 k130 1 [I64 L[j].2] 1 8 [I64 0] fun w133 p134 k135 k136 => y69 p134 k135 k136 w133 := fun k w' s' b' => by
            refine grow1 s'.fr (g_new1 s').1 b' row68 (by simp) hwi2 fun w2 p c F2 _ o2 _ k132 => ?_
            exact grow2 F2 o2 (fun h => by cases h) (fun ad hp x hx => .inl hx) hwi2 fun w3 p3 c3 F3 o3 => made w3 p3 c3 F3 o3
          have both : ∀ (k kp : Nat) (w' : World), Fr [] w68 w' → w68.heap.size ≤ k → k ≠ kp → kp < w'.heap.size → Blk w' k [] → ∃ l : List Value, l.length = Ws[i].2.2.length * 1 ∧ Row w' Ws[i].1 l ∧ appendP true [] [] [kp] w' (some ⟨k, 0, none⟩) 0 0 Ws[i].2.2.length l 1 8 [I64 0] fun w127 p128 k129 k130 => appendP true [] [] [kp] w127 p128 k129 k130 1 [I64 L[j].2] 1 8 [I64 0] fun w133 p134 k135 k136 => y69 p134 k135 k136 w133 := fun k kp w' f' hk hne hkp b' => by
            refine grow1 f' hk b' row68 (fun x hx => by rw [List.mem_singleton.1 hx]; exact hne.symm) hwi2 fun w2 p c F2 z2 o2 d2 => ?_
            exact grow2 F2 o2 (fun _ => rfl) (fun ad hp x hx => .inr (by
              rw [List.mem_singleton.1 hx]
              rcases d2 ad hp with h | h
              · omega
              · omega)) hwi2 fun w3 p3 c3 F3 o3 => made w3 p3 c3 F3 o3
          refine ⟨fun k122 => ⟨fun w123 s123 b123 => ?_, _, cell68, fun w138 s138 b138 => fresh k122 w138 s138 b138, fun k151 w152 s152 b152 => ?_⟩, _, cell68, fun k165 => ⟨fun w166 s166 b166 => fresh k165 w166 s166 b166, fun k179 w180 s180 b180 => ?_⟩, fun k192 k193 w194 s194 b194 => ?_⟩
          · refine grow1 s123.fr (g_new1 s123).1 b123 row68 (by simp) hwi2 fun w2 p c F2 _ o2 _ => ⟨_, pre w2 F2, fun k132 => ?_⟩
            exact grow2 F2 o2 (fun h => by cases h) (fun ad hp x hx => .inl hx) hwi2 fun w3 p3 c3 F3 o3 => made w3 p3 c3 F3 o3
          · have n := g_new2 s152
            exact both k122 k151 w152 s152.fr n.2.2.1 (fun e => n.2.2.2.2 e.symm) n.2.1 b152
          · have n := g_new2 s180
            exact both k165 k179 w180 s180.fr n.2.2.1 (fun e => n.2.2.2.2 e.symm) n.2.1 b180
          · have n := g_new2 s194
            exact both k193 k192 w194 s194.fr n.1 n.2.2.2.2 n.2.2.2.1 b194))
        obtain ⟨ad2, hp2, g⟩ := (rL.old (F26.trans' X.fr)).atF flatP (by decide) hlt2'
        refine ⟨ad2, hp2, ⟨by omega, hlt2⟩, L[j].1, by rw [e0]; exact g 0 _ rfl, bc (fun hne => ?_) fun heq => ?_⟩
        · have hne : ¬ L[j].1 = y := by simpa using hne
          exact skip w56 (Fr.refl _ _) fun h => hne h.1
        · have heq : L[j].1 = y := by simpa using heq
          have rS := oS.row.old X.fr
          have hS8 : S.length ≤ 100000000 := by omega
          refine ⟨ad2, hp2, ⟨by omega, hlt2⟩, L[j].2, by rw [e0]; exact g 1 _ rfl, ?_⟩
          have c48 := rin_c (lC := c25) L[j].2 rS hS8
          refine c48.mono ?_
          rintro e212 w213 ⟨rfl, f213⟩
          refine ⟨_, rfl, ?_⟩
          by_cases hin : L[j].2 ∈ S
          · rw [decide_eq_true hin]; exact skip w213 f213 fun h => h.2 hin
          · rw [decide_eq_false hin]; exact take w213 f213 heq hin
      · have hge2 : ¬ (j : Int) < (L.length : Int) := of_decide_eq_false hge2
        exact ⟨Ws.length - (i + 1), by omega, i + 1, Nx, by rw [wrapi (by omega) (by omega)]; simp, by omega, rfl, rfl, X.congr fun c => (Cand.row (by omega)).symm⟩
    -- what is next is seen
    have hge : ¬ (i : Int) < (Ws.length : Int) := of_decide_eq_false hge
    have hi' : i = ways.length := by omega
    rw [hi'] at X35
    have hpart := X35.part
    have hfew := X35.few (hends hLay)
    have hNl : Nx.length ≤ 60 := by have := hfew.2; rw [List.length_map] at this; omega
    have hbest : ∀ z ∈ Nx, Best T a (r + 1) (endAt (r + 1) z) z.2.2 ∧ endAt (r + 1) z ∉ S ∧ z.2.2[r + 1]? = some (endAt (r + 1) z) := fun z hz => by
      obtain ⟨x, h1, h2⟩ := hLay.nbest hLT hpart (List.mem_map.2 ⟨z, hz, rfl⟩)
      have h3 := h1.1.last h1.2.1
      have e : endAt (r + 1) z = x := by unfold endAt; rw [h3]; rfl
      rw [e]; exact ⟨h1, h2, h3⟩
    have hendL : ∀ z ∈ Nx, endAt (r + 1) z ∈ L.map (·.2) := fun z hz => by
      obtain ⟨y, hy, e⟩ := hends hLay _ (hpart.sub _ (List.mem_map.2 ⟨z, hz, rfl⟩))
      rw [(hbest z hz).2.2] at e
      rw [Option.some.inj e]; exact hy
    have F35 := F26.trans' X35.fr
    have z35 := X35.fr.size
    have oS35 := oS.fr X35.fr (fun _ _ => by simp)
    refine ⟨fun m p k c n w' => ∃ q : Nat, n = q ∧ q ≤ Nx.length ∧ m = Nx.length - q ∧ k = (S ++ (Nx.take q).map (endAt (r + 1))).length ∧ OwnZ w' w5.heap.size 1 p (S ++ (Nx.take q).map (endAt (r + 1))).length c ((S ++ (Nx.take q).map (endAt (r + 1))).map I64) ∧ b ∉ (Nx.take q).map (endAt (r + 1)) ∧ Row w' p31 (Nx.map rv) ∧ RowsI w' Nx ∧ (∀ ad, p = some ad → ad.block < w26.heap.size ∨ w35.heap.size ≤ ad.block) ∧ Fr [] w5 w' ∧ w35.heap.size ≤ w'.heap.size, Nx.length, ⟨0, rfl, by omega, rfl, by simp, by simpa using oS35, by simp, X35.own.row, X35.rows, fun ad hp => .inl (oS.lt hp).2, F35, Nat.le_refl _⟩, ?_⟩
    rintro m218 p219 k220 c221 n222 w223 ⟨q, rfl, hq, rfl, rfl, o, hbq, rN, riN, hblk, F, z223⟩
    have hql : (S ++ (Nx.take q).map (endAt (r + 1))).length = S.length + q := by rw [List.length_append, List.length_map, List.length_take]; omega
    refine bc (fun hlt3 => ?_) fun hge3 => ?_
    · have hlt3 : (q : Int) < (Nx.length : Int) := of_decide_eq_true hlt3
      have hlt3' : q < Nx.length := by omega
      obtain ⟨ad3, hp3⟩ := rN.has (by rw [List.length_map]; omega)
      have hc3 : w223.cell? (ad3.add q) = some (rv Nx[q]) := rN.get hp3 (by simp [hlt3'])
      have hz := List.getElem_mem hlt3'
      have hzl := X35.len hz
      obtain ⟨hb1, hb2, hb3⟩ := hbest _ hz
      have ewr2 : IntKind.wrap .i64 (((r + 1 + 1 : Nat) : Int) - 1) = ((r + 1 : Nat) : Int) := by rw [wrapi (by omega) (by omega)]; omega
      refine ⟨ad3, hp3, ⟨by omega, hlt3⟩, _, _, _, by rw [Int.toNat_natCast, Nat.mul_one]; exact hc3, ad3, hp3, ⟨by omega, hlt3⟩, _, _, _, by rw [Int.toNat_natCast, Nat.mul_one]; exact hc3, ?_⟩
      rw [hzl, ewr2]
      have hge4 : Nx[q].2.2[r + 1]'(by omega) = endAt (r + 1) Nx[q] := by
        rw [List.getElem?_eq_getElem (by omega)] at hb3; exact Option.some.inj hb3
      refine rd I64 (i := r + 1) (riN _ hz) rfl (by omega) (by omega) ?_
      rw [hge4]
      refine bc (fun heq => ?_) fun hne => ?_
      · have heq : endAt (r + 1) Nx[q] = b := of_decide_eq_true heq
        refine ⟨ad3, hp3, ⟨by omega, hlt3⟩, _, _, _, by rw [Int.toNat_natCast, Nat.mul_one]; exact hc3, fun w239 s239 => ⟨F5.trans' (F.trans' s239.fr), .inr ⟨hgood, .inr ⟨Nx[q].1, Nx[q].2.1, Nx[q].2.2, ?_, by omega, rfl, (riN _ hz).old s239.fr⟩⟩⟩⟩
        rw [← heq]; exact hb1.way
      · have hne : ¬ endAt (r + 1) Nx[q] = b := of_decide_eq_false hne
        intro k241
        have et : S ++ (Nx.take q).map (endAt (r + 1)) ++ [endAt (r + 1) Nx[q]] = S ++ (Nx.take (q + 1)).map (endAt (r + 1)) := by
          rw [take_snoc hlt3', List.map_append, List.append_assoc]; rfl
        refine appM1 (C := I64) (fun _ => rfl) (x := endAt (r + 1) Nx[q]) (u := w5) (B := w5.heap.size) o F rfl (Nat.le_refl _) F.size (fun h => by cases h) (by simp) (fun ad hp x hx => .inl hx) (by omega) (by omega) fun w242 p243 c245 F242 G242 n242 o242 d242 => ?_
        rw [et] at o242 ⊢
        have g242 := G242.size
        have clash : ∀ pz : Option Addr, (∀ ad, pz = some ad → w26.heap.size ≤ ad.block ∧ ad.block < w35.heap.size) → ∀ ad, pz = some ad → ad.block ∉ [] ++ pb p219 := fun pz h ad hp hx => by
          rw [List.nil_append] at hx
          obtain ⟨ad', hp', e⟩ := (g_mem_pb _ _).1 hx
          have h1 := h ad hp
          rcases hblk ad' hp' with h2 | h2 <;> omega
        refine ⟨Nx.length - (q + 1), by omega, q + 1, by rw [wrapi (by omega) (by omega)]; simp, by omega, rfl, rfl, o242, ?_, row_fr0 G242 rN fun ad hp _ => clash p31 (fun ad hp => ⟨(X35.own.lt hp).1, (X35.own.lt hp).2⟩) ad hp, fun z hz => row_fr0 G242 (riN z hz) fun ad hp _ => clash z.1 (fun ad hp => (X35.apart z hz).1 ad hp) ad hp, fun ad hp => ?_, F242, by omega⟩
        · rw [take_snoc hlt3', List.map_append, List.mem_append]
          rintro (h | h)
          · exact hbq h
          · have h : b = endAt (r + 1) Nx[q] := by simpa using h
            exact hne h.symm
        · rcases d242 ad hp with h | h
          · exact hblk ad h
          · exact .inr (by omega)
    · have hge3 : ¬ (q : Int) < (Nx.length : Int) := of_decide_eq_false hge3
      have hq' : q = Nx.length := by omega
      subst hq'
      rw [List.take_length] at o hbq hql ⊢
      have hS' : (S ++ Nx.map (endAt (r + 1))).Nodup := by
        rw [List.nodup_append]
        refine ⟨hSn, hfew.1, fun x hx y hy e => ?_⟩
        obtain ⟨z, hz, rfl⟩ := List.mem_map.1 hy
        exact (hbest z hz).2.1 (by rw [← e]; exact hx)
      have hS'L : ∀ x ∈ S ++ Nx.map (endAt (r + 1)), x ∈ L.map (·.2) := fun x hx => by
        rcases List.mem_append.1 hx with hx | hx
        · exact hSL x hx
        · obtain ⟨z, hz, rfl⟩ := List.mem_map.1 hx
          exact hendL z hz
      have hS'l := sub_len hS' hS'L
      rw [List.length_map, hql] at hS'l
      refine ⟨(L.length + 1 - (S ++ Nx.map (endAt (r + 1))).length) * 2 + (if Nx = [] then 0 else 1), ?_, r + 1, Nx, _, rfl, rfl, hLay.round hLT hpart fun x => ?_, hS', hS'L, ?_, fun hne => ?_, fun h => by omega, by omega, rfl, rN, riN, o, F⟩
      · rw [hql]
        by_cases e : Nx = []
        · rw [if_pos e]; omega
        · rw [if_neg e]
          have := List.length_pos_iff.2 e
          omega
      · rw [List.mem_append]
        constructor
        · rintro (h | h)
          · exact .inl h
          · obtain ⟨z, hz, rfl⟩ := List.mem_map.1 h
            exact .inr ⟨_, List.mem_map.2 ⟨z, hz, rfl⟩, (hbest z hz).2.2⟩
        · rintro (h | ⟨v, hv, h⟩)
          · exact .inl h
          · obtain ⟨z, hz, rfl⟩ := List.mem_map.1 hv
            rw [(hbest z hz).2.2] at h
            exact .inr (List.mem_map.2 ⟨z, hz, Option.some.inj h⟩)
      · rw [List.mem_append]
        rintro (h | h)
        · exact hbS h
        · exact hbq h
      · rw [hql]
        have := List.length_pos_iff.2 hne
        omega
  · have hnp : ¬ (0 : Int) < (Ws.length : Int) := of_decide_eq_false hnp
    have he : Ws = [] := List.length_eq_zero_iff.1 (by omega)
    refine ⟨F5.trans' F26, .inr ⟨hgood, .inl ⟨fun u hu hl => ?_, rfl⟩⟩⟩
    rw [he] at hLay
    match r, hLay, hr0 with
    | 0, _, h => exact h rfl he
    | r + 1, hLay, _ => exact hbS (hLay.done hu hl)
end Go.Proofs.Ytnplopiconabiaa.Span
