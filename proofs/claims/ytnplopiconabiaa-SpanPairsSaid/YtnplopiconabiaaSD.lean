/- Span: Way. -/
import Derived.Test.YtnplopiconabiaaSC
import Derived.Test.YtnplopiconabiaaC4
namespace Go.Proofs.Ytnplopiconabiaa.Span
open Go Go.V
open Go.Proofs.Ytnplopiconabiaa.VC
open Go.Proofs.Try (prog)
set_option linter.unusedVariables false
set_option linter.unusedSimpArgs false
set_option maxRecDepth 20000

/-- The map of parents. -/
structure AH (a : Int) (ls : List (Int × Value)) (L : List EnW) : Prop where
  keys : ∀ x, x ∈ ls.map (·.1) ↔ x ∈ L.tail.map (·.1)
  ints : ∀ q ∈ ls, ∃ n : Int, q.2 = I64 n
  par : ∀ e ∈ L.tail, ∃ p ∈ L, V.look ls e.1 = some (I64 p.1) ∧ e.2 = p.2 ++ [e.1] ∧ (p.1 = a → p.2 = [a])
theorem AH.add {a : Int} {ls : List (Int × Value)} {L : List EnW} (h : AH a ls L) (hn : (ls.map (·.1)).Nodup) (hne : L ≠ []) {e : EnW} (he : e ∈ L) (ha : e.1 = a → e.2 = [a]) {x : Int} (hx : x ∉ L.tail.map (·.1)) :
    AH a (updM ls x (I64 e.1)) (L ++ [(x, e.2 ++ [x])]) := by
  have htail : (L ++ [(x, e.2 ++ [x])]).tail = L.tail ++ [(x, e.2 ++ [x])] := List.tail_append_of_ne_nil hne
  refine ⟨fun y => ?_, fun q hq => ?_, fun e' he' => ?_⟩
  · rw [key_updM, htail, List.map_append, List.mem_append, h.keys]
    simp only [List.map_cons, List.map_nil, List.mem_singleton]
    exact Or.comm
  · rcases mem_updM2 hn hq with rfl | ⟨hq, _⟩
    · exact ⟨_, rfl⟩
    · exact h.ints q hq
  · rw [htail] at he'
    rcases List.mem_append.1 he' with he' | he'
    · obtain ⟨p, hp, h1, h2, h3⟩ := h.par e' he'
      refine ⟨p, List.mem_append_left _ hp, ?_, h2, h3⟩
      rw [look_updM, if_neg]
      · exact h1
      · intro e3; exact hx (by rw [← e3]; exact List.mem_map.2 ⟨_, he', rfl⟩)
    · rw [List.mem_singleton.1 he']
      exact ⟨e, List.mem_append_left _ he, by rw [look_updM, if_pos rfl], rfl, ha⟩
theorem AH.look {a : Int} {ls : List (Int × Value)} {L : List EnW} (h : AH a ls L) (hn : (ls.map (·.1)).Nodup) (x : Int) : ∃ (n : Int) (b : Bool), LookRel ls x (I64 0) (I64 n) b ∧ (b = true ↔ x ∈ L.tail.map (·.1)) := by
  rw [← h.keys]
  cases hlk : V.look ls x with
  | some y =>
    obtain ⟨n, h1⟩ := h.ints _ (look_mem hlk)
    have h1 : y = I64 n := h1
    subst h1
    exact ⟨n, true, .inl ⟨rfl, hlk⟩, ⟨fun _ => List.mem_map.2 ⟨_, look_mem hlk, rfl⟩, fun _ => rfl⟩⟩
  | none =>
    refine ⟨0, false, .inr ⟨rfl, hlk, rfl⟩, ⟨(fun h => by cases h), fun hx => ?_⟩⟩
    obtain ⟨q, hq, e⟩ := List.mem_map.1 hx
    have := look_of_mem hn (k := q.1) (x := q.2) hq
    rw [e, hlk] at this; cases this
/-- What Way answers. -/
def WaySaid (T : Int → List Int) (good : Bool) (a b : Int) (w : World) (e : Ending) (w' : World) : Prop :=
  (good = false ∧ e = .returned (.tuple #[.slice none 0 0, I64 1])) ∨
  (good = true ∧ ((NoWay T a b ∧ e = .returned (.tuple #[.slice none 0 0, I64 4])) ∨
    ∃ (u : List Int) (k c : Nat) (cs : List Value), WayIs T a b u ∧ u.length ≤ 200000 ∧ e = .returned (.tuple #[.slice (some ⟨k, 0, none⟩) u.length c, I64 0]) ∧ Blk w' k (u.map I64 ++ cs) ∧ w.heap.size ≤ k))
theorem Bfs.bound {T : Int → List Int} {a : Int} {L : List EnW} {k j : Nat} (h : Bfs T a L k j) {N : List Int} (hN : ∀ y, ∀ x ∈ T y, x ∈ N) : L.length ≤ N.length + 1 := by
  obtain ⟨L', e⟩ := h.first
  have := nodup_sub h.nodup (l' := N) (fun x hx => by
    obtain ⟨e', he, rfl⟩ := List.mem_map.1 hx
    obtain ⟨_, _, q, p, _, _, h5, _⟩ := h.par e' he
    exact hN _ _ h5)
  rw [e] at this ⊢
  simpa using this
theorem Bfs.len {T : Int → List Int} {a : Int} {L : List EnW} {k j : Nat} (h : Bfs T a L k j) : ∀ {q : Nat} {p : EnW}, L[q]? = some p → p.2.length ≤ q + 1 := fun {q} => by
  induction q using Nat.strongRecOn with
  | ind q ih =>
    intro p hq
    obtain ⟨L', e⟩ := h.first
    match q, hq, ih with
    | 0, hq, _ => rw [h.head] at hq; cases hq; simp
    | q + 1, hq, ih =>
      have hm : p ∈ L.tail := by
        rw [e] at hq ⊢
        rw [List.getElem?_cons_succ] at hq
        exact List.mem_of_getElem? hq
      obtain ⟨_, _, r, p2, h3, h4, _⟩ := h.par p hm
      have hr : r < q + 1 := by
        apply Classical.byContradiction
        intro hn
        have hl : p.2.length = p2.2.length + 1 := by rw [h4]; simp
        rcases h.sle hq h3 (by omega) with h5 | h5
        · rw [h5] at hl; omega
        · rcases h5 with h5 | ⟨h5, _⟩
          · omega
          · omega
      have := ih r hr h3
      rw [h4]; simp; omega
theorem ord_succs (E : List EG) (lab : ByteArray) (n : Int) : (succs E lab n).Pairwise (· < ·) := (comp_spec (sortI_le _)).1

set_option maxHeartbeats 2000000 in
theorem way_c {w : World} {lab : ByteArray} {eA : Option Addr} {eC : Nat} {E : List EG} (hE : Row w eA (E.flatMap gcell)) (hl : E.length ≤ 50000) (a b : Int) :
    Calls prog 19 #[.string lab, .slice eA E.length eC, I64 a, I64 b] w fun e w' => Fr [] w w' ∧ WaySaid (succs E lab) (isName lab) a b w e w' := by
  refine span_Way.link ((bad_c w lab).mono ?_)
  rintro e1 w2 ⟨rfl, f2⟩
  refine ⟨_, rfl, bc (fun hb => ⟨f2, .inl ⟨by simpa using hb, rfl⟩⟩) fun hb => ?_⟩
  have hgood : isName lab = true := by simpa using hb
  refine (next_c (hE.old f2) (by omega)).mono ?_
  rintro e4 w5 ⟨f5, m, l, rfl, M5, X5, hm⟩
  have F5 := f2.trans' f5
  have hTN : ∀ y, ∀ x ∈ succs E lab y, x ∈ E.map (·.t) := fun y x hx => by
    obtain ⟨e, he, _, _, h5⟩ := mem_succs.1 hx
    exact List.mem_map.2 ⟨e, he, h5⟩
  have hTl : ∀ y, (succs E lab y).length ≤ E.length := fun y => by
    have h1 := succs_len E lab y
    have h2 : (tgt E lab y).length ≤ E.length := by unfold tgt; rw [List.length_map]; exact List.length_filter_le _ _
    omega
  have hord := ord_succs E lab
  have hNl : (E.map (·.t)).length = E.length := List.length_map _
  generalize E.map (·.t) = N at *
  generalize succs E lab = T at *
  refine ⟨some m, rfl, fun w7 k8 s7 h8 k11 w12 s12 b12 => ?_⟩
  have n8 := g_new1 s7
  have n11 := g_new1 s12
  have F12 := s7.fr.trans' s12.fr
  have z7 := s7.fr.size
  have b12 : Blk w12 k11 [I64 a] := b12
  refine ⟨fun mm p k c w' => ∃ (L : List EnW) (kk : Nat) (ls : List (Int × Value)), Bfs T a L kk 0 ∧ kk ≤ L.length ∧ mm = E.length + 2 - kk ∧ k = (L.drop kk).length ∧ OwnO w' w5.heap.size p (L.drop kk).length c ((L.drop kk).map fun e => I64 e.1) ∧ MapG kenc w' k8 ls ∧ AH a ls L ∧ b ∉ L.tail.map (·.1) ∧ Fr [] w5 w', E.length + 2,
    ⟨[(a, [a])], 0, [], Bfs.start T a, by simp, rfl, rfl, OwnO.of b12 (fun u hu => by rw [List.mem_singleton.1 hu]; rfl) (by omega), (MapG.new h8).fr s12.fr (by simp), ⟨by simp, fun q hq => (by cases hq), by simp⟩, by simp, F12⟩, ?_⟩
  rintro mm p18 k19 c20 w21 ⟨L, kk, ls, hB, hkk, rfl, rfl, o, M21, hA, hbn, F21⟩
  have hbound := hB.bound hTN
  refine bc (fun hpos => ?_) fun hnp => ?_
  · have hpos : (0 : Int) < ((L.drop kk).length : Int) := of_decide_eq_true hpos
    rw [List.length_drop] at hpos
    have hk : kk < L.length := by omega
    obtain ⟨e, he⟩ : ∃ e, L[kk]? = some e := ⟨_, List.getElem?_eq_getElem hk⟩
    have hdrop : ∀ (L : List EnW), L[kk]? = some e → L.drop kk = e :: L.drop (kk + 1) := fun L h => by
      obtain ⟨h1, h2⟩ := List.getElem?_eq_some_iff.1 h
      rw [List.drop_eq_getElem_cons h1, h2]
    obtain ⟨ad, hp⟩ := o.row.has (by rw [List.length_map, List.length_drop]; omega)
    have hcell : w21.cell? (ad.add 0) = some (I64 e.1) := o.row.get hp (by rw [hdrop L he]; rfl)
    obtain ⟨p26, c28, b29, lk, o26, _⟩ := X5.look e.1
    have r26 := o26.1.row
    refine ⟨ad, hp, ⟨by omega, by rw [List.length_drop]; omega⟩, e.1, hcell, l, M5.fr F21 (by simp), p26, _, c28, ⟨b29, lk⟩, ?_⟩
    refine ⟨fun mm p k c n w' => ∃ (j : Nat) (L : List EnW) (ls : List (Int × Value)), n = j ∧ j ≤ (T e.1).length ∧ mm = (T e.1).length - j ∧ Bfs T a L kk j ∧ L[kk]? = some e ∧ k = (L.drop kk).length ∧ OwnO w' w5.heap.size p (L.drop kk).length c ((L.drop kk).map fun e => I64 e.1) ∧ MapG kenc w' k8 ls ∧ AH a ls L ∧ b ∉ L.tail.map (·.1) ∧ Fr [] w5 w', (T e.1).length,
      ⟨0, L, ls, rfl, by omega, rfl, hB, he, rfl, o, M21, hA, hbn, F21⟩, ?_⟩
    rintro mm p33 k34 c35 n w37 ⟨j, L, ls, rfl, hj, rfl, hB, he, rfl, o, M37, hA, hbn, F37⟩
    have hbound := hB.bound hTN
    have hk := (List.getElem?_eq_some_iff.1 he).1
    have hTe := hTl e.1
    refine bc (fun hlt => ?_) fun hge => ?_
    · have hlt : (j : Int) < ((T e.1).length : Int) := of_decide_eq_true hlt
      have hlt' : j < (T e.1).length := by omega
      intro y39 h39
      have hwrap : IntKind.wrap .i64 ((j : Int) + 1) = ((j + 1 : Nat) : Int) := by rw [wrapi (by omega) (by omega)]; simp
      refine rd I64 (r26.old F37) rfl hlt' hlt ⟨ls, M37, ?_⟩
      have hx : (T e.1)[j]? = some (T e.1)[j] := List.getElem?_eq_getElem hlt'
      generalize (T e.1)[j] = x at *
      obtain ⟨n50, b51, hlk, hiff⟩ := hA.look M37.nodup x
      refine ⟨n50, b51, hlk, bc (fun hb51 => ?_) fun hb51 => ⟨k8, ls, rfl, M37, fun w54 u54 k56 => ?_⟩⟩
      · exact h39 _ _ _ _ ⟨(T e.1).length - (j + 1), by omega, j + 1, L, ls, hwrap, by omega, rfl, hB.skip he hx (hiff.1 hb51), he, rfl, o, M37, hA, hbn, F37⟩
      · have hxn : x ∉ L.tail.map (·.1) := fun h => by rw [hiff.2 h] at hb51; cases hb51
        have hself := hB.self he hx hxn
        have hB' := hB.add he (hord _) hx hxn
        have hA' := hA.add M37.nodup (by intro e0; rw [e0] at hk; simp at hk) (List.mem_of_getElem? he) hself hxn
        have hbound' := hB'.bound hTN
        have he' : (L ++ [(x, e.2 ++ [x])])[kk]? = some e := by rw [List.getElem?_append_left hk]; exact he
        have ed : (L ++ [(x, e.2 ++ [x])]).drop kk = L.drop kk ++ [(x, e.2 ++ [x])] := List.drop_append_of_le_length (by omega)
        have k8b : w5.heap.size ≤ k8 := n8.1
        have F54 : Fr [] w5 w54 := F37.trans u54.fr (fun z hz => .inr (by rw [List.mem_singleton.1 hz]; exact k8b))
        have o54 : OwnO w54 w5.heap.size p33 (L.drop kk).length c35 ((L.drop kk).map fun e => I64 e.1) := o.fr u54.fr (fun ad hp => by
          obtain ⟨cs, hb⟩ := o.blk hp
          simpa using map_blk M37 hb)
        refine append_o (x := I64 x) o54 rfl (by rw [List.length_drop]; omega) F54.size fun w57 p58 c60 G57 o57 d57 => ?_
        have F57 : Fr [] w5 w57 := F54.trans G57 (fun z hz => by
          obtain ⟨ad, hp, rfl⟩ := (g_mem_pb _ _).1 hz
          exact .inr (o54.lt hp).1)
        have M57 : MapG kenc w57 k8 (updM ls x (I64 e.1)) := u54.map.fr G57 (fun hz => by
          obtain ⟨ad, hp, e0⟩ := (g_mem_pb _ _).1 hz
          obtain ⟨cs, hb⟩ := o54.blk hp
          exact map_blk u54.map hb e0)
        have o57' : OwnO w57 w5.heap.size p58 ((L ++ [(x, e.2 ++ [x])]).drop kk).length c60 (((L ++ [(x, e.2 ++ [x])]).drop kk).map fun e => I64 e.1) := by
          rw [ed, List.map_append, List.length_append]; exact o57
        have hlast : (x, e.2 ++ [x]) ∈ (L ++ [(x, e.2 ++ [x])]).tail := by
          rw [List.tail_append_of_ne_nil (by intro e0; rw [e0] at hk; simp at hk)]; simp
        have hheadL := hB'.head
        generalize hL' : L ++ [(x, e.2 ++ [x])] = L' at *
        generalize hls' : updM ls x (I64 e.1) = ls' at *
        have hlen' : (L.drop kk).length + 1 = (L'.drop kk).length := by rw [ed]; simp
        refine bc (fun hxb => ?_) fun hxb => ?_
        · have hxb : ¬ x = b := by simpa using hxb
          refine h39 _ _ _ _ ⟨(T e.1).length - (j + 1), by omega, j + 1, L', ls', hwrap, by omega, rfl, hB', he', hlen', o57', M57, hA', ?_, F57⟩
          rw [← hL', List.tail_append_of_ne_nil (by intro e0; rw [e0] at hk; simp at hk), List.map_append]
          simp only [List.map_cons, List.map_nil, List.mem_append, List.mem_singleton]
          rintro (h | h)
          · exact hbn h
          · exact hxb h.symm
        · have hxb : x = b := by simpa using hxb
          intro k61 w62 s62 b62
          have n61 := g_new1 s62
          have F62 := F57.trans' s62.fr
          have b62 : Blk w62 k61 [I64 b] := b62
          have o62 : OwnZ w62 w57.heap.size 1 (some ⟨k61, 0, none⟩) [b].length 1 ([b].map I64) := OwnZ.blk b62 rfl (fun u hu => by rw [List.mem_singleton.1 hu]; rfl) n61.1
          have hew := hB'.walk he'
          refine ⟨fun mm n p k c w' => ∃ (xs u : List Int), k = xs.length ∧ 1 ≤ xs.length ∧ OwnZ w' w57.heap.size 1 p xs.length c (xs.map I64) ∧ e.2 ++ [x] = u ++ xs.reverse ∧ (n, u) ∈ L' ∧ (n = a → u = [a]) ∧ mm = u.length ∧ MapG kenc w' k8 ls' ∧ Fr [] w57 w' ∧ xs.length + mm ≤ 200000, e.2.length,
            ⟨[b], e.2, rfl, by simp, o62, by rw [hxb]; rfl, List.mem_of_getElem? he', hself, rfl, M57.fr s62.fr (by simp), s62.fr, ?_⟩, ?_⟩
          · have h1 := hB.len he; have h2 : [b].length = 1 := rfl; omega
          rintro mm n68 p69 k70 c71 w72 ⟨xs, u, rfl, hxs1, o72, hu, hmem, hna, rfl, M72, F72, hbig⟩
          have F72' := F57.trans' F72
          refine bc (fun hne => ?_) fun heq => ?_
          · have hne : ¬ n68 = a := by simpa using hne
            obtain ⟨L0, eL0⟩ := hB'.first
            have hmt : (n68, u) ∈ L'.tail := by
              rw [eL0] at hmem ⊢
              rcases List.mem_cons.1 hmem with h | h
              · injection h with h _; exact absurd h hne
              · exact h
            obtain ⟨pp, hpp, hlk2, hu2, hpa⟩ := hA'.par _ hmt
            have hu2 : u = pp.2 ++ [n68] := hu2
            have hul : u.length = pp.2.length + 1 := by rw [hu2]; simp
            intro k74
            refine appM1 (C := I64) (fun _ => rfl) (x := n68) (u := w57) (B := w57.heap.size) o72 F72 rfl (Nat.le_refl _) F72.size (fun h => by cases h) (by simp) (fun ad hp x hx => .inl hx) (by omega) (by omega) fun w75 p76 c78 F75 G75 n75 o75 d75 => ?_
            rw [List.nil_append] at G75
            have M75 := M72.fr G75 (fun hz => by
              obtain ⟨ad, hp, e0⟩ := (g_mem_pb _ _).1 hz
              obtain ⟨cs, hb⟩ := ownZ_blk o72 hp
              exact map_blk M72 hb e0)
            refine ⟨ls', M75, pp.1, ⟨true, .inl ⟨rfl, hlk2⟩⟩, pp.2.length, by omega, xs ++ [n68], pp.2, rfl, by simp, o75, ?_, hpp, hpa, rfl, M75, F75, by simp; omega⟩
            rw [hu, hu2]; simp
          · have heq : n68 = a := by simpa using heq
            have hua := hna heq
            have hway : e.2 ++ [x] = (xs ++ [a]).reverse := by rw [hu, hua]; simp
            intro k83
            refine append_z (B := w57.heap.size) (ys := xs.map I64) (xs := [I64 a]) o72 rfl (fun u hu => by rw [List.mem_singleton.1 hu]; rfl) F72.size rfl (fun h => by cases h) (by simp) (fun ad hp hpr' => hpr') (by omega) (by omega) fun w84 p85 c87 G84 n84 o84 d84 => ?_
            rw [List.nil_append] at G84
            obtain ⟨b85, rfl, zs, hb85⟩ : ∃ b, p85 = some ⟨b, 0, none⟩ ∧ ∃ zs, Blk w84 b ((xs ++ [a]).map I64 ++ zs) := by
              obtain ⟨_, hcc, _, h4⟩ := o84
              rcases h4 with ⟨_, e4⟩ | ⟨b, zs, rfl, hB, hb, _⟩
              · omega
              · exact ⟨b, rfl, zs, by simpa using hb⟩
            have hlow : w57.heap.size ≤ b85 := (o84.lt rfl).1
            have hk83 : k83 ≠ b85 := fun e0 => by
              have nk := n84 k83 (by simp)
              rcases d84 _ rfl with h | ⟨_, h⟩
              · have := (o72.lt h).2; have h2 : (⟨b85, 0, none⟩ : Addr).block = b85 := rfl; rw [h2] at this; omega
              · exact h (by simp [e0])
            have hl2 : (xs ++ [a]).length = xs.length + 1 := by simp
            have F84 : Fr [] w5 w84 := F72'.trans G84 (fun z hz => by
              obtain ⟨ad, hp, rfl⟩ := (g_mem_pb _ _).1 hz
              exact .inr (by have := (o72.lt hp).1; have := F57.size; omega))
            rw [← hl2]
            refine (reverse_c hb85 (by omega)).mono ?_
            rintro e88 w89 ⟨rfl, f89, hb89⟩
            refine ⟨rfl, fun z hz => ?_, F5.trans' (F84.trans f89 (fun z hz => .inr (by rw [List.mem_singleton.1 hz]; have := F57.size; omega))), .inr ⟨hgood, .inr ⟨e.2 ++ [x], b85, c87, zs, ?_, by have h1 := hB.len he; rw [List.length_append, List.length_singleton]; omega, ?_, ?_, ?_⟩⟩⟩
            · rw [List.mem_singleton.1 hz]
              exact f89.blk k83 (n84 k83 (by simp)).2 (by simpa using hk83)
            · have hp := hB'.par _ hlast
              rw [← hxb]
              exact ⟨hp.1, hp.2.1, hB'.min _ hlast⟩
            · rw [hway, List.length_reverse]
            · rw [hway]; exact hb89
            · have := F57.size; have := F5.size; omega
    · have hge : ¬ (j : Int) < ((T e.1).length : Int) := of_decide_eq_false hge
      have hd := hdrop L he
      have hlen : (L.drop kk).length = (L.drop (kk + 1)).length + 1 := by rw [hd]; rfl
      have hoo := o
      rw [hd, List.map_cons, List.length_cons] at hoo
      refine ⟨⟨by omega, by omega, by have := o.2.1; omega⟩, E.length + 2 - (kk + 1), by omega, L, kk + 1, ls, hB.next he (by omega), by omega, rfl, by omega, ?_, M37, hA, hbn, F37⟩
      exact hoo.tail
  · have hnp : ¬ (0 : Int) < ((L.drop kk).length : Int) := of_decide_eq_false hnp
    rw [List.length_drop] at hnp
    have : kk = L.length := by omega
    subst this
    exact ⟨F5.trans' F21, .inr ⟨hgood, .inl ⟨hB.none hbn, rfl⟩⟩⟩
end Go.Proofs.Ytnplopiconabiaa.Span
