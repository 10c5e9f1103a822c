/- The locks: an ask that is put into a queue (slices.Insert). -/
import Derived.Test.YtnimejocaaekaaaQ2
import Derived.Lib.Overlaps
namespace Go.Proofs.Ytnimejocaaekaaa.Lock
open Go Go.V
open Go.Proofs.Ytnimejocaaekaaa.VC
open Go.Proofs.Try (prog)
set_option linter.unusedVariables false
set_option linter.unusedSimpArgs false
set_option maxRecDepth 20000

theorem overlaps_run {P : Program} (w : World) (tS tR e : TypeId) (ht : P.underlying tS = some (.slice e)) (size : Nat) (hz : ∀ w, (Go.sizeOf e).run P w = .ok size w)
    (a b : Addr) (la ca lb cb : Nat) (hne : a.block ≠ b.block) (tA tB : TypeId) (kA kB : Nat) (hsa : w.shape? a.block = some (tA, kA + 1)) (hsb : w.shape? b.block = some (tB, kB + 1)) (hfb : w.frozen? b = false) (hfe : w.frozen? { block := b.block, off := kB + 1 } = false) :
    (Extern.SlicesOverlaps.overlaps #[tS, tS] #[tR] #[.slice (some a) la ca, .slice (some b) lb cb]).run P w = .ok (.bool false) w := by
  have hnb : (a.block != b.block) = true := by simpa using hne
  have hnb' : (a.block == b.block) = false := by simpa using hne
  change Sem.run P (α := Value) (do
    let some t := (#[tS, tS] : Array TypeId)[0]? | stuck "slices.overlaps: no parameter types"
    let .slice elem ← underlying t | stuck "slices.overlaps: slice type expected"
    let size ← sizeOf elem
    match (some a : Option Addr), (some b : Option Addr) with
    | some a, some b =>
      if la = 0 ∨ lb = 0 ∨ size = 0 then pure (Value.bool false)
      else if a.block != b.block && (← frozen a) && (← frozen b) then unsupported .addressObserved
      else do
        if a.block != b.block then do
          noView a; noView b
          if ← mayBeOne a b then return Value.bool ((← choose (.extern "sameAddr.stringBytes" 2)) == 1)
        pure (Value.bool (a.block == b.block && a.off < b.off + lb * size && b.off < a.off + la * size))
    | _, _ => pure (Value.bool false)) w = _
  by_cases h0 : la = 0 ∨ lb = 0 ∨ size = 0
  · simp [run_underlying ht, hz, h0]
  · cases hfa : w.frozen? a <;> cases hfz : w.frozen? { block := a.block, off := kA + 1 } <;>
      simp [run_underlying ht, hz, h0, hnb, hnb', frozen, noView, viewAt, mayBeOne, stringish, shape, Sem.run, hsa, hsb, hfb, hfe, hfa, hfz]

theorem overlaps_c {w : World} {ka kb oa ob : Nat} {x : Value} {csA csB : List Value} (ha : Blk w ka (x :: csA)) (hb : Blk w kb csB) (hl : 0 < csB.length) (hp : Plain w kb) (hne : ka ≠ kb) (la ca lb cb : Nat) :
    (callFunc 43 #[.slice (some ⟨ka, oa, none⟩) la ca, .slice (some ⟨kb, ob, none⟩) lb cb]).run prog w = .ok (.value (.bool false)) w := by
  obtain ⟨TA, loA, hiA, hA, _⟩ := ha
  obtain ⟨TB, loB, hiB, hB, _⟩ := hb
  have hle := hp _ _ _ _ hB
  have hfr : ∀ o, w.frozen? ⟨kb, o, none⟩ = false := fun o => by
    unfold World.frozen?
    simp only [hB]
    simp; omega
  rw [run_callFunc_extern Go.Proofs.Try.func43 (by kernel_rfl) (by kernel_rfl) (by kernel_rfl) (e := Extern.SlicesOverlaps.overlaps #[66, 66] #[4]) (by kernel_rfl),
    overlaps_run w 66 4 64 Go.Proofs.Try.underlying66 2 (fun w => Go.Proofs.Try.sizeOf64 w) ⟨ka, oa, none⟩ ⟨kb, ob, none⟩ la ca lb cb hne TA TB csA.length (csB.length - 1) (by unfold World.shape?; simp only [hA]; simp) (by unfold World.shape?; simp only [hB]; simp; omega) (hfr _) (hfr _)]
  rfl
theorem append_q {v : World} {p : Option Addr} {l c : Nat} {ys xs : List Value} {K : World → Option Addr → Nat → Nat → Prop} (h : OwnQ v p l c ys) (hn : xs.length = 2) (hx : ∀ u ∈ xs, u.oneCell' = true) (hb : l + 1 ≤ 1000000)
    (hK : ∀ w' p' c', Fr (pb p) v w' → OwnQ w' p' (l + 1) c' (ys ++ xs) → (∀ ad, p' = some ad → ad.block ∈ pb p ∨ v.heap.size ≤ ad.block) → K w' p' (l + 1) c') : appendP true [] [] [] v p l c 1 xs 2 16 [I64 0, .bool false] K := by
  have hrow := h.row
  obtain ⟨h1, h2, h3, h4⟩ := h
  have h3' : ∀ u ∈ ys ++ xs, u.oneCell' = true := fun u hu => by
    rcases List.mem_append.1 hu with hu | hu
    · exact h3 u hu
    · exact hx u hu
  have hlen : (ys ++ xs).length = (l + 1) * 2 := by rw [List.length_append]; omega
  refine ⟨by omega, by omega, fun hc => ?_, fun hc => ⟨ys, h1, hrow, fun b _ => by simp, fun w b cap st hcap hbk hpl => hK w _ cap (st.fr.mono (fun x hx => by cases hx)) ⟨hlen, hcap, h3', .inr ⟨b, [], _, rfl, hbk, hpl, ?_⟩⟩ (fun ad hp => ?_)⟩⟩
  · rcases h4 with ⟨_, rfl⟩ | ⟨b, A, zs, rfl, hbk, hpl, hcz⟩
    · omega
    · rw [List.length_append] at hcz
      obtain ⟨z1, z2, zs', rfl⟩ : ∃ z1 z2 zs', zs = z1 :: z2 :: zs' := by
        match zs, hcz with
        | [], h => simp at h; omega
        | [_], h => simp at h; omega
        | z1 :: z2 :: zs', _ => exact ⟨z1, z2, zs', rfl⟩
      refine .inr ⟨⟨b, A.length, none⟩, _, rfl, rfl, hbk, ?_, by simp, fun w' hu => ?_⟩
      · simp only [List.length_append, List.length_cons, hn, h1]; omega
      · have e : sets (A ++ ys ++ z1 :: z2 :: zs') (A.length + l * 2) xs = (A ++ ys) ++ xs ++ zs' := by
          rw [← h1, ← List.length_append]
          have := sets_mid (A ++ ys) [z1, z2] xs zs' (by rw [hn]; rfl)
          simpa using this
        have hu : Upd v w' b (sets (A ++ ys ++ z1 :: z2 :: zs') (A.length + l * 2) xs) := hu
        rw [e] at hu
        refine hK w' _ c (hu.fr.mono (fun x hx => .inl hx)) ⟨hlen, hc, h3', .inr ⟨b, A, zs', rfl, by have := hu.blk; rw [List.append_assoc A] at this; exact this, hu.pl hpl, ?_⟩⟩ (fun ad hp => .inl (by injection hp with hp; subst hp; simp [pb]))
        simp only [List.length_append, List.length_cons] at hcz ⊢
        omega
  · simp only [List.length_append, reps_length, List.length_cons, List.length_nil, h1, hn]; omega
  · injection hp with hp; subst hp
    exact .inr (st.new b List.mem_cons_self).1

theorem subA_zero (p : Option Addr) (c : Nat) : subA p 0 c 2 = p := by
  unfold subA
  split
  · rfl
  · cases p <;> simp [add0]

theorem row_pre {w : World} {p : Option Addr} {xs ys : List Value} (h : Row w p (xs ++ ys)) : Row w p xs :=
  ⟨fun j u hj => h.1 j u (by rw [List.getElem?_append_left (List.getElem?_eq_some_iff.1 hj).1]; exact hj), fun u hu => h.2 u (List.mem_append_left _ hu)⟩
theorem OwnQ.sub {w : World} {p : Option Addr} {l c i : Nat} {xs ys : List Value} (h : OwnQ w p l c (xs ++ ys)) (hi : xs.length = i * 2) (hc : c ≠ i) : Row w (subA p i c 2) ys := by
  obtain ⟨h1, h2, h3, ⟨rfl, rfl⟩ | ⟨b, A, zs, rfl, hb, hp, hl⟩⟩ := h
  · have : ys = [] := List.length_eq_zero_iff.1 (by rw [List.length_append] at h1; omega)
    subst this; exact Row.nil _ _
  · have e : subA (some ⟨b, A.length, none⟩) i c 2 = some ⟨b, A.length + i * 2, none⟩ := by simp [subA, hc, add_mk]
    rw [e]
    exact Row.of_blk hb (fun j u hj => by
      have hlt := (List.getElem?_eq_some_iff.1 hj).1
      rw [show A ++ (xs ++ ys) ++ zs = (A ++ xs) ++ (ys ++ zs) by simp [List.append_assoc], List.getElem?_append_right (by rw [List.length_append]; omega), List.length_append, hi, Nat.add_sub_cancel_left, List.getElem?_append_left hlt]; exact hj) (fun u hu => h3 u (List.mem_append_right _ hu))
theorem q_split (q : List AskM) (i : Nat) : qcells q = qcells (q.take i) ++ qcells (q.drop i) := by rw [← qcells_app, List.take_append_drop]

/-- An ask is put into a queue. -/
theorem insert_c {w : World} {p : Option Addr} {c : Nat} {q : List AskM} {kv : Nat} {a : AskM} (h : OwnQ w p q.length c (qcells q)) (hv : Blk w kv [I64 a.1, .bool a.2]) (hne : ∀ ad, p = some ad → ad.block ≠ kv) {i : Nat} (hi : i ≤ q.length) (hl : q.length + 1 ≤ 1000000) :
    Calls prog 26 #[.slice p q.length c, I64 (i : Int), .slice (some ⟨kv, 0, none⟩) 1 1] w fun e w' => ∃ p' c', e = .returned (.slice p' (q.length + 1) c') ∧ Fr (pb p) w w' ∧ (∀ ad, p' = some ad → ad.block ∈ pb p ∨ w.heap.size ≤ ad.block) ∧ OwnQ w' p' (q.length + 1) c' (qcells (q.take i ++ [a] ++ q.drop i)) := by
  have rv : Row w (some ⟨kv, 0, none⟩) [I64 a.1, .bool a.2] := Row.all hv (qcells_one [a])
  have e1 : IntKind.wrap .i64 ((q.length : Int) + ((1 : Nat) : Int)) = ((q.length + 1 : Nat) : Int) := by rw [wrapi (by omega) (by omega)]; omega
  have e2 : IntKind.wrap .i64 ((i : Int) + ((1 : Nat) : Int)) = ((i + 1 : Nat) : Int) := by rw [wrapi (by omega) (by omega)]; omega
  have e3 : IntKind.wrap .i64 (((q.length + 1 : Nat) : Int) - (i : Int)) = ((q.length + 1 - i : Nat) : Int) := by rw [wrapi (by omega) (by omega)]; omega
  have hcl := h.2.1
  refine slices_Insert_g.link ?_
  unfold slices_Insert_g.vc
  simp only [e1, e2, e3, Int.toNat_natCast, Nat.sub_zero, subA_zero]
  refine ⟨⟨by omega, by omega, by omega⟩, bF (by decide) (bc (fun hin => ?_) fun hin => bc (fun hcn => ?_) fun hcn => ?_)⟩
  · have hin : (i : Int) = (q.length : Int) := of_decide_eq_true hin
    obtain rfl : i = q.length := by omega
    refine ⟨_, rfl, rv, append_q h rfl (qcells_one [a]) hl fun w' p' c' f' o' d' => ⟨p', c', rfl, f', d', ?_⟩⟩
    rw [List.take_length, List.drop_length, List.append_nil, qcells_app]
    exact o'
  · have hin : ¬ (i : Int) = (q.length : Int) := of_decide_eq_false hin
    have hcn : (c : Int) < ((q.length + 1 : Nat) : Int) := of_decide_eq_true hcn
    have hT : (qcells (q.take i)).length = i * 2 := by rw [qcells_len, List.length_take]; omega
    have hDr : (qcells (q.drop i)).length = (q.length - i) * 2 := by rw [qcells_len, List.length_drop]
    have ek : i + (q.length + 1 - i) = q.length + 1 := by omega
    have rT : Row w p (qcells (q.take i)) := row_pre (by rw [← q_split]; exact h.row)
    refine ⟨⟨by omega, by omega, by omega⟩, ⟨by omega, by omega, by omega⟩, ⟨by omega, by omega, fun hc => absurd hc (by omega), fun hc => ⟨qcells (q.take i), hT, rT, fun b _ => by simp, fun w6 b cap st hcap hbk hpl => ?_⟩⟩⟩
    rw [ek] at hcap hbk ⊢
    have hbn := (st.new b List.mem_cons_self).1
    have hkv := hv.lt
    have hZ : (reps [I64 0, .bool false] (q.length + 1 - i)).length = (q.length + 1 - i) * 2 := by rw [reps_length]; rfl
    obtain ⟨z1, z2, Z, hZe⟩ : ∃ z1 z2 Z, reps [I64 0, .bool false] (q.length + 1 - i) = z1 :: z2 :: Z := by
      match reps [I64 0, .bool false] (q.length + 1 - i), hZ with
      | [], h => simp at h; omega
      | [_], h => simp at h; omega
      | z1 :: z2 :: Z, _ => exact ⟨z1, z2, Z, rfl⟩
    rw [hZe] at hZ
    simp only [List.length_cons] at hZ
    have hbk : Blk w6 b (qcells (q.take i) ++ reps [I64 0, .bool false] (q.length + 1 - i) ++ reps [I64 0, .bool false] (cap - (q.length + 1))) := hbk
    rw [hZe] at hbk
    generalize hE : reps [I64 0, .bool false] (cap - (q.length + 1)) = E at hbk
    have hEl : E.length = (cap - (q.length + 1)) * 2 := by rw [← hE, reps_length]; rfl
    have c1 : ¬ cap = i := by omega
    have c2 : ¬ cap = i + 1 := by omega
    have c3 : c ≠ i := by omega
    refine ⟨⟨by omega, by omega, by omega⟩, [I64 a.1, .bool a.2], by rw [Nat.min_eq_left (by omega)]; rfl, g_row st.fr rv (fun ad _ _ => by simp), fun b _ => by simp, .inr ⟨⟨b, 0 + i * 2, none⟩, _, by simp [subA, c1, add_mk], rfl, hbk, ?_, by simp, fun w10 u10 => ?_⟩⟩
    · simp only [List.length_append, hT, List.length_cons, List.length_nil]; omega
    have s1 : sets (qcells (q.take i) ++ z1 :: z2 :: Z ++ E) (0 + i * 2) [I64 a.1, .bool a.2] = qcells (q.take i) ++ [I64 a.1, .bool a.2] ++ (Z ++ E) := by
      have := sets_mid (qcells (q.take i)) [z1, z2] [I64 a.1, .bool a.2] (Z ++ E) rfl
      rw [hT] at this
      simpa using this
    have u10 : Upd w6 w10 b (sets (qcells (q.take i) ++ z1 :: z2 :: Z ++ E) (0 + i * 2) [I64 a.1, .bool a.2]) := u10
    rw [s1] at u10
    have hpb : ∀ ad, p = some ad → ad.block ∉ [b] := fun ad hp hm => by
      have := h.lt hp; rw [List.mem_singleton.1 hm] at this; omega
    have o10 := (h.fr st.fr (fun ad _ => by simp)).fr u10.fr hpb
    rw [q_split q i] at o10
    refine ⟨⟨by omega, by omega, by omega⟩, ⟨by omega, by omega, by omega⟩, qcells (q.drop i), by rw [hDr, Nat.min_eq_left (by omega)], o10.sub hT c3, fun b _ => by simp, fun w11 st11 => .inr ⟨⟨b, 0 + (i + 1) * 2, none⟩, _, by simp [subA, c2, add_mk], rfl, u10.blk.fr st11.fr (by simp), ?_, by simp, fun w12 u12 => ?_⟩⟩
    · simp only [List.length_append, hT, hDr, List.length_cons, List.length_nil]; omega
    have s2 : sets (qcells (q.take i) ++ [I64 a.1, .bool a.2] ++ (Z ++ E)) (0 + (i + 1) * 2) (qcells (q.drop i)) = qcells (q.take i) ++ [I64 a.1, .bool a.2] ++ qcells (q.drop i) ++ E := by
      have := sets_mid (qcells (q.take i) ++ [I64 a.1, .bool a.2]) Z (qcells (q.drop i)) E (by rw [hDr]; omega)
      rw [List.length_append, hT] at this
      rw [show 0 + (i + 1) * 2 = i * 2 + [I64 a.1, Value.bool a.2].length by simp; omega, ← this]
      simp [List.append_assoc]
    have u12 : Upd w11 w12 b (sets (qcells (q.take i) ++ [I64 a.1, .bool a.2] ++ (Z ++ E)) (0 + (i + 1) * 2) (qcells (q.drop i))) := u12
    rw [s2] at u12
    have F12 : Fr [] w w12 := ((st.fr.trans u10.fr (fun x hx => .inr (by rw [List.mem_singleton.1 hx]; exact hbn))).trans' st11.fr).trans u12.fr (fun x hx => .inr (by rw [List.mem_singleton.1 hx]; exact hbn))
    refine ⟨some ⟨b, 0, none⟩, cap, rfl, F12.mono (fun x hx => by cases hx), fun ad hp => .inr (by injection hp with hp; subst hp; exact hbn), ?_⟩
    have hx : qcells (q.take i ++ [a] ++ q.drop i) = qcells (q.take i) ++ [I64 a.1, .bool a.2] ++ qcells (q.drop i) := by rw [qcells_app, qcells_app]; rfl
    have hlq : (qcells (q.take i ++ [a] ++ q.drop i)).length = (q.length + 1) * 2 := by
      rw [hx]; simp only [List.length_append, hT, hDr, List.length_cons, List.length_nil]; omega
    refine ⟨hlq, hcap, qcells_one _, .inr ⟨b, [], E, rfl, by rw [hx]; exact u12.blk, u12.pl ?_, by rw [List.length_append, hlq, hEl]; omega⟩⟩
    intro cs T lo hi' e
    rw [st11.fr.blk b u10.blk.lt (by simp)] at e
    exact u10.pl hpl _ _ _ _ e
  · have hin : ¬ (i : Int) = (q.length : Int) := of_decide_eq_false hin
    have hcn : ¬ (c : Int) < ((q.length + 1 : Nat) : Int) := of_decide_eq_false hcn
    have hT : (qcells (q.take i)).length = i * 2 := by rw [qcells_len, List.length_take]; omega
    have hDr : (qcells (q.drop i)).length = (q.length - i) * 2 := by rw [qcells_len, List.length_drop]
    have c1 : c ≠ i := by omega
    have c2 : ¬ c = i + 1 := by omega
    have h' := h
    obtain ⟨_, _, _, hv4⟩ := h'
    rcases hv4 with ⟨_, rfl⟩ | ⟨b, A, zs, rfl, hbk, hpl, hcz⟩
    · omega
    have hnb : kv ≠ b := fun e => hne _ rfl e.symm
    rw [List.length_append, qcells_len] at hcz
    obtain ⟨z1, z2, zs', rfl⟩ : ∃ z1 z2 zs', zs = z1 :: z2 :: zs' := by
      match zs, hcz with
      | [], h => simp at h; omega
      | [_], h => simp at h; omega
      | z1 :: z2 :: zs', _ => exact ⟨z1, z2, zs', rfl⟩
    have eA : subA (some ⟨b, A.length, none⟩) i c 2 = some ⟨b, A.length + i * 2, none⟩ := by simp [subA, c1, add_mk]
    have eB : subA (some ⟨b, A.length, none⟩) (i + 1) c 2 = some ⟨b, A.length + (i + 1) * 2, none⟩ := by simp [subA, c2, add_mk]
    have hov := fun la ca lb cb => overlaps_c (oa := 0) (ob := A.length + (i + 1) * 2) hv hbk (by simp only [List.length_append, List.length_cons]; omega) hpl hnb la ca lb cb
    rw [eA, eB]
    refine ⟨⟨by omega, by omega, by omega⟩, ⟨by omega, by omega, by omega⟩, false, w, hov _ _ _ _, bT rfl ⟨⟨by omega, by omega, by omega⟩, ⟨by omega, by omega, by omega⟩, qcells (q.drop i), ?_, ?_, fun b _ => by simp, fun w15 st15 => .inr ⟨_, _, rfl, rfl, hbk.fr st15.fr (by simp), ?_, by simp, fun w16 u16 => ?_⟩⟩⟩
    · rw [hDr, Nat.min_def]; split <;> omega
    · rw [← eA]
      have := h
      rw [q_split q i] at this
      exact this.sub hT c1
    · simp only [List.length_append, hDr, qcells_len, List.length_cons]; omega
    have hq1 : ∃ x y, qcells q = qcells (q.take i) ++ [x, y] ++ qcells (q.drop (i + 1)) := by
      have hlt : i < q.length := by omega
      refine ⟨I64 q[i].1, .bool q[i].2, ?_⟩
      rw [q_split q i, List.drop_eq_getElem_cons hlt, qcells_cons]
      simp [List.append_assoc]
    obtain ⟨x, y, hq1⟩ := hq1
    have hD1 : (qcells (q.drop (i + 1))).length = (q.length - (i + 1)) * 2 := by rw [qcells_len, List.length_drop]
    have s1 : sets (A ++ qcells q ++ z1 :: z2 :: zs') (A.length + (i + 1) * 2) (qcells (q.drop i)) = A ++ qcells (q.take i) ++ [x, y] ++ (qcells (q.drop i) ++ zs') := by
      have := sets_mid (A ++ qcells (q.take i) ++ [x, y]) (qcells (q.drop (i + 1)) ++ [z1, z2]) (qcells (q.drop i)) zs' (by rw [List.length_append, hD1, hDr]; simp; omega)
      rw [show (A ++ qcells (q.take i) ++ [x, y]).length = A.length + (i + 1) * 2 by simp only [List.length_append, hT, List.length_cons, List.length_nil]; omega] at this
      rw [hq1]
      simpa [List.append_assoc] using this
    have u16 : Upd w15 w16 b (sets (A ++ qcells q ++ z1 :: z2 :: zs') (A.length + (i + 1) * 2) (qcells (q.drop i))) := u16
    rw [s1] at u16
    have rv16 : Row w16 (some ⟨kv, 0, none⟩) [I64 a.1, .bool a.2] := g_row u16.fr (g_row st15.fr rv (fun ad _ _ => by simp)) (fun ad hp _ hm => by injection hp with hp; subst hp; exact hnb (List.mem_singleton.1 hm))
    refine ⟨⟨by omega, by omega, by omega⟩, [I64 a.1, .bool a.2], by rw [Nat.min_eq_left (by omega)]; rfl, rv16, fun b _ => by simp, .inr ⟨_, _, rfl, rfl, u16.blk, ?_, by simp, fun w18 u18 => ?_⟩⟩
    · simp only [List.length_append, hT, List.length_cons, List.length_nil]; omega
    have s2 : sets (A ++ qcells (q.take i) ++ [x, y] ++ (qcells (q.drop i) ++ zs')) (A.length + i * 2) [I64 a.1, .bool a.2] = A ++ qcells (q.take i) ++ [I64 a.1, .bool a.2] ++ (qcells (q.drop i) ++ zs') := by
      have := sets_mid (A ++ qcells (q.take i)) [x, y] [I64 a.1, .bool a.2] (qcells (q.drop i) ++ zs') rfl
      rw [List.length_append, hT] at this
      exact this
    have u18 : Upd w16 w18 b (sets (A ++ qcells (q.take i) ++ [x, y] ++ (qcells (q.drop i) ++ zs')) (A.length + i * 2) [I64 a.1, .bool a.2]) := u18
    rw [s2] at u18
    have hx : qcells (q.take i ++ [a] ++ q.drop i) = qcells (q.take i) ++ [I64 a.1, .bool a.2] ++ qcells (q.drop i) := by rw [qcells_app, qcells_app]; rfl
    have hlq : (qcells (q.take i ++ [a] ++ q.drop i)).length = (q.length + 1) * 2 := by
      rw [hx]; simp only [List.length_append, hT, hDr, List.length_cons, List.length_nil]; omega
    have F18 : Fr [b] w w18 := ((st15.fr.mono (fun x hx => by cases hx)).trans' u16.fr).trans' u18.fr
    refine ⟨some ⟨b, A.length, none⟩, c, rfl, F18, fun ad hp => .inl (by injection hp with hp; subst hp; simp [pb]), hlq, by omega, qcells_one _, .inr ⟨b, A, zs', rfl, ?_, ?_, ?_⟩⟩
    · rw [hx]
      have := u18.blk
      simpa [List.append_assoc] using this
    · intro cs T lo hi' e
      refine u18.pl (u16.pl ?_) _ _ _ _ e
      intro cs T lo hi' e
      rw [st15.fr.blk b hbk.lt (by simp)] at e
      exact hpl _ _ _ _ e
    · rw [List.length_append, hlq]
      simp only [List.length_cons] at hcz
      omega
end Go.Proofs.Ytnimejocaaekaaa.Lock
