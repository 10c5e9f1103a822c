/- Span: Pairs. -/
import Derived.Test.YtnplopiconabiaaS7
import Derived.Test.YtnplopiconabiaaC3
namespace Go.Proofs.Ytnplopiconabiaa.Span
open Go Go.V
open Go.Proofs.Ytnplopiconabiaa.VC
open Go.Proofs.Try (prog)
set_option linter.unusedVariables false
set_option linter.unusedSimpArgs false
set_option maxRecDepth 20000

theorem sum_add (f g : Int → Nat) : ∀ ks : List Int, (ks.map fun n => f n + g n).sum = (ks.map f).sum + (ks.map g).sum
  | [] => rfl
  | k :: ks => by
    have := sum_add f g ks
    simp only [List.map_cons, List.sum_cons, this]; omega
theorem sum_one (c : Prop) [Decidable c] (a : Int) : ∀ ks : List Int, ks.Nodup → (ks.map fun n => if c ∧ a = n then 1 else 0).sum ≤ 1
  | [], _ => by simp
  | k :: ks, h => by
    rw [List.nodup_cons] at h
    have ih := sum_one c a ks h.2
    rw [List.map_cons, List.sum_cons]
    by_cases e : c ∧ a = k
    · rw [if_pos e]
      have : (ks.map fun n => if c ∧ a = n then 1 else 0).sum = 0 := by
        have : (ks.map fun n => if c ∧ a = n then 1 else 0) = ks.map fun _ => 0 := List.map_congr_left fun n hn => if_neg fun h2 => h.1 (by rw [← e.2, h2.2]; exact hn)
        rw [this]
        clear this ih h
        induction ks with
        | nil => rfl
        | cons x ks ih => simpa using ih
      omega
    · rw [if_neg e]; omega
theorem tgt_sum (lab : ByteArray) (ks : List Int) (hk : ks.Nodup) : ∀ E : List EG, (ks.map fun n => (tgt E lab n).length).sum ≤ E.length
  | [] => by
    have : (ks.map fun n => (tgt [] lab n).length) = ks.map fun _ => 0 := rfl
    rw [this]
    clear this hk
    induction ks with
    | nil => simp
    | cons x ks ih => simpa using ih
  | e :: E => by
    have ih := tgt_sum lab ks hk E
    have e1 : (ks.map fun n => (tgt (e :: E) lab n).length) = ks.map fun n => (tgt E lab n).length + if e.l = lab ∧ e.f = n then 1 else 0 := List.map_congr_left fun n _ => by
      unfold tgt
      rw [List.filter_cons]
      by_cases h : e.l = lab ∧ e.f = n
      · rw [if_pos (by simp [h]), if_pos h]; simp
      · rw [if_neg (by simpa using h), if_neg h]; simp
    rw [e1, sum_add]
    have := sum_one (e.l = lab) e.f ks hk
    rw [List.length_cons]; omega
theorem succs_len (E : List EG) (lab : ByteArray) (n : Int) : (succs E lab n).length ≤ (tgt E lab n).length := by
  unfold succs
  exact Nat.le_trans (comp_len _) (Nat.le_of_eq (sortI_perm _).length_eq)
theorem sum_le (f g : Int → Nat) (h : ∀ n, f n ≤ g n) : ∀ ks : List Int, (ks.map f).sum ≤ (ks.map g).sum
  | [] => by simp
  | k :: ks => by
    have := sum_le f g h ks
    have := h k
    simp only [List.map_cons, List.sum_cons]; omega
theorem total_le {E : List EG} {lab : ByteArray} {l : List (Int × Value)} (hn : (l.map (·.1)).Nodup) : total (succs E lab) l ≤ E.length := by
  have e : total (succs E lab) l = ((l.map (·.1)).map fun n => (succs E lab n).length).sum := by unfold total; rw [List.map_map]; rfl
  rw [e]
  exact Nat.le_trans (sum_le _ _ (succs_len E lab) _) (tgt_sum lab _ hn E)
theorem total_one {T : Int → List Int} : ∀ {l : List (Int × Value)} {n : Int}, n ∈ l.map (·.1) → (T n).length ≤ total T l
  | e :: l, n, h => by
    unfold total
    rw [List.map_cons, List.sum_cons]
    rcases List.mem_cons.1 h with h | h
    · have h : n = e.1 := h
      rw [h]; omega
    · have := total_one (T := T) h
      unfold total at this; omega
theorem mem_tgt {E : List EG} {lab : ByteArray} {n x : Int} : x ∈ tgt E lab n ↔ ∃ e ∈ E, e.l = lab ∧ e.f = n ∧ e.t = x := by
  unfold tgt
  rw [List.mem_map]
  constructor
  · rintro ⟨e, he, rfl⟩
    obtain ⟨h1, h2⟩ := List.mem_filter.1 he
    simp at h2
    exact ⟨e, h1, h2.1, h2.2, rfl⟩
  · rintro ⟨e, he, h1, h2, rfl⟩
    exact ⟨e, List.mem_filter.2 ⟨he, by simp [h1, h2]⟩, rfl⟩
theorem mem_succs {E : List EG} {lab : ByteArray} {n x : Int} : x ∈ succs E lab n ↔ ∃ e ∈ E, e.l = lab ∧ e.f = n ∧ e.t = x := by
  unfold succs
  rw [(comp_spec (sortI_le _)).2, (sortI_perm _).mem_iff, mem_tgt]
theorem K_lt {l : List Int} (hn : l.Nodup) : (sortI l).Pairwise (· < ·) := by
  have p2 : (sortI l).Pairwise (fun a b => a ≠ b) := (sortI_perm l).nodup_iff.2 hn
  exact ((sortI_le l).and p2).imp (fun h => by have h1 := h.1; have h2 := h.2; omega)
theorem iter_map_blk {w : World} {r m b : Nat} {l : List (Int × Value)} {d : List Int} {cs : List Value} (h : IterO kenc w r (some m) l d) (hb : Blk w b cs) : b ≠ m := fun e => by
  obtain ⟨es, clock, since, seen, last, hr, hm, _⟩ := h
  obtain ⟨T, lo, hi, hb, _⟩ := hb
  rw [e, hm] at hb; injection hb with hb; cases hb
theorem ownZ_blk {w : World} {B sz l c : Nat} {p : Option Addr} {xs : List Value} (h : OwnZ w B sz p l c xs) {ad : Addr} (hp : p = some ad) : ∃ cs, Blk w ad.block cs := by
  obtain ⟨_, _, _, h4⟩ := h
  rcases h4 with ⟨e4, _⟩ | ⟨b, zs, e4, _, hb, _⟩
  · rw [e4] at hp; cases hp
  · rw [e4] at hp; injection hp with hp; subst hp; exact ⟨_, hb⟩
/-- What Pairs answers. -/
def PairsSaid (T : Int → List Int) (good : Bool) (w : World) (e : Ending) (w' : World) : Prop :=
  (good = false ∧ e = .returned (.tuple #[.slice none 0 0, I64 1])) ∨
  (good = true ∧ ((∃ X : List PI, X.Nodup ∧ 4000 < X.length ∧ (∀ x ∈ X, Reach T x.1 x.2) ∧ e = .returned (.tuple #[.slice none 0 0, I64 5])) ∨
    ∃ (b : Nat) (Z : List (Nat × PI)), e = .returned (.tuple #[.slice (some ⟨b, 0, none⟩) Z.length Z.length, I64 0]) ∧ (Z.map (·.2)).Pairwise plt ∧ (∀ x, x ∈ Z.map (·.2) ↔ Reach T x.1 x.2) ∧ Z.length ≤ 4000 ∧ (∃ c, OwnP w' w.heap.size 1 (some ⟨b, 0, none⟩) Z.length c (Z.map tz)) ∧ Tups w' Z ∧ (∀ z ∈ Z, w.heap.size ≤ z.1) ∧ ∀ z ∈ Z, z.1 ≠ b))

set_option maxHeartbeats 1000000 in
theorem pairs_c {w : World} {lab : ByteArray} {eA : Option Addr} {eC : Nat} {E : List EG} (hE : Row w eA (E.flatMap gcell)) (hl : E.length ≤ 50000) (hR : ∀ e ∈ E, inR e.f) :
    Calls prog 15 #[.string lab, .slice eA E.length eC] w fun e w' => Fr [] w w' ∧ PairsSaid (succs E lab) (isName lab) w e w' := by
  refine span_Pairs.link ((bad_c w lab).mono ?_)
  rintro e1 w2 ⟨rfl, f2⟩
  refine ⟨_, rfl, bc (fun hb => ⟨f2, .inl ⟨by simpa using hb, rfl⟩⟩) fun hb => ?_⟩
  have hgood : isName lab = true := by simpa using hb
  refine (next_c (hE.old f2) (by omega)).mono ?_
  rintro e4 w5 ⟨f5, m, l, rfl, M5, X5, hm⟩
  have F5 := f2.trans' f5
  have hnd := M5.nodup
  have htot : total (succs E lab) l ≤ E.length := total_le hnd
  have hone : ∀ n, (succs E lab n).length ≤ total (succs E lab) l := fun n => by
    cases h : succs E lab n with
    | nil => simp
    | cons a r => rw [← h]; exact total_one (X5.all n (by rw [h]; simp))
  have hkeys : ∀ p ∈ l, inR p.1 := fun p hp => by
    obtain ⟨_, _, _, _, h3⟩ := X5.ent p hp
    obtain ⟨x, r, h4⟩ := List.exists_cons_of_ne_nil h3
    obtain ⟨e, he, _, h5, _⟩ := mem_succs.1 (show x ∈ succs E lab p.1 by rw [h4]; simp)
    rw [← h5]; exact hR e he
  have hll : l.length ≤ E.length := by
    -- each entry has some behind it
    have h2 : l.length ≤ total (succs E lab) l := by
      have h3 := fun e he => (X5.ent e he).elim fun p h => h.elim fun c h => h.2.2
      clear X5 hone hkeys htot hnd M5
      induction l with
      | nil => simp
      | cons e l ih =>
        have h4 := List.length_pos_iff.2 (h3 e (by simp))
        have := ih (fun e he => h3 e (List.mem_cons_of_mem _ he))
        unfold total at this ⊢
        rw [List.map_cons, List.sum_cons, List.length_cons]; omega
    omega
  refine ⟨some m, rfl, (keysE_c M5 hkeys (by omega)).mono ?_⟩
  rintro e7 w8 ⟨x9, rfl, f8, hc⟩
  refine ⟨x9, rfl, hc.mono ?_⟩
  rintro e10 w11 ⟨p12, c14, rfl, f11, r12, _⟩
  have hkl : l.length = (sortI (l.map (·.1))).length := by rw [(sortI_perm _).length_eq, List.length_map]
  have hKlt := K_lt hnd
  have hKm : ∀ a, a ∈ sortI (l.map (·.1)) ↔ a ∈ l.map (·.1) := fun a => (sortI_perm _).mem_iff
  have hKr : ∀ a b, Reach (succs E lab) a b → a ∈ sortI (l.map (·.1)) := fun a b hr => by
    rw [hKm]
    induction hr with
    | one hb => exact X5.all a (fun e => by rw [e] at hb; cases hb)
    | more _ _ ih => exact ih
  rw [hkl]
  generalize hT : succs E lab = T at *
  generalize sortI (l.map (·.1)) = K at *
  have z11 := f11.size
  refine ⟨p12, _, c14, rfl, fun mm p k c n w' => ∃ (i : Nat) (Z : List (Nat × PI)), n = i ∧ i ≤ K.length ∧ mm = K.length - i ∧ k = Z.length ∧ Z.length ≤ 4000 ∧ OwnZ w' w11.heap.size 1 p Z.length c (Z.map tz) ∧ Tups w' Z ∧ (∀ z ∈ Z, w.heap.size ≤ z.1) ∧ (∀ ad, p = some ad → ∀ z ∈ Z, z.1 ≠ ad.block) ∧ (Z.map (·.2)).Nodup ∧ (∀ x, x ∈ Z.map (·.2) ↔ x.1 ∈ K.take i ∧ Reach T x.1 x.2) ∧ Fr [] w5 w' ∧ w11.heap.size ≤ w'.heap.size ∧ Row w' p12 (K.map kenc), K.length,
    ⟨0, [], rfl, by omega, rfl, rfl, by simp, OwnZ.nil _ _ _, fun z hz => (by cases hz), by simp, by simp, by simp, by simp, f11, Nat.le_refl _, r12⟩, ?_⟩
  rintro mm p18 k19 c20 n w22 ⟨i, Z, rfl, hi, rfl, rfl, hZl, o, tu, zw, zb, znd, zm, F22, z22, r22⟩
  refine bc (fun hlt => ?_) fun hge => ?_
  · have hlt : (i : Int) < (K.length : Int) := of_decide_eq_true hlt
    have hlt' : i < K.length := by omega
    refine rd kenc r22 rfl hlt' hlt ((reached_c (M5.fr F22 (by simp)) (X5.fr F22 (fun _ _ _ => by simp)) (by omega) hone K[i]).mono ?_)
    rintro e26 w27 ⟨f27, k2, l2, rfl, M27, hk2, hreach, hvals⟩
    refine ⟨some k2, rfl, l2, M27, fun w30 k31 s30 it30 => ?_⟩
    have n31 := g_new1 s30
    have F30 := (F22.trans' f27).trans' s30.fr
    have z30 := (f27.trans' s30.fr).size
    have hKi : K[i] ∉ K.take i := fun hm => by
      obtain ⟨j, hj, e⟩ := List.mem_take_iff_getElem.1 hm
      have := (List.pairwise_iff_getElem.1 hKlt) j i (by omega) hlt' (by omega)
      omega
    refine ⟨fun mm p k c w' => ∃ (Z : List (Nat × PI)) (done : List Int), mm = rest l2 done ∧ k = Z.length ∧ Z.length ≤ 4000 ∧ OwnZ w' w11.heap.size 1 p Z.length c (Z.map tz) ∧ Tups w' Z ∧ (∀ z ∈ Z, w.heap.size ≤ z.1) ∧ (∀ ad, p = some ad → ∀ z ∈ Z, z.1 ≠ ad.block) ∧ (Z.map (·.2)).Nodup ∧ (∀ x, x ∈ Z.map (·.2) ↔ (x.1 ∈ K.take i ∧ Reach T x.1 x.2) ∨ (x.1 = K[i] ∧ x.2 ∈ done)) ∧ (∀ d ∈ done, Reach T K[i] d) ∧ IterO kenc w' k31 (some k2) l2 done ∧ Fr [] w5 w' ∧ w30.heap.size ≤ w'.heap.size ∧ Row w' p12 (K.map kenc), rest l2 [],
      ⟨Z, [], rfl, rfl, hZl, (o.fr f27 (fun _ _ => by simp)).fr s30.fr (fun _ _ => by simp), fun z hz => ((tu z hz).fr f27 (by simp)).fr s30.fr (by simp), zw, zb, znd, by simpa using zm, by simp, it30, F30, Nat.le_refl _, (r22.old f27).old s30.fr⟩, ?_⟩
    clear o tu zw zb znd zm hZl Z F30
    rintro mm p37 k38 c39 w40 ⟨Z, done, rfl, rfl, hZl, o, tu, zw, zb, znd, zm, hdone, it40, F40, z40, r40⟩
    have ob : ∀ ad, p37 = some ad → ad.block ≠ k31 := fun ad hp => by
      obtain ⟨cs, hb⟩ := ownZ_blk o hp
      exact iter_blk it40 hb
    have tb : ∀ z ∈ Z, z.1 ≠ k31 := fun z hz => by
      obtain ⟨cs, hb⟩ := tu z hz
      exact iter_blk it40 hb
    have rb : ∀ ad, p12 = some ad → 0 < (K.map kenc).length → ad.block ≠ k31 := fun ad hp hpos => by
      have := r22.blk_lt hpos ad hp
      have := f27.size
      omega
    refine ⟨some k2, l2, done, it40, fun y hy => ?_, fun n47 n48 hmem hnd2 w51 is51 it51 cur51 => bT rfl ⟨n47, n48, cur51, fun k57 w58 s58 b58 k61 => ?_⟩, fun hall w71 is71 it71 => bF rfl ?_⟩
    · obtain ⟨n, h2, _⟩ := hvals y hy
      rw [h2]
      have e : IsT prog 3 (I64 n) = ∃ n', Value.int .i64 n' = I64 n := by kernel_rfl
      rw [e]; exact ⟨_, rfl⟩
    · have n57 := g_new1 s58
      have z51 := is51.size
      have F51 : Fr [] w5 w51 := F40.trans is51.fr (fun x hx => .inr (by rw [List.mem_singleton.1 hx]; have := f8.size; have := f11.size; have := f27.size; omega))
      have F58 : Fr [] w5 w58 := F51.trans' s58.fr
      have o58 : OwnZ w58 w11.heap.size 1 p37 Z.length c39 (Z.map tz) := (o.fr is51.fr (fun ad hp => by simpa using ob ad hp)).fr s58.fr (fun _ _ => by simp)
      have tu58 : Tups w58 Z := fun z hz => ((tu z hz).fr is51.fr (by simpa using tb z hz)).fr s58.fr (by simp)
      have it58 : IterO kenc w58 k31 (some k2) l2 (n47 :: done) := it51.fr s58.fr (by simp) (fun _ _ => by simp)
      have hlow : ∀ ad, p37 = some ad → ad.block < w40.heap.size := fun ad hp => (o.lt hp).2
      have r58 : Row w58 p12 (K.map kenc) := ((row_fr0 is51.fr r40 (fun ad hp hpos => by simpa using rb ad hp hpos))).old s58.fr
      have hlow12 : ∀ ad, p12 = some ad → 0 < (K.map kenc).length → ad.block < w11.heap.size := fun ad hp hpos => r12.blk_lt hpos ad hp
      have tnew : TupO w58 k57 (K[i], n47) := ⟨[], by simpa [spl, reps] using b58⟩
      have hr47 : Reach T K[i] n47 := (hreach n47).1 (List.mem_map.2 ⟨_, hmem, rfl⟩)
      have hnew : (K[i], n47) ∉ Z.map (·.2) := fun hm => by
        rcases (zm _).1 hm with ⟨h1, _⟩ | ⟨_, h1⟩
        · exact hKi h1
        · exact hnd2 h1
      have zl58 := s58.fr.size
      refine appM1 (C := tz) (fun _ => rfl) (x := (k57, (K[i], n47))) (u := w5) (B := w11.heap.size) o58 F58 rfl (by have := f8.size; have := f11.size; omega) (by have := f27.size; omega) (fun h => by cases h) (by simp) (fun ad hp x hx => .inl hx) (by omega) (by omega) fun w62 p63 c65 F62 G62 n62 o62 d62 => ?_
      have tu62 : Tups w62 (Z ++ [(k57, (K[i], n47))]) := fun z hz => by
        rcases List.mem_append.1 hz with h | h
        · exact (tu58 z h).fr G62 (fun h3 => by
            simp only [List.nil_append] at h3
            cases hp : p37 with
            | none => rw [hp] at h3; simp [pb] at h3
            | some ad => rw [hp] at h3; simp [pb] at h3; exact zb ad hp z h h3)
        · rw [List.mem_singleton.1 h]
          exact tnew.fr G62 (fun h3 => by
            simp only [List.nil_append] at h3
            cases hp : p37 with
            | none => rw [hp] at h3; simp [pb] at h3
            | some ad => rw [hp] at h3; simp [pb] at h3; have := hlow ad hp; omega)
      have zw62 : ∀ z ∈ Z ++ [(k57, (K[i], n47))], w.heap.size ≤ z.1 := fun z hz => by
        rcases List.mem_append.1 hz with h | h
        · exact zw z h
        · rw [List.mem_singleton.1 h]; have := F51.size; have := f2.size; have := f5.size; omega
      have zb62 : ∀ ad, p63 = some ad → ∀ z ∈ Z ++ [(k57, (K[i], n47))], z.1 ≠ ad.block := fun ad hp z hz => by
        have hz58 : z.1 < w58.heap.size := by
          rcases List.mem_append.1 hz with h | h
          · exact (tu58 z h).lt
          · rw [List.mem_singleton.1 h]; exact tnew.lt
        rcases d62 ad hp with h2 | h2
        · rcases List.mem_append.1 hz with h | h
          · exact zb ad h2 z h
          · rw [List.mem_singleton.1 h]; have := hlow ad h2; omega
        · omega
      have znd62 : ((Z ++ [(k57, (K[i], n47))]).map (·.2)).Nodup := by
        rw [List.map_append, List.nodup_append]
        exact ⟨znd, by simp, fun a ha b hb e => by
          have hb : b = (K[i], n47) := by simpa using hb
          exact hnew (by rw [← hb, ← e]; exact ha)⟩
      have zm62 : ∀ x, x ∈ (Z ++ [(k57, (K[i], n47))]).map (·.2) ↔ (x.1 ∈ K.take i ∧ Reach T x.1 x.2) ∨ (x.1 = K[i] ∧ x.2 ∈ n47 :: done) := fun x => by
        rw [List.map_append, List.mem_append, zm x, List.map_cons, List.map_nil, List.mem_singleton, List.mem_cons]
        constructor
        · rintro ((h | ⟨h, h2⟩) | rfl)
          · exact .inl h
          · exact .inr ⟨h, .inr h2⟩
          · exact .inr ⟨rfl, .inl rfl⟩
        · rintro (h | ⟨h, h2 | h2⟩)
          · exact .inl (.inl h)
          · exact .inr (Prod.ext h h2)
          · exact .inl (.inr ⟨h, h2⟩)
      have hdone62 : ∀ d ∈ n47 :: done, Reach T K[i] d := fun d hd => by
        rcases List.mem_cons.1 hd with rfl | h
        · exact hr47
        · exact hdone d h
      refine bc (fun hbig => ?_) fun hsmall => ?_
      · have hbig : (4000 : Int) < ((Z ++ [(k57, (K[i], n47))]).length : Int) := of_decide_eq_true hbig
        refine ⟨F5.trans' F62, .inr ⟨hgood, .inl ⟨(Z ++ [(k57, (K[i], n47))]).map (·.2), znd62, by rw [List.length_map]; omega, fun x hx => ?_, rfl⟩⟩⟩
        rcases (zm62 x).1 hx with ⟨_, h⟩ | ⟨h1, h⟩
        · exact h
        · rw [h1]; exact hdone62 _ h
      · have hsmall : ¬ (4000 : Int) < ((Z ++ [(k57, (K[i], n47))]).length : Int) := of_decide_eq_false hsmall
        have hst := rest_lt hmem hnd2
        refine ⟨rest l2 (n47 :: done), hst, Z ++ [(k57, (K[i], n47))], n47 :: done, rfl, rfl, by omega, o62, tu62, zw62, zb62, znd62, zm62, hdone62, ?_, F62, by have := G62.size; omega, ?_⟩
        · exact it58.fr G62 (by
            simp only [List.nil_append]
            cases hp : p37 with
            | none => simp [pb]
            | some ad => simp [pb]; exact fun h => ob ad hp h.symm) (by
            intro b hb
            simp only [List.nil_append]
            cases hp : p37 with
            | none => simp [pb]
            | some ad =>
              simp only [pb, List.mem_singleton]
              obtain ⟨cs, hbk⟩ := ownZ_blk o hp
              exact fun h => iter_map_blk it40 hbk ((show b = ad.block by simpa using h) ▸ (Option.some.inj hb).symm))
        · exact row_fr0 G62 r58 (fun ad hp hpos => by
            simp only [List.nil_append]
            cases hp2 : p37 with
            | none => simp [pb]
            | some ad2 => simp [pb]; have := hlow12 ad hp hpos; have := (o.lt hp2).1; omega)
    · have F71 : Fr [] w5 w71 := F40.trans is71.fr (fun x hx => .inr (by rw [List.mem_singleton.1 hx]; have := f8.size; have := f11.size; have := f27.size; omega))
      have o71 : OwnZ w71 w11.heap.size 1 p37 Z.length c39 (Z.map tz) := o.fr is71.fr (fun ad hp => by simpa using ob ad hp)
      have tu71 : Tups w71 Z := fun z hz => (tu z hz).fr is71.fr (by simpa using tb z hz)
      have r71 : Row w71 p12 (K.map kenc) := row_fr0 is71.fr r40 (fun ad hp hpos => by simpa using rb ad hp hpos)
      refine ⟨K.length - (i + 1), by omega, i + 1, Z, by rw [wrapi (by omega) (by omega)]; simp, by omega, rfl, rfl, hZl, o71, tu71, zw, zb, znd, fun x => ?_, F71, by have := is71.size; have := f27.size; omega, r71⟩
      rw [zm x, take_snoc hlt', List.mem_append, List.mem_singleton]
      constructor
      · rintro (⟨h, h2⟩ | ⟨h, h2⟩)
        · exact ⟨.inl h, h2⟩
        · rw [h]; exact ⟨.inr rfl, hdone _ h2⟩
      · rintro ⟨h | h, h2⟩
        · exact .inl ⟨h, h2⟩
        · refine .inr ⟨h, ?_⟩
          rw [h] at h2
          obtain ⟨y, hy, e⟩ := List.mem_map.1 ((hreach x.2).2 h2)
          rw [← e]; exact hall y hy
  · have hge : ¬ (i : Int) < (K.length : Int) := of_decide_eq_false hge
    have hi' : i = K.length := by omega
    subst hi'
    refine (set_c o.row tu znd (by omega)).mono ?_
    rintro e87 w88 ⟨f88, b, Z', rfl, hperm, hsort, ho, ht, hw, hb⟩
    have hlen : Z'.length = Z.length := by simpa using hperm.length_eq
    refine ⟨_, _, _, rfl, F5.trans' (F22.trans' f88), .inr ⟨hgood, .inr ⟨b, Z', by rw [hlen], hsort, fun x => ?_, by omega, ?_, ht, ?_, hb⟩⟩⟩
    · rw [hperm.mem_iff, zm x, List.take_length]
      exact ⟨fun h => h.2, fun h => ⟨hKr _ _ h, h⟩⟩
    · obtain ⟨c, o⟩ := ho
      rw [hlen]
      have := F22.size; have := f2.size; have := f5.size
      exact ⟨c, o.1.mono (by omega), o.2⟩
    · intro z hz; have := hw z hz; have := F22.size; have := f2.size; have := f5.size; omega
end Go.Proofs.Ytnplopiconabiaa.Span
