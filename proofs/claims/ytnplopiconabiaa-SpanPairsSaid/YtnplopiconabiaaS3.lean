/- Span: next. -/
import Derived.Test.YtnplopiconabiaaS2
namespace Go.Proofs.Ytnplopiconabiaa.Span
open Go Go.V
open Go.Proofs.Ytnplopiconabiaa.VC
open Go.Proofs.Try (prog)
set_option linter.unusedVariables false
set_option linter.unusedSimpArgs false
set_option maxRecDepth 20000

theorem tgt_snoc {E : List EG} {lab : ByteArray} {i : Nat} (hi : i < E.length) (n : Int) : tgt (E.take (i + 1)) lab n = if E[i].l = lab ∧ E[i].f = n then tgt (E.take i) lab n ++ [E[i].t] else tgt (E.take i) lab n := by
  unfold tgt
  rw [take_snoc hi, List.filter_append, List.map_append, List.filter_cons]
  by_cases h : E[i].l = lab ∧ E[i].f = n
  · rw [if_pos h, if_pos (by simp [h])]; rfl
  · rw [if_neg h, if_neg (by simpa using h)]; simp

set_option maxHeartbeats 1000000 in
theorem next_c {w : World} {lab : ByteArray} {eA : Option Addr} {eC : Nat} {E : List EG} (hE : Row w eA (E.flatMap gcell)) (hl : E.length ≤ 100000) :
    Calls prog 37 #[.string lab, .slice eA E.length eC] w fun e w' => Fr [] w w' ∧ ∃ m l, e = .returned (.map (some m)) ∧ MapG kenc w' m l ∧ EntOk w' w.heap.size (succs E lab) l ∧ w.heap.size ≤ m := by
  refine span_next.link fun w1 k2 s1 h1 => ?_
  have n1 := g_new1 s1
  refine ⟨fun m n w' => ∃ (i : Nat) (l : List (Int × Value)), n = i ∧ i ≤ E.length ∧ m = E.length - i ∧ MapG kenc w' k2 l ∧ EntOk w' w.heap.size (tgt (E.take i) lab) l ∧ Fr [] w w', E.length, ⟨0, [], rfl, by omega, rfl, MapG.new h1, EntOk.nil w1 w.heap.size, s1.fr⟩, ?_⟩
  rintro m n w9 ⟨i, l, rfl, hi, rfl, M9, X9, F9⟩
  have hnd := M9.nodup
  refine bc (fun hlt y11 hy11 => ?_) fun hge => ?_
  · have hlt : (i : Int) < (E.length : Int) := of_decide_eq_true hlt
    have hlt' : i < E.length := by omega
    obtain ⟨ad, hp, g⟩ := (hE.old F9).atF flatG (by decide) hlt'
    have e0 : (i : Int).toNat * 3 = i * 3 := by omega
    refine ⟨ad, hp, ⟨by omega, hlt⟩, _, _, _, ⟨by rw [e0]; exact g 0 _ rfl, by rw [e0]; exact g 1 _ rfl, by rw [e0]; exact g 2 _ rfl, trivial⟩, fun k20 => ?_⟩
    have next : ∀ l' w', MapG kenc w' k2 l' → EntOk w' w.heap.size (tgt (E.take (i + 1)) lab) l' → Fr [] w w' → y11 w' := fun l' w' h2 h3 h4 => hy11 _ ⟨E.length - (i + 1), by omega, i + 1, l', by rw [wrapi (by omega) (by omega)]; simp, by omega, rfl, h2, h3, h4⟩
    refine bc (fun hlab => ?_) fun hlab w35 s35 => ?_
    · have hlab : E[i].l = lab := of_decide_eq_true hlab
      obtain ⟨p, c, b, hlk, o, hold⟩ := X9.look E[i].f
      have tl := tgt_len (E.take i) lab E[i].f
      rw [List.length_take] at tl
      refine ⟨l, M9, p, _, c, ⟨b, hlk⟩, fun k26 => ?_⟩
      refine appendP_plain (o.pl (by simp)) (appM1 (C := I64) (fun _ => rfl) (x := E[i].t) (u := w) (B := w.heap.size) o.1 F9 rfl (Nat.le_refl _) F9.size (fun h => by cases h) (by simp) (fun ad hp => by simp) (by omega) (by omega) fun w27 p28 c30 F27 G27 n27 o27 d27 hpl => ?_)
      have m2 : ∀ ad, p = some ad → ad.block ≠ k2 := fun ad hp => by
        obtain ⟨cs, hb⟩ := own_blk o hp
        exact map_blk M9 hb
      have M27 : MapG kenc w27 k2 l := M9.fr G27 (by
        rw [List.nil_append, g_mem_pb]; rintro ⟨ad, h2, h3⟩; exact m2 ad h2 h3)
      refine ⟨k2, l, rfl, M27, fun w33 u33 => next _ w33 u33.map ?_ (F27.trans u33.fr fun x hx => .inr (by rw [List.mem_singleton.1 hx]; exact n1.1))⟩
      have F33 : Fr (pb p ++ [k2]) w9 w33 := by simpa using G27.then u33.fr
      have o33 : OwnP w33 w.heap.size 1 p28 (tgt (E.take i) lab E[i].f ++ [E[i].t]).length c30 ((tgt (E.take i) lab E[i].f ++ [E[i].t]).map I64) := (OwnP.fr ⟨o27, hpl⟩ u33.fr fun ad hp => by
        obtain ⟨cs, hb⟩ := own_blk ⟨o27, hpl⟩ hp
        simpa using map_blk M27 hb)
      have := X9.set hnd F33 hold (fun x hx => by
        rcases List.mem_append.1 hx with hx | hx
        · obtain ⟨ad, h2, h3⟩ := (g_mem_pb _ _).1 hx
          exact .inl ⟨ad, h2, h3⟩
        · rw [List.mem_singleton.1 hx]
          exact .inr (.inl fun cs hb => map_ne_blk M9 hb rfl)) o33 (by simp) d27
      refine this.congr (fun n hn => ?_) fun n hn => ?_
      · rw [tgt_snoc hlt']
        by_cases e : n = E[i].f
        · subst e; rw [if_pos ⟨hlab, rfl⟩, if_pos rfl]
        · rw [if_neg (fun h => e h.2.symm), if_neg e]
      · refine this.all n ?_
        rw [tgt_snoc hlt'] at hn
        by_cases e : n = E[i].f
        · rw [if_pos e]; simp
        · rw [if_neg e]
          rwa [if_neg (fun h => e h.2.symm)] at hn
    · have hlab : ¬ E[i].l = lab := of_decide_eq_false hlab
      have e : tgt (E.take (i + 1)) lab = tgt (E.take i) lab := by
        funext n; rw [tgt_snoc hlt', if_neg (fun h => hlab h.1)]
      exact next l w35 (M9.fr s35.fr (by simp)) (by rw [e]; exact X9.fr s35.fr (fun _ _ _ => by simp)) (F9.trans' s35.fr)
  have hge : ¬ (i : Int) < (E.length : Int) := of_decide_eq_false hge
  rw [List.take_of_length_le (by omega)] at X9
  clear hge hi
  refine ⟨l, M9, fun w38 k39 s38 it38 => ?_⟩
  have n39 := g_new1 s38
  let T2 : List Int → Int → List Int := fun done n => if n ∈ done then succs E lab n else tgt E lab n
  refine ⟨fun m w' => ∃ (done : List Int) (l' : List (Int × Value)), m = rest l done ∧ l'.map (·.1) = l.map (·.1) ∧ IterO kenc w' k39 (some k2) l' done ∧ EntOk w' w.heap.size (T2 done) l' ∧ Fr [] w w' ∧ MapG kenc w' k2 l', rest l [], ⟨[], l, rfl, rfl, it38, by simpa [T2] using X9.fr s38.fr (fun _ _ _ => by simp), F9.trans' s38.fr, M9.fr s38.fr (by simp)⟩, ?_⟩
  rintro m w45 ⟨done, l', rfl, hk, it45, X45, F45, M45⟩
  have hIs : ∀ b cs, Blk w45 b cs → b ∉ [k39] := fun b cs hb => by simpa using iter_blk it45 hb
  have k39n : w.heap.size ≤ k39 := by have := F9.size; omega
  refine ⟨some k2, l', done, it45, fun y hy => ?_, fun n p k c hmem hnd2 w58 is58 it58 cur58 => bT rfl ⟨n, p, k, c, cur58, ?_⟩, fun hall w81 is81 it81 => bF rfl ?_⟩
  · obtain ⟨p, c, h2, _⟩ := X45.ent y hy
    rw [h2]
    have e : IsT prog 31 (Value.slice p (T2 done y.1).length c) = ∃ (a : Option Addr) (x y' : Nat), Value.slice a x y' = Value.slice p (T2 done y.1).length c := by kernel_rfl
    rw [e]; exact ⟨_, _, _, rfl⟩
  · have X58 := X45.fr is58.fr hIs
    have M58 := M45.fr is58.fr (fun hm => by
      obtain ⟨es, clock, since, seen, last, hr, hm2, _⟩ := it45
      have e : k2 = k39 := by simpa using hm
      rw [e, hr] at hm2; injection hm2 with hm2; cases hm2)
    have hnl := M58.nodup
    obtain ⟨p', c', h2, o58, hne⟩ : ∃ p' c', Value.slice p k c = .slice p' (T2 done n).length c' ∧ OwnP w58 w.heap.size 1 p' (T2 done n).length c' ((T2 done n).map I64) ∧ T2 done n ≠ [] := X58.ent _ hmem
    injection h2 with h2 h3 h4
    subst h2; subst h3; subst h4
    have hT : T2 done n = tgt E lab n := by simp only [T2]; rw [if_neg hnd2]
    simp only [hT] at o58 hne hmem it58 cur58 ⊢
    have tl := tgt_len E lab n
    have hlk : V.look l' n = some (.slice p (tgt E lab n).length c) := look_of_mem hnl hmem
    refine (sort_c o58 (by omega)).mono ?_
    rintro e66 w67 ⟨rfl, f67, o67⟩
    have hsl : (sortI (tgt E lab n)).length = (tgt E lab n).length := (sortI_perm _).length_eq
    rw [← hsl] at o67
    refine ⟨rfl, ?_⟩
    rw [← hsl]
    refine (compact_c o67 (by omega)).mono ?_
    rintro e68 w69 ⟨rfl, f69, o69⟩
    have f69' : Fr (pb p) w58 w69 := f67.trans' f69
    have pbn : ∀ x ∈ pb p, w.heap.size ≤ x ∧ ∃ cs, Blk w58 x cs := fun x hx => by
      obtain ⟨ad, h2, rfl⟩ := (g_mem_pb _ _).1 hx
      exact ⟨(o58.1.lt h2).1, own_blk o58 h2⟩
    have M69 : MapG kenc w69 k2 l' := M58.fr f69' (fun hm => by
      obtain ⟨_, cs, hb⟩ := pbn _ hm
      exact map_ne_blk M58 hb rfl)
    have it69 : IterO kenc w69 k39 (some k2) l' (n :: done) := it58.fr f69' (fun hm => by
      obtain ⟨_, cs, hb⟩ := pbn _ hm
      exact iter_blk it58 hb rfl) (fun b hb hm => by
      injection hb with hb; subst hb
      obtain ⟨_, cs, hb⟩ := pbn _ hm
      exact map_ne_blk M58 hb rfl)
    refine ⟨p, _, c, rfl, k2, l', rfl, M69, fun w75 u75 => ?_⟩
    have keys75 : (updM l' n (.slice p (comp (sortI (tgt E lab n))).length c)).map (·.1) = l'.map (·.1) := updM_keys _ _ _ _ hmem
    have F75 : Fr (pb p ++ [k2]) w58 w75 := f69'.then u75.fr
    have o75 : OwnP w75 w.heap.size 1 p (comp (sortI (tgt E lab n))).length c ((comp (sortI (tgt E lab n))).map I64) := o69.fr u75.fr fun ad hp => by
      obtain ⟨cs, hb⟩ := own_blk o69 hp
      simpa using map_blk M69 hb
    have X75 := X58.set hnl F75 (.inl hlk) (fun x hx => by
      rcases List.mem_append.1 hx with hx | hx
      · obtain ⟨ad, h2, h3⟩ := (g_mem_pb _ _).1 hx
        exact .inl ⟨ad, h2, h3⟩
      · rw [List.mem_singleton.1 hx]
        exact .inr (.inl fun cs hb => map_ne_blk M58 hb rfl)) o75 (comp_nil (sortI_nil hne)) (fun ad hp => .inl hp)
    refine ⟨rest l (n :: done), rest_lt (x := (l.find? (fun q => decide (q.1 = n))).elim (Value.bool true) (·.2)) ?_ hnd2, n :: done, _, rfl, keys75.trans hk, it69.upd u75 hmem, X75.congr (fun m hm => ?_) (fun m hm => ?_), ?_, u75.map⟩
    · have : n ∈ l.map (·.1) := by rw [← hk]; exact List.mem_map.2 ⟨_, hmem, rfl⟩
      obtain ⟨q, hq, e⟩ := List.mem_map.1 this
      cases hf : l.find? (fun q => decide (q.1 = n)) with
      | none => exact absurd (decide_eq_true e) (List.find?_eq_none.1 hf q hq)
      | some r =>
        have h2 := List.find?_some hf
        have h3 := List.mem_of_find?_eq_some hf
        have h2 : r.1 = n := of_decide_eq_true h2
        show (n, r.2) ∈ l
        rw [← h2]; exact h3
    · by_cases e : m = n
      · subst e; rw [if_pos rfl]; simp [T2, succs]
      · rw [if_neg e]; simp [T2, e]
    · rw [keys75]
      refine X58.all m ?_
      simp only [T2, List.mem_cons] at hm ⊢
      by_cases e : m = n
      · subst e
        simp only [if_neg hnd2]; exact hne
      · simpa [e] using hm
    · refine ((F45.trans is58.fr fun x hx => .inr (by rw [List.mem_singleton.1 hx]; exact k39n)).trans F75 fun x hx => ?_)
      rcases List.mem_append.1 hx with hx | hx
      · exact .inr (pbn x hx).1
      · exact .inr (by rw [List.mem_singleton.1 hx]; exact n1.1)
  · have X81 := X45.fr is81.fr hIs
    have M81 := M45.fr is81.fr (fun hm => by
      obtain ⟨es, clock, since, seen, last, hr, hm2, _⟩ := it45
      have e : k2 = k39 := by simpa using hm
      rw [e, hr] at hm2; injection hm2 with hm2; cases hm2)
    refine ⟨F45.trans is81.fr (fun x hx => .inr (by rw [List.mem_singleton.1 hx]; exact k39n)), k2, l', rfl, M81, X81.congr (fun n hn => ?_) (fun n hn => ?_), n1.1⟩
    · obtain ⟨e, he, rfl⟩ := List.mem_map.1 hn
      simp only [T2]; rw [if_pos (hall e he)]
    · refine X81.all n fun e => hn (succs_nil ?_)
      simp only [T2] at e
      split at e
      · exact absurd e hn
      · exact e
end Go.Proofs.Ytnplopiconabiaa.Span
