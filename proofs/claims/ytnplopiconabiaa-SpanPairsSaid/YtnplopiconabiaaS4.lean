/- Span: reached. -/
import Derived.Test.YtnplopiconabiaaS3
import Derived.Test.YtnplopiconabiaaC6
namespace Go.Proofs.Ytnplopiconabiaa.Span
open Go Go.V
open Go.Proofs.Ytnplopiconabiaa.VC
open Go.Proofs.Try (prog)
set_option linter.unusedVariables false
set_option linter.unusedSimpArgs false
set_option maxRecDepth 20000

/-- There is a way. -/
inductive Reach (T : Int → List Int) (a : Int) : Int → Prop
  | one {b : Int} : b ∈ T a → Reach T a b
  | more {b c : Int} : Reach T a b → c ∈ T b → Reach T a c
def unseen (T : Int → List Int) (l : List (Int × Value)) (ks : List Int) : Nat := (l.map fun e => if e.1 ∈ ks then 0 else (T e.1).length).sum
def total (T : Int → List Int) (l : List (Int × Value)) : Nat := (l.map fun e => (T e.1).length).sum
theorem unseen_congr {T : Int → List Int} {ks ks' : List Int} (l : List (Int × Value)) (h : ∀ y, y ∈ ks ↔ y ∈ ks') : unseen T l ks = unseen T l ks' := by
  unfold unseen
  congr 1
  refine List.map_congr_left fun e _ => ?_
  by_cases h1 : e.1 ∈ ks
  · rw [if_pos h1, if_pos ((h _).1 h1)]
  · rw [if_neg h1, if_neg (fun h2 => h1 ((h _).2 h2))]
theorem unseen_nil (T : Int → List Int) (l : List (Int × Value)) : unseen T l [] = total T l := by simp [unseen, total]
theorem unseen_other {T : Int → List Int} {x : Int} {ks : List Int} : ∀ (l : List (Int × Value)), x ∉ l.map (·.1) → unseen T l (x :: ks) = unseen T l ks
  | [], _ => rfl
  | e :: l, h => by
    have h1 : e.1 ≠ x := fun e1 => h (by simp [e1])
    have ih := unseen_other (T := T) (ks := ks) l (fun h2 => h (List.mem_cons_of_mem _ h2))
    unfold unseen at ih ⊢
    rw [List.map_cons, List.sum_cons, List.map_cons, List.sum_cons, ih]
    congr 1
    by_cases h2 : e.1 ∈ ks
    · rw [if_pos (List.mem_cons_of_mem _ h2), if_pos h2]
    · rw [if_neg (by simp [h1, h2]), if_neg h2]
theorem unseen_cons {T : Int → List Int} {x : Int} {ks : List Int} (hx : x ∉ ks) : ∀ (l : List (Int × Value)), (l.map (·.1)).Nodup → (T x ≠ [] → x ∈ l.map (·.1)) → unseen T l (x :: ks) + (T x).length = unseen T l ks
  | [], _, h => by
    have : T x = [] := by
      cases ht : T x with
      | nil => rfl
      | cons a r => exact absurd (h (by rw [ht]; simp)) (by simp)
    simp [unseen, this]
  | e :: l, hn, h => by
    rw [List.map_cons, List.nodup_cons] at hn
    by_cases h1 : e.1 = x
    · have ih := unseen_other (T := T) (x := x) (ks := ks) l (by rw [← h1]; exact hn.1)
      unfold unseen at ih ⊢
      rw [List.map_cons, List.sum_cons, List.map_cons, List.sum_cons, ih, h1, if_pos List.mem_cons_self, if_neg hx]
      omega
    · have ih := unseen_cons hx l hn.2 (fun ht => by
        rcases List.mem_cons.1 (h ht) with h2 | h2
        · exact absurd h2.symm h1
        · exact h2)
      unfold unseen at ih ⊢
      rw [List.map_cons, List.sum_cons, List.map_cons, List.sum_cons]
      have : (if e.1 ∈ x :: ks then 0 else (T e.1).length) = if e.1 ∈ ks then 0 else (T e.1).length := by
        by_cases h2 : e.1 ∈ ks
        · rw [if_pos (List.mem_cons_of_mem _ h2), if_pos h2]
        · rw [if_neg (by simp [h1, h2]), if_neg h2]
      rw [this]; omega

theorem clone_c {w : World} {p : Option Addr} {c : Nat} {xs : List Int} (h : Row w p (xs.map I64)) (hl : xs.length ≤ 1000000) :
    Calls prog 71 #[.slice p xs.length c] w fun e w' => Fr [] w w' ∧ ∃ p' c', e = .returned (.slice p' xs.length c') ∧ OwnZ w' w.heap.size 1 p' xs.length c' (xs.map I64) := by
  refine slices_Clone_g71.link (bc (fun hn => ?_) fun hn k1 w2 s2 b2 => ?_)
  · have hp : p = none := by simpa using hn
    have hx : xs = [] := by
      cases xs with
      | nil => rfl
      | cons a r => obtain ⟨ad, e⟩ := h.has (by simp); rw [hp] at e; cases e
    subst hx
    exact ⟨Fr.refl _ _, none, 0, rfl, OwnZ.nil _ _ _⟩
  · have n2 := g_new1 s2
    have o2 : OwnZ w2 w.heap.size 1 (some ⟨k1, 0, none⟩) ([] : List Int).length 0 (([] : List Int).map I64) := OwnZ.blk b2 rfl (by simp) n2.1
    refine ⟨xs.map I64, by simp, h.old s2.fr, appMN (ys := []) (zs := xs) (C := I64) (fun _ => rfl) rfl (u := w) (B := w.heap.size) o2 s2.fr rfl (Nat.le_refl _) (by omega) (fun _ => rfl) (by simp) (fun ad hp => by simp) (by simp; omega) (by simp; omega) fun w6 p7 c9 F6 _ _ o6 _ => ?_⟩
    exact ⟨F6, p7, c9, by simp, by simpa using o6⟩

set_option maxHeartbeats 1000000 in
theorem reached_c {w : World} {B m : Nat} {T : Int → List Int} {l : List (Int × Value)} (hM : MapG kenc w m l) (hX : EntOk w B T l) (hl : 2 * total T l ≤ 200000) (hT : ∀ n, (T n).length ≤ total T l) (a : Int) :
    Calls prog 40 #[.map (some m), I64 a] w fun e w' => Fr [] w w' ∧ ∃ k2 l2, e = .returned (.map (some k2)) ∧ MapG kenc w' k2 l2 ∧ w.heap.size ≤ k2 ∧ (∀ x, x ∈ l2.map (·.1) ↔ Reach T a x) ∧ ∀ q ∈ l2, ∃ n : Int, q.2 = I64 n ∧ 1 ≤ n ∧ n ≤ 200000 := by
  refine span_reached.link fun w1 k2 s1 h1 => ?_
  have n1 := g_new1 s1
  obtain ⟨p6, c8, b9, lk, o6, _⟩ := hX.look a
  have hTa := hT a
  refine ⟨l, hM.fr s1.fr (by simp), p6, _, c8, ⟨b9, lk⟩, (clone_c (xs := T a) (o6.1.row.old s1.fr) (by omega)).mono ?_⟩
  rintro e10 w11 ⟨f11, p12, c14, rfl, o12⟩
  have F11 := s1.fr.trans' f11
  have hM0 : (T a).length + total T l ≤ 200000 := by omega
  generalize hM0e : (T a).length + total T l = M0 at *
  refine ⟨p12, _, c14, rfl, fun mm p k c w' => ∃ (xs : List Int) (ls : List (Int × Value)), k = xs.length ∧ mm = xs.length + unseen T l (ls.map (·.1)) ∧ mm ≤ M0 ∧ OwnZ w' w.heap.size 1 p xs.length c (xs.map I64) ∧ MapG kenc w' k2 ls ∧ Fr [] w w' ∧
    (∀ x ∈ xs, Reach T a x) ∧ (∀ x ∈ ls.map (·.1), Reach T a x) ∧ (∀ y ∈ T a, y ∈ ls.map (·.1) ∨ y ∈ xs) ∧ (∀ x ∈ ls.map (·.1), ∀ y ∈ T x, y ∈ ls.map (·.1) ∨ y ∈ xs) ∧ ∀ q ∈ ls, ∃ n : Int, q.2 = I64 n ∧ 1 ≤ n ∧ n + mm ≤ M0, M0, ⟨T a, [], rfl, by simp [unseen_nil, hM0e], Nat.le_refl _, o12.mono (by have := s1.fr.size; omega), (MapG.new h1).fr f11 (by simp), F11, fun x hx => .one hx, by simp, fun y hy => .inr hy, by simp, by simp⟩, ?_⟩
  rintro mm p18 k19 c20 w21 ⟨xs, ls, rfl, rfl, hmm, o, M21, F, g1, g2, g3, g4, g5⟩
  refine bc (fun hpos => ?_) fun hnp => ?_
  · have hpos : (0 : Int) < (xs.length : Int) := of_decide_eq_true hpos
    have hne : xs ≠ [] := fun e => by rw [e] at hpos; simp at hpos
    obtain ⟨ys, x, rfl⟩ : ∃ ys x, xs = ys ++ [x] := ⟨xs.dropLast, xs.getLast hne, (List.dropLast_concat_getLast hne).symm⟩
    have hlen : (ys ++ [x]).length = ys.length + 1 := by simp
    have ew : IntKind.wrap .i64 (((ys ++ [x]).length : Nat) - (1 : Int)) = (ys.length : Int) := by rw [hlen, wrapi (by omega) (by omega)]; omega
    rw [ew]
    obtain ⟨ad, hp⟩ := o.row.has (by simp)
    have hcell : w21.cell? (ad.add ys.length) = some (I64 x) := o.row.get hp (by simp)
    have hcap := o.2.1
    refine ⟨ad, hp, ⟨by omega, by omega⟩, x, by rw [Int.toNat_natCast, Nat.mul_one]; exact hcell, ⟨by omega, by omega, by omega⟩, ls, M21, ?_⟩
    have hnd := M21.nodup
    -- how often it has come
    have hxr := g1 x (by simp)
    have o' : OwnZ w21 w.heap.size 1 p18 ys.length c20 (ys.map I64) := OwnZ.front (ys := [I64 x]) (by simpa using o) (by simp) (by omega)
    cases hlk : V.look ls x with
    | some y =>
      obtain ⟨n, hn, hn1, hn2⟩ := g5 _ (look_mem hlk)
      have hn : y = I64 n := hn
      subst hn
      have hxk : x ∈ ls.map (·.1) := List.mem_map.2 ⟨_, look_mem hlk, rfl⟩
      refine ⟨n, ⟨true, .inl ⟨rfl, hlk⟩⟩, k2, ls, rfl, M21, fun w30 u30 => ?_⟩
      rw [show IntKind.wrap .i64 (n + 1) = n + 1 from wrapi (by omega) (by omega)] at u30
      have F30 : Fr [] w w30 := F.trans u30.fr (fun z hz => .inr (by rw [List.mem_singleton.1 hz]; exact n1.1))
      refine ⟨_, u30.map, n + 1, ⟨true, .inl ⟨rfl, by rw [look_updM, if_pos rfl]⟩⟩, bF (by simp; omega) ?_⟩
      have keys : ∀ z, z ∈ (updM ls x (I64 (n + 1))).map (·.1) ↔ z ∈ ls.map (·.1) := fun z => by
        rw [key_updM]
        exact ⟨fun h => by rcases h with rfl | h; exact hxk; exact h, .inr⟩
      rw [subA_0, Int.toNat_natCast]
      have hun : unseen T l ((updM ls x (I64 (n + 1))).map (·.1)) = unseen T l (ls.map (·.1)) := unseen_congr l keys
      refine ⟨ys.length + unseen T l ((updM ls x (I64 (n + 1))).map (·.1)), by rw [hun]; omega, ys, _, by simp, rfl, by rw [hun]; omega, o'.fr u30.fr (fun ad hp2 => ?_), u30.map, F30, fun z hz => g1 z (by simp [hz]), fun z hz => g2 z ((keys z).1 hz), fun y hy => ?_, fun z hz y hy => ?_, fun q hq => ?_⟩
      · obtain ⟨_, _, _, h4⟩ := o'
        rcases h4 with ⟨e4, _⟩ | ⟨b, zs, e4, _, hb, _⟩
        · rw [e4] at hp2; cases hp2
        · rw [e4] at hp2; injection hp2 with hp2; subst hp2; simpa using map_blk M21 hb
      · rw [keys]
        rcases g3 y hy with h2 | h2
        · exact .inl h2
        · rcases List.mem_append.1 h2 with h2 | h2
          · exact .inr h2
          · rw [List.mem_singleton.1 h2]; exact .inl hxk
      · rw [keys]
        rcases g4 z ((keys z).1 hz) y hy with h2 | h2
        · exact .inl h2
        · rcases List.mem_append.1 h2 with h2 | h2
          · exact .inr h2
          · rw [List.mem_singleton.1 h2]; exact .inl hxk
      · rw [hun]
        rcases mem_updM2 hnd hq with rfl | ⟨hq, _⟩
        · exact ⟨n + 1, rfl, by omega, by omega⟩
        · obtain ⟨n', e1, e2, e3⟩ := g5 q hq
          exact ⟨n', e1, e2, by omega⟩
    | none =>
      have hxk : x ∉ ls.map (·.1) := fun hx => by
        obtain ⟨q, hq, e⟩ := List.mem_map.1 hx
        have := look_of_mem hnd (k := q.1) (x := q.2) hq
        rw [e, hlk] at this; cases this
      refine ⟨0, ⟨false, .inr ⟨rfl, hlk, rfl⟩⟩, k2, ls, rfl, M21, fun w30 u30 => ?_⟩
      rw [show IntKind.wrap .i64 (0 + 1) = 1 from rfl] at u30
      have F30 : Fr [] w w30 := F.trans u30.fr (fun z hz => .inr (by rw [List.mem_singleton.1 hz]; exact n1.1))
      refine ⟨_, u30.map, 1, ⟨true, .inl ⟨rfl, by rw [look_updM, if_pos rfl]⟩⟩, bT (by decide) ?_⟩
      obtain ⟨p36, c38, b39, lk36, o36, _⟩ := hX.look x
      have keys : ∀ z, z ∈ (updM ls x (I64 1)).map (·.1) ↔ z ∈ x :: ls.map (·.1) := fun z => by rw [key_updM, List.mem_cons]
      have hun : unseen T l ((updM ls x (I64 1)).map (·.1)) + (T x).length = unseen T l (ls.map (·.1)) := by
        rw [unseen_congr l keys]; exact unseen_cons hxk l hM.nodup (hX.all x)
      refine ⟨l, hM.fr F30 (by simp), p36, _, c38, ⟨b39, lk36⟩, (T x).map I64, by simp, o36.1.row.old F30, ?_⟩
      rw [subA_0, Int.toNat_natCast]
      have o30 : OwnZ w30 w.heap.size 1 p18 ys.length c20 (ys.map I64) := o'.fr u30.fr (fun ad hp2 => by
        obtain ⟨_, _, _, h4⟩ := o'
        rcases h4 with ⟨e4, _⟩ | ⟨b, zs, e4, _, hb, _⟩
        · rw [e4] at hp2; cases hp2
        · rw [e4] at hp2; injection hp2 with hp2; subst hp2; simpa using map_blk M21 hb)
      refine appMN (ys := ys) (zs := T x) (C := I64) (fun _ => rfl) rfl (u := w) (B := w.heap.size) o30 F30 rfl (Nat.le_refl _) F30.size (fun _ => rfl) (by simp) (fun ad hp => by simp) (by omega) (by omega) fun w41 p42 c44 F41 G41 _ o41 _ => ?_
      have M41 := u30.map.fr G41 (fun hm => by
        rw [List.nil_append, g_mem_pb] at hm
        obtain ⟨ad2, h2, h3⟩ := hm
        obtain ⟨_, _, _, h4⟩ := o30
        rcases h4 with ⟨e4, _⟩ | ⟨b, zs, e4, _, hb, _⟩
        · rw [e4] at h2; cases h2
        · rw [e4] at h2; injection h2 with h2; subst h2; exact map_blk u30.map hb h3)
      refine ⟨(ys ++ T x).length + unseen T l ((updM ls x (I64 1)).map (·.1)), by rw [List.length_append]; omega, ys ++ T x, _, rfl, rfl, by rw [List.length_append]; omega, o41, M41, F41, fun z hz => ?_, fun z hz => ?_, fun y hy => ?_, fun z hz y hy => ?_, fun q hq => ?_⟩
      · rcases List.mem_append.1 hz with h2 | h2
        · exact g1 z (by simp [h2])
        · exact .more hxr h2
      · rcases List.mem_cons.1 ((keys z).1 hz) with rfl | h2
        · exact hxr
        · exact g2 z h2
      · rw [keys, List.mem_cons, List.mem_append]
        rcases g3 y hy with h2 | h2
        · exact .inl (.inr h2)
        · rcases List.mem_append.1 h2 with h2 | h2
          · exact .inr (.inl h2)
          · exact .inl (.inl (List.mem_singleton.1 h2))
      · rw [keys, List.mem_cons, List.mem_append]
        rcases List.mem_cons.1 ((keys z).1 hz) with rfl | h3
        · exact .inr (.inr hy)
        · rcases g4 z h3 y hy with h2 | h2
          · exact .inl (.inr h2)
          · rcases List.mem_append.1 h2 with h2 | h2
            · exact .inr (.inl h2)
            · exact .inl (.inl (List.mem_singleton.1 h2))
      · rcases mem_updM2 hnd hq with rfl | ⟨hq, _⟩
        · exact ⟨1, rfl, by omega, by rw [List.length_append]; omega⟩
        · obtain ⟨n', e1, e2, e3⟩ := g5 q hq
          exact ⟨n', e1, e2, by rw [List.length_append]; omega⟩
  · have hnp : ¬ (0 : Int) < (xs.length : Int) := of_decide_eq_false hnp
    have hx : xs = [] := List.length_eq_zero_iff.1 (by omega)
    subst hx
    refine ⟨F, k2, ls, rfl, M21, n1.1, fun x => ⟨g2 x, fun hr => ?_⟩, fun q hq => ?_⟩
    · induction hr with
      | one hb => exact (g3 _ hb).resolve_right (by simp)
      | more _ hc ih => exact (g4 _ ih _ hc).resolve_right (by simp)
    · obtain ⟨n, e1, e2, e3⟩ := g5 q hq
      exact ⟨n, e1, e2, by omega⟩
end Go.Proofs.Ytnplopiconabiaa.Span
