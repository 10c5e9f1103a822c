/- The tree: comparing, joining, balancing. -/
import Derived.Test.YtalegpdnhkopmaaDoorE3
import Derived.Test.YtalegpdnhkopmaaDoorM1
import Derived.Test.YtalegpdnhkopmaaDoorM2
import Derived.Lib.BytesEntry
namespace Go.Proofs.YtalegpdnhkopmaaDoor.Tree
open Go Go.V Go.RowKit
open Go.Proofs.YtalegpdnhkopmaaDoor.VC Go.Proofs.YtalegpdnhkopmaaDoor.By
open Go.Proofs.Tryd (prog)
set_option linter.unusedVariables false
set_option linter.unusedSimpArgs false

theorem bF {b : Bool} {p q : Prop} (h : b = false) (hq : q) : bcase b p q := ⟨fun h' => by (rw [h] at h'; cases h'), fun _ => hq⟩
theorem bT {b : Bool} {p q : Prop} (h : b = true) (hp : p) : bcase b p q := ⟨fun _ => hp, fun h' => by (rw [h] at h'; cases h')⟩

/-! ### comparing bytes -/
theorem load_run {w : World} {A : Option Addr} {k : Bs} {c : Nat} (h : Row w A (k.map U8)) : (Extern.Bytes.bytesOf (.slice A k.length c)).run prog w = .ok ⟨k.toArray⟩ w := by
  cases A with
  | none =>
    have : k = [] := by
      cases k with
      | nil => rfl
      | cons x k => obtain ⟨ad, hp⟩ := h.has (by simp); cases hp
    subst this; rfl
  | some a =>
    have hl := Lib.run_loadBytesX (P := prog) w (k.map fun b => (b.toNat : Int)) a .empty (fun j x hj => by
      rw [List.getElem?_map] at hj
      cases hk : k[j]? with
      | none => rw [hk] at hj; cases hj
      | some b =>
        rw [hk] at hj
        have hj : (b.toNat : Int) = x := by simpa using hj
        have := h.get rfl (j := j) (u := U8 b) (by rw [List.getElem?_map, hk]; rfl)
        rw [this, ← hj]; rfl)
    rw [List.length_map] at hl
    show (Extern.Bytes.loadBytes a k.length .empty).run prog w = _
    rw [hl]
    have : Lib.bytesOf (k.map fun b => (b.toNat : Int)) = k := by
      unfold Lib.bytesOf
      rw [List.map_map]
      conv => rhs; rw [← List.map_id k]
      apply List.map_congr_left
      intro b _
      simp
    rw [this]
    congr 1
    apply ByteArray.ext
    simp
theorem compare_c {w : World} {A B : Option Addr} {a b : Bs} {ca cb : Nat} (ha : Row w A (a.map U8)) (hb : Row w B (b.map U8)) :
    Calls prog 147 #[.slice A a.length ca, .slice B b.length cb] w fun e w' => e = .returned (.int .i64 (Lib.compareBytes a b)) ∧ w' = w := by
  refine bytes_Compare.link ⟨Lib.compareBytes a b, w, ?_, rfl, rfl⟩
  rw [run_callFunc_extern Go.Proofs.Tryd.func164 (by kernel_rfl) (by kernel_rfl) (by kernel_rfl) (e := Extern.BytealgCompare.compare) (by kernel_rfl)]
  have : (Extern.BytealgCompare.compare #[.slice A a.length ca, .slice B b.length cb]).run prog w = .ok (.int .i64 (Lib.compareBytes a b)) w := by
    change Sem.run prog (do pure (goInt (Extern.BytealgCompare.cmp (← Extern.Bytes.bytesOf (.slice A a.length ca)) (← Extern.Bytes.bytesOf (.slice B b.length cb))))) w = _
    simp only [Sem.run_bind, load_run ha, load_run hb, Sem.run_pure, Result.andThen]
    rw [Lib.cmp_eq]; rfl
  rw [this]; rfl

/-! ### nodes -/
structure PairAt (X : Nat → Prop) (w : World) (kp : Option Addr) (kc : Nat) (vp : Option Addr) (vc : Nat) (k v : Bs) : Prop where
  h1 : k.length ≤ kc
  h2 : v.length ≤ vc
  kX : ∀ ad, kp = some ad → 0 < k.length → X ad.block
  vX : ∀ ad, vp = some ad → 0 < v.length → X ad.block
  k : Row w kp (k.map U8)
  v : Row w vp (v.map U8)
theorem PairAt.old {X : Nat → Prop} {u w : World} {kp vp : Option Addr} {kc vc : Nat} {k v : Bs} (h : PairAt X u kp kc vp vc k v) (hf : Fr [] u w) : PairAt X w kp kc vp vc k v := ⟨h.h1, h.h2, h.kX, h.vX, h.k.old hf, h.v.old hf⟩
theorem PairAt.off {X : Nat → Prop} {u w : World} {F : List Nat} {kp vp : Option Addr} {kc vc : Nat} {k v : Bs} (h : PairAt X u kp kc vp vc k v) (hf : Fr F u w) (hF : ∀ x ∈ F, ¬ X x) : PairAt X w kp kc vp vc k v :=
  ⟨h.h1, h.h2, h.kX, h.vX, row_fr0 hf h.k fun ad hp hn hx => hF _ hx (h.kX ad hp (by rw [List.length_map] at hn; exact hn)), row_fr0 hf h.v fun ad hp hn hx => hF _ hx (h.vX ad hp (by rw [List.length_map] at hn; exact hn))⟩
theorem PairAt.mono {X Y : Nat → Prop} {w : World} {kp vp : Option Addr} {kc vc : Nat} {k v : Bs} (h : PairAt X w kp kc vp vc k v) (hXY : ∀ b, b < w.heap.size → X b → Y b) : PairAt Y w kp kc vp vc k v :=
  ⟨h.h1, h.h2, fun ad ha hn => hXY _ (row_lt h.k ha hn) (h.kX ad ha hn), fun ad ha hn => hXY _ (row_lt h.v ha hn) (h.vX ad ha hn), h.k, h.v⟩
/-- What stays true of a node. -/
structure NodeF (X : Nat → Prop) (w0 : World) (ad : Addr) (kp : Option Addr) (kc : Nat) (vp : Option Addr) (vc : Nat) (pl pr : Option Addr) (k v : Bs) (l r : Tr) : Prop where
  ck : ∀ {w}, Fr [] w0 w → w.cell? (Addr.add (Addr.add ad 0) 0) = some (.slice kp k.length kc)
  cv : ∀ {w}, Fr [] w0 w → w.cell? (Addr.add (Addr.add ad 0) 1) = some (.slice vp v.length vc)
  cl : ∀ {w}, Fr [] w0 w → w.cell? (Addr.add ad 2) = some (.pointer pl)
  cr : ∀ {w}, Fr [] w0 w → w.cell? (Addr.add ad 3) = some (.pointer pr)
  cd : ∀ {w}, Fr [] w0 w → w.cell? (Addr.add ad 4) = some (.int .i64 ((1 + max l.dep r.dep : Nat) : Int))
  cc : ∀ {w}, Fr [] w0 w → w.cell? (Addr.add ad 5) = some (.int .i64 ((1 + l.cnt + r.cnt : Nat) : Int))
  ta : ∀ {w}, Fr [] w0 w → TreeAt X w l pl
  tb : ∀ {w}, Fr [] w0 w → TreeAt X w r pr
  pr : ∀ {w}, Fr [] w0 w → PairAt X w kp kc vp vc k v
theorem TreeAt.openF {X : Nat → Prop} {w0 : World} {k v : Bs} {l r : Tr} {p : Option Addr} (h : TreeAt X w0 (.node k v l r) p) : ∃ ad kp kc vp vc pl pr, p = .some ad ∧ NodeF X w0 ad kp kc vp vc pl pr k v l r := by
  obtain ⟨b, kp, kc, vp, vc, pl, pr, hp, hb, hX, ⟨h1, hk, hkX⟩, ⟨h2, hv, hvX⟩, hl, hr⟩ := h
  refine ⟨⟨b, 0, .none⟩, kp, kc, vp, vc, pl, pr, hp, fun f => ?_, fun f => ?_, fun f => ?_, fun f => ?_, fun f => ?_, fun f => ?_, fun f => hl.old f, fun f => hr.old f, fun f => ⟨h1, h2, hkX, hvX, hk.old f, hv.old f⟩⟩
  all_goals
    simp only [add_mk]
    rw [(hb.fr f (by simp)).cell]
    rfl
theorem depth_c {X : Nat → Prop} {w : World} {T : Tr} {p : Option Addr} (h : TreeAt X w T p) : Calls prog 166 #[.pointer p] w fun e w' => e = .returned (.int .i64 (T.dep : Int)) ∧ w' = w := by
  refine tree_depth.link ?_
  cases T with
  | nil => obtain rfl : p = none := h; exact bT rfl ⟨rfl, rfl⟩
  | node k v l r =>
    obtain ⟨ad, kp, kc, vp, vc, pl, pr, rfl, n⟩ := h.openF
    exact bF rfl ⟨_, rfl, _, n.cd (Fr.refl _ _), rfl, rfl⟩
theorem count_c {X : Nat → Prop} {w : World} {T : Tr} {p : Option Addr} (h : TreeAt X w T p) : Calls prog 115 #[.pointer p] w fun e w' => e = .returned (.int .i64 (T.cnt : Int)) ∧ w' = w := by
  refine tree_count.link ?_
  cases T with
  | nil => obtain rfl : p = none := h; exact bT rfl ⟨rfl, rfl⟩
  | node k v l r =>
    obtain ⟨ad, kp, kc, vp, vc, pl, pr, rfl, n⟩ := h.openF
    exact bF rfl ⟨_, rfl, _, n.cc (Fr.refl _ _), rfl, rfl⟩
theorem join_c {X : Nat → Prop} {w : World} {L R : Tr} {pl pr kp vp : Option Addr} {kc vc : Nat} {k v : Bs} (hX : NewX X w) (hL : TreeAt X w L pl) (hR : TreeAt X w R pr) (hp : PairAt X w kp kc vp vc k v) (hb : L.cnt + R.cnt ≤ 2000000) :
    Calls prog 149 #[.pointer pl, .agg #[.slice kp k.length kc, .slice vp v.length vc], .pointer pr] w fun e w' => ∃ p', e = .returned (.pointer p') ∧ Fr [] w w' ∧ TreeAt X w' (.node k v L R) p' := by
  refine tree_join.link fun k1 w2 s2 => ?_
  have f2 := s2.fr
  refine (depth_c (hL.old f2)).mono ?_
  rintro e w ⟨rfl, rfl⟩
  refine ⟨_, rfl, fun _ _ => rfl, (depth_c (hR.old f2)).mono ?_⟩
  rintro e w ⟨rfl, rfl⟩
  refine ⟨_, rfl, fun _ _ => rfl, (count_c (hL.old f2)).mono ?_⟩
  rintro e w ⟨rfl, rfl⟩
  refine ⟨_, rfl, fun _ _ => rfl, (count_c (hR.old f2)).mono ?_⟩
  rintro e w ⟨rfl, rfl⟩
  refine ⟨_, rfl, fun _ _ => rfl, fun k16 w17 s17 b17 => ⟨_, rfl, f2.trans' s17.fr, ?_⟩⟩
  have f := f2.trans' s17.fr
  have dL := L.dep_le
  have dR := R.dep_le
  have e1 : (if (R.dep : Int) > (L.dep : Int) then (R.dep : Int) else (L.dep : Int)) = ((max L.dep R.dep : Nat) : Int) := by split <;> omega
  have e2 : IntKind.wrap .i64 (1 + ((max L.dep R.dep : Nat) : Int)) = ((1 + max L.dep R.dep : Nat) : Int) := by rw [wrapi (by omega) (by omega)]; omega
  have e3 : IntKind.wrap .i64 (IntKind.wrap .i64 (1 + (L.cnt : Int)) + (R.cnt : Int)) = ((1 + L.cnt + R.cnt : Nat) : Int) := by rw [wrapi (n := 1 + (L.cnt : Int)) (by omega) (by omega), wrapi (by omega) (by omega)]; omega
  rw [e1, e2, e3] at b17
  exact ⟨k16, kp, kc, vp, vc, pl, pr, rfl, b17, hX _ (by have := (g_new1 s17).1; have := f2.size; omega), ⟨hp.h1, hp.k.old f, hp.kX⟩, ⟨hp.h2, hp.v.old f, hp.vX⟩, hL.old f, hR.old f⟩
end Go.Proofs.YtalegpdnhkopmaaDoor.Tree
