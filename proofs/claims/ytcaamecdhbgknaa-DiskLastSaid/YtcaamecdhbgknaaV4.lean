/- What is reckoned of the frame alone is what the machine reckons, in every world. -/
import Derived.Test.YtcaamecdhbgknaaV3
import Derived.Lib.IndexEntry
namespace Go.V
open Go.RowKit
set_option linter.unusedVariables false
set_option linter.unusedSimpArgs false
section
variable {P : Program} {o : Oper} {s : St} {v : World} {a : Act} {w : World}

def Got (P : Program) (s : St) (o : Oper) (a : Act) (K : AV → Prop) : Prop := ∃ x av, Yld P o a (fun _ => True) x ∧ AVok s av x ∧ K av

theorem got {K : AV → Prop} {x : Value} {av : AV} (h : ∀ w, (execOp a.eval o).run P w = .ok (.value x) w) (h1 : AVok s av x) (h2 : K av) : Got P s o a K := ⟨x, av, fun w _ => h w, h1, h2⟩

theorem toList_eq (p q : ByteArray) : (p.data.toList == q.data.toList) = decide (p = q) := by
  rw [Bool.eq_iff_iff]
  simp only [beq_iff_eq, decide_eq_true_eq]
  constructor
  · intro h; cases p; cases q; congr; exact Array.toList_inj.1 h
  · intro h; rw [h]

theorem eqGuard_quiet {op : BinOp} {t : TypeId} {x y : Operand} {p q : Value} (h1 : ∀ c, p ≠ .agg c) (h2 : p ≠ .nilIface) (w : World) : (eqGuard op t x y p q).run P w = .ok () w := by
  unfold eqGuard
  cases p <;> first | exact absurd rfl h2 | exact absurd rfl (h1 _) | (cases op <;> simp)

theorem run_intBin {op : BinOp} {t : TypeId} {k : IntKind} {p q : Int} {K : Value → Prop} {pr : Prop} (h : intBin op k p q K = some pr) (hp : pr) : ∃ z, K z ∧ ∀ w, (binOp op t (.int k p) (.int k q)).run P w = .ok z w := by
  cases op <;> simp only [intBin, Option.some.injEq, reduceCtorEq] at h <;> subst h
  case quo => exact ⟨_, hp.2, fun w => by simp [binOp, Op.intDiv, hp.1]⟩
  case rem => exact ⟨_, hp.2, fun w => by simp [binOp, Op.intDiv, hp.1]⟩
  case and => exact ⟨_, hp, fun w => by simp [binOp, intBits_and]⟩
  case or => exact ⟨_, hp, fun w => by simp [binOp, intBits_or]⟩
  case xor => exact ⟨_, hp, fun w => by simp [binOp, intBits_xor]⟩
  case andNot => exact ⟨_, hp, fun w => by simp [binOp, intBits_andNot]⟩
  all_goals (refine ⟨_, hp, fun w => ?_⟩; simp [binOp, Op.intArith, Op.intCmp])
  all_goals (first | rfl | (simp [bne]; done) | (rw [Bool.eq_iff_iff]; simp))
theorem run_strBin {op : BinOp} {t : TypeId} {p q : ByteArray} {K : Value → Prop} {pr : Prop} (h : strBin op p q K = some pr) (hp : pr) : ∃ z, K z ∧ ∀ w, (binOp op t (.string p) (.string q)).run P w = .ok z w := by
  cases op <;> simp only [strBin, Option.some.injEq, reduceCtorEq] at h <;> subst h
  case add =>
    refine ⟨_, hp.2, fun w => ?_⟩
    have : ¬ (((p.size + q.size : Nat) : Int) > IntKind.i64.max) := by
      have := hp.1
      have e : IntKind.i64.max = 9223372036854775807 := by decide
      rw [e]; omega
    simp only [binOp, Op.stringOp, this, if_false]; rfl
  all_goals (refine ⟨_, hp, fun w => ?_⟩; simp only [binOp, Op.stringOp, ByteArray.toList_eq, toList_eq]; rfl)

theorem eqIn_bool {t : TypeId} (n : Nat) (p q : Bool) (hd : P.underlying t = some .bool) (w : World) : (Op.equalIn (n + 1) t (.bool p) (.bool q)).run P w = .ok (p == q) w := by simp [Op.equalIn, run_underlying hd]
theorem eqIn_ptr {t e : TypeId} (n : Nat) (p : Option Addr) (hd : P.underlying t = some (.pointer e)) (w : World) : (Op.equalIn (n + 1) t (.pointer p) (.pointer none)).run P w = .ok p.isNone w := by
  cases p <;> simp [Op.equalIn, run_underlying hd]
theorem eqIn_slice {t e : TypeId} (n : Nat) (p : Option Addr) (l c l' c' : Nat) (hd : P.underlying t = some (.slice e)) (w : World) : (Op.equalIn (n + 1) t (.slice p l c) (.slice none l' c')).run P w = .ok p.isNone w := by
  cases p <;> simp [Op.equalIn, run_underlying hd]
theorem eqIn_map {t k e : TypeId} (n : Nat) (p : Option Nat) (hd : P.underlying t = some (.map k e)) (w : World) : (Op.equalIn (n + 1) t (.map p) (.map none)).run P w = .ok p.isNone w := by
  cases p <;> simp [Op.equalIn, run_underlying hd]

/-- No number, no text, no aggregate, not nil of an interface. -/
def Odd : Value → Bool
  | .int .. | .string _ | .float .. | .complex .. | .agg _ | .nilIface => false
  | _ => true

theorem run_eqAV {t : TypeId} {d : TypeDesc} {x y : AV} {p q : Value} {b : Bool} (hd : P.underlying t = some d) (h : eqAV d x y = some b) (hx : AVok s x p) (hy : AVok s y q) (w : World) :
    (Op.equal t p q).run P w = .ok b w ∧ Odd p = true := by
  unfold eqAV at h
  split at h
  · split at h
    · injection h with h; subst h
      obtain rfl : p = _ := hx
      obtain rfl : q = _ := hy
      exact ⟨eqIn_bool 9999 _ _ hd w, rfl⟩
    · cases h
  · split at h
    · obtain rfl : q = _ := hy
      split at h
      · injection h with h; subst h
        obtain rfl : p = _ := hx
        exact ⟨eqIn_ptr 9999 _ hd w, rfl⟩
      · injection h with h; subst h
        obtain rfl : p = _ := hx
        exact ⟨eqIn_ptr 9999 _ hd w, rfl⟩
      · injection h with h; subst h
        obtain ⟨pb, _, rfl⟩ := hx
        exact ⟨eqIn_ptr 9999 _ hd w, rfl⟩
      · cases h
    · cases h
  · split at h
    · obtain rfl : q = _ := hy
      split at h
      · injection h with h; subst h
        obtain rfl : p = _ := hx
        exact ⟨eqIn_slice 9999 _ _ _ _ _ hd w, rfl⟩
      · injection h with h; subst h
        obtain ⟨pb, _, rfl⟩ := hx
        exact ⟨eqIn_slice 9999 _ _ _ _ _ hd w, rfl⟩
      · cases h
    · cases h
  · split at h
    · obtain rfl : q = _ := hy
      split at h
      · injection h with h; subst h
        obtain rfl : p = _ := hx
        exact ⟨eqIn_map 9999 _ hd w, rfl⟩
      · cases h
    · cases h
  · cases h
theorem binOp_eql_odd {t : TypeId} {p q : Value} {b : Bool} (h : (Op.equal t p q).run P w = .ok b w) (ho : Odd p = true) : (binOp .eql t p q).run P w = .ok (.bool b) w := by
  cases p <;> first | (simp [Odd] at ho; done) | (simp only [binOp, Sem.run_bind, h, Result.andThen_ok]; rfl)
theorem binOp_neq_odd {t : TypeId} {p q : Value} {b : Bool} (h : (Op.equal t p q).run P w = .ok b w) (ho : Odd p = true) : (binOp .neq t p q).run P w = .ok (.bool !b) w := by
  cases p <;> first | (simp [Odd] at ho; done) | (simp only [binOp, Sem.run_bind, h, Result.andThen_ok]; rfl)

theorem binR_got {op : BinOp} {t yt : TypeId} {x y : Operand} {K : AV → Prop} {pr : Prop} (ho : o.op = .binOp op t x y yt) (h : binR P op t (s.ev x) (s.ev y) K = some pr) (hp : pr) (hr : Rel s v a w) : Got P s o a K := by
  have hx := hr.ev x
  have hy := hr.ev y
  have run : ∀ z, (∀ c, a.eval x ≠ .agg c) → a.eval x ≠ .nilIface → (∀ w, (binOp op t (a.eval x) (a.eval y)).run P w = .ok z w) → ∀ w, (execOp a.eval o).run P w = .ok (.value z) w := fun z h1 h2 h3 w => by
    simp [execOp, ho, eqGuard_quiet h1 h2, h3]
  unfold binR at h
  split at h
  · split at h
    · rename_i k p k' q ex ey
      rw [ex] at hx; rw [ey] at hy
      have hx : a.eval x = _ := hx
      have hy : a.eval y = _ := hy
      injection h with h; subst h
      refine got (run (.int k (k.wrap (p * 2 ^ (min q.toNat k.bits)))) (by simp [hx]) (by simp [hx]) (fun w => ?_)) (av := .v _) rfl hp.2
      have : ¬ q < 0 := by have := hp.1; omega
      simp [hx, hy, binOp, Op.shift, this]
    · cases h
  · split at h
    · rename_i k p k' q ex ey
      rw [ex] at hx; rw [ey] at hy
      have hx : a.eval x = _ := hx
      have hy : a.eval y = _ := hy
      injection h with h; subst h
      refine got (run (.int k (p.fdiv (2 ^ (min q.toNat k.bits)))) (by simp [hx]) (by simp [hx]) (fun w => ?_)) (av := .v _) rfl hp.2
      have : ¬ q < 0 := by have := hp.1; omega
      simp [hx, hy, binOp, Op.shift, this]
    · cases h
  · split at h
    · rename_i k p k' q ex ey
      rw [ex] at hx; rw [ey] at hy
      have hx : a.eval x = _ := hx
      have hy : a.eval y = _ := hy
      split at h
      · rename_i e; subst e
        obtain ⟨z, hz, hrun⟩ := run_intBin (P := P) (t := t) h hp
        exact got (run z (by simp [hx]) (by simp [hx]) (fun w => by rw [hx, hy]; exact hrun w)) (av := .v z) rfl hz
      · cases h
    · rename_i p q ex ey
      rw [ex] at hx; rw [ey] at hy
      have hx : a.eval x = _ := hx
      have hy : a.eval y = _ := hy
      obtain ⟨z, hz, hrun⟩ := run_strBin (P := P) (t := t) h hp
      exact got (run z (by simp [hx]) (by simp [hx]) (fun w => by rw [hx, hy]; exact hrun w)) (av := .v z) rfl hz
    · split at h
      · rename_i d hd
        split at h
        · rename_i b hb
          have e := fun w => run_eqAV (P := P) (s := s) hd hb hx hy w
          have g1 : ∀ c, a.eval x ≠ .agg c := fun c hc => by have := (e w).2; rw [hc] at this; simp [Odd] at this
          have g2 : a.eval x ≠ .nilIface := fun hc => by have := (e w).2; rw [hc] at this; simp [Odd] at this
          split at h
          · injection h with h; subst h
            exact got (run (.bool b) g1 g2 (fun w => binOp_eql_odd (e w).1 (e w).2)) (av := .v _) rfl hp
          · injection h with h; subst h
            exact got (run (.bool !b) g1 g2 (fun w => binOp_neq_odd (e w).1 (e w).2)) (av := .v _) rfl hp
          · cases h
        · cases h
      · cases h

end
end Go.V
