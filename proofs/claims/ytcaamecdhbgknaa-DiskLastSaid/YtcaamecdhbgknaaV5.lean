/- What is reckoned of the frame alone, the rest of it. -/
import Derived.Test.YtcaamecdhbgknaaV4
namespace Go.V
open Go.RowKit
set_option linter.unusedVariables false
set_option linter.unusedSimpArgs false
section
variable {P : Program} {o : Oper} {s : St} {v : World} {a : Act} {w : World}

theorem unR_got {op : UnOp} {t : TypeId} {x : Operand} {K : AV → Prop} {pr : Prop} (ho : o.op = .unOp op t x) (h : unR op (s.ev x) K = some pr) (hp : pr) (hr : Rel s v a w) : Got P s o a K := by
  have hx := hr.ev x
  unfold unR at h
  split at h
  · rename_i b e
    rw [e] at hx; have hx : a.eval x = _ := hx
    injection h with h; subst h
    exact got (fun w => by simp [execOp, ho, hx, Op.unary]) (av := .v _) rfl hp
  · rename_i k n e
    rw [e] at hx; have hx : a.eval x = _ := hx
    injection h with h; subst h
    exact got (fun w => by simp [execOp, ho, hx, Op.unary, Op.intArith]) (av := .v _) rfl hp
  · cases h
  · cases h

theorem convR_got {src dst : TypeId} {x : Operand} {K : AV → Prop} {pr : Prop} (ho : o.op = .convert src dst x) (h : convR P src dst (s.ev x) K = some pr) (hp : pr) (hr : Rel s v a w) : Got P s o a K := by
  have hx := hr.ev x
  unfold convR at h
  split at h
  · rename_i d k n m e1 e2 e
    rw [e] at hx; have hx : a.eval x = _ := hx
    injection h with h; subst h
    exact got (fun w => by simp [execOp, ho, hx, convert, run_underlying e1, run_underlying e2, Conv.intToInt]) (av := .v _) rfl hp
  · rename_i d m e1 e2 e
    rw [e] at hx; have hx : a.eval x = _ := hx
    injection h with h; subst h
    exact got (fun w => by simp [execOp, ho, hx, convert, run_underlying e1, run_underlying e2]) (av := .v _) rfl hp
  · cases h

theorem optInt_sound {d n : Int} {x : Option Operand} (h : optInt s d x = some n) (hr : Rel s v a w) : (x = none ∧ n = d) ∨ ∃ y k, x = some y ∧ a.eval y = .int k n := by
  unfold optInt at h
  split at h
  · injection h with h; exact .inl ⟨rfl, h.symm⟩
  · rename_i y
    split at h
    · rename_i k m e; injection h with h; subst h; exact .inr ⟨y, k, rfl, val_sound e hr⟩
    · cases h

theorem run_bound {k : IntKind} {n : Int} {y : Nat} {c : BoundsCode} (h0 : 0 ≤ n) (h1 : n ≤ y) (w : World) : (Instr.sliceBound (.int k n) y c).run P w = .ok n.toNat w := by
  simp [Instr.sliceBound, asIntOf, h0, h1]

theorem run_bounds2 {b : Bool} {n c : Nat} {l h : Int} {lo hi : Option Operand} (hl : optInt s 0 lo = some l) (hh : optInt s n hi = some h) (hr : Rel s v a w) (h0 : 0 ≤ l) (h1 : l ≤ h) (h2 : h ≤ c) (w : World) :
    (Instr.sliceBounds b n c (lo.map a.eval) (hi.map a.eval) none).run P w = .ok (l.toNat, h.toNat, c) w := by
  rcases optInt_sound hl hr with ⟨rfl, rfl⟩ | ⟨y, k, rfl, e⟩ <;> rcases optInt_sound hh hr with ⟨rfl, rfl⟩ | ⟨y', k', rfl, e'⟩
  · simp [Instr.sliceBounds]
  · cases b <;> simp [Instr.sliceBounds, e', run_bound (by omega) h2]
  · cases b <;> simp [Instr.sliceBounds, e, run_bound h0 h1]
  · have hh : l ≤ (h.toNat : Int) := by omega
    cases b <;> simp [Instr.sliceBounds, e, e', run_bound (P := P) (k := k') (by omega) h2, run_bound (P := P) (k := k) h0 hh]

theorem run_bounds3 {n c : Nat} {l h m : Int} {lo hi mx : Option Operand} {y : Operand} (hl : optInt s 0 lo = some l) (hhi : hi = some y) (hh : optInt s n hi = some h) (hmx : mx ≠ none) (hm : optInt s c mx = some m) (hr : Rel s v a w) (h0 : 0 ≤ l) (h1 : l ≤ h) (h2 : h ≤ m) (h3 : m ≤ c) (w : World) :
    (Instr.sliceBounds true n c (lo.map a.eval) (hi.map a.eval) (mx.map a.eval)).run P w = .ok (l.toNat, h.toNat, m.toNat) w := by
  rcases optInt_sound hm hr with ⟨rfl, rfl⟩ | ⟨ym, km, rfl, em⟩
  · exact absurd rfl hmx
  subst hhi
  rcases optInt_sound hh hr with ⟨hx, _⟩ | ⟨y', k', hx, e'⟩
  · cases hx
  injection hx with hx; subst hx
  have a1 : h ≤ (m.toNat : Int) := by omega
  have a2 : l ≤ (h.toNat : Int) := by omega
  rcases optInt_sound hl hr with ⟨rfl, rfl⟩ | ⟨yl, k, rfl, e⟩
  · simp [Instr.sliceBounds, em, e', run_bound (P := P) (k := km) (by omega) h3, run_bound (P := P) (k := k') (by omega) a1]
  · simp [Instr.sliceBounds, em, e', e, run_bound (P := P) (k := km) (by omega) h3, run_bound (P := P) (k := k') (by omega) a1, run_bound (P := P) (k := k) h0 a2]

theorem sliceR_got {t : TypeId} {x : Operand} {lo hi mx : Option Operand} {K : AV → Prop} {pr : Prop} (ho : o.op = .slice t x lo hi mx) (h : sliceR P s t x lo hi mx K = some pr) (hp : pr) (hr : Rel s v a w) : Got P s o a K := by
  unfold sliceR at h
  split at h
  · rename_i hu
    split at h
    · rename_i b hx
      split at h
      · rename_i l hh hl hhi
        injection h with h; subst h
        obtain ⟨⟨h0, h1, h2⟩, hk⟩ := hp
        refine got (fun w => ?_) (av := .v _) rfl hk
        have hx' := val_sound hx hr
        simp [execOp, ho, hx', Instr.sliceAt, Instr.slice, run_underlying hu, run_bounds2 (P := P) (b := false) hl hhi hr h0 h1 h2]
      · cases h
    · cases h
  · rename_i e hu
    split at h
    · rename_i p n c z hx hz
      split at h
      · split at h
        · rename_i l hh hl hhi
          injection h with h; subst h
          obtain ⟨⟨h0, h1, h2⟩, hk⟩ := hp
          refine got (fun w => ?_) (av := .v _) rfl hk
          have hx' := val_sound hx hr
          simp [execOp, ho, hx', Instr.sliceAt, Instr.slice, run_underlying hu, run_bounds2 (P := P) (b := true) hl hhi hr h0 h1 h2, run_sizeN hz, subA]
        · cases h
      · rename_i ym
        split at h
        · rename_i l _ hh m hl hhi hm
          injection h with h; subst h
          obtain ⟨⟨h0, h1, h2, h3⟩, hk⟩ := hp
          refine got (fun w => ?_) (av := .v _) rfl hk
          have hx' := val_sound hx hr
          have := run_bounds3 (P := P) hl rfl hm (by simp) hhi hr h0 h1 h2 h3
          simp only [Option.map_some] at this
          simp [execOp, ho, hx', Instr.sliceAt, Instr.slice, run_underlying hu, this, run_sizeN hz, subA]
        · cases h
    · cases h
  · rename_i n e hu
    split at h
    · rename_i ad z hx hz
      split at h
      · rename_i l hh hl hhi
        injection h with h; subst h
        obtain ⟨⟨h0, h1, h2⟩, hk⟩ := hp
        refine got (fun w => ?_) (av := .v _) rfl hk
        have hx' := hr.ev x
        rw [hx] at hx'
        have hx' : a.eval x = _ := hx'
        simp [execOp, ho, hx', Instr.sliceAt, Instr.sureAddr, run_underlying hu, run_bounds2 (P := P) (b := false) hl hhi hr h0 h1 h2, run_sizeN hz, subA]
        split <;> rfl
      · cases h
    · cases h
  · cases h

theorem indexAddrR_got {t : TypeId} {x i : Operand} {K : AV → Prop} {pr : Prop} (ho : o.op = .indexAddr t x i) (h : indexAddrR P s t x i K = some pr) (hp : pr) (hr : Rel s v a w) : Got P s o a K := by
  unfold indexAddrR at h
  split at h
  · rename_i e hu
    split at h
    · rename_i p l c k n z hx hi hz
      injection h with h; subst h
      obtain ⟨ad, rfl, ⟨h0, h1⟩, hk⟩ := hp
      refine got (fun w => ?_) (av := .a _) rfl hk
      simp [execOp, ho, val_sound hx hr, val_sound hi hr, Instr.indexAt, run_underlying hu, asIntOf, h0, h1, run_sizeN hz]
    · cases h
  · rename_i len e hu
    split at h
    · rename_i ad z hx hz
      split at h
      · rename_i k n hi
        injection h with h; subst h
        obtain ⟨⟨h0, h1⟩, hk⟩ := hp
        have hx' := hr.ev x
        rw [hx] at hx'; have hx' : a.eval x = _ := hx'
        refine got (fun w => ?_) (av := .a _) rfl hk
        simp [execOp, ho, hx', val_sound hi hr, Instr.indexAt, run_underlying hu, asIntOf, Instr.sureAddr, h0, h1, run_sizeN hz]
      · cases h
    · rename_i y z hx hz
      split at h
      · rename_i k n hi
        injection h with h; subst h
        obtain ⟨ad, rfl, ⟨h0, h1⟩, hk⟩ := hp
        have hx' := hr.ev x
        rw [hx] at hx'; have hx' : a.eval x = _ := hx'
        refine got (fun w => ?_) (av := .a _) rfl hk
        simp [execOp, ho, hx', val_sound hi hr, Instr.indexAt, run_underlying hu, asIntOf, Instr.sureAddr, h0, h1, run_sizeN hz]
      · cases h
    · rename_i k off z hx hz
      split at h
      · rename_i kn n
        injection h with h; subst h
        obtain ⟨⟨h0, h1⟩, hk⟩ := hp
        have hx' := hr.ev x
        rw [hx] at hx'
        obtain ⟨pb, hpb, hx'⟩ := hx'
        refine got (fun w => ?_) (av := .r _ _) ⟨pb, hpb, rfl⟩ hk
        have hc : a.eval (.const (.int kn n)) = .int kn n := rfl
        simp [execOp, ho, hx', hc, Instr.indexAt, run_underlying hu, asIntOf, Instr.sureAddr, h0, h1, run_sizeN hz, add_mk]
      · cases h
    · cases h
  · cases h

theorem indexR_got {t : TypeId} {x i : Operand} {K : AV → Prop} {pr : Prop} (ho : o.op = .index t x i) (h : indexR P s t x i K = some pr) (hp : pr) (hr : Rel s v a w) : Got P s o a K := by
  unfold indexR at h
  split at h
  · rename_i hu
    split at h
    · rename_i b k n hx hi
      injection h with h; subst h
      obtain ⟨⟨h0, h1⟩, hk⟩ := hp
      refine got (fun w => ?_) (av := .v _) rfl hk
      obtain ⟨y, hy⟩ : ∃ y, b.data.toList.getD n.toNat 0 = y := ⟨_, rfl⟩
      have e : b[n.toNat]? = some y := by
        rw [← hy]
        have hlt : n.toNat < b.data.toList.length := by
          have : b.data.toList.length = b.size := Array.length_toList
          omega
        have h2 : n.toNat < b.size := by omega
        rw [List.getD_eq_getElem?_getD, List.getElem?_eq_getElem hlt, getElem?_pos b n.toNat h2]
        rfl
      simp only [execOp, ho, val_sound hx hr, val_sound hi hr, Instr.index, Sem.run_bind, run_underlying hu, asIntOf, Sem.run_pure, Result.andThen_ok, h0, if_true, e, byteAt, hy]
    · cases h
  · rename_i len e hu
    split at h
    · rename_i cs k n m hx hi ha
      split at h
      · rename_i d hd
        split at h
        · rename_i lf hl
          injection h with h; subst h
          obtain ⟨⟨h0, h1⟩, hk⟩ := hp
          obtain ⟨vs, hlen, _, hk⟩ := exL_sound hk
          match vs, hlen, hk with
          | [y], _, hk =>
            obtain ⟨hc, hk⟩ := hk
            refine got (fun w => ?_) (av := .v y) rfl hk
            have hs : ∀ w, (isAgg e).run P w = .ok false w ∧ (sizeOf e).run P w = .ok m w := fun w => aggOf_isAgg ha w
            have h1' : n < (len : Int) := h1
            have hc' : cs[n.toNat * m]? = some y := hc
            simp [execOp, ho, val_sound hx hr, val_sound hi hr, Instr.index, run_underlying hu, asIntOf, h0, h1', (hs w).1, (hs w).2, part, hc']
        · cases h
      · cases h
    · cases h
  · cases h

theorem fieldR_got {t : TypeId} {x : Operand} {f : Nat} {K : AV → Prop} {pr : Prop} (ho : o.op = .field t x f) (h : fieldR P s t x f K = some pr) (hp : pr) (hr : Rel s v a w) : Got P s o a K := by
  unfold fieldR at h
  split at h
  · rename_i fs hu
    split at h
    · rename_i fl cs hf hx
      split at h
      · rename_i n ha
        injection h with h; subst h
        refine got (fun w => ?_) (av := .v _) rfl hp
        obtain ⟨h1, h2⟩ := aggOf_isAgg ha w
        simp [execOp, ho, val_sound hx hr, Instr.field, run_underlying hu, hf, asAgg, part, h1, h2]
      · rename_i n ha
        split at h
        · rename_i y hy
          injection h with h; subst h
          refine got (fun w => ?_) (av := .v _) rfl hp
          obtain ⟨h1, h2⟩ := aggOf_isAgg ha w
          simp [execOp, ho, val_sound hx hr, Instr.field, run_underlying hu, hf, asAgg, part, h1, hy]
        · cases h
      · cases h
    · cases h
  · cases h

theorem builtinR_got {b : Builtin} {args : Array Operand} {ts : Array TypeId} {K : AV → Prop} {pr : Prop} (ho : o.op = .call { callee := .builtin b, args := args, argTypes := ts })
    (h : builtinR s b args.toList (match ts[0]? with | some t => P.underlying t | none => none) K = some pr) (hp : pr) (hr : Rel s v a w) : Got P s o a K := by
  obtain ⟨args⟩ := args
  simp only at h
  unfold builtinR at h
  split at h
  · rename_i x
    split at h
    all_goals first | (cases h; done) | skip
    all_goals
      (first
       | (rename_i hd hx
          injection h with h; subst h
          cases hts : ts[0]? with
          | none => rw [hts] at hd; cases hd
          | some t =>
            rw [hts] at hd
            have hd : P.underlying t = _ := hd
            have hx' := hr.ev x
            rw [hx] at hx'
            refine got (fun w => ?_) (av := .v _) rfl hp
            first
            | (have hx' : a.eval x = _ := hx'
               simp [execOp, ho, resolve, invoke, builtin, Builtin.len_, hts, run_underlying hd, hx', goInt]; done)
            | (obtain ⟨pb, _, hx'⟩ := hx'
               simp [execOp, ho, resolve, invoke, builtin, Builtin.len_, hts, run_underlying hd, hx', goInt]; done))
       | (rename_i hd
          injection h with h; subst h
          cases hts : ts[0]? with
          | none => rw [hts] at hd; cases hd
          | some t =>
            rw [hts] at hd
            have hd : P.underlying t = _ := hd
            refine got (fun w => ?_) (av := .v _) rfl hp
            simp [execOp, ho, resolve, invoke, builtin, Builtin.len_, hts, run_underlying hd, goInt]; done))
  · rename_i x
    split at h
    all_goals first | (cases h; done) | skip
    all_goals
      (first
       | (rename_i hd hx
          injection h with h; subst h
          cases hts : ts[0]? with
          | none => rw [hts] at hd; cases hd
          | some t =>
            rw [hts] at hd
            have hd : P.underlying t = _ := hd
            have hx' := hr.ev x
            rw [hx] at hx'
            refine got (fun w => ?_) (av := .v _) rfl hp
            first
            | (have hx' : a.eval x = _ := hx'
               simp [execOp, ho, resolve, invoke, builtin, Builtin.cap_, hts, run_underlying hd, hx', goInt]; done)
            | (obtain ⟨pb, _, hx'⟩ := hx'
               simp [execOp, ho, resolve, invoke, builtin, Builtin.cap_, hts, run_underlying hd, hx', goInt]; done))
       | (rename_i hd
          injection h with h; subst h
          cases hts : ts[0]? with
          | none => rw [hts] at hd; cases hd
          | some t =>
            rw [hts] at hd
            have hd : P.underlying t = _ := hd
            refine got (fun w => ?_) (av := .v _) rfl hp
            simp [execOp, ho, resolve, invoke, builtin, Builtin.cap_, hts, run_underlying hd, goInt]; done))
  · rename_i x y
    split at h
    · rename_i k p k' q hx hy
      injection h with h; subst h
      have hx' := hr.ev x
      have hy' := hr.ev y
      rw [hx] at hx'; rw [hy] at hy'
      have hx' : a.eval x = _ := hx'
      have hy' : a.eval y = _ := hy'
      refine got (fun w => ?_) (av := .v _) rfl hp
      simp [execOp, ho, resolve, invoke, builtin, Builtin.min_, Builtin.min2, hx', hy']
    · cases h
  · rename_i x y
    split at h
    · rename_i k p k' q hx hy
      injection h with h; subst h
      have hx' := hr.ev x
      have hy' := hr.ev y
      rw [hx] at hx'; rw [hy] at hy'
      have hx' : a.eval x = _ := hx'
      have hy' : a.eval y = _ := hy'
      refine got (fun w => ?_) (av := .v _) rfl hp
      simp [execOp, ho, resolve, invoke, builtin, Builtin.max_, Builtin.max2, hx', hy']
    · cases h
  · cases h

theorem partsR_sound {l : List (Nat × Operand)} : ∀ {ps : List (Nat × Value)}, partsR s l = some ps → Rel s v a w → l.map (fun p => (p.1, a.eval p.2)) = ps := by
  induction l with
  | nil => intro ps h _; simp [partsR] at h; simp [h]
  | cons x l ih =>
    intro ps h hr
    obtain ⟨i, y⟩ := x
    simp only [partsR] at h
    split at h
    · rename_i z zs h1 h2
      injection h with h; subst h
      simp [val_sound h1 hr, ih h2 hr]
    · cases h
theorem placesR_sound {l : List Field} : ∀ {pl : List (Nat × Nat)}, placesR P l = some pl → ∀ w, (l.mapM (m := Sem) fun f => do pure (f.offset, ← sizeOf f.type)).run P w = .ok pl w := by
  induction l with
  | nil => intro pl h w; simp [placesR] at h; subst h; rfl
  | cons f l ih =>
    intro pl h w
    simp only [placesR] at h
    split at h
    · rename_i n zs h1 h2
      injection h with h; subst h
      have := ih h2 w
      simp only [map_pure, bind_pure_comp] at this
      simp [List.mapM_cons, run_sizeN h1, this]
    · cases h
theorem spl_arr (cs : Array Value) (off : Nat) (xs : List Value) (h : off + xs.length ≤ cs.size) : (xs.zipIdx.foldl (fun cs (c, j) => cs.setIfInBounds (off + j) c) cs) = (spl cs.toList off xs).toArray := by
  have key : ∀ (xs : List Value) (k : Nat) (cs : Array Value), off + k + xs.length ≤ cs.size → ((xs.zipIdx k).foldl (fun cs (c, j) => cs.setIfInBounds (off + j) c) cs) = (cs.toList.take (off + k) ++ xs ++ cs.toList.drop (off + k + xs.length)).toArray := by
    intro xs
    induction xs with
    | nil => intro k cs h; simp
    | cons x xs ih =>
      intro k cs h
      simp only [List.zipIdx_cons, List.foldl_cons]
      rw [ih (k + 1) (cs.setIfInBounds (off + k) x) (by simp at h ⊢; omega)]
      have e := list_seg_step cs.toList (off + k) x xs (by simp at h ⊢; omega)
      simpa [Array.toList_setIfInBounds, Nat.add_assoc] using e
  have := key xs 0 cs (by omega)
  simpa [spl] using this
theorem fillL_sound {place : Nat → Option (Nat × Nat)} {ps : List (Nat × Value)} : ∀ {cells : Array Value} {cs : List Value}, fillL place cells.toList ps = some cs → Instr.fill place cells ps = some cs.toArray := by
  induction ps with
  | nil => intro cells cs h; simp [fillL] at h; subst h; simp [Instr.fill]
  | cons p ps ih =>
    intro cells cs h
    obtain ⟨i, x⟩ := p
    simp only [fillL] at h
    cases hp : place i with
    | none => rw [hp] at h; cases h
    | some os =>
      obtain ⟨off, size⟩ := os
      rw [hp] at h
      simp only at h
      split at h
      · rename_i h1 h2
        have h1 := Nat.eq_of_beq_eq_true h1
        have h2 := Nat.le_of_ble_eq_true h2
        simp only [Array.length_toList] at h1 h2
        have e := spl_arr cells off x.cells.toList (by simpa using h2)
        simp only [Instr.fill, hp]
        have hn : ¬ (x.cells.size ≠ size ∨ off + x.cells.size > cells.size) := by omega
        have hz : x.cells.zipIdx.foldl (fun cs (c, j) => cs.setIfInBounds (off + j) c) cells = (spl cells.toList off x.cells.toList).toArray := by
          rw [← e, ← Array.foldl_toList, Array.toList_zipIdx]
        simp only [Bool.or_eq_true, decide_eq_true_eq, hn, if_false]
        rw [hz]
        exact ih (by simpa using h)
      · cases h
theorem buildR_got {t : TypeId} {parts : Array (Nat × Operand)} {K : AV → Prop} {pr : Prop} (ho : o.op = .build t parts) (h : buildR P s t parts.toList K = some pr) (hp : pr) (hr : Rel s v a w) : Got P s o a K := by
  unfold buildR at h
  split at h
  · rename_i z ps hz hps
    have e1 := partsR_sound hps hr
    have e2 : (parts.map fun (i, x) => (i, a.eval x)).toList = ps := by rw [← e1]; simp
    split at h
    · rename_i fs hu
      split at h
      · rename_i pl hpl
        split at h
        · rename_i cs hcs
          injection h with h; subst h
          refine got (fun w => ?_) (av := .v _) rfl hp
          have hm : (fs.mapM (m := Sem) fun f => do pure (f.offset, ← sizeOf f.type)).run P w = .ok pl.toArray w := by
            have := placesR_sound hpl w
            rw [Array.mapM_eq_mapM_toList]
            simp only [Sem.run_map, this, Result.andThen_ok]
          have hf := fillL_sound (cells := z.cells) hcs
          simp only [map_pure, bind_pure_comp] at hm
          simp [execOp, ho, Instr.build, run_zero hz, run_underlying hu, hm, e1, hf]
        · cases h
      · cases h
    · rename_i n e hu
      split at h
      · rename_i sz hsz
        split at h
        · rename_i cs hcs
          injection h with h; subst h
          refine got (fun w => ?_) (av := .v _) rfl hp
          have hf := fillL_sound (cells := z.cells) hcs
          simp [execOp, ho, Instr.build, run_zero hz, run_underlying hu, run_sizeN hsz, e1, hf]
        · cases h
      · cases h
    · cases h
  · cases h

/-- What is reckoned of the frame alone. -/
theorem pvc_sound {K : AV → Prop} {pr : Prop} (h : pvc P s o.op K = some pr) (hp : pr) (hr : Rel s v a w) : Got P s o a K := by
  unfold pvc at h
  split at h
  · rename_i x ho
    injection h with h; subst h
    exact got (fun w => by simp [execOp, ho]) (hr.evc x) hp
  · rename_i x ho
    injection h with h; subst h
    exact got (fun w => by simp [execOp, ho]) (hr.evc x) hp
  · rename_i c x y ho
    have hc := hr.evc c
    split at h
    · rename_i e
      injection h with h; subst h
      rw [e] at hc
      have hc : a.eval c = .bool true := hc
      exact got (x := a.eval x) (fun w => by simp [execOp, ho, hc, asBool]) (hr.evc x) hp
    · rename_i e
      injection h with h; subst h
      rw [e] at hc
      have hc : a.eval c = .bool false := hc
      exact got (x := a.eval y) (fun w => by simp [execOp, ho, hc, asBool]) (hr.evc y) hp
    · rename_i t e
      injection h with h; subst h
      rw [e] at hc
      have hc : a.eval c = .bool t := hc
      exact got (x := if t then a.eval x else a.eval y) (fun w => by simp [execOp, ho, hc, asBool]) (pickAV_ok (hr.ev x) (hr.ev y)) hp
    · cases h
  · rename_i x ho
    have hx := hr.ev x
    split at h
    · rename_i k off e
      injection h with h; subst h
      rw [e] at hx
      obtain ⟨pb, h1, h2⟩ := hx
      exact got (fun w => by simp [execOp, ho, h2]) (av := .r k off) ⟨pb, h1, rfl⟩ hp
    · rename_i ad e
      injection h with h; subst h
      rw [e] at hx; have hx : a.eval x = _ := hx
      exact got (fun w => by simp [execOp, ho, hx]) (av := .a ad) rfl hp
    · rename_i y e
      injection h with h; subst h
      rw [e] at hx; have hx : a.eval x = _ := hx
      obtain ⟨ad, rfl, hk⟩ := hp
      exact got (fun w => by simp [execOp, ho, hx]) (av := .a ad) rfl hk
    · cases h
  · rename_i t x f ho
    have hx := hr.ev x
    split at h
    · cases h
    · rename_i off hoff
      split at h
      · rename_i k oo e
        injection h with h; subst h
        rw [e] at hx
        obtain ⟨pb, h1, h2⟩ := hx
        exact got (fun w => by simp [execOp, ho, h2, run_fieldAt hoff, add_mk]) (av := .r k _) ⟨pb, h1, rfl⟩ hp
      · rename_i ad e
        injection h with h; subst h
        rw [e] at hx; have hx : a.eval x = _ := hx
        exact got (fun w => by simp [execOp, ho, hx, run_fieldAt hoff]) (av := .a _) rfl hp
      · rename_i y e
        injection h with h; subst h
        rw [e] at hx; have hx : a.eval x = _ := hx
        obtain ⟨ad, rfl, hk⟩ := hp
        exact got (fun w => by simp [execOp, ho, hx, run_fieldAt hoff]) (av := .a _) rfl hk
      · cases h
  · rename_i t x i ho; exact indexAddrR_got ho h hp hr
  · rename_i t x i ho; exact indexR_got ho h hp hr
  · rename_i t x f ho; exact fieldR_got ho h hp hr
  · rename_i op t x y yt ho; exact binR_got ho h hp hr
  · rename_i op t x ho; exact unR_got ho h hp hr
  · rename_i c d x ho; exact convR_got ho h hp hr
  · rename_i t x ho
    split at h
    · cases h
    · rename_i d y hni hu hy
      injection h with h; subst h
      refine got (fun w => ?_) (av := .v _) rfl hp
      simp only [execOp, ho, Instr.makeInterface, Sem.run_bind, run_underlying hu, Result.andThen_ok, val_sound hy hr]
      cases d <;> first | rfl | (exact absurd hu (by intro hc; exact hni _ rfl))
    · cases h
  · rename_i fn first cap ho
    split at h
    · rename_i xs ys h1 h2
      injection h with h; subst h
      have e1 := vals_sound h1 hr
      have e2 := vals_sound h2 hr
      refine got (fun w => ?_) (av := .v _) rfl hp
      have f1 : first.map a.eval = xs.toArray := by apply Array.ext'; rw [Array.toList_map]; exact e1
      have f2 : cap.map a.eval = ys.toArray := by apply Array.ext'; rw [Array.toList_map]; exact e2
      simp [execOp, ho, Instr.makeFunc, f1, f2]
    · cases h
  · rename_i x i ho
    split at h
    · rename_i vs e
      split at h
      · rename_i y hy
        injection h with h; subst h
        exact got (fun w => by simp [execOp, ho, val_sound e hr, Instr.extract, hy]) (av := .v y) rfl hp
      · cases h
    · cases h
  · rename_i t x lo hi mx ho; exact sliceR_got ho h hp hr
  · rename_i t parts ho; exact buildR_got ho h hp hr
  · rename_i t x ho
    split at h
    · rename_i n e ad l c hu hx
      injection h with h; subst h
      have hn : ¬ l < n := by have := hp.1; omega
      exact got (fun w => by simp [execOp, ho, val_sound hx hr, Instr.arrayAt, run_underlying hu, hn]) (av := .v _) rfl hp.2
    · cases h
  · rename_i c ho
    split at h
    · rename_i b hb
      obtain ⟨cal, args, ts⟩ := c
      simp only at hb
      subst hb
      exact builtinR_got ho h hp hr
    · cases h
  · cases h

end
end Go.V
