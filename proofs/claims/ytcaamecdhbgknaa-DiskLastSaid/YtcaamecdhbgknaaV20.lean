/- From a function's text to its contract. -/
import Derived.Test.YtcaamecdhbgknaaV19
namespace Go.V
open Go.RowKit
set_option linter.unusedVariables false
set_option linter.unusedSimpArgs false

def resCell (P : Program) (s : St) (v : World) (t : TypeId) (a : Nat) (K : Value → Prop) : Prop :=
  match s.get a with
  | .r k off => match s.hp.getD k none with
    | some pb => match aggOf P t with
      | some (true, n) => match Nat.ble (off + n) pb.cs.length with
        | true => K (.agg ((pb.cs.drop off).take n).toArray)
        | false => False
      | some (false, _) => match pb.cs[off]? with
        | some c => K c
        | none => False
      | none => False
    | none => False
  | .a ad => pubLoad P s v t ad K
  | _ => False
def resV (P : Program) (s : St) (v : World) : List ResultVar → (St → World → List Value → Prop) → Prop
  | [], K => K s v []
  | .tmp t :: r, K => useV s v (.tmp t) fun s v x => resV P s v r fun s v xs => K s v (x :: xs)
  | .cell a t :: r, K => resCell P s v t a fun x => resV P s v r fun s v xs => K s v (x :: xs)
def tup : List Value → Value
  | [x] => x
  | xs => .tuple xs.toArray
def argVal : AV → Value
  | .v x => x
  | .a ad => .pointer (some ad)
  | _ => undef
def argOk : AV → Bool
  | .v _ => true
  | .a _ => true
  | _ => false
def St0 (args : List AV) (n : Nat) : St := { env := args ++ List.replicate (n - args.length) .no, hp := [], mods := [], news := [], clean := true }
def finV (P : Program) (rs : List ResultVar) (R : Ending → World → Prop) (s : St) (v : World) : Prop :=
  resV P s v rs fun s v xs => sync s v fun _ w => R (.returned (tup xs)) w
def vcFn (P : Program) (mp : Bool) (n : Nat) (rs : List ResultVar) (c : Code) (ann : Ann) (args : List AV) (R : Ending → World → Prop) (w : World) : Prop :=
  vc P (match mp with
    | true => some fun chain w => R (.panicked chain) w
    | false => none) c ann (fun e s v => match e with
    | .normal => finV P rs R s v
    | .ret => finV P rs R s v
    | _ => False) (St0 args n) w

section
variable {P : Program} {s : St} {v : World} {a : Act} {w : World}
theorem resCell_sound {t : TypeId} {x : Nat} {K : Value → Prop} (h : resCell P s v t x K) (hr : Rel s v a w) : ∃ y, (do loadVar t (← asAddr (a.tmps.getD x undef))).run P w = .ok y w ∧ K y := by
  unfold resCell at h
  have hx := hr.env x
  cases e : s.get x with
  | no => rw [e] at h; exact h.elim
  | v y => rw [e] at h; exact h.elim
  | q k n => rw [e] at h; exact h.elim
  | t b => rw [e] at h; exact h.elim
  | a ad =>
    rw [e] at h hx
    have hx : a.tmps.getD x undef = .pointer (some ad) := hx
    obtain ⟨y, hy, hk⟩ := pubLoad_sound h
    exact ⟨y, by rw [hx]; simp [asAddr, hy w (hr.sees (Ext0.refl w))], hk⟩
  | r k off =>
    rw [e] at h hx
    obtain ⟨pb, hk, hv⟩ := hx
    have hg : s.hp.getD k none = some pb := by rw [List.getD_eq_getElem?_getD, hk]; rfl
    obtain ⟨T, hT⟩ := hr.priv k pb hk
    simp only [hg] at h
    cases ha : aggOf P t with
    | none => rw [ha] at h; exact h.elim
    | some bn =>
      obtain ⟨b, n⟩ := bn
      rw [ha] at h
      obtain ⟨h1, h2⟩ := aggOf_isAgg ha w
      cases b with
      | true =>
        simp only at h
        cases hb : Nat.ble (off + n) pb.cs.length with
        | false => rw [hb] at h; exact h.elim
        | true =>
          rw [hb] at h
          have hle : off + n ≤ pb.cs.length := Nat.le_of_ble_eq_true hb
          have hl : ((pb.cs.drop off).take n).length = n := by simp; omega
          refine ⟨_, ?_, h⟩
          have := run_loadCells_list (P := P) (w := w) ⟨pb.b, off, none⟩ ((pb.cs.drop off).take n) (fun j u hu => by
            rw [add_mk, cell_of_cells hT]
            rw [List.getElem?_take] at hu
            split at hu
            · rwa [List.getElem?_drop] at hu
            · cases hu)
          rw [hl] at this
          rw [hv]; simp [asAddr, loadVar, h1, h2, this]
      | false =>
        simp only at h
        cases hc : pb.cs[off]? with
        | none => rw [hc] at h; exact h.elim
        | some c =>
          rw [hc] at h
          have : w.cell? ⟨pb.b, off, none⟩ = some c := by rw [cell_of_cells hT]; exact hc
          exact ⟨c, by rw [hv]; simp [asAddr, loadVar, h1, this], h⟩

def resF (tmps : Array Value) : ResultVar → Sem Value
  | .tmp t => pure (tmps.getD t undef)
  | .cell a t => do loadVar t (← asAddr (tmps.getD a undef))
theorem resV_sound : ∀ {rs : List ResultVar} {s : St} {v : World} {K : St → World → List Value → Prop}, resV P s v rs K → Rel s v a w →
    ∃ s' v' xs, Rel s' v' a w ∧ Ext s s' ∧ K s' v' xs ∧ (rs.mapM (resF a.tmps)).run P w = .ok xs w
  | [], s, v, K, h, hr => ⟨s, v, [], hr, Ext.refl _, h, rfl⟩
  | .tmp t :: r, s, v, K, h, hr => by
    obtain ⟨s1, v1, r1, e1, h1⟩ := useV_sound h hr
    obtain ⟨s2, v2, xs, r2, e2, h2, hm⟩ := resV_sound h1 r1
    refine ⟨s2, v2, _, r2, e1.trans e2, h2, ?_⟩
    simp [List.mapM_cons, resF, hm, Act.eval]
  | .cell x t :: r, s, v, K, h, hr => by
    obtain ⟨y, hy, h1⟩ := resCell_sound h hr
    obtain ⟨s2, v2, xs, r2, e2, h2, hm⟩ := resV_sound h1 hr
    refine ⟨s2, v2, _, r2, e2, h2, ?_⟩
    have hy' : (resF a.tmps (.cell x t)).run P w = .ok y w := hy
    simp only [List.mapM_cons, Sem.run_bind, hy', Result.andThen_ok, hm, Sem.run_pure]

theorem finV_sound {fn : Func} {R : Ending → World → Prop} (h : finV P fn.results.toList R s v) (hr : Rel s v a w) : ∃ y, (results fn a.tmps).run P w = .ok y w ∧ R (.returned y) w := by
  obtain ⟨s', v', xs, r1, e1, h1, hm⟩ := resV_sound h hr
  obtain ⟨r2, e2, h2⟩ := sync_sound h1 r1
  refine ⟨_, ?_, h2⟩
  have hf : ∀ r, (match r with
      | .tmp t => pure (a.tmps.getD t undef)
      | .cell x t => do loadVar t (← asAddr (a.tmps.getD x undef))) = resF a.tmps r := fun r => by cases r <;> rfl
  have hres : results fn a.tmps = (do
      let vs ← fn.results.mapM (resF a.tmps)
      pure (if h : vs.size = 1 then vs[0] else .tuple vs)) := by
    unfold results
    congr 1
  have hm2 : (fn.results.mapM (resF a.tmps)).run P w = .ok xs.toArray w := by
    rw [Array.mapM_eq_mapM_toList]
    simp only [Sem.run_map, hm, Result.andThen_ok]
  rw [hres]
  simp only [Sem.run_bind, hm2, Result.andThen_ok, Sem.run_pure]
  congr 1
  cases xs with
  | nil => rfl
  | cons x xs =>
    cases xs with
    | nil => rfl
    | cons y ys => simp [tup]

/-- From a function's text to its contract. -/
theorem calls_of (hP : PF P) {f : FuncId} {fn : Func} {c : Code} {ann : Ann} {args : List AV} {R : Ending → World → Prop} {mp : Bool} (hf : P.funcs[f]? = some fn) (hb : fn.body = some c) (ha : args.all argOk = true)
    (h : vcFn P mp fn.ntmps fn.results.toList c ann args R w) : Calls P f (args.map argVal).toArray w R := by
  refine calls_of_wp hf hb ?_
  have hr : Rel (St0 args fn.ntmps) w { tmps := (args.map argVal).toArray ++ Array.replicate (fn.ntmps - (args.map argVal).toArray.size) undef, defers := [] } w := by
    refine ⟨rfl, by simp [St0], fun t => ?_, fun k pb hk => by simp [St0] at hk, fun k k' pb pb' _ hk => by simp [St0] at hk, Step.refl _ _, fun _ => rfl, fun k b hk => by rcases hk with hk | hk <;> cases hk⟩
    by_cases ht : t < args.length
    · have e1 : (St0 args fn.ntmps).get t = args[t] := by simp [St0, St.get, List.getElem?_append_left ht, ht]
      have e2 : ((args.map argVal).toArray ++ Array.replicate (fn.ntmps - (args.map argVal).toArray.size) undef).getD t undef = argVal args[t] := by
        rw [Array.getD_eq_getD_getElem?, Array.getElem?_append_left (by simpa using ht)]
        simp [ht]
      rw [e1, e2]
      have hok := List.all_eq_true.1 ha args[t] (List.getElem_mem ht)
      cases h : args[t] <;> rw [h] at hok <;> first | rfl | (simp [argOk] at hok)
    · have e1 : (St0 args fn.ntmps).get t = .no := by
        simp only [St0, St.get, List.getD_eq_getElem?_getD]
        rw [List.getElem?_append_right (by omega)]
        cases h : (List.replicate (fn.ntmps - args.length) AV.no)[t - args.length]? with
        | none => rfl
        | some x =>
          have := List.mem_of_getElem? h
          rw [List.mem_replicate] at this
          rw [this.2]; rfl
      rw [e1]; trivial
  refine wp_mono (vc_sound hP c ann _ h hr) fun e a' w' hp => ?_
  cases e with
  | normal =>
    obtain ⟨s', v', r1, _, _, h1⟩ := hp
    exact ⟨r1.defers, finV_sound h1 r1⟩
  | ret =>
    obtain ⟨s', v', r1, _, _, h1⟩ := hp
    exact ⟨r1.defers, finV_sound h1 r1⟩
  | exit id => obtain ⟨s', v', r1, _, _, h1⟩ := hp; exact h1.elim
  | goto l => exact hp.elim
  | outgrown => exact hp.elim
  | panic chain =>
    obtain ⟨hd, q, hq, hR⟩ := hp
    cases mp with
    | true => simp only [Option.some.injEq] at hq; subst hq; exact ⟨hd, hR⟩
    | false => cases hq
end
end Go.V
