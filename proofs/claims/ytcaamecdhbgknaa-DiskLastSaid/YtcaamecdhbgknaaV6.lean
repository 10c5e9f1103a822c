/- Maps as lists of keys and values; the operations that read memory. -/
import Derived.Test.YtcaamecdhbgknaaV5
namespace Go.V
open Go.RowKit
set_option linter.unusedVariables false
set_option linter.unusedSimpArgs false

/-! ### Maps -/
section maps
variable {κ : Type} [DecidableEq κ]

def lookI : List (κ × Value) → κ → Nat → Option (Nat × Value)
  | [], _, _ => none
  | (k, x) :: l, a, i => if a = k then some (i, x) else lookI l a (i + 1)
/-- What a map holds at a key. -/
def look : List (κ × Value) → κ → Option Value
  | [], _ => none
  | (k, x) :: l, a => if a = k then some x else look l a
def updM : List (κ × Value) → κ → Value → List (κ × Value)
  | [], a, y => [(a, y)]
  | (k, x) :: l, a, y => if a = k then (a, y) :: l else (k, x) :: updM l a y
def delM : List (κ × Value) → κ → List (κ × Value)
  | [], _ => []
  | (k, x) :: l, a => if a = k then l else (k, x) :: delM l a

/-- The keys are told apart by sight. -/
def KeyEnc (d : TypeDesc) (enc : κ → Value) : Prop :=
  (∀ a b, Instr.sameNow d (enc a) (enc b) = some (decide (a = b))) ∧ (∀ a b, Instr.sameBits 10000 (enc a) (enc b) = decide (a = b))

/-- Block m is a map that holds just these. -/
def MapG (enc : κ → Value) (w : World) (m : Nat) (l : List (κ × Value)) : Prop :=
  ∃ es clock, w.heap[m]? = some (.map es clock) ∧ es.toList.map (fun e => (e.key, e.val)) = l.map (fun p => (enc p.1, p.2)) ∧
    (∀ e ∈ es.toList, e.born < clock) ∧ (es.toList.map (·.born)).Nodup ∧ (l.map (·.1)).Nodup
/-- A map, or nil. -/
def MapO (enc : κ → Value) (w : World) (m : Option Nat) (l : List (κ × Value)) : Prop :=
  match m with
  | none => l = []
  | some b => MapG enc w b l

theorem keyEnc_int (k : IntKind) : KeyEnc (.int k) (Value.int k) := by
  refine ⟨fun a b => ?_, fun a b => ?_⟩
  · simp [Instr.sameNow]; rfl
  · simp [Instr.sameBits]; rfl
theorem keyEnc_str : KeyEnc .string Value.string := by
  refine ⟨fun a b => ?_, fun a b => ?_⟩
  · simp only [Instr.sameNow]; rw [beq_toListBytes, ByteArray.toList_eq, ByteArray.toList_eq, toList_eq]
  · simp only [Instr.sameBits]; rw [beq_toListBytes, ByteArray.toList_eq, ByteArray.toList_eq, toList_eq]

theorem findNow_enc {d : TypeDesc} {enc : κ → Value} (he : KeyEnc d enc) (a : κ) : ∀ (es : List MapEntry) (l : List (κ × Value)) (i : Nat), es.map (fun e => (e.key, e.val)) = l.map (fun p => (enc p.1, p.2)) →
    Instr.findNow d (enc a) es i = some (lookI l a i)
  | [], [], i, _ => rfl
  | [], p :: l, i, h => by simp at h
  | e :: es, [], i, h => by simp at h
  | e :: es, (k, x) :: l, i, h => by
    simp only [List.map_cons, List.cons.injEq, Prod.mk.injEq] at h
    obtain ⟨⟨h1, h2⟩, h3⟩ := h
    simp only [Instr.findNow, h1, he.1, lookI]
    by_cases hk : a = k
    · simp [hk, h2]
    · simp [hk, findNow_enc he a es l (i + 1) h3]
theorem look_of_lookI : ∀ (l : List (κ × Value)) (a : κ) (i : Nat), (lookI l a i).map (·.2) = look l a
  | [], _, _ => rfl
  | (k, x) :: l, a, i => by
    simp only [lookI, look]
    split
    · rfl
    · exact look_of_lookI l a (i + 1)
end maps

theorem checkKey_plain {P : Program} {t : TypeId} {d : TypeDesc} (hd : P.underlying t = some d) (hk : (∃ k, d = .int k) ∨ d = .string) (b : Bool) (x : Value) (n : Nat) (w : World) :
    (Instr.checkKey b (n + 1) t x).run P w = .ok () w := by
  rcases hk with ⟨k, rfl⟩ | rfl <;> simp [Instr.checkKey, run_underlying hd]

section find
variable {P : Program} {κ : Type} [DecidableEq κ] {t : TypeId} {d : TypeDesc} {enc : κ → Value}
theorem run_findKey (hd : P.underlying t = some d) (he : KeyEnc d enc) {es : Array MapEntry} {l : List (κ × Value)} (h : es.toList.map (fun e => (e.key, e.val)) = l.map (fun p => (enc p.1, p.2))) (a : κ) (w : World) :
    (Instr.findKey t (enc a) es.toList).run P w = .ok (lookI l a 0) w := by
  simp only [Instr.findKey, Sem.run_bind, run_underlying hd, Result.andThen_ok, findNow_enc he a es.toList l 0 h]
  rfl
end find

/-- A look into a map: the value that is there, or the zero value. -/
def LookRel {κ : Type} [DecidableEq κ] (l : List (κ × Value)) (a : κ) (z x : Value) (ok : Bool) : Prop :=
  (ok = true ∧ look l a = some x) ∨ (ok = false ∧ look l a = none ∧ x = z)
def noModM (s : St) (m : Option Nat) (p : Prop) : Prop :=
  match s.mods with
  | [] => p
  | ms => (∀ b, m = some b → b ∉ ms.map (·.2)) ∧ p
theorem noModM_sound {s : St} {m : Option Nat} {p : Prop} (h : noModM s m p) : (∀ b, m = some b → b ∉ s.mods.map (·.2)) ∧ p := by
  unfold noModM at h
  split at h
  · rename_i e; rw [e]; exact ⟨by simp, h⟩
  · exact h

def lookG (P : Program) (s : St) (v : World) {κ : Type} [DecidableEq κ] (enc : κ → Value) (m : Option Nat) (a : κ) (e : TypeId) (ok : Bool) (K : AV → Prop) : Option Prop :=
  match zeroOf P e with
  | some z => some (∃ l, MapO enc v m l ∧ noModM s m (match ok with
    | true => exT P e fun x => ∃ b, LookRel l a z x b ∧ K (.v (.tuple #[x, .bool b]))
    | false => exT P e fun x => (∃ b, LookRel l a z x b) ∧ K (.v x)))
  | none => none

/-- The operations that read memory that is known to all. -/
def qvc (P : Program) (s : St) (v : World) (op : Op) (K : AV → Prop) : Option Prop :=
  match op with
  | .load t x => match s.ev x with
    | .a ad => some (pubLoad P s v t ad fun x => K (.v x))
    | .v y => some (∃ ad, y = .pointer (some ad) ∧ pubLoad P s v t ad fun x => K (.v x))
    | _ => none
  | .lookup t m i ok => match P.underlying t, s.val m, s.val i with
    | some (.map k e), some (.map mm), some key => match P.underlying k, key with
      | some (.int kd), .int kd' n => if kd = kd' then lookG P s v (Value.int kd) mm n e ok K else none
      | some .string, .string n => lookG P s v Value.string mm n e ok K
      | _, _ => none
    | _, _, _ => none
  | .convert a b x => match P.underlying a, P.underlying b, s.val x with
    | some (.slice e), some .string, some (.slice p n c) => match P.underlying e with
      | some (.int .u8) => some (∃ bs : List UInt8, bs.length = n ∧ (∀ i, i < n → ∃ ad, p = some ad ∧ v.cell? (ad.add i) = some (.int .u8 ((bs.getD i 0).toNat : Int))) ∧
          noModM s (p.map (·.block)) (K (.v (.string ⟨bs.toArray⟩))))
      | _ => none
    | _, _, _ => none
  | .call c => match c.callee, c.args.toList, c.argTypes.toList with
    | .builtin .len, [x], [t] => match P.underlying t, s.val x with
      | some (.map k e), some (.map mm) => match P.underlying k with
        | some (.int kd) => some (∃ l, MapO (Value.int kd) v mm l ∧ noModM s mm (K (.v (.int .i64 l.length))))
        | some .string => some (∃ l, MapO Value.string v mm l ∧ noModM s mm (K (.v (.int .i64 l.length))))
        | _ => none
      | _, _ => none
    | _, _, _ => none
  | _ => none

/-- A load out of a private block. -/
def rvc (P : Program) (s : St) (op : Op) (K : AV → Prop) : Option (Nat × Prop) :=
  match op with
  | .load t x => match s.ev x with
    | .r k off => match s.hp.getD k none with
      | some pb => match aggOf P t with
        | some (true, n) => match Nat.ble (off + n) pb.cs.length with
          | true => some (k, K (.v (.agg ((pb.cs.drop off).take n).toArray)))
          | false => none
        | some (false, _) => match pb.cs[off]? with
          | some c => some (k, K (.v c))
          | none => none
        | none => none
      | none => none
    | _ => none
  | _ => none

section
variable {P : Program} {o : Oper} {s : St} {v : World} {a : Act} {w : World}

theorem rvc_sound {K : AV → Prop} {k : Nat} {pr : Prop} (h : rvc P s o.op K = some (k, pr)) (hp : pr) (hr : Rel s v a w) :
    ∃ pb x av, s.hp[k]? = some (some pb) ∧ Yld P o a (fun w' => ∃ T f, w'.heap[pb.b]? = some (.cells pb.cs.toArray T f)) x ∧ AVok s av x ∧ K av := by
  unfold rvc at h
  split at h
  · rename_i t x ho
    have hx := hr.ev x
    split at h
    · rename_i k' off e
      rw [e] at hx
      obtain ⟨pb, hk, hv⟩ := hx
      have hg : s.hp.getD k' none = some pb := by rw [List.getD_eq_getElem?_getD, hk]; rfl
      rw [hg] at h
      simp only at h
      cases ha : aggOf P t with
      | none => rw [ha] at h; cases h
      | some bn =>
        obtain ⟨b, n⟩ := bn
        rw [ha] at h
        cases b with
        | true =>
          simp only at h
          cases hb : Nat.ble (off + n) pb.cs.length with
          | false => rw [hb] at h; cases h
          | true =>
            rw [hb] at h
            simp only [Option.some.injEq, Prod.mk.injEq] at h
            obtain ⟨rfl, rfl⟩ := h
            have hle : off + n ≤ pb.cs.length := Nat.le_of_ble_eq_true hb
            have hl : ((pb.cs.drop off).take n).length = n := by simp; omega
            refine ⟨pb, _, _, hk, fun w' hw => ?_, (show AVok s (.v _) _ from rfl), hp⟩
            obtain ⟨T, f, hT⟩ := hw
            obtain ⟨h1, h2⟩ := aggOf_isAgg ha w'
            have := run_loadCells_list (P := P) (w := w') ⟨pb.b, off, none⟩ ((pb.cs.drop off).take n) (fun j u hu => by
              rw [add_mk, cell_of_cells hT]
              rw [List.getElem?_take] at hu
              split at hu
              · rwa [List.getElem?_drop] at hu
              · cases hu)
            rw [hl] at this
            simp [execOp, ho, Instr.loadAt, Instr.sureAddr, hv, loadVar, h1, h2, this]
        | false =>
          simp only at h
          cases hc : pb.cs[off]? with
          | none => rw [hc] at h; cases h
          | some c =>
            rw [hc] at h
            simp only [Option.some.injEq, Prod.mk.injEq] at h
            obtain ⟨rfl, rfl⟩ := h
            refine ⟨pb, _, _, hk, fun w' hw => ?_, (show AVok s (.v _) _ from rfl), hp⟩
            obtain ⟨T, f, hT⟩ := hw
            obtain ⟨h1, h2⟩ := aggOf_isAgg ha w'
            have : w'.cell? ⟨pb.b, off, none⟩ = some c := by rw [cell_of_cells hT]; exact hc
            simp [execOp, ho, Instr.loadAt, Instr.sureAddr, hv, loadVar, h1, this]
    · cases h
  · cases h

theorem Sees.map {m : Nat} {o : Obj} (h : Sees s v w) (hv : v.heap[m]? = some o) (hm : m ∉ s.mods.map (·.2)) : w.heap[m]? = some o := by
  rw [h m (Array.getElem?_eq_some_iff.1 hv).1 hm]; exact hv

theorem lookG_sound {κ : Type} [DecidableEq κ] {enc : κ → Value} {t tk e : TypeId} {d : TypeDesc} {m : Option Nat} {n : κ} {ok : Bool} {K : AV → Prop} {pr : Prop}
    (hu : P.underlying t = some (.map tk e)) (hd : P.underlying tk = some d) (he : KeyEnc d enc) (hdk : (∃ k, d = .int k) ∨ d = .string) (h : lookG P s v enc m n e ok K = some pr) (hp : pr) :
    ∃ x, (∀ w, Sees s v w → (Instr.lookup t (.map m) (enc n) ok).run P w = .ok x w) ∧ K (.v x) := by
  unfold lookG at h
  split at h
  · rename_i z hz
    injection h with h; subst h
    obtain ⟨l, hm, hk⟩ := hp
    obtain ⟨hmod, hk⟩ := noModM_sound hk
    have run : ∀ w, Sees s v w → ∀ b, (Instr.lookup t (.map m) (enc n) b).run P w = .ok (if b then .tuple #[(look l n).getD z, .bool (look l n).isSome] else (look l n).getD z) w := fun w hs b => by
      cases m with
      | none =>
        obtain rfl : l = [] := hm
        have e0 := checkKey_plain hd hdk true (enc n) 9999 w
        have e1 : (Instr.findKey tk (enc n) []).run P w = .ok none w := run_findKey (es := #[]) (l := ([] : List (κ × Value))) hd he rfl n w
        cases b <;> simp [Instr.lookup, run_underlying hu, e0, e1, run_zero hz, look]
      | some b' =>
        obtain ⟨es, clock, hb, hl, _⟩ := hm
        have hb' := Sees.map hs hb (hmod b' rfl)
        have e0 := checkKey_plain hd hdk es.isEmpty (enc n) 9999 w
        have e1 := run_findKey (P := P) hd he hl n w
        have hg : (getObj b').run P w = .ok (.map es clock) w := by simp [getObj, Sem.run, hb']
        have e2 := look_of_lookI l n 0
        cases h3 : lookI l n 0 with
        | none =>
          rw [h3] at e1 e2
          simp only [Option.map_none] at e2
          cases b <;> simp [Instr.lookup, run_underlying hu, hg, e0, e1, run_zero hz, ← e2]
        | some ix =>
          rw [h3] at e1 e2
          simp only [Option.map_some] at e2
          cases b <;> simp [Instr.lookup, run_underlying hu, hg, e0, e1, ← e2]
    have rel : ∀ x b, LookRel l n z x b → (look l n).getD z = x ∧ (look l n).isSome = b := fun x b h => by
      rcases h with ⟨rfl, h⟩ | ⟨rfl, h, rfl⟩ <;> simp [h]
    cases ok with
    | true =>
      obtain ⟨x, b, hr, hk⟩ := exT_sound hk
      obtain ⟨e1, e2⟩ := rel x b hr
      exact ⟨_, fun w hs => by have := run w hs true; rw [e1, e2] at this; exact this, hk⟩
    | false =>
      obtain ⟨x, ⟨b, hr⟩, hk⟩ := exT_sound hk
      obtain ⟨e1, e2⟩ := rel x b hr
      exact ⟨_, fun w hs => by have := run w hs false; rw [e1] at this; exact this, hk⟩
  · cases h

theorem mapO_len {κ : Type} [DecidableEq κ] {enc : κ → Value} {t tk e ty : TypeId} {m : Option Nat} {l : List (κ × Value)} (hu : P.underlying t = some (.map tk e)) (hm : MapO enc v m l) (hmod : ∀ b, m = some b → b ∉ s.mods.map (·.2)) (w : World) (hs : Sees s v w) :
    (Builtin.len_ #[t] ty #[.map m]).run P w = .ok (.int .i64 l.length) w := by
  cases m with
  | none => obtain rfl : l = [] := hm; simp [Builtin.len_, run_underlying hu, goInt]
  | some b =>
    obtain ⟨es, clock, hb, hl, _⟩ := hm
    have hb' := Sees.map hs hb (hmod b rfl)
    have hg : (getObj b).run P w = .ok (.map es clock) w := by simp [getObj, Sem.run, hb']
    have e : es.size = l.length := by have := congrArg List.length hl; simpa using this
    simp [Builtin.len_, run_underlying hu, hg, goInt, e]

theorem run_bytes {src dst e : TypeId} (hs : P.underlying src = some (.slice e)) (he : P.underlying e = some (.int .u8)) (hd : P.underlying dst = some .string) (bs : List UInt8) (p : Option Addr) (w : World)
    (h : ∀ i, i < bs.length → ∃ ad, p = some ad ∧ w.cell? (ad.add i) = some (.int .u8 ((bs.getD i 0).toNat : Int))) (c : Nat) :
    (convert src dst (.slice p bs.length c)).run P w = .ok (.string ⟨bs.toArray⟩) w := by
  cases p with
  | none =>
    have : bs = [] := by
      cases bs with
      | nil => rfl
      | cons x xs => obtain ⟨ad, e, _⟩ := h 0 (by simp); cases e
    subst this
    exact run_convert_bytes_nil (w := w) src e hs he _ _ dst hd
  | some ad =>
    refine run_convert_bytes_back w src dst e ad c bs hs he hd (fun j hj => ?_)
    obtain ⟨ad', e, hc⟩ := h j hj
    injection e with e; subst e
    rw [hc]; simp [List.getD, hj]

/-- The operations that read memory. -/
theorem qvc_sound {K : AV → Prop} {pr : Prop} (h : qvc P s v o.op K = some pr) (hp : pr) (hr : Rel s v a w) : ∃ x av, Yld P o a (Sees s v) x ∧ AVok s av x ∧ K av := by
  unfold qvc at h
  split at h
  · rename_i t x ho
    have hx := hr.ev x
    split at h
    · rename_i ad e
      injection h with h; subst h
      rw [e] at hx; have hx : a.eval x = _ := hx
      obtain ⟨y, hy, hk⟩ := pubLoad_sound hp
      exact ⟨y, .v y, fun w' hs => by simp [execOp, ho, Instr.loadAt, Instr.sureAddr, hx, hy w' hs], rfl, hk⟩
    · rename_i y e
      injection h with h; subst h
      rw [e] at hx; have hx : a.eval x = _ := hx
      obtain ⟨ad, rfl, hp⟩ := hp
      obtain ⟨y, hy, hk⟩ := pubLoad_sound hp
      exact ⟨y, .v y, fun w' hs => by simp [execOp, ho, Instr.loadAt, Instr.sureAddr, hx, hy w' hs], rfl, hk⟩
    · cases h
  · rename_i t m i ok ho
    split at h
    · rename_i k e mm key hu hm hi
      split at h
      · rename_i kd kd' n hd
        split at h
        · rename_i ek; subst ek
          obtain ⟨x, hx, hk⟩ := lookG_sound hu hd (keyEnc_int kd) (.inl ⟨kd, rfl⟩) h hp
          exact ⟨x, .v x, fun w' hs => by simp [execOp, ho, val_sound hm hr, val_sound hi hr, hx w' hs], rfl, hk⟩
        · cases h
      · rename_i n hd
        obtain ⟨x, hx, hk⟩ := lookG_sound hu hd keyEnc_str (.inr rfl) h hp
        exact ⟨x, .v x, fun w' hs => by simp [execOp, ho, val_sound hm hr, val_sound hi hr, hx w' hs], rfl, hk⟩
      · cases h
    · cases h
  · rename_i src dst x ho
    split at h
    · rename_i e p n c hs hd hx
      split at h
      · rename_i he
        injection h with h; subst h
        obtain ⟨bs, rfl, hc, hk⟩ := hp
        obtain ⟨hmod, hk⟩ := noModM_sound hk
        refine ⟨_, .v _, fun w' hsee => ?_, rfl, hk⟩
        have := run_bytes (P := P) hs he hd bs p w' (fun i hi => by
          obtain ⟨ad, hpa, hcell⟩ := hc i hi
          refine ⟨ad, hpa, hsee.cell hcell ?_⟩
          have := hmod ad.block (by rw [hpa]; rfl)
          unfold Addr.add; split <;> exact this) c
        simp [execOp, ho, val_sound hx hr, this]
      · cases h
    · cases h
  · rename_i c ho
    split at h
    · rename_i x t e1 e2 e3
      split at h
      · rename_i k e mm hu hx
        obtain ⟨cal, args, ts⟩ := c
        simp only at e1 e2 e3
        subst e1
        obtain rfl : args = #[x] := Array.ext' e2
        obtain rfl : ts = #[t] := Array.ext' e3
        split at h
        · rename_i kd hd
          injection h with h; subst h
          obtain ⟨l, hm, hk⟩ := hp
          obtain ⟨hmod, hk⟩ := noModM_sound hk
          exact ⟨_, .v _, fun w' hs => by simp [execOp, ho, resolve, invoke, builtin, val_sound hx hr, mapO_len (P := P) hu hm hmod w' hs], rfl, hk⟩
        · rename_i hd
          injection h with h; subst h
          obtain ⟨l, hm, hk⟩ := hp
          obtain ⟨hmod, hk⟩ := noModM_sound hk
          exact ⟨_, .v _, fun w' hs => by simp [execOp, ho, resolve, invoke, builtin, val_sound hx hr, mapO_len (P := P) hu hm hmod w' hs], rfl, hk⟩
        · cases h
      · cases h
    · cases h
  · cases h

end
end Go.V
