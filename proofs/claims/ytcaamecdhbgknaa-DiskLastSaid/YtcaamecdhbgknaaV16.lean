/- A function's text as a whole: joinings, loops, results. -/
import Derived.Test.YtcaamecdhbgknaaV15
import Derived.Deep.LoopGhost
namespace Go.V
open Go.RowKit
set_option linter.unusedVariables false
set_option linter.unusedSimpArgs false

/-! ### what is handed on where ways meet -/
inductive Sh where
  | l (x : Lf)
  | g (ls : List Lf)
  | a
  | x

def FnL : List Lf → Type → Type
  | [], R => R
  | .i _ :: ls, R => Int → FnL ls R
  | .b :: ls, R => Bool → FnL ls R
  | .s :: ls, R => ByteArray → FnL ls R
  | .p :: ls, R => Option Addr → FnL ls R
  | .sl :: ls, R => Option Addr → Nat → Nat → FnL ls R
  | .m :: ls, R => Option Nat → FnL ls R
def FnS : List Sh → Type → Type
  | [], R => R
  | .l x :: r, R => FnL [x] (FnS r R)
  | .g ls :: r, R => FnL ls (FnS r R)
  | .a :: r, R => Addr → FnS r R
  | .x :: r, R => Value → FnS r R

def appL : (ls : List Lf) → {R : Type} → FnL ls R → List Value → Option R
  | [], _, f, [] => some f
  | .i k :: ls, _, f, .int k' n :: vs => match decide (k = k') with
    | true => appL ls (f n) vs
    | false => none
  | .b :: ls, _, f, .bool b :: vs => appL ls (f b) vs
  | .s :: ls, _, f, .string b :: vs => appL ls (f b) vs
  | .p :: ls, _, f, .pointer p :: vs => appL ls (f p) vs
  | .sl :: ls, _, f, .slice p l c :: vs => appL ls (f p l c) vs
  | .m :: ls, _, f, .map m :: vs => appL ls (f m) vs
  | _, _, _, _ => none
def AV.value : AV → Option Value
  | .v x => some x
  | .a ad => some (.pointer (some ad))
  | .t b => some (.bool b)
  | _ => none
def appS : (ss : List Sh) → {R : Type} → FnS ss R → List AV → Option R
  | [], _, f, [] => some f
  | .l x :: r, _, f, av :: avs => match av.value with
    | some y => match appL [x] f [y] with
      | some g => appS r g avs
      | none => none
    | none => none
  | .g ls :: r, _, f, .v (.agg cs) :: avs => match appL ls f cs.toList with
    | some g => appS r g avs
    | none => none
  | .a :: r, _, f, .a ad :: avs => appS r (f ad) avs
  | .x :: r, _, f, av :: avs => match av.value with
    | some y => appS r (f y) avs
    | none => none
  | _, _, _, _ => none

def allFL : (ls : List Lf) → {R : Type} → FnL ls R → (List Value → R → Prop) → Prop
  | [], _, f, K => K [] f
  | .i k :: ls, _, f, K => ∀ n : Int, allFL ls (f n) fun vs g => K (.int k n :: vs) g
  | .b :: ls, _, f, K => ∀ x : Bool, allFL ls (f x) fun vs g => K (.bool x :: vs) g
  | .s :: ls, _, f, K => ∀ x : ByteArray, allFL ls (f x) fun vs g => K (.string x :: vs) g
  | .p :: ls, _, f, K => ∀ x : Option Addr, allFL ls (f x) fun vs g => K (.pointer x :: vs) g
  | .sl :: ls, _, f, K => ∀ (x : Option Addr) (l c : Nat), allFL ls (f x l c) fun vs g => K (.slice x l c :: vs) g
  | .m :: ls, _, f, K => ∀ x : Option Nat, allFL ls (f x) fun vs g => K (.map x :: vs) g
def allFS : (ss : List Sh) → {R : Type} → FnS ss R → (List AV → R → Prop) → Prop
  | [], _, f, K => K [] f
  | .l x :: r, _, f, K => allFL [x] f fun vs g => match vs with
    | [y] => allFS r g fun avs h => K (.v y :: avs) h
    | _ => True
  | .g ls :: r, _, f, K => allFL ls f fun vs g => allFS r g fun avs h => K (.v (.agg vs.toArray) :: avs) h
  | .a :: r, _, f, K => ∀ ad, allFS r (f ad) fun avs h => K (.a ad :: avs) h
  | .x :: r, _, f, K => ∀ y, allFS r (f y) fun avs h => K (.v y :: avs) h

def lamL : (ls : List Lf) → {R : Type} → (List Value → R) → FnL ls R
  | [], _, F => F []
  | .i k :: ls, _, F => fun (n : Int) => lamL ls fun vs => F (.int k n :: vs)
  | .b :: ls, _, F => fun (x : Bool) => lamL ls fun vs => F (.bool x :: vs)
  | .s :: ls, _, F => fun (x : ByteArray) => lamL ls fun vs => F (.string x :: vs)
  | .p :: ls, _, F => fun (x : Option Addr) => lamL ls fun vs => F (.pointer x :: vs)
  | .sl :: ls, _, F => fun (x : Option Addr) (l c : Nat) => lamL ls fun vs => F (.slice x l c :: vs)
  | .m :: ls, _, F => fun (x : Option Nat) => lamL ls fun vs => F (.map x :: vs)
def one? : List Value → Value
  | [y] => y
  | _ => undef
def lamS : (ss : List Sh) → {R : Type} → (List AV → R) → FnS ss R
  | [], _, F => F []
  | .l x :: r, _, F => lamL [x] fun vs => lamS r fun avs => F (.v (one? vs) :: avs)
  | .g ls :: r, _, F => lamL ls fun vs => lamS r fun avs => F (.v (.agg vs.toArray) :: avs)
  | .a :: r, _, F => fun (ad : Addr) => lamS r fun avs => F (.a ad :: avs)
  | .x :: r, _, F => fun (y : Value) => lamS r fun avs => F (.v y :: avs)

theorem allFL_lam {ls : List Lf} : ∀ {R : Type} {F : List Value → R} {K : List Value → R → Prop}, (∀ vs, vs.length = ls.length → K vs (F vs)) → allFL ls (lamL ls F) K := by
  induction ls with
  | nil => intro R F K h; exact h [] rfl
  | cons l ls ih =>
    intro R F K h
    cases l with
    | i k => exact fun n => ih (F := fun vs => F ((.int k n) :: vs)) (K := fun vs g => K ((.int k n) :: vs) g) fun vs hv => h _ (by simp [hv])
    | b => exact fun x => ih (F := fun vs => F ((.bool x) :: vs)) (K := fun vs g => K ((.bool x) :: vs) g) fun vs hv => h _ (by simp [hv])
    | s => exact fun x => ih (F := fun vs => F ((.string x) :: vs)) (K := fun vs g => K ((.string x) :: vs) g) fun vs hv => h _ (by simp [hv])
    | p => exact fun x => ih (F := fun vs => F ((.pointer x) :: vs)) (K := fun vs g => K ((.pointer x) :: vs) g) fun vs hv => h _ (by simp [hv])
    | sl => exact fun x l c => ih (F := fun vs => F ((.slice x l c) :: vs)) (K := fun vs g => K ((.slice x l c) :: vs) g) fun vs hv => h _ (by simp [hv])
    | m => exact fun x => ih (F := fun vs => F ((.map x) :: vs)) (K := fun vs g => K ((.map x) :: vs) g) fun vs hv => h _ (by simp [hv])
theorem allFS_lam {ss : List Sh} : ∀ {R : Type} {F : List AV → R} {K : List AV → R → Prop}, (∀ avs, K avs (F avs)) → allFS ss (lamS ss F) K := by
  induction ss with
  | nil => intro R F K h; exact h []
  | cons s ss ih =>
    intro R F K h
    cases s with
    | l x =>
      refine allFL_lam (K := fun vs g => match vs with | [y] => allFS ss g fun avs h => K (.v y :: avs) h | _ => True) fun vs hv => ?_
      match vs, hv with
      | [y], _ => exact ih fun avs => h _
    | g ls => exact allFL_lam (K := fun vs g => allFS ss g fun avs h => K (.v (.agg vs.toArray) :: avs) h) fun vs hv => ih fun avs => h _
    | a => exact fun ad => ih fun avs => h _
    | x => exact fun y => ih fun avs => h _

theorem appL_lam {ls : List Lf} : ∀ {R : Type} {F : List Value → R} {vs : List Value} {g : R}, appL ls (lamL ls F) vs = some g → g = F vs := by
  induction ls with
  | nil =>
    intro R F vs g h
    cases vs with
    | nil => simp [appL, lamL] at h; exact h.symm
    | cons x vs => simp [appL] at h
  | cons l ls ih =>
    intro R F vs g h
    cases vs with
    | nil => cases l <;> simp [appL] at h
    | cons x vs =>
      cases l with
      | i k =>
        cases x <;> simp only [appL, reduceCtorEq] at h
        rename_i k' n
        split at h
        · rename_i hk
          obtain rfl := of_decide_eq_true hk
          exact ih (F := fun vs => F (.int k n :: vs)) h
        · cases h
      | b =>
        cases x <;> simp only [appL, reduceCtorEq] at h
        rename_i y
        exact ih (F := fun vs => F (.bool y :: vs)) h
      | s =>
        cases x <;> simp only [appL, reduceCtorEq] at h
        rename_i y
        exact ih (F := fun vs => F (.string y :: vs)) h
      | p =>
        cases x <;> simp only [appL, reduceCtorEq] at h
        rename_i y
        exact ih (F := fun vs => F (.pointer y :: vs)) h
      | sl =>
        cases x <;> simp only [appL, reduceCtorEq] at h
        rename_i y l c
        exact ih (F := fun vs => F (.slice y l c :: vs)) h
      | m =>
        cases x <;> simp only [appL, reduceCtorEq] at h
        rename_i y
        exact ih (F := fun vs => F (.map y :: vs)) h

/-- What is handed on, by its shape. -/
inductive Conv : List Sh → List AV → List AV → Prop
  | nil : Conv [] [] []
  | l {lf : Lf} {x : AV} {y : Value} {ss : List Sh} {xs ys : List AV} : x.value = some y → Conv ss xs ys → Conv (.l lf :: ss) (x :: xs) (.v y :: ys)
  | g {ls : List Lf} {cs : Array Value} {ss : List Sh} {xs ys : List AV} : Conv ss xs ys → Conv (.g ls :: ss) (.v (.agg cs) :: xs) (.v (.agg cs) :: ys)
  | a {ad : Addr} {ss : List Sh} {xs ys : List AV} : Conv ss xs ys → Conv (.a :: ss) (.a ad :: xs) (.a ad :: ys)
  | x {x : AV} {y : Value} {ss : List Sh} {xs ys : List AV} : x.value = some y → Conv ss xs ys → Conv (.x :: ss) (x :: xs) (.v y :: ys)
theorem appS_lam {ss : List Sh} : ∀ {R : Type} {F : List AV → R} {avs : List AV} {g : R}, appS ss (lamS ss F) avs = some g → ∃ avs', Conv ss avs avs' ∧ g = F avs' := by
  induction ss with
  | nil =>
    intro R F avs g h
    cases avs with
    | nil => simp [appS, lamS] at h; exact ⟨[], .nil, h.symm⟩
    | cons x avs => simp [appS] at h
  | cons sh ss ih =>
    intro R F avs g h
    cases avs with
    | nil => cases sh <;> simp [appS] at h
    | cons x avs =>
      cases sh with
      | l lf =>
        simp only [appS] at h
        split at h
        · rename_i y hy
          split at h
          · rename_i g' hg
            have := appL_lam (F := fun vs => lamS ss fun avs => F (.v (one? vs) :: avs)) hg
            subst this
            obtain ⟨avs', h1, h2⟩ := ih (F := fun avs => F (.v y :: avs)) h
            exact ⟨_, .l hy h1, h2⟩
          · cases h
        · cases h
      | g ls =>
        cases x with
        | v y =>
          cases y with
          | agg cs =>
            simp only [appS] at h
            split at h
            · rename_i g' hg
              have := appL_lam (F := fun vs => lamS ss fun avs => F (.v (.agg vs.toArray) :: avs)) hg
              subst this
              obtain ⟨avs', h1, h2⟩ := ih (F := fun avs => F (.v (.agg cs.toList.toArray) :: avs)) h
              exact ⟨_, .g h1, by simpa using h2⟩
            · cases h
          | _ => simp [appS] at h
        | _ => simp [appS] at h
      | a =>
        cases x with
        | a ad =>
          simp only [appS] at h
          obtain ⟨avs', h1, h2⟩ := ih (F := fun avs => F (.a ad :: avs)) h
          exact ⟨_, .a h1, h2⟩
        | _ => simp [appS] at h
      | x =>
        simp only [appS] at h
        split at h
        · rename_i y hy
          obtain ⟨avs', h1, h2⟩ := ih (F := fun avs => F (.v y :: avs)) h
          exact ⟨_, .x hy h1, h2⟩
        · cases h
theorem Conv.length {ss : List Sh} {xs ys : List AV} (h : Conv ss xs ys) : xs.length = ss.length ∧ ys.length = ss.length := by
  induction h <;> simp_all
theorem Conv.split {s1 s2 : List Sh} : ∀ {x1 x2 ys : List AV}, x1.length = s1.length → Conv (s1 ++ s2) (x1 ++ x2) ys → ∃ y1 y2, ys = y1 ++ y2 ∧ Conv s1 x1 y1 ∧ Conv s2 x2 y2 := by
  induction s1 with
  | nil =>
    intro x1 x2 ys hl h
    have : x1 = [] := List.eq_nil_of_length_eq_zero (by simpa using hl)
    subst this
    exact ⟨[], ys, rfl, .nil, h⟩
  | cons sh s1 ih =>
    intro x1 x2 ys hl h
    cases x1 with
    | nil => simp at hl
    | cons x x1 =>
      have hl1 : x1.length = s1.length := by simpa using hl
      simp only [List.cons_append] at h
      cases h with
      | l hv h => obtain ⟨y1, y2, e, h1, h2⟩ := ih hl1 h; exact ⟨_, y2, by rw [e]; rfl, .l hv h1, h2⟩
      | g h => obtain ⟨y1, y2, e, h1, h2⟩ := ih hl1 h; exact ⟨_, y2, by rw [e]; rfl, .g h1, h2⟩
      | a h => obtain ⟨y1, y2, e, h1, h2⟩ := ih hl1 h; exact ⟨_, y2, by rw [e]; rfl, .a h1, h2⟩
      | x hv h => obtain ⟨y1, y2, e, h1, h2⟩ := ih hl1 h; exact ⟨_, y2, by rw [e]; rfl, .x hv h1, h2⟩
theorem value_ok {s s' : St} {x : AV} {y z : Value} (h : x.value = some y) (hz : AVok s x z) : AVok s' (.v y) z := by
  cases x <;> simp [AV.value] at h <;> (subst h; exact hz)

end Go.V
