/- Keys: Decode. -/
import Derived.Test.YtalegpdnhkopmaaDoorEC
namespace Go.Proofs.YtalegpdnhkopmaaDoor.Ky
open Go Go.V Go.RowKit
open Go.Proofs.YtalegpdnhkopmaaDoor.VC Go.Proofs.YtalegpdnhkopmaaDoor.By Go.Proofs.YtalegpdnhkopmaaDoor.Tree
open Go.Proofs.Tryd (prog)
set_option linter.unusedVariables false
set_option linter.unusedSimpArgs false

theorem untxt_lt : ∀ {l : Bs} {x : Bs × Bs}, untxt l = some x → x.2.length + 2 ≤ l.length
  | [], x, h => by cases h
  | [c], x, h => by cases h
  | c :: d :: r, x, h => by
    rw [untxt] at h
    split at h
    · split at h
      · injection h with h; subst h; simp
      · split at h
        · obtain ⟨y, hy, rfl⟩ := Option.map_eq_some_iff.1 h
          have := untxt_lt hy; simp; omega
        · cases h
    · obtain ⟨y, hy, rfl⟩ := Option.map_eq_some_iff.1 h
      have := untxt_lt hy
      simp at this ⊢; omega
theorem takeB_lt {l : Bs} {q : Pt} {r : Bs} (h : takeB l = some (q, r)) : r.length < l.length := by
  cases l with
  | nil => cases h
  | cons c t =>
    rw [takeB] at h
    split at h
    · injection h with h; injection h with h1 h2
      subst h2; rw [List.length_drop, List.length_cons]; omega
    · split at h
      · obtain ⟨y, hy, e⟩ := Option.map_eq_some_iff.1 h
        injection e with e1 e2
        subst e2
        have := untxt_lt hy; rw [List.length_cons]; omega
      · cases h
theorem decB_fuel2 : ∀ (m m' : Nat) (b : Bs), b.length ≤ m → b.length ≤ m' → decB m b = decB m' b
  | 0, m', b, h, _ => by
    have : b = [] := List.length_eq_zero_iff.1 (by omega)
    subst this; cases m' <;> rfl
  | m + 1, m', [], _, _ => by cases m' <;> rfl
  | m + 1, 0, c :: t, _, h => by simp at h
  | m + 1, m' + 1, c :: t, h, h' => by
    rw [decB, decB]
    · cases hx : takeB (c :: t) with
      | none => rfl
      | some x =>
        have := takeB_lt (q := x.1) (r := x.2) hx
        rw [List.length_cons] at this h h'
        simp only [Option.bind_some]
        rw [decB_fuel2 m m' x.2 (by omega) (by omega)]
    · intro z; cases z
    · intro z; cases z
theorem decB_fuel (m : Nat) (b : Bs) (h : b.length ≤ m) : decB m b = decB b.length b := decB_fuel2 _ _ _ h (Nat.le_refl _)
theorem decB_step {b : Bs} (h : 0 < b.length) : decB b.length b = (takeB b).bind fun x => (decB x.2.length x.2).map fun l => x.1 :: l := by
  obtain ⟨c, t, rfl⟩ : ∃ c t, b = c :: t := by
    cases b with
    | nil => simp at h
    | cons c t => exact ⟨c, t, rfl⟩
  rw [List.length_cons, decB]
  · cases hx : takeB (c :: t) with
    | none => rfl
    | some x =>
      have := takeB_lt (q := x.1) (r := x.2) hx
      rw [List.length_cons] at this
      simp only [Option.bind_some]
      rw [decB_fuel t.length x.2 (by omega)]
  · intro z; cases z
/-- The key of bytes, and the error's number. -/
def decRes (l : Bs) : List Pt × Int := if 200 < l.length then ([], 3) else match decB l.length l with
  | none => ([], 6)
  | some ps => (ps, 0)
theorem clipP_c {w : World} {p : Option Addr} {l c : Nat} (h : l ≤ c) : Calls prog 56 #[.slice p l c] w fun e w' => e = .returned (.slice p l l) ∧ w' = w := by
  refine slices_Clip_g_key_Part.link ⟨⟨by omega, by omega, by omega, by omega⟩, ?_⟩
  rw [Int.toNat_natCast, Nat.sub_zero, subA_0]
  exact ⟨rfl, rfl⟩
set_option maxHeartbeats 1000000 in
theorem decode_c {w : World} {A : Option Addr} {C : Nat} {l : Bs} (h : Row w A (l.map U8)) (hl : l.length ≤ 1000000) (hC : l.length ≤ C) :
    Calls prog 19 #[.slice A l.length C] w fun e w' => Fr [] w w' ∧ ∃ p c, e = .returned (.tuple #[.slice p (decRes l).1.length c, .int .i64 (decRes l).2]) ∧ (decRes l).1.length ≤ c ∧ OwnC w' w.heap.size p ((decRes l).1.flatMap pcell) := by
  have bad : ∀ w' n, Fr [] w w' → decRes l = ([], n) → (fun (e : Ending) (w' : World) => Fr [] w w' ∧ ∃ p c, e = .returned (.tuple #[.slice p (decRes l).1.length c, .int .i64 (decRes l).2]) ∧ (decRes l).1.length ≤ c ∧ OwnC w' w.heap.size p ((decRes l).1.flatMap pcell)) (.returned (.tuple #[.slice none 0 0, .int .i64 n])) w' := fun w' n f e =>
    ⟨f, none, 0, by rw [e]; rfl, by rw [e]; exact Nat.le_refl _, by rw [e]; exact ⟨fun u hu => (by cases hu), .inl ⟨rfl, rfl⟩⟩⟩
  refine key_Decode.link (bc (fun hlong => ?_) fun hlong => ?_)
  · exact bad w 3 (Fr.refl _ _) (by unfold decRes; rw [if_pos (by have := of_decide_eq_true hlong; omega)])
  have hs : l.length ≤ 200 := by have := of_decide_eq_false hlong; omega
  have hres : decRes l = match decB l.length l with | none => ([], 6) | some ps => (ps, 0) := by unfold decRes; rw [if_neg (by omega)]
  refine ⟨fun m p k c p' k' c' w' => ∃ (rest : Bs) (ps : List Pt), k = rest.length ∧ k ≤ c ∧ Row w' p (rest.map U8) ∧ (∀ ad, p = some ad → 0 < rest.length → ad.block < w.heap.size) ∧ m = 0 + rest.length ∧ k' = ps.length ∧ OwnZ w' w.heap.size 3 p' ps.length c' (ps.flatMap pcell) ∧ Fr [] w w' ∧ ps.length + rest.length ≤ 200 ∧ decB l.length l = (decB rest.length rest).map fun q => ps ++ q, 0 + l.length, ⟨l, [], rfl, hC, h, (fun ad hp hn => row_lt h hp hn), rfl, rfl, OwnZ.nil _ _ _, Fr.refl _ _, by simp; omega, by cases decB l.length l <;> simp⟩, ?_⟩
  rintro m p4 k5 c6 p7 k8 c9 w10 ⟨rest, ps, rfl, hc6, hr, hbk, rfl, rfl, o, F, hb, hd⟩
  have z10 := F.size
  refine bc (fun hpos => ?_) fun hpos => ?_
  · have hpos : 0 < rest.length := by have := of_decide_eq_true hpos; omega
    have hstep := decB_step hpos
    refine (take_c hr hpos (by omega) hc6).mono ?_
    rintro e w13 ⟨f13, t, s, n, pr, kr, cr, b, rfl, hres2⟩
    have F13 := F.trans' f13
    have z13 := f13.size
    refine ⟨_, _, _, _, _, _, _, rfl, fun k21 => bc (fun hbt w22 s22 => ?_) fun hbf k24 => ?_⟩
    · rcases hres2 with ⟨hn, _⟩ | ⟨r, _, hb1, _⟩
      · exact bad w22 6 (F13.trans' s22.fr) (by rw [hres, hd, hstep, hn]; rfl)
      · rw [hb1] at hbt; cases hbt
    · rcases hres2 with ⟨_, hb0⟩ | ⟨r, ht, _, rfl, hcr, hrow, hblk⟩
      · rw [hb0] at hbf; cases hbf
      have hlt := takeB_lt ht
      refine app1 (f := pcell) flatP (x := ⟨t, s, n⟩) (u := w) (B := w.heap.size) (o.fr f13 (fun _ _ => by simp)) F13 rfl (Nat.le_refl _) (by omega) (fun h => by cases h) (by simp) (fun ad hp x hx => .inl (by simp at hx ⊢; omega)) (by omega) (by omega) fun w25 p26 c28 F25 G25 _ o25 _ => ?_
      refine ⟨0 + r.length, by omega, r, _, rfl, hcr, ?_, (fun ad hp hn => by obtain ⟨a, h1, h2⟩ := hblk ad hp; rw [h2]; exact hbk a h1 hpos), rfl, rfl, o25, F25, by rw [List.length_append]; simp only [List.length_cons, List.length_nil]; omega, ?_⟩
      · refine row_fr0 G25 hrow fun ad hp hn hx => ?_
        obtain ⟨a, h1, h2⟩ := hblk ad hp
        have h3 := hbk a h1 hpos
        obtain ⟨ad', hp', e⟩ := (g_mem_pb _ _).1 hx
        have := (o.lt hp').1
        omega
      · rw [hd, hstep, ht]
        simp only [Option.bind_some, Option.map_map]
        congr 1
        funext q
        simp
  · have : rest = [] := List.length_eq_zero_iff.1 (by have := of_decide_eq_false hpos; omega)
    subst this
    have hd : decB l.length l = some ps := by rw [hd]; simp [decB]
    have hr2 : decRes l = (ps, 0) := by rw [hres, hd]
    refine (clipP_c o.2.1).mono ?_
    rintro e w31 ⟨rfl, rfl⟩
    rw [hr2]
    exact ⟨_, _, _, rfl, F, _, _, rfl, Nat.le_refl _, ownc_of o⟩
end Go.Proofs.YtalegpdnhkopmaaDoor.Ky
