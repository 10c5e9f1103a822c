/- Records: Decode, of bytes that begin with one. -/
import Derived.Test.YtalegpdnhkopmaaDoorER
namespace Go.Proofs.YtalegpdnhkopmaaDoor.Rc
open Go Go.V Go.RowKit
open Go.Proofs.YtalegpdnhkopmaaDoor.VC Go.Proofs.YtalegpdnhkopmaaDoor.By Go.Proofs.YtalegpdnhkopmaaDoor.Tree Go.Proofs.YtalegpdnhkopmaaDoor.Ky Go.Proofs.YtalegpdnhkopmaaDoor.Vl
open Go.Proofs.Tryd (prog)
set_option linter.unusedVariables false
set_option linter.unusedSimpArgs false
set_option maxRecDepth 20000
theorem rec_len {L : List CH} {l : Bs} (h : recB1 L = (l, 0)) : 2 ≤ l.length := by
  obtain ⟨_, _, rfl, _⟩ := rec_ok h
  unfold rec1; simp
theorem chB_pos (c : CH) : 0 < (chB c).length := by
  unfold chB; simp
/-- What Decode answers. -/
def DecRes (w w' : World) (l : Bs) (e : Ending) : Prop := ∃ (M : List CH) (n10 : Int) (p11 : Option Addr) (k12 k13 : Nat) (s14 : ByteArray) (n15 : Int) (p16 : Option Addr) (k17 k18 : Nat) (p19 : Option Addr) (k20 k21 : Nat) (s22 s23 : ByteArray) (n : Int),
  e = .returned (.tuple #[.agg #[.int .i64 n10, .slice p11 k12 k13, .string s14, .int .i64 n15, .slice p16 k17 k18, .slice p19 k20 k21, .string s22, .string s23], .int .i64 n]) ∧ (n = 0 ∨ n = 3 ∨ n = 6) ∧ (n = 3 ↔ 4000 < l.length) ∧ (n = 0 → n10 = 1 ∧ k12 = M.length ∧ k12 ≤ k13 ∧ OwnZ w' w.heap.size 9 p11 k12 k13 (M.flatMap ccell) ∧ (∀ c ∈ M, InC c) ∧ recB1 M = (l, 0)) ∧ (∀ L, (∀ c ∈ L, InC c) → recB1 L = (l, 0) → n = 0 ∧ M = L.map normC)
set_option maxHeartbeats 2000000 in
theorem decode1_c {w : World} {A : Option Addr} {C : Nat} {l : Bs} (h : Row w A (l.map U8)) (hl : l.length ≤ 140737488355328) (hC : l.length ≤ C) (hT : Tabs w) (h1 : l = [] ∨ ∃ t, l = 1 :: t) :
    Calls prog 46 #[.slice A l.length C] w fun e w' => Fr [] w w' ∧ DecRes w w' l e := by
  refine record_Decode.link fun k1 => ?_
  have bad : ∀ (n : Int) (e : Ending) (w' : World), Fr [] w w' → (n = 3 ∨ n = 6) → (n = 3 ↔ 4000 < l.length) → (∀ L, (∀ c ∈ L, InC c) → recB1 L = (l, 0) → False) → e = .returned (.tuple #[.agg #[.int .i64 0, .slice none 0 0, .string ByteArray.empty, .int .i64 0, .slice none 0 0, .slice none 0 0, .string ByteArray.empty, .string ByteArray.empty], .int .i64 n]) → Fr [] w w' ∧ DecRes w w' l e := fun n e w' f hn h3 hL he =>
    ⟨f, [], 0, none, 0, 0, ByteArray.empty, 0, none, 0, 0, none, 0, 0, ByteArray.empty, ByteArray.empty, n, he, .inr hn, h3, fun z => by omega, fun L hI hr => (hL L hI hr).elim⟩
  refine bc' (fun hlong w2 s2 => bad 3 _ _ s2.fr (.inl rfl) ⟨fun _ => by have := of_decide_eq_true hlong; omega, fun _ => rfl⟩ (fun L hI hr => by have := (rec_ok hr).2.2.2; have := of_decide_eq_true hlong; omega) rfl) fun hlong => ?_
  have hlong : l.length ≤ 4000 := by have := of_decide_eq_false hlong; omega
  have bad6 : ∀ (e : Ending) (w' : World), Fr [] w w' → (∀ L, (∀ c ∈ L, InC c) → recB1 L = (l, 0) → False) → e = .returned (.tuple #[.agg #[.int .i64 0, .slice none 0 0, .string ByteArray.empty, .int .i64 0, .slice none 0 0, .slice none 0 0, .string ByteArray.empty, .string ByteArray.empty], .int .i64 6]) → Fr [] w w' ∧ DecRes w w' l e := fun e w' f hL he =>
    bad 6 e w' f (.inr rfl) ⟨fun z => by omega, fun z => by omega⟩ hL he
  refine bc' (fun h0 w4 s4 => bad6 _ _ s4.fr (fun L hI hr => by have := rec_len hr; have := of_decide_eq_true h0; omega) rfl) fun h0 => ?_
  obtain ⟨t, rfl⟩ : ∃ t, l = 1 :: t := by
    rcases h1 with rfl | h1
    · simp at h0
    · exact h1
  have hll : ((1 : UInt8) :: t).length = t.length + 1 := rfl
  obtain ⟨ad, hp⟩ := h.has (by simp)
  refine ⟨ad, hp, ⟨by omega, by rw [hll]; omega⟩, 1, h.get hp (j := 0) rfl, fun k8 y9 h9 => ?_⟩
  have w1 : IntKind.wrap .i64 (1 : Int) = 1 := wrapi (by omega) (by omega)
  rw [w1]
  -- the changes read are written again
  have fin : ∀ (M : List CH) (B : Nat) (p11 : Option Addr) (k13 : Nat) (s14 : ByteArray) (n15 : Int) (p16 : Option Addr) (k17 k18 : Nat) (p19 : Option Addr) (k20 k21 : Nat) (s22 s23 : ByteArray) (w24 : World), OwnZ w24 B 9 p11 M.length k13 (M.flatMap ccell) → Fr [] w w24 → w.heap.size ≤ k1 → w.heap.size ≤ k8 → k1 < B → k8 < B → w.heap.size ≤ B → B ≤ w24.heap.size → (∀ c ∈ M, InC c) → M.length ≤ 4001 → (∀ L, (∀ c ∈ L, InC c) → recB1 L = (1 :: t, 0) → M = L.map normC) → y9 1 p11 M.length k13 s14 n15 p16 k17 k18 p19 k20 k21 s22 s23 w24 := by
    intro M B p11 k13 s14 n15 p16 k17 k18 p19 k20 k21 s22 s23 w24 o F K1 K8 KB1 KB8 hB hB' hI hM hcomp
    refine h9 _ _ _ _ _ _ _ _ _ _ _ _ _ _ _ ((encode1_c o.row (hT.old F) hI (by omega)).mono ?_)
    rintro e w26 ⟨f26, p27, c29, rfl, o27⟩
    have F26 := F.trans' f26
    have no : ∀ x, recB1 M = x → (x.2 = 0 → x.1 = 1 :: t → False) → ∀ L, (∀ c ∈ L, InC c) → recB1 L = (1 :: t, 0) → False := fun x hx hn L hIL hr => by
      have := hcomp L hIL hr
      have e2 : recB1 M = (1 :: t, 0) := by rw [this, recB1_norm]; exact hr
      rw [e2] at hx
      subst hx
      exact hn rfl rfl
    have off : ∀ {v w' : World} {E : List Nat}, Fr [] w v → Step v w' [k1] E → Fr [] w w' := fun f s => f.trans s.fr fun x hx => by rw [List.mem_singleton.1 hx]; exact .inr K1
    refine ⟨_, _, _, _, rfl, keepF f26 (by simp; omega), fun y31 h31 => bc' (fun hn => h31 _ _ (bT rfl fun w34 s34 => bad6 _ _ (off F26 s34) (no _ rfl fun z _ => by rw [z] at hn; cases hn) rfl)) fun hn => ?_⟩
    have hn : (recB1 M).2 = 0 := by simpa using hn
    refine ⟨(recB1 M).1, rfl, bytes_at o27.row, 1 :: t, rfl, bytes_at (h.old F26), h31 _ _ (bc' (fun hne w34 s34 => bad6 _ _ (off F26 s34) (no _ rfl fun _ z => by rw [z] at hne; simp at hne) rfl) fun heq w36 s36 => ?_)⟩
    have heq : (recB1 M).1 = 1 :: t := by
      have heq : (⟨⟨(recB1 M).1⟩⟩ : ByteArray) = ⟨⟨1 :: t⟩⟩ := by simpa using heq
      injection heq with heq; injection heq
    have hrec : recB1 M = (1 :: t, 0) := by rw [← heq, ← hn]
    have o36 := (o.fr f26 fun _ _ => by simp).fr s36.fr fun a ha hx => by
      have := (o.lt ha).1
      rw [List.mem_singleton.1 hx] at this; omega
    exact ⟨off F26 s36, M, 1, p11, M.length, k13, s14, n15, p16, k17, k18, p19, k20, k21, s22, s23, 0, rfl, .inl rfl, ⟨fun z => by omega, fun z => by omega⟩, fun _ => ⟨rfl, rfl, o36.2.1, o36.mono hB, hI, hrec⟩, fun L hIL hr => ⟨rfl, hcomp L hIL hr⟩⟩
  refine bT rfl (bc' (fun h2 w50 s50 => bad6 _ _ s50.fr (fun L hI hr => by have := rec_len hr; have := of_decide_eq_true h2; omega) rfl) fun h2 => ?_)
  have h2 : 2 ≤ t.length + 1 := by have := of_decide_eq_false h2; rw [hll] at this; omega
  rw [hll] at hC hlong
  refine ⟨⟨by omega, by rw [hll]; omega, by rw [hll]; omega⟩, fun m p57 k58 k59 n60 p61 k62 k63 s64 n65 p66 k67 k68 p69 k70 k71 s72 s73 w' => ∃ (rest : Bs) (M : List CH) (B : Nat), k58 = rest.length ∧ k58 ≤ k59 ∧ Row w' p57 (rest.map U8) ∧ (∀ ad, p57 = some ad → ∃ a, A = some a ∧ ad.block = a.block) ∧ m = rest.length ∧ n60 = 1 ∧ k62 = M.length ∧ OwnZ w' B 9 p61 M.length k63 (M.flatMap ccell) ∧ Fr [] w w' ∧ w.heap.size ≤ k1 ∧ w.heap.size ≤ k8 ∧ k1 < B ∧ k8 < B ∧ w.heap.size ≤ B ∧ B ≤ w'.heap.size ∧ (∀ c ∈ M, InC c) ∧ rest.length + M.length ≤ t.length + 1 ∧ (∀ L, (∀ c ∈ L, InC c) → recB1 L = (1 :: t, 0) → M.length ≤ L.length ∧ M = (L.take M.length).map normC ∧ rest = (L.drop M.length).flatMap chB), (t.drop 1).length, fun w54 s54 => ?_, ?_⟩
  · have n54 := g_new2 s54
    refine ⟨t.drop 1, [], w54.heap.size, by rw [Int.toNat_natCast, List.length_drop, hll]; omega, by rw [Int.toNat_natCast, hll]; omega, row_from (lo := 2) (h.old s54.fr) (by rw [hll]; omega), fun ad h => subA_blk h, rfl, rfl, rfl, OwnZ.nil _ _ _, s54.fr, n54.2.2.1, n54.1, n54.2.2.2.1, n54.2.1, s54.fr.size, Nat.le_refl _, by simp, by rw [List.length_drop]; simp; omega, fun L hI hr => ⟨Nat.zero_le _, rfl, ?_⟩⟩
    obtain ⟨_, _, e, _⟩ := rec_ok hr
    unfold rec1 at e
    injection e with _ e
    rw [e]; rfl
  intro m p57 k58 k59 n60 p61 k62 k63 s64 n65 p66 k67 k68 p69 k70 k71 s72 s73 w74 ⟨rest, M, B, e58, hk59, hr, hblk, em, e60, e62, o, F, K1, K8, KB1, KB8, hB, hB', hI, hlen, hcomp⟩ y76 h76
  subst e58; subst em; subst e60; subst e62
  have hAlt : ∀ a, A = some a → a.block < w.heap.size := fun a ha => row_lt h ha (by simp)
  have out : (rest = [] ∨ 60 < M.length) → y76 false w74 := fun hx => h76 _ _ (bF rfl (fin M B p61 k63 s64 n65 p66 k67 k68 p69 k70 k71 s72 s73 w74 o F K1 K8 KB1 KB8 hB hB' hI (by omega) fun L hIL hrL => ?_))
  · refine bc' (fun hpos => ?_) fun hpos => out (.inl (List.length_eq_zero_iff.1 (by have := of_decide_eq_false hpos; omega)))
    have hpos : 0 < rest.length := by have := of_decide_eq_true hpos; omega
    cases h60 : decide ((M.length : Int) ≤ 60) with
    | false => exact out (.inr (by have := of_decide_eq_false h60; omega))
    | true =>
      have h60 : M.length ≤ 60 := by have := of_decide_eq_true h60; omega
      refine h76 _ _ (bT rfl ((read_c hr (by omega) hk59 (hT.old F)).mono ?_))
      rintro e w80 ⟨f80, c, p90, k91, k92, b93, rfl, hres⟩
      have z80 := f80.size
      have F80 := F.trans' f80
      refine ⟨_, _, _, _, _, _, _, _, _, _, _, _, _, rfl, keepF f80 (by simp; omega), fun k94 => ?_⟩
      have nxt : ∀ L, (∀ c ∈ L, InC c) → recB1 L = (1 :: t, 0) → ∃ d, M.length < L.length ∧ L[M.length]? = some d ∧ rd rest = some (normC d, (L.drop (M.length + 1)).flatMap chB) := fun L hIL hrL => by
        obtain ⟨g1, g2, g3⟩ := hcomp L hIL hrL
        have hlt : M.length < L.length := by
          rcases Nat.lt_or_ge M.length L.length with z | z
          · exact z
          · rw [List.drop_eq_nil_of_le z] at g3
            rw [g3] at hpos; simp at hpos
        refine ⟨L[M.length], hlt, List.getElem?_eq_getElem hlt, ?_⟩
        have hm := List.getElem_mem hlt
        rw [g3, List.drop_eq_getElem_cons hlt, List.flatMap_cons]
        exact rd_chB ((rec_ok hrL).2.1 _ hm) (hIL _ hm) _
      rcases hres with ⟨hn, rfl⟩ | ⟨r, hrd, rfl, rfl, hk92, hrow, hb90⟩
      · refine bT rfl fun w95 s95 => bad6 _ _ (F80.trans s95.fr fun x hx => by rw [List.mem_singleton.1 hx]; exact .inr K1) (fun L hIL hrL => ?_) rfl
        obtain ⟨d, _, _, hd⟩ := nxt L hIL hrL
        rw [hn] at hd; cases hd
      · have hri := rd_int hrd
        refine bF rfl fun k97 => ?_
        have o80 := o.fr f80 fun _ _ => by simp
        refine app1 (f := ccell) flatC (x := c) (u := w) (B := B) o80 F80 rfl hB (by omega) (fun h => by cases h) (by simp) (fun ad ha x hx => ?_) (by omega) (by omega) fun w98 p99 c101 F98 G98 n98 o98 d98 => ?_
        · have := (o80.lt ha).1
          simp at hx
          rcases hx with rfl | rfl | rfl | rfl
          · right; omega
          · right; omega
          · left; simp
          · left; simp
        · have z98 := G98.size
          refine ⟨r.length, hri.2, fun w103 s103 => ⟨r, M ++ [c], B, rfl, hk92, ?_, fun ad ha => ?_, rfl, rfl, rfl, ?_, F98.trans s103.fr fun x hx => by rw [List.mem_singleton.1 hx]; exact .inr K8, K1, K8, KB1, KB8, hB, by have := s103.fr.size; omega, fun x hx => ?_, by rw [List.length_append]; simp; omega, fun L hIL hrL => ?_⟩⟩
          · have lt9 : ∀ ad, p90 = some ad → ad.block < w.heap.size := fun ad ha => by
              obtain ⟨a, g1, g2⟩ := hb90 ad ha
              obtain ⟨a', g3, g4⟩ := hblk a g1
              rw [g2, g4]; exact hAlt _ g3
            have r98 : Row w98 p90 (r.map U8) := row_fr0 G98 hrow fun ad ha _ hx => by
              have h1 := lt9 ad ha
              obtain ⟨ad', hp', e⟩ := (g_mem_pb _ _).1 hx
              have := (o80.lt hp').1
              omega
            exact row_fr0 s103.fr r98 fun ad ha _ hx => by
              have h1 := lt9 ad ha
              rw [List.mem_singleton.1 hx] at h1; omega
          · obtain ⟨a, g1, g2⟩ := hb90 ad ha
            obtain ⟨a', g3, g4⟩ := hblk a g1
            exact ⟨a', g3, g2.trans g4⟩
          · exact o98.fr s103.fr fun ad ha hx => by
              have := (o98.lt ha).1
              rw [List.mem_singleton.1 hx] at this; omega
          · rcases List.mem_append.1 hx with hx | hx
            · exact hI x hx
            · rw [List.mem_singleton.1 hx]; exact hri.1
          · obtain ⟨d, hlt, hgd, hd⟩ := nxt L hIL hrL
            obtain ⟨g1, g2, g3⟩ := hcomp L hIL hrL
            rw [hrd] at hd
            injection hd with hd; injection hd with e1 e2
            have el : (M ++ [c]).length = M.length + 1 := by simp
            rw [el]
            refine ⟨hlt, ?_, e2⟩
            rw [List.take_add_one, hgd, List.map_append, ← g2, e1]; rfl
  · obtain ⟨g1, g2, g3⟩ := hcomp L hIL hrL
    have hle : L.length ≤ M.length := by
      rcases hx with rfl | hx
      · rcases Nat.lt_or_ge M.length L.length with z | z
        · rw [List.drop_eq_getElem_cons z, List.flatMap_cons] at g3
          have := chB_pos L[M.length]
          have := congrArg List.length g3
          rw [List.length_append, List.length_nil] at this; omega
        · exact z
      · have := (rec_ok hrL).1; omega
    rw [List.take_of_length_le hle] at g2
    exact g2
end Go.Proofs.YtalegpdnhkopmaaDoor.Rc
