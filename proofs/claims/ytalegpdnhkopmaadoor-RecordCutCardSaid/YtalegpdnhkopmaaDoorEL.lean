/- Records: Encode of changes and of a name; what holds awake. -/
import Derived.Test.YtalegpdnhkopmaaDoorEK
namespace Go.Proofs.YtalegpdnhkopmaaDoor.Rc
open Go Go.V Go.RowKit
open Go.Proofs.YtalegpdnhkopmaaDoor.VC Go.Proofs.YtalegpdnhkopmaaDoor.By Go.Proofs.YtalegpdnhkopmaaDoor.Tree Go.Proofs.YtalegpdnhkopmaaDoor.Ky Go.Proofs.YtalegpdnhkopmaaDoor.Vl
open Go.Proofs.Tryd (prog)
set_option linter.unusedVariables false
set_option linter.unusedSimpArgs false
set_option maxRecDepth 20000

theorem flatC : Flat ccell 9 := ⟨fun _ => rfl, fun a u h => by simp at h; rcases h with rfl | rfl | rfl | rfl | rfl | rfl | rfl | rfl | rfl <;> rfl⟩
theorem contains_c {w : World} {A : Option Addr} {C : Nat} {L : List CH} (hr : Row w A (L.flatMap ccell)) (hT : Tabs w) (hl : L.length ≤ 1000000) :
    Calls prog 98 #[.slice A L.length C, .func (.func 99) #[] #[]] w fun e w' => (∃ b : Bool, e = .returned (.bool b) ∧ (b = true ↔ ∃ c ∈ L, formB c = false)) ∧ Fr [] w w' := by
  refine slices_ContainsFunc_g_api_Change.link ?_
  have key : Calls prog 143 #[.slice A L.length C, .func (.func 99) #[] #[]] w fun e w' => (∃ n : Int, e = .returned (.int .i64 n) ∧ (0 ≤ n ↔ ∃ c ∈ L, formB c = false)) ∧ Fr [] w w' := by
    refine slices_IndexFunc_g_api_Change.link ⟨fun m n w' => ∃ i : Nat, n = (i : Int) ∧ i ≤ L.length ∧ m = L.length - i ∧ (∀ c ∈ L.take i, formB c = true) ∧ Fr [] w w', L.length, ⟨0, rfl, by omega, rfl, by simp, Fr.refl _ _⟩, ?_⟩
    rintro m n w5 ⟨i, rfl, hi, rfl, hall, F⟩
    refine bc' (fun hlt => ?_) fun hge => ?_
    · have hlt : (i : Int) < (L.length : Int) := of_decide_eq_true hlt
      have hlt' : i < L.length := by omega
      obtain ⟨ad, hp, hc⟩ := (hr.old F).atF flatC (by decide) hlt'
      refine ⟨ad, hp, ⟨by omega, hlt⟩, L[i].k, L[i].n, L[i].f, L[i].l, L[i].t, L[i].key, L[i].v.k, L[i].v.n, L[i].v.s, ⟨by rw [Int.toNat_natCast]; exact hc 0 _ rfl, by rw [Int.toNat_natCast]; exact hc 1 _ rfl, by rw [Int.toNat_natCast]; exact hc 2 _ rfl, by rw [Int.toNat_natCast]; exact hc 3 _ rfl, by rw [Int.toNat_natCast]; exact hc 4 _ rfl, by rw [Int.toNat_natCast]; exact hc 5 _ rfl, by rw [Int.toNat_natCast]; exact hc 6 _ rfl, by rw [Int.toNat_natCast]; exact hc 7 _ rfl, by rw [Int.toNat_natCast]; exact hc 8 _ rfl, trivial⟩, record_Encode_1.body, ?_⟩
      refine record_Encode_1.link fun k1 w2 s2 => (form_c L[i] ((hT.old F).old s2.fr)).mono ?_
      rintro e w5' ⟨rfl, f5⟩
      have n2 := g_new1 s2
      have F5 := (F.trans' s2.fr).trans' f5
      refine ⟨_, rfl, keepF f5 (by simpa using n2.2), _, rfl, bc' (fun hb => ⟨⟨_, rfl, ?_⟩, F5⟩) fun hb => ?_⟩
      · have hf : formB L[i] = false := by
          cases hx : formB L[i] with
          | false => rfl
          | true => rw [hx] at hb; simp at hb
        exact ⟨fun _ => ⟨_, List.getElem_mem hlt', hf⟩, fun _ => by omega⟩
      · have hf : formB L[i] = true := by
          cases hx : formB L[i] with
          | true => rfl
          | false => rw [hx] at hb; simp at hb
        refine ⟨L.length - (i + 1), by omega, i + 1, by rw [wrapi (by omega) (by omega)]; simp, by omega, rfl, fun c hc => ?_, F5⟩
        rw [take_snoc hlt'] at hc
        rcases List.mem_append.1 hc with hc | hc
        · exact hall c hc
        · rw [List.mem_singleton.1 hc]; exact hf
    · have : i = L.length := by have := of_decide_eq_false hge; omega
      subst this
      rw [List.take_length] at hall
      exact ⟨⟨_, rfl, fun h => (by omega), fun ⟨c, hc, hf⟩ => by rw [hall c hc] at hf; cases hf⟩, F⟩
  refine key.mono ?_
  rintro e w2 ⟨⟨n, rfl, hn⟩, f⟩
  exact ⟨n, rfl, ⟨_, rfl, by rw [decide_eq_true_eq]; exact hn⟩, f⟩
theorem chB_len (c : CH) (h : formB c = true) : (chB c).length ≤ 150 := by
  have h1 := keyB_len h
  have h2 := vb_len c.v
  unfold chB
  split <;> simp <;> omega
/-- A record of changes: its bytes, and the error's number. -/
def rec1 (L : List CH) : Bs := 1 :: UInt8.ofNat L.length :: L.flatMap chB
def recB1 (L : List CH) : Bs × Int := if 60 < L.length ∨ ∃ c ∈ L, formB c = false then ([], 1) else if 4000 < (rec1 L).length then ([], 3) else (rec1 L, 0)
theorem flat_chB {L : List CH} (h : ∀ c ∈ L, formB c = true) : (L.flatMap chB).length ≤ L.length * 150 := by
  induction L with
  | nil => simp
  | cons c L ih =>
    have h1 := chB_len c (h c List.mem_cons_self)
    have h2 := ih fun x hx => h x (List.mem_cons_of_mem _ hx)
    rw [List.flatMap_cons, List.length_append, List.length_cons, Nat.add_mul]; omega
set_option maxHeartbeats 1000000 in
theorem encode1_c {w : World} {A oA aA : Option Addr} {C oL oC aL aC : Nat} {vn lb nm : ByteArray} {vk : Int} {L : List CH} (hr : Row w A (L.flatMap ccell)) (hT : Tabs w) (hI : ∀ c ∈ L, InC c) (hl : L.length ≤ 140737488355328) :
    Calls prog 45 #[.agg #[.int .i64 1, .slice A L.length C, .string vn, .int .i64 vk, .slice oA oL oC, .slice aA aL aC, .string lb, .string nm]] w fun e w' => Fr [] w w' ∧ ∃ p c, e = .returned (.tuple #[.slice p (recB1 L).1.length c, .int .i64 (recB1 L).2]) ∧ OwnZ w' w.heap.size 1 p (recB1 L).1.length c ((recB1 L).1.map U8) := by
  refine record_Encode.link fun k1 k2 y3 h3 => bT rfl fun y10 h10 => ?_
  have bad : ∀ w' n, Fr [] w w' → recB1 L = ([], n) → (fun (e : Ending) (w' : World) => Fr [] w w' ∧ ∃ p c, e = .returned (.tuple #[.slice p (recB1 L).1.length c, .int .i64 (recB1 L).2]) ∧ OwnZ w' w.heap.size 1 p (recB1 L).1.length c ((recB1 L).1.map U8)) (.returned (.tuple #[.slice none 0 0, .int .i64 n])) w' := fun w' n f e =>
    ⟨f, none, 0, by rw [e]; rfl, by rw [e]; exact OwnZ.nil _ _ _⟩
  refine bc' (fun h60 w56 s56 => h10 _ _ (bT rfl (bad _ _ s56.fr ?_))) fun h60 w58 s58 => ?_
  · unfold recB1
    rw [if_pos (.inl (by have := of_decide_eq_true h60; omega))]
  have h60 : L.length ≤ 60 := by have := of_decide_eq_false h60; omega
  have n58 := g_new2 s58
  refine (contains_c (hr.old s58.fr) (hT.old s58.fr) (by omega)).mono ?_
  rintro e w61 ⟨⟨b62, rfl, hb⟩, f61⟩
  have z61 := f61.size
  have F61 := s58.fr.trans' f61
  refine ⟨b62, rfl, keepF f61 (by simp; omega), h10 _ _ (bc' (fun hbt => bad _ _ F61 ?_) fun hbf k13 w14 s14 b14 => ?_)⟩
  · unfold recB1
    rw [if_pos (.inr (hb.1 hbt))]
  have hform : ∀ c ∈ L, formB c = true := fun c hc => by
    cases hx : formB c with
    | true => rfl
    | false => rw [hb.2 ⟨c, hc, hx⟩] at hbf; cases hbf
  have hres : recB1 L = if 4000 < (rec1 L).length then ([], 3) else (rec1 L, 0) := by
    unfold recB1
    rw [if_neg]
    rintro (h | ⟨c, hc, hx⟩)
    · omega
    · rw [hform c hc] at hx; cases hx
  have n14 := g_new1 s14
  have F14 := F61.trans' s14.fr
  have b14 : Blk w14 k2 ([1].map U8) := b14
  have o14 : OwnZ w14 w.heap.size 1 (some ⟨k2, 0, none⟩) ([1] : Bs).length 1 (([1] : Bs).map U8) := OwnZ.blk (n := 1) b14 rfl (by simp [U8, Value.oneCell']) (by omega)
  have z14 := s14.fr.size
  refine appB (zs := [UInt8.ofNat L.length]) (u := w) ?_ rfl o14 F14 (Nat.le_refl _) (by omega) rfl (fun _ => rfl) rfl (fun ad hp hin => ?_) (by simp) fun w17 p18 c20 g17 _ _ o17 => ?_
  · rw [List.map_cons, List.map_nil, ofNat_U8 _ (by omega)]
    have : IntKind.wrap .u8 (L.length : Int) = (L.length : Int) := by rw [IntKind.wrap_u8]; omega
    rw [this]; rfl
  · injection hp with hp; subst hp; simp at hin; omega
  have hfl : ∀ i, ((L.take i).flatMap chB).length ≤ 60 * 150 := fun i => by
    have h1 := flat_chB (L := L.take i) fun c hc => hform c (List.mem_of_mem_take hc)
    have h2 : (L.take i).length ≤ 60 := by rw [List.length_take]; omega
    have h3 : (L.take i).length * 150 ≤ 60 * 150 := Nat.mul_le_mul_right _ h2
    omega
  refine ⟨fun m p k c n w' => ∃ (i : Nat), n = (i : Int) ∧ i ≤ L.length ∧ m = L.length - i ∧ k = ([1] ++ [UInt8.ofNat L.length] ++ (L.take i).flatMap chB).length ∧ Fr [] w w' ∧ OwnZ w' w.heap.size 1 p ([1] ++ [UInt8.ofNat L.length] ++ (L.take i).flatMap chB).length c (([1] ++ [UInt8.ofNat L.length] ++ (L.take i).flatMap chB).map U8), L.length, ⟨0, rfl, by omega, rfl, by simp, g17.fu, by simpa using o17⟩, ?_⟩
  rintro m p24 k25 c26 n27 w28 ⟨i, rfl, hi, rfl, rfl, F, o⟩
  refine bc' (fun hlt => ?_) fun hge => ?_
  · have hlt : (i : Int) < (L.length : Int) := of_decide_eq_true hlt
    have hlt' : i < L.length := by omega
    obtain ⟨ad, hp, hc⟩ := (hr.old F).atF flatC (by decide) hlt'
    refine ⟨ad, hp, ⟨by omega, hlt⟩, L[i].k, L[i].n, L[i].f, L[i].l, L[i].t, L[i].key, L[i].v.k, L[i].v.n, L[i].v.s, ⟨by rw [Int.toNat_natCast]; exact hc 0 _ rfl, by rw [Int.toNat_natCast]; exact hc 1 _ rfl, by rw [Int.toNat_natCast]; exact hc 2 _ rfl, by rw [Int.toNat_natCast]; exact hc 3 _ rfl, by rw [Int.toNat_natCast]; exact hc 4 _ rfl, by rw [Int.toNat_natCast]; exact hc 5 _ rfl, by rw [Int.toNat_natCast]; exact hc 6 _ rfl, by rw [Int.toNat_natCast]; exact hc 7 _ rfl, by rw [Int.toNat_natCast]; exact hc 8 _ rfl, trivial⟩, fun k40 w41 s41 => ?_⟩
    have n41 := g_new1 s41
    have F41 := F.trans' s41.fr
    refine (change_c L[i] (hT.old F41) (hform _ (List.getElem_mem hlt')) (hI _ (List.getElem_mem hlt'))).mono ?_
    rintro e w44 ⟨f44, p45, c47, rfl, o45⟩
    have z44 := f44.size
    have z41 := s41.fr.size
    have zF := F.size
    refine ⟨_, _, _, rfl, keepF f44 (by simpa using n41.2), (chB L[i]).map U8, by rw [List.length_map]; simp, o45.row, ?_⟩
    have h1 := chB_len L[i] (hform _ (List.getElem_mem hlt'))
    have h2 := hfl i
    refine appB (zs := chB L[i]) (u := w) rfl rfl ((o.fr s41.fr fun _ _ => by simp).fr f44 fun _ _ => by simp) (F41.trans' f44) (Nat.le_refl _) (by omega) rfl (fun _ => rfl) rfl (fun ad hp hin => ?_) (by rw [List.length_append, List.length_append]; simp only [List.length_cons, List.length_nil]; omega) fun w49 p50 c52 g49 _ _ o49 => ?_
    · have := (o.lt hp).2; simp at hin; omega
    have e : [1] ++ [UInt8.ofNat L.length] ++ (L.take i).flatMap chB ++ chB L[i] = [1] ++ [UInt8.ofNat L.length] ++ (L.take (i + 1)).flatMap chB := by rw [take_snoc hlt', List.flatMap_append]; simp
    rw [e] at o49 ⊢
    exact ⟨L.length - (i + 1), by omega, i + 1, by rw [wrapi (by omega) (by omega)]; simp, by omega, rfl, rfl, g49.fu, o49⟩
  · have : i = L.length := by have := of_decide_eq_false hge; omega
    subst this
    rw [List.take_length] at o ⊢
    have e : [1] ++ [UInt8.ofNat L.length] ++ L.flatMap chB = rec1 L := rfl
    rw [e] at o ⊢
    refine h3 _ _ _ _ (bc' (fun hlong => bad _ _ F ?_) fun hlong => ?_)
    · rw [hres, if_pos (by have := of_decide_eq_true hlong; omega)]
    · have hr2 : recB1 L = (rec1 L, 0) := by rw [hres, if_neg (by have := of_decide_eq_false hlong; omega)]
      rw [hr2]
      exact ⟨F, _, _, rfl, o⟩
/-- A record of a name. -/
def recB3 (s : ByteArray) : Bs × Int := if isName s = true then (3 :: s.data.toList, 0) else ([], 1)
theorem encode3_c {w : World} {A oA aA : Option Addr} {L C oL oC aL aC : Nat} {vn lb nm : ByteArray} {vk : Int} :
    Calls prog 45 #[.agg #[.int .i64 3, .slice A L C, .string vn, .int .i64 vk, .slice oA oL oC, .slice aA aL aC, .string lb, .string nm]] w fun e w' => Fr [] w w' ∧ ∃ p c, e = .returned (.tuple #[.slice p (recB3 nm).1.length c, .int .i64 (recB3 nm).2]) ∧ OwnZ w' w.heap.size 1 p (recB3 nm).1.length c ((recB3 nm).1.map U8) := by
  refine record_Encode.link fun k1 k2 y3 h3 => bF rfl (bF rfl (bT rfl fun w74 s74 => ?_))
  have n74 := g_new2 s74
  refine (rname_c _ nm).mono ?_
  rintro e w77 ⟨rfl, f77⟩
  have z77 := f77.size
  have F77 := s74.fr.trans' f77
  refine ⟨_, rfl, keepF f77 (by simp; omega), bc' (fun hn => ?_) fun hn b77 => ?_⟩
  · have hn : ¬ isName nm = true := by simpa using hn
    have e : recB3 nm = ([], 1) := by unfold recB3; rw [if_neg hn]
    rw [e]
    exact ⟨F77, none, 0, rfl, OwnZ.nil _ _ _⟩
  · have hn : isName nm = true := by simpa using hn
    have e : recB3 nm = (3 :: nm.data.toList, 0) := by unfold recB3; rw [if_pos hn]
    obtain ⟨hsz, _⟩ := name_bytes hn
    have hsl : nm.data.toList.length = nm.size := rfl
    have b77 : Blk w77 k2 ([3].map U8) := b77
    have o77 : OwnZ w77 w.heap.size 1 (some ⟨k2, 0, none⟩) ([3] : Bs).length 1 (([3] : Bs).map U8) := OwnZ.blk (n := 1) b77 rfl (by simp [U8, Value.oneCell']) (by omega)
    refine appB (zs := nm.data.toList) (u := w) rfl rfl o77 F77 (Nat.le_refl _) (by omega) rfl (fun _ => rfl) rfl (fun ad hp hin => ?_) (by simp; omega) fun w80 p81 c83 g80 _ _ o80 => ?_
    · injection hp with hp; subst hp; simp at hin; omega
    refine h3 _ _ _ _ (bF (decide_eq_false (by simp; omega)) ?_)
    rw [e]
    exact ⟨g80.fu, _, _, rfl, o80⟩
def nm0 : ByteArray := ⟨#[102]⟩
def ch0 : CH := ⟨1, 1, 0, ByteArray.empty, 0, ByteArray.empty, ⟨0, 0, ByteArray.empty⟩⟩
theorem rawake_c {w : World} (hT : Tabs w) : Calls prog 42 #[] w fun e w' => e = .returned (.bool true) ∧ Fr [] w w' := by
  have c1 := encode3_c (w := w) (A := none) (L := 0) (C := 0) (oA := none) (oL := 0) (oC := 0) (aA := none) (aL := 0) (aC := 0) (vn := ByteArray.empty) (lb := ByteArray.empty) (vk := 0) (nm := nm0)
  rw [show recB3 nm0 = ([3, 102], 0) by decide +kernel] at c1
  refine rhizomelaw15_awake.link (_u := ()) (c1.mono ?_)
  rintro e w2 ⟨f2, p3, c5, rfl, o3⟩
  refine ⟨_, _, _, _, rfl, fun k7 w8 s8 b8 => ?_⟩
  have F8 := f2.trans' s8.fr
  have b8 : Blk w8 k7 ([ch0].flatMap ccell) := b8
  have c2 := encode1_c (w := w8) (A := some ⟨k7, 0, none⟩) (C := 1) (oA := none) (oL := 0) (oC := 0) (aA := none) (aL := 0) (aC := 0) (vn := ByteArray.empty) (lb := ByteArray.empty) (vk := 0) (nm := ByteArray.empty) (L := [ch0]) (Row.all b8 (flatC.one _)) (hT.old F8) (fun c hc => by rw [List.mem_singleton.1 hc]; unfold InC IsI ch0; simp) (by decide)
  rw [show recB1 [ch0] = (1 :: 1 :: 18 :: [1, 128, 0, 0, 0, 0, 0, 0, 1, 1, 128, 0, 0, 0, 0, 0, 0, 1], 0) by decide +kernel] at c2
  refine c2.mono ?_
  rintro e w12 ⟨f12, p13, c15, rfl, o13⟩
  refine ⟨_, _, _, _, rfl, fun y17 h17 => ?_⟩
  have F12 := F8.trans' f12
  have o3' := (o3.fr s8.fr fun _ _ => by simp).fr f12 fun _ _ => by simp
  have hc := o13.2.1
  refine bT rfl ⟨_, rfl, bytes_at o3'.row, bT (decide_eq_true rfl) (bT rfl (bT rfl ⟨⟨by decide, by decide, by simp at hc; omega⟩, [1, 1, 18], rfl, ?_, h17 _ _ ⟨by rw [decide_eq_true rfl], F12⟩⟩))⟩
  rw [subA_0]
  intro k hk
  have := bytes_at o13.row k (by simp; omega)
  obtain ⟨ad, hp, hcell⟩ := this
  refine ⟨ad, hp, ?_⟩
  rw [hcell]
  match k, hk with
  | 0, _ => rfl
  | 1, _ => rfl
  | 2, _ => rfl
theorem forms_walk {w : World} (c : CH) (hT : Tabs w) (h1 : c.l.size ≤ 140737488355328) (h2 : c.key.size ≤ 140737488355328) (h3 : c.v.s.size ≤ 140737488355328) : Calls prog 12 #[.agg #[.int .i64 c.k, .int .i64 c.n, .int .i64 c.f, .string c.l, .int .i64 c.t, .string c.key, .int .i64 c.v.k, .int .i64 c.v.n, .string c.v.s]] w fun e w' => e = .returned (.bool true) ∧ Fr [] w w' := by
  refine rhizomelaw15_RecordForms.link fun k1 y2 h2' w21 s21 => ?_
  have n21 := g_new1 s21
  refine (rawake_c (hT.old s21.fr)).mono ?_
  rintro e w24 ⟨rfl, f24⟩
  have z24 := f24.size
  have F24 := s21.fr.trans' f24
  refine ⟨_, rfl, keepF f24 (by simpa using n21.2), bF rfl ?_⟩
  rw [wrapi (n := (c.key.size : Int) + (c.l.size : Int)) (by omega) (by omega), wrapi (by omega) (by omega)]
  by_cases hlong : (2000 : Int) < (c.key.size : Int) + (c.l.size : Int) + (c.v.s.size : Int)
  · rw [decide_eq_true hlong]
    refine h2' _ _ (bT rfl ((rawake_c (hT.old F24)).mono ?_))
    rintro e w6 ⟨rfl, f6⟩
    exact ⟨_, rfl, keepF f6 (by simp; omega), rfl, F24.trans' f6⟩
  · rw [decide_eq_false hlong]
    refine h2' _ _ (bF rfl ((form_c c (hT.old F24)).mono ?_))
    rintro e w9 ⟨rfl, f9⟩
    have z9 := f9.size
    have F9 := F24.trans' f9
    refine ⟨_, rfl, keepF f9 (by simp; omega), fun y11 h11 => (rform_c c (by omega) (by omega) (by omega)).mono ?_⟩
    rintro e w17 ⟨rfl, f17⟩
    refine ⟨_, rfl, keepF f17 (by simp; omega), ?_⟩
    have done : y11 true w17 := h11 _ _ ⟨rfl, F9.trans' f17⟩
    cases formB c with
    | true => exact bT rfl (bT rfl done)
    | false => exact bT rfl (bF rfl done)
end Go.Proofs.YtalegpdnhkopmaaDoor.Rc
