/- The reference of the log: one record more. -/
import Derived.Test.YtcaamecdhbgknaaH5
import Derived.Test.YtcaamecdhbgknaaC8
namespace Go.Proofs.Ytcaamecdhbgknaa.Log
open Go Go.V
open Go.Proofs.Ytcaamecdhbgknaa.VC
open Go.Proofs.Ytcaamecdhbgknaa.Disk
open Go.Proofs.Try (prog)
set_option linter.unusedVariables false
set_option linter.unusedSimpArgs false
set_option maxRecDepth 20000

abbrev RZ : List Value := [I64 0, .string ⟨#[]⟩]
theorem leafA {w : World} {k1 k2 k3 k4 k q : Nat} {rs : RR} {p : Option Addr} {data : ByteArray} {Y : Option Addr → Nat → Nat → World → Prop} (hr : Row w p (rrcells rs)) (hp : ∀ ad, p = some ad → ad.block ∉ [k1]) (hk : ∀ x ∈ [k1, k2, k3, k4], x < w.heap.size) (hl : rs.length ≤ 4096)
    (hy : ∀ w' p' c', Fr [k1, k2] w w' → Row w' p' (rrcells (rs ++ [(q, data)])) → (∀ ad, p' = some ad → w.heap.size ≤ ad.block) → Y p' (rs.length + 1) c' w') :
    ∀ w1, Step w w1 [k1] [k] → Blk w1 k (reps RZ 0) → ∃ l : List Value, l.length = rs.length * 2 ∧ Row w1 p l ∧ appendP true [] [] [k1, k2, k3, k4] w1 (some ⟨k, 0, none⟩) 0 0 rs.length l 2 24 RZ fun w2 p2 l2 c2 => ∀ k', appendP false [] [k'] [k1, k2, k3, k4, k'] w2 p2 l2 c2 1 (spl (reps RZ 1) 0 (spl (spl RZ 0 [I64 (q : Int)]) 1 [.string data])) 2 24 RZ fun w3 p3 l3 c3 => ∀ w4, Step w3 w4 [k2] [] → Y p3 l3 c3 w4 := by
  intro w1 st1 b1
  have n1 := g_new1 st1
  have h1 := hk k1 (by simp)
  have h2 := hk k2 (by simp)
  have h3 := hk k3 (by simp)
  have h4 := hk k4 (by simp)
  have z1 := st1.size
  have hr1 : Row w1 p (rrcells rs) := g_row st1.fr hr fun ad hp' _ => hp ad hp'
  have o1 : OwnZ w1 w.heap.size 2 (some ⟨k, 0, none⟩) 0 0 [] := OwnZ.blk (b := k) (n := 0) b1 (by simp) (fun u hu => by cases hu) n1.1
  refine ⟨rrcells rs, rrcells_len rs, hr1, append_z o1 (rrcells_len rs) (rrcells_one rs) z1 rfl (fun _ => rfl) (fun ad _ => by simp) (fun ad hp' hm => ?_) (by omega) (by omega) fun w2 p2 c2 f2 _ o2 d2 k' => ?_⟩
  · injection hp' with hp'; subst hp'; simp at hm; omega
  rw [Nat.zero_add, List.nil_append] at o2
  rw [Nat.zero_add]
  have z2 := f2.size
  have np2 : ∀ ad, p2 = some ad → w.heap.size ≤ ad.block := fun ad hp' => (o2.lt hp').1
  refine append_z o2 (n := 1) (by rfl) (fun u hu => ?_) (by omega) rfl (fun h => by cases h) (fun ad _ => by simp) (fun ad hp' hm => ?_) (by omega) (by omega) fun w3 p3 c3 f3 _ o3 d3 w4 st4 => ?_
  · have hu : u ∈ [I64 (q : Int), .string data] := hu
    simp at hu
    rcases hu with rfl | rfl <;> rfl
  · have := np2 ad hp'
    simp at hm ⊢; omega
  have np3 : ∀ ad, p3 = some ad → w.heap.size ≤ ad.block := fun ad hp' => (o3.lt hp').1
  refine hy w4 p3 c3 ?_ ?_ np3
  · refine (((st1.fr.mono (G := [k1, k2]) (fun x hx => .inl (by simp at hx; simp [hx]))).trans f2 (fun x hx => ?_)).trans f3 (fun x hx => ?_)).trans st4.fr (fun x hx => .inl (by simp at hx; simp [hx]))
    · rw [List.nil_append, g_mem_pb] at hx
      obtain ⟨ad, hp', rfl⟩ := hx
      injection hp' with hp'; subst hp'
      exact .inr n1.1
    · rw [List.nil_append, g_mem_pb] at hx
      obtain ⟨ad, hp', rfl⟩ := hx
      exact .inr (np2 ad hp')
  · rw [rrcells_snoc]
    exact g_row st4.fr o3.row fun ad hp' _ hm => by
      have := np3 ad hp'
      simp at hm; omega
theorem leafB {w : World} {k1 k2 k3 k4 k kk q : Nat} {ns : List Nat} {rs : RR} {p : Option Addr} {data : ByteArray} {Y : Option Addr → Nat → Nat → World → Prop} (hr : Row w p (rrcells rs)) (hp : ∀ ad, p = some ad → ad.block ∉ [k1]) (hk : ∀ x ∈ [k1, k2, k3, k4], x < w.heap.size) (hl : rs.length ≤ 4096)
    (hy : ∀ w' p' c', Fr [k1, k2] w w' → Row w' p' (rrcells (rs ++ [(q, data)])) → (∀ ad, p' = some ad → w.heap.size ≤ ad.block) → Y p' (rs.length + 1) c' w') (hns : ns = [kk, k] ∨ ns = [k, kk]) :
    ∀ w1, Step w w1 [k1] ns → Blk w1 k (reps RZ 0) → ∃ l : List Value, l.length = rs.length * 2 ∧ Row w1 p l ∧ appendP true [] [] [k1, k2, k3, k4, kk] w1 (some ⟨k, 0, none⟩) 0 0 rs.length l 2 24 RZ fun w2 p2 l2 c2 => appendP true [] [] [k1, k2, k3, k4, kk] w2 p2 l2 c2 1 (spl (reps RZ 1) 0 (spl (spl RZ 0 [I64 (q : Int)]) 1 [.string data])) 2 24 RZ fun w3 p3 l3 c3 => ∀ w4, Step w3 w4 [k2] [] → Y p3 l3 c3 w4 := by
  intro w1 st1 b1
  have n1 : w.heap.size ≤ k ∧ k < w1.heap.size ∧ w.heap.size ≤ kk ∧ kk < w1.heap.size ∧ k ≠ kk := by
    rcases hns with rfl | rfl
    · have := g_new2 st1; omega
    · have := g_new2 st1; omega
  have h1 := hk k1 (by simp)
  have h2 := hk k2 (by simp)
  have h3 := hk k3 (by simp)
  have h4 := hk k4 (by simp)
  have z1 := st1.size
  have hr1 : Row w1 p (rrcells rs) := g_row st1.fr hr fun ad hp' _ => hp ad hp'
  have o1 : OwnZ w1 w.heap.size 2 (some ⟨k, 0, none⟩) 0 0 [] := OwnZ.blk (b := k) (n := 0) b1 (by simp) (fun u hu => by cases hu) n1.1
  refine ⟨rrcells rs, rrcells_len rs, hr1, append_z o1 (rrcells_len rs) (rrcells_one rs) z1 rfl (fun _ => rfl) (fun ad _ => by simp) (fun ad hp' hm => ?_) (by omega) (by omega) fun w2 p2 c2 f2 _ o2 d2 => ?_⟩
  · injection hp' with hp'; subst hp'; simp at hm; omega
  rw [Nat.zero_add, List.nil_append] at o2
  rw [Nat.zero_add]
  have z2 := f2.size
  have np2 : ∀ ad, p2 = some ad → w.heap.size ≤ ad.block ∧ ad.block ≠ kk := fun ad hp' => by
    refine ⟨(o2.lt hp').1, ?_⟩
    rcases d2 ad hp' with e | e
    · injection e with e; subst e; exact n1.2.2.2.2
    · omega
  refine append_z o2 (n := 1) (by rfl) (fun u hu => ?_) (by omega) rfl (fun h => rfl) (fun ad _ => by simp) (fun ad hp' hm => ?_) (by omega) (by omega) fun w3 p3 c3 f3 _ o3 d3 w4 st4 => ?_
  · have hu : u ∈ [I64 (q : Int), .string data] := hu
    simp at hu
    rcases hu with rfl | rfl <;> rfl
  · have := np2 ad hp'
    simp at hm; omega
  have np3 : ∀ ad, p3 = some ad → w.heap.size ≤ ad.block := fun ad hp' => (o3.lt hp').1
  refine hy w4 p3 c3 ?_ ?_ np3
  · refine (((st1.fr.mono (G := [k1, k2]) (fun x hx => .inl (by simp at hx; simp [hx]))).trans f2 (fun x hx => ?_)).trans f3 (fun x hx => ?_)).trans st4.fr (fun x hx => .inl (by simp at hx; simp [hx]))
    · rw [List.nil_append, g_mem_pb] at hx
      obtain ⟨ad, hp', rfl⟩ := hx
      injection hp' with hp'; subst hp'
      exact .inr n1.1
    · rw [List.nil_append, g_mem_pb] at hx
      obtain ⟨ad, hp', rfl⟩ := hx
      exact .inr (np2 ad hp').1
  · rw [rrcells_snoc]
    exact g_row st4.fr o3.row fun ad hp' _ hm => by
      have := np3 ad hp'
      simp at hm; omega

/-- A sector's bytes out of what is padded. -/
theorem chunk_ext (data : ByteArray) (i : Nat) (hi : i < secs data.size) : ((data ++ zsec).extract (64 * i) (data.size + 64)).extract 0 64 = chunk data i ∧ 64 ≤ ((data ++ zsec).extract (64 * i) (data.size + 64)).size := by
  have hs : secs data.size = (data.size + 63) / 64 := rfl
  have hz : zsec.data.size = 64 := zsec_size
  have hsz : (data ++ zsec).size = data.size + 64 := by rw [ByteArray.size_append, zsec_size]
  constructor
  · apply byteCells_inj
    rw [chunk_cells data 64 i (by omega)]
    have e : ∀ (s : ByteArray) (a b : Nat), byteCells (s.extract a b) = ((byteCells s).drop a).take (b - a) := fun s a b => by
      unfold byteCells
      rw [ByteArray.data_extract, Array.toList_extract, List.extract_eq_take_drop, List.map_take, List.map_drop]
    rw [e, e, List.drop_zero, List.take_take]
    have e2 : byteCells (data ++ zsec) = byteCells data ++ reps [Value.int .u8 0] 64 := by
      rw [← zsec_cells]
      unfold byteCells
      rw [ByteArray.data_append, Array.toList_append, List.map_append]
    rw [e2]
    congr 1
    omega
  · rw [ByteArray.size_extract, hsz]
    omega

/-- What the reference's Append hands back. -/
structure RAppended (w w' : World) (F : List Nat) (M : DM) (L : LM) (first count : Int) (p : Option Addr) (c : Nat) (rs : RR) (q : Nat) (data : ByteArray) (v' lv : Value) : Prop where
  fr : Fr [] w w'
  ref : RefAt w' v' F (lappend M L data).1
  bad : (lappend M L data).2.2 ≠ 0 → lv = rlog first count p c rs (q : Int)
  good : (lappend M L data).2.2 = 0 → ∃ p' c', lv = rlog first count p' c' (rs ++ [(q, data)]) ((q + 1 : Nat) : Int) ∧ Row w' p' (rrcells (rs ++ [(q, data)])) ∧ ∀ ad, p' = some ad → w.heap.size ≤ ad.block

set_option maxHeartbeats 4000000 in
theorem rappend_c {w : World} {v : Value} {F : List Nat} {M : DM} (h : RefAt w v F M) (hF : ∀ x ∈ F, x < w.heap.size) {L : LM} {first count : Nat} {p : Option Addr} {c : Nat} {rs : RR} {q : Nat} (hr : Row w p (rrcells rs)) (hpb : ∀ ad, p = some ad → ad.block < w.heap.size) (hrs : ∀ r ∈ rs, r.2.size ≤ 4000) (hl : rs.length ≤ 4096)
    (hfc : first + count ≤ M.sure.length) (he : L.end_ = (rend first rs : Nat)) (hb : L.behind = ((first + count : Nat) : Int)) (hq : L.next = (q : Int)) (hq2 : q ≤ 4611686018427387905) (hend : rend first rs ≤ first + count) {data : ByteArray} (hz : data.size ≤ 140737488351232) :
    Calls prog 42 #[v, rlog first count p c rs (q : Int), .string data] w fun e w' => ∃ v' lv, e = .returned (.tuple #[v', lv, I64 (lappend M L data).2.2]) ∧ RAppended w w' F M L first count p c rs q data v' lv := by
  have h0 := h
  obtain ⟨hok, sA, sC, nA, nC, fA, fC, rfl, h1, h2, h3, h4⟩ := h
  have hhi := hok.hi
  refine rhizomeref04_Append.link fun k1 k2 k3 k4 w5 st5 => (rsectors_c w5 (n := (data.size : Int)) (by omega) (by omega)).mono ?_
  have n5 := g_new4 st5
  rintro e w8 ⟨rfl, rfl⟩
  rw [show Int.toNat (data.size : Int) = data.size by omega]
  have hsS : secs data.size = (data.size + 63) / 64 := rfl
  have z5 := st5.size
  have hr5 : Row w8 p (rrcells rs) := g_row st5.fr hr fun ad _ _ => by simp
  have hpk : ∀ ad, p = some ad → ad.block ∉ [k1] := fun ad hp => by have := hpb ad hp; simp; omega
  refine ⟨_, rfl, (fun x hx => rfl), (rend_c hr5 (by omega) (fun r hr => by have := hrs r hr; omega) (by omega)).mono ?_⟩
  rintro e w11 ⟨rfl, f11⟩
  have z11 := f11.size
  have F11 : Fr [] w w11 := st5.fr.trans' f11
  have h11 : RefAt w11 (rv sA sC nA nC fA fC M) (F ++ [k1, k2, k3, k4]) M := ((h0.more (G := [k1, k2, k3, k4]) (fun x hx => by simp at hx; omega)).fr st5.fr (by simp)).fr f11 (by simp)
  have hr11 : Row w11 p (rrcells rs) := g_row f11 hr5 fun ad _ _ => by simp
  have inF : ∀ x ∈ F, x ∈ F ++ [k1, k2, k3, k4] := fun x hx => List.mem_append_left _ hx
  have ks : ∀ x ∈ [k1, k2, k3, k4], w.heap.size ≤ x ∧ x < w11.heap.size := fun x hx => by simp at hx; omega
  have hk : ∀ {u : World}, Fr [k1] w11 u → ∀ x ∈ [k1, k2, k3, k4], x < u.heap.size := fun f x hx => by have := ks x hx; have := f.size; omega
  refine ⟨_, rfl, g_keep f11 (fun x hx => by simp at hx ⊢; omega), ?_⟩
  -- an answer without a record more
  have fail : ∀ (u u' : World) (v' : Value) (M' : DM) (code : Int) (G : List Nat), (∀ x ∈ G, x ∈ [k1, k2, k3, k4]) → lappend M L data = (M', L, code) → code ≠ 0 → Fr [k1] w11 u → RefAt u v' (F ++ [k1, k2, k3, k4]) M' → Step u u' G [] →
      ∃ v'' lv, Ending.returned (.tuple #[v', rlog first count p c rs (q : Int), I64 code]) = .returned (.tuple #[v'', lv, I64 (lappend M L data).2.2]) ∧ RAppended w u' F M L first count p c rs q data v'' lv := fun u u' v' M' code G hG hla hc f hR st => by
    refine ⟨v', _, by rw [hla], ?_, ?_, fun _ => rfl, fun h => ?_⟩
    · exact (F11.trans f (fun x hx => .inr (ks x (by simp at hx; simp [hx])).1)).trans st.fr (fun x hx => .inr (ks x (hG x hx)).1)
    · rw [hla]
      exact (hR.fr st.fr (fun x hx => .inl (List.mem_append_right _ (hG x hx)))).less inF
    · rw [hla] at h; exact absurd h hc
  refine bc (fun hbig => ?_) fun hbig => ?_
  · have hbig := of_decide_eq_true hbig
    intro w13 st13
    exact fail w11 w13 _ M 3 _ (fun x hx => by simp at hx ⊢; omega) (by unfold lappend; rw [if_pos (by omega)]) (by decide) (Fr.refl _ _) h11 st13
  have hbig := of_decide_eq_false hbig
  have hb4 : ¬ 4000 < data.size := by omega
  intro y15 hy15
  suffices main : ∀ bb : Bool, (bb = true ↔ (MOST < L.next ∨ L.behind < L.end_ + 1 + (secs data.size : Nat))) → y15 bb w11 by
    have x1 : IntKind.wrap .i64 ((first : Int) + (count : Int)) = ((first + count : Nat) : Int) := by rw [wrapi (by omega) (by omega)]; omega
    have x2 : IntKind.wrap .i64 (IntKind.wrap .i64 (((rend first rs : Nat) : Int) + 1) + ((secs data.size : Nat) : Int)) = L.end_ + 1 + (secs data.size : Nat) := by
      rw [wrapi (n := ((rend first rs : Nat) : Int) + 1) (by omega) (by omega), wrapi (by omega) (by omega)]; omega
    rw [x1, x2]
    refine bc (fun h => main true ?_) fun h => main _ ?_
    · have h := of_decide_eq_true h
      exact ⟨fun _ => .inl (by show (4611686018427387904 : Int) < L.next; omega), fun _ => rfl⟩
    · have h := of_decide_eq_false h
      rw [decide_eq_true_iff, hb]
      constructor
      · exact fun h => .inr h
      · rintro (h' | h')
        · exact absurd (show (4611686018427387904 : Int) < q by have : (4611686018427387904 : Int) < L.next := h'; omega) h
        · exact h'
  intro bb hbb
  refine hy15 bb w11 (bc (fun hf w18 st18 => ?_) fun hf => ?_)
  · exact fail w11 w18 _ M 5 _ (fun x hx => by simp at hx ⊢; omega) (by unfold lappend; rw [if_neg hb4, if_pos (hbb.1 hf)]) (by decide) (Fr.refl _ _) h11 st18
  clear hy15
  have hnf : ¬ (MOST < L.next ∨ L.behind < L.end_ + 1 + (secs data.size : Nat)) := fun hx => by rw [hbb.2 hx] at hf; cases hf
  have hqm : q ≤ 4611686018427387904 := by
    rcases Nat.lt_or_ge 4611686018427387904 q with h | h
    · exact absurd (.inl (by show (4611686018427387904 : Int) < L.next; omega)) hnf
    · exact h
  have hroom : rend first rs + 1 + secs data.size ≤ first + count := by
    rcases Nat.lt_or_ge (first + count) (rend first rs + 1 + secs data.size) with h | h
    · exact absurd (.inr (by omega)) hnf
    · exact h
  refine ⟨by decide, fun w20 k21 st20 b20 => ?_⟩
  rw [← zsec_cells] at b20
  obtain ⟨s1, s2⟩ := str_of b20 zsec_size
  refine ⟨zsec.data.toList, s1, s2, ?_⟩
  rw [mk_str]
  have hsz : (data ++ zsec).size = data.size + 64 := by rw [ByteArray.size_append, zsec_size]
  rw [hsz, zsec_size]
  have z20 := st20.size
  have hpl : (puts L data (secs data.size)).length = secs data.size := by simp [puts]
  refine ⟨by omega, fun m q' p9 k10 k11 p12 k13 k14 p15 k16 k17 n18 n19 w' => ∃ (i : Nat) (M' : DM), q' = i ∧ i ≤ secs data.size ∧ m = secs data.size - i ∧ Fr [k1] w11 w' ∧ RefAt w' (.agg #[.slice p9 k10 k11, .slice p12 k13 k14, .slice p15 k16 k17, I64 n18, I64 n19]) (F ++ [k1, k2, k3, k4]) M' ∧ writes M (puts L data (secs data.size)) = writes M' ((puts L data (secs data.size)).drop i), secs data.size,
    ⟨0, M, rfl, by omega, rfl, st20.fr.mono (fun x hx => by cases hx), h11.fr st20.fr (by simp), rfl⟩, ?_⟩
  rintro m q' p9 k10 k11 p12 k13 k14 p15 k16 k17 n18 n19 w43 ⟨i, M', rfl, hi, rfl, f43, hR, heq⟩
  have hF43 : ∀ {u : World}, Fr [k1] w11 u → ∀ x ∈ F ++ [k1, k2, k3, k4], x < u.heap.size := fun {u} f x hx => by
    have := f.size
    rcases List.mem_append.1 hx with hx | hx
    · have := hF x hx; omega
    · have := ks x hx; omega
  have kp : ∀ {u u' : World}, Fr [k1] w11 u → Fr [] u u' → Keep [k1, k2, k3, k4] u u' := fun f f' => g_keep f' (fun x hx => ⟨hk f x hx, by simp⟩)
  have k1s : ∀ x ∈ [k1], x ∈ F ++ [k1, k2, k3, k4] := fun x hx => by simp at hx; simp [hx]
  refine bc (fun hlt => ?_) fun hge => ?_
  · have hlt : (i : Int) < ((secs data.size : Nat) : Int) := of_decide_eq_true hlt
    have hil : i < secs data.size := by omega
    obtain ⟨ce, cz⟩ := chunk_ext data i hil
    have x1 : IntKind.wrap .i64 ((i : Int) * 64) = ((64 * i : Nat) : Int) := by rw [wrapi (by omega) (by omega)]; omega
    have x2 : Int.toNat ((64 * i : Nat) : Int) = 64 * i := by omega
    have x3 : Int.toNat ((data.size + 64 : Nat) : Int) = data.size + 64 := by omega
    have x4 : IntKind.wrap .i64 (IntKind.wrap .i64 (((rend first rs : Nat) : Int) + 1) + (i : Int)) = L.end_ + 1 + (i : Int) := by
      rw [wrapi (n := ((rend first rs : Nat) : Int) + 1) (by omega) (by omega), wrapi (by omega) (by omega)]; omega
    rw [x1, x2, x3]
    refine ⟨⟨by omega, by omega, by omega⟩, fun y45 hy45 => bT (by rw [decide_eq_true_iff]; omega) ⟨⟨by omega, by omega, by omega⟩, ?_⟩⟩
    rw [ce]
    refine hy45 _ _ ?_
    clear hy45
    rw [x4]
    have hd : (puts L data (secs data.size)).drop i = (L.end_ + 1 + (i : Int), chunk data i) :: (puts L data (secs data.size)).drop (i + 1) := by
      unfold puts
      rw [← List.map_drop, ← List.map_drop, range_drop _ _ hil, List.map_cons]
    have heq' : writes M (puts L data (secs data.size)) = if (M'.write (L.end_ + 1 + (i : Int)) (chunk data i)).2 = 0 then writes (M'.write (L.end_ + 1 + (i : Int)) (chunk data i)).1 ((puts L data (secs data.size)).drop (i + 1)) else M'.write (L.end_ + 1 + (i : Int)) (chunk data i) := by rw [heq, hd]; rfl
    refine (rwrite_c hR (hF43 f43) (L.end_ + 1 + (i : Int)) (chunk data i)).mono ?_
    rintro e w49 ⟨v', rfl, f49, hR'⟩
    have hR2 := hR'
    obtain ⟨_, sA', sC', nA', nC', fA', fC', rfl, _⟩ := hR'
    have f049 : Fr [k1] w11 w49 := f43.trans f49 (fun x hx => by cases hx)
    refine ⟨_, _, _, _, _, _, _, _, _, _, _, _, rfl, kp f43 f49, bc (fun hc w62 st62 => ?_) fun hc => ⟨secs data.size - (i + 1), by omega, fun w65 st65 => ⟨i + 1, _, by rw [wrapi (by omega) (by omega)]; simp, by omega, rfl, f049.trans' st65.fr, hR2.fr st65.fr (fun x hx => .inl (k1s x hx)), ?_⟩⟩⟩
    · have hc : ¬ (M'.write (L.end_ + 1 + (i : Int)) (chunk data i)).2 = 0 := by simpa using hc
      rw [if_neg hc] at heq'
      exact fail w49 w62 _ _ _ _ (fun x hx => by simp at hx ⊢; omega) (by unfold lappend; simp only; rw [if_neg hb4, if_neg hnf, heq', if_pos hc]) hc f049 hR2 st62
    · have hc : (M'.write (L.end_ + 1 + (i : Int)) (chunk data i)).2 = 0 := by simpa using hc
      rw [if_pos hc] at heq'
      exact heq'
  have hge : ¬ (i : Int) < ((secs data.size : Nat) : Int) := of_decide_eq_false hge
  have hd0 : (puts L data (secs data.size)).drop i = [] := List.drop_eq_nil_iff.2 (by omega)
  rw [hd0] at heq
  have heq : writes M (puts L data (secs data.size)) = (M', 0) := heq
  have hla1 : lappend M L data = if M'.flush.2 ≠ 0 then (M'.flush.1, L, M'.flush.2) else if (M'.flush.1.write L.end_ (logHead L.next data.size)).2 ≠ 0 then ((M'.flush.1.write L.end_ (logHead L.next data.size)).1, L, (M'.flush.1.write L.end_ (logHead L.next data.size)).2) else
      if ((M'.flush.1.write L.end_ (logHead L.next data.size)).1.flush).2 ≠ 0 then ((M'.flush.1.write L.end_ (logHead L.next data.size)).1.flush.1, L, ((M'.flush.1.write L.end_ (logHead L.next data.size)).1.flush).2) else ((M'.flush.1.write L.end_ (logHead L.next data.size)).1.flush.1, L.more data.size, 0) := by
    unfold lappend; simp only; rw [if_neg hb4, if_neg hnf, heq, if_neg (by simp)]
  refine (rflush_c hR (hF43 f43)).mono ?_
  rintro e w70 ⟨v', rfl, f70, hR70⟩
  have hR70' := hR70
  obtain ⟨_, sA', sC', nA', nC', fA', fC', rfl, _⟩ := hR70
  have f070 : Fr [k1] w11 w70 := f43.trans f70 (fun x hx => by cases hx)
  refine ⟨_, _, _, _, _, _, _, _, _, _, _, _, rfl, kp f43 f70, bc (fun hc w83 st83 => ?_) fun hc => ?_⟩
  · have hc : ¬ M'.flush.2 = 0 := by simpa using hc
    exact fail w70 w83 _ _ _ _ (fun x hx => by simp at hx ⊢; omega) (by rw [hla1, if_pos hc]) hc f070 hR70' st83
  have hc : M'.flush.2 = 0 := by simpa using hc
  rw [if_neg (by simp [hc])] at hla1
  rw [hq] at hla1
  have hend' : ((rend first rs : Nat) : Int) = L.end_ := he.symm
  rw [hend']
  refine ⟨?_, ?_⟩
  all_goals
    intro w85 st85
    have f085 : Fr [k1] w11 w85 := f070.trans' st85.fr
    have hR85 := hR70'.fr st85.fr (fun x hx => .inl (k1s x hx))
    refine (rhead_c w85 (seq := q) (size := data.size) (by omega) (by omega)).mono ?_
    rintro e w88 ⟨rfl, f88⟩
    have f088 : Fr [k1] w11 w88 := f085.trans f88 (fun x hx => by cases hx)
    refine ⟨_, rfl, kp f085 f88, (rwrite_c (hR85.fr f88 (by simp)) (hF43 f088) L.end_ (logHead q data.size)).mono ?_⟩
    rintro e w91 ⟨v', rfl, f91, hR91⟩
    have hR91' := hR91
    obtain ⟨_, sA2, sC2, nA2, nC2, fA2, fC2, rfl, _⟩ := hR91
    have f091 : Fr [k1] w11 w91 := f088.trans f91 (fun x hx => by cases hx)
    refine ⟨_, _, _, _, _, _, _, _, _, _, _, _, rfl, kp f088 f91, bc (fun hc2 w104 st104 => ?_) fun hc2 w106 st106 => ?_⟩
    · have hc2 : ¬ (M'.flush.1.write L.end_ (logHead q data.size)).2 = 0 := by simpa using hc2
      exact fail w91 w104 _ _ _ _ (fun x hx => by simp at hx ⊢; omega) (by rw [hla1, if_pos hc2]) hc2 f091 hR91' st104
    have hc2 : (M'.flush.1.write L.end_ (logHead q data.size)).2 = 0 := by simpa using hc2
    have hla2 := hla1
    rw [if_neg (by simp [hc2])] at hla2
    have f0106 : Fr [k1] w11 w106 := f091.trans' st106.fr
    refine (rflush_c (hR91'.fr st106.fr (fun x hx => .inl (k1s x hx))) (hF43 f0106)).mono ?_
    rintro e w109 ⟨v', rfl, f109, hR109⟩
    have hR109' := hR109
    obtain ⟨_, sA3, sC3, nA3, nC3, fA3, fC3, rfl, _⟩ := hR109
    have f0109 : Fr [k1] w11 w109 := f0106.trans f109 (fun x hx => by cases hx)
    refine ⟨_, _, _, _, _, _, _, _, _, _, _, _, rfl, kp f0106 f109, bc (fun hc3 w122 st122 => ?_) fun hc3 y124 hy124 => ?_⟩
    · have hc3 : ¬ ((M'.flush.1.write L.end_ (logHead q data.size)).1.flush).2 = 0 := by simpa using hc3
      exact fail w109 w122 _ _ _ _ (fun x hx => by simp at hx ⊢; omega) (by rw [hla2, if_pos hc3]) hc3 f0109 hR109' st122
    have hc3 : ((M'.flush.1.write L.end_ (logHead q data.size)).1.flush).2 = 0 := by simpa using hc3
    have hla3 := hla2
    rw [if_neg (by simp [hc3])] at hla3
    have hr109 : Row w109 p (rrcells rs) := g_row f0109 hr11 fun ad hp _ => hpk ad hp
    have fin : ∀ w' p' c', Fr [k1, k2] w109 w' → Row w' p' (rrcells (rs ++ [(q, data)])) → (∀ ad, p' = some ad → w109.heap.size ≤ ad.block) → y124 first count p' (rs.length + 1) c' (q : Int) w' := fun w' p' c' f' hrow' hp' => by
      refine hy124 _ _ _ _ _ _ _ fun w132 st132 => ?_
      have xq : IntKind.wrap .i64 ((q : Int) + 1) = ((q + 1 : Nat) : Int) := by rw [wrapi (by omega) (by omega)]; omega
      rw [xq]
      have zz := f0109.size
      have G1 : Fr [] w w' := (F11.trans f0109 (fun x hx => .inr (ks x (by simp at hx; simp [hx])).1)).trans f' (fun x hx => .inr (ks x (by simp at hx ⊢; omega)).1)
      have G2 : Fr [] w w132 := G1.trans st132.fr (fun x hx => .inr (ks x (by simp at hx ⊢; omega)).1)
      refine ⟨rv sA3 sC3 nA3 nC3 fA3 fC3 ((M'.flush.1.write L.end_ (logHead q data.size)).1.flush).1, rlog first count p' c' (rs ++ [(q, data)]) ((q + 1 : Nat) : Int), ?_, G2, ?_, fun h => ?_, fun _ => ⟨p', c', rfl, ?_, fun ad hp => by have := hp' ad hp; omega⟩⟩
      · rw [hla3]
        unfold rlog
        rw [List.length_append]
        rfl
      · rw [hla3]
        exact ((hR109'.fr f' (fun x hx => .inl (List.mem_append_right _ (by simp at hx ⊢; omega)))).fr st132.fr (fun x hx => .inl (List.mem_append_right _ (by simp at hx ⊢; omega)))).less inF
      · rw [hla3] at h; exact absurd rfl h
      · exact g_row st132.fr hrow' fun ad hp _ hm => by
          have := hp' ad hp
          have a1 := ks k2 (by simp)
          have a2 := ks k3 (by simp)
          have a3 := ks k4 (by simp)
          simp at hm; omega
    clear hy124
    have hkk := hk f0109
    repeat' first
      | exact leafA (Y := fun p' l' c' w' => y124 first count p' l' c' (q : Int) w') hr109 hpk hkk hl fin
      | exact leafB (Y := fun p' l' c' w' => y124 first count p' l' c' (q : Int) w') hr109 hpk hkk hl fin (.inl rfl)
      | exact leafB (Y := fun p' l' c' w' => y124 first count p' l' c' (q : Int) w') hr109 hpk hkk hl fin (.inr rfl)
      | refine And.intro ?_ ?_
      | intro _
end Go.Proofs.Ytcaamecdhbgknaa.Log
