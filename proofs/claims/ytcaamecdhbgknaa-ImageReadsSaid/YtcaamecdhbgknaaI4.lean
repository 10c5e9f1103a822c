/- The image: saving. -/
import Derived.Test.YtcaamecdhbgknaaI3
namespace Go.V
theorem OwnZ.isblk {w : World} {B sz : Nat} {p : Option Addr} {l c : Nat} {xs : List Value} (h : OwnZ w B sz p l c xs) {ad : Addr} (hp : p = some ad) : ∃ cs, Blk w ad.block cs := by
  obtain ⟨_, _, _, ⟨h1, _⟩ | ⟨b, zs, h1, _, h2, _⟩⟩ := h
  · rw [h1] at hp; cases hp
  · rw [h1] at hp; injection hp with hp; subst hp; exact ⟨_, h2⟩
theorem OwnZ.away {v w : World} {B sz l0 : Nat} {p : Option Addr} {l c : Nat} {xs : List Value} (h : OwnZ v B sz p l c xs) (hf : Fr [l0] v w) (hl : ∀ cs, ¬ Blk v l0 cs) : OwnZ w B sz p l c xs :=
  h.fr hf fun ad hp hm => by
    obtain ⟨cs, hb⟩ := h.isblk hp
    simp at hm
    exact hl cs (hm ▸ hb)
end Go.V
namespace Go.Proofs.Ytcaamecdhbgknaa.Image
open Go Go.V
open Go.Proofs.Ytcaamecdhbgknaa.VC
open Go.Proofs.Ytcaamecdhbgknaa.Disk
open Go.Proofs.Ytcaamecdhbgknaa.Log
open Go.Proofs.Try (prog)
set_option linter.unusedVariables false
set_option linter.unusedSimpArgs false
set_option maxRecDepth 20000

def sectorsOf (data : ByteArray) : List ByteArray := (List.range (secs data.size)).map (chunk data)
def isave (M : DM) (first count : Nat) (seq : Int) (data : ByteArray) : DM × Int :=
  let c := icounts M.now first count
  let at0 := first + (1 - c.1) * count
  if seq < 1 ∨ MOST < seq then (M, 1) else if seq ≤ (c.2.1 : Nat) then (M, 2) else if 64 * (count - 1) < data.size then (M, 3) else
  let r1 := wflush M (zipAt (at0 : Nat) [zsec])
  if r1.2 ≠ 0 then r1 else
  let r2 := wflush r1.1 (zipAt ((at0 + 1 : Nat) : Int) (sectorsOf data))
  if r2.2 ≠ 0 then r2 else
  wflush r2.1 (zipAt (at0 : Nat) [imgHead seq data.size])

/-- What holds between two rounds. -/
structure Saving (data : ByteArray) (w0 : World) (k : Nat) (i : Nat) (w : World) (p : Option Addr) (c : Nat) (l : List SI) : Prop where
  fr : Fr [k] w0 w
  blk : Blk w k [.slice p i c]
  own : OwnZ w w0.heap.size 1 p i c (scells l)
  pk : ∀ ad, p = some ad → ad.block ≠ k
  eq : l.map (·.s) = (List.range i).map (chunk data)
  el : ∀ x ∈ l, OwnZ w w0.heap.size 1 x.p x.s.size x.c (byteCells x.s) ∧ ∀ ad, x.p = some ad → ad.block ≠ k ∧ ∀ ad2, p = some ad2 → ad.block ≠ ad2.block
theorem Saving.stab {data : ByteArray} {w0 w w' : World} {k i l0 : Nat} {p : Option Addr} {c : Nat} {l : List SI} (h : Saving data w0 k i w p c l) (hk : k < w0.heap.size) (h0 : w0.heap.size ≤ l0) (hl : ∀ cs, ¬ Blk w l0 cs) (hf : Fr [l0] w w') : Saving data w0 k i w' p c l := by
  refine ⟨h.fr.trans hf (fun x hx => by simp at hx; subst hx; exact .inr h0), h.blk.fr hf (by simp; omega), h.own.away hf hl, h.pk, h.eq, fun x hx => ⟨(h.el x hx).1.away hf hl, (h.el x hx).2⟩⟩

theorem piece_pad (data : ByteArray) (i : Nat) (hi : 64 * i < data.size) : byteCells (chunk data i) = ((byteCells data).drop (64 * i)).take (cend data.size i - 64 * i) ++ reps [Value.int .u8 0] (64 - (cend data.size i - 64 * i)) := by
  have hce : cend data.size i = min (64 * (i + 1)) data.size := rfl
  rw [chunk_cells data 64 i (by omega)]
  apply List.ext_getElem?
  intro j
  have hl1 : (((byteCells data).drop (64 * i)).take (cend data.size i - 64 * i)).length = cend data.size i - 64 * i := by
    rw [List.length_take, List.length_drop, byteCells_length]; omega
  rw [List.getElem?_take, List.getElem?_drop]
  by_cases hj : j < cend data.size i - 64 * i
  · rw [if_pos (by omega), List.getElem?_append_left (by rw [byteCells_length]; omega), List.getElem?_append_left (by rw [hl1]; exact hj), List.getElem?_take, if_pos hj, List.getElem?_drop]
  · rw [List.getElem?_append_right (l₁ := ((byteCells data).drop (64 * i)).take _) (by rw [hl1]; omega), hl1, zeros_get]
    by_cases h64 : j < 64
    · rw [if_pos h64, List.getElem?_append_right (by rw [byteCells_length]; omega), byteCells_length, zeros_get, if_pos (by omega), if_pos (by omega)]
    · rw [if_neg h64, if_neg (by omega)]

set_option maxHeartbeats 2000000 in
theorem isave_c {w : World} {ib b ms mf : Nat} {M : DM} {first count : Nat} (h : ImgAt w ib b ms mf M first count) {seq : Int} {dA : Option Addr} {dC : Nat} {data : ByteArray} (hd : Row w dA (byteCells data)) (hdb : ∀ ad, dA = some ad → 0 < data.size → ad.block ∉ [b, ms, mf]) (hdC : data.size ≤ dC) :
    Calls prog 50 #[D ib, I64 seq, .slice dA data.size dC] w fun e w' => e = .returned (I64 (isave M first count seq data).2) ∧ Fr [b, ms, mf] w w' ∧ ImgAt w' ib b ms mf (isave M first count seq data).1 first count := by
  have hhi := h.hi
  have h4 := h.disk.ok.hi
  have h2 := h.c2
  have hbs := h.disk.bs
  refine image_Image_Save.link ((counts_c h).mono ?_)
  rintro e w2 ⟨f2, rfl⟩
  refine ⟨_, _, _, rfl, fun y6 hy => ?_⟩
  obtain ⟨l1, l2, l3⟩ := icounts_le M.now first count
  have z2 := f2.size
  have spec : isave M first count seq data = if seq < 1 ∨ MOST < seq then (M, 1) else if seq ≤ ((icounts M.now first count).2.1 : Nat) then (M, 2) else if 64 * (count - 1) < data.size then (M, 3) else
      if (wflush M (zipAt ((first + (1 - (icounts M.now first count).1) * count : Nat) : Int) [zsec])).2 ≠ 0 then wflush M (zipAt ((first + (1 - (icounts M.now first count).1) * count : Nat) : Int) [zsec]) else
      if (wflush (wflush M (zipAt ((first + (1 - (icounts M.now first count).1) * count : Nat) : Int) [zsec])).1 (zipAt ((first + (1 - (icounts M.now first count).1) * count + 1 : Nat) : Int) (sectorsOf data))).2 ≠ 0 then
        wflush (wflush M (zipAt ((first + (1 - (icounts M.now first count).1) * count : Nat) : Int) [zsec])).1 (zipAt ((first + (1 - (icounts M.now first count).1) * count + 1 : Nat) : Int) (sectorsOf data)) else
      wflush (wflush (wflush M (zipAt ((first + (1 - (icounts M.now first count).1) * count : Nat) : Int) [zsec])).1 (zipAt ((first + (1 - (icounts M.now first count).1) * count + 1 : Nat) : Int) (sectorsOf data))).1 (zipAt ((first + (1 - (icounts M.now first count).1) * count : Nat) : Int) [imgHead seq data.size]) := rfl
  generalize (icounts M.now first count).1 = K at *
  generalize (icounts M.now first count).2.1 = B at *
  generalize (icounts M.now first count).2.2 = S at *
  have hib0 := h.blk.lt
  have h2i : ImgAt w2 ib b ms mf M first count := h.fr f2 (by simp)
  have hkc : (1 - K) * count ≤ count := by
    have := Nat.mul_le_mul_right count (show 1 - K ≤ 1 by omega)
    omega
  have done : ∀ (w' : World) (r : DM × Int), isave M first count seq data = r → Fr [b, ms, mf] w w' → ImgAt w' ib b ms mf r.1 first count → Ending.returned (I64 r.2) = .returned (I64 (isave M first count seq data).2) ∧ Fr [b, ms, mf] w w' ∧ ImgAt w' ib b ms mf (isave M first count seq data).1 first count := fun w' r hr f hi => by
    rw [hr]; exact ⟨rfl, f, hi⟩
  have mild : ∀ {u : World}, Fr [] w u → Fr [b, ms, mf] w u := fun f => f.mono fun x hx => by cases hx
  suffices main : ∀ bb : Bool, (bb = true ↔ (seq < 1 ∨ MOST < seq)) → y6 bb w2 by
    refine bc (fun h1 => main true ?_) fun h1 => main _ ?_
    · have h1 := of_decide_eq_true h1
      simp [h1]
    · have h1 := of_decide_eq_false h1
      rw [decide_eq_true_iff]
      constructor
      · exact fun h => .inr h
      · rintro (h | h)
        · exact absurd h h1
        · exact h
  intro bb hbb
  refine hy bb w2 (bc (fun hb1 => ?_) fun hb1 => ?_)
  · exact done w2 (M, 1) (by rw [spec, if_pos (hbb.1 hb1)]) (mild f2) h2i
  have hb1' : ¬ (seq < 1 ∨ MOST < seq) := fun hc => by rw [hbb.2 hc] at hb1; cases hb1
  rw [if_neg hb1'] at spec
  clear hbb hy
  refine bc (fun hs => ?_) fun hs => ?_
  · exact done w2 (M, 2) (by rw [spec, if_pos (of_decide_eq_true hs)]) (mild f2) h2i
  rw [if_neg (of_decide_eq_false hs)] at spec
  refine (room_ci h2i).mono ?_
  rintro e w10 ⟨rfl, rfl⟩
  refine ⟨_, rfl, bc (fun hl => ?_) fun hl => ?_⟩
  · exact done w10 (M, 3) (by rw [spec, if_pos (by have := of_decide_eq_true hl; omega)]) (mild f2) h2i
  have hl := of_decide_eq_false hl
  rw [if_neg (by omega)] at spec
  have hsS : secs data.size = (data.size + 63) / 64 := rfl
  have ekc : IntKind.wrap .i64 (IntKind.wrap .i64 (1 - (K : Int)) * (count : Int)) = (((1 - K) * count : Nat) : Int) := by
    have e1 : IntKind.wrap .i64 (1 - (K : Int)) = ((1 - K : Nat) : Int) := by rw [wrapi (by omega) (by omega)]; omega
    have e2 : ((1 - K : Nat) : Int) * (count : Int) = (((1 - K) * count : Nat) : Int) := by simp
    rw [e1, e2, wrapi (by omega) (by omega)]
  have x1 : IntKind.wrap .i64 ((first : Int) + (((1 - K) * count : Nat) : Int)) = ((first + (1 - K) * count : Nat) : Int) := by
    rw [wrapi (by omega) (by omega)]; omega
  refine ⟨_, h2i.blk.cell 1, _, h2i.blk.cell 2, ⟨by omega, by omega, by omega, by omega⟩, fun w14 k15 st14 b15 k18 w19 st19 b18 => ?_⟩
  rw [ekc, x1]
  have x2 : IntKind.wrap .i64 (((first + (1 - K) * count : Nat) : Int) + 1) = ((first + (1 - K) * count + 1 : Nat) : Int) := by
    rw [wrapi (by omega) (by omega)]; omega
  rw [x2]
  have hat : first + (1 - K) * count + count ≤ M.sure.length := by omega
  generalize hat0 : first + (1 - K) * count = at0 at *
  clear ekc x1 x2
  rw [← zsec_cells] at b15
  have n15 := g_new1 st14
  have n18 := g_new1 st19
  have f14 : Fr [] w10 w14 := st14.fr
  have f19 : Fr [] w10 w19 := f14.trans' st19.fr
  have hi19 : ImgAt w19 ib b ms mf M first count := h2i.fr f19 (by simp)
  have hw1 := iwrite_c hi19 (at0 := (at0 : Int)) (aA := some ⟨k18, 0, none⟩) (aC := 1) (l := [⟨zsec, some ⟨k15, 0, none⟩, 64⟩]) (by omega) (by simp; omega)
    (Row.all b18 (scells_one [⟨zsec, some ⟨k15, 0, none⟩, 64⟩])) (fun ad hp => by injection hp with hp; subst hp; simp; omega)
    (fun x hx => by
      simp at hx; subst hx
      refine ⟨g_row st19.fr (Row.all b15 (byteCells_one _)) (fun ad _ _ => by simp), fun ad hp => ?_⟩
      injection hp with hp; subst hp; simp; omega)
  refine hw1.mono ?_
  clear hw1 b15 b18
  rintro e w23 ⟨rfl, f23, hD23⟩
  have hz1 : ([⟨zsec, some ⟨k15, 0, none⟩, 64⟩] : List SI).map (·.s) = [zsec] := rfl
  rw [hz1] at hD23 ⊢
  have hi23 : ImgAt w23 ib b ms mf (wflush M (zipAt (at0 : Int) [zsec])).1 first count := hi19.setD f23 hD23 (wflush_n h.disk.ok _)
  have hn1 : (wflush M (zipAt (at0 : Int) [zsec])).1.sure.length = M.sure.length := by
    have := wflush_n h.disk.ok (zipAt (at0 : Int) [zsec])
    have e1 : (wflush M (zipAt (at0 : Int) [zsec])).1.n = ((wflush M (zipAt (at0 : Int) [zsec])).1.sure.length : Int) := rfl
    have e2 : M.n = (M.sure.length : Int) := rfl
    omega
  have hok1 := wflush_ok h.disk.ok (zipAt (at0 : Int) [zsec])
  have f023 : Fr [b, ms, mf] w w23 := (mild (f2.trans' f19)).trans' f23
  generalize hr1 : wflush M (zipAt (at0 : Int) [zsec]) = r1 at *
  refine ⟨_, rfl, bc (fun hne => ?_) fun he => ?_⟩
  · have hne : ¬ r1.2 = 0 := by simpa using hne
    exact done w23 r1 (by rw [spec, if_pos hne]) f023 hi23
  have he : r1.2 = 0 := by simpa using he
  rw [if_neg (by simp [he])] at spec
  have z23 := f023.size
  intro k25 w26 st26
  have n25 := g_new1 st26
  have f026 : Fr [b, ms, mf] w w26 := f023.trans st26.fr (fun x hx => by cases hx)
  have z26 := f026.size
  refine (chunk_c w26).mono ?_
  rintro e w29 ⟨kp, kq, rfl, f29, hkp, hkq, bp, bq⟩
  refine ⟨_, rfl, g_keep f29 (fun x hx => by simp at hx; subst hx; exact ⟨by omega, by simp⟩), fun b25 => ?_⟩
  have z29 := f29.size
  have f029 : Fr [b, ms, mf] w w29 := f026.trans f29 (fun x hx => by cases hx)
  have hi29 : ImgAt w29 ib b ms mf r1.1 first count := (hi23.fr st26.fr (by simp)).fr f29 (by simp)
  have bs29 := hi29.disk.bs
  have hib := hi29.blk.lt
  have hd29 : Row w29 dA (byteCells data) := row_fr0 f029 hd fun ad hp h0 => hdb ad hp (by rwa [byteCells_length] at h0)
  have lp := bp.lt
  have lq := bq.lt
  have l25 := b25.lt
  have n25p : k25 ≠ kp ∧ k25 ≠ kq := by omega
  let J : Nat → World → Prop := fun i w' => ∃ p c l, Saving data w29 k25 i w' p c l
  have mem : ∀ i w', J i w' → w'.cell? ⟨kp, 0, none⟩ = some (.slice dA data.size dC) ∧ w'.cell? ⟨kq, 0, none⟩ = some (I64 64) := fun i w' hJ => by
    obtain ⟨p, c, l, hs⟩ := hJ
    exact ⟨(bp.fr hs.fr (by simp; omega)).cell 0, (bq.fr hs.fr (by simp; omega)).cell 0⟩
  refine ⟨90, _, rfl, slices_Chunk_g_1.body, chunkArgs dA data.size, J, ?_, ?_, ?_, chunk_iter mem (by omega) hdC, ?_, ?_⟩
  · intro z hz
    obtain ⟨i, _, rfl⟩ := List.mem_map.1 hz
    exact ⟨_, _, _, rfl⟩
  · intro i u u' l hJ h0 hl hs
    obtain ⟨p, c, sl, hs0⟩ := hJ
    exact ⟨p, c, sl, hs0.stab l25 h0 hl hs.fr⟩
  · exact ⟨none, 0, [], Fr.refl _ _, b25, OwnZ.nil _ _ _, (fun ad h => by cases h), rfl, fun x hx => by cases hx⟩
  · -- a round
    intro p41 k42 k43 w44
    refine ⟨rfl, fun l D i w48 hz hJ hmk => ?_⟩
    obtain ⟨p, c, sl, hs⟩ := hJ
    obtain ⟨m1, m2, m3, m4, m5, m6, m7⟩ := hmk
    have hi : i < secs data.size := by
      have := (List.getElem?_eq_some_iff.1 hz).1
      simpa [chunkArgs] using this
    have hz' : chunkArg dA data.size i = [Value.slice p41 k42 k43] := by
      unfold chunkArgs at hz
      rw [List.getElem?_map, List.getElem?_range hi] at hz
      injection hz
    have hce : cend data.size i = min (64 * (i + 1)) data.size := rfl
    unfold chunkArg at hz'
    injection hz' with hz' _
    injection hz' with e41 e42 e43
    subst e41; subst e42
    clear hz
    have z48 := hs.fr.size
    have lk := hs.blk.lt
    have f48 : Fr [] w48 w48 := Fr.refl _ _
    have hpl := hs.own
    have hll : sl.length = i := by have := hs.own.1; simpa [scells] using this
    -- the piece
    have hpos : 0 < cend data.size i - 64 * i := by omega
    have hrow48 : Row w48 dA (byteCells data) := g_row hs.fr hd29 fun ad hp hlt => by
      have := hdb ad hp (by omega)
      have hl0 : 0 < (byteCells data).length := by rw [byteCells_length]; omega
      obtain ⟨ad', hp', hc⟩ := hd.1 0 _ (List.getElem?_eq_getElem hl0)
      rw [hp] at hp'; injection hp' with hp'; subst hp'
      have := World.block_lt_of_cell? w _ hc
      rw [add_block] at this
      simp; omega
    have hpc : ∃ piece : ByteArray, byteCells piece = ((byteCells data).drop (64 * i)).take (cend data.size i - 64 * i) ∧ piece.size = cend data.size i - 64 * i := by
      refine ⟨⟨((data.data.toList.drop (64 * i)).take (cend data.size i - 64 * i)).toArray⟩, ?_, ?_⟩
      · rw [cells8_mk]; unfold cells8; rw [List.map_take, List.map_drop]; rfl
      · show (((data.data.toList.drop (64 * i)).take (cend data.size i - 64 * i)).toArray).size = _
        rw [List.size_toArray, List.length_take, List.length_drop, Array.length_toList]
        have : data.data.size = data.size := rfl
        omega
    obtain ⟨piece, pc1, pc2⟩ := hpc
    have hprow : ∀ {u : World}, Fr [] w48 u → Row u (subA dA (64 * i) (cend data.size i) 1) (byteCells piece) := fun {u} fu => by
      have hu : Row u dA (byteCells data) := g_row fu hrow48 fun ad _ _ => by simp
      obtain ⟨ad, had⟩ := hu.has (by rw [byteCells_length]; omega)
      rw [pc1]
      have e : subA dA (64 * i) (cend data.size i) 1 = some (ad.add (64 * i)) := by
        unfold subA
        rw [if_neg (by omega), had, Nat.mul_one]; rfl
      rw [e]
      refine ⟨fun j x hj => ⟨_, rfl, ?_⟩, fun x hx => hu.2 x (List.mem_of_mem_drop (List.mem_of_mem_take hx))⟩
      rw [List.getElem?_take] at hj
      split at hj
      · rw [List.getElem?_drop] at hj
        rw [add2]
        exact hu.get had hj
      · cases hj
    have hclone : ∀ {u : World}, Fr [] w48 u → Calls prog 69 #[.slice (subA dA (64 * i) (cend data.size i) 1) (cend data.size i - 64 * i) k43] u fun e u' => ∃ p' c', e = .returned (.slice p' (cend data.size i - 64 * i) c') ∧ Fr [] w48 u' ∧ OwnZ u' w48.heap.size 1 p' (cend data.size i - 64 * i) c' (byteCells piece) := fun {u} fu => by
      have := clone_b (sC := k43) (hprow fu) (by omega)
      rw [pc2] at this
      refine this.mono ?_
      rintro e u' ⟨p', c', rfl, g1, g2⟩
      exact ⟨p', c', rfl, fu.trans' g1, g2.mono fu.size⟩
    have xw : IntKind.wrap .i64 (64 - ((cend data.size i - 64 * i : Nat) : Int)) = ((64 - (cend data.size i - 64 * i) : Nat) : Int) := by
      rw [wrapi (by omega) (by omega)]; omega
    have xn : Int.toNat ((64 - (cend data.size i - 64 * i) : Nat) : Int) = 64 - (cend data.size i - 64 * i) := by omega
    have hpad := piece_pad data i (by omega)
    rw [xw, xn]
    have hbounds : (0 : Int) ≤ ((64 - (cend data.size i - 64 * i) : Nat) : Int) ∧ ((64 - (cend data.size i - 64 * i) : Nat) : Int) * ((1 : Nat) : Int) ≤ 281474976710656 ∧ ((64 - (cend data.size i - 64 * i) : Nat) : Int) ≤ 9223372036854775807 := by omega
    have inner : ∀ (u : World) (p' : Option Addr) (c' : Nat) (K : World → Option Addr → Nat → Nat → Prop), Fr [] w48 u → OwnZ u w48.heap.size 1 p' (cend data.size i - 64 * i) c' (byteCells piece) →
        (∀ u' p2 c2, Fr [] w48 u' → OwnZ u' w48.heap.size 1 p2 64 c2 (byteCells (chunk data i)) → K u' p2 64 c2) →
        appendP true [] [] [] u p' (cend data.size i - 64 * i) c' (64 - (cend data.size i - 64 * i)) (reps [Value.int .u8 0] (64 - (cend data.size i - 64 * i))) 1 1 [Value.int .u8 0] K := fun u p' c' K fu ou hK => by
      refine append_z ou (by rw [reps_length]; simp) (fun x hx => by rw [reps_one] at hx; rw [(List.mem_replicate.1 hx).2]; rfl) fu.size rfl (fun _ => rfl) (fun ad _ => by simp) (fun ad _ hm => by cases hm) (by omega) (by omega) fun u' p2 c2 fu' _ ou' _ => ?_
      have e64 : cend data.size i - 64 * i + (64 - (cend data.size i - 64 * i)) = 64 := by omega
      rw [e64] at ou' ⊢
      rw [pc1, ← hpad] at ou'
      refine hK u' p2 c2 (fu.trans fu' fun x hx => ?_) ou'
      rw [List.nil_append, g_mem_pb] at hx
      obtain ⟨ad, hp, rfl⟩ := hx
      exact .inr (ou.lt hp).1
    have outer : ∀ (u : World) (p2 : Option Addr) (c2 : Nat), Fr [] w48 u → OwnZ u w48.heap.size 1 p2 64 c2 (byteCells (chunk data i)) → ∀ k66 : Nat,
        appendP false [] [k66] [k66] u p i c 1 (spl (reps [Value.slice none 0 0] 1) 0 [Value.slice p2 64 c2]) 1 24 [Value.slice none 0 0] fun w67 p68 k69 k70 => ∃ l71 : List Value, Blk w67 k25 l71 ∧ Addr.spot ⟨0, 0, none⟩ = none ∧ 0 + List.length [Value.slice p68 k69 k70] ≤ List.length l71 ∧ ¬ k25 ∈ [k66] ∧
          ∀ w72 : World, Upd w67 w72 k25 (sets l71 0 [Value.slice p68 k69 k70]) → Keep [l, D] w48 w72 ∧ J (i + 1) w72 := fun u p2 c2 fu ou k66 => by
      have hspl : spl (reps [Value.slice none 0 0] 1) 0 [Value.slice p2 64 c2] = [Value.slice p2 64 c2] := rfl
      rw [hspl]
      have zu := fu.size
      have op := hs.own.fr fu (fun ad _ => by simp)
      refine append_z op (by simp) (fun x hx => by simp at hx; subst hx; rfl) (by omega) rfl (fun h => by cases h) (fun ad _ => by simp) (fun ad hp hm => hm) (by omega) (by omega) fun w67 p68 c68 f67 nw67 o67 d67 => ?_
      have n66 := g_news1 nw67
      have fu67 : Fr (pb p) u w67 := by simpa using f67
      have pk := hs.pk
      have z67 := fu67.size
      have b67 : Blk w67 k25 [.slice p i c] := (hs.blk.fr fu (by simp)).fr fu67 (by rw [g_mem_pb]; rintro ⟨ad, hp, e⟩; exact pk ad hp e)
      refine ⟨_, b67, rfl, by simp, (by simp; omega), fun w72 hu => ⟨?_, p68, c68, sl ++ [⟨chunk data i, p2, c2⟩], ?_⟩⟩
      · have ndp : ∀ x ∈ [l, D], x ∉ pb p := fun x hx hm => by
          rw [g_mem_pb] at hm
          obtain ⟨ad, hp, rfl⟩ := hm
          obtain ⟨cs, hb⟩ := hs.own.isblk hp
          simp at hx
          rcases hx with e | e
          · exact m6 cs (e ▸ hb)
          · exact m7 cs (e ▸ hb)
        intro x hx
        have hx1 := ndp x hx
        have hx2 : x < w48.heap.size ∧ x ≠ k25 := by simp at hx; omega
        exact (hu.oth x hx2.2).trans ((fu67.blk x (by omega) hx1).trans (fu.blk x hx2.1 (by simp)))
      · have hp2 : ∀ ad, p2 = some ad → w48.heap.size ≤ ad.block ∧ ad.block < u.heap.size := fun ad hp => ou.lt hp
        have hpp : ∀ ad, p = some ad → w29.heap.size ≤ ad.block ∧ ad.block < w48.heap.size := fun ad hp => hs.own.lt hp
        have hp68 : ∀ ad, p68 = some ad → ad.block ≠ k25 := fun ad hp => by
          rcases d67 ad hp with e | e
          · exact pk ad e
          · omega
        have fu72 : Fr [k25] w67 w72 := hu.fr
        refine ⟨?_, ?_, ?_, hp68, ?_, ?_⟩
        · refine ((hs.fr.trans fu (fun x hx => by cases hx)).trans fu67 (fun x hx => ?_)).trans' fu72
          rw [g_mem_pb] at hx
          obtain ⟨ad, hp, rfl⟩ := hx
          exact .inr (hpp ad hp).1
        · exact hu.blk
        · have e : scells (sl ++ [⟨chunk data i, p2, c2⟩]) = scells sl ++ [.slice p2 64 c2] := by
            unfold scells; rw [List.map_append]; simp [chunk_size]
          rw [e]
          exact o67.fr fu72 (fun ad hp hm => by simp at hm; exact hp68 ad hp hm)
        · rw [List.map_append, hs.eq, List.range_succ, List.map_append]; rfl
        · intro x hx
          rcases List.mem_append.1 hx with hx | hx
          · obtain ⟨g1, g2⟩ := hs.el x hx
            refine ⟨((g1.fr fu (fun ad _ => by simp)).fr fu67 fun ad hp hm => ?_).fr fu72 (fun ad hp hm => by simp at hm; exact (g2 ad hp).1 hm), fun ad hp => ⟨(g2 ad hp).1, fun ad2 hp2' => ?_⟩⟩
            · rw [g_mem_pb] at hm
              obtain ⟨ad2, hp2', e⟩ := hm
              exact (g2 ad hp).2 ad2 hp2' e.symm
            · rcases d67 ad2 hp2' with e | e
              · exact (g2 ad hp).2 ad2 e
              · have := (g1.lt hp).2
                omega
          · simp at hx; subst hx
            have hsz : (chunk data i).size = 64 := chunk_size data i
            refine ⟨?_, fun ad hp => ⟨by have := hp2 ad hp; omega, fun ad2 hp2' => ?_⟩⟩
            · show OwnZ w72 w29.heap.size 1 p2 (chunk data i).size c2 (byteCells (chunk data i))
              rw [hsz]
              refine ((ou.mono z48).fr fu67 fun ad hp hm => ?_).fr fu72 (fun ad hp hm => by simp at hm; have := hp2 ad hp; omega)
              rw [g_mem_pb] at hm
              obtain ⟨ad2, hp2', e⟩ := hm
              have := hpp ad2 hp2'
              have := hp2 ad hp
              omega
            · have := hp2 ad hp
              rcases d67 ad2 hp2' with e | e
              · have := hpp ad2 e; omega
              · omega
    have cellk : ∀ {u : World}, Fr [] w48 u → u.cell? ⟨k25, 0, none⟩ = some (.slice p i c) := fun fu => (hs.blk.fr fu (by simp)).cell 0
    refine ⟨⟨_, _, _, cellk f48, fun w55 st55 => (hclone st55.fr).mono ?_⟩, fun w74 st74 => (hclone st74.fr).mono ?_⟩
    · rintro e w58 ⟨p59, c61, rfl, f58, o58⟩
      exact ⟨_, _, _, rfl, hbounds, inner w58 _ _ _ f58 o58 fun u p2 c2 fu ou => outer u p2 c2 fu ou⟩
    · rintro e w77 ⟨p59, c61, rfl, f58, o58⟩
      exact ⟨_, _, _, rfl, ⟨_, _, _, cellk f58, hbounds, inner w77 _ _ _ f58 o58 fun u p2 c2 fu ou => outer u p2 c2 fu ou⟩, hbounds, inner w77 _ _ _ f58 o58 fun u p2 c2 fu ou => ⟨_, _, _, cellk fu, outer u p2 c2 fu ou⟩⟩
  · -- behind all rounds
    intro kD w112 hJ hmk
    obtain ⟨hD1, hD2⟩ := hmk
    have hlen : (chunkArgs dA data.size).length = secs data.size := by simp [chunkArgs]
    rw [hlen] at hJ
    obtain ⟨p, c, sl, hs⟩ := hJ
    have hll : sl.length = secs data.size := by have := hs.own.1; simpa [scells] using this
    have hi112 : ImgAt w112 ib b ms mf r1.1 first count := hi29.fr hs.fr (fun x hx hm => by simp at hx hm; omega)
    have f0112 : Fr [b, ms, mf] w w112 := f029.trans hs.fr (fun x hx => by simp at hx; subst hx; exact .inr (by omega))
    have hpp : ∀ ad, p = some ad → w29.heap.size ≤ ad.block := fun ad hp => (hs.own.lt hp).1
    have hb29 : ∀ x : Nat, w29.heap.size ≤ x → x ∉ [b, ms, mf] := fun x hx hm => by simp at hm; omega
    have hw2 := iwrite_c hi112 (at0 := ((at0 + 1 : Nat) : Int)) (aA := p) (aC := c) (l := sl) (by omega) (by rw [hll]; omega) hs.own.row (fun ad hp => hb29 _ (hpp ad hp)) (fun x hx => ⟨(hs.el x hx).1.row, fun ad hp => hb29 _ ((hs.el x hx).1.lt hp).1⟩)
    rw [hll] at hw2
    have hsec : sl.map (·.s) = sectorsOf data := hs.eq
    rw [hsec] at hw2
    refine ⟨_, _, _, hs.blk.cell 0, hw2.mono ?_⟩
    clear hw2
    rintro e w119 ⟨rfl, f119, hD119⟩
    have hi119 := hi112.setD f119 hD119 (wflush_n hok1 _)
    have hok2 := wflush_ok hok1 (zipAt ((at0 + 1 : Nat) : Int) (sectorsOf data))
    have hn2 := wflush_n hok1 (zipAt ((at0 + 1 : Nat) : Int) (sectorsOf data))
    have f0119 : Fr [b, ms, mf] w w119 := f0112.trans' f119
    generalize hr2 : wflush r1.1 (zipAt ((at0 + 1 : Nat) : Int) (sectorsOf data)) = r2 at *
    have hkD : kD < w112.heap.size := (Array.getElem?_eq_some_iff.1 hD2).1
    have hD119 : w119.heap[kD]? = some (.deferred (some [])) := (f119.blk kD hkD (hb29 _ hD1)).trans hD2
    have z119 := f119.size
    have shut : ∀ {u u' : World} {r : DM}, Fr [b, ms, mf] w u → ImgAt u ib b ms mf r first count → Step u u' [kD] [] → Fr [b, ms, mf] w u' ∧ ImgAt u' ib b ms mf r first count := fun {u u' r} fu hi hst =>
      ⟨fu.trans hst.fr (fun x hx => by simp at hx; subst hx; exact .inr (by omega)), hi.fr hst.fr (fun x hx hm => by simp at hx hm; omega)⟩
    refine ⟨_, rfl, bc (fun hne => ⟨rfl, hD119, fun w121 st121 => ?_⟩) fun he2 => ?_⟩
    · have hne : ¬ r2.2 = 0 := by simpa using hne
      obtain ⟨g1, g2⟩ := shut f0119 hi119 st121
      exact done w121 r2 (by rw [spec, if_pos hne]) g1 g2
    have he2 : r2.2 = 0 := by simpa using he2
    rw [if_neg (by simp [he2])] at spec
    refine (ihead_c w119 seq (data.size : Int)).mono ?_
    rintro e w124 ⟨k125, rfl, hk125, f124, b124⟩
    refine ⟨_, _, _, rfl, fun k128 w129 st129 b128 => ?_⟩
    have n128 := g_new1 st129
    have f129 : Fr [] w119 w129 := f124.trans' st129.fr
    have z124 := f124.size
    have hi129 := hi119.fr f129 (fun x _ => by simp)
    have hsz := imgHead_size seq (data.size : Int)
    have bs119 := hi119.disk.bs
    have hw3 := iwrite_c hi129 (at0 := (at0 : Int)) (aA := some ⟨k128, 0, none⟩) (aC := 1) (l := [⟨imgHead seq data.size, some ⟨k125, 0, none⟩, 64⟩]) (by omega) (by simp; omega)
      (by
        have e : spl (reps [Value.slice none 0 0] 1) 0 [Value.slice (some ⟨k125, 0, none⟩) 64 64] = scells [⟨imgHead seq data.size, some ⟨k125, 0, none⟩, 64⟩] := by
          show [Value.slice (some ⟨k125, 0, none⟩) 64 64] = [Value.slice (some ⟨k125, 0, none⟩) (imgHead seq data.size).size 64]
          rw [hsz]
        rw [e] at b128
        exact Row.all b128 (scells_one _)) (fun ad hp => by injection hp with hp; subst hp; simp; omega)
      (fun x hx => by
        simp at hx; subst hx
        refine ⟨g_row st129.fr (Row.all b124 (byteCells_one _)) (fun ad _ _ => by simp), fun ad hp => ?_⟩
        injection hp with hp; subst hp; simp; omega)
    refine hw3.mono ?_
    rintro e w133 ⟨rfl, f133, hD133⟩
    have hz3 : ([⟨imgHead seq data.size, some ⟨k125, 0, none⟩, 64⟩] : List SI).map (·.s) = [imgHead seq data.size] := rfl
    rw [hz3] at hD133 ⊢
    have hi133 := hi129.setD f133 hD133 (wflush_n hok2 _)
    have z129 := f129.size
    refine ⟨_, rfl, rfl, (f133.blk kD (by omega) (hb29 _ hD1)).trans ((f129.blk kD (by omega) (by simp)).trans hD119), fun w135 st135 => ?_⟩
    obtain ⟨g1, g2⟩ := shut ((f0119.trans f129 (fun x hx => by cases hx)).trans' f133) hi133 st135
    exact done w135 _ spec g1 g2
end Go.Proofs.Ytcaamecdhbgknaa.Image
