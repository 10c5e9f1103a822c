/- The log: opening it: what is read. -/
import Derived.Test.YtcaamecdhbgknaaG4
namespace Go.Proofs.Ytcaamecdhbgknaa.Log
open Go Go.V
open Go.Proofs.Ytcaamecdhbgknaa.VC
open Go.Proofs.Ytcaamecdhbgknaa.Disk
open Go.Proofs.Try (prog)
set_option linter.unusedVariables false
set_option linter.unusedSimpArgs false
set_option maxRecDepth 20000

/-- The records that follow on one another: head sector, number, data. -/
def scan (now : List ByteArray) (behind : Nat) : Nat → Nat → Option Nat → List (Nat × Nat × ByteArray)
  | 0, _, _ => []
  | fuel + 1, a, prev => if a < behind then (match recAt now a behind with
    | none => []
    | some (seq, data) => if prev.getD (seq - 1) + 1 = seq then (a, seq, data) :: scan now behind fuel (a + 1 + secs data.size) (some seq) else []) else []
def endAt (first : Nat) (s : List (Nat × Nat × ByteArray)) : Nat := s.foldl (fun _ r => r.1 + 1 + secs r.2.2.size) first
def nextAt (s : List (Nat × Nat × ByteArray)) : Nat := s.foldl (fun _ r => r.2.1 + 1) 1
theorem endAt_snoc (first : Nat) (s : List (Nat × Nat × ByteArray)) (r : Nat × Nat × ByteArray) : endAt first (s ++ [r]) = r.1 + 1 + secs r.2.2.size := by simp [endAt]
theorem nextAt_snoc (s : List (Nat × Nat × ByteArray)) (r : Nat × Nat × ByteArray) : nextAt (s ++ [r]) = r.2.1 + 1 := by simp [nextAt]
def prevOf (s : List (Nat × Nat × ByteArray)) : Option Nat := if s = [] then none else some (nextAt s - 1)
theorem prevOf_snoc (s : List (Nat × Nat × ByteArray)) (r : Nat × Nat × ByteArray) : prevOf (s ++ [r]) = some r.2.1 := by
  unfold prevOf
  rw [if_neg (by simp), nextAt_snoc]; rfl
theorem recAt_some {now : List ByteArray} {a behind seq : Nat} {data : ByteArray} (h : recAt now a behind = some (seq, data)) : 1 ≤ seq ∧ seq ≤ 4611686018427387904 ∧ data.size ≤ 4000 ∧ a + 1 + secs data.size ≤ behind ∨ False := by
  left
  unfold recAt at h
  simp only at h
  split at h
  · rename_i hc
    injection h with h
    injection h with h1 h2
    subst h1
    have hds : data.size ≤ beN (bytesAt (now.getD a zsec) 9 2) := by
      rw [← h2]
      show (List.take _ _).toArray.size ≤ _
      rw [List.size_toArray, List.length_take]; omega
    refine ⟨hc.1, hc.2.1, by omega, ?_⟩
    have h5 := hc.2.2.2.2
    have : secs data.size ≤ secs (beN (bytesAt (now.getD a zsec) 9 2)) := by
      unfold secs
      omega
    omega
  · cases h

/-- A record in memory. -/
structure RI where
  seq : Nat
  data : ByteArray
  p : Option Addr
  c : Nat
def RI.cells (r : RI) : List Value := [I64 (r.seq : Nat), .slice r.p r.data.size r.c]
def rcells (l : List RI) : List Value := l.flatMap RI.cells
theorem rcells_len (l : List RI) : (rcells l).length = l.length * 2 := by
  induction l with
  | nil => rfl
  | cons r l ih =>
    have : rcells (r :: l) = r.cells ++ rcells l := by simp [rcells]
    rw [this, List.length_append, ih, List.length_cons]
    simp [RI.cells]; omega
theorem rcells_snoc (l : List RI) (r : RI) : rcells (l ++ [r]) = rcells l ++ r.cells := by simp [rcells]
/-- Records that are one's own. -/
structure Recs (w : World) (B : Nat) (p : Option Addr) (l c : Nat) (rs : List RI) : Prop where
  own : OwnZ w B 2 p l c (rcells rs)
  len : l = rs.length
  row : ∀ r ∈ rs, Row w r.p (byteCells r.data) ∧ ∀ ad, r.p = some ad → B ≤ ad.block ∧ ad.block < w.heap.size ∧ ad.block ∉ pb p
theorem Recs.fr {F : List Nat} {v w : World} {B : Nat} {p : Option Addr} {l c : Nat} {rs : List RI} (h : Recs v B p l c rs) (hf : Fr F v w) (h1 : ∀ ad, p = some ad → ad.block ∉ F) (h2 : ∀ r ∈ rs, ∀ ad, r.p = some ad → ad.block ∉ F) : Recs w B p l c rs :=
  ⟨h.own.fr hf h1, h.len, fun r hr => ⟨g_row hf (h.row r hr).1 fun ad hp _ => h2 r hr ad hp, fun ad hp => ⟨((h.row r hr).2 ad hp).1, Nat.lt_of_lt_of_le ((h.row r hr).2 ad hp).2.1 hf.size, ((h.row r hr).2 ad hp).2.2⟩⟩⟩

/-- Where the reading has come to: s is read. -/
structure Reading (w0 w : World) (k4 : Nat) (b : Nat) (first behind : Nat) (s : List (Nat × Nat × ByteArray)) (p : Option Addr) (l c : Nat) (rs : List RI) : Prop where
  fr : Fr [] w0 w
  k : w0.heap.size ≤ k4 ∧ k4 < w.heap.size
  recs : Recs w w0.heap.size p l c rs
  same : rs.map (fun r => (r.seq, r.data)) = s.map fun r => r.2
  pk : k4 ∉ pb p
  rk : ∀ r ∈ rs, ∀ ad, r.p = some ad → ad.block ≠ k4
  log : ∃ hp hc, Blk w k4 (lcells b ⟨first, (endAt first s : Nat), behind, (nextAt s : Nat), s.map fun r => (r.1 : Int)⟩ hp hc) ∧ OwnZ w w0.heap.size 1 hp s.length hc (s.map fun r => I64 (r.1 : Int)) ∧ k4 ∉ pb hp ∧ (∀ x ∈ pb p, x ∉ pb hp) ∧ ∀ r ∈ rs, ∀ ad, r.p = some ad → ad.block ∉ pb hp
theorem Reading.step {w0 w w' : World} {k4 b first behind : Nat} {s : List (Nat × Nat × ByteArray)} {p : Option Addr} {l c : Nat} {rs : List RI} (h : Reading w0 w k4 b first behind s p l c rs) (hf : Fr [] w w') : Reading w0 w' k4 b first behind s p l c rs := by
  obtain ⟨hp, hc, h1, h2, h3, h4, h5⟩ := h.log
  exact ⟨h.fr.trans' hf, ⟨h.k.1, Nat.lt_of_lt_of_le h.k.2 hf.size⟩, h.recs.fr hf (fun ad _ => by simp) (fun r _ ad _ => by simp), h.same, h.pk, h.rk, hp, hc, h1.fr hf (by simp), h2.fr hf (fun ad _ => by simp), h3, h4, h5⟩

/-- A record more is read. -/
theorem round_c {w0 w82 : World} {k4 b first behind : Nat} {s : List (Nat × Nat × ByteArray)} {p : Option Addr} {l c : Nat} {rs : List RI} (h : Reading w0 w82 k4 b first behind s p l c rs) {seq : Nat} {data : ByteArray} {p75 : Option Addr} {k77 k79 k83 : Nat} {B : Nat}
    (hdat : OwnZ w82 B 1 p75 data.size k77 (byteCells data)) (hB : w0.heap.size ≤ B) (hd4 : k4 ∉ pb p75) (hdp : ∀ x ∈ pb p75, x ∉ pb p) (hdh : ∀ x ∈ pb p75, B ≤ x) (hBh : ∀ ad, p = some ad → ad.block < B) (hBk : k4 < B) (hBl : ∀ hp hc, w82.cell? ⟨k4, 5, none⟩ = some (.slice hp s.length hc) → ∀ x ∈ pb hp, x < B)
    (hk79 : w0.heap.size ≤ k79 ∧ k79 < w82.heap.size ∧ k79 ≠ k4 ∧ k79 ∉ pb p ∧ ∀ hp hc, w82.cell? ⟨k4, 5, none⟩ = some (.slice hp s.length hc) → k79 ∉ pb hp) (hlen : s.length < 4096) (hq : seq ≤ 4611686018427387904) (hdz : data.size ≤ 4000) (hend : endAt first s + 1 + secs data.size ≤ 4096)
    {K : Option Addr → Nat → Nat → World → Prop} (hK : ∀ p85 c87 w103, Reading w0 w103 k4 b first behind (s ++ [(endAt first s, seq, data)]) p85 (l + 1) c87 (rs ++ [⟨seq, data, p75, k77⟩]) → K p85 (l + 1) c87 w103) :
    appendP false [] [k83] [k79, k83] w82 p l c 1 (RI.cells ⟨seq, data, p75, k77⟩) 2 32 [I64 0, .slice none 0 0] fun w84 p85 k86 k87 =>
      ∃ p88 k89 k90, w84.cell? (Addr.add ⟨k4, 0, none⟩ 5) = some (.slice p88 k89 k90) ∧ ∃ n91, w84.cell? (Addr.add ⟨k4, 0, none⟩ 2) = some (I64 n91) ∧ ∀ k92, appendP false [] [k92] [k79, k83, k92] w84 p88 k89 k90 1 [I64 n91] 1 8 [I64 0] fun w93 p94 k95 k96 =>
        ∃ l97 : List Value, Blk w93 (Addr.block (Addr.add ⟨k4, 0, none⟩ 5)) l97 ∧ Addr.spot (Addr.add ⟨k4, 0, none⟩ 5) = none ∧ Addr.off (Addr.add ⟨k4, 0, none⟩ 5) + 1 ≤ l97.length ∧ ¬ Addr.block (Addr.add ⟨k4, 0, none⟩ 5) ∈ [k79, k83, k92] ∧
          ∀ w98, Upd w93 w98 (Addr.block (Addr.add ⟨k4, 0, none⟩ 5)) (sets l97 (Addr.off (Addr.add ⟨k4, 0, none⟩ 5)) [.slice p94 k95 k96]) → ∀ y100 : World → Prop,
            (∀ w101, (∃ l102 : List Value, Blk w101 (Addr.block (Addr.add ⟨k4, 0, none⟩ 4)) l102 ∧ Addr.spot (Addr.add ⟨k4, 0, none⟩ 4) = none ∧ Addr.off (Addr.add ⟨k4, 0, none⟩ 4) + 1 ≤ l102.length ∧ ¬ Addr.block (Addr.add ⟨k4, 0, none⟩ 4) ∈ [k79] ∧
              ∀ w103, Upd w101 w103 (Addr.block (Addr.add ⟨k4, 0, none⟩ 4)) (sets l102 (Addr.off (Addr.add ⟨k4, 0, none⟩ 4)) [I64 (IntKind.wrap .i64 ((seq : Nat) + 1))]) → K p85 k86 k87 w103) → y100 w101) →
            (∃ n108, w98.cell? (Addr.add ⟨k4, 0, none⟩ 2) = some (I64 n108) ∧ ∀ w109, Step w98 w109 [] [] → Calls prog 66 #[I64 (data.size : Int)] w109 fun e111 w112 => ∃ n113, e111 = .returned (I64 n113) ∧ Keep [k79, k83, k92] w109 w112 ∧
              ∃ l114 : List Value, Blk w112 (Addr.block (Addr.add ⟨k4, 0, none⟩ 2)) l114 ∧ Addr.spot (Addr.add ⟨k4, 0, none⟩ 2) = none ∧ Addr.off (Addr.add ⟨k4, 0, none⟩ 2) + 1 ≤ l114.length ∧ ¬ Addr.block (Addr.add ⟨k4, 0, none⟩ 2) ∈ [k79, k83, k92] ∧
                ∀ w115, Upd w112 w115 (Addr.block (Addr.add ⟨k4, 0, none⟩ 2)) (sets l114 (Addr.off (Addr.add ⟨k4, 0, none⟩ 2)) [I64 (IntKind.wrap .i64 (n108 + IntKind.wrap .i64 (1 + n113)))]) → y100 w115) ∧
            ∀ w117, Step w98 w117 [] [] → Calls prog 66 #[I64 (data.size : Int)] w117 fun e119 w120 => ∃ n121, e119 = .returned (I64 n121) ∧ Keep [k79, k83, k92] w117 w120 ∧ ∃ n122, w120.cell? (Addr.add ⟨k4, 0, none⟩ 2) = some (I64 n122) ∧
              ∃ l123 : List Value, Blk w120 (Addr.block (Addr.add ⟨k4, 0, none⟩ 2)) l123 ∧ Addr.spot (Addr.add ⟨k4, 0, none⟩ 2) = none ∧ Addr.off (Addr.add ⟨k4, 0, none⟩ 2) + 1 ≤ l123.length ∧ ¬ Addr.block (Addr.add ⟨k4, 0, none⟩ 2) ∈ [k79, k83, k92] ∧
                ∀ w124, Upd w120 w124 (Addr.block (Addr.add ⟨k4, 0, none⟩ 2)) (sets l123 (Addr.off (Addr.add ⟨k4, 0, none⟩ 2)) [I64 (IntKind.wrap .i64 (n122 + IntKind.wrap .i64 (1 + n121)))]) → y100 w124 := by
  obtain ⟨hp, hc, h1, h2, h3, h4, h5⟩ := h.log
  have hrecs := h.recs
  have hl := hrecs.len
  have hsame := congrArg List.length h.same
  simp at hsame
  have hbh := hBl hp hc (by rw [h1.cell]; simp [lcells])
  have hk79h := hk79.2.2.2.2 hp hc (by rw [h1.cell]; simp [lcells])
  refine append_z hrecs.own (by simp [RI.cells]) (fun u hu => by simp [RI.cells] at hu; rcases hu with rfl | rfl <;> rfl) h.fr.size rfl (fun h => by cases h) (fun ad _ => by simp) ?_ (by omega) (by omega) fun w84 p85 c87 f84 n84 o84 d84 => ?_
  · intro ad hp' hm
    simp at hm
    rcases hm with rfl | rfl
    · exact absurd ((g_mem_pb _ _).2 ⟨ad, hp', rfl⟩) hk79.2.2.2.1
    · simp
  rw [List.nil_append] at f84
  have b84 : Blk w84 k4 (lcells b ⟨first, (endAt first s : Nat), behind, (nextAt s : Nat), s.map fun r => (r.1 : Int)⟩ hp hc) := h1.fr f84 h.pk
  have hO84 : OwnZ w84 w0.heap.size 1 hp s.length hc (s.map fun r => I64 (r.1 : Int)) := h2.fr f84 (fun ad hpa hm => h4 _ hm ((g_mem_pb _ _).2 ⟨ad, hpa, rfl⟩))
  have n83 := g_news1 n84
  have z84 := f84.size
  have hk4lt := h.k.2
  have p85f : ∀ x ∈ pb p85, (x ∈ pb p ∨ w82.heap.size ≤ x) ∧ x < w84.heap.size ∧ x ≠ k83 := fun x hx => by
    rw [g_mem_pb] at hx
    obtain ⟨ad, hpa, rfl⟩ := hx
    have hlt := (o84.lt hpa).2
    rcases d84 ad hpa with e | ⟨e, e2⟩
    · refine ⟨.inl ((g_mem_pb _ _).2 ⟨ad, e, rfl⟩), hlt, ?_⟩
      have := (hrecs.own.lt e).2
      omega
    · simp at e2
      exact ⟨.inr e, hlt, e2⟩
  refine ⟨_, _, _, b84.cell 5, _, b84.cell 2, fun k92 => ?_⟩
  have elen : (s.map fun r => (r.1 : Int)).length = s.length := by simp
  rw [elen]
  refine append_z hO84 rfl (fun u hu => by rw [List.mem_singleton.1 hu]; rfl) (Nat.le_trans h.fr.size z84) rfl (fun h => by cases h) (fun ad _ => by simp) ?_ (by omega) (by omega) fun w93 p94 c96 f93 n93 o93 d93 => ?_
  · intro ad hpa hm
    simp at hm
    have hlt := (h2.lt hpa).2
    rcases hm with rfl | rfl | rfl
    · exact absurd ((g_mem_pb _ _).2 ⟨ad, hpa, rfl⟩) hk79h
    · omega
    · simp
  rw [List.nil_append] at f93
  have b93 : Blk w93 k4 (lcells b ⟨first, (endAt first s : Nat), behind, (nextAt s : Nat), s.map fun r => (r.1 : Int)⟩ hp hc) := b84.fr f93 h3
  have n92 := g_news1 n93
  have z93 := f93.size
  have p94f : ∀ x ∈ pb p94, (x ∈ pb hp ∨ w84.heap.size ≤ x) ∧ x < w93.heap.size := fun x hx => by
    rw [g_mem_pb] at hx
    obtain ⟨ad, hpa, rfl⟩ := hx
    have hlt := (o93.lt hpa).2
    rcases d93 ad hpa with e | ⟨e, e2⟩
    · exact ⟨.inl ((g_mem_pb _ _).2 ⟨ad, e, rfl⟩), hlt⟩
    · exact ⟨.inr e, hlt⟩
  refine fld_store b93 5 (by simp [lcells]) (by simp; omega) fun w98 u98 y100 hy100 => ?_
  have b98 := u98.blk
  -- behind the end's store
  have tail : ∀ w101, Fr [k4] w98 w101 → Blk w101 k4 (((lcells b ⟨first, (endAt first s : Nat), behind, (nextAt s : Nat), s.map fun r => (r.1 : Int)⟩ hp hc).set 5 (.slice p94 (s.length + 1) c96)).set 2 (I64 ((endAt first s + 1 + secs data.size : Nat) : Int))) → y100 w101 := fun w101 f101 b101 => by
    refine hy100 _ (fld_store b101 4 (by simp [lcells]) (by simp; omega) fun w103 u103 => ?_)
    rw [wrapi (by omega) (by omega)] at u103
    have b103 := u103.blk
    have F : Fr [k4] w93 w103 := (u98.fr.trans' f101).trans' u103.fr
    have zF := F.size
    have e1 : lcells b ⟨first, (endAt first (s ++ [(endAt first s, seq, data)]) : Nat), behind, (nextAt (s ++ [(endAt first s, seq, data)]) : Nat), (s ++ [(endAt first s, seq, data)]).map fun r => (r.1 : Int)⟩ p94 c96 = ((((lcells b ⟨first, (endAt first s : Nat), behind, (nextAt s : Nat), s.map fun r => (r.1 : Int)⟩ hp hc).set 5 (.slice p94 (s.length + 1) c96)).set 2 (I64 ((endAt first s + 1 + secs data.size : Nat) : Int))).set 4 (I64 ((seq : Int) + 1))) := by
      rw [endAt_snoc, nextAt_snoc]
      simp [lcells]
    have hdat103 : Row w103 p75 (byteCells data) := by
      refine g_row F (g_row f93 (g_row f84 hdat.row fun ad hpa _ => ?_) fun ad hpa _ => ?_) fun ad hpa _ => ?_
      · exact hdp _ ((g_mem_pb _ _).2 ⟨ad, hpa, rfl⟩)
      · intro hm
        have := hbh _ hm
        have := hdh _ ((g_mem_pb _ _).2 ⟨ad, hpa, rfl⟩)
        omega
      · simp
        intro e
        exact hd4 ((g_mem_pb _ _).2 ⟨ad, hpa, e⟩)
    have dlt : ∀ ad, p75 = some ad → ad.block < w82.heap.size := fun ad hpa => (hdat.lt hpa).2
    refine hK _ _ _ ⟨?_, ⟨h.k.1, by omega⟩, ⟨?_, by simp; exact hl, ?_⟩, ?_, ?_, ?_, p94, c96, ?_, ?_, ?_, ?_, ?_⟩
    · refine ((h.fr.trans f84 fun x hx => ?_).trans f93 fun x hx => ?_).trans F fun x hx => ?_
      · rw [g_mem_pb] at hx
        obtain ⟨ad, hpa, rfl⟩ := hx
        exact .inr (hrecs.own.lt hpa).1
      · rw [g_mem_pb] at hx
        obtain ⟨ad, hpa, rfl⟩ := hx
        exact .inr (h2.lt hpa).1
      · simp at hx; subst hx; exact .inr h.k.1
    · rw [rcells_snoc]
      refine (o84.fr f93 fun ad hpa hm => ?_).fr F fun ad hpa hm => ?_
      · rcases (p85f _ ((g_mem_pb _ _).2 ⟨ad, hpa, rfl⟩)).1 with e | e
        · exact h4 _ e hm
        · rw [g_mem_pb] at hm
          obtain ⟨a2, ha2, e2⟩ := hm
          have := (h2.lt ha2).2
          omega
      · simp at hm
        rcases (p85f _ ((g_mem_pb _ _).2 ⟨ad, hpa, rfl⟩)).1 with e | e
        · exact h.pk (by rw [← hm]; exact e)
        · omega
    · intro r hr
      rcases List.mem_append.1 hr with hr | hr
      · have hrr := hrecs.row r hr
        refine ⟨g_row F (g_row f93 (g_row f84 hrr.1 fun ad hpa _ => (hrr.2 ad hpa).2.2) fun ad hpa _ => h5 r hr ad hpa) fun ad hpa _ => by simpa using h.rk r hr ad hpa, fun ad hpa => ⟨(hrr.2 ad hpa).1, by have := (hrr.2 ad hpa).2.1; omega, fun hm => ?_⟩⟩
        have := (hrr.2 ad hpa).2.1
        rcases (p85f _ hm).1 with e | e
        · exact (hrr.2 ad hpa).2.2 e
        · omega
      · rw [List.mem_singleton] at hr
        subst hr
        refine ⟨hdat103, fun ad hpa => ⟨by have := (hdat.lt hpa).1; omega, by have := dlt ad hpa; omega, fun hm => ?_⟩⟩
        have := dlt ad hpa
        rcases (p85f _ hm).1 with e | e
        · exact hdp _ ((g_mem_pb _ _).2 ⟨ad, hpa, rfl⟩) e
        · omega
    · rw [List.map_append, List.map_append, h.same]; rfl
    · intro hm
      rcases (p85f _ hm).1 with e | e
      · exact h.pk e
      · omega
    · intro r hr ad hpa
      rcases List.mem_append.1 hr with hr | hr
      · exact h.rk r hr ad hpa
      · rw [List.mem_singleton] at hr
        subst hr
        exact fun e => hd4 ((g_mem_pb _ _).2 ⟨ad, hpa, e⟩)
    · rw [e1]; exact b103
    · rw [List.length_append, List.map_append]
      refine o93.fr F fun ad hpa hm => ?_
      simp at hm
      rcases (p94f _ ((g_mem_pb _ _).2 ⟨ad, hpa, rfl⟩)).1 with e | e
      · exact h3 (by rw [← hm]; exact e)
      · omega
    · intro hm
      rcases (p94f _ hm).1 with e | e
      · exact h3 e
      · omega
    · intro x hx hm
      have hx' := p85f x hx
      rcases (p94f _ hm).1 with e | e
      · rcases hx'.1 with e2 | e2
        · exact h4 x e2 e
        · have := hbh _ e
          rw [g_mem_pb] at e
          obtain ⟨a2, ha2, e3⟩ := e
          have := (h2.lt ha2).2
          omega
      · omega
    · intro r hr ad hpa hm
      rcases List.mem_append.1 hr with hr | hr
      · have hrr := (hrecs.row r hr).2 ad hpa
        rcases (p94f _ hm).1 with e | e
        · exact h5 r hr ad hpa e
        · omega
      · rw [List.mem_singleton] at hr
        subst hr
        have := dlt ad hpa
        rcases (p94f _ hm).1 with e | e
        · have := hbh _ e
          have := hdh _ ((g_mem_pb _ _).2 ⟨ad, hpa, rfl⟩)
          omega
        · omega
  clear hy100
  have ew : IntKind.wrap .i64 (((endAt first s : Nat) : Int) + IntKind.wrap .i64 (1 + ((secs data.size : Nat) : Int))) = ((endAt first s + 1 + secs data.size : Nat) : Int) := by
    rw [wrapi (n := 1 + ((secs data.size : Nat) : Int)) (by omega) (by omega), wrapi (by omega) (by omega)]; omega
  have ed : ((data.size : Int)).toNat = data.size := by omega
  refine ⟨⟨_, b98.cell 2, fun w109 st109 => (sectors_c w109 (n := (data.size : Int)) (by omega) (by omega)).mono ?_⟩, fun w117 st117 => (sectors_c w117 (n := (data.size : Int)) (by omega) (by omega)).mono ?_⟩
  · rintro e w112 ⟨rfl, rfl⟩
    rw [ed]
    have b112 := b98.fr st109.fr (by simp)
    refine ⟨_, rfl, fun x hx => rfl, fld_store b112 2 (by simp [lcells]) (by simp; omega) fun w115 u115 => ?_⟩
    rw [ew] at u115
    exact tail w115 ((st109.fr.mono fun x hx => by cases hx).trans' u115.fr) u115.blk
  · rintro e w120 ⟨rfl, rfl⟩
    rw [ed]
    have b120 := b98.fr st117.fr (by simp)
    refine ⟨_, rfl, fun x hx => rfl, _, b120.cell 2, fld_store b120 2 (by simp [lcells]) (by simp; omega) fun w124 u124 => ?_⟩
    rw [ew] at u124
    exact tail w124 ((st117.fr.mono fun x hx => by cases hx).trans' u124.fr) u124.blk

end Go.Proofs.Ytcaamecdhbgknaa.Log
