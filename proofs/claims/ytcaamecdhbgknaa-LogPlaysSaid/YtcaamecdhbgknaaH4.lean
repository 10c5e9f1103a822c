/- The reference of the log: reading. -/
import Derived.Test.YtcaamecdhbgknaaH3
namespace Go.Proofs.Ytcaamecdhbgknaa.Log
open Go Go.V
open Go.Proofs.Ytcaamecdhbgknaa.VC
open Go.Proofs.Ytcaamecdhbgknaa.Disk
open Go.Proofs.Try (prog)
set_option linter.unusedVariables false
set_option linter.unusedSimpArgs false
set_option maxRecDepth 20000

/-- Where the reference's reading has come to. -/
structure RReading (w0 w : World) (k1 k2 k3 : Nat) (M : DM) (first behind : Nat) (p : Option Addr) (s : List (Nat × Nat × ByteArray)) : Prop where
  fr : Fr [] w0 w
  b1 : w0.heap.size ≤ k1 ∧ k1 < w.heap.size
  b2 : w0.heap.size ≤ k2 ∧ k2 < w.heap.size
  b3 : w0.heap.size ≤ k3 ∧ k3 < w.heap.size
  row : Row w p (rrcells (s.map fun r => r.2))
  pn : ∀ ad, p = some ad → w0.heap.size ≤ ad.block ∧ ad.block ≠ k1 ∧ ad.block ≠ k2 ∧ ad.block ≠ k3 ∧ ad.block < w.heap.size
  ok : SOk first behind s
  e : rend first (s.map fun r => r.2) = endAt first s
  sz : ∀ r ∈ s, r.2.2.size ≤ 4000
  sc : ∃ fuel, behind ≤ fuel + endAt first s ∧ lscan M first behind = s ++ scan M.now behind fuel (endAt first s) (prevOf s)
theorem RReading.step {w0 w w' : World} {k1 k2 k3 : Nat} {M : DM} {first behind : Nat} {p : Option Addr} {s : List (Nat × Nat × ByteArray)} (h : RReading w0 w k1 k2 k3 M first behind p s) (f : Fr [] w w') : RReading w0 w' k1 k2 k3 M first behind p s := by
  have z := f.size
  have h1 := h.b1
  have h2 := h.b2
  have h3 := h.b3
  exact ⟨h.fr.trans' f, ⟨h1.1, by omega⟩, ⟨h2.1, by omega⟩, ⟨h3.1, by omega⟩, g_row f h.row (fun ad _ _ => by simp), fun ad hp => by have := h.pn ad hp; exact ⟨this.1, this.2.1, this.2.2.1, this.2.2.2.1, by omega⟩, h.ok, h.e, h.sz, h.sc⟩
theorem rrcells_snoc (rs : RR) (q : Nat) (d : ByteArray) : rrcells (rs ++ [(q, d)]) = rrcells rs ++ [I64 (q : Nat), .string d] := by simp [rrcells]
theorem scan_end (now : List ByteArray) (behind fuel a : Nat) (q : Option Nat) (h : behind ≤ a) : scan now behind fuel a q = [] := by
  cases fuel with
  | zero => rfl
  | succ f => unfold scan; rw [if_neg (by omega)]
theorem scan_none (now : List ByteArray) (behind fuel a : Nat) (q : Option Nat) (h : recAt now a behind = none) : scan now behind fuel a q = [] := by
  cases fuel with
  | zero => rfl
  | succ f => unfold scan; rw [h]; simp
theorem scan_break (now : List ByteArray) (behind fuel a : Nat) (q : Option Nat) {seq : Nat} {d : ByteArray} (h : recAt now a behind = some (seq, d)) (hq : ¬ q.getD (seq - 1) + 1 = seq) : scan now behind fuel a q = [] := by
  cases fuel with
  | zero => rfl
  | succ f => unfold scan; rw [h]; simp [hq]
theorem scan_more (now : List ByteArray) (behind fuel a : Nat) (q : Option Nat) {seq : Nat} {d : ByteArray} (h : recAt now a behind = some (seq, d)) (ha : a < behind) (hq : q.getD (seq - 1) + 1 = seq) : scan now behind (fuel + 1) a q = (a, seq, d) :: scan now behind fuel (a + 1 + secs d.size) (some seq) := by
  rw [scan, if_pos ha, h]; simp [hq]

set_option maxHeartbeats 2000000 in
theorem rread_c {w : World} {v : Value} {F : List Nat} {M : DM} (h : RefAt w v F M) {first count : Nat} (hfc : first + count ≤ M.sure.length) :
    Calls prog 72 #[v, I64 (first : Nat), I64 (count : Nat)] w fun e w' => ∃ p c, e = .returned (rlog (first : Nat) (count : Nat) p c ((lscan M first (first + count)).map fun r => r.2) (nextAt (lscan M first (first + count)) : Nat)) ∧ Fr [] w w' ∧
      Row w' p (rrcells ((lscan M first (first + count)).map fun r => r.2)) ∧ (∀ ad, p = some ad → w.heap.size ≤ ad.block ∧ ad.block < w'.heap.size) ∧ SOk first (first + count) (lscan M first (first + count)) ∧ (∀ r ∈ lscan M first (first + count), r.2.2.size ≤ 4000) ∧ rend first ((lscan M first (first + count)).map fun r => r.2) = endAt first (lscan M first (first + count)) := by
  have h0 := h
  obtain ⟨hok, sA, sC, nA, nC, fA, fC, rfl, h1, h2, h3, h4⟩ := h
  have hhi := hok.hi
  have hwfc : IntKind.wrap .i64 ((first : Int) + (count : Int)) = ((first + count : Nat) : Int) := by rw [wrapi (by omega) (by omega)]; simp
  generalize hbh : first + count = behind at *
  refine rhizomeref04_Read.link fun k1 k2 k3 y4 hy4 => ?_
  have fin : ∀ p s c w', RReading w w' k1 k2 k3 M first behind p s → lscan M first behind = s → y4 (first : Nat) (count : Nat) p (s.map fun r => r.2).length c (nextAt s : Nat) w' := fun p s c w' hR hs => hy4 _ _ _ _ _ _ _ fun w12 st => by
    rw [hs]
    have a1 := hR.b2
    exact ⟨p, c, rfl, hR.fr.trans st.fr (fun x hx => .inr (by simp at hx; omega)), g_row st.fr hR.row (fun ad hp _ hm => (hR.pn ad hp).2.2.1 (by simpa using hm)), fun ad hp => by have := hR.pn ad hp; have := st.size; omega, hR.ok, hR.sz, hR.e⟩
  clear hy4
  refine ⟨fun m n21 n22 p23 k24 k25 n26 w' => ∃ s : List (Nat × Nat × ByteArray), n21 = (first : Nat) ∧ n22 = (count : Nat) ∧ k24 = (s.map fun r => r.2).length ∧ n26 = (nextAt s : Nat) ∧ m = behind - endAt first s ∧ RReading w w' k1 k2 k3 M first behind p23 s, behind - first, fun w18 st => ⟨[], rfl, rfl, rfl, rfl, rfl, ?_⟩, ?_⟩
  · have a := g_new3 st
    exact ⟨st.fr, by omega, by omega, by omega, Row.nil _ _, fun ad hp => (by cases hp), SOk.nil (by omega), rfl, fun r hr => (by cases hr), behind - first, by show behind ≤ _ + first; omega, rfl⟩
  rintro m n21 n22 p23 k24 k25 n26 w27 ⟨s, rfl, rfl, rfl, rfl, rfl, hR27⟩
  have hk1 := hR27.b1
  have hk2 := hR27.b2
  have hk3 := hR27.b3
  have hso := hR27.ok
  have so1 := hso.e1
  have so2 := hso.e2
  have so3 := hso.l
  have son1 := hso.n1
  have son2 := hso.n2
  have hre := hR27.e
  have hml : (s.map fun r => r.2).length = s.length := List.length_map ..
  have szs : ∀ r ∈ s.map (fun r => r.2), r.2.size ≤ 4611686018427387904 := fun r hr => by
    obtain ⟨x, hx, rfl⟩ := List.mem_map.1 hr
    have := hR27.sz x hx; omega
  have endc : ∀ w', Fr [] w27 w' → Calls prog 73 #[.agg #[I64 (first : Nat), I64 (count : Nat), .slice p23 (s.map fun r => r.2).length k25, I64 (nextAt s : Nat)]] w' fun e w'' => e = .returned (I64 (endAt first s : Nat)) ∧ Fr [] w' w'' := fun w' f => by
    have := rend_c (first := first) (count := (count : Nat)) (p := p23) (c := k25) (rs := s.map fun r => r.2) (next := (nextAt s : Nat)) (g_row f hR27.row (fun ad _ _ => by simp)) (by rw [hre]; omega) szs (by rw [hml]; omega)
    rw [hre] at this
    exact this
  refine (endc w27 (Fr.refl _ _)).mono ?_
  rintro e w30 ⟨rfl, f30⟩
  have z30 := f30.size
  have hR30 := hR27.step f30
  rw [hwfc]
  refine ⟨_, rfl, g_keep f30 (fun x hx => by simp at hx ⊢; omega), fun hlt => ?_, fun hge => ?_⟩
  rotate_left
  · have hge : ¬ ((endAt first s : Nat) : Int) < _ := of_decide_eq_false hge
    obtain ⟨fuel, _, hs⟩ := hR30.sc
    rw [scan_end _ _ _ _ _ (by omega), List.append_nil] at hs
    exact fin p23 s k25 w30 hR30 hs
  have hlt : ((endAt first s : Nat) : Int) < _ := of_decide_eq_true hlt
  intro y32 hy32
  have go : ∀ o, recAt M.now (endAt first s) behind = o → ∀ (ka : Nat) (w35 : World), Fr [] w30 w35 → w30.heap.size ≤ ka → ka < w35.heap.size → Blk w35 ka (match o with | some (q, d) => [I64 (q : Nat), .string d] | none => [I64 0, .string ⟨#[]⟩]) → y32 ⟨ka, 0, none⟩ o.isSome w35 := by
    intro o ho ka w35 f35 zka hka b35
    refine hy32 _ _ _ fun y36 hy36 => ?_
    clear hy32
    have hR35 := hR30.step f35
    have stop : lscan M first behind = s → y36 true w35 := fun hs => hy36 _ _ (bT rfl (fin p23 s k25 w35 hR35 hs))
    obtain ⟨fuel, hfu, hsc⟩ := hR35.sc
    cases o with
    | none =>
      refine bT rfl (stop ?_)
      rw [scan_none _ _ _ _ _ ho, List.append_nil] at hsc
      exact hsc
    | some qd =>
    obtain ⟨seq, d⟩ := qd
    have b35 : Blk w35 ka [I64 (seq : Nat), .string d] := b35
    rcases recAt_some ho with ⟨hq1, hq2, hd1, hd2⟩ | hx
    rotate_left
    · exact hx.elim
    refine bF rfl ?_
    have cell0 : ∀ w', Fr [k3] w35 w' → World.cell? w' (Addr.add ⟨ka, 0, none⟩ 0) = some (I64 (seq : Nat)) := fun w' f => by
      rw [add_mk, (b35.fr f (by simp; omega)).cell]; rfl
    have cell1 : ∀ w', Fr [k3] w35 w' → World.cell? w' (Addr.add ⟨ka, 0, none⟩ 1) = some (.string d) := fun w' f => by
      rw [add_mk, (b35.fr f (by simp; omega)).cell]; rfl
    have more : (prevOf s).getD (seq - 1) + 1 = seq → y36 false w35 := by
      intro hq
      refine hy36 _ _ (bF rfl fun y39 hy39 => ?_)
      clear hy36 stop
      have z35 := f35.size
      have hf1 : ∃ f, fuel = f + 1 := ⟨fuel - 1, by omega⟩
      obtain ⟨fu, rfl⟩ := hf1
      rw [scan_more _ _ _ _ _ ho (by omega) hq] at hsc
      have hpv : prevOf (s ++ [(endAt first s, seq, d)]) = some seq := prevOf_snoc _ _
      have nextR : ∀ (w65 w69 : World) (p66 : Option Addr) (c68 : Nat), Fr [] w35 w65 → OwnZ w65 w35.heap.size 2 p66 (0 + (s.map fun r => r.2).length + 1) c68 (rrcells (s.map fun r => r.2) ++ [I64 (seq : Nat), .string d]) → Step w65 w69 [k3] [] →
          y39 (first : Nat) (count : Nat) p66 (0 + (s.map fun r => r.2).length + 1) c68 (nextAt s : Nat) w69 := by
        intro w65 w69 p66 c68 f65 o66 st
        have f69 : Fr [k3] w35 w69 := (f65.mono (fun x hx => by cases hx)).trans st.fr (fun x hx => .inl hx)
        refine hy39 _ _ _ _ _ _ _ ⟨_, cell0 w69 f69, behind - endAt first (s ++ [(endAt first s, seq, d)]), ?_, fun w49 st2 => ⟨s ++ [(endAt first s, seq, d)], rfl, rfl, ?_, ?_, rfl, ?_⟩⟩
        · rw [endAt_snoc]; show behind - (endAt first s + 1 + secs d.size) < _; omega
        · simp
        · rw [nextAt_snoc, wrapi (by omega) (by omega)]; simp
        · have f49 : Fr [k3] w35 w49 := f69.trans st2.fr (fun x hx => .inl hx)
          have z49 := f49.size
          have row49 : Row w49 p66 (rrcells (s.map (fun r => r.2)) ++ [I64 (seq : Nat), .string d]) := by
            refine g_row st2.fr (g_row st.fr o66.row ?_) ?_
            · intro ad hp _ hm
              have := (o66.lt hp).1
              simp at hm; omega
            · intro ad hp _ hm
              have := (o66.lt hp).1
              simp at hm; omega
          refine ⟨hR35.fr.trans f49 (fun x hx => .inr (by simp at hx; omega)), ⟨hk1.1, by omega⟩, ⟨hk2.1, by omega⟩, ⟨hk3.1, by omega⟩, ?_, fun ad hp => ?_, hso.snoc ho, ?_, fun r hr => ?_, fu, ?_, ?_⟩
          · rw [List.map_append]
            show Row w49 p66 (rrcells (_ ++ [(seq, d)]))
            rw [rrcells_snoc]; exact row49
          · have := o66.lt hp
            have := st.size
            have := st2.size
            omega
          · rw [List.map_append]
            show rend first (_ ++ [(seq, d)]) = _
            rw [rend_snoc, endAt_snoc, hre]
          · rcases List.mem_append.1 hr with hr | hr
            · exact hR27.sz r hr
            · rw [List.mem_singleton] at hr; subst hr; exact hd1
          · rw [endAt_snoc]; show behind ≤ fu + (endAt first s + 1 + secs d.size); omega
          · rw [hpv, endAt_snoc, hsc]; simp
      clear hy39
      have app1 : ∀ (privs : List Nat) (k53 : Nat) (w54 : World) (K : World → Option Addr → Nat → Nat → Prop), Fr [] w35 w54 → w35.heap.size ≤ k53 → k53 ∉ privs → Blk w54 k53 (reps [I64 0, .string ⟨#[]⟩] 0) →
          (∀ w58 p59 c61, Fr [] w35 w58 → OwnZ w58 w35.heap.size 2 p59 (0 + (s.map fun r => r.2).length) c61 (rrcells (s.map fun r => r.2)) → (∀ ad, p59 = some ad → ad.block = k53 ∨ w54.heap.size ≤ ad.block) → K w58 p59 (0 + (s.map fun r => r.2).length) c61) →
          ∃ l57 : List Value, l57.length = (s.map fun r => r.2).length * 2 ∧ Row w54 p23 l57 ∧ appendP true [] [] privs w54 (some ⟨k53, 0, none⟩) 0 0 (s.map fun r => r.2).length l57 2 24 [I64 0, .string ⟨#[]⟩] K := by
        intro privs k53 w54 K f54 zk hkp bk hK
        have z54 := f54.size
        refine ⟨_, rrcells_len _, g_row f54 hR35.row (fun ad _ _ => by simp), append_z (B := w35.heap.size) (OwnZ.blk (n := 0) bk rfl (fun u hu => by cases hu) zk) (rrcells_len _) (rrcells_one _) z54 rfl (fun _ => rfl) (fun ad _ => by simp) (fun ad hp hm => ?_) (by rw [hml]; omega) (by rw [hml]; omega) fun w58 p59 c61 f58 n58 o58 d58 => hK w58 p59 c61 ?_ ?_ ?_⟩
        · injection hp with hp; subst hp; exact absurd hm hkp
        · exact f54.trans f58 (fun x hx => .inr (by simp [pb] at hx; omega))
        · simpa [reps] using o58
        · intro ad hp
          rcases d58 ad hp with e | e
          · injection e with e; subst e; exact .inl rfl
          · exact .inr e.1
      have app2 : ∀ (cl : Bool) (news privs : List Nat) (w58 : World) (p59 : Option Addr) (c61 : Nat) (K : World → Option Addr → Nat → Nat → Prop), Fr [] w35 w58 → OwnZ w58 w35.heap.size 2 p59 (0 + (s.map fun r => r.2).length) c61 (rrcells (s.map fun r => r.2)) → (cl = true → news = []) → (∀ ad, p59 = some ad → ad.block ∈ privs → ad.block ∈ news) →
          (∀ w65 p66 c68, Fr [] w35 w65 → OwnZ w65 w35.heap.size 2 p66 (0 + (s.map fun r => r.2).length + 1) c68 (rrcells (s.map fun r => r.2) ++ [I64 (seq : Nat), .string d]) → K w65 p66 (0 + (s.map fun r => r.2).length + 1) c68) →
          appendP cl [] news privs w58 p59 (0 + (s.map fun r => r.2).length) c61 1 (spl (reps [I64 0, .string ⟨#[]⟩] 1) 0 [I64 (seq : Nat), .string d]) 2 24 [I64 0, .string ⟨#[]⟩] K := by
        intro cl news privs w58 p59 c61 K f58 o58 hcl hpr hK
        have z58 := f58.size
        refine append_z (xs := [I64 (seq : Nat), .string d]) o58 rfl (fun u hu => by simp at hu; rcases hu with rfl | rfl <;> rfl) z58 rfl hcl (fun ad _ => by simp) hpr (by rw [hml]; omega) (by rw [hml]; omega) fun w65 p66 c68 f65 n65 o65 d65 => hK w65 p66 c68 ?_ o65
        refine f58.trans f65 (fun x hx => .inr ?_)
        rw [List.nil_append, g_mem_pb] at hx
        obtain ⟨ad, ha, rfl⟩ := hx
        exact (o58.lt ha).1
      have priv3 : ∀ x ∈ [k1, k2, k3], x < w35.heap.size := fun x hx => by simp at hx; omega
      have hA : ∀ (k53 : Nat) (w54 : World), Step w35 w54 [] [k53] → Blk w54 k53 (reps [I64 0, .string ⟨#[]⟩] 0) → ∃ l57 : List Value, l57.length = (s.map fun r => r.2).length * 2 ∧ Row w54 p23 l57 ∧ appendP true [] [] [k1, k2, k3] w54 (some ⟨k53, 0, none⟩) 0 0 (s.map fun r => r.2).length l57 2 24 [I64 0, .string ⟨#[]⟩] fun w58 p59 k60 k61 =>
          ∃ (n62 : Int) (s63 : ByteArray), (World.cell? w58 (Addr.add ⟨ka, 0, none⟩ 0) = some (I64 n62) ∧ World.cell? w58 (Addr.add ⟨ka, 0, none⟩ 1) = some (.string s63) ∧ True) ∧ ∀ k64, appendP false [] [k64] [k1, k2, k3, k64] w58 p59 k60 k61 1 (spl (reps [I64 0, .string ⟨#[]⟩] 1) 0 [I64 n62, .string s63]) 2 24 [I64 0, .string ⟨#[]⟩] fun w65 p66 k67 k68 =>
            ∀ w69, Step w65 w69 [k3] [] → y39 (first : Nat) (count : Nat) p66 k67 k68 (nextAt s : Nat) w69 := by
        intro k53 w54 st bk
        have a := g_new1 st
        refine app1 _ k53 w54 _ st.fr a.1 (fun hm => by have := priv3 _ hm; omega) bk fun w58 p59 c61 f58 o58 d58 => ⟨_, _, ⟨cell0 w58 (f58.mono (fun x hx => by cases hx)), cell1 w58 (f58.mono (fun x hx => by cases hx)), trivial⟩, fun k64 => app2 _ _ _ w58 p59 c61 _ f58 o58 (fun h => by cases h) (fun ad hp hm => ?_) fun w65 p66 c68 f65 o65 w69 st2 => nextR w65 w69 p66 c68 f65 o65 st2⟩
        have := (o58.lt hp).1
        simp at hm ⊢; omega
      have hB : ∀ (k53 : Nat) (w54 : World), Step w35 w54 [] [k53] → Blk w54 k53 (reps [I64 0, .string ⟨#[]⟩] 0) → ∃ l57 : List Value, l57.length = (s.map fun r => r.2).length * 2 ∧ Row w54 p23 l57 ∧ appendP true [] [] [k1, k2, k3] w54 (some ⟨k53, 0, none⟩) 0 0 (s.map fun r => r.2).length l57 2 24 [I64 0, .string ⟨#[]⟩] fun w58 p59 k60 k61 =>
          ∀ k64, appendP false [] [k64] [k1, k2, k3, k64] w58 p59 k60 k61 1 (spl (reps [I64 0, .string ⟨#[]⟩] 1) 0 [I64 (seq : Nat), .string d]) 2 24 [I64 0, .string ⟨#[]⟩] fun w65 p66 k67 k68 =>
            ∀ w69, Step w65 w69 [k3] [] → y39 (first : Nat) (count : Nat) p66 k67 k68 (nextAt s : Nat) w69 := by
        intro k53 w54 st bk
        have a := g_new1 st
        refine app1 _ k53 w54 _ st.fr a.1 (fun hm => by have := priv3 _ hm; omega) bk fun w58 p59 c61 f58 o58 d58 k64 => app2 _ _ _ w58 p59 c61 _ f58 o58 (fun h => by cases h) (fun ad hp hm => ?_) fun w65 p66 c68 f65 o65 w69 st2 => nextR w65 w69 p66 c68 f65 o65 st2
        have := (o58.lt hp).1
        simp at hm ⊢; omega
      have core : ∀ (kr kp : Nat) (w54 : World), Fr [] w35 w54 → w35.heap.size ≤ kr → w35.heap.size ≤ kp → kp < w54.heap.size → kr ≠ kp → Blk w54 kr (reps [I64 0, .string ⟨#[]⟩] 0) → ∃ l57 : List Value, l57.length = (s.map fun r => r.2).length * 2 ∧ Row w54 p23 l57 ∧ appendP true [] [] [k1, k2, k3, kp] w54 (some ⟨kr, 0, none⟩) 0 0 (s.map fun r => r.2).length l57 2 24 [I64 0, .string ⟨#[]⟩] fun w58 p59 k60 k61 =>
          appendP true [] [] [k1, k2, k3, kp] w58 p59 k60 k61 1 (spl (reps [I64 0, .string ⟨#[]⟩] 1) 0 [I64 (seq : Nat), .string d]) 2 24 [I64 0, .string ⟨#[]⟩] fun w65 p66 k67 k68 =>
            ∀ w69, Step w65 w69 [k3] [] → y39 (first : Nat) (count : Nat) p66 k67 k68 (nextAt s : Nat) w69 := by
        intro kr kp w54 f54 zr zp zp' hne bk
        refine app1 _ kr w54 _ f54 zr (fun hm => by simp at hm; omega) bk fun w58 p59 c61 f58 o58 d58 => app2 _ _ _ w58 p59 c61 _ f58 o58 (fun h => rfl) (fun ad hp hm => ?_) fun w65 p66 c68 f65 o65 w69 st2 => nextR w65 w69 p66 c68 f65 o65 st2
        have := (o58.lt hp).1
        have := d58 ad hp
        simp at hm; omega
      have hC1 : ∀ (kr kp : Nat) (w54 : World), Step w35 w54 [] [kp, kr] → Blk w54 kr (reps [I64 0, .string ⟨#[]⟩] 0) → _ := fun kr kp w54 st bk => by
        have a := g_new2 st
        exact core kr kp w54 st.fr (by omega) (by omega) (by omega) (by omega) bk
      have hC2 : ∀ (kp kr : Nat) (w54 : World), Step w35 w54 [] [kr, kp] → Blk w54 kr (reps [I64 0, .string ⟨#[]⟩] 0) → _ := fun kp kr w54 st bk => by
        have a := g_new2 st
        exact core kr kp w54 st.fr (by omega) (by omega) (by omega) (by omega) bk
      clear nextR app1 app2 core
      have c0 := cell0 w35 (Fr.refl _ _)
      have c1 := cell1 w35 (Fr.refl _ _)
      clear cell0 cell1
      repeat' first
        | exact hA _
        | exact hB _
        | exact hC1 _
        | exact hC2 _
        | exact hC2
        | exact hA
        | exact hB
        | refine ⟨_, _, ⟨c0, c1, trivial⟩, ?_⟩
        | refine ⟨?_, ?_⟩
        | intro k
    refine ⟨fun hpos => ⟨_, cell0 w35 (Fr.refl _ _), ?_⟩, fun hz => more ?_⟩
    · have hpos : (0 : Int) < (((s.map fun r => r.2).length : Nat) : Int) := of_decide_eq_true hpos
      have hne : ¬ s = [] := fun hs => by subst hs; simp at hpos
      have hp : prevOf s = some (nextAt s - 1) := by unfold prevOf; rw [if_neg hne]
      by_cases hq : seq = nextAt s
      · have : (!decide (((seq : Nat) : Int) = ((nextAt s : Nat) : Int))) = false := by simp; omega
        rw [this]
        exact more (by rw [hp]; show nextAt s - 1 + 1 = seq; omega)
      · have : (!decide (((seq : Nat) : Int) = ((nextAt s : Nat) : Int))) = true := by simp; omega
        rw [this]
        refine stop ?_
        rw [scan_break _ _ _ _ _ ho (by rw [hp]; show ¬ nextAt s - 1 + 1 = seq; omega), List.append_nil] at hsc
        exact hsc
    · have hz : ¬ (0 : Int) < (((s.map fun r => r.2).length : Nat) : Int) := of_decide_eq_false hz
      have : s = [] := List.length_eq_zero_iff.1 (by rw [hml] at hz; omega)
      subst this
      show (seq - 1) + 1 = seq
      omega
  clear hy32
  have rec2 : ∀ w383, Fr [] w30 w383 → Calls prog 87 #[.agg #[.slice sA M.sure.length sC, .slice nA M.sure.length nC, .slice fA M.sure.length fC, I64 M.steps, I64 M.left], I64 (endAt first s : Nat), I64 (behind : Nat)] w383 fun e w' => Fr [] w383 w' ∧ ∃ (n : Int) (t : ByteArray) (b : Bool), e = .returned (.tuple #[.agg #[I64 n, .string t], .bool b]) ∧
      ∀ (ka : Nat) (w'' : World), Fr [] w30 w'' → w30.heap.size ≤ ka → ka < w''.heap.size → Blk w'' ka [I64 n, .string t] → y32 ⟨ka, 0, none⟩ b w'' := fun w383 f383 => by
    refine (rrecord_c (h0.fr (hR30.fr.trans' f383) (by simp)) (a := endAt first s) (behind := behind) (by omega) hfc).mono ?_
    rintro e w' ⟨f, rfl⟩
    refine ⟨f, ?_⟩
    cases ho : recAt M.now (endAt first s) behind with
    | none => exact ⟨_, _, _, rfl, fun ka w'' f z z' b => go _ ho ka w'' f z z' b⟩
    | some qd => exact ⟨_, _, _, rfl, fun ka w'' f z z' b => go _ ho ka w'' f z z' b⟩
  clear go
  refine ⟨fun w380 st380 => (endc w380 (f30.trans' st380.fr)).mono ?_, fun k405 w406 st406 => (endc w406 (f30.trans' st406.fr)).mono ?_⟩
  · rintro e w383 ⟨rfl, f383⟩
    have z380 := st380.size
    have z383 := f383.size
    refine ⟨_, rfl, g_keep f383 (fun x hx => by simp at hx ⊢; omega), (rec2 w383 (st380.fr.trans' f383)).mono ?_, fun k394 w395 st395 => (rec2 w395 ((st380.fr.trans' f383).trans' st395.fr)).mono ?_⟩
    · rintro e w386 ⟨f386, n, t, b, rfl, hg⟩
      have z386 := f386.size
      refine ⟨_, _, _, rfl, g_keep f386 (fun x hx => by simp at hx ⊢; omega), fun k390 w391 st391 b391 => hg k390 w391 (((st380.fr.trans' f383).trans' f386).trans' st391.fr) ?_ ?_ b391⟩
      · have := g_new1 st391; omega
      · exact (g_new1 st391).2
    · rintro e w398 ⟨f398, n, t, b, rfl, hg⟩
      have a := g_new1 st395
      have z398 := f398.size
      refine ⟨_, _, _, rfl, g_keep f398 (fun x hx => by simp at hx ⊢; omega), fun w402 st402 b402 => hg k394 w402 ((((st380.fr.trans' f383).trans' st395.fr).trans' f398).trans st402.fr (fun x hx => .inr (by simp at hx; omega))) (by omega) (by have := st402.size; omega) b402⟩
  · rintro e w409 ⟨rfl, f409⟩
    have a := g_new1 st406
    have z409 := f409.size
    refine ⟨_, rfl, g_keep f409 (fun x hx => by simp at hx ⊢; omega), (rec2 w409 (st406.fr.trans' f409)).mono ?_⟩
    rintro e w412 ⟨f412, n, t, b, rfl, hg⟩
    have z412 := f412.size
    refine ⟨_, _, _, rfl, g_keep f412 (fun x hx => by simp at hx ⊢; omega), fun w416 st416 b416 => hg k405 w416 (((st406.fr.trans' f409).trans' f412).trans st416.fr (fun x hx => .inr (by simp at hx; omega))) (by omega) (by have := st416.size; omega) b416⟩

end Go.Proofs.Ytcaamecdhbgknaa.Log
