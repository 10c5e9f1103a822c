/- What is to be shown of a function's text: the rule. -/
import Derived.Test.YtcaamecdhbgknaaV16
namespace Go.V
open Go.RowKit
set_option linter.unusedVariables false
set_option linter.unusedSimpArgs false

/-- Where ways meet, and where a round begins: which slots and which private blocks are handed on; which blocks become known before; which stay as they are. -/
structure Cut where
  ends : List Nat
  pubs : List Nat
  keep : List Nat
  slots : List (Nat × Sh)
  hps : List (Nat × List Lf)
inductive Ann where
  | n
  | s (a b : Ann)
  | j (c : Cut) (a b : Ann)
  | c (a b : Ann)
  | b (a : Ann)
  | l (c : Cut) (a : Ann)
  | d (stab : List Nat)

def Cut.shs (c : Cut) : List Sh := c.slots.map (·.2) ++ c.hps.flatMap fun h => h.2.map Sh.l
def St.cellsOf (s : St) (k n : Nat) : List AV := match s.hp.getD k none with
  | some pb => match Nat.beq pb.cs.length n with
    | true => pb.cs.map AV.v
    | false => [.no]
  | none => [.no]
def Cut.avs (c : Cut) (s : St) : List AV := c.slots.map (fun p => s.get p.1) ++ c.hps.flatMap fun h => s.cellsOf h.1 h.2.length

/-- Truth values that were parted on are as good as others. -/
def dropRef (live : List Nat) : AV → AV
  | .r k off => bif live.any (Nat.beq k) then .r k off else .no
  | .q k n => bif live.any (Nat.beq k) then .q k n else .no
  | x => x
def setAll (env : List AV) : List (Nat × Sh) → List AV → List AV
  | (t, _) :: ss, x :: xs => setAll (env.set t x) ss xs
  | _, _ => env
def vals1 : List AV → List Value
  | [] => []
  | .v x :: l => x :: vals1 l
  | _ :: l => undef :: vals1 l
def setHps (hp : List (Option PB)) : List (Nat × List Lf) → List AV → List (Option PB)
  | (k, ls) :: hs, xs => match hp.getD k none with
    | some pb => setHps (hp.set k (some ⟨pb.b, pb.ver + 1, vals1 (xs.take ls.length)⟩)) hs (xs.drop ls.length)
    | none => setHps hp hs (xs.drop ls.length)
  | [], _ => hp
def dropHps (live : List Nat) : Nat → List (Option PB) → List (Option PB)
  | _, [] => []
  | i, x :: l => (bif live.any (Nat.beq i) then x else none) :: dropHps live (i + 1) l
def inWs (i : Nat) : List (Option Nat) → Bool
  | [] => false
  | some d :: l => Nat.beq d i || inWs i l
  | none :: l => inWs i l
def forget (ws : List (Option Nat)) : Nat → List AV → List AV
  | _, [] => []
  | i, x :: l => (bif inWs i ws then .no else x) :: forget ws (i + 1) l
/-- The state behind a meeting. -/
def Cut.st (c : Cut) (s : St) (ws : List (Option Nat)) (avs : List AV) : St :=
  let live := c.keep ++ c.hps.map (·.1)
  { env := setAll ((forget ws 0 s.env).map (dropRef live)) c.slots (avs.take c.slots.length), hp := setHps (dropHps live 0 s.hp) c.hps (avs.drop c.slots.length), mods := [], news := [], clean := true, its := s.its }

def writes : Code → List (Option Nat)
  | .region _ ops _ => ops.toList.map (·.dst)
  | .seq a b => writes a ++ writes b
  | .cond _ a b => writes a ++ writes b
  | .block _ a => writes a
  | .loop a => writes a
  | .scope a => writes a
  | _ => []

def pubAll (s : St) (v : World) : List Nat → (St → World → Prop) → Prop
  | [], K => K s v
  | k :: ks, K => pub s v k fun s v _ => pubAll s v ks K

/-- A relation holds at a state. -/
def atS (c : Cut) (J : FnS c.shs (World → Prop)) (sb s : St) (v : World) : Prop :=
  pubSlots s v c.ends fun s v => sync s v fun s v => match stabOk sb s c.keep with
    | true => match appS c.shs J (c.avs s) with
      | some g => g v
      | none => False
    | false => False

def St.know (s : St) (c : Operand) (b : Bool) : St :=
  match c with
  | .tmp t => s.put (some t) (.t b)
  | _ => s

def vc (P : Program) (qp : Option (List PanicEntry → World → Prop)) : Code → Ann → (Exit → St → World → Prop) → St → World → Prop
  | .skip, _, Q, s, v => Q .normal s v
  | .label _, _, Q, s, v => Q .normal s v
  | .exit id, _, Q, s, v => Q (.exit id) s v
  | .ret, _, Q, s, v => Q .ret s v
  | .region _ ops false, _, Q, s, v => vcOps P qp ops.toList ops.toList s v (Q .normal)
  | .region _ ops true, ann, Q, s, v => match Region.noSelect ops with
    | true => vcD P qp ops.toList s (match ann with
      | .d stab => stab
      | _ => []) (3 * ops.toList.length + 3) (List.replicate ops.toList.length false) { s with clean := false } v (Q .normal)
    | false => False
  | .seq x y, ann, Q, s, v => match ann with
    | .j c a b => pubAll s v c.pubs fun s v => ∀ J : FnS c.shs (World → Prop), allFS c.shs J (fun avs g => ∀ w, vc P qp y b Q (c.st s (writes x) avs) w → g w) →
        vc P qp x a (fun e s' v' => match e with
          | .normal => atS c J s s' v'
          | e => Q e s' v') s v
    | .s a b => vc P qp x a (fun e s' v' => match e with
      | .normal => vc P qp y b Q s' v'
      | e => Q e s' v') s v
    | _ => vc P qp x .n (fun e s' v' => match e with
      | .normal => vc P qp y .n Q s' v'
      | e => Q e s' v') s v
  | .cond c x y, ann, Q, s, v =>
    let a := match ann with
      | .c a _ => a
      | _ => .n
    let b := match ann with
      | .c _ b => b
      | _ => .n
    match s.evc c with
    | .t true => vc P qp x a Q s v
    | .t false => vc P qp y b Q s v
    | .v (.bool t) => bcase t (vc P qp x a Q (s.know c true) v) (vc P qp y b Q (s.know c false) v)
    | _ => False
  | .block id x, ann, Q, s, v => vc P qp x (match ann with
    | .b a => a
    | _ => .n) (fun e s' v' => match e with
      | .exit id' => match Nat.beq id' id with
        | true => Q .normal s' v'
        | false => Q (.exit id') s' v'
      | e => Q e s' v') s v
  | .loop x, ann, Q, s, v => match ann with
    | .l c a => pubAll s v c.pubs fun s v => ∃ (I : Nat → FnS c.shs (World → Prop)) (n : Nat), atS c (I n) s s v ∧
        ∀ n : Nat, allFS c.shs (I n) fun avs g => ∀ w, g w → vc P qp x a (fun e s' v' => match e with
          | .normal => ∃ n', n' < n ∧ atS c (I n') s s' v'
          | e => Q e s' v') (c.st s (writes x) avs) w
    | _ => False
  | _, _, _, _, _ => False

end Go.V
