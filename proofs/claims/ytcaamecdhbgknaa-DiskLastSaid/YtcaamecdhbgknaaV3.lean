/- The operations that only reckon with what the frame holds: their values, and what must hold for them. -/
import Derived.Test.YtcaamecdhbgknaaV2
namespace Go.V
open Go.RowKit
set_option linter.unusedVariables false
set_option linter.unusedSimpArgs false

def St.val (s : St) (o : Operand) : Option Value :=
  match s.ev o with
  | .v x => some x
  | .a ad => some (.pointer (some ad))
  | _ => none
theorem val_sound {s : St} {v : World} {a : Act} {w : World} {o : Operand} {x : Value} (h : s.val o = some x) (hr : Rel s v a w) : a.eval o = x := by
  have he := hr.ev o
  unfold St.val at h
  split at h
  · rename_i y e; rw [e] at he; injection h with h; subst h; exact he
  · rename_i y e; rw [e] at he; injection h with h; subst h; exact he
  · cases h
def St.vals (s : St) : List Operand → Option (List Value)
  | [] => some []
  | o :: os => match s.val o with
    | some x => match s.vals os with
      | some xs => some (x :: xs)
      | none => none
    | none => none
theorem vals_sound {s : St} {v : World} {a : Act} {w : World} {os : List Operand} : ∀ {xs : List Value}, s.vals os = some xs → Rel s v a w → os.map a.eval = xs := by
  induction os with
  | nil => intro xs h _; simp [St.vals] at h; simp [h]
  | cons o os ih =>
    intro xs h hr
    simp only [St.vals] at h
    cases e1 : s.val o with
    | none => rw [e1] at h; cases h
    | some x =>
      rw [e1] at h
      cases e2 : s.vals os with
      | none => rw [e2] at h; cases h
      | some ys => rw [e2] at h; injection h with h; subst h; simp [val_sound e1 hr, ih e2 hr]

def sizeOfN (P : Program) (t : TypeId) : Option Nat := match P.info? t with
  | some i => some i.size
  | none => none
theorem run_sizeN {P : Program} {t : TypeId} {n : Nat} (h : sizeOfN P t = some n) (w : World) : (sizeOf t).run P w = .ok n w := by
  unfold sizeOfN at h
  cases hi : P.info? t with
  | none => rw [hi] at h; cases h
  | some i => rw [hi] at h; injection h with h; simp [sizeOf, typeInfo, hi, h]

def pickAV (t : Bool) : AV → AV → AV
  | .v (.bool p), .v (.bool q) => .v (.bool (bif t then p else q))
  | .v (.int k p), .v (.int k' q) => if k = k' then .v (.int k (bif t then p else q)) else .no
  | .v (.string p), .v (.string q) => .v (.string (bif t then p else q))
  | x, y => match t with
    | true => x
    | false => y
theorem pickAV_ok {s : St} {t : Bool} {x y : AV} {xv yv : Value} (hx : AVok s x xv) (hy : AVok s y yv) : AVok s (pickAV t x y) (if t then xv else yv) := by
  unfold pickAV
  split
  · cases t
    · simpa using hy
    · simpa using hx
  · split
    · rename_i e; subst e
      cases t
      · simpa using hy
      · simpa using hx
    · trivial
  · cases t
    · simpa using hy
    · simpa using hx
  · cases t
    · simpa using hy
    · simpa using hx

def fieldOff (P : Program) (t : TypeId) (f : Nat) : Option Nat :=
  match P.underlying t with
  | some (.struct fs) => match fs[f]? with
    | some fl => match sizeOfN P fl.type with
      | some (_ + 1) => some fl.offset
      | _ => none
    | none => none
  | _ => none
theorem run_fieldAt {P : Program} {t : TypeId} {f off : Nat} (h : fieldOff P t f = some off) (ad : Addr) (w : World) :
    (Instr.fieldAt t (.pointer (some ad)) f).run P w = .ok (.pointer (some (ad.add off))) w := by
  unfold fieldOff at h
  cases hu : P.underlying t with
  | none => rw [hu] at h; simp at h
  | some d =>
    rw [hu] at h
    cases d <;> simp only [reduceCtorEq] at h
    case struct fs =>
      cases hf : fs[f]? with
      | none => rw [hf] at h; cases h
      | some fl =>
        rw [hf] at h
        simp only at h
        cases hz : sizeOfN P fl.type with
        | none => rw [hz] at h; cases h
        | some n =>
          rw [hz] at h
          cases n with
          | zero => simp at h
          | succ n =>
            simp at h; subst h
            simp [Instr.fieldAt, run_underlying hu, hf, Instr.sureAddr, fieldPlace, run_sizeN hz]

def intBin (op : BinOp) (k : IntKind) (p q : Int) (K : Value → Prop) : Option Prop :=
  match op with
  | .add => some (K (.int k (k.wrap (p + q))))
  | .sub => some (K (.int k (k.wrap (p - q))))
  | .mul => some (K (.int k (k.wrap (p * q))))
  | .quo => some (q ≠ 0 ∧ K (.int k (k.wrap (p.tdiv q))))
  | .rem => some (q ≠ 0 ∧ K (.int k (p.tmod q)))
  | .and => some (K (.int k (bits .and k p q)))
  | .or => some (K (.int k (bits .or k p q)))
  | .xor => some (K (.int k (bits .xor k p q)))
  | .andNot => some (K (.int k (bits .andNot k p q)))
  | .eql => some (K (.bool (decide (p = q))))
  | .neq => some (K (.bool (!decide (p = q))))
  | .lss => some (K (.bool (decide (p < q))))
  | .leq => some (K (.bool (decide (p ≤ q))))
  | .gtr => some (K (.bool (decide (q < p))))
  | .geq => some (K (.bool (decide (q ≤ p))))
  | _ => none
def strBin (op : BinOp) (p q : ByteArray) (K : Value → Prop) : Option Prop :=
  match op with
  | .add => some ((p.size + q.size ≤ 9223372036854775807) ∧ K (.string (p ++ q)))
  | .eql => some (K (.bool (decide (p = q))))
  | .neq => some (K (.bool (!decide (p = q))))
  | .lss => some (K (.bool (Op.bytesLess p.data.toList q.data.toList)))
  | .leq => some (K (.bool (Op.bytesLess p.data.toList q.data.toList || decide (p = q))))
  | .gtr => some (K (.bool (!(Op.bytesLess p.data.toList q.data.toList || decide (p = q)))))
  | .geq => some (K (.bool (!Op.bytesLess p.data.toList q.data.toList)))
  | _ => none
/-- Equality of what is neither a number nor a text. -/
def eqAV (d : TypeDesc) (x y : AV) : Option Bool :=
  match d with
  | .bool => match x, y with
    | .v (.bool p), .v (.bool q) => some (p == q)
    | _, _ => none
  | .pointer _ => match y with
    | .v (.pointer none) => match x with
      | .v (.pointer p) => some p.isNone
      | .a _ => some false
      | .r _ _ => some false
      | _ => none
    | _ => none
  | .slice _ => match y with
    | .v (.slice none _ _) => match x with
      | .v (.slice p _ _) => some p.isNone
      | .q _ _ => some false
      | _ => none
    | _ => none
  | .map _ _ => match y with
    | .v (.map none) => match x with
      | .v (.map p) => some p.isNone
      | _ => none
    | _ => none
  | _ => none
def binR (P : Program) (op : BinOp) (t : TypeId) (x y : AV) (K : AV → Prop) : Option Prop :=
  match op with
  | .shl => match x, y with
    | .v (.int k p), .v (.int _ q) => some (0 ≤ q ∧ K (.v (.int k (k.wrap (p * 2 ^ (min q.toNat k.bits))))))
    | _, _ => none
  | .shr => match x, y with
    | .v (.int k p), .v (.int _ q) => some (0 ≤ q ∧ K (.v (.int k (p.fdiv (2 ^ (min q.toNat k.bits))))))
    | _, _ => none
  | op => match x, y with
    | .v (.int k p), .v (.int k' q) => if k = k' then intBin op k p q fun z => K (.v z) else none
    | .v (.string p), .v (.string q) => strBin op p q fun z => K (.v z)
    | x, y => match P.underlying t with
      | some d => match eqAV d x y with
        | some b => match op with
          | .eql => some (K (.v (.bool b)))
          | .neq => some (K (.v (.bool !b)))
          | _ => none
        | none => none
      | none => none

def unR (op : UnOp) (x : AV) (K : AV → Prop) : Option Prop :=
  match op, x with
  | .not, .v (.bool b) => some (K (.v (.bool !b)))
  | .neg, .v (.int k n) => some (K (.v (.int k (k.wrap (0 - n)))))
  | .plus, _ => none
  | _, _ => none

def convR (P : Program) (src dst : TypeId) (x : AV) (K : AV → Prop) : Option Prop :=
  match P.underlying src, P.underlying dst, x with
  | some _, some (.int k), .v (.int _ n) => some (K (.v (.int k (k.wrap n))))
  | some _, some .string, .v (.string s) => some (K (.v (.string s)))
  | _, _, _ => none

def byteAt (s : ByteArray) (n : Int) : Int := (s.data.toList.getD n.toNat 0).toNat

/-- An address behind l elements of size z; where nothing is left behind it, it stays. -/
def subA (a : Option Addr) (l m z : Nat) : Option Addr := if m = l then a else a.map (·.add (l * z))

def optInt (s : St) (d : Int) : Option Operand → Option Int
  | none => some d
  | some o => match s.val o with
    | some (.int _ n) => some n
    | _ => none

def sliceR (P : Program) (s : St) (t : TypeId) (x : Operand) (lo hi mx : Option Operand) (K : AV → Prop) : Option Prop :=
  match P.underlying t with
  | some .string => match s.val x, mx with
    | some (.string b), none => match optInt s 0 lo, optInt s b.size hi with
      | some l, some h => some ((0 ≤ l ∧ l ≤ h ∧ h ≤ b.size) ∧ K (.v (.string (b.extract l.toNat h.toNat))))
      | _, _ => none
    | _, _ => none
  | some (.slice e) => match s.val x, sizeOfN P e with
    | some (.slice a n c), some z => match mx with
      | none => match optInt s 0 lo, optInt s n hi with
        | some l, some h => some ((0 ≤ l ∧ l ≤ h ∧ h ≤ c) ∧ K (.v (.slice (subA a l.toNat c z) (h.toNat - l.toNat) (c - l.toNat))))
        | _, _ => none
      | some _ => match optInt s 0 lo, hi, optInt s n hi, optInt s c mx with
        | some l, some _, some h, some m => some ((0 ≤ l ∧ l ≤ h ∧ h ≤ m ∧ m ≤ c) ∧ K (.v (.slice (subA a l.toNat m.toNat z) (h.toNat - l.toNat) (m.toNat - l.toNat))))
        | _, _, _, _ => none
    | _, _ => none
  | some (.array n e) => match s.ev x, sizeOfN P e, mx with
    | .a ad, some z, none => match optInt s 0 lo, optInt s n hi with
      | some l, some h => some ((0 ≤ l ∧ l ≤ h ∧ h ≤ n) ∧ K (.v (.slice (subA (some ad) l.toNat n z) (h.toNat - l.toNat) (n - l.toNat))))
      | _, _ => none
    | _, _, _ => none
  | _ => none

def indexAddrR (P : Program) (s : St) (t : TypeId) (x i : Operand) (K : AV → Prop) : Option Prop :=
  match P.underlying t with
  | some (.slice e) => match s.val x, s.val i, sizeOfN P e with
    | some (.slice a l _), some (.int _ n), some z => some (∃ ad, a = some ad ∧ (0 ≤ n ∧ n < l) ∧ K (.a (ad.add (n.toNat * z))))
    | _, _, _ => none
  | some (.array len e) => match s.ev x, sizeOfN P e with
    | .a ad, some z => match s.val i with
      | some (.int _ n) => some ((0 ≤ n ∧ n < len) ∧ K (.a (ad.add (n.toNat * z))))
      | _ => none
    | .v y, some z => match s.val i with
      | some (.int _ n) => some (∃ ad, y = .pointer (some ad) ∧ (0 ≤ n ∧ n < len) ∧ K (.a (ad.add (n.toNat * z))))
      | _ => none
    | .r k off, some z => match i with
      | .const (.int _ n) => some ((0 ≤ n ∧ n < len) ∧ K (.r k (off + n.toNat * z)))
      | _ => none
    | _, _ => none
  | _ => none

def indexR (P : Program) (s : St) (t : TypeId) (x i : Operand) (K : AV → Prop) : Option Prop :=
  match P.underlying t with
  | some .string => match s.val x, s.val i with
    | some (.string b), some (.int _ n) => some ((0 ≤ n ∧ n < b.size) ∧ K (.v (.int .u8 (byteAt b n))))
    | _, _ => none
  | some (.array len e) => match s.val x, s.val i, aggOf P e with
    | some (.agg cs), some (.int _ n), some (false, m) => match P.underlying e with
      | some d => match Lf.of d with
        | some lf => some ((0 ≤ n ∧ n < len) ∧ exL [lf] fun vs => match vs with
          | [y] => cs[n.toNat * m]? = some y ∧ K (.v y)
          | _ => False)
        | none => none
      | none => none
    | _, _, _ => none
  | _ => none

def fieldR (P : Program) (s : St) (t : TypeId) (x : Operand) (f : Nat) (K : AV → Prop) : Option Prop :=
  match P.underlying t with
  | some (.struct fs) => match fs[f]?, s.val x with
    | some fl, some (.agg cs) => match aggOf P fl.type with
      | some (true, n) => some (K (.v (.agg (cs.extract fl.offset (fl.offset + n)))))
      | some (false, _) => match cs[fl.offset]? with
        | some y => some (K (.v y))
        | none => none
      | none => none
    | _, _ => none
  | _ => none

def builtinR (s : St) (b : Builtin) (args : List Operand) (d : Option TypeDesc) (K : AV → Prop) : Option Prop :=
  match b, args with
  | .len, [x] => match d, s.ev x with
    | some .string, .v (.string t) => some (K (.v (.int .i64 t.size)))
    | some (.slice _), .v (.slice _ n _) => some (K (.v (.int .i64 n)))
    | some (.slice _), .q _ n => some (K (.v (.int .i64 n)))
    | some (.array n _), _ => some (K (.v (.int .i64 n)))
    | _, _ => none
  | .cap, [x] => match d, s.ev x with
    | some (.slice _), .v (.slice _ _ c) => some (K (.v (.int .i64 c)))
    | some (.array n _), _ => some (K (.v (.int .i64 n)))
    | _, _ => none
  | .min, [x, y] => match s.ev x, s.ev y with
    | .v (.int k p), .v (.int _ q) => some (K (.v (.int k (if q < p then q else p))))
    | _, _ => none
  | .max, [x, y] => match s.ev x, s.ev y with
    | .v (.int k p), .v (.int _ q) => some (K (.v (.int k (if q > p then q else p))))
    | _, _ => none
  | _, _ => none

def partsR (s : St) : List (Nat × Operand) → Option (List (Nat × Value))
  | [] => some []
  | (i, o) :: l => match s.val o, partsR s l with
    | some x, some xs => some ((i, x) :: xs)
    | _, _ => none
def placesR (P : Program) : List Field → Option (List (Nat × Nat))
  | [] => some []
  | f :: fs => match sizeOfN P f.type, placesR P fs with
    | some n, some l => some ((f.offset, n) :: l)
    | _, _ => none
def spl (cs : List Value) (off : Nat) (xs : List Value) : List Value := cs.take off ++ xs ++ cs.drop (off + xs.length)
/-- An aggregate out of its parts. -/
def fillL (place : Nat → Option (Nat × Nat)) (cells : List Value) : List (Nat × Value) → Option (List Value)
  | [] => some cells
  | (i, v) :: rest => match place i with
    | none => none
    | some (off, size) => match Nat.beq v.cells.toList.length size, Nat.ble (off + v.cells.toList.length) cells.length with
      | true, true => fillL place (spl cells off v.cells.toList) rest
      | _, _ => none
def buildR (P : Program) (s : St) (t : TypeId) (parts : List (Nat × Operand)) (K : AV → Prop) : Option Prop :=
  match zeroOf P t, partsR s parts with
  | some z, some ps => match P.underlying t with
    | some (.struct fs) => match placesR P fs.toList with
      | some pl => match fillL (fun i => pl[i]?) z.cells.toList ps with
        | some cs => some (K (.v (.agg cs.toArray)))
        | none => none
      | none => none
    | some (.array _ e) => match sizeOfN P e with
      | some n => match fillL (fun i => some (i * n, n)) z.cells.toList ps with
        | some cs => some (K (.v (.agg cs.toArray)))
        | none => none
      | none => none
    | _ => none
  | _, _ => none

/-- Operations whose value hangs on the frame alone. -/
def pvc (P : Program) (s : St) (op : Op) (K : AV → Prop) : Option Prop :=
  match op with
  | .move x => some (K (s.evc x))
  | .assign x => some (K (s.evc x))
  | .pick c x y => match s.evc c with
    | .t true => some (K (s.evc x))
    | .t false => some (K (s.evc y))
    | .v (.bool t) => some (K (pickAV t (s.ev x) (s.ev y)))
    | _ => none
  | .nilCheck x => match s.ev x with
    | .r k off => some (K (.r k off))
    | .a ad => some (K (.a ad))
    | .v y => some (∃ ad, y = .pointer (some ad) ∧ K (.a ad))
    | _ => none
  | .fieldAddr t x f => match fieldOff P t f with
    | none => none
    | some off => match s.ev x with
      | .r k o => some (K (.r k (o + off)))
      | .a ad => some (K (.a (ad.add off)))
      | .v y => some (∃ ad, y = .pointer (some ad) ∧ K (.a (ad.add off)))
      | _ => none
  | .indexAddr t x i => indexAddrR P s t x i K
  | .index t x i => indexR P s t x i K
  | .field t x f => fieldR P s t x f K
  | .binOp op t x y _ => binR P op t (s.ev x) (s.ev y) K
  | .unOp op _ x => unR op (s.ev x) K
  | .convert a b x => convR P a b (s.ev x) K
  | .makeInterface t x => match P.underlying t, s.val x with
    | some (.interface _), _ => none
    | some _, some y => some (K (.v (.iface t y)))
    | _, _ => none
  | .makeFunc fn first cap => match s.vals first.toList, s.vals cap.toList with
    | some xs, some ys => some (K (.v (.func fn xs.toArray ys.toArray)))
    | _, _ => none
  | .extract x i => match s.val x with
    | some (.tuple vs) => match vs[i]? with
      | some y => some (K (.v y))
      | none => none
    | _ => none
  | .slice t x lo hi mx => sliceR P s t x lo hi mx K
  | .build t parts => buildR P s t parts.toList K
  | .sliceToArrayPointer t x => match P.underlying t, s.val x with
    | some (.array n _), some (.slice a l _) => some (n ≤ l ∧ K (.v (.pointer a)))
    | _, _ => none
  | .call c => match c.callee with
    | .builtin b => builtinR s b c.args.toList (match c.argTypes[0]? with
      | some t => P.underlying t
      | none => none) K
    | _ => none
  | _ => none

end Go.V
