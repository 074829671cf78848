/- The abstract machine's operations and its evaluator (definitions alone). -/
import Derived.Test.YtahjgmldkbbpaaaAMDefs
namespace Go.AM
open Go

/-- The kinds of cells that are compared. -/
inductive LK where
  | b | i | s
  deriving Inhabited, DecidableEq

inductive AOp where
  | mov (x : Opd)
  | pick (c a b : Opd)
  | bin (op : BinOp) (x y : Opd)
  | eqs (neq agg : Bool) (ks : List LK) (x y : Opd)
  | isnil (neq : Bool) (kd : Nat) (x : Opd)
  | un (op : UnOp) (x : Opd)
  | conv (k : IntKind) (x : Opd)
  | convId (x : Opd)
  | convBS (x : Opd)
  | field (agg : Bool) (off n : Nat) (x : Opd)
  | faddr (off : Nat) (p : Opd)
  | iaddr (sz : Nat) (x i : Opd)
  | iaddrA (len sz : Nat) (p i : Opd)
  | index (x i : Opd)
  | indexA (agg : Bool) (len sz : Nat) (x i : Opd)
  | load (agg : Bool) (n : Nat) (p : Opd)
  | ext (j : Nat) (x : Opd)
  | len (x : Opd)
  | lenS (x : Opd)
  | cap (x : Opd)
  | mx (x : Opd) (xs : List Opd)
  | mn (x : Opd) (xs : List Opd)
  | build (z : List AV) (ps : List (Nat × Nat × Opd))
  | slc (sz : Nat) (x : Opd) (lo hi : Option Opd)
  | slc3 (sz : Nat) (x : Opd) (lo hi mx : Option Opd)
  | slcS (x : Opd) (lo hi : Option Opd)
  | mkif (t : TypeId) (x : Opd)
  | mkfn (f : FuncId) (caps : List Opd)
  | mkvia (t : TypeId) (path : List FieldStep) (f : FuncId) (pointer : Bool)
  | nilchk (x : Opd)
  -- those that act
  | nres (sz : Nat)
  | alloc (z : List Z)
  | allocAt (k : Nat) (z : List Z)
  | box (x : Opd)
  | bslice (sz len : Nat) (z : List GV) (ps : List (Nat × Nat × Opd))
  | store (n : Nat) (p x : Opd)
  | mk (sz bytes : Nat) (z : List GV) (len cap : Opd)
  | app (sz bytes : Nat) (x y : Opd)
  | appS (x y : Opd)
  | appZ (sz bytes : Nat) (z : List GV) (x n : Opd)
  | clear (z : List GV) (x : Opd)
  | convSB (x : Opd)
  | call (f : Opd) (xs : List Opd)
  | row (k : Nat) (xs : List Opd)
  deriving Inhabited

structure AOper where
  d : Option Nat
  gd : Option (Nat × Bool)
  op : AOp
  deriving Inhabited

/-- The ways of a region that draws its order: what may be taken first, and what comes alone or in any order. -/
inductive Tree where
  | leaf
  | take (o : AOper) (t : Tree)
  | one (o : AOper) (t : Tree)
  | alt (o : AOper) (t r : Tree)
  | free (t : Tree)
  deriving Inhabited

inductive Ex where
  | normal
  | exit (id : Nat)
  | ret
  deriving Inhabited, DecidableEq

inductive IC where
  | skip
  | reg (lv : List Nat) (ops : List AOper)
  | drw (lv : List Nat) (nb : Nat) (t : Tree)
  | seq (a b : IC)
  | cond (lv : List Nat) (c : Opd) (a b : IC)
  | block (lv : List Nat) (id : Nat) (c : IC)
  | loop (lv lv2 : List Nat) (c : IC)
  | exit (id : Nat)
  | ret
  deriving Inhabited

inductive RV where
  | tmp (t : Nat)
  | cell (t : Nat) (agg : Bool) (n : Nat)
  deriving Inhabited

structure IFunc where
  np : Nat
  nt : Nat
  rs : List RV
  esc : Bool
  body : IC
  deriving Inhabited

/-! ### Binary operations -/
def intOp (op : BinOp) (k : IntKind) (a b : Int) : Option GV :=
  match op with
  | .add => some (.int k (k.wrap (a + b)))
  | .sub => some (.int k (k.wrap (a - b)))
  | .mul => some (.int k (k.wrap (a * b)))
  | .quo => if b = 0 then none else some (.int k (k.wrap (a.tdiv b)))
  | .rem => if b = 0 then none else some (.int k (a.tmod b))
  | .and => some (.int k (k.wrap (BitVec.ofInt k.bits a &&& BitVec.ofInt k.bits b).toNat))
  | .or => some (.int k (k.wrap (BitVec.ofInt k.bits a ||| BitVec.ofInt k.bits b).toNat))
  | .xor => some (.int k (k.wrap (BitVec.ofInt k.bits a ^^^ BitVec.ofInt k.bits b).toNat))
  | .andNot => some (.int k (k.wrap (BitVec.ofInt k.bits a &&& ~~~ BitVec.ofInt k.bits b).toNat))
  | .eql => some (.bool (a == b))
  | .neq => some (.bool (a != b))
  | .lss => some (.bool (decide (a < b)))
  | .leq => some (.bool (decide (a ≤ b)))
  | .gtr => some (.bool (decide (a > b)))
  | .geq => some (.bool (decide (a ≥ b)))
  | _ => none

def shiftOp (op : BinOp) (k : IntKind) (a b : Int) : Option GV :=
  if b < 0 then none else match op with
  | .shl => some (.int k (k.wrap (a * 2 ^ (min b.toNat k.bits))))
  | .shr => some (.int k (a.fdiv (2 ^ (min b.toNat k.bits))))
  | _ => none

def strOp (op : BinOp) (a b : List UInt8) : Option GV :=
  match op with
  | .add => if a.length + b.length ≤ 9223372036854775807 then some (.str (a ++ b)) else none
  | .eql => some (.bool (a == b))
  | .neq => some (.bool (!(a == b)))
  | .lss => some (.bool (Op.bytesLess a b))
  | .leq => some (.bool (Op.bytesLess a b || a == b))
  | .gtr => some (.bool (!(Op.bytesLess a b || a == b)))
  | .geq => some (.bool (!(Op.bytesLess a b)))
  | _ => none

def binV (op : BinOp) (x y : AV) : Option AV :=
  match x, y with
  | .g (.int k a), .g (.int k' b) => match op with
    | .shl => (shiftOp .shl k a b).map .g
    | .shr => (shiftOp .shr k a b).map .g
    | _ => if k = k' then (intOp op k a b).map .g else none
  | .g (.str a), .g (.str b) => (strOp op a b).map .g
  | _, _ => none

/-- Is a pointer (0), an interface's value (1), a function (2), a map (3) nil? -/
def isNil : Nat → AV → Option Bool
  | 0, .g .nptr | 1, .g .nif | 2, .g .nfn | 3, .g .nmap => some true
  | 0, .ptr .. | 0, .cp _ | 1, .g (.ifc ..) | 1, .ifa .. | 2, .g (.fn _) | 2, .fv .. | 2, .via .. | 3, .mp _ => some false
  | _, _ => none

def eqG : LK → GV → GV → Option Bool
  | .b, .bool a, .bool b => some (a == b)
  | .i, .int k a, .int k' b => if k = k' then some (a == b) else none
  | .s, .str a, .str b => some (a == b)
  | _, _, _ => none

def eqL : List LK → List AV → List AV → Option Bool
  | [], [], [] => some true
  | k :: ks, .g a :: as, .g b :: bs => match eqG k a b, eqL ks as bs with
    | some x, some y => some (x && y)
    | _, _ => none
  | _, _, _ => none

def eqV (agg : Bool) (ks : List LK) (x y : AV) : Option Bool :=
  match agg, x, y with
  | true, .agg as, .agg bs => eqL ks as bs
  | false, .g a, .g b => eqL ks [.g a] [.g b]
  | _, _, _ => none

def intOfA : AV → Option Int
  | .g (.int _ n) => some n
  | _ => none

def bnd (s : St) (d : Nat) : Option Opd → Option Int
  | none => some d
  | some x => match val s x with
    | some v => intOfA v
    | none => none

/-- 'lo' and 'hi' of a cut of something of length n. -/
def cutB (s : St) (n : Nat) (lo hi : Option Opd) : Option (Nat × Nat) :=
  match bnd s 0 lo, bnd s n hi with
  | some l, some h => if 0 ≤ l ∧ l ≤ h ∧ h ≤ n then some (l.toNat, h.toNat) else none
  | _, _ => none

def fillA (cs : List AV) (off n : Nat) (vs : List AV) : Option (List AV) :=
  if vs.length = n ∧ off + n ≤ cs.length then some (cs.take off ++ vs ++ cs.drop (off + n)) else none

def fills (s : St) (cs : List AV) : List (Nat × Nat × Opd) → Option (List AV)
  | [] => some cs
  | (off, n, x) :: r => match val s x with
    | some v => match v.cellsO with
      | some vs => match fillA cs off n vs with
        | some cs' => fills s cs' r
        | none => none
      | none => none
    | none => none

def grounds : List AV → Option (List GV)
  | [] => some []
  | .g v :: r => match grounds r with
    | some vs => some (v :: vs)
    | none => none
  | _ => none

def chunk {α : Type} (sz : Nat) : Nat → List α → List (List α)
  | 0, _ => []
  | n + 1, l => l.take sz :: chunk sz n (l.drop sz)

def mx2 (x y : AV) : Option AV :=
  match x, y with
  | .g (.int k a), .g (.int _ b) => some (.g (.int k (if b > a then b else a)))
  | _, _ => none
def mn2 (x y : AV) : Option AV :=
  match x, y with
  | .g (.int k a), .g (.int _ b) => some (.g (.int k (if b < a then b else a)))
  | _, _ => none
def foldV (f : AV → AV → Option AV) : Option AV → List AV → Option AV
  | a, [] => a
  | some a, x :: xs => foldV f (f a x) xs
  | none, _ => none

/-- Does a slice of the calls' own speak of its row as it now stands? -/
def cur (h : List Blk) (s : St) (id g : Nat) : Bool :=
  match getB h s id with
  | some (.rows _ g' _) => g == g'
  | some (.fro _ g' _) => g == g'
  | _ => false

def lenV (h : List Blk) (s : St) : AV → Option Nat
  | .g (.sl _ els) => some els.length
  | .g .nsl => some 0
  | .ms id g _ _ n => if cur h s id g = true then some n else none
  | _ => none

def sub (agg : Bool) (n : Nat) (cs : List AV) : Option AV := if cs.length = n then one agg cs else none

/-- What an operation yields that leaves memory as it is; and the blocks of the calls' own that it reads. -/
def evP (h : List Blk) (s : St) : AOp → Option (AV × List Nat)
  | .mov x => (val s x).map (·, [])
  | .pick c a b => match val s c with
    | some (.g (.bool x)) => if x = true then (val s a).map (·, []) else (val s b).map (·, [])
    | _ => none
  | .bin op x y => match val s x, val s y with
    | some a, some b => (binV op a b).map (·, [])
    | _, _ => none
  | .eqs neq ag ks x y => match val s x, val s y with
    | some a, some b => match eqV ag ks a b with
      | some r => some (.g (.bool (if neq then !r else r)), [])
      | none => none
    | _, _ => none
  | .isnil neq kd x => match val s x with
    | some v => match isNil kd v with
      | some r => some (.g (.bool (if neq then !r else r)), [])
      | none => none
    | none => none
  | .un op x => match op, val s x with
    | .not, some (.g (.bool b)) => some (.g (.bool (!b)), [])
    | .neg, some (.g (.int k n)) => some (.g (.int k (k.wrap (-n))), [])
    | _, _ => none
  | .conv k x => match val s x with
    | some (.g (.int _ n)) => some (.g (.int k (k.wrap n)), [])
    | _ => none
  | .convId x => match val s x with
    | some (.g (.str b)) => some (.g (.str b), [])
    | _ => none
  | .field agg off n x => match val s x with
    | some (.agg cs) => (sub agg n ((cs.drop off).take n)).map (·, [])
    | _ => none
  | .faddr off p => match val s p with
    | some (.ptr id o) => some (.ptr id (o + off), [])
    | some (.cp cs) => some (.cp (cs.drop off), [])
    | some (.rp id g sz i o) => if cur h s id g = true then some (.rp id g sz i (o + off), []) else none
    | _ => none
  | .iaddr sz x i => match val s x, val s i with
    | some (.g (.sl sz' els)), some (.g (.int _ n)) => if sz = sz' ∧ 0 ≤ n then match els[n.toNat]? with
        | some el => some (.cp el, [])
        | none => none
      else none
    | some (.ms id g sz' off len), some (.g (.int _ n)) => if sz = sz' ∧ 0 ≤ n ∧ n < len ∧ cur h s id g = true then some (.rp id g sz (off + n.toNat) 0, []) else none
    | _, _ => none
  | .iaddrA len sz p i => match val s p, val s i with
    | some (.ptr id o), some (.g (.int _ n)) => if 0 ≤ n ∧ n < len then some (.ptr id (o + n.toNat * sz), []) else none
    | some (.cp cs), some (.g (.int _ n)) => if 0 ≤ n ∧ n < len then some (.cp (cs.drop (n.toNat * sz)), []) else none
    | _, _ => none
  | .index x i => match val s x, val s i with
    | some (.g (.str b)), some (.g (.int _ n)) => if 0 ≤ n then match b[n.toNat]? with
        | some c => some (.g (.int .u8 c.toNat), [])
        | none => none
      else none
    | _, _ => none
  | .indexA agg len sz x i => match val s x, val s i with
    | some (.agg cs), some (.g (.int _ n)) => if 0 ≤ n ∧ n < len then (sub agg sz ((cs.drop (n.toNat * sz)).take sz)).map (·, []) else none
    | _, _ => none
  | .load agg n p => match val s p with
    | some (.ptr id o) => match getB h s id with
      | some (.cells cs) => (sub agg n ((cs.drop o).take n)).map (·, [id])
      | _ => none
    | some (.cp cs) => (sub agg n ((cs.take n).map .g)).map (·, [])
    | some (.rp id g sz i o) => match getB h s id with
      | some (.rows sz' g' els) => if g = g' ∧ sz = sz' then match els[i]? with
          | some el => (sub agg n (((el.drop o).take n).map .g)).map (·, [id])
          | none => none
        else none
      | _ => none
    | _ => none
  | .ext j x => match val s x with
    | some (.tup vs) => match vs[j]? with
      | some v => some (v, [])
      | none => none
    | _ => none
  | .len x => match val s x with
    | some v => match lenV h s v with
      | some n => some (.g (.int .i64 n), [])
      | none => none
    | none => none
  | .lenS x => match val s x with
    | some (.g (.str b)) => some (.g (.int .i64 b.length), [])
    | _ => none
  | .cap x => match val s x with
    | some (.g .nsl) => some (.g (.int .i64 0), [])
    | _ => none
  | .mx x xs => match vals s xs with
    | some vs => (foldV mx2 (val s x) vs).map (·, [])
    | none => none
  | .mn x xs => match vals s xs with
    | some vs => (foldV mn2 (val s x) vs).map (·, [])
    | none => none
  | .build z ps => match fills s z ps with
    | some cs => some (.agg cs, [])
    | none => none
  | .slc k x lo hi => match val s x with
    | some (.g (.sl sz els)) => if k = sz then match cutB s els.length lo hi with
        | some (l, u) => some (.g (.sl sz ((els.take u).drop l)), [])
        | none => none
      else none
    | some (.g .nsl) => match cutB s 0 lo hi with
      | some _ => some (.g .nsl, [])
      | none => none
    | some (.ms id g sz off len) => if k = sz then match cutB s len lo hi with
        | some (l, u) => if cur h s id g = true then some (.ms id g sz (off + l) (u - l), []) else none
        | none => none
      else none
    | _ => none
  | .slcS x lo hi => match val s x with
    | some (.g (.str b)) => match cutB s b.length lo hi with
      | some (l, u) => some (.g (.str ((b.take u).drop l)), [])
      | none => none
    | _ => none
  | .mkif t x => match val s x with
    | some (.g v) => some (.g (.ifc t v), [])
    | some (.ptr i o) => some (.ifa t (.ptr i o), [])
    | _ => none
  | .mkfn f caps => match caps with
    | [] => some (.g (.fn f), [])
    | _ => match vals s caps with
      | some vs => some (.fv f vs, [])
      | none => none
  | .mkvia t path f p => some (.via t path f p, [])
  | .nilchk x => match val s x with
    | some (.ptr i o) => some (.ptr i o, [])
    | some (.cp cs) => some (.cp cs, [])
    | some (.fv f cs) => some (.fv f cs, [])
    | some (.g (.fn f)) => some (.g (.fn f), [])
    | some (.g (.ifc t v)) => some (.g (.ifc t v), [])
    | some (.ifa t v) => some (.ifa t v, [])
    | _ => none
  | _ => none

end Go.AM
