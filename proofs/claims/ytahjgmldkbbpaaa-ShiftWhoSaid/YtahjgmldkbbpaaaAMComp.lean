/- From the model's operations to the abstract machine's (definitions alone): what a program's tables say is looked up once. -/
import Derived.Test.YtahjgmldkbbpaaaAMOps
namespace Go.AM
open Go

def szT (P : Program) (t : TypeId) : Option Nat := (P.info? t).map (·.size)
def bytesT (P : Program) (t : TypeId) : Option Nat := (P.info? t).map (·.bytes)
def aggT (P : Program) (t : TypeId) : Option Bool :=
  match P.underlying t with
  | some (.struct _) | some (.array _ _) => some true
  | some _ => some false
  | none => none
def fieldT (P : Program) (t : TypeId) (i : Nat) : Option Field :=
  match P.underlying t with
  | some (.struct fs) => fs[i]?
  | _ => none
def elemT (P : Program) (t : TypeId) : Option TypeId :=
  match P.underlying t with
  | some (.slice e) => some e
  | _ => none

def cVal : Value → Option AV
  | .bool b => some (.g (.bool b))
  | .int k n => some (.g (.int k n))
  | .string s => some (.g (.str s.data.toList))
  | .pointer none => some (.g .nptr)
  | .slice none 0 0 => some (.g .nsl)
  | .map none => some (.g .nmap)
  | .nilFunc => some (.g .nfn)
  | .nilIface => some (.g .nif)
  | _ => none

def cOpd : Operand → Option Opd
  | .tmp t => some (.t t)
  | .const v => (cVal v).map .c
  | .func f => some (.c (.g (.fn f)))
  | .global _ => none

def cOpds : List Operand → Option (List Opd)
  | [] => some []
  | x :: xs => match cOpd x, cOpds xs with
    | some y, some ys => some (y :: ys)
    | _, _ => none

def cOpt : Option Operand → Option (Option Opd)
  | none => some none
  | some x => (cOpd x).map some

/-- A zero value's cells, as ground values. -/
def cZero (P : Program) (t : TypeId) : Option (List AV) :=
  match (P.info? t).bind (·.zero) with
  | some z => z.cells.toList.mapM cVal
  | none => none

def gOf : AV → Option GV
  | .g v => some v
  | _ => none

/-- Of a row's elements: how many cells, how many bytes, the zero cells. -/
def rowT (P : Program) (e : TypeId) : Option (Nat × Nat × List GV) :=
  match szT P e, bytesT P e, cZero P e with
  | some n, some b, some z => match z.mapM gOf with
    | some g => if g.length = n then some (n, b, g) else none
    | none => none
  | _, _, _ => none

/-- The kind of each cell of a type: of a slice, the size of its elements. -/
def zcells (P : Program) : Nat → TypeId → Option (List (Option Nat))
  | 0, _ => none
  | d + 1, t => match P.underlying t with
    | some (.struct fs) => (fs.toList.mapM fun f => zcells P d f.type).map List.flatten
    | some (.slice e) => (szT P e).map fun n => [some n]
    | some (.array n e) => (zcells P d e).map fun l => (List.replicate n l).flatten
    | some _ => some [none]
    | none => none

def cZ (P : Program) (t : TypeId) : Option (List Z) :=
  match cZero P t, zcells P 20 t with
  | some zs, some ks => if zs.length = ks.length then (zs.zip ks).mapM (fun (z, k) => match z, k with
      | .g .nsl, some n => some (.s n)
      | .g v, _ => some (.z v)
      | _, _ => none) else none
  | _, _ => none

/-- Fields, one behind the other, by what their types tell. -/
def flatF (K : TypeId → Option (List LK)) : List Field → Nat → Option (List LK)
  | [], _ => some []
  | f :: fs, n => if f.name ≠ "_" ∧ f.offset = n then
      match K f.type with
      | some ks => match flatF K fs (n + ks.length) with
        | some r => some (ks ++ r)
        | none => none
      | none => none
    else none

/-- The cells of a type that is made of bools, whole numbers and texts alone, in order. -/
def flatK (P : Program) : Nat → TypeId → Option (List LK)
  | 0, _ => none
  | d + 1, t => match P.underlying t with
    | some .bool => if szT P t = some 1 then some [.b] else none
    | some (.int _) => if szT P t = some 1 then some [.i] else none
    | some .string => if szT P t = some 1 then some [.s] else none
    | some (.struct fs) => if P.stoodInHeld t then none else match flatF (flatK P d) fs.toList 0 with
      | some ks => if szT P t = some ks.length then some ks else none
      | none => none
    | _ => none

def nilK (P : Program) (t : TypeId) (x : Operand) : Option Nat :=
  match P.underlying t, x with
  | some (.pointer _), .const (.pointer none) => some 0
  | some (.interface _), .const .nilIface => some 1
  | some (.func ..), .const .nilFunc => some 2
  | some (.map ..), .const (.map none) => some 3
  | _, _ => none

def scalarT (P : Program) (t : TypeId) : Bool :=
  match P.underlying t with
  | some (.int _) | some .string => true
  | _ => false

def places (P : Program) (t : TypeId) : Option (Nat → Option (Nat × Nat)) :=
  match P.underlying t with
  | some (.struct fs) => match fs.toList.mapM (fun f => (szT P f.type).map fun n => (f.offset, n)) with
    | some l => some (l[·]?)
    | none => none
  | some (.array _ e) => (szT P e).map fun n i => some (i * n, n)
  | _ => none

def cParts (pl : Nat → Option (Nat × Nat)) : List (Nat × Operand) → Option (List (Nat × Nat × Opd))
  | [] => some []
  | (i, x) :: r => match pl i, cOpd x, cParts pl r with
    | some (o, n), some y, some l => some ((o, n, y) :: l)
    | _, _, _ => none

def intT (P : Program) (t : TypeId) : Option IntKind :=
  match P.underlying t with
  | some (.int k) => some k
  | _ => none

def cBuiltin (P : Program) (b : Builtin) (ts : Array TypeId) (xs : List Opd) : Option AOp :=
  match b with
  | .len => match xs, P.underlying (ts.getD 0 0) with
    | [x], some .string => if ts.size = 1 then some (.lenS x) else none
    | [x], some (.slice _) => if ts.size = 1 then some (.len x) else none
    | _, _ => none
  | .cap => match xs, P.underlying (ts.getD 0 0) with
    | [x], some (.slice _) => if ts.size = 1 then some (.cap x) else none
    | _, _ => none
  | .max => match xs with
    | x :: xs => some (.mx x xs)
    | _ => none
  | .min => match xs with
    | x :: xs => some (.mn x xs)
    | _ => none
  | .append => match xs, P.underlying (ts.getD 0 0), P.underlying (ts.getD 1 0) with
    | [x, y], some (.slice e), some (.slice _) => if ts.size = 2 then match rowT P e with
        | some r => some (.app r.1 r.2.1 x y)
        | none => none
      else none
    | [x, y], some (.slice e), some .string => if ts.size = 2 then match rowT P e with
        | some r => if r.1 = 1 ∧ r.2.1 = 1 then some (.appS x y) else none
        | none => none
      else none
    | [x, y], some (.slice e), some (.int _) => if ts.size = 2 then match rowT P e with
        | some r => some (.appZ r.1 r.2.1 r.2.2 x y)
        | none => none
      else none
    | _, _, _ => none
  | .clear => match xs, P.underlying (ts.getD 0 0) with
    | [x], some (.slice e) => if ts.size = 1 then match rowT P e with
        | some r => some (.clear r.2.2 x)
        | none => none
      else none
    | _, _ => none
  | _ => none

def cCall (P : Program) (c : Call) (_t : TypeId) : Option AOp :=
  match c.callee with
  | .value f => match cOpd f, cOpds c.args.toList with
    | some f, some xs => some (.call f xs)
    | _, _ => none
  | .invoke .. => none
  | .builtin b => match cOpds c.args.toList with
    | some xs => cBuiltin P b c.argTypes xs
    | none => none

def cOp (P : Program) (drw : Option Nat) (o : Oper) : Option AOp :=
  match o.op with
  | .move x => (cOpd x).map .mov
  | .assign x => match drw, x with
    | none, .const (.slice none 0 0) => match elemT P o.type with
      | some e => match szT P e with
        | some n => some (.nres n)
        | none => none
      | none => none
    | _, _ => (cOpd x).map .mov
  | .pick c a b => do some (.pick (← cOpd c) (← cOpd a) (← cOpd b))
  | .binOp op t x y _ => do
    let x' ← cOpd x
    let y' ← cOpd y
    match op with
    | .eql | .neq =>
      if scalarT P t then some (.bin op x' y')
      else match nilK P t y with
        | some k => some (.isnil (op == .neq) k x')
        | none => match nilK P t x with
          | some k => some (.isnil (op == .neq) k y')
          | none => match flatK P 20 t with
            | some ks => if P.eqGuardType P.depth t = false then (aggT P t).map fun ag => .eqs (op == .neq) ag ks x' y' else none
            | none => none
    | _ => some (.bin op x' y')
  | .unOp op _ x => do some (.un op (← cOpd x))
  | .convert s d x => do
    let x' ← cOpd x
    match P.underlying s, P.underlying d with
    | some (.int _), some (.int k) => some (.conv k x')
    | some .string, some .string => some (.convId x')
    | some .string, some (.slice e) => if intT P e = some .u8 ∧ szT P e = some 1 then some (.convSB x') else none
    | some (.slice e), some .string => if intT P e = some .u8 ∧ szT P e = some 1 then some (.convBS x') else none
    | _, _ => none
  | .field t x f => do
    let fl ← fieldT P t f
    some (.field (← aggT P fl.type) fl.offset (← szT P fl.type) (← cOpd x))
  | .fieldAddr t x f => do
    let fl ← fieldT P t f
    let n ← szT P fl.type
    if n ≠ 0 then some (.faddr fl.offset (← cOpd x)) else none
  | .indexAddr t x i => match P.underlying t with
    | some (.slice e) => do some (.iaddr (← szT P e) (← cOpd x) (← cOpd i))
    | some (.array n e) => do some (.iaddrA n (← szT P e) (← cOpd x) (← cOpd i))
    | _ => none
  | .index t x i => match P.underlying t with
    | some .string => do some (.index (← cOpd x) (← cOpd i))
    | some (.array n e) => do some (.indexA (← aggT P e) n (← szT P e) (← cOpd x) (← cOpd i))
    | _ => none
  | .load t p => do
    let a ← aggT P t
    let n ← szT P t
    if a = true ∨ n = 1 then some (.load a n (← cOpd p)) else none
  | .store t p x => do some (.store (← szT P t) (← cOpd p) (← cOpd x))
  | .extract x j => (cOpd x).map (.ext j)
  | .build t ps => do
    let z ← cZero P t
    let pl ← places P t
    let l ← cParts pl ps.toList
    some (.build z l)
  | .slice t x lo hi mx => match P.underlying t with
    | some .string => do if mx.isNone then some (.slcS (← cOpd x) (← cOpt lo) (← cOpt hi)) else none
    | some (.slice e) => do
      if mx.isNone then some (.slc (← szT P e) (← cOpd x) (← cOpt lo) (← cOpt hi)) else some (.slc3 (← szT P e) (← cOpd x) (← cOpt lo) (← cOpt hi) (← cOpt mx))
    | _ => none
  | .makeInterface t x => match P.underlying t with
    | some (.interface _) => none
    | some _ => (cOpd x).map (.mkif t)
    | none => none
  | .makeFunc (.func f) first caps => do if first.size = 0 then some (.mkfn f (← cOpds caps.toList)) else none
  | .makeFunc (.via t p f q) first caps => if first.size = 0 ∧ caps.size = 0 then some (.mkvia t p.toList f q) else none
  | .nilCheck x => (cOpd x).map .nilchk
  | .alloc t => do
    let z ← cZ P t
    match drw with
    | none => some (.alloc z)
    | some k => some (.allocAt k z)
  | .box t x => do if (szT P t).isSome then some (.box (← cOpd x)) else none
  | .buildSlice t n ps => match P.underlying t with
    | some (.slice e) => match rowT P e with
      | some r => match cParts (fun i => some (i * r.1, r.1)) ps.toList with
        | some l => if n * r.1 ≤ 16777216 then some (.bslice r.1 n r.2.2 l) else none
        | none => none
      | none => none
    | _ => none
  | .makeSlice t l c => match P.underlying t with
    | some (.slice e) => match rowT P e, cOpd l, cOpd c with
      | some r, some x, some y => some (.mk r.1 r.2.1 r.2.2 x y)
      | _, _, _ => none
    | _ => none
  | .call c => cCall P c o.type
  | _ => none

end Go.AM
