/- An abstract machine over pure values: its values, its heap, its operations, its evaluator (definitions alone). -/
import Derived.OrdersHeld
import Derived.LoopN
namespace Go.AM
open Go

/-- Ground values: what leads to no memory that may still turn. -/
inductive GV where
  | bool (b : Bool)
  | int (k : IntKind) (n : Int)
  | str (s : List UInt8)
  | sl (sz : Nat) (els : List (List GV))
  | nsl | nptr | nmap | nfn | nif
  | fn (f : FuncId)
  | ifc (t : TypeId) (v : GV)
  deriving Inhabited

inductive AV where
  | g (v : GV)
  | agg (cs : List AV)
  | tup (vs : List AV)
  | cp (cs : List GV)
  | ptr (id off : Nat)
  | ms (id gen sz off len : Nat)
  | rp (id gen sz i off : Nat)
  | fv (f : FuncId) (caps : List AV)
  | via (t : TypeId) (path : List FieldStep) (f : FuncId) (pointer : Bool)
  | ifa (t : TypeId) (v : AV)
  | mp (id : Nat)
  | undef
  deriving Inhabited

/-- A block of memory that belongs to the calls at hand. -/
inductive Blk where
  | cells (cs : List AV)
  | rows (sz gen : Nat) (els : List (List GV))
  | fro (sz gen : Nat) (els : List (List GV))
  | map (es : List (GV × GV))
  | pend
  | hid
  deriving Inhabited

inductive Opd where
  | t (n : Nat)
  | c (v : AV)
  deriving Inhabited

/-- A zero cell: of a ground value, or of a slice of elements of so many cells, which may grow. -/
inductive Z where
  | z (v : GV)
  | s (sz : Nat)
  deriving Inhabited

structure St where
  t : List (Nat × AV)
  m : List (Nat × Blk)
  o : List Blk
  deriving Inhabited

structure Res where
  r : AV
  m : List (Nat × Blk)
  o : List Blk
  deriving Inhabited

/-! ### The state -/
def look : List (Nat × AV) → Nat → Option AV
  | [], _ => none
  | (a, v) :: t, i => if a = i then some v else look t i

def keep (T : List (Nat × AV)) : List Nat → List (Nat × AV)
  | [] => []
  | i :: l => match look T i with
    | some v => (i, v) :: keep T l
    | none => keep T l

def lookM : List (Nat × Blk) → Nat → Option Blk
  | [], _ => none
  | (a, v) :: t, i => if a = i then some v else lookM t i

def updM : List (Nat × Blk) → Nat → Blk → List (Nat × Blk)
  | [], i, b => [(i, b)]
  | (a, v) :: t, i, b => if a = i then (a, b) :: t else (a, v) :: updM t i b

def applyM (h : List Blk) : List (Nat × Blk) → List Blk
  | [] => h
  | (a, v) :: t => (applyM h t).set a v

def full (h : List Blk) (s : St) : List Blk := applyM h s.m ++ s.o

def getB (h : List Blk) (s : St) (id : Nat) : Option Blk :=
  if id < h.length then (match lookM s.m id with | some b => some b | none => h[id]?) else s.o[id - h.length]?

def setB (h : List Blk) (s : St) (id : Nat) (b : Blk) : St :=
  if id < h.length then { s with m := updM s.m id b } else { s with o := s.o.set (id - h.length) b }

def St.put (s : St) : Option Nat → AV → St
  | some d, v => { s with t := (d, v) :: s.t }
  | none, _ => s

def val (s : St) : Opd → Option AV
  | .t n => look s.t n
  | .c v => some v

def vals (s : St) : List Opd → Option (List AV)
  | [] => some []
  | x :: xs => match val s x, vals s xs with
    | some v, some vs => some (v :: vs)
    | _, _ => none

/-- The number of the block that is made next. -/
def St.next (h : List Blk) (s : St) : Nat := h.length + s.o.length

def St.push (s : St) (b : Blk) : St := { s with o := s.o ++ [b] }

/-! ### Values -/
def AV.cells : AV → List AV
  | .agg cs => cs
  | v => [v]

def AV.leaf : AV → Bool
  | .agg _ | .tup _ | .undef => false
  | _ => true

/-- The cells that a value is stored as. -/
def AV.cellsO : AV → Option (List AV)
  | .agg cs => some cs
  | .tup _ | .undef => none
  | v => some [v]

def AV.ground : AV → Option GV
  | .g v => some v
  | _ => none

/-- A slice as the list of its elements, where it can be read. -/
def view (h : List Blk) (s : St) : AV → Option (List (List GV))
  | .g (.sl _ els) => some els
  | .g .nsl => some []
  | .ms id g _ off len => match getB h s id with
    | some (.rows _ g' els) | some (.fro _ g' els) => if g = g' then some ((els.drop off).take len) else none
    | _ => none
  | _ => none

def one (agg : Bool) (cs : List AV) : Option AV :=
  if agg then some (.agg cs) else match cs with
    | [c] => some c
    | _ => none

end Go.AM
