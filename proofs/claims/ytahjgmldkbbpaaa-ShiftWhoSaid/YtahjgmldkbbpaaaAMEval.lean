/- The abstract machine's evaluator of code and functions (definitions alone). -/
import Derived.Test.YtahjgmldkbbpaaaAMActs7
namespace Go.AM
open Go

/-- What functions answer: of a function, its arguments and the heap. -/
abbrev FnS := FuncId → List AV → List Blk → Option Res

def AOp.acts : AOp → Bool
  | .nres _ | .alloc _ | .allocAt .. | .box _ | .bslice .. | .store .. | .mk .. | .app .. | .appS .. | .appZ .. | .clear .. | .convSB _ | .convBS _ => true
  | _ => false

/-- The heap, some blocks out of sight. -/
def hideB : List Nat → List Blk → List Blk
  | [], H => H
  | i :: r, H => (hideB r H).set i .hid

def setAll (h : List Blk) (s : St) : List (Nat × Blk) → St
  | [] => s
  | (i, b) :: r => setB h (setAll h s r) i b

def St.app (s : St) (o : List Blk) : St := { s with o := s.o ++ o }

def isLiveB (H : List Blk) (i : Nat) : Bool :=
  match H[i]? with
  | some b => b.live
  | none => false

/-- What comes of a call's answer: its value, the state, the blocks that it wrote. -/
def fin (h : List Blk) (hd : List Nat) (s : St) : Option Res → Option (AV × St × List Nat)
  | some ⟨r, m, o⟩ => if (m.all fun p => !hd.contains p.1) = true then some (r, (setAll h s m).app o, m.map (·.1)) else none
  | none => none

def evCall (E : FnS) (h : List Blk) (hd : List Nat) (s : St) (f : AV) (xs : List AV) : Option (AV × St × List Nat) :=
  if (hd.all (isLiveB (full h s))) = true then
    match f with
    | .g (.fn f) => fin h hd s (E f xs (hideB hd (full h s)))
    | .fv f caps => fin h hd s (E f (xs ++ caps) (hideB hd (full h s)))
    | _ => none
  else none

/-- One thing behind another. -/
def ob {α β : Type} (x : Option α) (k : α → Option β) : Option β :=
  match x with
  | some a => k a
  | none => none

/-- One operation: its value, the state, what it wrote. -/
def exOp (E : FnS) (h : List Blk) (nb : Nat) (hd : List Nat) (s : St) (op : AOp) : Option (AV × St × List Nat) :=
  match op with
  | .call f xs => match val s f, vals s xs with
    | some f, some xs => evCall E h hd s f xs
    | _, _ => none
  | op => if op.acts = true then evI h nb s op else ob (evP h s op) fun p => some (p.1, s, [])

/-- By a guard: what comes where an operation is wanted, and where it is not; the guard's slot is laid anew as the literal that it is. -/
def gdo {α : Type} (s : St) (g : Option (Nat × Bool)) (yes no : St → Option α) : Option α :=
  match g with
  | none => yes s
  | some (g, b) => match look s.t g with
    | some (.g (.bool x)) => if x = b then yes (s.put (some g) (.g (.bool b))) else no (s.put (some g) (.g (.bool (!b))))
    | some .undef => no s
    | _ => none

def evOne (E : FnS) (h : List Blk) (nb : Nat) (hd : List Nat) (s : St) (o : AOper) : Option (St × List Nat) :=
  gdo s o.gd (fun s => ob (exOp E h nb hd s o.op) fun p => some (p.2.1.put o.d p.1, p.2.2)) (fun s => some (s.put o.d .undef, []))

def evOps (E : FnS) (h : List Blk) : List AOper → St → Option St
  | [], s => some s
  | o :: r, s => ob (evOne E h 0 [] s o) fun p => evOps E h r p.1

def St.kp (s : St) (lv : List Nat) : St := { s with t := keep s.t lv }

/-- Take an operation first: the state behind it, and the blocks that it reads. -/
def evTake (h : List Blk) (s : St) (o : AOper) : Option (St × List Nat) :=
  gdo s o.gd (fun s => ob (evP h s o.op) fun p => some (s.put o.d p.1, p.2)) (fun s => some (s.put o.d .undef, []))

open Classical in
noncomputable def evTree (E : FnS) (h : List Blk) (nb : Nat) (lv : List Nat) : List Nat → Tree → St → Option St
  | _, .leaf, s => some (s.kp lv)
  | _, .free t, s => evTree E h nb lv [] t s
  | hd, .take o t, s => match evTake h s o with
    | some (s', _) => evTree E h nb lv hd t s'
    | none => none
  | hd, .one o t, s => match evOne E h nb hd s o with
    | some (s', ws) => if (ws.all fun i => !hd.contains i) = true then evTree E h nb lv hd t s' else none
    | none => none
  | hd, .alt o t r, s => match evOne E h nb hd s o with
    | some (s', ws) => if (ws.all fun i => !hd.contains i) = true then
        (match evTree E h nb lv hd t s', evTree E h nb lv hd r s with
          | some x, some y => if x = y then some x else none
          | _, _ => none) else none
    | none => none

/-- What is taken first, loads as well: then the rest. -/
noncomputable def evLead (E : FnS) (h : List Blk) (nb : Nat) (lv : List Nat) (hd : List Nat) : Tree → St → Option St
  | .take o t, s => match evTake h s o with
    | some (s', rs) => evLead E h nb lv (rs ++ hd) t s'
    | none => none
  | t, s => if (hd.all (isLiveB (full h s))) = true then evTree E h nb lv hd t s else none

def pends (s : St) (n : Nat) : St := { s with o := s.o ++ List.replicate n .pend }

abbrev Out := Option (Ex × St)

def sk (r : Out) (k : St → Out) : Out :=
  match r with
  | some (.normal, s) => k s
  | r => r

def kpN (lv : List Nat) : Out → Out
  | some (.normal, s) => some (.normal, s.kp lv)
  | r => r

def bk (lv : List Nat) (id : Nat) : Out → Out
  | some (.exit i, s) => if i = id then some (.normal, s.kp lv) else some (.exit i, s)
  | some (.normal, s) => some (.normal, s.kp lv)
  | r => r

def nrm : Option St → Out
  | some s => some (.normal, s)
  | none => none

/-- So many rounds at most. -/
def loopF (step : St → Out) (lv : List Nat) : Nat → St → Out
  | 0, _ => none
  | n + 1, s => sk (step s) fun s' => loopF step lv n (s'.kp lv)

open Classical in
noncomputable def lim {α : Type} (f : Nat → Option α) : Option α := if h : ∃ n r, f n = some r then f h.choose else none

noncomputable def loopL (step : St → Out) (lv : List Nat) (s : St) : Out := lim fun n => loopF step lv n s

noncomputable def evCode (E : FnS) (h : List Blk) : IC → St → Out
  | .skip, s => some (.normal, s)
  | .reg lv ops, s => kpN lv (nrm (evOps E h ops s))
  | .drw lv nb t, s => nrm (evLead E h (h.length + s.o.length) lv [] t (pends s nb))
  | .seq a b, s => sk (evCode E h a s) fun s' => evCode E h b s'
  | .cond lv c a b, s => match val s c with
    | some (.g (.bool x)) => kpN lv (if x = true then evCode E h a s else evCode E h b s)
    | _ => none
  | .block lv id c, s => bk lv id (evCode E h c s)
  | .loop lv _ c, s => loopL (fun s => evCode E h c s) lv (s.kp lv)
  | .exit id, s => some (.exit id, s)
  | .ret, s => some (.ret, s)

/-! ### Functions -/
def initT : Nat → List AV → List (Nat × AV)
  | _, [] => []
  | k, a :: r => (k, a) :: initT (k + 1) r

def rvV (h : List Blk) (s : St) : RV → Option AV
  | .tmp t => look s.t t
  | .cell t agg n => match evP h s (.load agg n (.t t)) with
    | some (v, _) => some v
    | none => none

def rvVs (h : List Blk) (s : St) : List RV → Option (List AV)
  | [] => some []
  | x :: xs => match rvV h s x, rvVs h s xs with
    | some v, some vs => some (v :: vs)
    | _, _ => none

def tupV : List AV → AV
  | [v] => v
  | vs => .tup vs

/-- A cell's value, where the blocks from number 'h.length' on go: their rows are frozen. -/
def frz0 (h : List Blk) (s : St) : AV → Option AV
  | .ms id g sz off len => if id < h.length then some (.ms id g sz off len) else
    match viewN h s sz (.ms id g sz off len) with
    | some els => some (.g (.sl sz els))
    | none => none
  | v => if v.lt1 h.length = true then some v else none
def frz1 (h : List Blk) (s : St) : List AV → Option (List AV)
  | [] => some []
  | v :: r => match frz0 h s v, frz1 h s r with
    | some v, some r => some (v :: r)
    | _, _ => none
def frz2 (h : List Blk) (s : St) : AV → Option AV
  | .agg cs => match frz1 h s cs with
    | some cs => some (.agg cs)
    | none => none
  | v => frz0 h s v
def frz3 (h : List Blk) (s : St) : List AV → Option (List AV)
  | [] => some []
  | v :: r => match frz2 h s v, frz3 h s r with
    | some v, some r => some (v :: r)
    | _, _ => none

def Blk.lt1 (n : Nat) : Blk → Bool
  | .cells cs => cs.all (AV.lt1 n)
  | _ => true

def finish (h : List Blk) (F : IFunc) (s : St) : Option Res :=
  match rvVs h s F.rs with
  | some vs => if F.esc = true then some ⟨tupV vs, s.m, s.o⟩ else
    match frz3 h s vs with
    | some vs => if (s.m.all fun p => p.2.lt1 h.length) = true then some ⟨tupV vs, s.m, []⟩ else none
    | none => none
  | none => none

noncomputable def evBody (E : FnS) (F : IFunc) (args : List AV) (H : List Blk) : Option Res :=
  if args.length ≤ F.nt then
    match evCode E H F.body ⟨initT 0 args, [], []⟩ with
    | some (.ret, s) => finish H F s
    | some (.normal, s) => finish H F s
    | _ => none
  else none

/-- A table of functions, and what those of no code answer. -/
structure Tab where
  T : FuncId → Option IFunc
  X : FnS

noncomputable def evF (T : Tab) : Nat → FnS
  | 0 => fun _ _ _ => none
  | n + 1 => fun f args H => match T.T f with
    | some F => evBody (evF T n) F args H
    | none => T.X f args H

noncomputable def EvF (T : Tab) : FnS := fun f args H => lim fun n => evF T n f args H

end Go.AM
