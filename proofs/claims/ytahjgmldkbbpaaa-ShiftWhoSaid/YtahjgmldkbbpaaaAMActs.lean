/- The operations that act on memory (definitions alone). -/
import Derived.Test.YtahjgmldkbbpaaaAMOps
namespace Go.AM
open Go

/-- Does a value lead to blocks below number n alone? -/
def AV.lt0 (n : Nat) : AV → Bool
  | .g _ | .cp _ | .via .. | .undef => true
  | .ptr id _ | .ms id _ _ _ _ | .rp id _ _ _ _ | .mp id => decide (id < n)
  | _ => false
def AV.lt1 (n : Nat) : AV → Bool
  | .fv _ caps => caps.all (AV.lt0 n)
  | .ifa _ v => v.lt0 n
  | v => v.lt0 n

/-- The cells of a zero value, and the rows that are kept ready for its slices. -/
def zres : Nat → List Z → List AV × List Blk
  | _, [] => ([], [])
  | n, .z v :: r => (.g v :: (zres n r).1, (zres n r).2)
  | n, .s sz :: r => (.ms n 1 sz 0 0 :: (zres (n + 1) r).1, .rows sz 1 [] :: (zres (n + 1) r).2)

def zplain : List Z → List AV
  | [] => []
  | .z v :: r => .g v :: zplain r
  | .s _ :: r => .g .nsl :: zplain r

def storeV (h : List Blk) (s : St) (p : AV) (vs : List AV) : Option (St × List Nat) :=
  match p with
  | .ptr id o => match getB h s id with
    | some (.cells cs) => if o + vs.length ≤ cs.length ∧ (decide (h.length ≤ id) || vs.all (AV.lt1 h.length)) = true ∧ vs.all AV.leaf = true then
        some (setB h s id (.cells (cs.take o ++ vs ++ cs.drop (o + vs.length))), [id]) else none
    | _ => none
  | .rp id g sz i o => match getB h s id with
    | some (.rows sz' g' els) => if g = g' ∧ sz = sz' then match els[i]?, grounds vs with
        | some el, some gs => if o + gs.length ≤ el.length then some (setB h s id (.rows sz g (els.set i (el.take o ++ gs ++ el.drop (o + gs.length)))), [id]) else none
        | _, _ => none
      else none
    | _ => none
  | _ => none

/-- A slice's elements, each of so many cells. -/
def viewN (h : List Blk) (s : St) (sz : Nat) : AV → Option (List (List GV))
  | .g (.sl sz' els) => if sz = sz' then some els else none
  | .g .nsl => some []
  | .ms id g sz' off len => if sz = sz' then match getB h s id with
      | some (.rows sz2 g' els) => if g = g' ∧ sz2 = sz ∧ off + len ≤ els.length then some ((els.drop off).take len) else none
      | some (.fro sz2 g' els) => if g = g' ∧ sz2 = sz ∧ off + len ≤ els.length then some ((els.drop off).take len) else none
      | _ => none
    else none
  | _ => none

def room (bytes n : Nat) : Bool := decide (n ≤ 140737488355328) && decide (n * bytes ≤ 140737488355328)

/-- append(x, ys...), ys a list of elements. -/
def appV (h : List Blk) (s : St) (sz bytes : Nat) (x : AV) (ys : List (List GV)) : Option (AV × St × List Nat) :=
  match ys with
  | [] => match x with
    | .g .nsl => some (.g .nsl, s, [])
    | .ms id g sz' off len => if sz = sz' ∧ cur h s id g = true then some (.ms id g sz off len, s, []) else none
    | _ => none
  | _ => match x with
    | .g .nsl => if room bytes ys.length = true then some (.ms (s.next h) 1 sz 0 ys.length, s.push (.rows sz 1 ys), []) else none
    | .ms id g sz' off len => match getB h s id with
      | some (.rows sz2 g' els) => if g = g' ∧ sz = sz' ∧ sz = sz2 then
          if off + len + ys.length ≤ els.length then some (.ms id g sz off (len + ys.length), setB h s id (.rows sz g (els.take (off + len) ++ (ys ++ els.drop (off + (len + ys.length))))), [id])
          else if off = 0 ∧ len ≤ els.length ∧ room bytes (len + ys.length) = true then some (.ms id (g + 1) sz 0 (len + ys.length), setB h s id (.rows sz (g + 1) (els.take len ++ ys)), [id])
          else none
        else none
      | _ => none
    | _ => none

def bytesG (b : List UInt8) : List (List GV) := b.map fun c => [.int .u8 c.toNat]

def evI (h : List Blk) (nb : Nat) (s : St) : AOp → Option (AV × St × List Nat)
  | .nres sz => some (.ms (s.next h) 1 sz 0 0, s.push (.rows sz 1 []), [])
  | .alloc z => some (.ptr (s.next h + (zres (s.next h) z).2.length) 0, { s with o := s.o ++ (zres (s.next h) z).2 ++ [.cells (zres (s.next h) z).1] }, [])
  | .allocAt k z => match getB h s (nb + k) with
    | some .pend => if h.length ≤ nb then some (.ptr (nb + k) 0, setB h s (nb + k) (.cells (zplain z)), [nb + k]) else none
    | _ => none
  | .box x => match val s x with
    | some v => match v.cellsO with
      | some cs => some (.ptr (s.next h) 0, s.push (.cells cs), [])
      | none => none
    | none => none
  | .bslice sz len z ps => match fills s (List.replicate len (z.map AV.g)).flatten ps with
    | some cs => match grounds cs with
      | some gs => some (.g (.sl sz (chunk sz len gs)), s, [])
      | none => none
    | none => none
  | .store n p x => match val s p, val s x with
    | some p, some v => match v.cellsO with
      | some vs => if vs.length = n then match storeV h s p vs with
          | some (s', ws) => some (.undef, s', ws)
          | none => none
        else none
      | none => none
    | _, _ => none
  | .mk sz bytes z l c => match val s l, val s c with
    | some (.g (.int .i64 n)), some (.g (.int .i64 m)) => if n = m ∧ 0 ≤ n ∧ n ≤ 281474976710656 ∧ n * bytes ≤ 281474976710656 then
        some (.ms (s.next h) 1 sz 0 n.toNat, s.push (.rows sz 1 (List.replicate n.toNat z)), []) else none
    | _, _ => none
  | .app sz bytes x y => match val s x, val s y with
    | some x, some y => match viewN h s sz y with
      | some ys => appV h s sz bytes x ys
      | none => none
    | _, _ => none
  | .appS x y => match val s x, val s y with
    | some x, some (.g (.str b)) => appV h s 1 1 x (bytesG b)
    | _, _ => none
  | .appZ sz bytes z x n => match val s x, val s n with
    | some x, some (.g (.int .i64 n)) => if 0 ≤ n ∧ n ≤ 281474976710656 ∧ n * bytes ≤ 281474976710656 then appV h s sz bytes x (List.replicate n.toNat z) else none
    | _, _ => none
  | .clear z x => match val s x with
    | some (.g .nsl) => some (.tup [], s, [])
    | some (.ms id g sz off len) => match getB h s id with
      | some (.rows sz' g' els) => if g = g' ∧ sz = sz' ∧ sz = z.length ∧ off + len ≤ els.length then
          some (.tup [], setB h s id (.rows sz g (els.take off ++ (List.replicate len z ++ els.drop (off + len)))), [id]) else none
      | _ => none
    | _ => none
  | .convSB x => match val s x with
    | some (.g (.str b)) => some (.g (.sl 1 (bytesG b)), s, [])
    | _ => none
  | .convBS x => match val s x with
    | some v => match viewN h s 1 v with
      | some els => match bytesOfG els with
        | some b => some (.g (.str b), s, [])
        | none => none
      | none => none
    | none => none
  | _ => none
where
  bytesOfG : List (List GV) → Option (List UInt8)
    | [] => some []
    | [.int .u8 n] :: r => match bytesOfG r with
      | some b => some (UInt8.ofNat n.toNat :: b)
      | none => none
    | _ => none

end Go.AM
