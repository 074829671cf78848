/- Part of the proof: the abstract machine, part 1 (AMDefs, AMRel, AMOps, AMComp, AMPure, AMPure2, AMPure3, AMPure4, AMPure5, AMPure6, AMPure7, AMPure8, AMPure9, AMHeap, AMActs, AMActs2). No conditions. -/
import Derived.OrdersHeld
import Derived.LoopN
import Derived.Laws.Rows
import Derived.Laws.Tables
import Derived.Laws.IdiomCopy
import Derived.Laws.Strings2
import Derived.Laws.StructEq
import Derived.Laws.Concat
section
namespace Go.AM
open Go

/-- Ground values: what leads to no memory that may still turn. -/
inductive GV where
  | bool (b : Bool)
  | int (k : IntKind) (n : Int)
  | str (s : List UInt8)
  | sl (sz : Nat) (els : List (List GV))
  | nsl | nptr | nmap | nfn | nif
  | sen (g : Nat) (t : TypeId) (s : List UInt8)
  | fn (f : FuncId)
  | ifc (t : TypeId) (v : GV)
  deriving Inhabited

/-- What a range over a function keeps of its rounds: its number, how many temporaries, those that are laid by each call, its codes. -/
structure RD where
  key : Nat
  nt : Nat
  ps : Array Tmp
  assign : Code
  body : Code
  deriving Inhabited

inductive AV where
  | g (v : GV)
  | agg (cs : List AV)
  | tup (vs : List AV)
  | cp (cs : List GV)
  | ptr (id off : Nat)
  | ms (id gen sz off len : Nat)
  | rp (id gen sz i off : Nat)
  | fv (f : FuncId) (caps : List AV)
  | bv (f : FuncId) (first : List AV)
  | via (t : TypeId) (path : List FieldStep) (f : FuncId) (pointer : Bool)
  | ifa (t : TypeId) (v : AV)
  | mp (id : Nat)
  | yv (id : Nat)
  | yk (key : Nat)
  | any
  | undef
  deriving Inhabited

/-- A block of memory that belongs to the calls at hand. -/
inductive Blk where
  | cells (cs : List AV)
  | bld (T : TypeId) (cs : List AV)
  | trow (T : TypeId) (sz gen : Nat) (els : List (List GV))
  | rows (sz gen : Nat) (els : List (List GV))
  | fro (sz gen : Nat) (els : List (List GV))
  | map (es : List (GV × Option GV))
  | map2 (es : List (List GV × Option GV))
  | lp (rd : RD) (t : List (Nat × AV)) (j : Option (Option Nat))
  | gsen (t : TypeId) (s : List UInt8)
  | pend
  | hid
  deriving Inhabited

inductive Opd where
  | t (n : Nat)
  | c (v : AV)
  deriving Inhabited

/-- A zero cell: of a ground value, or of a slice of elements of so many cells, which may grow. -/
inductive Z where
  | z (v : GV)
  | s (sz : Nat)
  deriving Inhabited

structure St where
  t : List (Nat × AV)
  m : List (Nat × Blk)
  o : List Blk
  deriving Inhabited

structure Res where
  r : AV
  m : List (Nat × Blk)
  o : List Blk
  deriving Inhabited

/-! ### The state -/
def look : List (Nat × AV) → Nat → Option AV
  | [], _ => none
  | (a, v) :: t, i => if a = i then some v else look t i

def keep (T : List (Nat × AV)) : List Nat → List (Nat × AV)
  | [] => []
  | i :: l => match look T i with
    | some v => (i, v) :: keep T l
    | none => keep T l

def lookM : List (Nat × Blk) → Nat → Option Blk
  | [], _ => none
  | (a, v) :: t, i => if a = i then some v else lookM t i

def updM : List (Nat × Blk) → Nat → Blk → List (Nat × Blk)
  | [], i, b => [(i, b)]
  | (a, v) :: t, i, b => if a = i then (a, b) :: t else (a, v) :: updM t i b

def applyM (h : List Blk) : List (Nat × Blk) → List Blk
  | [] => h
  | (a, v) :: t => (applyM h t).set a v

def full (h : List Blk) (s : St) : List Blk := applyM h s.m ++ s.o

def getB (h : List Blk) (s : St) (id : Nat) : Option Blk :=
  if id < h.length then (match lookM s.m id with | some b => some b | none => h[id]?) else s.o[id - h.length]?

def setB (h : List Blk) (s : St) (id : Nat) (b : Blk) : St :=
  if id < h.length then { s with m := updM s.m id b } else { s with o := s.o.set (id - h.length) b }

def St.put (s : St) : Option Nat → AV → St
  | some d, v => { s with t := (d, v) :: s.t }
  | none, _ => s

def val (s : St) : Opd → Option AV
  | .t n => look s.t n
  | .c v => some v

def vals (s : St) : List Opd → Option (List AV)
  | [] => some []
  | x :: xs => match val s x, vals s xs with
    | some v, some vs => some (v :: vs)
    | _, _ => none

/-- The number of the block that is made next. -/
def St.next (h : List Blk) (s : St) : Nat := h.length + s.o.length

def St.push (s : St) (b : Blk) : St := { s with o := s.o ++ [b] }

/-! ### Values -/
def AV.cells : AV → List AV
  | .agg cs => cs
  | v => [v]

def AV.leaf : AV → Bool
  | .agg _ | .tup _ | .undef => false
  | _ => true

/-- The cells that a value is stored as. -/
def AV.cellsO : AV → Option (List AV)
  | .agg cs => some cs
  | .tup _ | .undef => none
  | v => some [v]

def AV.ground : AV → Option GV
  | .g v => some v
  | _ => none

/-- A slice as the list of its elements, where it can be read. -/
def view (h : List Blk) (s : St) : AV → Option (List (List GV))
  | .g (.sl _ els) => some els
  | .g .nsl => some []
  | .ms id g _ off len => match getB h s id with
    | some (.rows _ g' els) | some (.fro _ g' els) => if g = g' then some ((els.drop off).take len) else none
    | _ => none
  | _ => none

def one (agg : Bool) (cs : List AV) : Option AV :=
  if agg then some (.agg cs) else match cs with
    | [c] => some c
    | _ => none

end Go.AM
end
section
namespace Go.AM
open Go

structure Lc where
  blk : Option Nat
  gen : Nat
  cap : Nat
  st : Bool

structure Env where
  w : World
  O : Nat → Prop
  L : Nat → Lc
  n : Nat
  V : Nat → Prop

inductive GR (E : Env) : GV → Value → Prop
  | bool (b : Bool) : GR E (.bool b) (.bool b)
  | int (k : IntKind) (n : Int) : GR E (.int k n) (.int k n)
  | str (s : List UInt8) : GR E (.str s) (.string ⟨s.toArray⟩)
  | sl {sz b o cap : Nat} {els : List (List GV)} (c : Nat → Nat → Value) (hcap : els.length ≤ cap) (hb : b < E.w.heap.size) (hO : ¬ E.O b)
      (hsz : ∀ (i : Nat) (el : List GV), els[i]? = some el → el.length = sz)
      (hc : ∀ (i : Nat) (el : List GV) (j : Nat) (a : GV), els[i]? = some el → el[j]? = some a → E.w.cell? ⟨b, o + i * sz + j, none⟩ = some (c i j))
      (hg : ∀ (i : Nat) (el : List GV) (j : Nat) (a : GV), els[i]? = some el → el[j]? = some a → GR E a (c i j)) :
      GR E (.sl sz els) (.slice (some ⟨b, o, none⟩) els.length cap)
  | sl0 (sz : Nat) (a : Addr) (cap : Nat) : GR E (.sl sz []) (.slice (some a) 0 cap)
  | nsl : GR E .nsl (.slice none 0 0)
  | nptr : GR E .nptr (.pointer none)
  | nmap : GR E .nmap (.map none)
  | nfn : GR E .nfn .nilFunc
  | nif : GR E .nif .nilIface
  | sen (g : Nat) (t : TypeId) (s : List UInt8) {a : Addr} {C : Array Value} {T : TypeId} (hg : g < E.w.heap.size) (hO : ¬ E.O g) (hc : E.w.cell? ⟨g, 0, none⟩ = some (.iface t (.pointer (some a))))
      (ha : a.block < E.w.heap.size) (hOa : ¬ E.O a.block) (hb : E.w.heap[a.block]? = some (.cells C T (0, 0))) (hs : E.w.cell? a = some (.string ⟨s.toArray⟩)) : GR E (.sen g t s) (.iface t (.pointer (some a)))
  | fn (f : FuncId) : GR E (.fn f) (.func (.func f) #[] #[])
  | ifc (t : TypeId) {v : GV} {cv : Value} (h : GR E v cv) : GR E (.ifc t v) (.iface t cv)

def MsOk (lc : Lc) (sz off len : Nat) (v : Value) : Prop :=
  match lc.blk with
  | none => v = .slice none 0 0 ∧ off = 0 ∧ len = 0
  | some b => ∃ a c, v = .slice (some a) len c ∧ off + c = lc.cap ∧ len ≤ c ∧ (a = ⟨b, off * sz, none⟩ ∨ c = 0)

inductive AR (E : Env) : AV → Value → Prop
  | g {v : GV} {cv : Value} (h : GR E v cv) : AR E (.g v) cv
  | agg {cs : List AV} {C : Array Value} (hn : cs.length = C.size) (h : ∀ (j : Nat) (a : AV) (v : Value), cs[j]? = some a → C[j]? = some v → AR E a v)
      (h1 : ∀ (j : Nat) (v : Value), C[j]? = some v → v.oneCell' = true) : AR E (.agg cs) (.agg C)
  | tup {cs : List AV} {C : Array Value} (hn : cs.length = C.size) (h : ∀ (j : Nat) (a : AV) (v : Value), cs[j]? = some a → C[j]? = some v → AR E a v) : AR E (.tup cs) (.tuple C)
  | cp {cs : List GV} {b o : Nat} (c : Nat → Value) (hb : b < E.w.heap.size) (hO : ¬ E.O b)
      (hc : ∀ (j : Nat) (a : GV), cs[j]? = some a → E.w.cell? ⟨b, o + j, none⟩ = some (c j))
      (hg : ∀ (j : Nat) (a : GV), cs[j]? = some a → GR E a (c j)) : AR E (.cp cs) (.pointer (some ⟨b, o, none⟩))
  | ptr {id off b : Nat} (hid : id < E.n) (hgen : (E.L id).st = true) (hb : (E.L id).blk = some b) : AR E (.ptr id off) (.pointer (some ⟨b, off, none⟩))
  | ms {id gen sz off len : Nat} {v : Value} (hid : id < E.n) (h0 : 0 < (E.L id).gen) (hle : gen ≤ (E.L id).gen)
      (h1 : v.oneCell' = true) (h : gen = (E.L id).gen → MsOk (E.L id) sz off len v) (hz : gen = (E.L id).gen → (gen = 1 ↔ (E.L id).blk = none)) : AR E (.ms id gen sz off len) v
  | rp {id gen sz i off : Nat} {v : Value} (hid : id < E.n) (h0 : 0 < (E.L id).gen) (hle : gen ≤ (E.L id).gen)
      (h1 : v.oneCell' = true) (h : gen = (E.L id).gen → ∃ b, (E.L id).blk = some b ∧ v = .pointer (some ⟨b, i * sz + off, none⟩)) : AR E (.rp id gen sz i off) v
  | fv {f : FuncId} {cs : List AV} {C : Array Value} (hn : cs.length = C.size) (h : ∀ (j : Nat) (a : AV) (v : Value), cs[j]? = some a → C[j]? = some v → AR E a v) :
      AR E (.fv f cs) (.func (.func f) #[] C)
  | bv {f : FuncId} {cs : List AV} {C : Array Value} (hn : cs.length = C.size) (h : ∀ (j : Nat) (a : AV) (v : Value), cs[j]? = some a → C[j]? = some v → AR E a v) :
      AR E (.bv f cs) (.func (.func f) C #[])
  | via (t : TypeId) (path : List FieldStep) (f : FuncId) (pointer : Bool) : AR E (.via t path f pointer) (.func (.via t path.toArray f pointer) #[] #[])
  | ifa (t : TypeId) {v : AV} {cv : Value} (h : AR E v cv) : AR E (.ifa t v) (.iface t cv)
  | mp {id b : Nat} (hid : id < E.n) (hgen : (E.L id).st = true) (hb : (E.L id).blk = some b) : AR E (.mp id) (.map (some b))
  | yv {id b : Nat} (hid : id < E.n) (hgen : (E.L id).st = true) (hb : (E.L id).blk = some b) : AR E (.yv id) (.func (.yield b) #[] #[])
  | any {v : Value} (h1 : v.oneCell' = true) : AR E .any v
  | undef : AR E .undef Go.undef

/-- A block's place stays, unless it is a row of the calls' own that may still turn. -/
def LcLe (v : Prop) (l l' : Lc) : Prop := l' = l ∨ (v ∧ l.st = false ∧ l.gen < l'.gen)

structure Ext (E E' : Env) : Prop where
  os : E'.w.os = E.w.os
  tape : E'.w.tape = E.w.tape
  output : E'.w.output = E.w.output
  size : E.w.heap.size ≤ E'.w.heap.size
  keep : ∀ b, b < E.w.heap.size → ¬ E.O b → E'.w.heap[b]? = E.w.heap[b]? ∧ ¬ E'.O b
  le : E.n ≤ E'.n
  loc : ∀ id, id < E.n → LcLe (E.V id) (E.L id) (E'.L id)
  lv : ∀ id, id < E.n → E'.V id → E.V id

theorem LcLe.refl (v : Prop) (l : Lc) : LcLe v l l := .inl rfl
theorem LcLe.trans {v v' : Prop} {a b c : Lc} (h : LcLe v a b) (k : LcLe v' b c) (hv : v' → v) : LcLe v a c := by
  rcases h with rfl | ⟨h0, h1, h2⟩
  · rcases k with rfl | ⟨k0, k1, k2⟩
    · exact .inl rfl
    · exact .inr ⟨hv k0, k1, k2⟩
  · rcases k with rfl | ⟨k0, k1, k2⟩
    · exact .inr ⟨h0, h1, h2⟩
    · exact .inr ⟨h0, h1, Nat.lt_trans h2 k2⟩

theorem Ext.refl (E : Env) : Ext E E := ⟨rfl, rfl, rfl, Nat.le_refl _, fun _ _ h => ⟨rfl, h⟩, Nat.le_refl _, fun _ _ => .refl _ _, fun _ _ h => h⟩
theorem Ext.trans {A B C : Env} (h : Ext A B) (k : Ext B C) : Ext A C where
  os := k.os.trans h.os
  tape := k.tape.trans h.tape
  output := k.output.trans h.output
  size := Nat.le_trans h.size k.size
  keep b hb hO := by
    obtain ⟨h1, h2⟩ := h.keep b hb hO
    obtain ⟨k1, k2⟩ := k.keep b (Nat.lt_of_lt_of_le hb h.size) h2
    exact ⟨k1.trans h1, k2⟩
  le := Nat.le_trans h.le k.le
  loc id hid := (h.loc id hid).trans (k.loc id (Nat.lt_of_lt_of_le hid h.le)) (h.lv id hid)
  lv id hid hv := h.lv id hid (k.lv id (Nat.lt_of_lt_of_le hid h.le) hv)

theorem Ext.cell {E E' : Env} (h : Ext E E') {b : Nat} (hb : b < E.w.heap.size) (hO : ¬ E.O b) (o : Nat) : E'.w.cell? ⟨b, o, none⟩ = E.w.cell? ⟨b, o, none⟩ := by
  simp [World.cell?, (h.keep b hb hO).1]

theorem GR.mono {E E' : Env} (h : Ext E E') {v : GV} {cv : Value} (hv : GR E v cv) : GR E' v cv := by
  induction hv with
  | bool b => exact .bool b
  | int k n => exact .int k n
  | str s => exact .str s
  | sl c hcap hb hO hsz hc hg ih =>
    refine .sl c hcap (Nat.lt_of_lt_of_le hb h.size) (h.keep _ hb hO).2 hsz (fun i el j a h1 h2 => ?_) ih
    rw [h.cell hb hO]; exact hc i el j a h1 h2
  | sl0 sz a cap => exact .sl0 sz a cap
  | nsl => exact .nsl
  | nptr => exact .nptr
  | nmap => exact .nmap
  | nfn => exact .nfn
  | nif => exact .nif
  | sen g t s hg hO hc ha hOa hb hs =>
    refine .sen g t s (Nat.lt_of_lt_of_le hg h.size) (h.keep _ hg hO).2 ?_ (Nat.lt_of_lt_of_le ha h.size) (h.keep _ ha hOa).2 (by rw [(h.keep _ ha hOa).1]; exact hb) ?_
    · rw [h.cell hg hO]; exact hc
    · rw [← hs]; simp [World.cell?, (h.keep _ ha hOa).1]
  | fn f => exact .fn f
  | ifc t _ ih => exact .ifc t ih

theorem LcLe.gen0 {v : Prop} {l l' : Lc} (h : LcLe v l l') (h0 : l.st = true) : l' = l := by
  rcases h with h | ⟨_, h1, _⟩
  · exact h
  · rw [h0] at h1; cases h1

theorem AR.mono {E E' : Env} (h : Ext E E') {v : AV} {cv : Value} (hv : AR E v cv) : AR E' v cv := by
  induction hv with
  | g hg => exact .g (hg.mono h)
  | agg hn _ h1 ih => exact .agg hn ih h1
  | tup hn _ ih => exact .tup hn ih
  | cp c hb hO hc hg =>
    refine .cp c (Nat.lt_of_lt_of_le hb h.size) (h.keep _ hb hO).2 (fun j a h1 => ?_) fun j a h1 => (hg j a h1).mono h
    rw [h.cell hb hO]; exact hc j a h1
  | ptr hid hgen hb =>
    have e := (h.loc _ hid).gen0 hgen
    exact .ptr (Nat.lt_of_lt_of_le hid h.le) (by rw [e]; exact hgen) (by rw [e]; exact hb)
  | ms hid h0 hle h1 hm hz =>
    rcases h.loc _ hid with e | ⟨_, e1, e2⟩
    · exact .ms (Nat.lt_of_lt_of_le hid h.le) (by rw [e]; exact h0) (by rw [e]; exact hle) h1 (by rw [e]; exact hm) (by rw [e]; exact hz)
    · exact .ms (Nat.lt_of_lt_of_le hid h.le) (by omega) (by omega) h1 (fun e => by omega) (fun e => by omega)
  | rp hid h0 hle h1 hm =>
    rcases h.loc _ hid with e | ⟨_, e1, e2⟩
    · exact .rp (Nat.lt_of_lt_of_le hid h.le) (by rw [e]; exact h0) (by rw [e]; exact hle) h1 (by rw [e]; exact hm)
    · exact .rp (Nat.lt_of_lt_of_le hid h.le) (by omega) (by omega) h1 (fun e => by omega)
  | fv hn _ ih => exact .fv hn ih
  | bv hn _ ih => exact .bv hn ih
  | via t p f q => exact .via t p f q
  | ifa t _ ih => exact .ifa t ih
  | mp hid hgen hb =>
    have e := (h.loc _ hid).gen0 hgen
    exact .mp (Nat.lt_of_lt_of_le hid h.le) (by rw [e]; exact hgen) (by rw [e]; exact hb)
  | yv hid hgen hb =>
    have e := (h.loc _ hid).gen0 hgen
    exact .yv (Nat.lt_of_lt_of_le hid h.le) (by rw [e]; exact hgen) (by rw [e]; exact hb)
  | any h1 => exact .any h1
  | undef => exact .undef

theorem GR.one {E : Env} {v : GV} {cv : Value} (h : GR E v cv) : cv.oneCell' = true := by cases h <;> rfl
theorem AR.one {E : Env} {v : AV} {cv : Value} (h : AR E v cv) (hl : v.leaf = true) : cv.oneCell' = true := by
  cases h <;> first | rfl | assumption | (simp [AV.leaf] at hl; done) | (exact GR.one (by assumption))

/-! ### The heap -/
def Blk.live : Blk → Bool
  | .cells _ | .bld .. | .rows .. | .trow .. | .map _ | .map2 _ | .lp .. | .pend | .hid => true
  | .fro .. | .gsen .. => false

def RowsIn (E : Env) (C : Array Value) (sz cap : Nat) (els : List (List GV)) : Prop :=
  C.size = cap * sz ∧ els.length ≤ cap ∧ ∀ (i : Nat) (el : List GV), els[i]? = some el → el.length = sz ∧
    ∀ (j : Nat) (a : GV), el[j]? = some a → ∃ v, C[i * sz + j]? = some v ∧ GR E a v

def CellsIn (E : Env) (C : Array Value) (cs : List AV) : Prop :=
  C.size = cs.length ∧ ∀ (j : Nat) (a : AV), cs[j]? = some a → ∃ v, C[j]? = some v ∧ AR E a v ∧ v.oneCell' = true

/-- An entry's value: of one cell, or nothing at all. -/
def VR (E : Env) : Option GV → Value → Prop
  | some g, c => GR E g c
  | none, c => c = .agg #[]
def EntriesIn (E : Env) (es : List (GV × Option GV)) (en : Array MapEntry) : Prop :=
  es.length = en.size ∧ ∀ (j : Nat) (p : GV × Option GV) (e : MapEntry), es[j]? = some p → en[j]? = some e → GR E p.1 e.key ∧ VR E p.2 e.val
theorem VR.mono {E E' : Env} (h : Ext E E') {g : Option GV} {c : Value} (k : VR E g c) : VR E' g c := by
  cases g with
  | none => exact k
  | some g => exact GR.mono h k

/-- When a map's entries were laid: each at a time of its own. -/
def BornOk (en : Array MapEntry) (ck : Nat) : Prop := (∀ x ∈ en.toList, x.born < ck) ∧ (en.toList.map (·.born)).Nodup
theorem BornOk.empty (ck : Nat) : BornOk #[] ck := ⟨fun x hx => by simp at hx, by simp⟩
theorem BornOk.push {en : Array MapEntry} {ck : Nat} (h : BornOk en ck) (k v : Value) : BornOk (en.push ⟨k, v, ck⟩) (ck + 1) := by
  refine ⟨fun x hx => ?_, ?_⟩
  · rw [Array.toList_push, List.mem_append] at hx
    rcases hx with hx | hx
    · have := h.1 x hx; omega
    · simp at hx; subst hx; exact Nat.lt_succ_self _
  · rw [Array.toList_push, List.map_append, List.nodup_append]
    refine ⟨h.2, by simp, fun a ha b hb e => ?_⟩
    simp at hb
    subst e
    obtain ⟨x, hx, hx2⟩ := List.mem_map.1 ha
    have := h.1 x hx
    omega
theorem BornOk.modify {en : Array MapEntry} {ck : Nat} (h : BornOk en ck) (i : Nat) (k v : Value) : BornOk (en.modify i fun e => { e with key := k, val := v }) ck := by
  have e : ((en.modify i fun e => { e with key := k, val := v }).toList.map (·.born)) = en.toList.map (·.born) := by
    apply List.ext_getElem?
    intro j
    simp only [List.getElem?_map, Array.getElem?_toList, Array.getElem?_modify]
    split
    · cases en[j]? <;> rfl
    · rfl
  refine ⟨fun x hx => ?_, by rw [e]; exact h.2⟩
  have : x.born ∈ en.toList.map (·.born) := by rw [← e]; exact List.mem_map.2 ⟨x, hx, rfl⟩
  obtain ⟨y, hy, hyb⟩ := List.mem_map.1 this
  rw [← hyb]; exact h.1 y hy

/-- A key of several cells: a struct's. -/
def KR2 (E : Env) (ks : List GV) (c : Value) : Prop := AR E (.agg (ks.map .g)) c
def EntriesIn2 (E : Env) (es : List (List GV × Option GV)) (en : Array MapEntry) : Prop :=
  es.length = en.size ∧ ∀ (j : Nat) (p : List GV × Option GV) (e : MapEntry), es[j]? = some p → en[j]? = some e → KR2 E p.1 e.key ∧ VR E p.2 e.val

/-- Where a round has jumped to. -/
def jumpC : Option Nat → Code
  | none => .ret
  | some id => .exit id
/-- The record of a range over a function, between two rounds or behind the last one. -/
def LoopIs (E : Env) (rd : RD) (t : List (Nat × AV)) (j : Option (Option Nat)) (r : Loop) : Prop :=
  r.params = rd.ps ∧ r.assign = rd.assign ∧ r.body = rd.body ∧ r.tmps.size = rd.nt ∧ (match j with
    | none => r.state = .ready ∧ r.pending = none
    | some x => r.state = .done ∧ r.pending = some (jumpC x)) ∧ ∀ (i : Nat) (v : AV), look t i = some v → AR E v (r.tmps.getD i Go.undef)

def HB (E : Env) (id : Nat) : Blk → Prop
  | .cells cs => (E.L id).st = true ∧ ∃ b T C, (E.L id).blk = some b ∧ E.w.heap[b]? = some (.cells C T (0, 0)) ∧ CellsIn E C cs
  | .bld T cs => (E.L id).st = true ∧ ∃ b C, (E.L id).blk = some b ∧ E.w.heap[b]? = some (.cells C T (0, 0)) ∧ CellsIn E C cs
  | .rows sz g els => (E.L id).gen = g ∧ ((E.L id).st = false ∧ 0 < g) ∧ match (E.L id).blk with
    | none => els = [] ∧ (E.L id).cap = 0
    | some b => ∃ T C, E.w.heap[b]? = some (.cells C T (0, 0)) ∧ RowsIn E C sz (E.L id).cap els
  | .trow T sz g els => (E.L id).gen = g ∧ ((E.L id).st = false ∧ 0 < g) ∧ match (E.L id).blk with
    | none => els = [] ∧ (E.L id).cap = 0
    | some b => ∃ C, E.w.heap[b]? = some (.cells C T (0, 0)) ∧ RowsIn E C sz (E.L id).cap els
  | .fro sz g els => (E.L id).gen = g ∧ 0 < g ∧ match (E.L id).blk with
    | none => els = [] ∧ (E.L id).cap = 0
    | some b => b < E.w.heap.size ∧ ¬ E.O b ∧ ∃ T C fr, E.w.heap[b]? = some (.cells C T fr) ∧ RowsIn E C sz (E.L id).cap els
  | .map es => (E.L id).st = true ∧ ∃ b en ck, (E.L id).blk = some b ∧ E.w.heap[b]? = some (.map en ck) ∧ EntriesIn E es en ∧ BornOk en ck
  | .map2 es => (E.L id).st = true ∧ ∃ b en ck, (E.L id).blk = some b ∧ E.w.heap[b]? = some (.map en ck) ∧ EntriesIn2 E es en
  | .lp rd t j => (E.L id).st = true ∧ ∃ b r, (E.L id).blk = some b ∧ E.w.heap[b]? = some (.loop r) ∧ LoopIs E rd t j r
  | .gsen t s => ∃ c, GR E (.sen id t s) c
  | .pend => (E.L id).st = false ∧ (E.L id).gen = 0 ∧ (E.L id).blk = none
  | .hid => ∀ b, (E.L id).blk = some b → b < E.w.heap.size

def Own (H : List Blk) (L : Nat → Lc) (b : Nat) : Prop := ∃ id blk, H[id]? = some blk ∧ blk.live = true ∧ (L id).blk = some b

def Live (H : List Blk) (id : Nat) : Prop := ∃ blk, H[id]? = some blk ∧ blk.live = true

def envOf (w : World) (H : List Blk) (L : Nat → Lc) : Env := ⟨w, Own H L, L, H.length, Live H⟩

structure HR (w : World) (H : List Blk) (L : Nat → Lc) : Prop where
  blk : ∀ (id : Nat) (k : Blk), H[id]? = some k → HB (envOf w H L) id k
  inj : ∀ (i j b : Nat) (x y : Blk), H[i]? = some x → H[j]? = some y → x.live = true → y.live = true → (L i).blk = some b → (L j).blk = some b → i = j

theorem RowsIn.mono {E E' : Env} (h : Ext E E') {C : Array Value} {sz cap : Nat} {els : List (List GV)} (k : RowsIn E C sz cap els) : RowsIn E' C sz cap els :=
  ⟨k.1, k.2.1, fun i el hi => ⟨(k.2.2 i el hi).1, fun j a hj => let ⟨v, h1, h2⟩ := (k.2.2 i el hi).2 j a hj; ⟨v, h1, h2.mono h⟩⟩⟩
theorem CellsIn.mono {E E' : Env} (h : Ext E E') {C : Array Value} {cs : List AV} (k : CellsIn E C cs) : CellsIn E' C cs :=
  ⟨k.1, fun j a hj => let ⟨v, h1, h2, h3⟩ := k.2 j a hj; ⟨v, h1, h2.mono h, h3⟩⟩
theorem EntriesIn.mono {E E' : Env} (h : Ext E E') {es : List (GV × Option GV)} {en : Array MapEntry} (k : EntriesIn E es en) : EntriesIn E' es en :=
  ⟨k.1, fun j p e h1 h2 => ⟨(k.2 j p e h1 h2).1.mono h, (k.2 j p e h1 h2).2.mono h⟩⟩

theorem EntriesIn2.mono {E E' : Env} (h : Ext E E') {es : List (List GV × Option GV)} {en : Array MapEntry} (k : EntriesIn2 E es en) : EntriesIn2 E' es en :=
  ⟨k.1, fun j p e h1 h2 => ⟨AR.mono h (k.2 j p e h1 h2).1, (k.2 j p e h1 h2).2.mono h⟩⟩
theorem LoopIs.mono {E E' : Env} (h : Ext E E') {rd : RD} {t : List (Nat × AV)} {j : Option (Option Nat)} {r : Loop} (k : LoopIs E rd t j r) : LoopIs E' rd t j r :=
  ⟨k.1, k.2.1, k.2.2.1, k.2.2.2.1, k.2.2.2.2.1, fun i v hi => (k.2.2.2.2.2 i v hi).mono h⟩

theorem HB.asCells {E : Env} {id : Nat} {T : TypeId} {cs : List AV} (h : HB E id (.bld T cs)) : HB E id (.cells cs) := by
  obtain ⟨h0, b, C, h1, h2, h3⟩ := h
  exact ⟨h0, b, T, C, h1, h2, h3⟩
theorem HB.asRows {E : Env} {id : Nat} {T : TypeId} {sz g : Nat} {els : List (List GV)} (h : HB E id (.trow T sz g els)) : HB E id (.rows sz g els) := by
  obtain ⟨h0, h1, h2⟩ := h
  refine ⟨h0, h1, ?_⟩
  cases hq : (E.L id).blk with
  | none => rw [hq] at h2; exact h2
  | some b => rw [hq] at h2; obtain ⟨C, h3, h4⟩ := h2; exact ⟨T, C, h3, h4⟩

/-- A live block lies in the world. -/
theorem HB.lt {E : Env} {id b : Nat} {k : Blk} (h : HB E id k) (hl : k.live = true) (hb : (E.L id).blk = some b) : b < E.w.heap.size := by
  have key : ∀ (b' : Nat) (o : Obj), E.w.heap[b']? = some o → b' < E.w.heap.size := fun b' o h => (Array.getElem?_eq_some_iff.1 h).1
  cases k with
  | cells cs => obtain ⟨_, b', T, C, h1, h2, _⟩ := h; rw [hb] at h1; cases h1; exact key _ _ h2
  | bld T cs => obtain ⟨_, b', C, h1, h2, _⟩ := h; rw [hb] at h1; cases h1; exact key _ _ h2
  | rows sz g els => obtain ⟨_, _, h⟩ := h; rw [hb] at h; obtain ⟨T, C, h2, _⟩ := h; exact key _ _ h2
  | trow T sz g els => obtain ⟨_, _, h⟩ := h; rw [hb] at h; obtain ⟨C, h2, _⟩ := h; exact key _ _ h2
  | fro sz g els => simp [Blk.live] at hl
  | gsen t s => simp [Blk.live] at hl
  | map es => obtain ⟨_, b', en, ck, h1, h2, _⟩ := h; rw [hb] at h1; cases h1; exact key _ _ h2
  | map2 es => obtain ⟨_, b', en, ck, h1, h2, _⟩ := h; rw [hb] at h1; cases h1; exact key _ _ h2
  | lp rd t j => obtain ⟨_, b', r, h1, h2, _⟩ := h; rw [hb] at h1; cases h1; exact key _ _ h2
  | pend => obtain ⟨_, _, h⟩ := h; rw [hb] at h; cases h
  | hid => exact h b hb

theorem Own.lt {w : World} {H : List Blk} {L : Nat → Lc} (h : HR w H L) {b : Nat} (hb : Own H L b) : b < w.heap.size := by
  obtain ⟨id, k, h1, h2, h3⟩ := hb
  exact (h.blk id k h1).lt h2 h3

/-- A block whose place has not changed is what it was. -/
theorem HB.mono {E E' : Env} (h : Ext E E') {id : Nat} {k : Blk} (hL : E'.L id = E.L id)
    (hb : k.live = true → ∀ b, (E.L id).blk = some b → E'.w.heap[b]? = E.w.heap[b]?) (hk : HB E id k) : HB E' id k := by
  cases k with
  | cells cs =>
    obtain ⟨h0, b, T, C, h1, h2, h3⟩ := hk
    exact ⟨by rw [hL]; exact h0, b, T, C, by rw [hL]; exact h1, by rw [hb rfl b h1]; exact h2, h3.mono h⟩
  | rows sz g els =>
    obtain ⟨h0, h1, h2⟩ := hk
    refine ⟨by rw [hL]; exact h0, ⟨by rw [hL]; exact h1.1, h1.2⟩, ?_⟩
    rw [hL]
    cases hq : (E.L id).blk with
    | none => rw [hq] at h2; exact h2
    | some b => rw [hq] at h2; obtain ⟨T, C, h3, h4⟩ := h2; exact ⟨T, C, by rw [hb rfl b hq]; exact h3, h4.mono h⟩
  | bld T cs =>
    obtain ⟨h0, b, C, h1, h2, h3⟩ := hk
    exact ⟨by rw [hL]; exact h0, b, C, by rw [hL]; exact h1, by rw [hb rfl b h1]; exact h2, h3.mono h⟩
  | trow T sz g els =>
    obtain ⟨h0, h1, h2⟩ := hk
    refine ⟨by rw [hL]; exact h0, ⟨by rw [hL]; exact h1.1, h1.2⟩, ?_⟩
    rw [hL]
    cases hq : (E.L id).blk with
    | none => rw [hq] at h2; exact h2
    | some b => rw [hq] at h2; obtain ⟨C, h3, h4⟩ := h2; exact ⟨C, by rw [hb rfl b hq]; exact h3, h4.mono h⟩
  | fro sz g els =>
    obtain ⟨h0, h1, h2⟩ := hk
    refine ⟨by rw [hL]; exact h0, h1, ?_⟩
    rw [hL]
    cases hq : (E.L id).blk with
    | none => rw [hq] at h2; exact h2
    | some b =>
      rw [hq] at h2; obtain ⟨h3, h4, T, C, fr, h5, h6⟩ := h2
      obtain ⟨k1, k2⟩ := h.keep b h3 h4
      exact ⟨Nat.lt_of_lt_of_le h3 h.size, k2, T, C, fr, by rw [k1]; exact h5, h6.mono h⟩
  | map es =>
    obtain ⟨h0, b, en, ck, h1, h2, h3, h4⟩ := hk
    exact ⟨by rw [hL]; exact h0, b, en, ck, by rw [hL]; exact h1, by rw [hb rfl b h1]; exact h2, h3.mono h, h4⟩
  | map2 es =>
    obtain ⟨h0, b, en, ck, h1, h2, h3⟩ := hk
    exact ⟨by rw [hL]; exact h0, b, en, ck, by rw [hL]; exact h1, by rw [hb rfl b h1]; exact h2, h3.mono h⟩
  | lp rd t j =>
    obtain ⟨h0, b, r, h1, h2, h3⟩ := hk
    exact ⟨by rw [hL]; exact h0, b, r, by rw [hL]; exact h1, by rw [hb rfl b h1]; exact h2, h3.mono h⟩
  | gsen t s => obtain ⟨c, hc⟩ := hk; exact ⟨c, hc.mono h⟩
  | pend => rw [HB, hL]; exact hk
  | hid => intro b hb'; rw [hL] at hb'; exact Nat.lt_of_lt_of_le (hk b hb') h.size

end Go.AM
end
section
namespace Go.AM
open Go

/-- The kinds of cells that are compared. -/
inductive LK where
  | b | i | s
  deriving Inhabited, DecidableEq

inductive AOp where
  | mov (x : Opd)
  | pick (c a b : Opd)
  | bin (op : BinOp) (x y : Opd)
  | eqs (neq agg : Bool) (ks : List LK) (x y : Opd)
  | isnil (neq : Bool) (kd : Nat) (x : Opd)
  | isnilS (neq : Bool) (x : Opd)
  | un (op : UnOp) (x : Opd)
  | conv (k : IntKind) (x : Opd)
  | convId (x : Opd)
  | convBS (x : Opd)
  | field (agg : Bool) (off n : Nat) (x : Opd)
  | faddr (off : Nat) (p : Opd)
  | iaddr (sz : Nat) (x i : Opd)
  | iaddrA (len sz : Nat) (p i : Opd)
  | index (x i : Opd)
  | indexA (agg : Bool) (len sz : Nat) (x i : Opd)
  | load (agg : Bool) (n : Nat) (p : Opd)
  | glob (g : Nat)
  | ext (j : Nat) (x : Opd)
  | len (x : Opd)
  | lenS (x : Opd)
  | cap (x : Opd)
  | mx (x : Opd) (xs : List Opd)
  | mn (x : Opd) (xs : List Opd)
  | build (z : List AV) (ps : List (Nat × Nat × Opd))
  | slc (sz : Nat) (x : Opd) (lo hi : Option Opd)
  | slc3 (sz : Nat) (x : Opd) (lo hi mx : Option Opd)
  | slcS (x : Opd) (lo hi : Option Opd)
  | mkif (t : TypeId) (x : Opd)
  | mkfn (f : FuncId) (caps : List Opd)
  | mkbv (f : FuncId) (first : List Opd)
  | mkvia (t : TypeId) (path : List FieldStep) (f : FuncId) (pointer : Bool)
  | nilchk (x : Opd)
  -- those that act
  | nres (sz : Nat)
  | mk0 (sz : Nat)
  | alloc (z : List Z)
  | allocAt (k : Nat) (z : List Z)
  | allocT (T e : TypeId) (z : List Z)
  | box (x : Opd)
  | bslice (sz len : Nat) (z : List GV) (ps : List (Nat × Nat × Opd))
  | store (n : Nat) (p x : Opd)
  | mk (sz bytes : Nat) (z : List GV) (len cap : Opd)
  | app (sz bytes : Nat) (x y : Opd)
  | appS (x y : Opd)
  | appZ (sz bytes : Nat) (z : List GV) (x n : Opd)
  | clear (z : List GV) (x : Opd)
  | convSB (x : Opd)
  | toU (x : Opd)
  | fromU (ts : List (TypeId × Nat)) (x : Opd)
  | sdata (x : Opd)
  | ustr (e : TypeId) (p n : Opd)
  | neqp (x y : Opd)
  | mkmap
  | mget (comma : Bool) (kk : LK) (z : Option GV) (x k : Opd)
  | mset (kk : LK) (x k v : Opd)
  | appT (e : TypeId) (x y : Opd)
  | mkmap2
  | mget2 (comma : Bool) (ks : List LK) (z : Option GV) (x k : Opd)
  | mset2 (ks : List LK) (x k v : Opd)
  | ycall (f : Opd) (xs : List Opd)
  | call (f : Opd) (xs : List Opd)
  | row (k : Nat) (xs : List Opd)
  deriving Inhabited

structure AOper where
  d : Option Nat
  gd : Option (Nat × Bool)
  op : AOp
  deriving Inhabited

/-- The ways of a region that draws its order: what may be taken first, and what comes alone or in any order. -/
inductive Tree where
  | leaf
  | take (o : AOper) (t : Tree)
  | one (o : AOper) (t : Tree)
  | alt (o : AOper) (t r : Tree)
  | free (t : Tree)
  | hold (ts : List Nat) (t : Tree)
  deriving Inhabited

inductive Ex where
  | normal
  | exit (id : Nat)
  | ret
  deriving Inhabited, DecidableEq

inductive IC where
  | skip
  | reg (lv : List Nat) (ops : List AOper)
  | drw (lv : List Nat) (nb : Nat) (t : Tree)
  | seq (a b : IC)
  | cond (lv : List Nat) (c : Opd) (a b : IC)
  | block (lv : List Nat) (id : Nat) (c : IC)
  | loop (lv lv2 : List Nat) (c : IC)
  | regy (lv : List Nat) (ops : List AOper)
  | rfun (lv : List Nat) (rd : RD) (lt : List Nat) (f : Opd)
  | exit (id : Nat)
  | ret
  deriving Inhabited

inductive RV where
  | tmp (t : Nat)
  | cell (t : Nat) (agg : Bool) (n : Nat)
  deriving Inhabited

structure IFunc where
  np : Nat
  nt : Nat
  rs : List RV
  esc : Bool
  body : IC
  deriving Inhabited

/-! ### Binary operations -/
def intOp (op : BinOp) (k : IntKind) (a b : Int) : Option GV :=
  match op with
  | .add => some (.int k (k.wrap (a + b)))
  | .sub => some (.int k (k.wrap (a - b)))
  | .mul => some (.int k (k.wrap (a * b)))
  | .quo => if b = 0 then none else some (.int k (k.wrap (a.tdiv b)))
  | .rem => if b = 0 then none else some (.int k (a.tmod b))
  | .and => some (.int k (k.wrap (BitVec.ofInt k.bits a &&& BitVec.ofInt k.bits b).toNat))
  | .or => some (.int k (k.wrap (BitVec.ofInt k.bits a ||| BitVec.ofInt k.bits b).toNat))
  | .xor => some (.int k (k.wrap (BitVec.ofInt k.bits a ^^^ BitVec.ofInt k.bits b).toNat))
  | .andNot => some (.int k (k.wrap (BitVec.ofInt k.bits a &&& ~~~ BitVec.ofInt k.bits b).toNat))
  | .eql => some (.bool (a == b))
  | .neq => some (.bool (a != b))
  | .lss => some (.bool (decide (a < b)))
  | .leq => some (.bool (decide (a ≤ b)))
  | .gtr => some (.bool (decide (a > b)))
  | .geq => some (.bool (decide (a ≥ b)))
  | _ => none

def shiftOp (op : BinOp) (k : IntKind) (a b : Int) : Option GV :=
  if b < 0 then none else match op with
  | .shl => some (.int k (k.wrap (a * 2 ^ (min b.toNat k.bits))))
  | .shr => some (.int k (a.fdiv (2 ^ (min b.toNat k.bits))))
  | _ => none

def strOp (op : BinOp) (a b : List UInt8) : Option GV :=
  match op with
  | .add => if a.length + b.length ≤ 9223372036854775807 then some (.str (a ++ b)) else none
  | .eql => some (.bool (a == b))
  | .neq => some (.bool (!(a == b)))
  | .lss => some (.bool (Op.bytesLess a b))
  | .leq => some (.bool (Op.bytesLess a b || a == b))
  | .gtr => some (.bool (!(Op.bytesLess a b || a == b)))
  | .geq => some (.bool (!(Op.bytesLess a b)))
  | _ => none

def binV (op : BinOp) (x y : AV) : Option AV :=
  match x, y with
  | .g (.int k a), .g (.int k' b) => match op with
    | .shl => (shiftOp .shl k a b).map .g
    | .shr => (shiftOp .shr k a b).map .g
    | _ => if k = k' then (intOp op k a b).map .g else none
  | .g (.str a), .g (.str b) => (strOp op a b).map .g
  | _, _ => none

/-- Is a pointer (0), an interface's value (1), a function (2), a map (3) nil? -/
def isNil : Nat → AV → Option Bool
  | 0, .g .nptr | 1, .g .nif | 2, .g .nfn | 3, .g .nmap => some true
  | 0, .ptr .. | 0, .cp _ | 1, .g (.ifc ..) | 1, .g (.sen ..) | 1, .ifa .. | 2, .g (.fn _) | 2, .fv .. | 2, .bv .. | 2, .via .. | 3, .mp _ => some false
  | _, _ => none

def eqG : LK → GV → GV → Option Bool
  | .b, .bool a, .bool b => some (a == b)
  | .i, .int k a, .int k' b => if k = k' then some (a == b) else none
  | .s, .str a, .str b => some (a == b)
  | _, _, _ => none

def eqL : List LK → List AV → List AV → Option Bool
  | [], [], [] => some true
  | k :: ks, .g a :: as, .g b :: bs => match eqG k a b, eqL ks as bs with
    | some x, some y => some (x && y)
    | _, _ => none
  | _, _, _ => none

def eqV (agg : Bool) (ks : List LK) (x y : AV) : Option Bool :=
  match agg, x, y with
  | true, .agg as, .agg bs => eqL ks as bs
  | false, .g a, .g b => eqL ks [.g a] [.g b]
  | _, _, _ => none

def intOfA : AV → Option Int
  | .g (.int _ n) => some n
  | _ => none

def bnd (s : St) (d : Nat) : Option Opd → Option Int
  | none => some d
  | some x => match val s x with
    | some v => intOfA v
    | none => none

/-- 'lo' and 'hi' of a cut of something of length n. -/
def cutB (s : St) (n : Nat) (lo hi : Option Opd) : Option (Nat × Nat) :=
  match bnd s 0 lo, bnd s n hi with
  | some l, some h => if 0 ≤ l ∧ l ≤ h ∧ h ≤ n then some (l.toNat, h.toNat) else none
  | _, _ => none

def fillA (cs : List AV) (off n : Nat) (vs : List AV) : Option (List AV) :=
  if vs.length = n ∧ off + n ≤ cs.length then some (cs.take off ++ vs ++ cs.drop (off + n)) else none

def fills (s : St) (cs : List AV) : List (Nat × Nat × Opd) → Option (List AV)
  | [] => some cs
  | (off, n, x) :: r => match val s x with
    | some v => match v.cellsO with
      | some vs => match fillA cs off n vs with
        | some cs' => fills s cs' r
        | none => none
      | none => none
    | none => none

def grounds : List AV → Option (List GV)
  | [] => some []
  | .g v :: r => match grounds r with
    | some vs => some (v :: vs)
    | none => none
  | _ => none

def chunk {α : Type} (sz : Nat) : Nat → List α → List (List α)
  | 0, _ => []
  | n + 1, l => l.take sz :: chunk sz n (l.drop sz)

def mx2 (x y : AV) : Option AV :=
  match x, y with
  | .g (.int k a), .g (.int _ b) => some (.g (.int k (if b > a then b else a)))
  | _, _ => none
def mn2 (x y : AV) : Option AV :=
  match x, y with
  | .g (.int k a), .g (.int _ b) => some (.g (.int k (if b < a then b else a)))
  | _, _ => none
def foldV (f : AV → AV → Option AV) : Option AV → List AV → Option AV
  | a, [] => a
  | some a, x :: xs => foldV f (f a x) xs
  | none, _ => none

/-- Does a slice of the calls' own speak of its row as it now stands? -/
def cur (h : List Blk) (s : St) (id g : Nat) : Bool :=
  match getB h s id with
  | some (.rows _ g' _) => g == g'
  | some (.fro _ g' _) => g == g'
  | some (.trow _ _ g' _) => g == g'
  | _ => false

/-- A slice of the calls' own that is nil, as what it is. -/
def nilG (h : List Blk) (s : St) : AV → AV
  | .ms id g sz off len => if g = 1 ∧ cur h s id g = true then .g .nsl else .ms id g sz off len
  | v => v
def orG (x y : Option (List GV)) : Option (List GV) :=
  match x with
  | some a => some a
  | none => y

def lenV (h : List Blk) (s : St) : AV → Option Nat
  | .g (.sl _ els) => some els.length
  | .g .nsl => some 0
  | .ms id g _ _ n => if cur h s id g = true then some n else none
  | _ => none

/-- How many elements a row of the calls' own is known to have. -/
def rowLen (h : List Blk) (s : St) (id g : Nat) : Option Nat :=
  match getB h s id with
  | some (.rows _ g' els) => if g = g' then some els.length else none
  | _ => none
/-- A cut that may go on behind a slice's length, as far as its row is known. -/
def slcW (h : List Blk) (s : St) (id g sz off : Nat) (lo : Option Opd) : Option Opd → Option (AV × List Nat)
  | some hi => match rowLen h s id g with
    | some n => if off ≤ n then match cutB s (n - off) lo (some hi) with
        | some (l, u) => some (.ms id g sz (off + l) (u - l), [])
        | none => none
      else none
    | none => none
  | none => none
/-- A cut of three numbers is looked at alone for its bounds. -/
def slc3V (h : List Blk) (s : St) (k : Nat) (lo hi : Opd) : AV → AV → Option (AV × List Nat)
  | .ms id g sz _ len, .g (.int _ m) => if k = sz ∧ cur h s id g = true ∧ 0 ≤ m ∧ m ≤ len then match cutB s m.toNat (some lo) (some hi) with
      | some _ => some (.any, [])
      | none => none
    else none
  | _, _ => none

def sub (agg : Bool) (n : Nat) (cs : List AV) : Option AV := if cs.length = n then one agg cs else none

/-- Is a slice nil? A row of the calls' own is, till it is made: its first turn. -/
def isNilS (h : List Blk) (s : St) : AV → Option Bool
  | .g .nsl => some true
  | .g (.sl _ _) => some false
  | .ms id g _ _ _ => if cur h s id g = true then some (g == 1) else none
  | _ => none

/-- What an operation yields that leaves memory as it is; and the blocks of the calls' own that it reads. -/
def evP (h : List Blk) (s : St) : AOp → Option (AV × List Nat)
  | .mov x => (val s x).map (·, [])
  | .pick c a b => match val s c with
    | some (.g (.bool x)) => if x = true then (val s a).map (·, []) else (val s b).map (·, [])
    | _ => none
  | .bin op x y => match val s x, val s y with
    | some a, some b => (binV op a b).map (·, [])
    | _, _ => none
  | .eqs neq ag ks x y => match val s x, val s y with
    | some a, some b => match eqV ag ks a b with
      | some r => some (.g (.bool (if neq then !r else r)), [])
      | none => none
    | _, _ => none
  | .isnil neq kd x => match val s x with
    | some v => match isNil kd v with
      | some r => some (.g (.bool (if neq then !r else r)), [])
      | none => none
    | none => none
  | .isnilS neq x => match val s x with
    | some v => match isNilS h s v with
      | some r => some (.g (.bool (if neq then !r else r)), [])
      | none => none
    | none => none
  | .un op x => match op, val s x with
    | .not, some (.g (.bool b)) => some (.g (.bool (!b)), [])
    | .neg, some (.g (.int k n)) => some (.g (.int k (k.wrap (-n))), [])
    | _, _ => none
  | .conv k x => match val s x with
    | some (.g (.int _ n)) => some (.g (.int k (k.wrap n)), [])
    | _ => none
  | .convId x => match val s x with
    | some (.g (.str b)) => some (.g (.str b), [])
    | _ => none
  | .field agg off n x => match val s x with
    | some (.agg cs) => (sub agg n ((cs.drop off).take n)).map (·, [])
    | _ => none
  | .faddr off p => match val s p with
    | some (.ptr id o) => some (.ptr id (o + off), [])
    | some (.cp cs) => some (.cp (cs.drop off), [])
    | some (.rp id g sz i o) => if cur h s id g = true then some (.rp id g sz i (o + off), []) else none
    | _ => none
  | .iaddr sz x i => match val s x, val s i with
    | some (.g (.sl sz' els)), some (.g (.int _ n)) => if sz = sz' ∧ 0 ≤ n then match els[n.toNat]? with
        | some el => some (.cp el, [])
        | none => none
      else none
    | some (.ms id g sz' off len), some (.g (.int _ n)) => if sz = sz' ∧ 0 ≤ n ∧ n < len ∧ cur h s id g = true then some (.rp id g sz (off + n.toNat) 0, []) else none
    | _, _ => none
  | .iaddrA len sz p i => match val s p, val s i with
    | some (.ptr id o), some (.g (.int _ n)) => if 0 ≤ n ∧ n < len then some (.ptr id (o + n.toNat * sz), []) else none
    | some (.cp cs), some (.g (.int _ n)) => if 0 ≤ n ∧ n < len then some (.cp (cs.drop (n.toNat * sz)), []) else none
    | _, _ => none
  | .index x i => match val s x, val s i with
    | some (.g (.str b)), some (.g (.int _ n)) => if 0 ≤ n then match b[n.toNat]? with
        | some c => some (.g (.int .u8 c.toNat), [])
        | none => none
      else none
    | _, _ => none
  | .indexA agg len sz x i => match val s x, val s i with
    | some (.agg cs), some (.g (.int _ n)) => if 0 ≤ n ∧ n < len then (sub agg sz ((cs.drop (n.toNat * sz)).take sz)).map (·, []) else none
    | _, _ => none
  | .load agg n p => match val s p with
    | some (.ptr id o) => match getB h s id with
      | some (.cells cs) => (sub agg n ((cs.drop o).take n)).map (·, [id])
      | some (.bld _ cs) => (sub agg n ((cs.drop o).take n)).map (·, [id])
      | _ => none
    | some (.cp cs) => (sub agg n ((cs.take n).map .g)).map (·, [])
    | some (.rp id g sz i o) => match getB h s id with
      | some (.rows sz' g' els) => if g = g' ∧ sz = sz' then match els[i]? with
          | some el => (sub agg n (((el.drop o).take n).map .g)).map (·, [id])
          | none => none
        else none
      | _ => none
    | _ => none
  | .glob g => match getB h s g with
    | some (.gsen t b) => some (.g (.sen g t b), [])
    | _ => none
  | .ext j x => match val s x with
    | some (.tup vs) => match vs[j]? with
      | some v => some (v, [])
      | none => none
    | _ => none
  | .len x => match val s x with
    | some v => match lenV h s v with
      | some n => some (.g (.int .i64 n), [])
      | none => none
    | none => none
  | .lenS x => match val s x with
    | some (.g (.str b)) => some (.g (.int .i64 b.length), [])
    | _ => none
  | .cap x => match val s x with
    | some (.g .nsl) => some (.g (.int .i64 0), [])
    | _ => none
  | .mx x xs => match vals s xs with
    | some vs => (foldV mx2 (val s x) vs).map (·, [])
    | none => none
  | .mn x xs => match vals s xs with
    | some vs => (foldV mn2 (val s x) vs).map (·, [])
    | none => none
  | .build z ps => match fills s z ps with
    | some cs => some (.agg cs, [])
    | none => none
  | .slc k x lo hi => match val s x with
    | some (.g (.sl sz els)) => if k = sz then match cutB s els.length lo hi with
        | some (l, u) => some (.g (.sl sz ((els.take u).drop l)), [])
        | none => none
      else none
    | some (.g .nsl) => match cutB s 0 lo hi with
      | some _ => some (.g .nsl, [])
      | none => none
    | some (.ms id g sz off len) => if k = sz then match cutB s len lo hi with
        | some (l, u) => if cur h s id g = true then some (.ms id g sz (off + l) (u - l), []) else none
        | none => slcW h s id g sz off lo hi
      else none
    | _ => none
  | .slc3 k x (some lo) (some hi) (some mx) => match val s x, val s mx with
    | some v, some m => slc3V h s k lo hi v m
    | _, _ => none
  | .slcS x lo hi => match val s x with
    | some (.g (.str b)) => match cutB s b.length lo hi with
      | some (l, u) => some (.g (.str ((b.take u).drop l)), [])
      | none => none
    | _ => none
  | .mkif t x => match val s x with
    | some (.g v) => some (.g (.ifc t v), [])
    | some (.ptr i o) => some (.ifa t (.ptr i o), [])
    | _ => none
  | .mkfn f caps => match caps with
    | [] => some (.g (.fn f), [])
    | _ => match vals s caps with
      | some vs => some (.fv f vs, [])
      | none => none
  | .mkbv f first => match vals s first with
    | some vs => some (.bv f vs, [])
    | none => none
  | .mkvia t path f p => some (.via t path f p, [])
  | .nilchk x => match val s x with
    | some (.ptr i o) => some (.ptr i o, [])
    | some (.cp cs) => some (.cp cs, [])
    | some (.fv f cs) => some (.fv f cs, [])
    | some (.g (.fn f)) => some (.g (.fn f), [])
    | some (.g (.ifc t v)) => some (.g (.ifc t v), [])
    | some (.ifa t v) => some (.ifa t v, [])
    | _ => none
  | _ => none

end Go.AM
end
section
namespace Go.AM
open Go

def szT (P : Program) (t : TypeId) : Option Nat := (P.info? t).map (·.size)
def bytesT (P : Program) (t : TypeId) : Option Nat := (P.info? t).map (·.bytes)
def aggT (P : Program) (t : TypeId) : Option Bool :=
  match P.underlying t with
  | some (.struct _) | some (.array _ _) => some true
  | some _ => some false
  | none => none
def fieldT (P : Program) (t : TypeId) (i : Nat) : Option Field :=
  match P.underlying t with
  | some (.struct fs) => fs[i]?
  | _ => none
def elemT (P : Program) (t : TypeId) : Option TypeId :=
  match P.underlying t with
  | some (.slice e) => some e
  | _ => none

def cVal : Value → Option AV
  | .bool b => some (.g (.bool b))
  | .int k n => some (.g (.int k n))
  | .string s => some (.g (.str s.data.toList))
  | .pointer none => some (.g .nptr)
  | .slice none 0 0 => some (.g .nsl)
  | .map none => some (.g .nmap)
  | .nilFunc => some (.g .nfn)
  | .nilIface => some (.g .nif)
  | _ => none

def cOpd : Operand → Option Opd
  | .tmp t => some (.t t)
  | .const v => (cVal v).map .c
  | .func f => some (.c (.g (.fn f)))
  | .global _ => none

def cOpds : List Operand → Option (List Opd)
  | [] => some []
  | x :: xs => match cOpd x, cOpds xs with
    | some y, some ys => some (y :: ys)
    | _, _ => none

def cOpt : Option Operand → Option (Option Opd)
  | none => some none
  | some x => (cOpd x).map some

/-- A zero value's cells, as ground values. -/
def cZero (P : Program) (t : TypeId) : Option (List AV) :=
  match (P.info? t).bind (·.zero) with
  | some z => z.cells.toList.mapM cVal
  | none => none

def gOf : AV → Option GV
  | .g v => some v
  | _ => none

/-- Of a row's elements: how many cells, how many bytes, the zero cells. -/
def rowT (P : Program) (e : TypeId) : Option (Nat × Nat × List GV) :=
  match szT P e, bytesT P e, cZero P e with
  | some n, some b, some z => match z.mapM gOf with
    | some g => if g.length = n then some (n, b, g) else none
    | none => none
  | _, _, _ => none

/-- The kind of each cell of a type: of a slice, the size of its elements. -/
def zcells (P : Program) : Nat → TypeId → Option (List (Option Nat))
  | 0, _ => none
  | d + 1, t => match P.underlying t with
    | some (.struct fs) => (fs.toList.mapM fun f => zcells P d f.type).map List.flatten
    | some (.slice e) => (szT P e).map fun n => [some n]
    | some (.array n e) => (zcells P d e).map fun l => (List.replicate n l).flatten
    | some _ => some [none]
    | none => none

def cZ (P : Program) (t : TypeId) : Option (List Z) :=
  match cZero P t, zcells P 20 t with
  | some zs, some ks => if zs.length = ks.length then (zs.zip ks).mapM (fun (z, k) => match z, k with
      | .g .nsl, some n => some (.s n)
      | .g v, _ => some (.z v)
      | _, _ => none) else none
  | _, _ => none

/-- Fields, one behind the other, by what their types tell. -/
def flatF (K : TypeId → Option (List LK)) : List Field → Nat → Option (List LK)
  | [], _ => some []
  | f :: fs, n => if f.name ≠ "_" ∧ f.offset = n then
      match K f.type with
      | some ks => match flatF K fs (n + ks.length) with
        | some r => some (ks ++ r)
        | none => none
      | none => none
    else none

/-- The cells of a type that is made of bools, whole numbers and texts alone, in order. -/
def flatK (P : Program) : Nat → TypeId → Option (List LK)
  | 0, _ => none
  | d + 1, t => match P.underlying t with
    | some .bool => if szT P t = some 1 then some [.b] else none
    | some (.int _) => if szT P t = some 1 then some [.i] else none
    | some .string => if szT P t = some 1 then some [.s] else none
    | some (.struct fs) => if P.stoodInHeld t then none else match flatF (flatK P d) fs.toList 0 with
      | some ks => if szT P t = some ks.length then some ks else none
      | none => none
    | _ => none

def nilK (P : Program) (t : TypeId) (x : Operand) : Option Nat :=
  match P.underlying t, x with
  | some (.pointer _), .const (.pointer none) => some 0
  | some (.interface _), .const .nilIface => some 1
  | some (.func ..), .const .nilFunc => some 2
  | some (.map ..), .const (.map none) => some 3
  | _, _ => none

def nilSl (P : Program) (t : TypeId) (x : Operand) : Bool :=
  match P.underlying t, x with
  | some (.slice _), .const (.slice none 0 0) => true
  | _, _ => false

def ptrT (P : Program) (t : TypeId) : Bool :=
  match P.underlying t with
  | some (.pointer e) => (P.info? e).isSome
  | _ => false

def scalarT (P : Program) (t : TypeId) : Bool :=
  match P.underlying t with
  | some (.int _) | some .string => true
  | _ => false

def places (P : Program) (t : TypeId) : Option (Nat → Option (Nat × Nat)) :=
  match P.underlying t with
  | some (.struct fs) => match fs.toList.mapM (fun f => (szT P f.type).map fun n => (f.offset, n)) with
    | some l => some (l[·]?)
    | none => none
  | some (.array _ e) => (szT P e).map fun n i => some (i * n, n)
  | _ => none

def cParts (pl : Nat → Option (Nat × Nat)) : List (Nat × Operand) → Option (List (Nat × Nat × Opd))
  | [] => some []
  | (i, x) :: r => match pl i, cOpd x, cParts pl r with
    | some (o, n), some y, some l => some ((o, n, y) :: l)
    | _, _, _ => none

def intT (P : Program) (t : TypeId) : Option IntKind :=
  match P.underlying t with
  | some (.int k) => some k
  | _ => none

/-- A type that begins with a variable of a type whose first cell points to its own like (a strings.Builder): that type. -/
def bldT (P : Program) : Nat → TypeId → Option TypeId
  | 0, _ => none
  | d + 1, t => match P.underlying t with
    | some (.struct fs) => match fs.toList with
      | f :: _ => match P.underlying f.type with
        | some (.pointer u) => if u = t then some t else none
        | some (.struct _) => bldT P d f.type
        | _ => none
      | [] => none
    | _ => none

/-- Of such a type: the type of the elements of its second cell. -/
def bldE (P : Program) (t : TypeId) : Option TypeId :=
  match bldT P 5 t with
  | some u => match P.underlying u with
    | some (.struct fs) => match fs.toList with
      | [_, f] => elemT P f.type
      | _ => none
    | _ => none
  | none => none

/-- The types, with their cells, at whose beginning a variable of type u lies. -/
def bldTs (P : Program) (u : TypeId) : List (TypeId × Nat) :=
  ((List.range P.types.size).filter fun t => bldT P 5 t == some u && liesAt P P.depth t (P.cellsOf t / P.cellsOf t) 0 u 1).map fun t => (t, P.cellsOf t)

/-- The kind of a map's keys, and the zero of its values. -/
def keyK (P : Program) (t : TypeId) : Option LK :=
  match P.underlying t with
  | some .bool => some .b
  | some (.int _) => some .i
  | some .string => some .s
  | _ => none
def elZ (P : Program) (t : TypeId) : Option (Option GV) :=
  match (P.info? t).bind (·.zero) with
  | some (.agg cs) => if cs.size = 0 then some none else none
  | some z => match cVal z with
    | some (.g g) => some (some g)
    | _ => none
  | none => none
def mapT (P : Program) (t : TypeId) : Option (LK × Option GV) :=
  match P.underlying t with
  | some (.map key elem) => match keyK P key, elZ P elem with
    | some kk, some z => some (kk, z)
    | _, _ => none
  | _ => none

/-- Fields of one cell each, one behind the other. -/
def simpleF (P : Program) : List Field → Nat → Bool
  | [], _ => true
  | f :: fs, i => (f.name != "_" && f.offset == i && szT P f.type == some 1 && match P.underlying f.type with
      | some .bool | some (.int _) | some .string => true
      | _ => false) && simpleF P fs (i + 1)
def keyS (P : Program) (t : TypeId) : Option (List LK) :=
  match P.underlying t with
  | some (.struct fs) => if simpleF P fs.toList 0 = true then flatK P 20 t else none
  | _ => none
def mapT2 (P : Program) (t : TypeId) : Option (List LK × Option GV) :=
  match P.underlying t with
  | some (.map key elem) => match keyS P key, elZ P elem with
    | some ks, some z => some (ks, z)
    | _, _ => none
  | _ => none

def cBuiltin (P : Program) (b : Builtin) (ts : Array TypeId) (xs : List Opd) : Option AOp :=
  match b with
  | .len => match xs, P.underlying (ts.getD 0 0) with
    | [x], some .string => if ts.size = 1 then some (.lenS x) else none
    | [x], some (.slice _) => if ts.size = 1 then some (.len x) else none
    | _, _ => none
  | .cap => match xs, P.underlying (ts.getD 0 0) with
    | [x], some (.slice _) => if ts.size = 1 then some (.cap x) else none
    | _, _ => none
  | .max => match xs with
    | x :: xs => some (.mx x xs)
    | _ => none
  | .min => match xs with
    | x :: xs => some (.mn x xs)
    | _ => none
  | .append => match xs, P.underlying (ts.getD 0 0), P.underlying (ts.getD 1 0) with
    | [x, y], some (.slice e), some (.slice _) => if ts.size = 2 then match rowT P e with
        | some r => some (.app r.1 r.2.1 x y)
        | none => none
      else none
    | [x, y], some (.slice e), some .string => if ts.size = 2 then match rowT P e with
        | some r => if r.1 = 1 ∧ r.2.1 = 1 then some (.appT e x y) else none
        | none => none
      else none
    | [x, y], some (.slice e), some (.int _) => if ts.size = 2 then match rowT P e with
        | some r => some (.appZ r.1 r.2.1 r.2.2 x y)
        | none => none
      else none
    | _, _, _ => none
  | .unsafeSliceData => match xs with
    | [x] => some (.sdata x)
    | _ => none
  | .unsafeString => match xs, P.underlying (ts.getD 0 0) with
    | [x, y], some (.pointer e) => if ts.size = 2 ∧ P.cellsOf e = 1 then some (.ustr e x y) else none
    | _, _ => none
  | .clear => match xs, P.underlying (ts.getD 0 0) with
    | [x], some (.slice e) => if ts.size = 1 then match rowT P e with
        | some r => some (.clear r.2.2 x)
        | none => none
      else none
    | _, _ => none
  | _ => none

def cCall (P : Program) (c : Call) (_t : TypeId) : Option AOp :=
  match c.callee with
  | .value f => match cOpd f, cOpds c.args.toList with
    | some f, some xs => some (.call f xs)
    | _, _ => none
  | .invoke .. => none
  | .builtin b => match cOpds c.args.toList with
    | some xs => cBuiltin P b c.argTypes xs
    | none => none

def cOp (P : Program) (drw : Option Nat) (o : Oper) : Option AOp :=
  match o.op with
  | .move x => (cOpd x).map .mov
  | .assign x => match drw, x with
    | none, .const (.slice none 0 0) => match elemT P o.type with
      | some e => match szT P e with
        | some n => some (.nres n)
        | none => none
      | none => none
    | _, _ => (cOpd x).map .mov
  | .pick c a b => do some (.pick (← cOpd c) (← cOpd a) (← cOpd b))
  | .binOp op t x y _ => do
    let x' ← cOpd x
    let y' ← cOpd y
    match op with
    | .eql | .neq =>
      if scalarT P t then some (.bin op x' y')
      else match nilK P t y with
        | some k => some (.isnil (op == .neq) k x')
        | none => match nilK P t x with
          | some k => some (.isnil (op == .neq) k y')
          | none => if nilSl P t y = true then some (.isnilS (op == .neq) x') else if nilSl P t x = true then some (.isnilS (op == .neq) y') else if (op == .neq && ptrT P t) = true then some (.neqp x' y') else match flatK P 20 t with
            | some ks => if P.eqGuardType P.depth t = false then (aggT P t).map fun ag => .eqs (op == .neq) ag ks x' y' else none
            | none => none
    | _ => some (.bin op x' y')
  | .unOp op _ x => do some (.un op (← cOpd x))
  | .convert s d x => do
    let x' ← cOpd x
    match P.underlying s, P.underlying d with
    | some (.int _), some (.int k) => some (.conv k x')
    | some .string, some .string => some (.convId x')
    | some .string, some (.slice e) => if intT P e = some .u8 ∧ szT P e = some 1 then some (.convSB x') else none
    | some (.slice e), some .string => if intT P e = some .u8 ∧ szT P e = some 1 then some (.convBS x') else none
    | some (.pointer t), some .unsafePointer => match szT P t with
      | some n => if n ≠ 0 then some (.toU x') else none
      | none => none
    | some .unsafePointer, some (.pointer u) => if (P.info? u).isSome then some (.fromU (bldTs P u) x') else none
    | _, _ => none
  | .field t x f => do
    let fl ← fieldT P t f
    some (.field (← aggT P fl.type) fl.offset (← szT P fl.type) (← cOpd x))
  | .fieldAddr t x f => do
    let fl ← fieldT P t f
    let n ← szT P fl.type
    if n ≠ 0 then some (.faddr fl.offset (← cOpd x)) else none
  | .indexAddr t x i => match P.underlying t with
    | some (.slice e) => do some (.iaddr (← szT P e) (← cOpd x) (← cOpd i))
    | some (.array n e) => do some (.iaddrA n (← szT P e) (← cOpd x) (← cOpd i))
    | _ => none
  | .index t x i => match P.underlying t with
    | some .string => do some (.index (← cOpd x) (← cOpd i))
    | some (.array n e) => do some (.indexA (← aggT P e) n (← szT P e) (← cOpd x) (← cOpd i))
    | _ => none
  | .load t p => do
    let a ← aggT P t
    let n ← szT P t
    match p with
    | .global g => if a = false ∧ n = 1 then some (.glob g) else none
    | p => if a = true ∨ n = 1 then some (.load a n (← cOpd p)) else none
  | .store t p x => do some (.store (← szT P t) (← cOpd p) (← cOpd x))
  | .extract x j => (cOpd x).map (.ext j)
  | .build t ps => do
    let z ← cZero P t
    let pl ← places P t
    let l ← cParts pl ps.toList
    some (.build z l)
  | .slice t x lo hi mx => match P.underlying t with
    | some .string => do if mx.isNone then some (.slcS (← cOpd x) (← cOpt lo) (← cOpt hi)) else none
    | some (.slice e) => do
      if mx.isNone then some (.slc (← szT P e) (← cOpd x) (← cOpt lo) (← cOpt hi)) else some (.slc3 (← szT P e) (← cOpd x) (← cOpt lo) (← cOpt hi) (← cOpt mx))
    | _ => none
  | .makeInterface t x => match P.underlying t with
    | some (.interface _) => none
    | some _ => (cOpd x).map (.mkif t)
    | none => none
  | .makeFunc (.func f) first caps => do if first.size = 0 then some (.mkfn f (← cOpds caps.toList)) else if caps.size = 0 then some (.mkbv f (← cOpds first.toList)) else none
  | .makeFunc (.via t p f q) first caps => if first.size = 0 ∧ caps.size = 0 then some (.mkvia t p.toList f q) else none
  | .nilCheck x => (cOpd x).map .nilchk
  | .alloc t => do
    let z ← cZ P t
    match drw with
    | none => match bldE P t with
      | some e => some (.allocT t e z)
      | none => some (.alloc z)
    | some k => some (.allocAt k z)
  | .box t x => do if (szT P t).isSome then some (.box (← cOpd x)) else none
  | .buildSlice t n ps => match P.underlying t with
    | some (.slice e) => match rowT P e with
      | some r => if n = 0 ∧ ps.size = 0 then some (.mk0 r.1) else match cParts (fun i => some (i * r.1, r.1)) ps.toList with
        | some l => if n * r.1 ≤ 16777216 then some (.bslice r.1 n r.2.2 l) else none
        | none => none
      | none => none
    | _ => none
  | .makeSlice t l c => match P.underlying t with
    | some (.slice e) => match rowT P e, cOpd l, cOpd c with
      | some r, some x, some y => some (.mk r.1 r.2.1 r.2.2 x y)
      | _, _, _ => none
    | _ => none
  | .makeMap t r => if r.isNone then (if (mapT2 P t).isSome then some .mkmap2 else some .mkmap) else none
  | .lookup t x k cm => match mapT P t with
    | some (kk, z) => do some (.mget cm kk z (← cOpd x) (← cOpd k))
    | none => match mapT2 P t with
      | some (ks, z) => do some (.mget2 cm ks z (← cOpd x) (← cOpd k))
      | none => none
  | .mapUpdate t x k v => match mapT P t with
    | some (kk, _) => do some (.mset kk (← cOpd x) (← cOpd k) (← cOpd v))
    | none => match mapT2 P t with
      | some (ks, _) => do some (.mset2 ks (← cOpd x) (← cOpd k) (← cOpd v))
      | none => none
  | .insert t x k v => match mapT P t with
    | some (kk, _) => do some (.mset kk (← cOpd x) (← cOpd k) (← cOpd v))
    | none => none
  | .call c => cCall P c o.type
  | _ => none

end Go.AM
end
section
set_option linter.unusedSimpArgs false
set_option linter.unusedVariables false
namespace Go.AM
open Go

def TR (E : Env) (a : Act) (T : List (Nat × AV)) : Prop := ∀ i v, look T i = some v → AR E v (a.tmps.getD i Go.undef)

/-- A world that shows what is asked of E's: blocks that are nobody's, and those of these numbers. -/
def Sees (E : Env) (rs : List Nat) (w' : World) : Prop :=
  ∀ b, b < E.w.heap.size → (¬ E.O b ∨ ∃ id, id ∈ rs ∧ (E.L id).blk = some b) → w'.heap[b]? = E.w.heap[b]?

theorem cVal_ok {E : Env} {v : Value} {av : AV} (h : cVal v = some av) : AR E av v := by
  unfold cVal at h
  split at h <;> first | (cases h) | skip
  · exact .g (.bool _)
  · exact .g (.int _ _)
  · rename_i s
    have : AR E (.g (.str s.data.toList)) (.string ⟨s.data.toList.toArray⟩) := .g (.str _)
    simpa using this
  · exact .g .nptr
  · exact .g .nsl
  · exact .g .nmap
  · exact .g .nfn
  · exact .g .nif

theorem cOpd_ok {E : Env} {a : Act} {s : St} (ht : TR E a s.t) {x : Operand} {X : Opd} {v : AV} (h : cOpd x = some X) (hv : val s X = some v) : AR E v (a.eval x) := by
  unfold cOpd at h
  split at h
  · cases h; exact ht _ _ hv
  · rename_i u
    cases hu : cVal u with
    | none => simp [hu] at h
    | some w => simp [hu] at h; subst h; simp [val] at hv; subst hv; exact cVal_ok hu
  · cases h; simp [val] at hv; subst hv; exact .g (.fn _)
  · cases h

def isLd : Op → Bool
  | .load .. => true
  | _ => false

/-- What an operation yields: a load in each world that shows as much, all others in any world. -/
def Yl (P : Program) (E : Env) (o : Oper) (a : Act) (v : AV) (rs : List Nat) : Prop :=
  ∃ cv, AR E v cv ∧ ∀ w', (isLd o.op = true → Sees E rs w') → (execOp a.eval o).run P w' = .ok (.value cv) w'

theorem Sees.self (E : Env) (rs : List Nat) : Sees E rs E.w := fun _ _ _ => rfl

/-! ### Binary -/
theorem binV_ok {P : Program} {E : Env} {op : BinOp} {x y v : AV} {cx cy : Value} (t : TypeId) (ox oy : Operand) (h : binV op x y = some v) (hx : AR E x cx) (hy : AR E y cy) :
    ∃ cv, AR E v cv ∧ ∀ w', (do eqGuard op t ox oy cx cy; binOp op t cx cy : Sem Value).run P w' = .ok cv w' := by
  unfold binV at h
  split at h
  · rename_i k a k' b
    cases hx with | g hx => cases hx with | int => cases hy with | g hy => cases hy with | int =>
    cases op <;> simp only [] at h
    case shl =>
      by_cases hb : b < 0
      · simp [shiftOp, hb] at h
      · simp [shiftOp, hb] at h; subst h
        exact ⟨_, .g (.int _ _), fun w' => by simp [eqGuard_at_int, binOp, Op.shift, hb]⟩
    case shr =>
      by_cases hb : b < 0
      · simp [shiftOp, hb] at h
      · simp [shiftOp, hb] at h; subst h
        exact ⟨_, .g (.int _ _), fun w' => by simp [eqGuard_at_int, binOp, Op.shift, hb]⟩
    all_goals
      by_cases hk : k = k'
      · subst hk
        simp only [if_true] at h
        first
          | (by_cases hb : b = 0
             · simp [intOp, hb] at h
             · simp [intOp, hb] at h; subst h
               exact ⟨_, .g (.int _ _), fun w' => by simp [eqGuard_at_int, binOp, Op.intDiv, hb]⟩)
          | (simp [intOp] at h; subst h
             first
              | exact ⟨_, .g (.int _ _), fun w' => by simp [eqGuard_at_int, binOp, Op.intArith, Op.intBits]⟩
              | exact ⟨_, .g (.bool _), fun w' => by simp [eqGuard_at_int, binOp, Op.intCmp]⟩)
      · simp [hk] at h
  · rename_i a b
    cases hx with | g hx => cases hx with | str => cases hy with | g hy => cases hy with | str =>
    cases op <;> simp [strOp] at h
    case add =>
      obtain ⟨_, ⟨h1, rfl⟩, rfl⟩ := h
      refine ⟨_, .g (.str _), fun w' => ?_⟩
      have hs : ¬ ((((a.toArray.size + b.toArray.size : Nat)) : Int) > IntKind.i64.max) := by
        have : IntKind.i64.max = 9223372036854775807 := by decide
        simp only [List.size_toArray, this]; omega
      have e : (ByteArray.mk a.toArray ++ ByteArray.mk b.toArray) = ByteArray.mk (a ++ b).toArray := ByteArray.mk_append_mk a b
      simp only [eqGuard_at_string, binOp, Op.stringOp, pure_bind, Sem.run_ite, ByteArray.size_mk']
      rw [if_neg hs, e]; rfl
    all_goals
      subst h
      exact ⟨_, .g (.bool _), fun w' => by simp [eqGuard_at_string, binOp, Op.stringOp]⟩
  · cases h

/-! ### Equality -/
theorem eqL_append : ∀ (ks : List LK) (a b c d : List AV) (r : Bool) (k2 : List LK), a.length = ks.length → c.length = ks.length → eqL (ks ++ k2) (a ++ b) (c ++ d) = some r →
    ∃ r1 r2, eqL ks a c = some r1 ∧ eqL k2 b d = some r2 ∧ r = (r1 && r2) := by
  intro ks
  induction ks with
  | nil =>
    intro a b c d r k2 h1 h2 h
    simp at h1 h2
    subst h1 h2
    exact ⟨true, r, rfl, h, rfl⟩
  | cons k ks ih =>
    intro a b c d r k2 h1 h2 h
    match a, c, h1, h2, h with
    | x :: xs, y :: ys, h1, h2, h =>
      simp at h1 h2
      cases x <;> cases y <;> simp [eqL] at h
      rename_i gx gy
      cases hg : eqG k gx gy with
      | none => simp [hg] at h
      | some r1 =>
        cases hr : eqL (ks ++ k2) (xs ++ b) (ys ++ d) with
        | none => simp [hg, hr] at h
        | some r2 =>
          simp [hg, hr] at h
          obtain ⟨s1, s2, e1, e2, e3⟩ := ih xs b ys d r2 k2 h1 h2 hr
          exact ⟨r1 && s1, s2, by simp [eqL, hg, e1], e2, by rw [← h, e3, Bool.and_assoc]⟩

theorem eqL_length : ∀ {ks : List LK} {as bs : List AV} {r : Bool}, eqL ks as bs = some r → as.length = ks.length ∧ bs.length = ks.length := by
  intro ks
  induction ks with
  | nil => intro as bs r h; cases as <;> cases bs <;> simp [eqL] at h ⊢
  | cons k ks ih =>
    intro as bs r h
    cases as with
    | nil => simp [eqL] at h
    | cons x xs => cases bs with
      | nil => cases x <;> simp [eqL] at h
      | cons y ys =>
        cases x <;> cases y <;> simp [eqL] at h
        rename_i gx gy
        cases hg : eqG k gx gy with
        | none => simp [hg] at h
        | some r1 =>
          cases hr : eqL ks xs ys with
          | none => simp [hg, hr] at h
          | some r2 => simp [ih hr]

def CRel (E : Env) (as : List AV) (xs : Array Value) : Prop :=
  as.length = xs.size ∧ ∀ (j : Nat) (a : AV) (v : Value), as[j]? = some a → xs[j]? = some v → AR E a v

theorem run_isAgg {P : Program} {t : TypeId} {b : Bool} (h : aggT P t = some b) (w : World) : (isAgg t).run P w = .ok b w := by
  unfold aggT at h
  unfold isAgg
  cases hu : P.underlying t with
  | none => simp [hu] at h
  | some d =>
    rw [Sem.run_bind, run_underlying hu w]
    cases d <;> simp [hu] at h <;> subst h <;> rfl

theorem run_sizeOf {P : Program} {t : TypeId} {n : Nat} (h : szT P t = some n) (w : World) : (sizeOf t).run P w = .ok n w := by
  unfold szT at h
  cases hi : P.info? t with
  | none => simp [hi] at h
  | some i => simp [hi] at h; simp [sizeOf, typeInfo, hi, h]

theorem run_part {P : Program} {t : TypeId} {b : Bool} {n : Nat} (ha : aggT P t = some b) (hs : szT P t = some n) (xs : Array Value) (off : Nat) (w : World) :
    (part t xs off).run P w = if b then .ok (.agg (xs.extract off (off + n))) w else match xs[off]? with
      | some v => .ok v w
      | none => .halt (.stuck "part: no such cell") w := by
  unfold part
  rw [Sem.run_bind, run_isAgg ha]
  cases b
  · simp only [Result.andThen_ok, Bool.false_eq_true, if_false]
    cases xs[off]? <;> rfl
  · simp only [Result.andThen_ok, if_true]
    rw [Sem.run_bind, run_sizeOf hs]
    rfl

theorem CRel.extract {E : Env} {as : List AV} {xs : Array Value} (h : CRel E as xs) (off n : Nat) (hn : off + n ≤ as.length) : CRel E ((as.drop off).take n) (xs.extract off (off + n)) := by
  obtain ⟨h1, h2⟩ := h
  refine ⟨by simp; omega, fun j a v ha hv => ?_⟩
  by_cases hj : j < n
  · rw [List.getElem?_take_of_lt hj, List.getElem?_drop] at ha
    refine h2 (off + j) a v ha ?_
    rw [Array.getElem?_extract] at hv
    split at hv
    · exact hv
    · cases hv
  · rw [List.getElem?_take_eq_none (by omega)] at ha; cases ha

/-- A value of a flat type: one cell, or a struct's. -/
def mkV (agg : Bool) (xs : Array Value) : Value := if agg then .agg xs else xs.getD 0 Go.undef

theorem GR.inv_bool {E : Env} {b : Bool} {v : Value} (h : GR E (.bool b) v) : v = .bool b := by cases h; rfl
theorem GR.inv_int {E : Env} {k : IntKind} {n : Int} {v : Value} (h : GR E (.int k n) v) : v = .int k n := by cases h; rfl
theorem GR.inv_str {E : Env} {s : List UInt8} {v : Value} (h : GR E (.str s) v) : v = .string ⟨s.toArray⟩ := by cases h; rfl
theorem AR.inv_g {E : Env} {g : GV} {v : Value} (h : AR E (.g g) v) : GR E g v := by cases h; assumption

theorem flat_agg {P : Program} {d : Nat} {t : TypeId} {ks : List LK} (h : flatK P d t = some ks) : (∃ b, aggT P t = some b) ∧ szT P t = some ks.length := by
  cases d with
  | zero => simp [flatK] at h
  | succ d =>
    unfold flatK at h
    unfold aggT
    cases hu : P.underlying t with
    | none => simp [hu] at h
    | some u =>
      cases u <;> simp [hu] at h <;> try (obtain ⟨h1, rfl⟩ := h; exact ⟨⟨_, rfl⟩, by simpa using h1⟩)
      case struct fs =>
        obtain ⟨h0, h⟩ := h
        cases hf : flatF (flatK P d) fs.toList 0 with
        | none => simp [hf] at h
        | some ks' => simp [hf] at h; obtain ⟨h1, rfl⟩ := h; exact ⟨⟨_, rfl⟩, h1⟩

theorem one_cell {E : Env} {k : LK} {as bs : List AV} {xs ys : Array Value} {r : Bool} (hx : CRel E as xs) (hy : CRel E bs ys) (he : eqL [k] as bs = some r) :
    ∃ gx gy, eqG k gx gy = some r ∧ GR E gx (xs.getD 0 Go.undef) ∧ GR E gy (ys.getD 0 Go.undef) := by
  obtain ⟨hl1, hl2⟩ := eqL_length he
  obtain ⟨hx1, hx2⟩ := hx
  obtain ⟨hy1, hy2⟩ := hy
  match as, bs, hl1, hl2, he with
  | [x], [y], _, _, he =>
    cases x with
    | g gx => cases y with
      | g gy =>
        simp [eqL] at he
        cases hg : eqG k gx gy with
        | none => simp [hg] at he
        | some r1 =>
          simp [hg] at he
          refine ⟨gx, gy, by rw [← he]; exact hg, ?_, ?_⟩
          · have : xs[0]? = some (xs.getD 0 Go.undef) := by simp at hx1; simp [← hx1]
            exact (hx2 0 _ _ rfl this).inv_g
          · have : ys[0]? = some (ys.getD 0 Go.undef) := by simp at hy1; simp [← hy1]
            exact (hy2 0 _ _ rfl this).inv_g
      | _ => simp [eqL] at he
    | _ => simp [eqL] at he

theorem flat_eq {P : Program} {E : Env} : ∀ (d : Nat) (k : Nat) (t : TypeId) (b : Bool) (ks : List LK) (as bs : List AV) (xs ys : Array Value) (r : Bool) (w : World), flatK P d t = some ks → aggT P t = some b →
    CRel E as xs → CRel E bs ys → eqL ks as bs = some r → (Op.equalIn (d + k) t (mkV b xs) (mkV b ys)).run P w = .ok r w := by
  intro d
  induction d with
  | zero => intro k t b ks as bs xs ys r w h; simp [flatK] at h
  | succ d ih =>
    intro k t b ks as bs xs ys r w h ha hx hy he
    rw [show d + 1 + k = (d + k) + 1 by omega]
    unfold flatK at h
    cases hu : P.underlying t with
    | none => simp [hu] at h
    | some u =>
      cases u <;> simp [hu] at h
      case bool =>
        have hb : false = b := by simpa [aggT, hu] using ha
        obtain ⟨_, rfl⟩ := h
        obtain ⟨gx, gy, hg, h1, h2⟩ := one_cell hx hy he
        subst hb
        simp only [mkV, Bool.false_eq_true, if_false]
        generalize xs.getD 0 Go.undef = X at *; generalize ys.getD 0 Go.undef = Y at *
        cases gx <;> cases gy <;> simp [eqG] at hg
        rw [h1.inv_bool, h2.inv_bool, run_equalIn_bool w _ _ _ _ hu, ← hg]
      case int q =>
        have hb : false = b := by simpa [aggT, hu] using ha
        obtain ⟨_, rfl⟩ := h
        obtain ⟨gx, gy, hg, h1, h2⟩ := one_cell hx hy he
        subst hb
        simp only [mkV, Bool.false_eq_true, if_false]
        generalize xs.getD 0 Go.undef = X at *; generalize ys.getD 0 Go.undef = Y at *
        cases gx <;> cases gy <;> simp [eqG] at hg
        obtain ⟨rfl, hg⟩ := hg
        rw [h1.inv_int, h2.inv_int, run_equalIn_int w _ _ _ _ _ _ hu, ← hg]
      case string =>
        have hb : false = b := by simpa [aggT, hu] using ha
        obtain ⟨_, rfl⟩ := h
        obtain ⟨gx, gy, hg, h1, h2⟩ := one_cell hx hy he
        subst hb
        simp only [mkV, Bool.false_eq_true, if_false]
        generalize xs.getD 0 Go.undef = X at *; generalize ys.getD 0 Go.undef = Y at *
        cases gx <;> cases gy <;> simp [eqG] at hg
        rw [h1.inv_str, h2.inv_str, run_equalIn_string w _ _ _ _ hu, ← hg]
        simp
      case struct fs =>
        have hb : true = b := by simpa [aggT, hu] using ha
        subst hb
        obtain ⟨h0, h⟩ := h
        simp only [mkV, if_true]
        have hfs : P.fieldsOf t = fs := by simp [Program.fieldsOf, hu]
        rw [run_equalIn_struct w _ _ _ _ (by rw [hfs]; exact hu) h0, hfs]
        have key : ∀ (l : List Field) (n : Nat) (ks : List LK) (r : Bool), flatF (flatK P d) l n = some ks → as.length = n + ks.length → bs.length = n + ks.length → eqL ks (as.drop n) (bs.drop n) = some r →
            (Op.eqFields (d + k) xs ys l).run P w = .ok r w := by
          intro l
          induction l with
          | nil =>
            intro n ks r hf hl1 hl2 he
            simp [flatF] at hf
            subst hf
            simp at hl1 hl2
            rw [List.drop_eq_nil_of_le (by omega), List.drop_eq_nil_of_le (by omega)] at he
            simp [eqL] at he
            simp [Op.eqFields, he]
          | cons f l ihl =>
            intro n ks r hf hl1 hl2 he
            simp only [flatF] at hf
            split at hf
            · rename_i hc
              obtain ⟨hc1, hc2⟩ := hc
              cases hk1 : flatK P d f.type with
              | none => simp [hk1] at hf
              | some k1 =>
                cases hk2 : flatF (flatK P d) l (n + k1.length) with
                | none => simp [hk1, hk2] at hf
                | some k2 =>
                  simp [hk1, hk2] at hf
                  subst hf
                  simp at hl1 hl2
                  obtain ⟨⟨b1, hb1⟩, hs1⟩ := flat_agg hk1
                  have e1 : as.drop n = (as.drop n).take k1.length ++ as.drop (n + k1.length) := by rw [← List.drop_drop, List.take_append_drop]
                  have e2 : bs.drop n = (bs.drop n).take k1.length ++ bs.drop (n + k1.length) := by rw [← List.drop_drop, List.take_append_drop]
                  rw [e1, e2] at he
                  obtain ⟨r1, r2, he1, he2, rfl⟩ := eqL_append k1 _ _ _ _ r k2 (by simp; omega) (by simp; omega) he
                  have hx' := hx.extract n k1.length (by omega)
                  have hy' := hy.extract n k1.length (by omega)
                  have hq := ih k f.type b1 k1 _ _ _ _ r1 w hk1 hb1 hx' hy' he1
                  have hp : ∀ (zs : Array Value) (cs : List AV), CRel E cs zs → cs.length = n + (k1.length + k2.length) → 0 < k1.length ∨ b1 = true → (part f.type zs f.offset).run P w = .ok (mkV b1 (zs.extract n (n + k1.length))) w := by
                    intro zs cs hz hzl hpos
                    rw [run_part hb1 hs1, hc2]
                    cases b1
                    · have hpos' : 0 < k1.length := by simpa using hpos
                      have hlt : n < zs.size := by have := hz.1; omega
                      simp only [mkV, Bool.false_eq_true, if_false]
                      rw [Array.getElem?_eq_getElem hlt]
                      simp only
                      congr 1
                      have : (zs.extract n (n + k1.length)).getD 0 Go.undef = zs[n] := by
                        rw [Array.getD_eq_getD_getElem?, Array.getElem?_extract, if_pos (by omega)]
                        simp [hlt]
                      rw [this]
                    · simp [mkV]
                  have hpos : 0 < k1.length ∨ b1 = true := by
                    cases b1
                    · refine .inl ?_
                      cases d with
                      | zero => simp [flatK] at hk1
                      | succ d =>
                        unfold flatK at hk1
                        unfold aggT at hb1
                        cases hu1 : P.underlying f.type with
                        | none => simp [hu1] at hk1
                        | some u1 => cases u1 <;> simp [hu1] at hk1 hb1 <;> (obtain ⟨_, rfl⟩ := hk1; simp)
                    · exact .inr rfl
                  simp only [Op.eqFields, ne_eq, hc1, not_false_eq_true, if_true, Sem.run_bind]
                  rw [hp xs as hx hl1 hpos]
                  simp only [Result.andThen_ok]
                  rw [hp ys bs hy hl2 hpos]
                  simp only [Result.andThen_ok]
                  rw [hq]
                  simp only [Result.andThen_ok, Sem.run_ite]
                  cases r1
                  · simp
                  · simp only [Bool.not_true, Bool.false_eq_true, if_false, Bool.true_and]
                    exact ihl _ k2 r2 hk2 (by omega) (by omega) he2
            · cases hf
        cases hf : flatF (flatK P d) fs.toList 0 with
        | none => simp [hf] at h
        | some ks' =>
          simp [hf] at h
          obtain ⟨_, rfl⟩ := h
          obtain ⟨hl1, hl2⟩ := eqL_length he
          exact key fs.toList 0 ks' r hf (by omega) (by omega) (by simpa using he)

end Go.AM
end
section
set_option linter.unusedSimpArgs false
set_option linter.unusedVariables false
namespace Go.AM
open Go

theorem applyM_length (h : List Blk) : ∀ m : List (Nat × Blk), (applyM h m).length = h.length
  | [] => rfl
  | (a, v) :: t => by simp [applyM, applyM_length h t]

theorem full_length (h : List Blk) (s : St) : (full h s).length = s.next h := by simp [full, applyM_length, St.next]

theorem applyM_get (h : List Blk) (i : Nat) (hi : i < h.length) : ∀ m : List (Nat × Blk), (applyM h m)[i]? = match lookM m i with | some b => some b | none => h[i]?
  | [] => rfl
  | (a, v) :: t => by
    simp only [applyM, lookM]
    by_cases e : a = i
    · subst e
      simp [applyM_length, hi]
    · rw [if_neg e, List.getElem?_set_ne e]
      exact applyM_get h i hi t

theorem getB_full (h : List Blk) (s : St) (i : Nat) : (full h s)[i]? = getB h s i := by
  unfold full getB
  split
  · rename_i hi
    rw [List.getElem?_append_left (by rw [applyM_length]; exact hi)]
    exact applyM_get h i hi s.m
  · rename_i hi
    rw [List.getElem?_append_right (by rw [applyM_length]; omega), applyM_length]

/-- A value's cells and its model's. -/
theorem AR.crel {E : Env} {cs : List AV} {C : Value} (h : AR E (.agg cs) C) : ∃ xs, C = .agg xs ∧ CRel E cs xs ∧ ∀ (j : Nat) (v : Value), xs[j]? = some v → v.oneCell' = true := by
  cases h with | agg hn h h1 => exact ⟨_, rfl, ⟨hn, h⟩, h1⟩

theorem sub_ok {E : Env} {agg : Bool} {n : Nat} {cs : List AV} {v : AV} {xs : Array Value} (h : sub agg n cs = some v) (hc : CRel E cs xs) (h1 : ∀ (j : Nat) (u : Value), xs[j]? = some u → u.oneCell' = true) :
    xs.size = n ∧ AR E v (mkV agg xs) := by
  unfold sub at h
  split at h
  · rename_i hl
    refine ⟨by rw [← hc.1]; exact hl, ?_⟩
    unfold one at h
    cases agg
    · simp only [Bool.false_eq_true, if_false] at h
      match cs, h, hc with
      | [c], h, hc =>
        simp at h
        subst h
        have h0 := hc.1
        simp at h0
        have : xs[0]? = some (xs.getD 0 Go.undef) := by simp [← h0]
        exact hc.2 0 _ _ rfl this
    · simp at h
      subst h
      exact .agg hc.1 hc.2 h1
  · cases h

theorem run_field {P : Program} {t : TypeId} {i : Nat} {fl : Field} (hf : fieldT P t i = some fl) (xs : Array Value) (w : World) :
    (Instr.field t (.agg xs) i).run P w = (part fl.type xs fl.offset).run P w := by
  unfold fieldT at hf
  cases hu : P.underlying t with
  | none => simp [hu] at hf
  | some u =>
    cases u <;> simp [hu] at hf
    rename_i fs
    unfold Instr.field
    rw [Sem.run_bind, run_underlying hu w]
    simp only [Result.andThen_ok]
    rw [hf]
    simp only [asAgg, pure_bind]

theorem run_fieldAt {P : Program} {t : TypeId} {i : Nat} {fl : Field} {n : Nat} (hf : fieldT P t i = some fl) (hs : szT P fl.type = some n) (hn : n ≠ 0) (b o : Nat) (w : World) :
    (Instr.fieldAt t (.pointer (some ⟨b, o, none⟩)) i).run P w = .ok (.pointer (some ⟨b, o + fl.offset, none⟩)) w := by
  unfold fieldT at hf
  cases hu : P.underlying t with
  | none => simp [hu] at hf
  | some u =>
    cases u <;> simp [hu] at hf
    rename_i fs
    unfold Instr.fieldAt
    rw [Sem.run_bind, run_underlying hu w]
    have hadd : (⟨b, o, none⟩ : Addr).add fl.offset = ⟨b, o + fl.offset, none⟩ := by unfold Addr.add; split <;> simp_all
    simp only [Result.andThen_ok, hf, Instr.sureAddr, pure_bind, Sem.run_bind, fieldPlace, run_sizeOf hs, hn, if_false, Sem.run_pure, hadd, Sem.run_ite]

theorem run_loadVar_cells {P : Program} {t : TypeId} {ag : Bool} {n : Nat} (ha : aggT P t = some ag) (hs : szT P t = some n) (hc : ag = true ∨ n = 1) (b o : Nat) (vs : Array Value) (w : World) (hn : vs.size = n)
    (hv : ∀ (j : Nat) (v : Value), vs[j]? = some v → w.cell? ⟨b, o + j, none⟩ = some v) : (loadVar t ⟨b, o, none⟩).run P w = .ok (mkV ag vs) w := by
  have hadd : ∀ j, (⟨b, o, none⟩ : Addr).add j = ⟨b, o + j, none⟩ := fun j => by unfold Addr.add; split <;> simp_all
  unfold loadVar
  rw [Sem.run_bind, run_isAgg ha]
  cases ag
  · have h1 : n = 1 := by simpa using hc
    have h0 : vs[0]? = some (vs.getD 0 Go.undef) := by rw [h1] at hn; simp [hn]
    have h2 := hv 0 _ h0
    simp only [Nat.add_zero] at h2
    simp only [Result.andThen_ok, Bool.false_eq_true, if_false, run_load, h2, mkV]
  · have hl := run_loadCells_list (P := P) w ⟨b, o, none⟩ vs.toList (fun j v h => by rw [hadd]; exact hv j v (by simpa using h))
    simp only [Array.length_toList, Array.toArray_toList] at hl
    simp only [Result.andThen_ok, if_true, Sem.run_bind, run_sizeOf hs, ← hn, hl, Sem.run_pure, mkV]

theorem Sees.cell {E : Env} {rs : List Nat} {w' : World} (h : Sees E rs w') {b : Nat} (hb : b < E.w.heap.size) (hO : ¬ E.O b ∨ ∃ id, id ∈ rs ∧ (E.L id).blk = some b) (o : Nat) :
    w'.cell? ⟨b, o, none⟩ = E.w.cell? ⟨b, o, none⟩ := by simp [World.cell?, h b hb hO]

theorem range_get {n j : Nat} {f : Nat → Value} {u : Value} (h : (((List.range n).map f).toArray)[j]? = some u) : j < n ∧ u = f j := by
  simp only [List.getElem?_toArray, List.getElem?_map] at h
  by_cases hj : j < n
  · simp [List.getElem?_range hj] at h; exact ⟨hj, h.symm⟩
  · simp [List.getElem?_eq_none (by simpa using hj : (List.range n).length ≤ j)] at h

theorem load_cp {P : Program} {E : Env} {t : TypeId} {ag : Bool} {n : Nat} (ha : aggT P t = some ag) (hs : szT P t = some n) (hc : ag = true ∨ n = 1) {cs : List GV} {p : Value} {v : AV}
    (hp : AR E (.cp cs) p) (h : sub ag n ((cs.take n).map .g) = some v) : ∃ cv, AR E v cv ∧ ∀ w', Sees E [] w' → (Instr.loadAt t p).run P w' = .ok cv w' := by
  cases hp with
  | @cp _ b o c hb hO hcc hg =>
    have hlen : (cs.take n).length = n := by
      unfold sub at h; split at h
      · rename_i hq; simpa using hq
      · cases h
    have hlen2 : n ≤ cs.length := by simp at hlen; omega
    let vs : Array Value := ((List.range n).map c).toArray
    have hvs : ∀ (j : Nat) (u : Value), vs[j]? = some u → j < n ∧ u = c j := fun j u hj => range_get hj
    have hcs : ∀ j, j < n → ∃ a, cs[j]? = some a := fun j hj => ⟨cs[j], by simp [List.getElem?_eq_getElem (show j < cs.length by omega)]⟩
    have hcr : CRel E ((cs.take n).map .g) vs := by
      refine ⟨by simp [vs]; omega, fun j a u h1 h2 => ?_⟩
      obtain ⟨hj, rfl⟩ := hvs j u h2
      rw [List.getElem?_map, List.getElem?_take_of_lt hj] at h1
      cases hq : cs[j]? with
      | none => simp [hq] at h1
      | some a' => simp [hq] at h1; subst h1; exact .g (hg j a' hq)
    have h1 : ∀ (j : Nat) (u : Value), vs[j]? = some u → u.oneCell' = true := fun j u hj => by
      obtain ⟨hj', rfl⟩ := hvs j u hj
      obtain ⟨a, hq⟩ := hcs j hj'
      exact (hg j a hq).one
    obtain ⟨hsz, hv⟩ := sub_ok h hcr h1
    refine ⟨_, hv, fun w' hw => ?_⟩
    simp only [Instr.loadAt, Instr.sureAddr, pure_bind]
    refine run_loadVar_cells ha hs hc b o vs w' hsz (fun j u hj => ?_)
    obtain ⟨hj', rfl⟩ := hvs j u hj
    obtain ⟨a, hq⟩ := hcs j hj'
    rw [hw.cell hb (.inl hO)]
    exact hcc j a hq

theorem load_rowP {P : Program} {E : Env} {t : TypeId} {ag : Bool} {n : Nat} (ha : aggT P t = some ag) (hs : szT P t = some n) (hc : ag = true ∨ n = 1) {b o : Nat} {v : AV} {as : List AV} {T : TypeId} {fr : Nat × Nat} {C : Array Value}
    (hb : E.w.heap[b]? = some (.cells C T fr)) (hcs : ∀ (j : Nat) (a : AV), as[j]? = some a → ∃ u, C[o + j]? = some u ∧ AR E a u ∧ u.oneCell' = true)
    (h : sub ag n as = some v) : ∃ cv, AR E v cv ∧ ∀ w', w'.heap[b]? = E.w.heap[b]? → (Instr.loadAt t (.pointer (some ⟨b, o, none⟩))).run P w' = .ok cv w' := by
  have hlen : as.length = n := by
    unfold sub at h; split at h
    · assumption
    · cases h
  have hlt : b < E.w.heap.size := (Array.getElem?_eq_some_iff.1 hb).1
  let vs : Array Value := ((List.range n).map fun j => C.getD (o + j) Go.undef).toArray
  have hvs : ∀ (j : Nat) (u : Value), vs[j]? = some u → j < n ∧ u = C.getD (o + j) Go.undef := fun j u hj => range_get hj
  have hget : ∀ j, j < n → ∃ a, as[j]? = some a ∧ C[o + j]? = some (C.getD (o + j) Go.undef) ∧ AR E a (C.getD (o + j) Go.undef) ∧ (C.getD (o + j) Go.undef).oneCell' = true := fun j hj => by
    have hq : as[j]? = some as[j] := List.getElem?_eq_getElem (by omega)
    obtain ⟨u, h1, h2, h3⟩ := hcs j _ hq
    have : C.getD (o + j) Go.undef = u := by simp [Array.getD_eq_getD_getElem?, h1]
    exact ⟨_, hq, by rw [this]; exact h1, by rw [this]; exact h2, by rw [this]; exact h3⟩
  have hcr : CRel E as vs := by
    refine ⟨by simp [vs, hlen], fun j a u h1 h2 => ?_⟩
    obtain ⟨hj, rfl⟩ := hvs j u h2
    obtain ⟨a', e1, _, e3, _⟩ := hget j hj
    rw [h1] at e1; cases e1; exact e3
  have h1 : ∀ (j : Nat) (u : Value), vs[j]? = some u → u.oneCell' = true := fun j u hj => by
    obtain ⟨hj', rfl⟩ := hvs j u hj
    obtain ⟨_, _, _, _, e4⟩ := hget j hj'
    exact e4
  obtain ⟨hsz, hv⟩ := sub_ok h hcr h1
  refine ⟨_, hv, fun w' hw => ?_⟩
  simp only [Instr.loadAt, Instr.sureAddr, pure_bind]
  refine run_loadVar_cells ha hs hc b o vs w' hsz (fun j u hj => ?_)
  obtain ⟨hj', rfl⟩ := hvs j u hj
  obtain ⟨_, _, e2, _, _⟩ := hget j hj'
  simpa [World.cell?, hw, hb] using e2

theorem load_row {P : Program} {E : Env} {t : TypeId} {ag : Bool} {n : Nat} (ha : aggT P t = some ag) (hs : szT P t = some n) (hc : ag = true ∨ n = 1) {b o : Nat} {v : AV} {as : List AV} {T : TypeId} {fr : Nat × Nat} {C : Array Value}
    (hb : E.w.heap[b]? = some (.cells C T fr)) (hcs : ∀ (j : Nat) (a : AV), as[j]? = some a → ∃ u, C[o + j]? = some u ∧ AR E a u ∧ u.oneCell' = true)
    (rs : List Nat) (hO : ¬ E.O b ∨ ∃ id, id ∈ rs ∧ (E.L id).blk = some b)
    (h : sub ag n as = some v) : ∃ cv, AR E v cv ∧ ∀ w', Sees E rs w' → (Instr.loadAt t (.pointer (some ⟨b, o, none⟩))).run P w' = .ok cv w' := by
  obtain ⟨cv, h1, h2⟩ := load_rowP ha hs hc hb hcs h
  exact ⟨cv, h1, fun w' hw => h2 w' (hw b (Array.getElem?_eq_some_iff.1 hb).1 hO)⟩

end Go.AM
end
section
set_option linter.unusedSimpArgs false
set_option linter.unusedVariables false
namespace Go.AM
open Go

theorem map_some_inv {α β : Type} {f : α → β} {x : Option α} {y : β} (h : x.map f = some y) : ∃ z, x = some z ∧ f z = y := by
  cases x with
  | none => simp at h
  | some z => exact ⟨z, rfl, by simpa using h⟩

theorem bind_some_inv {α β : Type} {f : α → Option β} {x : Option α} {y : β} (h : (x >>= f) = some y) : ∃ z, x = some z ∧ f z = some y := by
  cases x with
  | none => simp at h
  | some z => exact ⟨z, rfl, by simpa using h⟩

theorem bnd_ok {s : St} {d : Nat} {x : Option Opd} {i : Int} (h : bnd s d x = some i) : (x = none ∧ i = d) ∨ ∃ y k, x = some y ∧ val s y = some (.g (.int k i)) := by
  cases x with
  | none => simp [bnd] at h; exact .inl ⟨rfl, h.symm⟩
  | some y =>
    simp only [bnd] at h
    cases hv : val s y with
    | none => simp [hv] at h
    | some v =>
      simp only [hv] at h
      unfold intOfA at h
      split at h
      · cases h; exact .inr ⟨y, _, rfl, hv⟩
      · cases h

theorem cutB_ok {s : St} {n l u : Nat} {lo hi : Option Opd} (h : cutB s n lo hi = some (l, u)) : l ≤ u ∧ u ≤ n ∧
    ((lo = none ∧ l = 0) ∨ ∃ x k, lo = some x ∧ val s x = some (.g (.int k l))) ∧ ((hi = none ∧ u = n) ∨ ∃ x k, hi = some x ∧ val s x = some (.g (.int k u))) := by
  unfold cutB at h
  split at h
  · rename_i L U hL hU
    split at h
    · rename_i hc
      obtain ⟨h1, h2, h3⟩ := hc
      simp at h
      obtain ⟨rfl, rfl⟩ := h
      refine ⟨by omega, by omega, ?_, ?_⟩
      · rcases bnd_ok hL with ⟨e, rfl⟩ | ⟨y, k, e, hk⟩
        · exact .inl ⟨e, by simp⟩
        · exact .inr ⟨y, k, e, by rw [hk, Int.toNat_of_nonneg h1]⟩
      · rcases bnd_ok hU with ⟨e, rfl⟩ | ⟨y, k, e, hk⟩
        · exact .inl ⟨e, by simp⟩
        · exact .inr ⟨y, k, e, by rw [hk, Int.toNat_of_nonneg (by omega)]⟩
    · cases h
  · cases h

theorem cOpt_val {E : Env} {a : Act} {s : St} (ht : TR E a s.t) {x : Option Operand} {X : Option Opd} (h : cOpt x = some X) :
    (x = none ∧ X = none) ∨ ∃ y Y, x = some y ∧ X = some Y ∧ ∀ v, val s Y = some v → AR E v (a.eval y) := by
  cases x with
  | none => simp [cOpt] at h; exact .inl ⟨rfl, h.symm⟩
  | some y =>
    simp [cOpt] at h
    obtain ⟨Y, h1, h2⟩ := h
    exact .inr ⟨y, Y, rfl, h2.symm, fun v hv => cOpd_ok ht h1 hv⟩

theorem run_sliceBounds {P : Program} {E : Env} {a : Act} {s : St} (ht : TR E a s.t) {isS : Bool} {n cap l u : Nat} {lo hi : Option Operand} {Lo Hi : Option Opd} (hlo : cOpt lo = some Lo) (hhi : cOpt hi = some Hi)
    (hcap : n ≤ cap) (h : cutB s n Lo Hi = some (l, u)) (w : World) : (Instr.sliceBounds isS n cap (lo.map a.eval) (hi.map a.eval) none).run P w = .ok (l, u, cap) w := by
  obtain ⟨h1, h2, h3, h4⟩ := cutB_ok h
  have hb : ∀ (v : Value) (k : IntKind) (i y : Nat) (c : BoundsCode), v = .int k i → i ≤ y → (Instr.sliceBound v y c).run P w = .ok i w := by
    intro v k i y c e hi
    subst e
    unfold Instr.sliceBound
    simp only [asIntOf, pure_bind]
    rw [if_pos ⟨by omega, by omega⟩]
    simp
  unfold Instr.sliceBounds
  rcases cOpt_val ht hlo with ⟨rfl, rfl⟩ | ⟨y, Y, rfl, rfl, hY⟩ <;> rcases cOpt_val ht hhi with ⟨rfl, rfl⟩ | ⟨z, Z, rfl, rfl, hZ⟩
  · simp at h3 h4; subst h3 h4; simp
  · simp at h3 h4; subst h3; obtain ⟨k, hk⟩ := h4
    simp [hb _ k u cap _ ((hZ _ hk).inv_g.inv_int) (by omega)]
  · simp at h3 h4; subst h4; obtain ⟨k, hk⟩ := h3
    simp [hb _ k l u _ ((hY _ hk).inv_g.inv_int) (by omega)]
  · simp at h3 h4; obtain ⟨k, hk⟩ := h3; obtain ⟨k', hk'⟩ := h4
    simp [hb _ k l u _ ((hY _ hk).inv_g.inv_int) (by omega), hb _ k' u cap _ ((hZ _ hk').inv_g.inv_int) (by omega)]

/-- .. where the upper bound is told, and may go on behind the length. -/
theorem run_sliceBoundsW {P : Program} {E : Env} {a : Act} {s : St} (ht : TR E a s.t) {isS : Bool} {n m cap l u : Nat} {lo hi : Option Operand} {Lo Hi : Option Opd} (hlo : cOpt lo = some Lo) (hhi : cOpt hi = some Hi) (hs : Hi.isSome = true)
    (hcap : u ≤ cap) (h : cutB s n Lo Hi = some (l, u)) (w : World) : (Instr.sliceBounds isS m cap (lo.map a.eval) (hi.map a.eval) none).run P w = .ok (l, u, cap) w := by
  obtain ⟨h1, h2, h3, h4⟩ := cutB_ok h
  have hb : ∀ (v : Value) (k : IntKind) (i y : Nat) (c : BoundsCode), v = .int k i → i ≤ y → (Instr.sliceBound v y c).run P w = .ok i w := by
    intro v k i y c e hi
    subst e
    unfold Instr.sliceBound
    simp only [asIntOf, pure_bind]
    rw [if_pos ⟨by omega, by omega⟩]
    simp
  unfold Instr.sliceBounds
  rcases cOpt_val ht hlo with ⟨rfl, rfl⟩ | ⟨y, Y, rfl, rfl, hY⟩ <;> rcases cOpt_val ht hhi with ⟨rfl, rfl⟩ | ⟨z, Z, rfl, rfl, hZ⟩
  · simp at hs
  · simp at h3 h4; subst h3; obtain ⟨k, hk⟩ := h4
    simp [hb _ k u cap _ ((hZ _ hk).inv_g.inv_int) (by omega)]
  · simp at hs
  · simp at h3 h4; obtain ⟨k, hk⟩ := h3; obtain ⟨k', hk'⟩ := h4
    simp [hb _ k l u _ ((hY _ hk).inv_g.inv_int) (by omega), hb _ k' u cap _ ((hZ _ hk').inv_g.inv_int) (by omega)]

/-- .. of three numbers. -/
theorem run_sliceBounds3 {P : Program} {E : Env} {a : Act} {s : St} (ht : TR E a s.t) {isS : Bool} {n m cap l u : Nat} {lo hi mx : Operand} {Lo Hi : Opd} {k0 : IntKind} (hlo : cOpd lo = some Lo) (hhi : cOpd hi = some Hi) (hmx : a.eval mx = .int k0 m)
    (hcap : m ≤ cap) (h : cutB s m (some Lo) (some Hi) = some (l, u)) (w : World) : (Instr.sliceBounds isS n cap (some (a.eval lo)) (some (a.eval hi)) (some (a.eval mx))).run P w = .ok (l, u, m) w := by
  obtain ⟨h1, h2, h3, h4⟩ := cutB_ok h
  have hb : ∀ (v : Value) (k : IntKind) (i y : Nat) (c : BoundsCode), v = .int k i → i ≤ y → (Instr.sliceBound v y c).run P w = .ok i w := by
    intro v k i y c e hi
    subst e
    unfold Instr.sliceBound
    simp only [asIntOf, pure_bind]
    rw [if_pos ⟨by omega, by omega⟩]
    simp
  unfold Instr.sliceBounds
  simp at h3 h4
  obtain ⟨k, hk⟩ := h3
  obtain ⟨k', hk'⟩ := h4
  simp [hb _ k0 m cap _ hmx hcap, hb _ k l u _ ((cOpd_ok ht hlo hk).inv_g.inv_int) h1, hb _ k' u m _ ((cOpd_ok ht hhi hk').inv_g.inv_int) h2]

theorem toList_take_drop (b : List UInt8) (l u : Nat) : (ByteArray.mk b.toArray).extract l u = ByteArray.mk ((b.take u).drop l).toArray := by
  rw [ByteArray.extract_mk, List.drop_take]

/-- A cut of a slice that is only read. -/
theorem GR.cut {E : Env} {sz : Nat} {els : List (List GV)} {v : Value} (h : GR E (.sl sz els) v) (l u : Nat) (hl : l ≤ u) (hu : u ≤ els.length) :
    ∃ A n cap, v = .slice A n cap ∧ n = els.length ∧ n ≤ cap ∧ GR E (.sl sz ((els.take u).drop l)) (.slice (if cap = l then A else A.map (·.add (l * sz))) (u - l) (cap - l)) := by
  cases h with
  | @sl _ b o cap _ c hcap hb hO hsz hc hg =>
    refine ⟨_, _, _, rfl, rfl, hcap, ?_⟩
    have hlen : ((els.take u).drop l).length = u - l := by simp; omega
    by_cases hz : u - l = 0
    · have : (els.take u).drop l = [] := List.eq_nil_of_length_eq_zero (by omega)
      rw [this, hz]
      split <;> exact .sl0 _ _ _
    · have hne : cap ≠ l := by omega
      rw [if_neg hne]
      have hadd : (⟨b, o, none⟩ : Addr).add (l * sz) = ⟨b, o + l * sz, none⟩ := by unfold Addr.add; split <;> simp_all
      simp only [Option.map_some, hadd]
      have hget : ∀ i el, ((els.take u).drop l)[i]? = some el → els[l + i]? = some el := by
        intro i el hi
        rw [List.getElem?_drop, List.getElem?_take] at hi
        split at hi
        · exact hi
        · cases hi
      rw [← hlen]
      refine .sl (fun i j => c (l + i) j) (by omega) hb hO (fun i el hi => hsz _ el (hget i el hi)) (fun i el j x hi hj => ?_) (fun i el j x hi hj => hg _ el j x (hget i el hi) hj)
      have := hc _ el j x (hget i el hi) hj
      rw [← this]; congr 2
      rw [Nat.add_mul]; omega
  | sl0 _ A cap =>
    refine ⟨_, _, _, rfl, rfl, by simp, ?_⟩
    simp at hu
    subst hu
    have : l = 0 := by omega
    subst this
    split <;> exact .sl0 _ _ _

theorem MsOk.cut {lc : Lc} {sz off len : Nat} {v : Value} (h : MsOk lc sz off len v) (l u : Nat) (hl : l ≤ u) (hu : u ≤ len) :
    ∃ A cap, v = .slice A len cap ∧ len ≤ cap ∧ MsOk lc sz (off + l) (u - l) (.slice (if cap = l then A else A.map (·.add (l * sz))) (u - l) (cap - l)) := by
  unfold MsOk at h
  cases hb : lc.blk with
  | none =>
    rw [hb] at h
    obtain ⟨rfl, rfl, rfl⟩ := h
    have : u = 0 := by omega
    subst this
    have : l = 0 := by omega
    subst this
    exact ⟨_, _, rfl, by simp, by simp [MsOk, hb]⟩
  | some b =>
    rw [hb] at h
    obtain ⟨a, c, rfl, h1, h2, h3⟩ := h
    refine ⟨_, _, rfl, h2, ?_⟩
    simp only [MsOk, hb]
    by_cases hc : c = l
    · subst hc
      refine ⟨a, 0, by simp, by omega, by omega, .inr rfl⟩
    · rw [if_neg hc]
      refine ⟨a.add (l * sz), c - l, by simp, by omega, by omega, ?_⟩
      rcases h3 with rfl | h3
      · left
        have hadd : (⟨b, off * sz, none⟩ : Addr).add (l * sz) = ⟨b, off * sz + l * sz, none⟩ := by unfold Addr.add; split <;> simp_all
        rw [hadd, ← Nat.add_mul]
      · omega

/-- A cut that may go on behind the slice's length. -/
theorem MsOk.cut2 {lc : Lc} {sz off len : Nat} {v : Value} (h : MsOk lc sz off len v) (l u : Nat) (hl : l ≤ u) (h0 : lc.blk = none → u = 0) (hu : off + u ≤ lc.cap) :
    ∃ A cap, v = .slice A len cap ∧ u ≤ cap ∧ MsOk lc sz (off + l) (u - l) (.slice (if cap = l then A else A.map (·.add (l * sz))) (u - l) (cap - l)) := by
  unfold MsOk at h
  cases hb : lc.blk with
  | none =>
    rw [hb] at h
    obtain ⟨rfl, rfl, rfl⟩ := h
    have : u = 0 := h0 hb
    subst this
    have : l = 0 := by omega
    subst this
    exact ⟨_, _, rfl, by simp, by simp [MsOk, hb]⟩
  | some b =>
    rw [hb] at h
    obtain ⟨a, c, rfl, h1, h2, h3⟩ := h
    refine ⟨_, _, rfl, by omega, ?_⟩
    simp only [MsOk, hb]
    by_cases hc : c = l
    · subst hc
      refine ⟨a, 0, by simp, by omega, by omega, .inr rfl⟩
    · rw [if_neg hc]
      refine ⟨a.add (l * sz), c - l, by simp, by omega, by omega, ?_⟩
      rcases h3 with rfl | h3
      · left
        have hadd : (⟨b, off * sz, none⟩ : Addr).add (l * sz) = ⟨b, off * sz + l * sz, none⟩ := by unfold Addr.add; split <;> simp_all
        rw [hadd, ← Nat.add_mul]
      · omega

end Go.AM
end
section
set_option linter.unusedSimpArgs false
set_option linter.unusedVariables false
namespace Go.AM
open Go

section
variable {P : Program} {h : List Blk} {s : St} {a : Act} {w : World} {L : Nat → Lc} {v : AV} {rs : List Nat}

theorem cOpds_vals {E : Env} (ht : TR E a s.t) : ∀ {xs : List Operand} {Xs : List Opd} {vs : List AV}, cOpds xs = some Xs → vals s Xs = some vs →
    vs.length = xs.length ∧ ∀ (j : Nat) (x : Operand) (v : AV), xs[j]? = some x → vs[j]? = some v → AR E v (a.eval x) := by
  intro xs
  induction xs with
  | nil => intro Xs vs h1 h2; simp [cOpds] at h1; subst h1; simp [vals] at h2; subst h2; simp
  | cons x xs ih =>
    intro Xs vs h1 h2
    simp only [cOpds] at h1
    cases hx : cOpd x with
    | none => simp [hx] at h1
    | some X =>
      cases hxs : cOpds xs with
      | none => simp [hx, hxs] at h1
      | some Ys =>
        simp [hx, hxs] at h1
        subst h1
        simp only [vals] at h2
        cases hv : val s X with
        | none => simp [hv] at h2
        | some u =>
          cases hvs : vals s Ys with
          | none => simp [hv, hvs] at h2
          | some us =>
            simp [hv, hvs] at h2
            subst h2
            obtain ⟨i1, i2⟩ := ih hxs hvs
            refine ⟨by simp [i1], fun j y z hy hz => ?_⟩
            cases j with
            | zero => simp at hy hz; subst hy hz; exact cOpd_ok ht hx hv
            | succ j => exact i2 j y z (by simpa using hy) (by simpa using hz)

theorem toArray_map_get {xs : List Operand} {j : Nat} {u : Value} (h : ((xs.toArray).map a.eval)[j]? = some u) : ∃ x, xs[j]? = some x ∧ u = a.eval x := by
  simp at h
  obtain ⟨x, h1, h2⟩ := h
  exact ⟨x, h1, h2.symm⟩

theorem fold_ok {E : Env} (f : AV → AV → Option AV) (F : Value → Value → Sem Value) (hf : ∀ x y v cx cy, f x y = some v → AR E x cx → AR E y cy → ∃ cv, AR E v cv ∧ ∀ w', (F cx cy).run P w' = .ok cv w') :
    ∀ (vs : List AV) (cvs : List Value) (x v : AV) (cx : Value), foldV f (some x) vs = some v → AR E x cx → vs.length = cvs.length → (∀ (j : Nat) (a : AV) (c : Value), vs[j]? = some a → cvs[j]? = some c → AR E a c) →
      ∃ cv, AR E v cv ∧ ∀ w', (cvs.foldlM F cx).run P w' = .ok cv w' := by
  intro vs
  induction vs with
  | nil => intro cvs x v cx h1 hx hl hr; simp [foldV] at h1; subst h1; cases cvs with
    | nil => exact ⟨cx, hx, fun w' => by simp⟩
    | cons => simp at hl
  | cons y ys ih => intro cvs x v cx h1 hx hl hr; cases cvs with
    | nil => simp at hl
    | cons c cs =>
      simp only [foldV] at h1
      cases hxy : f x y with
      | none => rw [hxy] at h1; cases ys <;> simp [foldV] at h1
      | some z =>
        rw [hxy] at h1
        obtain ⟨cz, hz1, hz2⟩ := hf x y z cx c hxy hx (hr 0 _ _ rfl rfl)
        obtain ⟨cv, k1, k2⟩ := ih cs z v cz h1 hz1 (by simpa using hl) (fun j a c' e1 e2 => hr (j + 1) a c' (by simpa using e1) (by simpa using e2))
        exact ⟨cv, k1, fun w' => by simp [List.foldlM_cons, hz2, k2]⟩

theorem cells_ok {E : Env} {u : AV} {c : Value} {cs : List AV} (h : AR E u c) (hc : u.cellsO = some cs) : CRel E cs c.cells ∧ ∀ (j : Nat) (y : Value), c.cells[j]? = some y → y.oneCell' = true := by
  have single : ∀ (u : AV) (c : Value), AR E u c → c.oneCell' = true → c.cells = #[c] ∧ CRel E [u] #[c] ∧ ∀ (j : Nat) (y : Value), (#[c] : Array Value)[j]? = some y → y.oneCell' = true := by
    intro u c h h1
    refine ⟨by cases c <;> first | rfl | (simp [Value.oneCell'] at h1), ⟨rfl, fun j a v ha hv => ?_⟩, fun j y hy => ?_⟩
    · match j with
      | 0 => simp at ha hv; subst ha hv; exact h
      | j + 1 => simp at ha
    · match j with
      | 0 => simp at hy; subst hy; exact h1
      | j + 1 => simp at hy
  cases u <;> simp [AV.cellsO] at hc
  case agg => subst hc; obtain ⟨xs, rfl, h1, h2⟩ := h.crel; exact ⟨h1, h2⟩
  all_goals
    subst hc
    have h1 := h.one rfl
    obtain ⟨e1, e2, e3⟩ := single _ _ h h1
    rw [e1]
    exact ⟨e2, e3⟩

theorem foldl_set (off : Nat) : ∀ (l : List Value) (k : Nat) (C : Array Value), off + k + l.length ≤ C.size →
    ((l.zipIdx k).foldl (fun cs (p : Value × Nat) => cs.setIfInBounds (off + p.2) p.1) C).size = C.size ∧
    ∀ i, ((l.zipIdx k).foldl (fun cs (p : Value × Nat) => cs.setIfInBounds (off + p.2) p.1) C)[i]? = if off + k ≤ i ∧ i < off + k + l.length then l[i - (off + k)]? else C[i]? := by
  intro l
  induction l with
  | nil => intro k C h; simp; intro i h1 h2; omega
  | cons x l ih =>
    intro k C h
    simp only [List.length_cons] at h
    obtain ⟨h1, h2⟩ := ih (k + 1) (C.setIfInBounds (off + k) x) (by simp; omega)
    simp only [List.zipIdx_cons, List.foldl_cons]
    refine ⟨by rw [h1]; simp, fun i => ?_⟩
    rw [h2]
    by_cases hi : i = off + k
    · subst hi
      rw [if_neg (by omega), if_pos (by simp)]
      simp only [Nat.sub_self, List.getElem?_cons_zero]
      rw [Array.getElem?_setIfInBounds_self]
      simp; omega
    · by_cases hr : off + (k + 1) ≤ i ∧ i < off + (k + 1) + l.length
      · rw [if_pos hr, if_pos (by simp; omega)]
        obtain ⟨j, hj⟩ : ∃ j, i - (off + k) = j + 1 := ⟨i - (off + k) - 1, by omega⟩
        rw [hj, List.getElem?_cons_succ]
        congr 1
        omega
      · rw [if_neg hr, if_neg (by simp; omega), Array.getElem?_setIfInBounds_ne (by omega)]

theorem fills_ok {E : Env} (ht : TR E a s.t) (pl : Nat → Option (Nat × Nat)) : ∀ (ps : List (Nat × Operand)) (l : List (Nat × Nat × Opd)) (cs cs' : List AV) (C : Array Value), cParts pl ps = some l → fills s cs l = some cs' →
    CRel E cs C → (∀ (j : Nat) (u : Value), C[j]? = some u → u.oneCell' = true) →
    ∃ C', Instr.fill pl C (ps.map fun (i, x) => (i, a.eval x)) = some C' ∧ CRel E cs' C' ∧ (∀ (j : Nat) (u : Value), C'[j]? = some u → u.oneCell' = true) := by
  intro ps
  induction ps with
  | nil => intro l cs cs' C h1 h2 hc h3; simp [cParts] at h1; subst h1; simp [fills] at h2; subst h2; exact ⟨C, rfl, hc, h3⟩
  | cons p ps ih =>
    obtain ⟨i, x⟩ := p
    intro l cs cs' C h1 h2 hc h3
    simp only [cParts] at h1
    cases hp : pl i with
    | none => simp [hp] at h1
    | some q =>
      obtain ⟨o, n⟩ := q
      cases hx : cOpd x with
      | none => simp [hp, hx] at h1
      | some X =>
        cases hl : cParts pl ps with
        | none => simp [hp, hx, hl] at h1
        | some l' =>
          simp [hp, hx, hl] at h1
          subst h1
          simp only [fills] at h2
          cases hv : val s X with
          | none => simp [hv] at h2
          | some u =>
            simp only [hv] at h2
            cases hco : u.cellsO with
            | none => simp [hco] at h2
            | some us =>
              simp only [hco] at h2
              cases hf : fillA cs o n us with
              | none => simp [hf] at h2
              | some cs1 =>
                simp only [hf] at h2
                have hu := cOpd_ok ht hx hv
                obtain ⟨⟨hsz, hrel⟩, hone⟩ := cells_ok hu hco
                unfold fillA at hf
                split at hf
                · rename_i hcond
                  obtain ⟨hn, hle⟩ := hcond
                  simp only [Option.some.injEq] at hf
                  subst hf
                  obtain ⟨f1, f2⟩ := foldl_set o (a.eval x).cells.toList 0 C (by have := hc.1; simp; omega)
                  simp only [List.map_cons, Instr.fill, hp]
                  rw [if_neg (by have := hc.1; simp; omega)]
                  have harr : (a.eval x).cells.zipIdx.foldl (fun cs (p : Value × Nat) => cs.setIfInBounds (o + p.2) p.1) C = ((a.eval x).cells.toList.zipIdx 0).foldl (fun cs (p : Value × Nat) => cs.setIfInBounds (o + p.2) p.1) C := by
                    rw [← Array.foldl_toList, Array.toList_zipIdx]
                  rw [harr]
                  refine ih l' _ cs' _ hl h2 ⟨?_, fun j y z hy hz => ?_⟩ (fun j z hz => ?_)
                  · rw [f1, ← hc.1]; simp; omega
                  · rw [f2] at hz
                    by_cases hin : o + 0 ≤ j ∧ j < o + 0 + (a.eval x).cells.toList.length
                    · rw [if_pos hin] at hz
                      have hj : ¬ j < o := by omega
                      have hlen : (cs.take o).length = o := by simp; omega
                      have hjl : j < o + n := by simp at hin; omega
                      rw [List.append_assoc, List.getElem?_append_right (by omega), hlen, List.getElem?_append_left (by omega)] at hy
                      exact hrel (j - o) y z hy (by simpa using hz)
                    · rw [if_neg hin] at hz
                      have hlen : (cs.take o).length = o := by simp; omega
                      refine hc.2 j y z ?_ hz
                      simp at hin
                      by_cases hj : j < o
                      · rw [List.append_assoc, List.getElem?_append_left (by omega), List.getElem?_take_of_lt hj] at hy; exact hy
                      · have hj' : o + n ≤ j := by have := hin (by omega); omega
                        rw [List.append_assoc, List.getElem?_append_right (by omega), hlen, List.getElem?_append_right (by omega), List.getElem?_drop] at hy
                        rw [← hy]; congr 1; omega
                  · rw [f2] at hz
                    split at hz
                    · exact hone _ z (by simpa using hz)
                    · exact h3 _ z hz
                · cases hf
end
end Go.AM
end
section
set_option linter.unusedSimpArgs false
set_option linter.unusedVariables false
namespace Go.AM
open Go

theorem mapM_get {α β : Type} {f : α → Option β} : ∀ {l : List α} {r : List β}, l.mapM f = some r → r.length = l.length ∧ ∀ (j : Nat) (x : α) (y : β), l[j]? = some x → r[j]? = some y → f x = some y := by
  intro l
  induction l with
  | nil => intro r h; simp at h; subst h; simp
  | cons x l ih =>
    intro r h
    simp only [List.mapM_cons, Option.bind_eq_bind, Option.pure_def] at h
    cases hx : f x with
    | none => simp [hx] at h
    | some y =>
      cases hl : l.mapM f with
      | none => simp [hx, hl] at h
      | some ys =>
        simp [hx, hl] at h
        subst h
        obtain ⟨i1, i2⟩ := ih hl
        refine ⟨by simp [i1], fun j a b ha hb => ?_⟩
        cases j with
        | zero => simp at ha hb; subst ha hb; exact hx
        | succ j => exact i2 j a b (by simpa using ha) (by simpa using hb)

theorem cZero_ok {P : Program} {E : Env} {t : TypeId} {zs : List AV} (h : cZero P t = some zs) : ∃ i z, P.info? t = some i ∧ i.zero = some z ∧ CRel E zs z.cells ∧ ∀ (j : Nat) (u : Value), z.cells[j]? = some u → u.oneCell' = true := by
  unfold cZero at h
  cases hi : P.info? t with
  | none => simp [hi] at h
  | some i =>
    cases hz : i.zero with
    | none => simp [hi, hz] at h
    | some z =>
      simp [hi, hz] at h
      obtain ⟨h1, h2⟩ := mapM_get h
      refine ⟨i, z, rfl, hz, ⟨by simpa using h1, fun j a v ha hv => cVal_ok (h2 j v a (by simpa using hv) ha)⟩, fun j u hu => ?_⟩
      have hlt : j < zs.length := by
        have : j < z.cells.size := (Array.getElem?_eq_some_iff.1 hu).1
        simp at h1; omega
      have := h2 j u zs[j] (by simpa using hu) (List.getElem?_eq_getElem hlt)
      cases u <;> first | rfl | (simp [cVal] at this)

section
variable {P : Program} {h : List Blk} {s : St} {a : Act} {w : World} {L : Nat → Lc} {v : AV} {rs : List Nat} {drw : Option Nat}


theorem y_bin {E : Env} (ht : TR E a s.t) {dst : Option Tmp} {ty : TypeId} {pos : String} {after : Array Edge} {gd : Option (Nat × Bool)} {op : BinOp} {t yt : TypeId} {x y : Operand} {X Y : Opd} (hx : cOpd x = some X) (hy : cOpd y = some Y)
    (he : evP h s (.bin op X Y) = some (v, rs)) : Yl P E ⟨dst, .binOp op t x y yt, ty, pos, after, gd⟩ a v rs := by
  simp only [evP] at he
  cases hX : val s X with
  | none => simp [hX] at he
  | some p =>
    cases hY : val s Y with
    | none => simp [hX, hY] at he
    | some q =>
      simp only [hX, hY] at he
      obtain ⟨r, hr, e⟩ := map_some_inv he
      simp at e
      obtain ⟨rfl, rfl⟩ := e
      obtain ⟨cv, k1, k2⟩ := binV_ok (P := P) t x y hr (cOpd_ok ht hx hX) (cOpd_ok ht hy hY)
      exact ⟨cv, k1, fun w' _ => by simp only [execOp]; rw [Sem.run_bind, k2 w']; rfl⟩

theorem y_eqs {E : Env} (ht : TR E a s.t) {dst : Option Tmp} {ty : TypeId} {pos : String} {after : Array Edge} {gd : Option (Nat × Bool)} {op : BinOp} (hop : op = .eql ∨ op = .neq) {t yt : TypeId} {x y : Operand} {X Y : Opd} {ks : List LK} {ag : Bool} (hk : flatK P 20 t = some ks)
    (hag : aggT P t = some ag) (hg : P.eqGuardType P.depth t = false) (hx : cOpd x = some X) (hy : cOpd y = some Y)
    (he : evP h s (.eqs (op == .neq) ag ks X Y) = some (v, rs)) : Yl P E ⟨dst, .binOp op t x y yt, ty, pos, after, gd⟩ a v rs := by
  simp only [evP] at he
  cases hX : val s X with
  | none => simp [hX] at he
  | some p =>
    cases hY : val s Y with
    | none => simp [hX, hY] at he
    | some q =>
      simp only [hX, hY] at he
      cases hq : eqV ag ks p q with
      | none => simp [hq] at he
      | some r =>
        simp [hq] at he
        obtain ⟨rfl, rfl⟩ := he
        have hp := cOpd_ok ht hx hX
        have hq' := cOpd_ok ht hy hY
        have fin : (∀ w', (eqGuard op t x y (a.eval x) (a.eval y)).run P w' = .ok () w') → (∀ w', (Op.equalIn 10000 t (a.eval x) (a.eval y)).run P w' = .ok r w') →
            (∀ w', (binOp op t (a.eval x) (a.eval y)).run P w' = ((Op.equalIn 10000 t (a.eval x) (a.eval y)).run P w').andThen fun b w' => .ok (.bool (if op = .neq then !b else b)) w') →
            Yl P E ⟨dst, .binOp op t x y yt, ty, pos, after, gd⟩ a (.g (.bool (if op = .neq then !r else r))) [] := by
          intro h1 h2 h3
          refine ⟨_, .g (.bool _), fun w' _ => ?_⟩
          simp only [execOp]
          rw [Sem.run_bind, Sem.run_bind, h1, Result.andThen_ok, h3, h2]
          rfl
        unfold eqV at hq
        split at hq
        · obtain ⟨xs, e1, h1, _⟩ := hp.crel
          obtain ⟨ys, e2, h2, _⟩ := hq'.crel
          rw [e1, e2] at fin
          refine fin (fun w' => run_eqGuard_agg w' op t x y xs ys hg) (fun w' => flat_eq 20 9980 t true ks _ _ xs ys r w' hk hag h1 h2 hq) (fun w' => ?_)
          rcases hop with rfl | rfl
          · rw [run_eql_struct]; rfl
          · rw [run_neq_struct]; rfl
        · have one : ∀ (g : GV) (c : Value), GR E g c → CRel E [.g g] #[c] := fun g c hgc => ⟨rfl, fun j a' v' ha' hv' => by
            match j with
            | 0 => simp at ha' hv'; subst ha' hv'; exact .g hgc
            | j + 1 => simp at ha'⟩
          rename_i ga gb
          have h2 := fun w' => flat_eq (P := P) (E := E) 20 9980 t false ks _ _ #[a.eval x] #[a.eval y] r w' hk hag (one _ _ hp.inv_g) (one _ _ hq'.inv_g) hq
          simp only [mkV, Bool.false_eq_true, if_false] at h2
          have e0 : ∀ (c : Value), (#[c] : Array Value).getD 0 Go.undef = c := fun c => rfl
          simp only [e0] at h2
          -- bools, whole numbers and texts: no guard, and '==' by type
          have hkind : ∃ k, ks = [k] := by
            have := (eqL_length hq).1
            match ks, this with
            | [k], _ => exact ⟨k, rfl⟩
          obtain ⟨k, rfl⟩ := hkind
          have hgg : ∃ r1, eqG k ga gb = some r1 := by
            cases hgk : eqG k ga gb with
            | none => simp [eqL, hgk] at hq
            | some r1 => exact ⟨r1, rfl⟩
          obtain ⟨r1, hgg⟩ := hgg
          have hx1 := hp.inv_g
          have hy1 := hq'.inv_g
          clear fin
          cases ga <;> cases gb <;> cases k <;> simp [eqG] at hgg
          · rw [hx1.inv_bool, hy1.inv_bool] at h2
            refine ⟨_, .g (.bool _), fun w' _ => ?_⟩
            simp only [execOp]
            rw [Sem.run_bind, Sem.run_bind, hx1.inv_bool, hy1.inv_bool, eqGuard_at_bool]
            rcases hop with rfl | rfl <;> simp [binOp, Op.equal, Op.maxDepth, h2]
          · rw [hx1.inv_int, hy1.inv_int] at h2
            obtain ⟨rfl, hgg⟩ := hgg
            refine ⟨_, .g (.bool _), fun w' _ => ?_⟩
            simp only [execOp]
            rw [Sem.run_bind, Sem.run_bind, hx1.inv_int, hy1.inv_int, eqGuard_at_int]
            rcases hop with rfl | rfl <;> simp [binOp, Op.intCmp] <;> simp [eqL, eqG] at hq <;> rw [← hq] <;> rfl
          · refine ⟨_, .g (.bool _), fun w' _ => ?_⟩
            simp only [execOp]
            rw [Sem.run_bind, Sem.run_bind, hx1.inv_str, hy1.inv_str, eqGuard_at_string]
            rcases hop with rfl | rfl <;> simp [binOp, Op.stringOp] <;> simp [eqL, eqG] at hq <;> rw [← hq]
        · cases hq

theorem isNil_ok {E : Env} {k : Nat} {p : AV} {r : Bool} {c : Value} (h : isNil k p = some r) (hp : AR E p c) :
    (k = 0 ∧ ∃ A, c = .pointer A ∧ r = A.isNone) ∨ (k = 1 ∧ ((c = .nilIface ∧ r = true) ∨ ∃ t u, c = .iface t u ∧ r = false)) ∨
    (k = 2 ∧ ((c = .nilFunc ∧ r = true) ∨ ∃ f x y, c = .func f x y ∧ r = false)) ∨ (k = 3 ∧ ∃ m, c = .map m ∧ r = m.isNone) := by
  unfold isNil at h
  split at h <;> (first | (cases h; done) | skip) <;> cases h
  · cases hp.inv_g; exact .inl ⟨rfl, _, rfl, rfl⟩
  · cases hp.inv_g; exact .inr (.inl ⟨rfl, .inl ⟨rfl, rfl⟩⟩)
  · cases hp.inv_g; exact .inr (.inr (.inl ⟨rfl, .inl ⟨rfl, rfl⟩⟩))
  · cases hp.inv_g; exact .inr (.inr (.inr ⟨rfl, _, rfl, rfl⟩))
  · cases hp; exact .inl ⟨rfl, _, rfl, rfl⟩
  · cases hp; exact .inl ⟨rfl, _, rfl, rfl⟩
  · cases hp.inv_g; exact .inr (.inl ⟨rfl, .inr ⟨_, _, rfl, rfl⟩⟩)
  · cases hp.inv_g; exact .inr (.inl ⟨rfl, .inr ⟨_, _, rfl, rfl⟩⟩)
  · cases hp; exact .inr (.inl ⟨rfl, .inr ⟨_, _, rfl, rfl⟩⟩)
  · cases hp.inv_g; exact .inr (.inr (.inl ⟨rfl, .inr ⟨_, _, _, rfl, rfl⟩⟩))
  · cases hp; exact .inr (.inr (.inl ⟨rfl, .inr ⟨_, _, _, rfl, rfl⟩⟩))
  · cases hp; exact .inr (.inr (.inl ⟨rfl, .inr ⟨_, _, _, rfl, rfl⟩⟩))
  · cases hp; exact .inr (.inr (.inl ⟨rfl, .inr ⟨_, _, _, rfl, rfl⟩⟩))
  · cases hp; exact .inr (.inr (.inr ⟨rfl, _, rfl, rfl⟩))

theorem nilK_ok {t : TypeId} {y : Operand} {k : Nat} (h : nilK P t y = some k) :
    (k = 0 ∧ y = .const (.pointer none) ∧ ∃ e, P.underlying t = some (.pointer e)) ∨ (k = 1 ∧ y = .const .nilIface ∧ ∃ e, P.underlying t = some (.interface e)) ∨
    (k = 2 ∧ y = .const .nilFunc ∧ ∃ a b c, P.underlying t = some (.func a b c)) ∨ (k = 3 ∧ y = .const (.map none) ∧ ∃ a b, P.underlying t = some (.map a b)) := by
  unfold nilK at h
  split at h <;> (first | (cases h; done) | skip) <;> cases h
  · rename_i hu; exact .inl ⟨rfl, rfl, _, hu⟩
  · rename_i hu; exact .inr (.inl ⟨rfl, rfl, _, hu⟩)
  · rename_i hu; exact .inr (.inr (.inl ⟨rfl, rfl, _, _, _, hu⟩))
  · rename_i hu; exact .inr (.inr (.inr ⟨rfl, rfl, _, _, hu⟩))

/-- '==' and '!=' by type. -/
theorem run_eqn {op : BinOp} (hop : op = .eql ∨ op = .neq) (t : TypeId) (cx cy : Value) (r : Bool) (w : World)
    (hb : binOp .eql t cx cy = Value.bool <$> Op.equal t cx cy ∧ binOp .neq t cx cy = (fun a => Value.bool !a) <$> Op.equal t cx cy) (h : (Op.equalIn (9999 + 1) t cx cy).run P w = .ok r w) :
    (binOp op t cx cy).run P w = .ok (.bool (if op = .neq then !r else r)) w := by
  have h' : (Op.equal t cx cy).run P w = .ok r w := h
  rcases hop with rfl | rfl
  · rw [hb.1]; simp [h']
  · rw [hb.2]; simp [h']

theorem eqn_ptr (d : Nat) {t e : TypeId} (hu : P.underlying t = some (.pointer e)) (A : Option Addr) (w : World) :
    (Op.equalIn (d + 1) t (.pointer A) (.pointer none)).run P w = .ok A.isNone w ∧ (Op.equalIn (d + 1) t (.pointer none) (.pointer A)).run P w = .ok A.isNone w := by
  cases A <;> simp [Op.equalIn, run_underlying hu]
theorem eqn_map (d : Nat) {t e1 e2 : TypeId} (hu : P.underlying t = some (.map e1 e2)) (A : Option Nat) (w : World) :
    (Op.equalIn (d + 1) t (.map A) (.map none)).run P w = .ok A.isNone w ∧ (Op.equalIn (d + 1) t (.map none) (.map A)).run P w = .ok A.isNone w := by
  cases A <;> simp [Op.equalIn, run_underlying hu]
theorem eqn_if0 (d : Nat) {t : TypeId} {e} (hu : P.underlying t = some (.interface e)) (w : World) : (Op.equalIn (d + 1) t .nilIface .nilIface).run P w = .ok true w := by
  simp [Op.equalIn, run_underlying hu]
theorem eqn_if1 (d : Nat) {t : TypeId} {e} (hu : P.underlying t = some (.interface e)) (q : TypeId) (u : Value) (w : World) :
    (Op.equalIn (d + 1) t (.iface q u) .nilIface).run P w = .ok false w ∧ (Op.equalIn (d + 1) t .nilIface (.iface q u)).run P w = .ok false w := by
  simp [Op.equalIn, run_underlying hu]
theorem eqn_fn0 (d : Nat) {t : TypeId} {e1 e2 e3} (hu : P.underlying t = some (.func e1 e2 e3)) (w : World) : (Op.equalIn (d + 1) t .nilFunc .nilFunc).run P w = .ok true w := by
  simp [Op.equalIn, run_underlying hu]
theorem eqn_fn1 (d : Nat) {t : TypeId} {e1 e2 e3} (hu : P.underlying t = some (.func e1 e2 e3)) (f : Fn) (x y : Array Value) (w : World) :
    (Op.equalIn (d + 1) t (.func f x y) .nilFunc).run P w = .ok false w ∧ (Op.equalIn (d + 1) t .nilFunc (.func f x y)).run P w = .ok false w := by
  simp [Op.equalIn, run_underlying hu]

theorem y_isnil {E : Env} (ht : TR E a s.t) {dst : Option Tmp} {ty : TypeId} {pos : String} {after : Array Edge} {gd : Option (Nat × Bool)} {op : BinOp} (hop : op = .eql ∨ op = .neq) {t yt : TypeId} {x y : Operand} {X : Opd} {k : Nat}
    (hor : (nilK P t y = some k ∧ cOpd x = some X) ∨ (nilK P t x = some k ∧ cOpd y = some X))
    (he : evP h s (.isnil (op == .neq) k X) = some (v, rs)) : Yl P E ⟨dst, .binOp op t x y yt, ty, pos, after, gd⟩ a v rs := by
  simp only [evP] at he
  cases hX : val s X with
  | none => simp [hX] at he
  | some p =>
    simp only [hX] at he
    cases hq : isNil k p with
    | none => simp [hq] at he
    | some r =>
      simp [hq] at he
      obtain ⟨rfl, rfl⟩ := he
      have fin : (∀ w', (eqGuard op t x y (a.eval x) (a.eval y)).run P w' = .ok () w') → (∀ w', (binOp op t (a.eval x) (a.eval y)).run P w' = .ok (.bool (if op = .neq then !r else r)) w') →
          Yl P E ⟨dst, .binOp op t x y yt, ty, pos, after, gd⟩ a (.g (.bool (if op = .neq then !r else r))) [] := by
        intro h1 h2
        refine ⟨_, .g (.bool _), fun w' _ => ?_⟩
        simp only [execOp]
        rw [Sem.run_bind, Sem.run_bind, h1, Result.andThen_ok, h2]
        rfl
      rcases hor with ⟨hn, hx⟩ | ⟨hn, hx⟩
      · have hk := isNil_ok hq (cOpd_ok ht hx hX)
        rcases nilK_ok hn with ⟨rfl, rfl, e, hu⟩ | ⟨rfl, rfl, e, hu⟩ | ⟨rfl, rfl, e1, e2, e3, hu⟩ | ⟨rfl, rfl, e1, e2, hu⟩
        · rcases hk with ⟨_, A, hA, rfl⟩ | ⟨hk, _⟩ | ⟨hk, _⟩ | ⟨hk, _⟩ <;> try (cases hk; done)
          refine fin (fun w' => by rw [hA, eqGuard_at_pointer]; rfl) (fun w' => ?_)
          rw [hA]
          exact run_eqn hop t _ _ _ w' (by constructor <;> simp [binOp, Act.eval]) (eqn_ptr 9999 hu A w').1
        · rcases hk with ⟨hk, _⟩ | ⟨_, ⟨hA, rfl⟩ | ⟨t', u, hA, rfl⟩⟩ | ⟨hk, _⟩ | ⟨hk, _⟩ <;> try (cases hk; done)
          · refine fin (fun w' => by rw [hA]; show (eqGuard op t x (.const .nilIface) .nilIface .nilIface).run P w' = _; rw [eqGuard_nil_constR]; rfl) (fun w' => ?_)
            rw [hA]
            exact run_eqn hop t _ _ _ w' (by constructor <;> simp [binOp, Act.eval]) (eqn_if0 9999 hu w')
          · refine fin (fun w' => by rw [hA, eqGuard_at_iface]; rfl) (fun w' => ?_)
            rw [hA]
            exact run_eqn hop t _ _ _ w' (by constructor <;> simp [binOp, Act.eval]) (eqn_if1 9999 hu _ _ w').1
        · rcases hk with ⟨hk, _⟩ | ⟨hk, _⟩ | ⟨_, ⟨hA, rfl⟩ | ⟨f, x1, y1, hA, rfl⟩⟩ | ⟨hk, _⟩ <;> try (cases hk; done)
          · refine fin (fun w' => by rw [hA, eqGuard_at_nilFunc]; rfl) (fun w' => ?_)
            rw [hA]
            exact run_eqn hop t _ _ _ w' (by constructor <;> simp [binOp, Act.eval]) (eqn_fn0 9999 hu w')
          · refine fin (fun w' => by rw [hA, eqGuard_at_func]; rfl) (fun w' => ?_)
            rw [hA]
            exact run_eqn hop t _ _ _ w' (by constructor <;> simp [binOp, Act.eval]) (eqn_fn1 9999 hu _ _ _ w').1
        · rcases hk with ⟨hk, _⟩ | ⟨hk, _⟩ | ⟨hk, _⟩ | ⟨_, m, hA, rfl⟩ <;> try (cases hk; done)
          refine fin (fun w' => by rw [hA, eqGuard_at_map]; rfl) (fun w' => ?_)
          rw [hA]
          exact run_eqn hop t _ _ _ w' (by constructor <;> simp [binOp, Act.eval]) (eqn_map 9999 hu m w').1
      · have hk := isNil_ok hq (cOpd_ok ht hx hX)
        rcases nilK_ok hn with ⟨rfl, rfl, e, hu⟩ | ⟨rfl, rfl, e, hu⟩ | ⟨rfl, rfl, e1, e2, e3, hu⟩ | ⟨rfl, rfl, e1, e2, hu⟩
        · rcases hk with ⟨_, A, hA, rfl⟩ | ⟨hk, _⟩ | ⟨hk, _⟩ | ⟨hk, _⟩ <;> try (cases hk; done)
          refine fin (fun w' => by show (eqGuard op t _ y (.pointer none) _).run P w' = _; rw [eqGuard_at_pointer]; rfl) (fun w' => ?_)
          rw [hA]
          exact run_eqn hop t _ _ _ w' (by constructor <;> simp [binOp, Act.eval]) (eqn_ptr 9999 hu A w').2
        · rcases hk with ⟨hk, _⟩ | ⟨_, ⟨hA, rfl⟩ | ⟨t', u, hA, rfl⟩⟩ | ⟨hk, _⟩ | ⟨hk, _⟩ <;> try (cases hk; done)
          · refine fin (fun w' => by rw [hA]; show (eqGuard op t (.const .nilIface) y .nilIface .nilIface).run P w' = _; rw [eqGuard_nil_constL]; rfl) (fun w' => ?_)
            rw [hA]
            exact run_eqn hop t _ _ _ w' (by constructor <;> simp [binOp, Act.eval]) (eqn_if0 9999 hu w')
          · refine fin (fun w' => by rw [hA]; show (eqGuard op t _ y .nilIface _).run P w' = _; rw [eqGuard_nil_iface]; rfl) (fun w' => ?_)
            rw [hA]
            exact run_eqn hop t _ _ _ w' (by constructor <;> simp [binOp, Act.eval]) (eqn_if1 9999 hu _ _ w').2
        · rcases hk with ⟨hk, _⟩ | ⟨hk, _⟩ | ⟨_, ⟨hA, rfl⟩ | ⟨f, x1, y1, hA, rfl⟩⟩ | ⟨hk, _⟩ <;> try (cases hk; done)
          · refine fin (fun w' => by show (eqGuard op t _ y .nilFunc _).run P w' = _; rw [eqGuard_at_nilFunc]; rfl) (fun w' => ?_)
            rw [hA]
            exact run_eqn hop t _ _ _ w' (by constructor <;> simp [binOp, Act.eval]) (eqn_fn0 9999 hu w')
          · refine fin (fun w' => by show (eqGuard op t _ y .nilFunc _).run P w' = _; rw [eqGuard_at_nilFunc]; rfl) (fun w' => ?_)
            rw [hA]
            exact run_eqn hop t _ _ _ w' (by constructor <;> simp [binOp, Act.eval]) (eqn_fn1 9999 hu _ _ _ w').2
        · rcases hk with ⟨hk, _⟩ | ⟨hk, _⟩ | ⟨hk, _⟩ | ⟨_, m, hA, rfl⟩ <;> try (cases hk; done)
          refine fin (fun w' => by show (eqGuard op t _ y (.map none) _).run P w' = _; rw [eqGuard_at_map]; rfl) (fun w' => ?_)
          rw [hA]
          exact run_eqn hop t _ _ _ w' (by constructor <;> simp [binOp, Act.eval]) (eqn_map 9999 hu m w').2

end
end Go.AM
end
section
set_option linter.unusedSimpArgs false
set_option linter.unusedVariables false
namespace Go.AM
open Go

section
variable {P : Program} {h : List Blk} {s : St} {a : Act} {w : World} {L : Nat → Lc} {v : AV} {rs : List Nat} {drw : Option Nat}

theorem one_map {x : Option AV} (he : x.map (·, ([] : List Nat)) = some (v, rs)) : x = some v ∧ rs = [] := by
  obtain ⟨z, h1, h2⟩ := map_some_inv he
  cases h2
  exact ⟨h1, rfl⟩

theorem mkV_true (xs : Array Value) : mkV true xs = .agg xs := rfl

theorem read_run {P : Program} {t : TypeId} {b : Bool} {n : Nat} (ha : aggT P t = some b) (hs : szT P t = some n) (xs : Array Value) (off : Nat) (w : World) (hsz : (xs.extract off (off + n)).size = n) (hn : b = true ∨ 0 < n) :
    (part t xs off).run P w = .ok (mkV b (xs.extract off (off + n))) w := by
  rw [run_part ha hs]
  cases b
  · have h1 : 0 < n := by simpa using hn
    have hlt : off < xs.size := by simp at hsz; omega
    simp only [Bool.false_eq_true, if_false, Array.getElem?_eq_getElem hlt, mkV]
    congr 1
    rw [Array.getD_eq_getD_getElem?, Array.getElem?_extract, if_pos (by omega)]
    simp [hlt]
  · simp [mkV]

theorem agg_pos {E : Env} {ag : Bool} {n : Nat} {cs : List AV} {v : AV} (h : sub ag n cs = some v) : ag = true ∨ 0 < n := by
  unfold sub at h
  split at h
  · cases ag
    · unfold one at h
      simp at h
      match cs, h with
      | [c], _ => rename_i hl; simp at hl; right; omega
    · exact .inl rfl
  · cases h

/-- A variable's load: it asks its own block alone. -/
theorem y_loadP (hr : HR w (full h s) L) (ht : TR (envOf w (full h s) L) a s.t) {dst : Option Tmp} {ty : TypeId} {pos : String} {after : Array Edge} {gd : Option (Nat × Bool)} {t : TypeId} {p : Operand} {X : Opd} {ag : Bool} {n id o : Nat}
    (ha : aggT P t = some ag) (hs : szT P t = some n) (hc : ag = true ∨ n = 1) (hx : cOpd p = some X) (hX : val s X = some (.ptr id o)) (he : evP h s (.load ag n X) = some (v, rs)) :
    ∃ cv, AR (envOf w (full h s) L) v cv ∧ ∀ w', (∀ b, (L id).blk = some b → w'.heap[b]? = w.heap[b]?) → (execOp a.eval ⟨dst, .load t p, ty, pos, after, gd⟩).run P w' = .ok (.value cv) w' := by
  simp only [evP, hX] at he
  have fin : ∀ b, (L id).blk = some b → (∃ cv, AR (envOf w (full h s) L) v cv ∧ ∀ w', w'.heap[b]? = w.heap[b]? → (Instr.loadAt t (a.eval p)).run P w' = .ok cv w') → ∃ cv, AR (envOf w (full h s) L) v cv ∧ ∀ w', (∀ b, (L id).blk = some b → w'.heap[b]? = w.heap[b]?) → (execOp a.eval ⟨dst, .load t p, ty, pos, after, gd⟩).run P w' = .ok (.value cv) w' := by
    rintro b hb ⟨cv, h1, h2⟩
    exact ⟨cv, h1, fun w' hw => by simp only [execOp]; rw [Sem.run_bind, h2 w' (hw b hb)]; rfl⟩
  have hq := cOpd_ok ht hx hX
  cases hB : getB h s id with
  | none => simp [hB] at he
  | some k =>
    cases k <;> simp [hB] at he
    all_goals
      rename_i cs
      obtain ⟨v', hsub, rfl, rfl⟩ := he
      have hk : HB (envOf w (full h s) L) id (.cells cs) := by first | exact hr.blk id _ (by rw [getB_full]; exact hB) | exact (hr.blk id _ (by rw [getB_full]; exact hB)).asCells
      obtain ⟨_, b, T, C, h1, h2, h3, h4⟩ := hk
      refine fin b h1 ?_
      generalize a.eval p = cp at hq ⊢
      cases hq with
      | ptr hid hgen hb =>
        rw [hb] at h1; cases h1
        refine load_rowP (o := o) ha hs hc h2 (fun j x hj => ?_) hsub
        rw [List.getElem?_take] at hj
        split at hj
        · rw [List.getElem?_drop] at hj; exact h4 _ _ hj
        · cases hj

theorem y_load (hr : HR w (full h s) L) (ht : TR (envOf w (full h s) L) a s.t) {dst : Option Tmp} {ty : TypeId} {pos : String} {after : Array Edge} {gd : Option (Nat × Bool)} {t : TypeId} {p : Operand} {X : Opd} {ag : Bool} {n : Nat} (ha : aggT P t = some ag) (hs : szT P t = some n) (hc : ag = true ∨ n = 1)
    (hx : cOpd p = some X) (he : evP h s (.load ag n X) = some (v, rs)) : Yl P (envOf w (full h s) L) ⟨dst, .load t p, ty, pos, after, gd⟩ a v rs := by
  simp only [evP] at he
  have fin : (∃ cv, AR (envOf w (full h s) L) v cv ∧ ∀ w', Sees (envOf w (full h s) L) rs w' → (Instr.loadAt t (a.eval p)).run P w' = .ok cv w') → Yl P (envOf w (full h s) L) ⟨dst, .load t p, ty, pos, after, gd⟩ a v rs := by
    rintro ⟨cv, h1, h2⟩
    exact ⟨cv, h1, fun w' hw => by simp only [execOp]; rw [Sem.run_bind, h2 w' (hw rfl)]; rfl⟩
  apply fin
  cases hX : val s X with
  | none => simp [hX] at he
  | some q =>
    have hq := cOpd_ok ht hx hX
    simp only [hX] at he
    split at he
    · -- a variable
      rename_i id o e
      simp at e
      subst e
      cases hB : getB h s id with
      | none => simp [hB] at he
      | some k =>
        cases k <;> simp [hB] at he
        all_goals
          rename_i cs
          obtain ⟨v', hsub, rfl, rfl⟩ := he
          have hk : HB (envOf w (full h s) L) id (.cells cs) := by first | exact hr.blk id _ (by rw [getB_full]; exact hB) | exact (hr.blk id _ (by rw [getB_full]; exact hB)).asCells
          obtain ⟨_, b, T, C, h1, h2, h3, h4⟩ := hk
          generalize a.eval p = cp at hq ⊢
          cases hq with
          | ptr hid hgen hb =>
            rw [hb] at h1; cases h1
            refine load_row (o := o) ha hs hc h2 (fun j x hj => ?_) [id] (.inr ⟨id, by simp, hb⟩) hsub
            rw [List.getElem?_take] at hj
            split at hj
            · rw [List.getElem?_drop] at hj; exact h4 _ _ hj
            · cases hj
    · -- memory that is only read
      rename_i cs e
      simp at e
      subst e
      obtain ⟨hsub, rfl⟩ := one_map he
      exact load_cp ha hs hc hq hsub
    · -- a row's element
      rename_i id g sz i o e
      simp at e
      subst e
      cases hB : getB h s id with
      | none => simp [hB] at he
      | some k =>
        cases k <;> simp [hB] at he
        rename_i sz' g' els
        obtain ⟨⟨rfl, rfl⟩, he⟩ := he
        cases hi : els[i]? with
        | none => simp [hi] at he
        | some el =>
          simp [hi] at he
          obtain ⟨v', hsub, rfl, rfl⟩ := he
          have hk := hr.blk id _ (by rw [getB_full]; exact hB)
          obtain ⟨h0, h1, h2⟩ := hk
          generalize a.eval p = cp at hq ⊢
          cases hq with
          | rp hid hg0 hle hone hm =>
            obtain ⟨b, hb, rfl⟩ := hm h0.symm
            rw [hb] at h2
            obtain ⟨T, C, h3, h4⟩ := h2
            refine load_row (o := i * sz + o) ha hs hc h3 (fun j x hj => ?_) [id] (.inr ⟨id, by simp, hb⟩) hsub
            rw [List.getElem?_take] at hj
            split at hj
            · rw [List.getElem?_drop, List.getElem?_map] at hj
              cases hq : el[o + j]? with
              | none => simp [hq] at hj
              | some y =>
                simp [hq] at hj
                subst hj
                obtain ⟨u, hu1, hu2⟩ := (h4.2.2 i el hi).2 (o + j) y hq
                exact ⟨u, by rw [Nat.add_assoc]; exact hu1, .g hu2, hu2.one⟩
            · cases hj
    · cases he

/-- A package's variable that holds an error of errors.New's make. -/
theorem y_glob (hr : HR w (full h s) L) {dst : Option Tmp} {ty : TypeId} {pos : String} {after : Array Edge} {gd : Option (Nat × Bool)} {t : TypeId} {g : Nat} (ha : aggT P t = some false) (hs : szT P t = some 1)
    (he : evP h s (.glob g) = some (v, rs)) : Yl P (envOf w (full h s) L) ⟨dst, .load t (.global g), ty, pos, after, gd⟩ a v rs := by
  simp only [evP] at he
  split at he
  case h_2 => cases he
  rename_i t' b hB
  cases he
  have hk : HB (envOf w (full h s) L) g (.gsen t' b) := hr.blk g _ (by rw [getB_full]; exact hB)
  obtain ⟨c, hc⟩ := hk
  cases hc with
  | @sen _ _ _ ad C T hg hO hc ha' hOa hb hs' =>
    refine ⟨_, .g (.sen g t' b hg hO hc ha' hOa hb hs'), fun w' hw => ?_⟩
    have k := run_loadVar_cells (P := P) ha hs (.inr rfl) g 0 #[.iface t' (.pointer (some ad))] w' rfl (fun j u hj => by
      cases j with
      | zero =>
        simp only [List.getElem?_toArray, List.getElem?_cons_zero, Option.some.injEq] at hj
        subst hj
        rw [(hw rfl).cell hg (.inl hO)]
        exact hc
      | succ j => simp at hj)
    simp only [execOp, Act.eval, Instr.loadAt, Instr.sureAddr, pure_bind, Sem.run_bind, k]
    rfl

theorem y_easy {o : Oper} {E : Env} {cv : Value} (h1 : AR E v cv) (h2 : ∀ w', (execOp a.eval o).run P w' = .ok (.value cv) w') : Yl P E o a v rs := ⟨cv, h1, fun w' _ => h2 w'⟩

theorem cur_ok (hr : HR w (full h s) L) {id g : Nat} (hc : cur h s id g = true) : g = ((envOf w (full h s) L).L id).gen := by
  unfold cur at hc
  split at hc
  · rename_i hB
    have hk := hr.blk id _ (by rw [getB_full]; exact hB)
    exact (beq_iff_eq.mp hc).trans hk.1.symm
  · rename_i hB
    have hk := hr.blk id _ (by rw [getB_full]; exact hB)
    exact (beq_iff_eq.mp hc).trans hk.1.symm
  · rename_i hB
    have hk := hr.blk id _ (by rw [getB_full]; exact hB)
    exact (beq_iff_eq.mp hc).trans hk.1.symm
  · cases hc

theorem ms_ok (hr : HR w (full h s) L) {id g sz off len : Nat} {c : Value} (hc : cur h s id g = true) (hx : AR (envOf w (full h s) L) (.ms id g sz off len) c) :
    id < (full h s).length ∧ 0 < (L id).gen ∧ g = (L id).gen ∧ MsOk (L id) sz off len c := by
  cases hx with
  | ms hid h0 hle h1 hm hz => exact ⟨hid, h0, cur_ok hr hc, hm (cur_ok hr hc)⟩

theorem ms_nil (hr : HR w (full h s) L) {id g sz off len : Nat} {c : Value} (hc : cur h s id g = true) (hx : AR (envOf w (full h s) L) (.ms id g sz off len) c) : g = 1 ↔ (L id).blk = none := by
  cases hx with
  | ms hid h0 hle h1 hm hz => exact hz (cur_ok hr hc)

theorem isNilS_ok (hr : HR w (full h s) L) {p : AV} {c : Value} {r : Bool} (he : isNilS h s p = some r) (hx : AR (envOf w (full h s) L) p c) : ∃ A n m, c = .slice A n m ∧ A.isNone = r := by
  unfold isNilS at he
  split at he
  · cases he; cases hx.inv_g; exact ⟨none, 0, 0, rfl, rfl⟩
  · cases he
    cases hx.inv_g with
    | sl => exact ⟨_, _, _, rfl, rfl⟩
    | sl0 => exact ⟨_, _, _, rfl, rfl⟩
  · split at he
    · rename_i hc
      cases he
      obtain ⟨_, _, _, hm⟩ := ms_ok hr hc hx
      have hz := ms_nil hr hc hx
      unfold MsOk at hm
      cases hb : (L _).blk with
      | none =>
        rw [hb] at hm hz
        exact ⟨none, 0, 0, hm.1, by simp [hz.2 rfl]⟩
      | some b =>
        rw [hb] at hm hz
        obtain ⟨A, c', rfl, _⟩ := hm
        refine ⟨some A, _, _, rfl, ?_⟩
        have : ¬ _ = 1 := fun e => by cases hz.1 e
        simp [this]
    · cases he
  · cases he

theorem eqn_sl (d : Nat) {t e : TypeId} (hu : P.underlying t = some (.slice e)) (A : Option Addr) (n m : Nat) (w : World) :
    (Op.equalIn (d + 1) t (.slice A n m) (.slice none 0 0)).run P w = .ok A.isNone w ∧ (Op.equalIn (d + 1) t (.slice none 0 0) (.slice A n m)).run P w = .ok A.isNone w := by
  cases A <;> simp [Op.equalIn, run_underlying hu]

theorem nilSl_ok {t : TypeId} {y : Operand} (h : nilSl P t y = true) : y = .const (.slice none 0 0) ∧ ∃ e, P.underlying t = some (.slice e) := by
  unfold nilSl at h
  split at h
  · rename_i hu; exact ⟨rfl, _, hu⟩
  · cases h

theorem y_isnilS (hr : HR w (full h s) L) (ht : TR (envOf w (full h s) L) a s.t) {dst : Option Tmp} {ty : TypeId} {pos : String} {after : Array Edge} {gd : Option (Nat × Bool)} {op : BinOp} (hop : op = .eql ∨ op = .neq) {t yt : TypeId} {x y : Operand} {X : Opd}
    (hor : (nilSl P t y = true ∧ cOpd x = some X) ∨ (nilSl P t x = true ∧ cOpd y = some X))
    (he : evP h s (.isnilS (op == .neq) X) = some (v, rs)) : Yl P (envOf w (full h s) L) ⟨dst, .binOp op t x y yt, ty, pos, after, gd⟩ a v rs := by
  simp only [evP] at he
  cases hX : val s X with
  | none => simp [hX] at he
  | some p =>
    simp only [hX] at he
    cases hq : isNilS h s p with
    | none => simp [hq] at he
    | some r =>
      simp [hq] at he
      obtain ⟨rfl, rfl⟩ := he
      have fin : (∀ w', (eqGuard op t x y (a.eval x) (a.eval y)).run P w' = .ok () w') → (∀ w', (binOp op t (a.eval x) (a.eval y)).run P w' = .ok (.bool (if op = .neq then !r else r)) w') →
          Yl P (envOf w (full h s) L) ⟨dst, .binOp op t x y yt, ty, pos, after, gd⟩ a (.g (.bool (if op = .neq then !r else r))) [] := by
        intro h1 h2
        refine ⟨_, .g (.bool _), fun w' _ => ?_⟩
        simp only [execOp]
        rw [Sem.run_bind, Sem.run_bind, h1, Result.andThen_ok, h2]
        rfl
      rcases hor with ⟨hn, hx⟩ | ⟨hn, hx⟩
      · obtain ⟨A, n, m, hA, rfl⟩ := isNilS_ok hr hq (cOpd_ok ht hx hX)
        obtain ⟨rfl, e, hu⟩ := nilSl_ok hn
        refine fin (fun w' => by rw [hA, eqGuard_at_slice]; rfl) (fun w' => ?_)
        rw [hA]
        exact run_eqn hop t _ _ _ w' (by constructor <;> simp [binOp, Act.eval]) (eqn_sl 9999 hu A n m w').1
      · obtain ⟨A, n, m, hA, rfl⟩ := isNilS_ok hr hq (cOpd_ok ht hx hX)
        obtain ⟨rfl, e, hu⟩ := nilSl_ok hn
        refine fin (fun w' => by show (eqGuard op t _ y (.slice none 0 0) _).run P w' = _; rw [eqGuard_at_slice]; rfl) (fun w' => ?_)
        rw [hA]
        exact run_eqn hop t _ _ _ w' (by constructor <;> simp [binOp, Act.eval]) (eqn_sl 9999 hu A n m w').2

theorem MsOk.slice {lc : Lc} {sz off len : Nat} {v : Value} (h : MsOk lc sz off len v) : ∃ A cap, v = .slice A len cap ∧ len ≤ cap := by
  unfold MsOk at h
  cases hb : lc.blk with
  | none => rw [hb] at h; obtain ⟨rfl, _, rfl⟩ := h; exact ⟨_, _, rfl, by simp⟩
  | some b => rw [hb] at h; obtain ⟨A, c, rfl, _, h2, _⟩ := h; exact ⟨_, _, rfl, h2⟩

theorem len_ok (hr : HR w (full h s) L) {x : AV} {c : Value} {n : Nat} (hl : lenV h s x = some n) (hx : AR (envOf w (full h s) L) x c) : ∃ A cap, c = .slice A n cap := by
  unfold lenV at hl
  split at hl
  · cases hl
    have := hx.inv_g; cases this
    · exact ⟨_, _, rfl⟩
    · exact ⟨_, _, rfl⟩
  · cases hl; cases hx.inv_g; exact ⟨_, _, rfl⟩
  · split at hl
    · cases hl
      rename_i hc
      obtain ⟨A, cap, e, _⟩ := (ms_ok hr hc hx).2.2.2.slice
      exact ⟨A, cap, e⟩
    · cases hl
  · cases hl

theorem run_indexAt_slice {t e : TypeId} {sz : Nat} (hu : P.underlying t = some (.slice e)) (hs : szT P e = some sz) (A : Addr) (len cap : Nat) (k : IntKind) (n : Int) (h0 : 0 ≤ n) (h1 : n < len) (w : World) :
    (Instr.indexAt t (.slice (some A) len cap) (.int k n)).run P w = .ok (.pointer (some (A.add (n.toNat * sz)))) w := by
  unfold Instr.indexAt
  simp only [asIntOf, pure_bind, Sem.run_bind, run_underlying hu, Result.andThen_ok, Sem.run_pure]
  rw [if_pos ⟨h0, h1⟩]
  simp [run_sizeOf hs]

theorem run_indexAt_array {t e : TypeId} {sz len : Nat} (hu : P.underlying t = some (.array len e)) (hs : szT P e = some sz) (A : Addr) (k : IntKind) (n : Int) (h0 : 0 ≤ n) (h1 : n < len) (w : World) :
    (Instr.indexAt t (.pointer (some A)) (.int k n)).run P w = .ok (.pointer (some (A.add (n.toNat * sz)))) w := by
  unfold Instr.indexAt
  simp only [asIntOf, pure_bind, Sem.run_bind, run_underlying hu, Result.andThen_ok, Sem.run_pure, Instr.sureAddr]
  rw [if_pos ⟨h0, h1⟩]
  simp [run_sizeOf hs]

theorem add_none (b o n : Nat) : (⟨b, o, none⟩ : Addr).add n = ⟨b, o + n, none⟩ := by unfold Addr.add; split <;> simp_all

end
end Go.AM
end
section
set_option linter.unusedSimpArgs false
set_option linter.unusedVariables false
namespace Go.AM
open Go

section
variable {P : Program} {h : List Blk} {s : St} {a : Act} {w : World} {L : Nat → Lc} {v : AV} {rs : List Nat} {drw : Option Nat}

theorem y_iaddr (hr : HR w (full h s) L) (ht : TR (envOf w (full h s) L) a s.t) {o : Oper} {t e : TypeId} {x i : Operand} {X I : Opd} {sz : Nat} (ho : o.op = .indexAddr t x i) (hu : P.underlying t = some (.slice e)) (hs : szT P e = some sz) (hx : cOpd x = some X) (hi : cOpd i = some I)
    (he : evP h s (.iaddr sz X I) = some (v, rs)) : Yl P (envOf w (full h s) L) o a v rs := by
  simp only [evP] at he
  have fin : (∃ cv, AR (envOf w (full h s) L) v cv ∧ ∀ w', (Instr.indexAt t (a.eval x) (a.eval i)).run P w' = .ok cv w') → Yl P (envOf w (full h s) L) o a v rs := by
    rintro ⟨cv, h1, h2⟩
    exact ⟨cv, h1, fun w' hw => by simp only [execOp, ho]; rw [Sem.run_bind, h2 w']; rfl⟩
  apply fin
  split at he
  · rename_i sz' els k n hX hI
    have hq := cOpd_ok ht hx hX
    have hn := (cOpd_ok ht hi hI).inv_g.inv_int
    split at he
    · rename_i hc
      obtain ⟨rfl, h0⟩ := hc
      cases hel : els[n.toNat]? with
      | none => simp [hel] at he
      | some el =>
        simp [hel] at he
        obtain ⟨rfl, rfl⟩ := he
        have hlt : n.toNat < els.length := (List.getElem?_eq_some_iff.1 hel).1
        rw [hn]
        generalize a.eval x = cx at hq ⊢
        cases hq with | g hq =>
        cases hq with
        | sl c hcap hb hO hsz hc hg =>
          refine ⟨_, .cp (c n.toNat) hb hO (fun j y hj => hc _ el j y hel hj) (fun j y hj => hg _ el j y hel hj), fun w' => ?_⟩
          rw [run_indexAt_slice hu hs _ _ _ _ _ h0 (by omega), add_none]
        | sl0 => simp at hlt
    · cases he
  · rename_i id g sz' off len k n hX hI
    have hq := cOpd_ok ht hx hX
    have hn := (cOpd_ok ht hi hI).inv_g.inv_int
    split at he
    · rename_i hc
      obtain ⟨rfl, h0, h1, hcur⟩ := hc
      simp at he
      obtain ⟨rfl, rfl⟩ := he
      obtain ⟨hid, hg0, hgen, hm⟩ := ms_ok hr hcur hq
      rw [hn]
      generalize a.eval x = cx at *
      unfold MsOk at hm
      cases hb : (L id).blk with
      | none => rw [hb] at hm; obtain ⟨_, _, rfl⟩ := hm; omega
      | some b =>
        rw [hb] at hm
        obtain ⟨A, c, rfl, h2, h3, h4⟩ := hm
        rcases h4 with rfl | h4
        · refine ⟨.pointer (some ⟨b, (off + n.toNat) * sz + 0, none⟩), .rp hid hg0 (by rw [hgen]; exact Nat.le_refl _) rfl (fun _ => ⟨b, hb, rfl⟩), fun w' => ?_⟩
          rw [run_indexAt_slice hu hs _ _ _ _ _ h0 h1, add_none, Nat.add_mul]; rfl
        · omega
    · cases he
  · cases he

theorem y_iaddrA (ht : TR (envOf w (full h s) L) a s.t) {o : Oper} {t e : TypeId} {x i : Operand} {X I : Opd} {sz len : Nat} (ho : o.op = .indexAddr t x i) (hu : P.underlying t = some (.array len e)) (hs : szT P e = some sz) (hx : cOpd x = some X) (hi : cOpd i = some I)
    (he : evP h s (.iaddrA len sz X I) = some (v, rs)) : Yl P (envOf w (full h s) L) o a v rs := by
  simp only [evP] at he
  have fin : (∃ cv, AR (envOf w (full h s) L) v cv ∧ ∀ w', (Instr.indexAt t (a.eval x) (a.eval i)).run P w' = .ok cv w') → Yl P (envOf w (full h s) L) o a v rs := by
    rintro ⟨cv, h1, h2⟩
    exact ⟨cv, h1, fun w' hw => by simp only [execOp, ho]; rw [Sem.run_bind, h2 w']; rfl⟩
  apply fin
  split at he
  · rename_i id off k n hX hI
    have hq := cOpd_ok ht hx hX
    have hn := (cOpd_ok ht hi hI).inv_g.inv_int
    split at he
    · rename_i hc
      obtain ⟨h0, h1⟩ := hc
      simp at he
      obtain ⟨rfl, rfl⟩ := he
      rw [hn]
      generalize a.eval x = cx at *
      cases hq with
      | ptr hid hgen hb => exact ⟨_, .ptr hid hgen hb, fun w' => by rw [run_indexAt_array hu hs _ _ _ h0 h1, add_none]⟩
    · cases he
  · rename_i cs k n hX hI
    have hq := cOpd_ok ht hx hX
    have hn := (cOpd_ok ht hi hI).inv_g.inv_int
    split at he
    · rename_i hc
      obtain ⟨h0, h1⟩ := hc
      simp at he
      obtain ⟨rfl, rfl⟩ := he
      rw [hn]
      generalize a.eval x = cx at *
      cases hq with
      | cp c hb hO hc hg =>
        refine ⟨_, .cp (fun j => c (n.toNat * sz + j)) hb hO (fun j y hj => ?_) (fun j y hj => ?_), fun w' => by rw [run_indexAt_array hu hs _ _ _ h0 h1, add_none]⟩
        · rw [List.getElem?_drop] at hj
          have := hc _ y hj
          rw [← this, Nat.add_assoc]
        · rw [List.getElem?_drop] at hj; exact hg _ y hj
    · cases he
  · cases he

theorem y_faddr (hr : HR w (full h s) L) (ht : TR (envOf w (full h s) L) a s.t) {o : Oper} {t : TypeId} {f n : Nat} {fl : Field} {x : Operand} {X : Opd} (ho : o.op = .fieldAddr t x f) (hf : fieldT P t f = some fl) (hs : szT P fl.type = some n) (hn : n ≠ 0) (hx : cOpd x = some X)
    (he : evP h s (.faddr fl.offset X) = some (v, rs)) : Yl P (envOf w (full h s) L) o a v rs := by
  simp only [evP] at he
  have fin : (∃ cv, AR (envOf w (full h s) L) v cv ∧ ∀ w', (Instr.fieldAt t (a.eval x) f).run P w' = .ok cv w') → Yl P (envOf w (full h s) L) o a v rs := by
    rintro ⟨cv, h1, h2⟩
    exact ⟨cv, h1, fun w' hw => by simp only [execOp, ho]; rw [Sem.run_bind, h2 w']; rfl⟩
  apply fin
  split at he
  · rename_i id off hX
    have hq := cOpd_ok ht hx hX
    cases he
    generalize a.eval x = cx at *
    cases hq with
    | ptr hid hgen hb => exact ⟨_, .ptr hid hgen hb, fun w' => run_fieldAt hf hs hn _ _ w'⟩
  · rename_i cs hX
    have hq := cOpd_ok ht hx hX
    cases he
    generalize a.eval x = cx at *
    cases hq with
    | cp c hb hO hc hg =>
      refine ⟨_, .cp (fun j => c (fl.offset + j)) hb hO (fun j y hj => ?_) (fun j y hj => ?_), fun w' => run_fieldAt hf hs hn _ _ w'⟩
      · rw [List.getElem?_drop] at hj
        have := hc _ y hj
        rw [← this, Nat.add_assoc]
      · rw [List.getElem?_drop] at hj; exact hg _ y hj
  · rename_i id g sz i off hX
    have hq := cOpd_ok ht hx hX
    split at he
    · rename_i hcur
      cases he
      generalize a.eval x = cx at *
      cases hq with
      | rp hid hg0 hle hone hm =>
        obtain ⟨b, hb, rfl⟩ := hm (cur_ok hr hcur)
        exact ⟨.pointer (some ⟨b, i * sz + off + fl.offset, none⟩), .rp hid hg0 hle rfl (fun _ => ⟨b, hb, by rw [Nat.add_assoc]⟩), fun w' => run_fieldAt hf hs hn _ _ w'⟩
    · cases he
  · cases he

end
end Go.AM
end
section
set_option linter.unusedSimpArgs false
set_option linter.unusedVariables false
namespace Go.AM
open Go

section
variable {P : Program} {h : List Blk} {s : St} {a : Act} {w : World} {L : Nat → Lc} {v : AV} {rs : List Nat} {drw : Option Nat}

theorem evP_field (ht : TR (envOf w (full h s) L) a s.t) {o : Oper} {t : TypeId} {f n : Nat} {fl : Field} {b : Bool} {x : Operand} {X : Opd} (ho : o.op = .field t x f) (hf : fieldT P t f = some fl) (ha : aggT P fl.type = some b) (hs : szT P fl.type = some n) (hx : cOpd x = some X)
    (he : evP h s (.field b fl.offset n X) = some (v, rs)) : Yl P (envOf w (full h s) L) o a v rs := by
  simp only [evP] at he
  split at he
  · rename_i cs hX
    obtain ⟨hsub, rfl⟩ := one_map he
    obtain ⟨xs, e, hc, h1⟩ := (cOpd_ok ht hx hX).crel
    have hlen : ((cs.drop fl.offset).take n).length = n := by
      unfold sub at hsub; split at hsub
      · assumption
      · cases hsub
    have hle : fl.offset + n ≤ cs.length ∨ n = 0 := by simp at hlen; omega
    by_cases hn0 : n = 0
    · subst hn0
      have hb : b = true := (agg_pos (E := envOf w (full h s) L) hsub).resolve_right (by omega)
      subst hb
      have hv : v = .agg [] := by simp [sub, one] at hsub; exact hsub.symm
      subst hv
      refine ⟨.agg (xs.extract fl.offset (fl.offset + 0)), .agg (by first | (simp; done) | (simp; omega)) (fun j a' v' hj => by simp at hj) (fun j v' hj => ?_), fun w' hw => ?_⟩
      · rw [Array.getElem?_extract] at hj; split at hj
        · omega
        · cases hj
      · simp only [execOp, ho, e]; rw [Sem.run_bind, run_field hf, run_part ha hs]; rfl
    · have hcr := hc.extract fl.offset n (hle.resolve_right hn0)
      obtain ⟨hsz, hv⟩ := sub_ok hsub hcr (fun j u hj => by
        rw [Array.getElem?_extract] at hj
        split at hj
        · exact h1 _ _ hj
        · cases hj)
      refine ⟨_, hv, fun w' hw => ?_⟩
      simp only [execOp, ho, e]
      rw [Sem.run_bind]
      rw [run_field hf, read_run ha hs xs fl.offset w' hsz (agg_pos (E := envOf w (full h s) L) hsub)]
      rfl
  · cases he

theorem evP_indexA (ht : TR (envOf w (full h s) L) a s.t) {o : Oper} {t e : TypeId} {sz len : Nat} {b : Bool} {x i : Operand} {X I : Opd} (ho : o.op = .index t x i) (hu : P.underlying t = some (.array len e)) (ha : aggT P e = some b) (hs : szT P e = some sz) (hx : cOpd x = some X) (hi : cOpd i = some I)
    (he : evP h s (.indexA b len sz X I) = some (v, rs)) : Yl P (envOf w (full h s) L) o a v rs := by
  simp only [evP] at he
  split at he
  · rename_i cs k n hX hI
    have hn := (cOpd_ok ht hi hI).inv_g.inv_int
    split at he
    · rename_i hcond
      obtain ⟨h0, h1'⟩ := hcond
      obtain ⟨hsub, rfl⟩ := one_map he
      obtain ⟨xs, e', hc, h1⟩ := (cOpd_ok ht hx hX).crel
      have hlen : ((cs.drop (n.toNat * sz)).take sz).length = sz := by
        unfold sub at hsub; split at hsub
        · assumption
        · cases hsub
      have hpos := agg_pos (E := envOf w (full h s) L) hsub
      have hle : n.toNat * sz + sz ≤ cs.length ∨ sz = 0 := by simp at hlen; omega
      have hrun : ∀ w', (Instr.index t (.agg xs) (.int k n)).run P w' = (part e xs (n.toNat * sz)).run P w' := by
        intro w'
        unfold Instr.index
        simp only [asIntOf, pure_bind, Sem.run_bind, run_underlying hu, Result.andThen_ok]
        rw [if_pos ⟨h0, h1'⟩]
        simp [run_sizeOf hs]
      by_cases hn0 : sz = 0
      · subst hn0
        have hb : b = true := hpos.resolve_right (by omega)
        subst hb
        have hv : v = .agg [] := by simp [sub, one] at hsub; exact hsub.symm
        subst hv
        refine ⟨.agg (xs.extract (n.toNat * 0) (n.toNat * 0 + 0)), .agg (by first | (simp; done) | (simp; omega)) (fun j a' v' hj => by simp at hj) (fun j v' hj => ?_), fun w' hw => ?_⟩
        · rw [Array.getElem?_extract] at hj; split at hj
          · omega
          · cases hj
        · simp only [execOp, ho, e', hn]; rw [Sem.run_bind, hrun, run_part ha hs]; rfl
      · have hcr := hc.extract (n.toNat * sz) sz (hle.resolve_right hn0)
        obtain ⟨hsz, hv⟩ := sub_ok hsub hcr (fun j u hj => by
          rw [Array.getElem?_extract] at hj
          split at hj
          · exact h1 _ _ hj
          · cases hj)
        refine ⟨_, hv, fun w' hw => ?_⟩
        simp only [execOp, ho, e', hn]
        rw [Sem.run_bind, hrun, read_run ha hs xs _ w' hsz hpos]
        rfl
    · cases he
  · cases he

theorem evP_index (ht : TR (envOf w (full h s) L) a s.t) {o : Oper} {t : TypeId} {x i : Operand} {X I : Opd} (ho : o.op = .index t x i) (hu : P.underlying t = some .string) (hx : cOpd x = some X) (hi : cOpd i = some I)
    (he : evP h s (.index X I) = some (v, rs)) : Yl P (envOf w (full h s) L) o a v rs := by
  simp only [evP] at he
  split at he
  · rename_i b k n hX hI
    have hn := (cOpd_ok ht hi hI).inv_g.inv_int
    have hq := (cOpd_ok ht hx hX).inv_g.inv_str
    split at he
    · rename_i h0
      cases hc : b[n.toNat]? with
      | none => simp [hc] at he
      | some c =>
        simp [hc] at he
        obtain ⟨rfl, rfl⟩ := he
        refine ⟨_, .g (.int _ _), fun w' hw => ?_⟩
        have hlt : n.toNat < b.length := (List.getElem?_eq_some_iff.1 hc).1
        have hget : (ByteArray.mk b.toArray)[n.toNat]? = some c := by
          rw [ByteArray.getElem?_lt' _ _ (show n.toNat < b.toArray.size by simpa using hlt)]
          have := (List.getElem?_eq_some_iff.1 hc).2
          congr 1
        simp only [execOp, ho, hn, hq]
        rw [Sem.run_bind]
        unfold Instr.index
        simp only [asIntOf, pure_bind, Sem.run_bind, run_underlying hu, Result.andThen_ok, h0, if_true, hget, Sem.run_pure]
    · cases he
  · cases he

theorem evP_build (ht : TR (envOf w (full h s) L) a s.t) {o : Oper} {t : TypeId} {ps : Array (Nat × Operand)} {z : List AV} {pl : Nat → Option (Nat × Nat)} {l : List (Nat × Nat × Opd)} (ho : o.op = .build t ps) (hz : cZero P t = some z) (hp : places P t = some pl) (hl : cParts pl ps.toList = some l)
    (he : evP h s (.build z l) = some (v, rs)) : Yl P (envOf w (full h s) L) o a v rs := by
  simp only [evP] at he
  cases hf : fills s z l with
  | none => simp [hf] at he
  | some cs' =>
    simp [hf] at he
    obtain ⟨rfl, rfl⟩ := he
    obtain ⟨it, zv, hi, hzz, hcr, h1⟩ := cZero_ok (E := envOf w (full h s) L) hz
    obtain ⟨C', hfill, hcr', h1'⟩ := fills_ok ht pl ps.toList l z cs' zv.cells hl hf hcr h1
    refine ⟨.agg C', .agg hcr'.1 hcr'.2 h1', fun w' hw => ?_⟩
    simp only [execOp, ho]
    rw [Sem.run_bind]
    have hb : P.built t ((ps.map fun (i, x) => (i, a.eval x)).toList) = some C' := by
      unfold Program.built
      unfold places at hp
      cases hu : P.underlying t with
      | none => simp [hu] at hp
      | some u =>
        cases u <;> simp [hu] at hp
        case struct fs =>
          cases hm : fs.toList.mapM (fun f => (szT P f.type).map fun n => (f.offset, n)) with
          | none => simp [hm] at hp
          | some pls =>
            simp [hm] at hp
            have hm' : fs.toList.mapM (fun f => (P.info? f.type).map fun i => (f.offset, i.size)) = some pls := by
              rw [← hm]; congr 1; funext f; simp [szT, Function.comp_def]
            simp only [hi, hzz, hm']
            subst hp
            simpa using hfill
        case array n e =>
          obtain ⟨sz, hsz, rfl⟩ := hp
          have : ∃ ie, P.info? e = some ie ∧ ie.size = sz := by
            unfold szT at hsz
            cases hie : P.info? e with
            | none => simp [hie] at hsz
            | some ie => simp [hie] at hsz; exact ⟨ie, rfl, hsz⟩
          obtain ⟨ie, hie, rfl⟩ := this
          simp only [hi, hzz, hie]
          simpa using hfill
    rw [run_build w' t _ C' hb]
    rfl

theorem evP_slc (hr : HR w (full h s) L) (ht : TR (envOf w (full h s) L) a s.t) {o : Oper} {t e : TypeId} {x : Operand} {lo hi : Option Operand} {X : Opd} {Lo Hi : Option Opd} {k : Nat} (ho : o.op = .slice t x lo hi none) (hu : P.underlying t = some (.slice e)) (hs : szT P e = some k) (hx : cOpd x = some X) (hlo : cOpt lo = some Lo) (hhi : cOpt hi = some Hi)
    (he : evP h s (.slc k X Lo Hi) = some (v, rs)) : Yl P (envOf w (full h s) L) o a v rs := by
  have fin : (∃ cv, AR (envOf w (full h s) L) v cv ∧ ∀ w', (Instr.slice t (a.eval x) (lo.map a.eval) (hi.map a.eval) none).run P w' = .ok cv w') → Yl P (envOf w (full h s) L) o a v rs := by
    rintro ⟨cv, h1, h2⟩
    refine ⟨cv, h1, fun w' hw => ?_⟩
    simp only [execOp, ho]
    rw [Sem.run_bind]
    unfold Instr.sliceAt
    rw [Sem.run_bind, run_underlying hu]
    simp only [Result.andThen_ok, Option.map_none, h2]
    rfl
  apply fin
  have hrun : ∀ (A : Option Addr) (len cap l u : Nat) (w' : World), len ≤ cap → cutB s len Lo Hi = some (l, u) →
      (Instr.slice t (.slice A len cap) (lo.map a.eval) (hi.map a.eval) none).run P w' = .ok (.slice (if cap = l then A else A.map (·.add (l * k))) (u - l) (cap - l)) w' := by
    intro A len cap l u w' hle hcut
    unfold Instr.slice
    simp only [Sem.run_bind, run_underlying hu, Result.andThen_ok, run_sliceBounds ht hlo hhi hle hcut, run_sizeOf hs, Sem.run_pure]
  simp only [evP] at he
  split at he
  · rename_i sz els hX
    have hq := (cOpd_ok ht hx hX).inv_g
    split at he
    · rename_i hk
      subst hk
      cases hcut : cutB s els.length Lo Hi with
      | none => simp [hcut] at he
      | some lu =>
        obtain ⟨l, u⟩ := lu
        simp [hcut] at he
        obtain ⟨rfl, rfl⟩ := he
        obtain ⟨h1, h2, _⟩ := cutB_ok hcut
        obtain ⟨A, n, cap, e1, e2, e3, e4⟩ := hq.cut l u h1 h2
        subst e2
        rw [e1]
        exact ⟨_, .g e4, fun w' => hrun A _ cap l u w' e3 hcut⟩
    · cases he
  · rename_i hX
    have hq := (cOpd_ok ht hx hX).inv_g
    cases hcut : cutB s 0 Lo Hi with
    | none => simp [hcut] at he
    | some lu =>
      obtain ⟨l, u⟩ := lu
      simp [hcut] at he
      obtain ⟨rfl, rfl⟩ := he
      obtain ⟨h1, h2, _⟩ := cutB_ok hcut
      have hl : l = 0 := by omega
      have hu' : u = 0 := by omega
      subst hl hu'
      generalize a.eval x = cx at *
      cases hq
      exact ⟨_, .g .nsl, fun w' => by rw [hrun none 0 0 0 0 w' (Nat.le_refl _) hcut]; rfl⟩
  · rename_i id g sz off len hX
    have hq := cOpd_ok ht hx hX
    split at he
    · rename_i hk
      subst hk
      cases hcut : cutB s len Lo Hi with
      | none =>
        simp only [hcut] at he
        unfold slcW at he
        split at he
        case h_2 => cases he
        rename_i Hi'
        split at he
        case h_2 => cases he
        rename_i n hrl
        split at he
        case isFalse => cases he
        rename_i hoff
        cases hcut2 : cutB s (n - off) Lo (some Hi') with
        | none => simp [hcut2] at he
        | some lu =>
          obtain ⟨l, u⟩ := lu
          simp [hcut2] at he
          obtain ⟨rfl, rfl⟩ := he
          obtain ⟨h1, h2, _⟩ := cutB_ok hcut2
          unfold rowLen at hrl
          split at hrl
          case h_2 => cases hrl
          rename_i sz2 g' els hB
          split at hrl
          case isFalse => cases hrl
          rename_i hgg
          subst hgg
          cases hrl
          have hcur : cur h s id g = true := by simp [cur, hB]
          obtain ⟨hid, hg0, hgen, hm⟩ := ms_ok hr hcur hq
          obtain ⟨_, _, hb⟩ := hr.blk id _ (by rw [getB_full]; exact hB)
          have hcap : els.length ≤ (L id).cap ∧ ((L id).blk = none → els = []) := by
            have hb' := hb
            cases hq2 : (L id).blk with
            | none => rw [show (envOf w (full h s) L).L id = L id from rfl, hq2] at hb'; exact ⟨by rw [hb'.1]; simp, fun _ => hb'.1⟩
            | some b => rw [show (envOf w (full h s) L).L id = L id from rfl, hq2] at hb'; obtain ⟨T, C, _, hrow⟩ := hb'; exact ⟨hrow.2.1, fun e => by cases e⟩
          obtain ⟨A, cap, e1, e2, e3⟩ := hm.cut2 l u h1 (fun e => by have := hcap.2 e; subst this; simp at h2; omega) (by omega)
          rw [e1]
          refine ⟨_, .ms hid hg0 (by rw [hgen]; exact Nat.le_refl _) rfl (fun _ => e3) (fun _ => ms_nil hr hcur hq), fun w' => ?_⟩
          unfold Instr.slice
          simp only [Sem.run_bind, run_underlying hu, Result.andThen_ok, run_sliceBoundsW ht hlo hhi (by simp) e2 hcut2, run_sizeOf hs, Sem.run_pure]
      | some lu =>
        obtain ⟨l, u⟩ := lu
        simp [hcut] at he
        obtain ⟨hcur, rfl, rfl⟩ := he
        obtain ⟨h1, h2, _⟩ := cutB_ok hcut
        obtain ⟨hid, hg0, hgen, hm⟩ := ms_ok hr hcur hq
        obtain ⟨A, cap, e1, e2, e3⟩ := hm.cut l u h1 h2
        rw [e1]
        exact ⟨_, .ms hid hg0 (by rw [hgen]; exact Nat.le_refl _) rfl (fun _ => e3) (fun _ => ms_nil hr hcur hq), fun w' => hrun A len cap l u w' e2 hcut⟩
    · cases he
  · cases he

theorem evP_slc3 (hr : HR w (full h s) L) (ht : TR (envOf w (full h s) L) a s.t) {o : Oper} {t e : TypeId} {x lo hi mx : Operand} {X Lo Hi Mx : Opd} {k : Nat} (ho : o.op = .slice t x (some lo) (some hi) (some mx)) (hu : P.underlying t = some (.slice e)) (hs : szT P e = some k) (hx : cOpd x = some X) (hlo : cOpd lo = some Lo) (hhi : cOpd hi = some Hi) (hmx : cOpd mx = some Mx)
    (he : evP h s (.slc3 k X (some Lo) (some Hi) (some Mx)) = some (v, rs)) : Yl P (envOf w (full h s) L) o a v rs := by
  simp only [evP] at he
  split at he
  case h_2 => cases he
  rename_i xv mv hX hM
  unfold slc3V at he
  split at he
  case h_2 => cases he
  rename_i id g sz off len km m
  split at he
  case isFalse => cases he
  rename_i hc
  obtain ⟨rfl, hcur, hm0, hml⟩ := hc
  cases hcut : cutB s m.toNat (some Lo) (some Hi) with
  | none => simp [hcut] at he
  | some lu =>
    obtain ⟨l, u⟩ := lu
    simp [hcut] at he
    obtain ⟨rfl, rfl⟩ := he
    have hq := cOpd_ok ht hx hX
    obtain ⟨hid, hg0, hgen, hm⟩ := ms_ok hr hcur hq
    obtain ⟨A, cap, e1, e2, _⟩ := hm.cut 0 len (Nat.zero_le _) (Nat.le_refl _)
    have hmv : a.eval mx = .int km m.toNat := by
      have := (cOpd_ok ht hmx hM).inv_g.inv_int
      rw [this]; congr 1; omega
    refine ⟨_, .any (v := .slice (if m.toNat = l then A else A.map (·.add (l * k))) (u - l) (m.toNat - l)) rfl, fun w' hw => ?_⟩
    simp only [execOp, ho]
    rw [Sem.run_bind]
    unfold Instr.sliceAt
    rw [Sem.run_bind, run_underlying hu]
    simp only [Result.andThen_ok, Option.map_some, e1]
    unfold Instr.slice
    have hsb := run_sliceBounds3 (P := P) (isS := true) (n := len) (cap := cap) ht hlo hhi hmv (by omega) hcut w'
    simp only [Sem.run_bind, run_underlying hu, Result.andThen_ok, hsb, run_sizeOf hs, Sem.run_pure]

theorem evP_slcS (ht : TR (envOf w (full h s) L) a s.t) {o : Oper} {t : TypeId} {x : Operand} {lo hi : Option Operand} {X : Opd} {Lo Hi : Option Opd} (ho : o.op = .slice t x lo hi none) (hu : P.underlying t = some .string) (hx : cOpd x = some X) (hlo : cOpt lo = some Lo) (hhi : cOpt hi = some Hi)
    (he : evP h s (.slcS X Lo Hi) = some (v, rs)) : Yl P (envOf w (full h s) L) o a v rs := by
  simp only [evP] at he
  split at he
  · rename_i b hX
    have hq := (cOpd_ok ht hx hX).inv_g.inv_str
    cases hcut : cutB s b.length Lo Hi with
    | none => simp [hcut] at he
    | some lu =>
      obtain ⟨l, u⟩ := lu
      simp [hcut] at he
      obtain ⟨rfl, rfl⟩ := he
      refine ⟨_, .g (.str _), fun w' hw => ?_⟩
      simp only [execOp, ho, hq]
      rw [Sem.run_bind]
      unfold Instr.sliceAt
      rw [Sem.run_bind, run_underlying hu]
      simp only [Result.andThen_ok, Option.map_none]
      unfold Instr.slice
      have hsb := run_sliceBounds (P := P) ht (isS := false) (cap := b.length) hlo hhi (Nat.le_refl _) hcut w'
      simp only [Sem.run_bind, run_underlying hu, Result.andThen_ok, Option.isSome_none, Bool.false_eq_true, if_false, pure_bind, ByteArray.size_mk', List.size_toArray, hsb, Sem.run_pure, toList_take_drop]
  · cases he

end
end Go.AM
end
section
set_option linter.unusedSimpArgs false
set_option linter.unusedVariables false
namespace Go.AM
open Go

section
variable {P : Program} {h : List Blk} {s : St} {a : Act} {w : World} {L : Nat → Lc} {v : AV} {rs : List Nat} {drw : Option Nat}

theorem cOpds_cons {x : Operand} {l : List Operand} {X : List Opd} (hx : cOpds (x :: l) = some X) : ∃ Y Ys, X = Y :: Ys ∧ cOpd x = some Y ∧ cOpds l = some Ys := by
  simp only [cOpds] at hx
  cases h1 : cOpd x with
  | none => simp [h1] at hx
  | some Y => cases h2 : cOpds l with
    | none => simp [h1, h2] at hx
    | some Ys => simp [h1, h2] at hx; exact ⟨Y, Ys, hx.symm, rfl, rfl⟩

theorem cOpds_one {l : List Operand} {X : Opd} (hx : cOpds l = some [X]) : ∃ x, l = [x] ∧ cOpd x = some X := by
  cases l with
  | nil => simp [cOpds] at hx
  | cons x l =>
    obtain ⟨Y, Ys, e, h1, h2⟩ := cOpds_cons hx
    cases l with
    | nil => simp [cOpds] at h2; subst h2; cases e; exact ⟨x, rfl, h1⟩
    | cons y l => obtain ⟨_, _, e', _, _⟩ := cOpds_cons h2; subst e'; cases e

theorem cOpds_two {l : List Operand} {X Y : Opd} (hx : cOpds l = some [X, Y]) : ∃ x y, l = [x, y] ∧ cOpd x = some X ∧ cOpd y = some Y := by
  cases l with
  | nil => simp [cOpds] at hx
  | cons x l =>
    obtain ⟨Z, Zs, e, h1, h2⟩ := cOpds_cons hx
    cases e
    obtain ⟨y, rfl, hy⟩ := cOpds_one h2
    exact ⟨x, y, rfl, h1, hy⟩

theorem mx2_ok {E : Env} (x y v : AV) (cx cy : Value) (h : mx2 x y = some v) (hx : AR E x cx) (hy : AR E y cy) : ∃ cv, AR E v cv ∧ ∀ w', (Builtin.max2 cx cy).run P w' = .ok cv w' := by
  unfold mx2 at h
  split at h
  · cases h
    rw [hx.inv_g.inv_int, hy.inv_g.inv_int]
    exact ⟨_, .g (.int _ _), fun w' => by simp [Builtin.max2]⟩
  · cases h

theorem mn2_ok {E : Env} (x y v : AV) (cx cy : Value) (h : mn2 x y = some v) (hx : AR E x cx) (hy : AR E y cy) : ∃ cv, AR E v cv ∧ ∀ w', (Builtin.min2 cx cy).run P w' = .ok cv w' := by
  unfold mn2 at h
  split at h
  · cases h
    rw [hx.inv_g.inv_int, hy.inv_g.inv_int]
    exact ⟨_, .g (.int _ _), fun w' => by simp [Builtin.min2]⟩
  · cases h

theorem y_builtin (hr : HR w (full h s) L) (ht : TR (envOf w (full h s) L) a s.t) {dst : Option Tmp} {ty : TypeId} {pos : String} {after : Array Edge} {gd : Option (Nat × Bool)} {b : Builtin} {cargs : Array Operand} {cts : Array TypeId} {xs : List Opd} {ao : AOp} (hxs : cOpds cargs.toList = some xs) (hc : cBuiltin P b cts xs = some ao)
    (he : evP h s ao = some (v, rs)) : Yl P (envOf w (full h s) L) ⟨dst, .call ⟨.builtin b, cargs, cts⟩, ty, pos, after, gd⟩ a v rs := by
  have hrun : ∀ (v : AV) (rs : List Nat) (cv : Value), AR (envOf w (full h s) L) v cv → (∀ w', (builtin b cts ty (cargs.map fun | .const _ => true | _ => false) (cargs.map a.eval)).run P w' = .ok (.value cv) w') →
      Yl P (envOf w (full h s) L) ⟨dst, .call ⟨.builtin b, cargs, cts⟩, ty, pos, after, gd⟩ a v rs := by
    intro v rs cv h1 h2
    refine ⟨cv, h1, fun w' _ => ?_⟩
    simp only [execOp, resolve, pure_bind, invoke]
    exact h2 w'
  have harr : ∀ (l : List Operand), cargs.toList = l → cargs.map a.eval = (l.map a.eval).toArray := by
    intro l hl; subst hl; rw [← Array.toList_map, Array.toArray_toList]
  have h0 : 0 < cts.size → cts[0]? = some (cts.getD 0 0) := fun hlt => by rw [Array.getD_eq_getD_getElem?, Array.getElem?_eq_getElem hlt]; rfl
  unfold cBuiltin at hc
  cases b <;> (try (cases hc; done)) <;> dsimp only at hc
  case len =>
    split at hc
    · rename_i X hu
      obtain ⟨x, hl, hx⟩ := cOpds_one hxs
      split at hc
      · rename_i hsz
        cases hc
        simp only [evP] at he
        split at he
        · rename_i bs hX
          cases he
          refine hrun _ _ _ (.g (.int _ _)) (fun w' => ?_)
          rw [harr _ hl]
          have ha0 : ([x].map a.eval).toArray[0]? = some (a.eval x) := rfl
          simp only [builtin]
          rw [Sem.run_bind]
          unfold Builtin.len_
          simp only [h0 (by omega), ha0, Sem.run_bind, run_underlying hu, Result.andThen_ok, (cOpd_ok ht hx hX).inv_g.inv_str]
          simp [goInt]
          show ((bs.toArray.size : Nat) : Int) = _
          simp
        · cases he
      · cases hc
    · rename_i X e hu
      obtain ⟨x, hl, hx⟩ := cOpds_one hxs
      split at hc
      · rename_i hsz
        cases hc
        simp only [evP] at he
        split at he
        · rename_i q hX
          cases hn : lenV h s q with
          | none => simp [hn] at he
          | some n =>
            simp [hn] at he
            obtain ⟨rfl, rfl⟩ := he
            obtain ⟨A, cap, e1⟩ := len_ok hr hn (cOpd_ok ht hx hX)
            refine hrun _ _ _ (.g (.int _ _)) (fun w' => ?_)
            rw [harr _ hl]
            have ha0 : ([x].map a.eval).toArray[0]? = some (a.eval x) := rfl
            simp only [builtin]
            rw [Sem.run_bind]
            unfold Builtin.len_
            simp only [h0 (by omega), ha0, Sem.run_bind, run_underlying hu, Result.andThen_ok, e1]
            simp [goInt]
        · cases he
      · cases hc
    · cases hc
  case cap =>
    split at hc
    · rename_i X e hu
      obtain ⟨x, hl, hx⟩ := cOpds_one hxs
      split at hc
      · rename_i hsz
        cases hc
        simp only [evP] at he
        split at he
        · rename_i hX
          cases he
          have hq := (cOpd_ok ht hx hX).inv_g
          generalize hcx : a.eval x = cx at hq
          cases hq
          refine hrun _ _ _ (.g (.int _ _)) (fun w' => ?_)
          rw [harr _ hl]
          have ha0 : ([x].map a.eval).toArray[0]? = some (a.eval x) := rfl
          simp only [builtin]
          rw [Sem.run_bind]
          unfold Builtin.cap_
          simp only [h0 (by omega), ha0, Sem.run_bind, run_underlying hu, Result.andThen_ok, hcx]
          simp [goInt]
        · cases he
      · cases hc
    · cases hc
  case max =>
    split at hc
    · rename_i X Xs
      cases hc
      obtain ⟨x, l, hl⟩ : ∃ x l, cargs.toList = x :: l := by
        cases hq : cargs.toList with
        | nil => rw [hq] at hxs; simp [cOpds] at hxs
        | cons x l => exact ⟨x, l, rfl⟩
      rw [hl] at hxs
      obtain ⟨Y, Ys, e, hx, hxs'⟩ := cOpds_cons hxs
      cases e
      simp only [evP] at he
      cases hvs : vals s Xs with
      | none => simp [hvs] at he
      | some vs =>
        simp only [hvs] at he
        obtain ⟨hf, rfl⟩ := one_map he
        obtain ⟨k1, k2⟩ := cOpds_vals ht hxs' hvs
        cases hX : val s X with
        | none => rw [hX] at hf; cases vs <;> simp [foldV] at hf
        | some q =>
          rw [hX] at hf
          obtain ⟨cv, r1, r2⟩ := fold_ok (P := P) mx2 Builtin.max2 (mx2_ok (P := P)) vs (l.map a.eval) q v (a.eval x) hf (cOpd_ok ht hx hX) (by simpa using k1) (fun j a' c' e1 e2 => by
            simp at e2
            obtain ⟨y, hy, rfl⟩ := e2
            exact k2 j y a' hy e1)
          refine hrun _ _ cv r1 (fun w' => ?_)
          rw [harr _ hl]
          simp only [builtin]
          rw [Sem.run_bind]
          unfold Builtin.max_
          simp [r2]
    · cases hc
  case min =>
    split at hc
    · rename_i X Xs
      cases hc
      obtain ⟨x, l, hl⟩ : ∃ x l, cargs.toList = x :: l := by
        cases hq : cargs.toList with
        | nil => rw [hq] at hxs; simp [cOpds] at hxs
        | cons x l => exact ⟨x, l, rfl⟩
      rw [hl] at hxs
      obtain ⟨Y, Ys, e, hx, hxs'⟩ := cOpds_cons hxs
      cases e
      simp only [evP] at he
      cases hvs : vals s Xs with
      | none => simp [hvs] at he
      | some vs =>
        simp only [hvs] at he
        obtain ⟨hf, rfl⟩ := one_map he
        obtain ⟨k1, k2⟩ := cOpds_vals ht hxs' hvs
        cases hX : val s X with
        | none => rw [hX] at hf; cases vs <;> simp [foldV] at hf
        | some q =>
          rw [hX] at hf
          obtain ⟨cv, r1, r2⟩ := fold_ok (P := P) mn2 Builtin.min2 (mn2_ok (P := P)) vs (l.map a.eval) q v (a.eval x) hf (cOpd_ok ht hx hX) (by simpa using k1) (fun j a' c' e1 e2 => by
            simp at e2
            obtain ⟨y, hy, rfl⟩ := e2
            exact k2 j y a' hy e1)
          refine hrun _ _ cv r1 (fun w' => ?_)
          rw [harr _ hl]
          simp only [builtin]
          rw [Sem.run_bind]
          unfold Builtin.min_
          simp [r2]
    · cases hc
  case append =>
    split at hc
    · split at hc
      · split at hc
        · cases hc; simp [evP] at he
        · cases hc
      · cases hc
    · split at hc
      · split at hc
        · split at hc
          · cases hc; simp [evP] at he
          · cases hc
        · cases hc
      · cases hc
    · split at hc
      · split at hc
        · cases hc; simp [evP] at he
        · cases hc
      · cases hc
    · cases hc
  case unsafeSliceData => split at hc <;> (try (cases hc; done)) <;> (cases hc; simp [evP] at he)
  case unsafeString => split at hc <;> (try (cases hc; done)) <;> (split at hc <;> (try (cases hc; done)) <;> (cases hc; simp [evP] at he))
  case clear =>
    split at hc
    · split at hc
      · split at hc
        · cases hc; simp [evP] at he
        · cases hc
      · cases hc
    · cases hc

theorem evP_ok (hr : HR w (full h s) L) (ht : TR (envOf w (full h s) L) a s.t) {o : Oper} {ao : AOp} (hc : cOp P drw o = some ao) (he : evP h s ao = some (v, rs)) : Yl P (envOf w (full h s) L) o a v rs := by
  cases ho : o.op with
  | move x =>
    simp [cOp, ho] at hc
    obtain ⟨X, hx, rfl⟩ := hc
    obtain ⟨hv, rfl⟩ := one_map (by simpa [evP] using he)
    exact y_easy (cOpd_ok ht hx hv) (fun w' => by simp [execOp, ho])
  | assign x =>
    simp only [cOp, ho] at hc
    split at hc
    · cases hE : elemT P o.type with
      | none => simp [hE] at hc
      | some e => cases hs : szT P e with
        | none => simp [hE, hs] at hc
        | some n => simp [hE, hs] at hc; subst hc; simp [evP] at he
    · obtain ⟨X, hx, rfl⟩ := map_some_inv hc
      obtain ⟨hv, rfl⟩ := one_map (by simpa [evP] using he)
      exact y_easy (cOpd_ok ht hx hv) (fun w' => by simp [execOp, ho])
  | pick c x y =>
    simp only [cOp, ho] at hc
    obtain ⟨C, hC, hc⟩ := bind_some_inv hc
    obtain ⟨X, hx, hc⟩ := bind_some_inv hc
    obtain ⟨Y, hy, hc⟩ := bind_some_inv hc
    cases hc
    simp only [evP] at he
    split at he
    · rename_i b hb
      have hb' := (cOpd_ok ht hC hb).inv_g.inv_bool
      cases b
      · simp at he
        obtain ⟨v', h1, h2, h3⟩ := he
        subst h2 h3
        exact y_easy (cOpd_ok ht hy h1) (fun w' => by simp [execOp, ho, hb', asBool])
      · simp at he
        obtain ⟨v', h1, h2, h3⟩ := he
        subst h2 h3
        exact y_easy (cOpd_ok ht hx h1) (fun w' => by simp [execOp, ho, hb', asBool])
    · cases he
  | binOp op t x y yt =>
    obtain ⟨dst, o', ty, pos, after, gd⟩ := o
    simp only at ho
    subst ho
    simp only [cOp] at hc
    obtain ⟨X, hx, hc⟩ := bind_some_inv hc
    obtain ⟨Y, hy, hc⟩ := bind_some_inv hc
    have eqs : ∀ op, (op = BinOp.eql ∨ op = BinOp.neq) → (if scalarT P t then some (AOp.bin op X Y) else match nilK P t y with
          | some k => some (.isnil (op == .neq) k X)
          | none => match nilK P t x with
            | some k => some (.isnil (op == .neq) k Y)
            | none => if nilSl P t y = true then some (.isnilS (op == .neq) X) else if nilSl P t x = true then some (.isnilS (op == .neq) Y) else if (op == .neq && ptrT P t) = true then some (.neqp X Y) else match flatK P 20 t with
              | some ks => if P.eqGuardType P.depth t = false then (aggT P t).map fun ag => .eqs (op == .neq) ag ks X Y else none
              | none => none) = some ao → Yl P (envOf w (full h s) L) ⟨dst, .binOp op t x y yt, ty, pos, after, gd⟩ a v rs := by
      intro op hop hc
      split at hc
      · cases hc; exact y_bin ht hx hy he
      · cases hn : nilK P t y with
        | some k => simp only [hn] at hc; cases hc; exact y_isnil ht hop (.inl ⟨hn, hx⟩) he
        | none =>
          simp only [hn] at hc
          cases hn' : nilK P t x with
          | some k => simp only [hn'] at hc; cases hc; exact y_isnil ht hop (.inr ⟨hn', hy⟩) he
          | none =>
            simp only [hn'] at hc
            split at hc
            · rename_i hsl; cases hc; exact y_isnilS hr ht hop (.inl ⟨hsl, hx⟩) he
            split at hc
            · rename_i hsl; cases hc; exact y_isnilS hr ht hop (.inr ⟨hsl, hy⟩) he
            split at hc
            · cases hc; simp [evP] at he
            cases hk : flatK P 20 t with
            | none => simp [hk] at hc
            | some ks =>
              simp only [hk] at hc
              split at hc
              · rename_i hg
                obtain ⟨ag, hag, rfl⟩ := map_some_inv hc
                exact y_eqs ht hop hk hag hg hx hy he
              · cases hc
    cases op <;> simp only [] at hc <;> first
      | exact eqs _ (.inl rfl) hc
      | exact eqs _ (.inr rfl) hc
      | (cases hc; exact y_bin ht hx hy he)
  | unOp op t x =>
    simp only [cOp, ho] at hc
    obtain ⟨X, hx, hc⟩ := bind_some_inv hc
    cases hc
    simp only [evP] at he
    split at he
    · rename_i b hb
      cases he
      exact y_easy (.g (.bool _)) (fun w' => by simp [execOp, ho, (cOpd_ok ht hx hb).inv_g.inv_bool, Op.unary])
    · rename_i k n hb
      cases he
      exact y_easy (.g (.int _ _)) (fun w' => by simp [execOp, ho, (cOpd_ok ht hx hb).inv_g.inv_int, Op.unary, Op.intArith])
    · cases he
  | convert t1 t2 x =>
    simp only [cOp, ho] at hc
    obtain ⟨X, hx, hc⟩ := bind_some_inv hc
    split at hc
    · rename_i k1 k2 hu1 hu2
      cases hc
      simp only [evP] at he
      split at he
      · rename_i k n hb
        cases he
        refine y_easy (.g (.int _ _)) (fun w' => ?_)
        simp only [execOp, ho, (cOpd_ok ht hx hb).inv_g.inv_int]
        rw [Sem.run_bind]
        unfold convert
        simp only [Sem.run_bind, run_underlying hu1, run_underlying hu2, Result.andThen_ok, Conv.intToInt, Sem.run_pure]
      · cases he
    · rename_i hu1 hu2
      cases hc
      simp only [evP] at he
      split at he
      · rename_i b hb
        cases he
        refine y_easy (.g (.str _)) (fun w' => ?_)
        simp only [execOp, ho, (cOpd_ok ht hx hb).inv_g.inv_str]
        rw [Sem.run_bind]
        unfold convert
        simp only [Sem.run_bind, run_underlying hu1, run_underlying hu2, Result.andThen_ok, Sem.run_pure]
      · cases he
    · split at hc
      · cases hc; simp [evP] at he
      · cases hc
    · split at hc
      · cases hc; simp [evP] at he
      · cases hc
    · split at hc
      · split at hc
        · cases hc; simp [evP] at he
        · cases hc
      · cases hc
    · split at hc
      · cases hc; simp [evP] at he
      · cases hc
    · cases hc
  | field t x f =>
    simp only [cOp, ho] at hc
    obtain ⟨fl, hf, hc⟩ := bind_some_inv hc
    obtain ⟨b, hb, hc⟩ := bind_some_inv hc
    obtain ⟨n, hn, hc⟩ := bind_some_inv hc
    obtain ⟨X, hx, hc⟩ := bind_some_inv hc
    cases hc
    exact evP_field ht ho hf hb hn hx he
  | fieldAddr t x f =>
    simp only [cOp, ho] at hc
    obtain ⟨fl, hf, hc⟩ := bind_some_inv hc
    obtain ⟨n, hn, hc⟩ := bind_some_inv hc
    split at hc
    · rename_i hn0
      obtain ⟨X, hx, hc⟩ := bind_some_inv hc
      cases hc
      exact y_faddr hr ht ho hf hn hn0 hx he
    · cases hc
  | indexAddr t x i =>
    simp only [cOp, ho] at hc
    split at hc
    · rename_i e hu
      obtain ⟨n, hn, hc⟩ := bind_some_inv hc
      obtain ⟨X, hx, hc⟩ := bind_some_inv hc
      obtain ⟨I, hi, hc⟩ := bind_some_inv hc
      cases hc
      exact y_iaddr hr ht ho hu hn hx hi he
    · rename_i len e hu
      obtain ⟨n, hn, hc⟩ := bind_some_inv hc
      obtain ⟨X, hx, hc⟩ := bind_some_inv hc
      obtain ⟨I, hi, hc⟩ := bind_some_inv hc
      cases hc
      exact y_iaddrA ht ho hu hn hx hi he
    · cases hc
  | index t x i =>
    simp only [cOp, ho] at hc
    split at hc
    · rename_i hu
      obtain ⟨X, hx, hc⟩ := bind_some_inv hc
      obtain ⟨I, hi, hc⟩ := bind_some_inv hc
      cases hc
      exact evP_index ht ho hu hx hi he
    · rename_i len e hu
      obtain ⟨b, hb, hc⟩ := bind_some_inv hc
      obtain ⟨n, hn, hc⟩ := bind_some_inv hc
      obtain ⟨X, hx, hc⟩ := bind_some_inv hc
      obtain ⟨I, hi, hc⟩ := bind_some_inv hc
      cases hc
      exact evP_indexA ht ho hu hb hn hx hi he
    · cases hc
  | load t p =>
    obtain ⟨dst, o', ty, pos, after, gd⟩ := o
    simp only at ho
    subst ho
    simp only [cOp] at hc
    obtain ⟨ag, ha, hc⟩ := bind_some_inv hc
    obtain ⟨n, hn, hc⟩ := bind_some_inv hc
    split at hc
    · split at hc
      · rename_i hcond
        cases hc
        obtain ⟨rfl, rfl⟩ := hcond
        exact y_glob hr ha hn he
      · cases hc
    split at hc
    · rename_i hcond
      obtain ⟨X, hx, hc⟩ := bind_some_inv hc
      cases hc
      exact y_load hr ht ha hn hcond hx he
    · cases hc
  | store t p x =>
    simp only [cOp, ho] at hc
    obtain ⟨_, _, hc⟩ := bind_some_inv hc
    obtain ⟨_, _, hc⟩ := bind_some_inv hc
    obtain ⟨_, _, hc⟩ := bind_some_inv hc
    cases hc; simp [evP] at he
  | extract x j =>
    simp only [cOp, ho] at hc
    obtain ⟨X, hx, rfl⟩ := map_some_inv hc
    simp only [evP] at he
    split at he
    · rename_i vs hX
      cases hj : vs[j]? with
      | none => simp [hj] at he
      | some u =>
        simp [hj] at he
        obtain ⟨rfl, rfl⟩ := he
        have hq := cOpd_ok ht hx hX
        generalize hcx : a.eval x = cx at hq
        cases hq with
        | @tup _ C hn hh =>
          have hlt : j < C.size := by rw [← hn]; exact (List.getElem?_eq_some_iff.1 hj).1
          exact y_easy (hh j _ _ hj (Array.getElem?_eq_getElem hlt)) (fun w' => by simp [execOp, ho, hcx, Instr.extract, Array.getElem?_eq_getElem hlt])
    · cases he
  | build t ps =>
    simp only [cOp, ho] at hc
    obtain ⟨z, hz, hc⟩ := bind_some_inv hc
    obtain ⟨pl, hpl, hc⟩ := bind_some_inv hc
    obtain ⟨l, hl, hc⟩ := bind_some_inv hc
    cases hc
    exact evP_build ht ho hz hpl hl he
  | slice t x lo hi mx =>
    simp only [cOp, ho] at hc
    split at hc
    · rename_i hu
      split at hc
      · rename_i hm
        have hm' : mx = none := by simpa using hm
        subst hm'
        obtain ⟨X, hx, hc⟩ := bind_some_inv hc
        obtain ⟨Lo, hlo, hc⟩ := bind_some_inv hc
        obtain ⟨Hi, hhi, hc⟩ := bind_some_inv hc
        cases hc
        exact evP_slcS ht ho hu hx hlo hhi he
      · cases hc
    · rename_i e hu
      split at hc
      · rename_i hm
        have hm' : mx = none := by simpa using hm
        subst hm'
        obtain ⟨k, hk, hc⟩ := bind_some_inv hc
        obtain ⟨X, hx, hc⟩ := bind_some_inv hc
        obtain ⟨Lo, hlo, hc⟩ := bind_some_inv hc
        obtain ⟨Hi, hhi, hc⟩ := bind_some_inv hc
        cases hc
        exact evP_slc hr ht ho hu hk hx hlo hhi he
      · obtain ⟨k, hk, hc⟩ := bind_some_inv hc
        obtain ⟨X, hx, hc⟩ := bind_some_inv hc
        obtain ⟨Lo, hlo, hc⟩ := bind_some_inv hc
        obtain ⟨Hi, hhi, hc⟩ := bind_some_inv hc
        obtain ⟨Mx, hmx, hc⟩ := bind_some_inv hc
        cases hc
        cases Lo with
        | none => simp [evP] at he
        | some Lo =>
        cases Hi with
        | none => simp [evP] at he
        | some Hi =>
        cases Mx with
        | none => simp [evP] at he
        | some Mx =>
        rcases cOpt_val ht hlo with ⟨_, e⟩ | ⟨lo', _, rfl, e1, _⟩
        · cases e
        rcases cOpt_val ht hhi with ⟨_, e⟩ | ⟨hi', _, rfl, e2, _⟩
        · cases e
        rcases cOpt_val ht hmx with ⟨_, e⟩ | ⟨mx', _, rfl, e3, _⟩
        · cases e
        have g : ∀ {x : Operand} {X : Opd}, cOpt (some x) = some (some X) → cOpd x = some X := fun h => by
          simp only [cOpt] at h
          simpa using h
        exact evP_slc3 hr ht ho hu hk hx (g hlo) (g hhi) (g hmx) he
    · cases hc
  | makeInterface t x =>
    simp only [cOp, ho] at hc
    split at hc
    · cases hc
    · rename_i u hnu hu
      obtain ⟨X, hx, rfl⟩ := map_some_inv hc
      have hrun : ∀ w', (Instr.makeInterface t (a.eval x)).run P w' = .ok (.iface t (a.eval x)) w' := fun w' => by
        unfold Instr.makeInterface
        rw [Sem.run_bind, run_underlying hu]
        cases u <;> first | rfl | (exact (hnu _ rfl).elim)
      simp only [evP] at he
      split at he
      · rename_i g hX
        cases he
        exact y_easy (.g (.ifc t (cOpd_ok ht hx hX).inv_g)) (fun w' => by simp only [execOp, ho]; rw [Sem.run_bind, hrun]; rfl)
      · rename_i i off hX
        cases he
        exact y_easy (.ifa t (cOpd_ok ht hx hX)) (fun w' => by simp only [execOp, ho]; rw [Sem.run_bind, hrun]; rfl)
      · cases he
    · cases hc
  | makeFunc fn first caps =>
    cases fn <;> simp only [cOp, ho] at hc <;> try (cases hc; done)
    · rename_i f
      split at hc
      · rename_i hf
        have hf' : first = #[] := Array.eq_empty_of_size_eq_zero hf
        subst hf'
        obtain ⟨Xs, hxs, hc⟩ := bind_some_inv hc
        cases hc
        simp only [evP] at he
        split at he
        · cases he
          rename_i hnil
          have : caps.toList = [] := by
            cases hl : caps.toList with
            | nil => rfl
            | cons x xs =>
              rw [hl] at hxs
              simp only [cOpds] at hxs
              split at hxs
              · cases hxs
              · cases hxs
          have hcaps : caps = #[] := by
            apply Array.ext'; simpa using this
          subst hcaps
          exact y_easy (.g (.fn f)) (fun w' => by simp [execOp, ho, Instr.makeFunc])
        · cases hvs : vals s Xs with
          | none => simp [hvs] at he
          | some vs =>
            simp [hvs] at he
            obtain ⟨rfl, rfl⟩ := he
            obtain ⟨h1, h2⟩ := cOpds_vals ht hxs hvs
            refine y_easy (.fv (C := caps.map a.eval) (by simpa using h1) (fun j x c hx hc => ?_)) (fun w' => by simp [execOp, ho, Instr.makeFunc])
            simp at hc
            obtain ⟨y, hy, rfl⟩ := hc
            exact h2 j y x (by simpa using hy) hx
      · split at hc
        · rename_i hf
          have hf' : caps = #[] := Array.eq_empty_of_size_eq_zero hf
          subst hf'
          obtain ⟨Xs, hxs, hc⟩ := bind_some_inv hc
          cases hc
          simp only [evP] at he
          cases hvs : vals s Xs with
          | none => simp [hvs] at he
          | some vs =>
            simp [hvs] at he
            obtain ⟨rfl, rfl⟩ := he
            obtain ⟨h1, h2⟩ := cOpds_vals ht hxs hvs
            refine y_easy (.bv (C := first.map a.eval) (by simpa using h1) (fun j x c hx hc => ?_)) (fun w' => by simp [execOp, ho, Instr.makeFunc])
            simp at hc
            obtain ⟨y, hy, rfl⟩ := hc
            exact h2 j y x (by simpa using hy) hx
        · cases hc
    · rename_i t p f q
      split at hc
      · rename_i hf
        obtain ⟨hf1, hf2⟩ := hf
        have hf' : first = #[] := Array.eq_empty_of_size_eq_zero hf1
        have hf'' : caps = #[] := Array.eq_empty_of_size_eq_zero hf2
        subst hf' hf''
        cases hc
        simp [evP] at he
        obtain ⟨rfl, rfl⟩ := he
        exact y_easy (.via t p.toList f q) (fun w' => by simp [execOp, ho, Instr.makeFunc])
      · cases hc
  | nilCheck x =>
    simp only [cOp, ho] at hc
    obtain ⟨X, hx, rfl⟩ := map_some_inv hc
    simp only [evP] at he
    split at he <;> (try (cases he; done)) <;> (rename_i hX; cases he; have hq := cOpd_ok ht hx hX; generalize hcx : a.eval x = cx at hq)
    · cases hq; exact y_easy (.ptr (by assumption) (by assumption) (by assumption)) (fun w' => by simp [execOp, ho, hcx])
    · cases hq; exact y_easy (.cp _ (by assumption) (by assumption) (by assumption) (by assumption)) (fun w' => by simp [execOp, ho, hcx])
    · cases hq; exact y_easy (.fv (by assumption) (by assumption)) (fun w' => by simp [execOp, ho, hcx])
    · cases hq.inv_g; exact y_easy (.g (.fn _)) (fun w' => by simp [execOp, ho, hcx])
    · have := hq.inv_g; cases this; exact y_easy (.g (.ifc _ (by assumption))) (fun w' => by simp [execOp, ho, hcx])
    · cases hq; exact y_easy (.ifa _ (by assumption)) (fun w' => by simp [execOp, ho, hcx])
  | call c =>
    obtain ⟨dst, o', ty, pos, after, gd⟩ := o
    simp only at ho
    subst ho
    obtain ⟨callee, cargs, cts⟩ := c
    simp only [cOp, cCall] at hc
    cases callee with
    | value f =>
      dsimp only at hc
      split at hc
      · cases hc; simp [evP] at he
      · cases hc
    | invoke r m => cases hc
    | builtin b =>
      dsimp only at hc
      split at hc
      · rename_i xs hxs; exact y_builtin hr ht hxs hc he
      · cases hc
  | alloc t =>
    simp only [cOp, ho] at hc
    obtain ⟨z, _, hc⟩ := bind_some_inv hc
    split at hc
    · split at hc <;> (cases hc; simp [evP] at he)
    · cases hc; simp [evP] at he
  | box t x =>
    simp only [cOp, ho] at hc
    split at hc
    · obtain ⟨_, _, hc⟩ := bind_some_inv hc; cases hc; simp [evP] at he
    · cases hc
  | buildSlice t n ps =>
    simp only [cOp, ho] at hc
    split at hc
    · split at hc
      · split at hc
        · cases hc; simp [evP] at he
        split at hc
        · split at hc
          · cases hc; simp [evP] at he
          · cases hc
        · cases hc
      · cases hc
    · cases hc
  | makeSlice t l c =>
    simp only [cOp, ho] at hc
    split at hc
    · split at hc
      · cases hc; simp [evP] at he
      · cases hc
    · cases hc
  | makeMap t r =>
    simp only [cOp, ho] at hc
    split at hc
    · split at hc <;> (cases hc; simp [evP] at he)
    · cases hc
  | lookup t x k cm =>
    simp only [cOp, ho] at hc
    split at hc
    · obtain ⟨_, _, hc⟩ := bind_some_inv hc
      obtain ⟨_, _, hc⟩ := bind_some_inv hc
      cases hc; simp [evP] at he
    · split at hc
      · obtain ⟨_, _, hc⟩ := bind_some_inv hc
        obtain ⟨_, _, hc⟩ := bind_some_inv hc
        cases hc; simp [evP] at he
      · cases hc
  | mapUpdate t x k y =>
    simp only [cOp, ho] at hc
    split at hc
    · obtain ⟨_, _, hc⟩ := bind_some_inv hc
      obtain ⟨_, _, hc⟩ := bind_some_inv hc
      obtain ⟨_, _, hc⟩ := bind_some_inv hc
      cases hc; simp [evP] at he
    · split at hc
      · obtain ⟨_, _, hc⟩ := bind_some_inv hc
        obtain ⟨_, _, hc⟩ := bind_some_inv hc
        obtain ⟨_, _, hc⟩ := bind_some_inv hc
        cases hc; simp [evP] at he
      · cases hc
  | insert t x k y =>
    simp only [cOp, ho] at hc
    split at hc
    · obtain ⟨_, _, hc⟩ := bind_some_inv hc
      obtain ⟨_, _, hc⟩ := bind_some_inv hc
      obtain ⟨_, _, hc⟩ := bind_some_inv hc
      cases hc; simp [evP] at he
    · cases hc
  | _ => simp only [cOp, ho] at hc; cases hc

end
end Go.AM
end
section
set_option linter.unusedSimpArgs false
set_option linter.unusedVariables false
namespace Go.AM
open Go

theorem applyM_upd (h : List Blk) (id : Nat) (b : Blk) : ∀ m : List (Nat × Blk), applyM h (updM m id b) = (applyM h m).set id b
  | [] => rfl
  | (a, v) :: t => by
    simp only [updM]
    by_cases e : a = id
    · subst e; simp [applyM, List.set_set]
    · rw [if_neg e]
      simp only [applyM, applyM_upd h id b t]
      rw [List.set_comm _ _ (Ne.symm e)]

theorem full_setB (h : List Blk) (s : St) (id : Nat) (b : Blk) : full h (setB h s id b) = (full h s).set id b := by
  unfold setB full
  split
  · rename_i hi
    simp only [applyM_upd]
    rw [List.set_append_left _ _ (by rw [applyM_length]; exact hi)]
  · rename_i hi
    simp only
    rw [List.set_append_right _ _ (by rw [applyM_length]; omega), applyM_length]

theorem full_push (h : List Blk) (s : St) (b : Blk) : full h (s.push b) = full h s ++ [b] := by simp [full, St.push]

theorem setB_t (h : List Blk) (s : St) (id : Nat) (b : Blk) : (setB h s id b).t = s.t := by unfold setB; split <;> rfl

section
variable {w w' : World} {H H' : List Blk} {L L' : Nat → Lc}

/-- The general step: what has changed is shown anew. -/
theorem HR.step (hr : HR w H L) (he : Ext (envOf w H L) (envOf w' H' L')) (ch : Nat → Prop)
    (hold : ∀ id, id < H.length → ¬ ch id → H'[id]? = H[id]? ∧ L' id = L id ∧ (Live H id → ∀ b, (L id).blk = some b → w'.heap[b]? = w.heap[b]?))
    (hnew : ∀ id k, H'[id]? = some k → (ch id ∨ H.length ≤ id) → HB (envOf w' H' L') id k)
    (hinj : ∀ (i j b : Nat) (x y : Blk), H'[i]? = some x → H'[j]? = some y → x.live = true → y.live = true → (L' i).blk = some b → (L' j).blk = some b → i = j) : HR w' H' L' := by
  refine ⟨fun id k hk => ?_, hinj⟩
  by_cases hlt : id < H.length
  · by_cases hc : ch id
    · exact hnew id k hk (.inl hc)
    · obtain ⟨h1, h2, h3⟩ := hold id hlt hc
      rw [h1] at hk
      exact (hr.blk id k hk).mono he h2 (fun hl b hb => h3 ⟨k, hk, hl⟩ b hb)
  · exact hnew id k hk (.inr (by omega))

def updL (L : Nat → Lc) (id : Nat) (lc : Lc) : Nat → Lc := fun j => if j = id then lc else L j
theorem updL_self (L : Nat → Lc) (id : Nat) (lc : Lc) : updL L id lc id = lc := by simp [updL]
theorem updL_ne (L : Nat → Lc) (id : Nat) (lc : Lc) {j : Nat} (h : j ≠ id) : updL L id lc j = L j := by simp [updL, h]

/-- A world whose heap has grown, and is else as it was. -/
structure Grows (w w' : World) : Prop where
  os : w'.os = w.os
  tape : w'.tape = w.tape
  output : w'.output = w.output
  size : w.heap.size ≤ w'.heap.size
  old : ∀ b, b < w.heap.size → w'.heap[b]? = w.heap[b]?

theorem Grows.refl (w : World) : Grows w w := ⟨rfl, rfl, rfl, Nat.le_refl _, fun _ _ => rfl⟩
theorem Grows.trans {a b c : World} (h : Grows a b) (k : Grows b c) : Grows a c :=
  ⟨k.os.trans h.os, k.tape.trans h.tape, k.output.trans h.output, Nat.le_trans h.size k.size, fun i hi => (k.old i (Nat.lt_of_lt_of_le hi h.size)).trans (h.old i hi)⟩
theorem Grows.drew (w : World) (n : Nat) : Grows w { w with drawn := n } := ⟨rfl, rfl, rfl, Nat.le_refl _, fun _ _ => rfl⟩
theorem Grows.push (w : World) (o : Obj) : Grows w { w with heap := w.heap.push o } :=
  ⟨rfl, rfl, rfl, by simp, fun b hb => by simp [Array.getElem?_push]; omega⟩

/-- The world grows, the heap stays. -/
theorem HR.grow (hr : HR w H L) (hg : Grows w w') : HR w' H L ∧ Ext (envOf w H L) (envOf w' H L) := by
  have he : Ext (envOf w H L) (envOf w' H L) := ⟨hg.os, hg.tape, hg.output, hg.size, fun b hb hO => ⟨hg.old b hb, hO⟩, Nat.le_refl _, fun _ _ => .refl _ _, fun _ _ hv => hv⟩
  refine ⟨hr.step he (fun _ => False) (fun id hid _ => ⟨rfl, rfl, fun hl b hb => hg.old b (hr.blk id _ hl.choose_spec.1 |>.lt hl.choose_spec.2 hb)⟩) (fun id k hk hc => ?_) hr.inj, he⟩
  rcases hc with hc | hc
  · exact hc.elim
  · exact absurd (List.getElem?_eq_some_iff.1 hk).1 (by omega)

/-- A block that belongs to nobody yet is put behind the others. -/
theorem HR.add (hr : HR w H L) (hg : Grows w w') (k : Blk) (lc : Lc) (hb : ∀ b, lc.blk = some b → w.heap.size ≤ b)
    (hk : Ext (envOf w H L) (envOf w' (H ++ [k]) (updL L H.length lc)) → HB (envOf w' (H ++ [k]) (updL L H.length lc)) H.length k) :
    HR w' (H ++ [k]) (updL L H.length lc) ∧ Ext (envOf w H L) (envOf w' (H ++ [k]) (updL L H.length lc)) := by
  have hget : ∀ id x, (H ++ [k])[id]? = some x → (id < H.length ∧ H[id]? = some x) ∨ (id = H.length ∧ x = k) := by
    intro id x hx
    by_cases hlt : id < H.length
    · rw [List.getElem?_append_left hlt] at hx; exact .inl ⟨hlt, hx⟩
    · rw [List.getElem?_append_right (by omega)] at hx
      have : id - H.length = 0 := by
        cases hq : id - H.length with
        | zero => rfl
        | succ n => rw [hq] at hx; simp at hx
      rw [this] at hx
      simp at hx
      exact .inr ⟨by omega, hx.symm⟩
  have hown : ∀ b, b < w.heap.size → Own (H ++ [k]) (updL L H.length lc) b → Own H L b := by
    rintro b hlt ⟨id, x, h1, h2, h3⟩
    rcases hget id x h1 with ⟨e1, e2⟩ | ⟨rfl, rfl⟩
    · rw [updL_ne _ _ _ (by omega)] at h3; exact ⟨id, x, e2, h2, h3⟩
    · rw [updL_self] at h3; have := hb b h3; omega
  have he : Ext (envOf w H L) (envOf w' (H ++ [k]) (updL L H.length lc)) := by
    refine ⟨hg.os, hg.tape, hg.output, hg.size, fun b hlt hO => ⟨hg.old b hlt, fun ho => hO (hown b hlt ho)⟩, by simp [envOf], fun id hid => ?_, fun id hid hv => ?_⟩
    · show LcLe _ (L id) (updL L H.length lc id)
      rw [updL_ne _ _ _ (by simp [envOf] at hid; omega)]; exact .refl _ _
    · obtain ⟨x, h1, h2⟩ := hv
      simp [envOf] at hid
      rcases hget id x h1 with ⟨e1, e2⟩ | ⟨rfl, rfl⟩
      · exact ⟨x, e2, h2⟩
      · omega
  refine ⟨hr.step he (fun _ => False) (fun id hid _ => ⟨List.getElem?_append_left hid, updL_ne _ _ _ (by omega), fun hl b hb' => hg.old b (hr.blk id _ hl.choose_spec.1 |>.lt hl.choose_spec.2 hb')⟩) (fun id x hx hc => ?_) (fun i j b x y hx hy lx ly hbi hbj => ?_), he⟩
  · rcases hc with hc | hc
    · exact hc.elim
    · rcases hget id x hx with ⟨e1, _⟩ | ⟨rfl, rfl⟩
      · omega
      · exact hk he
  · rcases hget i x hx with ⟨e1, e2⟩ | ⟨rfl, rfl⟩ <;> rcases hget j y hy with ⟨e3, e4⟩ | ⟨rfl, rfl⟩
    · rw [updL_ne _ _ _ (by omega)] at hbi; rw [updL_ne _ _ _ (by omega)] at hbj; exact hr.inj i j b x y e2 e4 lx ly hbi hbj
    · rw [updL_ne _ _ _ (by omega)] at hbi; rw [updL_self] at hbj
      have := (hr.blk i x e2).lt lx hbi
      have := hb b hbj
      simp [envOf] at *; omega
    · rw [updL_self] at hbi; rw [updL_ne _ _ _ (by omega)] at hbj
      have := (hr.blk j y e4).lt ly hbj
      have := hb b hbi
      simp [envOf] at *; omega
    · rfl

/-- A live block turns: its place stays, or (a row) it is told anew with a greater number. -/
theorem HR.turn (hr : HR w H L) {id : Nat} {k k' : Blk} (hid : H[id]? = some k) (hl : k.live = true) (lc : Lc)
    (hos : w'.os = w.os) (htape : w'.tape = w.tape) (hout : w'.output = w.output) (hsize : w.heap.size ≤ w'.heap.size)
    (hold : ∀ b, b < w.heap.size → (L id).blk ≠ some b → w'.heap[b]? = w.heap[b]?)
    (hlc : LcLe True (L id) lc) (hb : ∀ b, lc.blk = some b → (L id).blk = some b ∨ w.heap.size ≤ b)
    (hk : Ext (envOf w H L) (envOf w' (H.set id k') (updL L id lc)) → HB (envOf w' (H.set id k') (updL L id lc)) id k') :
    HR w' (H.set id k') (updL L id lc) ∧ Ext (envOf w H L) (envOf w' (H.set id k') (updL L id lc)) := by
  have hlt : id < H.length := (List.getElem?_eq_some_iff.1 hid).1
  have hget : ∀ j x, (H.set id k')[j]? = some x → (j ≠ id ∧ H[j]? = some x) ∨ (j = id ∧ x = k') := by
    intro j x hx
    by_cases e : id = j
    · subst e; rw [List.getElem?_set_self hlt] at hx; simp at hx; exact .inr ⟨rfl, hx.symm⟩
    · rw [List.getElem?_set_ne e] at hx; exact .inl ⟨fun e' => e e'.symm, hx⟩
  have hother : ∀ j x b, j ≠ id → H[j]? = some x → x.live = true → (L j).blk = some b → b < w.heap.size ∧ (L id).blk ≠ some b := by
    intro j x b hne hx lx hbj
    exact ⟨(hr.blk j x hx).lt lx hbj, fun e => hne (hr.inj j id b x k hx hid lx hl hbj e)⟩
  have hown : ∀ b, b < w.heap.size → Own (H.set id k') (updL L id lc) b → Own H L b := by
    rintro b hlt' ⟨j, x, h1, h2, h3⟩
    rcases hget j x h1 with ⟨e1, e2⟩ | ⟨rfl, rfl⟩
    · rw [updL_ne _ _ _ e1] at h3; exact ⟨j, x, e2, h2, h3⟩
    · rw [updL_self] at h3
      rcases hb b h3 with e | e
      · exact ⟨j, k, hid, hl, e⟩
      · omega
  have he : Ext (envOf w H L) (envOf w' (H.set id k') (updL L id lc)) := by
    refine ⟨hos, htape, hout, hsize, fun b hlt' hO => ⟨hold b hlt' (fun e => hO ⟨id, k, hid, hl, e⟩), fun ho => hO (hown b hlt' ho)⟩, by simp [envOf], fun j hj => ?_, fun j hj hv => ?_⟩
    · show LcLe (Live H j) (L j) (updL L id lc j)
      by_cases e : j = id
      · subst e; rw [updL_self]
        rcases hlc with e | ⟨_, e1, e2⟩
        · exact .inl e
        · exact .inr ⟨⟨k, hid, hl⟩, e1, e2⟩
      · rw [updL_ne _ _ _ e]; exact .refl _ _
    · obtain ⟨x, h1, h2⟩ := hv
      rcases hget j x h1 with ⟨e1, e2⟩ | ⟨rfl, rfl⟩
      · exact ⟨x, e2, h2⟩
      · exact ⟨k, hid, hl⟩
  refine ⟨hr.step he (fun j => j = id) (fun j hj hne => ⟨List.getElem?_set_ne (fun e => hne e.symm), updL_ne _ _ _ hne, fun ⟨x, hx, lx⟩ b hbj => ?_⟩) (fun j x hx hc => ?_) (fun i j b x y hx hy lx ly hbi hbj => ?_), he⟩
  · obtain ⟨h1, h2⟩ := hother j x b hne hx lx hbj
    exact hold b h1 h2
  · rcases hc with rfl | hc
    · rcases hget j x hx with ⟨e1, _⟩ | ⟨_, rfl⟩
      · exact absurd rfl e1
      · exact hk he
    · have := (List.getElem?_eq_some_iff.1 hx).1
      simp at this; omega
  · rcases hget i x hx with ⟨e1, e2⟩ | ⟨rfl, rfl⟩ <;> rcases hget j y hy with ⟨e3, e4⟩ | ⟨rfl, rfl⟩
    · rw [updL_ne _ _ _ e1] at hbi; rw [updL_ne _ _ _ e3] at hbj; exact hr.inj i j b x y e2 e4 lx ly hbi hbj
    · rw [updL_ne _ _ _ e1] at hbi; rw [updL_self] at hbj
      obtain ⟨h1, h2⟩ := hother i x b e1 e2 lx hbi
      rcases hb b hbj with e | e
      · exact absurd e h2
      · omega
    · rw [updL_self] at hbi; rw [updL_ne _ _ _ e3] at hbj
      obtain ⟨h1, h2⟩ := hother j y b e3 e4 ly hbj
      rcases hb b hbi with e | e
      · exact absurd e h2
      · omega
    · rfl

end
end Go.AM
end
section
namespace Go.AM
open Go

/-- Does a value lead to blocks below number n alone? -/
def AV.lt0 (n : Nat) : AV → Bool
  | .g _ | .cp _ | .via .. | .undef => true
  | .ptr id _ | .ms id _ _ _ _ | .rp id _ _ _ _ | .mp id | .yv id => decide (id < n)
  | _ => false
def AV.lt1 (n : Nat) : AV → Bool
  | .fv _ caps => caps.all (AV.lt0 n)
  | .bv _ caps => caps.all (AV.lt0 n)
  | .ifa _ v => v.lt0 n
  | v => v.lt0 n

/-- The cells of a zero value, and the rows that are kept ready for its slices. -/
def zres : Nat → List Z → List AV × List Blk
  | _, [] => ([], [])
  | n, .z v :: r => (.g v :: (zres n r).1, (zres n r).2)
  | n, .s sz :: r => (.ms n 1 sz 0 0 :: (zres (n + 1) r).1, .rows sz 1 [] :: (zres (n + 1) r).2)

def zplain : List Z → List AV
  | [] => []
  | .z v :: r => .g v :: zplain r
  | .s _ :: r => .g .nsl :: zplain r

/-- As 'zres', rows of bytes being of a type that is known. -/
def zresT (e : TypeId) : Nat → List Z → List AV × List Blk
  | _, [] => ([], [])
  | n, .z v :: r => (.g v :: (zresT e n r).1, (zresT e n r).2)
  | n, .s sz :: r => (.ms n 1 sz 0 0 :: (zresT e (n + 1) r).1, .trow e sz 1 [] :: (zresT e (n + 1) r).2)

def storeV (h : List Blk) (s : St) (p : AV) (vs : List AV) : Option (St × List Nat) :=
  match p with
  | .ptr id o => match getB h s id with
    | some (.cells cs) => if o + vs.length ≤ cs.length ∧ (decide (h.length ≤ id) || vs.all (AV.lt1 h.length)) = true ∧ vs.all AV.leaf = true then
        some (setB h s id (.cells (cs.take o ++ vs ++ cs.drop (o + vs.length))), [id]) else none
    | some (.bld T cs) => if o + vs.length ≤ cs.length ∧ (decide (h.length ≤ id) || vs.all (AV.lt1 h.length)) = true ∧ vs.all AV.leaf = true then
        some (setB h s id (.bld T (cs.take o ++ vs ++ cs.drop (o + vs.length))), [id]) else none
    | _ => none
  | .rp id g sz i o => match getB h s id with
    | some (.rows sz' g' els) => if g = g' ∧ sz = sz' then match els[i]?, grounds vs with
        | some el, some gs => if o + gs.length ≤ el.length then some (setB h s id (.rows sz g (els.set i (el.take o ++ gs ++ el.drop (o + gs.length)))), [id]) else none
        | _, _ => none
      else none
    | _ => none
  | _ => none

/-- A slice's elements, each of so many cells. -/
def viewN (h : List Blk) (s : St) (sz : Nat) : AV → Option (List (List GV))
  | .g (.sl sz' els) => if sz = sz' then some els else none
  | .g .nsl => some []
  | .ms id g sz' off len => if sz = sz' then match getB h s id with
      | some (.rows sz2 g' els) => if g = g' ∧ sz2 = sz ∧ off + len ≤ els.length then some ((els.drop off).take len) else none
      | some (.fro sz2 g' els) => if g = g' ∧ sz2 = sz ∧ off + len ≤ els.length then some ((els.drop off).take len) else none
      | _ => none
    else none
  | _ => none

def room (bytes n : Nat) : Bool := decide (n ≤ 140737488355328) && decide (n * bytes ≤ 140737488355328)

/-- append(x, ys...), ys a list of elements. -/
def appV (h : List Blk) (s : St) (sz bytes : Nat) (x : AV) (ys : List (List GV)) : Option (AV × St × List Nat) :=
  match ys with
  | [] => match x with
    | .g .nsl => some (.g .nsl, s, [])
    | .ms id g sz' off len => if sz = sz' ∧ cur h s id g = true then some (.ms id g sz off len, s, []) else none
    | _ => none
  | _ => match x with
    | .g .nsl => if room bytes ys.length = true then some (.ms (s.next h) 2 sz 0 ys.length, s.push (.rows sz 2 ys), []) else none
    | .ms id g sz' off len => match getB h s id with
      | some (.rows sz2 g' els) => if g = g' ∧ sz = sz' ∧ sz = sz2 then
          if off + len + ys.length ≤ els.length then some (.ms id g sz off (len + ys.length), setB h s id (.rows sz g (els.take (off + len) ++ (ys ++ els.drop (off + (len + ys.length))))), [id])
          else if off = 0 ∧ len ≤ els.length ∧ room bytes (len + ys.length) = true then some (.ms id (g + 1) sz 0 (len + ys.length), setB h s id (.rows sz (g + 1) (els.take len ++ ys)), [id])
          else none
        else none
      | _ => none
    | _ => none

/-- The same, to a row whose type is known, and is that of the elements. -/
def appTV (e : TypeId) (h : List Blk) (s : St) (sz bytes : Nat) (id g off len : Nat) (ys : List (List GV)) : Option (AV × St × List Nat) :=
  match ys with
  | [] => if cur h s id g = true then some (.ms id g sz off len, s, []) else none
  | _ => match getB h s id with
      | some (.trow T sz2 g' els) => if g = g' ∧ sz = sz2 ∧ T = e then
          if off + len + ys.length ≤ els.length then some (.ms id g sz off (len + ys.length), setB h s id (.trow T sz g (els.take (off + len) ++ (ys ++ els.drop (off + (len + ys.length))))), [id])
          else if off = 0 ∧ len ≤ els.length ∧ room bytes (len + ys.length) = true then some (.ms id (g + 1) sz 0 (len + ys.length), setB h s id (.trow T sz (g + 1) (els.take len ++ ys)), [id])
          else none
        else none
      | _ => none

/-- Is it a row of a type that is known? -/
def isTrow (h : List Blk) (s : St) (id : Nat) : Bool :=
  match getB h s id with
  | some (.trow ..) => true
  | _ => false

/-- Where a key stands in a map. -/
def findM (kk : LK) (k : GV) : List (GV × Option GV) → Option (Option Nat)
  | [] => some none
  | (a, _) :: es => match eqG kk k a with
    | some true => some (some 0)
    | some false => match findM kk k es with
      | some (some j) => some (some (j + 1))
      | some none => some none
      | none => none
    | none => none
def mvV : Option GV → AV
  | some g => .g g
  | none => .agg []
def mvG : AV → Option (Option GV)
  | .g g => some (some g)
  | .agg [] => some none
  | _ => none
def mgetV (comma : Bool) (kk : LK) (z : Option GV) (k : GV) (es : List (GV × Option GV)) : Option AV :=
  match findM kk k es with
  | some r => match (match r with | some j => es[j]?.map (·.2) | none => some z) with
    | some g => some (if comma = true then .tup [mvV g, .g (.bool r.isSome)] else mvV g)
    | none => none
  | none => none
def msetV (kk : LK) (k : GV) (g : Option GV) (es : List (GV × Option GV)) : Option (List (GV × Option GV)) :=
  match findM kk k es with
  | some (some j) => some (es.set j (k, g))
  | some none => some (es ++ [(k, g)])
  | none => none

/-- Where a key of several cells stands in a map. -/
def findM2 (ks : List LK) (k : List GV) : List (List GV × Option GV) → Option (Option Nat)
  | [] => some none
  | (a, _) :: es => match eqL ks (k.map .g) (a.map .g) with
    | some true => some (some 0)
    | some false => match findM2 ks k es with
      | some (some j) => some (some (j + 1))
      | some none => some none
      | none => none
    | none => none
def mgetV2 (comma : Bool) (ks : List LK) (z : Option GV) (k : List GV) (es : List (List GV × Option GV)) : Option AV :=
  if k.length = ks.length then match findM2 ks k es with
  | some r => match (match r with | some j => es[j]?.map (·.2) | none => some z) with
    | some g => some (if comma = true then .tup [mvV g, .g (.bool r.isSome)] else mvV g)
    | none => none
  | none => none else none
def msetV2 (ks : List LK) (k : List GV) (g : Option GV) (es : List (List GV × Option GV)) : Option (List (List GV × Option GV)) :=
  if k.length = ks.length then match findM2 ks k es with
  | some none => some (es ++ [(k, g)])
  | _ => none else none
def aggG : AV → Option (List GV)
  | .agg cs => grounds cs
  | _ => none

def bytesG (b : List UInt8) : List (List GV) := b.map fun c => [.int .u8 c.toNat]

def evI (h : List Blk) (nb : Nat) (s : St) : AOp → Option (AV × St × List Nat)
  | .nres sz => some (.ms (s.next h) 1 sz 0 0, s.push (.rows sz 1 []), [])
  | .mk0 sz => some (.ms (s.next h) 2 sz 0 0, s.push (.rows sz 2 []), [])
  | .alloc z => some (.ptr (s.next h + (zres (s.next h) z).2.length) 0, { s with o := s.o ++ (zres (s.next h) z).2 ++ [.cells (zres (s.next h) z).1] }, [])
  | .allocT T e z => some (.ptr (s.next h + (zresT e (s.next h) z).2.length) 0, { s with o := s.o ++ (zresT e (s.next h) z).2 ++ [.bld T (zresT e (s.next h) z).1] }, [])
  | .allocAt k z => match getB h s (nb + k) with
    | some .pend => if h.length ≤ nb then some (.ptr (nb + k) 0, setB h s (nb + k) (.cells (zplain z)), [nb + k]) else none
    | _ => none
  | .box x => match val s x with
    | some v => match v.cellsO with
      | some cs => some (.ptr (s.next h) 0, s.push (.cells cs), [])
      | none => none
    | none => none
  | .bslice sz len z ps => match fills s (List.replicate len (z.map AV.g)).flatten ps with
    | some cs => match orG (grounds cs) (grounds (cs.map (nilG h s))) with
      | some gs => some (.g (.sl sz (chunk sz len gs)), s, [])
      | none => none
    | none => none
  | .store n p x => match val s p, val s x with
    | some p, some v => match v.cellsO with
      | some vs => if vs.length = n then match storeV h s p vs with
          | some (s', ws) => some (.undef, s', ws)
          | none => none
        else none
      | none => none
    | _, _ => none
  | .mk sz bytes z l c => match val s l, val s c with
    | some (.g (.int .i64 n)), some (.g (.int .i64 m)) => if n = m ∧ 0 ≤ n ∧ n ≤ 281474976710656 ∧ n * bytes ≤ 281474976710656 then
        some (.ms (s.next h) 2 sz 0 n.toNat, s.push (.rows sz 2 (List.replicate n.toNat z)), []) else none
    | _, _ => none
  | .app sz bytes x y => match val s x, val s y with
    | some x, some y => match viewN h s sz y with
      | some ys => appV h s sz bytes x ys
      | none => none
    | _, _ => none
  | .appS x y => match val s x, val s y with
    | some x, some (.g (.str b)) => appV h s 1 1 x (bytesG b)
    | _, _ => none
  | .appZ sz bytes z x n => match val s x, val s n with
    | some x, some (.g (.int .i64 n)) => if 0 ≤ n ∧ n ≤ 281474976710656 ∧ n * bytes ≤ 281474976710656 then appV h s sz bytes x (List.replicate n.toNat z) else none
    | _, _ => none
  | .clear z x => match val s x with
    | some (.g .nsl) => some (.tup [], s, [])
    | some (.ms id g sz off len) => match getB h s id with
      | some (.rows sz' g' els) => if g = g' ∧ sz = sz' ∧ sz = z.length ∧ off + len ≤ els.length then
          some (.tup [], setB h s id (.rows sz g (els.take off ++ (List.replicate len z ++ els.drop (off + len)))), [id]) else none
      | _ => none
    | _ => none
  | .convSB x => match val s x with
    | some (.g (.str b)) => some (.g (.sl 1 (bytesG b)), s, [])
    | _ => none
  | .appT e x y => match val s x, val s y with
    | some x, some (.g (.str b)) => match x with
      | .ms id g sz off len => if isTrow h s id = true then (if sz = 1 then appTV e h s 1 1 id g off len (bytesG b) else none) else appV h s 1 1 (.ms id g sz off len) (bytesG b)
      | x => appV h s 1 1 x (bytesG b)
    | _, _ => none
  | .toU x => match val s x with
    | some (.ptr id o) => match getB h s id with
      | some (.bld _ cs) => if o < cs.length then some (.ptr id o, s, []) else none
      | _ => none
    | _ => none
  | .fromU ts x => match val s x with
    | some (.ptr id o) => match getB h s id with
      | some (.bld T cs) => if o = 0 ∧ ts.contains (T, cs.length) = true then some (.ptr id o, s, []) else none
      | _ => none
    | _ => none
  | .sdata x => match val s x with
    | some (.ms id g sz off len) => if cur h s id g = true then (if g = 1 then some (.g .nptr, s, []) else if 0 < len then some (.rp id g sz off 0, s, []) else none) else none
    | _ => none
  | .ustr e p n => match val s p, val s n with
    | some (.g .nptr), some (.g (.int .i64 n)) => if n = 0 then some (.g (.str []), s, []) else none
    | some (.rp id g _ i o), some (.g (.int .i64 n)) => match getB h s id with
      | some (.trow T sz2 g' els) => if g = g' ∧ sz2 = 1 ∧ i = 0 ∧ o = 0 ∧ 0 < n ∧ n ≤ els.length ∧ n ≤ 9223372036854775807 ∧ T = e then match bytesOfG (els.take n.toNat) with
          | some b => some (.g (.str b), setB h s id (.fro 1 g els), [id])
          | none => none
        else none
      | _ => none
    | _, _ => none
  | .neqp x y => match val s x, val s y with
    | some (.ptr id o), some (.ptr id' o') => if id = id' ∧ o = o' then some (.g (.bool false), s, []) else none
    | _, _ => none
  | .mkmap => some (.mp (s.next h), s.push (.map []), [])
  | .mget cm kk z x k => match val s x, val s k with
    | some (.mp id), some (.g kv) => match getB h s id with
      | some (.map es) => match mgetV cm kk z kv es with
        | some r => some (r, s, [])
        | none => none
      | _ => none
    | _, _ => none
  | .mset kk x k v => match val s x, val s k, val s v with
    | some (.mp id), some (.g kv), some vv => match getB h s id, mvG vv with
      | some (.map es), some g => match msetV kk kv g es with
        | some es' => some (.undef, setB h s id (.map es'), [id])
        | none => none
      | _, _ => none
    | _, _, _ => none
  | .mkmap2 => some (.mp (s.next h), s.push (.map2 []), [])
  | .mget2 cm ks z x k => match val s x, (val s k).bind aggG with
    | some (.mp id), some kv => match getB h s id with
      | some (.map2 es) => match mgetV2 cm ks z kv es with
        | some r => some (r, s, [])
        | none => none
      | _ => none
    | _, _ => none
  | .mset2 ks x k v => match val s x, (val s k).bind aggG, val s v with
    | some (.mp id), some kv, some vv => match getB h s id, mvG vv with
      | some (.map2 es), some g => match msetV2 ks kv g es with
        | some es' => some (.undef, setB h s id (.map2 es'), [id])
        | none => none
      | _, _ => none
    | _, _, _ => none
  | .convBS x => match val s x with
    | some v => match viewN h s 1 v with
      | some els => match bytesOfG els with
        | some b => some (.g (.str b), s, [])
        | none => none
      | none => none
    | none => none
  | _ => none
where
  bytesOfG : List (List GV) → Option (List UInt8)
    | [] => some []
    | [.int .u8 n] :: r => match bytesOfG r with
      | some b => some (UInt8.ofNat n.toNat :: b)
      | none => none
    | _ => none

end Go.AM
end
section
set_option linter.unusedSimpArgs false
set_option linter.unusedVariables false
namespace Go.AM
open Go

def Same (w w' : World) (H : List Blk) (L L' : Nat → Lc) (ws : List Nat) : Prop :=
  ∀ id, id < H.length → id ∉ ws → L' id = L id ∧ (Live H id → ∀ b, (L id).blk = some b → w'.heap[b]? = w.heap[b]?)

/-- What an act comes to. -/
def Im (w : World) (H : List Blk) (L : Nat → Lc) (r : Result Next) (v : AV) (H' : List Blk) (ws : List Nat) : Prop :=
  ∃ nx w' L', r = .ok nx w' ∧ ((∃ cv, nx = .value cv ∧ AR (envOf w' H' L') v cv) ∨ (nx = .skip ∧ v = .undef)) ∧ HR w' H' L' ∧ Ext (envOf w H L) (envOf w' H' L') ∧ Same w w' H L L' ws

theorem same_grow {w w' : World} {H : List Blk} {L : Nat → Lc} (hr : HR w H L) (hg : Grows w w') (ws : List Nat) : Same w w' H L L ws :=
  fun id hid _ => ⟨rfl, fun ⟨x, hx, lx⟩ b hb => hg.old b ((hr.blk id x hx).lt lx hb)⟩

section
variable {w w' : World} {H : List Blk} {L : Nat → Lc}

theorem HR.add_same (hr : HR w H L) (hg : Grows w w') (k : Blk) (lc : Lc) (hb : ∀ b, lc.blk = some b → w.heap.size ≤ b)
    (hk : Ext (envOf w H L) (envOf w' (H ++ [k]) (updL L H.length lc)) → HB (envOf w' (H ++ [k]) (updL L H.length lc)) H.length k) (ws : List Nat) :
    HR w' (H ++ [k]) (updL L H.length lc) ∧ Ext (envOf w H L) (envOf w' (H ++ [k]) (updL L H.length lc)) ∧ Same w w' H L (updL L H.length lc) ws := by
  obtain ⟨h1, h2⟩ := hr.add hg k lc hb hk
  exact ⟨h1, h2, fun id hid hws => ⟨updL_ne _ _ _ (by omega), (same_grow hr hg ws id hid hws).2⟩⟩

/-- A row is kept ready. -/
theorem HR.reserve (hr : HR w H L) (sz : Nat) (ws : List Nat) : ∃ L', HR w (H ++ [.rows sz 1 []]) L' ∧ Ext (envOf w H L) (envOf w (H ++ [.rows sz 1 []]) L') ∧ Same w w H L L' ws ∧
    AR (envOf w (H ++ [.rows sz 1 []]) L') (.ms H.length 1 sz 0 0) (.slice none 0 0) := by
  obtain ⟨h1, h2, h3⟩ := hr.add_same (Grows.refl w) (.rows sz 1 []) ⟨none, 1, 0, false⟩ (by simp) (fun _ => by
    show ((updL L H.length _) H.length).gen = 1 ∧ _
    rw [updL_self]
    refine ⟨rfl, ⟨?_, by omega⟩, ?_⟩
    · show ((updL L H.length _) H.length).st = false; rw [updL_self]
    · show match ((updL L H.length _) H.length).blk with | none => _ | some b => _
      rw [updL_self]
      refine ⟨rfl, ?_⟩
      show ((updL L H.length _) H.length).cap = 0
      rw [updL_self]) ws
  refine ⟨_, h1, h2, h3, ?_⟩
  refine .ms (by simp [envOf]) ?_ ?_ rfl (fun _ => ?_) (fun _ => ?_)
  · show 0 < ((updL L H.length _) H.length).gen; rw [updL_self]; exact Nat.one_pos
  · show 1 ≤ ((updL L H.length _) H.length).gen; rw [updL_self]; exact Nat.le_refl _
  · show MsOk ((updL L H.length _) H.length) _ _ _ _; rw [updL_self]; exact ⟨rfl, rfl, rfl⟩
  · show 1 = 1 ↔ ((updL L H.length _) H.length).blk = none; rw [updL_self]; simp

/-- The same, of a type that is known. -/
theorem HR.reserveT (hr : HR w H L) (e : TypeId) (sz : Nat) (ws : List Nat) : ∃ L', HR w (H ++ [.trow e sz 1 []]) L' ∧ Ext (envOf w H L) (envOf w (H ++ [.trow e sz 1 []]) L') ∧ Same w w H L L' ws ∧
    AR (envOf w (H ++ [.trow e sz 1 []]) L') (.ms H.length 1 sz 0 0) (.slice none 0 0) := by
  obtain ⟨h1, h2, h3⟩ := hr.add_same (Grows.refl w) (.trow e sz 1 []) ⟨none, 1, 0, false⟩ (by simp) (fun _ => by
    show ((updL L H.length _) H.length).gen = 1 ∧ _
    rw [updL_self]
    refine ⟨rfl, ⟨?_, by omega⟩, ?_⟩
    · show ((updL L H.length _) H.length).st = false; rw [updL_self]
    · show match ((updL L H.length _) H.length).blk with | none => _ | some b => _
      rw [updL_self]
      refine ⟨rfl, ?_⟩
      show ((updL L H.length _) H.length).cap = 0
      rw [updL_self]) ws
  refine ⟨_, h1, h2, h3, ?_⟩
  refine .ms (by simp [envOf]) ?_ ?_ rfl (fun _ => ?_) (fun _ => ?_)
  · show 0 < ((updL L H.length _) H.length).gen; rw [updL_self]; exact Nat.one_pos
  · show 1 ≤ ((updL L H.length _) H.length).gen; rw [updL_self]; exact Nat.le_refl _
  · show MsOk ((updL L H.length _) H.length) _ _ _ _; rw [updL_self]; exact ⟨rfl, rfl, rfl⟩
  · show 1 = 1 ↔ ((updL L H.length _) H.length).blk = none; rw [updL_self]; simp

theorem heap_push (w : World) (o : Obj) : ({ w with heap := w.heap.push o } : World).heap[w.heap.size]? = some o := by simp

/-- A new variable. -/
theorem HR.newCells (hr : HR w H L) (hg : Grows w w') (cs : List AV) (C : Array Value) (T : TypeId) (b : Nat) (hlt : w.heap.size ≤ b) (hb : w'.heap[b]? = some (.cells C T (0, 0))) (hc : CRel (envOf w H L) cs C)
    (h1 : ∀ (j : Nat) (v : Value), C[j]? = some v → v.oneCell' = true) (ws : List Nat) :
    ∃ L', HR w' (H ++ [.cells cs]) L' ∧ Ext (envOf w H L) (envOf w' (H ++ [.cells cs]) L') ∧ Same w w' H L L' ws ∧ AR (envOf w' (H ++ [.cells cs]) L') (.ptr H.length 0) (.pointer (some ⟨b, 0, none⟩)) := by
  obtain ⟨k1, k2, k3⟩ := hr.add_same hg (.cells cs) ⟨some b, 0, 0, true⟩ (by simpa using hlt) (fun he => by
    refine ⟨?_, b, T, C, ?_, hb, hc.1.symm, fun j a hj => ?_⟩
    · show ((updL L H.length _) H.length).st = true; rw [updL_self]
    · show ((updL L H.length _) H.length).blk = some b; rw [updL_self]
    · have hlt : j < C.size := by rw [← hc.1]; exact (List.getElem?_eq_some_iff.1 hj).1
      refine ⟨C[j], Array.getElem?_eq_getElem hlt, (hc.2 j a _ hj (Array.getElem?_eq_getElem hlt)).mono he, h1 j _ (Array.getElem?_eq_getElem hlt)⟩) ws
  refine ⟨_, k1, k2, k3, .ptr (by simp [envOf]) ?_ ?_⟩
  · show ((updL L H.length _) H.length).st = true; rw [updL_self]
  · show ((updL L H.length _) H.length).blk = some b; rw [updL_self]

/-- A new variable of a type that is known. -/
theorem HR.newBld (hr : HR w H L) (hg : Grows w w') (cs : List AV) (C : Array Value) (T : TypeId) (b : Nat) (hlt : w.heap.size ≤ b) (hb : w'.heap[b]? = some (.cells C T (0, 0))) (hc : CRel (envOf w H L) cs C)
    (h1 : ∀ (j : Nat) (v : Value), C[j]? = some v → v.oneCell' = true) (ws : List Nat) :
    ∃ L', HR w' (H ++ [.bld T cs]) L' ∧ Ext (envOf w H L) (envOf w' (H ++ [.bld T cs]) L') ∧ Same w w' H L L' ws ∧ AR (envOf w' (H ++ [.bld T cs]) L') (.ptr H.length 0) (.pointer (some ⟨b, 0, none⟩)) := by
  obtain ⟨k1, k2, k3⟩ := hr.add_same hg (.bld T cs) ⟨some b, 0, 0, true⟩ (by simpa using hlt) (fun he => by
    refine ⟨?_, b, C, ?_, hb, hc.1.symm, fun j a hj => ?_⟩
    · show ((updL L H.length _) H.length).st = true; rw [updL_self]
    · show ((updL L H.length _) H.length).blk = some b; rw [updL_self]
    · have hlt : j < C.size := by rw [← hc.1]; exact (List.getElem?_eq_some_iff.1 hj).1
      refine ⟨C[j], Array.getElem?_eq_getElem hlt, (hc.2 j a _ hj (Array.getElem?_eq_getElem hlt)).mono he, h1 j _ (Array.getElem?_eq_getElem hlt)⟩) ws
  refine ⟨_, k1, k2, k3, .ptr (by simp [envOf]) ?_ ?_⟩
  · show ((updL L H.length _) H.length).st = true; rw [updL_self]
  · show ((updL L H.length _) H.length).blk = some b; rw [updL_self]

theorem rows_get {E : Env} {sz : Nat} {els : List (List GV)} {C : Array Value} (hlen : ∀ (i : Nat) (el : List GV), els[i]? = some el → el.length = sz) : True := trivial

/-- A new row. -/
theorem HR.newRows (hr : HR w H L) (hg : Grows w w') (sz : Nat) (els : List (List GV)) (cap : Nat) (C : Array Value) (T : TypeId) (b : Nat) (hlt : w.heap.size ≤ b) (hb : w'.heap[b]? = some (.cells C T (0, 0)))
    (hrow : RowsIn (envOf w H L) C sz cap els) (ws : List Nat) :
    ∃ L', HR w' (H ++ [.rows sz 2 els]) L' ∧ Ext (envOf w H L) (envOf w' (H ++ [.rows sz 2 els]) L') ∧ Same w w' H L L' ws ∧
      AR (envOf w' (H ++ [.rows sz 2 els]) L') (.ms H.length 2 sz 0 els.length) (.slice (some ⟨b, 0, none⟩) els.length cap) := by
  obtain ⟨k1, k2, k3⟩ := hr.add_same hg (.rows sz 2 els) ⟨some b, 2, cap, false⟩ (by simpa using hlt) (fun he => by
    refine ⟨?_, ⟨?_, by omega⟩, ?_⟩
    · show ((updL L H.length _) H.length).gen = 2; rw [updL_self]
    · show ((updL L H.length _) H.length).st = false; rw [updL_self]
    · show match ((updL L H.length _) H.length).blk with | none => _ | some b => ∃ T C, w'.heap[b]? = some (.cells C T (0, 0)) ∧ RowsIn _ C sz ((updL L H.length _) H.length).cap els
      rw [updL_self]
      exact ⟨T, C, hb, hrow.mono he⟩) ws
  refine ⟨_, k1, k2, k3, .ms (by simp [envOf]) ?_ ?_ rfl (fun _ => ?_) (fun _ => ?_)⟩
  · show 0 < ((updL L H.length _) H.length).gen; rw [updL_self]; exact Nat.two_pos
  · show 2 ≤ ((updL L H.length _) H.length).gen; rw [updL_self]; exact Nat.le_refl _
  · show MsOk ((updL L H.length _) H.length) _ _ _ _; rw [updL_self]
    exact ⟨_, cap, rfl, by simp, hrow.2.1, .inl (by simp)⟩
  · show 2 = 1 ↔ ((updL L H.length _) H.length).blk = none; rw [updL_self]; simp

end
end Go.AM
end
