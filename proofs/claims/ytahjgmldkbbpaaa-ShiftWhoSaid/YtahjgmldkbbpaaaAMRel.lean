/- What the abstract machine's values and heap mean in a world of the model, and what stays true of them as a world goes on. -/
import Derived.Test.YtahjgmldkbbpaaaAMDefs
import Derived.Laws.Rows
import Derived.Laws.Tables
import Derived.Laws.IdiomCopy
import Derived.Laws.Strings2
namespace Go.AM
open Go

structure Lc where
  blk : Option Nat
  gen : Nat
  cap : Nat
  st : Bool

structure Env where
  w : World
  O : Nat → Prop
  L : Nat → Lc
  n : Nat
  V : Nat → Prop

inductive GR (E : Env) : GV → Value → Prop
  | bool (b : Bool) : GR E (.bool b) (.bool b)
  | int (k : IntKind) (n : Int) : GR E (.int k n) (.int k n)
  | str (s : List UInt8) : GR E (.str s) (.string ⟨s.toArray⟩)
  | sl {sz b o cap : Nat} {els : List (List GV)} (c : Nat → Nat → Value) (hcap : els.length ≤ cap) (hb : b < E.w.heap.size) (hO : ¬ E.O b)
      (hsz : ∀ (i : Nat) (el : List GV), els[i]? = some el → el.length = sz)
      (hc : ∀ (i : Nat) (el : List GV) (j : Nat) (a : GV), els[i]? = some el → el[j]? = some a → E.w.cell? ⟨b, o + i * sz + j, none⟩ = some (c i j))
      (hg : ∀ (i : Nat) (el : List GV) (j : Nat) (a : GV), els[i]? = some el → el[j]? = some a → GR E a (c i j)) :
      GR E (.sl sz els) (.slice (some ⟨b, o, none⟩) els.length cap)
  | sl0 (sz : Nat) (a : Option Addr) (cap : Nat) : GR E (.sl sz []) (.slice a 0 cap)
  | nsl : GR E .nsl (.slice none 0 0)
  | nptr : GR E .nptr (.pointer none)
  | nmap : GR E .nmap (.map none)
  | nfn : GR E .nfn .nilFunc
  | nif : GR E .nif .nilIface
  | fn (f : FuncId) : GR E (.fn f) (.func (.func f) #[] #[])
  | ifc (t : TypeId) {v : GV} {cv : Value} (h : GR E v cv) : GR E (.ifc t v) (.iface t cv)

def MsOk (lc : Lc) (sz off len : Nat) (v : Value) : Prop :=
  match lc.blk with
  | none => v = .slice none 0 0 ∧ off = 0 ∧ len = 0
  | some b => ∃ a c, v = .slice (some a) len c ∧ off + c = lc.cap ∧ len ≤ c ∧ (a = ⟨b, off * sz, none⟩ ∨ c = 0)

inductive AR (E : Env) : AV → Value → Prop
  | g {v : GV} {cv : Value} (h : GR E v cv) : AR E (.g v) cv
  | agg {cs : List AV} {C : Array Value} (hn : cs.length = C.size) (h : ∀ (j : Nat) (a : AV) (v : Value), cs[j]? = some a → C[j]? = some v → AR E a v)
      (h1 : ∀ (j : Nat) (v : Value), C[j]? = some v → v.oneCell' = true) : AR E (.agg cs) (.agg C)
  | tup {cs : List AV} {C : Array Value} (hn : cs.length = C.size) (h : ∀ (j : Nat) (a : AV) (v : Value), cs[j]? = some a → C[j]? = some v → AR E a v) : AR E (.tup cs) (.tuple C)
  | cp {cs : List GV} {b o : Nat} (c : Nat → Value) (hb : b < E.w.heap.size) (hO : ¬ E.O b)
      (hc : ∀ (j : Nat) (a : GV), cs[j]? = some a → E.w.cell? ⟨b, o + j, none⟩ = some (c j))
      (hg : ∀ (j : Nat) (a : GV), cs[j]? = some a → GR E a (c j)) : AR E (.cp cs) (.pointer (some ⟨b, o, none⟩))
  | ptr {id off b : Nat} (hid : id < E.n) (hgen : (E.L id).st = true) (hb : (E.L id).blk = some b) : AR E (.ptr id off) (.pointer (some ⟨b, off, none⟩))
  | ms {id gen sz off len : Nat} {v : Value} (hid : id < E.n) (h0 : 0 < (E.L id).gen) (hle : gen ≤ (E.L id).gen)
      (h1 : v.oneCell' = true) (h : gen = (E.L id).gen → MsOk (E.L id) sz off len v) : AR E (.ms id gen sz off len) v
  | rp {id gen sz i off : Nat} {v : Value} (hid : id < E.n) (h0 : 0 < (E.L id).gen) (hle : gen ≤ (E.L id).gen)
      (h1 : v.oneCell' = true) (h : gen = (E.L id).gen → ∃ b, (E.L id).blk = some b ∧ v = .pointer (some ⟨b, i * sz + off, none⟩)) : AR E (.rp id gen sz i off) v
  | fv {f : FuncId} {cs : List AV} {C : Array Value} (hn : cs.length = C.size) (h : ∀ (j : Nat) (a : AV) (v : Value), cs[j]? = some a → C[j]? = some v → AR E a v) :
      AR E (.fv f cs) (.func (.func f) #[] C)
  | via (t : TypeId) (path : List FieldStep) (f : FuncId) (pointer : Bool) : AR E (.via t path f pointer) (.func (.via t path.toArray f pointer) #[] #[])
  | ifa (t : TypeId) {v : AV} {cv : Value} (h : AR E v cv) : AR E (.ifa t v) (.iface t cv)
  | mp {id b : Nat} (hid : id < E.n) (hgen : (E.L id).st = true) (hb : (E.L id).blk = some b) : AR E (.mp id) (.map (some b))
  | undef : AR E .undef Go.undef

/-- A block's place stays, unless it is a row of the calls' own that may still turn. -/
def LcLe (v : Prop) (l l' : Lc) : Prop := l' = l ∨ (v ∧ l.st = false ∧ l.gen < l'.gen)

structure Ext (E E' : Env) : Prop where
  os : E'.w.os = E.w.os
  tape : E'.w.tape = E.w.tape
  output : E'.w.output = E.w.output
  size : E.w.heap.size ≤ E'.w.heap.size
  keep : ∀ b, b < E.w.heap.size → ¬ E.O b → E'.w.heap[b]? = E.w.heap[b]? ∧ ¬ E'.O b
  le : E.n ≤ E'.n
  loc : ∀ id, id < E.n → LcLe (E.V id) (E.L id) (E'.L id)
  lv : ∀ id, id < E.n → E'.V id → E.V id

theorem LcLe.refl (v : Prop) (l : Lc) : LcLe v l l := .inl rfl
theorem LcLe.trans {v v' : Prop} {a b c : Lc} (h : LcLe v a b) (k : LcLe v' b c) (hv : v' → v) : LcLe v a c := by
  rcases h with rfl | ⟨h0, h1, h2⟩
  · rcases k with rfl | ⟨k0, k1, k2⟩
    · exact .inl rfl
    · exact .inr ⟨hv k0, k1, k2⟩
  · rcases k with rfl | ⟨k0, k1, k2⟩
    · exact .inr ⟨h0, h1, h2⟩
    · exact .inr ⟨h0, h1, Nat.lt_trans h2 k2⟩

theorem Ext.refl (E : Env) : Ext E E := ⟨rfl, rfl, rfl, Nat.le_refl _, fun _ _ h => ⟨rfl, h⟩, Nat.le_refl _, fun _ _ => .refl _ _, fun _ _ h => h⟩
theorem Ext.trans {A B C : Env} (h : Ext A B) (k : Ext B C) : Ext A C where
  os := k.os.trans h.os
  tape := k.tape.trans h.tape
  output := k.output.trans h.output
  size := Nat.le_trans h.size k.size
  keep b hb hO := by
    obtain ⟨h1, h2⟩ := h.keep b hb hO
    obtain ⟨k1, k2⟩ := k.keep b (Nat.lt_of_lt_of_le hb h.size) h2
    exact ⟨k1.trans h1, k2⟩
  le := Nat.le_trans h.le k.le
  loc id hid := (h.loc id hid).trans (k.loc id (Nat.lt_of_lt_of_le hid h.le)) (h.lv id hid)
  lv id hid hv := h.lv id hid (k.lv id (Nat.lt_of_lt_of_le hid h.le) hv)

theorem Ext.cell {E E' : Env} (h : Ext E E') {b : Nat} (hb : b < E.w.heap.size) (hO : ¬ E.O b) (o : Nat) : E'.w.cell? ⟨b, o, none⟩ = E.w.cell? ⟨b, o, none⟩ := by
  simp [World.cell?, (h.keep b hb hO).1]

theorem GR.mono {E E' : Env} (h : Ext E E') {v : GV} {cv : Value} (hv : GR E v cv) : GR E' v cv := by
  induction hv with
  | bool b => exact .bool b
  | int k n => exact .int k n
  | str s => exact .str s
  | sl c hcap hb hO hsz hc hg ih =>
    refine .sl c hcap (Nat.lt_of_lt_of_le hb h.size) (h.keep _ hb hO).2 hsz (fun i el j a h1 h2 => ?_) ih
    rw [h.cell hb hO]; exact hc i el j a h1 h2
  | sl0 sz a cap => exact .sl0 sz a cap
  | nsl => exact .nsl
  | nptr => exact .nptr
  | nmap => exact .nmap
  | nfn => exact .nfn
  | nif => exact .nif
  | fn f => exact .fn f
  | ifc t _ ih => exact .ifc t ih

theorem LcLe.gen0 {v : Prop} {l l' : Lc} (h : LcLe v l l') (h0 : l.st = true) : l' = l := by
  rcases h with h | ⟨_, h1, _⟩
  · exact h
  · rw [h0] at h1; cases h1

theorem AR.mono {E E' : Env} (h : Ext E E') {v : AV} {cv : Value} (hv : AR E v cv) : AR E' v cv := by
  induction hv with
  | g hg => exact .g (hg.mono h)
  | agg hn _ h1 ih => exact .agg hn ih h1
  | tup hn _ ih => exact .tup hn ih
  | cp c hb hO hc hg =>
    refine .cp c (Nat.lt_of_lt_of_le hb h.size) (h.keep _ hb hO).2 (fun j a h1 => ?_) fun j a h1 => (hg j a h1).mono h
    rw [h.cell hb hO]; exact hc j a h1
  | ptr hid hgen hb =>
    have e := (h.loc _ hid).gen0 hgen
    exact .ptr (Nat.lt_of_lt_of_le hid h.le) (by rw [e]; exact hgen) (by rw [e]; exact hb)
  | ms hid h0 hle h1 hm =>
    rcases h.loc _ hid with e | ⟨_, e1, e2⟩
    · exact .ms (Nat.lt_of_lt_of_le hid h.le) (by rw [e]; exact h0) (by rw [e]; exact hle) h1 (by rw [e]; exact hm)
    · exact .ms (Nat.lt_of_lt_of_le hid h.le) (by omega) (by omega) h1 (fun e => by omega)
  | rp hid h0 hle h1 hm =>
    rcases h.loc _ hid with e | ⟨_, e1, e2⟩
    · exact .rp (Nat.lt_of_lt_of_le hid h.le) (by rw [e]; exact h0) (by rw [e]; exact hle) h1 (by rw [e]; exact hm)
    · exact .rp (Nat.lt_of_lt_of_le hid h.le) (by omega) (by omega) h1 (fun e => by omega)
  | fv hn _ ih => exact .fv hn ih
  | via t p f q => exact .via t p f q
  | ifa t _ ih => exact .ifa t ih
  | mp hid hgen hb =>
    have e := (h.loc _ hid).gen0 hgen
    exact .mp (Nat.lt_of_lt_of_le hid h.le) (by rw [e]; exact hgen) (by rw [e]; exact hb)
  | undef => exact .undef

theorem GR.one {E : Env} {v : GV} {cv : Value} (h : GR E v cv) : cv.oneCell' = true := by cases h <;> rfl
theorem AR.one {E : Env} {v : AV} {cv : Value} (h : AR E v cv) (hl : v.leaf = true) : cv.oneCell' = true := by
  cases h <;> first | rfl | assumption | (simp [AV.leaf] at hl; done) | (exact GR.one (by assumption))

/-! ### The heap -/
def Blk.live : Blk → Bool
  | .cells _ | .rows .. | .map _ | .pend | .hid => true
  | .fro .. => false

def RowsIn (E : Env) (C : Array Value) (sz cap : Nat) (els : List (List GV)) : Prop :=
  C.size = cap * sz ∧ els.length ≤ cap ∧ ∀ (i : Nat) (el : List GV), els[i]? = some el → el.length = sz ∧
    ∀ (j : Nat) (a : GV), el[j]? = some a → ∃ v, C[i * sz + j]? = some v ∧ GR E a v

def CellsIn (E : Env) (C : Array Value) (cs : List AV) : Prop :=
  C.size = cs.length ∧ ∀ (j : Nat) (a : AV), cs[j]? = some a → ∃ v, C[j]? = some v ∧ AR E a v ∧ v.oneCell' = true

def EntriesIn (E : Env) (es : List (GV × GV)) (en : Array MapEntry) : Prop :=
  es.length = en.size ∧ ∀ (j : Nat) (p : GV × GV) (e : MapEntry), es[j]? = some p → en[j]? = some e → GR E p.1 e.key ∧ GR E p.2 e.val

def HB (E : Env) (id : Nat) : Blk → Prop
  | .cells cs => (E.L id).st = true ∧ ∃ b T C, (E.L id).blk = some b ∧ E.w.heap[b]? = some (.cells C T (0, 0)) ∧ CellsIn E C cs
  | .rows sz g els => (E.L id).gen = g ∧ ((E.L id).st = false ∧ 0 < g) ∧ match (E.L id).blk with
    | none => els = [] ∧ (E.L id).cap = 0
    | some b => ∃ T C, E.w.heap[b]? = some (.cells C T (0, 0)) ∧ RowsIn E C sz (E.L id).cap els
  | .fro sz g els => (E.L id).gen = g ∧ 0 < g ∧ match (E.L id).blk with
    | none => els = [] ∧ (E.L id).cap = 0
    | some b => b < E.w.heap.size ∧ ¬ E.O b ∧ ∃ T C fr, E.w.heap[b]? = some (.cells C T fr) ∧ RowsIn E C sz (E.L id).cap els
  | .map es => (E.L id).st = true ∧ ∃ b en ck, (E.L id).blk = some b ∧ E.w.heap[b]? = some (.map en ck) ∧ EntriesIn E es en
  | .pend => (E.L id).st = false ∧ (E.L id).gen = 0 ∧ (E.L id).blk = none
  | .hid => ∀ b, (E.L id).blk = some b → b < E.w.heap.size

def Own (H : List Blk) (L : Nat → Lc) (b : Nat) : Prop := ∃ id blk, H[id]? = some blk ∧ blk.live = true ∧ (L id).blk = some b

def Live (H : List Blk) (id : Nat) : Prop := ∃ blk, H[id]? = some blk ∧ blk.live = true

def envOf (w : World) (H : List Blk) (L : Nat → Lc) : Env := ⟨w, Own H L, L, H.length, Live H⟩

structure HR (w : World) (H : List Blk) (L : Nat → Lc) : Prop where
  blk : ∀ (id : Nat) (k : Blk), H[id]? = some k → HB (envOf w H L) id k
  inj : ∀ (i j b : Nat) (x y : Blk), H[i]? = some x → H[j]? = some y → x.live = true → y.live = true → (L i).blk = some b → (L j).blk = some b → i = j

theorem RowsIn.mono {E E' : Env} (h : Ext E E') {C : Array Value} {sz cap : Nat} {els : List (List GV)} (k : RowsIn E C sz cap els) : RowsIn E' C sz cap els :=
  ⟨k.1, k.2.1, fun i el hi => ⟨(k.2.2 i el hi).1, fun j a hj => let ⟨v, h1, h2⟩ := (k.2.2 i el hi).2 j a hj; ⟨v, h1, h2.mono h⟩⟩⟩
theorem CellsIn.mono {E E' : Env} (h : Ext E E') {C : Array Value} {cs : List AV} (k : CellsIn E C cs) : CellsIn E' C cs :=
  ⟨k.1, fun j a hj => let ⟨v, h1, h2, h3⟩ := k.2 j a hj; ⟨v, h1, h2.mono h, h3⟩⟩
theorem EntriesIn.mono {E E' : Env} (h : Ext E E') {es : List (GV × GV)} {en : Array MapEntry} (k : EntriesIn E es en) : EntriesIn E' es en :=
  ⟨k.1, fun j p e h1 h2 => ⟨(k.2 j p e h1 h2).1.mono h, (k.2 j p e h1 h2).2.mono h⟩⟩

/-- A live block lies in the world. -/
theorem HB.lt {E : Env} {id b : Nat} {k : Blk} (h : HB E id k) (hl : k.live = true) (hb : (E.L id).blk = some b) : b < E.w.heap.size := by
  have key : ∀ (b' : Nat) (o : Obj), E.w.heap[b']? = some o → b' < E.w.heap.size := fun b' o h => (Array.getElem?_eq_some_iff.1 h).1
  cases k with
  | cells cs => obtain ⟨_, b', T, C, h1, h2, _⟩ := h; rw [hb] at h1; cases h1; exact key _ _ h2
  | rows sz g els => obtain ⟨_, _, h⟩ := h; rw [hb] at h; obtain ⟨T, C, h2, _⟩ := h; exact key _ _ h2
  | fro sz g els => simp [Blk.live] at hl
  | map es => obtain ⟨_, b', en, ck, h1, h2, _⟩ := h; rw [hb] at h1; cases h1; exact key _ _ h2
  | pend => obtain ⟨_, _, h⟩ := h; rw [hb] at h; cases h
  | hid => exact h b hb

theorem Own.lt {w : World} {H : List Blk} {L : Nat → Lc} (h : HR w H L) {b : Nat} (hb : Own H L b) : b < w.heap.size := by
  obtain ⟨id, k, h1, h2, h3⟩ := hb
  exact (h.blk id k h1).lt h2 h3

/-- A block whose place has not changed is what it was. -/
theorem HB.mono {E E' : Env} (h : Ext E E') {id : Nat} {k : Blk} (hL : E'.L id = E.L id)
    (hb : k.live = true → ∀ b, (E.L id).blk = some b → E'.w.heap[b]? = E.w.heap[b]?) (hk : HB E id k) : HB E' id k := by
  cases k with
  | cells cs =>
    obtain ⟨h0, b, T, C, h1, h2, h3⟩ := hk
    exact ⟨by rw [hL]; exact h0, b, T, C, by rw [hL]; exact h1, by rw [hb rfl b h1]; exact h2, h3.mono h⟩
  | rows sz g els =>
    obtain ⟨h0, h1, h2⟩ := hk
    refine ⟨by rw [hL]; exact h0, ⟨by rw [hL]; exact h1.1, h1.2⟩, ?_⟩
    rw [hL]
    cases hq : (E.L id).blk with
    | none => rw [hq] at h2; exact h2
    | some b => rw [hq] at h2; obtain ⟨T, C, h3, h4⟩ := h2; exact ⟨T, C, by rw [hb rfl b hq]; exact h3, h4.mono h⟩
  | fro sz g els =>
    obtain ⟨h0, h1, h2⟩ := hk
    refine ⟨by rw [hL]; exact h0, h1, ?_⟩
    rw [hL]
    cases hq : (E.L id).blk with
    | none => rw [hq] at h2; exact h2
    | some b =>
      rw [hq] at h2; obtain ⟨h3, h4, T, C, fr, h5, h6⟩ := h2
      obtain ⟨k1, k2⟩ := h.keep b h3 h4
      exact ⟨Nat.lt_of_lt_of_le h3 h.size, k2, T, C, fr, by rw [k1]; exact h5, h6.mono h⟩
  | map es =>
    obtain ⟨h0, b, en, ck, h1, h2, h3⟩ := hk
    exact ⟨by rw [hL]; exact h0, b, en, ck, by rw [hL]; exact h1, by rw [hb rfl b h1]; exact h2, h3.mono h⟩
  | pend => rw [HB, hL]; exact hk
  | hid => intro b hb'; rw [hL] at hb'; exact Nat.lt_of_lt_of_le (hk b hb') h.size

end Go.AM
