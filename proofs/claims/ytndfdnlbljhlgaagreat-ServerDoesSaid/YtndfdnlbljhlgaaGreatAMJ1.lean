/- Part of the proof: the abstract machine, part 1. No conditions. -/
import Derived.OrdersHeld
import Derived.LoopN
import Derived.Laws.Rows
import Derived.Laws.Tables
import Derived.Laws.IdiomCopy
import Derived.Laws.Strings2
import Derived.Laws.StructEq
import Derived.Laws.Concat
import Derived.Laws.MakeOwn
import Derived.Laws.AppendOwn
import Derived.IntWalk
set_option linter.unusedSimpArgs false
set_option linter.unusedVariables false
namespace Go.AM
open Go
inductive GV where
 | bool (b:Bool)
 | int (k:IntKind) (n:Int)
 | str (s:List UInt8)
 | sl (sz:Nat) (els:List (List GV))
 | nsl | nptr | nmap | nfn | nif
 | fn (f:FuncId)
 | ifc (t:TypeId) (v:GV)
 deriving Inhabited
structure RD where
 key:Nat
 nt:Nat
 ps:Array Tmp
 assign:Code
 body:Code
 deriving Inhabited
inductive AV where
 | g (v:GV)
 | agg (cs:List AV)
 | tup (vs:List AV)
 | cp (cs:List GV)
 | ptr (id off:Nat)
 | ms (id gen sz off len:Nat)
 | rp (id gen sz i off:Nat)
 | fv (f:FuncId) (caps:List AV)
 | bv (f:FuncId) (first:List AV)
 | via (t:TypeId) (path:List FieldStep) (f:FuncId) (pointer:Bool)
 | ifa (t:TypeId) (v:AV)
 | mp (id:Nat)
 | yv (id:Nat)
 | yk (key:Nat)
 | any
 | undef
 deriving Inhabited
inductive Blk where
 | cells (cs:List AV)
 | bld (T:TypeId) (cs:List AV)
 | trow (T:TypeId) (sz gen:Nat) (els:List (List GV))
 | rows (sz gen:Nat) (els:List (List GV))
 | fro (sz gen:Nat) (els:List (List GV))
 | map (es:List (GV×Option GV))
 | map2 (es:List (List GV×Option GV))
 | lp (rd:RD) (t:List (Nat×AV)) (j:Option (Option Nat))
 | pend
 | hid
 deriving Inhabited
inductive Opd where
 | t (n:Nat)
 | c (v:AV)
 deriving Inhabited
inductive Z where
 | z (v:GV)
 | s (sz:Nat)
 deriving Inhabited
structure St where
 t:List (Nat×AV)
 m:List (Nat×Blk)
 o:List Blk
 deriving Inhabited
structure Res where
 r:AV
 m:List (Nat×Blk)
 o:List Blk
 deriving Inhabited
def look:List (Nat×AV)→Nat→Option AV
 | [],_=>none
 | (a,v)::t,i=>if a=i then some v else look t i
def keep (T:List (Nat×AV)):List Nat→List (Nat×AV)
 | []=>[]
 | i::l=>match look T i with
  | some v=>(i,v)::keep T l
  | none=>keep T l
def Ps:List (Nat×Blk)→Nat→Option Blk
 | [],_=>none
 | (a,v)::t,i=>if a=i then some v else Ps t i
def To:List (Nat×Blk)→Nat→Blk→List (Nat×Blk)
 | [],i,b=>[(i,b)]
 | (a,v)::t,i,b=>if a=i then (a,b)::t else (a,v)::To t i b
def Zv (h:List Blk):List (Nat×Blk)→List Blk
 | []=>h
 | (a,v)::t=>(Zv h t).set a v
def full (h:List Blk) (s:St):List Blk:=Zv h s.m++s.o
def Yp (h:List Blk) (s:St) (id:Nat):Option Blk :=
 if id<h.length then (match Ps s.m id with | some b=>some b | none=>h[id]?) else s.o[id - h.length]?
def setB (h:List Blk) (s:St) (id:Nat) (b:Blk):St :=
 if id<h.length then { s with m:=To s.m id b } else { s with o:=s.o.set (id - h.length) b }
def St.put (s:St):Option Nat→AV→St
 | some d,v=>{ s with t:=(d,v)::s.t }
 | none,_=>s
def val (s:St):Opd→Option AV
 | .t n=>look s.t n
 | .c v=>some v
def vals (s:St):List Opd→Option (List AV)
 | []=>some []
 | x::xs=>match val s x,vals s xs with
  | some v,some vs=>some (v::vs)
  | _,_=>none
def St.next (h:List Blk) (s:St):Nat:=h.length+s.o.length
def St.push (s:St) (b:Blk):St:={ s with o:=s.o++[b] }
def AV.cells:AV→List AV
 | .agg cs=>cs
 | v=>[v]
def AV.leaf:AV→Bool
 | .agg _ | .tup _ | .undef=>false
 | _=>true
def AV.cellsO:AV→Option (List AV)
 | .agg cs=>some cs
 | .tup _ | .undef=>none
 | v=>some [v]
def AV.ground:AV→Option GV
 | .g v=>some v
 | _=>none
def one (agg:Bool) (cs:List AV):Option AV :=
 if agg then some (.agg cs) else match cs with
  | [c]=>some c
  | _=>none
structure Lc where
 blk:Option Nat
 gen:Nat
 cap:Nat
 st:Bool
structure Env where
 w:World
 O:Nat→Prop
 L:Nat→Lc
 n:Nat
 V:Nat→Prop
inductive GR (E:Env):GV→Value→Prop
 | bool (b:Bool):GR E (.bool b) (.bool b)
 | int (k:IntKind) (n:Int):GR E (.int k n) (.int k n)
 | str (s:List UInt8):GR E (.str s) (.string ⟨s.toArray⟩)
 | sl {sz b o cap:Nat} {els:List (List GV)} (c:Nat→Nat→Value) (hcap:els.length≤cap) (hb:b<E.w.heap.size) (hO:¬E.O b)
   (hsz:∀(i:Nat) (el:List GV),els[i]? = some el→el.length=sz)
   (hc:∀(i:Nat) (el:List GV) (j:Nat) (a:GV),els[i]? = some el→el[j]? = some a→E.w.cell? ⟨b,o+i*sz+j,none⟩=some (c i j))
   (hg:∀(i:Nat) (el:List GV) (j:Nat) (a:GV),els[i]? = some el→el[j]? = some a→GR E a (c i j)) :
   GR E (.sl sz els) (.slice (some ⟨b,o,none⟩) els.length cap)
 | sl0 (sz:Nat) (a:Addr) (cap:Nat):GR E (.sl sz []) (.slice (some a) 0 cap)
 | nsl:GR E .nsl (.slice none 0 0)
 | nptr:GR E .nptr (.pointer none)
 | nmap:GR E .nmap (.map none)
 | nfn:GR E .nfn .nilFunc
 | nif:GR E .nif .nilIface
 | fn (f:FuncId):GR E (.fn f) (.func (.func f) #[] #[])
 | ifc (t:TypeId) {v:GV} {cv:Value} (h:GR E v cv):GR E (.ifc t v) (.iface t cv)
def Wb (lc:Lc) (sz off len:Nat) (v:Value):Prop :=
 match lc.blk with
 | none=>v = .slice none 0 0∧off=0∧len=0
 | some b=>∃a c,v = .slice (some a) len c∧off+c=lc.cap∧len≤c∧(a=⟨b,off*sz,none⟩∨c=0)
inductive AR (E:Env):AV→Value→Prop
 | g {v:GV} {cv:Value} (h:GR E v cv):AR E (.g v) cv
 | agg {cs:List AV} {C:Array Value} (hn:cs.length=C.size) (h:∀(j:Nat) (a:AV) (v:Value),cs[j]? = some a→C[j]? = some v→AR E a v)
   (h1:∀(j:Nat) (v:Value),C[j]? = some v→v.oneCell'=true):AR E (.agg cs) (.agg C)
 | tup {cs:List AV} {C:Array Value} (hn:cs.length=C.size) (h:∀(j:Nat) (a:AV) (v:Value),cs[j]? = some a→C[j]? = some v→AR E a v):AR E (.tup cs) (.tuple C)
 | cp {cs:List GV} {b o:Nat} (c:Nat→Value) (hb:b<E.w.heap.size) (hO:¬E.O b)
   (hc:∀(j:Nat) (a:GV),cs[j]? = some a→E.w.cell? ⟨b,o+j,none⟩=some (c j))
   (hg:∀(j:Nat) (a:GV),cs[j]? = some a→GR E a (c j)):AR E (.cp cs) (.pointer (some ⟨b,o,none⟩))
 | ptr {id off b:Nat} (hid:id<E.n) (hgen:(E.L id).st=true) (hb:(E.L id).blk=some b):AR E (.ptr id off) (.pointer (some ⟨b,off,none⟩))
 | ms {id gen sz off len:Nat} {v:Value} (hid:id<E.n) (h0:0<(E.L id).gen) (hle:gen≤(E.L id).gen)
   (h1:v.oneCell'=true) (h:gen=(E.L id).gen→Wb (E.L id) sz off len v) (hz:gen=(E.L id).gen→(gen=1↔(E.L id).blk=none)):AR E (.ms id gen sz off len) v
 | rp {id gen sz i off:Nat} {v:Value} (hid:id<E.n) (h0:0<(E.L id).gen) (hle:gen≤(E.L id).gen)
   (h1:v.oneCell'=true) (h:gen=(E.L id).gen→∃b,(E.L id).blk=some b∧v = .pointer (some ⟨b,i*sz+off,none⟩)):AR E (.rp id gen sz i off) v
 | fv {f:FuncId} {cs:List AV} {C:Array Value} (hn:cs.length=C.size) (h:∀(j:Nat) (a:AV) (v:Value),cs[j]? = some a→C[j]? = some v→AR E a v) :
   AR E (.fv f cs) (.func (.func f) #[] C)
 | bv {f:FuncId} {cs:List AV} {C:Array Value} (hn:cs.length=C.size) (h:∀(j:Nat) (a:AV) (v:Value),cs[j]? = some a→C[j]? = some v→AR E a v) :
   AR E (.bv f cs) (.func (.func f) C #[])
 | via (t:TypeId) (path:List FieldStep) (f:FuncId) (pointer:Bool):AR E (.via t path f pointer) (.func (.via t path.toArray f pointer) #[] #[])
 | ifa (t:TypeId) {v:AV} {cv:Value} (h:AR E v cv):AR E (.ifa t v) (.iface t cv)
 | mp {id b:Nat} (hid:id<E.n) (hgen:(E.L id).st=true) (hb:(E.L id).blk=some b):AR E (.mp id) (.map (some b))
 | yv {id b:Nat} (hid:id<E.n) (hgen:(E.L id).st=true) (hb:(E.L id).blk=some b):AR E (.yv id) (.func (.yield b) #[] #[])
 | any {v:Value} (h1:v.oneCell'=true):AR E .any v
 | undef:AR E .undef Go.undef
def Hx (v:Prop) (l l':Lc):Prop:=l'=l∨(v∧l.st=false∧l.gen<l'.gen)
structure Ext (E E':Env):Prop where
 os:E'.w.os=E.w.os
 tape:E'.w.tape=E.w.tape
 output:E'.w.output=E.w.output
 size:E.w.heap.size≤E'.w.heap.size
 keep:∀b,b<E.w.heap.size→¬E.O b→E'.w.heap[b]? = E.w.heap[b]?∧¬E'.O b
 le:E.n≤E'.n
 loc:∀id,id<E.n→Hx (E.V id) (E.L id) (E'.L id)
 lv:∀id,id<E.n→E'.V id→E.V id
theorem Hx.refl (v:Prop) (l:Lc):Hx v l l := .inl rfl
theorem Hx.trans {v v':Prop} {a b c:Lc} (h:Hx v a b) (k:Hx v' b c) (hv:v'→v):Hx v a c:=by
 rcases h with rfl | ⟨h0,h1,h2⟩
 ·rcases k with rfl | ⟨k0,k1,k2⟩
  ·exact .inl rfl
  ·exact .inr ⟨hv k0,k1,k2⟩
 ·rcases k with rfl | ⟨k0,k1,k2⟩
  ·exact .inr ⟨h0,h1,h2⟩
  ·exact .inr ⟨h0,h1,Nat.lt_trans h2 k2⟩
theorem Ext.refl (E:Env):Ext E E:=⟨rfl,rfl,rfl,Nat.le_refl _,fun _ _ h=>⟨rfl,h⟩,Nat.le_refl _,fun _ _ => .refl _ _,fun _ _ h=>h⟩
theorem Ext.trans {A B C:Env} (h:Ext A B) (k:Ext B C):Ext A C where
 os:=k.os.trans h.os
 tape:=k.tape.trans h.tape
 output:=k.output.trans h.output
 size:=Nat.le_trans h.size k.size
 keep b hb hO:=by
  obtain ⟨h1,h2⟩:=h.keep b hb hO
  obtain ⟨k1,k2⟩:=k.keep b (Nat.lt_of_lt_of_le hb h.size) h2
  exact ⟨k1.trans h1,k2⟩
 le:=Nat.le_trans h.le k.le
 loc id hid:=(h.loc id hid).trans (k.loc id (Nat.lt_of_lt_of_le hid h.le)) (h.lv id hid)
 lv id hid hv:=h.lv id hid (k.lv id (Nat.lt_of_lt_of_le hid h.le) hv)
theorem Ext.cell {E E':Env} (h:Ext E E') {b:Nat} (hb:b<E.w.heap.size) (hO:¬E.O b) (o:Nat):E'.w.cell? ⟨b,o,none⟩=E.w.cell? ⟨b,o,none⟩:=by
 simp [World.cell?,(h.keep b hb hO).1]
theorem GR.mono {E E':Env} (h:Ext E E') {v:GV} {cv:Value} (hv:GR E v cv):GR E' v cv:=by
 induction hv with
 | bool b=>exact .bool b
 | int k n=>exact .int k n
 | str s=>exact .str s
 | sl c hcap hb hO hsz hc hg ih =>
  refine .sl c hcap (Nat.lt_of_lt_of_le hb h.size) (h.keep _ hb hO).2 hsz (fun i el j a h1 h2 => ?_) ih
  rw [h.cell hb hO];exact hc i el j a h1 h2
 | sl0 sz a cap=>exact .sl0 sz a cap
 | nsl=>exact .nsl
 | nptr=>exact .nptr
 | nmap=>exact .nmap
 | nfn=>exact .nfn
 | nif=>exact .nif
 | fn f=>exact .fn f
 | ifc t _ ih=>exact .ifc t ih
theorem Hx.gen0 {v:Prop} {l l':Lc} (h:Hx v l l') (h0:l.st=true):l'=l:=by
 rcases h with h | ⟨_,h1,_⟩
 ·exact h
 ·rw [h0] at h1;cases h1
theorem AR.mono {E E':Env} (h:Ext E E') {v:AV} {cv:Value} (hv:AR E v cv):AR E' v cv:=by
 induction hv with
 | g hg=>exact .g (hg.mono h)
 | agg hn _ h1 ih=>exact .agg hn ih h1
 | tup hn _ ih=>exact .tup hn ih
 | cp c hb hO hc hg =>
  refine .cp c (Nat.lt_of_lt_of_le hb h.size) (h.keep _ hb hO).2 (fun j a h1 => ?_) fun j a h1=>(hg j a h1).mono h
  rw [h.cell hb hO];exact hc j a h1
 | ptr hid hgen hb =>
  have e:=(h.loc _ hid).gen0 hgen
  exact .ptr (Nat.lt_of_lt_of_le hid h.le) (by rw [e];exact hgen) (by rw [e];exact hb)
 | ms hid h0 hle h1 hm hz =>
  rcases h.loc _ hid with e | ⟨_,e1,e2⟩
  ·exact .ms (Nat.lt_of_lt_of_le hid h.le) (by rw [e];exact h0) (by rw [e];exact hle) h1 (by rw [e];exact hm) (by rw [e];exact hz)
  ·exact .ms (Nat.lt_of_lt_of_le hid h.le) (by omega) (by omega) h1 (fun e=>by omega) (fun e=>by omega)
 | rp hid h0 hle h1 hm =>
  rcases h.loc _ hid with e | ⟨_,e1,e2⟩
  ·exact .rp (Nat.lt_of_lt_of_le hid h.le) (by rw [e];exact h0) (by rw [e];exact hle) h1 (by rw [e];exact hm)
  ·exact .rp (Nat.lt_of_lt_of_le hid h.le) (by omega) (by omega) h1 (fun e=>by omega)
 | fv hn _ ih=>exact .fv hn ih
 | bv hn _ ih=>exact .bv hn ih
 | via t p f q=>exact .via t p f q
 | ifa t _ ih=>exact .ifa t ih
 | mp hid hgen hb =>
  have e:=(h.loc _ hid).gen0 hgen
  exact .mp (Nat.lt_of_lt_of_le hid h.le) (by rw [e];exact hgen) (by rw [e];exact hb)
 | yv hid hgen hb =>
  have e:=(h.loc _ hid).gen0 hgen
  exact .yv (Nat.lt_of_lt_of_le hid h.le) (by rw [e];exact hgen) (by rw [e];exact hb)
 | any h1=>exact .any h1
 | undef=>exact .undef
theorem GR.one {E:Env} {v:GV} {cv:Value} (h:GR E v cv):cv.oneCell'=true:=by cases h <;> rfl
theorem AR.one {E:Env} {v:AV} {cv:Value} (h:AR E v cv) (hl:v.leaf=true):cv.oneCell'=true:=by
 cases h <;> first | rfl | assumption | (simp [AV.leaf] at hl;done) | (exact GR.one (by assumption))
def Blk.live:Blk→Bool
 | .cells _ | .bld .. | .rows .. | .trow .. | .map _ | .map2 _ | .lp .. | .pend | .hid=>true
 | .fro .. => false
def RowsIn (E:Env) (C:Array Value) (sz cap:Nat) (els:List (List GV)):Prop :=
 C.size=cap*sz∧els.length≤cap∧∀(i:Nat) (el:List GV),els[i]? = some el→el.length=sz ∧
  ∀(j:Nat) (a:GV),el[j]? = some a→∃v,C[i*sz+j]? = some v∧GR E a v
def Rv (E:Env) (C:Array Value) (cs:List AV):Prop :=
 C.size=cs.length∧∀(j:Nat) (a:AV),cs[j]? = some a→∃v,C[j]? = some v∧AR E a v∧v.oneCell'=true
def VR (E:Env):Option GV→Value→Prop
 | some g,c=>GR E g c
 | none,c=>c = .agg #[]
def S5 (E:Env) (es:List (GV×Option GV)) (en:Array MapEntry):Prop :=
 es.length=en.size∧∀(j:Nat) (p:GV×Option GV) (e:MapEntry),es[j]? = some p→en[j]? = some e→GR E p.1 e.key∧VR E p.2 e.val
theorem VR.mono {E E':Env} (h:Ext E E') {g:Option GV} {c:Value} (k:VR E g c):VR E' g c:=by
 cases g with
 | none=>exact k
 | some g=>exact GR.mono h k
def Sm (en:Array MapEntry) (ck:Nat):Prop:=(∀x∈en.toList,x.born<ck)∧(en.toList.map (·.born)).Nodup
theorem Sm.empty (ck:Nat):Sm #[] ck:=⟨fun x hx=>by simp at hx,by simp⟩
theorem Sm.push {en:Array MapEntry} {ck:Nat} (h:Sm en ck) (k v:Value):Sm (en.push ⟨k,v,ck⟩) (ck+1):=by
 refine ⟨fun x hx => ?_,?_⟩
 ·rw [Array.toList_push,List.mem_append] at hx
  rcases hx with hx | hx
  ·have:=h.1 x hx;omega
  ·simp at hx;subst hx;exact Nat.lt_succ_self _
 ·rw [Array.toList_push,List.map_append,List.nodup_append]
  refine ⟨h.2,by simp,fun a ha b hb e => ?_⟩
  simp at hb
  subst e
  obtain ⟨x,hx,hx2⟩:=List.mem_map.1 ha
  have:=h.1 x hx
  omega
theorem Sm.modify {en:Array MapEntry} {ck:Nat} (h:Sm en ck) (i:Nat) (k v:Value):Sm (en.modify i fun e=>{ e with key:=k,val:=v }) ck:=by
 have e:((en.modify i fun e=>{ e with key:=k,val:=v }).toList.map (·.born))=en.toList.map (·.born):=by
  apply List.ext_getElem?
  intro j
  simp only [List.getElem?_map,Array.getElem?_toList,Array.getElem?_modify]
  split
  ·cases en[j]? <;> rfl
  ·rfl
 refine ⟨fun x hx => ?_,by rw [e];exact h.2⟩
 have:x.born∈en.toList.map (·.born):=by rw [←e];exact List.mem_map.2 ⟨x,hx,rfl⟩
 obtain ⟨y,hy,hyb⟩:=List.mem_map.1 this
 rw [←hyb];exact h.1 y hy
def KR2 (E:Env) (ks:List GV) (c:Value):Prop:=AR E (.agg (ks.map .g)) c
def Ts (E:Env) (es:List (List GV×Option GV)) (en:Array MapEntry):Prop :=
 es.length=en.size∧∀(j:Nat) (p:List GV×Option GV) (e:MapEntry),es[j]? = some p→en[j]? = some e→KR2 E p.1 e.key∧VR E p.2 e.val
def Pt:Option Nat→Code
 | none => .ret
 | some id => .exit id
def Bv (E:Env) (rd:RD) (t:List (Nat×AV)) (j:Option (Option Nat)) (r:Loop):Prop :=
 r.params=rd.ps∧r.assign=rd.assign∧r.body=rd.body∧r.tmps.size=rd.nt∧(match j with
  | none=>r.state = .ready∧r.pending=none
  | some x=>r.state = .done∧r.pending=some (Pt x))∧∀(i:Nat) (v:AV),look t i=some v→AR E v (r.tmps.getD i Go.undef)
def HB (E:Env) (id:Nat):Blk→Prop
 | .cells cs=>(E.L id).st=true∧∃b T C,(E.L id).blk=some b∧E.w.heap[b]? = some (.cells C T (0,0))∧Rv E C cs
 | .bld T cs=>(E.L id).st=true∧∃b C,(E.L id).blk=some b∧E.w.heap[b]? = some (.cells C T (0,0))∧Rv E C cs
 | .rows sz g els=>(E.L id).gen=g∧((E.L id).st=false∧0<g)∧match (E.L id).blk with
  | none=>els=[]∧(E.L id).cap=0
  | some b=>∃T C,E.w.heap[b]? = some (.cells C T (0,0))∧RowsIn E C sz (E.L id).cap els
 | .trow T sz g els=>(E.L id).gen=g∧((E.L id).st=false∧0<g)∧match (E.L id).blk with
  | none=>els=[]∧(E.L id).cap=0
  | some b=>∃C,E.w.heap[b]? = some (.cells C T (0,0))∧RowsIn E C sz (E.L id).cap els
 | .fro sz g els=>(E.L id).gen=g∧0<g∧match (E.L id).blk with
  | none=>els=[]∧(E.L id).cap=0
  | some b=>b<E.w.heap.size∧¬E.O b∧∃T C fr,E.w.heap[b]? = some (.cells C T fr)∧RowsIn E C sz (E.L id).cap els
 | .map es=>(E.L id).st=true∧∃b en ck,(E.L id).blk=some b∧E.w.heap[b]? = some (.map en ck)∧S5 E es en∧Sm en ck
 | .map2 es=>(E.L id).st=true∧∃b en ck,(E.L id).blk=some b∧E.w.heap[b]? = some (.map en ck)∧Ts E es en
 | .lp rd t j=>(E.L id).st=true∧∃b r,(E.L id).blk=some b∧E.w.heap[b]? = some (.loop r)∧Bv E rd t j r
 | .pend=>(E.L id).st=false∧(E.L id).gen=0∧(E.L id).blk=none
 | .hid=>∀b,(E.L id).blk=some b→b<E.w.heap.size
def Own (H:List Blk) (L:Nat→Lc) (b:Nat):Prop:=∃id blk,H[id]? = some blk∧blk.live=true∧(L id).blk=some b
def Live (H:List Blk) (id:Nat):Prop:=∃blk,H[id]? = some blk∧blk.live=true
def Zc (w:World) (H:List Blk) (L:Nat→Lc):Env:=⟨w,Own H L,L,H.length,Live H⟩
structure HR (w:World) (H:List Blk) (L:Nat→Lc):Prop where
 blk:∀(id:Nat) (k:Blk),H[id]? = some k→HB (Zc w H L) id k
 inj:∀(i j b:Nat) (x y:Blk),H[i]? = some x→H[j]? = some y→x.live=true→y.live=true→(L i).blk=some b→(L j).blk=some b→i=j
theorem RowsIn.mono {E E':Env} (h:Ext E E') {C:Array Value} {sz cap:Nat} {els:List (List GV)} (k:RowsIn E C sz cap els):RowsIn E' C sz cap els :=
 ⟨k.1,k.2.1,fun i el hi=>⟨(k.2.2 i el hi).1,fun j a hj=>let ⟨v,h1,h2⟩:=(k.2.2 i el hi).2 j a hj;⟨v,h1,h2.mono h⟩⟩⟩
theorem Rv.mono {E E':Env} (h:Ext E E') {C:Array Value} {cs:List AV} (k:Rv E C cs):Rv E' C cs :=
 ⟨k.1,fun j a hj=>let ⟨v,h1,h2,h3⟩:=k.2 j a hj;⟨v,h1,h2.mono h,h3⟩⟩
theorem S5.mono {E E':Env} (h:Ext E E') {es:List (GV×Option GV)} {en:Array MapEntry} (k:S5 E es en):S5 E' es en :=
 ⟨k.1,fun j p e h1 h2=>⟨(k.2 j p e h1 h2).1.mono h,(k.2 j p e h1 h2).2.mono h⟩⟩
theorem Ts.mono {E E':Env} (h:Ext E E') {es:List (List GV×Option GV)} {en:Array MapEntry} (k:Ts E es en):Ts E' es en :=
 ⟨k.1,fun j p e h1 h2=>⟨AR.mono h (k.2 j p e h1 h2).1,(k.2 j p e h1 h2).2.mono h⟩⟩
theorem Bv.mono {E E':Env} (h:Ext E E') {rd:RD} {t:List (Nat×AV)} {j:Option (Option Nat)} {r:Loop} (k:Bv E rd t j r):Bv E' rd t j r :=
 ⟨k.1,k.2.1,k.2.2.1,k.2.2.2.1,k.2.2.2.2.1,fun i v hi=>(k.2.2.2.2.2 i v hi).mono h⟩
theorem HB.asCells {E:Env} {id:Nat} {T:TypeId} {cs:List AV} (h:HB E id (.bld T cs)):HB E id (.cells cs):=by
 obtain ⟨h0,b,C,h1,h2,h3⟩:=h
 exact ⟨h0,b,T,C,h1,h2,h3⟩
theorem HB.lt {E:Env} {id b:Nat} {k:Blk} (h:HB E id k) (hl:k.live=true) (hb:(E.L id).blk=some b):b<E.w.heap.size:=by
 have key:∀(b':Nat) (o:Obj),E.w.heap[b']? = some o→b' < E.w.heap.size:=fun b' o h=>(Array.getElem?_eq_some_iff.1 h).1
 cases k with
 | cells cs=>obtain ⟨_,b',T,C,h1,h2,_⟩:=h;rw [hb] at h1;cases h1;exact key _ _ h2
 | bld T cs=>obtain ⟨_,b',C,h1,h2,_⟩:=h;rw [hb] at h1;cases h1;exact key _ _ h2
 | rows sz g els=>obtain ⟨_,_,h⟩:=h;rw [hb] at h;obtain ⟨T,C,h2,_⟩:=h;exact key _ _ h2
 | trow T sz g els=>obtain ⟨_,_,h⟩:=h;rw [hb] at h;obtain ⟨C,h2,_⟩:=h;exact key _ _ h2
 | fro sz g els=>simp [Blk.live] at hl
 | map es=>obtain ⟨_,b',en,ck,h1,h2,_⟩:=h;rw [hb] at h1;cases h1;exact key _ _ h2
 | map2 es=>obtain ⟨_,b',en,ck,h1,h2,_⟩:=h;rw [hb] at h1;cases h1;exact key _ _ h2
 | lp rd t j=>obtain ⟨_,b',r,h1,h2,_⟩:=h;rw [hb] at h1;cases h1;exact key _ _ h2
 | pend=>obtain ⟨_,_,h⟩:=h;rw [hb] at h;cases h
 | hid=>exact h b hb
theorem Own.lt {w:World} {H:List Blk} {L:Nat→Lc} (h:HR w H L) {b:Nat} (hb:Own H L b):b<w.heap.size:=by
 obtain ⟨id,k,h1,h2,h3⟩:=hb
 exact (h.blk id k h1).lt h2 h3
theorem HB.mono {E E':Env} (h:Ext E E') {id:Nat} {k:Blk} (hL:E'.L id=E.L id)
  (hb:k.live=true→∀b,(E.L id).blk=some b→E'.w.heap[b]? = E.w.heap[b]?) (hk:HB E id k):HB E' id k:=by
 cases k with
 | cells cs =>
  obtain ⟨h0,b,T,C,h1,h2,h3⟩:=hk
  exact ⟨by rw [hL];exact h0,b,T,C,by rw [hL];exact h1,by rw [hb rfl b h1];exact h2,h3.mono h⟩
 | rows sz g els =>
  obtain ⟨h0,h1,h2⟩:=hk
  refine ⟨by rw [hL];exact h0,⟨by rw [hL];exact h1.1,h1.2⟩,?_⟩
  rw [hL]
  cases hq:(E.L id).blk with
  | none=>rw [hq] at h2;exact h2
  | some b=>rw [hq] at h2;obtain ⟨T,C,h3,h4⟩:=h2;exact ⟨T,C,by rw [hb rfl b hq];exact h3,h4.mono h⟩
 | bld T cs =>
  obtain ⟨h0,b,C,h1,h2,h3⟩:=hk
  exact ⟨by rw [hL];exact h0,b,C,by rw [hL];exact h1,by rw [hb rfl b h1];exact h2,h3.mono h⟩
 | trow T sz g els =>
  obtain ⟨h0,h1,h2⟩:=hk
  refine ⟨by rw [hL];exact h0,⟨by rw [hL];exact h1.1,h1.2⟩,?_⟩
  rw [hL]
  cases hq:(E.L id).blk with
  | none=>rw [hq] at h2;exact h2
  | some b=>rw [hq] at h2;obtain ⟨C,h3,h4⟩:=h2;exact ⟨C,by rw [hb rfl b hq];exact h3,h4.mono h⟩
 | fro sz g els =>
  obtain ⟨h0,h1,h2⟩:=hk
  refine ⟨by rw [hL];exact h0,h1,?_⟩
  rw [hL]
  cases hq:(E.L id).blk with
  | none=>rw [hq] at h2;exact h2
  | some b =>
   rw [hq] at h2;obtain ⟨h3,h4,T,C,fr,h5,h6⟩:=h2
   obtain ⟨k1,k2⟩:=h.keep b h3 h4
   exact ⟨Nat.lt_of_lt_of_le h3 h.size,k2,T,C,fr,by rw [k1];exact h5,h6.mono h⟩
 | map es =>
  obtain ⟨h0,b,en,ck,h1,h2,h3,h4⟩:=hk
  exact ⟨by rw [hL];exact h0,b,en,ck,by rw [hL];exact h1,by rw [hb rfl b h1];exact h2,h3.mono h,h4⟩
 | map2 es =>
  obtain ⟨h0,b,en,ck,h1,h2,h3⟩:=hk
  exact ⟨by rw [hL];exact h0,b,en,ck,by rw [hL];exact h1,by rw [hb rfl b h1];exact h2,h3.mono h⟩
 | lp rd t j =>
  obtain ⟨h0,b,r,h1,h2,h3⟩:=hk
  exact ⟨by rw [hL];exact h0,b,r,by rw [hL];exact h1,by rw [hb rfl b h1];exact h2,h3.mono h⟩
 | pend=>rw [HB,hL];exact hk
 | hid=>intro b hb';rw [hL] at hb';exact Nat.lt_of_lt_of_le (hk b hb') h.size
inductive LK where
 | b | i | s
 deriving Inhabited,DecidableEq
inductive AOp where
 | mov (x:Opd)
 | pick (c a b:Opd)
 | bin (op:BinOp) (x y:Opd)
 | eqs (neq agg:Bool) (ks:List LK) (x y:Opd)
 | isnil (neq:Bool) (kd:Nat) (x:Opd)
 | isnilS (neq:Bool) (x:Opd)
 | un (op:UnOp) (x:Opd)
 | conv (k:IntKind) (x:Opd)
 | convId (x:Opd)
 | convBS (x:Opd)
 | field (agg:Bool) (off n:Nat) (x:Opd)
 | faddr (off:Nat) (p:Opd)
 | iaddr (sz:Nat) (x i:Opd)
 | iaddrA (len sz:Nat) (p i:Opd)
 | index (x i:Opd)
 | indexA (agg:Bool) (len sz:Nat) (x i:Opd)
 | load (agg:Bool) (n:Nat) (p:Opd)
 | ext (j:Nat) (x:Opd)
 | len (x:Opd)
 | lenS (x:Opd)
 | cap (x:Opd)
 | mx (x:Opd) (xs:List Opd)
 | mn (x:Opd) (xs:List Opd)
 | build (z:List AV) (ps:List (Nat×Nat×Opd))
 | slc (sz:Nat) (x:Opd) (lo hi:Option Opd)
 | slc3 (sz:Nat) (x:Opd) (lo hi mx:Option Opd)
 | slcS (x:Opd) (lo hi:Option Opd)
 | mkif (t:TypeId) (x:Opd)
 | mkfn (f:FuncId) (caps:List Opd)
 | mkbv (f:FuncId) (first:List Opd)
 | mkvia (t:TypeId) (path:List FieldStep) (f:FuncId) (pointer:Bool)
 | nilchk (x:Opd)
 | nres (sz:Nat)
 | mk0 (sz:Nat)
 | alloc (z:List Z)
 | allocAt (k:Nat) (z:List Z)
 | allocT (T e:TypeId) (z:List Z)
 | box (x:Opd)
 | bslice (sz len:Nat) (z:List GV) (ps:List (Nat×Nat×Opd))
 | store (n:Nat) (p x:Opd)
 | mk (sz bytes:Nat) (z:List GV) (len cap:Opd)
 | app (sz bytes:Nat) (x y:Opd)
 | appS (x y:Opd)
 | appZ (sz bytes:Nat) (z:List GV) (x n:Opd)
 | clear (z:List GV) (x:Opd)
 | convSB (x:Opd)
 | toU (x:Opd)
 | fromU (ts:List (TypeId×Nat)) (x:Opd)
 | sdata (x:Opd)
 | ustr (e:TypeId) (p n:Opd)
 | neqp (x y:Opd)
 | mkmap
 | mget (comma:Bool) (kk:LK) (z:Option GV) (x k:Opd)
 | mset (kk:LK) (x k v:Opd)
 | appT (e:TypeId) (x y:Opd)
 | mkmap2
 | mget2 (comma:Bool) (ks:List LK) (z:Option GV) (x k:Opd)
 | mset2 (ks:List LK) (x k v:Opd)
 | ycall (f:Opd) (xs:List Opd)
 | call (f:Opd) (xs:List Opd)
 | row (k:Nat) (xs:List Opd)
 deriving Inhabited
structure Z0 where
 d:Option Nat
 gd:Option (Nat×Bool)
 op:AOp
 deriving Inhabited
inductive Vv where
 | leaf
 | take (o:Z0) (t:Vv)
 | one (o:Z0) (t:Vv)
 | alt (o:Z0) (t r:Vv)
 | free (t:Vv)
 | hold (ts:List Nat) (t:Vv)
 deriving Inhabited
inductive Ex where
 | normal
 | exit (id:Nat)
 | ret
 deriving Inhabited,DecidableEq
inductive IC where
 | skip
 | reg (lv:List Nat) (ops:List Z0)
 | drw (lv:List Nat) (nb:Nat) (t:Vv)
 | seq (a b:IC)
 | cond (lv:List Nat) (c:Opd) (a b:IC)
 | block (lv:List Nat) (id:Nat) (c:IC)
 | loop (lv lv2:List Nat) (c:IC)
 | regy (lv:List Nat) (ops:List Z0)
 | rfun (lv:List Nat) (rd:RD) (lt:List Nat) (f:Opd)
 | exit (id:Nat)
 | ret
 deriving Inhabited
inductive RV where
 | tmp (t:Nat)
 | cell (t:Nat) (agg:Bool) (n:Nat)
 deriving Inhabited
structure Zg where
 np:Nat
 nt:Nat
 rs:List RV
 esc:Bool
 body:IC
 deriving Inhabited
def Pu (op:BinOp) (k:IntKind) (a b:Int):Option GV :=
 match op with
 | .add=>some (.int k (k.wrap (a+b)))
 | .sub=>some (.int k (k.wrap (a - b)))
 | .mul=>some (.int k (k.wrap (a*b)))
 | .quo=>if b=0 then none else some (.int k (k.wrap (a.tdiv b)))
 | .rem=>if b=0 then none else some (.int k (a.tmod b))
 | .and=>some (.int k (k.wrap (BitVec.ofInt k.bits a &&& BitVec.ofInt k.bits b).toNat))
 | .or=>some (.int k (k.wrap (BitVec.ofInt k.bits a ||| BitVec.ofInt k.bits b).toNat))
 | .xor=>some (.int k (k.wrap (BitVec.ofInt k.bits a ^^^ BitVec.ofInt k.bits b).toNat))
 | .andNot=>some (.int k (k.wrap (BitVec.ofInt k.bits a &&& ~~~ BitVec.ofInt k.bits b).toNat))
 | .eql=>some (.bool (a==b))
 | .neq=>some (.bool (a != b))
 | .lss=>some (.bool (decide (a<b)))
 | .leq=>some (.bool (decide (a≤b)))
 | .gtr=>some (.bool (decide (a > b)))
 | .geq=>some (.bool (decide (a≥b)))
 | _=>none
def O7 (op:BinOp) (k:IntKind) (a b:Int):Option GV :=
 if b<0 then none else match op with
 | .shl=>some (.int k (k.wrap (a*2 ^ (min b.toNat k.bits))))
 | .shr=>some (.int k (a.fdiv (2 ^ (min b.toNat k.bits))))
 | _=>none
def J9 (op:BinOp) (a b:List UInt8):Option GV :=
 match op with
 | .add=>if a.length+b.length≤9223372036854775807 then some (.str (a++b)) else none
 | .eql=>some (.bool (a==b))
 | .neq=>some (.bool (!(a==b)))
 | .lss=>some (.bool (Op.bytesLess a b))
 | .leq=>some (.bool (Op.bytesLess a b||a==b))
 | .gtr=>some (.bool (!(Op.bytesLess a b||a==b)))
 | .geq=>some (.bool (!(Op.bytesLess a b)))
 | _=>none
def Uc (op:BinOp) (x y:AV):Option AV :=
 match x,y with
 | .g (.int k a),.g (.int k' b)=>match op with
  | .shl=>(O7 .shl k a b).map .g
  | .shr=>(O7 .shr k a b).map .g
  | _=>if k=k' then (Pu op k a b).map .g else none
 | .g (.str a),.g (.str b)=>(J9 op a b).map .g
 | _,_=>none
def isNil:Nat→AV→Option Bool
 | 0,.g .nptr | 1,.g .nif | 2,.g .nfn | 3,.g .nmap=>some true
 | 0,.ptr .. | 0,.cp _ | 1,.g (.ifc ..) | 1,.ifa .. | 2,.g (.fn _) | 2,.fv .. | 2,.bv .. | 2,.via .. | 3,.mp _=>some false
 | _,_=>none
def eqG:LK→GV→GV→Option Bool
 | .b,.bool a,.bool b=>some (a==b)
 | .i,.int k a,.int k' b=>if k=k' then some (a==b) else none
 | .s,.str a,.str b=>some (a==b)
 | _,_,_=>none
def eqL:List LK→List AV→List AV→Option Bool
 | [],[],[]=>some true
 | k::ks,.g a::as,.g b::bs=>match eqG k a b,eqL ks as bs with
  | some x,some y=>some (x&&y)
  | _,_=>none
 | _,_,_=>none
def eqV (agg:Bool) (ks:List LK) (x y:AV):Option Bool :=
 match agg,x,y with
 | true,.agg as,.agg bs=>eqL ks as bs
 | false,.g a,.g b=>eqL ks [.g a] [.g b]
 | _,_,_=>none
def Y2:AV→Option Int
 | .g (.int _ n)=>some n
 | _=>none
def bnd (s:St) (d:Nat):Option Opd→Option Int
 | none=>some d
 | some x=>match val s x with
  | some v=>Y2 v
  | none=>none
def Xd (s:St) (n:Nat) (lo hi:Option Opd):Option (Nat×Nat) :=
 match bnd s 0 lo,bnd s n hi with
 | some l,some h=>if 0≤l∧l≤h∧h≤n then some (l.toNat,h.toNat) else none
 | _,_=>none
def Ha (cs:List AV) (off n:Nat) (vs:List AV):Option (List AV) :=
 if vs.length=n∧off+n≤cs.length then some (cs.take off++vs++cs.drop (off+n)) else none
def Ur (s:St) (cs:List AV):List (Nat×Nat×Opd)→Option (List AV)
 | []=>some cs
 | (off,n,x)::r=>match val s x with
  | some v=>match v.cellsO with
   | some vs=>match Ha cs off n vs with
    | some cs'=>Ur s cs' r
    | none=>none
   | none=>none
  | none=>none
def Xq:List AV→Option (List GV)
 | []=>some []
 | .g v::r=>match Xq r with
  | some vs=>some (v::vs)
  | none=>none
 | _=>none
def Zx {α:Type} (sz:Nat):Nat→List α→List (List α)
 | 0,_=>[]
 | n+1,l=>l.take sz::Zx sz n (l.drop sz)
def mx2 (x y:AV):Option AV :=
 match x,y with
 | .g (.int k a),.g (.int _ b)=>some (.g (.int k (if b > a then b else a)))
 | _,_=>none
def mn2 (x y:AV):Option AV :=
 match x,y with
 | .g (.int k a),.g (.int _ b)=>some (.g (.int k (if b<a then b else a)))
 | _,_=>none
def Pv (f:AV→AV→Option AV):Option AV→List AV→Option AV
 | a,[]=>a
 | some a,x::xs=>Pv f (f a x) xs
 | none,_=>none
def cur (h:List Blk) (s:St) (id g:Nat):Bool :=
 match Yp h s id with
 | some (.rows _ g' _)=>g==g'
 | some (.fro _ g' _)=>g==g'
 | some (.trow _ _ g' _)=>g==g'
 | _=>false
def X4 (h:List Blk) (s:St):AV→Option Nat
 | .g (.sl _ els)=>some els.length
 | .g .nsl=>some 0
 | .ms id g _ _ n=>if cur h s id g=true then some n else none
 | _=>none
def rowLen (h:List Blk) (s:St) (id g:Nat):Option Nat :=
 match Yp h s id with
 | some (.rows _ g' els)=>if g=g' then some els.length else none
 | _=>none
def Zfc (h:List Blk) (s:St) (id g sz off:Nat) (lo:Option Opd):Option Opd→Option (AV×List Nat)
 | some hi=>match rowLen h s id g with
  | some n=>if off≤n then match Xd s (n - off) lo (some hi) with
    | some (l,u)=>some (.ms id g sz (off+l) (u - l),[])
    | none=>none
   else none
  | none=>none
 | none=>none
def Za6 (h:List Blk) (s:St) (k:Nat) (lo hi:Opd):AV→AV→Option (AV×List Nat)
 | .ms id g sz _ len,.g (.int _ m)=>if k=sz∧cur h s id g=true∧0≤m∧m≤len then match Xd s m.toNat (some lo) (some hi) with
   | some _=>some (.any,[])
   | none=>none
  else none
 | _,_=>none
def sub (agg:Bool) (n:Nat) (cs:List AV):Option AV:=if cs.length=n then one agg cs else none
def R6 (h:List Blk) (s:St):AV→Option Bool
 | .g .nsl=>some true
 | .g (.sl _ _)=>some false
 | .ms id g _ _ _=>if cur h s id g=true then some (g==1) else none
 | _=>none
def evP (h:List Blk) (s:St):AOp→Option (AV×List Nat)
 | .mov x=>(val s x).map (·,[])
 | .pick c a b=>match val s c with
  | some (.g (.bool x))=>if x=true then (val s a).map (·,[]) else (val s b).map (·,[])
  | _=>none
 | .bin op x y=>match val s x,val s y with
  | some a,some b=>(Uc op a b).map (·,[])
  | _,_=>none
 | .eqs neq ag ks x y=>match val s x,val s y with
  | some a,some b=>match eqV ag ks a b with
   | some r=>some (.g (.bool (if neq then !r else r)),[])
   | none=>none
  | _,_=>none
 | .isnil neq kd x=>match val s x with
  | some v=>match isNil kd v with
   | some r=>some (.g (.bool (if neq then !r else r)),[])
   | none=>none
  | none=>none
 | .isnilS neq x=>match val s x with
  | some v=>match R6 h s v with
   | some r=>some (.g (.bool (if neq then !r else r)),[])
   | none=>none
  | none=>none
 | .un op x=>match op,val s x with
  | .not,some (.g (.bool b))=>some (.g (.bool (!b)),[])
  | .neg,some (.g (.int k n))=>some (.g (.int k (k.wrap (-n))),[])
  | _,_=>none
 | .conv k x=>match val s x with
  | some (.g (.int _ n))=>some (.g (.int k (k.wrap n)),[])
  | _=>none
 | .convId x=>match val s x with
  | some (.g (.str b))=>some (.g (.str b),[])
  | _=>none
 | .field agg off n x=>match val s x with
  | some (.agg cs)=>(sub agg n ((cs.drop off).take n)).map (·,[])
  | _=>none
 | .faddr off p=>match val s p with
  | some (.ptr id o)=>some (.ptr id (o+off),[])
  | some (.cp cs)=>some (.cp (cs.drop off),[])
  | some (.rp id g sz i o)=>if cur h s id g=true then some (.rp id g sz i (o+off),[]) else none
  | _=>none
 | .iaddr sz x i=>match val s x,val s i with
  | some (.g (.sl sz' els)),some (.g (.int _ n))=>if sz=sz'∧0≤n then match els[n.toNat]? with
    | some el=>some (.cp el,[])
    | none=>none
   else none
  | some (.ms id g sz' off len),some (.g (.int _ n))=>if sz=sz'∧0≤n∧n<len∧cur h s id g=true then some (.rp id g sz (off+n.toNat) 0,[]) else none
  | _,_=>none
 | .iaddrA len sz p i=>match val s p,val s i with
  | some (.ptr id o),some (.g (.int _ n))=>if 0≤n∧n<len then some (.ptr id (o+n.toNat*sz),[]) else none
  | some (.cp cs),some (.g (.int _ n))=>if 0≤n∧n<len then some (.cp (cs.drop (n.toNat*sz)),[]) else none
  | _,_=>none
 | .index x i=>match val s x,val s i with
  | some (.g (.str b)),some (.g (.int _ n))=>if 0≤n then match b[n.toNat]? with
    | some c=>some (.g (.int .u8 c.toNat),[])
    | none=>none
   else none
  | _,_=>none
 | .indexA agg len sz x i=>match val s x,val s i with
  | some (.agg cs),some (.g (.int _ n))=>if 0≤n∧n<len then (sub agg sz ((cs.drop (n.toNat*sz)).take sz)).map (·,[]) else none
  | _,_=>none
 | .load agg n p=>match val s p with
  | some (.ptr id o)=>match Yp h s id with
   | some (.cells cs)=>(sub agg n ((cs.drop o).take n)).map (·,[id])
   | some (.bld _ cs)=>(sub agg n ((cs.drop o).take n)).map (·,[id])
   | _=>none
  | some (.cp cs)=>(sub agg n ((cs.take n).map .g)).map (·,[])
  | some (.rp id g sz i o)=>match Yp h s id with
   | some (.rows sz' g' els)=>if g=g'∧sz=sz' then match els[i]? with
     | some el=>(sub agg n (((el.drop o).take n).map .g)).map (·,[id])
     | none=>none
    else none
   | _=>none
  | _=>none
 | .ext j x=>match val s x with
  | some (.tup vs)=>match vs[j]? with
   | some v=>some (v,[])
   | none=>none
  | _=>none
 | .len x=>match val s x with
  | some v=>match X4 h s v with
   | some n=>some (.g (.int .i64 n),[])
   | none=>none
  | none=>none
 | .lenS x=>match val s x with
  | some (.g (.str b))=>some (.g (.int .i64 b.length),[])
  | _=>none
 | .cap x=>match val s x with
  | some (.g .nsl)=>some (.g (.int .i64 0),[])
  | _=>none
 | .mx x xs=>match vals s xs with
  | some vs=>(Pv mx2 (val s x) vs).map (·,[])
  | none=>none
 | .mn x xs=>match vals s xs with
  | some vs=>(Pv mn2 (val s x) vs).map (·,[])
  | none=>none
 | .build z ps=>match Ur s z ps with
  | some cs=>some (.agg cs,[])
  | none=>none
 | .slc k x lo hi=>match val s x with
  | some (.g (.sl sz els))=>if k=sz then match Xd s els.length lo hi with
    | some (l,u)=>some (.g (.sl sz ((els.take u).drop l)),[])
    | none=>none
   else none
  | some (.g .nsl)=>match Xd s 0 lo hi with
   | some _=>some (.g .nsl,[])
   | none=>none
  | some (.ms id g sz off len)=>if k=sz then match Xd s len lo hi with
    | some (l,u)=>if cur h s id g=true then some (.ms id g sz (off+l) (u - l),[]) else none
    | none=>Zfc h s id g sz off lo hi
   else none
  | _=>none
 | .slc3 k x (some lo) (some hi) (some mx)=>match val s x,val s mx with
  | some v,some m=>Za6 h s k lo hi v m
  | _,_=>none
 | .slcS x lo hi=>match val s x with
  | some (.g (.str b))=>match Xd s b.length lo hi with
   | some (l,u)=>some (.g (.str ((b.take u).drop l)),[])
   | none=>none
  | _=>none
 | .mkif t x=>match val s x with
  | some (.g v)=>some (.g (.ifc t v),[])
  | some (.ptr i o)=>some (.ifa t (.ptr i o),[])
  | _=>none
 | .mkfn f caps=>match caps with
  | []=>some (.g (.fn f),[])
  | _=>match vals s caps with
   | some vs=>some (.fv f vs,[])
   | none=>none
 | .mkbv f first=>match vals s first with
  | some vs=>some (.bv f vs,[])
  | none=>none
 | .mkvia t path f p=>some (.via t path f p,[])
 | .nilchk x=>match val s x with
  | some (.ptr i o)=>some (.ptr i o,[])
  | some (.cp cs)=>some (.cp cs,[])
  | some (.fv f cs)=>some (.fv f cs,[])
  | some (.g (.fn f))=>some (.g (.fn f),[])
  | some (.g (.ifc t v))=>some (.g (.ifc t v),[])
  | some (.ifa t v)=>some (.ifa t v,[])
  | _=>none
 | _=>none
def szT (P:Program) (t:TypeId):Option Nat:=(P.info? t).map (·.size)
def Q2 (P:Program) (t:TypeId):Option Nat:=(P.info? t).map (·.bytes)
def V5 (P:Program) (t:TypeId):Option Bool :=
 match P.underlying t with
 | some (.struct _) | some (.array _ _)=>some true
 | some _=>some false
 | none=>none
def P6 (P:Program) (t:TypeId) (i:Nat):Option Field :=
 match P.underlying t with
 | some (.struct fs)=>fs[i]?
 | _=>none
def Zil (P:Program) (t:TypeId):Option TypeId :=
 match P.underlying t with
 | some (.slice e)=>some e
 | _=>none
def Bw:Value→Option AV
 | .bool b=>some (.g (.bool b))
 | .int k n=>some (.g (.int k n))
 | .string s=>some (.g (.str s.data.toList))
 | .pointer none=>some (.g .nptr)
 | .slice none 0 0=>some (.g .nsl)
 | .map none=>some (.g .nmap)
 | .nilFunc=>some (.g .nfn)
 | .nilIface=>some (.g .nif)
 | _=>none
def Z6:Operand→Option Opd
 | .tmp t=>some (.t t)
 | .const v=>(Bw v).map .c
 | .func f=>some (.c (.g (.fn f)))
 | .global _=>none
def Ww:List Operand→Option (List Opd)
 | []=>some []
 | x::xs=>match Z6 x,Ww xs with
  | some y,some ys=>some (y::ys)
  | _,_=>none
def Qg:Option Operand→Option (Option Opd)
 | none=>some none
 | some x=>(Z6 x).map some
def Hb (P:Program) (t:TypeId):Option (List AV) :=
 match (P.info? t).bind (·.zero) with
 | some z=>z.cells.toList.mapM Bw
 | none=>none
def gOf:AV→Option GV
 | .g v=>some v
 | _=>none
def P7 (P:Program) (e:TypeId):Option (Nat×Nat×List GV) :=
 match szT P e,Q2 P e,Hb P e with
 | some n,some b,some z=>match z.mapM gOf with
  | some g=>if g.length=n then some (n,b,g) else none
  | none=>none
 | _,_,_=>none
def Zfd (P:Program):Nat→TypeId→Option (List (Option Nat))
 | 0,_=>none
 | d+1,t=>match P.underlying t with
  | some (.struct fs)=>(fs.toList.mapM fun f=>Zfd P d f.type).map List.flatten
  | some (.slice e)=>(szT P e).map fun n=>[some n]
  | some (.array n e)=>(Zfd P d e).map fun l=>(List.replicate n l).flatten
  | some _=>some [none]
  | none=>none
def cZ (P:Program) (t:TypeId):Option (List Z) :=
 match Hb P t,Zfd P 20 t with
 | some zs,some ks=>if zs.length=ks.length then (zs.zip ks).mapM (fun (z,k)=>match z,k with
   | .g .nsl,some n=>some (.s n)
   | .g v,_=>some (.z v)
   | _,_=>none) else none
 | _,_=>none
def Pw (K:TypeId→Option (List LK)):List Field→Nat→Option (List LK)
 | [],_=>some []
 | f :: fs, n => if f.name ≠ "_" ∧ f.offset = n then
   match K f.type with
   | some ks=>match Pw K fs (n+ks.length) with
    | some r=>some (ks++r)
    | none=>none
   | none=>none
  else none
def flatK (P:Program):Nat→TypeId→Option (List LK)
 | 0,_=>none
 | d+1,t=>match P.underlying t with
  | some .bool=>if szT P t=some 1 then some [.b] else none
  | some (.int _)=>if szT P t=some 1 then some [.i] else none
  | some .string=>if szT P t=some 1 then some [.s] else none
  | some (.struct fs)=>if P.stoodInHeld t then none else match Pw (flatK P d) fs.toList 0 with
   | some ks=>if szT P t=some ks.length then some ks else none
   | none=>none
  | _=>none
def Hy (P:Program) (t:TypeId) (x:Operand):Option Nat :=
 match P.underlying t,x with
 | some (.pointer _),.const (.pointer none)=>some 0
 | some (.interface _),.const .nilIface=>some 1
 | some (.func ..),.const .nilFunc=>some 2
 | some (.map ..),.const (.map none)=>some 3
 | _,_=>none
def Nu (P:Program) (t:TypeId) (x:Operand):Bool :=
 match P.underlying t,x with
 | some (.slice _),.const (.slice none 0 0)=>true
 | _,_=>false
def Zlj (P:Program) (t:TypeId):Bool :=
 match P.underlying t with
 | some (.pointer e)=>(P.info? e).isSome
 | _=>false
def By (P:Program) (t:TypeId):Bool :=
 match P.underlying t with
 | some (.int _) | some .string=>true
 | _=>false
def places (P:Program) (t:TypeId):Option (Nat→Option (Nat×Nat)) :=
 match P.underlying t with
 | some (.struct fs)=>match fs.toList.mapM (fun f=>(szT P f.type).map fun n=>(f.offset,n)) with
  | some l=>some (l[·]?)
  | none=>none
 | some (.array _ e)=>(szT P e).map fun n i=>some (i*n,n)
 | _=>none
def Q3 (pl:Nat→Option (Nat×Nat)):List (Nat×Operand)→Option (List (Nat×Nat×Opd))
 | []=>some []
 | (i,x)::r=>match pl i,Z6 x,Q3 pl r with
  | some (o,n),some y,some l=>some ((o,n,y)::l)
  | _,_,_=>none
def Zlk (P:Program) (t:TypeId):Option IntKind :=
 match P.underlying t with
 | some (.int k)=>some k
 | _=>none
def Z1l (P:Program):Nat→TypeId→Option TypeId
 | 0,_=>none
 | d+1,t=>match P.underlying t with
  | some (.struct fs)=>match fs.toList with
   | f::_=>match P.underlying f.type with
    | some (.pointer u)=>if u=t then some t else none
    | some (.struct _)=>Z1l P d f.type
    | _=>none
   | []=>none
  | _=>none
def Z6p (P:Program) (t:TypeId):Option TypeId :=
 match Z1l P 5 t with
 | some u=>match P.underlying u with
  | some (.struct fs)=>match fs.toList with
   | [_,f]=>Zil P f.type
   | _=>none
  | _=>none
 | none=>none
def Zim (P:Program) (u:TypeId):List (TypeId×Nat) :=
 ((List.range P.types.size).filter fun t=>Z1l P 5 t==some u&&liesAt P P.depth t (P.cellsOf t / P.cellsOf t) 0 u 1).map fun t=>(t,P.cellsOf t)
def Z1m (P:Program) (t:TypeId):Option LK :=
 match P.underlying t with
 | some .bool=>some .b
 | some (.int _)=>some .i
 | some .string=>some .s
 | _=>none
def elZ (P:Program) (t:TypeId):Option (Option GV) :=
 match (P.info? t).bind (·.zero) with
 | some (.agg cs)=>if cs.size=0 then some none else none
 | some z=>match Bw z with
  | some (.g g)=>some (some g)
  | _=>none
 | none=>none
def Zfe (P:Program) (t:TypeId):Option (LK×Option GV) :=
 match P.underlying t with
 | some (.map key elem)=>match Z1m P key,elZ P elem with
  | some kk,some z=>some (kk,z)
  | _,_=>none
 | _=>none
def Q4 (P:Program):List Field→Nat→Bool
 | [],_=>true
 | f :: fs, i => (f.name != "_" && f.offset == i && szT P f.type == some 1 && match P.underlying f.type with
   | some .bool | some (.int _) | some .string=>true
   | _=>false)&&Q4 P fs (i+1)
def Z1n (P:Program) (t:TypeId):Option (List LK) :=
 match P.underlying t with
 | some (.struct fs)=>if Q4 P fs.toList 0=true then flatK P 20 t else none
 | _=>none
def Gf (P:Program) (t:TypeId):Option (List LK×Option GV) :=
 match P.underlying t with
 | some (.map key elem)=>match Z1n P key,elZ P elem with
  | some ks,some z=>some (ks,z)
  | _,_=>none
 | _=>none
def Qh (P:Program) (b:Builtin) (ts:Array TypeId) (xs:List Opd):Option AOp :=
 match b with
 | .len=>match xs,P.underlying (ts.getD 0 0) with
  | [x],some .string=>if ts.size=1 then some (.lenS x) else none
  | [x],some (.slice _)=>if ts.size=1 then some (.len x) else none
  | _,_=>none
 | .cap=>match xs,P.underlying (ts.getD 0 0) with
  | [x],some (.slice _)=>if ts.size=1 then some (.cap x) else none
  | _,_=>none
 | .max=>match xs with
  | x::xs=>some (.mx x xs)
  | _=>none
 | .min=>match xs with
  | x::xs=>some (.mn x xs)
  | _=>none
 | .append=>match xs,P.underlying (ts.getD 0 0),P.underlying (ts.getD 1 0) with
  | [x,y],some (.slice e),some (.slice _)=>if ts.size=2 then match P7 P e with
    | some r=>some (.app r.1 r.2.1 x y)
    | none=>none
   else none
  | [x,y],some (.slice e),some .string=>if ts.size=2 then match P7 P e with
    | some r=>if r.1=1∧r.2.1=1 then some (.appT e x y) else none
    | none=>none
   else none
  | [x,y],some (.slice e),some (.int _)=>if ts.size=2 then match P7 P e with
    | some r=>some (.appZ r.1 r.2.1 r.2.2 x y)
    | none=>none
   else none
  | _,_,_=>none
 | .unsafeSliceData=>match xs with
  | [x]=>some (.sdata x)
  | _=>none
 | .unsafeString=>match xs,P.underlying (ts.getD 0 0) with
  | [x,y],some (.pointer e)=>if ts.size=2∧P.cellsOf e=1 then some (.ustr e x y) else none
  | _,_=>none
 | .clear=>match xs,P.underlying (ts.getD 0 0) with
  | [x],some (.slice e)=>if ts.size=1 then match P7 P e with
    | some r=>some (.clear r.2.2 x)
    | none=>none
   else none
  | _,_=>none
 | _=>none
def Zin (P:Program) (c:Call) (_t:TypeId):Option AOp :=
 match c.callee with
 | .value f=>match Z6 f,Ww c.args.toList with
  | some f,some xs=>some (.call f xs)
  | _,_=>none
 | .invoke .. => none
 | .builtin b=>match Ww c.args.toList with
  | some xs=>Qh P b c.argTypes xs
  | none=>none
def cOp (P:Program) (drw:Option Nat) (o:Oper):Option AOp :=
 match o.op with
 | .move x=>(Z6 x).map .mov
 | .assign x=>match drw,x with
  | none,.const (.slice none 0 0)=>match Zil P o.type with
   | some e=>match szT P e with
    | some n=>some (.nres n)
    | none=>none
   | none=>none
  | _,_=>(Z6 x).map .mov
 | .pick c a b=>do some (.pick (←Z6 c) (←Z6 a) (←Z6 b))
 | .binOp op t x y _=>do
  let x' ←Z6 x
  let y' ←Z6 y
  match op with
  | .eql | .neq =>
   if By P t then some (.bin op x' y')
   else match Hy P t y with
    | some k=>some (.isnil (op == .neq) k x')
    | none=>match Hy P t x with
     | some k=>some (.isnil (op == .neq) k y')
     | none=>if Nu P t y=true then some (.isnilS (op == .neq) x') else if Nu P t x=true then some (.isnilS (op == .neq) y') else if (op == .neq&&Zlj P t)=true then some (.neqp x' y') else match flatK P 20 t with
      | some ks=>if P.eqGuardType P.depth t=false then (V5 P t).map fun ag => .eqs (op == .neq) ag ks x' y' else none
      | none=>none
  | _=>some (.bin op x' y')
 | .unOp op _ x=>do some (.un op (←Z6 x))
 | .convert s d x=>do
  let x' ←Z6 x
  match P.underlying s,P.underlying d with
  | some (.int _),some (.int k)=>some (.conv k x')
  | some .string,some .string=>some (.convId x')
  | some .string,some (.slice e)=>if Zlk P e=some .u8∧szT P e=some 1 then some (.convSB x') else none
  | some (.slice e),some .string=>if Zlk P e=some .u8∧szT P e=some 1 then some (.convBS x') else none
  | some (.pointer t),some .unsafePointer=>match szT P t with
   | some n=>if n ≠ 0 then some (.toU x') else none
   | none=>none
  | some .unsafePointer,some (.pointer u)=>if (P.info? u).isSome then some (.fromU (Zim P u) x') else none
  | _,_=>none
 | .field t x f=>do
  let fl ←P6 P t f
  some (.field (←V5 P fl.type) fl.offset (←szT P fl.type) (←Z6 x))
 | .fieldAddr t x f=>do
  let fl ←P6 P t f
  let n ←szT P fl.type
  if n ≠ 0 then some (.faddr fl.offset (←Z6 x)) else none
 | .indexAddr t x i=>match P.underlying t with
  | some (.slice e)=>do some (.iaddr (←szT P e) (←Z6 x) (←Z6 i))
  | some (.array n e)=>do some (.iaddrA n (←szT P e) (←Z6 x) (←Z6 i))
  | _=>none
 | .index t x i=>match P.underlying t with
  | some .string=>do some (.index (←Z6 x) (←Z6 i))
  | some (.array n e)=>do some (.indexA (←V5 P e) n (←szT P e) (←Z6 x) (←Z6 i))
  | _=>none
 | .load t p=>do
  let a ←V5 P t
  let n ←szT P t
  if a=true∨n=1 then some (.load a n (←Z6 p)) else none
 | .store t p x=>do some (.store (←szT P t) (←Z6 p) (←Z6 x))
 | .extract x j=>(Z6 x).map (.ext j)
 | .build t ps=>do
  let z ←Hb P t
  let pl ←places P t
  let l ←Q3 pl ps.toList
  some (.build z l)
 | .slice t x lo hi mx=>match P.underlying t with
  | some .string=>do if mx.isNone then some (.slcS (←Z6 x) (←Qg lo) (←Qg hi)) else none
  | some (.slice e)=>do
   if mx.isNone then some (.slc (←szT P e) (←Z6 x) (←Qg lo) (←Qg hi)) else some (.slc3 (←szT P e) (←Z6 x) (←Qg lo) (←Qg hi) (←Qg mx))
  | _=>none
 | .makeInterface t x=>match P.underlying t with
  | some (.interface _)=>none
  | some _=>(Z6 x).map (.mkif t)
  | none=>none
 | .makeFunc (.func f) first caps=>do if first.size=0 then some (.mkfn f (←Ww caps.toList)) else if caps.size=0 then some (.mkbv f (←Ww first.toList)) else none
 | .makeFunc (.via t p f q) first caps=>if first.size=0∧caps.size=0 then some (.mkvia t p.toList f q) else none
 | .nilCheck x=>(Z6 x).map .nilchk
 | .alloc t=>do
  let z ←cZ P t
  match drw with
  | none=>match Z6p P t with
   | some e=>some (.allocT t e z)
   | none=>some (.alloc z)
  | some k=>some (.allocAt k z)
 | .box t x=>do if (szT P t).isSome then some (.box (←Z6 x)) else none
 | .buildSlice t n ps=>match P.underlying t with
  | some (.slice e)=>match P7 P e with
   | some r=>if n=0∧ps.size=0 then some (.mk0 r.1) else match Q3 (fun i=>some (i*r.1,r.1)) ps.toList with
    | some l=>if n*r.1≤16777216 then some (.bslice r.1 n r.2.2 l) else none
    | none=>none
   | none=>none
  | _=>none
 | .makeSlice t l c=>match P.underlying t with
  | some (.slice e)=>match P7 P e,Z6 l,Z6 c with
   | some r,some x,some y=>some (.mk r.1 r.2.1 r.2.2 x y)
   | _,_,_=>none
  | _=>none
 | .makeMap t r=>if r.isNone then (if (Gf P t).isSome then some .mkmap2 else some .mkmap) else none
 | .lookup t x k cm=>match Zfe P t with
  | some (kk,z)=>do some (.mget cm kk z (←Z6 x) (←Z6 k))
  | none=>match Gf P t with
   | some (ks,z)=>do some (.mget2 cm ks z (←Z6 x) (←Z6 k))
   | none=>none
 | .mapUpdate t x k v=>match Zfe P t with
  | some (kk,_)=>do some (.mset kk (←Z6 x) (←Z6 k) (←Z6 v))
  | none=>match Gf P t with
   | some (ks,_)=>do some (.mset2 ks (←Z6 x) (←Z6 k) (←Z6 v))
   | none=>none
 | .insert t x k v=>match Zfe P t with
  | some (kk,_)=>do some (.mset kk (←Z6 x) (←Z6 k) (←Z6 v))
  | none=>none
 | .call c=>Zin P c o.type
 | _=>none
def TR (E:Env) (a:Act) (T:List (Nat×AV)):Prop:=∀i v,look T i=some v→AR E v (a.tmps.getD i Go.undef)
def U6 (E:Env) (rs:List Nat) (w':World):Prop :=
 ∀b,b<E.w.heap.size→(¬E.O b∨∃id,id∈rs∧(E.L id).blk=some b)→w'.heap[b]? = E.w.heap[b]?
theorem O8 {E:Env} {v:Value} {av:AV} (h:Bw v=some av):AR E av v:=by
 unfold Bw at h
 split at h <;> first | (cases h) | skip
 ·exact .g (.bool _)
 ·exact .g (.int _ _)
 ·rename_i s
  have:AR E (.g (.str s.data.toList)) (.string ⟨s.data.toList.toArray⟩) := .g (.str _)
  simpa using this
 ·exact .g .nptr
 ·exact .g .nsl
 ·exact .g .nmap
 ·exact .g .nfn
 ·exact .g .nif
theorem Zl {E:Env} {a:Act} {s:St} (ht:TR E a s.t) {x:Operand} {X:Opd} {v:AV} (h:Z6 x=some X) (hv:val s X=some v):AR E v (a.eval x):=by
 unfold Z6 at h
 split at h
 ·cases h;exact ht _ _ hv
 ·rename_i u
  cases hu:Bw u with
  | none=>simp [hu] at h
  | some w=>simp [hu] at h;subst h;simp [val] at hv;subst hv;exact O8 hu
 ·cases h;simp [val] at hv;subst hv;exact .g (.fn _)
 ·cases h
def P8:Op→Bool
 | .load .. => true
 | _=>false
def Yl (P:Program) (E:Env) (o:Oper) (a:Act) (v:AV) (rs:List Nat):Prop :=
 ∃cv,AR E v cv∧∀w',(P8 o.op=true→U6 E rs w')→(execOp a.eval o).run P w' = .ok (.value cv) w'
theorem U6.self (E:Env) (rs:List Nat):U6 E rs E.w:=fun _ _ _=>rfl
theorem Zuw {P : Program} {E : Env} {op : BinOp} {x y v : AV} {cx cy : Value} (t : TypeId) (ox oy : Operand) (h : Uc op x y = some v) (hx : AR E x cx) (hy : AR E y cy) :
    ∃ cv, AR E v cv ∧ ∀ w', (do eqGuard op t ox oy cx cy; binOp op t cx cy : Sem Value).run P w' = .ok cv w' := by
  unfold Uc at h
  split at h
  · rename_i k a k' b
    cases hx with | g hx => cases hx with | int => cases hy with | g hy => cases hy with | int =>
    cases op <;> simp only [] at h
    case shl =>
      by_cases hb : b < 0
      · simp [O7, hb] at h
      · simp [O7, hb] at h; subst h
        exact ⟨_, .g (.int _ _), fun w' => by simp [eqGuard_at_int, binOp, Op.shift, hb]⟩
    case shr =>
      by_cases hb : b < 0
      · simp [O7, hb] at h
      · simp [O7, hb] at h; subst h
        exact ⟨_, .g (.int _ _), fun w' => by simp [eqGuard_at_int, binOp, Op.shift, hb]⟩
    all_goals
      by_cases hk : k = k'
      · subst hk
        simp only [if_true] at h
        first
          | (by_cases hb : b = 0
             · simp [Pu, hb] at h
             · simp [Pu, hb] at h; subst h
               exact ⟨_, .g (.int _ _), fun w' => by simp [eqGuard_at_int, binOp, Op.intDiv, hb]⟩)
          | (simp [Pu] at h; subst h
             first
              | exact ⟨_, .g (.int _ _), fun w' => by simp [eqGuard_at_int, binOp, Op.intArith, Op.intBits]⟩
              | exact ⟨_, .g (.bool _), fun w' => by simp [eqGuard_at_int, binOp, Op.intCmp]⟩)
      · simp [hk] at h
  · rename_i a b
    cases hx with | g hx => cases hx with | str => cases hy with | g hy => cases hy with | str =>
    cases op <;> simp [J9] at h
    case add =>
      obtain ⟨_, ⟨h1, rfl⟩, rfl⟩ := h
      refine ⟨_, .g (.str _), fun w' => ?_⟩
      have hs : ¬ ((((a.toArray.size + b.toArray.size : Nat)) : Int) > IntKind.i64.max) := by
        have : IntKind.i64.max = 9223372036854775807 := by decide
        simp only [List.size_toArray, this]; omega
      have e : (ByteArray.mk a.toArray ++ ByteArray.mk b.toArray) = ByteArray.mk (a ++ b).toArray := ByteArray.mk_append_mk a b
      simp only [eqGuard_at_string, binOp, Op.stringOp, pure_bind, Sem.run_ite, ByteArray.size_mk']
      rw [if_neg hs, e]; rfl
    all_goals
      subst h
      exact ⟨_, .g (.bool _), fun w' => by simp [eqGuard_at_string, binOp, Op.stringOp]⟩
  · cases h
theorem Zff:∀(ks:List LK) (a b c d:List AV) (r:Bool) (k2:List LK),a.length=ks.length→c.length=ks.length→eqL (ks++k2) (a++b) (c++d)=some r →
  ∃r1 r2,eqL ks a c=some r1∧eqL k2 b d=some r2∧r=(r1&&r2):=by
 intro ks
 induction ks with
 | nil =>
  intro a b c d r k2 h1 h2 h
  simp at h1 h2
  subst h1 h2
  exact ⟨true,r,rfl,h,rfl⟩
 | cons k ks ih =>
  intro a b c d r k2 h1 h2 h
  match a,c,h1,h2,h with
  | x::xs,y::ys,h1,h2,h =>
   simp at h1 h2
   cases x <;> cases y <;> simp [eqL] at h
   rename_i gx gy
   cases hg:eqG k gx gy with
   | none=>simp [hg] at h
   | some r1 =>
    cases hr:eqL (ks++k2) (xs++b) (ys++d) with
    | none=>simp [hg,hr] at h
    | some r2 =>
     simp [hg,hr] at h
     obtain ⟨s1,s2,e1,e2,e3⟩:=ih xs b ys d r2 k2 h1 h2 hr
     exact ⟨r1&&s1,s2,by simp [eqL,hg,e1],e2,by rw [←h,e3,Bool.and_assoc]⟩
theorem N4:∀{ks:List LK} {as bs:List AV} {r:Bool},eqL ks as bs=some r→as.length=ks.length∧bs.length=ks.length:=by
 intro ks
 induction ks with
 | nil=>intro as bs r h;cases as <;> cases bs <;> simp [eqL] at h ⊢
 | cons k ks ih =>
  intro as bs r h
  cases as with
  | nil=>simp [eqL] at h
  | cons x xs=>cases bs with
   | nil=>cases x <;> simp [eqL] at h
   | cons y ys =>
    cases x <;> cases y <;> simp [eqL] at h
    rename_i gx gy
    cases hg:eqG k gx gy with
    | none=>simp [hg] at h
    | some r1 =>
     cases hr:eqL ks xs ys with
     | none=>simp [hg,hr] at h
     | some r2=>simp [ih hr]
def R7 (E:Env) (as:List AV) (xs:Array Value):Prop :=
 as.length=xs.size∧∀(j:Nat) (a:AV) (v:Value),as[j]? = some a→xs[j]? = some v→AR E a v
theorem Dy {P:Program} {t:TypeId} {b:Bool} (h:V5 P t=some b) (w:World):(isAgg t).run P w = .ok b w:=by
 unfold V5 at h
 unfold isAgg
 cases hu:P.underlying t with
 | none=>simp [hu] at h
 | some d =>
  rw [Sem.run_bind,run_underlying hu w]
  cases d <;> simp [hu] at h <;> subst h <;> rfl
theorem run_sizeOf {P:Program} {t:TypeId} {n:Nat} (h:szT P t=some n) (w:World):(sizeOf t).run P w = .ok n w:=by
 unfold szT at h
 cases hi:P.info? t with
 | none=>simp [hi] at h
 | some i=>simp [hi] at h;simp [sizeOf,typeInfo,hi,h]
theorem P9 {P:Program} {t:TypeId} {b:Bool} {n:Nat} (ha:V5 P t=some b) (hs:szT P t=some n) (xs:Array Value) (off:Nat) (w:World) :
  (part t xs off).run P w=if b then .ok (.agg (xs.extract off (off+n))) w else match xs[off]? with
   | some v => .ok v w
   | none => .halt (.stuck "part: no such cell") w := by
 unfold part
 rw [Sem.run_bind,Dy ha]
 cases b
 ·simp only [Result.andThen_ok,Bool.false_eq_true,if_false]
  cases xs[off]? <;> rfl
 ·simp only [Result.andThen_ok,if_true]
  rw [Sem.run_bind,run_sizeOf hs]
  rfl
theorem R7.extract {E:Env} {as:List AV} {xs:Array Value} (h:R7 E as xs) (off n:Nat) (hn:off+n≤as.length):R7 E ((as.drop off).take n) (xs.extract off (off+n)):=by
 obtain ⟨h1,h2⟩:=h
 refine ⟨by simp;omega,fun j a v ha hv => ?_⟩
 by_cases hj:j<n
 ·rw [List.getElem?_take_of_lt hj,List.getElem?_drop] at ha
  refine h2 (off+j) a v ha ?_
  rw [Array.getElem?_extract] at hv
  split at hv
  ·exact hv
  ·cases hv
 ·rw [List.getElem?_take_eq_none (by omega)] at ha;cases ha
def mkV (agg:Bool) (xs:Array Value):Value:=if agg then .agg xs else xs.getD 0 Go.undef
theorem GR.inv_bool {E:Env} {b:Bool} {v:Value} (h:GR E (.bool b) v):v = .bool b:=by cases h;rfl
theorem GR.inv_int {E:Env} {k:IntKind} {n:Int} {v:Value} (h:GR E (.int k n) v):v = .int k n:=by cases h;rfl
theorem GR.inv_str {E:Env} {s:List UInt8} {v:Value} (h:GR E (.str s) v):v = .string ⟨s.toArray⟩:=by cases h;rfl
theorem AR.inv_g {E:Env} {g:GV} {v:Value} (h:AR E (.g g) v):GR E g v:=by cases h;assumption
theorem flat_agg {P:Program} {d:Nat} {t:TypeId} {ks:List LK} (h:flatK P d t=some ks):(∃b,V5 P t=some b)∧szT P t=some ks.length:=by
 cases d with
 | zero=>simp [flatK] at h
 | succ d =>
  unfold flatK at h
  unfold V5
  cases hu:P.underlying t with
  | none=>simp [hu] at h
  | some u =>
   cases u <;> simp [hu] at h <;> try (obtain ⟨h1,rfl⟩:=h;exact ⟨⟨_,rfl⟩,by simpa using h1⟩)
   case struct fs =>
    obtain ⟨h0,h⟩:=h
    cases hf:Pw (flatK P d) fs.toList 0 with
    | none=>simp [hf] at h
    | some ks'=>simp [hf] at h;obtain ⟨h1,rfl⟩:=h;exact ⟨⟨_,rfl⟩,h1⟩
theorem one_cell {E:Env} {k:LK} {as bs:List AV} {xs ys:Array Value} {r:Bool} (hx:R7 E as xs) (hy:R7 E bs ys) (he:eqL [k] as bs=some r) :
  ∃gx gy,eqG k gx gy=some r∧GR E gx (xs.getD 0 Go.undef)∧GR E gy (ys.getD 0 Go.undef):=by
 obtain ⟨hl1,hl2⟩:=N4 he
 obtain ⟨hx1,hx2⟩:=hx
 obtain ⟨hy1,hy2⟩:=hy
 match as,bs,hl1,hl2,he with
 | [x],[y],_,_,he =>
  cases x with
  | g gx=>cases y with
   | g gy =>
    simp [eqL] at he
    cases hg:eqG k gx gy with
    | none=>simp [hg] at he
    | some r1 =>
     simp [hg] at he
     refine ⟨gx,gy,by rw [←he];exact hg,?_,?_⟩
     ·have:xs[0]? = some (xs.getD 0 Go.undef):=by simp at hx1;simp [←hx1]
      exact (hx2 0 _ _ rfl this).inv_g
     ·have:ys[0]? = some (ys.getD 0 Go.undef):=by simp at hy1;simp [←hy1]
      exact (hy2 0 _ _ rfl this).inv_g
   | _=>simp [eqL] at he
  | _=>simp [eqL] at he
theorem Bz {P:Program} {E:Env}:∀(d:Nat) (k:Nat) (t:TypeId) (b:Bool) (ks:List LK) (as bs:List AV) (xs ys:Array Value) (r:Bool) (w:World),flatK P d t=some ks→V5 P t=some b →
  R7 E as xs→R7 E bs ys→eqL ks as bs=some r→(Op.equalIn (d+k) t (mkV b xs) (mkV b ys)).run P w = .ok r w:=by
 intro d
 induction d with
 | zero=>intro k t b ks as bs xs ys r w h;simp [flatK] at h
 | succ d ih =>
  intro k t b ks as bs xs ys r w h ha hx hy he
  rw [show d+1+k=(d+k)+1 by omega]
  unfold flatK at h
  cases hu:P.underlying t with
  | none=>simp [hu] at h
  | some u =>
   cases u <;> simp [hu] at h
   case bool =>
    have hb:false=b:=by simpa [V5,hu] using ha
    obtain ⟨_,rfl⟩:=h
    obtain ⟨gx,gy,hg,h1,h2⟩:=one_cell hx hy he
    subst hb
    simp only [mkV,Bool.false_eq_true,if_false]
    generalize xs.getD 0 Go.undef=X at *;generalize ys.getD 0 Go.undef=Y at *
    cases gx <;> cases gy <;> simp [eqG] at hg
    rw [h1.inv_bool,h2.inv_bool,run_equalIn_bool w _ _ _ _ hu,←hg]
   case int q =>
    have hb:false=b:=by simpa [V5,hu] using ha
    obtain ⟨_,rfl⟩:=h
    obtain ⟨gx,gy,hg,h1,h2⟩:=one_cell hx hy he
    subst hb
    simp only [mkV,Bool.false_eq_true,if_false]
    generalize xs.getD 0 Go.undef=X at *;generalize ys.getD 0 Go.undef=Y at *
    cases gx <;> cases gy <;> simp [eqG] at hg
    obtain ⟨rfl,hg⟩:=hg
    rw [h1.inv_int,h2.inv_int,run_equalIn_int w _ _ _ _ _ _ hu,←hg]
   case string =>
    have hb:false=b:=by simpa [V5,hu] using ha
    obtain ⟨_,rfl⟩:=h
    obtain ⟨gx,gy,hg,h1,h2⟩:=one_cell hx hy he
    subst hb
    simp only [mkV,Bool.false_eq_true,if_false]
    generalize xs.getD 0 Go.undef=X at *;generalize ys.getD 0 Go.undef=Y at *
    cases gx <;> cases gy <;> simp [eqG] at hg
    rw [h1.inv_str,h2.inv_str,run_equalIn_string w _ _ _ _ hu,←hg]
    simp
   case struct fs =>
    have hb:true=b:=by simpa [V5,hu] using ha
    subst hb
    obtain ⟨h0,h⟩:=h
    simp only [mkV,if_true]
    have hfs:P.fieldsOf t=fs:=by simp [Program.fieldsOf,hu]
    rw [run_equalIn_struct w _ _ _ _ (by rw [hfs];exact hu) h0,hfs]
    have key:∀(l:List Field) (n:Nat) (ks:List LK) (r:Bool),Pw (flatK P d) l n=some ks→as.length=n+ks.length→bs.length=n+ks.length→eqL ks (as.drop n) (bs.drop n)=some r →
      (Op.eqFields (d+k) xs ys l).run P w = .ok r w:=by
     intro l
     induction l with
     | nil =>
      intro n ks r hf hl1 hl2 he
      simp [Pw] at hf
      subst hf
      simp at hl1 hl2
      rw [List.drop_eq_nil_of_le (by omega),List.drop_eq_nil_of_le (by omega)] at he
      simp [eqL] at he
      simp [Op.eqFields,he]
     | cons f l ihl =>
      intro n ks r hf hl1 hl2 he
      simp only [Pw] at hf
      split at hf
      ·rename_i hc
       obtain ⟨hc1,hc2⟩:=hc
       cases hk1:flatK P d f.type with
       | none=>simp [hk1] at hf
       | some k1 =>
        cases hk2:Pw (flatK P d) l (n+k1.length) with
        | none=>simp [hk1,hk2] at hf
        | some k2 =>
         simp [hk1,hk2] at hf
         subst hf
         simp at hl1 hl2
         obtain ⟨⟨b1,hb1⟩,hs1⟩:=flat_agg hk1
         have e1:as.drop n=(as.drop n).take k1.length++as.drop (n+k1.length):=by rw [←List.drop_drop,List.take_append_drop]
         have e2:bs.drop n=(bs.drop n).take k1.length++bs.drop (n+k1.length):=by rw [←List.drop_drop,List.take_append_drop]
         rw [e1,e2] at he
         obtain ⟨r1,r2,he1,he2,rfl⟩:=Zff k1 _ _ _ _ r k2 (by simp;omega) (by simp;omega) he
         have hx':=hx.extract n k1.length (by omega)
         have hy':=hy.extract n k1.length (by omega)
         have hq:=ih k f.type b1 k1 _ _ _ _ r1 w hk1 hb1 hx' hy' he1
         have hp:∀(zs:Array Value) (cs:List AV),R7 E cs zs→cs.length=n+(k1.length+k2.length)→0<k1.length∨b1=true→(part f.type zs f.offset).run P w = .ok (mkV b1 (zs.extract n (n+k1.length))) w:=by
          intro zs cs hz hzl hpos
          rw [P9 hb1 hs1,hc2]
          cases b1
          ·have hpos':0<k1.length:=by simpa using hpos
           have hlt:n<zs.size:=by have:=hz.1;omega
           simp only [mkV,Bool.false_eq_true,if_false]
           rw [Array.getElem?_eq_getElem hlt]
           simp only
           congr 1
           have:(zs.extract n (n+k1.length)).getD 0 Go.undef=zs[n]:=by
            rw [Array.getD_eq_getD_getElem?,Array.getElem?_extract,if_pos (by omega)]
            simp [hlt]
           rw [this]
          ·simp [mkV]
         have hpos:0<k1.length∨b1=true:=by
          cases b1
          ·refine .inl ?_
           cases d with
           | zero=>simp [flatK] at hk1
           | succ d =>
            unfold flatK at hk1
            unfold V5 at hb1
            cases hu1:P.underlying f.type with
            | none=>simp [hu1] at hk1
            | some u1=>cases u1 <;> simp [hu1] at hk1 hb1 <;> (obtain ⟨_,rfl⟩:=hk1;simp)
          ·exact .inr rfl
         simp only [Op.eqFields,ne_eq,hc1,not_false_eq_true,if_true,Sem.run_bind]
         rw [hp xs as hx hl1 hpos]
         simp only [Result.andThen_ok]
         rw [hp ys bs hy hl2 hpos]
         simp only [Result.andThen_ok]
         rw [hq]
         simp only [Result.andThen_ok,Sem.run_ite]
         cases r1
         ·simp
         ·simp only [Bool.not_true,Bool.false_eq_true,if_false,Bool.true_and]
          exact ihl _ k2 r2 hk2 (by omega) (by omega) he2
      ·cases hf
    cases hf:Pw (flatK P d) fs.toList 0 with
    | none=>simp [hf] at h
    | some ks' =>
     simp [hf] at h
     obtain ⟨_,rfl⟩:=h
     obtain ⟨hl1,hl2⟩:=N4 he
     exact key fs.toList 0 ks' r hf (by omega) (by omega) (by simpa using he)
theorem Zr (h:List Blk):∀m:List (Nat×Blk),(Zv h m).length=h.length
 | []=>rfl
 | (a,v)::t=>by simp [Zv,Zr h t]
theorem Yw (h:List Blk) (s:St):(full h s).length=s.next h:=by simp [full,Zr,St.next]
theorem Gg (h:List Blk) (i:Nat) (hi:i<h.length):∀m:List (Nat×Blk),(Zv h m)[i]? = match Ps m i with | some b=>some b | none=>h[i]?
 | []=>rfl
 | (a,v)::t=>by
  simp only [Zv,Ps]
  by_cases e:a=i
  ·subst e
   simp [Zr,hi]
  ·rw [if_neg e,List.getElem?_set_ne e]
   exact Gg h i hi t
theorem Z9 (h:List Blk) (s:St) (i:Nat):(full h s)[i]? = Yp h s i:=by
 unfold full Yp
 split
 ·rename_i hi
  rw [List.getElem?_append_left (by rw [Zr];exact hi)]
  exact Gg h i hi s.m
 ·rename_i hi
  rw [List.getElem?_append_right (by rw [Zr];omega),Zr]
theorem AR.crel {E:Env} {cs:List AV} {C:Value} (h:AR E (.agg cs) C):∃xs,C = .agg xs∧R7 E cs xs∧∀(j:Nat) (v:Value),xs[j]? = some v→v.oneCell'=true:=by
 cases h with | agg hn h h1=>exact ⟨_,rfl,⟨hn,h⟩,h1⟩
theorem B0 {E:Env} {agg:Bool} {n:Nat} {cs:List AV} {v:AV} {xs:Array Value} (h:sub agg n cs=some v) (hc:R7 E cs xs) (h1:∀(j:Nat) (u:Value),xs[j]? = some u→u.oneCell'=true) :
  xs.size=n∧AR E v (mkV agg xs):=by
 unfold sub at h
 split at h
 ·rename_i hl
  refine ⟨by rw [←hc.1];exact hl,?_⟩
  unfold one at h
  cases agg
  ·simp only [Bool.false_eq_true,if_false] at h
   match cs,h,hc with
   | [c],h,hc =>
    simp at h
    subst h
    have h0:=hc.1
    simp at h0
    have:xs[0]? = some (xs.getD 0 Go.undef):=by simp [←h0]
    exact hc.2 0 _ _ rfl this
  ·simp at h
   subst h
   exact .agg hc.1 hc.2 h1
 ·cases h
theorem Dz {P:Program} {t:TypeId} {i:Nat} {fl:Field} (hf:P6 P t i=some fl) (xs:Array Value) (w:World) :
  (Instr.field t (.agg xs) i).run P w=(part fl.type xs fl.offset).run P w:=by
 unfold P6 at hf
 cases hu:P.underlying t with
 | none=>simp [hu] at hf
 | some u =>
  cases u <;> simp [hu] at hf
  rename_i fs
  unfold Instr.field
  rw [Sem.run_bind,run_underlying hu w]
  simp only [Result.andThen_ok]
  rw [hf]
  simp only [asAgg,pure_bind]
theorem Oa {P:Program} {t:TypeId} {i:Nat} {fl:Field} {n:Nat} (hf:P6 P t i=some fl) (hs:szT P fl.type=some n) (hn:n ≠ 0) (b o:Nat) (w:World) :
  (Instr.fieldAt t (.pointer (some ⟨b,o,none⟩)) i).run P w = .ok (.pointer (some ⟨b,o+fl.offset,none⟩)) w:=by
 unfold P6 at hf
 cases hu:P.underlying t with
 | none=>simp [hu] at hf
 | some u =>
  cases u <;> simp [hu] at hf
  rename_i fs
  unfold Instr.fieldAt
  rw [Sem.run_bind,run_underlying hu w]
  have hadd:(⟨b,o,none⟩:Addr).add fl.offset=⟨b,o+fl.offset,none⟩:=by unfold Addr.add;split <;> simp_all
  simp only [Result.andThen_ok,hf,Instr.sureAddr,pure_bind,Sem.run_bind,fieldPlace,run_sizeOf hs,hn,if_false,Sem.run_pure,hadd,Sem.run_ite]
theorem Rw {P:Program} {t:TypeId} {ag:Bool} {n:Nat} (ha:V5 P t=some ag) (hs:szT P t=some n) (hc:ag=true∨n=1) (b o:Nat) (vs:Array Value) (w:World) (hn:vs.size=n)
  (hv:∀(j:Nat) (v:Value),vs[j]? = some v→w.cell? ⟨b,o+j,none⟩=some v):(loadVar t ⟨b,o,none⟩).run P w = .ok (mkV ag vs) w:=by
 have hadd:∀j,(⟨b,o,none⟩:Addr).add j=⟨b,o+j,none⟩:=fun j=>by unfold Addr.add;split <;> simp_all
 unfold loadVar
 rw [Sem.run_bind,Dy ha]
 cases ag
 ·have h1:n=1:=by simpa using hc
  have h0:vs[0]? = some (vs.getD 0 Go.undef):=by rw [h1] at hn;simp [hn]
  have h2:=hv 0 _ h0
  simp only [Nat.add_zero] at h2
  simp only [Result.andThen_ok,Bool.false_eq_true,if_false,run_load,h2,mkV]
 ·have hl:=run_loadCells_list (P:=P) w ⟨b,o,none⟩ vs.toList (fun j v h=>by rw [hadd];exact hv j v (by simpa using h))
  simp only [Array.length_toList,Array.toArray_toList] at hl
  simp only [Result.andThen_ok,if_true,Sem.run_bind,run_sizeOf hs,←hn,hl,Sem.run_pure,mkV]
theorem U6.cell {E:Env} {rs:List Nat} {w':World} (h:U6 E rs w') {b:Nat} (hb:b<E.w.heap.size) (hO:¬E.O b∨∃id,id∈rs∧(E.L id).blk=some b) (o:Nat) :
  w'.cell? ⟨b,o,none⟩=E.w.cell? ⟨b,o,none⟩:=by simp [World.cell?,h b hb hO]
theorem D4 {n j:Nat} {f:Nat→Value} {u:Value} (h:(((List.range n).map f).toArray)[j]? = some u):j<n∧u=f j:=by
 simp only [List.getElem?_toArray,List.getElem?_map] at h
 by_cases hj:j<n
 ·simp [List.getElem?_range hj] at h;exact ⟨hj,h.symm⟩
 ·simp [List.getElem?_eq_none (by simpa using hj:(List.range n).length≤j)] at h
theorem Zux {P:Program} {E:Env} {t:TypeId} {ag:Bool} {n:Nat} (ha:V5 P t=some ag) (hs:szT P t=some n) (hc:ag=true∨n=1) {cs:List GV} {p:Value} {v:AV}
  (hp:AR E (.cp cs) p) (h:sub ag n ((cs.take n).map .g)=some v):∃cv,AR E v cv∧∀w',U6 E [] w'→(Instr.loadAt t p).run P w' = .ok cv w':=by
 cases hp with
 | @cp _ b o c hb hO hcc hg =>
  have hlen:(cs.take n).length=n:=by
   unfold sub at h;split at h
   ·rename_i hq;simpa using hq
   ·cases h
  have hlen2:n≤cs.length:=by simp at hlen;omega
  let vs:Array Value:=((List.range n).map c).toArray
  have hvs:∀(j:Nat) (u:Value),vs[j]? = some u→j<n∧u=c j:=fun j u hj=>D4 hj
  have hcs:∀j,j<n→∃a,cs[j]? = some a:=fun j hj=>⟨cs[j],by simp [List.getElem?_eq_getElem (show j<cs.length by omega)]⟩
  have hcr:R7 E ((cs.take n).map .g) vs:=by
   refine ⟨by simp [vs];omega,fun j a u h1 h2 => ?_⟩
   obtain ⟨hj,rfl⟩:=hvs j u h2
   rw [List.getElem?_map,List.getElem?_take_of_lt hj] at h1
   cases hq:cs[j]? with
   | none=>simp [hq] at h1
   | some a'=>simp [hq] at h1;subst h1;exact .g (hg j a' hq)
  have h1:∀(j:Nat) (u:Value),vs[j]? = some u→u.oneCell'=true:=fun j u hj=>by
   obtain ⟨hj',rfl⟩:=hvs j u hj
   obtain ⟨a,hq⟩:=hcs j hj'
   exact (hg j a hq).one
  obtain ⟨hsz,hv⟩:=B0 h hcr h1
  refine ⟨_,hv,fun w' hw => ?_⟩
  simp only [Instr.loadAt,Instr.sureAddr,pure_bind]
  refine Rw ha hs hc b o vs w' hsz (fun j u hj => ?_)
  obtain ⟨hj',rfl⟩:=hvs j u hj
  obtain ⟨a,hq⟩:=hcs j hj'
  rw [hw.cell hb (.inl hO)]
  exact hcc j a hq
theorem D5 {P:Program} {E:Env} {t:TypeId} {ag:Bool} {n:Nat} (ha:V5 P t=some ag) (hs:szT P t=some n) (hc:ag=true∨n=1) {b o:Nat} {v:AV} {as:List AV} {T:TypeId} {fr:Nat×Nat} {C:Array Value}
  (hb:E.w.heap[b]? = some (.cells C T fr)) (hcs:∀(j:Nat) (a:AV),as[j]? = some a→∃u,C[o+j]? = some u∧AR E a u∧u.oneCell'=true)
  (h:sub ag n as=some v):∃cv,AR E v cv∧∀w',w'.heap[b]? = E.w.heap[b]?→(Instr.loadAt t (.pointer (some ⟨b,o,none⟩))).run P w' = .ok cv w':=by
 have hlen:as.length=n:=by
  unfold sub at h;split at h
  ·assumption
  ·cases h
 have hlt:b<E.w.heap.size:=(Array.getElem?_eq_some_iff.1 hb).1
 let vs:Array Value:=((List.range n).map fun j=>C.getD (o+j) Go.undef).toArray
 have hvs:∀(j:Nat) (u:Value),vs[j]? = some u→j<n∧u=C.getD (o+j) Go.undef:=fun j u hj=>D4 hj
 have hget:∀j,j<n→∃a,as[j]? = some a∧C[o+j]? = some (C.getD (o+j) Go.undef)∧AR E a (C.getD (o+j) Go.undef)∧(C.getD (o+j) Go.undef).oneCell'=true:=fun j hj=>by
  have hq:as[j]? = some as[j]:=List.getElem?_eq_getElem (by omega)
  obtain ⟨u,h1,h2,h3⟩:=hcs j _ hq
  have:C.getD (o+j) Go.undef=u:=by simp [Array.getD_eq_getD_getElem?,h1]
  exact ⟨_,hq,by rw [this];exact h1,by rw [this];exact h2,by rw [this];exact h3⟩
 have hcr:R7 E as vs:=by
  refine ⟨by simp [vs,hlen],fun j a u h1 h2 => ?_⟩
  obtain ⟨hj,rfl⟩:=hvs j u h2
  obtain ⟨a',e1,_,e3,_⟩:=hget j hj
  rw [h1] at e1;cases e1;exact e3
 have h1:∀(j:Nat) (u:Value),vs[j]? = some u→u.oneCell'=true:=fun j u hj=>by
  obtain ⟨hj',rfl⟩:=hvs j u hj
  obtain ⟨_,_,_,_,e4⟩:=hget j hj'
  exact e4
 obtain ⟨hsz,hv⟩:=B0 h hcr h1
 refine ⟨_,hv,fun w' hw => ?_⟩
 simp only [Instr.loadAt,Instr.sureAddr,pure_bind]
 refine Rw ha hs hc b o vs w' hsz (fun j u hj => ?_)
 obtain ⟨hj',rfl⟩:=hvs j u hj
 obtain ⟨_,_,e2,_,_⟩:=hget j hj'
 simpa [World.cell?,hw,hb] using e2
theorem Za7 {P:Program} {E:Env} {t:TypeId} {ag:Bool} {n:Nat} (ha:V5 P t=some ag) (hs:szT P t=some n) (hc:ag=true∨n=1) {b o:Nat} {v:AV} {as:List AV} {T:TypeId} {fr:Nat×Nat} {C:Array Value}
  (hb:E.w.heap[b]? = some (.cells C T fr)) (hcs:∀(j:Nat) (a:AV),as[j]? = some a→∃u,C[o+j]? = some u∧AR E a u∧u.oneCell'=true)
  (rs:List Nat) (hO:¬E.O b∨∃id,id∈rs∧(E.L id).blk=some b)
  (h:sub ag n as=some v):∃cv,AR E v cv∧∀w',U6 E rs w'→(Instr.loadAt t (.pointer (some ⟨b,o,none⟩))).run P w' = .ok cv w':=by
 obtain ⟨cv,h1,h2⟩:=D5 ha hs hc hb hcs h
 exact ⟨cv,h1,fun w' hw=>h2 w' (hw b (Array.getElem?_eq_some_iff.1 hb).1 hO)⟩
theorem Y3 {α β:Type} {f:α→β} {x:Option α} {y:β} (h:x.map f=some y):∃z,x=some z∧f z=y:=by
 cases x with
 | none=>simp at h
 | some z=>exact ⟨z,rfl,by simpa using h⟩
theorem Za {α β:Type} {f:α→Option β} {x:Option α} {y:β} (h:(x >>= f)=some y):∃z,x=some z∧f z=some y:=by
 cases x with
 | none=>simp at h
 | some z=>exact ⟨z,rfl,by simpa using h⟩
theorem Zpk {s:St} {d:Nat} {x:Option Opd} {i:Int} (h:bnd s d x=some i):(x=none∧i=d)∨∃y k,x=some y∧val s y=some (.g (.int k i)):=by
 cases x with
 | none=>simp [bnd] at h;exact .inl ⟨rfl,h.symm⟩
 | some y =>
  simp only [bnd] at h
  cases hv:val s y with
  | none=>simp [hv] at h
  | some v =>
   simp only [hv] at h
   unfold Y2 at h
   split at h
   ·cases h;exact .inr ⟨y,_,rfl,hv⟩
   ·cases h
theorem Q5 {s:St} {n l u:Nat} {lo hi:Option Opd} (h:Xd s n lo hi=some (l,u)):l≤u∧u≤n ∧
  ((lo=none∧l=0)∨∃x k,lo=some x∧val s x=some (.g (.int k l)))∧((hi=none∧u=n)∨∃x k,hi=some x∧val s x=some (.g (.int k u))):=by
 unfold Xd at h
 split at h
 ·rename_i L U hL hU
  split at h
  ·rename_i hc
   obtain ⟨h1,h2,h3⟩:=hc
   simp at h
   obtain ⟨rfl,rfl⟩:=h
   refine ⟨by omega,by omega,?_,?_⟩
   ·rcases Zpk hL with ⟨e,rfl⟩ | ⟨y,k,e,hk⟩
    ·exact .inl ⟨e,by simp⟩
    ·exact .inr ⟨y,k,e,by rw [hk,Int.toNat_of_nonneg h1]⟩
   ·rcases Zpk hU with ⟨e,rfl⟩ | ⟨y,k,e,hk⟩
    ·exact .inl ⟨e,by simp⟩
    ·exact .inr ⟨y,k,e,by rw [hk,Int.toNat_of_nonneg (by omega)]⟩
  ·cases h
 ·cases h
theorem Ra {E:Env} {a:Act} {s:St} (ht:TR E a s.t) {x:Option Operand} {X:Option Opd} (h:Qg x=some X) :
  (x=none∧X=none)∨∃y Y,x=some y∧X=some Y∧∀v,val s Y=some v→AR E v (a.eval y):=by
 cases x with
 | none=>simp [Qg] at h;exact .inl ⟨rfl,h.symm⟩
 | some y =>
  simp [Qg] at h
  obtain ⟨Y,h1,h2⟩:=h
  exact .inr ⟨y,Y,rfl,h2.symm,fun v hv=>Zl ht h1 hv⟩
theorem Px {P:Program} {E:Env} {a:Act} {s:St} (ht:TR E a s.t) {isS:Bool} {n cap l u:Nat} {lo hi:Option Operand} {Lo Hi:Option Opd} (hlo:Qg lo=some Lo) (hhi:Qg hi=some Hi)
  (hcap:n≤cap) (h:Xd s n Lo Hi=some (l,u)) (w:World):(Instr.sliceBounds isS n cap (lo.map a.eval) (hi.map a.eval) none).run P w = .ok (l,u,cap) w:=by
 obtain ⟨h1,h2,h3,h4⟩:=Q5 h
 have hb:∀(v:Value) (k:IntKind) (i y:Nat) (c:BoundsCode),v = .int k i→i≤y→(Instr.sliceBound v y c).run P w = .ok i w:=by
  intro v k i y c e hi
  subst e
  unfold Instr.sliceBound
  simp only [asIntOf,pure_bind]
  rw [if_pos ⟨by omega,by omega⟩]
  simp
 unfold Instr.sliceBounds
 rcases Ra ht hlo with ⟨rfl,rfl⟩ | ⟨y,Y,rfl,rfl,hY⟩ <;> rcases Ra ht hhi with ⟨rfl,rfl⟩ | ⟨z,Z,rfl,rfl,hZ⟩
 ·simp at h3 h4;subst h3 h4;simp
 ·simp at h3 h4;subst h3;obtain ⟨k,hk⟩:=h4
  simp [hb _ k u cap _ ((hZ _ hk).inv_g.inv_int) (by omega)]
 ·simp at h3 h4;subst h4;obtain ⟨k,hk⟩:=h3
  simp [hb _ k l u _ ((hY _ hk).inv_g.inv_int) (by omega)]
 ·simp at h3 h4;obtain ⟨k,hk⟩:=h3;obtain ⟨k',hk'⟩:=h4
  simp [hb _ k l u _ ((hY _ hk).inv_g.inv_int) (by omega),hb _ k' u cap _ ((hZ _ hk').inv_g.inv_int) (by omega)]
theorem K0 {P:Program} {E:Env} {a:Act} {s:St} (ht:TR E a s.t) {isS:Bool} {n m cap l u:Nat} {lo hi:Option Operand} {Lo Hi:Option Opd} (hlo:Qg lo=some Lo) (hhi:Qg hi=some Hi) (hs:Hi.isSome=true)
  (hcap:u≤cap) (h:Xd s n Lo Hi=some (l,u)) (w:World):(Instr.sliceBounds isS m cap (lo.map a.eval) (hi.map a.eval) none).run P w = .ok (l,u,cap) w:=by
 obtain ⟨h1,h2,h3,h4⟩:=Q5 h
 have hb:∀(v:Value) (k:IntKind) (i y:Nat) (c:BoundsCode),v = .int k i→i≤y→(Instr.sliceBound v y c).run P w = .ok i w:=by
  intro v k i y c e hi
  subst e
  unfold Instr.sliceBound
  simp only [asIntOf,pure_bind]
  rw [if_pos ⟨by omega,by omega⟩]
  simp
 unfold Instr.sliceBounds
 rcases Ra ht hlo with ⟨rfl,rfl⟩ | ⟨y,Y,rfl,rfl,hY⟩ <;> rcases Ra ht hhi with ⟨rfl,rfl⟩ | ⟨z,Z,rfl,rfl,hZ⟩
 ·simp at hs
 ·simp at h3 h4;subst h3;obtain ⟨k,hk⟩:=h4
  simp [hb _ k u cap _ ((hZ _ hk).inv_g.inv_int) (by omega)]
 ·simp at hs
 ·simp at h3 h4;obtain ⟨k,hk⟩:=h3;obtain ⟨k',hk'⟩:=h4
  simp [hb _ k l u _ ((hY _ hk).inv_g.inv_int) (by omega),hb _ k' u cap _ ((hZ _ hk').inv_g.inv_int) (by omega)]
theorem K3 {P:Program} {E:Env} {a:Act} {s:St} (ht:TR E a s.t) {isS:Bool} {n m cap l u:Nat} {lo hi mx:Operand} {Lo Hi:Opd} {k0:IntKind} (hlo:Z6 lo=some Lo) (hhi:Z6 hi=some Hi) (hmx:a.eval mx = .int k0 m)
  (hcap:m≤cap) (h:Xd s m (some Lo) (some Hi)=some (l,u)) (w:World):(Instr.sliceBounds isS n cap (some (a.eval lo)) (some (a.eval hi)) (some (a.eval mx))).run P w = .ok (l,u,m) w:=by
 obtain ⟨h1,h2,h3,h4⟩:=Q5 h
 have hb:∀(v:Value) (k:IntKind) (i y:Nat) (c:BoundsCode),v = .int k i→i≤y→(Instr.sliceBound v y c).run P w = .ok i w:=by
  intro v k i y c e hi
  subst e
  unfold Instr.sliceBound
  simp only [asIntOf,pure_bind]
  rw [if_pos ⟨by omega,by omega⟩]
  simp
 unfold Instr.sliceBounds
 simp at h3 h4
 obtain ⟨k,hk⟩:=h3
 obtain ⟨k',hk'⟩:=h4
 simp [hb _ k0 m cap _ hmx hcap,hb _ k l u _ ((Zl ht hlo hk).inv_g.inv_int) h1,hb _ k' u m _ ((Zl ht hhi hk').inv_g.inv_int) h2]
theorem K4 (b:List UInt8) (l u:Nat):(ByteArray.mk b.toArray).extract l u=ByteArray.mk ((b.take u).drop l).toArray:=by
 rw [ByteArray.extract_mk,List.drop_take]
theorem GR.cut {E:Env} {sz:Nat} {els:List (List GV)} {v:Value} (h:GR E (.sl sz els) v) (l u:Nat) (hl:l≤u) (hu:u≤els.length) :
  ∃A n cap,v = .slice A n cap∧n=els.length∧n≤cap∧GR E (.sl sz ((els.take u).drop l)) (.slice (if cap=l then A else A.map (·.add (l*sz))) (u - l) (cap - l)):=by
 cases h with
 | @sl _ b o cap _ c hcap hb hO hsz hc hg =>
  refine ⟨_,_,_,rfl,rfl,hcap,?_⟩
  have hlen:((els.take u).drop l).length=u - l:=by simp;omega
  by_cases hz:u - l=0
  ·have:(els.take u).drop l=[]:=List.eq_nil_of_length_eq_zero (by omega)
   rw [this,hz]
   split <;> exact .sl0 _ _ _
  ·have hne:cap ≠ l:=by omega
   rw [if_neg hne]
   have hadd:(⟨b,o,none⟩:Addr).add (l*sz)=⟨b,o+l*sz,none⟩:=by unfold Addr.add;split <;> simp_all
   simp only [Option.map_some,hadd]
   have hget:∀i el,((els.take u).drop l)[i]? = some el→els[l+i]? = some el:=by
    intro i el hi
    rw [List.getElem?_drop,List.getElem?_take] at hi
    split at hi
    ·exact hi
    ·cases hi
   rw [←hlen]
   refine .sl (fun i j=>c (l+i) j) (by omega) hb hO (fun i el hi=>hsz _ el (hget i el hi)) (fun i el j x hi hj => ?_) (fun i el j x hi hj=>hg _ el j x (hget i el hi) hj)
   have:=hc _ el j x (hget i el hi) hj
   rw [←this];congr 2
   rw [Nat.add_mul];omega
 | sl0 _ A cap =>
  refine ⟨_,_,_,rfl,rfl,by simp,?_⟩
  simp at hu
  subst hu
  have:l=0:=by omega
  subst this
  split <;> exact .sl0 _ _ _
theorem Wb.cut {lc:Lc} {sz off len:Nat} {v:Value} (h:Wb lc sz off len v) (l u:Nat) (hl:l≤u) (hu:u≤len) :
  ∃A cap,v = .slice A len cap∧len≤cap∧Wb lc sz (off+l) (u - l) (.slice (if cap=l then A else A.map (·.add (l*sz))) (u - l) (cap - l)):=by
 unfold Wb at h
 cases hb:lc.blk with
 | none =>
  rw [hb] at h
  obtain ⟨rfl,rfl,rfl⟩:=h
  have:u=0:=by omega
  subst this
  have:l=0:=by omega
  subst this
  exact ⟨_,_,rfl,by simp,by simp [Wb,hb]⟩
 | some b =>
  rw [hb] at h
  obtain ⟨a,c,rfl,h1,h2,h3⟩:=h
  refine ⟨_,_,rfl,h2,?_⟩
  simp only [Wb,hb]
  by_cases hc:c=l
  ·subst hc
   refine ⟨a,0,by simp,by omega,by omega,.inr rfl⟩
  ·rw [if_neg hc]
   refine ⟨a.add (l*sz),c - l,by simp,by omega,by omega,?_⟩
   rcases h3 with rfl | h3
   ·left
    have hadd:(⟨b,off*sz,none⟩:Addr).add (l*sz)=⟨b,off*sz+l*sz,none⟩:=by unfold Addr.add;split <;> simp_all
    rw [hadd,←Nat.add_mul]
   ·omega
theorem Wb.cut2 {lc:Lc} {sz off len:Nat} {v:Value} (h:Wb lc sz off len v) (l u:Nat) (hl:l≤u) (h0:lc.blk=none→u=0) (hu:off+u≤lc.cap) :
  ∃A cap,v = .slice A len cap∧u≤cap∧Wb lc sz (off+l) (u - l) (.slice (if cap=l then A else A.map (·.add (l*sz))) (u - l) (cap - l)):=by
 unfold Wb at h
 cases hb:lc.blk with
 | none =>
  rw [hb] at h
  obtain ⟨rfl,rfl,rfl⟩:=h
  have:u=0:=h0 hb
  subst this
  have:l=0:=by omega
  subst this
  exact ⟨_,_,rfl,by simp,by simp [Wb,hb]⟩
 | some b =>
  rw [hb] at h
  obtain ⟨a,c,rfl,h1,h2,h3⟩:=h
  refine ⟨_,_,rfl,by omega,?_⟩
  simp only [Wb,hb]
  by_cases hc:c=l
  ·subst hc
   refine ⟨a,0,by simp,by omega,by omega,.inr rfl⟩
  ·rw [if_neg hc]
   refine ⟨a.add (l*sz),c - l,by simp,by omega,by omega,?_⟩
   rcases h3 with rfl | h3
   ·left
    have hadd:(⟨b,off*sz,none⟩:Addr).add (l*sz)=⟨b,off*sz+l*sz,none⟩:=by unfold Addr.add;split <;> simp_all
    rw [hadd,←Nat.add_mul]
   ·omega
section
variable {P:Program} {h:List Blk} {s:St} {a:Act} {w:World} {L:Nat→Lc} {v:AV} {rs:List Nat}
theorem Rb {E:Env} (ht:TR E a s.t):∀{xs:List Operand} {Xs:List Opd} {vs:List AV},Ww xs=some Xs→vals s Xs=some vs →
  vs.length=xs.length∧∀(j:Nat) (x:Operand) (v:AV),xs[j]? = some x→vs[j]? = some v→AR E v (a.eval x):=by
 intro xs
 induction xs with
 | nil=>intro Xs vs h1 h2;simp [Ww] at h1;subst h1;simp [vals] at h2;subst h2;simp
 | cons x xs ih =>
  intro Xs vs h1 h2
  simp only [Ww] at h1
  cases hx:Z6 x with
  | none=>simp [hx] at h1
  | some X =>
   cases hxs:Ww xs with
   | none=>simp [hx,hxs] at h1
   | some Ys =>
    simp [hx,hxs] at h1
    subst h1
    simp only [vals] at h2
    cases hv:val s X with
    | none=>simp [hv] at h2
    | some u =>
     cases hvs:vals s Ys with
     | none=>simp [hv,hvs] at h2
     | some us =>
      simp [hv,hvs] at h2
      subst h2
      obtain ⟨i1,i2⟩:=ih hxs hvs
      refine ⟨by simp [i1],fun j y z hy hz => ?_⟩
      cases j with
      | zero=>simp at hy hz;subst hy hz;exact Zl ht hx hv
      | succ j=>exact i2 j y z (by simpa using hy) (by simpa using hz)
theorem Zio {E:Env} (f:AV→AV→Option AV) (F:Value→Value→Sem Value) (hf:∀x y v cx cy,f x y=some v→AR E x cx→AR E y cy→∃cv,AR E v cv∧∀w',(F cx cy).run P w' = .ok cv w') :
  ∀(vs:List AV) (cvs:List Value) (x v:AV) (cx:Value),Pv f (some x) vs=some v→AR E x cx→vs.length=cvs.length→(∀(j:Nat) (a:AV) (c:Value),vs[j]? = some a→cvs[j]? = some c→AR E a c) →
   ∃cv,AR E v cv∧∀w',(cvs.foldlM F cx).run P w' = .ok cv w':=by
 intro vs
 induction vs with
 | nil=>intro cvs x v cx h1 hx hl hr;simp [Pv] at h1;subst h1;cases cvs with
  | nil=>exact ⟨cx,hx,fun w'=>by simp⟩
  | cons=>simp at hl
 | cons y ys ih=>intro cvs x v cx h1 hx hl hr;cases cvs with
  | nil=>simp at hl
  | cons c cs =>
   simp only [Pv] at h1
   cases hxy:f x y with
   | none=>rw [hxy] at h1;cases ys <;> simp [Pv] at h1
   | some z =>
    rw [hxy] at h1
    obtain ⟨cz,hz1,hz2⟩:=hf x y z cx c hxy hx (hr 0 _ _ rfl rfl)
    obtain ⟨cv,k1,k2⟩:=ih cs z v cz h1 hz1 (by simpa using hl) (fun j a c' e1 e2=>hr (j+1) a c' (by simpa using e1) (by simpa using e2))
    exact ⟨cv,k1,fun w'=>by simp [List.foldlM_cons,hz2,k2]⟩
theorem cells_ok {E:Env} {u:AV} {c:Value} {cs:List AV} (h:AR E u c) (hc:u.cellsO=some cs):R7 E cs c.cells∧∀(j:Nat) (y:Value),c.cells[j]? = some y→y.oneCell'=true:=by
 have single:∀(u:AV) (c:Value),AR E u c→c.oneCell'=true→c.cells = #[c]∧R7 E [u] #[c]∧∀(j:Nat) (y:Value),(#[c]:Array Value)[j]? = some y→y.oneCell'=true:=by
  intro u c h h1
  refine ⟨by cases c <;> first | rfl | (simp [Value.oneCell'] at h1),⟨rfl,fun j a v ha hv => ?_⟩,fun j y hy => ?_⟩
  ·match j with
   | 0=>simp at ha hv;subst ha hv;exact h
   | j+1=>simp at ha
  ·match j with
   | 0=>simp at hy;subst hy;exact h1
   | j+1=>simp at hy
 cases u <;> simp [AV.cellsO] at hc
 case agg=>subst hc;obtain ⟨xs,rfl,h1,h2⟩:=h.crel;exact ⟨h1,h2⟩
 all_goals
  subst hc
  have h1:=h.one rfl
  obtain ⟨e1,e2,e3⟩:=single _ _ h h1
  rw [e1]
  exact ⟨e2,e3⟩
theorem foldl_set (off:Nat):∀(l:List Value) (k:Nat) (C:Array Value),off+k+l.length≤C.size →
  ((l.zipIdx k).foldl (fun cs (p:Value×Nat)=>cs.setIfInBounds (off+p.2) p.1) C).size=C.size ∧
  ∀i,((l.zipIdx k).foldl (fun cs (p:Value×Nat)=>cs.setIfInBounds (off+p.2) p.1) C)[i]? = if off+k≤i∧i<off+k+l.length then l[i - (off+k)]? else C[i]?:=by
 intro l
 induction l with
 | nil=>intro k C h;simp;intro i h1 h2;omega
 | cons x l ih =>
  intro k C h
  simp only [List.length_cons] at h
  obtain ⟨h1,h2⟩:=ih (k+1) (C.setIfInBounds (off+k) x) (by simp;omega)
  simp only [List.zipIdx_cons,List.foldl_cons]
  refine ⟨by rw [h1];simp,fun i => ?_⟩
  rw [h2]
  by_cases hi:i=off+k
  ·subst hi
   rw [if_neg (by omega),if_pos (by simp)]
   simp only [Nat.sub_self,List.getElem?_cons_zero]
   rw [Array.getElem?_setIfInBounds_self]
   simp;omega
  ·by_cases hr:off+(k+1)≤i∧i<off+(k+1)+l.length
   ·rw [if_pos hr,if_pos (by simp;omega)]
    obtain ⟨j,hj⟩:∃j,i - (off+k)=j+1:=⟨i - (off+k) - 1,by omega⟩
    rw [hj,List.getElem?_cons_succ]
    congr 1
    omega
   ·rw [if_neg hr,if_neg (by simp;omega),Array.getElem?_setIfInBounds_ne (by omega)]
theorem Za8 {E:Env} (ht:TR E a s.t) (pl:Nat→Option (Nat×Nat)):∀(ps:List (Nat×Operand)) (l:List (Nat×Nat×Opd)) (cs cs':List AV) (C:Array Value),Q3 pl ps=some l→Ur s cs l=some cs' →
  R7 E cs C→(∀(j:Nat) (u:Value),C[j]? = some u→u.oneCell'=true) →
  ∃C',Instr.fill pl C (ps.map fun (i,x)=>(i,a.eval x))=some C'∧R7 E cs' C'∧(∀(j:Nat) (u:Value),C'[j]? = some u→u.oneCell'=true):=by
 intro ps
 induction ps with
 | nil=>intro l cs cs' C h1 h2 hc h3;simp [Q3] at h1;subst h1;simp [Ur] at h2;subst h2;exact ⟨C,rfl,hc,h3⟩
 | cons p ps ih =>
  obtain ⟨i,x⟩:=p
  intro l cs cs' C h1 h2 hc h3
  simp only [Q3] at h1
  cases hp:pl i with
  | none=>simp [hp] at h1
  | some q =>
   obtain ⟨o,n⟩:=q
   cases hx:Z6 x with
   | none=>simp [hp,hx] at h1
   | some X =>
    cases hl:Q3 pl ps with
    | none=>simp [hp,hx,hl] at h1
    | some l' =>
     simp [hp,hx,hl] at h1
     subst h1
     simp only [Ur] at h2
     cases hv:val s X with
     | none=>simp [hv] at h2
     | some u =>
      simp only [hv] at h2
      cases hco:u.cellsO with
      | none=>simp [hco] at h2
      | some us =>
       simp only [hco] at h2
       cases hf:Ha cs o n us with
       | none=>simp [hf] at h2
       | some cs1 =>
        simp only [hf] at h2
        have hu:=Zl ht hx hv
        obtain ⟨⟨hsz,hrel⟩,hone⟩:=cells_ok hu hco
        unfold Ha at hf
        split at hf
        ·rename_i hcond
         obtain ⟨hn,hle⟩:=hcond
         simp only [Option.some.injEq] at hf
         subst hf
         obtain ⟨f1,f2⟩:=foldl_set o (a.eval x).cells.toList 0 C (by have:=hc.1;simp;omega)
         simp only [List.map_cons,Instr.fill,hp]
         rw [if_neg (by have:=hc.1;simp;omega)]
         have harr:(a.eval x).cells.zipIdx.foldl (fun cs (p:Value×Nat)=>cs.setIfInBounds (o+p.2) p.1) C=((a.eval x).cells.toList.zipIdx 0).foldl (fun cs (p:Value×Nat)=>cs.setIfInBounds (o+p.2) p.1) C:=by
          rw [←Array.foldl_toList,Array.toList_zipIdx]
         rw [harr]
         refine ih l' _ cs' _ hl h2 ⟨?_,fun j y z hy hz => ?_⟩ (fun j z hz => ?_)
         ·rw [f1,←hc.1];simp;omega
         ·rw [f2] at hz
          by_cases hin:o+0≤j∧j<o+0+(a.eval x).cells.toList.length
          ·rw [if_pos hin] at hz
           have hj:¬j<o:=by omega
           have hlen:(cs.take o).length=o:=by simp;omega
           have hjl:j<o+n:=by simp at hin;omega
           rw [List.append_assoc,List.getElem?_append_right (by omega),hlen,List.getElem?_append_left (by omega)] at hy
           exact hrel (j - o) y z hy (by simpa using hz)
          ·rw [if_neg hin] at hz
           have hlen:(cs.take o).length=o:=by simp;omega
           refine hc.2 j y z ?_ hz
           simp at hin
           by_cases hj:j<o
           ·rw [List.append_assoc,List.getElem?_append_left (by omega),List.getElem?_take_of_lt hj] at hy;exact hy
           ·have hj':o+n≤j:=by have:=hin (by omega);omega
            rw [List.append_assoc,List.getElem?_append_right (by omega),hlen,List.getElem?_append_right (by omega),List.getElem?_drop] at hy
            rw [←hy];congr 1;omega
         ·rw [f2] at hz
          split at hz
          ·exact hone _ z (by simpa using hz)
          ·exact h3 _ z hz
        ·cases hf
end
theorem Mm {α β:Type} {f:α→Option β}:∀{l:List α} {r:List β},l.mapM f=some r→r.length=l.length∧∀(j:Nat) (x:α) (y:β),l[j]? = some x→r[j]? = some y→f x=some y:=by
 intro l
 induction l with
 | nil=>intro r h;simp at h;subst h;simp
 | cons x l ih =>
  intro r h
  simp only [List.mapM_cons,Option.bind_eq_bind,Option.pure_def] at h
  cases hx:f x with
  | none=>simp [hx] at h
  | some y =>
   cases hl:l.mapM f with
   | none=>simp [hx,hl] at h
   | some ys =>
    simp [hx,hl] at h
    subst h
    obtain ⟨i1,i2⟩:=ih hl
    refine ⟨by simp [i1],fun j a b ha hb => ?_⟩
    cases j with
    | zero=>simp at ha hb;subst ha hb;exact hx
    | succ j=>exact i2 j a b (by simpa using ha) (by simpa using hb)
theorem Ob {P:Program} {E:Env} {t:TypeId} {zs:List AV} (h:Hb P t=some zs):∃i z,P.info? t=some i∧i.zero=some z∧R7 E zs z.cells∧∀(j:Nat) (u:Value),z.cells[j]? = some u→u.oneCell'=true:=by
 unfold Hb at h
 cases hi:P.info? t with
 | none=>simp [hi] at h
 | some i =>
  cases hz:i.zero with
  | none=>simp [hi,hz] at h
  | some z =>
   simp [hi,hz] at h
   obtain ⟨h1,h2⟩:=Mm h
   refine ⟨i,z,rfl,hz,⟨by simpa using h1,fun j a v ha hv=>O8 (h2 j v a (by simpa using hv) ha)⟩,fun j u hu => ?_⟩
   have hlt:j<zs.length:=by
    have:j<z.cells.size:=(Array.getElem?_eq_some_iff.1 hu).1
    simp at h1;omega
   have:=h2 j u zs[j] (by simpa using hu) (List.getElem?_eq_getElem hlt)
   cases u <;> first | rfl | (simp [Bw] at this)
section
variable {P:Program} {h:List Blk} {s:St} {a:Act} {w:World} {L:Nat→Lc} {v:AV} {rs:List Nat} {drw:Option Nat}
theorem Z01 {E:Env} (ht:TR E a s.t) {dst:Option Tmp} {ty:TypeId} {pos:String} {after:Array Edge} {gd:Option (Nat×Bool)} {op:BinOp} {t yt:TypeId} {x y:Operand} {X Y:Opd} (hx:Z6 x=some X) (hy:Z6 y=some Y)
  (he:evP h s (.bin op X Y)=some (v,rs)):Yl P E ⟨dst,.binOp op t x y yt,ty,pos,after,gd⟩ a v rs:=by
 simp only [evP] at he
 cases hX:val s X with
 | none=>simp [hX] at he
 | some p =>
  cases hY:val s Y with
  | none=>simp [hX,hY] at he
  | some q =>
   simp only [hX,hY] at he
   obtain ⟨r,hr,e⟩:=Y3 he
   simp at e
   obtain ⟨rfl,rfl⟩:=e
   obtain ⟨cv,k1,k2⟩:=Zuw (P:=P) t x y hr (Zl ht hx hX) (Zl ht hy hY)
   exact ⟨cv,k1,fun w' _=>by simp only [execOp];rw [Sem.run_bind,k2 w'];rfl⟩
theorem Z4d {E:Env} (ht:TR E a s.t) {dst:Option Tmp} {ty:TypeId} {pos:String} {after:Array Edge} {gd:Option (Nat×Bool)} {op:BinOp} (hop:op = .eql∨op = .neq) {t yt:TypeId} {x y:Operand} {X Y:Opd} {ks:List LK} {ag:Bool} (hk:flatK P 20 t=some ks)
  (hag:V5 P t=some ag) (hg:P.eqGuardType P.depth t=false) (hx:Z6 x=some X) (hy:Z6 y=some Y)
  (he:evP h s (.eqs (op == .neq) ag ks X Y)=some (v,rs)):Yl P E ⟨dst,.binOp op t x y yt,ty,pos,after,gd⟩ a v rs:=by
 simp only [evP] at he
 cases hX:val s X with
 | none=>simp [hX] at he
 | some p =>
  cases hY:val s Y with
  | none=>simp [hX,hY] at he
  | some q =>
   simp only [hX,hY] at he
   cases hq:eqV ag ks p q with
   | none=>simp [hq] at he
   | some r =>
    simp [hq] at he
    obtain ⟨rfl,rfl⟩:=he
    have hp:=Zl ht hx hX
    have hq':=Zl ht hy hY
    have fin:(∀w',(eqGuard op t x y (a.eval x) (a.eval y)).run P w' = .ok () w')→(∀w',(Op.equalIn 10000 t (a.eval x) (a.eval y)).run P w' = .ok r w') →
      (∀w',(binOp op t (a.eval x) (a.eval y)).run P w'=((Op.equalIn 10000 t (a.eval x) (a.eval y)).run P w').andThen fun b w' => .ok (.bool (if op = .neq then !b else b)) w') →
      Yl P E ⟨dst,.binOp op t x y yt,ty,pos,after,gd⟩ a (.g (.bool (if op = .neq then !r else r))) []:=by
     intro h1 h2 h3
     refine ⟨_,.g (.bool _),fun w' _ => ?_⟩
     simp only [execOp]
     rw [Sem.run_bind,Sem.run_bind,h1,Result.andThen_ok,h3,h2]
     rfl
    unfold eqV at hq
    split at hq
    ·obtain ⟨xs,e1,h1,_⟩:=hp.crel
     obtain ⟨ys,e2,h2,_⟩:=hq'.crel
     rw [e1,e2] at fin
     refine fin (fun w'=>run_eqGuard_agg w' op t x y xs ys hg) (fun w'=>Bz 20 9980 t true ks _ _ xs ys r w' hk hag h1 h2 hq) (fun w' => ?_)
     rcases hop with rfl | rfl
     ·rw [run_eql_struct];rfl
     ·rw [run_neq_struct];rfl
    ·have one:∀(g:GV) (c:Value),GR E g c→R7 E [.g g] #[c]:=fun g c hgc=>⟨rfl,fun j a' v' ha' hv'=>by
      match j with
      | 0=>simp at ha' hv';subst ha' hv';exact .g hgc
      | j+1=>simp at ha'⟩
     rename_i ga gb
     have h2:=fun w'=>Bz (P:=P) (E:=E) 20 9980 t false ks _ _ #[a.eval x] #[a.eval y] r w' hk hag (one _ _ hp.inv_g) (one _ _ hq'.inv_g) hq
     simp only [mkV,Bool.false_eq_true,if_false] at h2
     have e0:∀(c:Value),(#[c]:Array Value).getD 0 Go.undef=c:=fun c=>rfl
     simp only [e0] at h2
     have hkind:∃k,ks=[k]:=by
      have:=(N4 hq).1
      match ks,this with
      | [k],_=>exact ⟨k,rfl⟩
     obtain ⟨k,rfl⟩:=hkind
     have hgg:∃r1,eqG k ga gb=some r1:=by
      cases hgk:eqG k ga gb with
      | none=>simp [eqL,hgk] at hq
      | some r1=>exact ⟨r1,rfl⟩
     obtain ⟨r1,hgg⟩:=hgg
     have hx1:=hp.inv_g
     have hy1:=hq'.inv_g
     clear fin
     cases ga <;> cases gb <;> cases k <;> simp [eqG] at hgg
     ·rw [hx1.inv_bool,hy1.inv_bool] at h2
      refine ⟨_,.g (.bool _),fun w' _ => ?_⟩
      simp only [execOp]
      rw [Sem.run_bind,Sem.run_bind,hx1.inv_bool,hy1.inv_bool,eqGuard_at_bool]
      rcases hop with rfl | rfl <;> simp [binOp,Op.equal,Op.maxDepth,h2]
     ·rw [hx1.inv_int,hy1.inv_int] at h2
      obtain ⟨rfl,hgg⟩:=hgg
      refine ⟨_,.g (.bool _),fun w' _ => ?_⟩
      simp only [execOp]
      rw [Sem.run_bind,Sem.run_bind,hx1.inv_int,hy1.inv_int,eqGuard_at_int]
      rcases hop with rfl | rfl <;> simp [binOp,Op.intCmp] <;> simp [eqL,eqG] at hq <;> rw [←hq] <;> rfl
     ·refine ⟨_,.g (.bool _),fun w' _ => ?_⟩
      simp only [execOp]
      rw [Sem.run_bind,Sem.run_bind,hx1.inv_str,hy1.inv_str,eqGuard_at_string]
      rcases hop with rfl | rfl <;> simp [binOp,Op.stringOp] <;> simp [eqL,eqG] at hq <;> rw [←hq]
    ·cases hq
theorem Za9 {E:Env} {k:Nat} {p:AV} {r:Bool} {c:Value} (h:isNil k p=some r) (hp:AR E p c) :
  (k=0∧∃A,c = .pointer A∧r=A.isNone)∨(k=1∧((c = .nilIface∧r=true)∨∃t u,c = .iface t u∧r=false)) ∨
  (k=2∧((c = .nilFunc∧r=true)∨∃f x y,c = .func f x y∧r=false))∨(k=3∧∃m,c = .map m∧r=m.isNone):=by
 unfold isNil at h
 split at h <;> (first | (cases h;done) | skip) <;> cases h
 ·cases hp.inv_g;exact .inl ⟨rfl,_,rfl,rfl⟩
 ·cases hp.inv_g;exact .inr (.inl ⟨rfl,.inl ⟨rfl,rfl⟩⟩)
 ·cases hp.inv_g;exact .inr (.inr (.inl ⟨rfl,.inl ⟨rfl,rfl⟩⟩))
 ·cases hp.inv_g;exact .inr (.inr (.inr ⟨rfl,_,rfl,rfl⟩))
 ·cases hp;exact .inl ⟨rfl,_,rfl,rfl⟩
 ·cases hp;exact .inl ⟨rfl,_,rfl,rfl⟩
 ·cases hp.inv_g;exact .inr (.inl ⟨rfl,.inr ⟨_,_,rfl,rfl⟩⟩)
 ·cases hp;exact .inr (.inl ⟨rfl,.inr ⟨_,_,rfl,rfl⟩⟩)
 ·cases hp.inv_g;exact .inr (.inr (.inl ⟨rfl,.inr ⟨_,_,_,rfl,rfl⟩⟩))
 ·cases hp;exact .inr (.inr (.inl ⟨rfl,.inr ⟨_,_,_,rfl,rfl⟩⟩))
 ·cases hp;exact .inr (.inr (.inl ⟨rfl,.inr ⟨_,_,_,rfl,rfl⟩⟩))
 ·cases hp;exact .inr (.inr (.inl ⟨rfl,.inr ⟨_,_,_,rfl,rfl⟩⟩))
 ·cases hp;exact .inr (.inr (.inr ⟨rfl,_,rfl,rfl⟩))
theorem Zip {t:TypeId} {y:Operand} {k:Nat} (h:Hy P t y=some k) :
  (k=0∧y = .const (.pointer none)∧∃e,P.underlying t=some (.pointer e))∨(k=1∧y = .const .nilIface∧∃e,P.underlying t=some (.interface e)) ∨
  (k=2∧y = .const .nilFunc∧∃a b c,P.underlying t=some (.func a b c))∨(k=3∧y = .const (.map none)∧∃a b,P.underlying t=some (.map a b)):=by
 unfold Hy at h
 split at h <;> (first | (cases h;done) | skip) <;> cases h
 ·rename_i hu;exact .inl ⟨rfl,rfl,_,hu⟩
 ·rename_i hu;exact .inr (.inl ⟨rfl,rfl,_,hu⟩)
 ·rename_i hu;exact .inr (.inr (.inl ⟨rfl,rfl,_,_,_,hu⟩))
 ·rename_i hu;exact .inr (.inr (.inr ⟨rfl,rfl,_,_,hu⟩))
theorem Vr {op:BinOp} (hop:op = .eql∨op = .neq) (t:TypeId) (cx cy:Value) (r:Bool) (w:World)
  (hb:binOp .eql t cx cy=Value.bool <$> Op.equal t cx cy∧binOp .neq t cx cy=(fun a=>Value.bool !a) <$> Op.equal t cx cy) (h:(Op.equalIn (9999+1) t cx cy).run P w = .ok r w) :
  (binOp op t cx cy).run P w = .ok (.bool (if op = .neq then !r else r)) w:=by
 have h':(Op.equal t cx cy).run P w = .ok r w:=h
 rcases hop with rfl | rfl
 ·rw [hb.1];simp [h']
 ·rw [hb.2];simp [h']
theorem Ziq (d:Nat) {t e:TypeId} (hu:P.underlying t=some (.pointer e)) (A:Option Addr) (w:World) :
  (Op.equalIn (d+1) t (.pointer A) (.pointer none)).run P w = .ok A.isNone w∧(Op.equalIn (d+1) t (.pointer none) (.pointer A)).run P w = .ok A.isNone w:=by
 cases A <;> simp [Op.equalIn,run_underlying hu]
theorem Zir (d:Nat) {t e1 e2:TypeId} (hu:P.underlying t=some (.map e1 e2)) (A:Option Nat) (w:World) :
  (Op.equalIn (d+1) t (.map A) (.map none)).run P w = .ok A.isNone w∧(Op.equalIn (d+1) t (.map none) (.map A)).run P w = .ok A.isNone w:=by
 cases A <;> simp [Op.equalIn,run_underlying hu]
theorem Zis (d:Nat) {t:TypeId} {e} (hu:P.underlying t=some (.interface e)) (w:World):(Op.equalIn (d+1) t .nilIface .nilIface).run P w = .ok true w:=by
 simp [Op.equalIn,run_underlying hu]
theorem Zit (d:Nat) {t:TypeId} {e} (hu:P.underlying t=some (.interface e)) (q:TypeId) (u:Value) (w:World) :
  (Op.equalIn (d+1) t (.iface q u) .nilIface).run P w = .ok false w∧(Op.equalIn (d+1) t .nilIface (.iface q u)).run P w = .ok false w:=by
 simp [Op.equalIn,run_underlying hu]
theorem Ziu (d:Nat) {t:TypeId} {e1 e2 e3} (hu:P.underlying t=some (.func e1 e2 e3)) (w:World):(Op.equalIn (d+1) t .nilFunc .nilFunc).run P w = .ok true w:=by
 simp [Op.equalIn,run_underlying hu]
theorem Ziv (d:Nat) {t:TypeId} {e1 e2 e3} (hu:P.underlying t=some (.func e1 e2 e3)) (f:Fn) (x y:Array Value) (w:World) :
  (Op.equalIn (d+1) t (.func f x y) .nilFunc).run P w = .ok false w∧(Op.equalIn (d+1) t .nilFunc (.func f x y)).run P w = .ok false w:=by
 simp [Op.equalIn,run_underlying hu]
theorem Ziw {E:Env} (ht:TR E a s.t) {dst:Option Tmp} {ty:TypeId} {pos:String} {after:Array Edge} {gd:Option (Nat×Bool)} {op:BinOp} (hop:op = .eql∨op = .neq) {t yt:TypeId} {x y:Operand} {X:Opd} {k:Nat}
  (hor:(Hy P t y=some k∧Z6 x=some X)∨(Hy P t x=some k∧Z6 y=some X))
  (he:evP h s (.isnil (op == .neq) k X)=some (v,rs)):Yl P E ⟨dst,.binOp op t x y yt,ty,pos,after,gd⟩ a v rs:=by
 simp only [evP] at he
 cases hX:val s X with
 | none=>simp [hX] at he
 | some p =>
  simp only [hX] at he
  cases hq:isNil k p with
  | none=>simp [hq] at he
  | some r =>
   simp [hq] at he
   obtain ⟨rfl,rfl⟩:=he
   have fin:(∀w',(eqGuard op t x y (a.eval x) (a.eval y)).run P w' = .ok () w')→(∀w',(binOp op t (a.eval x) (a.eval y)).run P w' = .ok (.bool (if op = .neq then !r else r)) w') →
     Yl P E ⟨dst,.binOp op t x y yt,ty,pos,after,gd⟩ a (.g (.bool (if op = .neq then !r else r))) []:=by
    intro h1 h2
    refine ⟨_,.g (.bool _),fun w' _ => ?_⟩
    simp only [execOp]
    rw [Sem.run_bind,Sem.run_bind,h1,Result.andThen_ok,h2]
    rfl
   rcases hor with ⟨hn,hx⟩ | ⟨hn,hx⟩
   ·have hk:=Za9 hq (Zl ht hx hX)
    rcases Zip hn with ⟨rfl,rfl,e,hu⟩ | ⟨rfl,rfl,e,hu⟩ | ⟨rfl,rfl,e1,e2,e3,hu⟩ | ⟨rfl,rfl,e1,e2,hu⟩
    ·rcases hk with ⟨_,A,hA,rfl⟩ | ⟨hk,_⟩ | ⟨hk,_⟩ | ⟨hk,_⟩ <;> try (cases hk;done)
     refine fin (fun w'=>by rw [hA,eqGuard_at_pointer];rfl) (fun w' => ?_)
     rw [hA]
     exact Vr hop t _ _ _ w' (by constructor <;> simp [binOp,Act.eval]) (Ziq 9999 hu A w').1
    ·rcases hk with ⟨hk,_⟩ | ⟨_,⟨hA,rfl⟩ | ⟨t',u,hA,rfl⟩⟩ | ⟨hk,_⟩ | ⟨hk,_⟩ <;> try (cases hk;done)
     ·refine fin (fun w'=>by rw [hA];show (eqGuard op t x (.const .nilIface) .nilIface .nilIface).run P w'=_;rw [eqGuard_nil_constR];rfl) (fun w' => ?_)
      rw [hA]
      exact Vr hop t _ _ _ w' (by constructor <;> simp [binOp,Act.eval]) (Zis 9999 hu w')
     ·refine fin (fun w'=>by rw [hA,eqGuard_at_iface];rfl) (fun w' => ?_)
      rw [hA]
      exact Vr hop t _ _ _ w' (by constructor <;> simp [binOp,Act.eval]) (Zit 9999 hu _ _ w').1
    ·rcases hk with ⟨hk,_⟩ | ⟨hk,_⟩ | ⟨_,⟨hA,rfl⟩ | ⟨f,x1,y1,hA,rfl⟩⟩ | ⟨hk,_⟩ <;> try (cases hk;done)
     ·refine fin (fun w'=>by rw [hA,eqGuard_at_nilFunc];rfl) (fun w' => ?_)
      rw [hA]
      exact Vr hop t _ _ _ w' (by constructor <;> simp [binOp,Act.eval]) (Ziu 9999 hu w')
     ·refine fin (fun w'=>by rw [hA,eqGuard_at_func];rfl) (fun w' => ?_)
      rw [hA]
      exact Vr hop t _ _ _ w' (by constructor <;> simp [binOp,Act.eval]) (Ziv 9999 hu _ _ _ w').1
    ·rcases hk with ⟨hk,_⟩ | ⟨hk,_⟩ | ⟨hk,_⟩ | ⟨_,m,hA,rfl⟩ <;> try (cases hk;done)
     refine fin (fun w'=>by rw [hA,eqGuard_at_map];rfl) (fun w' => ?_)
     rw [hA]
     exact Vr hop t _ _ _ w' (by constructor <;> simp [binOp,Act.eval]) (Zir 9999 hu m w').1
   ·have hk:=Za9 hq (Zl ht hx hX)
    rcases Zip hn with ⟨rfl,rfl,e,hu⟩ | ⟨rfl,rfl,e,hu⟩ | ⟨rfl,rfl,e1,e2,e3,hu⟩ | ⟨rfl,rfl,e1,e2,hu⟩
    ·rcases hk with ⟨_,A,hA,rfl⟩ | ⟨hk,_⟩ | ⟨hk,_⟩ | ⟨hk,_⟩ <;> try (cases hk;done)
     refine fin (fun w'=>by show (eqGuard op t _ y (.pointer none) _).run P w'=_;rw [eqGuard_at_pointer];rfl) (fun w' => ?_)
     rw [hA]
     exact Vr hop t _ _ _ w' (by constructor <;> simp [binOp,Act.eval]) (Ziq 9999 hu A w').2
    ·rcases hk with ⟨hk,_⟩ | ⟨_,⟨hA,rfl⟩ | ⟨t',u,hA,rfl⟩⟩ | ⟨hk,_⟩ | ⟨hk,_⟩ <;> try (cases hk;done)
     ·refine fin (fun w'=>by rw [hA];show (eqGuard op t (.const .nilIface) y .nilIface .nilIface).run P w'=_;rw [eqGuard_nil_constL];rfl) (fun w' => ?_)
      rw [hA]
      exact Vr hop t _ _ _ w' (by constructor <;> simp [binOp,Act.eval]) (Zis 9999 hu w')
     ·refine fin (fun w'=>by rw [hA];show (eqGuard op t _ y .nilIface _).run P w'=_;rw [eqGuard_nil_iface];rfl) (fun w' => ?_)
      rw [hA]
      exact Vr hop t _ _ _ w' (by constructor <;> simp [binOp,Act.eval]) (Zit 9999 hu _ _ w').2
    ·rcases hk with ⟨hk,_⟩ | ⟨hk,_⟩ | ⟨_,⟨hA,rfl⟩ | ⟨f,x1,y1,hA,rfl⟩⟩ | ⟨hk,_⟩ <;> try (cases hk;done)
     ·refine fin (fun w'=>by show (eqGuard op t _ y .nilFunc _).run P w'=_;rw [eqGuard_at_nilFunc];rfl) (fun w' => ?_)
      rw [hA]
      exact Vr hop t _ _ _ w' (by constructor <;> simp [binOp,Act.eval]) (Ziu 9999 hu w')
     ·refine fin (fun w'=>by show (eqGuard op t _ y .nilFunc _).run P w'=_;rw [eqGuard_at_nilFunc];rfl) (fun w' => ?_)
      rw [hA]
      exact Vr hop t _ _ _ w' (by constructor <;> simp [binOp,Act.eval]) (Ziv 9999 hu _ _ _ w').2
    ·rcases hk with ⟨hk,_⟩ | ⟨hk,_⟩ | ⟨hk,_⟩ | ⟨_,m,hA,rfl⟩ <;> try (cases hk;done)
     refine fin (fun w'=>by show (eqGuard op t _ y (.map none) _).run P w'=_;rw [eqGuard_at_map];rfl) (fun w' => ?_)
     rw [hA]
     exact Vr hop t _ _ _ w' (by constructor <;> simp [binOp,Act.eval]) (Zir 9999 hu m w').2
end
section
variable {P:Program} {h:List Blk} {s:St} {a:Act} {w:World} {L:Nat→Lc} {v:AV} {rs:List Nat} {drw:Option Nat}
theorem Q6 {x:Option AV} (he:x.map (·,([]:List Nat))=some (v,rs)):x=some v∧rs=[]:=by
 obtain ⟨z,h1,h2⟩:=Y3 he
 cases h2
 exact ⟨h1,rfl⟩
theorem Zba {P:Program} {t:TypeId} {b:Bool} {n:Nat} (ha:V5 P t=some b) (hs:szT P t=some n) (xs:Array Value) (off:Nat) (w:World) (hsz:(xs.extract off (off+n)).size=n) (hn:b=true∨0<n) :
  (part t xs off).run P w = .ok (mkV b (xs.extract off (off+n))) w:=by
 rw [P9 ha hs]
 cases b
 ·have h1:0<n:=by simpa using hn
  have hlt:off<xs.size:=by simp at hsz;omega
  simp only [Bool.false_eq_true,if_false,Array.getElem?_eq_getElem hlt,mkV]
  congr 1
  rw [Array.getD_eq_getD_getElem?,Array.getElem?_extract,if_pos (by omega)]
  simp [hlt]
 ·simp [mkV]
theorem B2 {E:Env} {ag:Bool} {n:Nat} {cs:List AV} {v:AV} (h:sub ag n cs=some v):ag=true∨0<n:=by
 unfold sub at h
 split at h
 ·cases ag
  ·unfold one at h
   simp at h
   match cs,h with
   | [c],_=>rename_i hl;simp at hl;right;omega
  ·exact .inl rfl
 ·cases h
theorem Zuy (hr:HR w (full h s) L) (ht:TR (Zc w (full h s) L) a s.t) {dst:Option Tmp} {ty:TypeId} {pos:String} {after:Array Edge} {gd:Option (Nat×Bool)} {t:TypeId} {p:Operand} {X:Opd} {ag:Bool} {n id o:Nat}
  (ha:V5 P t=some ag) (hs:szT P t=some n) (hc:ag=true∨n=1) (hx:Z6 p=some X) (hX:val s X=some (.ptr id o)) (he:evP h s (.load ag n X)=some (v,rs)) :
  ∃cv,AR (Zc w (full h s) L) v cv∧∀w',(∀b,(L id).blk=some b→w'.heap[b]? = w.heap[b]?)→(execOp a.eval ⟨dst,.load t p,ty,pos,after,gd⟩).run P w' = .ok (.value cv) w':=by
 simp only [evP,hX] at he
 have fin:∀b,(L id).blk=some b→(∃cv,AR (Zc w (full h s) L) v cv∧∀w',w'.heap[b]? = w.heap[b]?→(Instr.loadAt t (a.eval p)).run P w' = .ok cv w')→∃cv,AR (Zc w (full h s) L) v cv∧∀w',(∀b,(L id).blk=some b→w'.heap[b]? = w.heap[b]?)→(execOp a.eval ⟨dst,.load t p,ty,pos,after,gd⟩).run P w' = .ok (.value cv) w':=by
  rintro b hb ⟨cv,h1,h2⟩
  exact ⟨cv,h1,fun w' hw=>by simp only [execOp];rw [Sem.run_bind,h2 w' (hw b hb)];rfl⟩
 have hq:=Zl ht hx hX
 cases hB:Yp h s id with
 | none=>simp [hB] at he
 | some k =>
  cases k <;> simp [hB] at he
  all_goals
   rename_i cs
   obtain ⟨v',hsub,rfl,rfl⟩:=he
   have hk:HB (Zc w (full h s) L) id (.cells cs):=by first | exact hr.blk id _ (by rw [Z9];exact hB) | exact (hr.blk id _ (by rw [Z9];exact hB)).asCells
   obtain ⟨_,b,T,C,h1,h2,h3,h4⟩:=hk
   refine fin b h1 ?_
   generalize a.eval p=cp at hq ⊢
   cases hq with
   | ptr hid hgen hb =>
    rw [hb] at h1;cases h1
    refine D5 (o:=o) ha hs hc h2 (fun j x hj => ?_) hsub
    rw [List.getElem?_take] at hj
    split at hj
    ·rw [List.getElem?_drop] at hj;exact h4 _ _ hj
    ·cases hj
theorem Zpl (hr:HR w (full h s) L) (ht:TR (Zc w (full h s) L) a s.t) {dst:Option Tmp} {ty:TypeId} {pos:String} {after:Array Edge} {gd:Option (Nat×Bool)} {t:TypeId} {p:Operand} {X:Opd} {ag:Bool} {n:Nat} (ha:V5 P t=some ag) (hs:szT P t=some n) (hc:ag=true∨n=1)
  (hx:Z6 p=some X) (he:evP h s (.load ag n X)=some (v,rs)):Yl P (Zc w (full h s) L) ⟨dst,.load t p,ty,pos,after,gd⟩ a v rs:=by
 simp only [evP] at he
 have fin:(∃cv,AR (Zc w (full h s) L) v cv∧∀w',U6 (Zc w (full h s) L) rs w'→(Instr.loadAt t (a.eval p)).run P w' = .ok cv w')→Yl P (Zc w (full h s) L) ⟨dst,.load t p,ty,pos,after,gd⟩ a v rs:=by
  rintro ⟨cv,h1,h2⟩
  exact ⟨cv,h1,fun w' hw=>by simp only [execOp];rw [Sem.run_bind,h2 w' (hw rfl)];rfl⟩
 apply fin
 cases hX:val s X with
 | none=>simp [hX] at he
 | some q =>
  have hq:=Zl ht hx hX
  simp only [hX] at he
  split at he
  ·-- a variable
   rename_i id o e
   simp at e
   subst e
   cases hB:Yp h s id with
   | none=>simp [hB] at he
   | some k =>
    cases k <;> simp [hB] at he
    all_goals
     rename_i cs
     obtain ⟨v',hsub,rfl,rfl⟩:=he
     have hk:HB (Zc w (full h s) L) id (.cells cs):=by first | exact hr.blk id _ (by rw [Z9];exact hB) | exact (hr.blk id _ (by rw [Z9];exact hB)).asCells
     obtain ⟨_,b,T,C,h1,h2,h3,h4⟩:=hk
     generalize a.eval p=cp at hq ⊢
     cases hq with
     | ptr hid hgen hb =>
      rw [hb] at h1;cases h1
      refine Za7 (o:=o) ha hs hc h2 (fun j x hj => ?_) [id] (.inr ⟨id,by simp,hb⟩) hsub
      rw [List.getElem?_take] at hj
      split at hj
      ·rw [List.getElem?_drop] at hj;exact h4 _ _ hj
      ·cases hj
  ·-- memory that is only read
   rename_i cs e
   simp at e
   subst e
   obtain ⟨hsub,rfl⟩:=Q6 he
   exact Zux ha hs hc hq hsub
  ·-- a row's element
   rename_i id g sz i o e
   simp at e
   subst e
   cases hB:Yp h s id with
   | none=>simp [hB] at he
   | some k =>
    cases k <;> simp [hB] at he
    rename_i sz' g' els
    obtain ⟨⟨rfl,rfl⟩,he⟩:=he
    cases hi:els[i]? with
    | none=>simp [hi] at he
    | some el =>
     simp [hi] at he
     obtain ⟨v',hsub,rfl,rfl⟩:=he
     have hk:=hr.blk id _ (by rw [Z9];exact hB)
     obtain ⟨h0,h1,h2⟩:=hk
     generalize a.eval p=cp at hq ⊢
     cases hq with
     | rp hid hg0 hle hone hm =>
      obtain ⟨b,hb,rfl⟩:=hm h0.symm
      rw [hb] at h2
      obtain ⟨T,C,h3,h4⟩:=h2
      refine Za7 (o:=i*sz+o) ha hs hc h3 (fun j x hj => ?_) [id] (.inr ⟨id,by simp,hb⟩) hsub
      rw [List.getElem?_take] at hj
      split at hj
      ·rw [List.getElem?_drop,List.getElem?_map] at hj
       cases hq:el[o+j]? with
       | none=>simp [hq] at hj
       | some y =>
        simp [hq] at hj
        subst hj
        obtain ⟨u,hu1,hu2⟩:=(h4.2.2 i el hi).2 (o+j) y hq
        exact ⟨u,by rw [Nat.add_assoc];exact hu1,.g hu2,hu2.one⟩
      ·cases hj
  ·cases he
theorem Wu {o:Oper} {E:Env} {cv:Value} (h1:AR E v cv) (h2:∀w',(execOp a.eval o).run P w' = .ok (.value cv) w'):Yl P E o a v rs:=⟨cv,h1,fun w' _=>h2 w'⟩
theorem B3 (hr:HR w (full h s) L) {id g:Nat} (hc:cur h s id g=true):g=((Zc w (full h s) L).L id).gen:=by
 unfold cur at hc
 split at hc
 ·rename_i hB
  have hk:=hr.blk id _ (by rw [Z9];exact hB)
  exact (beq_iff_eq.mp hc).trans hk.1.symm
 ·rename_i hB
  have hk:=hr.blk id _ (by rw [Z9];exact hB)
  exact (beq_iff_eq.mp hc).trans hk.1.symm
 ·rename_i hB
  have hk:=hr.blk id _ (by rw [Z9];exact hB)
  exact (beq_iff_eq.mp hc).trans hk.1.symm
 ·cases hc
theorem Qi (hr:HR w (full h s) L) {id g sz off len:Nat} {c:Value} (hc:cur h s id g=true) (hx:AR (Zc w (full h s) L) (.ms id g sz off len) c) :
  id<(full h s).length∧0<(L id).gen∧g=(L id).gen∧Wb (L id) sz off len c:=by
 cases hx with
 | ms hid h0 hle h1 hm hz=>exact ⟨hid,h0,B3 hr hc,hm (B3 hr hc)⟩
theorem K5 (hr:HR w (full h s) L) {id g sz off len:Nat} {c:Value} (hc:cur h s id g=true) (hx:AR (Zc w (full h s) L) (.ms id g sz off len) c):g=1↔(L id).blk=none:=by
 cases hx with
 | ms hid h0 hle h1 hm hz=>exact hz (B3 hr hc)
theorem D6 (hr:HR w (full h s) L) {p:AV} {c:Value} {r:Bool} (he:R6 h s p=some r) (hx:AR (Zc w (full h s) L) p c):∃A n m,c = .slice A n m∧A.isNone=r:=by
 unfold R6 at he
 split at he
 ·cases he;cases hx.inv_g;exact ⟨none,0,0,rfl,rfl⟩
 ·cases he
  cases hx.inv_g with
  | sl=>exact ⟨_,_,_,rfl,rfl⟩
  | sl0=>exact ⟨_,_,_,rfl,rfl⟩
 ·split at he
  ·rename_i hc
   cases he
   obtain ⟨_,_,_,hm⟩:=Qi hr hc hx
   have hz:=K5 hr hc hx
   unfold Wb at hm
   cases hb:(L _).blk with
   | none =>
    rw [hb] at hm hz
    exact ⟨none,0,0,hm.1,by simp [hz.2 rfl]⟩
   | some b =>
    rw [hb] at hm hz
    obtain ⟨A,c',rfl,_⟩:=hm
    refine ⟨some A,_,_,rfl,?_⟩
    have:¬_=1:=fun e=>by cases hz.1 e
    simp [this]
  ·cases he
 ·cases he
theorem Zpm (d:Nat) {t e:TypeId} (hu:P.underlying t=some (.slice e)) (A:Option Addr) (n m:Nat) (w:World) :
  (Op.equalIn (d+1) t (.slice A n m) (.slice none 0 0)).run P w = .ok A.isNone w∧(Op.equalIn (d+1) t (.slice none 0 0) (.slice A n m)).run P w = .ok A.isNone w:=by
 cases A <;> simp [Op.equalIn,run_underlying hu]
theorem Zbb {t:TypeId} {y:Operand} (h:Nu P t y=true):y = .const (.slice none 0 0)∧∃e,P.underlying t=some (.slice e):=by
 unfold Nu at h
 split at h
 ·rename_i hu;exact ⟨rfl,_,hu⟩
 ·cases h
theorem Zbc (hr:HR w (full h s) L) (ht:TR (Zc w (full h s) L) a s.t) {dst:Option Tmp} {ty:TypeId} {pos:String} {after:Array Edge} {gd:Option (Nat×Bool)} {op:BinOp} (hop:op = .eql∨op = .neq) {t yt:TypeId} {x y:Operand} {X:Opd}
  (hor:(Nu P t y=true∧Z6 x=some X)∨(Nu P t x=true∧Z6 y=some X))
  (he:evP h s (.isnilS (op == .neq) X)=some (v,rs)):Yl P (Zc w (full h s) L) ⟨dst,.binOp op t x y yt,ty,pos,after,gd⟩ a v rs:=by
 simp only [evP] at he
 cases hX:val s X with
 | none=>simp [hX] at he
 | some p =>
  simp only [hX] at he
  cases hq:R6 h s p with
  | none=>simp [hq] at he
  | some r =>
   simp [hq] at he
   obtain ⟨rfl,rfl⟩:=he
   have fin:(∀w',(eqGuard op t x y (a.eval x) (a.eval y)).run P w' = .ok () w')→(∀w',(binOp op t (a.eval x) (a.eval y)).run P w' = .ok (.bool (if op = .neq then !r else r)) w') →
     Yl P (Zc w (full h s) L) ⟨dst,.binOp op t x y yt,ty,pos,after,gd⟩ a (.g (.bool (if op = .neq then !r else r))) []:=by
    intro h1 h2
    refine ⟨_,.g (.bool _),fun w' _ => ?_⟩
    simp only [execOp]
    rw [Sem.run_bind,Sem.run_bind,h1,Result.andThen_ok,h2]
    rfl
   rcases hor with ⟨hn,hx⟩ | ⟨hn,hx⟩
   ·obtain ⟨A,n,m,hA,rfl⟩:=D6 hr hq (Zl ht hx hX)
    obtain ⟨rfl,e,hu⟩:=Zbb hn
    refine fin (fun w'=>by rw [hA,eqGuard_at_slice];rfl) (fun w' => ?_)
    rw [hA]
    exact Vr hop t _ _ _ w' (by constructor <;> simp [binOp,Act.eval]) (Zpm 9999 hu A n m w').1
   ·obtain ⟨A,n,m,hA,rfl⟩:=D6 hr hq (Zl ht hx hX)
    obtain ⟨rfl,e,hu⟩:=Zbb hn
    refine fin (fun w'=>by show (eqGuard op t _ y (.slice none 0 0) _).run P w'=_;rw [eqGuard_at_slice];rfl) (fun w' => ?_)
    rw [hA]
    exact Vr hop t _ _ _ w' (by constructor <;> simp [binOp,Act.eval]) (Zpm 9999 hu A n m w').2
theorem Wb.slice {lc:Lc} {sz off len:Nat} {v:Value} (h:Wb lc sz off len v):∃A cap,v = .slice A len cap∧len≤cap:=by
 unfold Wb at h
 cases hb:lc.blk with
 | none=>rw [hb] at h;obtain ⟨rfl,_,rfl⟩:=h;exact ⟨_,_,rfl,by simp⟩
 | some b=>rw [hb] at h;obtain ⟨A,c,rfl,_,h2,_⟩:=h;exact ⟨_,_,rfl,h2⟩
theorem Z1o (hr:HR w (full h s) L) {x:AV} {c:Value} {n:Nat} (hl:X4 h s x=some n) (hx:AR (Zc w (full h s) L) x c):∃A cap,c = .slice A n cap:=by
 unfold X4 at hl
 split at hl
 ·cases hl
  have:=hx.inv_g;cases this
  ·exact ⟨_,_,rfl⟩
  ·exact ⟨_,_,rfl⟩
 ·cases hl;cases hx.inv_g;exact ⟨_,_,rfl⟩
 ·split at hl
  ·cases hl
   rename_i hc
   obtain ⟨A,cap,e,_⟩:=(Qi hr hc hx).2.2.2.slice
   exact ⟨A,cap,e⟩
  ·cases hl
 ·cases hl
theorem run_indexAt_slice {t e:TypeId} {sz:Nat} (hu:P.underlying t=some (.slice e)) (hs:szT P e=some sz) (A:Addr) (len cap:Nat) (k:IntKind) (n:Int) (h0:0≤n) (h1:n<len) (w:World) :
  (Instr.indexAt t (.slice (some A) len cap) (.int k n)).run P w = .ok (.pointer (some (A.add (n.toNat*sz)))) w:=by
 unfold Instr.indexAt
 simp only [asIntOf,pure_bind,Sem.run_bind,run_underlying hu,Result.andThen_ok,Sem.run_pure]
 rw [if_pos ⟨h0,h1⟩]
 simp [run_sizeOf hs]
theorem run_indexAt_array {t e:TypeId} {sz len:Nat} (hu:P.underlying t=some (.array len e)) (hs:szT P e=some sz) (A:Addr) (k:IntKind) (n:Int) (h0:0≤n) (h1:n<len) (w:World) :
  (Instr.indexAt t (.pointer (some A)) (.int k n)).run P w = .ok (.pointer (some (A.add (n.toNat*sz)))) w:=by
 unfold Instr.indexAt
 simp only [asIntOf,pure_bind,Sem.run_bind,run_underlying hu,Result.andThen_ok,Sem.run_pure,Instr.sureAddr]
 rw [if_pos ⟨h0,h1⟩]
 simp [run_sizeOf hs]
theorem Wq (b o n:Nat):(⟨b,o,none⟩:Addr).add n=⟨b,o+n,none⟩:=by unfold Addr.add;split <;> simp_all
end
section
variable {P:Program} {h:List Blk} {s:St} {a:Act} {w:World} {L:Nat→Lc} {v:AV} {rs:List Nat} {drw:Option Nat}
theorem Zuz (hr:HR w (full h s) L) (ht:TR (Zc w (full h s) L) a s.t) {o:Oper} {t e:TypeId} {x i:Operand} {X I:Opd} {sz:Nat} (ho:o.op = .indexAddr t x i) (hu:P.underlying t=some (.slice e)) (hs:szT P e=some sz) (hx:Z6 x=some X) (hi:Z6 i=some I)
  (he:evP h s (.iaddr sz X I)=some (v,rs)):Yl P (Zc w (full h s) L) o a v rs:=by
 simp only [evP] at he
 have fin:(∃cv,AR (Zc w (full h s) L) v cv∧∀w',(Instr.indexAt t (a.eval x) (a.eval i)).run P w' = .ok cv w')→Yl P (Zc w (full h s) L) o a v rs:=by
  rintro ⟨cv,h1,h2⟩
  exact ⟨cv,h1,fun w' hw=>by simp only [execOp,ho];rw [Sem.run_bind,h2 w'];rfl⟩
 apply fin
 split at he
 ·rename_i sz' els k n hX hI
  have hq:=Zl ht hx hX
  have hn:=(Zl ht hi hI).inv_g.inv_int
  split at he
  ·rename_i hc
   obtain ⟨rfl,h0⟩:=hc
   cases hel:els[n.toNat]? with
   | none=>simp [hel] at he
   | some el =>
    simp [hel] at he
    obtain ⟨rfl,rfl⟩:=he
    have hlt:n.toNat<els.length:=(List.getElem?_eq_some_iff.1 hel).1
    rw [hn]
    generalize a.eval x=cx at hq ⊢
    cases hq with | g hq =>
    cases hq with
    | sl c hcap hb hO hsz hc hg =>
     refine ⟨_,.cp (c n.toNat) hb hO (fun j y hj=>hc _ el j y hel hj) (fun j y hj=>hg _ el j y hel hj),fun w' => ?_⟩
     rw [run_indexAt_slice hu hs _ _ _ _ _ h0 (by omega),Wq]
    | sl0=>simp at hlt
  ·cases he
 ·rename_i id g sz' off len k n hX hI
  have hq:=Zl ht hx hX
  have hn:=(Zl ht hi hI).inv_g.inv_int
  split at he
  ·rename_i hc
   obtain ⟨rfl,h0,h1,hcur⟩:=hc
   simp at he
   obtain ⟨rfl,rfl⟩:=he
   obtain ⟨hid,hg0,hgen,hm⟩:=Qi hr hcur hq
   rw [hn]
   generalize a.eval x=cx at *
   unfold Wb at hm
   cases hb:(L id).blk with
   | none=>rw [hb] at hm;obtain ⟨_,_,rfl⟩:=hm;omega
   | some b =>
    rw [hb] at hm
    obtain ⟨A,c,rfl,h2,h3,h4⟩:=hm
    rcases h4 with rfl | h4
    ·refine ⟨.pointer (some ⟨b,(off+n.toNat)*sz+0,none⟩),.rp hid hg0 (by rw [hgen];exact Nat.le_refl _) rfl (fun _=>⟨b,hb,rfl⟩),fun w' => ?_⟩
     rw [run_indexAt_slice hu hs _ _ _ _ _ h0 h1,Wq,Nat.add_mul];rfl
    ·omega
  ·cases he
 ·cases he
theorem Zpn (ht:TR (Zc w (full h s) L) a s.t) {o:Oper} {t e:TypeId} {x i:Operand} {X I:Opd} {sz len:Nat} (ho:o.op = .indexAddr t x i) (hu:P.underlying t=some (.array len e)) (hs:szT P e=some sz) (hx:Z6 x=some X) (hi:Z6 i=some I)
  (he:evP h s (.iaddrA len sz X I)=some (v,rs)):Yl P (Zc w (full h s) L) o a v rs:=by
 simp only [evP] at he
 have fin:(∃cv,AR (Zc w (full h s) L) v cv∧∀w',(Instr.indexAt t (a.eval x) (a.eval i)).run P w' = .ok cv w')→Yl P (Zc w (full h s) L) o a v rs:=by
  rintro ⟨cv,h1,h2⟩
  exact ⟨cv,h1,fun w' hw=>by simp only [execOp,ho];rw [Sem.run_bind,h2 w'];rfl⟩
 apply fin
 split at he
 ·rename_i id off k n hX hI
  have hq:=Zl ht hx hX
  have hn:=(Zl ht hi hI).inv_g.inv_int
  split at he
  ·rename_i hc
   obtain ⟨h0,h1⟩:=hc
   simp at he
   obtain ⟨rfl,rfl⟩:=he
   rw [hn]
   generalize a.eval x=cx at *
   cases hq with
   | ptr hid hgen hb=>exact ⟨_,.ptr hid hgen hb,fun w'=>by rw [run_indexAt_array hu hs _ _ _ h0 h1,Wq]⟩
  ·cases he
 ·rename_i cs k n hX hI
  have hq:=Zl ht hx hX
  have hn:=(Zl ht hi hI).inv_g.inv_int
  split at he
  ·rename_i hc
   obtain ⟨h0,h1⟩:=hc
   simp at he
   obtain ⟨rfl,rfl⟩:=he
   rw [hn]
   generalize a.eval x=cx at *
   cases hq with
   | cp c hb hO hc hg =>
    refine ⟨_,.cp (fun j=>c (n.toNat*sz+j)) hb hO (fun j y hj => ?_) (fun j y hj => ?_),fun w'=>by rw [run_indexAt_array hu hs _ _ _ h0 h1,Wq]⟩
    ·rw [List.getElem?_drop] at hj
     have:=hc _ y hj
     rw [←this,Nat.add_assoc]
    ·rw [List.getElem?_drop] at hj;exact hg _ y hj
  ·cases he
 ·cases he
theorem Zu0 (hr:HR w (full h s) L) (ht:TR (Zc w (full h s) L) a s.t) {o:Oper} {t:TypeId} {f n:Nat} {fl:Field} {x:Operand} {X:Opd} (ho:o.op = .fieldAddr t x f) (hf:P6 P t f=some fl) (hs:szT P fl.type=some n) (hn:n ≠ 0) (hx:Z6 x=some X)
  (he:evP h s (.faddr fl.offset X)=some (v,rs)):Yl P (Zc w (full h s) L) o a v rs:=by
 simp only [evP] at he
 have fin:(∃cv,AR (Zc w (full h s) L) v cv∧∀w',(Instr.fieldAt t (a.eval x) f).run P w' = .ok cv w')→Yl P (Zc w (full h s) L) o a v rs:=by
  rintro ⟨cv,h1,h2⟩
  exact ⟨cv,h1,fun w' hw=>by simp only [execOp,ho];rw [Sem.run_bind,h2 w'];rfl⟩
 apply fin
 split at he
 ·rename_i id off hX
  have hq:=Zl ht hx hX
  cases he
  generalize a.eval x=cx at *
  cases hq with
  | ptr hid hgen hb=>exact ⟨_,.ptr hid hgen hb,fun w'=>Oa hf hs hn _ _ w'⟩
 ·rename_i cs hX
  have hq:=Zl ht hx hX
  cases he
  generalize a.eval x=cx at *
  cases hq with
  | cp c hb hO hc hg =>
   refine ⟨_,.cp (fun j=>c (fl.offset+j)) hb hO (fun j y hj => ?_) (fun j y hj => ?_),fun w'=>Oa hf hs hn _ _ w'⟩
   ·rw [List.getElem?_drop] at hj
    have:=hc _ y hj
    rw [←this,Nat.add_assoc]
   ·rw [List.getElem?_drop] at hj;exact hg _ y hj
 ·rename_i id g sz i off hX
  have hq:=Zl ht hx hX
  split at he
  ·rename_i hcur
   cases he
   generalize a.eval x=cx at *
   cases hq with
   | rp hid hg0 hle hone hm =>
    obtain ⟨b,hb,rfl⟩:=hm (B3 hr hcur)
    exact ⟨.pointer (some ⟨b,i*sz+off+fl.offset,none⟩),.rp hid hg0 hle rfl (fun _=>⟨b,hb,by rw [Nat.add_assoc]⟩),fun w'=>Oa hf hs hn _ _ w'⟩
  ·cases he
 ·cases he
end
section
variable {P:Program} {h:List Blk} {s:St} {a:Act} {w:World} {L:Nat→Lc} {v:AV} {rs:List Nat} {drw:Option Nat}
theorem Zll (ht:TR (Zc w (full h s) L) a s.t) {o:Oper} {t:TypeId} {f n:Nat} {fl:Field} {b:Bool} {x:Operand} {X:Opd} (ho:o.op = .field t x f) (hf:P6 P t f=some fl) (ha:V5 P fl.type=some b) (hs:szT P fl.type=some n) (hx:Z6 x=some X)
  (he:evP h s (.field b fl.offset n X)=some (v,rs)):Yl P (Zc w (full h s) L) o a v rs:=by
 simp only [evP] at he
 split at he
 ·rename_i cs hX
  obtain ⟨hsub,rfl⟩:=Q6 he
  obtain ⟨xs,e,hc,h1⟩:=(Zl ht hx hX).crel
  have hlen:((cs.drop fl.offset).take n).length=n:=by
   unfold sub at hsub;split at hsub
   ·assumption
   ·cases hsub
  have hle:fl.offset+n≤cs.length∨n=0:=by simp at hlen;omega
  by_cases hn0:n=0
  ·subst hn0
   have hb:b=true:=(B2 (E:=Zc w (full h s) L) hsub).resolve_right (by omega)
   subst hb
   have hv:v = .agg []:=by simp [sub,one] at hsub;exact hsub.symm
   subst hv
   refine ⟨.agg (xs.extract fl.offset (fl.offset+0)),.agg (by first | (simp;done) | (simp;omega)) (fun j a' v' hj=>by simp at hj) (fun j v' hj => ?_),fun w' hw => ?_⟩
   ·rw [Array.getElem?_extract] at hj;split at hj
    ·omega
    ·cases hj
   ·simp only [execOp,ho,e];rw [Sem.run_bind,Dz hf,P9 ha hs];rfl
  ·have hcr:=hc.extract fl.offset n (hle.resolve_right hn0)
   obtain ⟨hsz,hv⟩:=B0 hsub hcr (fun j u hj=>by
    rw [Array.getElem?_extract] at hj
    split at hj
    ·exact h1 _ _ hj
    ·cases hj)
   refine ⟨_,hv,fun w' hw => ?_⟩
   simp only [execOp,ho,e]
   rw [Sem.run_bind]
   rw [Dz hf,Zba ha hs xs fl.offset w' hsz (B2 (E:=Zc w (full h s) L) hsub)]
   rfl
 ·cases he
theorem Zfg (ht:TR (Zc w (full h s) L) a s.t) {o:Oper} {t e:TypeId} {sz len:Nat} {b:Bool} {x i:Operand} {X I:Opd} (ho:o.op = .index t x i) (hu:P.underlying t=some (.array len e)) (ha:V5 P e=some b) (hs:szT P e=some sz) (hx:Z6 x=some X) (hi:Z6 i=some I)
  (he:evP h s (.indexA b len sz X I)=some (v,rs)):Yl P (Zc w (full h s) L) o a v rs:=by
 simp only [evP] at he
 split at he
 ·rename_i cs k n hX hI
  have hn:=(Zl ht hi hI).inv_g.inv_int
  split at he
  ·rename_i hcond
   obtain ⟨h0,h1'⟩:=hcond
   obtain ⟨hsub,rfl⟩:=Q6 he
   obtain ⟨xs,e',hc,h1⟩:=(Zl ht hx hX).crel
   have hlen:((cs.drop (n.toNat*sz)).take sz).length=sz:=by
    unfold sub at hsub;split at hsub
    ·assumption
    ·cases hsub
   have hpos:=B2 (E:=Zc w (full h s) L) hsub
   have hle:n.toNat*sz+sz≤cs.length∨sz=0:=by simp at hlen;omega
   have hrun:∀w',(Instr.index t (.agg xs) (.int k n)).run P w'=(part e xs (n.toNat*sz)).run P w':=by
    intro w'
    unfold Instr.index
    simp only [asIntOf,pure_bind,Sem.run_bind,run_underlying hu,Result.andThen_ok]
    rw [if_pos ⟨h0,h1'⟩]
    simp [run_sizeOf hs]
   by_cases hn0:sz=0
   ·subst hn0
    have hb:b=true:=hpos.resolve_right (by omega)
    subst hb
    have hv:v = .agg []:=by simp [sub,one] at hsub;exact hsub.symm
    subst hv
    refine ⟨.agg (xs.extract (n.toNat*0) (n.toNat*0+0)),.agg (by first | (simp;done) | (simp;omega)) (fun j a' v' hj=>by simp at hj) (fun j v' hj => ?_),fun w' hw => ?_⟩
    ·rw [Array.getElem?_extract] at hj;split at hj
     ·omega
     ·cases hj
    ·simp only [execOp,ho,e',hn];rw [Sem.run_bind,hrun,P9 ha hs];rfl
   ·have hcr:=hc.extract (n.toNat*sz) sz (hle.resolve_right hn0)
    obtain ⟨hsz,hv⟩:=B0 hsub hcr (fun j u hj=>by
     rw [Array.getElem?_extract] at hj
     split at hj
     ·exact h1 _ _ hj
     ·cases hj)
    refine ⟨_,hv,fun w' hw => ?_⟩
    simp only [execOp,ho,e',hn]
    rw [Sem.run_bind,hrun,Zba ha hs xs _ w' hsz hpos]
    rfl
  ·cases he
 ·cases he
theorem Zlm (ht:TR (Zc w (full h s) L) a s.t) {o:Oper} {t:TypeId} {x i:Operand} {X I:Opd} (ho:o.op = .index t x i) (hu:P.underlying t=some .string) (hx:Z6 x=some X) (hi:Z6 i=some I)
  (he:evP h s (.index X I)=some (v,rs)):Yl P (Zc w (full h s) L) o a v rs:=by
 simp only [evP] at he
 split at he
 ·rename_i b k n hX hI
  have hn:=(Zl ht hi hI).inv_g.inv_int
  have hq:=(Zl ht hx hX).inv_g.inv_str
  split at he
  ·rename_i h0
   cases hc:b[n.toNat]? with
   | none=>simp [hc] at he
   | some c =>
    simp [hc] at he
    obtain ⟨rfl,rfl⟩:=he
    refine ⟨_,.g (.int _ _),fun w' hw => ?_⟩
    have hlt:n.toNat<b.length:=(List.getElem?_eq_some_iff.1 hc).1
    have hget:(ByteArray.mk b.toArray)[n.toNat]? = some c:=by
     rw [ByteArray.getElem?_lt' _ _ (show n.toNat<b.toArray.size by simpa using hlt)]
     have:=(List.getElem?_eq_some_iff.1 hc).2
     congr 1
    simp only [execOp,ho,hn,hq]
    rw [Sem.run_bind]
    unfold Instr.index
    simp only [asIntOf,pure_bind,Sem.run_bind,run_underlying hu,Result.andThen_ok,h0,if_true,hget,Sem.run_pure]
  ·cases he
 ·cases he
theorem Zln (ht:TR (Zc w (full h s) L) a s.t) {o:Oper} {t:TypeId} {ps:Array (Nat×Operand)} {z:List AV} {pl:Nat→Option (Nat×Nat)} {l:List (Nat×Nat×Opd)} (ho:o.op = .build t ps) (hz:Hb P t=some z) (hp:places P t=some pl) (hl:Q3 pl ps.toList=some l)
  (he:evP h s (.build z l)=some (v,rs)):Yl P (Zc w (full h s) L) o a v rs:=by
 simp only [evP] at he
 cases hf:Ur s z l with
 | none=>simp [hf] at he
 | some cs' =>
  simp [hf] at he
  obtain ⟨rfl,rfl⟩:=he
  obtain ⟨it,zv,hi,hzz,hcr,h1⟩:=Ob (E:=Zc w (full h s) L) hz
  obtain ⟨C',hfill,hcr',h1'⟩:=Za8 ht pl ps.toList l z cs' zv.cells hl hf hcr h1
  refine ⟨.agg C',.agg hcr'.1 hcr'.2 h1',fun w' hw => ?_⟩
  simp only [execOp,ho]
  rw [Sem.run_bind]
  have hb:P.built t ((ps.map fun (i,x)=>(i,a.eval x)).toList)=some C':=by
   unfold Program.built
   unfold places at hp
   cases hu:P.underlying t with
   | none=>simp [hu] at hp
   | some u =>
    cases u <;> simp [hu] at hp
    case struct fs =>
     cases hm:fs.toList.mapM (fun f=>(szT P f.type).map fun n=>(f.offset,n)) with
     | none=>simp [hm] at hp
     | some pls =>
      simp [hm] at hp
      have hm':fs.toList.mapM (fun f=>(P.info? f.type).map fun i=>(f.offset,i.size))=some pls:=by
       rw [←hm];congr 1;funext f;simp [szT,Function.comp_def]
      simp only [hi,hzz,hm']
      subst hp
      simpa using hfill
    case array n e =>
     obtain ⟨sz,hsz,rfl⟩:=hp
     have:∃ie,P.info? e=some ie∧ie.size=sz:=by
      unfold szT at hsz
      cases hie:P.info? e with
      | none=>simp [hie] at hsz
      | some ie=>simp [hie] at hsz;exact ⟨ie,rfl,hsz⟩
     obtain ⟨ie,hie,rfl⟩:=this
     simp only [hi,hzz,hie]
     simpa using hfill
  rw [run_build w' t _ C' hb]
  rfl
theorem Zu1 (hr:HR w (full h s) L) (ht:TR (Zc w (full h s) L) a s.t) {o:Oper} {t e:TypeId} {x:Operand} {lo hi:Option Operand} {X:Opd} {Lo Hi:Option Opd} {k:Nat} (ho:o.op = .slice t x lo hi none) (hu:P.underlying t=some (.slice e)) (hs:szT P e=some k) (hx:Z6 x=some X) (hlo:Qg lo=some Lo) (hhi:Qg hi=some Hi)
  (he:evP h s (.slc k X Lo Hi)=some (v,rs)):Yl P (Zc w (full h s) L) o a v rs:=by
 have fin:(∃cv,AR (Zc w (full h s) L) v cv∧∀w',(Instr.slice t (a.eval x) (lo.map a.eval) (hi.map a.eval) none).run P w' = .ok cv w')→Yl P (Zc w (full h s) L) o a v rs:=by
  rintro ⟨cv,h1,h2⟩
  refine ⟨cv,h1,fun w' hw => ?_⟩
  simp only [execOp,ho]
  rw [Sem.run_bind]
  unfold Instr.sliceAt
  rw [Sem.run_bind,run_underlying hu]
  simp only [Result.andThen_ok,Option.map_none,h2]
  rfl
 apply fin
 have hrun:∀(A:Option Addr) (len cap l u:Nat) (w':World),len≤cap→Xd s len Lo Hi=some (l,u) →
   (Instr.slice t (.slice A len cap) (lo.map a.eval) (hi.map a.eval) none).run P w' = .ok (.slice (if cap=l then A else A.map (·.add (l*k))) (u - l) (cap - l)) w':=by
  intro A len cap l u w' hle hcut
  unfold Instr.slice
  simp only [Sem.run_bind,run_underlying hu,Result.andThen_ok,Px ht hlo hhi hle hcut,run_sizeOf hs,Sem.run_pure]
 simp only [evP] at he
 split at he
 ·rename_i sz els hX
  have hq:=(Zl ht hx hX).inv_g
  split at he
  ·rename_i hk
   subst hk
   cases hcut:Xd s els.length Lo Hi with
   | none=>simp [hcut] at he
   | some lu =>
    obtain ⟨l,u⟩:=lu
    simp [hcut] at he
    obtain ⟨rfl,rfl⟩:=he
    obtain ⟨h1,h2,_⟩:=Q5 hcut
    obtain ⟨A,n,cap,e1,e2,e3,e4⟩:=hq.cut l u h1 h2
    subst e2
    rw [e1]
    exact ⟨_,.g e4,fun w'=>hrun A _ cap l u w' e3 hcut⟩
  ·cases he
 ·rename_i hX
  have hq:=(Zl ht hx hX).inv_g
  cases hcut:Xd s 0 Lo Hi with
  | none=>simp [hcut] at he
  | some lu =>
   obtain ⟨l,u⟩:=lu
   simp [hcut] at he
   obtain ⟨rfl,rfl⟩:=he
   obtain ⟨h1,h2,_⟩:=Q5 hcut
   have hl:l=0:=by omega
   have hu':u=0:=by omega
   subst hl hu'
   generalize a.eval x=cx at *
   cases hq
   exact ⟨_,.g .nsl,fun w'=>by rw [hrun none 0 0 0 0 w' (Nat.le_refl _) hcut];rfl⟩
 ·rename_i id g sz off len hX
  have hq:=Zl ht hx hX
  split at he
  ·rename_i hk
   subst hk
   cases hcut:Xd s len Lo Hi with
   | none =>
    simp only [hcut] at he
    unfold Zfc at he
    split at he
    case h_2=>cases he
    rename_i Hi'
    split at he
    case h_2=>cases he
    rename_i n hrl
    split at he
    case isFalse=>cases he
    rename_i hoff
    cases hcut2:Xd s (n - off) Lo (some Hi') with
    | none=>simp [hcut2] at he
    | some lu =>
     obtain ⟨l,u⟩:=lu
     simp [hcut2] at he
     obtain ⟨rfl,rfl⟩:=he
     obtain ⟨h1,h2,_⟩:=Q5 hcut2
     unfold rowLen at hrl
     split at hrl
     case h_2=>cases hrl
     rename_i sz2 g' els hB
     split at hrl
     case isFalse=>cases hrl
     rename_i hgg
     subst hgg
     cases hrl
     have hcur:cur h s id g=true:=by simp [cur,hB]
     obtain ⟨hid,hg0,hgen,hm⟩:=Qi hr hcur hq
     obtain ⟨_,_,hb⟩:=hr.blk id _ (by rw [Z9];exact hB)
     have hcap:els.length≤(L id).cap∧((L id).blk=none→els=[]):=by
      have hb':=hb
      cases hq2:(L id).blk with
      | none=>rw [show (Zc w (full h s) L).L id=L id from rfl,hq2] at hb';exact ⟨by rw [hb'.1];simp,fun _=>hb'.1⟩
      | some b=>rw [show (Zc w (full h s) L).L id=L id from rfl,hq2] at hb';obtain ⟨T,C,_,hrow⟩:=hb';exact ⟨hrow.2.1,fun e=>by cases e⟩
     obtain ⟨A,cap,e1,e2,e3⟩:=hm.cut2 l u h1 (fun e=>by have:=hcap.2 e;subst this;simp at h2;omega) (by omega)
     rw [e1]
     refine ⟨_,.ms hid hg0 (by rw [hgen];exact Nat.le_refl _) rfl (fun _=>e3) (fun _=>K5 hr hcur hq),fun w' => ?_⟩
     unfold Instr.slice
     simp only [Sem.run_bind,run_underlying hu,Result.andThen_ok,K0 ht hlo hhi (by simp) e2 hcut2,run_sizeOf hs,Sem.run_pure]
   | some lu =>
    obtain ⟨l,u⟩:=lu
    simp [hcut] at he
    obtain ⟨hcur,rfl,rfl⟩:=he
    obtain ⟨h1,h2,_⟩:=Q5 hcut
    obtain ⟨hid,hg0,hgen,hm⟩:=Qi hr hcur hq
    obtain ⟨A,cap,e1,e2,e3⟩:=hm.cut l u h1 h2
    rw [e1]
    exact ⟨_,.ms hid hg0 (by rw [hgen];exact Nat.le_refl _) rfl (fun _=>e3) (fun _=>K5 hr hcur hq),fun w'=>hrun A len cap l u w' e2 hcut⟩
  ·cases he
 ·cases he
theorem Zpo (hr:HR w (full h s) L) (ht:TR (Zc w (full h s) L) a s.t) {o:Oper} {t e:TypeId} {x lo hi mx:Operand} {X Lo Hi Mx:Opd} {k:Nat} (ho:o.op = .slice t x (some lo) (some hi) (some mx)) (hu:P.underlying t=some (.slice e)) (hs:szT P e=some k) (hx:Z6 x=some X) (hlo:Z6 lo=some Lo) (hhi:Z6 hi=some Hi) (hmx:Z6 mx=some Mx)
  (he:evP h s (.slc3 k X (some Lo) (some Hi) (some Mx))=some (v,rs)):Yl P (Zc w (full h s) L) o a v rs:=by
 simp only [evP] at he
 split at he
 case h_2=>cases he
 rename_i xv mv hX hM
 unfold Za6 at he
 split at he
 case h_2=>cases he
 rename_i id g sz off len km m
 split at he
 case isFalse=>cases he
 rename_i hc
 obtain ⟨rfl,hcur,hm0,hml⟩:=hc
 cases hcut:Xd s m.toNat (some Lo) (some Hi) with
 | none=>simp [hcut] at he
 | some lu =>
  obtain ⟨l,u⟩:=lu
  simp [hcut] at he
  obtain ⟨rfl,rfl⟩:=he
  have hq:=Zl ht hx hX
  obtain ⟨hid,hg0,hgen,hm⟩:=Qi hr hcur hq
  obtain ⟨A,cap,e1,e2,_⟩:=hm.cut 0 len (Nat.zero_le _) (Nat.le_refl _)
  have hmv:a.eval mx = .int km m.toNat:=by
   have:=(Zl ht hmx hM).inv_g.inv_int
   rw [this];congr 1;omega
  refine ⟨_,.any (v := .slice (if m.toNat=l then A else A.map (·.add (l*k))) (u - l) (m.toNat - l)) rfl,fun w' hw => ?_⟩
  simp only [execOp,ho]
  rw [Sem.run_bind]
  unfold Instr.sliceAt
  rw [Sem.run_bind,run_underlying hu]
  simp only [Result.andThen_ok,Option.map_some,e1]
  unfold Instr.slice
  have hsb:=K3 (P:=P) (isS:=true) (n:=len) (cap:=cap) ht hlo hhi hmv (by omega) hcut w'
  simp only [Sem.run_bind,run_underlying hu,Result.andThen_ok,hsb,run_sizeOf hs,Sem.run_pure]
theorem Zpp (ht:TR (Zc w (full h s) L) a s.t) {o:Oper} {t:TypeId} {x:Operand} {lo hi:Option Operand} {X:Opd} {Lo Hi:Option Opd} (ho:o.op = .slice t x lo hi none) (hu:P.underlying t=some .string) (hx:Z6 x=some X) (hlo:Qg lo=some Lo) (hhi:Qg hi=some Hi)
  (he:evP h s (.slcS X Lo Hi)=some (v,rs)):Yl P (Zc w (full h s) L) o a v rs:=by
 simp only [evP] at he
 split at he
 ·rename_i b hX
  have hq:=(Zl ht hx hX).inv_g.inv_str
  cases hcut:Xd s b.length Lo Hi with
  | none=>simp [hcut] at he
  | some lu =>
   obtain ⟨l,u⟩:=lu
   simp [hcut] at he
   obtain ⟨rfl,rfl⟩:=he
   refine ⟨_,.g (.str _),fun w' hw => ?_⟩
   simp only [execOp,ho,hq]
   rw [Sem.run_bind]
   unfold Instr.sliceAt
   rw [Sem.run_bind,run_underlying hu]
   simp only [Result.andThen_ok,Option.map_none]
   unfold Instr.slice
   have hsb:=Px (P:=P) ht (isS:=false) (cap:=b.length) hlo hhi (Nat.le_refl _) hcut w'
   simp only [Sem.run_bind,run_underlying hu,Result.andThen_ok,Option.isSome_none,Bool.false_eq_true,if_false,pure_bind,ByteArray.size_mk',List.size_toArray,hsb,Sem.run_pure,K4]
 ·cases he
end
section
variable {P:Program} {h:List Blk} {s:St} {a:Act} {w:World} {L:Nat→Lc} {v:AV} {rs:List Nat} {drw:Option Nat}
theorem Rc {x:Operand} {l:List Operand} {X:List Opd} (hx:Ww (x::l)=some X):∃Y Ys,X=Y::Ys∧Z6 x=some Y∧Ww l=some Ys:=by
 simp only [Ww] at hx
 cases h1:Z6 x with
 | none=>simp [h1] at hx
 | some Y=>cases h2:Ww l with
  | none=>simp [h1,h2] at hx
  | some Ys=>simp [h1,h2] at hx;exact ⟨Y,Ys,hx.symm,rfl,rfl⟩
theorem S6 {l:List Operand} {X:Opd} (hx:Ww l=some [X]):∃x,l=[x]∧Z6 x=some X:=by
 cases l with
 | nil=>simp [Ww] at hx
 | cons x l =>
  obtain ⟨Y,Ys,e,h1,h2⟩:=Rc hx
  cases l with
  | nil=>simp [Ww] at h2;subst h2;cases e;exact ⟨x,rfl,h1⟩
  | cons y l=>obtain ⟨_,_,e',_,_⟩:=Rc h2;subst e';cases e
theorem Zlo {l:List Operand} {X Y:Opd} (hx:Ww l=some [X,Y]):∃x y,l=[x,y]∧Z6 x=some X∧Z6 y=some Y:=by
 cases l with
 | nil=>simp [Ww] at hx
 | cons x l =>
  obtain ⟨Z,Zs,e,h1,h2⟩:=Rc hx
  cases e
  obtain ⟨y,rfl,hy⟩:=S6 h2
  exact ⟨x,y,rfl,h1,hy⟩
theorem Z1p {E:Env} (x y v:AV) (cx cy:Value) (h:mx2 x y=some v) (hx:AR E x cx) (hy:AR E y cy):∃cv,AR E v cv∧∀w',(Builtin.max2 cx cy).run P w' = .ok cv w':=by
 unfold mx2 at h
 split at h
 ·cases h
  rw [hx.inv_g.inv_int,hy.inv_g.inv_int]
  exact ⟨_,.g (.int _ _),fun w'=>by simp [Builtin.max2]⟩
 ·cases h
theorem Z1q {E:Env} (x y v:AV) (cx cy:Value) (h:mn2 x y=some v) (hx:AR E x cx) (hy:AR E y cy):∃cv,AR E v cv∧∀w',(Builtin.min2 cx cy).run P w' = .ok cv w':=by
 unfold mn2 at h
 split at h
 ·cases h
  rw [hx.inv_g.inv_int,hy.inv_g.inv_int]
  exact ⟨_,.g (.int _ _),fun w'=>by simp [Builtin.min2]⟩
 ·cases h
theorem Zlp (hr:HR w (full h s) L) (ht:TR (Zc w (full h s) L) a s.t) {dst:Option Tmp} {ty:TypeId} {pos:String} {after:Array Edge} {gd:Option (Nat×Bool)} {b:Builtin} {cargs:Array Operand} {cts:Array TypeId} {xs:List Opd} {ao:AOp} (hxs:Ww cargs.toList=some xs) (hc:Qh P b cts xs=some ao)
  (he:evP h s ao=some (v,rs)):Yl P (Zc w (full h s) L) ⟨dst,.call ⟨.builtin b,cargs,cts⟩,ty,pos,after,gd⟩ a v rs:=by
 have hrun:∀(v:AV) (rs:List Nat) (cv:Value),AR (Zc w (full h s) L) v cv→(∀w',(builtin b cts ty (cargs.map fun | .const _=>true | _=>false) (cargs.map a.eval)).run P w' = .ok (.value cv) w') →
   Yl P (Zc w (full h s) L) ⟨dst,.call ⟨.builtin b,cargs,cts⟩,ty,pos,after,gd⟩ a v rs:=by
  intro v rs cv h1 h2
  refine ⟨cv,h1,fun w' _ => ?_⟩
  simp only [execOp,resolve,pure_bind,invoke]
  exact h2 w'
 have harr:∀(l:List Operand),cargs.toList=l→cargs.map a.eval=(l.map a.eval).toArray:=by
  intro l hl;subst hl;rw [←Array.toList_map,Array.toArray_toList]
 have h0:0<cts.size→cts[0]? = some (cts.getD 0 0):=fun hlt=>by rw [Array.getD_eq_getD_getElem?,Array.getElem?_eq_getElem hlt];rfl
 unfold Qh at hc
 cases b <;> (try (cases hc;done)) <;> dsimp only at hc
 case len =>
  split at hc
  ·rename_i X hu
   obtain ⟨x,hl,hx⟩:=S6 hxs
   split at hc
   ·rename_i hsz
    cases hc
    simp only [evP] at he
    split at he
    ·rename_i bs hX
     cases he
     refine hrun _ _ _ (.g (.int _ _)) (fun w' => ?_)
     rw [harr _ hl]
     have ha0:([x].map a.eval).toArray[0]? = some (a.eval x):=rfl
     simp only [builtin]
     rw [Sem.run_bind]
     unfold Builtin.len_
     simp only [h0 (by omega),ha0,Sem.run_bind,run_underlying hu,Result.andThen_ok,(Zl ht hx hX).inv_g.inv_str]
     simp [goInt]
     show ((bs.toArray.size:Nat):Int)=_
     simp
    ·cases he
   ·cases hc
  ·rename_i X e hu
   obtain ⟨x,hl,hx⟩:=S6 hxs
   split at hc
   ·rename_i hsz
    cases hc
    simp only [evP] at he
    split at he
    ·rename_i q hX
     cases hn:X4 h s q with
     | none=>simp [hn] at he
     | some n =>
      simp [hn] at he
      obtain ⟨rfl,rfl⟩:=he
      obtain ⟨A,cap,e1⟩:=Z1o hr hn (Zl ht hx hX)
      refine hrun _ _ _ (.g (.int _ _)) (fun w' => ?_)
      rw [harr _ hl]
      have ha0:([x].map a.eval).toArray[0]? = some (a.eval x):=rfl
      simp only [builtin]
      rw [Sem.run_bind]
      unfold Builtin.len_
      simp only [h0 (by omega),ha0,Sem.run_bind,run_underlying hu,Result.andThen_ok,e1]
      simp [goInt]
    ·cases he
   ·cases hc
  ·cases hc
 case cap =>
  split at hc
  ·rename_i X e hu
   obtain ⟨x,hl,hx⟩:=S6 hxs
   split at hc
   ·rename_i hsz
    cases hc
    simp only [evP] at he
    split at he
    ·rename_i hX
     cases he
     have hq:=(Zl ht hx hX).inv_g
     generalize hcx:a.eval x=cx at hq
     cases hq
     refine hrun _ _ _ (.g (.int _ _)) (fun w' => ?_)
     rw [harr _ hl]
     have ha0:([x].map a.eval).toArray[0]? = some (a.eval x):=rfl
     simp only [builtin]
     rw [Sem.run_bind]
     unfold Builtin.cap_
     simp only [h0 (by omega),ha0,Sem.run_bind,run_underlying hu,Result.andThen_ok,hcx]
     simp [goInt]
    ·cases he
   ·cases hc
  ·cases hc
 case max =>
  split at hc
  ·rename_i X Xs
   cases hc
   obtain ⟨x,l,hl⟩:∃x l,cargs.toList=x::l:=by
    cases hq:cargs.toList with
    | nil=>rw [hq] at hxs;simp [Ww] at hxs
    | cons x l=>exact ⟨x,l,rfl⟩
   rw [hl] at hxs
   obtain ⟨Y,Ys,e,hx,hxs'⟩:=Rc hxs
   cases e
   simp only [evP] at he
   cases hvs:vals s Xs with
   | none=>simp [hvs] at he
   | some vs =>
    simp only [hvs] at he
    obtain ⟨hf,rfl⟩:=Q6 he
    obtain ⟨k1,k2⟩:=Rb ht hxs' hvs
    cases hX:val s X with
    | none=>rw [hX] at hf;cases vs <;> simp [Pv] at hf
    | some q =>
     rw [hX] at hf
     obtain ⟨cv,r1,r2⟩:=Zio (P:=P) mx2 Builtin.max2 (Z1p (P:=P)) vs (l.map a.eval) q v (a.eval x) hf (Zl ht hx hX) (by simpa using k1) (fun j a' c' e1 e2=>by
      simp at e2
      obtain ⟨y,hy,rfl⟩:=e2
      exact k2 j y a' hy e1)
     refine hrun _ _ cv r1 (fun w' => ?_)
     rw [harr _ hl]
     simp only [builtin]
     rw [Sem.run_bind]
     unfold Builtin.max_
     simp [r2]
  ·cases hc
 case min =>
  split at hc
  ·rename_i X Xs
   cases hc
   obtain ⟨x,l,hl⟩:∃x l,cargs.toList=x::l:=by
    cases hq:cargs.toList with
    | nil=>rw [hq] at hxs;simp [Ww] at hxs
    | cons x l=>exact ⟨x,l,rfl⟩
   rw [hl] at hxs
   obtain ⟨Y,Ys,e,hx,hxs'⟩:=Rc hxs
   cases e
   simp only [evP] at he
   cases hvs:vals s Xs with
   | none=>simp [hvs] at he
   | some vs =>
    simp only [hvs] at he
    obtain ⟨hf,rfl⟩:=Q6 he
    obtain ⟨k1,k2⟩:=Rb ht hxs' hvs
    cases hX:val s X with
    | none=>rw [hX] at hf;cases vs <;> simp [Pv] at hf
    | some q =>
     rw [hX] at hf
     obtain ⟨cv,r1,r2⟩:=Zio (P:=P) mn2 Builtin.min2 (Z1q (P:=P)) vs (l.map a.eval) q v (a.eval x) hf (Zl ht hx hX) (by simpa using k1) (fun j a' c' e1 e2=>by
      simp at e2
      obtain ⟨y,hy,rfl⟩:=e2
      exact k2 j y a' hy e1)
     refine hrun _ _ cv r1 (fun w' => ?_)
     rw [harr _ hl]
     simp only [builtin]
     rw [Sem.run_bind]
     unfold Builtin.min_
     simp [r2]
  ·cases hc
 case append =>
  split at hc
  ·split at hc
   ·split at hc
    ·cases hc;simp [evP] at he
    ·cases hc
   ·cases hc
  ·split at hc
   ·split at hc
    ·split at hc
     ·cases hc;simp [evP] at he
     ·cases hc
    ·cases hc
   ·cases hc
  ·split at hc
   ·split at hc
    ·cases hc;simp [evP] at he
    ·cases hc
   ·cases hc
  ·cases hc
 case unsafeSliceData=>split at hc <;> (try (cases hc;done)) <;> (cases hc;simp [evP] at he)
 case unsafeString=>split at hc <;> (try (cases hc;done)) <;> (split at hc <;> (try (cases hc;done)) <;> (cases hc;simp [evP] at he))
 case clear =>
  split at hc
  ·split at hc
   ·split at hc
    ·cases hc;simp [evP] at he
    ·cases hc
   ·cases hc
  ·cases hc
theorem Zpq (hr:HR w (full h s) L) (ht:TR (Zc w (full h s) L) a s.t) {o:Oper} {ao:AOp} (hc:cOp P drw o=some ao) (he:evP h s ao=some (v,rs)):Yl P (Zc w (full h s) L) o a v rs:=by
 cases ho:o.op with
 | move x =>
  simp [cOp,ho] at hc
  obtain ⟨X,hx,rfl⟩:=hc
  obtain ⟨hv,rfl⟩:=Q6 (by simpa [evP] using he)
  exact Wu (Zl ht hx hv) (fun w'=>by simp [execOp,ho])
 | assign x =>
  simp only [cOp,ho] at hc
  split at hc
  ·cases hE:Zil P o.type with
   | none=>simp [hE] at hc
   | some e=>cases hs:szT P e with
    | none=>simp [hE,hs] at hc
    | some n=>simp [hE,hs] at hc;subst hc;simp [evP] at he
  ·obtain ⟨X,hx,rfl⟩:=Y3 hc
   obtain ⟨hv,rfl⟩:=Q6 (by simpa [evP] using he)
   exact Wu (Zl ht hx hv) (fun w'=>by simp [execOp,ho])
 | pick c x y =>
  simp only [cOp,ho] at hc
  obtain ⟨C,hC,hc⟩:=Za hc
  obtain ⟨X,hx,hc⟩:=Za hc
  obtain ⟨Y,hy,hc⟩:=Za hc
  cases hc
  simp only [evP] at he
  split at he
  ·rename_i b hb
   have hb':=(Zl ht hC hb).inv_g.inv_bool
   cases b
   ·simp at he
    obtain ⟨v',h1,h2,h3⟩:=he
    subst h2 h3
    exact Wu (Zl ht hy h1) (fun w'=>by simp [execOp,ho,hb',asBool])
   ·simp at he
    obtain ⟨v',h1,h2,h3⟩:=he
    subst h2 h3
    exact Wu (Zl ht hx h1) (fun w'=>by simp [execOp,ho,hb',asBool])
  ·cases he
 | binOp op t x y yt =>
  obtain ⟨dst,o',ty,pos,after,gd⟩:=o
  simp only at ho
  subst ho
  simp only [cOp] at hc
  obtain ⟨X,hx,hc⟩:=Za hc
  obtain ⟨Y,hy,hc⟩:=Za hc
  have eqs:∀op,(op=BinOp.eql∨op=BinOp.neq)→(if By P t then some (AOp.bin op X Y) else match Hy P t y with
     | some k=>some (.isnil (op == .neq) k X)
     | none=>match Hy P t x with
      | some k=>some (.isnil (op == .neq) k Y)
      | none=>if Nu P t y=true then some (.isnilS (op == .neq) X) else if Nu P t x=true then some (.isnilS (op == .neq) Y) else if (op == .neq&&Zlj P t)=true then some (.neqp X Y) else match flatK P 20 t with
       | some ks=>if P.eqGuardType P.depth t=false then (V5 P t).map fun ag => .eqs (op == .neq) ag ks X Y else none
       | none=>none)=some ao→Yl P (Zc w (full h s) L) ⟨dst,.binOp op t x y yt,ty,pos,after,gd⟩ a v rs:=by
   intro op hop hc
   split at hc
   ·cases hc;exact Z01 ht hx hy he
   ·cases hn:Hy P t y with
    | some k=>simp only [hn] at hc;cases hc;exact Ziw ht hop (.inl ⟨hn,hx⟩) he
    | none =>
     simp only [hn] at hc
     cases hn':Hy P t x with
     | some k=>simp only [hn'] at hc;cases hc;exact Ziw ht hop (.inr ⟨hn',hy⟩) he
     | none =>
      simp only [hn'] at hc
      split at hc
      ·rename_i hsl;cases hc;exact Zbc hr ht hop (.inl ⟨hsl,hx⟩) he
      split at hc
      ·rename_i hsl;cases hc;exact Zbc hr ht hop (.inr ⟨hsl,hy⟩) he
      split at hc
      ·cases hc;simp [evP] at he
      cases hk:flatK P 20 t with
      | none=>simp [hk] at hc
      | some ks =>
       simp only [hk] at hc
       split at hc
       ·rename_i hg
        obtain ⟨ag,hag,rfl⟩:=Y3 hc
        exact Z4d ht hop hk hag hg hx hy he
       ·cases hc
  cases op <;> simp only [] at hc <;> first
   | exact eqs _ (.inl rfl) hc
   | exact eqs _ (.inr rfl) hc
   | (cases hc;exact Z01 ht hx hy he)
 | unOp op t x =>
  simp only [cOp,ho] at hc
  obtain ⟨X,hx,hc⟩:=Za hc
  cases hc
  simp only [evP] at he
  split at he
  ·rename_i b hb
   cases he
   exact Wu (.g (.bool _)) (fun w'=>by simp [execOp,ho,(Zl ht hx hb).inv_g.inv_bool,Op.unary])
  ·rename_i k n hb
   cases he
   exact Wu (.g (.int _ _)) (fun w'=>by simp [execOp,ho,(Zl ht hx hb).inv_g.inv_int,Op.unary,Op.intArith])
  ·cases he
 | convert t1 t2 x =>
  simp only [cOp,ho] at hc
  obtain ⟨X,hx,hc⟩:=Za hc
  split at hc
  ·rename_i k1 k2 hu1 hu2
   cases hc
   simp only [evP] at he
   split at he
   ·rename_i k n hb
    cases he
    refine Wu (.g (.int _ _)) (fun w' => ?_)
    simp only [execOp,ho,(Zl ht hx hb).inv_g.inv_int]
    rw [Sem.run_bind]
    unfold convert
    simp only [Sem.run_bind,run_underlying hu1,run_underlying hu2,Result.andThen_ok,Conv.intToInt,Sem.run_pure]
   ·cases he
  ·rename_i hu1 hu2
   cases hc
   simp only [evP] at he
   split at he
   ·rename_i b hb
    cases he
    refine Wu (.g (.str _)) (fun w' => ?_)
    simp only [execOp,ho,(Zl ht hx hb).inv_g.inv_str]
    rw [Sem.run_bind]
    unfold convert
    simp only [Sem.run_bind,run_underlying hu1,run_underlying hu2,Result.andThen_ok,Sem.run_pure]
   ·cases he
  ·split at hc
   ·cases hc;simp [evP] at he
   ·cases hc
  ·split at hc
   ·cases hc;simp [evP] at he
   ·cases hc
  ·split at hc
   ·split at hc
    ·cases hc;simp [evP] at he
    ·cases hc
   ·cases hc
  ·split at hc
   ·cases hc;simp [evP] at he
   ·cases hc
  ·cases hc
 | field t x f =>
  simp only [cOp,ho] at hc
  obtain ⟨fl,hf,hc⟩:=Za hc
  obtain ⟨b,hb,hc⟩:=Za hc
  obtain ⟨n,hn,hc⟩:=Za hc
  obtain ⟨X,hx,hc⟩:=Za hc
  cases hc
  exact Zll ht ho hf hb hn hx he
 | fieldAddr t x f =>
  simp only [cOp,ho] at hc
  obtain ⟨fl,hf,hc⟩:=Za hc
  obtain ⟨n,hn,hc⟩:=Za hc
  split at hc
  ·rename_i hn0
   obtain ⟨X,hx,hc⟩:=Za hc
   cases hc
   exact Zu0 hr ht ho hf hn hn0 hx he
  ·cases hc
 | indexAddr t x i =>
  simp only [cOp,ho] at hc
  split at hc
  ·rename_i e hu
   obtain ⟨n,hn,hc⟩:=Za hc
   obtain ⟨X,hx,hc⟩:=Za hc
   obtain ⟨I,hi,hc⟩:=Za hc
   cases hc
   exact Zuz hr ht ho hu hn hx hi he
  ·rename_i len e hu
   obtain ⟨n,hn,hc⟩:=Za hc
   obtain ⟨X,hx,hc⟩:=Za hc
   obtain ⟨I,hi,hc⟩:=Za hc
   cases hc
   exact Zpn ht ho hu hn hx hi he
  ·cases hc
 | index t x i =>
  simp only [cOp,ho] at hc
  split at hc
  ·rename_i hu
   obtain ⟨X,hx,hc⟩:=Za hc
   obtain ⟨I,hi,hc⟩:=Za hc
   cases hc
   exact Zlm ht ho hu hx hi he
  ·rename_i len e hu
   obtain ⟨b,hb,hc⟩:=Za hc
   obtain ⟨n,hn,hc⟩:=Za hc
   obtain ⟨X,hx,hc⟩:=Za hc
   obtain ⟨I,hi,hc⟩:=Za hc
   cases hc
   exact Zfg ht ho hu hb hn hx hi he
  ·cases hc
 | load t p =>
  obtain ⟨dst,o',ty,pos,after,gd⟩:=o
  simp only at ho
  subst ho
  simp only [cOp] at hc
  obtain ⟨ag,ha,hc⟩:=Za hc
  obtain ⟨n,hn,hc⟩:=Za hc
  split at hc
  ·rename_i hcond
   obtain ⟨X,hx,hc⟩:=Za hc
   cases hc
   exact Zpl hr ht ha hn hcond hx he
  ·cases hc
 | store t p x =>
  simp only [cOp,ho] at hc
  obtain ⟨_,_,hc⟩:=Za hc
  obtain ⟨_,_,hc⟩:=Za hc
  obtain ⟨_,_,hc⟩:=Za hc
  cases hc;simp [evP] at he
 | extract x j =>
  simp only [cOp,ho] at hc
  obtain ⟨X,hx,rfl⟩:=Y3 hc
  simp only [evP] at he
  split at he
  ·rename_i vs hX
   cases hj:vs[j]? with
   | none=>simp [hj] at he
   | some u =>
    simp [hj] at he
    obtain ⟨rfl,rfl⟩:=he
    have hq:=Zl ht hx hX
    generalize hcx:a.eval x=cx at hq
    cases hq with
    | @tup _ C hn hh =>
     have hlt:j<C.size:=by rw [←hn];exact (List.getElem?_eq_some_iff.1 hj).1
     exact Wu (hh j _ _ hj (Array.getElem?_eq_getElem hlt)) (fun w'=>by simp [execOp,ho,hcx,Instr.extract,Array.getElem?_eq_getElem hlt])
  ·cases he
 | build t ps =>
  simp only [cOp,ho] at hc
  obtain ⟨z,hz,hc⟩:=Za hc
  obtain ⟨pl,hpl,hc⟩:=Za hc
  obtain ⟨l,hl,hc⟩:=Za hc
  cases hc
  exact Zln ht ho hz hpl hl he
 | slice t x lo hi mx =>
  simp only [cOp,ho] at hc
  split at hc
  ·rename_i hu
   split at hc
   ·rename_i hm
    have hm':mx=none:=by simpa using hm
    subst hm'
    obtain ⟨X,hx,hc⟩:=Za hc
    obtain ⟨Lo,hlo,hc⟩:=Za hc
    obtain ⟨Hi,hhi,hc⟩:=Za hc
    cases hc
    exact Zpp ht ho hu hx hlo hhi he
   ·cases hc
  ·rename_i e hu
   split at hc
   ·rename_i hm
    have hm':mx=none:=by simpa using hm
    subst hm'
    obtain ⟨k,hk,hc⟩:=Za hc
    obtain ⟨X,hx,hc⟩:=Za hc
    obtain ⟨Lo,hlo,hc⟩:=Za hc
    obtain ⟨Hi,hhi,hc⟩:=Za hc
    cases hc
    exact Zu1 hr ht ho hu hk hx hlo hhi he
   ·obtain ⟨k,hk,hc⟩:=Za hc
    obtain ⟨X,hx,hc⟩:=Za hc
    obtain ⟨Lo,hlo,hc⟩:=Za hc
    obtain ⟨Hi,hhi,hc⟩:=Za hc
    obtain ⟨Mx,hmx,hc⟩:=Za hc
    cases hc
    cases Lo with
    | none=>simp [evP] at he
    | some Lo =>
    cases Hi with
    | none=>simp [evP] at he
    | some Hi =>
    cases Mx with
    | none=>simp [evP] at he
    | some Mx =>
    rcases Ra ht hlo with ⟨_,e⟩ | ⟨lo',_,rfl,e1,_⟩
    ·cases e
    rcases Ra ht hhi with ⟨_,e⟩ | ⟨hi',_,rfl,e2,_⟩
    ·cases e
    rcases Ra ht hmx with ⟨_,e⟩ | ⟨mx',_,rfl,e3,_⟩
    ·cases e
    have g:∀{x:Operand} {X:Opd},Qg (some x)=some (some X)→Z6 x=some X:=fun h=>by
     simp only [Qg] at h
     simpa using h
    exact Zpo hr ht ho hu hk hx (g hlo) (g hhi) (g hmx) he
  ·cases hc
 | makeInterface t x =>
  simp only [cOp,ho] at hc
  split at hc
  ·cases hc
  ·rename_i u hnu hu
   obtain ⟨X,hx,rfl⟩:=Y3 hc
   have hrun:∀w',(Instr.makeInterface t (a.eval x)).run P w' = .ok (.iface t (a.eval x)) w':=fun w'=>by
    unfold Instr.makeInterface
    rw [Sem.run_bind,run_underlying hu]
    cases u <;> first | rfl | (exact (hnu _ rfl).elim)
   simp only [evP] at he
   split at he
   ·rename_i g hX
    cases he
    exact Wu (.g (.ifc t (Zl ht hx hX).inv_g)) (fun w'=>by simp only [execOp,ho];rw [Sem.run_bind,hrun];rfl)
   ·rename_i i off hX
    cases he
    exact Wu (.ifa t (Zl ht hx hX)) (fun w'=>by simp only [execOp,ho];rw [Sem.run_bind,hrun];rfl)
   ·cases he
  ·cases hc
 | makeFunc fn first caps =>
  cases fn <;> simp only [cOp,ho] at hc <;> try (cases hc;done)
  ·rename_i f
   split at hc
   ·rename_i hf
    have hf':first = #[]:=Array.eq_empty_of_size_eq_zero hf
    subst hf'
    obtain ⟨Xs,hxs,hc⟩:=Za hc
    cases hc
    simp only [evP] at he
    split at he
    ·cases he
     rename_i hnil
     have:caps.toList=[]:=by
      cases hl:caps.toList with
      | nil=>rfl
      | cons x xs =>
       rw [hl] at hxs
       simp only [Ww] at hxs
       split at hxs
       ·cases hxs
       ·cases hxs
     have hcaps:caps = #[]:=by
      apply Array.ext';simpa using this
     subst hcaps
     exact Wu (.g (.fn f)) (fun w'=>by simp [execOp,ho,Instr.makeFunc])
    ·cases hvs:vals s Xs with
     | none=>simp [hvs] at he
     | some vs =>
      simp [hvs] at he
      obtain ⟨rfl,rfl⟩:=he
      obtain ⟨h1,h2⟩:=Rb ht hxs hvs
      refine Wu (.fv (C:=caps.map a.eval) (by simpa using h1) (fun j x c hx hc => ?_)) (fun w'=>by simp [execOp,ho,Instr.makeFunc])
      simp at hc
      obtain ⟨y,hy,rfl⟩:=hc
      exact h2 j y x (by simpa using hy) hx
   ·split at hc
    ·rename_i hf
     have hf':caps = #[]:=Array.eq_empty_of_size_eq_zero hf
     subst hf'
     obtain ⟨Xs,hxs,hc⟩:=Za hc
     cases hc
     simp only [evP] at he
     cases hvs:vals s Xs with
     | none=>simp [hvs] at he
     | some vs =>
      simp [hvs] at he
      obtain ⟨rfl,rfl⟩:=he
      obtain ⟨h1,h2⟩:=Rb ht hxs hvs
      refine Wu (.bv (C:=first.map a.eval) (by simpa using h1) (fun j x c hx hc => ?_)) (fun w'=>by simp [execOp,ho,Instr.makeFunc])
      simp at hc
      obtain ⟨y,hy,rfl⟩:=hc
      exact h2 j y x (by simpa using hy) hx
    ·cases hc
  ·rename_i t p f q
   split at hc
   ·rename_i hf
    obtain ⟨hf1,hf2⟩:=hf
    have hf':first = #[]:=Array.eq_empty_of_size_eq_zero hf1
    have hf'':caps = #[]:=Array.eq_empty_of_size_eq_zero hf2
    subst hf' hf''
    cases hc
    simp [evP] at he
    obtain ⟨rfl,rfl⟩:=he
    exact Wu (.via t p.toList f q) (fun w'=>by simp [execOp,ho,Instr.makeFunc])
   ·cases hc
 | nilCheck x =>
  simp only [cOp,ho] at hc
  obtain ⟨X,hx,rfl⟩:=Y3 hc
  simp only [evP] at he
  split at he <;> (try (cases he;done)) <;> (rename_i hX;cases he;have hq:=Zl ht hx hX;generalize hcx:a.eval x=cx at hq)
  ·cases hq;exact Wu (.ptr (by assumption) (by assumption) (by assumption)) (fun w'=>by simp [execOp,ho,hcx])
  ·cases hq;exact Wu (.cp _ (by assumption) (by assumption) (by assumption) (by assumption)) (fun w'=>by simp [execOp,ho,hcx])
  ·cases hq;exact Wu (.fv (by assumption) (by assumption)) (fun w'=>by simp [execOp,ho,hcx])
  ·cases hq.inv_g;exact Wu (.g (.fn _)) (fun w'=>by simp [execOp,ho,hcx])
  ·have:=hq.inv_g;cases this;exact Wu (.g (.ifc _ (by assumption))) (fun w'=>by simp [execOp,ho,hcx])
  ·cases hq;exact Wu (.ifa _ (by assumption)) (fun w'=>by simp [execOp,ho,hcx])
 | call c =>
  obtain ⟨dst,o',ty,pos,after,gd⟩:=o
  simp only at ho
  subst ho
  obtain ⟨callee,cargs,cts⟩:=c
  simp only [cOp,Zin] at hc
  cases callee with
  | value f =>
   dsimp only at hc
   split at hc
   ·cases hc;simp [evP] at he
   ·cases hc
  | invoke r m=>cases hc
  | builtin b =>
   dsimp only at hc
   split at hc
   ·rename_i xs hxs;exact Zlp hr ht hxs hc he
   ·cases hc
 | alloc t =>
  simp only [cOp,ho] at hc
  obtain ⟨z,_,hc⟩:=Za hc
  split at hc
  ·split at hc <;> (cases hc;simp [evP] at he)
  ·cases hc;simp [evP] at he
 | box t x =>
  simp only [cOp,ho] at hc
  split at hc
  ·obtain ⟨_,_,hc⟩:=Za hc;cases hc;simp [evP] at he
  ·cases hc
 | buildSlice t n ps =>
  simp only [cOp,ho] at hc
  split at hc
  ·split at hc
   ·split at hc
    ·cases hc;simp [evP] at he
    split at hc
    ·split at hc
     ·cases hc;simp [evP] at he
     ·cases hc
    ·cases hc
   ·cases hc
  ·cases hc
 | makeSlice t l c =>
  simp only [cOp,ho] at hc
  split at hc
  ·split at hc
   ·cases hc;simp [evP] at he
   ·cases hc
  ·cases hc
 | makeMap t r =>
  simp only [cOp,ho] at hc
  split at hc
  ·split at hc <;> (cases hc;simp [evP] at he)
  ·cases hc
 | lookup t x k cm =>
  simp only [cOp,ho] at hc
  split at hc
  ·obtain ⟨_,_,hc⟩:=Za hc
   obtain ⟨_,_,hc⟩:=Za hc
   cases hc;simp [evP] at he
  ·split at hc
   ·obtain ⟨_,_,hc⟩:=Za hc
    obtain ⟨_,_,hc⟩:=Za hc
    cases hc;simp [evP] at he
   ·cases hc
 | mapUpdate t x k y =>
  simp only [cOp,ho] at hc
  split at hc
  ·obtain ⟨_,_,hc⟩:=Za hc
   obtain ⟨_,_,hc⟩:=Za hc
   obtain ⟨_,_,hc⟩:=Za hc
   cases hc;simp [evP] at he
  ·split at hc
   ·obtain ⟨_,_,hc⟩:=Za hc
    obtain ⟨_,_,hc⟩:=Za hc
    obtain ⟨_,_,hc⟩:=Za hc
    cases hc;simp [evP] at he
   ·cases hc
 | insert t x k y =>
  simp only [cOp,ho] at hc
  split at hc
  ·obtain ⟨_,_,hc⟩:=Za hc
   obtain ⟨_,_,hc⟩:=Za hc
   obtain ⟨_,_,hc⟩:=Za hc
   cases hc;simp [evP] at he
  ·cases hc
 | _=>simp only [cOp,ho] at hc;cases hc
end
theorem Xl (h:List Blk) (id:Nat) (b:Blk):∀m:List (Nat×Blk),Zv h (To m id b)=(Zv h m).set id b
 | []=>rfl
 | (a,v)::t=>by
  simp only [To]
  by_cases e:a=id
  ·subst e;simp [Zv,List.set_set]
  ·rw [if_neg e]
   simp only [Zv,Xl h id b t]
   rw [List.set_comm _ _ (Ne.symm e)]
theorem Yg (h:List Blk) (s:St) (id:Nat) (b:Blk):full h (setB h s id b)=(full h s).set id b:=by
 unfold setB full
 split
 ·rename_i hi
  simp only [Xl]
  rw [List.set_append_left _ _ (by rw [Zr];exact hi)]
 ·rename_i hi
  simp only
  rw [List.set_append_right _ _ (by rw [Zr];omega),Zr]
theorem Us (h:List Blk) (s:St) (b:Blk):full h (s.push b)=full h s++[b]:=by simp [full,St.push]
theorem Va (h:List Blk) (s:St) (id:Nat) (b:Blk):(setB h s id b).t=s.t:=by unfold setB;split <;> rfl
section
variable {w w':World} {H H':List Blk} {L L':Nat→Lc}
theorem HR.step (hr:HR w H L) (he:Ext (Zc w H L) (Zc w' H' L')) (ch:Nat→Prop)
  (hold:∀id,id<H.length→¬ch id→H'[id]? = H[id]?∧L' id=L id∧(Live H id→∀b,(L id).blk=some b→w'.heap[b]? = w.heap[b]?))
  (hnew:∀id k,H'[id]? = some k→(ch id∨H.length≤id)→HB (Zc w' H' L') id k)
  (hinj:∀(i j b:Nat) (x y:Blk),H'[i]? = some x→H'[j]? = some y→x.live=true→y.live=true→(L' i).blk=some b→(L' j).blk=some b→i=j):HR w' H' L':=by
 refine ⟨fun id k hk => ?_,hinj⟩
 by_cases hlt:id<H.length
 ·by_cases hc:ch id
  ·exact hnew id k hk (.inl hc)
  ·obtain ⟨h1,h2,h3⟩:=hold id hlt hc
   rw [h1] at hk
   exact (hr.blk id k hk).mono he h2 (fun hl b hb=>h3 ⟨k,hk,hl⟩ b hb)
 ·exact hnew id k hk (.inr (by omega))
def Zw (L:Nat→Lc) (id:Nat) (lc:Lc):Nat→Lc:=fun j=>if j=id then lc else L j
theorem Zd (L:Nat→Lc) (id:Nat) (lc:Lc):Zw L id lc id=lc:=by simp [Zw]
theorem Yk (L:Nat→Lc) (id:Nat) (lc:Lc) {j:Nat} (h:j ≠ id):Zw L id lc j=L j:=by simp [Zw,h]
structure Y1 (w w':World):Prop where
 os:w'.os=w.os
 tape:w'.tape=w.tape
 output:w'.output=w.output
 size:w.heap.size≤w'.heap.size
 old:∀b,b<w.heap.size→w'.heap[b]? = w.heap[b]?
theorem Y1.refl (w:World):Y1 w w:=⟨rfl,rfl,rfl,Nat.le_refl _,fun _ _=>rfl⟩
theorem Y1.trans {a b c:World} (h:Y1 a b) (k:Y1 b c):Y1 a c :=
 ⟨k.os.trans h.os,k.tape.trans h.tape,k.output.trans h.output,Nat.le_trans h.size k.size,fun i hi=>(k.old i (Nat.lt_of_lt_of_le hi h.size)).trans (h.old i hi)⟩
theorem Y1.drew (w:World) (n:Nat):Y1 w { w with drawn:=n }:=⟨rfl,rfl,rfl,Nat.le_refl _,fun _ _=>rfl⟩
theorem Y1.push (w:World) (o:Obj):Y1 w { w with heap:=w.heap.push o } :=
 ⟨rfl,rfl,rfl,by simp,fun b hb=>by simp [Array.getElem?_push];omega⟩
theorem HR.grow (hr:HR w H L) (hg:Y1 w w'):HR w' H L∧Ext (Zc w H L) (Zc w' H L):=by
 have he:Ext (Zc w H L) (Zc w' H L):=⟨hg.os,hg.tape,hg.output,hg.size,fun b hb hO=>⟨hg.old b hb,hO⟩,Nat.le_refl _,fun _ _ => .refl _ _,fun _ _ hv=>hv⟩
 refine ⟨hr.step he (fun _=>False) (fun id hid _=>⟨rfl,rfl,fun hl b hb=>hg.old b (hr.blk id _ hl.choose_spec.1 |>.lt hl.choose_spec.2 hb)⟩) (fun id k hk hc => ?_) hr.inj,he⟩
 rcases hc with hc | hc
 ·exact hc.elim
 ·exact absurd (List.getElem?_eq_some_iff.1 hk).1 (by omega)
theorem HR.add (hr:HR w H L) (hg:Y1 w w') (k:Blk) (lc:Lc) (hb:∀b,lc.blk=some b→w.heap.size≤b)
  (hk:Ext (Zc w H L) (Zc w' (H++[k]) (Zw L H.length lc))→HB (Zc w' (H++[k]) (Zw L H.length lc)) H.length k) :
  HR w' (H++[k]) (Zw L H.length lc)∧Ext (Zc w H L) (Zc w' (H++[k]) (Zw L H.length lc)):=by
 have hget:∀id x,(H++[k])[id]? = some x→(id<H.length∧H[id]? = some x)∨(id=H.length∧x=k):=by
  intro id x hx
  by_cases hlt:id<H.length
  ·rw [List.getElem?_append_left hlt] at hx;exact .inl ⟨hlt,hx⟩
  ·rw [List.getElem?_append_right (by omega)] at hx
   have:id - H.length=0:=by
    cases hq:id - H.length with
    | zero=>rfl
    | succ n=>rw [hq] at hx;simp at hx
   rw [this] at hx
   simp at hx
   exact .inr ⟨by omega,hx.symm⟩
 have hown:∀b,b<w.heap.size→Own (H++[k]) (Zw L H.length lc) b→Own H L b:=by
  rintro b hlt ⟨id,x,h1,h2,h3⟩
  rcases hget id x h1 with ⟨e1,e2⟩ | ⟨rfl,rfl⟩
  ·rw [Yk _ _ _ (by omega)] at h3;exact ⟨id,x,e2,h2,h3⟩
  ·rw [Zd] at h3;have:=hb b h3;omega
 have he:Ext (Zc w H L) (Zc w' (H++[k]) (Zw L H.length lc)):=by
  refine ⟨hg.os,hg.tape,hg.output,hg.size,fun b hlt hO=>⟨hg.old b hlt,fun ho=>hO (hown b hlt ho)⟩,by simp [Zc],fun id hid => ?_,fun id hid hv => ?_⟩
  ·show Hx _ (L id) (Zw L H.length lc id)
   rw [Yk _ _ _ (by simp [Zc] at hid;omega)];exact .refl _ _
  ·obtain ⟨x,h1,h2⟩:=hv
   simp [Zc] at hid
   rcases hget id x h1 with ⟨e1,e2⟩ | ⟨rfl,rfl⟩
   ·exact ⟨x,e2,h2⟩
   ·omega
 refine ⟨hr.step he (fun _=>False) (fun id hid _=>⟨List.getElem?_append_left hid,Yk _ _ _ (by omega),fun hl b hb'=>hg.old b (hr.blk id _ hl.choose_spec.1 |>.lt hl.choose_spec.2 hb')⟩) (fun id x hx hc => ?_) (fun i j b x y hx hy lx ly hbi hbj => ?_),he⟩
 ·rcases hc with hc | hc
  ·exact hc.elim
  ·rcases hget id x hx with ⟨e1,_⟩ | ⟨rfl,rfl⟩
   ·omega
   ·exact hk he
 ·rcases hget i x hx with ⟨e1,e2⟩ | ⟨rfl,rfl⟩ <;> rcases hget j y hy with ⟨e3,e4⟩ | ⟨rfl,rfl⟩
  ·rw [Yk _ _ _ (by omega)] at hbi;rw [Yk _ _ _ (by omega)] at hbj;exact hr.inj i j b x y e2 e4 lx ly hbi hbj
  ·rw [Yk _ _ _ (by omega)] at hbi;rw [Zd] at hbj
   have:=(hr.blk i x e2).lt lx hbi
   have:=hb b hbj
   simp [Zc] at *;omega
  ·rw [Zd] at hbi;rw [Yk _ _ _ (by omega)] at hbj
   have:=(hr.blk j y e4).lt ly hbj
   have:=hb b hbi
   simp [Zc] at *;omega
  ·rfl
theorem HR.turn (hr:HR w H L) {id:Nat} {k k':Blk} (hid:H[id]? = some k) (hl:k.live=true) (lc:Lc)
  (hos:w'.os=w.os) (htape:w'.tape=w.tape) (hout:w'.output=w.output) (hsize:w.heap.size≤w'.heap.size)
  (hold:∀b,b<w.heap.size→(L id).blk ≠ some b→w'.heap[b]? = w.heap[b]?)
  (hlc:Hx True (L id) lc) (hb:∀b,lc.blk=some b→(L id).blk=some b∨w.heap.size≤b)
  (hk:Ext (Zc w H L) (Zc w' (H.set id k') (Zw L id lc))→HB (Zc w' (H.set id k') (Zw L id lc)) id k') :
  HR w' (H.set id k') (Zw L id lc)∧Ext (Zc w H L) (Zc w' (H.set id k') (Zw L id lc)):=by
 have hlt:id<H.length:=(List.getElem?_eq_some_iff.1 hid).1
 have hget:∀j x,(H.set id k')[j]? = some x→(j ≠ id∧H[j]? = some x)∨(j=id∧x=k'):=by
  intro j x hx
  by_cases e:id=j
  ·subst e;rw [List.getElem?_set_self hlt] at hx;simp at hx;exact .inr ⟨rfl,hx.symm⟩
  ·rw [List.getElem?_set_ne e] at hx;exact .inl ⟨fun e'=>e e'.symm,hx⟩
 have hother:∀j x b,j ≠ id→H[j]? = some x→x.live=true→(L j).blk=some b→b<w.heap.size∧(L id).blk ≠ some b:=by
  intro j x b hne hx lx hbj
  exact ⟨(hr.blk j x hx).lt lx hbj,fun e=>hne (hr.inj j id b x k hx hid lx hl hbj e)⟩
 have hown:∀b,b<w.heap.size→Own (H.set id k') (Zw L id lc) b→Own H L b:=by
  rintro b hlt' ⟨j,x,h1,h2,h3⟩
  rcases hget j x h1 with ⟨e1,e2⟩ | ⟨rfl,rfl⟩
  ·rw [Yk _ _ _ e1] at h3;exact ⟨j,x,e2,h2,h3⟩
  ·rw [Zd] at h3
   rcases hb b h3 with e | e
   ·exact ⟨j,k,hid,hl,e⟩
   ·omega
 have he:Ext (Zc w H L) (Zc w' (H.set id k') (Zw L id lc)):=by
  refine ⟨hos,htape,hout,hsize,fun b hlt' hO=>⟨hold b hlt' (fun e=>hO ⟨id,k,hid,hl,e⟩),fun ho=>hO (hown b hlt' ho)⟩,by simp [Zc],fun j hj => ?_,fun j hj hv => ?_⟩
  ·show Hx (Live H j) (L j) (Zw L id lc j)
   by_cases e:j=id
   ·subst e;rw [Zd]
    rcases hlc with e | ⟨_,e1,e2⟩
    ·exact .inl e
    ·exact .inr ⟨⟨k,hid,hl⟩,e1,e2⟩
   ·rw [Yk _ _ _ e];exact .refl _ _
  ·obtain ⟨x,h1,h2⟩:=hv
   rcases hget j x h1 with ⟨e1,e2⟩ | ⟨rfl,rfl⟩
   ·exact ⟨x,e2,h2⟩
   ·exact ⟨k,hid,hl⟩
 refine ⟨hr.step he (fun j=>j=id) (fun j hj hne=>⟨List.getElem?_set_ne (fun e=>hne e.symm),Yk _ _ _ hne,fun ⟨x,hx,lx⟩ b hbj => ?_⟩) (fun j x hx hc => ?_) (fun i j b x y hx hy lx ly hbi hbj => ?_),he⟩
 ·obtain ⟨h1,h2⟩:=hother j x b hne hx lx hbj
  exact hold b h1 h2
 ·rcases hc with rfl | hc
  ·rcases hget j x hx with ⟨e1,_⟩ | ⟨_,rfl⟩
   ·exact absurd rfl e1
   ·exact hk he
  ·have:=(List.getElem?_eq_some_iff.1 hx).1
   simp at this;omega
 ·rcases hget i x hx with ⟨e1,e2⟩ | ⟨rfl,rfl⟩ <;> rcases hget j y hy with ⟨e3,e4⟩ | ⟨rfl,rfl⟩
  ·rw [Yk _ _ _ e1] at hbi;rw [Yk _ _ _ e3] at hbj;exact hr.inj i j b x y e2 e4 lx ly hbi hbj
  ·rw [Yk _ _ _ e1] at hbi;rw [Zd] at hbj
   obtain ⟨h1,h2⟩:=hother i x b e1 e2 lx hbi
   rcases hb b hbj with e | e
   ·exact absurd e h2
   ·omega
  ·rw [Zd] at hbi;rw [Yk _ _ _ e3] at hbj
   obtain ⟨h1,h2⟩:=hother j y b e3 e4 ly hbj
   rcases hb b hbi with e | e
   ·exact absurd e h2
   ·omega
  ·rfl
end
def AV.lt0 (n:Nat):AV→Bool
 | .g _ | .cp _ | .via .. | .undef=>true
 | .ptr id _ | .ms id _ _ _ _ | .rp id _ _ _ _ | .mp id | .yv id=>decide (id<n)
 | _=>false
def AV.lt1 (n:Nat):AV→Bool
 | .fv _ caps=>caps.all (AV.lt0 n)
 | .bv _ caps=>caps.all (AV.lt0 n)
 | .ifa _ v=>v.lt0 n
 | v=>v.lt0 n
def Yc:Nat→List Z→List AV×List Blk
 | _,[]=>([],[])
 | n,.z v::r=>(.g v::(Yc n r).1,(Yc n r).2)
 | n,.s sz::r=>(.ms n 1 sz 0 0::(Yc (n+1) r).1,.rows sz 1 []::(Yc (n+1) r).2)
def Uk:List Z→List AV
 | []=>[]
 | .z v::r => .g v::Uk r
 | .s _::r => .g .nsl::Uk r
def Wl (e:TypeId):Nat→List Z→List AV×List Blk
 | _,[]=>([],[])
 | n,.z v::r=>(.g v::(Wl e n r).1,(Wl e n r).2)
 | n,.s sz::r=>(.ms n 1 sz 0 0::(Wl e (n+1) r).1,.trow e sz 1 []::(Wl e (n+1) r).2)
def Oc (h:List Blk) (s:St) (p:AV) (vs:List AV):Option (St×List Nat) :=
 match p with
 | .ptr id o=>match Yp h s id with
  | some (.cells cs)=>if o+vs.length≤cs.length∧(decide (h.length≤id)||vs.all (AV.lt1 h.length))=true∧vs.all AV.leaf=true then
    some (setB h s id (.cells (cs.take o++vs++cs.drop (o+vs.length))),[id]) else none
  | some (.bld T cs)=>if o+vs.length≤cs.length∧(decide (h.length≤id)||vs.all (AV.lt1 h.length))=true∧vs.all AV.leaf=true then
    some (setB h s id (.bld T (cs.take o++vs++cs.drop (o+vs.length))),[id]) else none
  | _=>none
 | .rp id g sz i o=>match Yp h s id with
  | some (.rows sz' g' els)=>if g=g'∧sz=sz' then match els[i]?,Xq vs with
    | some el,some gs=>if o+gs.length≤el.length then some (setB h s id (.rows sz g (els.set i (el.take o++gs++el.drop (o+gs.length)))),[id]) else none
    | _,_=>none
   else none
  | _=>none
 | _=>none
def Vs (h:List Blk) (s:St) (sz:Nat):AV→Option (List (List GV))
 | .g (.sl sz' els)=>if sz=sz' then some els else none
 | .g .nsl=>some []
 | .ms id g sz' off len=>if sz=sz' then match Yp h s id with
   | some (.rows sz2 g' els)=>if g=g'∧sz2=sz∧off+len≤els.length then some ((els.drop off).take len) else none
   | some (.fro sz2 g' els)=>if g=g'∧sz2=sz∧off+len≤els.length then some ((els.drop off).take len) else none
   | _=>none
  else none
 | _=>none
def room (bytes n:Nat):Bool:=decide (n≤140737488355328)&&decide (n*bytes≤140737488355328)
def Yh (h:List Blk) (s:St) (sz bytes:Nat) (x:AV) (ys:List (List GV)):Option (AV×St×List Nat) :=
 match ys with
 | []=>match x with
  | .g .nsl=>some (.g .nsl,s,[])
  | .ms id g sz' off len=>if sz=sz'∧cur h s id g=true then some (.ms id g sz off len,s,[]) else none
  | _=>none
 | _=>match x with
  | .g .nsl=>if room bytes ys.length=true then some (.ms (s.next h) 2 sz 0 ys.length,s.push (.rows sz 2 ys),[]) else none
  | .ms id g sz' off len=>match Yp h s id with
   | some (.rows sz2 g' els)=>if g=g'∧sz=sz'∧sz=sz2 then
     if off+len+ys.length≤els.length then some (.ms id g sz off (len+ys.length),setB h s id (.rows sz g (els.take (off+len)++(ys++els.drop (off+(len+ys.length))))),[id])
     else if off=0∧len≤els.length∧room bytes (len+ys.length)=true then some (.ms id (g+1) sz 0 (len+ys.length),setB h s id (.rows sz (g+1) (els.take len++ys)),[id])
     else none
    else none
   | _=>none
  | _=>none
def Hc (e:TypeId) (h:List Blk) (s:St) (sz bytes:Nat) (id g off len:Nat) (ys:List (List GV)):Option (AV×St×List Nat) :=
 match ys with
 | []=>if cur h s id g=true then some (.ms id g sz off len,s,[]) else none
 | _=>match Yp h s id with
   | some (.trow T sz2 g' els)=>if g=g'∧sz=sz2∧T=e then
     if off+len+ys.length≤els.length then some (.ms id g sz off (len+ys.length),setB h s id (.trow T sz g (els.take (off+len)++(ys++els.drop (off+(len+ys.length))))),[id])
     else if off=0∧len≤els.length∧room bytes (len+ys.length)=true then some (.ms id (g+1) sz 0 (len+ys.length),setB h s id (.trow T sz (g+1) (els.take len++ys)),[id])
     else none
    else none
   | _=>none
def Zfh (h:List Blk) (s:St) (id:Nat):Bool :=
 match Yp h s id with
 | some (.trow ..)=>true
 | _=>false
def Ut (kk:LK) (k:GV):List (GV×Option GV)→Option (Option Nat)
 | []=>some none
 | (a,_)::es=>match eqG kk k a with
  | some true=>some (some 0)
  | some false=>match Ut kk k es with
   | some (some j)=>some (some (j+1))
   | some none=>some none
   | none=>none
  | none=>none
def mvV:Option GV→AV
 | some g => .g g
 | none => .agg []
def mvG:AV→Option (Option GV)
 | .g g=>some (some g)
 | .agg []=>some none
 | _=>none
def Od (comma:Bool) (kk:LK) (z:Option GV) (k:GV) (es:List (GV×Option GV)):Option AV :=
 match Ut kk k es with
 | some r=>match (match r with | some j=>es[j]?.map (·.2) | none=>some z) with
  | some g=>some (if comma=true then .tup [mvV g,.g (.bool r.isSome)] else mvV g)
  | none=>none
 | none=>none
def Sa (kk:LK) (k:GV) (g:Option GV) (es:List (GV×Option GV)):Option (List (GV×Option GV)) :=
 match Ut kk k es with
 | some (some j)=>some (es.set j (k,g))
 | some none=>some (es++[(k,g)])
 | none=>none
def Sn (ks:List LK) (k:List GV):List (List GV×Option GV)→Option (Option Nat)
 | []=>some none
 | (a,_)::es=>match eqL ks (k.map .g) (a.map .g) with
  | some true=>some (some 0)
  | some false=>match Sn ks k es with
   | some (some j)=>some (some (j+1))
   | some none=>some none
   | none=>none
  | none=>none
def K6 (comma:Bool) (ks:List LK) (z:Option GV) (k:List GV) (es:List (List GV×Option GV)):Option AV :=
 if k.length=ks.length then match Sn ks k es with
 | some r=>match (match r with | some j=>es[j]?.map (·.2) | none=>some z) with
  | some g=>some (if comma=true then .tup [mvV g,.g (.bool r.isSome)] else mvV g)
  | none=>none
 | none=>none else none
def K7 (ks:List LK) (k:List GV) (g:Option GV) (es:List (List GV×Option GV)):Option (List (List GV×Option GV)) :=
 if k.length=ks.length then match Sn ks k es with
 | some none=>some (es++[(k,g)])
 | _=>none else none
def Zfi:AV→Option (List GV)
 | .agg cs=>Xq cs
 | _=>none
def Xb (b:List UInt8):List (List GV):=b.map fun c=>[.int .u8 c.toNat]
def evI (h:List Blk) (nb:Nat) (s:St):AOp→Option (AV×St×List Nat)
 | .nres sz=>some (.ms (s.next h) 1 sz 0 0,s.push (.rows sz 1 []),[])
 | .mk0 sz=>some (.ms (s.next h) 2 sz 0 0,s.push (.rows sz 2 []),[])
 | .alloc z=>some (.ptr (s.next h+(Yc (s.next h) z).2.length) 0,{ s with o:=s.o++(Yc (s.next h) z).2++[.cells (Yc (s.next h) z).1] },[])
 | .allocT T e z=>some (.ptr (s.next h+(Wl e (s.next h) z).2.length) 0,{ s with o:=s.o++(Wl e (s.next h) z).2++[.bld T (Wl e (s.next h) z).1] },[])
 | .allocAt k z=>match Yp h s (nb+k) with
  | some .pend=>if h.length≤nb then some (.ptr (nb+k) 0,setB h s (nb+k) (.cells (Uk z)),[nb+k]) else none
  | _=>none
 | .box x=>match val s x with
  | some v=>match v.cellsO with
   | some cs=>some (.ptr (s.next h) 0,s.push (.cells cs),[])
   | none=>none
  | none=>none
 | .bslice sz len z ps=>match Ur s (List.replicate len (z.map AV.g)).flatten ps with
  | some cs=>match Xq cs with
   | some gs=>some (.g (.sl sz (Zx sz len gs)),s,[])
   | none=>none
  | none=>none
 | .store n p x=>match val s p,val s x with
  | some p,some v=>match v.cellsO with
   | some vs=>if vs.length=n then match Oc h s p vs with
     | some (s',ws)=>some (.undef,s',ws)
     | none=>none
    else none
   | none=>none
  | _,_=>none
 | .mk sz bytes z l c=>match val s l,val s c with
  | some (.g (.int .i64 n)),some (.g (.int .i64 m))=>if n=m∧0≤n∧n≤281474976710656∧n*bytes≤281474976710656 then
    some (.ms (s.next h) 2 sz 0 n.toNat,s.push (.rows sz 2 (List.replicate n.toNat z)),[]) else none
  | _,_=>none
 | .app sz bytes x y=>match val s x,val s y with
  | some x,some y=>match Vs h s sz y with
   | some ys=>Yh h s sz bytes x ys
   | none=>none
  | _,_=>none
 | .appS x y=>match val s x,val s y with
  | some x,some (.g (.str b))=>Yh h s 1 1 x (Xb b)
  | _,_=>none
 | .appZ sz bytes z x n=>match val s x,val s n with
  | some x,some (.g (.int .i64 n))=>if 0≤n∧n≤281474976710656∧n*bytes≤281474976710656 then Yh h s sz bytes x (List.replicate n.toNat z) else none
  | _,_=>none
 | .clear z x=>match val s x with
  | some (.g .nsl)=>some (.tup [],s,[])
  | some (.ms id g sz off len)=>match Yp h s id with
   | some (.rows sz' g' els)=>if g=g'∧sz=sz'∧sz=z.length∧off+len≤els.length then
     some (.tup [],setB h s id (.rows sz g (els.take off++(List.replicate len z++els.drop (off+len)))),[id]) else none
   | _=>none
  | _=>none
 | .convSB x=>match val s x with
  | some (.g (.str b))=>some (.g (.sl 1 (Xb b)),s,[])
  | _=>none
 | .appT e x y=>match val s x,val s y with
  | some x,some (.g (.str b))=>match x with
   | .ms id g sz off len=>if Zfh h s id=true then (if sz=1 then Hc e h s 1 1 id g off len (Xb b) else none) else Yh h s 1 1 (.ms id g sz off len) (Xb b)
   | x=>Yh h s 1 1 x (Xb b)
  | _,_=>none
 | .toU x=>match val s x with
  | some (.ptr id o)=>match Yp h s id with
   | some (.bld _ cs)=>if o<cs.length then some (.ptr id o,s,[]) else none
   | _=>none
  | _=>none
 | .fromU ts x=>match val s x with
  | some (.ptr id o)=>match Yp h s id with
   | some (.bld T cs)=>if o=0∧ts.contains (T,cs.length)=true then some (.ptr id o,s,[]) else none
   | _=>none
  | _=>none
 | .sdata x=>match val s x with
  | some (.ms id g sz off len)=>if cur h s id g=true then (if g=1 then some (.g .nptr,s,[]) else if 0<len then some (.rp id g sz off 0,s,[]) else none) else none
  | _=>none
 | .ustr e p n=>match val s p,val s n with
  | some (.g .nptr),some (.g (.int .i64 n))=>if n=0 then some (.g (.str []),s,[]) else none
  | some (.rp id g _ i o),some (.g (.int .i64 n))=>match Yp h s id with
   | some (.trow T sz2 g' els)=>if g=g'∧sz2=1∧i=0∧o=0∧0<n∧n≤els.length∧n≤9223372036854775807∧T=e then match bytesOfG (els.take n.toNat) with
     | some b=>some (.g (.str b),setB h s id (.fro 1 g els),[id])
     | none=>none
    else none
   | _=>none
  | _,_=>none
 | .neqp x y=>match val s x,val s y with
  | some (.ptr id o),some (.ptr id' o')=>if id=id'∧o=o' then some (.g (.bool false),s,[]) else none
  | _,_=>none
 | .mkmap=>some (.mp (s.next h),s.push (.map []),[])
 | .mget cm kk z x k=>match val s x,val s k with
  | some (.mp id),some (.g kv)=>match Yp h s id with
   | some (.map es)=>match Od cm kk z kv es with
    | some r=>some (r,s,[])
    | none=>none
   | _=>none
  | _,_=>none
 | .mset kk x k v=>match val s x,val s k,val s v with
  | some (.mp id),some (.g kv),some vv=>match Yp h s id,mvG vv with
   | some (.map es),some g=>match Sa kk kv g es with
    | some es'=>some (.undef,setB h s id (.map es'),[id])
    | none=>none
   | _,_=>none
  | _,_,_=>none
 | .mkmap2=>some (.mp (s.next h),s.push (.map2 []),[])
 | .mget2 cm ks z x k=>match val s x,(val s k).bind Zfi with
  | some (.mp id),some kv=>match Yp h s id with
   | some (.map2 es)=>match K6 cm ks z kv es with
    | some r=>some (r,s,[])
    | none=>none
   | _=>none
  | _,_=>none
 | .mset2 ks x k v=>match val s x,(val s k).bind Zfi,val s v with
  | some (.mp id),some kv,some vv=>match Yp h s id,mvG vv with
   | some (.map2 es),some g=>match K7 ks kv g es with
    | some es'=>some (.undef,setB h s id (.map2 es'),[id])
    | none=>none
   | _,_=>none
  | _,_,_=>none
 | .convBS x=>match val s x with
  | some v=>match Vs h s 1 v with
   | some els=>match bytesOfG els with
    | some b=>some (.g (.str b),s,[])
    | none=>none
   | none=>none
  | none=>none
 | _=>none
where
 bytesOfG:List (List GV)→Option (List UInt8)
  | []=>some []
  | [.int .u8 n]::r=>match bytesOfG r with
   | some b=>some (UInt8.ofNat n.toNat::b)
   | none=>none
  | _=>none
def Same (w w':World) (H:List Blk) (L L':Nat→Lc) (ws:List Nat):Prop :=
 ∀id,id<H.length→id∉ws→L' id=L id∧(Live H id→∀b,(L id).blk=some b→w'.heap[b]? = w.heap[b]?)
def Im (w:World) (H:List Blk) (L:Nat→Lc) (r:Result Next) (v:AV) (H':List Blk) (ws:List Nat):Prop :=
 ∃nx w' L',r = .ok nx w'∧((∃cv,nx = .value cv∧AR (Zc w' H' L') v cv)∨(nx = .skip∧v = .undef))∧HR w' H' L'∧Ext (Zc w H L) (Zc w' H' L')∧Same w w' H L L' ws
theorem Uu {w w':World} {H:List Blk} {L:Nat→Lc} (hr:HR w H L) (hg:Y1 w w') (ws:List Nat):Same w w' H L L ws :=
 fun id hid _=>⟨rfl,fun ⟨x,hx,lx⟩ b hb=>hg.old b ((hr.blk id x hx).lt lx hb)⟩
section
variable {w w':World} {H:List Blk} {L:Nat→Lc}
theorem HR.add_same (hr:HR w H L) (hg:Y1 w w') (k:Blk) (lc:Lc) (hb:∀b,lc.blk=some b→w.heap.size≤b)
  (hk:Ext (Zc w H L) (Zc w' (H++[k]) (Zw L H.length lc))→HB (Zc w' (H++[k]) (Zw L H.length lc)) H.length k) (ws:List Nat) :
  HR w' (H++[k]) (Zw L H.length lc)∧Ext (Zc w H L) (Zc w' (H++[k]) (Zw L H.length lc))∧Same w w' H L (Zw L H.length lc) ws:=by
 obtain ⟨h1,h2⟩:=hr.add hg k lc hb hk
 exact ⟨h1,h2,fun id hid hws=>⟨Yk _ _ _ (by omega),(Uu hr hg ws id hid hws).2⟩⟩
theorem HR.reserve (hr:HR w H L) (sz:Nat) (ws:List Nat):∃L',HR w (H++[.rows sz 1 []]) L'∧Ext (Zc w H L) (Zc w (H++[.rows sz 1 []]) L')∧Same w w H L L' ws ∧
  AR (Zc w (H++[.rows sz 1 []]) L') (.ms H.length 1 sz 0 0) (.slice none 0 0):=by
 obtain ⟨h1,h2,h3⟩:=hr.add_same (Y1.refl w) (.rows sz 1 []) ⟨none,1,0,false⟩ (by simp) (fun _=>by
  show ((Zw L H.length _) H.length).gen=1∧_
  rw [Zd]
  refine ⟨rfl,⟨?_,by omega⟩,?_⟩
  ·show ((Zw L H.length _) H.length).st=false;rw [Zd]
  ·show match ((Zw L H.length _) H.length).blk with | none=>_ | some b=>_
   rw [Zd]
   refine ⟨rfl,?_⟩
   show ((Zw L H.length _) H.length).cap=0
   rw [Zd]) ws
 refine ⟨_,h1,h2,h3,?_⟩
 refine .ms (by simp [Zc]) ?_ ?_ rfl (fun _ => ?_) (fun _ => ?_)
 ·show 0<((Zw L H.length _) H.length).gen;rw [Zd];exact Nat.one_pos
 ·show 1≤((Zw L H.length _) H.length).gen;rw [Zd];exact Nat.le_refl _
 ·show Wb ((Zw L H.length _) H.length) _ _ _ _;rw [Zd];exact ⟨rfl,rfl,rfl⟩
 ·show 1=1↔((Zw L H.length _) H.length).blk=none;rw [Zd];simp
theorem HR.reserveT (hr:HR w H L) (e:TypeId) (sz:Nat) (ws:List Nat):∃L',HR w (H++[.trow e sz 1 []]) L'∧Ext (Zc w H L) (Zc w (H++[.trow e sz 1 []]) L')∧Same w w H L L' ws ∧
  AR (Zc w (H++[.trow e sz 1 []]) L') (.ms H.length 1 sz 0 0) (.slice none 0 0):=by
 obtain ⟨h1,h2,h3⟩:=hr.add_same (Y1.refl w) (.trow e sz 1 []) ⟨none,1,0,false⟩ (by simp) (fun _=>by
  show ((Zw L H.length _) H.length).gen=1∧_
  rw [Zd]
  refine ⟨rfl,⟨?_,by omega⟩,?_⟩
  ·show ((Zw L H.length _) H.length).st=false;rw [Zd]
  ·show match ((Zw L H.length _) H.length).blk with | none=>_ | some b=>_
   rw [Zd]
   refine ⟨rfl,?_⟩
   show ((Zw L H.length _) H.length).cap=0
   rw [Zd]) ws
 refine ⟨_,h1,h2,h3,?_⟩
 refine .ms (by simp [Zc]) ?_ ?_ rfl (fun _ => ?_) (fun _ => ?_)
 ·show 0<((Zw L H.length _) H.length).gen;rw [Zd];exact Nat.one_pos
 ·show 1≤((Zw L H.length _) H.length).gen;rw [Zd];exact Nat.le_refl _
 ·show Wb ((Zw L H.length _) H.length) _ _ _ _;rw [Zd];exact ⟨rfl,rfl,rfl⟩
 ·show 1=1↔((Zw L H.length _) H.length).blk=none;rw [Zd];simp
theorem V6 (w:World) (o:Obj):({ w with heap:=w.heap.push o }:World).heap[w.heap.size]? = some o:=by simp
theorem HR.newCells (hr:HR w H L) (hg:Y1 w w') (cs:List AV) (C:Array Value) (T:TypeId) (b:Nat) (hlt:w.heap.size≤b) (hb:w'.heap[b]? = some (.cells C T (0,0))) (hc:R7 (Zc w H L) cs C)
  (h1:∀(j:Nat) (v:Value),C[j]? = some v→v.oneCell'=true) (ws:List Nat) :
  ∃L',HR w' (H++[.cells cs]) L'∧Ext (Zc w H L) (Zc w' (H++[.cells cs]) L')∧Same w w' H L L' ws∧AR (Zc w' (H++[.cells cs]) L') (.ptr H.length 0) (.pointer (some ⟨b,0,none⟩)):=by
 obtain ⟨k1,k2,k3⟩:=hr.add_same hg (.cells cs) ⟨some b,0,0,true⟩ (by simpa using hlt) (fun he=>by
  refine ⟨?_,b,T,C,?_,hb,hc.1.symm,fun j a hj => ?_⟩
  ·show ((Zw L H.length _) H.length).st=true;rw [Zd]
  ·show ((Zw L H.length _) H.length).blk=some b;rw [Zd]
  ·have hlt:j<C.size:=by rw [←hc.1];exact (List.getElem?_eq_some_iff.1 hj).1
   refine ⟨C[j],Array.getElem?_eq_getElem hlt,(hc.2 j a _ hj (Array.getElem?_eq_getElem hlt)).mono he,h1 j _ (Array.getElem?_eq_getElem hlt)⟩) ws
 refine ⟨_,k1,k2,k3,.ptr (by simp [Zc]) ?_ ?_⟩
 ·show ((Zw L H.length _) H.length).st=true;rw [Zd]
 ·show ((Zw L H.length _) H.length).blk=some b;rw [Zd]
theorem HR.newBld (hr:HR w H L) (hg:Y1 w w') (cs:List AV) (C:Array Value) (T:TypeId) (b:Nat) (hlt:w.heap.size≤b) (hb:w'.heap[b]? = some (.cells C T (0,0))) (hc:R7 (Zc w H L) cs C)
  (h1:∀(j:Nat) (v:Value),C[j]? = some v→v.oneCell'=true) (ws:List Nat) :
  ∃L',HR w' (H++[.bld T cs]) L'∧Ext (Zc w H L) (Zc w' (H++[.bld T cs]) L')∧Same w w' H L L' ws∧AR (Zc w' (H++[.bld T cs]) L') (.ptr H.length 0) (.pointer (some ⟨b,0,none⟩)):=by
 obtain ⟨k1,k2,k3⟩:=hr.add_same hg (.bld T cs) ⟨some b,0,0,true⟩ (by simpa using hlt) (fun he=>by
  refine ⟨?_,b,C,?_,hb,hc.1.symm,fun j a hj => ?_⟩
  ·show ((Zw L H.length _) H.length).st=true;rw [Zd]
  ·show ((Zw L H.length _) H.length).blk=some b;rw [Zd]
  ·have hlt:j<C.size:=by rw [←hc.1];exact (List.getElem?_eq_some_iff.1 hj).1
   refine ⟨C[j],Array.getElem?_eq_getElem hlt,(hc.2 j a _ hj (Array.getElem?_eq_getElem hlt)).mono he,h1 j _ (Array.getElem?_eq_getElem hlt)⟩) ws
 refine ⟨_,k1,k2,k3,.ptr (by simp [Zc]) ?_ ?_⟩
 ·show ((Zw L H.length _) H.length).st=true;rw [Zd]
 ·show ((Zw L H.length _) H.length).blk=some b;rw [Zd]
theorem HR.newRows (hr:HR w H L) (hg:Y1 w w') (sz:Nat) (els:List (List GV)) (cap:Nat) (C:Array Value) (T:TypeId) (b:Nat) (hlt:w.heap.size≤b) (hb:w'.heap[b]? = some (.cells C T (0,0)))
  (hrow:RowsIn (Zc w H L) C sz cap els) (ws:List Nat) :
  ∃L',HR w' (H++[.rows sz 2 els]) L'∧Ext (Zc w H L) (Zc w' (H++[.rows sz 2 els]) L')∧Same w w' H L L' ws ∧
   AR (Zc w' (H++[.rows sz 2 els]) L') (.ms H.length 2 sz 0 els.length) (.slice (some ⟨b,0,none⟩) els.length cap):=by
 obtain ⟨k1,k2,k3⟩:=hr.add_same hg (.rows sz 2 els) ⟨some b,2,cap,false⟩ (by simpa using hlt) (fun he=>by
  refine ⟨?_,⟨?_,by omega⟩,?_⟩
  ·show ((Zw L H.length _) H.length).gen=2;rw [Zd]
  ·show ((Zw L H.length _) H.length).st=false;rw [Zd]
  ·show match ((Zw L H.length _) H.length).blk with | none=>_ | some b=>∃T C,w'.heap[b]? = some (.cells C T (0,0))∧RowsIn _ C sz ((Zw L H.length _) H.length).cap els
   rw [Zd]
   exact ⟨T,C,hb,hrow.mono he⟩) ws
 refine ⟨_,k1,k2,k3,.ms (by simp [Zc]) ?_ ?_ rfl (fun _ => ?_) (fun _ => ?_)⟩
 ·show 0<((Zw L H.length _) H.length).gen;rw [Zd];exact Nat.two_pos
 ·show 2≤((Zw L H.length _) H.length).gen;rw [Zd];exact Nat.le_refl _
 ·show Wb ((Zw L H.length _) H.length) _ _ _ _;rw [Zd]
  exact ⟨_,cap,rfl,by simp,hrow.2.1,.inl (by simp)⟩
 ·show 2=1↔((Zw L H.length _) H.length).blk=none;rw [Zd];simp
end
def Zfj (z:List Z) (cs:List Value):Prop :=
 z.length=cs.length∧∀(j:Nat) (x:Z) (c:Value),z[j]? = some x→cs[j]? = some c→(∃v,x = .z v∧Bw c=some (.g v))∨(∃n,x = .s n∧c = .slice none 0 0)
theorem Zfj.tail {x:Z} {z:List Z} {c:Value} {cs:List Value} (h:Zfj (x::z) (c::cs)):Zfj z cs :=
 ⟨by have:=h.1;simpa using this,fun j y d hy hd=>h.2 (j+1) y d (by simpa using hy) (by simpa using hd)⟩
theorem Same.trans {w w1 w2:World} {H H1:List Blk} {L L1 L2:Nat→Lc} {ws:List Nat} (h:Same w w1 H L L1 ws) (k:Same w1 w2 H1 L1 L2 ws) (hle:H.length≤H1.length) (hg:∀id,id<H.length→id∉ws→Live H id→Live H1 id):Same w w2 H L L2 ws:=by
 intro id hid hws
 obtain ⟨h1,h2⟩:=h id hid hws
 obtain ⟨k1,k2⟩:=k id (by omega) hws
 exact ⟨k1.trans h1,fun hl b hb=>(k2 (hg id hid hws hl) b (by rw [h1];exact hb)).trans (h2 hl b hb)⟩
theorem Zu2 {w:World}:∀(z:List Z) (cs:List Value) (H:List Blk) (L:Nat→Lc),Zfj z cs→HR w H L →
  ∃L',HR w (H++(Yc H.length z).2) L'∧Ext (Zc w H L) (Zc w (H++(Yc H.length z).2) L')∧Same w w H L L' []∧(Yc H.length z).1.length=cs.length ∧
   ∀(j:Nat) (x:AV) (c:Value),(Yc H.length z).1[j]? = some x→cs[j]? = some c→AR (Zc w (H++(Yc H.length z).2) L') x c:=by
 intro z
 induction z with
 | nil =>
  intro cs H L hz hr
  have:cs=[]:=by have:=hz.1;simp at this;exact List.eq_nil_of_length_eq_zero this.symm
  subst this
  exact ⟨L,by simpa [Yc] using hr,by simpa [Yc] using Ext.refl _,fun id _ _=>⟨rfl,fun _ _ _=>rfl⟩,rfl,by simp⟩
 | cons x z ih =>
  intro cs H L hz hr
  cases cs with
  | nil=>have:=hz.1;simp at this
  | cons c cs =>
   rcases hz.2 0 x c rfl rfl with ⟨v,rfl,hv⟩ | ⟨n,rfl,rfl⟩
   ·obtain ⟨L',h1,h2,h3,h4,h5⟩:=ih cs H L hz.tail hr
    refine ⟨L',h1,h2,h3,by simp [Yc,h4],fun j y d hy hd => ?_⟩
    cases j with
    | zero=>simp [Yc] at hy hd;subst hy hd;exact O8 hv
    | succ j=>exact h5 j y d (by simpa [Yc] using hy) (by simpa using hd)
   ·obtain ⟨L1,r1,r2,r3,r4⟩:=hr.reserve n []
    obtain ⟨L',h1,h2,h3,h4,h5⟩:=ih cs (H++[.rows n 1 []]) L1 hz.tail r1
    simp only [List.length_append,List.length_cons,List.length_nil] at h1 h2 h4 h5
    have e:H++[Blk.rows n 1 []]++(Yc (H.length+(0+1)) z).2=H++(Yc H.length (.s n::z)).2:=by simp [Yc]
    rw [e] at h1 h2 h5
    refine ⟨L',h1,r2.trans h2,r3.trans h3 (by simp) (fun id hid _ hl => ?_),by simpa [Yc] using h4,fun j y d hy hd => ?_⟩
    ·obtain ⟨k,k1,k2⟩:=hl
     exact ⟨k,by rw [List.getElem?_append_left hid];exact k1,k2⟩
    ·cases j with
     | zero=>simp [Yc] at hy hd;subst hy hd;exact r4.mono h2
     | succ j=>exact h5 j y d (by simpa [Yc] using hy) (by simpa using hd)
theorem Zpr {w:World} (e0:TypeId):∀(z:List Z) (cs:List Value) (H:List Blk) (L:Nat→Lc),Zfj z cs→HR w H L →
  ∃L',HR w (H++(Wl e0 H.length z).2) L'∧Ext (Zc w H L) (Zc w (H++(Wl e0 H.length z).2) L')∧Same w w H L L' []∧(Wl e0 H.length z).1.length=cs.length ∧
   ∀(j:Nat) (x:AV) (c:Value),(Wl e0 H.length z).1[j]? = some x→cs[j]? = some c→AR (Zc w (H++(Wl e0 H.length z).2) L') x c:=by
 intro z
 induction z with
 | nil =>
  intro cs H L hz hr
  have:cs=[]:=by have:=hz.1;simp at this;exact List.eq_nil_of_length_eq_zero this.symm
  subst this
  exact ⟨L,by simpa [Wl] using hr,by simpa [Wl] using Ext.refl _,fun id _ _=>⟨rfl,fun _ _ _=>rfl⟩,rfl,by simp⟩
 | cons x z ih =>
  intro cs H L hz hr
  cases cs with
  | nil=>have:=hz.1;simp at this
  | cons c cs =>
   rcases hz.2 0 x c rfl rfl with ⟨v,rfl,hv⟩ | ⟨n,rfl,rfl⟩
   ·obtain ⟨L',h1,h2,h3,h4,h5⟩:=ih cs H L hz.tail hr
    refine ⟨L',h1,h2,h3,by simp [Wl,h4],fun j y d hy hd => ?_⟩
    cases j with
    | zero=>simp [Wl] at hy hd;subst hy hd;exact O8 hv
    | succ j=>exact h5 j y d (by simpa [Wl] using hy) (by simpa using hd)
   ·obtain ⟨L1,r1,r2,r3,r4⟩:=hr.reserveT e0 n []
    obtain ⟨L',h1,h2,h3,h4,h5⟩:=ih cs (H++[.trow e0 n 1 []]) L1 hz.tail r1
    simp only [List.length_append,List.length_cons,List.length_nil] at h1 h2 h4 h5
    have e:H++[Blk.trow e0 n 1 []]++(Wl e0 (H.length+(0+1)) z).2=H++(Wl e0 H.length (.s n::z)).2:=by simp [Wl]
    rw [e] at h1 h2 h5
    refine ⟨L',h1,r2.trans h2,r3.trans h3 (by simp) (fun id hid _ hl => ?_),by simpa [Wl] using h4,fun j y d hy hd => ?_⟩
    ·obtain ⟨k,k1,k2⟩:=hl
     exact ⟨k,by rw [List.getElem?_append_left hid];exact k1,k2⟩
    ·cases j with
     | zero=>simp [Wl] at hy hd;subst hy hd;exact r4.mono h2
     | succ j=>exact h5 j y d (by simpa [Wl] using hy) (by simpa using hd)
theorem Zps {P:Program} {t:TypeId} {zs:List Z} (h:cZ P t=some zs):∃i z,P.info? t=some i∧i.zero=some z∧Zfj zs z.cells.toList∧∀(j:Nat) (u:Value),z.cells[j]? = some u→u.oneCell'=true:=by
 unfold cZ at h
 split at h
 ·rename_i as ks has hks
  split at h
  ·rename_i hlen
   obtain ⟨i,z,hi,hz,hcr,h1⟩:=Ob (E:=⟨default,fun _=>False,fun _=>⟨none,0,0,false⟩,0,fun _=>False⟩) has
   refine ⟨i,z,hi,hz,?_,h1⟩
   obtain ⟨m1,m2⟩:=Mm h
   have hl2:(as.zip ks).length=as.length:=by simp [hlen]
   refine ⟨by rw [m1,hl2,hcr.1];simp,fun j x c hx hc => ?_⟩
   have hj:j<as.length:=by have:=(List.getElem?_eq_some_iff.1 hx).1;omega
   have hjk:j<ks.length:=by omega
   have hzip:(as.zip ks)[j]? = some (as[j],ks[j]):=by rw [List.getElem?_zip_eq_some];exact ⟨List.getElem?_eq_getElem hj,List.getElem?_eq_getElem hjk⟩
   have hm:=m2 j _ x hzip hx
   unfold Hb at has
   rw [hi] at has
   simp [hz] at has
   obtain ⟨n1,n2⟩:=Mm has
   have hcv:=n2 j c as[j] hc (List.getElem?_eq_getElem hj)
   dsimp only at hm
   split at hm
   ·rename_i heq _
    simp at hm
    subst hm
    refine .inr ⟨_,rfl,?_⟩
    rw [heq] at hcv
    unfold Bw at hcv
    split at hcv <;> (first | (cases hcv;done) | rfl)
   ·rename_i heq _
    simp at hm
    subst hm
    exact .inl ⟨_,rfl,by rw [hcv,heq]⟩
   ·cases hm
  ·cases h
 ·cases h
theorem Q7 {P:Program} (t:TypeId) (v:Value) (w:World):(newVar t v).run P w = .ok ⟨w.heap.size,0,none⟩ { w with heap:=w.heap.push (.cells v.cells t) }:=by
 simp [newVar,newRow]
section
variable {P:Program} {h:List Blk} {s s':St} {a:Act} {w:World} {L:Nat→Lc} {v:AV} {ws:List Nat} {drw:Option Nat} {nb:Nat}
theorem X9 {w':World} {L':Nat→Lc} {r:Result Next} {H H':List Blk} {cv:Value} (h1:r = .ok (.value cv) w') (h2:AR (Zc w' H' L') v cv) (h3:HR w' H' L') (h4:Ext (Zc w H L) (Zc w' H' L')) (h5:Same w w' H L L' ws) :
  Im w H L r v H' ws:=⟨_,w',L',h1,.inl ⟨cv,rfl,h2⟩,h3,h4,h5⟩
theorem Z1r (hr:HR w (full h s) L) {o:Oper} {sz:Nat} (ho:o.op = .assign (.const (.slice none 0 0))) (he:evI h nb s (.nres sz)=some (v,s',ws)) :
  Im w (full h s) L ((execOp a.eval o).run P w) v (full h s') ws∧s'.t=s.t:=by
 simp [evI] at he
 obtain ⟨rfl,rfl,rfl⟩:=he
 obtain ⟨L',h1,h2,h3,h4⟩:=hr.reserve sz []
 rw [Yw] at h4
 refine ⟨?_,rfl⟩
 rw [Us]
 exact X9 (by simp [execOp,ho,Act.eval]) h4 h1 h2 h3
theorem Zu3 (hr:HR w (full h s) L) {o:Oper} {t:TypeId} {z:List Z} (ho:o.op = .alloc t) (hz:cZ P t=some z) (he:evI h nb s (.alloc z)=some (v,s',ws)) :
  Im w (full h s) L ((execOp a.eval o).run P w) v (full h s') ws∧s'.t=s.t:=by
 simp [evI] at he
 obtain ⟨rfl,rfl,rfl⟩:=he
 refine ⟨?_,rfl⟩
 obtain ⟨i,zv,hi,hzz,hzr,hone⟩:=Zps hz
 obtain ⟨L1,r1,r2,r3,r4,r5⟩:=Zu2 z zv.cells.toList (full h s) L hzr hr
 rw [Yw] at r1 r2 r4 r5
 obtain ⟨L',k1,k2,k3,k4⟩:=r1.newCells (Y1.push w (.cells zv.cells t)) (Yc (s.next h) z).1 zv.cells t w.heap.size (Nat.le_refl _) (V6 _ _) ⟨by rw [r4];simp,fun j x c hx hc=>r5 j x c hx (by simpa using hc)⟩ hone []
 have e:full h { s with o:=s.o++((Yc (s.next h) z).2++[Blk.cells (Yc (s.next h) z).1]) }=full h s++(Yc (s.next h) z).2++[Blk.cells (Yc (s.next h) z).1]:=by simp [full]
 rw [e]
 have e2:(full h s++(Yc (s.next h) z).2).length=s.next h+(Yc (s.next h) z).2.length:=by rw [List.length_append,Yw]
 rw [e2] at k4
 refine X9 (cv := .pointer (some ⟨w.heap.size,0,none⟩)) ?_ k4 k1 (r2.trans k2) (r3.trans k3 (by simp) fun id hid _ ⟨x,hx,lx⟩=>⟨x,by rw [List.getElem?_append_left hid];exact hx,lx⟩)
 simp only [execOp,ho,Instr.alloc]
 simp [zeroValue,typeInfo,hi,hzz,Q7]
theorem Zpt (hr:HR w (full h s) L) {o:Oper} {t:TypeId} {z:List Z} {e0:TypeId} (ho:o.op = .alloc t) (hz:cZ P t=some z) (he:evI h nb s (.allocT t e0 z)=some (v,s',ws)) :
  Im w (full h s) L ((execOp a.eval o).run P w) v (full h s') ws∧s'.t=s.t:=by
 simp [evI] at he
 obtain ⟨rfl,rfl,rfl⟩:=he
 refine ⟨?_,rfl⟩
 obtain ⟨i,zv,hi,hzz,hzr,hone⟩:=Zps hz
 obtain ⟨L1,r1,r2,r3,r4,r5⟩:=Zpr e0 z zv.cells.toList (full h s) L hzr hr
 rw [Yw] at r1 r2 r4 r5
 obtain ⟨L',k1,k2,k3,k4⟩:=r1.newBld (Y1.push w (.cells zv.cells t)) (Wl e0 (s.next h) z).1 zv.cells t w.heap.size (Nat.le_refl _) (V6 _ _) ⟨by rw [r4];simp,fun j x c hx hc=>r5 j x c hx (by simpa using hc)⟩ hone []
 have e:full h { s with o:=s.o++((Wl e0 (s.next h) z).2++[Blk.bld t (Wl e0 (s.next h) z).1]) }=full h s++(Wl e0 (s.next h) z).2++[Blk.bld t (Wl e0 (s.next h) z).1]:=by simp [full]
 rw [e]
 have e2:(full h s++(Wl e0 (s.next h) z).2).length=s.next h+(Wl e0 (s.next h) z).2.length:=by rw [List.length_append,Yw]
 rw [e2] at k4
 refine X9 (cv := .pointer (some ⟨w.heap.size,0,none⟩)) ?_ k4 k1 (r2.trans k2) (r3.trans k3 (by simp) fun id hid _ ⟨x,hx,lx⟩=>⟨x,by rw [List.getElem?_append_left hid];exact hx,lx⟩)
 simp only [execOp,ho,Instr.alloc]
 simp [zeroValue,typeInfo,hi,hzz,Q7]
theorem Z4e (hr:HR w (full h s) L) (ht:TR (Zc w (full h s) L) a s.t) {o:Oper} {t:TypeId} {x:Operand} {X:Opd} (ho:o.op = .box t x) (hx:Z6 x=some X) (he:evI h nb s (.box X)=some (v,s',ws)) :
  Im w (full h s) L ((execOp a.eval o).run P w) v (full h s') ws∧s'.t=s.t:=by
 simp only [evI] at he
 cases hX:val s X with
 | none=>simp [hX] at he
 | some u =>
  simp only [hX] at he
  cases hcs:u.cellsO with
  | none=>simp [hcs] at he
  | some cs =>
   simp [hcs] at he
   obtain ⟨rfl,rfl,rfl⟩:=he
   refine ⟨?_,rfl⟩
   obtain ⟨c1,c2⟩:=cells_ok (Zl ht hx hX) hcs
   obtain ⟨L',k1,k2,k3,k4⟩:=hr.newCells (Y1.push w (.cells (a.eval x).cells t)) cs (a.eval x).cells t w.heap.size (Nat.le_refl _) (V6 _ _) c1 c2 []
   rw [Us]
   rw [Yw] at k4
   exact X9 (cv := .pointer (some ⟨w.heap.size,0,none⟩)) (by simp [execOp,ho,Instr.box,Q7]) k4 k1 k2 k3
theorem Gh {E:Env}:∀{cs:List AV} {gs:List GV},Xq cs=some gs→cs=gs.map .g:=by
 intro cs
 induction cs with
 | nil=>intro gs h;simp [Xq] at h;subst h;rfl
 | cons x cs ih =>
  intro gs h
  cases x with
  | g v =>
   simp only [Xq] at h
   cases hg:Xq cs with
   | none=>simp [hg] at h
   | some vs=>simp [hg] at h;subst h;simp [ih hg]
  | _=>simp [Xq] at h
theorem K8 {α:Type} (sz:Nat):∀(n:Nat) (l:List α) (i:Nat) (el:List α),(Zx sz n l)[i]? = some el→i<n∧el=(l.drop (i*sz)).take sz:=by
 intro n
 induction n with
 | zero=>intro l i el h;simp [Zx] at h
 | succ n ih =>
  intro l i el h
  cases i with
  | zero=>simp [Zx] at h;exact ⟨by omega,by simp [h]⟩
  | succ i =>
   simp [Zx] at h
   obtain ⟨h1,h2⟩:=ih _ i el h
   refine ⟨by omega,?_⟩
   rw [h2,List.drop_drop]
   congr 2
   rw [Nat.add_mul];omega
theorem Su {α:Type} (sz:Nat):∀(n:Nat) (l:List α),(Zx sz n l).length=n
 | 0,_=>rfl
 | n+1,l=>by simp [Zx,Su sz n]
theorem GR.ofRow {E:Env} {b:Nat} {C:Array Value} {T:TypeId} {fr:Nat×Nat} {gs:List GV} {sz n cap:Nat} (hb:E.w.heap[b]? = some (.cells C T fr)) (hO:¬E.O b) (hn:n≤cap) (hl:gs.length=n*sz)
  (hc:∀(j:Nat) (g:GV),gs[j]? = some g→∃u,C[j]? = some u∧GR E g u):GR E (.sl sz (Zx sz n gs)) (.slice (some ⟨b,0,none⟩) n cap):=by
 have hlt:b<E.w.heap.size:=(Array.getElem?_eq_some_iff.1 hb).1
 have hget:∀(i:Nat) (el:List GV) (j:Nat) (x:GV),(Zx sz n gs)[i]? = some el→el[j]? = some x→gs[i*sz+j]? = some x∧j<sz:=by
  intro i el j x hi hj
  obtain ⟨h1,rfl⟩:=K8 sz n gs i el hi
  rw [List.getElem?_take] at hj
  split at hj
  ·rw [List.getElem?_drop] at hj;exact ⟨hj,by assumption⟩
  ·cases hj
 have hlen:=Su sz n gs
 have key:GR E (.sl sz (Zx sz n gs)) (.slice (some ⟨b,0,none⟩) (Zx sz n gs).length cap):=by
  refine .sl (fun i j=>C.getD (i*sz+j) Go.undef) (by omega) hlt hO (fun i el hi => ?_) (fun i el j x hi hj => ?_) (fun i el j x hi hj => ?_)
  ·obtain ⟨h1,rfl⟩:=K8 sz n gs i el hi
   simp only [List.length_take,List.length_drop,hl]
   have:i*sz+sz≤n*sz:=by rw [←Nat.succ_mul];exact Nat.mul_le_mul_right _ h1
   omega
  ·obtain ⟨h1,_⟩:=hget i el j x hi hj
   obtain ⟨u,hu,_⟩:=hc _ _ h1
   simp [World.cell?,hb,Array.getD_eq_getD_getElem?,hu]
  ·obtain ⟨h1,_⟩:=hget i el j x hi hj
   obtain ⟨u,hu,hg⟩:=hc _ _ h1
   simp [Array.getD_eq_getD_getElem?,hu,hg]
 rw [hlen] at key
 exact key
end
theorem R8 (b:Nat) (T:TypeId) (fr:Nat×Nat):∀(vs:List Value) (o:Nat) (w:World) (C:Array Value),w.heap[b]? = some (.cells C T fr)→o+vs.length≤C.size →
  ∃C':Array Value,(w.setCells b o vs).heap[b]? = some (.cells C' T fr)∧C'.size=C.size∧(∀i,C'[i]? = if o≤i∧i<o+vs.length then vs[i - o]? else C[i]?) ∧
   (∀b',b' ≠ b→(w.setCells b o vs).heap[b']? = w.heap[b']?)∧(w.setCells b o vs).os=w.os∧(w.setCells b o vs).tape=w.tape∧(w.setCells b o vs).output=w.output∧(w.setCells b o vs).heap.size=w.heap.size:=by
 intro vs
 induction vs with
 | nil =>
  intro o w C hb _
  exact ⟨C,hb,rfl,fun i=>by simp;intro h1 h2;omega,fun _ _=>rfl,rfl,rfl,rfl,rfl⟩
 | cons v vs ih =>
  intro o w C hb hle
  simp only [List.length_cons] at hle
  have h1:(w.setCell ⟨b,o,none⟩ v).heap[b]? = some (.cells (C.setIfInBounds o v) T fr):=by
   simp [World.setCell,Array.getElem?_modify,hb]
  obtain ⟨C',k1,k2,k3,k4,k5,k6,k7,k8⟩:=ih (o+1) _ _ h1 (by simp;omega)
  refine ⟨C',k1,by rw [k2];simp,fun i => ?_,fun b' hb' => ?_,k5,k6,k7,by show ((w.setCell ⟨b,o,none⟩ v).setCells b (o+1) vs).heap.size=_;rw [k8];simp [World.setCell]⟩
  ·rw [k3]
   by_cases hi:i=o
   ·subst hi
    rw [if_neg (by omega),if_pos (by simp)]
    simp only [Nat.sub_self,List.getElem?_cons_zero]
    rw [Array.getElem?_setIfInBounds_self]
    simp;omega
   ·by_cases hr:o+1≤i∧i<o+1+vs.length
    ·rw [if_pos hr,if_pos (by simp;omega)]
     obtain ⟨j,hj⟩:∃j,i - o=j+1:=⟨i - o - 1,by omega⟩
     rw [hj,List.getElem?_cons_succ]
     congr 1;omega
    ·rw [if_neg hr,if_neg (by simp;omega),Array.getElem?_setIfInBounds_ne (by omega)]
  ·rw [World.setCells,k4 b' hb']
   simp only [World.setCell,Array.getElem?_modify]
   rw [if_neg (by omega)]
theorem V7 {P:Program} {w:World} {b o:Nat} {C:Array Value} {T:TypeId} {vs:List Value} (hb:w.heap[b]? = some (.cells C T (0,0))) (hle:o+vs.length≤C.size) (h1:∀v∈vs,v.oneCell'=true) :
  (storeCells ⟨b,o,none⟩ vs).run P w = .ok () (w.setCells b o vs):=by
 have:=run_storeCells_cells (P:=P) b o vs 0 w (fun j hj=>by
  simp only [World.cell?,hb,Nat.add_zero,Option.isSome_none,Bool.false_eq_true,if_false]
  rw [Array.getElem?_eq_getElem (by omega)];rfl) (fun j hj=>by simp [World.frozen?,hb]) h1
 simpa using this
section
variable {P:Program} {h:List Blk} {s s':St} {a:Act} {w:World} {L:Nat→Lc} {v:AV} {ws:List Nat} {drw:Option Nat} {nb:Nat}
theorem HR.storeInto {H:List Blk} (hr:HR w H L) {id b:Nat} {k k':Blk} (hid:H[id]? = some k) (hl:k.live=true) (hbk:(L id).blk=some b) {C:Array Value} {T:TypeId} (hb:w.heap[b]? = some (.cells C T (0,0))) {o:Nat} {vs:List Value} (hle:o+vs.length≤C.size)
  (hk:∀C':Array Value,C'.size=C.size→(∀i,C'[i]? = if o≤i∧i<o+vs.length then vs[i - o]? else C[i]?)→Ext (Zc w H L) (Zc (w.setCells b o vs) (H.set id k') (Zw L id (L id))) →
   (w.setCells b o vs).heap[b]? = some (.cells C' T (0,0))→HB (Zc (w.setCells b o vs) (H.set id k') (Zw L id (L id))) id k') :
  HR (w.setCells b o vs) (H.set id k') (Zw L id (L id))∧Ext (Zc w H L) (Zc (w.setCells b o vs) (H.set id k') (Zw L id (L id)))∧Same w (w.setCells b o vs) H L (Zw L id (L id)) [id]:=by
 obtain ⟨C',k1,k2,k3,k4,k5,k6,k7,k8⟩:=R8 b T (0,0) vs o w C hb hle
 obtain ⟨e1,e2⟩:=hr.turn (w':=w.setCells b o vs) (k':=k') hid hl (L id) k5 k6 k7 (by rw [k8];exact Nat.le_refl _) (fun b' hb' hne=>k4 b' (fun e=>hne (by rw [e];exact hbk))) (.refl _ _) (fun b' hb' => .inl hb')
  (fun he=>hk C' k2 k3 he k1)
 refine ⟨e1,e2,fun j hj hne=>⟨Yk _ _ _ (by simpa using hne),fun ⟨x,hx,lx⟩ b' hb'=>k4 b' (fun e => ?_)⟩⟩
 subst e
 exact hne (by simp [hr.inj j id b' x k hx hid lx hl hb' hbk])
theorem Zu4 (hr:HR w (full h s) L) (ht:TR (Zc w (full h s) L) a s.t) {o:Oper} {t:TypeId} {p x:Operand} {Pp X:Opd} {n:Nat} (ho:o.op = .store t p x) (hs:szT P t=some n) (hp:Z6 p=some Pp) (hx:Z6 x=some X)
  (he:evI h nb s (.store n Pp X)=some (v,s',ws)):Im w (full h s) L ((execOp a.eval o).run P w) v (full h s') ws∧s'.t=s.t:=by
 simp only [evI] at he
 split at he
 ·rename_i vp vx hP hX
  cases hcs:vx.cellsO with
  | none=>simp [hcs] at he
  | some vs =>
   simp only [hcs] at he
   split at he
   ·rename_i hlen
    cases hst:Oc h s vp vs with
    | none=>simp [hst] at he
    | some r =>
     obtain ⟨s1,ws1⟩:=r
     simp [hst] at he
     obtain ⟨rfl,rfl,rfl⟩:=he
     obtain ⟨c1,c2⟩:=cells_ok (Zl ht hx hX) hcs
     have hq:=Zl ht hp hP
     have hsz:(a.eval x).cells.toList.length=vs.length:=by rw [c1.1];simp
     have hrun:∀(b o':Nat) (C:Array Value) (T:TypeId),w.heap[b]? = some (.cells C T (0,0))→o'+vs.length≤C.size→a.eval p = .pointer (some ⟨b,o',none⟩) →
       (execOp a.eval o).run P w = .ok .skip (w.setCells b o' (a.eval x).cells.toList):=by
      intro b o' C T hb hle hpe
      have hst:=V7 (P:=P) (vs:=(a.eval x).cells.toList) hb (by rw [hsz];exact hle) (fun u hu=>by
       obtain ⟨j,hj⟩:=List.getElem?_of_mem hu
       exact c2 j u (by simpa using hj))
      simp only [execOp,ho,hpe]
      unfold Instr.storeAt Instr.sureAddr storeVar
      have e0:(a.eval x).cells.size=n:=by rw [←c1.1];exact hlen
      simp only [pure_bind,Sem.run_bind,run_sizeOf hs,Result.andThen_ok,e0,ne_eq,not_true_eq_false,if_false,Sem.run_ite,Sem.run_pure,hst]
     unfold Oc at hst
     split at hst
     ·rename_i id off
      generalize hpe:a.eval p=cp at hq
      cases hq with
      | @ptr _ _ b hid hgen hbk =>
       cases hB:Yp h s id with
       | none=>simp [hB] at hst
       | some k =>
        cases k <;> simp [hB] at hst
        ·rename_i cs
         obtain ⟨⟨hle,hlt,hleaf⟩,rfl,rfl⟩:=hst
         refine ⟨?_,Va _ _ _ _⟩
         have hget:(full h s)[id]? = some (.cells cs):=by rw [Z9];exact hB
         obtain ⟨hst0,b',T,C,hb1,hb2,hb3,hb4⟩:=hr.blk id _ hget
         have:b'=b:=by have h1:(L id).blk=some b:=hbk;have h2:(L id).blk=some b':=hb1;rw [h1] at h2;cases h2;rfl
         subst this
         obtain ⟨e1,e2,e3⟩:=hr.storeInto (k' := .cells (cs.take off++(vs++cs.drop (off+vs.length)))) hget rfl hbk hb2 (o:=off) (vs:=(a.eval x).cells.toList) (by rw [hsz,hb3];exact hle) (fun C' z1 z2 hext z3=>by
          refine ⟨by rw [show (Zc _ _ _).L id=Zw L id (L id) id from rfl,Zd];exact hst0,b',T,C',by rw [show (Zc _ _ _).L id=Zw L id (L id) id from rfl,Zd];exact hbk,z3,by rw [z1,hb3];simp;omega,fun j y hj => ?_⟩
          have hl1:(cs.take off).length=off:=by simp;omega
          by_cases hin:off≤j∧j<off+vs.length
          ·rw [List.getElem?_append_right (by omega),hl1,List.getElem?_append_left (by omega)] at hj
           have hjl:j - off<(a.eval x).cells.size:=by rw [←c1.1];omega
           refine ⟨(a.eval x).cells[j - off],?_,(c1.2 _ y _ hj (Array.getElem?_eq_getElem hjl)).mono hext,c2 _ _ (Array.getElem?_eq_getElem hjl)⟩
           rw [z2,if_pos (by rw [hsz];exact hin)];simp [Array.getElem?_eq_getElem hjl]
          ·have hcs:cs[j]? = some y:=by
            by_cases hlo:j<off
            ·rw [List.getElem?_append_left (by omega),List.getElem?_take_of_lt hlo] at hj;exact hj
            ·rw [List.getElem?_append_right (by omega),hl1,List.getElem?_append_right (by omega),List.getElem?_drop] at hj
             rw [←hj];congr 1;omega
           obtain ⟨u,u1,u2,u3⟩:=hb4 j y hcs
           exact ⟨u,by rw [z2,if_neg (by rw [hsz];exact hin)];exact u1,u2.mono hext,u3⟩)
         rw [Yg]
         refine ⟨.skip,_,_,hrun b' off C T hb2 (by rw [hb3];exact hle) hpe,.inr ⟨rfl,rfl⟩,e1,e2,e3⟩
        ·rename_i T0 cs
         obtain ⟨⟨hle,hlt,hleaf⟩,rfl,rfl⟩:=hst
         refine ⟨?_,Va _ _ _ _⟩
         have hget:(full h s)[id]? = some (.bld T0 cs):=by rw [Z9];exact hB
         obtain ⟨hst0,b',C,hb1,hb2,hb3,hb4⟩:=hr.blk id _ hget
         have:b'=b:=by have h1:(L id).blk=some b:=hbk;have h2:(L id).blk=some b':=hb1;rw [h1] at h2;cases h2;rfl
         subst this
         obtain ⟨e1,e2,e3⟩:=hr.storeInto (k' := .bld T0 (cs.take off++(vs++cs.drop (off+vs.length)))) hget rfl hbk hb2 (o:=off) (vs:=(a.eval x).cells.toList) (by rw [hsz,hb3];exact hle) (fun C' z1 z2 hext z3=>by
          refine ⟨by rw [show (Zc _ _ _).L id=Zw L id (L id) id from rfl,Zd];exact hst0,b',C',by rw [show (Zc _ _ _).L id=Zw L id (L id) id from rfl,Zd];exact hbk,z3,by rw [z1,hb3];simp;omega,fun j y hj => ?_⟩
          have hl1:(cs.take off).length=off:=by simp;omega
          by_cases hin:off≤j∧j<off+vs.length
          ·rw [List.getElem?_append_right (by omega),hl1,List.getElem?_append_left (by omega)] at hj
           have hjl:j - off<(a.eval x).cells.size:=by rw [←c1.1];omega
           refine ⟨(a.eval x).cells[j - off],?_,(c1.2 _ y _ hj (Array.getElem?_eq_getElem hjl)).mono hext,c2 _ _ (Array.getElem?_eq_getElem hjl)⟩
           rw [z2,if_pos (by rw [hsz];exact hin)];simp [Array.getElem?_eq_getElem hjl]
          ·have hcs:cs[j]? = some y:=by
            by_cases hlo:j<off
            ·rw [List.getElem?_append_left (by omega),List.getElem?_take_of_lt hlo] at hj;exact hj
            ·rw [List.getElem?_append_right (by omega),hl1,List.getElem?_append_right (by omega),List.getElem?_drop] at hj
             rw [←hj];congr 1;omega
           obtain ⟨u,u1,u2,u3⟩:=hb4 j y hcs
           exact ⟨u,by rw [z2,if_neg (by rw [hsz];exact hin)];exact u1,u2.mono hext,u3⟩)
         rw [Yg]
         refine ⟨.skip,_,_,hrun b' off C T0 hb2 (by rw [hb3];exact hle) hpe,.inr ⟨rfl,rfl⟩,e1,e2,e3⟩
     ·rename_i id g sz i off
      generalize hpe:a.eval p=cp at hq
      cases hB:Yp h s id with
      | none=>simp [hB] at hst
      | some k =>
       cases k <;> simp [hB] at hst
       rename_i sz' g' els
       obtain ⟨⟨rfl,rfl⟩,hst⟩:=hst
       cases hi:els[i]? with
       | none=>simp [hi] at hst
       | some el =>
        cases hgr:Xq vs with
        | none=>simp [hi,hgr] at hst
        | some gs =>
         simp [hi,hgr] at hst
         obtain ⟨hle,rfl,rfl⟩:=hst
         refine ⟨?_,Va _ _ _ _⟩
         have hvs:=Gh (E:=Zc w (full h s) L) hgr
         have hget:(full h s)[id]? = some (.rows sz g els):=by rw [Z9];exact hB
         obtain ⟨hg1,⟨hg2,hg3⟩,hrow⟩:=hr.blk id _ hget
         cases hq with
         | rp hid hg0 hle' hone hm =>
          obtain ⟨b,hbk,rfl⟩:=hm hg1.symm
          rw [hbk] at hrow
          obtain ⟨T,C,hb2,hC1,hC2,hC3⟩:=hrow
          obtain ⟨hel,hel2⟩:=hC3 i el hi
          have hil:i<els.length:=(List.getElem?_eq_some_iff.1 hi).1
          have hgl:gs.length=vs.length:=by rw [hvs];simp
          have hbound:i*sz+off+vs.length≤C.size:=by
           rw [hC1]
           have:(i+1)*sz≤(L id).cap*sz:=Nat.mul_le_mul_right _ (by have:els.length≤(L id).cap:=hC2;omega)
           rw [Nat.add_mul] at this
           show _≤(L id).cap*sz
           omega
          obtain ⟨e1,e2,e3⟩:=hr.storeInto (k' := .rows sz g (els.set i (el.take off++(gs++el.drop (off+gs.length))))) hget rfl hbk hb2 (o:=i*sz+off) (vs:=(a.eval x).cells.toList) (by rw [hsz];exact hbound) (fun C' z1 z2 hext z3=>by
           have hLid:(Zc (w.setCells b (i*sz+off) (a.eval x).cells.toList) ((full h s).set id (.rows sz g (els.set i (el.take off++(gs++el.drop (off+gs.length)))))) (Zw L id (L id))).L id=L id:=by show Zw L id (L id) id=_;rw [Zd]
           refine ⟨by rw [hLid];exact hg1,⟨by rw [hLid];exact hg2,hg3⟩,?_⟩
           rw [hLid,show (L id).blk=some b from hbk]
           refine ⟨T,C',z3,by rw [z1];exact hC1,by simp;exact hC2,fun i' el' hi' => ?_⟩
           by_cases hii:i=i'
           ·subst hii
            rw [List.getElem?_set_self hil] at hi'
            simp at hi'
            subst hi'
            have hl1:(el.take off).length=off:=by simp;omega
            refine ⟨by simp;omega,fun j y hj => ?_⟩
            by_cases hin:off≤j∧j<off+gs.length
            ·rw [List.getElem?_append_right (by omega),hl1,List.getElem?_append_left (by omega)] at hj
             have hjl:j - off<(a.eval x).cells.size:=by rw [←c1.1];omega
             refine ⟨(a.eval x).cells[j - off],?_,((c1.2 (j - off) (.g y) _ (by rw [hvs];simp [hj]) (Array.getElem?_eq_getElem hjl)).inv_g).mono hext⟩
             rw [z2,if_pos (by rw [hsz];omega)]
             rw [show i*sz+j - (i*sz+off)=j - off by omega]
             simp [Array.getElem?_eq_getElem hjl]
            ·have hcs:el[j]? = some y:=by
              by_cases hlo:j<off
              ·rw [List.getElem?_append_left (by omega),List.getElem?_take_of_lt hlo] at hj;exact hj
              ·rw [List.getElem?_append_right (by omega),hl1,List.getElem?_append_right (by omega),List.getElem?_drop] at hj
               rw [←hj];congr 1;omega
             obtain ⟨u,u1,u2⟩:=hel2 j y hcs
             exact ⟨u,by rw [z2,if_neg (by rw [hsz];omega)];exact u1,u2.mono hext⟩
           ·rw [List.getElem?_set_ne hii] at hi'
            obtain ⟨q1,q2⟩:=hC3 i' el' hi'
            refine ⟨q1,fun j y hj => ?_⟩
            obtain ⟨u,u1,u2⟩:=q2 j y hj
            have hjs:j<sz:=by rw [←q1];exact (List.getElem?_eq_some_iff.1 hj).1
            refine ⟨u,?_,u2.mono hext⟩
            rw [z2,if_neg]
            ·exact u1
            ·rw [hsz]
             rintro ⟨y1,y2⟩
             have hij:i<i'∨i' < i:=by omega
             rcases hij with hij | hij
             ·have:=Nat.mul_le_mul_right sz (show i+1≤i' by omega)
              rw [Nat.add_mul] at this;omega
             ·have:=Nat.mul_le_mul_right sz (show i'+1≤i by omega)
              rw [Nat.add_mul] at this;omega)
          rw [Yg]
          exact ⟨.skip,_,_,hrun b (i*sz+off) C T hb2 hbound hpe,.inr ⟨rfl,rfl⟩,e1,e2,e3⟩
     ·cases hst
   ·cases he
 ·cases he
end
def Src (P:Program) (u:TypeId) (x:Value) (size n:Nat) (news:List Value) (w:World):Prop :=
 ((∃d,P.underlying u=some d∧((∃e,d = .slice e)∨d = .string))∧(∀w1,(Builtin.lenOf x).run P w1 = .ok n w1)∧∀w1:World,w1.heap=w.heap→(Builtin.firstCells size n x).run P w1 = .ok news.toArray w1)
section
variable {P:Program} {w:World} {t u ty e:TypeId} {size bytes:Nat}
theorem Mn (hs:szT P e=some size) (hb:Q2 P e=some bytes):∃i,P.info? e=some i∧i.size=size∧i.bytes=bytes:=by
 unfold szT at hs;unfold Q2 at hb
 cases hi:P.info? e with
 | none=>simp [hi] at hs
 | some i=>simp [hi] at hs hb;exact ⟨i,rfl,hs,hb⟩
theorem Q8 (ht:P.underlying t=some (.slice e)) (hs:szT P e=some size) (hby:Q2 P e=some bytes) (A:Option Addr) (sLen sCap n:Nat) (x:Value) (news:List Value) (hsrc:Src P u x size n news w) (hroom:sLen+n≤sCap) (w2:World)
  (hst:match A with | none=>w2=w | some a=>(storeCells (a.add (sLen*size)) news).run P w = .ok () w2) :
  (Builtin.append_ #[t,u] ty #[.slice A sLen sCap,x]).run P w = .ok (.slice A (sLen+n) sCap) w2:=by
 obtain ⟨i,hi,rfl,rfl⟩:=Mn hs hby
 obtain ⟨⟨d,hu,hd⟩,hl,hf⟩:=hsrc
 have hf':=hf w rfl
 rcases hd with ⟨e',rfl⟩ | rfl <;> cases A <;>
  simp only [] at hst <;>
  simp [Builtin.append_,run_underlying ht,run_underlying hu,sizeOf,typeInfo,hi,hl,hroom,hf',hst]
def W4 (w:World) (need old:Nat) (e:TypeId) (z:Value) (olds news:List Value):World :=
 w.drew.alloc (.cells (olds.toArray++(news.toArray++Builtin.zeroCells z.cells (grownCap w need old e - need))) e)
theorem Q9 (ht:P.underlying t=some (.slice e)) (hs:szT P e=some size) (hby:Q2 P e=some bytes) {z:Value} (hz:(P.info? e).bind (·.zero)=some z) (A:Option Addr) (sLen sCap n:Nat) (x:Value) (olds news:List Value) (hsrc:Src P u x size n news w)
  (hroom:¬sLen+n≤sCap) (hn:sLen+n≤9223372036854775807) (hbytes:(sLen+n)*bytes≤140737488355328)
  (hold:∀w1:World,w1.heap=w.heap→(Builtin.firstCells size sLen (.slice A sLen sCap)).run P w1 = .ok olds.toArray w1) :
  (Builtin.append_ #[t,u] ty #[.slice A sLen sCap,x]).run P w =
   .ok (.slice (some ⟨w.heap.size,0,none⟩) (sLen+n) (grownCap w (sLen+n) sCap e)) (W4 w (sLen+n) sCap e z olds news):=by
 obtain ⟨i,hi,rfl,rfl⟩:=Mn hs hby
 obtain ⟨⟨d,hu,hd⟩,hl,hf⟩:=hsrc
 have hf':=hf w.drew rfl
 have ho':=hold w.drew rfl
 have hfit:=growslice_fits (old:=sCap) (need:=sLen+n) (bytes:=i.bytes) (by omega) hbytes
 have hz':i.zero=some z:=by simpa [hi] using hz
 have hmax':¬(9223372036854775807<(sLen:Int)+(n:Int)):=by omega
 have hfit':¬(281474976710656<Builtin.nextslicecap (sLen+n) sCap*i.bytes):=by omega
 rcases hd with ⟨e',rfl⟩ | rfl
 ·simp [Builtin.append_,run_underlying ht,run_underlying hu,sizeOf,typeInfo,zeroValue,hi,hz',hl,hroom,hmax',hfit',Question.forced,grownCap,newRow,hf',ho',W4]
 ·simp [Builtin.append_,run_underlying ht,run_underlying hu,sizeOf,typeInfo,zeroValue,hi,hz',hl,hroom,hmax',hfit',Question.forced,grownCap,newRow,hf',ho',W4]
theorem Zbd (z:Value):Builtin.zeroCells z.cells 0 = #[]:=by
 apply Array.eq_empty_of_size_eq_zero;simp [Builtin.zeroCells]
theorem D7 (z:Value) (n:Nat) (h:z.cells.size=0):Builtin.zeroCells z.cells n = #[]:=by
 apply Array.eq_empty_of_size_eq_zero;simp [Builtin.zeroCells,h]
theorem Dl (ht:P.underlying t=some (.slice e)) (hs:szT P e=some size) (hby:Q2 P e=some bytes) (A:Option Addr) (sLen sCap n:Nat) (x:Value) (news:List Value) {z:Value} (hz:(P.info? e).bind (·.zero)=some z) (hzs:z.cells.size=size) {k:IntKind} (hu:P.underlying u=some (.int k)) (hn1:n≤281474976710656) (hn2:n*bytes≤281474976710656) (hroom:sLen+n≤sCap) (w2:World)
  (hst:match A with | none=>w2=w | some a=>(storeCells (a.add (sLen*size)) (Builtin.zeroCells z.cells n).toList).run P w = .ok () w2) :
  (Builtin.append_ #[t,u] ty #[.slice A sLen sCap,.int .i64 n]).run P w = .ok (.slice A (sLen+n) sCap) w2:=by
 obtain ⟨i,hi,rfl,rfl⟩:=Mn hs hby
 have hw:IntKind.i64.wrap (n:Int)=n:=IntWalk.i64_in _ (by omega)
 have hz':i.zero=some z:=by simpa [hi] using hz
 have h0:¬((n:Int)<0):=by omega
 have h1:¬((n:Int)*(i.bytes:Int) > 281474976710656):=by
  have:((n*i.bytes:Nat):Int)≤281474976710656:=by omega
  rw [Int.natCast_mul] at this;omega
 have h1':¬(281474976710656<(n:Int)*(i.bytes:Int)):=h1
 by_cases hnz:n*i.size=0
 ·have hzero:Builtin.zeroCells z.cells n = #[]:=by
   rcases Nat.mul_eq_zero.mp hnz with h | h
   ·subst h;exact Zbd z
   ·exact D7 z n (by omega)
  cases A <;> simp only [] at hst <;>
   simp [Builtin.append_,run_underlying ht,run_underlying hu,sizeOf,typeInfo,hi,asInt,asIntOf,hw,h0,h1',hroom,hnz,hzero] at hst ⊢ <;>
   simp_all [storeCells]
 ·cases A <;> simp only [] at hst <;>
   simp [Builtin.append_,run_underlying ht,run_underlying hu,sizeOf,typeInfo,zeroValue,hi,hz',asInt,asIntOf,hw,h0,h1',hroom,hnz,hst]
theorem Dm (ht:P.underlying t=some (.slice e)) (hs:szT P e=some size) (hby:Q2 P e=some bytes) {z:Value} (hz:(P.info? e).bind (·.zero)=some z) (hzs:z.cells.size=size) (A:Option Addr) (sLen sCap n:Nat) (olds:List Value) {k:IntKind} (hu:P.underlying u=some (.int k)) (hn1:n≤281474976710656) (hn2:n*bytes≤281474976710656)
  (hroom:¬sLen+n≤sCap) (hn:sLen+n≤9223372036854775807) (hbytes:(sLen+n)*bytes≤140737488355328)
  (hold:∀w1:World,w1.heap=w.heap→(Builtin.firstCells size sLen (.slice A sLen sCap)).run P w1 = .ok olds.toArray w1) :
  (Builtin.append_ #[t,u] ty #[.slice A sLen sCap,.int .i64 n]).run P w =
   .ok (.slice (some ⟨w.heap.size,0,none⟩) (sLen+n) (grownCap w (sLen+n) sCap e)) (W4 w (sLen+n) sCap e z olds (Builtin.zeroCells z.cells n).toList):=by
 obtain ⟨i,hi,rfl,rfl⟩:=Mn hs hby
 have hw:IntKind.i64.wrap (n:Int)=n:=IntWalk.i64_in _ (by omega)
 have ho':=hold w.drew rfl
 have hfit:=growslice_fits (old:=sCap) (need:=sLen+n) (bytes:=i.bytes) (by omega) hbytes
 have hz':i.zero=some z:=by simpa [hi] using hz
 have h0:¬((n:Int)<0):=by omega
 have h1':¬(281474976710656<(n:Int)*(i.bytes:Int)):=by
  have:((n*i.bytes:Nat):Int)≤281474976710656:=by omega
  rw [Int.natCast_mul] at this;omega
 have hmax':¬(9223372036854775807<(sLen:Int)+(n:Int)):=by omega
 have hfit':¬(281474976710656<Builtin.nextslicecap (sLen+n) sCap*i.bytes):=by omega
 by_cases hnz:n*i.size=0
 ·have hzero:Builtin.zeroCells z.cells n = #[]:=by
   rcases Nat.mul_eq_zero.mp hnz with h | h
   ·subst h;exact Zbd z
   ·exact D7 z n (by omega)
  simp [Builtin.append_,run_underlying ht,run_underlying hu,sizeOf,typeInfo,zeroValue,hi,hz',asInt,asIntOf,hw,h0,h1',hroom,hmax',hfit',Question.forced,grownCap,newRow,hnz,ho',W4,hzero]
 ·simp [Builtin.append_,run_underlying ht,run_underlying hu,sizeOf,typeInfo,zeroValue,hi,hz',asInt,asIntOf,hw,h0,h1',hroom,hmax',hfit',Question.forced,grownCap,newRow,hnz,ho',W4]
end
end Go.AM
