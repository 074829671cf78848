/- Part of the proof: the abstract machine, part 4 (AMDraw, AMBits, AMSlices, AMFuncs, AMAbb). No conditions. -/
import Derived.Test.YtndfdnlbljhlgaaGreatAMJ3
section
set_option linter.unusedSimpArgs false
set_option linter.unusedVariables false
namespace Go.AM
open Go
noncomputable def alt2 (x y:Option St):Option St :=
 match x,y with
 | some a,some b=>open Classical in if a=b then some a else none
 | _,_=>none
theorem alt2_some (a:St):alt2 (some a) (some a)=some a:=by unfold alt2;simp
theorem alt2_same (x:Option St):alt2 x x=x:=by
 cases x with
 | none=>rfl
 | some a=>exact alt2_some a
theorem alt2_ite (c:Prop) [Decidable c] (a b x y:Option St):alt2 (if c then a else b) (if c then x else y)=if c then alt2 a x else alt2 b y:=by split <;> rfl
section
variable (E:FnS) (h:List Blk) (nb:Nat) (lv hd:List Nat) (s:St)
theorem evLead_take (o:AOper) (t:Tree):evLead E h nb lv hd (.take o t) s=ob (evTake h s o) fun p=>evLead E h nb lv (p.2++hd) t p.1:=by
 simp only [evLead];rcases evTake h s o with _ | ⟨a,b⟩ <;> rfl
theorem evLead_leaf:evLead E h nb lv hd .leaf s=if (hd.all (isLiveB (full h s)))=true then evTree E h nb lv hd .leaf s else none:=by simp only [evLead]
theorem evLead_one (o:AOper) (t:Tree):evLead E h nb lv hd (.one o t) s=if (hd.all (isLiveB (full h s)))=true then evTree E h nb lv hd (.one o t) s else none:=by simp only [evLead]
theorem evLead_alt (o:AOper) (t r:Tree):evLead E h nb lv hd (.alt o t r) s=if (hd.all (isLiveB (full h s)))=true then evTree E h nb lv hd (.alt o t r) s else none:=by simp only [evLead]
theorem evLead_free (t:Tree):evLead E h nb lv hd (.free t) s=if (hd.all (isLiveB (full h s)))=true then evTree E h nb lv [] t s else none:=by simp only [evLead,evTree]
theorem evTree_leaf:evTree E h nb lv hd .leaf s=some (s.kp lv):=by simp only [evTree]
theorem evTree_free (t:Tree):evTree E h nb lv hd (.free t) s=evTree E h nb lv [] t s:=by simp only [evTree]
theorem evTree_take (o:AOper) (t:Tree):evTree E h nb lv hd (.take o t) s=if ldOk s hd o=true then ob (evTake h s o) fun p=>evTree E h nb lv hd t p.1 else none:=by
 simp only [evTree]
 split
 ·rename_i h1
  split at h1
  ·rename_i hl;rw [if_pos hl,h1];rfl
  ·cases h1
 ·rename_i h1
  split at h1
  ·rename_i hl;rw [if_pos hl,h1];rfl
  ·rename_i hl;rw [if_neg hl]
theorem evTree_hold (ts:List Nat) (t:Tree):evTree E h nb lv hd (.hold ts t) s=evTree E h nb lv hd t s:=by simp only [evTree]
theorem evLead_hold (ts:List Nat) (t:Tree):evLead E h nb lv hd (.hold ts t) s=evLead E h nb lv (holdIds s ts++hd) t s:=by simp only [evLead]
def ptrCons:Option AV→List Nat→List Nat
 | some (.ptr id _),l=>id::l
 | _,l=>l
theorem ptrCons_ptr (id o:Nat) (l:List Nat):ptrCons (some (.ptr id o)) l=id::l:=rfl
theorem holdIds_nil:holdIds s []=[]:=by simp only [holdIds]
theorem holdIds_cons (t:Nat) (r:List Nat):holdIds s (t::r)=ptrCons (look s.t t) (holdIds s r):=by
 simp only [holdIds]
 rcases look s.t t with _ | v
 ·rfl
 ·cases v <;> rfl
def ldP:Option AV→List Nat→Bool
 | some (.ptr id _),hd=>hd.contains id
 | _,_=>false
theorem ldP_ptr (id o:Nat) (hd:List Nat):ldP (some (.ptr id o)) hd=hd.contains id:=rfl
def ldQ (s:St) (hd:List Nat) (g:Option (Nat×Bool)):AOp→Bool
 | .load _ _ p=>gdOff s g||ldP (val s p) hd
 | _=>true
theorem ldOk_mk (d:Option Nat) (g:Option (Nat×Bool)) (op:AOp):ldOk s hd ⟨d,g,op⟩=ldQ s hd g op:=by
 cases op <;> first | rfl | (
  simp only [ldOk,ldQ]
  congr 1
  rename_i p
  rcases val s p with _ | v
  ·rfl
  ·cases v <;> rfl)
def offA (b:Bool):AV→Bool
 | .g (.bool x)=>x != b
 | .undef=>true
 | _=>false
def offO (b:Bool):Option AV→Bool
 | some v=>offA b v
 | none=>false
theorem gdOff_none:gdOff s none=false:=rfl
theorem gdOff_some (g:Nat) (b:Bool):gdOff s (some (g,b))=offO b (look s.t g):=by
 simp only [gdOff]
 rcases look s.t g with _ | v
 ·rfl
 ·cases v <;> first | rfl | (rename_i q;cases q <;> rfl)
theorem offO_bool (b x:Bool):offO b (some (.g (.bool x)))=(x != b):=rfl
theorem offO_undef (b:Bool):offO b (some .undef)=true:=rfl
theorem evTree_one (o:AOper) (t:Tree):evTree E h nb lv hd (.one o t) s=ob (evOne E h nb hd s o) fun p=>if (p.2.all fun i => !hd.contains i)=true then evTree E h nb lv hd t p.1 else none:=by
 simp only [evTree];rcases evOne E h nb hd s o with _ | ⟨a,b⟩ <;> rfl
theorem evTree_alt (o:AOper) (t r:Tree):evTree E h nb lv hd (.alt o t r) s=ob (evOne E h nb hd s o) fun p=>if (p.2.all fun i => !hd.contains i)=true then alt2 (evTree E h nb lv hd t p.1) (evTree E h nb lv hd r s) else none:=by
 simp only [evTree];rcases evOne E h nb hd s o with _ | ⟨a,b⟩
 ·rfl
 ·rfl
theorem evCall_fnh (f:FuncId) (xs:List AV):evCall E h hd s (.g (.fn f)) xs=if (hd.all (isLiveB (full h s)))=true then fin h hd s (E f xs (hideB hd (full h s))) else none:=by simp [evCall]
theorem evCall_fv (f:FuncId) (caps xs:List AV):evCall E h hd s (.fv f caps) xs=if (hd.all (isLiveB (full h s)))=true then fin h hd s (E f (xs++caps) (hideB hd (full h s))) else none:=by simp [evCall]
theorem evCall_bv (f:FuncId) (caps xs:List AV):evCall E h hd s (.bv f caps) xs=if (hd.all (isLiveB (full h s)))=true then fin h hd s (E f (caps++xs) (hideB hd (full h s))) else none:=by simp [evCall]
theorem pends_zero:pends s 0=s:=by simp [pends]
end
attribute [simp ↓] alt2_same alt2_ite
attribute [simp] evTree_hold evLead_hold ptrCons_ptr holdIds_nil holdIds_cons ldP_ptr ldQ ldOk_mk gdOff_none gdOff_some offO_bool offO_undef
attribute [simp] evLead_take evLead_leaf evLead_one evLead_alt evLead_free evTree_leaf evTree_free evTree_take evTree_one evTree_alt pends_zero
attribute [simp] evCall_fnh evCall_fv evCall_bv
@[simp] theorem blk_add (h:List Blk) (a b:Nat):h.length+a+b=h.length+(a+b):=Nat.add_assoc _ _ _
@[simp] theorem getB_nil (t:List (Nat×AV)) (m:List (Nat×Blk)) (o:List Blk) (k:Nat):getB [] ⟨t,m,o⟩ k=o[k]?:=by simp [getB]
@[simp] theorem setB_nil (t:List (Nat×AV)) (m:List (Nat×Blk)) (o:List Blk) (k:Nat) (b:Blk):setB [] ⟨t,m,o⟩ k b=⟨t,m,o.set k b⟩:=by simp [setB]
@[simp ↓] theorem fin_res (h:List Blk) (hd:List Nat) (s:St) (r:AV) (m:List (Nat×Blk)) (o:List Blk) :
  fin h hd s (some ⟨r,m,o⟩)=if (m.all fun p => !hd.contains p.1)=true then some (r,(setAll h s m).app o,m.map (·.1)) else none:=rfl
@[simp] theorem setAll_nil (h:List Blk) (s:St):setAll h s []=s:=by simp only [setAll]
@[simp] theorem setAll_cons (h:List Blk) (s:St) (i:Nat) (b:Blk) (r:List (Nat×Blk)):setAll h s ((i,b)::r)=setB h (setAll h s r) i b:=by simp only [setAll]
@[simp] theorem app_mk (t:List (Nat×AV)) (m:List (Nat×Blk)) (o o':List Blk):St.app ⟨t,m,o⟩ o'=⟨t,m,o++o'⟩:=rfl
def orB:Option Blk→Option Blk→Option Blk
 | some b,_=>some b
 | none,x=>x
@[simp] theorem orB_some (b:Blk) (x:Option Blk):orB (some b) x=some b:=rfl
@[simp] theorem orB_none (x:Option Blk):orB none x=x:=rfl
theorem getB_old {h:List Blk} {id:Nat} (hid:id<h.length) (t:List (Nat×AV)) (m:List (Nat×Blk)) (o:List Blk):getB h ⟨t,m,o⟩ id=orB (lookM m id) h[id]?:=by
 unfold getB
 rw [if_pos hid]
 simp only
 cases lookM m id <;> rfl
theorem setB_old {h:List Blk} {id:Nat} (hid:id<h.length) (t:List (Nat×AV)) (m:List (Nat×Blk)) (o:List Blk) (b:Blk):setB h ⟨t,m,o⟩ id b=⟨t,updM m id b,o⟩:=by
 unfold setB
 rw [if_pos hid]
@[simp] theorem lookM_nil (i:Nat):lookM [] i=none:=by simp only [lookM]
@[simp] theorem lookM_cons (a i:Nat) (v:Blk) (t:List (Nat×Blk)):lookM ((a,v)::t) i=if a=i then some v else lookM t i:=by simp only [lookM]
@[simp] theorem updM_nil (i:Nat) (b:Blk):updM [] i b=[(i,b)]:=by simp only [updM]
@[simp] theorem updM_cons (a i:Nat) (v b:Blk) (t:List (Nat×Blk)):updM ((a,v)::t) i b=if a=i then (a,b)::t else (a,v)::updM t i b:=by simp only [updM]
@[simp] theorem blk_lt1_bld (n:Nat) (T:TypeId) (cs:List AV):(Blk.bld T cs).lt1 n=cs.all (AV.lt1 n):=by simp only [Blk.lt1]
@[simp] theorem blk_lt1_trow (n:Nat) (T:TypeId) (sz g:Nat) (els:List (List GV)):(Blk.trow T sz g els).lt1 n=true:=by simp only [Blk.lt1]
@[simp] theorem blk_lt1_cells (n:Nat) (cs:List AV):(Blk.cells cs).lt1 n=cs.all (AV.lt1 n):=by simp only [Blk.lt1]
@[simp] theorem blk_lt1_rows (n a b:Nat) (els:List (List GV)):(Blk.rows a b els).lt1 n=true:=by simp only [Blk.lt1]
@[simp] theorem set_last {α:Type} (l:List α) (a b:α):(l++[a]).set l.length b=l++[b]:=by simp
@[simp] theorem getB_last (h:List Blk) (t:List (Nat×AV)) (m:List (Nat×Blk)) (o:List Blk) (b:Blk):getB h ⟨t,m,o++[b]⟩ (h.length+o.length)=some b:=by simp
@[simp] theorem setB_last (h:List Blk) (t:List (Nat×AV)) (m:List (Nat×Blk)) (o:List Blk) (b b':Blk):setB h ⟨t,m,o++[b]⟩ (h.length+o.length) b'=⟨t,m,o++[b']⟩:=by simp
@[simp] theorem blk_nlt (h:List Blk) (k:Nat):(h.length+k<h.length)=False:=by simp
theorem isLive_own0 (h o:List Blk):isLiveB (h++o) h.length=isLiveB o 0:=by unfold isLiveB;rw [List.getElem?_append_right (Nat.le_refl _),Nat.sub_self]
theorem isLive_own (h o:List Blk) (k:Nat):isLiveB (h++o) (h.length+k)=isLiveB o k:=by unfold isLiveB;rw [List.getElem?_append_right (by omega),Nat.add_sub_cancel_left]
theorem isLive_zero (b:Blk) (o:List Blk):isLiveB (b::o) 0=b.live:=by unfold isLiveB;rw [List.getElem?_cons_zero]
theorem isLive_succ (b:Blk) (o:List Blk) (k:Nat):isLiveB (b::o) (k+1)=isLiveB o k:=by unfold isLiveB;rw [List.getElem?_cons_succ]
attribute [simp] isLive_own0 isLive_own isLive_zero isLive_succ Blk.live
attribute [simp] full applyM hideB
end Go.AM
end
section
set_option linter.unusedSimpArgs false
set_option linter.unusedVariables false
namespace Go.AM
open Go
@[simp] theorem nat_not_neg (n:Nat):((n:Int)<0)=False:=by apply propext;constructor <;> intro h <;> first | omega | exact h.elim
@[simp] theorem bytesG_nil:bytesG []=[]:=rfl
theorem bytesG_len (b:List UInt8):(bytesG b).length=b.length:=by simp [bytesG]
end Go.AM
end
section
set_option linter.unusedSimpArgs false
set_option linter.unusedVariables false
set_option maxRecDepth 4000
namespace Go.AM
open Go
def growF (sz bytes:Nat) (z:List GV) (m:TypeId) (msg:List UInt8):IFunc:=⟨2,27,[.tmp 4],true,
 .seq (.reg [0,1] [⟨(some 4),none,.nres sz⟩]) <|
 .seq (.seq (.reg [0,1,6] [⟨(some 5),none,.mov (.t 1)⟩,
   ⟨(some 6),none,.bin .lss (.t 5) (.c (.g (.int .i64 0)))⟩]) <|
 .cond [0,1] (.t 6)
  (.reg [0,1] [⟨(some 7),none,.mkif m (.c (.g (.str msg)))⟩,
   ⟨none,none,.row 0 []⟩])
  (.skip)) <|
 .seq (.seq (.reg [0,1] [⟨(some 8),none,.mov (.t 1)⟩,
   ⟨(some 9),none,.mov (.t 0)⟩,
   ⟨(some 10),none,.cap (.t 9)⟩,
   ⟨(some 11),none,.mov (.t 0)⟩,
   ⟨(some 12),none,.len (.t 11)⟩,
   ⟨(some 13),none,.bin .sub (.t 10) (.t 12)⟩,
   ⟨(some 14),none,.bin .sub (.t 8) (.t 13)⟩,
   ⟨(some 1),none,.mov (.t 14)⟩]) <|
 .seq (.reg [0,1,16] [⟨(some 15),none,.mov (.t 1)⟩,
   ⟨(some 16),none,.bin .gtr (.t 15) (.c (.g (.int .i64 0)))⟩]) <|
 .cond [0] (.t 16)
  (.reg [0] [⟨(some 17),none,.mov (.t 0)⟩,
   ⟨(some 18),none,.mov (.t 0)⟩,
   ⟨(some 19),none,.cap (.t 18)⟩,
   ⟨(some 20),none,.slc sz (.t 17) none (some (.t 19))⟩,
   ⟨(some 21),none,.mov (.t 1)⟩,
   ⟨(some 22),none,.appZ sz bytes z (.t 20) (.t 21)⟩,
   ⟨(some 23),none,.mov (.t 0)⟩,
   ⟨(some 24),none,.len (.t 23)⟩,
   ⟨(some 25),none,.slc sz (.t 22) none (some (.t 24))⟩,
   ⟨(some 0),none,.mov (.t 25)⟩])
  (.skip)) <|
 .seq (.reg [4] [⟨(some 26),none,.mov (.t 0)⟩,
  ⟨(some 4),none,.mov (.t 26)⟩]) <|
 .ret⟩
theorem grow_ev {Tb:Tab} {f:FuncId} {sz bytes:Nat} {z:List GV} {m:TypeId} {msg:List UInt8} (hF:Tb.T f=some (growF sz bytes z m msg)) (n:Nat) (hn:n≤140737488355328) (hb:n*bytes≤140737488355328) (H:List Blk) :
  EvF Tb f [.g .nsl,I n] H=some (if n=0 then ⟨.g .nsl,[],[.rows sz 1 []]⟩ else ⟨.ms (H.length+1) 2 sz 0 0,[],[.rows sz 1 [],.rows sz 2 (List.replicate n z)]⟩):=by
 refine EvF_walk hF (by simp) ?_
 have e1:IntKind.i64.wrap (n:Int)=n:=wrap_i64 (by omega) (by omega)
 have e0:IntKind.i64.wrap 0=0:=rfl
 by_cases h0:n=0
 ·subst h0
  simp -implicitDefEqProofs [e0]
 ·obtain ⟨k,rfl⟩:∃k,n=k+1:=⟨n - 1,by omega⟩
  have e3:((k+1:Nat):Int)≤281474976710656:=by omega
  have e4:((k+1:Nat):Int)*(bytes:Int)≤281474976710656:=by
   have:((k+1:Nat):Int)*(bytes:Int)=(((k+1)*bytes:Nat):Int):=by simp
   rw [this];omega
  obtain ⟨N,hN⟩:∃N:Nat,k+1=N:=⟨_,rfl⟩
  rw [hN] at e1 e3 e4 hn hb ⊢
  have hpos:0<N:=by omega
  have e2:List.replicate N z=z::List.replicate k z:=by rw [←hN];rfl
  simp -implicitDefEqProofs [e0,e1,hpos,show ¬N=0 by omega,cutB,bnd,intOfA,e3,e4,e2,appV,room,hN,hn,hb]
def concatL0 (m:TypeId) (msg:List UInt8):IC :=
 .seq (.reg [0,3,9,10,11,12] [⟨(some 12),none,.bin .lss (.t 11) (.t 10)⟩]) <|
 .seq (.cond [0,3,9,10,11] (.t 12)
  (.skip)
  (.exit 0)) <|
 .seq (.block [0,3,9,10,11] 1 <|
 .seq (.reg [0,3,5,9,10,11] [⟨(some 13),none,.iaddr 1 (.t 9) (.t 11)⟩,
   ⟨(some 14),none,.load false 1 (.t 13)⟩,
   ⟨(some 5),none,.mov (.t 14)⟩]) <|
 .seq (.reg [0,3,9,10,11] [⟨(some 15),none,.mov (.t 3)⟩,
   ⟨(some 16),none,.mov (.t 5)⟩,
   ⟨(some 17),none,.len (.t 16)⟩,
   ⟨(some 18),none,.bin .add (.t 15) (.t 17)⟩,
   ⟨(some 3),none,.mov (.t 18)⟩]) <|
 .seq (.reg [0,3,9,10,11,20] [⟨(some 19),none,.mov (.t 3)⟩,
   ⟨(some 20),none,.bin .lss (.t 19) (.c (.g (.int .i64 0)))⟩]) <|
 .cond [0,3,9,10,11] (.t 20)
  (.reg [0,3,9,10,11] [⟨(some 21),none,.mkif m (.c (.g (.str msg)))⟩,
   ⟨none,none,.row 0 []⟩])
  (.skip)) <|
 .reg [0,3,9,10,11] [⟨(some 22),none,.bin .add (.t 11) (.c (.g (.int .i64 1)))⟩,
  ⟨(some 11),none,.mov (.t 22)⟩]
def concatL1 (sz bytes:Nat):IC :=
 .seq (.reg [6,25,26,27,28] [⟨(some 28),none,.bin .lss (.t 27) (.t 26)⟩]) <|
 .seq (.cond [6,25,26,27] (.t 28)
  (.skip)
  (.exit 2)) <|
 .seq (.block [6,25,26,27] 3 <|
 .seq (.reg [6,8,25,26,27] [⟨(some 29),none,.iaddr 1 (.t 25) (.t 27)⟩,
   ⟨(some 30),none,.load false 1 (.t 29)⟩,
   ⟨(some 8),none,.mov (.t 30)⟩]) <|
 .reg [6,25,26,27] [⟨(some 31),none,.mov (.t 6)⟩,
  ⟨(some 32),none,.mov (.t 8)⟩,
  ⟨(some 33),none,.app sz bytes (.t 31) (.t 32)⟩,
  ⟨(some 6),none,.mov (.t 33)⟩]) <|
 .reg [6,25,26,27] [⟨(some 34),none,.bin .add (.t 27) (.c (.g (.int .i64 1)))⟩,
  ⟨(some 27),none,.mov (.t 34)⟩]
def concatF (sz bytes:Nat) (g:FuncId) (m:TypeId) (msg:List UInt8):IFunc:=⟨1,36,[.tmp 2],false,
 .seq (.reg [0] [⟨(some 2),none,.nres sz⟩]) <|
 .seq (.reg [0,3] [⟨(some 3),none,.mov (.c (.g (.int .i64 0)))⟩]) <|
 .seq (.seq (.reg [0,3,9,10,11] [⟨(some 9),none,.mov (.t 0)⟩,
   ⟨(some 10),none,.len (.t 9)⟩,
   ⟨(some 11),none,.mov (.c (.g (.int .i64 0)))⟩]) <|
 .block [0,3] 0 <|
 .loop [0,3,9,10,11] [] (concatL0 m msg)) <|
 .seq (.reg [0,6] [⟨(some 23),none,.mov (.t 3)⟩,
  ⟨(some 24),none,.call (.c (.g (.fn g))) [(.c (.g (.nsl))),(.t 23)]⟩,
  ⟨(some 6),none,.mov (.t 24)⟩]) <|
 .seq (.seq (.reg [6,25,26,27] [⟨(some 25),none,.mov (.t 0)⟩,
   ⟨(some 26),none,.len (.t 25)⟩,
   ⟨(some 27),none,.mov (.c (.g (.int .i64 0)))⟩]) <|
 .block [6] 2 <|
 .loop [6,25,26,27] [] (concatL1 sz bytes)) <|
 .seq (.reg [2] [⟨(some 35),none,.mov (.t 6)⟩,
  ⟨(some 2),none,.mov (.t 35)⟩]) <|
 .ret⟩
def nslG {α:Type} (sz:Nat) (c:α→List GV) (l:List α):GV:=if l=[] then .nsl else .sl sz (l.map c)
theorem concat_loop0 {E:FnS} {m:TypeId} {msg:List UInt8} {α:Type} {sz:Nat} {c:α→List GV} (a b:Sl α) (hl:a.l.length+b.l.length≤140737488355328) (H o:List Blk) :
  loopE E H (concatL0 m msg) [0,3,9,10,11] ⟨[(0,.g (.sl 1 [[a.g sz c],[b.g sz c]])),(3,I 0),(9,.g (.sl 1 [[a.g sz c],[b.g sz c]])),(10,I 2),(11,I 0)],[],o⟩ =
   some (.exit 0,⟨[(0,.g (.sl 1 [[a.g sz c],[b.g sz c]])),(3,I (a.l.length+b.l.length:Nat)),(9,.g (.sl 1 [[a.g sz c],[b.g sz c]])),(10,I 2),(11,I 2),(12,B false)],[],o⟩):=by
 have e1:IntKind.i64.wrap (a.l.length:Int)=a.l.length:=wrap_i64 (by omega) (by omega)
 have e2:IntKind.i64.wrap ((a.l.length:Int)+b.l.length)=(a.l.length:Int)+b.l.length:=wrap_i64 (by omega) (by omega)
 have e3:IntKind.i64.wrap 1=1:=rfl
 have e4:IntKind.i64.wrap 2=2:=rfl
 have e5:¬(a.l.length:Int)+b.l.length<0:=by omega
 rw [loopE_step (c:=concatL0 m msg) (by delta concatL0;rfl)]
 simp -implicitDefEqProofs [e1,e3]
 rw [loopE_step (c:=concatL0 m msg) (by delta concatL0;rfl)]
 simp -implicitDefEqProofs [e2,e4,e5]
 rw [loopE_step (c:=concatL0 m msg) (by delta concatL0;rfl)]
 simp -implicitDefEqProofs
theorem app_in {h:List Blk} {t:List (Nat×AV)} {sz bytes n k:Nat} {xs ys:List (List GV)} {z:List GV} (hx:xs.length=n) (hk:n+ys.length≤k) (A B:Blk) :
  appV h ⟨t,[],[A,B,.rows sz 2 (xs++List.replicate (k - n) z)]⟩ sz bytes (.ms (h.length+2) 2 sz 0 n) ys =
   some (.ms (h.length+2) 2 sz 0 (n+ys.length),⟨t,[],[A,B,.rows sz 2 ((xs++ys)++List.replicate (k - (n+ys.length)) z)]⟩,if ys=[] then [] else [h.length+2]):=by
 cases ys with
 | nil=>simp -implicitDefEqProofs [appV,cur]
 | cons y ys =>
  have e1:(xs++List.replicate (k - n) z).take n=xs:=by rw [←hx];simp
  have e2:(xs++List.replicate (k - n) z).drop (n+(y::ys).length)=List.replicate (k - (n+(y::ys).length)) z:=by
   rw [List.drop_append,List.drop_eq_nil_of_le (by omega),List.drop_replicate]
   simp only [List.nil_append,hx]
   congr 1;omega
  have e3:0+n+(y::ys).length≤(xs++List.replicate (k - n) z).length:=by simp;simp at hk;omega
  simp only [appV,getB_own,List.getElem?_cons_succ,List.getElem?_cons_zero,true_and,if_true,if_pos e3,Nat.zero_add,e1,e2,setB_own,List.set_cons_succ,List.set_cons_zero]
  simp
  simp at hk;omega
theorem concat_loop1 {E:FnS} {α:Type} {sz bytes:Nat} {z:List GV} {c:α→List GV} (a b:Sl α) (H:List Blk) (A B':Blk) :
  loopE E H (concatL1 sz bytes) [6,25,26,27] ⟨[(6,.ms (H.length+2) 2 sz 0 0),(25,.g (.sl 1 [[a.g sz c],[b.g sz c]])),(26,I 2),(27,I 0)],[],[A,B',.rows sz 2 (List.replicate (a.l.length+b.l.length) z)]⟩ =
   some (.exit 2,⟨[(6,.ms (H.length+2) 2 sz 0 (a.l.length+b.l.length)),(25,.g (.sl 1 [[a.g sz c],[b.g sz c]])),(26,I 2),(27,I 2),(28,B false)],[],[A,B',.rows sz 2 ((a.l++b.l).map c)]⟩):=by
 have e3:IntKind.i64.wrap 1=1:=rfl
 have e4:IntKind.i64.wrap 2=2:=rfl
 have a1:=fun t=>app_in (h:=H) (t:=t) (sz:=sz) (bytes:=bytes) (n:=0) (k:=a.l.length+b.l.length) (xs:=[]) (ys:=a.l.map c) (z:=z) rfl (by simp) A B'
 have a2:=fun t=>app_in (h:=H) (t:=t) (sz:=sz) (bytes:=bytes) (n:=a.l.length) (k:=a.l.length+b.l.length) (xs:=a.l.map c) (ys:=b.l.map c) (z:=z) (by simp) (by simp) A B'
 simp only [List.nil_append,Nat.sub_zero,Nat.zero_add,List.length_map,Nat.sub_self,List.replicate_zero,List.append_nil,Nat.add_sub_cancel_left] at a1 a2
 rw [loopE_step (c:=concatL1 sz bytes) (by delta concatL1;rfl)]
 simp -implicitDefEqProofs [e3,a1]
 rw [loopE_step (c:=concatL1 sz bytes) (by delta concatL1;rfl)]
 simp -implicitDefEqProofs [e4,a2]
 rw [loopE_step (c:=concatL1 sz bytes) (by delta concatL1;rfl)]
 simp -implicitDefEqProofs
theorem concat_loop1n {E:FnS} {sz bytes:Nat} (ga gb:GV) (ha:∀h s,viewN h s sz (.g ga)=some []) (hb:∀h s,viewN h s sz (.g gb)=some []) (H o:List Blk) :
  loopE E H (concatL1 sz bytes) [6,25,26,27] ⟨[(6,.g .nsl),(25,.g (.sl 1 [[ga],[gb]])),(26,I 2),(27,I 0)],[],o⟩ =
   some (.exit 2,⟨[(6,.g .nsl),(25,.g (.sl 1 [[ga],[gb]])),(26,I 2),(27,I 2),(28,B false)],[],o⟩):=by
 have e3:IntKind.i64.wrap 1=1:=rfl
 have e4:IntKind.i64.wrap 2=2:=rfl
 rw [loopE_step (c:=concatL1 sz bytes) (by delta concatL1;rfl)]
 simp -implicitDefEqProofs [e3,ha,appV]
 rw [loopE_step (c:=concatL1 sz bytes) (by delta concatL1;rfl)]
 simp -implicitDefEqProofs [e4,hb,appV]
 rw [loopE_step (c:=concatL1 sz bytes) (by delta concatL1;rfl)]
 simp -implicitDefEqProofs
theorem concat_ev {Tb:Tab} {f g:FuncId} {α:Type} {sz bytes:Nat} {z:List GV} {m m':TypeId} {msg msg':List UInt8} {c:α→List GV} (hF:Tb.T f=some (concatF sz bytes g m msg)) (hG:Tb.T g=some (growF sz bytes z m' msg'))
  (a b:Sl α) (hn:a.l.length+b.l.length≤140737488355328) (hb:(a.l.length+b.l.length)*bytes≤140737488355328) (H:List Blk) :
  EvF Tb f [.g (.sl 1 [[a.g sz c],[b.g sz c]])] H=some ⟨.g (nslG sz c (a.l++b.l)),[],[]⟩:=by
 refine EvF_walk hF (by simp) ?_
 have g1:=fun H=>grow_ev hG (a.l.length+b.l.length) hn hb H
 have l0:=fun o=>concat_loop0 (E:=EvF Tb) (m:=m) (msg:=msg) (sz:=sz) (c:=c) a b hn H o
 simp only [Int.natCast_add] at l0 g1
 by_cases h0:a.l.length+b.l.length=0
 ·have ha0:a.l=[]:=List.eq_nil_of_length_eq_zero (by omega)
  have hb0:b.l=[]:=List.eq_nil_of_length_eq_zero (by omega)
  have l1:=fun o=>concat_loop1n (E:=EvF Tb) (sz:=sz) (bytes:=bytes) (a.g sz c) (b.g sz c) (fun h s=>by rw [viewN_Sl,ha0];rfl) (fun h s=>by rw [viewN_Sl,hb0];rfl) H o
  simp only [if_pos h0] at g1
  have g1:∀H,EvF Tb g [.g .nsl,I 0] H=some ⟨.g .nsl,[],[.rows sz 1 []]⟩:=fun H=>by have:=g1 H;rw [ha0,hb0] at this;exact this
  simp -implicitDefEqProofs [l0,g1,l1,nslG,ha0,hb0]
 ·have hne:¬a.l++b.l=[]:=fun e=>h0 (by rw [←List.length_append,e];rfl)
  have l1:=fun A B=>concat_loop1 (E:=EvF Tb) (sz:=sz) (bytes:=bytes) (z:=z) (c:=c) a b H A B
  simp only [if_neg h0] at g1
  have e5:List.take (a.l.length+b.l.length) (List.map c (a.l++b.l))=List.map c (a.l++b.l):=List.take_of_length_le (by simp)
  simp -implicitDefEqProofs only [List.map_append] at l1 e5
  simp -implicitDefEqProofs [l0,g1,l1,nslG,hne,e5]
theorem app_nil {α:Type} {c:α→List GV} {sz bytes:Nat} {l:List α} (hne:l ≠ []) (h1:l.length≤140737488355328) (h2:l.length*bytes≤140737488355328) (H:List Blk) (t:List (Nat×AV)) (m:List (Nat×Blk)) (o:List Blk) :
  appV H ⟨t,m,o⟩ sz bytes (.g .nsl) (l.map c)=some (.ms (H.length+o.length) 2 sz 0 l.length,⟨t,m,o++[.rows sz 2 (l.map c)]⟩,[]):=by
 cases l with
 | nil=>exact absurd rfl hne
 | cons x l=>simp only [List.length_cons] at h1 h2;simp [appV,room,h1,h2]
theorem app_grow {sz bytes g:Nat} {xs ys:List (List GV)} (hne:ys ≠ []) (h1:xs.length+ys.length≤140737488355328) (h2:(xs.length+ys.length)*bytes≤140737488355328) (H:List Blk) (t:List (Nat×AV)) (m:List (Nat×Blk)) (o:List Blk) :
  appV H ⟨t,m,o++[.rows sz g xs]⟩ sz bytes (.ms (H.length+o.length) g sz 0 xs.length) ys =
   some (.ms (H.length+o.length) (g+1) sz 0 (xs.length+ys.length),⟨t,m,o++[.rows sz (g+1) (xs++ys)]⟩,[H.length+o.length]):=by
 cases ys with
 | nil=>exact absurd rfl hne
 | cons y ys =>
  simp only [List.length_cons] at h1 h2
  have e:¬xs.length+(ys.length+1)≤xs.length:=by omega
  simp only [appV,getB_last,true_and,if_true,List.length_cons,Nat.zero_add,if_neg e,Nat.le_refl,room,h1,h2,decide_true,Bool.and_self,setB_last,List.take_length]
def cloneF (sz bytes:Nat) (esc:Bool):IFunc:=⟨1,8,[.tmp 2],esc,
 .seq (.reg [0] [⟨(some 2),none,.nres sz⟩]) <|
 .seq (.seq (.reg [0,4] [⟨(some 3),none,.mov (.t 0)⟩,
   ⟨(some 4),none,.isnilS false (.t 3)⟩]) <|
 .cond [0] (.t 4)
  (.seq (.reg [2] [⟨(some 2),none,.nres sz⟩]) <|
  .ret)
  (.skip)) <|
 .seq (.reg [2] [⟨(some 5),none,.mk0 sz⟩,
  ⟨(some 6),none,.mov (.t 0)⟩,
  ⟨(some 7),none,.app sz bytes (.t 5) (.t 6)⟩,
  ⟨(some 2),none,.mov (.t 7)⟩]) <|
 .ret⟩
theorem clone_ev {Tb:Tab} {f:FuncId} {α:Type} {sz bytes:Nat} {c:α→List GV} (hF:Tb.T f=some (cloneF sz bytes true)) (l:List α) (hne:l ≠ []) (hn:l.length≤140737488355328) (hb:l.length*bytes≤140737488355328) (H:List Blk) :
  EvF Tb f [.g (.sl sz (l.map c))] H=some ⟨.ms (H.length+1) 3 sz 0 l.length,[],[.rows sz 1 [],.rows sz 3 (l.map c)]⟩:=by
 refine EvF_walk hF (by simp) ?_
 cases l with
 | nil=>exact absurd rfl hne
 | cons x l =>
  simp only [List.length_cons] at hn hb
  simp -implicitDefEqProofs [appV,room,hn,hb]
end Go.AM
end
section
set_option linter.unusedSimpArgs false
set_option linter.unusedVariables false
namespace Go.AM
open Go
def ixL (agg:Bool) (n:Nat):IC :=
 .seq (.reg [0,1,7,8,9] [⟨(some 9),none,.bin .lss (.t 8) (.t 7)⟩]) <|
 .seq (.cond [0,1,7,8] (.t 9)
  (.skip)
  (.exit 0)) <|
 .seq (.block [0,1,7,8] 1 <|
 .seq (.reg [0,1,5,7,8] [⟨(some 10),none,.mov (.t 8)⟩,
   ⟨(some 5),none,.mov (.t 10)⟩]) <|
 .seq (.reg [0,1,5,7,8,16] [⟨(some 11),none,.mov (.t 1)⟩,
   ⟨(some 12),none,.mov (.t 0)⟩,
   ⟨(some 13),none,.mov (.t 5)⟩,
   ⟨(some 14),none,.iaddr n (.t 12) (.t 13)⟩,
   ⟨(some 15),none,.load agg n (.t 14)⟩,
   ⟨(some 16),none,.call (.t 11) [(.t 15)]⟩]) <|
 .cond [0,1,7,8] (.t 16)
  (.seq (.reg [4] [⟨(some 17),none,.mov (.t 5)⟩,
    ⟨(some 4),none,.mov (.t 17)⟩]) <|
  .ret)
  (.skip)) <|
 .reg [0,1,7,8] [⟨(some 18),none,.bin .add (.t 8) (.c (.g (.int .i64 1)))⟩,
  ⟨(some 8),none,.mov (.t 18)⟩]
def ixF (agg:Bool) (n:Nat):IFunc:=⟨2,19,[.tmp 4],false,
 .seq (.reg [0,1] [⟨(some 4),none,.mov (.c (.g (.int .i64 0)))⟩]) <|
 .seq (.seq (.reg [0,1,7,8] [⟨(some 6),none,.mov (.t 0)⟩,
   ⟨(some 7),none,.len (.t 6)⟩,
   ⟨(some 8),none,.mov (.c (.g (.int .i64 0)))⟩]) <|
 .block [] 0 <|
 .loop [0,1,7,8] [] (ixL agg n)) <|
 .seq (.reg [4] [⟨(some 4),none,.mov (.c (.g (.int .i64 (-1))))⟩]) <|
 .ret⟩
def cfF (g:FuncId):IFunc:=⟨2,9,[.tmp 4],false,
 .seq (.reg [0,1] [⟨(some 4),none,.mov (.c (.g (.bool false)))⟩]) <|
 .seq (.reg [4] [⟨(some 5),none,.mov (.t 0)⟩,
  ⟨(some 6),none,.mov (.t 1)⟩,
  ⟨(some 7),none,.call (.c (.g (.fn g))) [(.t 5),(.t 6)]⟩,
  ⟨(some 8),none,.bin .geq (.t 7) (.c (.g (.int .i64 0)))⟩,
  ⟨(some 4),none,.mov (.t 8)⟩]) <|
 .ret⟩
def idxG {α:Type} (p:α→Bool):Nat→List α→Int
 | _,[] => -1
 | k,x::l=>if p x=true then k else idxG p (k+1) l
theorem idxG_iff {α:Type} (p:α→Bool):∀(l:List α) (k:Nat),0≤idxG p k l↔l.any p=true
 | [],k=>by simp [idxG]
 | x::l,k=>by
  unfold idxG
  by_cases h:p x=true
  ·rw [if_pos h];simp [h]
  ·rw [if_neg h,idxG_iff p l (k+1)];simp [h]
theorem idxG_any {α:Type} (p:α→Bool) (l:List α) (k:Nat):decide (0≤idxG p k l)=l.any p:=by
 by_cases h:l.any p=true
 ·rw [h];simpa using (idxG_iff p l k).2 h
 ·rw [Bool.eq_false_iff.2 h];simpa using fun hh=>h ((idxG_iff p l k).1 hh)
theorem ix_loop {Tb:Tab} {α:Type} {agg:Bool} {n:Nat} {c:α→List GV} (e:α→AV) (p:α→Bool) (fv:AV) (l:List α) (hl:l.length≤9223372036854775807) (H:List Blk)
  (hel:∀x,AM.sub agg n (((c x).map AV.g).take n)=some (e x)) (hcall:∀x∈l,∀t,evCall (EvF Tb) H [] ⟨t,[],[]⟩ fv [e x]=some (.g (.bool (p x)),⟨t,[],[]⟩,[])) :
  loopE (EvF Tb) H (ixL agg n) [0,1,7,8] ⟨[(0,.g (.sl n (l.map c))),(1,fv),(7,.g (.int .i64 l.length)),(8,.g (.int .i64 0))],[],[]⟩ =
   some (if l.any p=true then (.ret,⟨[(4,.g (.int .i64 (idxG p 0 l)))],[],[]⟩) else (.exit 0,⟨[(0,.g (.sl n (l.map c))),(1,fv),(7,.g (.int .i64 l.length)),(8,.g (.int .i64 l.length)),(9,.g (.bool false))],[],[]⟩)):=by
 have hw:=loop_run (E:=EvF Tb) (h:=H) (c:=ixL agg n) (lv:=[0,1,7,8]) (l:=l) (fun _ (_:Unit)=>True) (fun k x _=>if p x=true then .inr (.ret,⟨[(4,.g (.int .i64 k))],[],[]⟩) else .inl ())
  (fun k _=>⟨[(0,.g (.sl n (l.map c))),(1,fv),(7,.g (.int .i64 l.length)),(8,.g (.int .i64 k))],[],[]⟩) (fun _=>(.exit 0,⟨[(0,.g (.sl n (l.map c))),(1,fv),(7,.g (.int .i64 l.length)),(8,.g (.int .i64 l.length)),(9,.g (.bool false))],[],[]⟩)) (by simp)
  (fun k x _ hk hx hx' _ => ?_) (fun _ _ => ?_) l.length 0 () rfl (Nat.zero_le _) trivial
 ·simp only [Int.natCast_zero] at hw
  rw [hw,List.drop_zero]
  congr 1
  have key:∀(l:List α) (k:Nat) (fin:Ex×St),endL (fun _=>fin) (runL (β:=Unit) (fun k x _=>if p x=true then .inr (.ret,⟨[(4,.g (.int .i64 k))],[],[]⟩) else .inl ()) k l ())=if l.any p=true then (.ret,⟨[(4,.g (.int .i64 (idxG p k l)))],[],[]⟩) else fin:=by
   intro l
   induction l with
   | nil=>intro k fin;simp [runL,endL]
   | cons x l ih =>
    intro k fin
    simp only [runL,List.any_cons,idxG]
    by_cases hp:p x=true
    ·simp [hp,endL]
    ·simp only [hp,Bool.false_eq_true,if_false]
     rw [ih];simp
  exact key l 0 _
 ·subst hx'
  have hc:=hcall l[k] (List.getElem_mem hk)
  delta ixL
  by_cases hp:p l[k]=true
  ·simp -implicitDefEqProofs [-AM.sub,hk,hp,hel,hc,wrap_succ hk hl,show (k:Int)<(l.length:Int) by omega]
  ·simp -implicitDefEqProofs [-AM.sub,hk,hp,hel,hc,wrap_succ hk hl,show (k:Int)<(l.length:Int) by omega]
 ·delta ixL
  simp -implicitDefEqProofs
theorem index_ev {Tb:Tab} {f:FuncId} {α:Type} {agg:Bool} {n:Nat} {c:α→List GV} (hF:Tb.T f=some (ixF agg n)) (e:α→AV) (p:α→Bool) (fv:AV) (s:Sl α) (hl:s.l.length≤9223372036854775807) (H:List Blk)
  (hel:∀x,AM.sub agg n (((c x).map AV.g).take n)=some (e x)) (hcall:∀x∈s.l,∀t,evCall (EvF Tb) H [] ⟨t,[],[]⟩ fv [e x]=some (.g (.bool (p x)),⟨t,[],[]⟩,[])) :
  EvF Tb f [.g (s.g n c),fv] H=some ⟨.g (.int .i64 (idxG p 0 s.l)),[],[]⟩:=by
 refine EvF_walk hF (by simp [ixF]) ?_
 cases s with
 | nil =>
  have hw:=loopE_out (EvF Tb) H (ixL agg n) [0,1,7,8] ⟨[(0,.g .nsl),(1,fv),(7,.g (.int .i64 0)),(8,.g (.int .i64 0))],[],[]⟩ (.exit 0,⟨[(0,.g .nsl),(1,fv),(7,.g (.int .i64 0)),(8,.g (.int .i64 0)),(9,.g (.bool false))],[],[]⟩) (by simp) (by delta ixL;simp -implicitDefEqProofs)
  simp -implicitDefEqProofs [lenV,idxG,hw]
 | of l =>
  have hw:=ix_loop e p fv l hl H hel hcall
  by_cases ha:l.any p=true
  ·rw [if_pos ha] at hw
   simp -implicitDefEqProofs [lenV,hw]
  ·rw [if_neg ha] at hw
   have h1:=idxG_any p l 0
   have h2:idxG p 0 l = -1:=by
    have:∀(l:List α) (k:Nat),¬l.any p=true→idxG p k l = -1:=by
     intro l
     induction l with
     | nil=>intro k _;rfl
     | cons x l ih =>
      intro k h
      simp only [List.any_cons,Bool.or_eq_true,not_or] at h
      simp only [idxG,if_neg h.1]
      exact ih _ h.2
    exact this l 0 ha
   simp -implicitDefEqProofs [lenV,hw,h2]
theorem contains_ev {Tb:Tab} {f g:FuncId} {α:Type} {agg:Bool} {n:Nat} {c:α→List GV} (hF:Tb.T f=some (cfF g)) (hG:Tb.T g=some (ixF agg n)) (e:α→AV) (p:α→Bool) (fv:AV) (s:Sl α) (hl:s.l.length≤9223372036854775807) (H:List Blk)
  (hel:∀x,AM.sub agg n (((c x).map AV.g).take n)=some (e x)) (hcall:∀x∈s.l,∀t,evCall (EvF Tb) H [] ⟨t,[],[]⟩ fv [e x]=some (.g (.bool (p x)),⟨t,[],[]⟩,[])) :
  EvF Tb f [.g (s.g n c),fv] H=some ⟨.g (.bool (s.l.any p)),[],[]⟩:=by
 have h1:=index_ev hG e p fv s hl H hel hcall
 refine EvF_walk hF (by simp [cfF]) ?_
 rw [←idxG_any p s.l 0]
 simp -implicitDefEqProofs [h1]
end Go.AM
end
section
namespace Go.IR
open Go Go.AM
abbrev m (d a:Nat):AOper:=⟨some d,none,.mov (.t a)⟩
abbrev mi (d:Nat) (n:Int):AOper:=⟨some d,none,.mov (.c (.g (.int .i64 n)))⟩
abbrev mb (d:Nat) (b:Bool):AOper:=⟨some d,none,.mov (.c (.g (.bool b)))⟩
abbrev fa (d o a:Nat):AOper:=⟨some d,none,.faddr o (.t a)⟩
abbrev l1 (d a:Nat):AOper:=⟨some d,none,.load false 1 (.t a)⟩
abbrev la (d n a:Nat):AOper:=⟨some d,none,.load true n (.t a)⟩
abbrev st (n p x:Nat):AOper:=⟨none,none,.store n (.t p) (.t x)⟩
abbrev oR (d c y:Nat):AOper:=⟨some d,none,.pick (.t c) (.c (.g (.bool true))) (.t y)⟩
abbrev aN (d c y:Nat):AOper:=⟨some d,none,.pick (.t c) (.t y) (.c (.g (.bool false)))⟩
abbrev ex (d j a:Nat):AOper:=⟨some d,none,.ext j (.t a)⟩
abbrev ia (d n x i:Nat):AOper:=⟨some d,none,.iaddr n (.t x) (.t i)⟩
abbrev ln (d a:Nat):AOper:=⟨some d,none,.len (.t a)⟩
abbrev bx (d a:Nat):AOper:=⟨some d,none,.box (.t a)⟩
abbrev nr (d n:Nat):AOper:=⟨some d,none,.nres n⟩
abbrev nt (d a:Nat):AOper:=⟨some d,none,.un .not (.t a)⟩
abbrev nc (d a:Nat):AOper:=⟨some d,none,.nilchk (.t a)⟩
abbrev bt (d:Nat) (o:BinOp) (x y:Nat):AOper:=⟨some d,none,.bin o (.t x) (.t y)⟩
abbrev bc (d:Nat) (o:BinOp) (x:Nat) (n:Int):AOper:=⟨some d,none,.bin o (.t x) (.c (.g (.int .i64 n)))⟩
abbrev ap (d n b x y:Nat):AOper:=⟨some d,none,.app n b (.t x) (.t y)⟩
abbrev k0 (d f:Nat):AOper:=⟨some d,none,.call (.c (.g (.fn f))) []⟩
abbrev k1 (d f x:Nat):AOper:=⟨some d,none,.call (.c (.g (.fn f))) [.t x]⟩
abbrev k2 (d f x y:Nat):AOper:=⟨some d,none,.call (.c (.g (.fn f))) [.t x,.t y]⟩
abbrev k3 (d f x y z:Nat):AOper:=⟨some d,none,.call (.c (.g (.fn f))) [.t x,.t y,.t z]⟩
abbrev mG (d g:Nat) (q:Bool) (a:Nat):AOper:=⟨some d,some (g,q),.mov (.t a)⟩
abbrev fG (d g:Nat) (q:Bool) (o a:Nat):AOper:=⟨some d,some (g,q),.faddr o (.t a)⟩
abbrev lG (d g:Nat) (q:Bool) (a:Nat):AOper:=⟨some d,some (g,q),.load false 1 (.t a)⟩
abbrev laG (d g:Nat) (q:Bool) (n a:Nat):AOper:=⟨some d,some (g,q),.load true n (.t a)⟩
abbrev iG (d g:Nat) (q:Bool) (n x i:Nat):AOper:=⟨some d,some (g,q),.iaddr n (.t x) (.t i)⟩
abbrev nG (d g:Nat) (q:Bool) (a:Nat):AOper:=⟨some d,some (g,q),.un .not (.t a)⟩
abbrev lnG (d g:Nat) (q:Bool) (a:Nat):AOper:=⟨some d,some (g,q),.len (.t a)⟩
abbrev btG (d g:Nat) (q:Bool) (o:BinOp) (x y:Nat):AOper:=⟨some d,some (g,q),.bin o (.t x) (.t y)⟩
abbrev bcG (d g:Nat) (q:Bool) (o:BinOp) (x:Nat) (n:Int):AOper:=⟨some d,some (g,q),.bin o (.t x) (.c (.g (.int .i64 n)))⟩
abbrev k1G (d g:Nat) (q:Bool) (f x:Nat):AOper:=⟨some d,some (g,q),.call (.c (.g (.fn f))) [.t x]⟩
abbrev k2G (d g:Nat) (q:Bool) (f x y:Nat):AOper:=⟨some d,some (g,q),.call (.c (.g (.fn f))) [.t x,.t y]⟩
abbrev tk:=Tree.take
abbrev rg:=IC.reg
abbrev zi:Z := .z (.int .i64 0)
abbrev zb:Z := .z (.bool false)
abbrev zs:Z := .z (.str [])
abbrev gi:AV := .g (.int .i64 0)
abbrev gb:AV := .g (.bool false)
abbrev gs:AV := .g (.str [])
abbrev gn:AV := .g .nsl
abbrev i0:GV := .int .i64 0
abbrev b0:GV := .bool false
abbrev s0:GV := .str []
def hintC:IC→List (List Nat)
 | .reg lv _=>[lv]
 | .regy lv _=>[yMark::lv]
 | .drw lv _ (.hold ts _)=>[lv,ts]
 | .drw lv _ _=>[lv,[]]
 | .seq a b=>hintC a++hintC b
 | .cond lv _ a b=>lv::(hintC a++hintC b)
 | .block lv _ c=>lv::hintC c
 | .loop lv _ c=>lv::hintC c
 | .rfun lv rd lt _=>[[rd.key],lv,lt]
 | _=>[]
end Go.IR
end
