/- Part of the proof: what the functions answer, part 5. No conditions. -/
import Derived.Test.YtndfdnlbljhlgaaGreatSPJ4
import Derived.Test.YtndfdnlbljhlgaaGreatSPJ1
set_option linter.defProp false
set_option linter.unusedSimpArgs false
set_option linter.unusedVariables false
set_option maxHeartbeats 4000000
set_option maxRecDepth 20000
namespace Go.Proofs.YtndfdnlbljhlgaaGreat
open Go Go.AM Go.Proofs
theorem Qz {x:KV}:Xe x=true↔Ux x.key=true∧x.value.length≤20∧(1≤x.create∧x.create≤1099511627775)∧(x.create≤x.mod∧x.mod≤1099511627775)∧1≤x.version∧x.version≤x.mod - x.create+1∧(0≤x.lease∧x.lease≤1099511627775):=by
 unfold Xe F0
 simp only [Bool.and_eq_true,decide_eq_true_eq]
structure Kq (l:List KV) (b:Int):Prop where
 one:∀x∈l,Xe x=true∧x.mod≤b
 srt:Srt l
theorem Yz {srev last:Int} {l:List KV} {e:Ev} {log:List Ev}:Wa srev l last (e::log)=true↔last≤e.rev∧e.rev≤srev∧Tg l e=true∧(Ui l e).length≤30∧Wa srev (Ui l e) e.rev log=true:=by
 rw [show Wa srev l last (e::log)=(okE srev l last e&&Wa srev (Uf e.rev l e) e.rev log) from rfl,Ko (Int.le_refl _)]
 unfold okE
 rw [Ko (Int.le_refl _)]
 simp only [Bool.and_eq_true,Bool.not_eq_true',Bool.or_eq_false_iff,decide_eq_false_iff_not,decide_eq_true_eq]
 constructor
 ·rintro ⟨⟨⟨⟨h1,h2⟩,h3⟩,h4⟩,h5⟩;exact ⟨by omega,by omega,h3,h4,h5⟩
 ·rintro ⟨h1,h2,h3,h4,h5⟩;exact ⟨⟨⟨⟨by omega,by omega⟩,h3⟩,h4⟩,h5⟩
theorem Zoe (l:List KV) (m:Mut) (rev:Int):(Si l m rev).mod=rev:=by unfold Si;split <;> rfl
theorem E4 {l:List KV} {b:Int} {e:Ev} (hg:Kq l b) (hb:b≤e.rev) (hr:Tg l e=true):Kq (Ui l e) e.rev:=by
 refine ⟨fun y hy => ?_,Zel e hg.srt⟩
 rcases Zem hy with hy | ⟨hn,rfl⟩
 ·exact ⟨(hg.one y hy).1,by have:=(hg.one y hy).2;omega⟩
 ·unfold Tg at hr
  rw [if_neg (by rw [hn];exact Bool.false_ne_true)] at hr
  rw [Bool.and_eq_true,Ki] at hr
  refine ⟨hr.2,?_⟩
  have:=congrArg KV.mod hr.1
  rw [Zoe] at this
  omega
theorem Pl {srev:Int}:∀{log:List Ev} {l:List KV} {last b:Int},Kq l b→b≤last→Wa srev l last log=true→∀B,b≤B→(∀e∈log,e.rev≤B)→Kq (log.foldl Ui l) B
 | [],l,last,b,hg,_,_,B,hB,_=>⟨fun x hx=>⟨(hg.one x hx).1,by have:=(hg.one x hx).2;omega⟩,hg.srt⟩
 | e::log,l,last,b,hg,hb,h,B,hB,hE=>by
  obtain ⟨h1,h2,h3,h4,h5⟩:=Yz.1 h
  rw [List.foldl_cons]
  exact Pl (E4 hg (by omega) h3) (Int.le_refl _) h5 B (hE e List.mem_cons_self) fun x hx=>hE x (List.mem_cons_of_mem _ hx)
theorem Ni {srev:Int}:∀{log:List Ev} {l:List KV} {last:Int},Wa srev l last log=true→∀e∈log,last≤e.rev∧e.rev≤srev
 | [],_,_,_,e,he=>by cases he
 | e::log,l,last,h,x,hx=>by
  obtain ⟨h1,h2,h3,h4,h5⟩:=Yz.1 h
  rcases List.mem_cons.1 hx with rfl | hx
  ·exact ⟨h1,h2⟩
  ·have:=Ni h5 x hx;exact ⟨by omega,this.2⟩
theorem Nj {srev:Int}:∀{log:List Ev} {l:List KV} {last:Int},l.length≤30→Wa srev l last log=true→(log.foldl Ui l).length≤30
 | [],_,_,hl,_=>hl
 | e::log,l,last,hl,h=>by
  obtain ⟨h1,h2,h3,h4,h5⟩:=Yz.1 h
  rw [List.foldl_cons];exact Nj h4 h5
theorem Zhw {srev last last':Int} {l:List KV} {log:List Ev} (h:Wa srev l last log=true) (h':∀e∈log,last'≤e.rev):Wa srev l last' log=true:=by
 cases log with
 | nil=>rfl
 | cons e log =>
  obtain ⟨h1,h2⟩:=Yz.1 h
  exact Yz.2 ⟨h' e List.mem_cons_self,h2⟩
theorem E5 {srev srev':Int} (hs:srev≤srev'):∀{log:List Ev} {l:List KV} {last:Int},Wa srev l last log=true→Wa srev' l last log=true
 | [],_,_,_=>rfl
 | e::log,l,last,h=>by
  obtain ⟨h1,h2,h3,h4,h5⟩:=Yz.1 h
  exact Yz.2 ⟨h1,by omega,h3,h4,E5 hs h5⟩
theorem Ba {srev:Int}:∀{a b:List Ev} {l:List KV} {last:Int},Wa srev l last (a++b)=true→Wa srev l last a=true∧∃last',Wa srev (a.foldl Ui l) last' b=true
 | [],b,l,last,h=>⟨rfl,last,h⟩
 | e::a,b,l,last,h=>by
  obtain ⟨h1,h2,h3,h4,h5⟩:=Yz.1 h
  obtain ⟨k1,k2⟩:=Ba h5
  exact ⟨Yz.2 ⟨h1,h2,h3,h4,k1⟩,k2⟩
theorem E6 {srev:Int} {b:List Ev}:∀{a:List Ev} {l:List KV} {last:Int},Wa srev l last a=true→(∀last':Int,(∀e∈a,e.rev≤srev)→last'≤srev→Wa srev (a.foldl Ui l) last' b=true)→last≤srev→Wa srev l last (a++b)=true
 | [],l,last,_,hb,hl=>hb last (fun _ h=>by cases h) hl
 | e::a,l,last,h,hb,hl=>by
  obtain ⟨h1,h2,h3,h4,h5⟩:=Yz.1 h
  exact Yz.2 ⟨h1,h2,h3,h4,E6 h5 (fun last' ha hl'=>hb last' (fun x hx=>by rcases List.mem_cons.1 hx with rfl | hx;exact h2;exact ha x hx) hl') h2⟩
theorem O2 {srev:Int} (to:Int):∀{log:List Ev} {l:List KV} {last:Int},Wa srev l last log=true→∃a b,log=a++b∧(∀e∈a,e.rev≤to)∧(∀e∈b,to<e.rev)
 | [],_,_,_=>⟨[],[],rfl,(fun _ h=>nomatch h),(fun _ h=>nomatch h)⟩
 | e::log,l,last,h=>by
  obtain ⟨h1,h2,h3,h4,h5⟩:=Yz.1 h
  by_cases ht:e.rev≤to
  ·obtain ⟨a,b,k1,k2,k3⟩:=O2 to h5
   exact ⟨e::a,b,by rw [k1];rfl,fun x hx=>by rcases List.mem_cons.1 hx with rfl | hx;exact ht;exact k2 x hx,k3⟩
  ·refine ⟨[],e::log,rfl,(fun _ h=>nomatch h),fun x hx => ?_⟩
   rcases List.mem_cons.1 hx with rfl | hx
   ·omega
   ·have:=(Ni h5 x hx).1;omega
structure SOk (s:Ze):Prop where
 low0:0≤s.low
 lowr:s.low≤s.rev
 revM:s.rev≤1099511627774
 bl:s.base.l.length≤30
 ll:s.log.l.length≤60
 good:Kq s.base.l s.low
 log:Wa s.rev s.base.l (s.low+1) s.log.l=true
theorem U0 {s:Ze}:T8 s=true↔SOk s:=by
 unfold T8 Zao Md
 simp only [Bool.and_eq_true,Bool.not_eq_true',Bool.or_eq_false_iff,decide_eq_false_iff_not,Bool.not_eq_false',List.any_eq_false,decide_eq_true_eq,Zte]
 constructor
 ·rintro ⟨⟨h1,h2,h3,h4,h5,h6,h7⟩,h8,h9⟩
  exact ⟨by omega,by omega,by omega,by omega,by omega,⟨fun x hx=>⟨h6 x hx,by have:=h8 x hx;omega⟩,h7⟩,h9⟩
 ·rintro ⟨h1,h2,h3,h4,h5,h6,h7⟩
  exact ⟨⟨by omega,by omega,by omega,by omega,by omega,fun x hx=>(h6.one x hx).1,h6.srt⟩,fun x hx=>by have:=(h6.one x hx).2;omega,h7⟩
theorem SOk.all {s:Ze} (h:SOk s):∀e∈s.log.l,s.low<e.rev∧e.rev≤s.rev:=fun e he=>by
 have:=Ni h.log e he;exact ⟨by omega,this.2⟩
def Y0 (s:Ze):List KV:=Wy s.base.l s.log.l s.rev
theorem SOk.now {s:Ze} (h:SOk s):Y0 s=s.log.l.foldl Ui s.base.l:=Rm fun e he=>(h.all e he).2
theorem SOk.nowGood {s:Ze} (h:SOk s):Kq (Y0 s) s.rev:=by
 rw [h.now]
 exact Pl h.good (by omega) h.log s.rev (by have:=h.lowr;omega) fun e he=>(h.all e he).2
theorem SOk.nowLen {s:Ze} (h:SOk s):(Y0 s).length≤30:=by rw [h.now];exact Nj h.bl h.log
def O3 (o:Option KV) (m:Mut) (rev:Int):KV :=
 match o with
 | some x=>⟨m.key,m.value,x.create,rev,IntKind.i64.wrap (x.version+1),m.lease⟩
 | none=>⟨m.key,m.value,rev,rev,1,m.lease⟩
theorem Zk4 (l:List KV) (m:Mut) (rev:Int):Si l m rev=O3 (Yv l m.key) m rev:=by
 unfold Si O3
 rw [Qy,Jx]
 cases Yv l m.key <;> rfl
def Nt:List Mut→Bs→Option Mut
 | [],_=>none
 | m::ms,k=>if m.key=k then some m else Nt ms k
def Zhx (rev:Int) (l:List KV) (ms:List Mut) (k:Bs):Option KV :=
 match Nt ms k with
 | none=>Yv l k
 | some m=>if m.gone=true then none else some (O3 (Yv l k) m rev)
def Zk5 (l:List KV) (m:Mut):Bool := !(m.gone&&(Yv l m.key).isNone)
def Bb (l:List KV) (ms:List Mut):Nat:=(ms.filter (Zk5 l)).length
theorem Jy:∀{ms:List Mut} {met:List Bs},Nz met ms=true→∀x∈ms,met.contains x.key=false∧Up x=true
 | [],_,_,x,hx=>by cases hx
 | m::ms,met,h,x,hx=>by
  unfold Nz at h
  simp only [Bool.and_eq_true,Bool.not_eq_true'] at h
  rcases List.mem_cons.1 hx with rfl | hx
  ·exact h.1
  ·obtain ⟨k1,k2⟩:=Jy h.2 x hx
   rw [List.contains_eq_any_beq,List.any_append,Bool.or_eq_false_iff] at k1
   rw [List.contains_eq_any_beq]
   exact ⟨k1.1,k2⟩
theorem Jz {k:Bs}:∀{ms:List Mut},(∀x∈ms,x.key ≠ k)→Nt ms k=none
 | [],_=>rfl
 | m::ms,h=>by unfold Nt;rw [if_neg (h m List.mem_cons_self)];exact Jz fun x hx=>h x (List.mem_cons_of_mem _ hx)
theorem Zof {m:Mut}:Up m=true↔Ux m.key=true∧m.value.length≤20∧0≤m.lease∧m.lease≤1099511627775:=by
 unfold Up
 simp only [Bool.and_eq_true,Bool.not_eq_true',Bool.or_eq_false_iff,decide_eq_false_iff_not]
 constructor
 ·rintro ⟨h1,h2,h3,h4⟩;exact ⟨h1,by omega,by omega,by omega⟩
 ·rintro ⟨h1,h2,h3,h4⟩;exact ⟨h1,by omega,by omega,by omega⟩
structure Z52 (l:List KV) (met:List Bs) (rev:Int):Prop where
 srt:Srt l
 one:∀x∈l,Xe x=true∧x.mod≤rev∧(met.contains x.key=false→x.mod<rev)
theorem Zth {l:List KV} {met:List Bs} {rev:Int} {m:Mut} (hi:Z52 l met rev) (h1:1≤rev) (h2:rev≤1099511627775) (hm:met.contains m.key=false) (hok:Up m=true):Xe (O3 (Yv l m.key) m rev)=true:=by
 obtain ⟨o1,o2,o3,o4⟩:=Zof.1 hok
 cases hg:Yv l m.key with
 | none=>exact Qz.2 ⟨o1,o2,⟨h1,h2⟩,⟨Int.le_refl _,h2⟩,Int.le_refl _,by simp only [O3];omega,o3,o4⟩
 | some x =>
  obtain ⟨hx,hk⟩:=Tu hg
  obtain ⟨i1,i2,i3⟩:=hi.one x hx
  have i3:=i3 (by rw [hk];exact hm)
  obtain ⟨p1,p2,⟨p3,p4⟩,⟨p5,p6⟩,p7,p8,p9⟩:=Qz.1 i1
  have hw:IntKind.i64.wrap (x.version+1)=x.version+1:=wrap_i64 (by omega) (by omega)
  refine Qz.2 ⟨o1,o2,⟨p3,p4⟩,⟨?_,h2⟩,?_,?_,o3,o4⟩
  ·show x.create≤rev;omega
  ·show 1≤IntKind.i64.wrap (x.version+1);omega
  ·show IntKind.i64.wrap (x.version+1)≤rev - x.create+1;omega
theorem Zen {rev:Int} {l:List KV} {m:Mut} (h:¬(m.gone && !Ua l m.key)=true):(Ti rev l m).kv.key=m.key:=by
 unfold Ti
 split
 ·rename_i hg
  rw [hg,Bool.true_and,Bool.not_eq_true',Bool.not_eq_false,Qy] at h
  show (W6 l m.key).key=m.key
  rw [Jx]
  cases hq:Yv l m.key with
  | none=>rw [hq] at h;cases h
  | some x=>exact (Tu hq).2
 ·show (Si l m rev).key=m.key
  unfold Si;split <;> rfl
theorem Zhy {rev:Int} {l:List KV} {m:Mut} (h:¬(m.gone && !Ua l m.key)=true) (ho:m.gone=false→Xe (Si l m rev)=true):Tg l (Ti rev l m)=true:=by
 have hk:=Zen (rev:=rev) h
 unfold Tg
 rw [hk]
 by_cases hg:m.gone=true
 ·have e1:(Ti rev l m).gone=true:=hg
  have e2:(Ti rev l m).kv=W6 l m.key:=by unfold Ti;rw [if_pos hg]
  rw [if_pos e1,e2]
  rw [hg,Bool.true_and,Bool.not_eq_true',Bool.not_eq_false] at h
  rw [h,Bool.true_and,Ki]
 ·have hg':=Bool.eq_false_iff.2 hg
  have e1:¬(Ti rev l m).gone=true:=hg
  have e2:(Ti rev l m).kv=Si l m rev:=by unfold Ti;rw [if_neg hg]
  rw [if_neg e1,e2,ho hg',Bool.and_true,Ki]
  unfold Si
  by_cases hb:Ua l m.key=true
  ·simp only [if_pos hb];rfl
  ·simp only [if_neg hb];rfl
theorem Zog {rev:Int} (h1:1≤rev) (h2:rev≤1099511627775):∀(ms:List Mut) (met:List Bs) (es:List Ev) (l:List KV) (f:Bool),Z52 l met rev→Nz met ms=true →
  ∃E b,ms.foldl (evP rev) (es,l,f)=(es++E,E.foldl Ui l,b)∧(∀e∈E,e.rev=rev)∧E.length=Bb l ms∧(∀k,Yv (E.foldl Ui l) k=Zhx rev l ms k)∧Srt (E.foldl Ui l) ∧
   (b=false→f=false∧∀last,last≤rev→Wa rev l last E=true):=by
 intro ms
 induction ms with
 | nil=>intro met es l f hi hm;exact ⟨[],f,by simp,(fun _ h=>nomatch h),rfl,fun k=>rfl,hi.srt,fun h=>⟨h,fun _ _=>rfl⟩⟩
 | cons m ms ih =>
  intro met es l f hi hm
  have hall:=Jy hm
  unfold Nz at hm
  simp only [Bool.and_eq_true,Bool.not_eq_true'] at hm
  obtain ⟨⟨hnm,hok⟩,hrest⟩:=hm
  have hne:∀x∈ms,x.key ≠ m.key:=fun x hx e=>by
   have:=(Jy hrest x hx).1
   rw [e] at this;simp at this
  have hmk:=Jz hne
  rw [List.foldl_cons]
  by_cases hs:(m.gone && !Ua l m.key)=true
  ·have e1:evP rev (es,l,f) m=(es,l,f):=by unfold evP;rw [if_pos hs]
   obtain ⟨E,b,k1,k2,k3,k4,k5,k6⟩:=ih (met++[m.key]) es l f ⟨hi.srt,fun x hx=>⟨(hi.one x hx).1,(hi.one x hx).2.1,fun hc=>(hi.one x hx).2.2 (by
    rw [List.contains_eq_any_beq,List.any_append,Bool.or_eq_false_iff] at hc
    rw [List.contains_eq_any_beq];exact hc.1)⟩⟩ hrest
   rw [Bool.and_eq_true,Bool.not_eq_true',Qy] at hs
   have hn:Yv l m.key=none:=by cases hq:Yv l m.key with
    | none=>rfl
    | some x=>rw [hq] at hs;cases hs.2
   refine ⟨E,b,by rw [e1,k1],k2,?_,fun k => ?_,k5,k6⟩
   ·rw [k3];unfold Bb
    rw [List.filter_cons,if_neg (by unfold Zk5;rw [hs.1,hn];simp)]
   ·rw [k4]
    unfold Zhx
    rw [show Nt (m::ms) k=if m.key=k then some m else Nt ms k from rfl]
    by_cases hk:m.key=k
    ·subst hk;rw [if_pos rfl,hmk];simp only [hs.1,if_true,hn]
    ·rw [if_neg hk]
  ·have hk:=Zen (rev:=rev) hs
   have hrev:(Ti rev l m).rev=rev:=rfl
   have e1:evP rev (es,l,f) m=(es++[Ti rev l m],Ui l (Ti rev l m),f||decide (30<(Ui l (Ti rev l m)).length)):=by
    unfold evP;rw [if_neg hs];simp only [Ko (show (Ti rev l m).rev≤rev by rw [hrev];exact Int.le_refl _)]
   have hno:m.gone=false→(Ti rev l m).kv=O3 (Yv l m.key) m rev:=fun hg=>by
    rw [←Zk4];unfold Ti;rw [if_neg (by rw [hg];exact Bool.false_ne_true)]
   have hone:=Zth hi h1 h2 hnm hok
   have hr:=Zhy (rev:=rev) hs (fun _=>by rw [Zk4];exact hone)
   have hget:=fun k=>Ztg (Ti rev l m) k hi.srt
   rw [hk] at hget
   have hgone:(Ti rev l m).gone=m.gone:=rfl
   rw [hgone] at hget
   generalize hev:Ti rev l m=e at e1 hk hrev hr hget hno hgone
   obtain ⟨E,b,k1,k2,k3,k4,k5,k6⟩:=ih (met++[m.key]) (es++[e]) (Ui l e) (f||decide (30<(Ui l e).length)) ⟨Zel e hi.srt,fun y hy=>by
    rcases Zem hy with hy | ⟨hg,rfl⟩
    ·refine ⟨(hi.one y hy).1,(hi.one y hy).2.1,fun hc=>(hi.one y hy).2.2 ?_⟩
     rw [List.contains_eq_any_beq,List.any_append,Bool.or_eq_false_iff] at hc
     rw [List.contains_eq_any_beq];exact hc.1
    ·rw [hgone] at hg
     rw [hno hg]
     refine ⟨hone,?_,fun hc => ?_⟩
     ·have:(O3 (Yv l m.key) m rev).mod=rev:=by unfold O3;split <;> rfl
      omega
     ·have:(O3 (Yv l m.key) m rev).key=m.key:=by unfold O3;split <;> rfl
      rw [this] at hc;simp at hc⟩ hrest
   refine ⟨e::E,b,by rw [e1,k1];simp,fun x hx => ?_,?_,fun k => ?_,k5,fun hb => ?_⟩
   ·rcases List.mem_cons.1 hx with rfl | hx
    ·exact hrev
    ·exact k2 x hx
   ·rw [List.length_cons,k3];unfold Bb
    rw [List.filter_cons,if_pos (by unfold Zk5;rw [Bool.not_eq_true',Bool.eq_false_iff];intro hh;apply hs;rw [Bool.and_eq_true] at hh ⊢;refine ⟨hh.1,?_⟩;rw [Qy];cases hq:Yv l m.key <;> simp [hq] at hh ⊢)]
    rw [List.length_cons]
    congr 1
    congr 1
    refine List.filter_congr fun x hx => ?_
    unfold Zk5
    rw [hget,if_neg (hne x hx)]
   ·rw [List.foldl_cons,k4]
    unfold Zhx
    rw [show Nt (m::ms) k=if m.key=k then some m else Nt ms k from rfl]
    by_cases hq:m.key=k
    ·subst hq
     rw [if_pos rfl,hmk]
     simp only [hget,if_true]
     by_cases hg:m.gone=true
     ·rw [if_pos hg,if_pos hg]
     ·rw [if_neg hg,if_neg hg,hno (Bool.eq_false_iff.2 hg)]
    ·rw [if_neg hq,hget,if_neg (fun e=>hq e.symm)]
   ·obtain ⟨j1,j2⟩:=k6 hb
    rw [Bool.or_eq_false_iff,decide_eq_false_iff_not] at j1
    refine ⟨j1.1,fun last hl=>Yz.2 ⟨by rw [hrev];exact hl,by rw [hrev];exact Int.le_refl _,hr,by omega,?_⟩⟩
    rw [hrev];exact j2 rev (Int.le_refl _)
theorem Pm {s:Ze} (h:SOk s) {ms:List Mut} (hm:H6 ms=true):(∀e∈(Yt s ms).1,e.rev=s.rev+1)∧(Yt s ms).1.length=Bb (Y0 s) ms∧(Yt s ms).2.1=(Yt s ms).1.foldl Ui (Y0 s) ∧
  (∀k,Yv ((Yt s ms).1.foldl Ui (Y0 s)) k=Zhx (s.rev+1) (Y0 s) ms k)∧Srt ((Yt s ms).1.foldl Ui (Y0 s))∧((Yt s ms).2.2=false→∀last,last≤s.rev+1→Wa (s.rev+1) (Y0 s) last (Yt s ms).1=true):=by
 have hg:=h.nowGood
 have hr:=h.revM
 have h0:=h.low0
 have h1:=h.lowr
 unfold H6 at hm
 rw [Bool.and_eq_true] at hm
 obtain ⟨E,b,k1,k2,k3,k4,k5,k6⟩:=Zog (rev:=s.rev+1) (by omega) (by omega) ms [] [] (Y0 s) false ⟨hg.srt,fun x hx=>⟨(hg.one x hx).1,by have:=(hg.one x hx).2;omega,fun _=>by have:=(hg.one x hx).2;omega⟩⟩ hm.1
 have e:Yt s ms=(E,E.foldl Ui (Y0 s),b):=by unfold Yt;rw [show Wy s.base.l s.log.l s.rev=Y0 s from rfl,k1];rfl
 rw [e]
 exact ⟨k2,k3,rfl,k4,k5,fun hb=>(k6 hb).2⟩
theorem R0 {s:Ze} {ms:List Mut} (h:Y9 s ms=0):H6 ms=true∧((Yt s ms).1=[]∨(Yt s ms).2.2=false∧s.rev ≠ 1099511627774∧s.log.l.length+(Yt s ms).1.length≤60):=by
 unfold Y9 at h
 by_cases h1:H6 ms=true
 ·rw [if_pos h1] at h
  by_cases h2:(Yt s ms).1=[]
  ·exact ⟨h1,.inl h2⟩
  ·rw [if_neg h2] at h
   refine ⟨h1,.inr ?_⟩
   by_cases h3:(Yt s ms).2.2=true∨s.rev=1099511627774∨60<s.log.l.length+(Yt s ms).1.length
   ·rw [if_pos h3] at h;omega
   ·refine ⟨Bool.eq_false_iff.2 fun hh=>h3 (.inl hh),fun hh=>h3 (.inr (.inl hh)),?_⟩
    have:¬60<s.log.l.length+(Yt s ms).1.length:=fun hh=>h3 (.inr (.inr hh))
    omega
 ·rw [if_neg h1] at h;omega
theorem Rn {s:Ze} {ms:List Mut}:Uq s ms=true↔Y9 s ms=0∧(Yt s ms).1 ≠ []:=by
 unfold Uq
 rw [Bool.and_eq_true,decide_eq_true_eq,Bool.not_eq_true',decide_eq_false_iff_not]
theorem Tk {s:Ze} {ms:List Mut} (h:Uq s ms=false):Xj s ms=s∧Tj s ms = .nil:=by
 unfold Xj Tj
 rw [h];exact ⟨rfl,rfl⟩
theorem O4 {s:Ze} {ms:List Mut} (h:Uq s ms=true):Xj s ms=⟨s.rev+1,s.low,s.base,.of (s.log.l++(Yt s ms).1)⟩∧Tj s ms = .of (Yt s ms).1:=by
 unfold Xj Tj
 rw [if_pos h,if_pos h];exact ⟨rfl,rfl⟩
theorem Zz9 {s:Ze} (h:SOk s) {ms:List Mut} (hN:Uq s ms=true):Y0 (Xj s ms)=(Yt s ms).1.foldl Ui (Y0 s):=by
 obtain ⟨h1,-⟩:=Rn.1 hN
 obtain ⟨hm,-⟩:=R0 h1
 obtain ⟨f1,-⟩:=Pm h hm
 rw [(O4 hN).1]
 unfold Y0
 simp only [Sl.l_of]
 rw [Nh,Rm (a:=(Yt s ms).1) fun e he=>by rw [f1 e he];exact Int.le_refl _]
 rw [Rm fun e he=>by have:=(h.all e he).2;omega,←h.now];rfl
theorem Nk {s:Ze} (h:SOk s) (ms:List Mut):SOk (Xj s ms):=by
 cases hN:Uq s ms
 ·rw [(Tk hN).1];exact h
 ·obtain ⟨h1,h2⟩:=Rn.1 hN
  obtain ⟨hm,h3⟩:=R0 h1
  have h3:=h3.resolve_left h2
  obtain ⟨f1,f2,f3,f4,f5,f6⟩:=Pm h hm
  have f6:=f6 h3.1
  rw [(O4 hN).1]
  have r1:=h.low0
  have r2:=h.lowr
  have r3:=h.revM
  refine ⟨h.low0,by show s.low≤s.rev+1;omega,by show s.rev+1≤1099511627774;omega,h.bl,by simp only [Sl.l_of,List.length_append];omega,h.good,?_⟩
  show Wa (s.rev+1) s.base.l (s.low+1) (s.log.l++(Yt s ms).1)=true
  refine E6 (E5 (by omega) h.log) (fun last' _ hl => ?_) (by omega)
  rw [←h.now];exact f6 last' hl
theorem Bc {s:Ze} (h:SOk s) {ms:List Mut} (he:Y9 s ms=0) (k:Bs):Yv (Y0 (Xj s ms)) k=Zhx (s.rev+1) (Y0 s) ms k:=by
 obtain ⟨hm,h3⟩:=R0 he
 obtain ⟨f1,f2,f3,f4,f5,f6⟩:=Pm h hm
 cases hN:Uq s ms
 ·rw [(Tk hN).1]
  have h4:(Yt s ms).1=[]:=by
   by_cases hh:(Yt s ms).1=[]
   ·exact hh
   ·rw [Rn.2 ⟨he,hh⟩] at hN;cases hN
  have:=f4 k
  rw [h4] at this;exact this
 ·rw [Zz9 h hN];exact f4 k
theorem Bd {s:Ze} (h:SOk s) {ms:List Mut} (he:Y9 s ms=0):(Xj s ms).rev=(if Bb (Y0 s) ms=0 then s.rev else s.rev+1)∧(Xj s ms).log.l.length=s.log.l.length+Bb (Y0 s) ms:=by
 obtain ⟨hm,h3⟩:=R0 he
 obtain ⟨f1,f2,-⟩:=Pm h hm
 rw [←f2]
 cases hN:Uq s ms
 ·rw [(Tk hN).1]
  have h4:(Yt s ms).1=[]:=by
   by_cases hh:(Yt s ms).1=[]
   ·exact hh
   ·rw [Rn.2 ⟨he,hh⟩] at hN;cases hN
  rw [h4];exact ⟨rfl,rfl⟩
 ·have h4:=(Rn.1 hN).2
  rw [(O4 hN).1,if_neg (by simpa using h4)]
  exact ⟨rfl,by simp⟩
theorem Zoh {to:Int} {l:List Ev} (h:∀e∈l,to<e.rev):Vu to l=l:=by
 unfold Vu
 rw [List.filter_eq_self]
 intro e he
 have:=h e he
 simp;omega
theorem Zeo {to:Int} {l:List Ev} (h:∀e∈l,e.rev≤to):Vu to l=[]:=by
 unfold Vu
 rw [List.filter_eq_nil_iff]
 intro e he
 have:=h e he
 simp;omega
theorem Zoi (to:Int) (a b:List Ev):Vu to (a++b)=Vu to a++Vu to b:=List.filter_append ..
theorem Be {s:Ze} (h:SOk s) (to:Int):∃a b,s.log.l=a++b∧(∀e∈a,e.rev≤to)∧(∀e∈b,to<e.rev)∧Vu to s.log.l=b∧Wy s.base.l s.log.l to=a.foldl Ui s.base.l:=by
 obtain ⟨a,b,h1,h2,h3⟩:=O2 to h.log
 refine ⟨a,b,h1,h2,h3,?_,?_⟩
 ·rw [h1,Zoi,Zeo h2,Zoh h3];rfl
 ·rw [h1,Nh,Rm h2,E3 h3]
theorem Zep {s:Ze} (h:SOk s) {to rev:Int} (hr:to≤rev):Wy (Wy s.base.l s.log.l to) (Vu to s.log.l) rev=Wy s.base.l s.log.l rev:=by
 obtain ⟨a,b,h1,h2,h3,h4,h5⟩:=Be h to
 rw [h5,h4,h1,Nh,Rm (a:=a) fun e he=>by have:=h2 e he;omega]
theorem J0 {s:Ze} {to:Int}:Pk s to=0↔0≤to∧to≤s.rev∧s.low≤to:=by
 unfold Pk
 by_cases h1:to<0∨s.rev<to
 ·rw [if_pos h1];omega
 ·rw [if_neg h1]
  by_cases h2:to<s.low
  ·rw [if_pos h2];omega
  ·rw [if_neg h2];omega
theorem Zk6 {s:Ze} (h:SOk s) (to:Int):SOk (Qf s to):=by
 unfold Qf
 by_cases hz:Pk s to=0
 ·rw [if_pos hz]
  obtain ⟨z1,z2,z3⟩:=J0.1 hz
  obtain ⟨a,b,h1,h2,h3,h4,h5⟩:=Be h to
  have hlog:=h.log
  rw [h1] at hlog
  obtain ⟨l1,last',l2⟩:=Ba hlog
  refine ⟨z1,z2,h.revM,?_,?_,?_,?_⟩
  ·show (Wr s.base s.log.l to).l.length≤30
   rw [W0,h5];exact Nj h.bl l1
  ·show (P0 to s.log).l.length≤60
   have:(P0 to s.log).l.length≤s.log.l.length:=by
    cases s.log with
    | nil=>exact Nat.le_refl _
    | of l=>exact List.length_filter_le _ _
   have:=h.ll;omega
  ·show Kq (Wr s.base s.log.l to).l to
   rw [W0,h5]
   exact Pl h.good (by omega) l1 to z3 h2
  ·show Wa s.rev (Wr s.base s.log.l to).l (to+1) (P0 to s.log).l=true
   have e:(P0 to s.log).l=Vu to s.log.l:=by cases s.log <;> rfl
   rw [W0,h5,e,h4]
   exact Zhw l2 fun x hx=>by have:=h3 x hx;omega
 ·rw [if_neg hz];exact h
theorem Zoj {l:List KV} {c:Cmp}:(Uz c&&We l c)=We l c:=by
 cases h:We l c
 ·rw [Bool.and_false]
 ·rw [Bool.and_true]
  unfold We Zhv Zz6 at h
  unfold Uz
  obtain ⟨k,w,hw,n,v⟩:=c
  simp only at h ⊢
  by_cases w1:w=1
  ·subst w1
   simp only [if_true,Bool.or_eq_true,Bool.and_eq_true,decide_eq_true_eq] at h ⊢
   omega
  ·by_cases w2:w=2
   ·subst w2
    simp only [w1,if_false,if_true,Bool.or_eq_true,Bool.and_eq_true,decide_eq_true_eq] at h ⊢
    omega
   ·by_cases w3:w=3
    ·subst w3
     simp only [w1,w2,if_false,if_true,Bool.or_eq_true,Bool.and_eq_true,decide_eq_true_eq] at h ⊢
     omega
    ·by_cases w4:w=4
     ·subst w4
      simp only [w1,w2,w3,if_false,if_true,Bool.or_eq_true,Bool.and_eq_true,decide_eq_true_eq] at h ⊢
      omega
     ·simp only [w1,w2,w3,w4,if_false] at h;cases h
theorem Zok (s:Sl KV) (c:Cmp) (hl:s.l.length≤9223372036854775807) (H:List Blk):EvF tab 203 [.g (KVs.g s),A c.c] H=some ⟨B (We s.l c),[],[]⟩:=by
 rw [Ztd s c hl H,Zoj]
theorem Z3e (s:Sl KV) (cs:Sl Cmp) (hl:s.l.length≤9223372036854775807) (hc:cs.l.length≤9223372036854775807) (H:List Blk):EvF tab 187 [.g (KVs.g s),.g (Cmps.g cs)] H=some ⟨B (Z7 (We s.l) cs.l),[],[]⟩:=by
 have hq:=Zt (E:=EvF tab) (h:=H) (c:=Zaa) (lv:=[0,7,8,9]) (l:=cs.l) (β:=Unit) (γ:=Unit) (fun _ _=>True) (fun _ c _=>if We s.l c=true then .inl () else .inr ())
  (fun k _ o=>⟨[(0,.g (KVs.g s)),(7,.g (Cmps.g cs)),(8,I cs.l.length),(9,I k)],[],o⟩)
  (fun _ o=>(.exit 0,⟨[(0,.g (KVs.g s)),(7,.g (Cmps.g cs)),(8,I cs.l.length),(9,I cs.l.length),(10,B false)],[],o⟩))
  (fun _ o=>(.ret,⟨[(4,B false)],[],o⟩)) (by simp) (by simp) (fun k c o' o hk hx hy _ => ?_) (fun _ o _=>by delta Zaa;cases cs <;> simp -implicitDefEqProofs) () [] trivial
 ·obtain ⟨o',hq⟩:=hq
  have key:∀(l:List Cmp) k,Ym (γ:=Unit) (fun _ (c:Cmp) (_:Unit)=>if We s.l c=true then .inl () else .inr ()) k l ()=if Z7 (We s.l) l=true then .inl () else .inr ():=by
   intro l
   induction l with
   | nil=>intro k;rfl
   | cons c l ih =>
    intro k
    rw [S7]
    cases hh:We s.l c
    ·simp [Ym,hh]
    ·simp only [Ym,hh,if_true,Bool.true_and];exact ih _
  rw [key] at hq
  have e0:((0:Nat):Int)=0:=rfl
  simp only [e0] at hq
  refine Zb Ycb (by simp) ?_
  cases ha:Z7 (We s.l) cs.l <;> rw [ha] at hq <;> simp only [Bool.false_eq_true,if_true,if_false,Wj] at hq <;> cases cs <;> simp only [Cmps.g,Sl.g_nil,Sl.g_of,Sl.l_nil,Sl.l_of,List.length_nil,e0] at hq <;> simp -implicitDefEqProofs [hq]
 ·have e2:=Zh hk (by omega)
  have h1:=fun H=>Zok s c hl H
  delta Zaa
  cases cs with
  | nil=>simp at hk
  | of l =>
   simp only [Sl.l_of] at hk hx hy hc ⊢
   generalize We s.l c=b at h1 ⊢
   obtain ⟨c1,c2,c3,c4,c5⟩:=c
   simp only [A,Cmp.c,List.map_cons,List.map_nil] at h1
   cases b
   ·simp only [Bool.false_eq_true,if_false]
    refine ⟨o++[.cells [T c1,I c2,I c3,I c4,T c5]],?_⟩
    simp -implicitDefEqProofs [hk,hy,Cmp.c,h1]
   ·simp only [if_true]
    refine ⟨trivial,o++[.cells [T c1,I c2,I c3,I c4,T c5]],?_⟩
    simp -implicitDefEqProofs [hk,hy,Cmp.c,h1,e2]
theorem Z0a (s:Sl KV) (cs:Sl Cmp) (hl:s.l.length≤9223372036854775807) (hc:cs.l.length≤9223372036854775807) (H:List Blk):EvF tab 166 [.g (KVs.g s),.g (Cmps.g cs)] H=some ⟨B (Z7 (We s.l) cs.l),[],[]⟩:=by
 have hq:Ya (EvF tab) H A7 [0,1,5] ⟨[(0,.g (KVs.g s)),(1,.g (Cmps.g cs)),(5,I 0)],[],[]⟩=some (if Z7 (We s.l) cs.l=true then (.exit 0,⟨[(0,.g (KVs.g s)),(1,.g (Cmps.g cs)),(5,I cs.l.length),(9,B false)],[],[]⟩) else (.ret,⟨[(4,B false)],[],[]⟩)):=by
  refine Y4 (l:=cs.l) (We s.l) (fun k=>⟨[(0,.g (KVs.g s)),(1,.g (Cmps.g cs)),(5,I k)],[],[]⟩) _ _ (by simp) (by simp) (fun k c hk hx hy => ?_) (by delta A7;cases cs <;> simp -implicitDefEqProofs)
  have e2:=Zh hk (by omega)
  have h1:=fun H=>Zob s c hl H
  delta A7
  cases cs with
  | nil=>simp at hk
  | of l =>
   simp only [Sl.l_of] at hk hy
   generalize We s.l c=b at h1 ⊢
   obtain ⟨c1,c2,c3,c4,c5⟩:=c
   simp only [A,Cmp.c,List.map_cons,List.map_nil] at h1
   cases b <;> simp -implicitDefEqProofs [hk,hy,Cmp.c,h1,e2]
 refine Zb Ybt (by simp) ?_
 cases ha:Z7 (We s.l) cs.l <;> rw [ha] at hq <;> simp only [Bool.false_eq_true,if_true,if_false] at hq <;> cases cs <;> simp only [Cmps.g,Sl.g_nil,Sl.g_of,Sl.l_nil,Sl.l_of,List.length_nil] at hq <;> simp -implicitDefEqProofs [hq]
def Zhz (t:Txn):Bool:=decide (t.iff.l.length≤4)&&(decide (t.thn.l.length≤4)&&decide (t.els.l.length≤4))
def doOk (t:Txn):Bool:=Zhz t&&Z7 Uz t.iff.l
def Zol (s:Ze) (t:Txn):Bool:=Z7 (We (Y0 s)) t.iff.l
def doL (s:Ze) (t:Txn):Sl Mut:=if Zol s t=true then t.thn else t.els
def doS (s:Ze) (t:Txn):Ze:=if doOk t=true then Xj s (doL s t).l else s
def doY (s:Ze) (t:Txn):Bool:=doOk t&&(Zol s t&&decide (Y9 s (doL s t).l=0))
def doV (s:Ze) (t:Txn):Sl Ev:=if doOk t=true then Tj s (doL s t).l else .nil
def doE (s:Ze) (t:Txn):Int:=if doOk t=true then Y9 s (doL s t).l else 1
theorem Zti:∀(l:List Cmp) k,Ym (γ:=Unit) (fun _ (c:Cmp) (_:Unit)=>if Uz c=true then .inl () else .inr ()) k l ()=if Z7 Uz l=true then .inl () else .inr ():=by
 intro l
 induction l with
 | nil=>intro k;rfl
 | cons c l ih =>
  intro k
  rw [S7]
  cases hh:Uz c
  ·simp [Ym,hh]
  ·simp only [Ym,hh,if_true,Bool.true_and];exact ih _
theorem Zk7 (cs:Sl Cmp) (hc:cs.l.length≤9223372036854775807) (a1 a2 a3 a4:GV) (q1 q2 q3 q5:Blk) (b1 b2 b3 b4:AV) (H:List Blk) :
  ∃o,Ya (EvF tab) H Fz [2,3,4,28,29,30] ⟨[(2,.ptr H.length 0),(3,.ptr (H.length+1) 0),(4,.ptr (H.length+4) 0),(28,.g (Cmps.g cs)),(29,I cs.l.length),(30,I 0)],[],[.cells [.g a1,.g a2,.g a3,.g a4],q1,q2,q3,.cells [b1,b2,b3,b4],q5]⟩ =
   some (if Z7 Uz cs.l=true then (.exit 0,⟨[(2,.ptr H.length 0),(3,.ptr (H.length+1) 0),(4,.ptr (H.length+4) 0),(28,.g (Cmps.g cs)),(29,I cs.l.length),(30,I cs.l.length),(31,B false)],[],.cells [.g a1,.g a2,.g a3,.g a4]::q1::q2::q3 :: .cells [b1,b2,b3,b4]::q5::o⟩)
    else (.ret,⟨[(4,.ptr (H.length+4) 0),(5,B false),(6,.ms (H.length+(o.length+6)) 1 8 0 0),(7,I 1)],[],.cells [.g a1,.g a2,.g a3,.g a4]::q1::q2::q3 :: .cells [.g a1,.g a2,.g a3,.g a4]::q5::(o++[.rows 8 1 []])⟩)):=by
 have hq:=Zt (E:=EvF tab) (h:=H) (c:=Fz) (lv:=[2,3,4,28,29,30]) (l:=cs.l) (β:=Unit) (γ:=Unit) (fun _ _=>True) (fun _ c _=>if Uz c=true then .inl () else .inr ())
  (fun k _ o=>⟨[(2,.ptr H.length 0),(3,.ptr (H.length+1) 0),(4,.ptr (H.length+4) 0),(28,.g (Cmps.g cs)),(29,I cs.l.length),(30,I k)],[],.cells [.g a1,.g a2,.g a3,.g a4]::q1::q2::q3 :: .cells [b1,b2,b3,b4]::q5::o⟩)
  (fun _ o=>(.exit 0,⟨[(2,.ptr H.length 0),(3,.ptr (H.length+1) 0),(4,.ptr (H.length+4) 0),(28,.g (Cmps.g cs)),(29,I cs.l.length),(30,I cs.l.length),(31,B false)],[],.cells [.g a1,.g a2,.g a3,.g a4]::q1::q2::q3 :: .cells [b1,b2,b3,b4]::q5::o⟩))
  (fun _ o=>(.ret,⟨[(4,.ptr (H.length+4) 0),(5,B false),(6,.ms (H.length+(o.length+6)) 1 8 0 0),(7,I 1)],[],.cells [.g a1,.g a2,.g a3,.g a4]::q1::q2::q3 :: .cells [.g a1,.g a2,.g a3,.g a4]::q5::(o++[.rows 8 1 []])⟩))
  (by simp) (by simp) (fun k c _ o hk hx hy _ => ?_) (fun _ o _=>by delta Fz;cases cs <;> simp -implicitDefEqProofs) () [] trivial
 ·obtain ⟨o',hq⟩:=hq
  refine ⟨o',?_⟩
  rw [Zti] at hq
  have e0:((0:Nat):Int)=0:=rfl
  simp only [e0] at hq
  rw [hq]
  cases Z7 Uz cs.l <;> rfl
 ·have e2:=Zh hk (by omega)
  have h1:=fun H=>Zk2 c H
  delta Fz
  cases cs with
  | nil=>simp at hk
  | of l =>
   simp only [Sl.l_of] at hk hx hy hc ⊢
   generalize Uz c=b at h1 ⊢
   obtain ⟨c1,c2,c3,c4,c5⟩:=c
   simp only [A,Cmp.c,List.map_cons,List.map_nil] at h1
   cases b
   ·simp only [Bool.false_eq_true,if_false]
    refine ⟨o++[.cells [T c1,I c2,I c3,I c4,T c5]],?_⟩
    simp -implicitDefEqProofs [hk,hy,Cmp.c,h1]
   ·simp only [if_true]
    refine ⟨trivial,o++[.cells [T c1,I c2,I c3,I c4,T c5]],?_⟩
    simp -implicitDefEqProofs [hk,hy,Cmp.c,h1,e2]
theorem Z3f {a b c:Nat} (h:a≤4∧b≤4∧c≤4):¬(4:Int)<(if (if a<b then (b:Int) else (a:Int))<(c:Int) then (c:Int) else if a<b then (b:Int) else (a:Int)):=by
 split <;> split <;> omega
theorem Z3g {a b c:Nat} (h:¬(a≤4∧b≤4∧c≤4)):(4:Int)<(if (if a<b then (b:Int) else (a:Int))<(c:Int) then (c:Int) else if a<b then (b:Int) else (a:Int)):=by
 by_cases h1:a<b
 ·simp only [if_pos h1];split <;> omega
 ·simp only [if_neg h1];split <;> omega
theorem Z53 (s:Ze) (t:Txn) (hs:Z8 s) (hr : -1≤s.rev∧s.rev≤4611686018427387904) (w:t.wf) (H:List Blk) :
  EvF tab 154 [A s.c,A t.c] H=some ⟨.tup [A (doS s t).c,B (doY s t),.g (Evs.g (doV s t)),I (doE s t)],[],[]⟩:=by
 have hn:=Vp s.rev s.log.l s.base.l
 have hs2:=hs
 unfold Z8 at hs2
 obtain ⟨⟨w1,w2⟩,⟨w3,w4⟩,⟨w5,w6⟩⟩:=w
 have hlp:=fun a1 a2 a3 a4 q1 q2 q3 q5 b1 b2 b3 b4=>Zk7 t.iff w2 a1 a2 a3 a4 q1 q2 q3 q5 b1 b2 b3 b4 H
 have m1:=fun H=>Zan s hs H
 have m2:=fun H=>Z3e (Wr s.base s.log.l s.rev) t.iff (by rw [W0];omega) w2 H
 rw [show (Wr s.base s.log.l s.rev).l=Y0 s from W0 ..,show Z7 (We (Y0 s)) t.iff.l=Zol s t from rfl] at m2
 generalize Wr s.base s.log.l s.rev=N at m1 m2
 have m3:=fun (hl:(doL s t).l.length≤4) H=>Zd9 s (doL s t) hs hr (fun m hm=>by
  unfold doL at hm
  split at hm
  ·exact (w3 m hm).1
  ·exact (w5 m hm).1) (by omega) H
 refine Zb Ybi (by simp) ?_
 unfold doS doY doV doE doOk Zhz
 obtain ⟨a1,a2,a3,a4,ha⟩:∃a1 a2 a3 a4,s.c=[a1,a2,a3,a4]:=⟨_,_,_,_,rfl⟩
 obtain ⟨b1,b2,b3,b4,hb⟩:∃a1 a2 a3 a4,(Xj s (doL s t).l).c=[a1,a2,a3,a4]:=⟨_,_,_,_,rfl⟩
 by_cases hl:t.iff.l.length≤4∧t.thn.l.length≤4∧t.els.l.length≤4
 ·obtain ⟨l1,l2,l3⟩:=hl
  have m3:=m3 (by unfold doL;split <;> assumption)
  have lp:=Zk7 t.iff w2 a1 a2 a3 a4 (.cells (t.c.map .g)) (.rows 6 1 []) (.rows 8 1 []) (.rows 8 1 []) (I 0) (I 0) (.ms (H.length+2) 1 6 0 0) (.ms (H.length+3) 1 8 0 0) H
  rw [ha] at m1 m3 ⊢
  rw [hb] at m3
  generalize Y9 s (doL s t).l=e1 at m3 ⊢
  generalize hv:Tj s (doL s t).l=v at m3 ⊢
  generalize hgv:Evs.g v=gv at m3
  generalize hu:Xj s (doL s t).l=u at m3 hb ⊢
  obtain ⟨o,lp⟩:=lp
  clear hv hu
  unfold doL at m3
  generalize Zol s t=y at m2 m3 ⊢
  obtain ⟨tif,tth,tel⟩:=t
  simp only [Txn.c,List.map_cons,List.map_nil,A] at l1 l2 l3 m1 m2 m3 lp ⊢
  generalize hk:Z7 Uz tif.l=k at lp ⊢
  have mx:=Z3f ⟨l1,l2,l3⟩
  have i1:¬(4:Int)<(tif.l.length:Int):=by omega
  have i2:¬(4:Int)<(tth.l.length:Int):=by omega
  have i3:¬(4:Int)<(tel.l.length:Int):=by omega
  cases k
  ·simp only [Bool.false_eq_true,if_false] at lp
   simp -implicitDefEqProofs [l1,l2,l3,mx,lp,ha]
  ·simp only [if_true] at lp
   cases y
   ·simp only [Bool.false_eq_true,if_false] at m3
    by_cases he:e1=0 <;> simp -implicitDefEqProofs [l1,l2,l3,mx,lp,ha,hb,hgv,m1,m2,m3,he]
   ·simp only [if_true] at m3
    by_cases he:e1=0 <;> simp -implicitDefEqProofs [l1,l2,l3,mx,lp,ha,hb,hgv,m1,m2,m3,he]
 ·rw [ha]
  obtain ⟨tif,tth,tel⟩:=t
  simp only [Txn.c,List.map_cons,List.map_nil,A] at hl ⊢
  have mx:=Z3g hl
  by_cases l1:tif.l.length≤4
  ·by_cases l2:tth.l.length≤4
   ·by_cases l3:tel.l.length≤4
    ·exact absurd ⟨l1,l2,l3⟩ hl
    ·simp -implicitDefEqProofs [l1,l2,l3,ha,mx]
   ·simp -implicitDefEqProofs [l1,l2,ha,mx]
  ·simp -implicitDefEqProofs [l1,ha,mx]
structure Zf where
 st:Ze
 ls:Zk
 ms:Zi
 clock:Int
def Zf.c (x:Zf):List GV:=[.int .i64 x.st.rev,.int .i64 x.st.low,KVs.g x.st.base,Evs.g x.st.log,.int .i64 x.ls.next,LeaseL.g x.ls.l,MemoL.g x.ms.l,Floors.g x.ms.old,.int .i64 x.clock]
def Zf.wf (x:Zf):Prop:=x.st.wf∧x.ls.wf∧x.ms.wf∧I64 x.clock
def Yq (s:Zf) (id:Int):List Mut:=Wd (Y0 s.st) id
def Wg (s:Ze) (d:List Mut):Ze:=if 60<s.log.l.length+d.length then Qf s s.rev else s
def Ro (s:Zf) (id:Int):Int:=if Pd s.ls id=0 then Y9 (Wg s.st (Yq s id)) (Yq s id) else Pd s.ls id
def Vi (s:Zf) (id:Int):Zf:=if Pd s.ls id=0∧Y9 (Wg s.st (Yq s id)) (Yq s id)=0 then ⟨Xj (Wg s.st (Yq s id)) (Yq s id),Qt s.ls id,s.ms,s.clock⟩ else s
structure Fit (s:Zf):Prop where
 sz:s.st.base.l.length+s.st.log.l.length≤5000
 rev:0≤s.st.rev∧s.st.rev≤1099511627774
 key:∀x∈Y0 s.st,x.key.length≤9223372036854775807
 ls:s.ls.l.l.length≤1099511627776
theorem E7 {l:List KV} {id:Int} (h:∀x∈l,x.key.length≤9223372036854775807):∀m∈Wd l id,m.key.length≤9223372036854775807:=by
 intro m hm
 unfold Wd at hm
 split at hm
 ·cases hm
 ·obtain ⟨x,hx,rfl⟩:=List.mem_map.1 hm
  exact h x (List.mem_filter.1 hx).1
theorem Mi (l:List KV) (id:Int):(Wd l id).length≤l.length:=by
 unfold Wd
 split
 ·simp
 ·rw [List.length_map];exact List.length_filter_le ..
theorem Zom (to:Int) (l:Sl Ev):(P0 to l).l.length≤l.l.length:=by
 cases l with
 | nil=>exact Nat.le_refl _
 | of l=>exact List.length_filter_le ..
theorem E8 {s:Zf} (h:Fit s) (d:List Mut):Z8 (Wg s.st d)∧(Wg s.st d).rev=s.st.rev:=by
 have h1:=h.sz
 have h2:=W0 s.st.rev s.st.log.l s.st.base
 have h3:=Vp s.st.rev s.st.log.l s.st.base.l
 have h4:=Zom s.st.rev s.st.log
 unfold Wg Qf
 split
 ·split
  ·refine ⟨?_,rfl⟩
   unfold Z8
   simp only [h2]
   omega
  ·refine ⟨?_,rfl⟩;unfold Z8;omega
 ·refine ⟨?_,rfl⟩;unfold Z8;omega
theorem Zeq (s:Zf) (id:Int) (hf:Fit s) (H:List Blk):EvF tab 25 [A s.c,I id] H=some ⟨.tup [A (Vi s id).c,I (Ro s id)],[],[]⟩:=by
 have h1:=hf.sz
 have hs:Z8 s.st:=by unfold Z8;omega
 have hnl:(Wr s.st.base s.st.log.l s.st.rev).l=Y0 s.st:=W0 ..
 have hnn:(Y0 s.st).length≤5000:=by have:=Vp s.st.rev s.st.log.l s.st.base.l;unfold Y0;omega
 have m1:=fun H=>Z27 s.ls id hf.ls H
 have m2:=fun H=>Zan s.st hs H
 have m3:=fun H=>Zr8 (Wr s.st.base s.st.log.l s.st.rev) id (by rw [hnl];omega) H
 rw [hnl] at m3
 have m4:=fun H=>C2 s.st s.st.rev hs H
 obtain ⟨a1,a2⟩:=E8 hf (Yq s id)
 have hD:(Yq s id).length≤5000:=by have:=Mi (Y0 s.st) id;unfold Yq;omega
 have m5:=fun H=>Zd9 (Wg s.st (Yq s id)) (Zz (Yq s id)) a1 (by rw [a2];have:=hf.rev;omega) (by rw [Xz];exact E7 hf.key) (by rw [Xz];omega) H
 rw [Xz] at m5
 have hl60:Wg s.st (Yq s id)=if 60<s.st.log.l.length+(Yq s id).length then Qf s.st s.st.rev else s.st:=rfl
 refine Zb t25 (by simp) ?_
 unfold Vi Ro
 rw [show Wd (Y0 s.st) id=Yq s id from rfl] at m3
 generalize Yq s id=D at m3 m5 hD hl60 ⊢
 generalize Wr s.st.base s.st.log.l s.st.rev=N at m2 m3
 have w1:IntKind.i64.wrap ((s.st.log.l.length:Int)+(D.length:Int))=(s.st.log.l.length:Int)+(D.length:Int):=wrap_i64 (by omega) (by omega)
 have hv2:∀h st,X4 h st (.g (Muts.g (Zz D)))=some D.length:=fun h st=>by rw [Xa,Xz]
 generalize Y9 (Wg s.st D) D=ae at m5 ⊢
 generalize Tj (Wg s.st D) D=av at m5
 obtain ⟨⟨srev,Y5,Zy,Z3⟩,⟨Y7,ll⟩,⟨ml,mo⟩,clock⟩:=s
 simp only at m1 m2 m3 m4 m5 w1 hl60 h1 ⊢
 have hv1:∀h st,X4 h st (.g (Evs.g Z3))=some Z3.l.length:=fun h st=>Xa ..
 generalize Muts.g (Zz D)=GD at m3 m5 hv2
 generalize Xj (Wg ⟨srev,Y5,Zy,Z3⟩ D) D=P at m5 ⊢
 rw [hl60] at m5
 clear hl60 a1 a2 hf hs hnl hnn
 generalize Qf ⟨srev,Y5,Zy,Z3⟩ srev=Q at m4 m5
 generalize Pd ⟨Y7,ll⟩ id=ee at m1 ⊢
 generalize Qt ⟨Y7,ll⟩ id=L at m1 ⊢
 obtain ⟨Yc6,Yc7,Zfb,Zuu⟩:=P
 obtain ⟨lnext',ll'⟩:=L
 by_cases h60:60<Z3.l.length+D.length
 ·have h60I:(60:Int)<(Z3.l.length:Int)+(D.length:Int):=by omega
  rw [if_pos h60] at m5
  obtain ⟨Z3r,Z3s,Dk,Zik⟩:=Q
  simp only [A,Ze.c,Zk.c,Zf.c,List.map_cons,List.map_nil] at m1 m2 m3 m4 m5 ⊢
  generalize hG1:KVs.g Zy=G1 at m2 m4 m5 ⊢
  generalize hG2:Evs.g Z3=G2 at m2 m4 m5 hv1 ⊢
  generalize hG3:LeaseL.g ll=G3 at m1 ⊢
  generalize hG4:MemoL.g ml=G4
  generalize hG5:Floors.g mo=G5
  generalize KVs.g N=G6 at m2 m3
  generalize KVs.g Dk=G7 at m4 m5
  generalize Evs.g Zik=G8 at m4 m5
  generalize hG9:KVs.g Zfb=G9 at m5 ⊢
  generalize hG10:Evs.g Zuu=G10 at m5 ⊢
  generalize hG11:LeaseL.g ll'=G11 at m1 ⊢
  generalize Evs.g av=G12 at m5
  by_cases he:ee=0
  ·subst he
   by_cases ha:ae=0
   ·subst ha
    simp -implicitDefEqProofs [m1,m2,m3,m4,m5,hv1,hv2,w1,Yf,hG1,hG2,hG3,hG4,hG5,hG9,hG10,hG11,Zf.c,h60I]
   ·simp -implicitDefEqProofs [m1,m2,m3,m4,m5,hv1,hv2,w1,Yf,hG1,hG2,hG3,hG4,hG5,hG9,hG10,hG11,Zf.c,h60I,ha]
  ·simp -implicitDefEqProofs [m1,he,hG1,hG2,hG3,hG4,hG5,Zf.c]
 ·have h60I:¬(60:Int)<(Z3.l.length:Int)+(D.length:Int):=by omega
  rw [if_neg h60] at m5
  obtain ⟨Z3r,Z3s,Dk,Zik⟩:=Q
  simp only [A,Ze.c,Zk.c,Zf.c,List.map_cons,List.map_nil] at m1 m2 m3 m4 m5 ⊢
  generalize hG1:KVs.g Zy=G1 at m2 m4 m5 ⊢
  generalize hG2:Evs.g Z3=G2 at m2 m4 m5 hv1 ⊢
  generalize hG3:LeaseL.g ll=G3 at m1 ⊢
  generalize hG4:MemoL.g ml=G4
  generalize hG5:Floors.g mo=G5
  generalize KVs.g N=G6 at m2 m3
  generalize KVs.g Dk=G7 at m4 m5
  generalize Evs.g Zik=G8 at m4 m5
  generalize hG9:KVs.g Zfb=G9 at m5 ⊢
  generalize hG10:Evs.g Zuu=G10 at m5 ⊢
  generalize hG11:LeaseL.g ll'=G11 at m1 ⊢
  generalize Evs.g av=G12 at m5
  by_cases he:ee=0
  ·subst he
   by_cases ha:ae=0
   ·subst ha
    simp -implicitDefEqProofs [m1,m2,m3,m4,m5,hv1,hv2,w1,Yf,hG1,hG2,hG3,hG4,hG5,hG9,hG10,hG11,Zf.c,h60I]
   ·simp -implicitDefEqProofs [m1,m2,m3,m4,m5,hv1,hv2,w1,Yf,hG1,hG2,hG3,hG4,hG5,hG9,hG10,hG11,Zf.c,h60I,ha]
  ·simp -implicitDefEqProofs [m1,he,hG1,hG2,hG3,hG4,hG5,Zf.c]
def ints (l:List Int):GV := .sl 1 (l.map fun x=>[.int .i64 x])
def Z1 (n:Int):Bool:=decide (0≤n)&&decide (n≤1099511627775)
def Tl (k v:Bs):Bool:=decide (k.length≤40)&&decide (v.length≤20)
def Rq (c:Cmp):Bool:=Tl c.key c.value&&decide (1≤c.what)&&decide (c.what≤4)&&decide (1≤c.how)&&decide (c.how≤3)&&Z1 c.n
def Q0 (m:Mut):Bool:=Tl m.key m.value&&Z1 m.lease
def J1 (s:Sl Cmp):Bool:=decide (s.l.length≤4)&&s.l.all Rq
def Rr (s:Sl Mut):Bool:=decide (s.l.length≤4)&&s.l.all Q0
def Tm (r:Req):Bool:=(decide (1≤r.kind)&&decide (r.kind≤8))&&Tl r.key r.value&&(Z1 r.who&&(Z1 r.seq&&(Z1 r.lease&&(Z1 r.rev&&(Z1 r.ttl&&Z1 r.token)))))&&J1 r.iff&&Rr r.thn&&Rr r.els
theorem Kr {α:Type} (p:α→Bool) (l:List α):l.all p = !(l.any fun x => !p x):=by
 induction l with
 | nil=>rfl
 | cons x l ih=>simp only [List.all_cons,List.any_cons,ih];cases p x <;> rfl
theorem Z0b (n:Int) (H:List Blk):EvF tab 144 [I n] H=some ⟨B (!Z1 n),[],[]⟩:=by
 refine Zb Ya9 (by simp) ?_
 unfold Z1
 by_cases h1:n<0
 ·simp -implicitDefEqProofs [h1,show ¬0≤n by omega]
 ·by_cases h2:n≤1099511627775
  ·simp -implicitDefEqProofs [h1,h2,show 0≤n by omega,show ¬1099511627775<n by omega]
  ·simp -implicitDefEqProofs [h1,h2,show 0≤n by omega,show 1099511627775<n by omega]
theorem Gd (l:List Int) (hl:l.length≤9223372036854775807) (H:List Blk):EvF tab 89 [.g (ints l)] H=some ⟨B (l.all Z1),[],[]⟩:=by
 have hc:=V0 (Tb:=tab) (f:=143) (g:=179) (agg:=false) (n:=1) (c:=fun x:Int=>[GV.int .i64 x]) Ya8 Yb5 (fun x=>I x) (fun x => !Z1 x) (.g (.fn 144)) (.of l) hl H (by simp) (fun x _ t=>by
  simp -implicitDefEqProofs [Z0b])
 refine Zb t89 (by simp) ?_
 simp only [Sl.g_of,Sl.l_of] at hc
 unfold ints
 rw [Kr]
 generalize (l.any fun x => !Z1 x)=b at hc ⊢
 simp -implicitDefEqProofs [hc]
theorem Ks (k v:Bs) (H:List Blk):EvF tab 88 [T k,T v] H=some ⟨B (Tl k v),[],[]⟩:=by
 refine Zb t88 (by simp) ?_
 unfold Tl
 by_cases h1:k.length≤40
 ·by_cases h2:v.length≤20
  ·simp -implicitDefEqProofs [h1,h2,show (k.length:Int)≤40 by omega,show (v.length:Int)≤20 by omega]
  ·simp -implicitDefEqProofs [h1,h2,show (k.length:Int)≤40 by omega,show ¬(v.length:Int)≤20 by omega]
 ·simp -implicitDefEqProofs [h1,show ¬(k.length:Int)≤40 by omega]
theorem Zav (n:Int) (H:List Blk):EvF tab 89 [.g (.sl 1 [[.int .i64 n]])] H=some ⟨B (Z1 n),[],[]⟩:=by
 have:=Gd [n] (by simp) H
 simp only [ints,List.map_cons,List.map_nil,List.all_cons,List.all_nil,Bool.and_true] at this
 exact this
theorem Zon (c:Cmp) (H:List Blk):EvF tab 91 [A c.c] H=some ⟨B (Rq c),[],[]⟩:=by
 refine Zb t91 (by simp) ?_
 unfold Rq
 have ht:=Ks c.key c.value
 have hn:=Zav c.n
 generalize Tl c.key c.value=b1 at ht ⊢
 generalize Z1 c.n=b2 at hn ⊢
 cases b1
 ·simp -implicitDefEqProofs [A,Cmp.c,ht]
 ·by_cases h1:1≤c.what
  ·by_cases h2:c.what≤4
   ·by_cases h3:1≤c.how
    ·by_cases h4:c.how≤3
     ·simp -implicitDefEqProofs [A,Cmp.c,ht,hn,h1,h2,h3,h4,Zx]
     ·simp -implicitDefEqProofs [A,Cmp.c,ht,hn,h1,h2,h3,h4,Zx]
    ·simp -implicitDefEqProofs [A,Cmp.c,ht,hn,h1,h2,h3,Zx]
   ·simp -implicitDefEqProofs [A,Cmp.c,ht,hn,h1,h2,Zx]
  ·simp -implicitDefEqProofs [A,Cmp.c,ht,hn,h1,Zx]
theorem Zoo (m:Mut) (H:List Blk):EvF tab 93 [A m.c] H=some ⟨B (Q0 m),[],[]⟩:=by
 refine Zb t93 (by simp) ?_
 unfold Q0
 have ht:=Ks m.key m.value
 have hn:=Zav m.lease
 generalize Tl m.key m.value=b1 at ht ⊢
 generalize Z1 m.lease=b2 at hn ⊢
 cases b1 <;> simp -implicitDefEqProofs [A,Mut.c,ht,hn,Zx]
theorem Zh0 (c:Cmp) {H:List Blk} {p:Nat} (hp:H[p]? = some (.cells [.g (.fn 91)])):EvF tab 146 [A c.c,.ptr p 0] H=some ⟨B (!Rq c),[],[]⟩:=by
 refine Zb Ybb (by simp) ?_
 have hpl:p<H.length:=(List.getElem?_eq_some_iff.1 hp).1
 have hp2:=(List.getElem?_eq_some_iff.1 hp).2
 have hm:=fun H=>Zon c H
 obtain ⟨b,eb⟩:∃b,Rq c=b:=⟨_,rfl⟩
 rw [eb] at hm ⊢
 simp only [A,Cmp.c,List.map_cons,List.map_nil] at hm
 simp -implicitDefEqProofs [A,Cmp.c,hp2,hpl,Zp,orB,hm]
theorem Zh1 (c:Mut) {H:List Blk} {p:Nat} (hp:H[p]? = some (.cells [.g (.fn 93)])):EvF tab 148 [A c.c,.ptr p 0] H=some ⟨B (!Q0 c),[],[]⟩:=by
 refine Zb Ybd (by simp) ?_
 have hpl:p<H.length:=(List.getElem?_eq_some_iff.1 hp).1
 have hp2:=(List.getElem?_eq_some_iff.1 hp).2
 have hm:=fun H=>Zoo c H
 obtain ⟨b,eb⟩:∃b,Q0 c=b:=⟨_,rfl⟩
 rw [eb] at hm ⊢
 simp only [A,Mut.c,List.map_cons,List.map_nil] at hm
 simp -implicitDefEqProofs [A,Mut.c,hp2,hpl,Zp,orB,hm]
theorem Zop (s:Sl Cmp) (hl:s.l.length≤9223372036854775807) (H:List Blk):EvF tab 90 [.g (Cmps.g s),I 4,.g (.fn 91)] H=some ⟨B (J1 s),[],[]⟩:=by
 have hc:=V0 (Tb:=tab) (f:=145) (g:=180) (agg:=true) (n:=5) (c:=Cmp.c) Yba Yb6 (fun x=>A x.c) (fun x => !Rq x) (.fv 146 [.ptr H.length 0]) s hl (H++[.cells [.g (.fn 91)]]) (fun x=>by simp [A,Cmp.c]) (fun x _ t=>by
  have h1:=Zh0 x (H:=H++[.cells [.g (.fn 91)]]) (p:=H.length) (by simp)
  simp -implicitDefEqProofs [h1])
 refine Zb t90 (by simp) ?_
 unfold J1
 rw [Kr]
 generalize (s.l.any fun x => !Rq x)=b at hc ⊢
 by_cases h1:s.l.length≤4
 ·simp -implicitDefEqProofs [hc,h1,show (s.l.length:Int)≤4 by omega]
 ·simp -implicitDefEqProofs [hc,h1,show ¬(s.l.length:Int)≤4 by omega]
theorem Bf (s:Sl Mut) (hl:s.l.length≤9223372036854775807) (H:List Blk):EvF tab 92 [.g (Muts.g s),I 4,.g (.fn 93)] H=some ⟨B (Rr s),[],[]⟩:=by
 have hc:=V0 (Tb:=tab) (f:=147) (g:=181) (agg:=true) (n:=4) (c:=Mut.c) Ybc Yb7 (fun x=>A x.c) (fun x => !Q0 x) (.fv 148 [.ptr H.length 0]) s hl (H++[.cells [.g (.fn 93)]]) (fun x=>by simp [A,Mut.c]) (fun x _ t=>by
  have h1:=Zh1 x (H:=H++[.cells [.g (.fn 93)]]) (p:=H.length) (by simp)
  simp -implicitDefEqProofs [h1])
 refine Zb t92 (by simp) ?_
 unfold Rr
 rw [Kr]
 generalize (s.l.any fun x => !Q0 x)=b at hc ⊢
 by_cases h1:s.l.length≤4
 ·simp -implicitDefEqProofs [hc,h1,show (s.l.length:Int)≤4 by omega]
 ·simp -implicitDefEqProofs [hc,h1,show ¬(s.l.length:Int)≤4 by omega]
def RL (r:Req):Prop:=r.iff.l.length≤9223372036854775807∧r.thn.l.length≤9223372036854775807∧r.els.l.length≤9223372036854775807
theorem rl {r:Req} (w:r.wf):RL r:=⟨w.2.2.2.2.2.2.2.2.2.1.2,w.2.2.2.2.2.2.2.2.2.2.1.2,w.2.2.2.2.2.2.2.2.2.2.2.2⟩
theorem Zoq (r:Req) (w:RL r) (H:List Blk):EvF tab 44 [A r.c] H=some ⟨B (Tm r),[],[]⟩:=by
 have ht:=Ks r.key r.value
 have hn:=Gd [r.who,r.seq,r.lease,r.rev,r.ttl,r.token] (by simp)
 have e:([r.who,r.seq,r.lease,r.rev,r.ttl,r.token].all Z1)=(Z1 r.who&&(Z1 r.seq&&(Z1 r.lease&&(Z1 r.rev&&(Z1 r.ttl&&Z1 r.token))))):=by simp only [List.all_cons,List.all_nil,Bool.and_true]
 rw [e] at hn
 simp only [ints,List.map_cons,List.map_nil] at hn
 have hc:=Zop r.iff w.1
 have hm1:=Bf r.thn w.2.1
 have hm2:=Bf r.els w.2.2
 refine Zb t44 (by simp) ?_
 unfold Tm
 generalize Tl r.key r.value=b1 at ht ⊢
 generalize (Z1 r.who&&(Z1 r.seq&&(Z1 r.lease&&(Z1 r.rev&&(Z1 r.ttl&&Z1 r.token)))))=b2 at hn ⊢
 generalize J1 r.iff=b3 at hc ⊢
 generalize Rr r.thn=b4 at hm1 ⊢
 generalize Rr r.els=b5 at hm2 ⊢
 generalize hG1:Cmps.g r.iff=G1 at hc
 generalize hG2:Muts.g r.thn=G2 at hm1
 generalize hG3:Muts.g r.els=G3 at hm2
 by_cases h1:1≤r.kind
 ·by_cases h2:r.kind≤8
  ·cases b1
   ·simp -implicitDefEqProofs [A,Req.c,hG1,hG2,hG3,ht,h1,h2,show ¬r.kind<1 by omega,show ¬8<r.kind by omega]
   ·cases b2
    ·simp -implicitDefEqProofs [A,Req.c,hG1,hG2,hG3,ht,hn,Zx,h1,h2,show ¬r.kind<1 by omega,show ¬8<r.kind by omega]
    ·cases b3
     ·simp -implicitDefEqProofs [A,Req.c,hG1,hG2,hG3,ht,hn,hc,Zx,h1,h2,show ¬r.kind<1 by omega,show ¬8<r.kind by omega]
     ·cases b4
      ·simp -implicitDefEqProofs [A,Req.c,hG1,hG2,hG3,ht,hn,hc,hm1,Zx,h1,h2,show ¬r.kind<1 by omega,show ¬8<r.kind by omega]
      ·simp -implicitDefEqProofs [A,Req.c,hG1,hG2,hG3,ht,hn,hc,hm1,hm2,Zx,h1,h2,show ¬r.kind<1 by omega,show ¬8<r.kind by omega]
  ·simp -implicitDefEqProofs [A,Req.c,hG1,hG2,hG3,h1,h2,show ¬r.kind<1 by omega,show 8<r.kind by omega]
 ·simp -implicitDefEqProofs [A,Req.c,hG1,hG2,hG3,h1,show r.kind<1 by omega]
theorem Yu (n:Int) (H:List Blk):EvF tab 72 [I n] H=some ⟨B (Z1 n),[],[]⟩:=by
 refine Zb t72 (by simp) ?_
 unfold Z1
 by_cases h1:0≤n <;> simp -implicitDefEqProofs [h1]
theorem Nl (k v:Bs) (H:List Blk):EvF tab 73 [T k,T v] H=some ⟨B (Tl k v),[],[]⟩:=by
 refine Zb t73 (by simp) ?_
 unfold Tl
 by_cases h1:k.length≤40
 ·by_cases h2:v.length≤20
  ·simp -implicitDefEqProofs [h1,h2,show (k.length:Int)≤40 by omega,show (v.length:Int)≤20 by omega]
  ·simp -implicitDefEqProofs [h1,h2,show (k.length:Int)≤40 by omega,show ¬(v.length:Int)≤20 by omega]
 ·simp -implicitDefEqProofs [h1,show ¬(k.length:Int)≤40 by omega]
theorem Zh2 (s:Sl Mut) (hl:s.l.length≤9223372036854775807) (H:List Blk) :
  Ya (EvF tab) H Zj9 [0,3] ⟨[(0,.g (Muts.g s)),(3,I 0)],[],[]⟩ =
   some (if Z7 Q0 s.l=true then (.exit 0,⟨[(0,.g (Muts.g s)),(3,I s.l.length),(10,B false)],[],[]⟩) else (.ret,⟨[(2,B false)],[],[]⟩)):=by
 refine Y4 (l:=s.l) Q0 (fun k=>⟨[(0,.g (Muts.g s)),(3,I k)],[],[]⟩) _ _ (by simp) (by simp) (fun k x hk hx hy => ?_) (by delta Zj9;cases s <;> simp -implicitDefEqProofs)
 delta Zj9
 have e2:=Zh hk hl
 cases s with
 | nil=>simp at hk
 | of l =>
  simp only [Sl.l_of] at hk hy
  unfold Q0
  have h1:=Nl x.key x.value
  have h2:=Yu x.lease
  generalize Tl x.key x.value=b1 at h1 ⊢
  generalize Z1 x.lease=b2 at h2 ⊢
  cases b1 <;> cases b2 <;> simp -implicitDefEqProofs [hk,hy,Mut.c,h1,h2,e2]
theorem Zer (s:Sl Mut) (hl:s.l.length≤9223372036854775807) (H:List Blk):EvF tab 74 [.g (Muts.g s)] H=some ⟨B (Rr s),[],[]⟩:=by
 refine Zb t74 (by simp) ?_
 have hw:=Zh2 s hl H
 unfold Rr
 rw [show s.l.all Q0=Z7 Q0 s.l from rfl]
 by_cases h:s.l.length≤4
 ·cases hs:Z7 Q0 s.l <;> rw [hs] at hw <;> simp only [Bool.false_eq_true,if_true,if_false] at hw
  all_goals simp -implicitDefEqProofs [h,show ¬(4:Int)<(s.l.length:Int) by omega,hw]
 ·simp -implicitDefEqProofs [h,show (4:Int)<(s.l.length:Int) by omega]
theorem Zes {α:Type} (p:α→Bool):∀(l:List α) k,Ym (fun k (x:α) (_:Unit)=>if p x=true then .inl () else .inr ()) k l ()=if Z7 p l=true then .inl () else (.inr ():Unit⊕Unit):=by
 intro l
 induction l with
 | nil=>intro k;rfl
 | cons x l ih =>
  intro k
  simp only [Ym,S7]
  by_cases h:p x=true
  ·simp only [h,if_true,Bool.true_and];exact ih _
  ·simp [h]
theorem Zaw (r:Req) (hl:r.iff.l.length≤9223372036854775807) (H:List Blk):∃o',Ya (EvF tab) H Zc8 [1,3] ⟨[(1,.ptr H.length 0),(3,I 0)],[],[.cells (r.c.map .g)]⟩ =
   some (if Z7 Rq r.iff.l=true then (.exit 0,⟨[(1,.ptr H.length 0),(3,I r.iff.l.length),(69,B false)],[],.cells (r.c.map .g)::o'⟩) else (.ret,⟨[(2,B false)],[],.cells (r.c.map .g)::o'⟩)):=by
 have hw:=Zt (E:=EvF tab) (h:=H) (c:=Zc8) (lv:=[1,3]) (l:=r.iff.l) (β:=Unit) (γ:=Unit) (fun _ _=>True) (fun k x _=>if Rq x=true then .inl () else .inr ())
  (fun k _ o=>⟨[(1,.ptr H.length 0),(3,I k)],[],.cells (r.c.map .g)::o⟩) (fun _ o=>(.exit 0,⟨[(1,.ptr H.length 0),(3,I r.iff.l.length),(69,B false)],[],.cells (r.c.map .g)::o⟩)) (fun _ o=>(.ret,⟨[(2,B false)],[],.cells (r.c.map .g)::o⟩)) (by simp) (by simp) (fun k x _ o hk hx hy _ => ?_) (fun _ o _=>by delta Zc8;simp -implicitDefEqProofs [Req.c]) () [] trivial
 ·obtain ⟨o',hw⟩:=hw
  refine ⟨o',?_⟩
  rw [Zes] at hw
  have e0:((0:Nat):Int)=0:=rfl
  simp only [e0] at hw
  rw [hw]
  cases Z7 Rq r.iff.l <;> rfl
 ·have e2:=Zh hk hl
  delta Zc8
  obtain ⟨b1,b2,b3,b4,b5,b6,b7,b8,b9,b10,bi,bt,be⟩:=r
  simp only at hk hl hx hy e2 ⊢
  cases bi with
  | nil=>simp at hk
  | of l =>
   simp only [Sl.l_of] at hk hy e2 ⊢
   have h1:=Nl x.key x.value
   have h2:=Yu x.n
   have hO:Rq x=(Tl x.key x.value&&decide (1≤x.what)&&decide (x.what≤4)&&decide (1≤x.how)&&decide (x.how≤3)&&Z1 x.n):=rfl
   generalize Tl x.key x.value=b1 at h1 hO
   generalize Z1 x.n=b2 at h2 hO
   cases hc:Rq x <;> rw [hc] at hO
   ·refine ⟨o++[.cells (x.c.map .g)],?_⟩
    cases b1
    ·simp -implicitDefEqProofs [hk,hy,Req.c,Cmp.c,h1,e2]
    ·by_cases k1:1≤x.what
     ·by_cases k2:x.what≤4
      ·by_cases k3:1≤x.how
       ·by_cases k4:x.how≤3
        ·cases b2
         ·simp -implicitDefEqProofs [hk,hy,Req.c,Cmp.c,h1,h2,e2,k1,k2,k3,k4,show ¬x.what<1 by omega,show ¬4<x.what by omega,show ¬x.how<1 by omega,show ¬3<x.how by omega]
         ·simp [k1,k2,k3,k4] at hO
        ·simp -implicitDefEqProofs [hk,hy,Req.c,Cmp.c,h1,h2,e2,k1,k2,k3,k4,show ¬x.what<1 by omega,show ¬4<x.what by omega,show ¬x.how<1 by omega,show 3<x.how by omega]
       ·simp -implicitDefEqProofs [hk,hy,Req.c,Cmp.c,h1,h2,e2,k1,k2,k3,show ¬x.what<1 by omega,show ¬4<x.what by omega,show x.how<1 by omega]
      ·simp -implicitDefEqProofs [hk,hy,Req.c,Cmp.c,h1,h2,e2,k1,k2,show ¬x.what<1 by omega,show 4<x.what by omega]
     ·simp -implicitDefEqProofs [hk,hy,Req.c,Cmp.c,h1,h2,e2,k1,show x.what<1 by omega]
   ·refine ⟨trivial,o++[.cells (x.c.map .g)],?_⟩
    symm at hO
    simp only [Bool.and_eq_true,decide_eq_true_eq] at hO
    obtain ⟨⟨⟨⟨⟨rfl,k1⟩,k2⟩,k3⟩,k4⟩,rfl⟩:=hO
    simp -implicitDefEqProofs [hk,hy,Req.c,Cmp.c,h1,h2,e2,k1,k2,k3,k4,show ¬x.what<1 by omega,show ¬4<x.what by omega,show ¬x.how<1 by omega,show ¬3<x.how by omega]
theorem Zh3 (r:Req) (w:RL r) (H:List Blk):EvF tab 28 [A r.c] H=some ⟨B (Tm r),[],[]⟩:=by
 obtain ⟨o',hw⟩:=Zaw r w.1 H
 have hm1:=Zer r.thn w.2.1
 have hm2:=Zer r.els w.2.2
 refine Zb t28 (by simp) ?_
 obtain ⟨kind,who,seq,once,key,value,lease,rev,ttl,token,iff,thn,els⟩:=r
 unfold Tm J1
 simp only at hw hm1 hm2 ⊢
 have ht:=Nl key value
 have h1:=Yu who
 have h2:=Yu seq
 have h3:=Yu lease
 have h4:=Yu rev
 have h5:=Yu ttl
 have h6:=Yu token
 rw [show iff.l.all Rq=Z7 Rq iff.l from rfl]
 generalize Tl key value=bt at ht ⊢
 generalize Z1 who=n1 at h1 ⊢
 generalize Z1 seq=n2 at h2 ⊢
 generalize Z1 lease=n3 at h3 ⊢
 generalize Z1 rev=n4 at h4 ⊢
 generalize Z1 ttl=n5 at h5 ⊢
 generalize Z1 token=n6 at h6 ⊢
 generalize Rr thn=m1 at hm1 ⊢
 generalize Rr els=m2 at hm2 ⊢
 simp only [Req.c,List.map_cons,List.map_nil] at hw
 by_cases k1:1≤kind
 ·by_cases k2:kind≤8
  ·cases n1
   ·simp -implicitDefEqProofs [A,Req.c,h1,k1,k2,show ¬kind<1 by omega,show ¬8<kind by omega]
   cases n2
   ·simp -implicitDefEqProofs [A,Req.c,h1,h2,k1,k2,show ¬kind<1 by omega,show ¬8<kind by omega]
   cases n3
   ·simp -implicitDefEqProofs [A,Req.c,h1,h2,h3,k1,k2,show ¬kind<1 by omega,show ¬8<kind by omega]
   cases n4
   ·simp -implicitDefEqProofs [A,Req.c,h1,h2,h3,h4,k1,k2,show ¬kind<1 by omega,show ¬8<kind by omega]
   cases n5
   ·simp -implicitDefEqProofs [A,Req.c,h1,h2,h3,h4,h5,k1,k2,show ¬kind<1 by omega,show ¬8<kind by omega]
   cases n6
   ·simp -implicitDefEqProofs [A,Req.c,h1,h2,h3,h4,h5,h6,k1,k2,show ¬kind<1 by omega,show ¬8<kind by omega]
   cases bt
   ·simp -implicitDefEqProofs [A,Req.c,h1,h2,h3,h4,h5,h6,ht,k1,k2,show ¬kind<1 by omega,show ¬8<kind by omega]
   by_cases k3:iff.l.length≤4
   ·cases hs:Z7 Rq iff.l <;> rw [hs] at hw <;> simp only [Bool.false_eq_true,if_true,if_false] at hw
    ·simp -implicitDefEqProofs [A,Req.c,h1,h2,h3,h4,h5,h6,ht,k1,k2,k3,hw,show ¬kind<1 by omega,show ¬8<kind by omega,show ¬(4:Int)<(iff.l.length:Int) by omega]
    ·cases m1 <;> simp -implicitDefEqProofs [A,Req.c,h1,h2,h3,h4,h5,h6,ht,hm1,hm2,k1,k2,k3,hw,show ¬kind<1 by omega,show ¬8<kind by omega,show ¬(4:Int)<(iff.l.length:Int) by omega]
   ·simp -implicitDefEqProofs [A,Req.c,h1,h2,h3,h4,h5,h6,ht,k1,k2,k3,show ¬kind<1 by omega,show ¬8<kind by omega,show (4:Int)<(iff.l.length:Int) by omega]
  ·simp -implicitDefEqProofs [A,Req.c,k1,k2,show ¬kind<1 by omega,show 8<kind by omega]
 ·simp -implicitDefEqProofs [A,Req.c,k1,show kind<1 by omega]
def Ru (x:KV):Bool:=Tl x.key x.value&&(Z1 x.create&&(Z1 x.mod&&(Z1 x.version&&Z1 x.lease)))
def Mj (x:Ev):Bool:=Ru x.kv&&Z1 x.rev
def N1 (s:Sl KV):Bool:=decide (s.l.length≤30)&&s.l.all Ru
def N3 (s:Sl Ev):Bool:=decide (s.l.length≤30)&&s.l.all Mj
def Sj (r:Zj):Bool:=(decide (0≤r.code)&&decide (r.code≤14))&&(Z1 r.who&&(Z1 r.seq&&(Z1 r.rev&&(Z1 r.lease&&Z1 r.ttl))))&&N1 r.kvs&&N3 r.events
theorem Zet (m:KV) (H:List Blk):EvF tab 128 [A m.c] H=some ⟨B (Ru m),[],[]⟩:=by
 refine Zb Yaw (by simp) ?_
 unfold Ru
 have ht:=Ks m.key m.value
 have hn:=Gd [m.create,m.mod,m.version,m.lease] (by simp)
 have e:([m.create,m.mod,m.version,m.lease].all Z1)=(Z1 m.create&&(Z1 m.mod&&(Z1 m.version&&Z1 m.lease))):=by simp only [List.all_cons,List.all_nil,Bool.and_true]
 rw [e] at hn
 simp only [ints,List.map_cons,List.map_nil] at hn
 generalize Tl m.key m.value=b1 at ht ⊢
 generalize (Z1 m.create&&(Z1 m.mod&&(Z1 m.version&&Z1 m.lease)))=b2 at hn ⊢
 cases b1 <;> simp -implicitDefEqProofs [A,KV.c,ht,hn,Zx]
theorem Zeu (m:Ev) (H:List Blk):EvF tab 130 [A m.c] H=some ⟨B (Mj m),[],[]⟩:=by
 refine Zb Yay (by simp) ?_
 unfold Mj
 have ht:=fun H=>Zet m.kv H
 have hn:=Zav m.rev
 generalize Ru m.kv=b1 at ht ⊢
 generalize Z1 m.rev=b2 at hn ⊢
 simp only [A,KV.c,List.map_cons,List.map_nil] at ht
 cases b1 <;> simp -implicitDefEqProofs [A,Ev.c,ht,hn,Zx]
theorem Zor (c:KV) {H:List Blk} {p:Nat} (hp:H[p]? = some (.cells [.g (.fn 128)])):EvF tab 171 [A c.c,.ptr p 0] H=some ⟨B (!Ru c),[],[]⟩:=by
 refine Zb Yby (by simp) ?_
 have hpl:p<H.length:=(List.getElem?_eq_some_iff.1 hp).1
 have hp2:=(List.getElem?_eq_some_iff.1 hp).2
 have hm:=fun H=>Zet c H
 obtain ⟨b,eb⟩:∃b,Ru c=b:=⟨_,rfl⟩
 rw [eb] at hm ⊢
 simp only [A,KV.c,List.map_cons,List.map_nil] at hm
 simp -implicitDefEqProofs [A,KV.c,hp2,hpl,Zp,orB,hm]
theorem Zos (c:Ev) {H:List Blk} {p:Nat} (hp:H[p]? = some (.cells [.g (.fn 130)])):EvF tab 173 [A c.c,.ptr p 0] H=some ⟨B (!Mj c),[],[]⟩:=by
 refine Zb Yb0 (by simp) ?_
 have hpl:p<H.length:=(List.getElem?_eq_some_iff.1 hp).1
 have hp2:=(List.getElem?_eq_some_iff.1 hp).2
 have hm:=fun H=>Zeu c H
 obtain ⟨b,eb⟩:∃b,Mj c=b:=⟨_,rfl⟩
 rw [eb] at hm ⊢
 simp only [A,Ev.c,List.map_cons,List.map_nil] at hm
 simp -implicitDefEqProofs [A,Ev.c,hp2,hpl,Zp,orB,hm]
theorem Ztj (s:Sl KV) (hl:s.l.length≤9223372036854775807) (H:List Blk):EvF tab 127 [.g (KVs.g s),I 30,.g (.fn 128)] H=some ⟨B (N1 s),[],[]⟩:=by
 have hc:=V0 (Tb:=tab) (f:=60) (g:=131) (agg:=true) (n:=6) (c:=KV.c) t60 Zzb (fun x=>A x.c) (fun x => !Ru x) (.fv 171 [.ptr H.length 0]) s hl (H++[.cells [.g (.fn 128)]]) (fun x=>by simp [A,KV.c]) (fun x _ t=>by
  have h1:=Zor x (H:=H++[.cells [.g (.fn 128)]]) (p:=H.length) (by simp)
  simp -implicitDefEqProofs [h1])
 refine Zb Yav (by simp) ?_
 unfold N1
 rw [Kr]
 generalize (s.l.any fun x => !Ru x)=b at hc ⊢
 by_cases h1:s.l.length≤30
 ·simp -implicitDefEqProofs [hc,h1,show (s.l.length:Int)≤30 by omega]
 ·simp -implicitDefEqProofs [hc,h1,show ¬(s.l.length:Int)≤30 by omega]
theorem Ztk (s:Sl Ev) (hl:s.l.length≤9223372036854775807) (H:List Blk):EvF tab 129 [.g (Evs.g s),I 30,.g (.fn 130)] H=some ⟨B (N3 s),[],[]⟩:=by
 have hc:=V0 (Tb:=tab) (f:=172) (g:=175) (agg:=true) (n:=8) (c:=Ev.c) Ybz Z22 (fun x=>A x.c) (fun x => !Mj x) (.fv 173 [.ptr H.length 0]) s hl (H++[.cells [.g (.fn 130)]]) (fun x=>by simp [A,Ev.c]) (fun x _ t=>by
  have h1:=Zos x (H:=H++[.cells [.g (.fn 130)]]) (p:=H.length) (by simp)
  simp -implicitDefEqProofs [h1])
 refine Zb Yax (by simp) ?_
 unfold N3
 rw [Kr]
 generalize (s.l.any fun x => !Mj x)=b at hc ⊢
 by_cases h1:s.l.length≤30
 ·simp -implicitDefEqProofs [hc,h1,show (s.l.length:Int)≤30 by omega]
 ·simp -implicitDefEqProofs [hc,h1,show ¬(s.l.length:Int)≤30 by omega]
def RP (r:Zj):Prop:=r.kvs.l.length≤9223372036854775807∧r.events.l.length≤9223372036854775807
theorem rp {r:Zj} (w:r.wf):RP r:=⟨w.2.2.2.2.2.2.1.2,w.2.2.2.2.2.2.2.2⟩
theorem Zh4 (r:Zj) (w:RP r) (H:List Blk):EvF tab 59 [A r.c] H=some ⟨B (Sj r),[],[]⟩:=by
 have hn:=Gd [r.who,r.seq,r.rev,r.lease,r.ttl] (by simp)
 have e:([r.who,r.seq,r.rev,r.lease,r.ttl].all Z1)=(Z1 r.who&&(Z1 r.seq&&(Z1 r.rev&&(Z1 r.lease&&Z1 r.ttl)))):=by simp only [List.all_cons,List.all_nil,Bool.and_true]
 rw [e] at hn
 simp only [ints,List.map_cons,List.map_nil] at hn
 have hc:=Ztj r.kvs w.1
 have hm1:=Ztk r.events w.2
 refine Zb t59 (by simp) ?_
 unfold Sj
 generalize (Z1 r.who&&(Z1 r.seq&&(Z1 r.rev&&(Z1 r.lease&&Z1 r.ttl))))=b2 at hn ⊢
 generalize N1 r.kvs=b3 at hc ⊢
 generalize N3 r.events=b4 at hm1 ⊢
 generalize hG1:KVs.g r.kvs=G1 at hc
 generalize hG2:Evs.g r.events=G2 at hm1
 by_cases h1:0≤r.code
 ·by_cases h2:r.code≤14
  ·cases b2
   ·simp -implicitDefEqProofs [A,Zj.c,hG1,hG2,hn,Zx,h1,h2,show ¬r.code<0 by omega,show ¬14<r.code by omega]
   ·cases b3
    ·simp -implicitDefEqProofs [A,Zj.c,hG1,hG2,hn,hc,Zx,h1,h2,show ¬r.code<0 by omega,show ¬14<r.code by omega]
    ·simp -implicitDefEqProofs [A,Zj.c,hG1,hG2,hn,hc,hm1,Zx,h1,h2,show ¬r.code<0 by omega,show ¬14<r.code by omega]
  ·simp -implicitDefEqProofs [A,Zj.c,hG1,hG2,h1,h2,show ¬r.code<0 by omega,show 14<r.code by omega]
 ·simp -implicitDefEqProofs [A,Zj.c,hG1,hG2,h1,show r.code<0 by omega]
def Rp {α:Type} (n:Nat) (c:α→List GV) (H:List Blk) (v:AV) (l:List α):Prop :=
 (l=[]∧v = .g .nsl)∨(v = .g (.sl n (l.map c)))∨∃rid g,v = .ms rid g n 0 l.length∧∃h:rid<H.length,H[rid] = .rows n g (l.map c)
theorem Rp.app {α:Type} {n:Nat} {c:α→List GV} {H:List Blk} {v:AV} {l:List α} (h:Rp n c H v l) (o:List Blk):Rp n c (H++o) v l:=by
 rcases h with h | h | ⟨rid,g,h1,h2,h3⟩
 ·exact .inl h
 ·exact .inr (.inl h)
 ·exact .inr (.inr ⟨rid,g,h1,by simp;omega,by rw [List.getElem_append_left h2];exact h3⟩)
theorem Rp.of {α:Type} {n:Nat} {c:α→List GV} {H:List Blk} (s:Sl α):Rp n c H (.g (Sl.g n c s)) s.l:=by
 cases s with
 | nil=>exact .inl ⟨rfl,rfl⟩
 | of l=>exact .inr (.inl rfl)
theorem Rp.leaf {α:Type} {n:Nat} {c:α→List GV} {H:List Blk} {v:AV} {l:List α} (h:Rp n c H v l):v.leaf=true:=by
 rcases h with ⟨_,rfl⟩ | rfl | ⟨rid,g,rfl,_⟩ <;> rfl
theorem Rp.len {α:Type} {n:Nat} {c:α→List GV} {H:List Blk} {v:AV} {l:List α} (h:Rp n c H v l) (t:List (Nat×AV)) (o:List Blk):X4 H ⟨t,[],o⟩ v=some l.length:=by
 rcases h with ⟨rfl,rfl⟩ | rfl | ⟨rid,g,rfl,hp,hp2⟩
 ·simp [X4]
 ·simp [X4]
 ·simp -implicitDefEqProofs [X4,hp,hp2,Zp,orB]
def rc (r:Zj) (v1 v2:AV):List AV:=[I r.code,I r.who,I r.seq,I r.rev,I r.lease,I r.ttl,B r.yes,v1,v2]
theorem Ztl (m:KV) (H:List Blk):EvF tab 75 [A m.c] H=some ⟨B (Ru m),[],[]⟩:=by
 refine Zb t75 (by simp) ?_
 unfold Ru
 have ht:=Nl m.key m.value
 have h1:=Yu m.create
 have h2:=Yu m.mod
 have h3:=Yu m.version
 have h4:=Yu m.lease
 generalize Tl m.key m.value=b0 at ht ⊢
 generalize Z1 m.create=b1 at h1 ⊢
 generalize Z1 m.mod=b2 at h2 ⊢
 generalize Z1 m.version=b3 at h3 ⊢
 generalize Z1 m.lease=b4 at h4 ⊢
 cases b0
 ·simp -implicitDefEqProofs [A,KV.c,ht]
 cases b1
 ·simp -implicitDefEqProofs [A,KV.c,ht,h1]
 cases b2
 ·simp -implicitDefEqProofs [A,KV.c,ht,h1,h2]
 cases b3
 ·simp -implicitDefEqProofs [A,KV.c,ht,h1,h2,h3]
 ·simp -implicitDefEqProofs [A,KV.c,ht,h1,h2,h3,h4]
theorem Zot (r:Zj) (l:List KV) (hl:l.length≤9223372036854775807) {H:List Blk} {v1 v2:AV} (hr:Rp 6 KV.c H v1 l) :
  Ya (EvF tab) H Zjm [1,3] ⟨[(1,.ptr H.length 0),(3,I 0)],[],[.cells (rc r v1 v2)]⟩ =
   some (if Z7 Ru l=true then (.exit 0,⟨[(1,.ptr H.length 0),(3,I l.length),(59,B false)],[],[.cells (rc r v1 v2)]⟩) else (.ret,⟨[(2,B false)],[],[.cells (rc r v1 v2)]⟩)):=by
 refine Y4 (l:=l) Ru (fun k=>⟨[(1,.ptr H.length 0),(3,I k)],[],[.cells (rc r v1 v2)]⟩) _ _ (by simp) (by simp) (fun k x hk hx hy => ?_) (by
  delta Zjm
  rcases hr with ⟨rfl,rfl⟩ | rfl | ⟨rid,g,rfl,hp,hp2⟩
  ·simp -implicitDefEqProofs [rc]
  ·simp -implicitDefEqProofs [rc]
  ·simp -implicitDefEqProofs [rc,hp,hp2,Zp,orB])
 delta Zjm
 have e2:=Zh hk hl
 have h1:=fun H=>Ztl x H
 generalize Ru x=b at h1 ⊢
 simp only [A,KV.c,List.map_cons,List.map_nil] at h1
 rcases hr with ⟨rfl,rfl⟩ | rfl | ⟨rid,g,rfl,hp,hp2⟩
 ·simp at hk
 ·cases b <;> simp -implicitDefEqProofs [rc,hk,hy,KV.c,h1,e2]
 ·cases b <;> simp -implicitDefEqProofs [rc,hk,hy,KV.c,h1,e2,hp,hp2,Zp,orB]
theorem Zou (r:Zj) (l:List Ev) (hl:l.length≤9223372036854775807) {H:List Blk} {v1 v2:AV} (hr:Rp 8 Ev.c H v2 l) :
  Ya (EvF tab) H Zjn [1,4] ⟨[(1,.ptr H.length 0),(4,I 0)],[],[.cells (rc r v1 v2)]⟩ =
   some (if Z7 Mj l=true then (.exit 2,⟨[(1,.ptr H.length 0),(4,I l.length),(73,B false)],[],[.cells (rc r v1 v2)]⟩) else (.ret,⟨[(2,B false)],[],[.cells (rc r v1 v2)]⟩)):=by
 refine Y4 (l:=l) Mj (fun k=>⟨[(1,.ptr H.length 0),(4,I k)],[],[.cells (rc r v1 v2)]⟩) _ _ (by simp) (by simp) (fun k x hk hx hy => ?_) (by
  delta Zjn
  rcases hr with ⟨rfl,rfl⟩ | rfl | ⟨rid,g,rfl,hp,hp2⟩
  ·simp -implicitDefEqProofs [rc]
  ·simp -implicitDefEqProofs [rc]
  ·simp -implicitDefEqProofs [rc,hp,hp2,Zp,orB])
 delta Zjn
 have e2:=Zh hk hl
 have h1:=fun H=>Ztl x.kv H
 have h2:=Yu x.rev
 unfold Mj
 generalize Ru x.kv=b at h1 ⊢
 generalize Z1 x.rev=b2 at h2 ⊢
 simp only [A,KV.c,List.map_cons,List.map_nil] at h1
 rcases hr with ⟨rfl,rfl⟩ | rfl | ⟨rid,g,rfl,hp,hp2⟩
 ·simp at hk
 ·cases b <;> cases b2 <;> simp -implicitDefEqProofs [rc,hk,hy,Ev.c,h1,h2,e2]
 ·cases b <;> cases b2 <;> simp -implicitDefEqProofs [rc,hk,hy,Ev.c,h1,h2,e2,hp,hp2,Zp,orB]
theorem Zev (r:Zj) (w:RP r) {H:List Blk} {v1 v2:AV} (hr1:Rp 6 KV.c H v1 r.kvs.l) (hr2:Rp 8 Ev.c H v2 r.events.l):EvF tab 29 [.agg (rc r v1 v2)] H=some ⟨B (Sj r),[],[]⟩:=by
 have hw1:=Zot r r.kvs.l w.1 (v2:=v2) hr1
 have hw2:=Zou r r.events.l w.2 (v1:=v1) hr2
 have f1:=hr1.leaf
 have f2:=hr2.leaf
 have g1:=hr1.len
 have g2:=hr2.len
 refine Zb t29 (by simp) ?_
 obtain ⟨code,who,seq,rev,lease,ttl,yes,kvs,events⟩:=r
 unfold Sj N1 N3
 simp only at hw1 hw2 g1 g2 ⊢
 have h1:=Yu who
 have h2:=Yu seq
 have h3:=Yu rev
 have h4:=Yu lease
 have h5:=Yu ttl
 rw [show kvs.l.all Ru=Z7 Ru kvs.l from rfl,show events.l.all Mj=Z7 Mj events.l from rfl]
 generalize Z1 who=n1 at h1 ⊢
 generalize Z1 seq=n2 at h2 ⊢
 generalize Z1 rev=n3 at h3 ⊢
 generalize Z1 lease=n4 at h4 ⊢
 generalize Z1 ttl=n5 at h5 ⊢
 generalize Z7 Ru kvs.l=b1 at hw1 ⊢
 generalize Z7 Mj events.l=b2 at hw2 ⊢
 generalize kvs.l.length=l1 at hw1 g1 ⊢
 generalize events.l.length=l2 at hw2 g2 ⊢
 simp only [rc] at hw1 hw2
 by_cases k1:0≤code
 ·by_cases k2:code≤14
  ·have k1':¬code<0:=by omega
   have k2':¬14<code:=by omega
   cases n1
   ·simp -implicitDefEqProofs [rc,f1,f2,h1,k1,k2,k1',k2']
   cases n2
   ·simp -implicitDefEqProofs [rc,f1,f2,h1,h2,k1,k2,k1',k2']
   cases n3
   ·simp -implicitDefEqProofs [rc,f1,f2,h1,h2,h3,k1,k2,k1',k2']
   cases n4
   ·simp -implicitDefEqProofs [rc,f1,f2,h1,h2,h3,h4,k1,k2,k1',k2']
   cases n5
   ·simp -implicitDefEqProofs [rc,f1,f2,h1,h2,h3,h4,h5,k1,k2,k1',k2']
   by_cases k3:l1≤30
   ·have k3':¬(30:Int)<(l1:Int):=by omega
    by_cases k4:l2≤30
    ·have k4':¬(30:Int)<(l2:Int):=by omega
     cases b1 <;> simp only [Bool.false_eq_true,if_true,if_false] at hw1
     ·simp -implicitDefEqProofs [rc,f1,f2,g1,g2,h1,h2,h3,h4,h5,k1,k2,k1',k2',k3,k3',k4,k4',hw1]
     ·cases b2 <;> simp only [Bool.false_eq_true,if_true,if_false] at hw2 <;> simp -implicitDefEqProofs [rc,f1,f2,g1,g2,h1,h2,h3,h4,h5,k1,k2,k1',k2',k3,k3',k4,k4',hw1,hw2]
    ·simp -implicitDefEqProofs [rc,f1,f2,g1,g2,h1,h2,h3,h4,h5,k1,k2,k1',k2',k3,k3',k4,show (30:Int)<(l2:Int) by omega]
   ·simp -implicitDefEqProofs [rc,f1,f2,g1,g2,h1,h2,h3,h4,h5,k1,k2,k1',k2',k3,show (30:Int)<(l1:Int) by omega]
  ·simp -implicitDefEqProofs [rc,f1,f2,k1,k2,show ¬code<0 by omega,show 14<code by omega]
 ·simp -implicitDefEqProofs [rc,f1,f2,k1,show code<0 by omega]
def Ss (x:Zm):Bool:=Sj x.rep&&(decide (x.rep.code=0)&&(decide (x.rep.who=x.who)&&decide (x.rep.seq=x.seq)))
def R4 (L:List Zu) (x:KV):Bool:=decide (x.lease=0)||V1 x.lease L
def Zax (s:Zf):Bool:=decide (0≤s.clock)&&decide (s.clock≤1099511627775)
def Kt (s:Zf):Bool:=T8 s.st&&(Ri s.ls&&(Ox s.ms.l.l s.ms.old.l&&(Zax s&&(Z7 Ss s.ms.l.l&&Z7 (R4 s.ls.l.l) (Y0 s.st)))))
theorem J2 {α:Type} (p:α→Bool) (l:List α) (k:Nat):Ym (fun _ (x:α) (_:Unit)=>if p x=true then .inl () else .inr ()) k l ()=if Z7 p l=true then .inl () else (.inr ():Unit⊕Unit):=Zes p l k
theorem Ztm (s:Zf) (hw:∀x∈s.ms.l.l,RP x.rep) (hl:s.ms.l.l.length≤9223372036854775807) (H:List Blk) :
  ∃o',Ya (EvF tab) H Zc7 [1,34,35,36] ⟨[(1,.ptr H.length 0),(34,.g (MemoL.g s.ms.l)),(35,I s.ms.l.l.length),(36,I 0)],[],[.cells (s.c.map .g)]⟩ =
   some (if Z7 Ss s.ms.l.l=true then (.exit 0,⟨[(1,.ptr H.length 0),(34,.g (MemoL.g s.ms.l)),(35,I s.ms.l.l.length),(36,I s.ms.l.l.length),(37,B false)],[],.cells (s.c.map .g)::o'⟩) else (.ret,⟨[(2,B false)],[],.cells (s.c.map .g)::o'⟩)):=by
 have hq:=Zt (E:=EvF tab) (h:=H) (c:=Zc7) (lv:=[1,34,35,36]) (l:=s.ms.l.l) (β:=Unit) (γ:=Unit) (fun _ _=>True) (fun _ x _=>if Ss x=true then .inl () else .inr ())
  (fun k _ o=>⟨[(1,.ptr H.length 0),(34,.g (MemoL.g s.ms.l)),(35,I s.ms.l.l.length),(36,I k)],[],.cells (s.c.map .g)::o⟩)
  (fun _ o=>(.exit 0,⟨[(1,.ptr H.length 0),(34,.g (MemoL.g s.ms.l)),(35,I s.ms.l.l.length),(36,I s.ms.l.l.length),(37,B false)],[],.cells (s.c.map .g)::o⟩))
  (fun _ o=>(.ret,⟨[(2,B false)],[],.cells (s.c.map .g)::o⟩)) (by simp) (by simp) (fun k x _ o hk hx hy _ => ?_) (fun _ o _=>by delta Zc7;simp -implicitDefEqProofs) () [] trivial
 ·obtain ⟨o',hq⟩:=hq
  refine ⟨o',?_⟩
  rw [J2] at hq
  simp only [Int.ofNat_zero,Int.cast_ofNat_Int] at hq
  rw [hq]
  cases Z7 Ss s.ms.l.l <;> rfl
 ·have e2:=Zh hk hl
  have m1:=fun H=>Zh4 x.rep (hw x (List.mem_of_getElem? hx)) H
  have hO:Ss x=(Sj x.rep&&(decide (x.rep.code=0)&&(decide (x.rep.who=x.who)&&decide (x.rep.seq=x.seq)))):=rfl
  generalize Ss x=b at hO ⊢
  generalize Sj x.rep=b1 at m1 hO
  delta Zc7
  obtain ⟨⟨srev,Y5,Zy,Z3⟩,⟨Y7,ll⟩,⟨ml,mo⟩,clock⟩:=s
  simp only at hk hx hy e2 ⊢
  cases ml with
  | nil=>simp at hk
  | of l =>
  simp only [Sl.l_of] at hk hx hy e2 ⊢
  obtain ⟨xw,xs,r1,r2,r3,r4,r5,r6,r7,r8,r9⟩:=x
  simp only [A,Zj.c,Zf.c,List.map_cons,List.map_nil] at m1 hO ⊢
  cases b1
  ·simp only [Bool.false_and] at hO
   subst hO
   refine ⟨o++[.rows 6 1 [],.rows 8 1 [],.cells ((Zm.c ⟨xw,xs,r1,r2,r3,r4,r5,r6,r7,r8,r9⟩).map .g),.rows 6 1 [],.rows 8 1 [],.cells ((Zj.c ⟨r1,r2,r3,r4,r5,r6,r7,r8,r9⟩).map .g)],?_⟩
   simp -implicitDefEqProofs [m1,hk,hx,hy,e2,Zm.c,Zj.c,List.append_assoc]
  ·by_cases c1:r1=0
   ·subst c1
    by_cases c2:r2=xw
    ·subst c2
     by_cases c3:r3=xs
     ·subst c3
      simp only [decide_true,Bool.and_self] at hO
      subst hO
      simp only [if_true]
      refine ⟨trivial,o++[.rows 6 1 [],.rows 8 1 [],.cells ((Zm.c ⟨r2,r3,0,r2,r3,r4,r5,r6,r7,r8,r9⟩).map .g),.rows 6 1 [],.rows 8 1 [],.cells ((Zj.c ⟨0,r2,r3,r4,r5,r6,r7,r8,r9⟩).map .g)],?_⟩
      simp -implicitDefEqProofs [m1,hk,hx,hy,e2,Zm.c,Zj.c,List.append_assoc]
     ·simp only [c3,decide_true,decide_false,Bool.and_self,Bool.and_false] at hO
      subst hO
      refine ⟨o++[.rows 6 1 [],.rows 8 1 [],.cells ((Zm.c ⟨r2,xs,0,r2,r3,r4,r5,r6,r7,r8,r9⟩).map .g),.rows 6 1 [],.rows 8 1 [],.cells ((Zj.c ⟨0,r2,r3,r4,r5,r6,r7,r8,r9⟩).map .g)],?_⟩
      simp -implicitDefEqProofs [m1,hk,hx,hy,e2,c3,Zm.c,Zj.c,List.append_assoc]
    ·simp only [c2,decide_true,decide_false,Bool.and_self,Bool.and_false,Bool.false_and] at hO
     subst hO
     refine ⟨o++[.rows 6 1 [],.rows 8 1 [],.cells ((Zm.c ⟨xw,xs,0,r2,r3,r4,r5,r6,r7,r8,r9⟩).map .g),.rows 6 1 [],.rows 8 1 [],.cells ((Zj.c ⟨0,r2,r3,r4,r5,r6,r7,r8,r9⟩).map .g)],?_⟩
     simp -implicitDefEqProofs [m1,hk,hx,hy,e2,c2,Zm.c,Zj.c,List.append_assoc]
   ·simp only [c1,decide_false,Bool.and_false,Bool.false_and] at hO
    subst hO
    refine ⟨o++[.rows 6 1 [],.rows 8 1 [],.cells ((Zm.c ⟨xw,xs,r1,r2,r3,r4,r5,r6,r7,r8,r9⟩).map .g),.rows 6 1 [],.rows 8 1 [],.cells ((Zj.c ⟨r1,r2,r3,r4,r5,r6,r7,r8,r9⟩).map .g)],?_⟩
    simp -implicitDefEqProofs [m1,hk,hx,hy,e2,c1,Zm.c,Zj.c,List.append_assoc]
theorem Ztn (x:KV) (s:Zf) (hl:s.ls.l.l.length≤9223372036854775807) {H:List Blk} {p:Nat} (hp:H[p]? = some (.cells (s.c.map .g))):EvF tab 61 [A x.c,.ptr p 0] H=some ⟨B (!R4 s.ls.l.l x),[],[]⟩:=by
 have m1:=fun H=>Zr6 s.ls x.lease hl H
 refine Zb t61 (by simp) ?_
 unfold R4
 have hpl:p<H.length:=(List.getElem?_eq_some_iff.1 hp).1
 have hp2:=(List.getElem?_eq_some_iff.1 hp).2
 have hlv:Zq H p=true:=by unfold Zq;rw [hp];rfl
 generalize V1 x.lease s.ls.l.l=b at m1 ⊢
 simp only [A,Zk.c,Zf.c,List.map_cons,List.map_nil] at m1 hp2 ⊢
 by_cases c1:x.lease=0
 ·simp -implicitDefEqProofs [KV.c,m1,c1]
 ·cases b <;> simp -implicitDefEqProofs [KV.c,m1,c1,hp2,hpl,Zp,orB,hlv]
theorem Zto {α:Type} (p:α→Bool) (l:List α):(l.any fun x => !p x) = !Z7 p l:=by
 unfold Z7
 induction l with
 | nil=>rfl
 | cons x l ih=>simp only [List.any_cons,List.all_cons,ih];cases p x <;> rfl
theorem Zk8 (s:Zf) (w:s.wf) (hm:s.ms.l.l.length+s.ms.old.l.length≤5000) (H:List Blk):EvF tab 24 [A s.c] H=some ⟨B (Kt s),[],[]⟩:=by
 obtain ⟨w1,w2,w3,w4⟩:=w
 have m1:=fun H=>Z3d s.st w1 H
 have m2:=fun H=>Zzf s.ls w2 H
 have m3:=fun H=>Zz1 s.ms w3 hm H
 obtain ⟨o,hq⟩:=Ztm s (fun x hx=>rp (w3.1.1 x hx).2.2) (by omega) H
 by_cases hok:T8 s.st=true
 case neg =>
  rw [Bool.not_eq_true] at hok
  refine Zb t24 (by simp) ?_
  unfold Kt
  rw [hok] at m1 ⊢
  simp only [A,Ze.c,Zf.c,List.map_cons,List.map_nil] at m1 ⊢
  simp -implicitDefEqProofs [m1]
 have hO:=U0.1 hok
 have hs:Z8 s.st:=by have:=hO.bl;have:=hO.ll;unfold Z8;omega
 have m4:=fun H=>Zan s.st hs H
 have hR:(Wr s.st.base s.st.log.l s.st.rev).l=Y0 s.st:=W0 ..
 have m5:=fun o=>V0 (Tb:=tab) (f:=60) (g:=131) (agg:=true) (n:=6) (c:=KV.c) t60 Zzb (fun x=>A x.c) (fun x => !R4 s.ls.l.l x) (.fv 61 [.ptr H.length 0]) (Wr s.st.base s.st.log.l s.st.rev) (by rw [hR];have:=hO.nowLen;omega) (H ++ .cells (s.c.map .g)::o) (fun x=>by simp [A,KV.c]) (fun x _ t=>by
  have h1:=Ztn x s w2.2.2 (H:=H ++ .cells (s.c.map .g)::o) (p:=H.length) (by simp)
  simp -implicitDefEqProofs [h1])
 simp only [hR,Zto] at m5
 change ∀o,EvF tab _ [.g (KVs.g _),_] _=_ at m5
 refine Zb t24 (by simp) ?_
 unfold Kt Zax
 rw [hok] at m1 ⊢
 generalize Ri s.ls=b2 at m2 ⊢
 generalize Ox s.ms.l.l s.ms.old.l=b3 at m3 ⊢
 generalize Z7 Ss s.ms.l.l=b4 at hq ⊢
 generalize Z7 (R4 s.ls.l.l) (Y0 s.st)=b5 at m5 ⊢
 have hv:∀h st,X4 h st (.g (MemoL.g s.ms.l))=some s.ms.l.l.length:=fun h st=>Xa ..
 obtain ⟨⟨srev,Y5,Zy,Z3⟩,⟨Y7,ll⟩,⟨ml,mo⟩,clock⟩:=s
 simp only [A,Ze.c,Zk.c,Zi.c,Zf.c,List.map_cons,List.map_nil] at m1 m2 m3 m4 m5 hv hq ⊢
 generalize KVs.g (Wr Zy Z3.l srev)=G0 at m4 m5
 generalize ml.l.length=n at hv hq
 generalize KVs.g Zy=G1 at m1 m4 m5 hq ⊢
 generalize Evs.g Z3=G2 at m1 m4 m5 hq ⊢
 generalize LeaseL.g ll=G3 at m2 m5 hq ⊢
 generalize MemoL.g ml=G4 at m3 m5 hv hq ⊢
 generalize Floors.g mo=G5 at m3 m5 hq ⊢
 clear hO hs hok
 cases b2
 ·simp -implicitDefEqProofs [m1,m2]
 cases b3
 ·simp -implicitDefEqProofs [m1,m2,m3]
 by_cases c1:0≤clock
 ·by_cases c2:clock≤1099511627775
  ·cases b4
   ·simp only [Bool.false_eq_true,if_false] at hq
    simp -implicitDefEqProofs [m1,m2,m3,hv,hq,c1,c2,show ¬clock<0 by omega,show ¬1099511627775<clock by omega]
   ·simp only [if_true] at hq
    simp -implicitDefEqProofs [m1,m2,m3,m4,m5,hv,hq,c1,c2,show ¬clock<0 by omega,show ¬1099511627775<clock by omega]
  ·simp -implicitDefEqProofs [m1,m2,m3,c1,c2,show ¬clock<0 by omega,show 1099511627775<clock by omega]
 ·simp -implicitDefEqProofs [m1,m2,m3,c1,show clock<0 by omega]
end Go.Proofs.YtndfdnlbljhlgaaGreat
