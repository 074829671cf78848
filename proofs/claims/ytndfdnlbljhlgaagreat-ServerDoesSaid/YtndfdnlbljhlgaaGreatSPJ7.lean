/- Part of the proof: what the functions answer, part 7. No conditions. -/
import Derived.Test.YtndfdnlbljhlgaaGreatSPJ6
import Derived.Test.YtndfdnlbljhlgaaGreatSPJ1
import Derived.Test.YtndfdnlbljhlgaaGreatSPJ4
import Derived.Test.YtndfdnlbljhlgaaGreatSPJ2
set_option linter.defProp false
set_option linter.unusedSimpArgs false
set_option linter.unusedVariables false
set_option maxHeartbeats 8000000
set_option maxRecDepth 20000
namespace Go.Proofs.YtndfdnlbljhlgaaGreat
open Go Go.AM Go.Proofs
theorem Zt4 (s:Sl KV) (p:Bs) (hl:s.l.length≤1000000) (H:List Blk):EvF tab 152 [.g (KVs.g s),T p] H=some ⟨.g (KVs.g (Zz (Q1 s.l p))),[],[]⟩:=by
 refine Zb Ybg (by simp) ?_
 have hw:=Zt (E:=EvF tab) (h:=H) (c:=A5) (lv:=[1,5,8,9,10]) (l:=s.l) (β:=List KV) (γ:=Nat) (fun k r=>r.length≤k) (fun _ x r=>if O5 p x.key=true then .inl (r++[x]) else .inl r)
  (fun k r o=>⟨[(1,T p),(5,.ms (H.length+1) (r.length+1) 6 0 r.length),(8,.g (KVs.g s)),(9,I s.l.length),(10,I k)],[],.rows 6 1 [] :: .rows 6 (r.length+1) (r.map KV.c)::o⟩)
  (fun r o=>(.exit 0,⟨[(1,T p),(5,.ms (H.length+1) (r.length+1) 6 0 r.length),(8,.g (KVs.g s)),(9,I s.l.length),(10,I s.l.length),(11,B false)],[],.rows 6 1 [] :: .rows 6 (r.length+1) (r.map KV.c)::o⟩))
  (fun _ o=>(.ret,⟨[],[],o⟩)) (by simp) (by simp) (fun k x r o hk hx hy hi => ?_) (fun r o _=>by delta A5;simp -implicitDefEqProofs) [] [] (by simp)
 ·obtain ⟨o',hw⟩:=hw
  rw [S0 (fun x:KV=>O5 p x.key)] at hw
  simp only [Wj,List.nil_append,List.map_nil,List.length_nil,Int.ofNat_zero,Int.cast_ofNat_Int,Nat.zero_add] at hw
  rw [show (s.l.filter fun x=>O5 p x.key)=Q1 s.l p from rfl] at hw
  obtain ⟨r,hr⟩:∃r,Q1 s.l p=r:=⟨_,rfl⟩
  rw [hr] at hw ⊢
  cases r with
  | nil=>simp -implicitDefEqProofs [hw,Zz]
  | cons y r =>
   have e1:List.take r.length (List.map KV.c r)=List.map KV.c r:=List.take_of_length_le (by simp)
   simp -implicitDefEqProofs [hw,Zz,e1]
 ·have e2:=Zh hk (by omega)
  have h1:=fun H=>Kw x.key p H
  delta A5
  cases s with
  | nil=>simp at hk
  | of l =>
   simp only [Sl.l_of] at hk hy hl
   have e3:List.take r.length (List.map KV.c r)=List.map KV.c r:=List.take_of_length_le (by simp)
   cases hp0:O5 p x.key
   ·rw [hp0] at h1
    simp only [Bool.false_eq_true,if_false]
    refine ⟨by omega,o++[.cells (x.c.map .g)],?_⟩
    simp -implicitDefEqProofs [hk,hy,KV.c,e2,h1]
   ·rw [hp0] at h1
    simp only [if_true]
    refine ⟨by simp;omega,o++[.cells (x.c.map .g)],?_⟩
    simp -implicitDefEqProofs [hk,hy,KV.c,e2,h1,Yh,room,Nat.not_succ_le_self,Zx,show r.length+1≤140737488355328 by omega,show (r.length+1)*64≤140737488355328 by omega,e3]
def U5 (s:Zf) (p:Zj):Blk := .cells ((s.c++p.c).map .g)
theorem Z0j (s:Zf) (p:Zj) (r:Req) (hs:Z8 s.st) (hn:s.st.base.l.length+s.st.log.l.length≤5000) {H:List Blk} {q:Nat} (hq:H[q]? = some (U5 s p)) :
  EvF tab 100 [.ptr q 0,A r.c] H=some ⟨I (atE s.st r.rev),[(q,U5 s ⟨p.code,p.who,p.seq,s.st.rev,p.lease,p.ttl,p.yes,Zz (Q1 (atR s.st r.rev).l r.key),p.events⟩)],[]⟩:=by
 have hpl:q<H.length:=(List.getElem?_eq_some_iff.1 hq).1
 have hp2:=(List.getElem?_eq_some_iff.1 hq).2
 have hlv:∀o,Zq (H++o) q=true:=fun o=>by unfold Zq;rw [List.getElem?_append_left hpl,hq];rfl
 have hla:(atR s.st r.rev).l.length≤1000000:=by
  unfold atR
  split
  ·rw [W0];have:=Vp (atV s.st r.rev) s.st.log.l s.st.base.l;omega
  ·simp
 have m1:=fun H=>Z51 s.st r.rev hs H
 have m2:=fun H=>Zt4 (atR s.st r.rev) r.key hla H
 refine Zb Z95 (by simp) ?_
 unfold U5 at hp2 ⊢
 generalize atE s.st r.rev=e at m1 ⊢
 generalize Zz (Q1 (atR s.st r.rev).l r.key)=F at m2 ⊢
 generalize atR s.st r.rev=N at m1 m2
 obtain ⟨⟨srev,Y5,Zy,Z3⟩,⟨Y7,ll⟩,⟨ml,mo⟩,clock⟩:=s
 obtain ⟨p1,p2,p3,p4,p5,p6,p7,p8,p9⟩:=p
 obtain ⟨W9,Tw,Tx,Wz,Ty,Xu,Xv,Tr,Tz,Xw,X1,X2,X3⟩:=r
 simp only [A,Ze.c,Zf.c,Zj.c,Req.c,List.map_cons,List.map_nil,List.cons_append,List.nil_append] at m1 m2 hp2 ⊢
 simp -implicitDefEqProofs [m1,m2,hp2,hpl,hlv,Zp,Z2,orB]
theorem Zt5 (s:Zf) (p:Zj) (r:Req) (h:SOk s.st) {H:List Blk} {q:Nat} (hq:H[q]? = some (U5 s p)) :
  EvF tab 102 [.ptr q 0,A r.c] H=some ⟨I (Vw s.st r.key r.rev 30).2.2,[(q,U5 s ⟨p.code,p.who,p.seq,(Vw s.st r.key r.rev 30).2.1,p.lease,p.ttl,p.yes,p.kvs,Zz (Vw s.st r.key r.rev 30).1⟩)],[]⟩:=by
 have hpl:q<H.length:=(List.getElem?_eq_some_iff.1 hq).1
 have hp2:=(List.getElem?_eq_some_iff.1 hq).2
 have hlv:∀o,Zq (H++o) q=true:=fun o=>by unfold Zq;rw [List.getElem?_append_left hpl,hq];rfl
 have hb:=h.bl
 have hg:=h.ll
 have m1:=fun H=>Zt3 s.st r.key r.rev 30 (by unfold Z8;omega) (by have:=h.low0;have:=h.lowr;omega) (by have:=h.revM;omega) h.srt H
 refine Zb Z97 (by simp) ?_
 unfold U5 at hp2 ⊢
 generalize Zz (Vw s.st r.key r.rev 30).1=F at m1 ⊢
 generalize (Vw s.st r.key r.rev 30).2.1=n at m1 ⊢
 generalize (Vw s.st r.key r.rev 30).2.2=e at m1 ⊢
 obtain ⟨⟨srev,Y5,Zy,Z3⟩,⟨Y7,ll⟩,⟨ml,mo⟩,clock⟩:=s
 obtain ⟨p1,p2,p3,p4,p5,p6,p7,p8,p9⟩:=p
 obtain ⟨W9,Tw,Tx,Wz,Ty,Xu,Xv,Tr,Tz,Xw,X1,X2,X3⟩:=r
 simp only [A,Ze.c,Zf.c,Zj.c,Req.c,List.map_cons,List.map_nil,List.cons_append,List.nil_append] at m1 hp2 ⊢
 simp -implicitDefEqProofs [m1,hp2,hpl,hlv,Zp,Z2,orB]
theorem Zt6 (s:Zf) (p:Zj) (r:Req) (w:s.ls.wf) {H:List Blk} {q:Nat} (hq:H[q]? = some (U5 s p)) :
  EvF tab 103 [.ptr q 0,A r.c] H=some ⟨I (Vf s.ls r.ttl s.clock),[(q,U5 ⟨s.st,Ta s.ls r.ttl s.clock,s.ms,s.clock⟩ ⟨p.code,p.who,p.seq,p.rev,So s.ls r.ttl s.clock,r.ttl,p.yes,p.kvs,p.events⟩)],[]⟩:=by
 have hpl:q<H.length:=(List.getElem?_eq_some_iff.1 hq).1
 have hp2:=(List.getElem?_eq_some_iff.1 hq).2
 have hlv:∀o,Zq (H++o) q=true:=fun o=>by unfold Zq;rw [List.getElem?_append_left hpl,hq];rfl
 have m1:=fun H=>Zr5 s.ls r.ttl s.clock w H
 refine Zb Z98 (by simp) ?_
 unfold U5 at hp2 ⊢
 generalize Ta s.ls r.ttl s.clock=L at m1 ⊢
 generalize So s.ls r.ttl s.clock=n at m1 ⊢
 generalize Vf s.ls r.ttl s.clock=e at m1 ⊢
 obtain ⟨⟨srev,Y5,Zy,Z3⟩,⟨Y7,ll⟩,⟨ml,mo⟩,clock⟩:=s
 obtain ⟨p1,p2,p3,p4,p5,p6,p7,p8,p9⟩:=p
 obtain ⟨W9,Tw,Tx,Wz,Ty,Xu,Xv,Tr,Tz,Xw,X1,X2,X3⟩:=r
 obtain ⟨Ln,Ll⟩:=L
 simp only [A,Zk.c,Zf.c,Zj.c,Req.c,List.map_cons,List.map_nil,List.cons_append,List.nil_append] at m1 hp2 ⊢
 simp -implicitDefEqProofs [m1,hp2,hpl,hlv,Zp,Z2,orB,Yf,show ¬q=H.length by omega,show ¬q=H.length+1 by omega,show ¬H.length+1=q by omega,show ¬H.length=q by omega]
theorem Z0k (s:Zf) (p:Zj) (r:Req) (w:Zad s.ls) {H:List Blk} {q:Nat} (hq:H[q]? = some (U5 s p)) :
  EvF tab 104 [.ptr q 0,A r.c] H=some ⟨I (Qd s.ls r.lease s.clock),[(q,U5 ⟨s.st,Qr s.ls r.lease s.clock,s.ms,s.clock⟩ ⟨p.code,p.who,p.seq,p.rev,r.lease,Pz s.ls r.lease s.clock,p.yes,p.kvs,p.events⟩)],[]⟩:=by
 have hpl:q<H.length:=(List.getElem?_eq_some_iff.1 hq).1
 have hp2:=(List.getElem?_eq_some_iff.1 hq).2
 have hlv:∀o,Zq (H++o) q=true:=fun o=>by unfold Zq;rw [List.getElem?_append_left hpl,hq];rfl
 have m1:=fun H=>Zr7 s.ls r.lease s.clock w H
 refine Zb Z99 (by simp) ?_
 unfold U5 at hp2 ⊢
 generalize Qr s.ls r.lease s.clock=L at m1 ⊢
 generalize Pz s.ls r.lease s.clock=n at m1 ⊢
 generalize Qd s.ls r.lease s.clock=e at m1 ⊢
 obtain ⟨⟨srev,Y5,Zy,Z3⟩,⟨Y7,ll⟩,⟨ml,mo⟩,clock⟩:=s
 obtain ⟨p1,p2,p3,p4,p5,p6,p7,p8,p9⟩:=p
 obtain ⟨W9,Tw,Tx,Wz,Ty,Xu,Xv,Tr,Tz,Xw,X1,X2,X3⟩:=r
 obtain ⟨Ln,Ll⟩:=L
 simp only [A,Zk.c,Zf.c,Zj.c,Req.c,List.map_cons,List.map_nil,List.cons_append,List.nil_append] at m1 hp2 ⊢
 simp -implicitDefEqProofs [m1,hp2,hpl,hlv,Zp,Z2,orB,Yf,show ¬q=H.length by omega,show ¬q=H.length+1 by omega,show ¬H.length+1=q by omega,show ¬H.length=q by omega]
theorem Zo4 (s:Zf) (p:Zj) (r:Req) (hf:Fit s) {H:List Blk} {q:Nat} (hq:H[q]? = some (U5 s p)) :
  EvF tab 105 [.ptr q 0,A r.c] H=some ⟨I (Ro s r.lease),[(q,U5 (Vi s r.lease) ⟨p.code,p.who,p.seq,(Vi s r.lease).st.rev,r.lease,p.ttl,p.yes,p.kvs,p.events⟩)],[]⟩:=by
 have hpl:q<H.length:=(List.getElem?_eq_some_iff.1 hq).1
 have hp2:=(List.getElem?_eq_some_iff.1 hq).2
 have hlv:∀o,Zq (H++o) q=true:=fun o=>by unfold Zq;rw [List.getElem?_append_left hpl,hq];rfl
 have m1:=fun H=>Zeq s r.lease hf H
 refine Zb Yaa (by simp) ?_
 unfold U5 at hp2 ⊢
 generalize Vi s r.lease=R at m1 ⊢
 generalize Ro s r.lease=e at m1 ⊢
 obtain ⟨⟨srev,Y5,Zy,Z3⟩,⟨Y7,ll⟩,⟨ml,mo⟩,clock⟩:=s
 obtain ⟨p1,p2,p3,p4,p5,p6,p7,p8,p9⟩:=p
 obtain ⟨W9,Tw,Tx,Wz,Ty,Xu,Xv,Tr,Tz,Xw,X1,X2,X3⟩:=r
 obtain ⟨⟨srev',slow',sbase',slog'⟩,⟨lnext',ll'⟩,⟨ml',mo'⟩,clock'⟩:=R
 simp only [A,Zf.c,Zj.c,Req.c,List.map_cons,List.map_nil,List.cons_append,List.nil_append] at m1 hp2 ⊢
 simp -implicitDefEqProofs [m1,hp2,hpl,hlv,Zp,Z2,orB,Yf,show ¬q=H.length by omega,show ¬q=H.length+1 by omega,show ¬H.length+1=q by omega,show ¬H.length=q by omega]
theorem Zic (s:Zf) (p:Zj) (r:Req) (hs:Z8 s.st) {H:List Blk} {q:Nat} (hq:H[q]? = some (U5 s p)) :
  EvF tab 106 [.ptr q 0,A r.c] H=some ⟨I (Pk s.st r.rev),[(q,U5 ⟨Qf s.st r.rev,s.ls,s.ms,s.clock⟩ ⟨p.code,p.who,p.seq,(Qf s.st r.rev).rev,p.lease,p.ttl,p.yes,p.kvs,p.events⟩)],[]⟩:=by
 have hpl:q<H.length:=(List.getElem?_eq_some_iff.1 hq).1
 have hp2:=(List.getElem?_eq_some_iff.1 hq).2
 have hlv:∀o,Zq (H++o) q=true:=fun o=>by unfold Zq;rw [List.getElem?_append_left hpl,hq];rfl
 have m1:=fun H=>C2 s.st r.rev hs H
 refine Zb Yab (by simp) ?_
 unfold U5 at hp2 ⊢
 generalize Qf s.st r.rev=R at m1 ⊢
 generalize Pk s.st r.rev=e at m1 ⊢
 obtain ⟨⟨srev,Y5,Zy,Z3⟩,⟨Y7,ll⟩,⟨ml,mo⟩,clock⟩:=s
 obtain ⟨p1,p2,p3,p4,p5,p6,p7,p8,p9⟩:=p
 obtain ⟨W9,Tw,Tx,Wz,Ty,Xu,Xv,Tr,Tz,Xw,X1,X2,X3⟩:=r
 obtain ⟨srev',slow',sbase',slog'⟩:=R
 simp only [A,Ze.c,Zf.c,Zj.c,Req.c,List.map_cons,List.map_nil,List.cons_append,List.nil_append] at m1 hp2 ⊢
 simp -implicitDefEqProofs [m1,hp2,hpl,hlv,Zp,Z2,orB,Yf,show ¬q=H.length by omega,show ¬q=H.length+1 by omega,show ¬H.length+1=q by omega,show ¬H.length=q by omega]
theorem Zt7:∃m msg m' msg',tab.T 153=some (Sy 4 48 185 m msg)∧tab.T 185=some (M4 4 48 [.bool false,.str [],.str [],.int .i64 0] m' msg') :=
 ⟨_,_,_,_,Ybh,Yb9⟩
theorem Zid (a b:Sl Mut) (hn:a.l.length+b.l.length≤1000000) (H:List Blk) :
  EvF tab 153 [.g (.sl 1 [[Muts.g a],[Muts.g b]])] H=some ⟨.g (Muts.g (Zz (a.l++b.l))),[],[]⟩:=by
 obtain ⟨m,msg,m',msg',h1,h2⟩:=Zt7
 have:=Qo (c:=Mut.c) h1 h2 a b (by omega) (by omega) H
 rw [Na] at this
 exact this
def Uj (L:List Zu) (m:Mut):Bool:=m.gone||(decide (m.lease=0)||V1 m.lease L)
theorem Ze0 (s:Zf) (p:Zj) (l:List Mut) (hn:l.length≤1000000) (hL:s.ls.l.l.length≤9223372036854775807) (B1:Blk) {H:List Blk} {q:Nat} (hq:H[q]? = some (U5 s p)) :
  ∃o',Ya (EvF tab) H Fu [0,3,18,19,20] ⟨[(0,.ptr q 0),(3,.ptr H.length 0),(18,.g (Muts.g (Zz l))),(19,I l.length),(20,I 0)],[],[B1]⟩ =
   some (if Z7 (Uj s.ls.l.l) l=true then (.exit 0,⟨[(0,.ptr q 0),(3,.ptr H.length 0),(18,.g (Muts.g (Zz l))),(19,I l.length),(20,I l.length),(21,B false)],[],B1::o'⟩) else (.ret,⟨[(4,I 6)],[],B1::o'⟩)):=by
 have hpl:q<H.length:=(List.getElem?_eq_some_iff.1 hq).1
 have hp2:=(List.getElem?_eq_some_iff.1 hq).2
 have hlv:∀o,Zq (H++o) q=true:=fun o=>by unfold Zq;rw [List.getElem?_append_left hpl,hq];rfl
 have hw:=Zt (E:=EvF tab) (h:=H) (c:=Fu) (lv:=[0,3,18,19,20]) (l:=l) (β:=Unit) (γ:=Unit) (fun _ _=>True) (fun _ x _=>if Uj s.ls.l.l x=true then .inl () else .inr ())
  (fun k _ o=>⟨[(0,.ptr q 0),(3,.ptr H.length 0),(18,.g (Muts.g (Zz l))),(19,I l.length),(20,I k)],[],B1::o⟩)
  (fun _ o=>(.exit 0,⟨[(0,.ptr q 0),(3,.ptr H.length 0),(18,.g (Muts.g (Zz l))),(19,I l.length),(20,I l.length),(21,B false)],[],B1::o⟩))
  (fun _ o=>(.ret,⟨[(4,I 6)],[],B1::o⟩)) (by simp) (by simp) (fun k x _ o hk hx hy _ => ?_) (fun _ o _=>by delta Fu;simp -implicitDefEqProofs) () [] trivial
 ·obtain ⟨o',hw⟩:=hw
  refine ⟨o',?_⟩
  rw [J2] at hw
  simp only [Int.ofNat_zero,Int.cast_ofNat_Int] at hw
  rw [hw]
  cases Z7 (Uj s.ls.l.l) l <;> rfl
 ·have e2:=Zh hk (by omega)
  have m1:=fun H=>Zr6 s.ls x.lease hL H
  have hs:Zz l = .of l:=by unfold Zz;rw [if_neg (by intro e;subst e;simp at hk)]
  unfold U5 at hp2
  unfold Uj
  generalize V1 x.lease s.ls.l.l=b at m1 ⊢
  delta Fu
  obtain ⟨⟨srev,Y5,Zy,Z3⟩,⟨Y7,ll⟩,⟨ml,mo⟩,clock⟩:=s
  obtain ⟨p1,p2,p3,p4,p5,p6,p7,p8,p9⟩:=p
  obtain ⟨xg,xk,xv,xl⟩:=x
  simp only [A,Zk.c,Zf.c,Zj.c,List.map_cons,List.map_nil,List.cons_append,List.nil_append] at m1 hp2 ⊢
  rw [hs]
  cases xg
  ·by_cases c1:xl=0
   ·subst c1
    simp only [decide_true,Bool.true_or,Bool.or_true,if_true]
    refine ⟨trivial,o++[.cells ((Mut.c ⟨false,xk,xv,0⟩).map .g)],?_⟩
    simp -implicitDefEqProofs [m1,hk,hx,hy,e2,Mut.c,hp2,hpl,hlv,Zp,orB]
   ·cases b
    ·simp only [c1,decide_false,Bool.or_self,Bool.false_eq_true,if_false]
     refine ⟨o++[.cells ((Mut.c ⟨false,xk,xv,xl⟩).map .g)],?_⟩
     simp -implicitDefEqProofs [m1,hk,hx,hy,e2,Mut.c,c1,hp2,hpl,hlv,Zp,orB]
    ·simp only [c1,Bool.or_true,if_true]
     refine ⟨trivial,o++[.cells ((Mut.c ⟨false,xk,xv,xl⟩).map .g)],?_⟩
     simp -implicitDefEqProofs [m1,hk,hx,hy,e2,Mut.c,c1,hp2,hpl,hlv,Zp,orB]
  ·simp only [Bool.true_or,if_true]
   refine ⟨trivial,o++[.cells ((Mut.c ⟨true,xk,xv,xl⟩).map .g)],?_⟩
   simp -implicitDefEqProofs [m1,hk,hx,hy,e2,Mut.c,hp2,hpl,hlv,Zp,orB]
def Y6 (r:Req):Txn:=⟨r.iff,r.thn,r.els⟩
theorem Zo5 (s:Zf) (p:Zj) (r:Req) (hs:Z8 s.st) (hr:0≤s.st.rev∧s.st.rev≤1099511627774) (w:(Y6 r).wf) (hm:r.thn.l.length+r.els.l.length≤1000000) (hL:s.ls.l.l.length≤9223372036854775807) {H:List Blk} {q:Nat} (hq:H[q]? = some (U5 s p)) :
  EvF tab 101 [.ptr q 0,A r.c] H=some (if Z7 (Uj s.ls.l.l) (r.thn.l++r.els.l)=true then ⟨I (doE s.st (Y6 r)),[(q,U5 ⟨doS s.st (Y6 r),s.ls,s.ms,s.clock⟩ ⟨p.code,p.who,p.seq,(doS s.st (Y6 r)).rev,p.lease,p.ttl,doY s.st (Y6 r),p.kvs,p.events⟩)],[]⟩ else ⟨I 6,[],[]⟩):=by
 have hpl:q<H.length:=(List.getElem?_eq_some_iff.1 hq).1
 have hp2:=(List.getElem?_eq_some_iff.1 hq).2
 have hlv:∀o,Zq (H++o) q=true:=fun o=>by unfold Zq;rw [List.getElem?_append_left hpl,hq];rfl
 have m1:=fun H=>Zid r.thn r.els hm H
 have m2:=fun H=>Z53 s.st (Y6 r) hs (by omega) w H
 obtain ⟨o,hw⟩:=Ze0 s p (r.thn.l++r.els.l) (by simpa using hm) hL (.cells (r.c.map .g)) hq
 have hv:∀h st,X4 h st (.g (Muts.g (Zz (r.thn.l++r.els.l))))=some (r.thn.l++r.els.l).length:=fun h st=>by rw [Xa,Xz]
 refine Zb Z96 (by simp) ?_
 unfold U5 at hp2 ⊢
 generalize doE s.st (Y6 r)=e at m2 ⊢
 generalize doV s.st (Y6 r)=v at m2
 generalize doY s.st (Y6 r)=y at m2 ⊢
 generalize doS s.st (Y6 r)=S at m2 ⊢
 generalize Z7 (Uj s.ls.l.l) (r.thn.l++r.els.l)=b at hw ⊢
 generalize Muts.g (Zz (r.thn.l++r.els.l))=G0 at m1 hw hv
 generalize (r.thn.l++r.els.l).length=n at hw hv
 obtain ⟨⟨srev,Y5,Zy,Z3⟩,⟨Y7,ll⟩,⟨ml,mo⟩,clock⟩:=s
 obtain ⟨p1,p2,p3,p4,p5,p6,p7,p8,p9⟩:=p
 obtain ⟨W9,Tw,Tx,Wz,Ty,Xu,Xv,Tr,Tz,Xw,X1,X2,X3⟩:=r
 obtain ⟨srev',slow',sbase',slog'⟩:=S
 simp only [A,Ze.c,Txn.c,Y6,Zf.c,Zj.c,Req.c,List.map_cons,List.map_nil,List.cons_append,List.nil_append] at m1 m2 hp2 hw ⊢
 cases b
 ·simp only [Bool.false_eq_true,if_false] at hw ⊢
  simp -implicitDefEqProofs [m1,hv,hw,hp2,hpl,hlv,Zp,Z2,orB,Zx]
 ·simp only [if_true] at hw ⊢
  simp -implicitDefEqProofs [m1,m2,hv,hw,hp2,hpl,hlv,Zp,Z2,orB,Yf,Zx,List.append_assoc,show ¬H.length+(o.length+1)=q by omega,show ¬q=H.length+(o.length+1) by omega,show ¬q=H.length by omega,show ¬q=H.length+1 by omega,show ¬H.length+1=q by omega,show ¬H.length=q by omega]
def Xc:List (Int×Nat):=[(1,100),(2,101),(3,102),(4,103),(5,104),(6,105),(7,106)]
theorem Zt8 (H:List Blk):EvF tab 46 [] H=some ⟨.mp H.length,[],[.map (Xc.map (kvG GV.fn))]⟩:=by
 refine Zb t46 (by simp) ?_
 have m1:Sa .i (.int .i64 1) (some (.fn 100)) []=some ((Xc.take 1).map (kvG GV.fn)):=Sz GV.fn 1 100 []
 have m2:Sa .i (.int .i64 2) (some (.fn 101)) ((Xc.take 1).map (kvG GV.fn))=some ((Xc.take 2).map (kvG GV.fn)):=Sz GV.fn 2 101 (Xc.take 1)
 have m3:Sa .i (.int .i64 3) (some (.fn 102)) ((Xc.take 2).map (kvG GV.fn))=some ((Xc.take 3).map (kvG GV.fn)):=Sz GV.fn 3 102 (Xc.take 2)
 have m4:Sa .i (.int .i64 4) (some (.fn 103)) ((Xc.take 3).map (kvG GV.fn))=some ((Xc.take 4).map (kvG GV.fn)):=Sz GV.fn 4 103 (Xc.take 3)
 have m5:Sa .i (.int .i64 5) (some (.fn 104)) ((Xc.take 4).map (kvG GV.fn))=some ((Xc.take 5).map (kvG GV.fn)):=Sz GV.fn 5 104 (Xc.take 4)
 have m6:Sa .i (.int .i64 6) (some (.fn 105)) ((Xc.take 5).map (kvG GV.fn))=some ((Xc.take 6).map (kvG GV.fn)):=Sz GV.fn 6 105 (Xc.take 5)
 have m7:Sa .i (.int .i64 7) (some (.fn 106)) ((Xc.take 6).map (kvG GV.fn))=some (Xc.map (kvG GV.fn)):=Sz GV.fn 7 106 (Xc.take 6)
 generalize (Xc.take 1).map (kvG GV.fn)=l1 at m1 m2
 generalize (Xc.take 2).map (kvG GV.fn)=l2 at m2 m3
 generalize (Xc.take 3).map (kvG GV.fn)=l3 at m3 m4
 generalize (Xc.take 4).map (kvG GV.fn)=l4 at m4 m5
 generalize (Xc.take 5).map (kvG GV.fn)=l5 at m5 m6
 generalize (Xc.take 6).map (kvG GV.fn)=l6 at m6 m7
 generalize Xc.map (kvG GV.fn)=l7 at m7 ⊢
 simp -implicitDefEqProofs [m1,m2,m3,m4,m5,m6,m7]
def fnK (k:Int):Option Nat:=Xf k Xc
theorem Zo6 (k:Int):Od true .i (some .nfn) (.int .i64 k) (Xc.map (kvG GV.fn))=some (.tup [.g (((fnK k).map GV.fn).getD .nfn),B (fnK k).isSome]):=by
 rw [Zag];rfl
def Xg (r:Req) (e:Int):Zj:=⟨e,r.who,r.seq,0,0,0,false,.nil,.nil⟩
theorem Zo7 (s:Zf) (r:Req) (e:Int) {H:List Blk} {p q:Nat} (hp:H[p]? = some (.cells (s.c.map .g))) (hq:H[q]? = some (.cells (r.c.map .g))) :
  EvF tab 43 [I e,.ptr p 0,.ptr q 0] H=some ⟨.tup [A s.c,A (Xg r e).c],[],[]⟩:=by
 have hpl:p<H.length:=(List.getElem?_eq_some_iff.1 hp).1
 have hp2:=(List.getElem?_eq_some_iff.1 hp).2
 have hql:q<H.length:=(List.getElem?_eq_some_iff.1 hq).1
 have hq2:=(List.getElem?_eq_some_iff.1 hq).2
 have hlp:∀o,Zq (H++o) p=true:=fun o=>by unfold Zq;rw [List.getElem?_append_left hpl,hp];rfl
 have hlq:∀o,Zq (H++o) q=true:=fun o=>by unfold Zq;rw [List.getElem?_append_left hql,hq];rfl
 refine Zb t43 (by simp) ?_
 unfold Xg
 obtain ⟨⟨srev,Y5,Zy,Z3⟩,⟨Y7,ll⟩,⟨ml,mo⟩,clock⟩:=s
 obtain ⟨W9,Tw,Tx,Wz,Ty,Xu,Xv,Tr,Tz,Xw,X1,X2,X3⟩:=r
 simp only [A,Zf.c,Zj.c,Req.c,List.map_cons,List.map_nil] at hp2 hq2 ⊢
 simp -implicitDefEqProofs [hp2,hq2,hpl,hql,hlp,hlq,Zp,orB,show ¬H.length+5=q by omega,show ¬H.length+5=p by omega]
def Xk (s:Zf) (r:Req):Int×Zf×Zj :=
 if r.kind=1 then (atE s.st r.rev,s,⟨0,r.who,r.seq,s.st.rev,0,0,false,Zz (Q1 (atR s.st r.rev).l r.key),.nil⟩)
 else if r.kind=2 then (if Z7 (Uj s.ls.l.l) (r.thn.l++r.els.l)=true then (doE s.st (Y6 r),⟨doS s.st (Y6 r),s.ls,s.ms,s.clock⟩,⟨0,r.who,r.seq,(doS s.st (Y6 r)).rev,0,0,doY s.st (Y6 r),.nil,.nil⟩) else (6,s,Xg r 0))
 else if r.kind=3 then ((Vw s.st r.key r.rev 30).2.2,s,⟨0,r.who,r.seq,(Vw s.st r.key r.rev 30).2.1,0,0,false,.nil,Zz (Vw s.st r.key r.rev 30).1⟩)
 else if r.kind=4 then (Vf s.ls r.ttl s.clock,⟨s.st,Ta s.ls r.ttl s.clock,s.ms,s.clock⟩,⟨0,r.who,r.seq,0,So s.ls r.ttl s.clock,r.ttl,false,.nil,.nil⟩)
 else if r.kind=5 then (Qd s.ls r.lease s.clock,⟨s.st,Qr s.ls r.lease s.clock,s.ms,s.clock⟩,⟨0,r.who,r.seq,0,r.lease,Pz s.ls r.lease s.clock,false,.nil,.nil⟩)
 else if r.kind=6 then (Ro s r.lease,Vi s r.lease,⟨0,r.who,r.seq,(Vi s r.lease).st.rev,r.lease,0,false,.nil,.nil⟩)
 else if r.kind=7 then (Pk s.st r.rev,⟨Qf s.st r.rev,s.ls,s.ms,s.clock⟩,⟨0,r.who,r.seq,(Qf s.st r.rev).rev,0,0,false,.nil,.nil⟩)
 else (1,s,Xg r 0)
structure Zo8 (s:Zf) (r:Req):Prop where
 srv:Dv s
 mw:s.ms.wf
 ml:s.ms.l.l.length+s.ms.old.l.length≤4000
 rw:r.wf
theorem Zt9 {s:Zf} {r:Req} (h:Zo8 s r) (hm:r.thn.l.length+r.els.l.length≤1000000) {k:Nat} (hk:fnK r.kind=some k) :
  ∃u:Bool,(u=false→(Xk s r).1 ≠ 0)∧∀{H:List Blk} {q:Nat} (hq:H[q]? = some (U5 s (Xg r 0))),EvF tab k [.ptr q 0,A r.c] H=some ⟨I (Xk s r).1,if u=true then [(q,U5 (Xk s r).2.1 (Xk s r).2.2)] else [],[]⟩:=by
 have hf:=h.srv.fit
 have h1:=hf.sz
 have hs:Z8 s.st:=by unfold Z8;omega
 unfold fnK Xc at hk
 unfold Xk
 by_cases c1:r.kind=1
 ·simp only [c1,Xf,if_true,Option.some.injEq] at hk ⊢
  subst hk
  exact ⟨true,(fun e=>by cases e),fun hq=>Z0j s (Xg r 0) r hs h1 hq⟩
 by_cases c2:r.kind=2
 ·simp [c2,Xf] at hk
  subst hk
  simp only [c2,show ¬(2:Int)=1 by omega,if_true,if_false]
  have:=fun {H:List Blk} {q:Nat} (hq:H[q]? = some (U5 s (Xg r 0)))=>Zo5 s (Xg r 0) r hs hf.rev ⟨h.rw.2.2.2.2.2.2.2.2.2.1,h.rw.2.2.2.2.2.2.2.2.2.2.1,h.rw.2.2.2.2.2.2.2.2.2.2.2⟩ hm (by have:=hf.ls;omega) hq
  by_cases hh:Z7 (Uj s.ls.l.l) (r.thn.l++r.els.l)=true
  ·simp only [if_pos hh] at this ⊢
   exact ⟨true,(fun e=>by cases e),fun hq=>this hq⟩
  ·simp only [if_neg hh] at this ⊢
   exact ⟨false,(fun _=>by simp),fun hq=>this hq⟩
 by_cases c3:r.kind=3
 ·simp [c3,Xf] at hk
  subst hk
  simp only [c3,show ¬(3:Int)=1 by omega,show ¬(3:Int)=2 by omega,if_true,if_false]
  exact ⟨true,(fun e=>by cases e),fun hq=>Zt5 s (Xg r 0) r h.srv.st hq⟩
 by_cases c4:r.kind=4
 ·simp [c4,Xf] at hk
  subst hk
  simp only [c4,show ¬(4:Int)=1 by omega,show ¬(4:Int)=2 by omega,show ¬(4:Int)=3 by omega,if_true,if_false]
  exact ⟨true,(fun e=>by cases e),fun hq=>Zt6 s (Xg r 0) r (Zhb h.srv.ls) hq⟩
 by_cases c5:r.kind=5
 ·simp [c5,Xf] at hk
  subst hk
  simp only [c5,show ¬(5:Int)=1 by omega,show ¬(5:Int)=2 by omega,show ¬(5:Int)=3 by omega,show ¬(5:Int)=4 by omega,if_true,if_false]
  exact ⟨true,(fun e=>by cases e),fun hq=>Z0k s (Xg r 0) r (Cp h.srv.ls) hq⟩
 by_cases c6:r.kind=6
 ·simp [c6,Xf] at hk
  subst hk
  simp only [c6,show ¬(6:Int)=1 by omega,show ¬(6:Int)=2 by omega,show ¬(6:Int)=3 by omega,show ¬(6:Int)=4 by omega,show ¬(6:Int)=5 by omega,if_true,if_false]
  exact ⟨true,(fun e=>by cases e),fun hq=>Zo4 s (Xg r 0) r hf hq⟩
 by_cases c7:r.kind=7
 ·simp [c7,Xf] at hk
  subst hk
  simp only [c7,show ¬(7:Int)=1 by omega,show ¬(7:Int)=2 by omega,show ¬(7:Int)=3 by omega,show ¬(7:Int)=4 by omega,show ¬(7:Int)=5 by omega,show ¬(7:Int)=6 by omega,if_true,if_false]
  exact ⟨true,(fun e=>by cases e),fun hq=>Zic s (Xg r 0) r hs hq⟩
 ·exfalso
  simp [Xf,Ne.symm c1,Ne.symm c2,Ne.symm c3,Ne.symm c4,Ne.symm c5,Ne.symm c6,Ne.symm c7] at hk
def doP (s:Zf) (r:Req):Zf×Zj :=
 if Tm r=true then
  if r.once=true∧(Yn s.ms.l.l s.ms.old.l r.who r.seq).2.1=true then (s,(Yn s.ms.l.l s.ms.old.l r.who r.seq).1)
  else if r.once=true∧(Yn s.ms.l.l s.ms.old.l r.who r.seq).2.2 ≠ 0 then (s,Xg r (Yn s.ms.l.l s.ms.old.l r.who r.seq).2.2)
  else if (Xk s r).1 ≠ 0 then (s,Xg r (Xk s r).1)
  else if r.once=true then (⟨(Xk s r).2.1.st,(Xk s r).2.1.ls,X6 (Xk s r).2.1.ms r.who r.seq (Xk s r).2.2,(Xk s r).2.1.clock⟩,(Xk s r).2.2)
  else ((Xk s r).2.1,(Xk s r).2.2)
 else (s,Xg r 1)
theorem Zo9 {r:Req} (h:Tm r=true):r.iff.l.length≤4∧r.thn.l.length≤4∧r.els.l.length≤4:=by
 unfold Tm J1 Rr at h
 simp only [Bool.and_eq_true,decide_eq_true_eq] at h
 exact ⟨h.1.1.2.1,h.1.2.1,h.2.1⟩
theorem Ge (s:Zf) (r:Req):(Xk s r).2.1.ms=s.ms:=by
 unfold Xk
 repeat' split
 all_goals first | rfl | exact (Ku s r.lease).2
theorem Ze1 {s:Zf} {r:Req} (h:fnK r.kind=none):Xk s r=(1,s,Xg r 0):=by
 unfold fnK Xc at h
 simp only [Xf] at h
 repeat (split at h;· cases h)
 unfold Xk
 simp_all [Ne.symm,eq_comm]
theorem Po {s:Zf} {r:Req} (h:Zo8 s r) (H:List Blk):EvF tab 17 [A s.c,A r.c] H=some ⟨.tup [A (doP s r).1.c,A (doP s r).2.c],[],[]⟩:=by
 have m1:=fun H=>Zoq r (rl h.rw) H
 have mR:=fun e b=>Zo7 s r e (H:=H ++ .cells (s.c.map .g) :: .cells (r.c.map .g)::b) (p:=H.length) (q:=H.length+1) (by rw [List.getElem?_append_right (by omega),Nat.sub_self];rfl) (by rw [List.getElem?_append_right (by omega),Nat.add_sub_cancel_left];rfl)
 have m2:=fun H=>Zkt s.ms r.who r.seq h.mw (by have:=h.ml;omega) H
 have m3:=fun H=>Zt8 H
 have m4:=Zo6 r.kind
 have hz:=Zaj s.ms.l.l s.ms.old.l r.who r.seq
 refine Zb t17 (by simp) ?_
 unfold doP
 by_cases hok:Tm r=true
 case neg =>
  rw [Bool.not_eq_true] at hok
  rw [hok] at m1 ⊢
  simp only [Bool.false_eq_true,if_false]
  obtain ⟨⟨srev,Y5,Zy,Z3⟩,⟨Y7,ll⟩,⟨ml,mo⟩,clock⟩:=s
  obtain ⟨W9,Tw,Tx,Wz,Ty,Xu,Xv,Tr,Tz,Xw,X1,X2,X3⟩:=r
  simp only [A,Xg,Zf.c,Req.c,Zj.c,KVs.g,Evs.g,Sl.g_nil,List.map_cons,List.map_nil] at m1 mR ⊢
  generalize Sl.g 6 KV.c Zy=G1 at mR ⊢
  generalize Sl.g 8 Ev.c Z3=G2 at mR ⊢
  generalize LeaseL.g ll=G3 at mR ⊢
  generalize MemoL.g ml=G4 at mR ⊢
  generalize Floors.g mo=G5 at mR ⊢
  generalize Cmps.g X1=R1 at m1 mR ⊢
  generalize Muts.g X2=R2 at m1 mR ⊢
  generalize Muts.g X3=R3 at m1 mR ⊢
  simp -implicitDefEqProofs [m1,mR]
 have hl:=Zo9 hok
 rw [if_pos hok]
 rw [hok] at m1
 obtain ⟨⟨lr,li,le⟩,hlk⟩:∃v,Yn s.ms.l.l s.ms.old.l r.who r.seq=v:=⟨_,rfl⟩
 rw [hlk] at m2 hz ⊢
 simp only at m2 hz ⊢
 cases honce:r.once with
 | true =>
  cases li with
  | true =>
   have:=hz rfl
   subst this
   simp only [and_self,if_true]
   obtain ⟨⟨srev,Y5,Zy,Z3⟩,⟨Y7,ll⟩,⟨ml,mo⟩,clock⟩:=s
   obtain ⟨W9,Tw,Tx,Wz,Ty,Xu,Xv,Tr,Tz,Xw,X1,X2,X3⟩:=r
   obtain ⟨q1,q2,q3,q4,q5,q6,q7,q8,q9⟩:=lr
   simp only at honce
   subst honce
   simp only [A,Xg,Zf.c,Zi.c,Req.c,Zj.c,KVs.g,Evs.g,Sl.g_nil,List.map_cons,List.map_nil,List.cons_append,List.nil_append] at m1 m2 mR ⊢
   generalize Sl.g 6 KV.c Zy=G1 at mR ⊢
   generalize Sl.g 8 Ev.c Z3=G2 at mR ⊢
   generalize LeaseL.g ll=G3 at mR ⊢
   generalize MemoL.g ml=G4 at m2 mR ⊢
   generalize Floors.g mo=G5 at m2 mR ⊢
   generalize Cmps.g X1=R1 at m1 mR ⊢
   generalize Muts.g X2=R2 at m1 mR ⊢
   generalize Muts.g X3=R3 at m1 mR ⊢
   generalize Sl.g 6 KV.c q8=G11 at m2 ⊢
   generalize Sl.g 8 Ev.c q9=G12 at m2 ⊢
   simp -implicitDefEqProofs [m1,m2,mR]
  | false =>
  by_cases hle:le=0
  case neg =>
   simp only [Bool.false_eq_true,and_false,if_false,hle,ne_eq,not_false_eq_true,and_self,if_true]
   obtain ⟨⟨srev,Y5,Zy,Z3⟩,⟨Y7,ll⟩,⟨ml,mo⟩,clock⟩:=s
   obtain ⟨W9,Tw,Tx,Wz,Ty,Xu,Xv,Tr,Tz,Xw,X1,X2,X3⟩:=r
   obtain ⟨q1,q2,q3,q4,q5,q6,q7,q8,q9⟩:=lr
   simp only at honce
   subst honce
   simp only [A,Xg,Zf.c,Zi.c,Req.c,Zj.c,KVs.g,Evs.g,Sl.g_nil,List.map_cons,List.map_nil,List.cons_append,List.nil_append] at m1 m2 mR ⊢
   generalize Sl.g 6 KV.c Zy=G1 at mR ⊢
   generalize Sl.g 8 Ev.c Z3=G2 at mR ⊢
   generalize LeaseL.g ll=G3 at mR ⊢
   generalize MemoL.g ml=G4 at m2 mR ⊢
   generalize Floors.g mo=G5 at m2 mR ⊢
   generalize Cmps.g X1=R1 at m1 mR ⊢
   generalize Muts.g X2=R2 at m1 mR ⊢
   generalize Muts.g X3=R3 at m1 mR ⊢
   generalize Sl.g 6 KV.c q8=G11 at m2 ⊢
   generalize Sl.g 8 Ev.c q9=G12 at m2 ⊢
   simp -implicitDefEqProofs [m1,m2,mR,hle]
  subst hle
  simp only [Bool.false_eq_true,and_false,if_false,ne_eq,not_true_eq_false]
  have hms:=Ge s r
  have mK:=fun H=>Zkv s.ms r.who r.seq (Xk s r).2.2 h.mw (by have:=h.ml;omega) H
  cases hk:fnK r.kind with
  | none =>
   have ha:=Ze1 (s:=s) hk
   rw [ha]
   rw [hk] at m4
   simp only [Option.map_none,Option.getD_none,Option.isSome_none] at m4
   clear h hms mK ha hk
   obtain ⟨⟨srev,Y5,Zy,Z3⟩,⟨Y7,ll⟩,⟨ml,mo⟩,clock⟩:=s
   obtain ⟨W9,Tw,Tx,Wz,Ty,Xu,Xv,Tr,Tz,Xw,X1,X2,X3⟩:=r
   simp only at honce
   subst honce
   simp only [A,Xg,Zf.c,Zi.c,Req.c,Zj.c,KVs.g,Evs.g,Sl.g_nil,List.map_cons,List.map_nil,List.cons_append,List.nil_append] at m1 m2 mR ⊢
   generalize hG1:Sl.g 6 KV.c Zy=G1 at mR ⊢
   generalize hG2:Sl.g 8 Ev.c Z3=G2 at mR ⊢
   generalize hG3:LeaseL.g ll=G3 at mR ⊢
   generalize hG4:MemoL.g ml=G4 at m2 mR ⊢
   generalize hG5:Floors.g mo=G5 at m2 mR ⊢
   generalize Cmps.g X1=R1 at m1 mR ⊢
   generalize Muts.g X2=R2 at m1 mR ⊢
   generalize Muts.g X3=R3 at m1 mR ⊢
   simp -implicitDefEqProofs [m1,m2,m3,m4,mR,hG1,hG2,hG3,hG4,hG5,Zf.c,Zj.c]
  | some k =>
  obtain ⟨u,hu,hA⟩:=Zt9 h (by omega) hk
  rw [hk] at m4
  simp only [Option.map_some,Option.getD_some,Option.isSome_some] at m4
  clear h
  generalize hkm:X6 s.ms r.who r.seq (Xk s r).2.2=KM at mK
  generalize Ek s.ms r.who r.seq=KE at mK
  generalize Xk s r=ar at *
  obtain ⟨e,s',p'⟩:=ar
  simp only at hms hu hA mK hkm ⊢
  rw [hms,hkm]
  have hA2:=fun b2 b3 b4 b5 b6 b7 b8 b9 b10 b11 b12 b13 b14=>hA (H:=H++[.cells (s.c.map .g),.cells (r.c.map .g),b2,b3,b4,b5,b6,b7,b8,b9,b10,b11,b12,b13,b14,U5 s (Xg r 0)]) (q:=H.length+15) (by rw [List.getElem?_append_right (by omega),Nat.add_sub_cancel_left];rfl)
  clear hA
  obtain ⟨⟨srev,Y5,Zy,Z3⟩,⟨Y7,ll⟩,⟨ml,mo⟩,clock⟩:=s
  obtain ⟨W9,Tw,Tx,Wz,Ty,Xu,Xv,Tr,Tz,Xw,X1,X2,X3⟩:=r
  obtain ⟨⟨srev',slow',sbase',slog'⟩,⟨lnext',ll'⟩,⟨ml',mo'⟩,clock'⟩:=s'
  obtain ⟨q1,q2,q3,q4,q5,q6,q7,q8,q9⟩:=p'
  obtain ⟨km,ko⟩:=KM
  simp only at honce hms
  subst honce
  cases hms
  simp only [A,U5,Xg,Zf.c,Ze.c,Zk.c,Zi.c,Req.c,Zj.c,KVs.g,Evs.g,Sl.g_nil,List.map_cons,List.map_nil,List.cons_append,List.nil_append] at m1 m2 mR hA2 mK ⊢
  generalize hG1:Sl.g 6 KV.c Zy=G1 at mR hA2 ⊢
  generalize hG2:Sl.g 8 Ev.c Z3=G2 at mR hA2 ⊢
  generalize hG3:LeaseL.g ll=G3 at mR hA2 ⊢
  generalize hG4:MemoL.g ml=G4 at m2 mR hA2 mK ⊢
  generalize hG5:Floors.g mo=G5 at m2 mR hA2 mK ⊢
  generalize Cmps.g X1=R1 at m1 mR hA2 ⊢
  generalize Muts.g X2=R2 at m1 mR hA2 ⊢
  generalize Muts.g X3=R3 at m1 mR hA2 ⊢
  generalize hG6:Sl.g 6 KV.c sbase'=G6 at hA2 ⊢
  generalize hG7:Sl.g 8 Ev.c slog'=G7 at hA2 ⊢
  generalize hG8:LeaseL.g ll'=G8 at hA2 ⊢
  generalize hG9:MemoL.g km=G9 at mK ⊢
  generalize hG10:Floors.g ko=G10 at mK ⊢
  generalize hG11:Sl.g 6 KV.c q8=G11 at hA2 mK ⊢
  generalize hG12:Sl.g 8 Ev.c q9=G12 at hA2 mK ⊢
  by_cases he:e=0
  ·subst he
   have hu1:u=true:=by cases u;exact absurd rfl (hu rfl);rfl
   subst hu1
   simp only [if_true] at hA2
   simp -implicitDefEqProofs [m1,m2,m3,m4,hA2,mK,hG1,hG2,hG3,hG4,hG5,hG6,hG7,hG8,hG9,hG10,hG11,hG12,Zf.c,Zj.c]
  ·cases u
   ·simp only [Bool.false_eq_true,if_false] at hA2
    simp -implicitDefEqProofs [m1,m2,m3,m4,hA2,mR,he,hG1,hG2,hG3,hG4,hG5,Zf.c,Zj.c]
   ·simp only [if_true] at hA2
    simp -implicitDefEqProofs [m1,m2,m3,m4,hA2,mR,he,hG1,hG2,hG3,hG4,hG5,Zf.c,Zj.c]
 | false =>
  simp only [Bool.false_eq_true,false_and,if_false]
  have hms:=Ge s r
  have mK:=fun H=>Zkv s.ms r.who r.seq (Xk s r).2.2 h.mw (by have:=h.ml;omega) H
  cases hk:fnK r.kind with
  | none =>
   have ha:=Ze1 (s:=s) hk
   rw [ha]
   rw [hk] at m4
   simp only [Option.map_none,Option.getD_none,Option.isSome_none] at m4
   clear h hms mK ha hk
   obtain ⟨⟨srev,Y5,Zy,Z3⟩,⟨Y7,ll⟩,⟨ml,mo⟩,clock⟩:=s
   obtain ⟨W9,Tw,Tx,Wz,Ty,Xu,Xv,Tr,Tz,Xw,X1,X2,X3⟩:=r
   simp only at honce
   subst honce
   simp only [A,Xg,Zf.c,Zi.c,Req.c,Zj.c,KVs.g,Evs.g,Sl.g_nil,List.map_cons,List.map_nil,List.cons_append,List.nil_append] at m1 m2 mR ⊢
   generalize hG1:Sl.g 6 KV.c Zy=G1 at mR ⊢
   generalize hG2:Sl.g 8 Ev.c Z3=G2 at mR ⊢
   generalize hG3:LeaseL.g ll=G3 at mR ⊢
   generalize hG4:MemoL.g ml=G4 at m2 mR ⊢
   generalize hG5:Floors.g mo=G5 at m2 mR ⊢
   generalize Cmps.g X1=R1 at m1 mR ⊢
   generalize Muts.g X2=R2 at m1 mR ⊢
   generalize Muts.g X3=R3 at m1 mR ⊢
   simp -implicitDefEqProofs [m1,m2,m3,m4,mR,hG1,hG2,hG3,hG4,hG5,Zf.c,Zj.c]
  | some k =>
  obtain ⟨u,hu,hA⟩:=Zt9 h (by omega) hk
  rw [hk] at m4
  simp only [Option.map_some,Option.getD_some,Option.isSome_some] at m4
  clear h
  generalize hkm:X6 s.ms r.who r.seq (Xk s r).2.2=KM at mK
  generalize Ek s.ms r.who r.seq=KE at mK
  generalize Xk s r=ar at *
  obtain ⟨e,s',p'⟩:=ar
  simp only at hms hu hA mK hkm ⊢
  have hA2:=fun b2 b3 b4 b5 b6 b7 b8 b9 b10 b11=>hA (H:=H++[.cells (s.c.map .g),.cells (r.c.map .g),b2,b3,b4,b5,b6,b7,b8,b9,b10,b11,U5 s (Xg r 0)]) (q:=H.length+12) (by rw [List.getElem?_append_right (by omega),Nat.add_sub_cancel_left];rfl)
  clear hA
  obtain ⟨⟨srev,Y5,Zy,Z3⟩,⟨Y7,ll⟩,⟨ml,mo⟩,clock⟩:=s
  obtain ⟨W9,Tw,Tx,Wz,Ty,Xu,Xv,Tr,Tz,Xw,X1,X2,X3⟩:=r
  obtain ⟨⟨srev',slow',sbase',slog'⟩,⟨lnext',ll'⟩,⟨ml',mo'⟩,clock'⟩:=s'
  obtain ⟨q1,q2,q3,q4,q5,q6,q7,q8,q9⟩:=p'
  obtain ⟨km,ko⟩:=KM
  simp only at honce hms
  subst honce
  cases hms
  simp only [A,U5,Xg,Zf.c,Ze.c,Zk.c,Zi.c,Req.c,Zj.c,KVs.g,Evs.g,Sl.g_nil,List.map_cons,List.map_nil,List.cons_append,List.nil_append] at m1 m2 mR hA2 mK ⊢
  generalize hG1:Sl.g 6 KV.c Zy=G1 at mR hA2 ⊢
  generalize hG2:Sl.g 8 Ev.c Z3=G2 at mR hA2 ⊢
  generalize hG3:LeaseL.g ll=G3 at mR hA2 ⊢
  generalize hG4:MemoL.g ml=G4 at m2 mR hA2 mK ⊢
  generalize hG5:Floors.g mo=G5 at m2 mR hA2 mK ⊢
  generalize Cmps.g X1=R1 at m1 mR hA2 ⊢
  generalize Muts.g X2=R2 at m1 mR hA2 ⊢
  generalize Muts.g X3=R3 at m1 mR hA2 ⊢
  generalize hG6:Sl.g 6 KV.c sbase'=G6 at hA2 ⊢
  generalize hG7:Sl.g 8 Ev.c slog'=G7 at hA2 ⊢
  generalize hG8:LeaseL.g ll'=G8 at hA2 ⊢
  generalize hG9:MemoL.g km=G9 at mK ⊢
  generalize hG10:Floors.g ko=G10 at mK ⊢
  generalize hG11:Sl.g 6 KV.c q8=G11 at hA2 mK ⊢
  generalize hG12:Sl.g 8 Ev.c q9=G12 at hA2 mK ⊢
  by_cases he:e=0
  ·subst he
   have hu1:u=true:=by cases u;exact absurd rfl (hu rfl);rfl
   subst hu1
   simp only [if_true] at hA2
   simp -implicitDefEqProofs [m1,m2,m3,m4,hA2,mK,hG1,hG2,hG3,hG4,hG5,hG6,hG7,hG8,hG9,hG10,hG11,hG12,Zf.c,Zj.c]
  ·cases u
   ·simp only [Bool.false_eq_true,if_false] at hA2
    simp -implicitDefEqProofs [m1,m2,m3,m4,hA2,mR,he,hG1,hG2,hG3,hG4,hG5,Zf.c,Zj.c]
   ·simp only [if_true] at hA2
    simp -implicitDefEqProofs [m1,m2,m3,m4,hA2,mR,he,hG1,hG2,hG3,hG4,hG5,Zf.c,Zj.c]
theorem Zua (a b:Zk) (hn:a.next=b.next) (hab:a.l.l=b.l.l) (hl:b.l.l.length≤9223372036854775807) (H:List Blk):EvF tab 39 [A a.c,A b.c] H=some ⟨B true,[],[]⟩:=by
 obtain ⟨n,a⟩:=a
 obtain ⟨n',b⟩:=b
 simp only at hn hab hl
 subst hn
 have hw:Ya (EvF tab) H Zju [2,3,5] ⟨[(2,.ptr H.length 0),(3,.ptr (H.length+1) 0),(5,I 0)],[],[.cells [I n,.g (LeaseL.g a)],.cells [I n,.g (LeaseL.g b)]]⟩ =
   some (.exit 0,⟨[(2,.ptr H.length 0),(3,.ptr (H.length+1) 0),(5,I b.l.length),(24,B false)],[],[.cells [I n,.g (LeaseL.g a)],.cells [I n,.g (LeaseL.g b)]]⟩):=by
  refine Oq b.l.length (fun k=>⟨[(2,.ptr H.length 0),(3,.ptr (H.length+1) 0),(5,I k)],[],[.cells [I n,.g (LeaseL.g a)],.cells [I n,.g (LeaseL.g b)]]⟩) _ (by simp) (fun k hk => ?_) ?_
  ·delta Zju
   have e2:=Zh hk hl
   rcases Sl.both hab with ⟨l,⟨rfl,rfl⟩ | ⟨rfl,rfl,rfl⟩ | ⟨rfl,rfl,rfl⟩ | ⟨rfl,rfl,rfl⟩⟩
   ·simp only [Sl.l_of] at hk
    obtain ⟨x,hx⟩:∃x,l[k]=x:=⟨_,rfl⟩
    simp -implicitDefEqProofs [hk,hx,Zu.c,e2]
   all_goals simp at hk
  ·delta Zju
   rcases Sl.both hab with ⟨l,⟨rfl,rfl⟩ | ⟨rfl,rfl,rfl⟩ | ⟨rfl,rfl,rfl⟩ | ⟨rfl,rfl,rfl⟩⟩ <;> simp -implicitDefEqProofs
 refine Zb t39 (by simp) ?_
 rcases Sl.both hab with ⟨l,⟨rfl,rfl⟩ | ⟨rfl,rfl,rfl⟩ | ⟨rfl,rfl,rfl⟩ | ⟨rfl,rfl,rfl⟩⟩ <;> simp at hw <;> simp -implicitDefEqProofs [A,Zk.c,hw]
theorem Zf.inv {gs:List GV} (h:Wi (.p (.p (.i .i64) (.p (.i .i64) (.p (.sl 6 tKV) (.p (.sl 8 tEv) .u)))) (.p Zjk (.p (.p (.sl 11 (.p (.i .i64) (.p (.i .i64) (.p Zrv .u)))) (.p (.sl 2 (.p (.i .i64) (.p (.i .i64) .u))) .u)) (.p (.i .i64) .u)))) gs):∃x:Zf,x.wf∧gs=x.c:=by
 obtain ⟨_,_,rfl,h1,_,_,rfl,h2,_,_,rfl,⟨_,_,rfl,h3,_,_,rfl,h4,rfl⟩,_,_,rfl,⟨c,rfl,hc⟩,rfl⟩:=h
 obtain ⟨a,wa,rfl⟩:=Ze.inv h1
 obtain ⟨b,wb,rfl⟩:=Zk.inv h2
 obtain ⟨l,l1,l2,rfl⟩:=h3.sl_inv (fun _=>Zm.inv)
 obtain ⟨o,o1,o2,rfl⟩:=h4.sl_inv (fun _=>Zn.inv)
 exact ⟨⟨a,b,⟨l,o⟩,c⟩,⟨wa,wb,⟨⟨l1,l2⟩,o1,o2⟩,hc⟩,by simp [Zf.c,Ze.c,Zk.c]⟩
structure Tn (a b:Zf):Prop where
 st:O1 a.st b.st
 next:a.ls.next=b.ls.next
 ls:a.ls.l.l=b.ls.l.l
 ml:a.ms.l.l=b.ms.l.l
 mo:a.ms.old.l=b.ms.old.l
 ck:a.clock=b.clock
theorem Tn.refl (a:Zf):Tn a a:=⟨⟨rfl,rfl,rfl,rfl⟩,rfl,rfl,rfl,rfl,rfl⟩
theorem Ze2 (a b:Zf) (h:Tn a b) (hs:Z8 b.st) (hl:b.ls.l.l.length≤9223372036854775807) (wm:b.ms.wf) (H:List Blk):EvF tab 14 [A a.c,A b.c] H=some ⟨B true,[],[]⟩:=by
 have m1:=fun H=>Zs7 a.st b.st h.st hs H
 have m2:=fun H=>Zua a.ls b.ls h.next h.ls hl H
 have m3:=fun H=>Zta a.ms b.ms h.ml h.mo wm H
 have hc:=h.ck
 refine Zb t14 (by simp) ?_
 obtain ⟨⟨srev,Y5,Zy,Z3⟩,⟨Y7,ll⟩,⟨ml,mo⟩,clock⟩:=a
 obtain ⟨⟨srev',slow',sbase',slog'⟩,⟨lnext',ll'⟩,⟨ml',mo'⟩,clock'⟩:=b
 simp only at hc
 subst hc
 clear h hs hl wm
 simp only [A,Ze.c,Zk.c,Zi.c,Zf.c,List.map_cons,List.map_nil] at m1 m2 m3 ⊢
 generalize KVs.g Zy=G1 at m1 ⊢
 generalize Evs.g Z3=G2 at m1 ⊢
 generalize LeaseL.g ll=G3 at m2 ⊢
 generalize MemoL.g ml=G4 at m3 ⊢
 generalize Floors.g mo=G5 at m3 ⊢
 generalize KVs.g sbase'=G6 at m1 ⊢
 generalize Evs.g slog'=G7 at m1 ⊢
 generalize LeaseL.g ll'=G8 at m2 ⊢
 generalize MemoL.g ml'=G9 at m3 ⊢
 generalize Floors.g mo'=G10 at m3 ⊢
 simp -implicitDefEqProofs [m1,m2,m3]
def Zpa (s:Zf):Bool:=Zed s.st&&(decide (s.ls.l.l.length≤20)&&Zn9 s.ms)
theorem Z0l (s:Zf) (w:s.wf) (H:List Blk):EvF tab 10 [A s.c] H=some ⟨B (Zpa s),[],[]⟩:=by
 obtain ⟨w1,w2,w3,w4⟩:=w
 have m1:=fun H=>Zzx s.st w1 H
 have m3:=fun H=>Zz3 s.ms w3 H
 refine Zb t10 (by simp) ?_
 have hv:∀h st,X4 h st (.g (LeaseL.g s.ls.l))=some s.ls.l.l.length:=fun h st=>Xa ..
 unfold Zpa
 generalize Zed s.st=b1 at m1 ⊢
 generalize Zn9 s.ms=b3 at m3 ⊢
 generalize s.ls.l.l.length=n at hv ⊢
 obtain ⟨⟨srev,Y5,Zy,Z3⟩,⟨Y7,ll⟩,⟨ml,mo⟩,clock⟩:=s
 simp only [A,Ze.c,Zk.c,Zi.c,Zf.c,List.map_cons,List.map_nil] at m1 m3 hv ⊢
 generalize KVs.g Zy=G1 at m1 ⊢
 generalize Evs.g Z3=G2 at m1 ⊢
 generalize LeaseL.g ll=G3 at hv ⊢
 generalize MemoL.g ml=G4 at m3 ⊢
 generalize Floors.g mo=G5 at m3 ⊢
 cases b1
 ·simp -implicitDefEqProofs [m1]
 ·by_cases c:n≤20
  ·simp -implicitDefEqProofs [m1,m3,hv,c,show (n:Int)≤20 by omega]
  ·simp -implicitDefEqProofs [m1,m3,hv,c,show ¬(n:Int)≤20 by omega]
theorem Bj {s:Zf} (h:Zpa s=true):Zed s.st=true∧s.ls.l.l.length≤20∧s.ms.l.l.length≤40∧s.ms.old.l.length≤20:=by
 unfold Zpa at h
 simp only [Bool.and_eq_true,decide_eq_true_eq] at h
 exact ⟨h.1,h.2.1,Zhs h.2.2⟩
def Ze3 (s:Zf) (r:Req):Bool:=Zpa s&&(Kt s&&Km r)
theorem Zub (s:Zf) (r:Req) (w:s.wf) (wr:r.wf) (H:List Blk):EvF tab 21 [A s.c,A r.c] H=some ⟨B (Ze3 s r),[],[]⟩:=by
 have m1:=fun H=>Z0l s w H
 have m3:=fun H=>Zs5 r wr H
 refine Zb t21 (by simp) ?_
 unfold Ze3
 cases hf:Zpa s
 ·rw [hf] at m1
  obtain ⟨⟨srev,Y5,Zy,Z3⟩,⟨Y7,ll⟩,⟨ml,mo⟩,clock⟩:=s
  obtain ⟨W9,Tw,Tx,Wz,Ty,Xu,Xv,Tr,Tz,Xw,X1,X2,X3⟩:=r
  simp only [A,Zf.c,Req.c,List.map_cons,List.map_nil] at m1 ⊢
  simp -implicitDefEqProofs [m1]
 ·rw [hf] at m1
  obtain ⟨_,_,h1,h2⟩:=Bj hf
  have m2:=fun H=>Ztw s w (by omega) H
  generalize Kt s=b2 at m2 ⊢
  generalize Km r=b3 at m3 ⊢
  obtain ⟨⟨srev,Y5,Zy,Z3⟩,⟨Y7,ll⟩,⟨ml,mo⟩,clock⟩:=s
  obtain ⟨W9,Tw,Tx,Wz,Ty,Xu,Xv,Tr,Tz,Xw,X1,X2,X3⟩:=r
  simp only [A,Zf.c,Req.c,List.map_cons,List.map_nil] at m1 m2 m3 ⊢
  generalize KVs.g Zy=G1 at m1 m2 ⊢
  generalize Evs.g Z3=G2 at m1 m2 ⊢
  generalize LeaseL.g ll=G3 at m1 m2 ⊢
  generalize MemoL.g ml=G4 at m1 m2 ⊢
  generalize Floors.g mo=G5 at m1 m2 ⊢
  generalize Cmps.g X1=R1 at m3 ⊢
  generalize Muts.g X2=R2 at m3 ⊢
  generalize Muts.g X3=R3 at m3 ⊢
  cases b2 <;> simp -implicitDefEqProofs [m1,m2,m3]
structure VOk (s:Zf):Prop where
 st:SOk s.st
 ls:Ri s.ls=true
 ms:Zd2 s.ms.l.l s.ms.old.l
 ck:0≤s.clock∧s.clock≤1099511627775
 rep:∀x∈s.ms.l.l,Ss x=true
 held:∀x∈Y0 s.st,R4 s.ls.l.l x=true
theorem Zuc {s:Zf}:Kt s=true↔VOk s:=by
 unfold Kt Zax
 simp only [Bool.and_eq_true,decide_eq_true_eq,Fo,U0,Cw]
 constructor
 ·rintro ⟨h1,h2,h3,h4,h5,h6⟩;exact ⟨h1,h2,h3,h4,h5,h6⟩
 ·rintro ⟨h1,h2,h3,h4,h5,h6⟩;exact ⟨h1,h2,h3,h4,h5,h6⟩
theorem VOk.srv {s:Zf} (h:VOk s):Dv s:=⟨h.st,h.ls⟩
theorem O6 {a b:Ze} (h:O1 a b) (ms:List Mut):Y9 a ms=Y9 b ms:=by
 obtain ⟨h1,h2,h3,h4⟩:=h
 unfold Y9 Yt
 rw [h1,h3,h4]
theorem Ze4 {a b:Ze} (h:O1 a b) (ms:List Mut):O1 (Xj a ms) (Xj b ms):=by
 have he:=O6 h ms
 have hm:Yt a ms=Yt b ms:=by obtain ⟨h1,h2,h3,h4⟩:=h;unfold Yt;rw [h1,h3,h4]
 unfold Xj Uq
 rw [he,hm]
 obtain ⟨h1,h2,h3,h4⟩:=h
 split
 ·exact ⟨by simp only;rw [h1],h2,h3,by simp only [Sl.l_of];rw [h4]⟩
 ·exact ⟨h1,h2,h3,h4⟩
theorem J7 {a b:Ze} (h:O1 a b):Y0 a=Y0 b:=by
 obtain ⟨h1,h2,h3,h4⟩:=h
 unfold Y0;rw [h1,h3,h4]
theorem Zpb {a b:Ze} (h:O1 a b) (to:Int):Pk a to=Pk b to:=by
 obtain ⟨h1,h2,h3,h4⟩:=h
 unfold Pk;rw [h1,h2]
theorem Zud (to:Int) (l:Sl Ev):(P0 to l).l=Vu to l.l:=by cases l <;> rfl
theorem De {a b:Ze} (h:O1 a b) (to:Int):O1 (N0 a to) (Qf b to):=by
 unfold Qf N0
 rw [Zpb h]
 split
 ·obtain ⟨h1,h2,h3,h4⟩:=h
  exact ⟨h1,rfl,by simp only;rw [U9,W0,h3,h4],by simp only;rw [Xz,Zud,h4]⟩
 ·exact h
def T9 (s:Ze) (d:List Mut):Ze:=if 60<s.log.l.length+d.length then N0 s s.rev else s
def Nr (s:Zf) (id:Int):Int:=if Pd s.ls id=0 then Y9 (T9 s.st (Yq s id)) (Yq s id) else Pd s.ls id
def S3 (s:Zf) (id:Int):Zf:=if Pd s.ls id=0∧Y9 (T9 s.st (Yq s id)) (Yq s id)=0 then ⟨Xj (T9 s.st (Yq s id)) (Yq s id),Qt s.ls id,s.ms,s.clock⟩ else s
theorem S4 {a b:Ze} (h:O1 a b) (d:List Mut):O1 (T9 a d) (Wg b d):=by
 unfold T9 Wg
 rw [h.1,h.2.2.2]
 split
 ·exact De h _
 ·exact h
theorem Bl {a b:Zk} (h:a.l.l=b.l.l) (id:Int):Pd a id=Pd b id:=by unfold Pd;rw [h]
theorem Zpc {a b:Zk} (hn:a.next=b.next) (h:a.l.l=b.l.l) (id:Int):(Qt a id).next=(Qt b id).next∧(Qt a id).l.l=(Qt b id).l.l:=by
 unfold Qt
 rw [h]
 split
 ·exact ⟨hn,rfl⟩
 ·exact ⟨hn,h⟩
theorem Za3 {a b:Zf} (h:Tn a b) (id:Int):Nr a id=Ro b id:=by
 unfold Nr Ro Yq
 rw [Bl h.ls,J7 h.st,O6 (S4 h.st _)]
theorem Ky {a b:Zf} (h:Tn a b) (id:Int):Tn (S3 a id) (Vi b id):=by
 unfold S3 Vi Yq
 rw [Bl h.ls,J7 h.st,O6 (S4 h.st _)]
 split
 ·obtain ⟨e1,e2⟩:=Zpc h.next h.ls id
  exact ⟨Ze4 (S4 h.st _) _,e1,e2,h.ml,h.mo,h.ck⟩
 ·exact h
theorem Fit.same {a b:Zf} (h:Tn a b) (hf:Fit b):Fit a:=by
 obtain ⟨h1,h2,h3,h4⟩:=h.st
 exact ⟨by rw [h3,h4];exact hf.sz,by rw [h1];exact hf.rev,by rw [J7 h.st];exact hf.key,by rw [h.ls];exact hf.ls⟩
theorem Zpd (s:Zf) (id:Int) (hf:Fit s) (H:List Blk):EvF tab 26 [A s.c,I id] H=some ⟨.tup [A (S3 s id).c,I (Nr s id)],[],[]⟩:=by
 have h1:=hf.sz
 have hs:Z8 s.st:=by unfold Z8;omega
 have hnl:(X0 s.st.base s.st.log.l s.st.rev).l=Y0 s.st:=U9 ..
 have hnn:(Y0 s.st).length≤5000:=by have:=Vp s.st.rev s.st.log.l s.st.base.l;unfold Y0;omega
 have m1:=fun H=>Zze s.ls id hf.ls H
 have m2:=fun H=>Kh s.st hs H
 have m3:=fun H=>Zno (X0 s.st.base s.st.log.l s.st.rev) id (by rw [hnl];omega) H
 rw [hnl] at m3
 have m4:=fun H=>Ew s.st s.st.rev hs H
 obtain ⟨a1,a2⟩:=E8 hf (Yq s id)
 obtain ⟨e1,e2,e3,e4⟩:=S4 (a:=s.st) (b:=s.st) ⟨rfl,rfl,rfl,rfl⟩ (Yq s id)
 have hD:(Yq s id).length≤5000:=by have:=Mi (Y0 s.st) id;unfold Yq;omega
 have m5:=fun H=>Cz (T9 s.st (Yq s id)) (Zz (Yq s id)) (by unfold Z8 at a1 ⊢;rw [e3,e4];exact a1) (by rw [e1,a2];have:=hf.rev;omega) (by rw [Xz];exact E7 hf.key) (by rw [Xz];omega) H
 rw [Xz] at m5
 have hl60:T9 s.st (Yq s id)=if 60<s.st.log.l.length+(Yq s id).length then N0 s.st s.st.rev else s.st:=rfl
 refine Zb t26 (by simp) ?_
 unfold S3 Nr
 rw [show Wd (Y0 s.st) id=Yq s id from rfl] at m3
 clear e1 e2 e3 e4
 generalize Yq s id=D at m3 m5 hD hl60 ⊢
 generalize X0 s.st.base s.st.log.l s.st.rev=N at m2 m3
 have w1:IntKind.i64.wrap ((s.st.log.l.length:Int)+(D.length:Int))=(s.st.log.l.length:Int)+(D.length:Int):=wrap_i64 (by omega) (by omega)
 have hv2:∀h st,X4 h st (.g (Muts.g (Zz D)))=some D.length:=fun h st=>by rw [Xa,Xz]
 generalize Y9 (T9 s.st D) D=ae at m5 ⊢
 generalize Tj (T9 s.st D) D=av at m5
 obtain ⟨⟨srev,Y5,Zy,Z3⟩,⟨Y7,ll⟩,⟨ml,mo⟩,clock⟩:=s
 simp only at m1 m2 m3 m4 m5 w1 hl60 h1 ⊢
 have hv1:∀h st,X4 h st (.g (Evs.g Z3))=some Z3.l.length:=fun h st=>Xa ..
 generalize Muts.g (Zz D)=GD at m3 m5 hv2
 generalize Xj (T9 ⟨srev,Y5,Zy,Z3⟩ D) D=P at m5 ⊢
 rw [hl60] at m5
 clear hl60 a1 a2 hf hs hnl hnn
 generalize N0 ⟨srev,Y5,Zy,Z3⟩ srev=Q at m4 m5
 generalize Pd ⟨Y7,ll⟩ id=ee at m1 ⊢
 generalize Qt ⟨Y7,ll⟩ id=L at m1 ⊢
 obtain ⟨Yc6,Yc7,Zfb,Zuu⟩:=P
 obtain ⟨lnext',ll'⟩:=L
 by_cases h60:60<Z3.l.length+D.length
 ·have h60I:(60:Int)<(Z3.l.length:Int)+(D.length:Int):=by omega
  rw [if_pos h60] at m5
  obtain ⟨Z3r,Z3s,Dk,Zik⟩:=Q
  simp only [A,Ze.c,Zk.c,Zf.c,List.map_cons,List.map_nil] at m1 m2 m3 m4 m5 ⊢
  generalize hG1:KVs.g Zy=G1 at m2 m4 m5 ⊢
  generalize hG2:Evs.g Z3=G2 at m2 m4 m5 hv1 ⊢
  generalize hG3:LeaseL.g ll=G3 at m1 ⊢
  generalize hG4:MemoL.g ml=G4
  generalize hG5:Floors.g mo=G5
  generalize KVs.g N=G6 at m2 m3
  generalize KVs.g Dk=G7 at m4 m5
  generalize Evs.g Zik=G8 at m4 m5
  generalize hG9:KVs.g Zfb=G9 at m5 ⊢
  generalize hG10:Evs.g Zuu=G10 at m5 ⊢
  generalize hG11:LeaseL.g ll'=G11 at m1 ⊢
  generalize Evs.g av=G12 at m5
  by_cases he:ee=0
  ·subst he
   by_cases ha:ae=0
   ·subst ha
    simp -implicitDefEqProofs [m1,m2,m3,m4,m5,hv1,hv2,w1,Yf,hG1,hG2,hG3,hG4,hG5,hG9,hG10,hG11,Zf.c,h60I]
   ·simp -implicitDefEqProofs [m1,m2,m3,m4,m5,hv1,hv2,w1,Yf,hG1,hG2,hG3,hG4,hG5,hG9,hG10,hG11,Zf.c,h60I,ha]
  ·simp -implicitDefEqProofs [m1,he,hG1,hG2,hG3,hG4,hG5,Zf.c]
 ·have h60I:¬(60:Int)<(Z3.l.length:Int)+(D.length:Int):=by omega
  rw [if_neg h60] at m5
  obtain ⟨Z3r,Z3s,Dk,Zik⟩:=Q
  simp only [A,Ze.c,Zk.c,Zf.c,List.map_cons,List.map_nil] at m1 m2 m3 m4 m5 ⊢
  generalize hG1:KVs.g Zy=G1 at m2 m4 m5 ⊢
  generalize hG2:Evs.g Z3=G2 at m2 m4 m5 hv1 ⊢
  generalize hG3:LeaseL.g ll=G3 at m1 ⊢
  generalize hG4:MemoL.g ml=G4
  generalize hG5:Floors.g mo=G5
  generalize KVs.g N=G6 at m2 m3
  generalize KVs.g Dk=G7 at m4 m5
  generalize Evs.g Zik=G8 at m4 m5
  generalize hG9:KVs.g Zfb=G9 at m5 ⊢
  generalize hG10:Evs.g Zuu=G10 at m5 ⊢
  generalize hG11:LeaseL.g ll'=G11 at m1 ⊢
  generalize Evs.g av=G12 at m5
  by_cases he:ee=0
  ·subst he
   by_cases ha:ae=0
   ·subst ha
    simp -implicitDefEqProofs [m1,m2,m3,m4,m5,hv1,hv2,w1,Yf,hG1,hG2,hG3,hG4,hG5,hG9,hG10,hG11,Zf.c,h60I]
   ·simp -implicitDefEqProofs [m1,m2,m3,m4,m5,hv1,hv2,w1,Yf,hG1,hG2,hG3,hG4,hG5,hG9,hG10,hG11,Zf.c,h60I,ha]
  ·simp -implicitDefEqProofs [m1,he,hG1,hG2,hG3,hG4,hG5,Zf.c]
theorem Za4 (to:Int) (s:Sl Ev):(P0 to s).l=Vu to s.l:=by cases s <;> rfl
theorem Z0m {s:Ze} (h:SOk s):Qf s s.rev=⟨s.rev,s.rev,Wr s.base s.log.l s.rev,P0 s.rev s.log⟩:=by
 have h0:Pk s s.rev=0:=J0.2 ⟨by have:=h.low0;have:=h.lowr;omega,Int.le_refl _,h.lowr⟩
 unfold Qf
 rw [if_pos h0]
theorem Zie {s:Ze} (h:SOk s) (d:List Mut) (hd:d.length≤60):Y0 (Wg s d)=Y0 s∧(Wg s d).rev=s.rev∧(Wg s d).log.l.length+d.length≤60:=by
 unfold Wg
 split
 ·rw [Z0m h]
  refine ⟨?_,rfl,?_⟩
  ·unfold Y0
   simp only [W0,Za4]
   exact Zep h (Int.le_refl _)
  ·simp only [Za4,Zeo (fun e he=>(h.all e he).2),List.length_nil]
   omega
 ·exact ⟨rfl,rfl,by omega⟩
theorem Zif {l:List KV} (h:Srt l) (p:KV→Bool) (k:Bs):Yv (l.filter p) k=(match Yv l k with | some x=>if p x=true then some x else none | none=>none):=by
 induction l with
 | nil=>rfl
 | cons x l ih =>
  obtain ⟨h1,h2⟩:=Srt.cons.1 h
  have ih:=ih h2
  rw [List.filter_cons,show Yv (x::l) k=if x.key=k then some x else Yv l k from rfl]
  by_cases hk:x.key=k
  ·rw [if_pos hk]
   by_cases hp:p x=true
   ·rw [if_pos hp,show Yv (x::l.filter p) k=if x.key=k then some x else Yv (l.filter p) k from rfl,if_pos hk]
    simp only [hp,if_true]
   ·rw [if_neg hp]
    simp only [hp,if_false]
    refine Kn fun z hz => ?_
    rw [←hk]
    exact (Py (h1 z (List.mem_filter.1 hz).1)).symm
  ·rw [if_neg hk]
   by_cases hp:p x=true
   ·rw [if_pos hp,show Yv (x::l.filter p) k=if x.key=k then some x else Yv (l.filter p) k from rfl,if_neg hk,ih]
   ·rw [if_neg hp,ih]
theorem Zig {l:List KV} (h:Srt l) (id:Int) (h0:id ≠ 0) (k:Bs):Nt (Wd l id) k=(match Yv l k with | some x=>if x.lease=id then some (Ub x) else none | none=>none):=by
 unfold Wd
 rw [if_neg h0]
 induction l with
 | nil=>rfl
 | cons x l ih =>
  obtain ⟨h1,h2⟩:=Srt.cons.1 h
  have ih:=ih h2
  rw [List.filter_cons,show Yv (x::l) k=if x.key=k then some x else Yv l k from rfl]
  by_cases hk:x.key=k
  ·rw [if_pos hk]
   by_cases hp:x.lease=id
   ·rw [if_pos (by simp [V2,hp]),List.map_cons,show Nt (Ub x::(l.filter (V2 id)).map Ub) k=if (Ub x).key=k then some (Ub x) else Nt ((l.filter (V2 id)).map Ub) k from rfl,show (Ub x).key=x.key from rfl,if_pos hk]
    simp only [hp,if_true]
   ·rw [if_neg (by simp [V2,hp])]
    simp only [hp,if_false]
    refine Jz fun z hz => ?_
    obtain ⟨y,hy,rfl⟩:=List.mem_map.1 hz
    show y.key ≠ k
    rw [←hk]
    exact (Py (h1 y (List.mem_filter.1 hy).1)).symm
  ·rw [if_neg hk]
   by_cases hp:x.lease=id
   ·rw [if_pos (by simp [V2,hp]),List.map_cons,show Nt (Ub x::(l.filter (V2 id)).map Ub) k=if (Ub x).key=k then some (Ub x) else Nt ((l.filter (V2 id)).map Ub) k from rfl,show (Ub x).key=x.key from rfl,if_neg hk,ih]
   ·rw [if_neg (by simp [V2,hp]),ih]
theorem Z3k {l m:List KV} (hl:Srt l) (hm:Srt m) (h:∀k,Yv l k=Yv m k):l=m:=by
 have:=Zk3 (fun x=>x) (fun a b e=>by rw [e]) hl hm (fun k=>by rw [h k])
 simpa using this
theorem Zpe {s:Ze} (h:SOk s) {id:Int} (h0:id ≠ 0) (he:Y9 (Wg s (Wd (Y0 s) id)) (Wd (Y0 s) id)=0) :
  Y0 (Xj (Wg s (Wd (Y0 s) id)) (Wd (Y0 s) id))=(Y0 s).filter (fun x => !decide (x.lease=id))∧s.rev≤(Xj (Wg s (Wd (Y0 s) id)) (Wd (Y0 s) id)).rev:=by
 have hd:=Mi (Y0 s) id
 have hn:=h.nowLen
 obtain ⟨a1,a2,a3⟩:=Zie h (Wd (Y0 s) id) (by omega)
 have hso:=E9 h (Wd (Y0 s) id)
 have hg:=h.nowGood.srt
 refine ⟨Z3k (Nk hso _).nowGood.srt (List.Pairwise.sublist List.filter_sublist hg) fun k => ?_,?_⟩
 ·rw [Bc hso he k,a1,Zif hg]
  unfold Zhx
  rw [Zig hg id h0]
  cases Yv (Y0 s) k with
  | none=>rfl
  | some x =>
   simp only
   by_cases hp:x.lease=id
   ·simp [hp,Ub]
   ·simp [hp]
 ·have:=(Bd hso he).1
  rw [this]
  split <;> omega
theorem Zue {L:Zk} (h:Ri L=true) (id j:Int):V1 j (Qt L id).l.l=(V1 j L.l.l && !decide (j=id)):=by
 by_cases hj:j=id
 ·subst hj;rw [Zzh h];simp
 ·simp only [hj,decide_false,Bool.not_false,Bool.and_true]
  unfold Qt
  rcases hp:Xi id 0 L.l.l with _ | i
  ·rfl
  ·simp only [Xz,Ho]
   obtain ⟨hi,hii⟩:=Vg hp
   have e:L.l.l=L.l.l.take i++L.l.l[i]::L.l.l.drop (i+1):=by simp
   have key:(∃x∈L.l.l.take i++L.l.l.drop (i+1),x.id=j)↔∃x∈L.l.l,x.id=j:=by
    constructor
    ·rintro ⟨x,hx,hxj⟩
     rcases List.mem_append.1 hx with hx | hx
     ·exact ⟨x,List.mem_of_mem_take hx,hxj⟩
     ·exact ⟨x,List.mem_of_mem_drop hx,hxj⟩
    ·rintro ⟨x,hx,hxj⟩
     rw [e] at hx
     rcases List.mem_append.1 hx with hx | hx
     ·exact ⟨x,List.mem_append_left _ hx,hxj⟩
     ·rcases List.mem_cons.1 hx with rfl | hx
      ·exact absurd (hxj.symm.trans hii) hj
      ·exact ⟨x,List.mem_append_right _ hx,hxj⟩
   cases hb:V1 j L.l.l
   ·rw [Bool.eq_false_iff]
    intro hc
    have:=V3.2 (key.1 (V3.1 hc))
    rw [hb] at this;cases this
   ·exact V3.2 (key.2 (V3.1 hb))
structure Yde (s t:Zf) (now:Int):Prop where
 due:∀x∈s.ls.l.l,x.till≤now→V1 x.id t.ls.l.l=true→t.st.rev=1099511627774
 stay:∀x∈s.ls.l.l,¬x.till≤now→V1 x.id t.ls.l.l=true
 keys:∀x∈Y0 s.st,(x.lease=0∨V1 x.lease t.ls.l.l=true)↔x∈Y0 t.st
 len:(Y0 t.st).length≤(Y0 s.st).length
theorem Z0n {s:Ze} (h:SOk s) {p:Bs} {rev most:Int} (he:(Vw s p rev most).2.2=0):Dw s rev most=0∧Z1k s p rev most (Vw s p rev most)∧Dw s (Vw s p rev most).2.1 most=0:=by
 by_cases h0:Dw s rev most=0
 ·have e:Vw s p rev most=Kv (ofP s.log.l p rev) most s.rev:=by unfold Vw;rw [if_pos h0]
  rw [e] at he ⊢
  obtain ⟨⟨a1,a2⟩,⟨a3,a4⟩,a5⟩:=Np.1 h0
  have hc:=Z3i h a1 a4 he
  refine ⟨h0,hc,Np.2 ⟨⟨a1,a2⟩,?_,?_⟩⟩
  ·have:=hc.lo;have:=hc.hi;omega
  ·have:=hc.lo;omega
 ·unfold Vw at he;rw [if_neg h0] at he;exact absurd he h0
theorem Ze5 {x:KV} (h:Xe x=true):x.wf:=by
 obtain ⟨p1,p2,⟨p3,p4⟩,⟨p5,p6⟩,p7,p8,p9,p10⟩:=Qz.1 h
 have:=J3 p1
 unfold KV.wf I64 S64
 refine ⟨by omega,by omega,by omega,by omega,by omega,by omega⟩
theorem Zpf {l:List KV} {b:Int} {e:Ev} (hg:Kq l b) (hr:Tg l e=true):Xe e.kv=true:=by
 unfold Tg at hr
 split at hr
 ·rw [Bool.and_eq_true,Ki,Qy,Jx] at hr
  cases hq:Yv l e.kv.key with
  | none=>rw [hq] at hr;cases hr.1
  | some x =>
   rw [hq] at hr
   have:x=e.kv:=hr.2
   rw [←this]
   exact (hg.one x (Tu hq).1).1
 ·rw [Bool.and_eq_true] at hr;exact hr.2
theorem J8 {srev:Int}:∀{log:List Ev} {l:List KV} {last b:Int},Kq l b→b≤last→Wa srev l last log=true→∀e∈log,Xe e.kv=true
 | [],_,_,_,_,_,_,e,he=>by cases he
 | e::log,l,last,b,hg,hb,h,x,hx=>by
  obtain ⟨h1,h2,h3,h4,h5⟩:=Yz.1 h
  rcases List.mem_cons.1 hx with rfl | hx
  ·exact Zpf hg h3
  ·exact J8 (E4 hg (by omega) h3) (Int.le_refl _) h5 x hx
theorem SOk.wf {s:Ze} (h:SOk s):s.wf:=by
 have h1:=h.low0
 have h2:=h.lowr
 have h3:=h.revM
 have h4:=h.bl
 have h5:=h.ll
 unfold Ze.wf
 refine ⟨by unfold I64;omega,by unfold I64;omega,⟨fun x hx=>Ze5 (h.good.one x hx).1,by omega⟩,⟨fun e he => ?_,by omega⟩⟩
 have:=h.all e he
 exact ⟨by unfold I64;omega,Ze5 (J8 h.good (by omega) h.log e he)⟩
theorem Df {srev:Int}:∀{a b:List Ev} {l:List KV} {last:Int},Wa srev l last (a++b)=true→Wa srev l last a=true
 | [],_,_,_,_=>rfl
 | e::a,b,l,last,h=>by
  rw [List.cons_append] at h
  obtain ⟨h1,h2,h3,h4,h5⟩:=Yz.1 h
  exact Yz.2 ⟨h1,h2,h3,h4,Df h5⟩
theorem fold_at {s:Ze} (h:SOk s) (rev:Int) (h1:s.low≤rev):(∀x∈Wy s.base.l s.log.l rev,Xe x=true)∧(Wy s.base.l s.log.l rev).length≤30:=by
 obtain ⟨a,b,e,ha,hb⟩:=O2 rev h.log
 have hl:=h.log
 rw [e] at hl
 have hl:=Df hl
 have hf:Wy s.base.l s.log.l rev=a.foldl Ui s.base.l:=by rw [e,Nh,Rm ha,E3 hb]
 rw [hf]
 exact ⟨fun x hx=>((Pl h.good (by omega) hl rev h1 ha).one x hx).1,Nj h.bl hl⟩
theorem at_one {s:Ze} (h:SOk s) (rev:Int):(∀x∈(atR s rev).l,Xe x=true)∧(atR s rev).l.length≤30:=by
 unfold atR
 split
 ·rename_i he
  rw [W0]
  refine fold_at h _ ?_
  unfold atE at he
  unfold atV
  by_cases h0:rev=0
  ·rw [if_pos h0];exact h.lowr
  ·rw [if_neg h0] at he ⊢
   split at he
   ·omega
   ·split at he
    ·omega
    ·omega
 ·exact ⟨fun x hx=>by simp at hx,by simp⟩
theorem Ze6 {x:KV} (h:Xe x=true):Ru x=true:=by
 obtain ⟨p1,p2,⟨p3,p4⟩,⟨p5,p6⟩,p7,p8,p9,p10⟩:=Qz.1 h
 have:=J3 p1
 unfold Ru Tl Z1
 simp only [Bool.and_eq_true,decide_eq_true_eq]
 omega
theorem Bn {n:Int}:Z1 n=true↔0≤n∧n≤1099511627775:=by simp [Z1]
theorem Zih {l:List KV} (h1:∀x∈l,Xe x=true) (h2:l.length≤30):N1 (Zz l)=true:=by
 unfold N1
 rw [Xz,Bool.and_eq_true,decide_eq_true_eq,List.all_eq_true]
 exact ⟨h2,fun x hx=>Ze6 (h1 x hx)⟩
theorem Bo {l:List KV} {p:Bs}:(∀x∈Q1 l p,x∈l)∧(Q1 l p).length≤l.length:=⟨fun x hx=>(List.mem_filter.1 hx).1,List.length_filter_le ..⟩
theorem Bp {r:Req} (h:Tm r=true):(0≤r.who∧r.who≤1099511627775)∧(0≤r.seq∧r.seq≤1099511627775)∧(0≤r.lease∧r.lease≤1099511627775)∧(0≤r.ttl∧r.ttl≤1099511627775):=by
 unfold Tm Z1 at h
 simp only [Bool.and_eq_true,decide_eq_true_eq] at h
 omega
theorem U2 {code who seq rev lease ttl:Int} {yes:Bool} (h0:0≤code∧code≤14) (h1:0≤who∧who≤1099511627775) (h2:0≤seq∧seq≤1099511627775) (h3:0≤rev∧rev≤1099511627775) (h4:0≤lease∧lease≤1099511627775) (h5:0≤ttl∧ttl≤1099511627775) {kvs:KVs} {evs:Evs} (h6:N1 kvs=true) (h7:N3 evs=true) :
  Sj ⟨code,who,seq,rev,lease,ttl,yes,kvs,evs⟩=true:=by
 unfold Sj
 simp only [Z1,Bool.and_eq_true,decide_eq_true_eq]
 exact ⟨⟨⟨h0,h1,h2,h3,h4,h5⟩,h6⟩,h7⟩
theorem Pq:N1 .nil=true:=by rfl
theorem Pr:N3 .nil=true:=by rfl
theorem Zle {r:Req} (h:Tm r=true) {e:Int} (he:0≤e∧e≤14):Sj (Xg r e)=true:=by
 obtain ⟨h1,h2,h3,h4⟩:=Bp h
 exact U2 he h1 h2 (by omega) (by omega) (by omega) Pq Pr
theorem Z0o {s:Ze} (h:SOk s) (p:Bs) (rev:Int) (he:(Vw s p rev 30).2.2=0):(0≤(Vw s p rev 30).2.1∧(Vw s p rev 30).2.1≤s.rev+1)∧N3 (Zz (Vw s p rev 30).1)=true:=by
 obtain ⟨h1,h2,h3⟩:=Z0n h he
 have h4:=Np.1 h1
 have h5:=h2.lo
 have h6:=h2.hi
 have h7:=h.low0
 have h8:=h.lowr
 have h9:=h.revM
 refine ⟨by omega,?_⟩
 unfold N3
 rw [Xz,Bool.and_eq_true,decide_eq_true_eq,List.all_eq_true]
 refine ⟨by have:=h2.len;omega,fun x hx => ?_⟩
 have hx2:x∈s.log.l:=by
  have:x∈ofP s.log.l p rev:=by rw [h2.split];exact List.mem_append_left _ hx
  exact (Za1.1 this).1
 have h10:=h.all x hx2
 unfold Mj
 rw [Bool.and_eq_true,Bn]
 exact ⟨Ze6 (J8 h.good (by omega) h.log x hx2),by omega⟩
theorem Tv {L:List Zu} {x:KV}:R4 L x=true↔x.lease=0∨V1 x.lease L=true:=by
 unfold R4;simp
theorem Zpg {L:Zk} (t now j:Int) (h:V1 j L.l.l=true):V1 j (Ta L t now).l.l=true:=by
 unfold Ta
 split
 ·obtain ⟨x,hx,hj⟩:=V3.1 h
  exact V3.2 ⟨x,by simp [hx],hj⟩
 ·exact h
theorem Zuf {L:Zk} (id now j:Int) (h:V1 j L.l.l=true):V1 j (Qr L id now).l.l=true:=by
 unfold Qr
 split
 ·rcases hp:Xi id 0 L.l.l with _ | i
  ·exact h
  ·simp only [Sl.l_of]
   obtain ⟨hi,hii⟩:=Vg hp
   obtain ⟨x,hx,hj⟩:=V3.1 h
   obtain ⟨k,hk,rfl⟩:=List.mem_iff_getElem.1 hx
   refine V3.2 ⟨(L.l.l.set i (Hn (L.l.l[i]?.getD default) now))[k]'(by simpa using hk),List.getElem_mem _,?_⟩
   rw [List.getElem_set]
   split
   ·rename_i e
    subst e
    rw [List.getElem?_eq_getElem hk]
    exact hj
   ·exact hj
 ·exact h
theorem Z0p {s:Ze} (h:SOk s) (to:Int):Y0 (Qf s to)=Y0 s:=by
 unfold Qf
 split
 ·rename_i he
  obtain ⟨h1,h2,h3⟩:=J0.1 he
  unfold Y0
  simp only [W0,Za4]
  exact Zep h h2
 ·rfl
theorem Zug {s:Ze} {t:Txn} (h:doE s t=0):doOk t=true∧Y9 s (doL s t).l=0:=by
 unfold doE at h
 split at h
 ·exact ⟨by assumption,h⟩
 ·omega
theorem Z0q {s:Ze} (h:SOk s) (t:Txn):SOk (doS s t):=by
 unfold doS
 split
 ·exact Nk h _
 ·exact h
theorem Z0r {s:Zf} (h:VOk s) {r:Req} (hh:Z7 (Uj s.ls.l.l) (r.thn.l++r.els.l)=true):∀x∈Y0 (doS s.st (Y6 r)),R4 s.ls.l.l x=true:=by
 intro x hx
 unfold doS at hx
 split at hx
 case isFalse=>exact h.held x hx
 by_cases he:Y9 s.st (doL s.st (Y6 r)).l=0
 ·have hsrt:=(Nk h.st (doL s.st (Y6 r)).l).nowGood.srt
  have hg:=Zeh hsrt hx
  rw [Bc h.st he] at hg
  unfold Zhx at hg
  have hm:∀m,Nt (doL s.st (Y6 r)).l x.key=some m→m∈(doL s.st (Y6 r)).l:=by
   generalize (doL s.st (Y6 r)).l=ms
   intro m
   induction ms with
   | nil=>intro hc;cases hc
   | cons y ys ih =>
    intro hc
    unfold Nt at hc
    split at hc
    ·cases hc;simp
    ·exact List.mem_cons_of_mem _ (ih hc)
  cases hq:Nt (doL s.st (Y6 r)).l x.key with
  | none =>
   rw [hq] at hg
   exact h.held x (Tu hg).1
  | some m =>
   rw [hq] at hg
   simp only at hg
   split at hg
   ·cases hg
   ·rename_i hgn
    have hmm:=hm m hq
    have hml:m∈r.thn.l++r.els.l:=by
     unfold doL at hmm
     split at hmm
     ·exact List.mem_append_left _ hmm
     ·exact List.mem_append_right _ hmm
    have:=Fo.1 hh m hml
    unfold Uj at this
    rw [Bool.not_eq_true] at hgn
    rw [hgn,Bool.false_or,Bool.or_eq_true,decide_eq_true_eq] at this
    have hl:x.lease=m.lease:=by
     have:=Option.some.inj hg
     rw [←this]
     unfold O3
     split <;> rfl
    rw [Tv,hl];exact this
 ·have:Xj s.st (doL s.st (Y6 r)).l=s.st:=(Tk (by unfold Uq;simp [he])).1
  rw [this] at hx
  exact h.held x hx
theorem Z3l {s:Zf} (h:VOk s) {r:Req} (hr:Tm r=true) (he:(Xk s r).1=0) :
  SOk (Xk s r).2.1.st∧Ri (Xk s r).2.1.ls=true∧(Xk s r).2.1.clock=s.clock∧(∀x∈Y0 (Xk s r).2.1.st,R4 (Xk s r).2.1.ls.l.l x=true)∧s.st.rev≤(Xk s r).2.1.st.rev ∧
   Sj (Xk s r).2.2=true∧(Xk s r).2.2.code=0∧(Xk s r).2.2.who=r.who∧(Xk s r).2.2.seq=r.seq:=by
 obtain ⟨n1,n2,n3,n4⟩:=Bp hr
 have hrev:0≤s.st.rev∧s.st.rev≤1099511627774:=⟨by have:=h.st.low0;have:=h.st.lowr;omega,h.st.revM⟩
 unfold Xk at he ⊢
 split at he
 ·rename_i c
  simp only [if_pos c]
  obtain ⟨a1,a2⟩:=at_one h.st r.rev
  exact ⟨h.st,h.ls,by trivial,h.held,Int.le_refl _,U2 (by omega) n1 n2 (by omega) (by omega) (by omega) (Zih (fun x hx=>a1 x (Bo.1 x hx)) (Nat.le_trans Bo.2 a2)) Pr,by trivial,by trivial,by trivial⟩
 rename_i c1
 simp only [if_neg c1]
 split at he
 ·rename_i c
  simp only [if_pos c]
  split at he
  ·rename_i hh
   simp only [if_pos hh]
   obtain ⟨d1,d2⟩:=Zug he
   have hs:=Z0q h.st (Y6 r)
   have hrv:s.st.rev≤(doS s.st (Y6 r)).rev:=by
    unfold doS
    rw [if_pos d1,(Bd h.st d2).1]
    split <;> omega
   exact ⟨hs,h.ls,by trivial,Z0r h hh,hrv,U2 (by omega) n1 n2 (by have:=hs.revM;omega) (by omega) (by omega) Pq Pr,by trivial,by trivial,by trivial⟩
  ·simp only at he;omega
 rename_i c2
 simp only [if_neg c2]
 split at he
 ·rename_i c
  simp only [if_pos c]
  obtain ⟨e1,e2⟩:=Z0o h.st r.key r.rev he
  exact ⟨h.st,h.ls,by trivial,h.held,Int.le_refl _,U2 (by omega) n1 n2 (by omega) (by omega) (by omega) Pq e2,by trivial,by trivial,by trivial⟩
 rename_i c3
 simp only [if_neg c3]
 split at he
 ·rename_i c
  simp only [if_pos c]
  have hb:=(Ws.1 (Co h.ls r.ttl s.clock)).1
  have hi:0≤So s.ls r.ttl s.clock∧So s.ls r.ttl s.clock≤1099511627775:=by
   have:=(Ws.1 h.ls).1
   unfold So
   rw [if_pos he]
   unfold Ta at hb
   rw [if_pos he] at hb
   simp only at hb
   omega
  exact ⟨h.st,Co h.ls _ _,by trivial,fun x hx=>Tv.2 ((Tv.1 (h.held x hx)).imp id fun e=>Zpg _ _ _ e),Int.le_refl _,U2 (by omega) n1 n2 (by omega) hi (by omega) Pq Pr,by trivial,by trivial,by trivial⟩
 rename_i c4
 simp only [if_neg c4]
 split at he
 ·rename_i c
  simp only [if_pos c]
  have ht:0≤Pz s.ls r.lease s.clock∧Pz s.ls r.lease s.clock≤1099511627775:=by
   unfold Pz
   split
   ·rcases hp:Xi r.lease 0 s.ls.l.l with _ | i
    ·simp
    ·simp only
     obtain ⟨hi,hii⟩:=Vg hp
     rw [List.getElem?_eq_getElem hi]
     have:=((Ws.1 h.ls).2.2.1 _ (List.getElem_mem hi)).2
     unfold fOk at this
     simp only [Option.getD_some]
     omega
   ·omega
  exact ⟨h.st,Zsa h.ls _ _,by trivial,fun x hx=>Tv.2 ((Tv.1 (h.held x hx)).imp id fun e=>Zuf _ _ _ e),Int.le_refl _,U2 (by omega) n1 n2 (by omega) n3 ht Pq Pr,by trivial,by trivial,by trivial⟩
 rename_i c5
 simp only [if_neg c5]
 split at he
 ·rename_i c
  simp only [if_pos c]
  have hs0:=h.srv.sweep r.lease
  have hE:Pd s.ls r.lease=0:=by
   unfold Ro at he
   split at he
   ·assumption
   ·exact he
  have hA:Y9 (Wg s.st (Yq s r.lease)) (Yq s r.lease)=0:=by
   unfold Ro at he
   rw [if_pos hE] at he;exact he
  have hh:V1 r.lease s.ls.l.l=true:=Z29.1 hE
  have h0:r.lease ≠ 0:=by
   obtain ⟨y,hy,hyi⟩:=V3.1 hh
   have:=((Ws.1 h.ls).2.2.1 y hy).1
   omega
  have hk:=Zpe h.st h0 hA
  have hsw:Vi s r.lease=⟨Xj (Wg s.st (Yq s r.lease)) (Yq s r.lease),Qt s.ls r.lease,s.ms,s.clock⟩:=by unfold Vi;rw [if_pos ⟨hE,hA⟩]
  refine ⟨hs0.st,hs0.ls,(Ku s r.lease).1,fun x hx => ?_,by rw [hsw];exact hk.2,U2 (by omega) n1 n2 (by have:=hs0.st.revM;have:=hs0.st.low0;have:=hs0.st.lowr;omega) n3 (by omega) Pq Pr,by trivial,by trivial,by trivial⟩
  rw [hsw] at hx ⊢
  simp only at hx ⊢
  rw [show Yq s r.lease=Wd (Y0 s.st) r.lease from rfl,hk.1] at hx
  obtain ⟨x1,x2⟩:=List.mem_filter.1 hx
  simp only [Bool.not_eq_true',decide_eq_false_iff_not] at x2
  refine Tv.2 ((Tv.1 (h.held x x1)).imp id fun e => ?_)
  rw [Zue h.ls,e];simp [x2]
 rename_i c6
 simp only [if_neg c6]
 split at he
 ·rename_i c
  simp only [if_pos c]
  have hs:=Zk6 h.st r.rev
  have hrv:(Qf s.st r.rev).rev=s.st.rev:=by unfold Qf;split <;> rfl
  exact ⟨hs,h.ls,by trivial,by rw [Z0p h.st];exact h.held,by rw [hrv];exact Int.le_refl _,U2 (by omega) n1 n2 (by omega) (by omega) (by omega) Pq Pr,by trivial,by trivial,by trivial⟩
 ·simp only at he;omega
theorem Hs (s:Ze) (ms:List Mut):0≤Y9 s ms∧Y9 s ms≤14:=by
 unfold Y9
 repeat' split
 all_goals omega
theorem Zuh (s:Ze) (p:Bs) (rev most:Int):0≤(Vw s p rev most).2.2∧(Vw s p rev most).2.2≤14:=by
 unfold Vw Kv
 split
 ·repeat' split
  all_goals simp
 ·unfold Dw
  simp only
  repeat' split
  all_goals omega
theorem Ze7 (s:Zf) (r:Req):0≤(Xk s r).1∧(Xk s r).1≤14:=by
 unfold Xk
 split
 ·unfold atE;simp only;repeat' split
  all_goals omega
 split
 ·split
  ·unfold doE
   split
   ·exact Hs ..
   ·omega
  ·simp
 split
 ·exact Zuh ..
 split
 ·unfold Vf;simp only;repeat' split
  all_goals omega
 split
 ·unfold Qd;simp only;repeat' split
  all_goals omega
 split
 ·unfold Ro
  simp only
  split
  ·exact Hs ..
  ·unfold Pd;split <;> omega
 split
 ·unfold Pk;simp only;repeat' split
  all_goals omega
 ·simp
theorem Zph (l:List Zm) (old:List Zn) (w q:Int):0≤(Yn l old w q).2.2∧(Yn l old w q).2.2≤14:=by
 unfold Yn
 split
 ·simp
 ·split
  ·simp
  ·split <;> simp
theorem Zui {l:List Zm} {old:List Zn} {w q:Int} (h:(Yn l old w q).2.1=true):∃x∈l,(Yn l old w q).1=x.rep:=by
 unfold Yn at h ⊢
 cases hf:Wx l w q with
 | some x=>exact ⟨x,List.mem_of_find?_eq_some hf,rfl⟩
 | none =>
  exfalso
  rw [hf] at h
  simp only at h
  split at h
  ·simp at h
  ·split at h <;> simp at h
theorem Zlf {x:KV} (h:Ru x=true):x.wf:=by
 unfold Ru Tl Z1 at h
 simp only [Bool.and_eq_true,decide_eq_true_eq] at h
 unfold KV.wf I64 S64
 omega
theorem Kz {p:Zj} (h:Sj p=true):p.wf:=by
 unfold Sj N1 N3 at h
 simp only [Z1,Bool.and_eq_true,decide_eq_true_eq,List.all_eq_true] at h
 obtain ⟨⟨⟨h0,h1,h2,h3,h4,h5⟩,h6,h7⟩,h8,h9⟩:=h
 unfold Zj.wf I64
 refine ⟨by omega,by omega,by omega,by omega,by omega,by omega,⟨fun y hy=>Zlf (h7 y hy),by omega⟩,⟨fun y hy => ?_,by omega⟩⟩
 have:=h9 y hy
 unfold Mj at this
 rw [Bool.and_eq_true,Bn] at this
 exact ⟨by unfold I64;omega,Zlf this.1⟩
theorem Z0s {r:Req} (w:r.wf) {e:Int} (he:0≤e∧e≤14):(Xg r e).wf:=by
 have h1:=w.2.1
 have h2:=w.2.2.1
 unfold Zj.wf Xg
 simp [h1,h2,I64]
 unfold I64 at h1 h2
 omega
structure Big (s:Zf) (n:Nat):Prop where
 v:VOk s
 mw:s.ms.wf
 ml:s.ms.l.l.length≤n
 mo:s.ms.old.l.length≤n
theorem Big.wf {s:Zf} {n:Nat} (h:Big s n):s.wf:=⟨h.v.st.wf,Zhb h.v.ls,h.mw,by have:=h.v.ck;unfold I64;omega⟩
theorem Big.doOk {s:Zf} {n:Nat} (h:Big s n) (hn:n≤1000) {r:Req} (w:r.wf):Zo8 s r:=⟨h.v.srv,h.mw,by have:=h.ml;have:=h.mo;omega,w⟩
theorem Big.mono {s:Zf} {n m:Nat} (h:Big s n) (hn:n≤m):Big s m:=⟨h.v,h.mw,by have:=h.ml;omega,by have:=h.mo;omega⟩
theorem Zuj {m:Zi} {w q:Int} {p:Zj}:∀x∈(X6 m w q p).l.l,x∈m.l.l∨x=⟨w,q,p⟩:=by
 intro x hx
 unfold X6 at hx
 split at hx
 ·exact .inl hx
 ·split at hx
  ·simp only [Sl.l_of,Z5] at hx
   rcases List.mem_append.1 hx with hx | hx
   ·exact .inl hx
   ·exact .inr (by simpa using hx)
  ·simp only [Sl.l_of,Tq] at hx
   have hx:=List.mem_of_mem_eraseIdx hx
   unfold Z5 at hx
   rcases List.mem_append.1 hx with hx | hx
   ·exact .inl hx
   ·exact .inr (by simpa using hx)
structure Z55 (s:Zf) (r:Req) (n:Nat) (t:Zf) (p:Zj):Prop where
 big:Big t (n+1)
 rev:s.st.rev≤t.st.rev
 ck:t.clock=s.clock
 err:p.code ≠ 0→t=s∧p=Xg r p.code
 rep:Tm r=true→Sj p=true
 wf:p.wf
theorem Z0t {s:Zf} {n:Nat} (h:Big s n) (hn:n≤1000) {r:Req} (w:r.wf):Z55 s r n (doP s r).1 (doP s r).2:=by
 have hb:=h.mono (Nat.le_succ n)
 have refuse:∀e,0≤e∧e≤14→(Tm r=true→Sj (Xg r e)=true)→Z55 s r n s (Xg r e):=fun e he hr=>⟨hb,Int.le_refl _,rfl,fun _=>⟨rfl,rfl⟩,hr,Z0s w he⟩
 unfold doP
 by_cases hr:Tm r=true
 case neg=>rw [if_neg hr];exact refuse 1 (by omega) (fun hc=>absurd hc hr)
 rw [if_pos hr]
 by_cases h1:r.once=true∧(Yn s.ms.l.l s.ms.old.l r.who r.seq).2.1=true
 ·rw [if_pos h1]
  obtain ⟨x,hx,he⟩:=Zui h1.2
  have hi:=h.v.rep x hx
  unfold Ss at hi
  simp only [Bool.and_eq_true,decide_eq_true_eq] at hi
  simp only
  rw [he]
  exact ⟨hb,Int.le_refl _,rfl,fun hc=>absurd hi.2.1 hc,fun _=>hi.1,Kz hi.1⟩
 rw [if_neg h1]
 by_cases h2:r.once=true∧(Yn s.ms.l.l s.ms.old.l r.who r.seq).2.2 ≠ 0
 ·rw [if_pos h2]
  have hc:=Zph s.ms.l.l s.ms.old.l r.who r.seq
  exact refuse _ hc (fun hr=>Zle hr hc)
 rw [if_neg h2]
 by_cases h3:(Xk s r).1 ≠ 0
 ·rw [if_pos h3]
  exact refuse _ (Ze7 s r) (fun hr=>Zle hr (Ze7 s r))
 rw [if_neg h3]
 have h3:(Xk s r).1=0:=by omega
 obtain ⟨a1,a2,a3,a4,a5,a6,a7,a8,a9⟩:=Z3l h.v hr h3
 have hms:=Ge s r
 by_cases h4:r.once=true
 ·rw [if_pos h4]
  simp only
  rw [hms]
  have k1:(Yn s.ms.l.l s.ms.old.l r.who r.seq).2.1=false:=by
   cases hq:(Yn s.ms.l.l s.ms.old.l r.who r.seq).2.1
   ·rfl
   ·exact absurd ⟨h4,hq⟩ h1
  have k2:(Yn s.ms.l.l s.ms.old.l r.who r.seq).2.2=0:=by
   by_cases hq:(Yn s.ms.l.l s.ms.old.l r.who r.seq).2.2=0
   ·exact hq
   ·exact absurd ⟨h4,hq⟩ h2
  have hl:=C7 s.ms r.who r.seq (Xk s r).2.2
  have hml:=h.ml
  have hmo:=h.mo
  refine ⟨⟨⟨a1,a2,Zhl _ k1 k2 h.v.ms,by rw [a3];exact h.v.ck,fun x hx => ?_,a4⟩,Ztb h.mw (by omega) w.2.1 w.2.2.1 (Kz a6),by simp only;omega,by simp only;omega⟩,a5,a3,fun hc=>absurd a7 hc,fun _=>a6,Kz a6⟩
  rcases Zuj x hx with hx | rfl
  ·exact h.v.rep x hx
  ·unfold Ss
   simp [a6,a7,a8,a9]
 ·rw [if_neg h4]
  simp only
  refine ⟨⟨⟨a1,a2,by rw [hms];exact h.v.ms,by rw [a3];exact h.v.ck,by rw [hms];exact h.v.rep,a4⟩,by rw [hms];exact h.mw,by rw [hms];have:=h.ml;omega,by rw [hms];have:=h.mo;omega⟩,a5,a3,fun hc=>absurd a7 hc,fun _=>a6,Kz a6⟩
theorem Zpi (l:List Zm) (a2:AV) (w:Int) (hl:l.length≤10000) (ha2:AV.leaf a2=true) {H:List Blk} {id g:Nat} (hid:H[id]? = some (.rows 11 g (l.map Zm.c))) :
  EvF tab 84 [.agg [.ms id g 11 0 l.length,a2],I w] H=some ⟨.g (Ints.g (Zz (Yj l w))),[],[]⟩:=by
 have hlt:id<H.length:=(List.getElem?_eq_some_iff.1 hid).1
 have hidg:H[id] = .rows 11 g (l.map Zm.c):=(List.getElem?_eq_some_iff.1 hid).2
 have hlv:∀o,Zq (H++o) id=true:=fun o=>by unfold Zq;rw [List.getElem?_append_left hlt,hid];rfl
 have hw:=Zt (E:=EvF tab) (h:=H) (c:=Ft) (lv:=[1,2,5,6]) (l:=l) (β:=List Int) (γ:=Unit) (fun k r=>r.length≤k) (fun _ x r => .inl ((fun r (x:Zm)=>if x.who=w then Tp x.seq r else r) r x))
  (fun k r o=>⟨[(1,I w),(2,.ptr H.length 0),(5,Xt (H.length+2) r),(6,I k)],[],[.cells [.ms id g 11 0 l.length,a2],.rows 1 1 [],.rows 1 1 []]⟩)
  (fun r o=>(.exit 0,⟨[(1,I w),(2,.ptr H.length 0),(5,Xt (H.length+2) r),(6,I l.length),(11,B false)],[],[.cells [.ms id g 11 0 l.length,a2],.rows 1 1 [],.rows 1 1 []]⟩))
  (fun n o=>(.ret,⟨[],[],o⟩)) (by simp) (by simp) (fun k x r o hk hx hy hi => ?_) (fun _ o _=>by delta Ft;simp -implicitDefEqProofs [Zp hlt,orB,hid,hidg,hlv]) [] [] (by simp)
 ·obtain ⟨o',hw⟩:=hw
  rw [Tt] at hw
  have hf:∀(l:List Zm) (r:List Int),l.foldl (fun r (x:Zm)=>if x.who=w then Tp x.seq r else r) r=(Xo l w).foldl (fun s n=>Tp n s) r:=by
   intro l
   induction l with
   | nil=>intro r;rfl
   | cons x l ih =>
    intro r
    unfold Xo at ih ⊢
    rw [List.foldl_cons,ih,List.filter_cons]
    by_cases h:x.who=w
    ·simp [h]
    ·simp [h]
  have hs:=Nc (Xo l w) []
  rw [S8,List.nil_append] at hs
  rw [hf,hs] at hw
  rw [show Yx (Xo l w)=Yj l w from rfl] at hw
  simp only [Wj,Int.ofNat_zero,Int.cast_ofNat_Int] at hw
  refine Zb t84 (by simp) ?_
  obtain ⟨r,hr⟩:∃r,Yj l w=r:=⟨_,rfl⟩
  rw [hr] at hw ⊢
  cases r with
  | nil=>simp only [Xt,if_true] at hw;simp -implicitDefEqProofs [hw,Zz]
  | cons y r=>simp only [Xt,reduceCtorEq,if_false,if_true] at hw;simp -implicitDefEqProofs [hw,Zz]
 ·have e2:=Zh hk (by omega)
  have hp:=fun H id (hid:H[id]? = some (Blk.rows 1 1 []))=>Gc r x.seq false (by omega) hid
  have hp2:=fun (b c:Blk)=>hp (H++[b,c,.rows 1 1 []]) (H.length+2) (by rw [List.getElem?_append_right (by omega),Nat.add_sub_cancel_left];rfl)
  have hpl:=Ow false x.seq r
  have hpb:Mb false x.seq r=Tp x.seq r:=rfl
  rw [hpb] at hp2 hpl
  delta Ft
  obtain ⟨xw,xs,x1,x2,x3,x4,x5,x6,x7,x8,x9⟩:=x
  simp only at hp2 hpl ⊢
  by_cases h:xw=w
  ·simp only [h,if_true]
   refine ⟨by omega,o,?_⟩
   generalize Xt (H.length+2) r=S1 at hp2 ⊢
   generalize Xt (H.length+2) (Tp xs r)=S2 at hp2 ⊢
   simp -implicitDefEqProofs [Zp hlt,orB,hid,hidg,hlv,hk,hy,Zm.c,h,e2,hp2]
  ·simp only [h,if_false]
   refine ⟨by omega,o,?_⟩
   simp -implicitDefEqProofs [Zp hlt,orB,hid,hidg,hlv,hk,hy,Zm.c,h,e2]
def P3 (w y:Int) (b:List Zm×Bool) (x:Zm):List Zm×Bool:=if b.2=false∧isP w y x=true then (b.1,true) else (b.1++[x],b.2)
theorem Dg (w y:Int):∀(l r:List Zm),l.foldl (P3 w y) (r,true)=(r++l,true)
 | [],r=>by simp
 | x::l,r=>by
  rw [List.foldl_cons,show P3 w y (r,true) x=(r++[x],true) by simp [P3],Dg w y l];simp
theorem Bq (w y:Int):∀(l r:List Zm),(l.foldl (P3 w y) (r,false)).1=r++Tq l w y
 | [],r=>by simp [Tq]
 | x::l,r=>by
  rw [List.foldl_cons]
  unfold Tq Rk
  by_cases h:isP w y x=true
  ·rw [show P3 w y (r,false) x=(r,true) by simp [P3,h],Dg,if_pos h];simp
  ·rw [show P3 w y (r,false) x=(r++[x],false) by simp [P3,h],Bq w y l,if_neg h]
   simp [Tq]
theorem Br (L:List Zm) (w y:Int) (ys:List Int) (gL:Nat) (a2 p8:AV) (hl:L.length≤10000) {H P:List Blk} (h10:P[10]? = some (.cells [.ms (H.length+11) gL 11 0 L.length,a2])) (h11:P[11]? = some (.rows 11 gL (L.map Zm.c))) :
  Ya (EvF tab) H Zdd [1,8,13,14,15,16,17] ⟨[(1,I w),(8,p8),(13,.ptr (H.length+10) 0),(14,.g (.sl 1 ((y::ys).map Ints.c))),(15,.ms (H.length+P.length) 1 11 0 0),(16,B false),(17,I 0)],[],P++[.rows 11 1 []]⟩ =
   some (.exit 0,⟨[(1,I w),(8,p8),(13,.ptr (H.length+10) 0),(14,.g (.sl 1 ((y::ys).map Ints.c))),(15,.ms (H.length+P.length) ((Tq L w y).length+1) 11 0 (Tq L w y).length),(16,B (L.foldl (P3 w y) ([],false)).2),(17,I L.length),(66,B false)],[],P++[.rows 11 ((Tq L w y).length+1) ((Tq L w y).map Zm.c)]⟩):=by
 have hp10:10<P.length:=(List.getElem?_eq_some_iff.1 h10).1
 have hp11:11<P.length:=(List.getElem?_eq_some_iff.1 h11).1
 have hg10:∀t x,Yp H ⟨t,[],P++[x]⟩ (H.length+10)=some (.cells [.ms (H.length+11) gL 11 0 L.length,a2]):=fun t x=>by
  unfold Yp;rw [if_neg (by omega),Nat.add_sub_cancel_left];simp only;rw [List.getElem?_append_left hp10,h10]
 have hg11:∀t x,Yp H ⟨t,[],P++[x]⟩ (H.length+11)=some (.rows 11 gL (L.map Zm.c)):=fun t x=>by
  unfold Yp;rw [if_neg (by omega),Nat.add_sub_cancel_left];simp only;rw [List.getElem?_append_left hp11,h11]
 have hlv10:∀x,Zq (P++[x]) 10=true:=fun x=>by unfold Zq;rw [List.getElem?_append_left hp10,h10];rfl
 have hlv11:∀x,Zq (P++[x]) 11=true:=fun x=>by unfold Zq;rw [List.getElem?_append_left hp11,h11];rfl
 have hw:=Cj (E:=EvF tab) (h:=H) (c:=Zdd) (lv:=[1,8,13,14,15,16,17]) (l:=L) (β:=List Zm×Bool) (fun k b=>b.1.length≤k) (P3 w y)
  (fun k b=>⟨[(1,I w),(8,p8),(13,.ptr (H.length+10) 0),(14,.g (.sl 1 ((y::ys).map Ints.c))),(15,.ms (H.length+P.length) (b.1.length+1) 11 0 b.1.length),(16,B b.2),(17,I k)],[],P++[.rows 11 (b.1.length+1) (b.1.map Zm.c)]⟩)
  (fun b=>(.exit 0,⟨[(1,I w),(8,p8),(13,.ptr (H.length+10) 0),(14,.g (.sl 1 ((y::ys).map Ints.c))),(15,.ms (H.length+P.length) (b.1.length+1) 11 0 b.1.length),(16,B b.2),(17,I L.length),(66,B false)],[],P++[.rows 11 (b.1.length+1) (b.1.map Zm.c)]⟩)) (by simp) (fun k x b hk hx hy hi => ?_) (fun b _=>by delta Zdd;simp -implicitDefEqProofs [hg10,hg11,hlv10,hlv11]) ([],false) (by simp)
 ·have hf:=Bq w y L []
  rw [List.nil_append] at hf
  rw [hf] at hw
  simpa only [List.map_nil,List.length_nil,Int.ofNat_zero,Int.cast_ofNat_Int,Nat.zero_add] using hw
 ·have e2:=Zh hk (by omega)
  obtain ⟨r,gone⟩:=b
  simp only at hi ⊢
  have hap:=fun (x:Zm) t=>Or (sz:=11) (bytes:=120) (g:=r.length+1) (xs:=r.map Zm.c) (ys:=[x.c]) (by simp) (by simp;omega) (by simp;omega) H t [] P
  simp only [List.length_map,List.length_cons,List.length_nil,Nat.zero_add] at hap
  delta Zdd
  obtain ⟨xw,xs,x1,x2,x3,x4,x5,x6,x7,x8,x9⟩:=x
  have hap:=hap ⟨xw,xs,x1,x2,x3,x4,x5,x6,x7,x8,x9⟩
  simp only [Zm.c] at hap
  unfold P3 isP
  cases gone
  ·by_cases c1:xw=w
   ·subst c1
    by_cases c2:xs=y
    ·simp only [c2,decide_true,Bool.and_self,and_self,if_true]
     refine ⟨by omega,?_⟩
     simp -implicitDefEqProofs [hg10,hg11,hlv10,hlv11,hk,hy,Zm.c,Ints.c,c2,e2]
    ·simp only [c2,decide_true,decide_false,Bool.and_false,Bool.false_eq_true,and_false,if_false]
     refine ⟨by simp;omega,?_⟩
     simp -implicitDefEqProofs [hg10,hg11,hlv10,hlv11,hk,hy,Zm.c,Ints.c,c2,e2,Zx,hap]
   ·simp only [c1,decide_false,Bool.false_and,Bool.false_eq_true,and_false,if_false]
    refine ⟨by simp;omega,?_⟩
    simp -implicitDefEqProofs [hg10,hg11,hlv10,hlv11,hk,hy,Zm.c,Ints.c,c1,e2,Zx,hap]
  ·simp only [Bool.true_eq_false,false_and,if_false]
   refine ⟨by simp;omega,?_⟩
   simp -implicitDefEqProofs [hg10,hg11,hlv10,hlv11,hk,hy,Zm.c,Ints.c,e2,Zx,hap]
theorem Dh (w y:Int):∀(l:List Zn) (k:Nat),(∃(x:Zn) (j:Nat),l[j]? = some x∧x.who=w∧Ym (β:=Unit) (fun k (x:Zn) _=>if x.who=w then .inr k else .inl ()) k l () = .inr (k+j)∧Yy l w y=l.set j ⟨w,max x.seq y⟩) ∨
  (Ym (β:=Unit) (fun k (x:Zn) _=>if x.who=w then (.inr k:Unit⊕Nat) else .inl ()) k l () = .inl ()∧Yy l w y=l++[⟨w,y⟩])
 | [],k => .inr ⟨rfl,rfl⟩
 | f::l,k=>by
  unfold Ym Yy
  by_cases h:f.who=w
  ·exact .inl ⟨f,0,rfl,h,by simp [h],by simp [h]⟩
  ·simp only [h,if_false]
   rcases Dh w y l (k+1) with ⟨x,j,h1,h2,h3,h4⟩ | ⟨h1,h2⟩
   ·exact .inl ⟨x,j+1,by simpa using h1,h2,by rw [h3];congr 1;omega,by rw [h4];rfl⟩
   ·exact .inr ⟨h1,by rw [h2];rfl⟩
theorem Bt (w:Int):∀(l:List Zn) (k:Nat),Ym (β:=Unit) (fun k (x:Zn) _=>if x.who=w then (.inr k:Unit⊕Nat) else .inl ()) k l () = .inl ()→X8 l w=false
 | [],_,_=>rfl
 | f::l,k,h=>by
  unfold Ym at h
  by_cases hf:f.who=w
  ·simp [hf] at h
  ·simp only [hf,if_false] at h
   have:=Bt w l (k+1) h
   unfold X8 at this ⊢
   rw [List.any_cons,this];simp [hf]
theorem Z0u (old:List Zn) (w y:Int) (ys:List Int) (gK nK:Nat) (hl:old.length≤10000) (hne:old ≠ []) (H:List Blk) (b0 b1 b2 b3 b4 b5 b6 b7 b8 b9 b11 b13:Blk) :
  Ya (EvF tab) H Fs [1,8,13,14,18] ⟨[(1,I w),(8,.ptr (H.length+4) 0),(13,.ptr (H.length+10) 0),(14,.g (.sl 1 ((y::ys).map Ints.c))),(18,I 0)],[],[b0,b1,b2,b3,.cells [.ms (H.length+2) 1 11 0 0,.ms (H.length+3) 1 2 0 0],b5,b6,b7,b8,b9,.cells [.ms (H.length+13) gK 11 0 nK,.ms (H.length+12) 2 2 0 old.length],b11,.rows 2 2 (old.map Zn.c),b13]⟩ =
   some (if X8 old w=true then (.ret,⟨[(8,.ptr (H.length+4) 0),(9,I 0)],[],[b0,b1,b2,b3,.cells [.ms (H.length+13) gK 11 0 nK,.ms (H.length+12) 2 2 0 old.length],b5,b6,b7,b8,b9,.cells [.ms (H.length+13) gK 11 0 nK,.ms (H.length+12) 2 2 0 old.length],b11,.rows 2 2 ((Yy old w y).map Zn.c),b13]⟩)
    else (.exit 2,⟨[(1,I w),(8,.ptr (H.length+4) 0),(13,.ptr (H.length+10) 0),(14,.g (.sl 1 ((y::ys).map Ints.c))),(18,I old.length),(107,B false)],[],[b0,b1,b2,b3,.cells [.ms (H.length+2) 1 11 0 0,.ms (H.length+3) 1 2 0 0],b5,b6,b7,b8,b9,.cells [.ms (H.length+13) gK 11 0 nK,.ms (H.length+12) 2 2 0 old.length],b11,.rows 2 2 (old.map Zn.c),b13]⟩)):=by
 have hw:=Zt (E:=EvF tab) (h:=H) (c:=Fs) (lv:=[1,8,13,14,18]) (l:=old) (β:=Unit) (γ:=Nat) (fun _ _=>True) (fun k x _=>if x.who=w then .inr k else .inl ())
  (fun k _ _=>⟨[(1,I w),(8,.ptr (H.length+4) 0),(13,.ptr (H.length+10) 0),(14,.g (.sl 1 ((y::ys).map Ints.c))),(18,I k)],[],[b0,b1,b2,b3,.cells [.ms (H.length+2) 1 11 0 0,.ms (H.length+3) 1 2 0 0],b5,b6,b7,b8,b9,.cells [.ms (H.length+13) gK 11 0 nK,.ms (H.length+12) 2 2 0 old.length],b11,.rows 2 2 (old.map Zn.c),b13]⟩)
  (fun _ _=>(.exit 2,⟨[(1,I w),(8,.ptr (H.length+4) 0),(13,.ptr (H.length+10) 0),(14,.g (.sl 1 ((y::ys).map Ints.c))),(18,I old.length),(107,B false)],[],[b0,b1,b2,b3,.cells [.ms (H.length+2) 1 11 0 0,.ms (H.length+3) 1 2 0 0],b5,b6,b7,b8,b9,.cells [.ms (H.length+13) gK 11 0 nK,.ms (H.length+12) 2 2 0 old.length],b11,.rows 2 2 (old.map Zn.c),b13]⟩))
  (fun j _=>(.ret,⟨[(8,.ptr (H.length+4) 0),(9,I 0)],[],[b0,b1,b2,b3,.cells [.ms (H.length+13) gK 11 0 nK,.ms (H.length+12) 2 2 0 old.length],b5,b6,b7,b8,b9,.cells [.ms (H.length+13) gK 11 0 nK,.ms (H.length+12) 2 2 0 old.length],b11,.rows 2 2 ((old.set j ⟨w,max ((old[j]?.getD ⟨0,0⟩).seq) y⟩).map Zn.c),b13]⟩)) (by simp) (by simp) (fun k x b o hk hx hy _ => ?_) (fun _ o _=>by delta Fs;simp -implicitDefEqProofs) () [] trivial
 ·obtain ⟨o',hw⟩:=hw
  simp only [Int.ofNat_zero,Int.cast_ofNat_Int] at hw
  rw [hw]
  rcases Dh w y old 0 with ⟨x,j,h1,h2,h3,h4⟩ | ⟨h1,h2⟩
  ·have hh:X8 old w=true:=by unfold X8;rw [List.any_eq_true];exact ⟨x,List.mem_of_getElem? h1,by simpa using h2⟩
   rw [h3,if_pos hh,Nat.zero_add,h4]
   simp only [Wj,h1,Option.getD_some]
  ·have hh:X8 old w=false:=Bt w old 0 h1
   rw [h1,if_neg (by rw [hh];simp)];rfl
 ·have e2:=Zh hk (by omega)
  delta Fs
  obtain ⟨xw,xs⟩:=x
  by_cases h:xw=w
  ·subst h
   simp only [if_true]
   refine ⟨o,?_⟩
   simp -implicitDefEqProofs [hk,hx,hy,Zn.c,Ints.c,e2,Zku,List.map_set]
  ·simp only [h,if_false]
   refine ⟨trivial,o,?_⟩
   simp -implicitDefEqProofs [hk,hx,hy,Zn.c,Ints.c,h,e2]
def Mk (m:Zi) (w q:Int) (r:Zj):Zi :=
 if (Yn m.l.l m.old.l w q).2.1=true∨(Yn m.l.l m.old.l w q).2.2 ≠ 0 then m else
 if (Yj (Z5 m.l.l w q r) w).length≤4 then ⟨.of (Z5 m.l.l w q r),Zz m.old.l⟩ else
  ⟨.of (Tq (Z5 m.l.l w q r) w (Te (Yj (Z5 m.l.l w q r) w))),.of (Yy m.old.l w (Te (Yj (Z5 m.l.l w q r) w)))⟩
theorem Zuk (m:Zi) (w q:Int) (r:Zj):(X6 m w q r).l.l=(Mk m w q r).l.l∧(X6 m w q r).old.l=(Mk m w q r).old.l:=by
 unfold X6 Mk
 split
 ·exact ⟨rfl,rfl⟩
 ·split
  ·exact ⟨rfl,(Xz _).symm⟩
  ·exact ⟨rfl,rfl⟩
end Go.Proofs.YtndfdnlbljhlgaaGreat
