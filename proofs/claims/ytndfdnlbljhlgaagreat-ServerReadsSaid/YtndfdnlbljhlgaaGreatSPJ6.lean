/- Part of the proof: what the functions answer, part 6 (SWatch5, GServ5, GServ6, GLease4, GServ7, STxn4, GLive10, LServ2). No conditions. -/
import Derived.Test.YtndfdnlbljhlgaaGreatSPJ5
import Derived.Test.YtndfdnlbljhlgaaGreatSPJ1
import Derived.Test.YtndfdnlbljhlgaaGreatSPJ4
import Derived.KernelRfl
section
namespace Go.Proofs.YtndfdnlbljhlgaaGreat
open Go Go.AM Go.Proofs
set_option maxRecDepth 20000
set_option maxHeartbeats 2000000
set_option linter.unusedSimpArgs false
set_option linter.unusedVariables false
theorem setAll_own {H L0:List Blk}:∀{m:List (Nat×Blk)},(∀p∈m,H.length≤p.1)→∃L,(∀t,setAll H ⟨t,[],L0⟩ m=⟨t,[],L⟩)∧applyM (H++L0) m=H++L
 | [],_=>⟨L0,fun _=>by simp,by simp⟩
 | (i,b)::m,h=>by
  obtain ⟨L,h1,h2⟩:=setAll_own (m:=m) (fun p hp=>h p (by simp [hp]))
  have hi:H.length≤i:=h (i,b) (by simp)
  refine ⟨L.set (i - H.length) b,fun t => ?_,?_⟩
  ·rw [setAll_cons,h1];unfold setB;rw [if_neg (by omega)]
  ·simp only [applyM];rw [h2,List.set_append_right _ _ hi]
theorem rev1_ev (s:Store) (most srev:Int) (all:List Ev) (hs:SrtE all) (h1:1≤most) (hl:all.length≤100000) (H:List Blk) :
  ∃m L,(∀t,setAll H ⟨t,[],tenB H.length s most (res0 H.length) 0 0 1 [] (Evs.g (slOf all)) none⟩ m=⟨t,[],L⟩)∧EndB H.length s most srev all L ∧
   EvF tab 204 [.yv (H.length+9),.ptr (H.length+8) 0] (H++tenB H.length s most (res0 H.length) 0 0 1 [] (Evs.g (slOf all)) none)=some ⟨.tup [],m,[]⟩:=by
 obtain ⟨h,hh⟩:∃h,H++tenB H.length s most (res0 H.length) 0 0 1 [] (Evs.g (slOf all)) none=h:=⟨_,rfl⟩
 obtain ⟨m,e,t,k1,⟨L,k2,k3⟩,k4,k5⟩:=rounds_loop s most srev all hs h1 hl H h (by rw [←hh];simp [tenB]) ([],1,[],slOf all) ⟨by simp,by rw [←hh];rfl,by rw [slOf_l];rfl,by simp;omega,by simp,by simp,by simp⟩
 obtain ⟨L',j1,j2⟩:=setAll_own (H:=H) (L0:=tenB H.length s most (res0 H.length) 0 0 1 [] (Evs.g (slOf all)) none) (fun p hp=>(k1 p hp).1)
 rw [hh,k2] at j2
 have hL:=List.append_cancel_left j2
 subst hL
 refine ⟨m,L,j1,k3,?_⟩
 rw [hh]
 refine EvF_walk t204 (by simp) ?_
 have hlen:h.length=H.length+10:=by rw [←hh];simp [tenB]
 rcases k4 with rfl | rfl <;> simp -implicitDefEqProofs [k5] <;> exact fun a b hab=>by rw [hlen];exact (k1 (a,b) hab).2
theorem Since_ev (s:Store) (p:Bs) (rev most:Int) (hs:smallS s) (h0:0≤s.rev) (h1:s.rev≤1099511627775) (hsrt:SrtE s.log.l) (H:List Blk) :
  EvF tab 155 [A s.c,T p,I rev,I most] H=some ⟨.tup [.g (Evs.g (slOf (sinP s p rev most).1)),I (sinP s p rev most).2.1,I (sinP s p rev most).2.2],[],[]⟩:=by
 have hsl:s.log.l.length≤100000:=by unfold smallS at hs;omega
 have hlen:=ofP_len s.log.l p rev
 have e0:IntKind.i64.wrap (s.rev+1)=s.rev+1:=wrap_i64 (by omega) (by omega)
 have hof:=fun H=>of_ev s.log p rev (by omega) H
 have hall0:=ofP_srt hsrt p rev
 refine EvF_walk t155 (by simp) ?_
 unfold sinP
 obtain ⟨all,hall⟩:∃all,ofP s.log.l p rev=all:=⟨_,rfl⟩
 rw [hall] at hof hlen hall0 ⊢
 unfold sinE
 by_cases c1:most<1
 ·obtain ⟨a1,a2,a3,a4⟩:=s
  simp -implicitDefEqProofs [A,Store.c,c1,slOf]
 by_cases c2:30<most
 ·obtain ⟨a1,a2,a3,a4⟩:=s
  simp -implicitDefEqProofs [A,Store.c,c1,c2,slOf]
 by_cases c3:rev<1
 ·obtain ⟨a1,a2,a3,a4⟩:=s
  simp -implicitDefEqProofs [A,Store.c,c1,c2,c3,slOf]
 by_cases c4:s.rev+1<rev
 ·obtain ⟨a1,a2,a3,a4⟩:=s
  simp only at c4 e0
  simp -implicitDefEqProofs [A,Store.c,c1,c2,c3,c4,e0,slOf]
 by_cases c5:rev≤s.low
 ·obtain ⟨a1,a2,a3,a4⟩:=s
  simp only at c4 c5 e0
  simp -implicitDefEqProofs [A,Store.c,c1,c2,c3,c4,c5,e0,slOf]
 simp only [show (if most<1∨30<most then (1:Int) else if rev<1∨s.rev+1<rev then 8 else if rev≤s.low then 9 else 0)=0 from sinE_zero.2 ⟨⟨by omega,by omega⟩,⟨by omega,by omega⟩,by omega⟩,if_true]
 obtain ⟨m,L,k1,k2,k3⟩:=rev1_ev s most s.rev all hall0 (by omega) (by omega) H
 obtain ⟨a1,a2,a3,a4⟩:=s
 simp only at c4 c5 e0 k2 hof
 have hrv:=fun G H=>revisions_ev G H
 generalize hg0:Evs.g (slOf all)=G0 at hof k1 k3
 unfold tenB at k1 k3
 simp only [Store.c,List.map_cons,List.map_nil,List.length_nil,res0,lpT] at k1 k3
 generalize hg1:KVs.g a3=G1 at k1 k3
 generalize hg2:Evs.g a4=G2 at k1 k3 hof
 obtain ⟨g,G,⟨z1,z2,z3,rfl⟩ | ⟨z1,rfl⟩ | ⟨out,nx,z1,z2,z3,z4,rfl⟩⟩:=k2
 ·rw [cut_fits z2]
  unfold tenB at k1
  simp only [Store.c,List.map_cons,List.map_nil,lpT,res0] at k1
  simp -implicitDefEqProofs [A,Store.c,hg1,hg2,c1,c2,c3,c4,c5,e0,hof,hrv,rfV_fv,k3,k1,endRf]
  by_cases hall2:all=[]
  ·rw [if_pos (z3.2 hall2),hall2];rfl
  ·rw [if_neg (fun h=>hall2 (z3.1 h)),List.take_of_length_le (by simp)]
   unfold slOf;rw [if_neg hall2];rfl
 ·rw [z1]
  unfold tenB at k1
  simp only [Store.c,List.map_cons,List.map_nil,lpT,res0] at k1
  simp -implicitDefEqProofs [A,Store.c,hg1,hg2,c1,c2,c3,c4,c5,e0,hof,hrv,rfV_fv,k3,k1,endRf,slOf]
 ·rw [z1]
  unfold tenB at k1
  simp only [Store.c,List.map_cons,List.map_nil,lpT,res0] at k1
  have e1:List.take out.length (List.map Ev.c out)=List.map Ev.c out:=List.take_of_length_le (by simp)
  simp -implicitDefEqProofs [A,Store.c,hg1,hg2,c1,c2,c3,c4,c5,e0,hof,hrv,rfV_fv,k3,k1,endRf,slOf,z3,z4,e1]
end Go.Proofs.YtndfdnlbljhlgaaGreat
end
section
namespace Go.Proofs.YtndfdnlbljhlgaaGreat
open Go Go.AM Go.Proofs
set_option maxRecDepth 20000
set_option maxHeartbeats 2000000
set_option linter.unusedSimpArgs false
set_option linter.unusedVariables false
theorem FromP_ev (s:Sl KV) (p:Bs) (hl:s.l.length≤1000000) (H:List Blk):EvF tab 152 [.g (KVs.g s),T p] H=some ⟨.g (KVs.g (slOf (fromP s.l p))),[],[]⟩:=by
 refine EvF_walk t152 (by simp) ?_
 have hw:=loop_runJ (E:=EvF tab) (h:=H) (c:=L152_0) (lv:=[1,5,8,9,10]) (l:=s.l) (β:=List KV) (γ:=Nat) (fun k r=>r.length≤k) (fun _ x r=>if preP p x.key=true then .inl (r++[x]) else .inl r)
  (fun k r o=>⟨[(1,T p),(5,.ms (H.length+1) (r.length+1) 6 0 r.length),(8,.g (KVs.g s)),(9,I s.l.length),(10,I k)],[],.rows 6 1 [] :: .rows 6 (r.length+1) (r.map KV.c)::o⟩)
  (fun r o=>(.exit 0,⟨[(1,T p),(5,.ms (H.length+1) (r.length+1) 6 0 r.length),(8,.g (KVs.g s)),(9,I s.l.length),(10,I s.l.length),(11,B false)],[],.rows 6 1 [] :: .rows 6 (r.length+1) (r.map KV.c)::o⟩))
  (fun _ o=>(.ret,⟨[],[],o⟩)) (by simp) (by simp) (fun k x r o hk hx hy hi => ?_) (fun r o _=>by delta L152_0;simp -implicitDefEqProofs) [] [] (by simp)
 ·obtain ⟨o',hw⟩:=hw
  rw [runG_filterI (fun x:KV=>preP p x.key)] at hw
  simp only [endJ,List.nil_append,List.map_nil,List.length_nil,Int.ofNat_zero,Int.cast_ofNat_Int,Nat.zero_add] at hw
  rw [show (s.l.filter fun x=>preP p x.key)=fromP s.l p from rfl] at hw
  obtain ⟨r,hr⟩:∃r,fromP s.l p=r:=⟨_,rfl⟩
  rw [hr] at hw ⊢
  cases r with
  | nil=>simp -implicitDefEqProofs [hw,slOf]
  | cons y r =>
   have e1:List.take r.length (List.map KV.c r)=List.map KV.c r:=List.take_of_length_le (by simp)
   simp -implicitDefEqProofs [hw,slOf,e1]
 ·have e2:=wrap_succ hk (by omega)
  have h1:=fun H=>HasPrefix_ev x.key p H
  delta L152_0
  cases s with
  | nil=>simp at hk
  | of l =>
   simp only [Sl.l_of] at hk hy hl
   have e3:List.take r.length (List.map KV.c r)=List.map KV.c r:=List.take_of_length_le (by simp)
   cases hp0:preP p x.key
   ·rw [hp0] at h1
    simp only [Bool.false_eq_true,if_false]
    refine ⟨by omega,o++[.cells (x.c.map .g)],?_⟩
    simp -implicitDefEqProofs [hk,hy,KV.c,e2,h1]
   ·rw [hp0] at h1
    simp only [if_true]
    refine ⟨by simp;omega,o++[.cells (x.c.map .g)],?_⟩
    simp -implicitDefEqProofs [hk,hy,KV.c,e2,h1,appV,room,Nat.not_succ_le_self,chunk,show r.length+1≤140737488355328 by omega,show (r.length+1)*64≤140737488355328 by omega,e3]
def actC (s:Server) (p:Reply):Blk := .cells ((s.c++p.c).map .g)
theorem look_ev (s:Server) (p:Reply) (r:Req) (hs:smallS s.st) (hn:s.st.base.l.length+s.st.log.l.length≤5000) {H:List Blk} {q:Nat} (hq:H[q]? = some (actC s p)) :
  EvF tab 100 [.ptr q 0,A r.c] H=some ⟨I (atE s.st r.rev),[(q,actC s ⟨p.code,p.who,p.seq,s.st.rev,p.lease,p.ttl,p.yes,slOf (fromP (atR s.st r.rev).l r.key),p.events⟩)],[]⟩:=by
 have hpl:q<H.length:=(List.getElem?_eq_some_iff.1 hq).1
 have hp2:=(List.getElem?_eq_some_iff.1 hq).2
 have hlv:∀o,isLiveB (H++o) q=true:=fun o=>by unfold isLiveB;rw [List.getElem?_append_left hpl,hq];rfl
 have hla:(atR s.st r.rev).l.length≤1000000:=by
  unfold atR
  split
  ·rw [foldR_l];have:=foldP_len (atV s.st r.rev) s.st.log.l s.st.base.l;omega
  ·simp
 have m1:=fun H=>At_ev s.st r.rev hs H
 have m2:=fun H=>FromP_ev (atR s.st r.rev) r.key hla H
 refine EvF_walk t100 (by simp) ?_
 unfold actC at hp2 ⊢
 generalize atE s.st r.rev=e at m1 ⊢
 generalize slOf (fromP (atR s.st r.rev).l r.key)=F at m2 ⊢
 generalize atR s.st r.rev=N at m1 m2
 obtain ⟨⟨srev,slow,sbase,slog⟩,⟨lnext,ll⟩,⟨ml,mo⟩,clock⟩:=s
 obtain ⟨p1,p2,p3,p4,p5,p6,p7,p8,p9⟩:=p
 obtain ⟨rkind,rwho,rseq,ronce,rkey,rvalue,rlease,rrev,rttl,rtoken,riff,rthn,rels⟩:=r
 simp only [A,Store.c,Server.c,Reply.c,Req.c,List.map_cons,List.map_nil,List.cons_append,List.nil_append] at m1 m2 hp2 ⊢
 simp -implicitDefEqProofs [m1,m2,hp2,hpl,hlv,getB_old,setB_old,orB]
theorem watch_ev (s:Server) (p:Reply) (r:Req) (h:SOk s.st) {H:List Blk} {q:Nat} (hq:H[q]? = some (actC s p)) :
  EvF tab 102 [.ptr q 0,A r.c] H=some ⟨I (sinP s.st r.key r.rev 30).2.2,[(q,actC s ⟨p.code,p.who,p.seq,(sinP s.st r.key r.rev 30).2.1,p.lease,p.ttl,p.yes,p.kvs,slOf (sinP s.st r.key r.rev 30).1⟩)],[]⟩:=by
 have hpl:q<H.length:=(List.getElem?_eq_some_iff.1 hq).1
 have hp2:=(List.getElem?_eq_some_iff.1 hq).2
 have hlv:∀o,isLiveB (H++o) q=true:=fun o=>by unfold isLiveB;rw [List.getElem?_append_left hpl,hq];rfl
 have hb:=h.bl
 have hg:=h.ll
 have m1:=fun H=>Since_ev s.st r.key r.rev 30 (by unfold smallS;omega) (by have:=h.low0;have:=h.lowr;omega) (by have:=h.revM;omega) h.srt H
 refine EvF_walk t102 (by simp) ?_
 unfold actC at hp2 ⊢
 generalize slOf (sinP s.st r.key r.rev 30).1=F at m1 ⊢
 generalize (sinP s.st r.key r.rev 30).2.1=n at m1 ⊢
 generalize (sinP s.st r.key r.rev 30).2.2=e at m1 ⊢
 obtain ⟨⟨srev,slow,sbase,slog⟩,⟨lnext,ll⟩,⟨ml,mo⟩,clock⟩:=s
 obtain ⟨p1,p2,p3,p4,p5,p6,p7,p8,p9⟩:=p
 obtain ⟨rkind,rwho,rseq,ronce,rkey,rvalue,rlease,rrev,rttl,rtoken,riff,rthn,rels⟩:=r
 simp only [A,Store.c,Server.c,Reply.c,Req.c,List.map_cons,List.map_nil,List.cons_append,List.nil_append] at m1 hp2 ⊢
 simp -implicitDefEqProofs [m1,hp2,hpl,hlv,getB_old,setB_old,orB]
theorem grant_ev (s:Server) (p:Reply) (r:Req) (w:s.ls.wf) {H:List Blk} {q:Nat} (hq:H[q]? = some (actC s p)) :
  EvF tab 103 [.ptr q 0,A r.c] H=some ⟨I (grantOk s.ls r.ttl s.clock),[(q,actC ⟨s.st,grantS s.ls r.ttl s.clock,s.ms,s.clock⟩ ⟨p.code,p.who,p.seq,p.rev,grantI s.ls r.ttl s.clock,r.ttl,p.yes,p.kvs,p.events⟩)],[]⟩:=by
 have hpl:q<H.length:=(List.getElem?_eq_some_iff.1 hq).1
 have hp2:=(List.getElem?_eq_some_iff.1 hq).2
 have hlv:∀o,isLiveB (H++o) q=true:=fun o=>by unfold isLiveB;rw [List.getElem?_append_left hpl,hq];rfl
 have m1:=fun H=>Grant_ev s.ls r.ttl s.clock w H
 refine EvF_walk t103 (by simp) ?_
 unfold actC at hp2 ⊢
 generalize grantS s.ls r.ttl s.clock=L at m1 ⊢
 generalize grantI s.ls r.ttl s.clock=n at m1 ⊢
 generalize grantOk s.ls r.ttl s.clock=e at m1 ⊢
 obtain ⟨⟨srev,slow,sbase,slog⟩,⟨lnext,ll⟩,⟨ml,mo⟩,clock⟩:=s
 obtain ⟨p1,p2,p3,p4,p5,p6,p7,p8,p9⟩:=p
 obtain ⟨rkind,rwho,rseq,ronce,rkey,rvalue,rlease,rrev,rttl,rtoken,riff,rthn,rels⟩:=r
 obtain ⟨Ln,Ll⟩:=L
 simp only [A,Leases.c,Server.c,Reply.c,Req.c,List.map_cons,List.map_nil,List.cons_append,List.nil_append] at m1 hp2 ⊢
 simp -implicitDefEqProofs [m1,hp2,hpl,hlv,getB_old,setB_old,orB,pends,show ¬q=H.length by omega,show ¬q=H.length+1 by omega,show ¬H.length+1=q by omega,show ¬H.length=q by omega]
theorem keep_ev (s:Server) (p:Reply) (r:Req) (w:smallT s.ls) {H:List Blk} {q:Nat} (hq:H[q]? = some (actC s p)) :
  EvF tab 104 [.ptr q 0,A r.c] H=some ⟨I (lkeepE s.ls r.lease s.clock),[(q,actC ⟨s.st,keepS s.ls r.lease s.clock,s.ms,s.clock⟩ ⟨p.code,p.who,p.seq,p.rev,r.lease,keepT s.ls r.lease s.clock,p.yes,p.kvs,p.events⟩)],[]⟩:=by
 have hpl:q<H.length:=(List.getElem?_eq_some_iff.1 hq).1
 have hp2:=(List.getElem?_eq_some_iff.1 hq).2
 have hlv:∀o,isLiveB (H++o) q=true:=fun o=>by unfold isLiveB;rw [List.getElem?_append_left hpl,hq];rfl
 have m1:=fun H=>LKeep_ev s.ls r.lease s.clock w H
 refine EvF_walk t104 (by simp) ?_
 unfold actC at hp2 ⊢
 generalize keepS s.ls r.lease s.clock=L at m1 ⊢
 generalize keepT s.ls r.lease s.clock=n at m1 ⊢
 generalize lkeepE s.ls r.lease s.clock=e at m1 ⊢
 obtain ⟨⟨srev,slow,sbase,slog⟩,⟨lnext,ll⟩,⟨ml,mo⟩,clock⟩:=s
 obtain ⟨p1,p2,p3,p4,p5,p6,p7,p8,p9⟩:=p
 obtain ⟨rkind,rwho,rseq,ronce,rkey,rvalue,rlease,rrev,rttl,rtoken,riff,rthn,rels⟩:=r
 obtain ⟨Ln,Ll⟩:=L
 simp only [A,Leases.c,Server.c,Reply.c,Req.c,List.map_cons,List.map_nil,List.cons_append,List.nil_append] at m1 hp2 ⊢
 simp -implicitDefEqProofs [m1,hp2,hpl,hlv,getB_old,setB_old,orB,pends,show ¬q=H.length by omega,show ¬q=H.length+1 by omega,show ¬H.length+1=q by omega,show ¬H.length=q by omega]
theorem revoke_ev (s:Server) (p:Reply) (r:Req) (hf:Fit s) {H:List Blk} {q:Nat} (hq:H[q]? = some (actC s p)) :
  EvF tab 105 [.ptr q 0,A r.c] H=some ⟨I (sweepE s r.lease),[(q,actC (sweepS s r.lease) ⟨p.code,p.who,p.seq,(sweepS s r.lease).st.rev,r.lease,p.ttl,p.yes,p.kvs,p.events⟩)],[]⟩:=by
 have hpl:q<H.length:=(List.getElem?_eq_some_iff.1 hq).1
 have hp2:=(List.getElem?_eq_some_iff.1 hq).2
 have hlv:∀o,isLiveB (H++o) q=true:=fun o=>by unfold isLiveB;rw [List.getElem?_append_left hpl,hq];rfl
 have m1:=fun H=>Sweep_ev s r.lease hf H
 refine EvF_walk t105 (by simp) ?_
 unfold actC at hp2 ⊢
 generalize sweepS s r.lease=R at m1 ⊢
 generalize sweepE s r.lease=e at m1 ⊢
 obtain ⟨⟨srev,slow,sbase,slog⟩,⟨lnext,ll⟩,⟨ml,mo⟩,clock⟩:=s
 obtain ⟨p1,p2,p3,p4,p5,p6,p7,p8,p9⟩:=p
 obtain ⟨rkind,rwho,rseq,ronce,rkey,rvalue,rlease,rrev,rttl,rtoken,riff,rthn,rels⟩:=r
 obtain ⟨⟨srev',slow',sbase',slog'⟩,⟨lnext',ll'⟩,⟨ml',mo'⟩,clock'⟩:=R
 simp only [A,Server.c,Reply.c,Req.c,List.map_cons,List.map_nil,List.cons_append,List.nil_append] at m1 hp2 ⊢
 simp -implicitDefEqProofs [m1,hp2,hpl,hlv,getB_old,setB_old,orB,pends,show ¬q=H.length by omega,show ¬q=H.length+1 by omega,show ¬H.length+1=q by omega,show ¬H.length=q by omega]
theorem compact_ev (s:Server) (p:Reply) (r:Req) (hs:smallS s.st) {H:List Blk} {q:Nat} (hq:H[q]? = some (actC s p)) :
  EvF tab 106 [.ptr q 0,A r.c] H=some ⟨I (shrE s.st r.rev),[(q,actC ⟨shrS s.st r.rev,s.ls,s.ms,s.clock⟩ ⟨p.code,p.who,p.seq,(shrS s.st r.rev).rev,p.lease,p.ttl,p.yes,p.kvs,p.events⟩)],[]⟩:=by
 have hpl:q<H.length:=(List.getElem?_eq_some_iff.1 hq).1
 have hp2:=(List.getElem?_eq_some_iff.1 hq).2
 have hlv:∀o,isLiveB (H++o) q=true:=fun o=>by unfold isLiveB;rw [List.getElem?_append_left hpl,hq];rfl
 have m1:=fun H=>Shrink_ev s.st r.rev hs H
 refine EvF_walk t106 (by simp) ?_
 unfold actC at hp2 ⊢
 generalize shrS s.st r.rev=R at m1 ⊢
 generalize shrE s.st r.rev=e at m1 ⊢
 obtain ⟨⟨srev,slow,sbase,slog⟩,⟨lnext,ll⟩,⟨ml,mo⟩,clock⟩:=s
 obtain ⟨p1,p2,p3,p4,p5,p6,p7,p8,p9⟩:=p
 obtain ⟨rkind,rwho,rseq,ronce,rkey,rvalue,rlease,rrev,rttl,rtoken,riff,rthn,rels⟩:=r
 obtain ⟨srev',slow',sbase',slog'⟩:=R
 simp only [A,Store.c,Server.c,Reply.c,Req.c,List.map_cons,List.map_nil,List.cons_append,List.nil_append] at m1 hp2 ⊢
 simp -implicitDefEqProofs [m1,hp2,hpl,hlv,getB_old,setB_old,orB,pends,show ¬q=H.length by omega,show ¬q=H.length+1 by omega,show ¬H.length+1=q by omega,show ¬H.length=q by omega]
theorem concatTU:∃m msg m' msg',tab.T 153=some (concatF 4 48 185 m msg)∧tab.T 185=some (growF 4 48 [.bool false,.str [],.str [],.int .i64 0] m' msg') :=
 ⟨_,_,_,_,t153,t185⟩
theorem concatU_ev (a b:Sl Mut) (hn:a.l.length+b.l.length≤1000000) (H:List Blk) :
  EvF tab 153 [.g (.sl 1 [[Muts.g a],[Muts.g b]])] H=some ⟨.g (Muts.g (slOf (a.l++b.l))),[],[]⟩:=by
 obtain ⟨m,msg,m',msg',h1,h2⟩:=concatTU
 have:=concat_ev (c:=Mut.c) h1 h2 a b (by omega) (by omega) H
 rw [nslG_slOf] at this
 exact this
def heldM (L:List Lease) (m:Mut):Bool:=m.gone||(decide (m.lease=0)||hasS m.lease L)
theorem change_loop (s:Server) (p:Reply) (l:List Mut) (hn:l.length≤1000000) (hL:s.ls.l.l.length≤9223372036854775807) (B1:Blk) {H:List Blk} {q:Nat} (hq:H[q]? = some (actC s p)) :
  ∃o',loopE (EvF tab) H L101_0 [0,3,18,19,20] ⟨[(0,.ptr q 0),(3,.ptr H.length 0),(18,.g (Muts.g (slOf l))),(19,I l.length),(20,I 0)],[],[B1]⟩ =
   some (if allP (heldM s.ls.l.l) l=true then (.exit 0,⟨[(0,.ptr q 0),(3,.ptr H.length 0),(18,.g (Muts.g (slOf l))),(19,I l.length),(20,I l.length),(21,B false)],[],B1::o'⟩) else (.ret,⟨[(4,I 6)],[],B1::o'⟩)):=by
 have hpl:q<H.length:=(List.getElem?_eq_some_iff.1 hq).1
 have hp2:=(List.getElem?_eq_some_iff.1 hq).2
 have hlv:∀o,isLiveB (H++o) q=true:=fun o=>by unfold isLiveB;rw [List.getElem?_append_left hpl,hq];rfl
 have hw:=loop_runJ (E:=EvF tab) (h:=H) (c:=L101_0) (lv:=[0,3,18,19,20]) (l:=l) (β:=Unit) (γ:=Unit) (fun _ _=>True) (fun _ x _=>if heldM s.ls.l.l x=true then .inl () else .inr ())
  (fun k _ o=>⟨[(0,.ptr q 0),(3,.ptr H.length 0),(18,.g (Muts.g (slOf l))),(19,I l.length),(20,I k)],[],B1::o⟩)
  (fun _ o=>(.exit 0,⟨[(0,.ptr q 0),(3,.ptr H.length 0),(18,.g (Muts.g (slOf l))),(19,I l.length),(20,I l.length),(21,B false)],[],B1::o⟩))
  (fun _ o=>(.ret,⟨[(4,I 6)],[],B1::o⟩)) (by simp) (by simp) (fun k x _ o hk hx hy _ => ?_) (fun _ o _=>by delta L101_0;simp -implicitDefEqProofs) () [] trivial
 ·obtain ⟨o',hw⟩:=hw
  refine ⟨o',?_⟩
  rw [runG_allU] at hw
  simp only [Int.ofNat_zero,Int.cast_ofNat_Int] at hw
  rw [hw]
  cases allP (heldM s.ls.l.l) l <;> rfl
 ·have e2:=wrap_succ hk (by omega)
  have m1:=fun H=>Has_ev s.ls x.lease hL H
  have hs:slOf l = .of l:=by unfold slOf;rw [if_neg (by intro e;subst e;simp at hk)]
  unfold actC at hp2
  unfold heldM
  generalize hasS x.lease s.ls.l.l=b at m1 ⊢
  delta L101_0
  obtain ⟨⟨srev,slow,sbase,slog⟩,⟨lnext,ll⟩,⟨ml,mo⟩,clock⟩:=s
  obtain ⟨p1,p2,p3,p4,p5,p6,p7,p8,p9⟩:=p
  obtain ⟨xg,xk,xv,xl⟩:=x
  simp only [A,Leases.c,Server.c,Reply.c,List.map_cons,List.map_nil,List.cons_append,List.nil_append] at m1 hp2 ⊢
  rw [hs]
  cases xg
  ·by_cases c1:xl=0
   ·subst c1
    simp only [decide_true,Bool.true_or,Bool.or_true,if_true]
    refine ⟨trivial,o++[.cells ((Mut.c ⟨false,xk,xv,0⟩).map .g)],?_⟩
    simp -implicitDefEqProofs [m1,hk,hx,hy,e2,Mut.c,hp2,hpl,hlv,getB_old,orB]
   ·cases b
    ·simp only [c1,decide_false,Bool.or_self,Bool.false_eq_true,if_false]
     refine ⟨o++[.cells ((Mut.c ⟨false,xk,xv,xl⟩).map .g)],?_⟩
     simp -implicitDefEqProofs [m1,hk,hx,hy,e2,Mut.c,c1,hp2,hpl,hlv,getB_old,orB]
    ·simp only [c1,Bool.or_true,if_true]
     refine ⟨trivial,o++[.cells ((Mut.c ⟨false,xk,xv,xl⟩).map .g)],?_⟩
     simp -implicitDefEqProofs [m1,hk,hx,hy,e2,Mut.c,c1,hp2,hpl,hlv,getB_old,orB]
  ·simp only [Bool.true_or,if_true]
   refine ⟨trivial,o++[.cells ((Mut.c ⟨true,xk,xv,xl⟩).map .g)],?_⟩
   simp -implicitDefEqProofs [m1,hk,hx,hy,e2,Mut.c,hp2,hpl,hlv,getB_old,orB]
def txnOf (r:Req):Txn:=⟨r.iff,r.thn,r.els⟩
theorem change_ev (s:Server) (p:Reply) (r:Req) (hs:smallS s.st) (hr:0≤s.st.rev∧s.st.rev≤1099511627774) (w:(txnOf r).wf) (hm:r.thn.l.length+r.els.l.length≤1000000) (hL:s.ls.l.l.length≤9223372036854775807) {H:List Blk} {q:Nat} (hq:H[q]? = some (actC s p)) :
  EvF tab 101 [.ptr q 0,A r.c] H=some (if allP (heldM s.ls.l.l) (r.thn.l++r.els.l)=true then ⟨I (doE s.st (txnOf r)),[(q,actC ⟨doS s.st (txnOf r),s.ls,s.ms,s.clock⟩ ⟨p.code,p.who,p.seq,(doS s.st (txnOf r)).rev,p.lease,p.ttl,doY s.st (txnOf r),p.kvs,p.events⟩)],[]⟩ else ⟨I 6,[],[]⟩):=by
 have hpl:q<H.length:=(List.getElem?_eq_some_iff.1 hq).1
 have hp2:=(List.getElem?_eq_some_iff.1 hq).2
 have hlv:∀o,isLiveB (H++o) q=true:=fun o=>by unfold isLiveB;rw [List.getElem?_append_left hpl,hq];rfl
 have m1:=fun H=>concatU_ev r.thn r.els hm H
 have m2:=fun H=>Do_ev s.st (txnOf r) hs (by omega) w H
 obtain ⟨o,hw⟩:=change_loop s p (r.thn.l++r.els.l) (by simpa using hm) hL (.cells (r.c.map .g)) hq
 have hv:∀h st,lenV h st (.g (Muts.g (slOf (r.thn.l++r.els.l))))=some (r.thn.l++r.els.l).length:=fun h st=>by rw [lenV_Sl,slOf_l]
 refine EvF_walk t101 (by simp) ?_
 unfold actC at hp2 ⊢
 generalize doE s.st (txnOf r)=e at m2 ⊢
 generalize doV s.st (txnOf r)=v at m2
 generalize doY s.st (txnOf r)=y at m2 ⊢
 generalize doS s.st (txnOf r)=S at m2 ⊢
 generalize allP (heldM s.ls.l.l) (r.thn.l++r.els.l)=b at hw ⊢
 generalize Muts.g (slOf (r.thn.l++r.els.l))=G0 at m1 hw hv
 generalize (r.thn.l++r.els.l).length=n at hw hv
 obtain ⟨⟨srev,slow,sbase,slog⟩,⟨lnext,ll⟩,⟨ml,mo⟩,clock⟩:=s
 obtain ⟨p1,p2,p3,p4,p5,p6,p7,p8,p9⟩:=p
 obtain ⟨rkind,rwho,rseq,ronce,rkey,rvalue,rlease,rrev,rttl,rtoken,riff,rthn,rels⟩:=r
 obtain ⟨srev',slow',sbase',slog'⟩:=S
 simp only [A,Store.c,Txn.c,txnOf,Server.c,Reply.c,Req.c,List.map_cons,List.map_nil,List.cons_append,List.nil_append] at m1 m2 hp2 hw ⊢
 cases b
 ·simp only [Bool.false_eq_true,if_false] at hw ⊢
  simp -implicitDefEqProofs [m1,hv,hw,hp2,hpl,hlv,getB_old,setB_old,orB,chunk]
 ·simp only [if_true] at hw ⊢
  simp -implicitDefEqProofs [m1,m2,hv,hw,hp2,hpl,hlv,getB_old,setB_old,orB,pends,chunk,gap,gap0,sap,sap0,List.append_assoc,show ¬H.length+(o.length+1)=q by omega,show ¬q=H.length+(o.length+1) by omega,show ¬q=H.length by omega,show ¬q=H.length+1 by omega,show ¬H.length+1=q by omega,show ¬H.length=q by omega]
end Go.Proofs.YtndfdnlbljhlgaaGreat
end
section
namespace Go.Proofs.YtndfdnlbljhlgaaGreat
open Go Go.AM Go.Proofs
set_option maxRecDepth 20000
set_option maxHeartbeats 2000000
set_option linter.unusedSimpArgs false
set_option linter.unusedVariables false
def kindsM:List (Int×Nat):=[(1,100),(2,101),(3,102),(4,103),(5,104),(6,105),(7,106)]
theorem kinds_ev (H:List Blk):EvF tab 46 [] H=some ⟨.mp H.length,[],[.map (kindsM.map (kvG GV.fn))]⟩:=by
 refine EvF_walk t46 (by simp) ?_
 have m1:msetV .i (.int .i64 1) (some (.fn 100)) []=some ((kindsM.take 1).map (kvG GV.fn)):=mset_kv GV.fn 1 100 []
 have m2:msetV .i (.int .i64 2) (some (.fn 101)) ((kindsM.take 1).map (kvG GV.fn))=some ((kindsM.take 2).map (kvG GV.fn)):=mset_kv GV.fn 2 101 (kindsM.take 1)
 have m3:msetV .i (.int .i64 3) (some (.fn 102)) ((kindsM.take 2).map (kvG GV.fn))=some ((kindsM.take 3).map (kvG GV.fn)):=mset_kv GV.fn 3 102 (kindsM.take 2)
 have m4:msetV .i (.int .i64 4) (some (.fn 103)) ((kindsM.take 3).map (kvG GV.fn))=some ((kindsM.take 4).map (kvG GV.fn)):=mset_kv GV.fn 4 103 (kindsM.take 3)
 have m5:msetV .i (.int .i64 5) (some (.fn 104)) ((kindsM.take 4).map (kvG GV.fn))=some ((kindsM.take 5).map (kvG GV.fn)):=mset_kv GV.fn 5 104 (kindsM.take 4)
 have m6:msetV .i (.int .i64 6) (some (.fn 105)) ((kindsM.take 5).map (kvG GV.fn))=some ((kindsM.take 6).map (kvG GV.fn)):=mset_kv GV.fn 6 105 (kindsM.take 5)
 have m7:msetV .i (.int .i64 7) (some (.fn 106)) ((kindsM.take 6).map (kvG GV.fn))=some (kindsM.map (kvG GV.fn)):=mset_kv GV.fn 7 106 (kindsM.take 6)
 generalize (kindsM.take 1).map (kvG GV.fn)=l1 at m1 m2
 generalize (kindsM.take 2).map (kvG GV.fn)=l2 at m2 m3
 generalize (kindsM.take 3).map (kvG GV.fn)=l3 at m3 m4
 generalize (kindsM.take 4).map (kvG GV.fn)=l4 at m4 m5
 generalize (kindsM.take 5).map (kvG GV.fn)=l5 at m5 m6
 generalize (kindsM.take 6).map (kvG GV.fn)=l6 at m6 m7
 generalize kindsM.map (kvG GV.fn)=l7 at m7 ⊢
 simp -implicitDefEqProofs [m1,m2,m3,m4,m5,m6,m7]
def fnK (k:Int):Option Nat:=getA k kindsM
theorem get_kinds (k:Int):mgetV true .i (some .nfn) (.int .i64 k) (kindsM.map (kvG GV.fn))=some (.tup [.g (((fnK k).map GV.fn).getD .nfn),B (fnK k).isSome]):=by
 rw [mget_kv];rfl
def errR (r:Req) (e:Int):Reply:=⟨e,r.who,r.seq,0,0,0,false,.nil,.nil⟩
theorem refuse_ev (s:Server) (r:Req) (e:Int) {H:List Blk} {p q:Nat} (hp:H[p]? = some (.cells (s.c.map .g))) (hq:H[q]? = some (.cells (r.c.map .g))) :
  EvF tab 43 [I e,.ptr p 0,.ptr q 0] H=some ⟨.tup [A s.c,A (errR r e).c],[],[]⟩:=by
 have hpl:p<H.length:=(List.getElem?_eq_some_iff.1 hp).1
 have hp2:=(List.getElem?_eq_some_iff.1 hp).2
 have hql:q<H.length:=(List.getElem?_eq_some_iff.1 hq).1
 have hq2:=(List.getElem?_eq_some_iff.1 hq).2
 have hlp:∀o,isLiveB (H++o) p=true:=fun o=>by unfold isLiveB;rw [List.getElem?_append_left hpl,hp];rfl
 have hlq:∀o,isLiveB (H++o) q=true:=fun o=>by unfold isLiveB;rw [List.getElem?_append_left hql,hq];rfl
 refine EvF_walk t43 (by simp) ?_
 unfold errR
 obtain ⟨⟨srev,slow,sbase,slog⟩,⟨lnext,ll⟩,⟨ml,mo⟩,clock⟩:=s
 obtain ⟨rkind,rwho,rseq,ronce,rkey,rvalue,rlease,rrev,rttl,rtoken,riff,rthn,rels⟩:=r
 simp only [A,Server.c,Reply.c,Req.c,List.map_cons,List.map_nil] at hp2 hq2 ⊢
 simp -implicitDefEqProofs [hp2,hq2,hpl,hql,hlp,hlq,getB_old,orB,show ¬H.length+5=q by omega,show ¬H.length+5=p by omega]
def actR (s:Server) (r:Req):Int×Server×Reply :=
 if r.kind=1 then (atE s.st r.rev,s,⟨0,r.who,r.seq,s.st.rev,0,0,false,slOf (fromP (atR s.st r.rev).l r.key),.nil⟩)
 else if r.kind=2 then (if allP (heldM s.ls.l.l) (r.thn.l++r.els.l)=true then (doE s.st (txnOf r),⟨doS s.st (txnOf r),s.ls,s.ms,s.clock⟩,⟨0,r.who,r.seq,(doS s.st (txnOf r)).rev,0,0,doY s.st (txnOf r),.nil,.nil⟩) else (6,s,errR r 0))
 else if r.kind=3 then ((sinP s.st r.key r.rev 30).2.2,s,⟨0,r.who,r.seq,(sinP s.st r.key r.rev 30).2.1,0,0,false,.nil,slOf (sinP s.st r.key r.rev 30).1⟩)
 else if r.kind=4 then (grantOk s.ls r.ttl s.clock,⟨s.st,grantS s.ls r.ttl s.clock,s.ms,s.clock⟩,⟨0,r.who,r.seq,0,grantI s.ls r.ttl s.clock,r.ttl,false,.nil,.nil⟩)
 else if r.kind=5 then (lkeepE s.ls r.lease s.clock,⟨s.st,keepS s.ls r.lease s.clock,s.ms,s.clock⟩,⟨0,r.who,r.seq,0,r.lease,keepT s.ls r.lease s.clock,false,.nil,.nil⟩)
 else if r.kind=6 then (sweepE s r.lease,sweepS s r.lease,⟨0,r.who,r.seq,(sweepS s r.lease).st.rev,r.lease,0,false,.nil,.nil⟩)
 else if r.kind=7 then (shrE s.st r.rev,⟨shrS s.st r.rev,s.ls,s.ms,s.clock⟩,⟨0,r.who,r.seq,(shrS s.st r.rev).rev,0,0,false,.nil,.nil⟩)
 else (1,s,errR r 0)
structure DoOk (s:Server) (r:Req):Prop where
 srv:Srv0 s
 mw:s.ms.wf
 ml:s.ms.l.l.length+s.ms.old.l.length≤4000
 rw:r.wf
theorem act_ev {s:Server} {r:Req} (h:DoOk s r) (hm:r.thn.l.length+r.els.l.length≤1000000) {k:Nat} (hk:fnK r.kind=some k) :
  ∃u:Bool,(u=false→(actR s r).1 ≠ 0)∧∀{H:List Blk} {q:Nat} (hq:H[q]? = some (actC s (errR r 0))),EvF tab k [.ptr q 0,A r.c] H=some ⟨I (actR s r).1,if u=true then [(q,actC (actR s r).2.1 (actR s r).2.2)] else [],[]⟩:=by
 have hf:=h.srv.fit
 have h1:=hf.sz
 have hs:smallS s.st:=by unfold smallS;omega
 unfold fnK kindsM at hk
 unfold actR
 by_cases c1:r.kind=1
 ·simp only [c1,getA,if_true,Option.some.injEq] at hk ⊢
  subst hk
  exact ⟨true,(fun e=>by cases e),fun hq=>look_ev s (errR r 0) r hs h1 hq⟩
 by_cases c2:r.kind=2
 ·simp [c2,getA] at hk
  subst hk
  simp only [c2,show ¬(2:Int)=1 by omega,if_true,if_false]
  have:=fun {H:List Blk} {q:Nat} (hq:H[q]? = some (actC s (errR r 0)))=>change_ev s (errR r 0) r hs hf.rev ⟨h.rw.2.2.2.2.2.2.2.2.2.1,h.rw.2.2.2.2.2.2.2.2.2.2.1,h.rw.2.2.2.2.2.2.2.2.2.2.2⟩ hm (by have:=hf.ls;omega) hq
  by_cases hh:allP (heldM s.ls.l.l) (r.thn.l++r.els.l)=true
  ·simp only [if_pos hh] at this ⊢
   exact ⟨true,(fun e=>by cases e),fun hq=>this hq⟩
  ·simp only [if_neg hh] at this ⊢
   exact ⟨false,(fun _=>by simp),fun hq=>this hq⟩
 by_cases c3:r.kind=3
 ·simp [c3,getA] at hk
  subst hk
  simp only [c3,show ¬(3:Int)=1 by omega,show ¬(3:Int)=2 by omega,if_true,if_false]
  exact ⟨true,(fun e=>by cases e),fun hq=>watch_ev s (errR r 0) r h.srv.st hq⟩
 by_cases c4:r.kind=4
 ·simp [c4,getA] at hk
  subst hk
  simp only [c4,show ¬(4:Int)=1 by omega,show ¬(4:Int)=2 by omega,show ¬(4:Int)=3 by omega,if_true,if_false]
  exact ⟨true,(fun e=>by cases e),fun hq=>grant_ev s (errR r 0) r (may_wf h.srv.ls) hq⟩
 by_cases c5:r.kind=5
 ·simp [c5,getA] at hk
  subst hk
  simp only [c5,show ¬(5:Int)=1 by omega,show ¬(5:Int)=2 by omega,show ¬(5:Int)=3 by omega,show ¬(5:Int)=4 by omega,if_true,if_false]
  exact ⟨true,(fun e=>by cases e),fun hq=>keep_ev s (errR r 0) r (may_small h.srv.ls) hq⟩
 by_cases c6:r.kind=6
 ·simp [c6,getA] at hk
  subst hk
  simp only [c6,show ¬(6:Int)=1 by omega,show ¬(6:Int)=2 by omega,show ¬(6:Int)=3 by omega,show ¬(6:Int)=4 by omega,show ¬(6:Int)=5 by omega,if_true,if_false]
  exact ⟨true,(fun e=>by cases e),fun hq=>revoke_ev s (errR r 0) r hf hq⟩
 by_cases c7:r.kind=7
 ·simp [c7,getA] at hk
  subst hk
  simp only [c7,show ¬(7:Int)=1 by omega,show ¬(7:Int)=2 by omega,show ¬(7:Int)=3 by omega,show ¬(7:Int)=4 by omega,show ¬(7:Int)=5 by omega,show ¬(7:Int)=6 by omega,if_true,if_false]
  exact ⟨true,(fun e=>by cases e),fun hq=>compact_ev s (errR r 0) r hs hq⟩
 ·exfalso
  simp [getA,Ne.symm c1,Ne.symm c2,Ne.symm c3,Ne.symm c4,Ne.symm c5,Ne.symm c6,Ne.symm c7] at hk
def doP (s:Server) (r:Req):Server×Reply :=
 if reqOk r=true then
  if r.once=true∧(lookP s.ms.l.l s.ms.old.l r.who r.seq).2.1=true then (s,(lookP s.ms.l.l s.ms.old.l r.who r.seq).1)
  else if r.once=true∧(lookP s.ms.l.l s.ms.old.l r.who r.seq).2.2 ≠ 0 then (s,errR r (lookP s.ms.l.l s.ms.old.l r.who r.seq).2.2)
  else if (actR s r).1 ≠ 0 then (s,errR r (actR s r).1)
  else if r.once=true then (⟨(actR s r).2.1.st,(actR s r).2.1.ls,keepM (actR s r).2.1.ms r.who r.seq (actR s r).2.2,(actR s r).2.1.clock⟩,(actR s r).2.2)
  else ((actR s r).2.1,(actR s r).2.2)
 else (s,errR r 1)
theorem reqOk_len {r:Req} (h:reqOk r=true):r.iff.l.length≤4∧r.thn.l.length≤4∧r.els.l.length≤4:=by
 unfold reqOk cmpsOk mutsOk at h
 simp only [Bool.and_eq_true,decide_eq_true_eq] at h
 exact ⟨h.1.1.2.1,h.1.2.1,h.2.1⟩
theorem actR_ms (s:Server) (r:Req):(actR s r).2.1.ms=s.ms:=by
 unfold actR
 repeat' split
 all_goals first | rfl | exact (sweepS_clock s r.lease).2
theorem fnK_none {s:Server} {r:Req} (h:fnK r.kind=none):actR s r=(1,s,errR r 0):=by
 unfold fnK kindsM at h
 simp only [getA] at h
 repeat (split at h;· cases h)
 unfold actR
 simp_all [Ne.symm,eq_comm]
theorem SDo_ev {s:Server} {r:Req} (h:DoOk s r) (H:List Blk):EvF tab 17 [A s.c,A r.c] H=some ⟨.tup [A (doP s r).1.c,A (doP s r).2.c],[],[]⟩:=by
 have m1:=fun H=>MayAsk_ev r (rl h.rw) H
 have mR:=fun e b=>refuse_ev s r e (H:=H ++ .cells (s.c.map .g) :: .cells (r.c.map .g)::b) (p:=H.length) (q:=H.length+1) (by rw [List.getElem?_append_right (by omega),Nat.sub_self];rfl) (by rw [List.getElem?_append_right (by omega),Nat.add_sub_cancel_left];rfl)
 have m2:=fun H=>Look_ev s.ms r.who r.seq h.mw (by have:=h.ml;omega) H
 have m3:=fun H=>kinds_ev H
 have m4:=get_kinds r.kind
 have hz:=lookP_z s.ms.l.l s.ms.old.l r.who r.seq
 refine EvF_walk t17 (by simp) ?_
 unfold doP
 by_cases hok:reqOk r=true
 case neg =>
  rw [Bool.not_eq_true] at hok
  rw [hok] at m1 ⊢
  simp only [Bool.false_eq_true,if_false]
  obtain ⟨⟨srev,slow,sbase,slog⟩,⟨lnext,ll⟩,⟨ml,mo⟩,clock⟩:=s
  obtain ⟨rkind,rwho,rseq,ronce,rkey,rvalue,rlease,rrev,rttl,rtoken,riff,rthn,rels⟩:=r
  simp only [A,errR,Server.c,Req.c,Reply.c,KVs.g,Evs.g,Sl.g_nil,List.map_cons,List.map_nil] at m1 mR ⊢
  generalize Sl.g 6 KV.c sbase=G1 at mR ⊢
  generalize Sl.g 8 Ev.c slog=G2 at mR ⊢
  generalize LeaseL.g ll=G3 at mR ⊢
  generalize MemoL.g ml=G4 at mR ⊢
  generalize Floors.g mo=G5 at mR ⊢
  generalize Cmps.g riff=R1 at m1 mR ⊢
  generalize Muts.g rthn=R2 at m1 mR ⊢
  generalize Muts.g rels=R3 at m1 mR ⊢
  simp -implicitDefEqProofs [m1,mR]
 have hl:=reqOk_len hok
 rw [if_pos hok]
 rw [hok] at m1
 obtain ⟨⟨lr,li,le⟩,hlk⟩:∃v,lookP s.ms.l.l s.ms.old.l r.who r.seq=v:=⟨_,rfl⟩
 rw [hlk] at m2 hz ⊢
 simp only at m2 hz ⊢
 cases honce:r.once with
 | true =>
  cases li with
  | true =>
   have:=hz rfl
   subst this
   simp only [and_self,if_true]
   obtain ⟨⟨srev,slow,sbase,slog⟩,⟨lnext,ll⟩,⟨ml,mo⟩,clock⟩:=s
   obtain ⟨rkind,rwho,rseq,ronce,rkey,rvalue,rlease,rrev,rttl,rtoken,riff,rthn,rels⟩:=r
   obtain ⟨q1,q2,q3,q4,q5,q6,q7,q8,q9⟩:=lr
   simp only at honce
   subst honce
   simp only [A,errR,Server.c,Memos.c,Req.c,Reply.c,KVs.g,Evs.g,Sl.g_nil,List.map_cons,List.map_nil,List.cons_append,List.nil_append] at m1 m2 mR ⊢
   generalize Sl.g 6 KV.c sbase=G1 at mR ⊢
   generalize Sl.g 8 Ev.c slog=G2 at mR ⊢
   generalize LeaseL.g ll=G3 at mR ⊢
   generalize MemoL.g ml=G4 at m2 mR ⊢
   generalize Floors.g mo=G5 at m2 mR ⊢
   generalize Cmps.g riff=R1 at m1 mR ⊢
   generalize Muts.g rthn=R2 at m1 mR ⊢
   generalize Muts.g rels=R3 at m1 mR ⊢
   generalize Sl.g 6 KV.c q8=G11 at m2 ⊢
   generalize Sl.g 8 Ev.c q9=G12 at m2 ⊢
   simp -implicitDefEqProofs [m1,m2,mR]
  | false =>
  by_cases hle:le=0
  case neg =>
   simp only [Bool.false_eq_true,and_false,if_false,hle,ne_eq,not_false_eq_true,and_self,if_true]
   obtain ⟨⟨srev,slow,sbase,slog⟩,⟨lnext,ll⟩,⟨ml,mo⟩,clock⟩:=s
   obtain ⟨rkind,rwho,rseq,ronce,rkey,rvalue,rlease,rrev,rttl,rtoken,riff,rthn,rels⟩:=r
   obtain ⟨q1,q2,q3,q4,q5,q6,q7,q8,q9⟩:=lr
   simp only at honce
   subst honce
   simp only [A,errR,Server.c,Memos.c,Req.c,Reply.c,KVs.g,Evs.g,Sl.g_nil,List.map_cons,List.map_nil,List.cons_append,List.nil_append] at m1 m2 mR ⊢
   generalize Sl.g 6 KV.c sbase=G1 at mR ⊢
   generalize Sl.g 8 Ev.c slog=G2 at mR ⊢
   generalize LeaseL.g ll=G3 at mR ⊢
   generalize MemoL.g ml=G4 at m2 mR ⊢
   generalize Floors.g mo=G5 at m2 mR ⊢
   generalize Cmps.g riff=R1 at m1 mR ⊢
   generalize Muts.g rthn=R2 at m1 mR ⊢
   generalize Muts.g rels=R3 at m1 mR ⊢
   generalize Sl.g 6 KV.c q8=G11 at m2 ⊢
   generalize Sl.g 8 Ev.c q9=G12 at m2 ⊢
   simp -implicitDefEqProofs [m1,m2,mR,hle]
  subst hle
  simp only [Bool.false_eq_true,and_false,if_false,ne_eq,not_true_eq_false]
  have hms:=actR_ms s r
  have mK:=fun H=>Keep_ev s.ms r.who r.seq (actR s r).2.2 h.mw (by have:=h.ml;omega) H
  cases hk:fnK r.kind with
  | none =>
   have ha:=fnK_none (s:=s) hk
   rw [ha]
   rw [hk] at m4
   simp only [Option.map_none,Option.getD_none,Option.isSome_none] at m4
   clear h hms mK ha hk
   obtain ⟨⟨srev,slow,sbase,slog⟩,⟨lnext,ll⟩,⟨ml,mo⟩,clock⟩:=s
   obtain ⟨rkind,rwho,rseq,ronce,rkey,rvalue,rlease,rrev,rttl,rtoken,riff,rthn,rels⟩:=r
   simp only at honce
   subst honce
   simp only [A,errR,Server.c,Memos.c,Req.c,Reply.c,KVs.g,Evs.g,Sl.g_nil,List.map_cons,List.map_nil,List.cons_append,List.nil_append] at m1 m2 mR ⊢
   generalize hG1:Sl.g 6 KV.c sbase=G1 at mR ⊢
   generalize hG2:Sl.g 8 Ev.c slog=G2 at mR ⊢
   generalize hG3:LeaseL.g ll=G3 at mR ⊢
   generalize hG4:MemoL.g ml=G4 at m2 mR ⊢
   generalize hG5:Floors.g mo=G5 at m2 mR ⊢
   generalize Cmps.g riff=R1 at m1 mR ⊢
   generalize Muts.g rthn=R2 at m1 mR ⊢
   generalize Muts.g rels=R3 at m1 mR ⊢
   simp -implicitDefEqProofs [m1,m2,m3,m4,mR,hG1,hG2,hG3,hG4,hG5,Server.c,Reply.c]
  | some k =>
  obtain ⟨u,hu,hA⟩:=act_ev h (by omega) hk
  rw [hk] at m4
  simp only [Option.map_some,Option.getD_some,Option.isSome_some] at m4
  clear h
  generalize hkm:keepM s.ms r.who r.seq (actR s r).2.2=KM at mK
  generalize keepE s.ms r.who r.seq=KE at mK
  generalize actR s r=ar at *
  obtain ⟨e,s',p'⟩:=ar
  simp only at hms hu hA mK hkm ⊢
  rw [hms,hkm]
  have hA2:=fun b2 b3 b4 b5 b6 b7 b8 b9 b10 b11 b12 b13 b14=>hA (H:=H++[.cells (s.c.map .g),.cells (r.c.map .g),b2,b3,b4,b5,b6,b7,b8,b9,b10,b11,b12,b13,b14,actC s (errR r 0)]) (q:=H.length+15) (by rw [List.getElem?_append_right (by omega),Nat.add_sub_cancel_left];rfl)
  clear hA
  obtain ⟨⟨srev,slow,sbase,slog⟩,⟨lnext,ll⟩,⟨ml,mo⟩,clock⟩:=s
  obtain ⟨rkind,rwho,rseq,ronce,rkey,rvalue,rlease,rrev,rttl,rtoken,riff,rthn,rels⟩:=r
  obtain ⟨⟨srev',slow',sbase',slog'⟩,⟨lnext',ll'⟩,⟨ml',mo'⟩,clock'⟩:=s'
  obtain ⟨q1,q2,q3,q4,q5,q6,q7,q8,q9⟩:=p'
  obtain ⟨km,ko⟩:=KM
  simp only at honce hms
  subst honce
  cases hms
  simp only [A,actC,errR,Server.c,Store.c,Leases.c,Memos.c,Req.c,Reply.c,KVs.g,Evs.g,Sl.g_nil,List.map_cons,List.map_nil,List.cons_append,List.nil_append] at m1 m2 mR hA2 mK ⊢
  generalize hG1:Sl.g 6 KV.c sbase=G1 at mR hA2 ⊢
  generalize hG2:Sl.g 8 Ev.c slog=G2 at mR hA2 ⊢
  generalize hG3:LeaseL.g ll=G3 at mR hA2 ⊢
  generalize hG4:MemoL.g ml=G4 at m2 mR hA2 mK ⊢
  generalize hG5:Floors.g mo=G5 at m2 mR hA2 mK ⊢
  generalize Cmps.g riff=R1 at m1 mR hA2 ⊢
  generalize Muts.g rthn=R2 at m1 mR hA2 ⊢
  generalize Muts.g rels=R3 at m1 mR hA2 ⊢
  generalize hG6:Sl.g 6 KV.c sbase'=G6 at hA2 ⊢
  generalize hG7:Sl.g 8 Ev.c slog'=G7 at hA2 ⊢
  generalize hG8:LeaseL.g ll'=G8 at hA2 ⊢
  generalize hG9:MemoL.g km=G9 at mK ⊢
  generalize hG10:Floors.g ko=G10 at mK ⊢
  generalize hG11:Sl.g 6 KV.c q8=G11 at hA2 mK ⊢
  generalize hG12:Sl.g 8 Ev.c q9=G12 at hA2 mK ⊢
  by_cases he:e=0
  ·subst he
   have hu1:u=true:=by cases u;exact absurd rfl (hu rfl);rfl
   subst hu1
   simp only [if_true] at hA2
   simp -implicitDefEqProofs [m1,m2,m3,m4,hA2,mK,hG1,hG2,hG3,hG4,hG5,hG6,hG7,hG8,hG9,hG10,hG11,hG12,Server.c,Reply.c]
  ·cases u
   ·simp only [Bool.false_eq_true,if_false] at hA2
    simp -implicitDefEqProofs [m1,m2,m3,m4,hA2,mR,he,hG1,hG2,hG3,hG4,hG5,Server.c,Reply.c]
   ·simp only [if_true] at hA2
    simp -implicitDefEqProofs [m1,m2,m3,m4,hA2,mR,he,hG1,hG2,hG3,hG4,hG5,Server.c,Reply.c]
 | false =>
  simp only [Bool.false_eq_true,false_and,if_false]
  have hms:=actR_ms s r
  have mK:=fun H=>Keep_ev s.ms r.who r.seq (actR s r).2.2 h.mw (by have:=h.ml;omega) H
  cases hk:fnK r.kind with
  | none =>
   have ha:=fnK_none (s:=s) hk
   rw [ha]
   rw [hk] at m4
   simp only [Option.map_none,Option.getD_none,Option.isSome_none] at m4
   clear h hms mK ha hk
   obtain ⟨⟨srev,slow,sbase,slog⟩,⟨lnext,ll⟩,⟨ml,mo⟩,clock⟩:=s
   obtain ⟨rkind,rwho,rseq,ronce,rkey,rvalue,rlease,rrev,rttl,rtoken,riff,rthn,rels⟩:=r
   simp only at honce
   subst honce
   simp only [A,errR,Server.c,Memos.c,Req.c,Reply.c,KVs.g,Evs.g,Sl.g_nil,List.map_cons,List.map_nil,List.cons_append,List.nil_append] at m1 m2 mR ⊢
   generalize hG1:Sl.g 6 KV.c sbase=G1 at mR ⊢
   generalize hG2:Sl.g 8 Ev.c slog=G2 at mR ⊢
   generalize hG3:LeaseL.g ll=G3 at mR ⊢
   generalize hG4:MemoL.g ml=G4 at m2 mR ⊢
   generalize hG5:Floors.g mo=G5 at m2 mR ⊢
   generalize Cmps.g riff=R1 at m1 mR ⊢
   generalize Muts.g rthn=R2 at m1 mR ⊢
   generalize Muts.g rels=R3 at m1 mR ⊢
   simp -implicitDefEqProofs [m1,m2,m3,m4,mR,hG1,hG2,hG3,hG4,hG5,Server.c,Reply.c]
  | some k =>
  obtain ⟨u,hu,hA⟩:=act_ev h (by omega) hk
  rw [hk] at m4
  simp only [Option.map_some,Option.getD_some,Option.isSome_some] at m4
  clear h
  generalize hkm:keepM s.ms r.who r.seq (actR s r).2.2=KM at mK
  generalize keepE s.ms r.who r.seq=KE at mK
  generalize actR s r=ar at *
  obtain ⟨e,s',p'⟩:=ar
  simp only at hms hu hA mK hkm ⊢
  have hA2:=fun b2 b3 b4 b5 b6 b7 b8 b9 b10 b11=>hA (H:=H++[.cells (s.c.map .g),.cells (r.c.map .g),b2,b3,b4,b5,b6,b7,b8,b9,b10,b11,actC s (errR r 0)]) (q:=H.length+12) (by rw [List.getElem?_append_right (by omega),Nat.add_sub_cancel_left];rfl)
  clear hA
  obtain ⟨⟨srev,slow,sbase,slog⟩,⟨lnext,ll⟩,⟨ml,mo⟩,clock⟩:=s
  obtain ⟨rkind,rwho,rseq,ronce,rkey,rvalue,rlease,rrev,rttl,rtoken,riff,rthn,rels⟩:=r
  obtain ⟨⟨srev',slow',sbase',slog'⟩,⟨lnext',ll'⟩,⟨ml',mo'⟩,clock'⟩:=s'
  obtain ⟨q1,q2,q3,q4,q5,q6,q7,q8,q9⟩:=p'
  obtain ⟨km,ko⟩:=KM
  simp only at honce hms
  subst honce
  cases hms
  simp only [A,actC,errR,Server.c,Store.c,Leases.c,Memos.c,Req.c,Reply.c,KVs.g,Evs.g,Sl.g_nil,List.map_cons,List.map_nil,List.cons_append,List.nil_append] at m1 m2 mR hA2 mK ⊢
  generalize hG1:Sl.g 6 KV.c sbase=G1 at mR hA2 ⊢
  generalize hG2:Sl.g 8 Ev.c slog=G2 at mR hA2 ⊢
  generalize hG3:LeaseL.g ll=G3 at mR hA2 ⊢
  generalize hG4:MemoL.g ml=G4 at m2 mR hA2 mK ⊢
  generalize hG5:Floors.g mo=G5 at m2 mR hA2 mK ⊢
  generalize Cmps.g riff=R1 at m1 mR hA2 ⊢
  generalize Muts.g rthn=R2 at m1 mR hA2 ⊢
  generalize Muts.g rels=R3 at m1 mR hA2 ⊢
  generalize hG6:Sl.g 6 KV.c sbase'=G6 at hA2 ⊢
  generalize hG7:Sl.g 8 Ev.c slog'=G7 at hA2 ⊢
  generalize hG8:LeaseL.g ll'=G8 at hA2 ⊢
  generalize hG9:MemoL.g km=G9 at mK ⊢
  generalize hG10:Floors.g ko=G10 at mK ⊢
  generalize hG11:Sl.g 6 KV.c q8=G11 at hA2 mK ⊢
  generalize hG12:Sl.g 8 Ev.c q9=G12 at hA2 mK ⊢
  by_cases he:e=0
  ·subst he
   have hu1:u=true:=by cases u;exact absurd rfl (hu rfl);rfl
   subst hu1
   simp only [if_true] at hA2
   simp -implicitDefEqProofs [m1,m2,m3,m4,hA2,mK,hG1,hG2,hG3,hG4,hG5,hG6,hG7,hG8,hG9,hG10,hG11,hG12,Server.c,Reply.c]
  ·cases u
   ·simp only [Bool.false_eq_true,if_false] at hA2
    simp -implicitDefEqProofs [m1,m2,m3,m4,hA2,mR,he,hG1,hG2,hG3,hG4,hG5,Server.c,Reply.c]
   ·simp only [if_true] at hA2
    simp -implicitDefEqProofs [m1,m2,m3,m4,hA2,mR,he,hG1,hG2,hG3,hG4,hG5,Server.c,Reply.c]
end Go.Proofs.YtndfdnlbljhlgaaGreat
end
section
namespace Go.Proofs.YtndfdnlbljhlgaaGreat
open Go Go.AM Go.Proofs
set_option maxRecDepth 4000
set_option linter.unusedSimpArgs false
set_option linter.unusedVariables false
theorem LSame_ev (a b:Leases) (hn:a.next=b.next) (hab:a.l.l=b.l.l) (hl:b.l.l.length≤9223372036854775807) (H:List Blk):EvF tab 39 [A a.c,A b.c] H=some ⟨B true,[],[]⟩:=by
 obtain ⟨n,a⟩:=a
 obtain ⟨n',b⟩:=b
 simp only at hn hab hl
 subst hn
 have hw:loopE (EvF tab) H L39_0 [2,3,5] ⟨[(2,.ptr H.length 0),(3,.ptr (H.length+1) 0),(5,I 0)],[],[.cells [I n,.g (LeaseL.g a)],.cells [I n,.g (LeaseL.g b)]]⟩ =
   some (.exit 0,⟨[(2,.ptr H.length 0),(3,.ptr (H.length+1) 0),(5,I b.l.length),(24,B false)],[],[.cells [I n,.g (LeaseL.g a)],.cells [I n,.g (LeaseL.g b)]]⟩):=by
  refine loop_cnt b.l.length (fun k=>⟨[(2,.ptr H.length 0),(3,.ptr (H.length+1) 0),(5,I k)],[],[.cells [I n,.g (LeaseL.g a)],.cells [I n,.g (LeaseL.g b)]]⟩) _ (by simp) (fun k hk => ?_) ?_
  ·delta L39_0
   have e2:=wrap_succ hk hl
   rcases Sl.both hab with ⟨l,⟨rfl,rfl⟩ | ⟨rfl,rfl,rfl⟩ | ⟨rfl,rfl,rfl⟩ | ⟨rfl,rfl,rfl⟩⟩
   ·simp only [Sl.l_of] at hk
    obtain ⟨x,hx⟩:∃x,l[k]=x:=⟨_,rfl⟩
    simp -implicitDefEqProofs [hk,hx,Lease.c,e2]
   all_goals simp at hk
  ·delta L39_0
   rcases Sl.both hab with ⟨l,⟨rfl,rfl⟩ | ⟨rfl,rfl,rfl⟩ | ⟨rfl,rfl,rfl⟩ | ⟨rfl,rfl,rfl⟩⟩ <;> simp -implicitDefEqProofs
 refine EvF_walk t39 (by simp) ?_
 rcases Sl.both hab with ⟨l,⟨rfl,rfl⟩ | ⟨rfl,rfl,rfl⟩ | ⟨rfl,rfl,rfl⟩ | ⟨rfl,rfl,rfl⟩⟩ <;> simp at hw <;> simp -implicitDefEqProofs [A,Leases.c,hw]
end Go.Proofs.YtndfdnlbljhlgaaGreat
end
section
namespace Go.Proofs.YtndfdnlbljhlgaaGreat
open Go Go.AM Go.Proofs
set_option maxRecDepth 20000
set_option maxHeartbeats 2000000
set_option linter.unusedSimpArgs false
set_option linter.unusedVariables false
theorem Server.inv {gs:List GV} (h:HasTy (.p (.p (.i .i64) (.p (.i .i64) (.p (.sl 6 tKV) (.p (.sl 8 tEv) .u)))) (.p tLeases (.p (.p (.sl 11 (.p (.i .i64) (.p (.i .i64) (.p tReply .u)))) (.p (.sl 2 (.p (.i .i64) (.p (.i .i64) .u))) .u)) (.p (.i .i64) .u)))) gs):∃x:Server,x.wf∧gs=x.c:=by
 obtain ⟨_,_,rfl,h1,_,_,rfl,h2,_,_,rfl,⟨_,_,rfl,h3,_,_,rfl,h4,rfl⟩,_,_,rfl,⟨c,rfl,hc⟩,rfl⟩:=h
 obtain ⟨a,wa,rfl⟩:=Store.inv h1
 obtain ⟨b,wb,rfl⟩:=Leases.inv h2
 obtain ⟨l,l1,l2,rfl⟩:=h3.sl_inv (fun _=>Memo.inv)
 obtain ⟨o,o1,o2,rfl⟩:=h4.sl_inv (fun _=>Floor.inv)
 exact ⟨⟨a,b,⟨l,o⟩,c⟩,⟨wa,wb,⟨⟨l1,l2⟩,o1,o2⟩,hc⟩,by simp [Server.c,Store.c,Leases.c]⟩
structure SameV (a b:Server):Prop where
 st:sameS a.st b.st
 next:a.ls.next=b.ls.next
 ls:a.ls.l.l=b.ls.l.l
 ml:a.ms.l.l=b.ms.l.l
 mo:a.ms.old.l=b.ms.old.l
 ck:a.clock=b.clock
theorem SameV.refl (a:Server):SameV a a:=⟨⟨rfl,rfl,rfl,rfl⟩,rfl,rfl,rfl,rfl,rfl⟩
theorem SameV_ev (a b:Server) (h:SameV a b) (hs:smallS b.st) (hl:b.ls.l.l.length≤9223372036854775807) (wm:b.ms.wf) (H:List Blk):EvF tab 14 [A a.c,A b.c] H=some ⟨B true,[],[]⟩:=by
 have m1:=fun H=>SameS_ev a.st b.st h.st hs H
 have m2:=fun H=>LSame_ev a.ls b.ls h.next h.ls hl H
 have m3:=fun H=>SameM_ev a.ms b.ms h.ml h.mo wm H
 have hc:=h.ck
 refine EvF_walk t14 (by simp) ?_
 obtain ⟨⟨srev,slow,sbase,slog⟩,⟨lnext,ll⟩,⟨ml,mo⟩,clock⟩:=a
 obtain ⟨⟨srev',slow',sbase',slog'⟩,⟨lnext',ll'⟩,⟨ml',mo'⟩,clock'⟩:=b
 simp only at hc
 subst hc
 clear h hs hl wm
 simp only [A,Store.c,Leases.c,Memos.c,Server.c,List.map_cons,List.map_nil] at m1 m2 m3 ⊢
 generalize KVs.g sbase=G1 at m1 ⊢
 generalize Evs.g slog=G2 at m1 ⊢
 generalize LeaseL.g ll=G3 at m2 ⊢
 generalize MemoL.g ml=G4 at m3 ⊢
 generalize Floors.g mo=G5 at m3 ⊢
 generalize KVs.g sbase'=G6 at m1 ⊢
 generalize Evs.g slog'=G7 at m1 ⊢
 generalize LeaseL.g ll'=G8 at m2 ⊢
 generalize MemoL.g ml'=G9 at m3 ⊢
 generalize Floors.g mo'=G10 at m3 ⊢
 simp -implicitDefEqProofs [m1,m2,m3]
def fewV (s:Server):Bool:=fewS s.st&&(decide (s.ls.l.l.length≤20)&&fewM s.ms)
theorem FewV_ev (s:Server) (w:s.wf) (H:List Blk):EvF tab 10 [A s.c] H=some ⟨B (fewV s),[],[]⟩:=by
 obtain ⟨w1,w2,w3,w4⟩:=w
 have m1:=fun H=>FewS_ev s.st w1 H
 have m3:=fun H=>FewM_ev s.ms w3 H
 refine EvF_walk t10 (by simp) ?_
 have hv:∀h st,lenV h st (.g (LeaseL.g s.ls.l))=some s.ls.l.l.length:=fun h st=>lenV_Sl ..
 unfold fewV
 generalize fewS s.st=b1 at m1 ⊢
 generalize fewM s.ms=b3 at m3 ⊢
 generalize s.ls.l.l.length=n at hv ⊢
 obtain ⟨⟨srev,slow,sbase,slog⟩,⟨lnext,ll⟩,⟨ml,mo⟩,clock⟩:=s
 simp only [A,Store.c,Leases.c,Memos.c,Server.c,List.map_cons,List.map_nil] at m1 m3 hv ⊢
 generalize KVs.g sbase=G1 at m1 ⊢
 generalize Evs.g slog=G2 at m1 ⊢
 generalize LeaseL.g ll=G3 at hv ⊢
 generalize MemoL.g ml=G4 at m3 ⊢
 generalize Floors.g mo=G5 at m3 ⊢
 cases b1
 ·simp -implicitDefEqProofs [m1]
 ·by_cases c:n≤20
  ·simp -implicitDefEqProofs [m1,m3,hv,c,show (n:Int)≤20 by omega]
  ·simp -implicitDefEqProofs [m1,m3,hv,c,show ¬(n:Int)≤20 by omega]
theorem fewV_size {s:Server} (h:fewV s=true):fewS s.st=true∧s.ls.l.l.length≤20∧s.ms.l.l.length≤40∧s.ms.old.l.length≤20:=by
 unfold fewV at h
 simp only [Bool.and_eq_true,decide_eq_true_eq] at h
 exact ⟨h.1,h.2.1,fewM_small h.2.2⟩
def few10 (s:Server) (r:Req):Bool:=fewV s&&(mayV s&&shortReq r)
theorem few10_ev (s:Server) (r:Req) (w:s.wf) (wr:r.wf) (H:List Blk):EvF tab 21 [A s.c,A r.c] H=some ⟨B (few10 s r),[],[]⟩:=by
 have m1:=fun H=>FewV_ev s w H
 have m3:=fun H=>Short_ev r wr H
 refine EvF_walk t21 (by simp) ?_
 unfold few10
 cases hf:fewV s
 ·rw [hf] at m1
  obtain ⟨⟨srev,slow,sbase,slog⟩,⟨lnext,ll⟩,⟨ml,mo⟩,clock⟩:=s
  obtain ⟨rkind,rwho,rseq,ronce,rkey,rvalue,rlease,rrev,rttl,rtoken,riff,rthn,rels⟩:=r
  simp only [A,Server.c,Req.c,List.map_cons,List.map_nil] at m1 ⊢
  simp -implicitDefEqProofs [m1]
 ·rw [hf] at m1
  obtain ⟨_,_,h1,h2⟩:=fewV_size hf
  have m2:=fun H=>SMay2_ev s w (by omega) H
  generalize mayV s=b2 at m2 ⊢
  generalize shortReq r=b3 at m3 ⊢
  obtain ⟨⟨srev,slow,sbase,slog⟩,⟨lnext,ll⟩,⟨ml,mo⟩,clock⟩:=s
  obtain ⟨rkind,rwho,rseq,ronce,rkey,rvalue,rlease,rrev,rttl,rtoken,riff,rthn,rels⟩:=r
  simp only [A,Server.c,Req.c,List.map_cons,List.map_nil] at m1 m2 m3 ⊢
  generalize KVs.g sbase=G1 at m1 m2 ⊢
  generalize Evs.g slog=G2 at m1 m2 ⊢
  generalize LeaseL.g ll=G3 at m1 m2 ⊢
  generalize MemoL.g ml=G4 at m1 m2 ⊢
  generalize Floors.g mo=G5 at m1 m2 ⊢
  generalize Cmps.g riff=R1 at m3 ⊢
  generalize Muts.g rthn=R2 at m3 ⊢
  generalize Muts.g rels=R3 at m3 ⊢
  cases b2 <;> simp -implicitDefEqProofs [m1,m2,m3]
structure VOk (s:Server):Prop where
 st:SOk s.st
 ls:mayS s.ls=true
 ms:MayOk s.ms.l.l s.ms.old.l
 ck:0≤s.clock∧s.clock≤1099511627775
 rep:∀x∈s.ms.l.l,repIn x=true
 held:∀x∈nowP s.st,heldL s.ls.l.l x=true
theorem mayV_iff {s:Server}:mayV s=true↔VOk s:=by
 unfold mayV timeIn
 simp only [Bool.and_eq_true,decide_eq_true_eq,allP_iff,storeOk_iff,mayMe_iff]
 constructor
 ·rintro ⟨h1,h2,h3,h4,h5,h6⟩;exact ⟨h1,h2,h3,h4,h5,h6⟩
 ·rintro ⟨h1,h2,h3,h4,h5,h6⟩;exact ⟨h1,h2,h3,h4,h5,h6⟩
theorem VOk.srv {s:Server} (h:VOk s):Srv0 s:=⟨h.st,h.ls⟩
end Go.Proofs.YtndfdnlbljhlgaaGreat
end
section
namespace Go.Proofs.YtndfdnlbljhlgaaGreat
open Go Go.AM Go.Proofs
set_option maxRecDepth 20000
set_option maxHeartbeats 4000000
set_option linter.unusedSimpArgs false
set_option linter.unusedVariables false
def cmpMade (k:Bs) (rev:Int):Cmp:=⟨k,1,1,rev,[]⟩
def txnPut (k v:Bs) (lease:Int):Txn:=⟨.of [cmpMade k 0],.of [⟨false,k,v,lease⟩],.nil⟩
theorem Absent2_ev (k:Bs) (H:List Blk):EvF tab 49 [T k] H=some ⟨A (cmpMade k 0).c,[],[]⟩:=by
 refine EvF_walk t49 (by simp) ?_
 simp -implicitDefEqProofs [A,cmpMade,Cmp.c]
theorem Put2_ev (k v:Bs) (n:Int) (H:List Blk):EvF tab 19 [T k,T v,I n] H=some ⟨A (txnPut k v n).c,[],[]⟩:=by
 have h1:=fun H=>Absent2_ev k H
 refine EvF_walk t19 (by simp) ?_
 simp only [A,cmpMade,Cmp.c,List.map_cons,List.map_nil] at h1
 simp -implicitDefEqProofs [A,cmpMade,Cmp.c,Mut.c,txnPut,Txn.c,h1,chunk]
end Go.Proofs.YtndfdnlbljhlgaaGreat
end
section
namespace Go.Proofs.YtndfdnlbljhlgaaGreat
open Go Go.AM Go.Proofs
set_option maxRecDepth 20000
set_option maxHeartbeats 4000000
set_option linter.unusedSimpArgs false
set_option linter.unusedVariables false
def sortQ (l:List Int):List Int:=l.foldl (fun s n=>insL n s) []
theorem sortL_c (l:List Int):sortL l=sortQ l:=by
 have:=insL_fold l []
 rw [sortL_nil,List.nil_append] at this
 exact this.symm
def lookC (l:List Memo) (old:List Floor) (w s:Int):Reply×Bool×Int :=
 match lookF l w s with
 | some x=>(x.rep,true,0)
 | none=>if s≤floorP old w then (rep0,false,7) else if 8≤(sortQ (whoL l old)).length∧w∉sortQ (whoL l old) then (rep0,false,4) else (rep0,false,0)
theorem lookP_c (l:List Memo) (old:List Floor) (w s:Int):lookP l old w s=lookC l old w s:=by
 unfold lookP lookC whosP
 rw [sortL_c]
 cases lookF l w s <;> rfl
def keepC (m:Memos) (w q:Int) (r:Reply):Memos :=
 if (lookC m.l.l m.old.l w q).2.1=true∨(lookC m.l.l m.old.l w q).2.2 ≠ 0 then m else
 if (sortQ (seqL (keepL1 m.l.l w q r) w)).length≤4 then ⟨.of (keepL1 m.l.l w q r),m.old⟩ else
  ⟨.of (delP (keepL1 m.l.l w q r) w (headI (sortQ (seqL (keepL1 m.l.l w q r) w)))),.of (raiseP m.old.l w (headI (sortQ (seqL (keepL1 m.l.l w q r) w))))⟩
theorem keepM_c (m:Memos) (w q:Int) (r:Reply):keepM m w q r=keepC m w q r:=by
 unfold keepM keepC seqsP
 rw [lookP_c,sortL_c]
def mayC (l:List Memo) (old:List Floor):Bool:=match goFl old [] with | some F=>goMe F l [] []&&decide ((sortQ (whoL l old)).length≤8) | none=>false
theorem mayMe_c (l:List Memo) (old:List Floor):mayMe l old=mayC l old:=by
 unfold mayMe mayC whosP
 rw [sortL_c]
 cases goFl old [] <;> rfl
def doC (s:Server) (r:Req):Server×Reply :=
 if reqOk r=true then
  if r.once=true∧(lookC s.ms.l.l s.ms.old.l r.who r.seq).2.1=true then (s,(lookC s.ms.l.l s.ms.old.l r.who r.seq).1)
  else if r.once=true∧(lookC s.ms.l.l s.ms.old.l r.who r.seq).2.2 ≠ 0 then (s,errR r (lookC s.ms.l.l s.ms.old.l r.who r.seq).2.2)
  else if (actR s r).1 ≠ 0 then (s,errR r (actR s r).1)
  else if r.once=true then (⟨(actR s r).2.1.st,(actR s r).2.1.ls,keepC (actR s r).2.1.ms r.who r.seq (actR s r).2.2,(actR s r).2.1.clock⟩,(actR s r).2.2)
  else ((actR s r).2.1,(actR s r).2.2)
 else (s,errR r 1)
theorem doP_c (s:Server) (r:Req):doP s r=doC s r:=by
 unfold doP doC
 simp only [lookP_c,keepM_c]
theorem VNew_ev (H:List Blk):EvF tab 48 [] H=some ⟨A (Store.c ⟨0,0,.nil,.nil⟩),[],[]⟩:=by
 refine EvF_walk t48 (by simp) ?_
 simp -implicitDefEqProofs [A,Store.c]
def v0:Server:=⟨⟨0,0,.nil,.nil⟩,⟨0,.nil⟩,⟨.nil,.nil⟩,0⟩
theorem SNew_ev (H:List Blk):EvF tab 18 [] H=some ⟨A v0.c,[],[]⟩:=by
 have m1:=VNew_ev
 refine EvF_walk t18 (by simp) ?_
 simp only [A,Store.c,Server.c,v0,KVs.g,Evs.g,LeaseL.g,MemoL.g,Floors.g,Sl.g_nil,List.map_cons,List.map_nil] at m1 ⊢
 simp -implicitDefEqProofs [m1]
def rq (kind who seq:Int) (once:Bool) (key:Bs) (lease ttl:Int) (t:Txn):Req:=⟨kind,who,seq,once,key,[],lease,0,ttl,0,t.iff,t.thn,t.els⟩
def t0:Txn:=⟨.nil,.nil,.nil⟩
def pa:Reply:=⟨0,3,1,0,1,10,false,.nil,.nil⟩
def pb:Reply:=⟨0,3,2,1,0,0,true,.nil,.nil⟩
def ka:KV:=⟨[97],[118],1,1,1,1⟩
def v1:Server:=⟨⟨0,0,.nil,.nil⟩,⟨1,.of [⟨1,10,10⟩]⟩,⟨.of [⟨3,1,pa⟩],.nil⟩,0⟩
def v2:Server:=⟨⟨1,0,.nil,.of [⟨1,false,ka⟩]⟩,⟨1,.of [⟨1,10,10⟩]⟩,⟨.of [⟨3,1,pa⟩,⟨3,2,pb⟩],.nil⟩,0⟩
def v3:Server:=⟨⟨1,0,.nil,.of [⟨1,false,ka⟩]⟩,⟨1,.of [⟨1,10,10⟩]⟩,⟨.of [⟨3,1,pa⟩,⟨3,2,pb⟩],.nil⟩,9⟩
def v4:Server:=⟨⟨2,0,.nil,.of [⟨1,false,ka⟩,⟨2,true,ka⟩]⟩,⟨1,.nil⟩,⟨.of [⟨3,1,pa⟩,⟨3,2,pb⟩],.nil⟩,10⟩
def v5:Server:=⟨⟨0,0,.nil,.nil⟩,⟨0,.nil⟩,⟨.nil,.nil⟩,-1⟩
def ra:Req:=rq 4 3 1 true [] 0 10 t0
def rb:Req:=rq 2 3 2 true [] 0 0 (txnPut [97] [118] 1)
def rc2:Req:=rq 2 3 2 true [] 0 0 t0
def rd:Req:=rq 2 3 3 false [] 0 0 (txnPut [98] [118] 2)
def re:Req:=rq 1 0 9 false [97] 0 0 t0
def rf:Req:=rq 1 0 0 false [97] 0 0 t0
def rg2:Req:=rq 5 0 0 false [] 1 0 t0
def rh:Req:=rq 0 0 0 false [] 0 0 t0
theorem rq_wf {kind who seq:Int} {once:Bool} {key:Bs} {lease ttl:Int} {t:Txn} (h:(I64 kind∧I64 who∧I64 seq∧I64 lease∧I64 ttl)∧key.length≤9223372036854775807∧t.wf):(rq kind who seq once key lease ttl t).wf:=by
 obtain ⟨⟨h1,h2,h3,h4,h5⟩,h6,h7,h8,h9⟩:=h
 exact ⟨h1,h2,h3,h6,by simp [S64,rq],h4,by simp [I64,rq],h5,by simp [I64,rq],h7,h8,h9⟩
theorem ok10 {s:Server} {r:Req} (h1:storeOk s.st=true) (h2:mayS s.ls=true) (h3:s.ms.wf) (h4:s.ms.l.l.length+s.ms.old.l.length≤4000) (h5:r.wf):DoOk s r:=⟨⟨storeOk_iff.1 h1,h2⟩,h3,h4,h5⟩
theorem ms10:v0.ms.wf∧v1.ms.wf∧v2.ms.wf:=by
 simp [Memos.wf,v0,v1,v2,Memo.wf,Reply.wf,pa,pb,I64]
theorem live10 (H:List Blk):EvF tab 12 [] H=some ⟨.g (.bool true),[],[]⟩:=by
 obtain ⟨q0,q1,q2⟩:=ms10
 have m0:=SNew_ev
 have p1:=fun H=>Put2_ev [97] [118] 1 H
 have p2:=fun H=>Put2_ev [98] [118] 2 H
 have m1:=fun H=>SDo_ev (ok10 (s:=v0) (r:=ra) (by kernel_rfl) (by kernel_rfl) q0 (by simp [v0]) (rq_wf (by simp [I64,t0,Txn.wf]))) H
 have m2:=fun H=>SDo_ev (ok10 (s:=v1) (r:=rb) (by kernel_rfl) (by kernel_rfl) q1 (by simp [v1]) (rq_wf (by simp [I64,txnPut,cmpMade,Txn.wf,Cmp.wf,Mut.wf,S64]))) H
 have m3:=fun H=>SDo_ev (ok10 (s:=v2) (r:=rc2) (by kernel_rfl) (by kernel_rfl) q2 (by simp [v2]) (rq_wf (by simp [I64,t0,Txn.wf]))) H
 have m4:=fun H=>SDo_ev (ok10 (s:=v2) (r:=rd) (by kernel_rfl) (by kernel_rfl) q2 (by simp [v2]) (rq_wf (by simp [I64,txnPut,cmpMade,Txn.wf,Cmp.wf,Mut.wf,S64]))) H
 have m5:=fun H=>SDo_ev (ok10 (s:=v2) (r:=re) (by kernel_rfl) (by kernel_rfl) q2 (by simp [v2]) (rq_wf (by simp [I64,t0,Txn.wf]))) H
 have m6:=fun H=>Tick_ev v2 9 ⟨storeOk_iff.1 (by kernel_rfl),by kernel_rfl⟩ (by simp [v2]) (by simp [I64]) H
 have m7:=fun H=>Tick_ev v3 1 ⟨storeOk_iff.1 (by kernel_rfl),by kernel_rfl⟩ (by simp [v3]) (by simp [I64]) H
 have m8:=fun H=>SDo_ev (ok10 (s:=v4) (r:=rf) (by kernel_rfl) (by kernel_rfl) q2 (by simp [v4]) (rq_wf (by simp [I64,t0,Txn.wf]))) H
 have m9:=fun H=>SDo_ev (ok10 (s:=v4) (r:=rg2) (by kernel_rfl) (by kernel_rfl) q2 (by simp [v4]) (rq_wf (by simp [I64,t0,Txn.wf]))) H
 have m10:=fun H=>SDo_ev (ok10 (s:=v4) (r:=rh) (by kernel_rfl) (by kernel_rfl) q2 (by simp [v4]) (rq_wf (by simp [I64,t0,Txn.wf]))) H
 have m11:=fun H=>SameV_ev v2 v2 (.refl _) (by simp [smallS,v2]) (by simp [v2]) q2 H
 have m12:=fun H=>SMay_ev v4 ⟨by simp [Store.wf,v4,Ev.wf,KV.wf,ka,I64,S64],by simp [Leases.wf,v4,I64],q2,by simp [I64,v4]⟩ (by simp [v4]) H
 have m13:=fun H=>SMay_ev v5 ⟨by simp [Store.wf,v5,I64],by simp [Leases.wf,v5,I64],q0,by simp [I64,v5]⟩ (by simp [v5]) H
 have e12:mayV v4=true:=by unfold mayV;rw [mayMe_c];kernel_rfl
 have e13:mayV v5=false:=by unfold mayV;rw [mayMe_c];kernel_rfl
 rw [e12] at m12
 rw [e13] at m13
 simp only [doP_c,show doC v0 ra=(v1,pa) by kernel_rfl] at m1
 simp only [doP_c,show doC v1 rb=(v2,pb) by kernel_rfl] at m2
 simp only [doP_c,show doC v2 rc2=(v2,pb) by kernel_rfl] at m3
 simp only [doP_c,show doC v2 rd=(v2,errR rd 6) by kernel_rfl] at m4
 simp only [doP_c,show doC v2 re=(v2,⟨0,0,9,1,0,0,false,.of [ka],.nil⟩) by kernel_rfl] at m5
 simp only [show tickS v2 9=v3 by kernel_rfl] at m6
 simp only [show tickS v3 1=v4 by kernel_rfl] at m7
 simp only [doP_c,show doC v4 rf=(v4,⟨0,0,0,2,0,0,false,.nil,.nil⟩) by kernel_rfl] at m8
 simp only [doP_c,show doC v4 rg2=(v4,errR rg2 6) by kernel_rfl] at m9
 simp only [doP_c,show doC v4 rh=(v4,errR rh 1) by kernel_rfl] at m10
 simp only [A,Server.c,Reply.c,Req.c,v0,v1,v2,v3,v4,v5,pa,pb,ka,ra,rb,rc2,rd,re,rf,rg2,rh,rq,t0,errR,txnPut,cmpMade,Txn.c,Cmp.c,Mut.c,KV.c,Ev.c,Memo.c,Lease.c,KVs.g,Evs.g,LeaseL.g,MemoL.g,Floors.g,Cmps.g,Muts.g,Sl.g_of,Sl.g_nil,List.map_cons,List.map_nil] at p1 p2 m0 m1 m2 m3 m4 m5 m6 m7 m8 m9 m10 m11 m12 m13
 refine EvF_walk t12 (by simp) ?_
 simp -implicitDefEqProofs [p1,p2,m0,m1,m2,m3,m4,m5,m6,m7,m8,m9,m10,m11,m12,m13,pends]
end Go.Proofs.YtndfdnlbljhlgaaGreat
end
section
namespace Go.Proofs.YtndfdnlbljhlgaaGreat
open Go Go.AM Go.Proofs
set_option maxRecDepth 20000
set_option maxHeartbeats 2000000
set_option linter.unusedSimpArgs false
set_option linter.unusedVariables false
theorem fromP_at {l:List KV} {p:Bs} {k:Nat} {x:KV} (hk:k<l.length) (hx:l[k]=x) (hp:preP p x.key=true) :
  (fromP (l.take (k+1)) p).length=(fromP (l.take k) p).length+1∧(fromP (l.take k) p).length<(fromP l p).length∧(fromP l p)[(fromP (l.take k) p).length]? = some x:=by
 have e:l=l.take k++x::l.drop (k+1):=by rw [←hx];simp
 have e1:fromP l p=fromP (l.take k) p++x::fromP (l.drop (k+1)) p:=by
  conv=>lhs;rw [e]
  unfold fromP
  rw [List.filter_append,List.filter_cons,if_pos hp]
 have e2:fromP (l.take (k+1)) p=fromP (l.take k) p++[x]:=by
  unfold fromP
  rw [List.take_succ_eq_append_getElem hk,hx,List.filter_append,List.filter_cons,if_pos hp];rfl
 refine ⟨by rw [e2];simp,by rw [e1];simp,?_⟩
 rw [e1,List.getElem?_append_right (by omega)]
 simp
theorem fromP_not {l:List KV} {p:Bs} {k:Nat} {x:KV} (hk:k<l.length) (hx:l[k]=x) (hp:preP p x.key=false):(fromP (l.take (k+1)) p).length=(fromP (l.take k) p).length:=by
 unfold fromP
 rw [List.take_succ_eq_append_getElem hk,hx,List.filter_append,List.filter_cons,if_neg (by rw [hp];simp)];simp
theorem reads_loop (r:Req) (q:Reply) (L:Sl KV) (e:Int) (hL:L.l.length≤1000000) (hq:q.kvs=slOf (fromP L.l r.key)) (b0 b2 b3 b4 b5 b6 b7 b8 b9 b10 b11 b12 b13 b14 b15 b16 b17 b18:Blk) :
  loopE (EvF tab) [] L9_0 [2,3,8,9,10,11,12] ⟨[(2,.ptr 0 0),(3,.ptr 1 0),(8,.ptr 19 0),(9,.g (KVs.g L)),(10,I e),(11,I 0),(12,I 0)],[],[b0,.cells (r.c.map .g),b2,b3,b4,b5,b6,b7,b8,b9,b10,b11,b12,b13,b14,b15,b16,b17,b18,.cells (q.c.map .g)]⟩ =
   some (.exit 0,⟨[(2,.ptr 0 0),(3,.ptr 1 0),(8,.ptr 19 0),(9,.g (KVs.g L)),(10,I e),(11,I (fromP L.l r.key).length),(12,I L.l.length),(69,B false)],[],[b0,.cells (r.c.map .g),b2,b3,b4,b5,b6,b7,b8,b9,b10,b11,b12,b13,b14,b15,b16,b17,b18,.cells (q.c.map .g)]⟩):=by
 have hw:=loop_cnt (E:=EvF tab) (h:=[]) (c:=L9_0) (lv:=[2,3,8,9,10,11,12]) L.l.length
  (fun k=>⟨[(2,.ptr 0 0),(3,.ptr 1 0),(8,.ptr 19 0),(9,.g (KVs.g L)),(10,I e),(11,I (fromP (L.l.take k) r.key).length),(12,I k)],[],[b0,.cells (r.c.map .g),b2,b3,b4,b5,b6,b7,b8,b9,b10,b11,b12,b13,b14,b15,b16,b17,b18,.cells (q.c.map .g)]⟩)
  (.exit 0,⟨[(2,.ptr 0 0),(3,.ptr 1 0),(8,.ptr 19 0),(9,.g (KVs.g L)),(10,I e),(11,I (fromP L.l r.key).length),(12,I L.l.length),(69,B false)],[],[b0,.cells (r.c.map .g),b2,b3,b4,b5,b6,b7,b8,b9,b10,b11,b12,b13,b14,b15,b16,b17,b18,.cells (q.c.map .g)]⟩) (by simp) (fun k hk => ?_) (by
   rw [List.take_length];delta L9_0;simp -implicitDefEqProofs)
 ·simpa only [List.take_zero,fromP,List.filter_nil,List.length_nil,Int.ofNat_zero,Int.cast_ofNat_Int] using hw
 ·have e2:=wrap_succ hk (by omega)
  have h1:(fromP (L.l.take k) r.key).length≤k:=by
   have h1:(fromP (L.l.take k) r.key).length≤(L.l.take k).length:=List.length_filter_le ..
   rw [List.length_take] at h1;omega
  obtain ⟨x,hx⟩:∃x,L.l[k]=x:=⟨_,rfl⟩
  have hx2:L.l[k]? = some x:=by rw [List.getElem?_eq_getElem hk,hx]
  have e3:IntKind.i64.wrap (((fromP (L.l.take k) r.key).length:Int)+1)=((fromP (L.l.take k) r.key).length:Int)+1:=wrap_i64 (by omega) (by omega)
  have hat:=fun hp=>fromP_at (p:=r.key) hk hx hp
  have hno:=fun hp=>fromP_not (p:=r.key) hk hx hp
  have hpr:preP r.key x.key=(decide (r.key.length≤x.key.length)&&(x.key.take r.key.length==r.key)):=rfl
  obtain ⟨rkind,rwho,rseq,ronce,rkey,rvalue,rlease,rrev,rttl,rtoken,riff,rthn,rels⟩:=r
  obtain ⟨q1,q2,q3,q4,q5,q6,q7,q8,q9⟩:=q
  simp only at hq hat hno hpr e3 h1 ⊢
  subst hq
  delta L9_0
  by_cases hp:preP rkey x.key=true
  ·obtain ⟨k1,k2,k3⟩:=hat hp
   rw [k1]
   rw [hp] at hpr
   symm at hpr
   simp only [Bool.and_eq_true,decide_eq_true_eq,beq_iff_eq] at hpr
   obtain ⟨p1,p2⟩:=hpr
   clear hat hno
   generalize (fromP (L.l.take k) rkey).length=n at *
   have hF:fromP L.l rkey ≠ []:=by intro e;rw [e] at k2;simp at k2
   generalize hFF:fromP L.l rkey=F at *
   rw [show slOf F = .of F by unfold slOf;rw [if_neg hF]]
   have k4:=(List.getElem?_eq_some_iff.1 k3).2
   cases L with
   | nil=>simp at hk
   | of l =>
   simp only [Sl.l_of] at hk hx hx2 e2 ⊢
   obtain ⟨x1,x2,x3,x4,x5,x6⟩:=x
   simp only at p1 p2
   simp -implicitDefEqProofs [Req.c,Reply.c,KV.c,hk,hx,hx2,e2,e3,k2,k3,k4,p1,p2,cutB,bnd,intOfA,show (rkey.length:Int)≤(x1.length:Int) by omega,show (n:Int)<(F.length:Int) by omega]
  ·rw [Bool.not_eq_true] at hp
   rw [hno hp]
   rw [hp] at hpr
   symm at hpr
   clear hat hno
   generalize (fromP (L.l.take k) rkey).length=n at *
   cases L with
   | nil=>simp at hk
   | of l =>
   simp only [Sl.l_of] at hk hx hx2 e2 ⊢
   obtain ⟨x1,x2,x3,x4,x5,x6⟩:=x
   simp only at hpr
   by_cases p1:rkey.length≤x1.length
   ·have p2:¬x1.take rkey.length=rkey:=by simpa [p1] using hpr
    simp -implicitDefEqProofs [Req.c,Reply.c,KV.c,hk,hx,hx2,e2,p1,p2,cutB,bnd,intOfA,show (rkey.length:Int)≤(x1.length:Int) by omega]
   ·simp -implicitDefEqProofs [Req.c,Reply.c,KV.c,hk,hx,hx2,e2,p1,show ¬(rkey.length:Int)≤(x1.length:Int) by omega]
def asKind (r:Req) (k:Int):Req:=⟨k,r.who,r.seq,false,r.key,r.value,r.lease,r.rev,r.ttl,r.token,r.iff,r.thn,r.els⟩
theorem asKind_wf {r:Req} (w:r.wf) {k:Int} (hk:I64 k):(asKind r k).wf:=⟨hk,w.2⟩
theorem do_watch (s:Server) (r:Req):(doP s (asKind r 3)).1=s:=by
 unfold doP
 simp only [asKind,Bool.false_eq_true,false_and,if_false]
 split
 ·split
  ·rfl
  ·unfold actR;simp
 ·rfl
theorem do_range (s:Server) (r:Req):doP s (asKind r 1)=(s,if reqOk (asKind r 1)=true then (if atE s.st r.rev=0 then ⟨0,r.who,r.seq,s.st.rev,0,0,false,slOf (fromP (atR s.st r.rev).l r.key),.nil⟩ else errR r (atE s.st r.rev)) else errR r 1):=by
 unfold doP
 by_cases h:reqOk (asKind r 1)=true
 ·rw [if_pos h,if_pos h]
  unfold actR
  simp only [asKind,Bool.false_eq_true,false_and,if_false,if_true]
  by_cases he:atE s.st r.rev=0
  ·rw [if_pos he];simp [he]
  ·rw [if_neg he];simp [he,errR]
 ·rw [if_neg h,if_neg h];rfl
theorem atR_len {s:Store} (h:SOk s) (rev:Int):(atR s rev).l.length≤1000:=by
 unfold atR
 split
 ·rw [foldR_l];have:=foldP_len (atV s rev) s.log.l s.base.l;have:=h.bl;have:=h.ll;omega
 ·simp
theorem ServerReads_law (x0:Server) (x1:Req) (w0:x0.wf) (w1:x1.wf):EvF tab 9 [A x0.c,A x1.c] []=some ⟨.g (.bool true),[],[]⟩:=by
 have m0:=fun H=>few10_ev x0 x1 w0 w1 H
 refine EvF_walk t9 (by simp) ?_
 cases hf:few10 x0 x1
 ·rw [hf] at m0
  obtain ⟨⟨srev,slow,sbase,slog⟩,⟨lnext,ll⟩,⟨ml,mo⟩,clock⟩:=x0
  obtain ⟨rkind,rwho,rseq,ronce,rkey,rvalue,rlease,rrev,rttl,rtoken,riff,rthn,rels⟩:=x1
  simp only [A,Server.c,Req.c,List.map_cons,List.map_nil] at m0 ⊢
  simp -implicitDefEqProofs [m0,live10]
 rw [hf] at m0
 unfold few10 at hf
 simp only [Bool.and_eq_true] at hf
 obtain ⟨hf0,hm,hsh⟩:=hf
 obtain ⟨hf1,hf2,hf3,hf4⟩:=fewV_size hf0
 have hss:=fewS_smallS hf1
 have hv:=mayV_iff.1 hm
 have wW:=asKind_wf (k:=3) w1 (by simp [I64])
 have wR:=asKind_wf (k:=1) w1 (by simp [I64])
 have m1:=fun H=>SDo_ev (s:=x0) (r:=asKind x1 3) ⟨hv.srv,w0.2.2.1,by omega,wW⟩ H
 have m2:=fun H=>SDo_ev (s:=x0) (r:=asKind x1 1) ⟨hv.srv,w0.2.2.1,by omega,wR⟩ H
 have m3:=fun H=>SameV_ev x0 x0 (.refl _) hss (by omega) w0.2.2.1 H
 have m4:=fun H=>At_ev x0.st x1.rev hss H
 have m5:=fun H=>MayAsk2_ev (asKind x1 1) (rl wR) H
 rw [do_watch] at m1
 rw [do_range] at m2
 generalize (doP x0 (asKind x1 3)).2=pW at m1
 obtain ⟨w1,w2,w3,w4,w5,w6,w7,w8,w9⟩:=pW
 have hL:=atR_len hv.st x1.rev
 simp only at m2
 by_cases hok:reqOk (asKind x1 1)=true
 case neg =>
  rw [if_neg hok] at m2
  rw [Bool.not_eq_true] at hok
  rw [hok] at m5
  clear hf0 hm hsh hf1 hf2 hf3 hf4 hss hv wW wR hL hok
  generalize atE x0.st x1.rev=e at m4
  generalize atR x0.st x1.rev=L at m4
  obtain ⟨⟨srev,slow,sbase,slog⟩,⟨lnext,ll⟩,⟨ml,mo⟩,clock⟩:=x0
  obtain ⟨rkind,rwho,rseq,ronce,rkey,rvalue,rlease,rrev,rttl,rtoken,riff,rthn,rels⟩:=x1
  simp only [A,Server.c,Store.c,Req.c,Reply.c,errR,asKind,KVs.g,Evs.g,Sl.g_nil,List.map_cons,List.map_nil] at m0 m1 m2 m3 m4 m5 ⊢
  generalize Sl.g 6 KV.c sbase=G1 at m0 m1 m2 m3 m4 ⊢
  generalize Sl.g 8 Ev.c slog=G2 at m0 m1 m2 m3 m4 ⊢
  generalize LeaseL.g ll=G3 at m0 m1 m2 m3 ⊢
  generalize MemoL.g ml=G4 at m0 m1 m2 m3 ⊢
  generalize Floors.g mo=G5 at m0 m1 m2 m3 ⊢
  generalize Cmps.g riff=R1 at m0 m1 m2 m5 ⊢
  generalize Muts.g rthn=R2 at m0 m1 m2 m5 ⊢
  generalize Muts.g rels=R3 at m0 m1 m2 m5 ⊢
  generalize Sl.g 6 KV.c w8=G6 at m1
  generalize Sl.g 8 Ev.c w9=G7 at m1
  generalize Sl.g 6 KV.c L=G8 at m4
  simp -implicitDefEqProofs [m0,m1,m2,m3,m4,m5,live10]
 rw [if_pos hok] at m2
 rw [hok] at m5
 by_cases he:atE x0.st x1.rev=0
 case neg =>
  rw [if_neg he] at m2
  clear hf0 hm hsh hf1 hf2 hf3 hf4 hss hv wW wR hL hok
  generalize atE x0.st x1.rev=e at m2 m4 he
  generalize atR x0.st x1.rev=L at m4
  obtain ⟨⟨srev,slow,sbase,slog⟩,⟨lnext,ll⟩,⟨ml,mo⟩,clock⟩:=x0
  obtain ⟨rkind,rwho,rseq,ronce,rkey,rvalue,rlease,rrev,rttl,rtoken,riff,rthn,rels⟩:=x1
  simp only [A,Server.c,Store.c,Req.c,Reply.c,errR,asKind,KVs.g,Evs.g,Sl.g_nil,List.map_cons,List.map_nil] at m0 m1 m2 m3 m4 m5 ⊢
  generalize Sl.g 6 KV.c sbase=G1 at m0 m1 m2 m3 m4 ⊢
  generalize Sl.g 8 Ev.c slog=G2 at m0 m1 m2 m3 m4 ⊢
  generalize LeaseL.g ll=G3 at m0 m1 m2 m3 ⊢
  generalize MemoL.g ml=G4 at m0 m1 m2 m3 ⊢
  generalize Floors.g mo=G5 at m0 m1 m2 m3 ⊢
  generalize Cmps.g riff=R1 at m0 m1 m2 m5 ⊢
  generalize Muts.g rthn=R2 at m0 m1 m2 m5 ⊢
  generalize Muts.g rels=R3 at m0 m1 m2 m5 ⊢
  generalize Sl.g 6 KV.c w8=G6 at m1
  generalize Sl.g 8 Ev.c w9=G7 at m1
  generalize Sl.g 6 KV.c L=G8 at m4
  simp -implicitDefEqProofs [m0,m1,m2,m3,m4,m5,he,live10]
 rw [if_pos he] at m2
 rw [he] at m4
 have hw:=fun b0 b2 b3 b4 b5 b6 b7 b8 b9 b10 b11 b12 b13 b14 b15 b16 b17 b18=>reads_loop (asKind x1 1) ⟨0,x1.who,x1.seq,x0.st.rev,0,0,false,slOf (fromP (atR x0.st x1.rev).l x1.key),.nil⟩ (atR x0.st x1.rev) 0 (by omega) rfl b0 b2 b3 b4 b5 b6 b7 b8 b9 b10 b11 b12 b13 b14 b15 b16 b17 b18
 have hln:∀h st,lenV h st (.g (KVs.g (slOf (fromP (atR x0.st x1.rev).l x1.key))))=some (fromP (atR x0.st x1.rev).l x1.key).length:=fun h st=>by rw [lenV_Sl,slOf_l]
 clear hf0 hm hsh hf1 hf2 hf3 hf4 hss hv wW wR hL hok he
 obtain ⟨⟨srev,slow,sbase,slog⟩,⟨lnext,ll⟩,⟨ml,mo⟩,clock⟩:=x0
 obtain ⟨rkind,rwho,rseq,ronce,rkey,rvalue,rlease,rrev,rttl,rtoken,riff,rthn,rels⟩:=x1
 simp only [A,Server.c,Store.c,Req.c,Reply.c,asKind,KVs.g,Evs.g,Sl.g_nil,List.map_cons,List.map_nil] at m0 m1 m2 m3 m4 m5 hw hln ⊢
 generalize (fromP (atR ⟨srev,slow,sbase,slog⟩ rrev).l rkey).length=nF at hw hln
 generalize Sl.g 6 KV.c (slOf (fromP (atR ⟨srev,slow,sbase,slog⟩ rrev).l rkey))=GF at m2 hw hln
 generalize (atR ⟨srev,slow,sbase,slog⟩ rrev).l.length=nL at hw
 generalize Sl.g 6 KV.c (atR ⟨srev,slow,sbase,slog⟩ rrev)=G8 at m4 hw
 generalize Sl.g 6 KV.c sbase=G1 at m0 m1 m2 m3 m4 ⊢
 generalize Sl.g 8 Ev.c slog=G2 at m0 m1 m2 m3 m4 ⊢
 generalize LeaseL.g ll=G3 at m0 m1 m2 m3 ⊢
 generalize MemoL.g ml=G4 at m0 m1 m2 m3 ⊢
 generalize Floors.g mo=G5 at m0 m1 m2 m3 ⊢
 generalize Cmps.g riff=R1 at m0 m1 m2 m5 hw ⊢
 generalize Muts.g rthn=R2 at m0 m1 m2 m5 hw ⊢
 generalize Muts.g rels=R3 at m0 m1 m2 m5 hw ⊢
 generalize Sl.g 6 KV.c w8=G6 at m1
 generalize Sl.g 8 Ev.c w9=G7 at m1
 simp -implicitDefEqProofs [m0,m1,m2,m3,m4,m5,hw,hln,live10]
end Go.Proofs.YtndfdnlbljhlgaaGreat
end
