/- Part of the proof: what the functions answer, part 5 (STxn2, STxn3, GServ1, GWire1, GWire2, GTell1, GTell2, GServ3, GMemoR, GServ4, GServ2, PWatch). No conditions. -/
import Derived.Test.YtndfdnlbljhlgaaGreatSPJ4
import Derived.Test.YtndfdnlbljhlgaaGreatSPJ1
section
namespace Go.Proofs.YtndfdnlbljhlgaaGreat
open Go Go.AM Go.Proofs
set_option maxRecDepth 20000
set_option maxHeartbeats 4000000
set_option linter.unusedSimpArgs false
set_option linter.unusedVariables false
theorem holds_ask {l:List KV} {c:Cmp}:(askOk c&&holdsP l c)=holdsP l c:=by
 cases h:holdsP l c
 ·rw [Bool.and_false]
 ·rw [Bool.and_true]
  unfold holdsP numP strP at h
  unfold askOk
  obtain ⟨k,w,hw,n,v⟩:=c
  simp only at h ⊢
  by_cases w1:w=1
  ·subst w1
   simp only [if_true,Bool.or_eq_true,Bool.and_eq_true,decide_eq_true_eq] at h ⊢
   omega
  ·by_cases w2:w=2
   ·subst w2
    simp only [w1,if_false,if_true,Bool.or_eq_true,Bool.and_eq_true,decide_eq_true_eq] at h ⊢
    omega
   ·by_cases w3:w=3
    ·subst w3
     simp only [w1,w2,if_false,if_true,Bool.or_eq_true,Bool.and_eq_true,decide_eq_true_eq] at h ⊢
     omega
    ·by_cases w4:w=4
     ·subst w4
      simp only [w1,w2,w3,if_false,if_true,Bool.or_eq_true,Bool.and_eq_true,decide_eq_true_eq] at h ⊢
      omega
     ·simp only [w1,w2,w3,w4,if_false] at h;cases h
theorem HoldsK_ev (s:Sl KV) (c:Cmp) (hl:s.l.length≤9223372036854775807) (H:List Blk):EvF tab 203 [.g (KVs.g s),A c.c] H=some ⟨B (holdsP s.l c),[],[]⟩:=by
 rw [Holds_ev s c hl H,holds_ask]
theorem All_ev (s:Sl KV) (cs:Sl Cmp) (hl:s.l.length≤9223372036854775807) (hc:cs.l.length≤9223372036854775807) (H:List Blk):EvF tab 187 [.g (KVs.g s),.g (Cmps.g cs)] H=some ⟨B (allP (holdsP s.l) cs.l),[],[]⟩:=by
 have hq:=loop_runJ (E:=EvF tab) (h:=H) (c:=L187_0) (lv:=[0,7,8,9]) (l:=cs.l) (β:=Unit) (γ:=Unit) (fun _ _=>True) (fun _ c _=>if holdsP s.l c=true then .inl () else .inr ())
  (fun k _ o=>⟨[(0,.g (KVs.g s)),(7,.g (Cmps.g cs)),(8,I cs.l.length),(9,I k)],[],o⟩)
  (fun _ o=>(.exit 0,⟨[(0,.g (KVs.g s)),(7,.g (Cmps.g cs)),(8,I cs.l.length),(9,I cs.l.length),(10,B false)],[],o⟩))
  (fun _ o=>(.ret,⟨[(4,B false)],[],o⟩)) (by simp) (by simp) (fun k c o' o hk hx hy _ => ?_) (fun _ o _=>by delta L187_0;cases cs <;> simp -implicitDefEqProofs) () [] trivial
 ·obtain ⟨o',hq⟩:=hq
  have key:∀(l:List Cmp) k,runG (γ:=Unit) (fun _ (c:Cmp) (_:Unit)=>if holdsP s.l c=true then .inl () else .inr ()) k l ()=if allP (holdsP s.l) l=true then .inl () else .inr ():=by
   intro l
   induction l with
   | nil=>intro k;rfl
   | cons c l ih =>
    intro k
    rw [allP_cons]
    cases hh:holdsP s.l c
    ·simp [runG,hh]
    ·simp only [runG,hh,if_true,Bool.true_and];exact ih _
  rw [key] at hq
  have e0:((0:Nat):Int)=0:=rfl
  simp only [e0] at hq
  refine EvF_walk t187 (by simp) ?_
  cases ha:allP (holdsP s.l) cs.l <;> rw [ha] at hq <;> simp only [Bool.false_eq_true,if_true,if_false,endJ] at hq <;> cases cs <;> simp only [Cmps.g,Sl.g_nil,Sl.g_of,Sl.l_nil,Sl.l_of,List.length_nil,e0] at hq <;> simp -implicitDefEqProofs [hq]
 ·have e2:=wrap_succ hk (by omega)
  have h1:=fun H=>HoldsK_ev s c hl H
  delta L187_0
  cases cs with
  | nil=>simp at hk
  | of l =>
   simp only [Sl.l_of] at hk hx hy hc ⊢
   generalize holdsP s.l c=b at h1 ⊢
   obtain ⟨c1,c2,c3,c4,c5⟩:=c
   simp only [A,Cmp.c,List.map_cons,List.map_nil] at h1
   cases b
   ·simp only [Bool.false_eq_true,if_false]
    refine ⟨o++[.cells [T c1,I c2,I c3,I c4,T c5]],?_⟩
    simp -implicitDefEqProofs [hk,hy,Cmp.c,h1]
   ·simp only [if_true]
    refine ⟨trivial,o++[.cells [T c1,I c2,I c3,I c4,T c5]],?_⟩
    simp -implicitDefEqProofs [hk,hy,Cmp.c,h1,e2]
end Go.Proofs.YtndfdnlbljhlgaaGreat
end
section
namespace Go.Proofs.YtndfdnlbljhlgaaGreat
open Go Go.AM Go.Proofs
set_option maxRecDepth 20000
set_option maxHeartbeats 4000000
set_option linter.unusedSimpArgs false
set_option linter.unusedVariables false
def listOk (t:Txn):Bool:=decide (t.iff.l.length≤4)&&(decide (t.thn.l.length≤4)&&decide (t.els.l.length≤4))
def doOk (t:Txn):Bool:=listOk t&&allP askOk t.iff.l
def yesP (s:Store) (t:Txn):Bool:=allP (holdsP (nowP s)) t.iff.l
def doL (s:Store) (t:Txn):Sl Mut:=if yesP s t=true then t.thn else t.els
def doS (s:Store) (t:Txn):Store:=if doOk t=true then applyS s (doL s t).l else s
def doY (s:Store) (t:Txn):Bool:=doOk t&&(yesP s t&&decide (applyE s (doL s t).l=0))
def doV (s:Store) (t:Txn):Sl Ev:=if doOk t=true then applyV s (doL s t).l else .nil
def doE (s:Store) (t:Txn):Int:=if doOk t=true then applyE s (doL s t).l else 1
theorem runG_ask:∀(l:List Cmp) k,runG (γ:=Unit) (fun _ (c:Cmp) (_:Unit)=>if askOk c=true then .inl () else .inr ()) k l ()=if allP askOk l=true then .inl () else .inr ():=by
 intro l
 induction l with
 | nil=>intro k;rfl
 | cons c l ih =>
  intro k
  rw [allP_cons]
  cases hh:askOk c
  ·simp [runG,hh]
  ·simp only [runG,hh,if_true,Bool.true_and];exact ih _
theorem Do_loop (cs:Sl Cmp) (hc:cs.l.length≤9223372036854775807) (a1 a2 a3 a4:GV) (q1 q2 q3 q5:Blk) (b1 b2 b3 b4:AV) (H:List Blk) :
  ∃o,loopE (EvF tab) H L154_0 [2,3,4,28,29,30] ⟨[(2,.ptr H.length 0),(3,.ptr (H.length+1) 0),(4,.ptr (H.length+4) 0),(28,.g (Cmps.g cs)),(29,I cs.l.length),(30,I 0)],[],[.cells [.g a1,.g a2,.g a3,.g a4],q1,q2,q3,.cells [b1,b2,b3,b4],q5]⟩ =
   some (if allP askOk cs.l=true then (.exit 0,⟨[(2,.ptr H.length 0),(3,.ptr (H.length+1) 0),(4,.ptr (H.length+4) 0),(28,.g (Cmps.g cs)),(29,I cs.l.length),(30,I cs.l.length),(31,B false)],[],.cells [.g a1,.g a2,.g a3,.g a4]::q1::q2::q3 :: .cells [b1,b2,b3,b4]::q5::o⟩)
    else (.ret,⟨[(4,.ptr (H.length+4) 0),(5,B false),(6,.ms (H.length+(o.length+6)) 1 8 0 0),(7,I 1)],[],.cells [.g a1,.g a2,.g a3,.g a4]::q1::q2::q3 :: .cells [.g a1,.g a2,.g a3,.g a4]::q5::(o++[.rows 8 1 []])⟩)):=by
 have hq:=loop_runJ (E:=EvF tab) (h:=H) (c:=L154_0) (lv:=[2,3,4,28,29,30]) (l:=cs.l) (β:=Unit) (γ:=Unit) (fun _ _=>True) (fun _ c _=>if askOk c=true then .inl () else .inr ())
  (fun k _ o=>⟨[(2,.ptr H.length 0),(3,.ptr (H.length+1) 0),(4,.ptr (H.length+4) 0),(28,.g (Cmps.g cs)),(29,I cs.l.length),(30,I k)],[],.cells [.g a1,.g a2,.g a3,.g a4]::q1::q2::q3 :: .cells [b1,b2,b3,b4]::q5::o⟩)
  (fun _ o=>(.exit 0,⟨[(2,.ptr H.length 0),(3,.ptr (H.length+1) 0),(4,.ptr (H.length+4) 0),(28,.g (Cmps.g cs)),(29,I cs.l.length),(30,I cs.l.length),(31,B false)],[],.cells [.g a1,.g a2,.g a3,.g a4]::q1::q2::q3 :: .cells [b1,b2,b3,b4]::q5::o⟩))
  (fun _ o=>(.ret,⟨[(4,.ptr (H.length+4) 0),(5,B false),(6,.ms (H.length+(o.length+6)) 1 8 0 0),(7,I 1)],[],.cells [.g a1,.g a2,.g a3,.g a4]::q1::q2::q3 :: .cells [.g a1,.g a2,.g a3,.g a4]::q5::(o++[.rows 8 1 []])⟩))
  (by simp) (by simp) (fun k c _ o hk hx hy _ => ?_) (fun _ o _=>by delta L154_0;cases cs <;> simp -implicitDefEqProofs) () [] trivial
 ·obtain ⟨o',hq⟩:=hq
  refine ⟨o',?_⟩
  rw [runG_ask] at hq
  have e0:((0:Nat):Int)=0:=rfl
  simp only [e0] at hq
  rw [hq]
  cases allP askOk cs.l <;> rfl
 ·have e2:=wrap_succ hk (by omega)
  have h1:=fun H=>tmay_ev c H
  delta L154_0
  cases cs with
  | nil=>simp at hk
  | of l =>
   simp only [Sl.l_of] at hk hx hy hc ⊢
   generalize askOk c=b at h1 ⊢
   obtain ⟨c1,c2,c3,c4,c5⟩:=c
   simp only [A,Cmp.c,List.map_cons,List.map_nil] at h1
   cases b
   ·simp only [Bool.false_eq_true,if_false]
    refine ⟨o++[.cells [T c1,I c2,I c3,I c4,T c5]],?_⟩
    simp -implicitDefEqProofs [hk,hy,Cmp.c,h1]
   ·simp only [if_true]
    refine ⟨trivial,o++[.cells [T c1,I c2,I c3,I c4,T c5]],?_⟩
    simp -implicitDefEqProofs [hk,hy,Cmp.c,h1,e2]
theorem mx3_le {a b c:Nat} (h:a≤4∧b≤4∧c≤4):¬(4:Int)<(if (if a<b then (b:Int) else (a:Int))<(c:Int) then (c:Int) else if a<b then (b:Int) else (a:Int)):=by
 split <;> split <;> omega
theorem mx3_gt {a b c:Nat} (h:¬(a≤4∧b≤4∧c≤4)):(4:Int)<(if (if a<b then (b:Int) else (a:Int))<(c:Int) then (c:Int) else if a<b then (b:Int) else (a:Int)):=by
 by_cases h1:a<b
 ·simp only [if_pos h1];split <;> omega
 ·simp only [if_neg h1];split <;> omega
theorem Do_ev (s:Store) (t:Txn) (hs:smallS s) (hr : -1≤s.rev∧s.rev≤4611686018427387904) (w:t.wf) (H:List Blk) :
  EvF tab 154 [A s.c,A t.c] H=some ⟨.tup [A (doS s t).c,B (doY s t),.g (Evs.g (doV s t)),I (doE s t)],[],[]⟩:=by
 have hn:=foldP_len s.rev s.log.l s.base.l
 have hs2:=hs
 unfold smallS at hs2
 obtain ⟨⟨w1,w2⟩,⟨w3,w4⟩,⟨w5,w6⟩⟩:=w
 have hlp:=fun a1 a2 a3 a4 q1 q2 q3 q5 b1 b2 b3 b4=>Do_loop t.iff w2 a1 a2 a3 a4 q1 q2 q3 q5 b1 b2 b3 b4 H
 have m1:=fun H=>Now_ev s hs H
 have m2:=fun H=>All_ev (foldR s.base s.log.l s.rev) t.iff (by rw [foldR_l];omega) w2 H
 rw [show (foldR s.base s.log.l s.rev).l=nowP s from foldR_l ..,show allP (holdsP (nowP s)) t.iff.l=yesP s t from rfl] at m2
 generalize foldR s.base s.log.l s.rev=N at m1 m2
 have m3:=fun (hl:(doL s t).l.length≤4) H=>Apply_ev s (doL s t) hs hr (fun m hm=>by
  unfold doL at hm
  split at hm
  ·exact (w3 m hm).1
  ·exact (w5 m hm).1) (by omega) H
 refine EvF_walk t154 (by simp) ?_
 unfold doS doY doV doE doOk listOk
 obtain ⟨a1,a2,a3,a4,ha⟩:∃a1 a2 a3 a4,s.c=[a1,a2,a3,a4]:=⟨_,_,_,_,rfl⟩
 obtain ⟨b1,b2,b3,b4,hb⟩:∃a1 a2 a3 a4,(applyS s (doL s t).l).c=[a1,a2,a3,a4]:=⟨_,_,_,_,rfl⟩
 by_cases hl:t.iff.l.length≤4∧t.thn.l.length≤4∧t.els.l.length≤4
 ·obtain ⟨l1,l2,l3⟩:=hl
  have m3:=m3 (by unfold doL;split <;> assumption)
  have lp:=Do_loop t.iff w2 a1 a2 a3 a4 (.cells (t.c.map .g)) (.rows 6 1 []) (.rows 8 1 []) (.rows 8 1 []) (I 0) (I 0) (.ms (H.length+2) 1 6 0 0) (.ms (H.length+3) 1 8 0 0) H
  rw [ha] at m1 m3 ⊢
  rw [hb] at m3
  generalize applyE s (doL s t).l=e1 at m3 ⊢
  generalize hv:applyV s (doL s t).l=v at m3 ⊢
  generalize hgv:Evs.g v=gv at m3
  generalize hu:applyS s (doL s t).l=u at m3 hb ⊢
  obtain ⟨o,lp⟩:=lp
  clear hv hu
  unfold doL at m3
  generalize yesP s t=y at m2 m3 ⊢
  obtain ⟨tif,tth,tel⟩:=t
  simp only [Txn.c,List.map_cons,List.map_nil,A] at l1 l2 l3 m1 m2 m3 lp ⊢
  generalize hk:allP askOk tif.l=k at lp ⊢
  have mx:=mx3_le ⟨l1,l2,l3⟩
  have i1:¬(4:Int)<(tif.l.length:Int):=by omega
  have i2:¬(4:Int)<(tth.l.length:Int):=by omega
  have i3:¬(4:Int)<(tel.l.length:Int):=by omega
  cases k
  ·simp only [Bool.false_eq_true,if_false] at lp
   simp -implicitDefEqProofs [l1,l2,l3,mx,lp,ha]
  ·simp only [if_true] at lp
   cases y
   ·simp only [Bool.false_eq_true,if_false] at m3
    by_cases he:e1=0 <;> simp -implicitDefEqProofs [l1,l2,l3,mx,lp,ha,hb,hgv,m1,m2,m3,he]
   ·simp only [if_true] at m3
    by_cases he:e1=0 <;> simp -implicitDefEqProofs [l1,l2,l3,mx,lp,ha,hb,hgv,m1,m2,m3,he]
 ·rw [ha]
  obtain ⟨tif,tth,tel⟩:=t
  simp only [Txn.c,List.map_cons,List.map_nil,A] at hl ⊢
  have mx:=mx3_gt hl
  by_cases l1:tif.l.length≤4
  ·by_cases l2:tth.l.length≤4
   ·by_cases l3:tel.l.length≤4
    ·exact absurd ⟨l1,l2,l3⟩ hl
    ·simp -implicitDefEqProofs [l1,l2,l3,ha,mx]
   ·simp -implicitDefEqProofs [l1,l2,ha,mx]
  ·simp -implicitDefEqProofs [l1,ha,mx]
end Go.Proofs.YtndfdnlbljhlgaaGreat
end
section
namespace Go.Proofs.YtndfdnlbljhlgaaGreat
open Go Go.AM Go.Proofs
set_option maxRecDepth 20000
set_option maxHeartbeats 2000000
set_option linter.unusedSimpArgs false
set_option linter.unusedVariables false
structure Server where
 st:Store
 ls:Leases
 ms:Memos
 clock:Int
def Server.c (x:Server):List GV:=[.int .i64 x.st.rev,.int .i64 x.st.low,KVs.g x.st.base,Evs.g x.st.log,.int .i64 x.ls.next,LeaseL.g x.ls.l,MemoL.g x.ms.l,Floors.g x.ms.old,.int .i64 x.clock]
def Server.wf (x:Server):Prop:=x.st.wf∧x.ls.wf∧x.ms.wf∧I64 x.clock
def sweepD (s:Server) (id:Int):List Mut:=dropsS (nowP s.st) id
def sweepA (s:Store) (d:List Mut):Store:=if 60<s.log.l.length+d.length then shrS s s.rev else s
def sweepE (s:Server) (id:Int):Int:=if endE s.ls id=0 then applyE (sweepA s.st (sweepD s id)) (sweepD s id) else endE s.ls id
def sweepS (s:Server) (id:Int):Server:=if endE s.ls id=0∧applyE (sweepA s.st (sweepD s id)) (sweepD s id)=0 then ⟨applyS (sweepA s.st (sweepD s id)) (sweepD s id),endS s.ls id,s.ms,s.clock⟩ else s
structure Fit (s:Server):Prop where
 sz:s.st.base.l.length+s.st.log.l.length≤5000
 rev:0≤s.st.rev∧s.st.rev≤1099511627774
 key:∀x∈nowP s.st,x.key.length≤9223372036854775807
 ls:s.ls.l.l.length≤1099511627776
theorem dropsS_key {l:List KV} {id:Int} (h:∀x∈l,x.key.length≤9223372036854775807):∀m∈dropsS l id,m.key.length≤9223372036854775807:=by
 intro m hm
 unfold dropsS at hm
 split at hm
 ·cases hm
 ·obtain ⟨x,hx,rfl⟩:=List.mem_map.1 hm
  exact h x (List.mem_filter.1 hx).1
theorem dropsS_len (l:List KV) (id:Int):(dropsS l id).length≤l.length:=by
 unfold dropsS
 split
 ·simp
 ·rw [List.length_map];exact List.length_filter_le ..
theorem keepR_len (to:Int) (l:Sl Ev):(keepR to l).l.length≤l.l.length:=by
 cases l with
 | nil=>exact Nat.le_refl _
 | of l=>exact List.length_filter_le ..
theorem sweepA_fit {s:Server} (h:Fit s) (d:List Mut):smallS (sweepA s.st d)∧(sweepA s.st d).rev=s.st.rev:=by
 have h1:=h.sz
 have h2:=foldR_l s.st.rev s.st.log.l s.st.base
 have h3:=foldP_len s.st.rev s.st.log.l s.st.base.l
 have h4:=keepR_len s.st.rev s.st.log
 unfold sweepA shrS
 split
 ·split
  ·refine ⟨?_,rfl⟩
   unfold smallS
   simp only [h2]
   omega
  ·refine ⟨?_,rfl⟩;unfold smallS;omega
 ·refine ⟨?_,rfl⟩;unfold smallS;omega
theorem Sweep_ev (s:Server) (id:Int) (hf:Fit s) (H:List Blk):EvF tab 25 [A s.c,I id] H=some ⟨.tup [A (sweepS s id).c,I (sweepE s id)],[],[]⟩:=by
 have h1:=hf.sz
 have hs:smallS s.st:=by unfold smallS;omega
 have hnl:(foldR s.st.base s.st.log.l s.st.rev).l=nowP s.st:=foldR_l ..
 have hnn:(nowP s.st).length≤5000:=by have:=foldP_len s.st.rev s.st.log.l s.st.base.l;unfold nowP;omega
 have m1:=fun H=>End_ev s.ls id hf.ls H
 have m2:=fun H=>Now_ev s.st hs H
 have m3:=fun H=>Drops_ev (foldR s.st.base s.st.log.l s.st.rev) id (by rw [hnl];omega) H
 rw [hnl] at m3
 have m4:=fun H=>Shrink_ev s.st s.st.rev hs H
 obtain ⟨a1,a2⟩:=sweepA_fit hf (sweepD s id)
 have hD:(sweepD s id).length≤5000:=by have:=dropsS_len (nowP s.st) id;unfold sweepD;omega
 have m5:=fun H=>Apply_ev (sweepA s.st (sweepD s id)) (slOf (sweepD s id)) a1 (by rw [a2];have:=hf.rev;omega) (by rw [slOf_l];exact dropsS_key hf.key) (by rw [slOf_l];omega) H
 rw [slOf_l] at m5
 have hl60:sweepA s.st (sweepD s id)=if 60<s.st.log.l.length+(sweepD s id).length then shrS s.st s.st.rev else s.st:=rfl
 refine EvF_walk t25 (by simp) ?_
 unfold sweepS sweepE
 rw [show dropsS (nowP s.st) id=sweepD s id from rfl] at m3
 generalize sweepD s id=D at m3 m5 hD hl60 ⊢
 generalize foldR s.st.base s.st.log.l s.st.rev=N at m2 m3
 have w1:IntKind.i64.wrap ((s.st.log.l.length:Int)+(D.length:Int))=(s.st.log.l.length:Int)+(D.length:Int):=wrap_i64 (by omega) (by omega)
 have hv2:∀h st,lenV h st (.g (Muts.g (slOf D)))=some D.length:=fun h st=>by rw [lenV_Sl,slOf_l]
 generalize applyE (sweepA s.st D) D=ae at m5 ⊢
 generalize applyV (sweepA s.st D) D=av at m5
 obtain ⟨⟨srev,slow,sbase,slog⟩,⟨lnext,ll⟩,⟨ml,mo⟩,clock⟩:=s
 simp only at m1 m2 m3 m4 m5 w1 hl60 h1 ⊢
 have hv1:∀h st,lenV h st (.g (Evs.g slog))=some slog.l.length:=fun h st=>lenV_Sl ..
 generalize Muts.g (slOf D)=GD at m3 m5 hv2
 generalize applyS (sweepA ⟨srev,slow,sbase,slog⟩ D) D=P at m5 ⊢
 rw [hl60] at m5
 clear hl60 a1 a2 hf hs hnl hnn
 generalize shrS ⟨srev,slow,sbase,slog⟩ srev=Q at m4 m5
 generalize endE ⟨lnext,ll⟩ id=ee at m1 ⊢
 generalize endS ⟨lnext,ll⟩ id=L at m1 ⊢
 obtain ⟨prev,plow,pbase,plog⟩:=P
 obtain ⟨lnext',ll'⟩:=L
 by_cases h60:60<slog.l.length+D.length
 ·have h60I:(60:Int)<(slog.l.length:Int)+(D.length:Int):=by omega
  rw [if_pos h60] at m5
  obtain ⟨qrev,qlow,qbase,qlog⟩:=Q
  simp only [A,Store.c,Leases.c,Server.c,List.map_cons,List.map_nil] at m1 m2 m3 m4 m5 ⊢
  generalize hG1:KVs.g sbase=G1 at m2 m4 m5 ⊢
  generalize hG2:Evs.g slog=G2 at m2 m4 m5 hv1 ⊢
  generalize hG3:LeaseL.g ll=G3 at m1 ⊢
  generalize hG4:MemoL.g ml=G4
  generalize hG5:Floors.g mo=G5
  generalize KVs.g N=G6 at m2 m3
  generalize KVs.g qbase=G7 at m4 m5
  generalize Evs.g qlog=G8 at m4 m5
  generalize hG9:KVs.g pbase=G9 at m5 ⊢
  generalize hG10:Evs.g plog=G10 at m5 ⊢
  generalize hG11:LeaseL.g ll'=G11 at m1 ⊢
  generalize Evs.g av=G12 at m5
  by_cases he:ee=0
  ·subst he
   by_cases ha:ae=0
   ·subst ha
    simp -implicitDefEqProofs [m1,m2,m3,m4,m5,hv1,hv2,w1,pends,hG1,hG2,hG3,hG4,hG5,hG9,hG10,hG11,Server.c,h60I]
   ·simp -implicitDefEqProofs [m1,m2,m3,m4,m5,hv1,hv2,w1,pends,hG1,hG2,hG3,hG4,hG5,hG9,hG10,hG11,Server.c,h60I,ha]
  ·simp -implicitDefEqProofs [m1,he,hG1,hG2,hG3,hG4,hG5,Server.c]
 ·have h60I:¬(60:Int)<(slog.l.length:Int)+(D.length:Int):=by omega
  rw [if_neg h60] at m5
  obtain ⟨qrev,qlow,qbase,qlog⟩:=Q
  simp only [A,Store.c,Leases.c,Server.c,List.map_cons,List.map_nil] at m1 m2 m3 m4 m5 ⊢
  generalize hG1:KVs.g sbase=G1 at m2 m4 m5 ⊢
  generalize hG2:Evs.g slog=G2 at m2 m4 m5 hv1 ⊢
  generalize hG3:LeaseL.g ll=G3 at m1 ⊢
  generalize hG4:MemoL.g ml=G4
  generalize hG5:Floors.g mo=G5
  generalize KVs.g N=G6 at m2 m3
  generalize KVs.g qbase=G7 at m4 m5
  generalize Evs.g qlog=G8 at m4 m5
  generalize hG9:KVs.g pbase=G9 at m5 ⊢
  generalize hG10:Evs.g plog=G10 at m5 ⊢
  generalize hG11:LeaseL.g ll'=G11 at m1 ⊢
  generalize Evs.g av=G12 at m5
  by_cases he:ee=0
  ·subst he
   by_cases ha:ae=0
   ·subst ha
    simp -implicitDefEqProofs [m1,m2,m3,m4,m5,hv1,hv2,w1,pends,hG1,hG2,hG3,hG4,hG5,hG9,hG10,hG11,Server.c,h60I]
   ·simp -implicitDefEqProofs [m1,m2,m3,m4,m5,hv1,hv2,w1,pends,hG1,hG2,hG3,hG4,hG5,hG9,hG10,hG11,Server.c,h60I,ha]
  ·simp -implicitDefEqProofs [m1,he,hG1,hG2,hG3,hG4,hG5,Server.c]
end Go.Proofs.YtndfdnlbljhlgaaGreat
end
section
namespace Go.Proofs.YtndfdnlbljhlgaaGreat
open Go Go.AM Go.Proofs
set_option maxRecDepth 4000
set_option linter.unusedSimpArgs false
set_option linter.unusedVariables false
def ints (l:List Int):GV := .sl 1 (l.map fun x=>[.int .i64 x])
def numOk (n:Int):Bool:=decide (0≤n)&&decide (n≤1099511627775)
def txtOk (k v:Bs):Bool:=decide (k.length≤40)&&decide (v.length≤20)
def cmpOk (c:Cmp):Bool:=txtOk c.key c.value&&decide (1≤c.what)&&decide (c.what≤4)&&decide (1≤c.how)&&decide (c.how≤3)&&numOk c.n
def mutOk (m:Mut):Bool:=txtOk m.key m.value&&numOk m.lease
def cmpsOk (s:Sl Cmp):Bool:=decide (s.l.length≤4)&&s.l.all cmpOk
def mutsOk (s:Sl Mut):Bool:=decide (s.l.length≤4)&&s.l.all mutOk
def reqOk (r:Req):Bool:=(decide (1≤r.kind)&&decide (r.kind≤8))&&txtOk r.key r.value&&(numOk r.who&&(numOk r.seq&&(numOk r.lease&&(numOk r.rev&&(numOk r.ttl&&numOk r.token)))))&&cmpsOk r.iff&&mutsOk r.thn&&mutsOk r.els
theorem all_any {α:Type} (p:α→Bool) (l:List α):l.all p = !(l.any fun x => !p x):=by
 induction l with
 | nil=>rfl
 | cons x l ih=>simp only [List.all_cons,List.any_cons,ih];cases p x <;> rfl
theorem num1_ev (n:Int) (H:List Blk):EvF tab 144 [I n] H=some ⟨B (!numOk n),[],[]⟩:=by
 refine EvF_walk t144 (by simp) ?_
 unfold numOk
 by_cases h1:n<0
 ·simp -implicitDefEqProofs [h1,show ¬0≤n by omega]
 ·by_cases h2:n≤1099511627775
  ·simp -implicitDefEqProofs [h1,h2,show 0≤n by omega,show ¬1099511627775<n by omega]
  ·simp -implicitDefEqProofs [h1,h2,show 0≤n by omega,show 1099511627775<n by omega]
theorem wnum_ev (l:List Int) (hl:l.length≤9223372036854775807) (H:List Blk):EvF tab 89 [.g (ints l)] H=some ⟨B (l.all numOk),[],[]⟩:=by
 have hc:=contains_ev (Tb:=tab) (f:=143) (g:=179) (agg:=false) (n:=1) (c:=fun x:Int=>[GV.int .i64 x]) t143 t179 (fun x=>I x) (fun x => !numOk x) (.g (.fn 144)) (.of l) hl H (by simp) (fun x _ t=>by
  simp -implicitDefEqProofs [num1_ev])
 refine EvF_walk t89 (by simp) ?_
 simp only [Sl.g_of,Sl.l_of] at hc
 unfold ints
 rw [all_any]
 generalize (l.any fun x => !numOk x)=b at hc ⊢
 simp -implicitDefEqProofs [hc]
theorem texts_ev (k v:Bs) (H:List Blk):EvF tab 88 [T k,T v] H=some ⟨B (txtOk k v),[],[]⟩:=by
 refine EvF_walk t88 (by simp) ?_
 unfold txtOk
 by_cases h1:k.length≤40
 ·by_cases h2:v.length≤20
  ·simp -implicitDefEqProofs [h1,h2,show (k.length:Int)≤40 by omega,show (v.length:Int)≤20 by omega]
  ·simp -implicitDefEqProofs [h1,h2,show (k.length:Int)≤40 by omega,show ¬(v.length:Int)≤20 by omega]
 ·simp -implicitDefEqProofs [h1,show ¬(k.length:Int)≤40 by omega]
theorem num_one (n:Int) (H:List Blk):EvF tab 89 [.g (.sl 1 [[.int .i64 n]])] H=some ⟨B (numOk n),[],[]⟩:=by
 have:=wnum_ev [n] (by simp) H
 simp only [ints,List.map_cons,List.map_nil,List.all_cons,List.all_nil,Bool.and_true] at this
 exact this
theorem mayCmp_ev (c:Cmp) (H:List Blk):EvF tab 91 [A c.c] H=some ⟨B (cmpOk c),[],[]⟩:=by
 refine EvF_walk t91 (by simp) ?_
 unfold cmpOk
 have ht:=texts_ev c.key c.value
 have hn:=num_one c.n
 generalize txtOk c.key c.value=b1 at ht ⊢
 generalize numOk c.n=b2 at hn ⊢
 cases b1
 ·simp -implicitDefEqProofs [A,Cmp.c,ht]
 ·by_cases h1:1≤c.what
  ·by_cases h2:c.what≤4
   ·by_cases h3:1≤c.how
    ·by_cases h4:c.how≤3
     ·simp -implicitDefEqProofs [A,Cmp.c,ht,hn,h1,h2,h3,h4,chunk]
     ·simp -implicitDefEqProofs [A,Cmp.c,ht,hn,h1,h2,h3,h4,chunk]
    ·simp -implicitDefEqProofs [A,Cmp.c,ht,hn,h1,h2,h3,chunk]
   ·simp -implicitDefEqProofs [A,Cmp.c,ht,hn,h1,h2,chunk]
  ·simp -implicitDefEqProofs [A,Cmp.c,ht,hn,h1,chunk]
theorem mayMut_ev (m:Mut) (H:List Blk):EvF tab 93 [A m.c] H=some ⟨B (mutOk m),[],[]⟩:=by
 refine EvF_walk t93 (by simp) ?_
 unfold mutOk
 have ht:=texts_ev m.key m.value
 have hn:=num_one m.lease
 generalize txtOk m.key m.value=b1 at ht ⊢
 generalize numOk m.lease=b2 at hn ⊢
 cases b1 <;> simp -implicitDefEqProofs [A,Mut.c,ht,hn,chunk]
theorem allCmp1_ev (c:Cmp) {H:List Blk} {p:Nat} (hp:H[p]? = some (.cells [.g (.fn 91)])):EvF tab 146 [A c.c,.ptr p 0] H=some ⟨B (!cmpOk c),[],[]⟩:=by
 refine EvF_walk t146 (by simp) ?_
 have hpl:p<H.length:=(List.getElem?_eq_some_iff.1 hp).1
 have hp2:=(List.getElem?_eq_some_iff.1 hp).2
 have hm:=fun H=>mayCmp_ev c H
 obtain ⟨b,eb⟩:∃b,cmpOk c=b:=⟨_,rfl⟩
 rw [eb] at hm ⊢
 simp only [A,Cmp.c,List.map_cons,List.map_nil] at hm
 simp -implicitDefEqProofs [A,Cmp.c,hp2,hpl,getB_old,orB,hm]
theorem allMut1_ev (c:Mut) {H:List Blk} {p:Nat} (hp:H[p]? = some (.cells [.g (.fn 93)])):EvF tab 148 [A c.c,.ptr p 0] H=some ⟨B (!mutOk c),[],[]⟩:=by
 refine EvF_walk t148 (by simp) ?_
 have hpl:p<H.length:=(List.getElem?_eq_some_iff.1 hp).1
 have hp2:=(List.getElem?_eq_some_iff.1 hp).2
 have hm:=fun H=>mayMut_ev c H
 obtain ⟨b,eb⟩:∃b,mutOk c=b:=⟨_,rfl⟩
 rw [eb] at hm ⊢
 simp only [A,Mut.c,List.map_cons,List.map_nil] at hm
 simp -implicitDefEqProofs [A,Mut.c,hp2,hpl,getB_old,orB,hm]
theorem allCmp_ev (s:Sl Cmp) (hl:s.l.length≤9223372036854775807) (H:List Blk):EvF tab 90 [.g (Cmps.g s),I 4,.g (.fn 91)] H=some ⟨B (cmpsOk s),[],[]⟩:=by
 have hc:=contains_ev (Tb:=tab) (f:=145) (g:=180) (agg:=true) (n:=5) (c:=Cmp.c) t145 t180 (fun x=>A x.c) (fun x => !cmpOk x) (.fv 146 [.ptr H.length 0]) s hl (H++[.cells [.g (.fn 91)]]) (fun x=>by simp [A,Cmp.c]) (fun x _ t=>by
  have h1:=allCmp1_ev x (H:=H++[.cells [.g (.fn 91)]]) (p:=H.length) (by simp)
  simp -implicitDefEqProofs [h1])
 refine EvF_walk t90 (by simp) ?_
 unfold cmpsOk
 rw [all_any]
 generalize (s.l.any fun x => !cmpOk x)=b at hc ⊢
 by_cases h1:s.l.length≤4
 ·simp -implicitDefEqProofs [hc,h1,show (s.l.length:Int)≤4 by omega]
 ·simp -implicitDefEqProofs [hc,h1,show ¬(s.l.length:Int)≤4 by omega]
theorem allMut_ev (s:Sl Mut) (hl:s.l.length≤9223372036854775807) (H:List Blk):EvF tab 92 [.g (Muts.g s),I 4,.g (.fn 93)] H=some ⟨B (mutsOk s),[],[]⟩:=by
 have hc:=contains_ev (Tb:=tab) (f:=147) (g:=181) (agg:=true) (n:=4) (c:=Mut.c) t147 t181 (fun x=>A x.c) (fun x => !mutOk x) (.fv 148 [.ptr H.length 0]) s hl (H++[.cells [.g (.fn 93)]]) (fun x=>by simp [A,Mut.c]) (fun x _ t=>by
  have h1:=allMut1_ev x (H:=H++[.cells [.g (.fn 93)]]) (p:=H.length) (by simp)
  simp -implicitDefEqProofs [h1])
 refine EvF_walk t92 (by simp) ?_
 unfold mutsOk
 rw [all_any]
 generalize (s.l.any fun x => !mutOk x)=b at hc ⊢
 by_cases h1:s.l.length≤4
 ·simp -implicitDefEqProofs [hc,h1,show (s.l.length:Int)≤4 by omega]
 ·simp -implicitDefEqProofs [hc,h1,show ¬(s.l.length:Int)≤4 by omega]
def RL (r:Req):Prop:=r.iff.l.length≤9223372036854775807∧r.thn.l.length≤9223372036854775807∧r.els.l.length≤9223372036854775807
theorem rl {r:Req} (w:r.wf):RL r:=⟨w.2.2.2.2.2.2.2.2.2.1.2,w.2.2.2.2.2.2.2.2.2.2.1.2,w.2.2.2.2.2.2.2.2.2.2.2.2⟩
theorem MayAsk_ev (r:Req) (w:RL r) (H:List Blk):EvF tab 44 [A r.c] H=some ⟨B (reqOk r),[],[]⟩:=by
 have ht:=texts_ev r.key r.value
 have hn:=wnum_ev [r.who,r.seq,r.lease,r.rev,r.ttl,r.token] (by simp)
 have e:([r.who,r.seq,r.lease,r.rev,r.ttl,r.token].all numOk)=(numOk r.who&&(numOk r.seq&&(numOk r.lease&&(numOk r.rev&&(numOk r.ttl&&numOk r.token))))):=by simp only [List.all_cons,List.all_nil,Bool.and_true]
 rw [e] at hn
 simp only [ints,List.map_cons,List.map_nil] at hn
 have hc:=allCmp_ev r.iff w.1
 have hm1:=allMut_ev r.thn w.2.1
 have hm2:=allMut_ev r.els w.2.2
 refine EvF_walk t44 (by simp) ?_
 unfold reqOk
 generalize txtOk r.key r.value=b1 at ht ⊢
 generalize (numOk r.who&&(numOk r.seq&&(numOk r.lease&&(numOk r.rev&&(numOk r.ttl&&numOk r.token)))))=b2 at hn ⊢
 generalize cmpsOk r.iff=b3 at hc ⊢
 generalize mutsOk r.thn=b4 at hm1 ⊢
 generalize mutsOk r.els=b5 at hm2 ⊢
 generalize hG1:Cmps.g r.iff=G1 at hc
 generalize hG2:Muts.g r.thn=G2 at hm1
 generalize hG3:Muts.g r.els=G3 at hm2
 by_cases h1:1≤r.kind
 ·by_cases h2:r.kind≤8
  ·cases b1
   ·simp -implicitDefEqProofs [A,Req.c,hG1,hG2,hG3,ht,h1,h2,show ¬r.kind<1 by omega,show ¬8<r.kind by omega]
   ·cases b2
    ·simp -implicitDefEqProofs [A,Req.c,hG1,hG2,hG3,ht,hn,chunk,h1,h2,show ¬r.kind<1 by omega,show ¬8<r.kind by omega]
    ·cases b3
     ·simp -implicitDefEqProofs [A,Req.c,hG1,hG2,hG3,ht,hn,hc,chunk,h1,h2,show ¬r.kind<1 by omega,show ¬8<r.kind by omega]
     ·cases b4
      ·simp -implicitDefEqProofs [A,Req.c,hG1,hG2,hG3,ht,hn,hc,hm1,chunk,h1,h2,show ¬r.kind<1 by omega,show ¬8<r.kind by omega]
      ·simp -implicitDefEqProofs [A,Req.c,hG1,hG2,hG3,ht,hn,hc,hm1,hm2,chunk,h1,h2,show ¬r.kind<1 by omega,show ¬8<r.kind by omega]
  ·simp -implicitDefEqProofs [A,Req.c,hG1,hG2,hG3,h1,h2,show ¬r.kind<1 by omega,show 8<r.kind by omega]
 ·simp -implicitDefEqProofs [A,Req.c,hG1,hG2,hG3,h1,show r.kind<1 by omega]
end Go.Proofs.YtndfdnlbljhlgaaGreat
end
section
namespace Go.Proofs.YtndfdnlbljhlgaaGreat
open Go Go.AM Go.Proofs
set_option maxRecDepth 4000
set_option linter.unusedSimpArgs false
set_option linter.unusedVariables false
theorem number2_ev (n:Int) (H:List Blk):EvF tab 72 [I n] H=some ⟨B (numOk n),[],[]⟩:=by
 refine EvF_walk t72 (by simp) ?_
 unfold numOk
 by_cases h1:0≤n <;> simp -implicitDefEqProofs [h1]
theorem texts2_ev (k v:Bs) (H:List Blk):EvF tab 73 [T k,T v] H=some ⟨B (txtOk k v),[],[]⟩:=by
 refine EvF_walk t73 (by simp) ?_
 unfold txtOk
 by_cases h1:k.length≤40
 ·by_cases h2:v.length≤20
  ·simp -implicitDefEqProofs [h1,h2,show (k.length:Int)≤40 by omega,show (v.length:Int)≤20 by omega]
  ·simp -implicitDefEqProofs [h1,h2,show (k.length:Int)≤40 by omega,show ¬(v.length:Int)≤20 by omega]
 ·simp -implicitDefEqProofs [h1,show ¬(k.length:Int)≤40 by omega]
theorem runG_all {α:Type} (p:α→Bool):∀(l:List α) k,runG (fun k (x:α) (_:Unit)=>if p x=true then .inl () else .inr ()) k l ()=if allP p l=true then .inl () else (.inr ():Unit⊕Unit):=by
 intro l
 induction l with
 | nil=>intro k;rfl
 | cons x l ih =>
  intro k
  simp only [runG,allP_cons]
  by_cases h:p x=true
  ·simp only [h,if_true,Bool.true_and];exact ih _
  ·simp [h]
end Go.Proofs.YtndfdnlbljhlgaaGreat
end
section
namespace Go.Proofs.YtndfdnlbljhlgaaGreat
open Go Go.AM Go.Proofs
set_option maxRecDepth 20000
set_option maxHeartbeats 1000000
set_option linter.unusedSimpArgs false
set_option linter.unusedVariables false
def kvOk (x:KV):Bool:=txtOk x.key x.value&&(numOk x.create&&(numOk x.mod&&(numOk x.version&&numOk x.lease)))
def evOk (x:Ev):Bool:=kvOk x.kv&&numOk x.rev
def kvsOk (s:Sl KV):Bool:=decide (s.l.length≤30)&&s.l.all kvOk
def evsOk (s:Sl Ev):Bool:=decide (s.l.length≤30)&&s.l.all evOk
def repOk (r:Reply):Bool:=(decide (0≤r.code)&&decide (r.code≤14))&&(numOk r.who&&(numOk r.seq&&(numOk r.rev&&(numOk r.lease&&numOk r.ttl))))&&kvsOk r.kvs&&evsOk r.events
theorem mayKV_ev (m:KV) (H:List Blk):EvF tab 128 [A m.c] H=some ⟨B (kvOk m),[],[]⟩:=by
 refine EvF_walk t128 (by simp) ?_
 unfold kvOk
 have ht:=texts_ev m.key m.value
 have hn:=wnum_ev [m.create,m.mod,m.version,m.lease] (by simp)
 have e:([m.create,m.mod,m.version,m.lease].all numOk)=(numOk m.create&&(numOk m.mod&&(numOk m.version&&numOk m.lease))):=by simp only [List.all_cons,List.all_nil,Bool.and_true]
 rw [e] at hn
 simp only [ints,List.map_cons,List.map_nil] at hn
 generalize txtOk m.key m.value=b1 at ht ⊢
 generalize (numOk m.create&&(numOk m.mod&&(numOk m.version&&numOk m.lease)))=b2 at hn ⊢
 cases b1 <;> simp -implicitDefEqProofs [A,KV.c,ht,hn,chunk]
theorem mayEvent_ev (m:Ev) (H:List Blk):EvF tab 130 [A m.c] H=some ⟨B (evOk m),[],[]⟩:=by
 refine EvF_walk t130 (by simp) ?_
 unfold evOk
 have ht:=fun H=>mayKV_ev m.kv H
 have hn:=num_one m.rev
 generalize kvOk m.kv=b1 at ht ⊢
 generalize numOk m.rev=b2 at hn ⊢
 simp only [A,KV.c,List.map_cons,List.map_nil] at ht
 cases b1 <;> simp -implicitDefEqProofs [A,Ev.c,ht,hn,chunk]
theorem allKV1_ev (c:KV) {H:List Blk} {p:Nat} (hp:H[p]? = some (.cells [.g (.fn 128)])):EvF tab 171 [A c.c,.ptr p 0] H=some ⟨B (!kvOk c),[],[]⟩:=by
 refine EvF_walk t171 (by simp) ?_
 have hpl:p<H.length:=(List.getElem?_eq_some_iff.1 hp).1
 have hp2:=(List.getElem?_eq_some_iff.1 hp).2
 have hm:=fun H=>mayKV_ev c H
 obtain ⟨b,eb⟩:∃b,kvOk c=b:=⟨_,rfl⟩
 rw [eb] at hm ⊢
 simp only [A,KV.c,List.map_cons,List.map_nil] at hm
 simp -implicitDefEqProofs [A,KV.c,hp2,hpl,getB_old,orB,hm]
theorem allEv1_ev (c:Ev) {H:List Blk} {p:Nat} (hp:H[p]? = some (.cells [.g (.fn 130)])):EvF tab 173 [A c.c,.ptr p 0] H=some ⟨B (!evOk c),[],[]⟩:=by
 refine EvF_walk t173 (by simp) ?_
 have hpl:p<H.length:=(List.getElem?_eq_some_iff.1 hp).1
 have hp2:=(List.getElem?_eq_some_iff.1 hp).2
 have hm:=fun H=>mayEvent_ev c H
 obtain ⟨b,eb⟩:∃b,evOk c=b:=⟨_,rfl⟩
 rw [eb] at hm ⊢
 simp only [A,Ev.c,List.map_cons,List.map_nil] at hm
 simp -implicitDefEqProofs [A,Ev.c,hp2,hpl,getB_old,orB,hm]
theorem allKV_ev (s:Sl KV) (hl:s.l.length≤9223372036854775807) (H:List Blk):EvF tab 127 [.g (KVs.g s),I 30,.g (.fn 128)] H=some ⟨B (kvsOk s),[],[]⟩:=by
 have hc:=contains_ev (Tb:=tab) (f:=60) (g:=131) (agg:=true) (n:=6) (c:=KV.c) t60 t131 (fun x=>A x.c) (fun x => !kvOk x) (.fv 171 [.ptr H.length 0]) s hl (H++[.cells [.g (.fn 128)]]) (fun x=>by simp [A,KV.c]) (fun x _ t=>by
  have h1:=allKV1_ev x (H:=H++[.cells [.g (.fn 128)]]) (p:=H.length) (by simp)
  simp -implicitDefEqProofs [h1])
 refine EvF_walk t127 (by simp) ?_
 unfold kvsOk
 rw [all_any]
 generalize (s.l.any fun x => !kvOk x)=b at hc ⊢
 by_cases h1:s.l.length≤30
 ·simp -implicitDefEqProofs [hc,h1,show (s.l.length:Int)≤30 by omega]
 ·simp -implicitDefEqProofs [hc,h1,show ¬(s.l.length:Int)≤30 by omega]
theorem allEv_ev (s:Sl Ev) (hl:s.l.length≤9223372036854775807) (H:List Blk):EvF tab 129 [.g (Evs.g s),I 30,.g (.fn 130)] H=some ⟨B (evsOk s),[],[]⟩:=by
 have hc:=contains_ev (Tb:=tab) (f:=172) (g:=175) (agg:=true) (n:=8) (c:=Ev.c) t172 t175 (fun x=>A x.c) (fun x => !evOk x) (.fv 173 [.ptr H.length 0]) s hl (H++[.cells [.g (.fn 130)]]) (fun x=>by simp [A,Ev.c]) (fun x _ t=>by
  have h1:=allEv1_ev x (H:=H++[.cells [.g (.fn 130)]]) (p:=H.length) (by simp)
  simp -implicitDefEqProofs [h1])
 refine EvF_walk t129 (by simp) ?_
 unfold evsOk
 rw [all_any]
 generalize (s.l.any fun x => !evOk x)=b at hc ⊢
 by_cases h1:s.l.length≤30
 ·simp -implicitDefEqProofs [hc,h1,show (s.l.length:Int)≤30 by omega]
 ·simp -implicitDefEqProofs [hc,h1,show ¬(s.l.length:Int)≤30 by omega]
def RP (r:Reply):Prop:=r.kvs.l.length≤9223372036854775807∧r.events.l.length≤9223372036854775807
theorem rp {r:Reply} (w:r.wf):RP r:=⟨w.2.2.2.2.2.2.1.2,w.2.2.2.2.2.2.2.2⟩
theorem MayTell_ev (r:Reply) (w:RP r) (H:List Blk):EvF tab 59 [A r.c] H=some ⟨B (repOk r),[],[]⟩:=by
 have hn:=wnum_ev [r.who,r.seq,r.rev,r.lease,r.ttl] (by simp)
 have e:([r.who,r.seq,r.rev,r.lease,r.ttl].all numOk)=(numOk r.who&&(numOk r.seq&&(numOk r.rev&&(numOk r.lease&&numOk r.ttl)))):=by simp only [List.all_cons,List.all_nil,Bool.and_true]
 rw [e] at hn
 simp only [ints,List.map_cons,List.map_nil] at hn
 have hc:=allKV_ev r.kvs w.1
 have hm1:=allEv_ev r.events w.2
 refine EvF_walk t59 (by simp) ?_
 unfold repOk
 generalize (numOk r.who&&(numOk r.seq&&(numOk r.rev&&(numOk r.lease&&numOk r.ttl))))=b2 at hn ⊢
 generalize kvsOk r.kvs=b3 at hc ⊢
 generalize evsOk r.events=b4 at hm1 ⊢
 generalize hG1:KVs.g r.kvs=G1 at hc
 generalize hG2:Evs.g r.events=G2 at hm1
 by_cases h1:0≤r.code
 ·by_cases h2:r.code≤14
  ·cases b2
   ·simp -implicitDefEqProofs [A,Reply.c,hG1,hG2,hn,chunk,h1,h2,show ¬r.code<0 by omega,show ¬14<r.code by omega]
   ·cases b3
    ·simp -implicitDefEqProofs [A,Reply.c,hG1,hG2,hn,hc,chunk,h1,h2,show ¬r.code<0 by omega,show ¬14<r.code by omega]
    ·simp -implicitDefEqProofs [A,Reply.c,hG1,hG2,hn,hc,hm1,chunk,h1,h2,show ¬r.code<0 by omega,show ¬14<r.code by omega]
  ·simp -implicitDefEqProofs [A,Reply.c,hG1,hG2,h1,h2,show ¬r.code<0 by omega,show 14<r.code by omega]
 ·simp -implicitDefEqProofs [A,Reply.c,hG1,hG2,h1,show r.code<0 by omega]
end Go.Proofs.YtndfdnlbljhlgaaGreat
end
section
namespace Go.Proofs.YtndfdnlbljhlgaaGreat
open Go Go.AM Go.Proofs
set_option maxRecDepth 20000
set_option maxHeartbeats 2000000
set_option linter.unusedSimpArgs false
set_option linter.unusedVariables false
def Rp {α:Type} (n:Nat) (c:α→List GV) (H:List Blk) (v:AV) (l:List α):Prop :=
 (l=[]∧v = .g .nsl)∨(v = .g (.sl n (l.map c)))∨∃rid g,v = .ms rid g n 0 l.length∧∃h:rid<H.length,H[rid] = .rows n g (l.map c)
theorem Rp.app {α:Type} {n:Nat} {c:α→List GV} {H:List Blk} {v:AV} {l:List α} (h:Rp n c H v l) (o:List Blk):Rp n c (H++o) v l:=by
 rcases h with h | h | ⟨rid,g,h1,h2,h3⟩
 ·exact .inl h
 ·exact .inr (.inl h)
 ·exact .inr (.inr ⟨rid,g,h1,by simp;omega,by rw [List.getElem_append_left h2];exact h3⟩)
theorem Rp.of {α:Type} {n:Nat} {c:α→List GV} {H:List Blk} (s:Sl α):Rp n c H (.g (Sl.g n c s)) s.l:=by
 cases s with
 | nil=>exact .inl ⟨rfl,rfl⟩
 | of l=>exact .inr (.inl rfl)
theorem Rp.leaf {α:Type} {n:Nat} {c:α→List GV} {H:List Blk} {v:AV} {l:List α} (h:Rp n c H v l):v.leaf=true:=by
 rcases h with ⟨_,rfl⟩ | rfl | ⟨rid,g,rfl,_⟩ <;> rfl
theorem Rp.len {α:Type} {n:Nat} {c:α→List GV} {H:List Blk} {v:AV} {l:List α} (h:Rp n c H v l) (t:List (Nat×AV)) (o:List Blk):lenV H ⟨t,[],o⟩ v=some l.length:=by
 rcases h with ⟨rfl,rfl⟩ | rfl | ⟨rid,g,rfl,hp,hp2⟩
 ·simp [lenV]
 ·simp [lenV]
 ·simp -implicitDefEqProofs [lenV,hp,hp2,getB_old,orB]
def rc (r:Reply) (v1 v2:AV):List AV:=[I r.code,I r.who,I r.seq,I r.rev,I r.lease,I r.ttl,B r.yes,v1,v2]
theorem kv2_ev (m:KV) (H:List Blk):EvF tab 75 [A m.c] H=some ⟨B (kvOk m),[],[]⟩:=by
 refine EvF_walk t75 (by simp) ?_
 unfold kvOk
 have ht:=texts2_ev m.key m.value
 have h1:=number2_ev m.create
 have h2:=number2_ev m.mod
 have h3:=number2_ev m.version
 have h4:=number2_ev m.lease
 generalize txtOk m.key m.value=b0 at ht ⊢
 generalize numOk m.create=b1 at h1 ⊢
 generalize numOk m.mod=b2 at h2 ⊢
 generalize numOk m.version=b3 at h3 ⊢
 generalize numOk m.lease=b4 at h4 ⊢
 cases b0
 ·simp -implicitDefEqProofs [A,KV.c,ht]
 cases b1
 ·simp -implicitDefEqProofs [A,KV.c,ht,h1]
 cases b2
 ·simp -implicitDefEqProofs [A,KV.c,ht,h1,h2]
 cases b3
 ·simp -implicitDefEqProofs [A,KV.c,ht,h1,h2,h3]
 ·simp -implicitDefEqProofs [A,KV.c,ht,h1,h2,h3,h4]
theorem MT2_loop0 (r:Reply) (l:List KV) (hl:l.length≤9223372036854775807) {H:List Blk} {v1 v2:AV} (hr:Rp 6 KV.c H v1 l) :
  loopE (EvF tab) H L29_0 [1,3] ⟨[(1,.ptr H.length 0),(3,I 0)],[],[.cells (rc r v1 v2)]⟩ =
   some (if allP kvOk l=true then (.exit 0,⟨[(1,.ptr H.length 0),(3,I l.length),(59,B false)],[],[.cells (rc r v1 v2)]⟩) else (.ret,⟨[(2,B false)],[],[.cells (rc r v1 v2)]⟩)):=by
 refine loop_all0 (l:=l) kvOk (fun k=>⟨[(1,.ptr H.length 0),(3,I k)],[],[.cells (rc r v1 v2)]⟩) _ _ (by simp) (by simp) (fun k x hk hx hy => ?_) (by
  delta L29_0
  rcases hr with ⟨rfl,rfl⟩ | rfl | ⟨rid,g,rfl,hp,hp2⟩
  ·simp -implicitDefEqProofs [rc]
  ·simp -implicitDefEqProofs [rc]
  ·simp -implicitDefEqProofs [rc,hp,hp2,getB_old,orB])
 delta L29_0
 have e2:=wrap_succ hk hl
 have h1:=fun H=>kv2_ev x H
 generalize kvOk x=b at h1 ⊢
 simp only [A,KV.c,List.map_cons,List.map_nil] at h1
 rcases hr with ⟨rfl,rfl⟩ | rfl | ⟨rid,g,rfl,hp,hp2⟩
 ·simp at hk
 ·cases b <;> simp -implicitDefEqProofs [rc,hk,hy,KV.c,h1,e2]
 ·cases b <;> simp -implicitDefEqProofs [rc,hk,hy,KV.c,h1,e2,hp,hp2,getB_old,orB]
theorem MT2_loop1 (r:Reply) (l:List Ev) (hl:l.length≤9223372036854775807) {H:List Blk} {v1 v2:AV} (hr:Rp 8 Ev.c H v2 l) :
  loopE (EvF tab) H L29_1 [1,4] ⟨[(1,.ptr H.length 0),(4,I 0)],[],[.cells (rc r v1 v2)]⟩ =
   some (if allP evOk l=true then (.exit 2,⟨[(1,.ptr H.length 0),(4,I l.length),(73,B false)],[],[.cells (rc r v1 v2)]⟩) else (.ret,⟨[(2,B false)],[],[.cells (rc r v1 v2)]⟩)):=by
 refine loop_all0 (l:=l) evOk (fun k=>⟨[(1,.ptr H.length 0),(4,I k)],[],[.cells (rc r v1 v2)]⟩) _ _ (by simp) (by simp) (fun k x hk hx hy => ?_) (by
  delta L29_1
  rcases hr with ⟨rfl,rfl⟩ | rfl | ⟨rid,g,rfl,hp,hp2⟩
  ·simp -implicitDefEqProofs [rc]
  ·simp -implicitDefEqProofs [rc]
  ·simp -implicitDefEqProofs [rc,hp,hp2,getB_old,orB])
 delta L29_1
 have e2:=wrap_succ hk hl
 have h1:=fun H=>kv2_ev x.kv H
 have h2:=number2_ev x.rev
 unfold evOk
 generalize kvOk x.kv=b at h1 ⊢
 generalize numOk x.rev=b2 at h2 ⊢
 simp only [A,KV.c,List.map_cons,List.map_nil] at h1
 rcases hr with ⟨rfl,rfl⟩ | rfl | ⟨rid,g,rfl,hp,hp2⟩
 ·simp at hk
 ·cases b <;> cases b2 <;> simp -implicitDefEqProofs [rc,hk,hy,Ev.c,h1,h2,e2]
 ·cases b <;> cases b2 <;> simp -implicitDefEqProofs [rc,hk,hy,Ev.c,h1,h2,e2,hp,hp2,getB_old,orB]
theorem MayTell2_ev (r:Reply) (w:RP r) {H:List Blk} {v1 v2:AV} (hr1:Rp 6 KV.c H v1 r.kvs.l) (hr2:Rp 8 Ev.c H v2 r.events.l):EvF tab 29 [.agg (rc r v1 v2)] H=some ⟨B (repOk r),[],[]⟩:=by
 have hw1:=MT2_loop0 r r.kvs.l w.1 (v2:=v2) hr1
 have hw2:=MT2_loop1 r r.events.l w.2 (v1:=v1) hr2
 have f1:=hr1.leaf
 have f2:=hr2.leaf
 have g1:=hr1.len
 have g2:=hr2.len
 refine EvF_walk t29 (by simp) ?_
 obtain ⟨code,who,seq,rev,lease,ttl,yes,kvs,events⟩:=r
 unfold repOk kvsOk evsOk
 simp only at hw1 hw2 g1 g2 ⊢
 have h1:=number2_ev who
 have h2:=number2_ev seq
 have h3:=number2_ev rev
 have h4:=number2_ev lease
 have h5:=number2_ev ttl
 rw [show kvs.l.all kvOk=allP kvOk kvs.l from rfl,show events.l.all evOk=allP evOk events.l from rfl]
 generalize numOk who=n1 at h1 ⊢
 generalize numOk seq=n2 at h2 ⊢
 generalize numOk rev=n3 at h3 ⊢
 generalize numOk lease=n4 at h4 ⊢
 generalize numOk ttl=n5 at h5 ⊢
 generalize allP kvOk kvs.l=b1 at hw1 ⊢
 generalize allP evOk events.l=b2 at hw2 ⊢
 generalize kvs.l.length=l1 at hw1 g1 ⊢
 generalize events.l.length=l2 at hw2 g2 ⊢
 simp only [rc] at hw1 hw2
 by_cases k1:0≤code
 ·by_cases k2:code≤14
  ·have k1':¬code<0:=by omega
   have k2':¬14<code:=by omega
   cases n1
   ·simp -implicitDefEqProofs [rc,f1,f2,h1,k1,k2,k1',k2']
   cases n2
   ·simp -implicitDefEqProofs [rc,f1,f2,h1,h2,k1,k2,k1',k2']
   cases n3
   ·simp -implicitDefEqProofs [rc,f1,f2,h1,h2,h3,k1,k2,k1',k2']
   cases n4
   ·simp -implicitDefEqProofs [rc,f1,f2,h1,h2,h3,h4,k1,k2,k1',k2']
   cases n5
   ·simp -implicitDefEqProofs [rc,f1,f2,h1,h2,h3,h4,h5,k1,k2,k1',k2']
   by_cases k3:l1≤30
   ·have k3':¬(30:Int)<(l1:Int):=by omega
    by_cases k4:l2≤30
    ·have k4':¬(30:Int)<(l2:Int):=by omega
     cases b1 <;> simp only [Bool.false_eq_true,if_true,if_false] at hw1
     ·simp -implicitDefEqProofs [rc,f1,f2,g1,g2,h1,h2,h3,h4,h5,k1,k2,k1',k2',k3,k3',k4,k4',hw1]
     ·cases b2 <;> simp only [Bool.false_eq_true,if_true,if_false] at hw2 <;> simp -implicitDefEqProofs [rc,f1,f2,g1,g2,h1,h2,h3,h4,h5,k1,k2,k1',k2',k3,k3',k4,k4',hw1,hw2]
    ·simp -implicitDefEqProofs [rc,f1,f2,g1,g2,h1,h2,h3,h4,h5,k1,k2,k1',k2',k3,k3',k4,show (30:Int)<(l2:Int) by omega]
   ·simp -implicitDefEqProofs [rc,f1,f2,g1,g2,h1,h2,h3,h4,h5,k1,k2,k1',k2',k3,show (30:Int)<(l1:Int) by omega]
  ·simp -implicitDefEqProofs [rc,f1,f2,k1,k2,show ¬code<0 by omega,show 14<code by omega]
 ·simp -implicitDefEqProofs [rc,f1,f2,k1,show code<0 by omega]
end Go.Proofs.YtndfdnlbljhlgaaGreat
end
section
namespace Go.Proofs.YtndfdnlbljhlgaaGreat
open Go Go.AM Go.Proofs
set_option maxRecDepth 20000
set_option maxHeartbeats 2000000
set_option linter.unusedSimpArgs false
set_option linter.unusedVariables false
theorem gap (o l:List Blk) (k:Nat):(o++l)[o.length+k]? = l[k]?:=by rw [List.getElem?_append_right (by omega),Nat.add_sub_cancel_left]
theorem gap0 (o l:List Blk):(o++l)[o.length]? = l[0]?:=by rw [List.getElem?_append_right (by omega),Nat.sub_self]
theorem sap (o l:List Blk) (k:Nat) (b:Blk):(o++l).set (o.length+k) b=o++l.set k b:=by rw [List.set_append_right _ _ (by omega),Nat.add_sub_cancel_left]
theorem sap0 (o l:List Blk) (b:Blk):(o++l).set o.length b=o++l.set 0 b:=by rw [List.set_append_right _ _ (by omega),Nat.sub_self]
def repIn (x:Memo):Bool:=repOk x.rep&&(decide (x.rep.code=0)&&(decide (x.rep.who=x.who)&&decide (x.rep.seq=x.seq)))
def heldL (L:List Lease) (x:KV):Bool:=decide (x.lease=0)||hasS x.lease L
def timeIn (s:Server):Bool:=decide (0≤s.clock)&&decide (s.clock≤1099511627775)
def mayV (s:Server):Bool:=storeOk s.st&&(mayS s.ls&&(mayMe s.ms.l.l s.ms.old.l&&(timeIn s&&(allP repIn s.ms.l.l&&allP (heldL s.ls.l.l) (nowP s.st)))))
theorem runG_allU {α:Type} (p:α→Bool) (l:List α) (k:Nat):runG (fun _ (x:α) (_:Unit)=>if p x=true then .inl () else .inr ()) k l ()=if allP p l=true then .inl () else (.inr ():Unit⊕Unit):=runG_all p l k
theorem rep_loop (s:Server) (hw:∀x∈s.ms.l.l,RP x.rep) (hl:s.ms.l.l.length≤9223372036854775807) (H:List Blk) :
  ∃o',loopE (EvF tab) H L24_0 [1,34,35,36] ⟨[(1,.ptr H.length 0),(34,.g (MemoL.g s.ms.l)),(35,I s.ms.l.l.length),(36,I 0)],[],[.cells (s.c.map .g)]⟩ =
   some (if allP repIn s.ms.l.l=true then (.exit 0,⟨[(1,.ptr H.length 0),(34,.g (MemoL.g s.ms.l)),(35,I s.ms.l.l.length),(36,I s.ms.l.l.length),(37,B false)],[],.cells (s.c.map .g)::o'⟩) else (.ret,⟨[(2,B false)],[],.cells (s.c.map .g)::o'⟩)):=by
 have hq:=loop_runJ (E:=EvF tab) (h:=H) (c:=L24_0) (lv:=[1,34,35,36]) (l:=s.ms.l.l) (β:=Unit) (γ:=Unit) (fun _ _=>True) (fun _ x _=>if repIn x=true then .inl () else .inr ())
  (fun k _ o=>⟨[(1,.ptr H.length 0),(34,.g (MemoL.g s.ms.l)),(35,I s.ms.l.l.length),(36,I k)],[],.cells (s.c.map .g)::o⟩)
  (fun _ o=>(.exit 0,⟨[(1,.ptr H.length 0),(34,.g (MemoL.g s.ms.l)),(35,I s.ms.l.l.length),(36,I s.ms.l.l.length),(37,B false)],[],.cells (s.c.map .g)::o⟩))
  (fun _ o=>(.ret,⟨[(2,B false)],[],.cells (s.c.map .g)::o⟩)) (by simp) (by simp) (fun k x _ o hk hx hy _ => ?_) (fun _ o _=>by delta L24_0;simp -implicitDefEqProofs) () [] trivial
 ·obtain ⟨o',hq⟩:=hq
  refine ⟨o',?_⟩
  rw [runG_allU] at hq
  simp only [Int.ofNat_zero,Int.cast_ofNat_Int] at hq
  rw [hq]
  cases allP repIn s.ms.l.l <;> rfl
 ·have e2:=wrap_succ hk hl
  have m1:=fun H=>MayTell_ev x.rep (hw x (List.mem_of_getElem? hx)) H
  have hO:repIn x=(repOk x.rep&&(decide (x.rep.code=0)&&(decide (x.rep.who=x.who)&&decide (x.rep.seq=x.seq)))):=rfl
  generalize repIn x=b at hO ⊢
  generalize repOk x.rep=b1 at m1 hO
  delta L24_0
  obtain ⟨⟨srev,slow,sbase,slog⟩,⟨lnext,ll⟩,⟨ml,mo⟩,clock⟩:=s
  simp only at hk hx hy e2 ⊢
  cases ml with
  | nil=>simp at hk
  | of l =>
  simp only [Sl.l_of] at hk hx hy e2 ⊢
  obtain ⟨xw,xs,r1,r2,r3,r4,r5,r6,r7,r8,r9⟩:=x
  simp only [A,Reply.c,Server.c,List.map_cons,List.map_nil] at m1 hO ⊢
  cases b1
  ·simp only [Bool.false_and] at hO
   subst hO
   refine ⟨o++[.rows 6 1 [],.rows 8 1 [],.cells ((Memo.c ⟨xw,xs,r1,r2,r3,r4,r5,r6,r7,r8,r9⟩).map .g),.rows 6 1 [],.rows 8 1 [],.cells ((Reply.c ⟨r1,r2,r3,r4,r5,r6,r7,r8,r9⟩).map .g)],?_⟩
   simp -implicitDefEqProofs [m1,hk,hx,hy,e2,Memo.c,Reply.c,gap,gap0,sap,sap0,List.append_assoc]
  ·by_cases c1:r1=0
   ·subst c1
    by_cases c2:r2=xw
    ·subst c2
     by_cases c3:r3=xs
     ·subst c3
      simp only [decide_true,Bool.and_self] at hO
      subst hO
      simp only [if_true]
      refine ⟨trivial,o++[.rows 6 1 [],.rows 8 1 [],.cells ((Memo.c ⟨r2,r3,0,r2,r3,r4,r5,r6,r7,r8,r9⟩).map .g),.rows 6 1 [],.rows 8 1 [],.cells ((Reply.c ⟨0,r2,r3,r4,r5,r6,r7,r8,r9⟩).map .g)],?_⟩
      simp -implicitDefEqProofs [m1,hk,hx,hy,e2,Memo.c,Reply.c,gap,gap0,sap,sap0,List.append_assoc]
     ·simp only [c3,decide_true,decide_false,Bool.and_self,Bool.and_false] at hO
      subst hO
      refine ⟨o++[.rows 6 1 [],.rows 8 1 [],.cells ((Memo.c ⟨r2,xs,0,r2,r3,r4,r5,r6,r7,r8,r9⟩).map .g),.rows 6 1 [],.rows 8 1 [],.cells ((Reply.c ⟨0,r2,r3,r4,r5,r6,r7,r8,r9⟩).map .g)],?_⟩
      simp -implicitDefEqProofs [m1,hk,hx,hy,e2,c3,Memo.c,Reply.c,gap,gap0,sap,sap0,List.append_assoc]
    ·simp only [c2,decide_true,decide_false,Bool.and_self,Bool.and_false,Bool.false_and] at hO
     subst hO
     refine ⟨o++[.rows 6 1 [],.rows 8 1 [],.cells ((Memo.c ⟨xw,xs,0,r2,r3,r4,r5,r6,r7,r8,r9⟩).map .g),.rows 6 1 [],.rows 8 1 [],.cells ((Reply.c ⟨0,r2,r3,r4,r5,r6,r7,r8,r9⟩).map .g)],?_⟩
     simp -implicitDefEqProofs [m1,hk,hx,hy,e2,c2,Memo.c,Reply.c,gap,gap0,sap,sap0,List.append_assoc]
   ·simp only [c1,decide_false,Bool.and_false,Bool.false_and] at hO
    subst hO
    refine ⟨o++[.rows 6 1 [],.rows 8 1 [],.cells ((Memo.c ⟨xw,xs,r1,r2,r3,r4,r5,r6,r7,r8,r9⟩).map .g),.rows 6 1 [],.rows 8 1 [],.cells ((Reply.c ⟨r1,r2,r3,r4,r5,r6,r7,r8,r9⟩).map .g)],?_⟩
    simp -implicitDefEqProofs [m1,hk,hx,hy,e2,c1,Memo.c,Reply.c,gap,gap0,sap,sap0,List.append_assoc]
theorem held1_ev (x:KV) (s:Server) (hl:s.ls.l.l.length≤9223372036854775807) {H:List Blk} {p:Nat} (hp:H[p]? = some (.cells (s.c.map .g))):EvF tab 61 [A x.c,.ptr p 0] H=some ⟨B (!heldL s.ls.l.l x),[],[]⟩:=by
 have m1:=fun H=>Has_ev s.ls x.lease hl H
 refine EvF_walk t61 (by simp) ?_
 unfold heldL
 have hpl:p<H.length:=(List.getElem?_eq_some_iff.1 hp).1
 have hp2:=(List.getElem?_eq_some_iff.1 hp).2
 have hlv:isLiveB H p=true:=by unfold isLiveB;rw [hp];rfl
 generalize hasS x.lease s.ls.l.l=b at m1 ⊢
 simp only [A,Leases.c,Server.c,List.map_cons,List.map_nil] at m1 hp2 ⊢
 by_cases c1:x.lease=0
 ·simp -implicitDefEqProofs [KV.c,m1,c1]
 ·cases b <;> simp -implicitDefEqProofs [KV.c,m1,c1,hp2,hpl,getB_old,orB,hlv]
theorem any_allP {α:Type} (p:α→Bool) (l:List α):(l.any fun x => !p x) = !allP p l:=by
 unfold allP
 induction l with
 | nil=>rfl
 | cons x l ih=>simp only [List.any_cons,List.all_cons,ih];cases p x <;> rfl
theorem SMay_ev (s:Server) (w:s.wf) (hm:s.ms.l.l.length+s.ms.old.l.length≤5000) (H:List Blk):EvF tab 24 [A s.c] H=some ⟨B (mayV s),[],[]⟩:=by
 obtain ⟨w1,w2,w3,w4⟩:=w
 have m1:=fun H=>May_ev s.st w1 H
 have m2:=fun H=>LMay_ev s.ls w2 H
 have m3:=fun H=>MMay_ev s.ms w3 hm H
 obtain ⟨o,hq⟩:=rep_loop s (fun x hx=>rp (w3.1.1 x hx).2.2) (by omega) H
 by_cases hok:storeOk s.st=true
 case neg =>
  rw [Bool.not_eq_true] at hok
  refine EvF_walk t24 (by simp) ?_
  unfold mayV
  rw [hok] at m1 ⊢
  simp only [A,Store.c,Server.c,List.map_cons,List.map_nil] at m1 ⊢
  simp -implicitDefEqProofs [m1]
 have hO:=storeOk_iff.1 hok
 have hs:smallS s.st:=by have:=hO.bl;have:=hO.ll;unfold smallS;omega
 have m4:=fun H=>Now_ev s.st hs H
 have hR:(foldR s.st.base s.st.log.l s.st.rev).l=nowP s.st:=foldR_l ..
 have m5:=fun o=>contains_ev (Tb:=tab) (f:=60) (g:=131) (agg:=true) (n:=6) (c:=KV.c) t60 t131 (fun x=>A x.c) (fun x => !heldL s.ls.l.l x) (.fv 61 [.ptr H.length 0]) (foldR s.st.base s.st.log.l s.st.rev) (by rw [hR];have:=hO.nowLen;omega) (H ++ .cells (s.c.map .g)::o) (fun x=>by simp [A,KV.c]) (fun x _ t=>by
  have h1:=held1_ev x s w2.2.2 (H:=H ++ .cells (s.c.map .g)::o) (p:=H.length) (by simp)
  simp -implicitDefEqProofs [h1])
 simp only [hR,any_allP] at m5
 change ∀o,EvF tab _ [.g (KVs.g _),_] _=_ at m5
 refine EvF_walk t24 (by simp) ?_
 unfold mayV timeIn
 rw [hok] at m1 ⊢
 generalize mayS s.ls=b2 at m2 ⊢
 generalize mayMe s.ms.l.l s.ms.old.l=b3 at m3 ⊢
 generalize allP repIn s.ms.l.l=b4 at hq ⊢
 generalize allP (heldL s.ls.l.l) (nowP s.st)=b5 at m5 ⊢
 have hv:∀h st,lenV h st (.g (MemoL.g s.ms.l))=some s.ms.l.l.length:=fun h st=>lenV_Sl ..
 obtain ⟨⟨srev,slow,sbase,slog⟩,⟨lnext,ll⟩,⟨ml,mo⟩,clock⟩:=s
 simp only [A,Store.c,Leases.c,Memos.c,Server.c,List.map_cons,List.map_nil] at m1 m2 m3 m4 m5 hv hq ⊢
 generalize KVs.g (foldR sbase slog.l srev)=G0 at m4 m5
 generalize ml.l.length=n at hv hq
 generalize KVs.g sbase=G1 at m1 m4 m5 hq ⊢
 generalize Evs.g slog=G2 at m1 m4 m5 hq ⊢
 generalize LeaseL.g ll=G3 at m2 m5 hq ⊢
 generalize MemoL.g ml=G4 at m3 m5 hv hq ⊢
 generalize Floors.g mo=G5 at m3 m5 hq ⊢
 clear hO hs hok
 cases b2
 ·simp -implicitDefEqProofs [m1,m2]
 cases b3
 ·simp -implicitDefEqProofs [m1,m2,m3]
 by_cases c1:0≤clock
 ·by_cases c2:clock≤1099511627775
  ·cases b4
   ·simp only [Bool.false_eq_true,if_false] at hq
    simp -implicitDefEqProofs [m1,m2,m3,hv,hq,c1,c2,show ¬clock<0 by omega,show ¬1099511627775<clock by omega]
   ·simp only [if_true] at hq
    simp -implicitDefEqProofs [m1,m2,m3,m4,m5,hv,hq,c1,c2,show ¬clock<0 by omega,show ¬1099511627775<clock by omega]
  ·simp -implicitDefEqProofs [m1,m2,m3,c1,c2,show ¬clock<0 by omega,show 1099511627775<clock by omega]
 ·simp -implicitDefEqProofs [m1,m2,m3,c1,show clock<0 by omega]
end Go.Proofs.YtndfdnlbljhlgaaGreat
end
section
namespace Go.Proofs.YtndfdnlbljhlgaaGreat
open Go Go.AM Go.Proofs
set_option maxRecDepth 20000
set_option maxHeartbeats 2000000
set_option linter.unusedSimpArgs false
set_option linter.unusedVariables false
def allIx {α:Type} (p:Nat→α→Bool):Nat→List α→Bool
 | _,[]=>true
 | k,x::l=>p k x&&allIx p (k+1) l
theorem runG_ix {α:Type} (p:Nat→α→Bool):∀(l:List α) (k:Nat),runG (fun k (x:α) (_:Unit)=>if p k x=true then .inl () else .inr ()) k l ()=if allIx p k l=true then .inl () else (.inr ():Unit⊕Unit)
 | [],_=>rfl
 | x::l,k=>by
  unfold runG allIx
  by_cases h:p k x=true
  ·simp only [h,if_true,Bool.true_and];exact runG_ix p l (k+1)
  ·simp [h]
theorem allIx_iff {α:Type} (p:Nat→α→Bool):∀(l:List α) (k:Nat),allIx p k l=true↔∀j (h:j<l.length),p (k+j) l[j]=true
 | [],_=>by simp [allIx]
 | x::l,k=>by
  unfold allIx
  rw [Bool.and_eq_true,allIx_iff p l (k+1)]
  constructor
  ·rintro ⟨h1,h2⟩ j hj
   cases j with
   | zero=>exact h1
   | succ j=>have:=h2 j (by simpa using hj);rw [show k+1+j=k+(j+1) by omega] at this;exact this
  ·intro h
   refine ⟨h 0 (by simp),fun j hj => ?_⟩
   have:=h (j+1) (by simpa using hj)
   rw [show k+(j+1)=k+1+j by omega] at this;exact this
theorem nodup_ix {α β:Type} (f:α→β) (e:α→α→Bool) (he:∀x y,e x y=true↔f y=f x) (L:List α):allIx (fun k x=>allP (fun y => !e x y) (L.take k)) 0 L=true↔(L.map f).Nodup:=by
 rw [allIx_iff,List.Nodup,List.pairwise_iff_getElem]
 simp only [Nat.zero_add,allP_iff,List.length_map,List.getElem_map]
 constructor
 ·intro h i j hi hj hij hne
  have:=h j hj L[i] (List.mem_iff_getElem.2 ⟨i,by rw [List.length_take];omega,by rw [List.getElem_take]⟩)
  rw [Bool.not_eq_true',Bool.eq_false_iff] at this
  exact this ((he _ _).2 hne)
 ·intro h j hj y hy
  obtain ⟨i,hi,rfl⟩:=List.mem_iff_getElem.1 hy
  rw [List.length_take] at hi
  rw [List.getElem_take,Bool.not_eq_true',Bool.eq_false_iff]
  intro hc
  exact h i j (by omega) hj (by omega) ((he _ _).1 hc)
theorem hasR_ev (s:Sl Floor) (w:Int) (hl:s.l.length≤9223372036854775807) (H:List Blk):EvF tab 83 [.g (Floors.g s),I w] H=some ⟨B (hasP s.l w),[],[]⟩:=by
 have hw:=loop_all0 (E:=EvF tab) (h:=H) (c:=L83_0) (lv:=[0,1,5]) (l:=s.l) (fun x:Floor => !decide (x.who=w)) (fun k=>⟨[(0,.g (Floors.g s)),(1,I w),(5,I k)],[],[]⟩)
  (.exit 0,⟨[(0,.g (Floors.g s)),(1,I w),(5,I s.l.length),(9,B false)],[],[]⟩) (.ret,⟨[(4,B true)],[],[]⟩) (by simp) (by simp) (fun k x hk hx hy => ?_) (by delta L83_0;cases s <;> simp -implicitDefEqProofs)
 ·refine EvF_walk t83 (by simp) ?_
  simp only [Int.ofNat_zero,Int.cast_ofNat_Int] at hw
  have e:hasP s.l w = !allP (fun x:Floor => !decide (x.who=w)) s.l:=by
   unfold hasP allP
   induction s.l with
   | nil=>rfl
   | cons x l ih=>simp only [List.any_cons,List.all_cons,ih];cases decide (x.who=w) <;> rfl
  rw [e]
  cases hb:allP (fun x:Floor => !decide (x.who=w)) s.l <;> rw [hb] at hw <;> simp only [Bool.false_eq_true,if_false,if_true] at hw <;> simp -implicitDefEqProofs [hw]
 ·have e2:=wrap_succ hk hl
  delta L83_0
  cases s with
  | nil=>simp at hk
  | of l =>
   simp only [Sl.l_of] at hk hy hx
   obtain ⟨xw,xs⟩:=x
   by_cases h:xw=w <;> simp -implicitDefEqProofs [hk,hx,hy,Floor.c,h,e2]
theorem mr_inner (m:Memos) (i:Nat) (x:Memo) (hx:m.l.l[i]? = some x) (hl:m.l.l.length≤10000) (H:List Blk) :
  loopE (EvF tab) H L36_0 [1,3,4] ⟨[(1,.ptr H.length 0),(3,I i),(4,I 0)],[],[.cells (m.c.map .g)]⟩ =
   some (if allP (fun y => !isP x.who x.seq y) (m.l.l.take i)=true then (.exit 2,⟨[(1,.ptr H.length 0),(3,I i),(4,I i),(52,B false)],[],[.cells (m.c.map .g)]⟩) else (.ret,⟨[(2,B false)],[],[.cells (m.c.map .g)]⟩)):=by
 have hi:i<m.l.l.length:=(List.getElem?_eq_some_iff.1 hx).1
 have hlt:(m.l.l.take i).length=i:=by rw [List.length_take];omega
 have hw:=loop_all0 (E:=EvF tab) (h:=H) (c:=L36_0) (lv:=[1,3,4]) (l:=m.l.l.take i) (fun y:Memo => !isP x.who x.seq y) (fun k=>⟨[(1,.ptr H.length 0),(3,I i),(4,I k)],[],[.cells (m.c.map .g)]⟩)
  (.exit 2,⟨[(1,.ptr H.length 0),(3,I i),(4,I i),(52,B false)],[],[.cells (m.c.map .g)]⟩) (.ret,⟨[(2,B false)],[],[.cells (m.c.map .g)]⟩) (by simp) (by simp) (fun k y hk hy hy2 => ?_) (by rw [hlt];delta L36_0;simp -implicitDefEqProofs)
 ·simpa only [Int.ofNat_zero,Int.cast_ofNat_Int] using hw
 ·have hki:k<i:=by rw [hlt] at hk;exact hk
  have e2:=wrap_succ hki (by omega)
  rw [List.getElem?_take_of_lt hki] at hy
  clear hk hy2 hlt
  delta L36_0
  obtain ⟨ml,mo⟩:=m
  simp only at hx hy hi hl
  cases ml with
  | nil=>simp at hi
  | of l =>
  simp only [Sl.l_of] at hx hy hi hl
  obtain ⟨xw,xs,r1,r2,r3,r4,r5,r6,r7,r8,r9⟩:=x
  obtain ⟨yw,ys,q1,q2,q3,q4,q5,q6,q7,q8,q9⟩:=y
  have hx2:=(List.getElem?_eq_some_iff.1 hx).2
  unfold isP
  by_cases c1:yw=xw
  ·by_cases c2:ys=xs
   ·simp -implicitDefEqProofs [Memos.c,Memo.c,hx,hx2,hy,hi,hki,e2,c1,c2]
   ·simp -implicitDefEqProofs [Memos.c,Memo.c,hx,hx2,hy,hi,hki,e2,c1,c2]
  ·simp -implicitDefEqProofs [Memos.c,Memo.c,hx,hx2,hy,hi,hki,e2,c1]
def okM (l:List Memo) (old:List Floor) (k:Nat) (x:Memo):Bool := !(decide (x.seq≤floorP old x.who)&&hasP old x.who)&&(decide ((seqsP l x.who).length≤4)&&allP (fun y => !isP x.who x.seq y) (l.take k))
theorem mr_outer (m:Memos) (hl:m.l.l.length+m.old.l.length≤5000) (H:List Blk) :
  loopE (EvF tab) H L36_1 [1,3] ⟨[(1,.ptr H.length 0),(3,I 0)],[],[.cells (m.c.map .g)]⟩ =
   some (if allIx (okM m.l.l m.old.l) 0 m.l.l=true then (.exit 0,⟨[(1,.ptr H.length 0),(3,I m.l.l.length),(11,B false)],[],[.cells (m.c.map .g)]⟩) else (.ret,⟨[(2,B false)],[],[.cells (m.c.map .g)]⟩)):=by
 have hq:=loop_runJ (E:=EvF tab) (h:=H) (c:=L36_1) (lv:=[1,3]) (l:=m.l.l) (β:=Unit) (γ:=Unit) (fun _ _=>True) (fun k x _=>if okM m.l.l m.old.l k x=true then .inl () else .inr ())
  (fun k _ o=>⟨[(1,.ptr H.length 0),(3,I k)],[],[.cells (m.c.map .g)]⟩)
  (fun _ o=>(.exit 0,⟨[(1,.ptr H.length 0),(3,I m.l.l.length),(11,B false)],[],[.cells (m.c.map .g)]⟩))
  (fun _ o=>(.ret,⟨[(2,B false)],[],[.cells (m.c.map .g)]⟩)) (by simp) (by simp) (fun k x _ o hk hx hy _ => ?_) (fun _ o _=>by delta L36_1;obtain ⟨ml,mo⟩:=m;simp -implicitDefEqProofs [Memos.c]) () [] trivial
 ·obtain ⟨o',hq⟩:=hq
  rw [runG_ix] at hq
  simp only [Int.ofNat_zero,Int.cast_ofNat_Int] at hq
  rw [hq]
  cases allIx (okM m.l.l m.old.l) 0 m.l.l <;> rfl
 ·have e2:=wrap_succ hk (by omega)
  have m1:=fun H=>Floor2_ev m x.who (by omega) H
  have m2:=fun H=>hasR_ev m.old x.who (by omega) H
  have m3:=fun H=>Seqs2_ev m x.who (by omega) H
  have hi:=mr_inner m k x hx (by omega) H
  have hO:okM m.l.l m.old.l k x=(!(decide (x.seq≤floorP m.old.l x.who)&&hasP m.old.l x.who)&&(decide ((seqsP m.l.l x.who).length≤4)&&allP (fun y => !isP x.who x.seq y) (m.l.l.take k))):=rfl
  have hv:∀h st,lenV h st (.g (Ints.g (slOf (seqsP m.l.l x.who))))=some (seqsP m.l.l x.who).length:=fun h st=>by rw [lenV_Sl,slOf_l]
  generalize okM m.l.l m.old.l k x=b at hO ⊢
  generalize floorP m.old.l x.who=f at m1 hO
  generalize hasP m.old.l x.who=hb at m2 hO
  generalize Ints.g (slOf (seqsP m.l.l x.who))=GI at m3 hv
  generalize (seqsP m.l.l x.who).length=n at hv hO
  generalize allP (fun y => !isP x.who x.seq y) (m.l.l.take k)=ib at hi hO
  delta L36_1
  obtain ⟨ml,mo⟩:=m
  simp only at hk hx hy hl hi e2 ⊢
  cases ml with
  | nil=>simp at hk
  | of l =>
  simp only [Sl.l_of] at hk hx hy hl e2 ⊢
  obtain ⟨xw,xs,r1,r2,r3,r4,r5,r6,r7,r8,r9⟩:=x
  simp only [A,Memos.c,List.map_cons,List.map_nil,MemoL.g,Sl.g_of] at m1 m2 m3 hi hO ⊢
  generalize Floors.g mo=G2 at m1 m2 m3 hi ⊢
  by_cases c1:xs≤f
  ·cases hb
   ·by_cases c2:n≤4
    ·simp only [c1,c2,decide_true,Bool.and_false,Bool.not_false,Bool.true_and] at hO
     subst hO
     cases b
     ·simp only [Bool.false_eq_true,if_false] at hi ⊢
      refine ⟨[],?_⟩
      simp -implicitDefEqProofs [m1,m2,m3,hi,hv,hk,hx,hy,e2,Memo.c,c1,c2,show ¬(4:Int)<(n:Int) by omega]
     ·simp only [if_true] at hi ⊢
      refine ⟨trivial,[],?_⟩
      simp -implicitDefEqProofs [m1,m2,m3,hi,hv,hk,hx,hy,e2,Memo.c,c1,c2,show ¬(4:Int)<(n:Int) by omega]
    ·simp only [c1,c2,decide_true,decide_false,Bool.and_false,Bool.false_and,Bool.not_false,Bool.true_and] at hO
     subst hO
     refine ⟨[],?_⟩
     simp -implicitDefEqProofs [m1,m2,m3,hi,hv,hk,hx,hy,e2,Memo.c,c1,c2,show (4:Int)<(n:Int) by omega]
   ·simp only [c1,decide_true,Bool.and_self,Bool.not_true,Bool.false_and] at hO
    subst hO
    refine ⟨[],?_⟩
    simp -implicitDefEqProofs [m1,m2,m3,hi,hv,hk,hx,hy,e2,Memo.c,c1]
  ·by_cases c2:n≤4
   ·simp only [c1,c2,decide_true,decide_false,Bool.false_and,Bool.and_false,Bool.not_false,Bool.true_and] at hO
    subst hO
    cases b
    ·simp only [Bool.false_eq_true,if_false] at hi ⊢
     refine ⟨[],?_⟩
     simp -implicitDefEqProofs [m1,m2,m3,hi,hv,hk,hx,hy,e2,Memo.c,c1,c2,show ¬(4:Int)<(n:Int) by omega]
    ·simp only [if_true] at hi ⊢
     refine ⟨trivial,[],?_⟩
     simp -implicitDefEqProofs [m1,m2,m3,hi,hv,hk,hx,hy,e2,Memo.c,c1,c2,show ¬(4:Int)<(n:Int) by omega]
   ·simp only [c1,c2,decide_true,decide_false,Bool.and_false,Bool.false_and,Bool.not_false,Bool.true_and] at hO
    subst hO
    refine ⟨[],?_⟩
    simp -implicitDefEqProofs [m1,m2,m3,hi,hv,hk,hx,hy,e2,Memo.c,c1,c2,show (4:Int)<(n:Int) by omega]
theorem mo_inner (m:Memos) (i:Nat) (x:Floor) (hx:m.old.l[i]? = some x) (hl:m.old.l.length≤10000) (H:List Blk) :
  loopE (EvF tab) H L36_2 [1,5,6] ⟨[(1,.ptr H.length 0),(5,I i),(6,I 0)],[],[.cells (m.c.map .g)]⟩ =
   some (if allP (fun y:Floor => !decide (y.who=x.who)) (m.old.l.take i)=true then (.exit 6,⟨[(1,.ptr H.length 0),(5,I i),(6,I i),(92,B false)],[],[.cells (m.c.map .g)]⟩) else (.ret,⟨[(2,B false)],[],[.cells (m.c.map .g)]⟩)):=by
 have hi:i<m.old.l.length:=(List.getElem?_eq_some_iff.1 hx).1
 have hlt:(m.old.l.take i).length=i:=by rw [List.length_take];omega
 have hw:=loop_all0 (E:=EvF tab) (h:=H) (c:=L36_2) (lv:=[1,5,6]) (l:=m.old.l.take i) (fun y:Floor => !decide (y.who=x.who)) (fun k=>⟨[(1,.ptr H.length 0),(5,I i),(6,I k)],[],[.cells (m.c.map .g)]⟩)
  (.exit 6,⟨[(1,.ptr H.length 0),(5,I i),(6,I i),(92,B false)],[],[.cells (m.c.map .g)]⟩) (.ret,⟨[(2,B false)],[],[.cells (m.c.map .g)]⟩) (by simp) (by simp) (fun k y hk hy hy2 => ?_) (by rw [hlt];delta L36_2;simp -implicitDefEqProofs)
 ·simpa only [Int.ofNat_zero,Int.cast_ofNat_Int] using hw
 ·have hki:k<i:=by rw [hlt] at hk;exact hk
  have e2:=wrap_succ hki (by omega)
  rw [List.getElem?_take_of_lt hki] at hy
  clear hk hy2 hlt
  delta L36_2
  obtain ⟨ml,mo⟩:=m
  simp only at hx hy hi hl
  cases mo with
  | nil=>simp at hi
  | of l =>
  simp only [Sl.l_of] at hx hy hi hl
  obtain ⟨xw,xs⟩:=x
  obtain ⟨yw,ys⟩:=y
  have hx2:=(List.getElem?_eq_some_iff.1 hx).2
  by_cases c1:yw=xw
  ·simp -implicitDefEqProofs [Memos.c,Floor.c,hx,hx2,hy,hi,hki,e2,c1]
  ·simp -implicitDefEqProofs [Memos.c,Floor.c,hx,hx2,hy,hi,hki,e2,c1]
def okF (old:List Floor) (k:Nat) (x:Floor):Bool:=allP (fun y:Floor => !decide (y.who=x.who)) (old.take k)
theorem mo_outer (m:Memos) (hl:m.l.l.length+m.old.l.length≤5000) (H:List Blk) :
  loopE (EvF tab) H L36_3 [1,5] ⟨[(1,.ptr H.length 0),(5,I 0)],[],[.cells (m.c.map .g)]⟩ =
   some (if allIx (okF m.old.l) 0 m.old.l=true then (.exit 4,⟨[(1,.ptr H.length 0),(5,I m.old.l.length),(87,B false)],[],[.cells (m.c.map .g)]⟩) else (.ret,⟨[(2,B false)],[],[.cells (m.c.map .g)]⟩)):=by
 have hq:=loop_runJ (E:=EvF tab) (h:=H) (c:=L36_3) (lv:=[1,5]) (l:=m.old.l) (β:=Unit) (γ:=Unit) (fun _ _=>True) (fun k x _=>if okF m.old.l k x=true then .inl () else .inr ())
  (fun k _ o=>⟨[(1,.ptr H.length 0),(5,I k)],[],[.cells (m.c.map .g)]⟩)
  (fun _ o=>(.exit 4,⟨[(1,.ptr H.length 0),(5,I m.old.l.length),(87,B false)],[],[.cells (m.c.map .g)]⟩))
  (fun _ o=>(.ret,⟨[(2,B false)],[],[.cells (m.c.map .g)]⟩)) (by simp) (by simp) (fun k x _ o hk hx hy _ => ?_) (fun _ o _=>by delta L36_3;obtain ⟨ml,mo⟩:=m;simp -implicitDefEqProofs [Memos.c]) () [] trivial
 ·obtain ⟨o',hq⟩:=hq
  rw [runG_ix] at hq
  simp only [Int.ofNat_zero,Int.cast_ofNat_Int] at hq
  rw [hq]
  cases allIx (okF m.old.l) 0 m.old.l <;> rfl
 ·have e2:=wrap_succ hk (by omega)
  have hi:=mo_inner m k x hx (by omega) H
  have hO:okF m.old.l k x=allP (fun y:Floor => !decide (y.who=x.who)) (m.old.l.take k):=rfl
  rw [←hO] at hi
  generalize okF m.old.l k x=b at hi ⊢
  delta L36_3
  obtain ⟨ml,mo⟩:=m
  simp only at hk hx hy hl hi e2 ⊢
  cases mo with
  | nil=>simp at hk
  | of l =>
  simp only [Sl.l_of] at hk hx hy hl e2 ⊢
  simp only [A,Memos.c,List.map_cons,List.map_nil,Floors.g,Sl.g_of] at hi ⊢
  generalize MemoL.g ml=G2 at hi ⊢
  cases b
  ·simp only [Bool.false_eq_true,if_false] at hi ⊢
   refine ⟨[],?_⟩
   simp -implicitDefEqProofs [hi,hk,e2]
  ·simp only [if_true] at hi ⊢
   refine ⟨trivial,[],?_⟩
   simp -implicitDefEqProofs [hi,hk,e2]
def mayR (l:List Memo) (old:List Floor):Bool:=allIx (okM l old) 0 l&&(allIx (okF old) 0 old&&decide ((whosP l old).length≤8))
theorem MMayR_ev (m:Memos) (hl:m.l.l.length+m.old.l.length≤5000) (H:List Blk):EvF tab 36 [A m.c] H=some ⟨B (mayR m.l.l m.old.l),[],[]⟩:=by
 have h1:=mr_outer m hl H
 have h2:=mo_outer m hl H
 have m1:=fun H=>Whos2_ev m (by omega) H
 refine EvF_walk t36 (by simp) ?_
 have hv:∀h st,lenV h st (.g (Ints.g (slOf (whosP m.l.l m.old.l))))=some (whosP m.l.l m.old.l).length:=fun h st=>by rw [lenV_Sl,slOf_l]
 unfold mayR
 generalize Ints.g (slOf (whosP m.l.l m.old.l))=GI at m1 hv
 generalize (whosP m.l.l m.old.l).length=n at hv ⊢
 generalize allIx (okM m.l.l m.old.l) 0 m.l.l=b1 at h1 ⊢
 generalize allIx (okF m.old.l) 0 m.old.l=b2 at h2 ⊢
 obtain ⟨ml,mo⟩:=m
 simp only [A,Memos.c,List.map_cons,List.map_nil] at m1 h1 h2 ⊢
 generalize MemoL.g ml=G1 at m1 h1 h2 ⊢
 generalize Floors.g mo=G2 at m1 h1 h2 ⊢
 cases b1
 ·simp only [Bool.false_eq_true,if_false] at h1
  simp -implicitDefEqProofs [h1]
 ·simp only [if_true] at h1
  cases b2
  ·simp only [Bool.false_eq_true,if_false] at h2
   simp -implicitDefEqProofs [h1,h2]
  ·simp only [if_true] at h2
   by_cases c:n≤8
   ·simp -implicitDefEqProofs [h1,h2,m1,hv,c,show (n:Int)≤8 by omega]
   ·simp -implicitDefEqProofs [h1,h2,m1,hv,c,show ¬(n:Int)≤8 by omega]
theorem isP_key (x y:Memo):isP x.who x.seq y=true↔mkey y=mkey x:=isP_iff
theorem mayR_iff {l:List Memo} {old:List Floor}:mayR l old=true↔MayOk l old:=by
 unfold mayR
 rw [Bool.and_eq_true,Bool.and_eq_true,decide_eq_true_eq]
 have hF:allIx (okF old) 0 old=true↔(old.map Floor.who).Nodup:=nodup_ix Floor.who (fun x y=>decide (y.who=x.who)) (fun x y=>by simp) old
 have hM:allIx (okM l old) 0 l=true↔(∀x∈l,¬(x.seq≤floorP old x.who∧hasP old x.who=true)∧(seqsP l x.who).length≤4)∧(l.map mkey).Nodup:=by
  rw [←nodup_ix mkey (fun x y=>isP x.who x.seq y) isP_key l,allIx_iff,allIx_iff]
  simp only [Nat.zero_add,okM,Bool.and_eq_true,Bool.not_eq_true',decide_eq_true_eq]
  constructor
  ·intro h
   refine ⟨fun x hx => ?_,fun j hj=>(h j hj).2.2⟩
   obtain ⟨j,hj,rfl⟩:=List.mem_iff_getElem.1 hx
   refine ⟨fun hc => ?_,(h j hj).2.1⟩
   have:=(h j hj).1
   simp [hc.1,hc.2] at this
  ·rintro ⟨h1,h2⟩ j hj
   obtain ⟨k1,k2⟩:=h1 l[j] (List.getElem_mem hj)
   refine ⟨?_,k2,h2 j hj⟩
   by_cases c1:l[j].seq≤floorP old l[j].who
   ·cases hh:hasP old l[j].who
    ·simp
    ·exact absurd ⟨c1,hh⟩ k1
   ·simp [c1]
 rw [hF,hM]
 constructor
 ·rintro ⟨⟨h1,h2⟩,h3,h4⟩
  refine ⟨h3,h2,fun x hx f hf hw => ?_,fun w => ?_,h4⟩
  ·have:=(h1 x hx).1
   have hh:hasP old x.who=true:=hasP_iff.2 (List.mem_map.2 ⟨f,hf,hw⟩)
   have he:=floorP_mem h3 hf
   rw [hw] at he
   have:¬x.seq≤floorP old x.who:=fun hc=>this ⟨hc,hh⟩
   omega
  ·by_cases hin:∃z∈l,z.who=w
   ·obtain ⟨z,hz,rfl⟩:=hin
    have:=(h1 z hz).2
    unfold seqsP at this
    rw [sortL_len] at this
    exact this
   ·have h0:seqL l w=[]:=by
     unfold seqL
     rw [List.map_eq_nil_iff,List.filter_eq_nil_iff]
     intro z hz
     have:¬z.who=w:=fun e=>hin ⟨z,hz,e⟩
     simp [this]
    rw [h0];simp
 ·intro h
  refine ⟨⟨fun x hx=>⟨fun hc => ?_,?_⟩,h.keys⟩,h.fl,h.whos⟩
  ·obtain ⟨f,hf,hw⟩:=List.mem_map.1 (hasP_iff.1 hc.2)
   have:=h.above x hx f hf hw
   have he:=floorP_mem h.fl hf
   rw [hw] at he
   have:=hc.1
   omega
  ·unfold seqsP;rw [sortL_len];exact h.cnt _
theorem mayR_eq (l:List Memo) (old:List Floor):mayR l old=mayMe l old:=by
 have h1:=@mayR_iff l old
 have h2:=@mayMe_iff l old
 cases h:mayMe l old
 ·rw [Bool.eq_false_iff];intro hc
  rw [h2.2 (h1.1 hc)] at h;cases h
 ·exact h1.2 (h2.1 h)
end Go.Proofs.YtndfdnlbljhlgaaGreat
end
section
namespace Go.Proofs.YtndfdnlbljhlgaaGreat
open Go Go.AM Go.Proofs
set_option maxRecDepth 20000
set_option maxHeartbeats 2000000
set_option linter.unusedSimpArgs false
set_option linter.unusedVariables false
theorem rep2_loop (s:Server) (hw:∀x∈s.ms.l.l,RP x.rep) (hl:s.ms.l.l.length≤9223372036854775807) (H:List Blk) :
  ∃o',loopE (EvF tab) H L11_0 [1,3] ⟨[(1,.ptr H.length 0),(3,I 0)],[],[.cells (s.c.map .g)]⟩ =
   some (if allP repIn s.ms.l.l=true then (.exit 0,⟨[(1,.ptr H.length 0),(3,I s.ms.l.l.length),(38,B false)],[],.cells (s.c.map .g)::o'⟩) else (.ret,⟨[(2,B false)],[],.cells (s.c.map .g)::o'⟩)):=by
 have hq:=loop_runJ (E:=EvF tab) (h:=H) (c:=L11_0) (lv:=[1,3]) (l:=s.ms.l.l) (β:=Unit) (γ:=Unit) (fun _ _=>True) (fun _ x _=>if repIn x=true then .inl () else .inr ())
  (fun k _ o=>⟨[(1,.ptr H.length 0),(3,I k)],[],.cells (s.c.map .g)::o⟩)
  (fun _ o=>(.exit 0,⟨[(1,.ptr H.length 0),(3,I s.ms.l.l.length),(38,B false)],[],.cells (s.c.map .g)::o⟩))
  (fun _ o=>(.ret,⟨[(2,B false)],[],.cells (s.c.map .g)::o⟩)) (by simp) (by simp) (fun k x _ o hk hx hy _ => ?_) (fun _ o _=>by delta L11_0;obtain ⟨⟨srev,slow,sbase,slog⟩,⟨lnext,ll⟩,⟨ml,mo⟩,clock⟩:=s;simp -implicitDefEqProofs [Server.c]) () [] trivial
 ·obtain ⟨o',hq⟩:=hq
  refine ⟨o',?_⟩
  rw [runG_allU] at hq
  simp only [Int.ofNat_zero,Int.cast_ofNat_Int] at hq
  rw [hq]
  cases allP repIn s.ms.l.l <;> rfl
 ·have e2:=wrap_succ hk hl
  have m1:=fun H=>MayTell2_ev x.rep (hw x (List.mem_of_getElem? hx)) (H:=H) (v1 := .g (KVs.g x.rep.kvs)) (v2 := .g (Evs.g x.rep.events)) (Rp.of x.rep.kvs) (Rp.of x.rep.events)
  have hO:repIn x=(repOk x.rep&&(decide (x.rep.code=0)&&(decide (x.rep.who=x.who)&&decide (x.rep.seq=x.seq)))):=rfl
  generalize repIn x=b at hO ⊢
  generalize repOk x.rep=b1 at m1 hO
  delta L11_0
  obtain ⟨⟨srev,slow,sbase,slog⟩,⟨lnext,ll⟩,⟨ml,mo⟩,clock⟩:=s
  simp only at hk hx hy e2 ⊢
  cases ml with
  | nil=>simp at hk
  | of l =>
  simp only [Sl.l_of] at hk hx hy e2 ⊢
  obtain ⟨xw,xs,r1,r2,r3,r4,r5,r6,r7,r8,r9⟩:=x
  simp only [rc,Server.c,List.map_cons,List.map_nil] at m1 hO ⊢
  cases b1
  ·simp only [Bool.false_and] at hO
   subst hO
   refine ⟨o++[.rows 6 1 [],.rows 8 1 [],.cells ((Reply.c ⟨r1,r2,r3,r4,r5,r6,r7,r8,r9⟩).map .g)],?_⟩
   simp -implicitDefEqProofs [m1,hk,hx,hy,e2,Memo.c,Reply.c,gap,gap0,sap,sap0,List.append_assoc]
  ·by_cases c1:r1=0
   ·subst c1
    by_cases c2:r2=xw
    ·subst c2
     by_cases c3:r3=xs
     ·subst c3
      simp only [decide_true,Bool.and_self] at hO
      subst hO
      simp only [if_true]
      refine ⟨trivial,o++[.rows 6 1 [],.rows 8 1 [],.cells ((Reply.c ⟨0,r2,r3,r4,r5,r6,r7,r8,r9⟩).map .g)],?_⟩
      simp -implicitDefEqProofs [m1,hk,hx,hy,e2,Memo.c,Reply.c,gap,gap0,sap,sap0,List.append_assoc]
     ·simp only [c3,decide_true,decide_false,Bool.and_self,Bool.and_false] at hO
      subst hO
      refine ⟨o++[.rows 6 1 [],.rows 8 1 [],.cells ((Reply.c ⟨0,r2,r3,r4,r5,r6,r7,r8,r9⟩).map .g)],?_⟩
      simp -implicitDefEqProofs [m1,hk,hx,hy,e2,c3,Memo.c,Reply.c,gap,gap0,sap,sap0,List.append_assoc]
    ·simp only [c2,decide_true,decide_false,Bool.and_self,Bool.and_false,Bool.false_and] at hO
     subst hO
     refine ⟨o++[.rows 6 1 [],.rows 8 1 [],.cells ((Reply.c ⟨0,r2,r3,r4,r5,r6,r7,r8,r9⟩).map .g)],?_⟩
     simp -implicitDefEqProofs [m1,hk,hx,hy,e2,c2,Memo.c,Reply.c,gap,gap0,sap,sap0,List.append_assoc]
   ·simp only [c1,decide_false,Bool.and_false,Bool.false_and] at hO
    subst hO
    refine ⟨o++[.rows 6 1 [],.rows 8 1 [],.cells ((Reply.c ⟨r1,r2,r3,r4,r5,r6,r7,r8,r9⟩).map .g)],?_⟩
    simp -implicitDefEqProofs [m1,hk,hx,hy,e2,c1,Memo.c,Reply.c,gap,gap0,sap,sap0,List.append_assoc]
theorem held2_loop (s:Server) (L:Sl KV) (hL:L.l.length≤1000000) (hl:s.ls.l.l.length≤9223372036854775807) (o:List Blk) (H:List Blk) :
  loopE (EvF tab) H L11_1 [1,5,6] ⟨[(1,.ptr H.length 0),(5,.g (KVs.g L)),(6,I 0)],[],.cells (s.c.map .g)::o⟩ =
   some (if allP (heldL s.ls.l.l) L.l=true then (.exit 2,⟨[(1,.ptr H.length 0),(5,.g (KVs.g L)),(6,I L.l.length),(86,B false)],[],.cells (s.c.map .g)::o⟩) else (.ret,⟨[(2,B false)],[],.cells (s.c.map .g)::o⟩)):=by
 have hw:=loop_all0 (E:=EvF tab) (h:=H) (c:=L11_1) (lv:=[1,5,6]) (l:=L.l) (heldL s.ls.l.l) (fun k=>⟨[(1,.ptr H.length 0),(5,.g (KVs.g L)),(6,I k)],[],.cells (s.c.map .g)::o⟩)
  (.exit 2,⟨[(1,.ptr H.length 0),(5,.g (KVs.g L)),(6,I L.l.length),(86,B false)],[],.cells (s.c.map .g)::o⟩) (.ret,⟨[(2,B false)],[],.cells (s.c.map .g)::o⟩) (by simp) (by simp) (fun k x hk hx hy => ?_) (by delta L11_1;simp -implicitDefEqProofs)
 ·simpa only [Int.ofNat_zero,Int.cast_ofNat_Int] using hw
 ·have e2:=wrap_succ hk (by omega)
  have m1:=fun H=>Has2_ev s.ls x.lease hl H
  unfold heldL
  generalize hasS x.lease s.ls.l.l=b at m1 ⊢
  delta L11_1
  obtain ⟨⟨srev,slow,sbase,slog⟩,⟨lnext,ll⟩,⟨ml,mo⟩,clock⟩:=s
  simp only [A,Leases.c,Server.c,List.map_cons,List.map_nil] at m1 ⊢
  cases L with
  | nil=>simp at hk
  | of l =>
  simp only [Sl.l_of] at hk hx hy e2 ⊢
  obtain ⟨y1,y2,y3,y4,y5,y6⟩:=x
  by_cases c1:y6=0
  ·subst c1;simp -implicitDefEqProofs [m1,hk,hx,hy,e2,KV.c]
  ·cases b <;> simp -implicitDefEqProofs [m1,hk,hx,hy,e2,KV.c,c1]
theorem SMay2_ev (s:Server) (w:s.wf) (hm:s.ms.l.l.length+s.ms.old.l.length≤5000) (H:List Blk):EvF tab 11 [A s.c] H=some ⟨B (mayV s),[],[]⟩:=by
 obtain ⟨w1,w2,w3,w4⟩:=w
 have m1:=fun H=>May2_ev s.st w1 H
 have m2:=fun H=>LMay2_ev s.ls w2 H
 have m3:=fun H=>MMayR_ev s.ms hm H
 rw [mayR_eq] at m3
 obtain ⟨o,hq⟩:=rep2_loop s (fun x hx=>rp (w3.1.1 x hx).2.2) (by omega) H
 by_cases hok:storeOk s.st=true
 case neg =>
  rw [Bool.not_eq_true] at hok
  refine EvF_walk t11 (by simp) ?_
  unfold mayV
  rw [hok] at m1 ⊢
  simp only [A,Store.c,Server.c,List.map_cons,List.map_nil] at m1 ⊢
  simp -implicitDefEqProofs [m1]
 have hO:=storeOk_iff.1 hok
 have hs:smallS s.st:=by have:=hO.bl;have:=hO.ll;unfold smallS;omega
 have m4:=fun H=>Now2_ev s.st hs H
 have hR:(foldR2 s.st.base s.st.log.l s.st.rev).l=nowP s.st:=foldR2_l ..
 have m5:=fun o=>held2_loop s (foldR2 s.st.base s.st.log.l s.st.rev) (by rw [hR];have:=hO.nowLen;omega) w2.2.2 o H
 rw [hR] at m5
 refine EvF_walk t11 (by simp) ?_
 unfold mayV timeIn
 rw [hok] at m1 ⊢
 generalize mayS s.ls=b2 at m2 ⊢
 generalize mayMe s.ms.l.l s.ms.old.l=b3 at m3 ⊢
 generalize allP repIn s.ms.l.l=b4 at hq ⊢
 generalize allP (heldL s.ls.l.l) (nowP s.st)=b5 at m5 ⊢
 generalize (nowP s.st).length=n5 at m5
 generalize s.ms.l.l.length=n at hq hm
 obtain ⟨⟨srev,slow,sbase,slog⟩,⟨lnext,ll⟩,⟨ml,mo⟩,clock⟩:=s
 simp only [A,Store.c,Leases.c,Memos.c,Server.c,List.map_cons,List.map_nil] at m1 m2 m3 m4 m5 hq ⊢
 generalize KVs.g (foldR2 sbase slog.l srev)=G0 at m4 m5
 generalize KVs.g sbase=G1 at m1 m4 m5 hq ⊢
 generalize Evs.g slog=G2 at m1 m4 m5 hq ⊢
 generalize LeaseL.g ll=G3 at m2 m5 hq ⊢
 generalize MemoL.g ml=G4 at m3 m5 hq ⊢
 generalize Floors.g mo=G5 at m3 m5 hq ⊢
 clear hO hs hok
 cases b2
 ·simp -implicitDefEqProofs [m1,m2]
 cases b3
 ·simp -implicitDefEqProofs [m1,m2,m3]
 by_cases c1:0≤clock
 ·by_cases c2:clock≤1099511627775
  ·cases b4
   ·simp only [Bool.false_eq_true,if_false] at hq
    simp -implicitDefEqProofs [m1,m2,m3,hq,c1,c2,show ¬clock<0 by omega,show ¬1099511627775<clock by omega]
   ·simp only [if_true] at hq
    cases b5
    ·simp only [Bool.false_eq_true,if_false] at m5
     simp -implicitDefEqProofs [m1,m2,m3,m4,m5,hq,c1,c2,show ¬clock<0 by omega,show ¬1099511627775<clock by omega]
    ·simp only [if_true] at m5
     simp -implicitDefEqProofs [m1,m2,m3,m4,m5,hq,c1,c2,show ¬clock<0 by omega,show ¬1099511627775<clock by omega]
  ·simp -implicitDefEqProofs [m1,m2,m3,c1,c2,show ¬clock<0 by omega,show 1099511627775<clock by omega]
 ·simp -implicitDefEqProofs [m1,m2,m3,c1,show clock<0 by omega]
end Go.Proofs.YtndfdnlbljhlgaaGreat
end
section
namespace Go.Proofs.YtndfdnlbljhlgaaGreat
open Go Go.AM Go.Proofs
set_option maxRecDepth 20000
set_option maxHeartbeats 2000000
set_option linter.unusedSimpArgs false
set_option linter.unusedVariables false
structure Srv0 (s:Server):Prop where
 st:SOk s.st
 ls:mayS s.ls=true
theorem keyOk_len {k:Bs} (h:keyOk k=true):k.length≤40:=by
 unfold keyOk at h
 simp only [Bool.and_eq_true,decide_eq_true_eq] at h
 exact h.1.2
theorem oneOk_kk {x:KV} (h:oneOk x=true):keyOk x.key=true:=by
 unfold oneOk at h
 rw [Bool.and_eq_true] at h
 exact h.1
theorem Srv0.fit {s:Server} (h:Srv0 s):Fit s:=by
 have h1:=h.st
 have h2:=(mayS_iff.1 h.ls).2.1
 refine ⟨?_,⟨?_,h1.revM⟩,fun x hx => ?_,by omega⟩
 ·have:=h1.bl;have:=h1.ll;omega
 ·have:=h1.low0;have:=h1.lowr;omega
 ·have:=keyOk_len (oneOk_kk (h1.nowGood.one x hx).1);omega
theorem sweepA_SOk {s:Store} (h:SOk s) (d:List Mut):SOk (sweepA s d):=by
 unfold sweepA;split
 ·exact shr_SOk h _
 ·exact h
theorem Srv0.sweep {s:Server} (h:Srv0 s) (id:Int):Srv0 (sweepS s id):=by
 unfold sweepS
 split
 ·exact ⟨apply_SOk (sweepA_SOk h.st _) _,may_end h.ls id⟩
 ·exact h
theorem sweepS_clock (s:Server) (id:Int):(sweepS s id).clock=s.clock∧(sweepS s id).ms=s.ms:=by
 unfold sweepS;split <;> exact ⟨rfl,rfl⟩
def sweepsS (s:Server) (ids:List Int):Server:=ids.foldl sweepS s
theorem Srv0.sweeps:∀(ids:List Int) {s:Server},Srv0 s→Srv0 (sweepsS s ids)
 | [],_,h=>h
 | id::ids,_,h=>Srv0.sweeps ids (h.sweep id)
theorem sweepsS_clock:∀(ids:List Int) (s:Server),(sweepsS s ids).clock=s.clock∧(sweepsS s ids).ms=s.ms
 | [],s=>⟨rfl,rfl⟩
 | id::ids,s=>by
  obtain ⟨h1,h2⟩:=sweepsS_clock ids (sweepS s id)
  obtain ⟨k1,k2⟩:=sweepS_clock s id
  exact ⟨h1.trans k1,h2.trans k2⟩
def tickOk (s:Server) (by_:Int):Prop:=0≤by_∧by_≤1000∧s.clock≤1099511627775 - by_
instance (s:Server) (by_:Int):Decidable (tickOk s by_):=by unfold tickOk;infer_instance
def tock (s:Server) (by_:Int):Server:=⟨s.st,s.ls,s.ms,s.clock+by_⟩
def tickS (s:Server) (by_:Int):Server:=if tickOk s by_ then sweepsS (tock s by_) (dueS s.ls.l.l (s.clock+by_)) else s
theorem tick_loop (s:Server) (h:Srv0 s) (ids:List Int) (hl:ids.length≤9223372036854775807) (b1 b2 b3 b4 b5 b6:Blk) (H:List Blk) :
  loopE (EvF tab) H L13_0 [2,4,30,31,32] ⟨[(2,.ptr H.length 0),(4,.ptr (H.length+6) 0),(30,.g (Ints.g (slOf ids))),(31,I ids.length),(32,I 0)],[],[.cells (s.c.map .g),b1,b2,b3,b4,b5,b6]⟩ =
   some (.exit 0,⟨[(2,.ptr H.length 0),(4,.ptr (H.length+6) 0),(30,.g (Ints.g (slOf ids))),(31,I ids.length),(32,I ids.length),(33,B false)],[],[.cells ((sweepsS s ids).c.map .g),b1,b2,b3,b4,b5,b6]⟩):=by
 have hw:=loop_fold (E:=EvF tab) (h:=H) (c:=L13_0) (lv:=[2,4,30,31,32]) (l:=ids) (β:=Server) (fun _ b=>Srv0 b) sweepS
  (fun k b=>⟨[(2,.ptr H.length 0),(4,.ptr (H.length+6) 0),(30,.g (Ints.g (slOf ids))),(31,I ids.length),(32,I k)],[],[.cells (b.c.map .g),b1,b2,b3,b4,b5,b6]⟩)
  (fun b=>(.exit 0,⟨[(2,.ptr H.length 0),(4,.ptr (H.length+6) 0),(30,.g (Ints.g (slOf ids))),(31,I ids.length),(32,I ids.length),(33,B false)],[],[.cells (b.c.map .g),b1,b2,b3,b4,b5,b6]⟩)) (by simp) (fun k x b hk hx hy hi => ?_) (fun b _=>by delta L13_0;simp -implicitDefEqProofs) s h
 ·simpa only [Int.ofNat_zero,Int.cast_ofNat_Int,sweepsS] using hw
 ·refine ⟨hi.sweep x,?_⟩
  have e2:=wrap_succ hk hl
  have m1:=fun H=>Sweep_ev b x hi.fit H
  generalize sweepS b x=c at m1 ⊢
  generalize sweepE b x=e at m1
  delta L13_0
  obtain ⟨⟨srev,slow,sbase,slog⟩,⟨lnext,ll⟩,⟨ml,mo⟩,clock⟩:=b
  obtain ⟨⟨srev',slow',sbase',slog'⟩,⟨lnext',ll'⟩,⟨ml',mo'⟩,clock'⟩:=c
  simp only [A,Server.c,List.map_cons,List.map_nil] at m1 ⊢
  have hs:slOf ids = .of ids:=by unfold slOf;rw [if_neg (by intro e;subst e;simp at hk)]
  rw [hs]
  simp -implicitDefEqProofs [m1,hk,hx,hy,e2,Ints.c]
theorem dueS_len (l:List Lease) (n:Int):(dueS l n).length≤l.length:=by unfold dueS;rw [List.length_map];exact List.length_filter_le ..
theorem Tick_ev (s:Server) (by_:Int) (h:Srv0 s) (hc:0≤s.clock∧s.clock≤1099511627775) (hi:I64 by_) (H:List Blk):EvF tab 13 [A s.c,I by_] H=some ⟨A (tickS s by_).c,[],[]⟩:=by
 have h8:=(mayS_iff.1 h.ls).2.1
 have hd:=dueS_len s.ls.l.l (s.clock+by_)
 have m1:=fun H=>Due_ev s.ls (s.clock+by_) (by omega) H
 have hw:=fun b1 b2 b3 b4 b5 b6=>tick_loop (tock s by_) ⟨h.st,h.ls⟩ (dueS s.ls.l.l (s.clock+by_)) (by omega) b1 b2 b3 b4 b5 b6 H
 refine EvF_walk t13 (by simp) ?_
 have hv:∀h st,lenV h st (.g (Ints.g (slOf (dueS s.ls.l.l (s.clock+by_)))))=some (dueS s.ls.l.l (s.clock+by_)).length:=fun h st=>by rw [lenV_Sl,slOf_l]
 unfold tickS
 have e:(sweepsS (tock s by_) (dueS s.ls.l.l (s.clock+by_)))=(sweepsS (tock s by_) (dueS s.ls.l.l (s.clock+by_))):=rfl
 generalize sweepsS (tock s by_) (dueS s.ls.l.l (s.clock+by_))=R at hw ⊢
 generalize (dueS s.ls.l.l (s.clock+by_)).length=n at hw hv
 generalize Ints.g (slOf (dueS s.ls.l.l (s.clock+by_)))=GI at m1 hw hv
 have hi1:=hi.1
 have hi2:=hi.2
 obtain ⟨⟨srev,slow,sbase,slog⟩,⟨lnext,ll⟩,⟨ml,mo⟩,clock⟩:=s
 obtain ⟨⟨rrev,rlow,rbase,rlog⟩,⟨rnext,rl⟩,⟨rml,rmo⟩,rclock⟩:=R
 simp only [A,Server.c,Leases.c,tock,tickOk,List.map_cons,List.map_nil] at m1 hw hc hv ⊢
 generalize hG1:KVs.g sbase=G1 at hw ⊢
 generalize hG2:Evs.g slog=G2 at hw ⊢
 generalize hG3:LeaseL.g ll=G3 at m1 hw ⊢
 generalize hG4:MemoL.g ml=G4 at hw ⊢
 generalize hG5:Floors.g mo=G5 at hw ⊢
 generalize hG6:KVs.g rbase=G6 at hw ⊢
 generalize hG7:Evs.g rlog=G7 at hw ⊢
 generalize hG8:LeaseL.g rl=G8 at hw ⊢
 generalize hG9:MemoL.g rml=G9 at hw ⊢
 generalize hG10:Floors.g rmo=G10 at hw ⊢
 by_cases c1:0≤by_
 ·by_cases c2:by_≤1000
  ·have w1:IntKind.i64.wrap (1099511627775 - by_)=1099511627775 - by_:=wrap_i64 (by omega) (by omega)
   by_cases c3:clock≤1099511627775 - by_
   ·have w2:IntKind.i64.wrap (clock+by_)=clock+by_:=wrap_i64 (by omega) (by omega)
    simp -implicitDefEqProofs [m1,hw,hv,w1,w2,c1,c2,c3,show ¬by_<0 by omega,show ¬1000<by_ by omega,show ¬1099511627775 - by_<clock by omega,Server.c,hG6,hG7,hG8,hG9,hG10]
   ·simp -implicitDefEqProofs [w1,c1,c2,c3,show ¬by_<0 by omega,show ¬1000<by_ by omega,show 1099511627775 - by_<clock by omega,Server.c,hG1,hG2,hG3,hG4,hG5]
  ·simp -implicitDefEqProofs [c1,c2,show ¬by_<0 by omega,show 1000<by_ by omega,Server.c,hG1,hG2,hG3,hG4,hG5]
 ·simp -implicitDefEqProofs [c1,show by_<0 by omega,Server.c,hG1,hG2,hG3,hG4,hG5]
end Go.Proofs.YtndfdnlbljhlgaaGreat
end
section
namespace Go.Proofs.YtndfdnlbljhlgaaGreat
open Go Go.AM Go.Proofs
set_option maxRecDepth 20000
set_option linter.unusedSimpArgs false
set_option linter.unusedVariables false
def preP (p k:Bs):Bool:=decide (p.length≤k.length)&&(k.take p.length==p)
def inP (p:Bs) (rev:Int) (e:Ev):Bool:=decide (rev≤e.rev)&&preP p e.kv.key
def ofP (l:List Ev) (p:Bs) (rev:Int):List Ev:=l.filter (inP p rev)
def revAt (l:List Ev) (i:Nat):Int:=match l[i]? with | some e=>e.rev | none=>0
def cutP (all:List Ev) (most srev:Int):List Ev×Int×Int :=
 if (all.length:Int)≤most then (all,srev+1,0) else
 if revAt all most.toNat=revAt all 0 then ([],0,4) else
  (all.takeWhile (fun e=>decide (e.rev<revAt all most.toNat)),revAt all most.toNat,0)
def sinE (s:Store) (rev most:Int):Int :=
 if most<1∨30<most then 1 else if rev<1∨s.rev+1<rev then 8 else if rev≤s.low then 9 else 0
def sinP (s:Store) (p:Bs) (rev most:Int):List Ev×Int×Int :=
 if sinE s rev most=0 then cutP (ofP s.log.l p rev) most s.rev else ([],0,sinE s rev most)
def SrtE (l:List Ev):Prop:=l.Pairwise (fun a b=>a.rev≤b.rev)
theorem logOk_srt {srev:Int}:∀{log:List Ev} {l:List KV} {last:Int},logOk srev l last log=true→SrtE log
 | [],_,_,_=>List.Pairwise.nil
 | e::log,l,last,h=>by
  rw [logOk_cons] at h
  obtain ⟨h1,h2,h3,h4,h5⟩:=h
  exact List.pairwise_cons.2 ⟨fun a ha=>(logOk_all h5 a ha).1,logOk_srt h5⟩
theorem SOk.srt {s:Store} (h:SOk s):SrtE s.log.l:=logOk_srt h.log
theorem ofP_srt {l:List Ev} (h:SrtE l) (p:Bs) (rev:Int):SrtE (ofP l p rev):=List.Pairwise.sublist List.filter_sublist h
theorem ofP_len (l:List Ev) (p:Bs) (rev:Int):(ofP l p rev).length≤l.length:=List.length_filter_le ..
theorem revAt_app_left {a b:List Ev} {i:Nat} (h:i<a.length):revAt (a++b) i=revAt a i:=by unfold revAt;rw [List.getElem?_append_left h]
theorem revAt_app_right {a b:List Ev} {i:Nat} (h:a.length≤i):revAt (a++b) i=revAt b (i - a.length):=by unfold revAt;rw [List.getElem?_append_right h]
theorem revAt_mem {a:List Ev} {i:Nat} (h:i<a.length):∃e∈a,revAt a i=e.rev:=⟨a[i],List.getElem_mem h,by unfold revAt;rw [List.getElem?_eq_getElem h]⟩
theorem idx_split (r:Int):∀(l:List Ev) (k:Nat),SrtE l→(∀e∈l,r≤e.rev) →
  ∃g d,l=g++d∧(∀e∈g,e.rev=r)∧(∀e∈d,r<e.rev)∧(if idxG (fun e=>decide (e.rev ≠ r)) k l<0 then ((k+l.length:Nat):Int) else idxG (fun e=>decide (e.rev ≠ r)) k l)=((k+g.length:Nat):Int)
 | [],k,_,_=>⟨[],[],rfl,by simp,by simp,by simp [idxG]⟩
 | e::l,k,hs,hr=>by
  obtain ⟨h1,h2⟩:=List.pairwise_cons.1 hs
  by_cases he:e.rev=r
  ·obtain ⟨g,d,q1,q2,q3,q4⟩:=idx_split r l (k+1) h2 (fun x hx=>hr x (by simp [hx]))
   refine ⟨e::g,d,by rw [q1];rfl,?_,q3,?_⟩
   ·intro x hx
    rcases List.mem_cons.1 hx with rfl | hx
    ·exact he
    ·exact q2 x hx
   ·simp only [idxG,he,ne_eq,not_true,decide_false,Bool.false_eq_true,if_false,List.length_cons]
    simp only [ne_eq] at q4
    rw [show k+(l.length+1)=k+1+l.length by omega,show k+(g.length+1)=k+1+g.length by omega]
    exact q4
  ·refine ⟨[],e::l,rfl,by simp,?_,?_⟩
   ·have h0:r<e.rev:=by have:=hr e (by simp);omega
    intro x hx
    rcases List.mem_cons.1 hx with rfl | hx
    ·exact h0
    ·have:=h1 x hx;omega
   ·have:¬((k:Int)<0):=by omega
    simp [idxG,he,this]
def grpN (l:List Ev):Int:=if idxG (fun e=>decide (e.rev ≠ revAt l 0)) 0 l<0 then (l.length:Int) else idxG (fun e=>decide (e.rev ≠ revAt l 0)) 0 l
theorem grp_split {l:List Ev} (hne:l ≠ []) (hs:SrtE l):∃g d,l=g++d∧g ≠ []∧(∀e∈g,e.rev=revAt l 0)∧(∀e∈d,revAt l 0<e.rev)∧grpN l=(g.length:Int):=by
 cases l with
 | nil=>exact absurd rfl hne
 | cons e l =>
  have h0:revAt (e::l) 0=e.rev:=rfl
  obtain ⟨h1,h2⟩:=List.pairwise_cons.1 hs
  obtain ⟨g,d,q1,q2,q3,q4⟩:=idx_split (revAt (e::l) 0) (e::l) 0 hs (fun x hx=>by
   rw [h0]
   rcases List.mem_cons.1 hx with rfl | hx
   ·exact Int.le_refl _
   ·exact h1 x hx)
  refine ⟨g,d,q1,?_,q2,q3,?_⟩
  ·intro hg
   subst hg
   have:=q3 e (by rw [List.nil_append] at q1;rw [←q1];simp)
   rw [h0] at this;omega
  ·unfold grpN
   simpa using q4
theorem tw_all {α:Type} {p:α→Bool}:∀{a b:List α},(∀x∈a,p x=true)→(∀x∈b.head?,p x=false)→(a++b).takeWhile p=a
 | [],[],_,_=>rfl
 | [],x::b,_,h=>by simp [h x (by simp)]
 | x::a,b,h,h2=>by
  rw [List.cons_append,List.takeWhile_cons,h x (by simp),if_pos rfl,tw_all (fun y hy=>h y (by simp [hy])) h2]
theorem cut_fits {all:List Ev} {most srev:Int} (h:(all.length:Int)≤most):cutP all most srev=(all,srev+1,0):=by unfold cutP;rw [if_pos h]
theorem cut_full {out g d:List Ev} {most srev r:Int} (h1:1≤most) (ho:(out.length:Int)≤most) (hf:most<((out.length+g.length:Nat):Int)) (hr:∀e∈out,e.rev<r) (hg:∀e∈g,e.rev=r) (hd:∀e∈d,r<e.rev) :
  cutP (out++(g++d)) most srev=if out=[] then ([],0,4) else (out,r,0):=by
 have hn:¬((out++(g++d)).length:Int)≤most:=by simp only [List.length_append];omega
 have e1:revAt (out++(g++d)) most.toNat=r:=by
  rw [revAt_app_right (by omega),revAt_app_left (by omega)]
  obtain ⟨e,he,h⟩:=revAt_mem (a:=g) (i:=most.toNat - out.length) (by omega)
  rw [h];exact hg e he
 unfold cutP
 rw [if_neg hn,e1]
 have hgl:0<g.length:=by omega
 by_cases hout:out=[]
 ·subst hout
  have e2:revAt ([]++(g++d)) 0=r:=by
   rw [List.nil_append,revAt_app_left hgl]
   obtain ⟨e,he,h⟩:=revAt_mem hgl
   rw [h];exact hg e he
  rw [e2,if_pos rfl,if_pos rfl]
 ·have hol:0<out.length:=List.length_pos_iff.2 hout
  have e2:revAt (out++(g++d)) 0<r:=by
   rw [revAt_app_left hol]
   obtain ⟨e,he,h⟩:=revAt_mem hol
   rw [h];exact hr e he
  rw [if_neg (by omega),if_neg hout]
  have e3:(out++(g++d)).takeWhile (fun e=>decide (e.rev<r))=out:=tw_all (fun x hx=>by simpa using hr x hx) (fun x hx=>by
   cases g with
   | nil=>simp at hgl
   | cons y g =>
    simp at hx
    subst hx
    have:=hg y (by simp)
    simp;omega)
  rw [e3]
def bigP (l:List Ev) (most:Int):Bool:=(List.range l.length).any fun i=>decide (i+most.toNat<l.length)&&decide (revAt l i=revAt l (i+most.toNat))
structure CutOk (s:Store) (p:Bs) (rev most:Int) (r:List Ev×Int×Int):Prop where
 lo:rev≤r.2.1 - 1∨(r.2.1=s.rev+1∧rev≤r.2.1)
 hi:r.2.1≤s.rev+1
 len:(r.1.length:Int)≤most
 pre:r.1=(ofP s.log.l p rev).takeWhile (fun e=>decide (e.rev<r.2.1))
 split:ofP s.log.l p rev=r.1++ofP s.log.l p r.2.1
 ne:r.2.1≤s.rev→r.1 ≠ []
 big:bigP (ofP s.log.l p rev) most=bigP (ofP s.log.l p r.2.1) most
theorem sinE_zero {s:Store} {rev most:Int}:sinE s rev most=0↔(1≤most∧most≤30)∧(1≤rev∧rev≤s.rev+1)∧s.low<rev:=by
 unfold sinE
 split
 ·exact ⟨fun h=>by omega,fun h=>by omega⟩
 ·split
  ·exact ⟨fun h=>by omega,fun h=>by omega⟩
  ·split
   ·exact ⟨fun h=>by omega,fun h=>by omega⟩
   ·exact ⟨fun _=>by omega,fun _=>rfl⟩
end Go.Proofs.YtndfdnlbljhlgaaGreat
end
