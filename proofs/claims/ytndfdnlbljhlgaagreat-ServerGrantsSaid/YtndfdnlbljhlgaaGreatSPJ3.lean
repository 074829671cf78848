/- Part of the proof: what the functions answer, part 3 (SHist4, SHist5, SStore, SMvcc1, SMvcc2, SMvcc3, SMvcc4, SMvcc5). No conditions. -/
import Derived.Test.YtndfdnlbljhlgaaGreatSPJ2
import Derived.Test.YtndfdnlbljhlgaaGreatTabA
import Derived.Test.YtndfdnlbljhlgaaGreatAMJ4
section
namespace Go.Proofs.YtndfdnlbljhlgaaGreat
open Go Go.AM Go.Proofs
set_option maxRecDepth 20000
set_option maxHeartbeats 1000000
set_option linter.unusedSimpArgs false
set_option linter.unusedVariables false
def takeF (k:Bs) (b:List KV×Bool) (y:KV):List KV×Bool:=if b.2=false∧y.key=k then (b.1,true) else (b.1++[y],b.2)
theorem takeF_true (k:Bs):∀(l r:List KV),l.foldl (takeF k) (r,true)=(r++l,true)
 | [],r=>by simp
 | y::l,r=>by
  rw [List.foldl_cons,show takeF k (r,true) y=(r++[y],true) by simp [takeF],takeF_true k l]
  simp
theorem takeF_fin (k:Bs):∀(l r:List KV),(l.foldl (takeF k) (r,false)).1=r++takeP l k
 | [],r=>by simp [takeP]
 | y::l,r=>by
  rw [List.foldl_cons]
  by_cases h:y.key=k
  ·rw [show takeF k (r,false) y=(r,true) by simp [takeF,h],takeF_true]
   simp [takeP,h]
  ·rw [show takeF k (r,false) y=(r++[y],false) by simp [takeF,h],takeF_fin k l]
   simp [takeP,h]
theorem Take2_ev (s:Sl KV) (k:Bs) (hl:s.l.length≤1000000) (H:List Blk):EvF tab 86 [.g (KVs.g s),T k] H=some ⟨.g (KVs.g (.of (takeP s.l k))),[],[]⟩:=by
 have hw:=loop_runJ (E:=EvF tab) (h:=H) (c:=L86_0) (lv:=[0,1,5,6,7]) (l:=s.l) (β:=List KV×Bool) (γ:=Unit) (fun i b=>b.1.length≤i) (fun i y b => .inl (takeF k b y))
  (fun i b o=>⟨[(0,.g (KVs.g s)),(1,T k),(5,.ms (H.length+1) (b.1.length+2) 6 0 b.1.length),(6,B b.2),(7,I i)],[],.rows 6 1 [] :: .rows 6 (b.1.length+2) (b.1.map KV.c)::o⟩)
  (fun b o=>(.exit 0,⟨[(0,.g (KVs.g s)),(1,T k),(5,.ms (H.length+1) (b.1.length+2) 6 0 b.1.length),(6,B b.2),(7,I s.l.length),(12,B false)],[],.rows 6 1 [] :: .rows 6 (b.1.length+2) (b.1.map KV.c)::o⟩))
  (fun _ o=>(.ret,⟨[],[],o⟩)) (by simp) (by simp) (fun i y b o hk hx hy hi => ?_) (fun b o _=>by delta L86_0;cases s <;> simp -implicitDefEqProofs) ([],false) [] (by simp)
 ·obtain ⟨o',hw⟩:=hw
  rw [runG_fold] at hw
  have e0:((0:Nat):Int)=0:=rfl
  simp only [e0,endJ,List.length_nil,List.map_nil,Nat.zero_add] at hw
  have hf:=takeF_fin k s.l []
  rw [List.nil_append] at hf
  refine EvF_walk t86 (by simp) ?_
  rw [←hf]
  generalize s.l.foldl (takeF k) ([],false)=rr at hw ⊢
  obtain ⟨r,b⟩:=rr
  have e3:List.take r.length (List.map KV.c r)=List.map KV.c r:=List.take_of_length_le (by simp)
  simp -implicitDefEqProofs [hw,e3]
 ·have e2:=wrap_succ hk (by omega)
  delta L86_0
  cases s with
  | nil=>simp at hk
  | of l =>
   simp only [Sl.l_of] at hk hx hy hl ⊢
   obtain ⟨r,bb⟩:=b
   simp only at hi ⊢
   have e3:List.take r.length (List.map KV.c r)=List.map KV.c r:=List.take_of_length_le (by simp)
   unfold takeF
   simp only
   cases bb
   ·by_cases h2:y.key=k
    ·refine ⟨by simp [h2];omega,o,?_⟩
     simp -implicitDefEqProofs [hk,hy,KV.c,h2,e2]
    ·refine ⟨by simp [h2];omega,o,?_⟩
     simp -implicitDefEqProofs [hk,hy,KV.c,h2,e2,appV,room,Nat.not_succ_le_self,chunk,show r.length+1≤140737488355328 by omega,show (r.length+1)*64≤140737488355328 by omega,e3]
   ·refine ⟨by simp;omega,o,?_⟩
    simp -implicitDefEqProofs [hk,hy,KV.c,e2,appV,room,Nat.not_succ_le_self,chunk,show r.length+1≤140737488355328 by omega,show (r.length+1)*64≤140737488355328 by omega,e3]
def cntP (x:KV):Nat→List KV→Nat
 | i,[]=>i
 | i,y::l=>if Op.bytesLess y.key x.key=true then cntP x (i+1) l else i
theorem cntP_le (x:KV):∀(l:List KV) i,i≤cntP x i l∧cntP x i l≤i+l.length
 | [],i=>by simp [cntP]
 | y::l,i=>by
  have:=cntP_le x l (i+1)
  unfold cntP
  split
  ·simp only [List.length_cons];omega
  ·simp
theorem layP_cnt (x:KV):∀(l:List KV) i,layP l x=l.take (cntP x i l - i)++(x::(match l.drop (cntP x i l - i) with | []=>[] | y::r=>if y.key=x.key then r else y::r))
 | [],i=>by simp [layP,cntP]
 | y::l,i=>by
  unfold layP cntP
  by_cases h:Op.bytesLess y.key x.key=true
  ·simp only [if_pos h]
   have h1:=layP_cnt x l (i+1)
   have h2:=cntP_le x l (i+1)
   have e:cntP x (i+1) l - i=(cntP x (i+1) l - (i+1))+1:=by omega
   rw [h1,e];rfl
  ·simp only [if_neg h,Nat.sub_self,List.take_zero,List.drop_zero,List.nil_append]
   split <;> rfl
theorem runG_cnt (x:KV):∀(l:List KV) i,runG (fun i (y:KV) (_:Unit)=>if Op.bytesLess y.key x.key=true then .inl () else .inr i) i l ()=if cntP x i l=i+l.length then .inl () else (.inr (cntP x i l):Unit⊕Nat):=by
 intro l
 induction l with
 | nil=>intro i;simp [runG,cntP]
 | cons y l ih =>
  intro i
  unfold runG cntP
  by_cases h:Op.bytesLess y.key x.key=true
  ·simp only [if_pos h]
   rw [ih]
   simp only [List.length_cons]
   rw [show i+1+l.length=i+(l.length+1) by omega]
  ·simp only [if_neg h]
   rw [if_neg (by simp only [List.length_cons];omega)]
theorem Lay2_loop (s:Sl KV) (x:KV) (hl:s.l.length≤1000000) (H:List Blk) :
  loopE (EvF tab) H L87_0 [0,3,5] ⟨[(0,.g (KVs.g s)),(3,.ptr H.length 0),(5,I 0)],[],[.cells (x.c.map .g),.rows 6 1 []]⟩ =
   some (.exit 0,⟨[(0,.g (KVs.g s)),(3,.ptr H.length 0),(5,I (cntP x 0 s.l)),(20,B false)],[],[.cells (x.c.map .g),.rows 6 1 []]⟩):=by
 have hw:=loop_runJ (E:=EvF tab) (h:=H) (c:=L87_0) (lv:=[0,3,5]) (l:=s.l) (β:=Unit) (γ:=Nat) (fun _ _=>True) (fun i (y:KV) _=>if Op.bytesLess y.key x.key=true then .inl () else .inr i)
  (fun i _ o=>⟨[(0,.g (KVs.g s)),(3,.ptr H.length 0),(5,I i)],[],[.cells (x.c.map .g),.rows 6 1 []]⟩) (fun _ o=>(.exit 0,⟨[(0,.g (KVs.g s)),(3,.ptr H.length 0),(5,I s.l.length),(20,B false)],[],[.cells (x.c.map .g),.rows 6 1 []]⟩))
  (fun i o=>(.exit 0,⟨[(0,.g (KVs.g s)),(3,.ptr H.length 0),(5,I i),(20,B false)],[],[.cells (x.c.map .g),.rows 6 1 []]⟩)) (by simp) (by simp) (fun i y b o hk hx hy _ => ?_) (fun _ o _=>by delta L87_0;cases s <;> simp -implicitDefEqProofs) () [] trivial
 ·obtain ⟨o',hw⟩:=hw
  rw [runG_cnt] at hw
  have e0:((0:Nat):Int)=0:=rfl
  simp only [e0,Nat.zero_add] at hw
  rw [hw]
  by_cases h:cntP x 0 s.l=s.l.length
  ·rw [if_pos h,h];rfl
  ·rw [if_neg h];rfl
 ·have e2:=wrap_succ hk (by omega)
  delta L87_0
  cases s with
  | nil=>simp at hk
  | of l =>
   simp only [Sl.l_of] at hk hx hy hl ⊢
   cases h:Op.bytesLess y.key x.key
   ·simp only [Bool.false_eq_true,if_false]
    refine ⟨o,?_⟩
    simp -implicitDefEqProofs [hk,hy,KV.c,h]
   ·simp only [if_true]
    refine ⟨trivial,o,?_⟩
    simp -implicitDefEqProofs [hk,hy,KV.c,h,e2]
theorem app_own2 {sz bytes g:Nat} (xs ys:List (List GV)) (h1:xs.length+ys.length≤140737488355328) (h2:(xs.length+ys.length)*bytes≤140737488355328) (b0 b1:Blk) (H:List Blk) :
  ∃g' W,g≤g'∧∀t m,appV H ⟨t,m,[b0,b1,.rows sz g xs]⟩ sz bytes (.ms (H.length+2) g sz 0 xs.length) ys=some (.ms (H.length+2) g' sz 0 (xs.length+ys.length),⟨t,m,[b0,b1,.rows sz g' (xs++ys)]⟩,W):=by
 by_cases hne:ys=[]
 ·subst hne
  exact ⟨g,[],Nat.le_refl _,fun t m=>by simp -implicitDefEqProofs [appV]⟩
 ·exact ⟨g+1,[H.length+2],by omega,fun t m=>app_grow hne h1 h2 H t m [b0,b1]⟩
theorem Lay2_ev (s:Sl KV) (x:KV) (hl:s.l.length≤1000000) (H:List Blk):EvF tab 87 [.g (KVs.g s),A x.c] H=some ⟨.g (KVs.g (.of (layP s.l x))),[],[]⟩:=by
 have hw:=Lay2_loop s x hl H
 have hq:=layP_cnt x s.l 0
 have hle:=cntP_le x s.l 0
 rw [Nat.sub_zero] at hq
 refine EvF_walk t87 (by simp) ?_
 cases s with
 | nil =>
  simp only [KVs.g,Sl.g_nil,Sl.l_nil,cntP,KV.c,List.map_cons,List.map_nil,show ((0:Nat):Int)=0 from rfl,layP] at hw hq ⊢
  simp -implicitDefEqProofs [A,KV.c,hw,appV,room,chunk,cutB,bnd,intOfA]
 | of l =>
  simp only [KVs.g,Sl.g_of,Sl.l_of,Nat.zero_add] at hw hq hl hle ⊢
  generalize cntP x 0 l=c at hw hq hle
  have hcl:c≤l.length:=hle.2
  obtain ⟨u,hu⟩:∃u,l.take c=u:=⟨_,rfl⟩
  obtain ⟨v,hv⟩:∃v,l.drop c=v:=⟨_,rfl⟩
  have hul:u.length=c:=by rw [←hu];simp;omega
  have hlen:l.length=c+v.length:=by rw [←hv,List.length_drop];omega
  rw [hv,hu] at hq
  have e1:IntKind.i64.wrap ((c:Int)+1)=(c:Int)+1:=wrap_i64 (by omega) (by omega)
  have e2:((c:Int)+1).toNat=c+1:=by omega
  have e3:List.take c (List.map KV.c l)=List.map KV.c u:=by rw [←List.map_take,hu]
  have e4:List.take l.length (List.map KV.c l)=List.map KV.c l:=List.take_of_length_le (by simp)
  have e5:List.drop c (List.map KV.c l)=List.map KV.c v:=by rw [←List.map_drop,hv]
  have e6:List.drop (c+1) (List.map KV.c l)=List.map KV.c (v.drop 1):=by rw [←List.map_drop,←List.drop_drop,hv]
  have c1:(c:Int)≤(l.length:Int):=by omega
  have c2:(0:Int)≤(c:Int):=by omega
  have c3:(0:Int)≤(c:Int)+1:=by omega
  obtain ⟨w,hwv⟩:∃w,(match v with | []=>[] | y::r=>if y.key=x.key then r else y::r)=w:=⟨_,rfl⟩
  have hwl:w.length≤v.length:=by rw [←hwv];split;exact Nat.le_refl _;split <;> simp
  rw [hwv] at hq
  rw [hq]
  obtain ⟨g1,W1,k1,ap1⟩:=app_own2 (sz:=6) (bytes:=64) (g:=2) [] (u.map KV.c) (by simp;omega) (by simp;omega) (.cells (x.c.map .g)) (.rows 6 1 []) H
  obtain ⟨g2,W2,k2,ap2⟩:=app_own2 (sz:=6) (bytes:=64) (g:=g1) (u.map KV.c) [x.c] (by simp;omega) (by simp;omega) (.cells (x.c.map .g)) (.rows 6 1 []) H
  obtain ⟨g3,W3,k3,ap3⟩:=app_own2 (sz:=6) (bytes:=64) (g:=g2) (u.map KV.c++[x.c]) (w.map KV.c) (by simp;omega) (by simp;omega) (.cells (x.c.map .g)) (.rows 6 1 []) H
  simp only [List.length_nil,List.nil_append,Nat.zero_add,List.length_map,List.length_append,List.length_cons,List.append_assoc,List.cons_append,hul] at ap1 ap2 ap3
  have hz:List.take (c+1+w.length) (List.map KV.c u++KV.c x::List.map KV.c w)=List.map KV.c u++KV.c x::List.map KV.c w:=List.take_of_length_le (by simp;omega)
  have hg3:¬g3=1:=by omega
  simp only [KV.c,List.map_cons,List.map_nil] at hw
  cases v with
  | nil =>
   have hc:c=l.length:=by simpa using hlen.symm
   have hge:¬(c:Int)<(l.length:Int):=by omega
   simp only at hwv
   subst hwv
   simp only [List.map_nil,List.length_nil,Nat.add_zero,KV.c,List.map_cons] at ap1 ap2 ap3 hz e3 e5
   subst hc
   have e7:List.drop l.length (List.map KV.c u)=[]:=List.drop_eq_nil_of_le (by simp;omega)
   simp -implicitDefEqProofs [A,KV.c,hw,e7,ap1,ap2,ap3,hz,hg3,chunk,cutB,bnd,intOfA,e1,e2,e3,e4,e5,c1,c2,hge]
   omega
  | cons y r =>
   have hlt:c<l.length:=by rw [hlen];simp
   have hgy:l[c]? = some y:=by
    have:=List.getElem?_drop (xs:=l) (i:=c) (j:=0)
    rw [hv] at this;simpa using this.symm
   have hgy2:l[c]=y:=by have:=List.getElem?_eq_getElem hlt;rw [hgy] at this;exact (Option.some.inj this).symm
   have hltI:(c:Int)<(l.length:Int):=by omega
   have hltJ:(c:Int)+1≤(l.length:Int):=by omega
   simp only [List.drop_succ_cons,List.drop_zero] at e6
   by_cases hk:y.key=x.key
   ·simp only [if_pos hk] at hwv
    subst hwv
    simp only [KV.c,List.map_cons,List.map_nil] at ap1 ap2 ap3 hz e3 e6
    simp -implicitDefEqProofs [A,KV.c,hw,ap1,ap2,ap3,hz,hg3,hk,hlt,hltI,hltJ,hgy,hgy2,chunk,cutB,bnd,intOfA,e1,e2,e3,e4,e6,c1,c2,c3]
    omega
   ·simp only [if_neg hk] at hwv
    subst hwv
    simp only [KV.c,List.map_cons,List.map_nil,List.length_cons] at ap1 ap2 ap3 hz e3 e5
    simp -implicitDefEqProofs [A,KV.c,hw,ap1,ap2,ap3,hz,hg3,hk,hlt,hltI,hgy,hgy2,chunk,cutB,bnd,intOfA,e1,e2,e3,e4,e5,c1,c2,c3]
    omega
end Go.Proofs.YtndfdnlbljhlgaaGreat
end
section
namespace Go.Proofs.YtndfdnlbljhlgaaGreat
open Go Go.AM Go.Proofs
set_option maxRecDepth 20000
set_option maxHeartbeats 1000000
set_option linter.unusedSimpArgs false
set_option linter.unusedVariables false
theorem Fold_ev (s:Sl KV) (log:Sl Ev) (rev:Int) (hl:s.l.length+log.l.length≤1000000) (H:List Blk):EvF tab 50 [.g (KVs.g s),.g (Evs.g log),I rev] H=some ⟨.g (KVs.g (foldR s log.l rev)),[],[]⟩:=by
 have hw:=loop_runJ (E:=EvF tab) (h:=H) (c:=L50_0) (lv:=[0,2,11,12,13]) (l:=log.l) (β:=Sl KV) (γ:=Unit) (fun k b=>b.l.length≤s.l.length+k) (fun k e b => .inl (stepR rev b e))
  (fun k b o=>⟨[(0,.g (KVs.g b)),(2,I rev),(11,.g (Evs.g log)),(12,I log.l.length),(13,I k)],[],o⟩)
  (fun b o=>(.exit 0,⟨[(0,.g (KVs.g b)),(2,I rev),(11,.g (Evs.g log)),(12,I log.l.length),(13,I log.l.length),(14,B false)],[],o⟩))
  (fun _ o=>(.ret,⟨[],[],o⟩)) (by simp) (by simp) (fun k e b o hk hx hy hi => ?_) (fun b o _=>by delta L50_0;cases log <;> simp -implicitDefEqProofs) s [.rows 6 1 []] (by simp)
 ·obtain ⟨o',hw⟩:=hw
  rw [runG_fold] at hw
  have e0:((0:Nat):Int)=0:=rfl
  simp only [e0,endJ] at hw
  have hc:=fun H=>Clone_ev s (by omega) H
  refine EvF_walk t50 (by simp) ?_
  unfold foldR
  generalize List.foldl (stepR rev) s log.l=r at hw ⊢
  cases log <;> simp only [Evs.g,Sl.g_nil,Sl.g_of,Sl.l_nil,Sl.l_of,List.length_nil,e0] at hw hc <;> simp -implicitDefEqProofs [hc,hw]
 ·have e2:=wrap_succ hk (by omega)
  have h1:=fun H=>Take_ev b e.kv.key (by omega) H
  have h2:=fun H=>Lay_ev b e.kv (by omega) H
  have hlen:=stepP_len rev b.l e
  rw [←stepR_l] at hlen
  delta L50_0
  cases log with
  | nil=>simp at hk
  | of l =>
   simp only [Sl.l_of] at hk hx hy hl ⊢
   refine ⟨by omega,o++[.cells (e.c.map .g)],?_⟩
   unfold stepR
   obtain ⟨er,eg,ek⟩:=e
   simp only [A,KV.c,List.map_cons,List.map_nil] at h1 h2 ⊢
   by_cases h3:rev<er
   ·simp -implicitDefEqProofs [hk,hy,Ev.c,h3,e2]
   ·cases eg
    ·simp -implicitDefEqProofs [hk,hy,Ev.c,h3,e2,h2]
    ·simp -implicitDefEqProofs [hk,hy,Ev.c,h3,e2,h1]
theorem Fold2_ev (s:Sl KV) (log:Sl Ev) (rev:Int) (hl:s.l.length+log.l.length≤1000000) (H:List Blk):EvF tab 41 [.g (KVs.g s),.g (Evs.g log),I rev] H=some ⟨.g (KVs.g (foldR2 s log.l rev)),[],[]⟩:=by
 have hw:=loop_runJ (E:=EvF tab) (h:=H) (c:=L41_0) (lv:=[0,1,2,7]) (l:=log.l) (β:=Sl KV) (γ:=Unit) (fun k b=>b.l.length≤s.l.length+k) (fun k e b => .inl (stepR2 rev b e))
  (fun k b o=>⟨[(0,.g (KVs.g b)),(1,.g (Evs.g log)),(2,I rev),(7,I k)],[],o⟩)
  (fun b o=>(.exit 0,⟨[(0,.g (KVs.g b)),(1,.g (Evs.g log)),(2,I rev),(7,I log.l.length),(11,B false)],[],o⟩))
  (fun _ o=>(.ret,⟨[],[],o⟩)) (by simp) (by simp) (fun k e b o hk hx hy hi => ?_) (fun b o _=>by delta L41_0;cases log <;> simp -implicitDefEqProofs) s [.rows 6 1 []] (by simp)
 ·obtain ⟨o',hw⟩:=hw
  rw [runG_fold] at hw
  have e0:((0:Nat):Int)=0:=rfl
  simp only [e0,endJ] at hw
  refine EvF_walk t41 (by simp) ?_
  unfold foldR2
  generalize List.foldl (stepR2 rev) s log.l=r at hw ⊢
  cases log <;> simp only [Evs.g,Sl.g_nil,Sl.g_of,Sl.l_nil,Sl.l_of,List.length_nil,e0] at hw <;> simp -implicitDefEqProofs [hw]
 ·have e2:=wrap_succ hk (by omega)
  have h1:=fun H=>Take2_ev b e.kv.key (by omega) H
  have h2:=fun H=>Lay2_ev b e.kv (by omega) H
  have hlen:=stepP_len rev b.l e
  rw [←stepR2_l] at hlen
  delta L41_0
  cases log with
  | nil=>simp at hk
  | of l =>
   simp only [Sl.l_of] at hk hx hy hl ⊢
   refine ⟨by omega,o,?_⟩
   unfold stepR2
   obtain ⟨er,eg,ek⟩:=e
   simp only [A,KV.c,List.map_cons,List.map_nil] at h1 h2 ⊢
   by_cases h3:rev<er
   ·simp -implicitDefEqProofs [hk,hy,Ev.c,h3,e2]
   ·cases eg
    ·simp -implicitDefEqProofs [hk,hy,Ev.c,h3,e2,h2]
    ·simp -implicitDefEqProofs [hk,hy,Ev.c,h3,e2,h1]
end Go.Proofs.YtndfdnlbljhlgaaGreat
end
section
namespace Go.AM
open Go
structure Store where
 rev:Int
 low:Int
 base:KVs
 log:Evs
def Store.c (x:Store):List GV:=[.int .i64 x.rev,.int .i64 x.low,KVs.g x.base,Evs.g x.log]
def Store.wf (x:Store):Prop:=I64 x.rev∧I64 x.low∧((∀y∈x.base.l,y.wf)∧x.base.l.length≤9223372036854775807)∧((∀y∈x.log.l,y.wf)∧x.log.l.length≤9223372036854775807)
theorem Store.inv {gs:List GV} (h:HasTy (.p (.i .i64) (.p (.i .i64) (.p (.sl 6 tKV) (.p (.sl 8 tEv) .u)))) gs):∃x:Store,x.wf∧gs=x.c:=by
 obtain ⟨_,_,rfl,⟨a,rfl,ha⟩,_,_,rfl,⟨b,rfl,hb⟩,_,_,rfl,hk,_,_,rfl,hv,rfl⟩:=h
 obtain ⟨k,k1,k2,rfl⟩:=hk.sl_inv (fun _=>KV.inv)
 obtain ⟨v,v1,v2,rfl⟩:=hv.sl_inv (fun _=>Ev.inv)
 exact ⟨⟨a,b,k,v⟩,⟨ha,hb,⟨k1,k2⟩,⟨v1,v2⟩⟩,rfl⟩
structure Txn where
 iff:Sl Cmp
 thn:Sl Mut
 els:Sl Mut
def Txn.c (x:Txn):List GV:=[Cmps.g x.iff,Muts.g x.thn,Muts.g x.els]
def Txn.wf (x:Txn):Prop:=((∀y∈x.iff.l,y.wf)∧x.iff.l.length≤9223372036854775807)∧((∀y∈x.thn.l,y.wf)∧x.thn.l.length≤9223372036854775807)∧((∀y∈x.els.l,y.wf)∧x.els.l.length≤9223372036854775807)
theorem Txn.inv {gs:List GV} (h:HasTy tTxn gs):∃x:Txn,x.wf∧gs=x.c:=by
 obtain ⟨_,_,rfl,h1,_,_,rfl,h2,_,_,rfl,h3,rfl⟩:=h
 obtain ⟨p,p1,p2,rfl⟩:=h1.sl_inv (fun _=>Cmp.inv)
 obtain ⟨q,q1,q2,rfl⟩:=h2.sl_inv (fun _=>Mut.inv)
 obtain ⟨r,r1,r2,rfl⟩:=h3.sl_inv (fun _=>Mut.inv)
 exact ⟨⟨p,q,r⟩,⟨⟨p1,p2⟩,⟨q1,q2⟩,⟨r1,r2⟩⟩,rfl⟩
theorem Muts.inv {gs:List GV} (h:HasTy (.sl 4 tMut) gs):∃s:Sl Mut,((∀y∈s.l,y.wf)∧s.l.length≤9223372036854775807)∧gs=[Muts.g s]:=by
 obtain ⟨k,k1,k2,rfl⟩:=h.sl_inv (fun _=>Mut.inv)
 exact ⟨k,⟨k1,k2⟩,rfl⟩
theorem Cmps.inv {gs:List GV} (h:HasTy (.sl 5 tCmp) gs):∃s:Sl Cmp,((∀y∈s.l,y.wf)∧s.l.length≤9223372036854775807)∧gs=[Cmps.g s]:=by
 obtain ⟨k,k1,k2,rfl⟩:=h.sl_inv (fun _=>Cmp.inv)
 exact ⟨k,⟨k1,k2⟩,rfl⟩
def S2.c (x:Bs×Bs):List GV:=[.str x.1,.str x.2]
end Go.AM
end
section
namespace Go.Proofs.YtndfdnlbljhlgaaGreat
open Go Go.AM Go.Proofs
set_option maxRecDepth 20000
set_option maxHeartbeats 1000000
set_option linter.unusedSimpArgs false
set_option linter.unusedVariables false
def smallS (s:Store):Prop:=s.base.l.length+s.log.l.length≤100000
theorem Now_ev (s:Store) (hs:smallS s) (H:List Blk):EvF tab 20 [A s.c] H=some ⟨.g (KVs.g (foldR s.base s.log.l s.rev)),[],[]⟩:=by
 have h1:=fun H=>Fold_ev s.base s.log s.rev (by unfold smallS at hs;omega) H
 refine EvF_walk t20 (by simp) ?_
 generalize foldR s.base s.log.l s.rev=r at h1 ⊢
 generalize hg1:KVs.g s.base=G1 at h1
 generalize hg2:Evs.g s.log=G2 at h1
 simp -implicitDefEqProofs [A,Store.c,hg1,hg2,h1]
theorem Now2_ev (s:Store) (hs:smallS s) (H:List Blk):EvF tab 15 [A s.c] H=some ⟨.g (KVs.g (foldR2 s.base s.log.l s.rev)),[],[]⟩:=by
 have h1:=fun H=>Fold2_ev s.base s.log s.rev (by unfold smallS at hs;omega) H
 refine EvF_walk t15 (by simp) ?_
 generalize foldR2 s.base s.log.l s.rev=r at h1 ⊢
 generalize hg1:KVs.g s.base=G1 at h1
 generalize hg2:Evs.g s.log=G2 at h1
 simp -implicitDefEqProofs [A,Store.c,hg1,hg2,h1]
def atE (s:Store) (rev:Int):Int:=if rev=0 then 0 else if rev<0∨s.rev<rev then 8 else if rev<s.low then 9 else 0
def atV (s:Store) (rev:Int):Int:=if rev=0 then s.rev else rev
def atR (s:Store) (rev:Int):Sl KV:=if atE s rev=0 then foldR s.base s.log.l (atV s rev) else .nil
theorem At_ev (s:Store) (rev:Int) (hs:smallS s) (H:List Blk):EvF tab 31 [A s.c,I rev] H=some ⟨.tup [.g (KVs.g (atR s rev)),I (atE s rev)],[],[]⟩:=by
 have h1:=fun v H=>Fold_ev s.base s.log v (by unfold smallS at hs;omega) H
 refine EvF_walk t31 (by simp) ?_
 unfold atR atE atV
 generalize hg1:KVs.g s.base=G1 at h1
 generalize hg2:Evs.g s.log=G2 at h1
 by_cases c1:rev=0
 ·subst c1;simp -implicitDefEqProofs [A,Store.c,hg1,hg2,h1]
 by_cases c2:rev<0
 ·simp -implicitDefEqProofs [A,Store.c,hg1,hg2,c1,c2]
 by_cases c3:s.rev<rev
 ·simp -implicitDefEqProofs [A,Store.c,hg1,hg2,c1,c2,c3]
 by_cases c4:rev<s.low
 ·simp -implicitDefEqProofs [A,Store.c,hg1,hg2,c1,c2,c3,c4]
 simp -implicitDefEqProofs [A,Store.c,hg1,hg2,c1,c2,c3,c4,h1]
def nextP (l:List KV) (m:Mut) (rev:Int):KV:=if findB l m.key=true then ⟨m.key,m.value,(findX l m.key).create,rev,IntKind.i64.wrap ((findX l m.key).version+1),m.lease⟩ else ⟨m.key,m.value,rev,rev,1,m.lease⟩
theorem next_ev (s:Sl KV) (m:Mut) (rev:Int) (hl:s.l.length≤9223372036854775807) (H:List Blk):EvF tab 170 [.g (KVs.g s),A m.c,I rev] H=some ⟨A (nextP s.l m rev).c,[],[]⟩:=by
 have h1:=fun H=>Find_ev s m.key hl H
 refine EvF_walk t170 (by simp) ?_
 unfold nextP
 generalize findX s.l m.key=x at h1 ⊢
 generalize findB s.l m.key=b at h1 ⊢
 simp only [A,KV.c,List.map_cons,List.map_nil] at h1
 cases b <;> simp -implicitDefEqProofs [zres,A,Mut.c,KV.c,h1]
def kvEq (a b:KV):Bool:=(a.key==b.key)&&((a.value==b.value)&&((a.create==b.create)&&((a.mod==b.mod)&&((a.version==b.version)&&(a.lease==b.lease)))))
theorem kvEq_iff {a b:KV}:kvEq a b=true↔a=b:=by
 obtain ⟨a1,a2,a3,a4,a5,a6⟩:=a
 obtain ⟨b1,b2,b3,b4,b5,b6⟩:=b
 simp [kvEq]
def rightP (l:List KV) (e:Ev):Bool :=
 if e.gone=true then findB l e.kv.key&&kvEq (findX l e.kv.key) e.kv else
  kvEq e.kv (nextP l ⟨false,e.kv.key,e.kv.value,e.kv.lease⟩ e.rev)&&oneOk e.kv
theorem mayL_one (x:KV):mayL [x]=oneOk x:=by
 unfold mayL mayG mayG
 cases h:oneOk x
 ·rfl
 ·have h1:1≤x.key.length:=by
   simp only [oneOk,keyOk,Bool.and_eq_true,decide_eq_true_eq] at h;exact h.1.1.1
  cases hq:x.key with
  | nil=>rw [hq] at h1;simp at h1
  | cons a b=>rfl
theorem right_ev (s:Sl KV) (e:Ev) (hk:e.kv.key.length≤9223372036854775807) (hl:s.l.length≤9223372036854775807) (H:List Blk):EvF tab 125 [.g (KVs.g s),A e.c] H=some ⟨B (rightP s.l e),[],[]⟩:=by
 have h1:=fun H=>Find_ev s e.kv.key hl H
 have h2:=fun H=>next_ev s ⟨false,e.kv.key,e.kv.value,e.kv.lease⟩ e.rev hl H
 have h3:=fun H=>HMay_ev (.of [e.kv]) (fun y hy=>by rw [List.mem_singleton.1 hy];exact hk) (by simp) H
 rw [Sl.l_of,mayL_one] at h3
 refine EvF_walk t125 (by simp) ?_
 unfold rightP
 generalize findX s.l e.kv.key=x at h1 ⊢
 generalize findB s.l e.kv.key=b at h1 ⊢
 generalize nextP s.l ⟨false,e.kv.key,e.kv.value,e.kv.lease⟩ e.rev=y at h2 ⊢
 generalize oneOk e.kv=b2 at h3 ⊢
 obtain ⟨er,eg,ek⟩:=e
 obtain ⟨k1,k2,k3,k4,k5,k6⟩:=ek
 obtain ⟨x1,x2,x3,x4,x5,x6⟩:=x
 obtain ⟨y1,y2,y3,y4,y5,y6⟩:=y
 simp only [A,Mut.c,KV.c,KVs.g,Sl.g_of,List.map_cons,List.map_nil] at h1 h2 h3
 unfold kvEq
 cases eg
 ·simp -implicitDefEqProofs [zres,A,Ev.c,KV.c,h2,h3,chunk]
  by_cases hh:k1=y1∧k2=y2∧k3=y3∧k4=y4∧k5=y5∧k6=y6
  ·rw [if_pos hh]
   obtain ⟨rfl,rfl,rfl,rfl,rfl,rfl⟩:=hh
   simp
  ·rw [if_neg hh]
   have hf:(k1==y1&&(k2==y2&&(k3==y3&&(k4==y4&&(k5==y5&&k6==y6)))))=false:=by
    cases hq:(k1==y1&&(k2==y2&&(k3==y3&&(k4==y4&&(k5==y5&&k6==y6)))))
    ·rfl
    ·exact absurd (by simpa using hq) hh
   rw [hf];rfl
 ·cases b
  ·simp -implicitDefEqProofs [zres,A,Ev.c,KV.c,h1]
  ·simp -implicitDefEqProofs [zres,A,Ev.c,KV.c,h1]
theorem ver_iff {n v:Int} (h1:1≤n) (h2:n≤1099511627776) (hv:I64 v):IntKind.i64.wrap (n - 1)=v↔n=IntKind.i64.wrap (v+1):=by
 obtain ⟨v1,v2⟩:=hv
 rw [wrap_i64 (by omega) (by omega)]
 by_cases h:v≤9223372036854775806
 ·rw [wrap_i64 (by omega) (by omega)];omega
 ·have e:v=9223372036854775807:=by omega
  subst e
  have:IntKind.i64.wrap (9223372036854775807+1) = -9223372036854775808:=by decide
  rw [this];omega
theorem right2_ev (s:Sl KV) (e:Ev) (hk:e.kv.key.length≤9223372036854775807) (hv:I64 (findX s.l e.kv.key).version) (hl:s.l.length≤9223372036854775807) (H:List Blk):EvF tab 80 [.g (KVs.g s),A e.c] H=some ⟨B (rightP s.l e),[],[]⟩:=by
 have h1:=fun H=>Find2_ev s e.kv.key hl H
 have h3:=fun H=>One2_ev e.kv hk H
 refine EvF_walk t80 (by simp) ?_
 unfold rightP nextP
 simp only
 generalize findX s.l e.kv.key=x at h1 hv ⊢
 generalize findB s.l e.kv.key=b at h1 ⊢
 have ho:oneOk e.kv=true→1≤e.kv.version∧e.kv.version≤1099511627776:=fun h=>by
  simp only [oneOk,numL,Bool.and_eq_true,decide_eq_true_eq] at h
  omega
 generalize oneOk e.kv=b2 at h3 ho ⊢
 obtain ⟨er,eg,ek⟩:=e
 obtain ⟨k1,k2,k3,k4,k5,k6⟩:=ek
 obtain ⟨x1,x2,x3,x4,x5,x6⟩:=x
 simp only [A,KV.c,List.map_cons,List.map_nil] at h1 h3
 simp only at hv ho
 unfold kvEq
 cases eg
 ·cases b2
  ·cases b <;> simp -implicitDefEqProofs [zres,A,Ev.c,KV.c,h1,h3]
  ·obtain ⟨o1,o2⟩:=ho rfl
   have hver:=ver_iff o1 o2 hv
   by_cases c1:k4=er
   ·subst c1
    cases b
    ·by_cases c2:k3=k4
     ·subst c2
      by_cases c3:k5=1
      ·subst c3
       simp -implicitDefEqProofs [zres,A,Ev.c,KV.c,h1,h3]
      ·simp -implicitDefEqProofs [zres,A,Ev.c,KV.c,h1,h3,c3]
     ·simp -implicitDefEqProofs [zres,A,Ev.c,KV.c,h1,h3,c2]
    ·by_cases c2:k3=x3
     ·subst c2
      have hb:(IntKind.i64.wrap (k5 - 1)==x5)=(k5==IntKind.i64.wrap (x5+1)):=by
       rw [Bool.eq_iff_iff,beq_iff_eq,beq_iff_eq];exact hver
      simp -implicitDefEqProofs [zres,A,Ev.c,KV.c,h1,h3,hb]
     ·simp -implicitDefEqProofs [zres,A,Ev.c,KV.c,h1,h3,c2]
   ·cases b <;> simp -implicitDefEqProofs [zres,A,Ev.c,KV.c,h1,h3,c1]
 ·cases b <;> simp -implicitDefEqProofs [zres,A,Ev.c,KV.c,h1]
end Go.Proofs.YtndfdnlbljhlgaaGreat
end
section
namespace Go.Proofs.YtndfdnlbljhlgaaGreat
open Go Go.AM Go.Proofs
set_option maxRecDepth 20000
set_option maxHeartbeats 2000000
set_option linter.unusedSimpArgs false
set_option linter.unusedVariables false
def okE (srev:Int) (l:List KV) (last:Int) (e:Ev):Bool:=(!(decide (e.rev<last)||decide (srev<e.rev))&&rightP l e)&&decide ((stepP e.rev l e).length≤30)
def logOk (srev:Int):List KV→Int→List Ev→Bool
 | _,_,[]=>true
 | l,last,e::log=>okE srev l last e&&logOk srev (stepP e.rev l e) e.rev log
def headOk (s:Store):Bool := !(decide (s.low<0)||(decide (s.rev<s.low)||(decide (1099511627774<s.rev)||(decide (30<s.base.l.length)||(decide (60<s.log.l.length) || !mayL s.base.l)))))
def baseOk (s:Store):Bool := !(s.base.l.any fun x=>decide (s.low<x.mod))
def storeOk (s:Store):Bool:=headOk s&&(baseOk s&&logOk s.rev s.base.l (s.low+1) s.log.l)
theorem runG_log (srev:Int) (R:Sl KV→Ev→Sl KV) (hR:∀b e,(R b e).l=stepP e.rev b.l e):∀(log:List Ev) k (b:Sl KV×Int),
  (∃c,runG (fun _ (e:Ev) (b:Sl KV×Int)=>(if okE srev b.1.l b.2 e=true then .inl (R b.1 e,e.rev) else .inr 0:(Sl KV×Int)⊕Nat)) k log b = .inl c∧logOk srev b.1.l b.2 log=true) ∨
  (runG (fun _ (e:Ev) (b:Sl KV×Int)=>(if okE srev b.1.l b.2 e=true then .inl (R b.1 e,e.rev) else .inr 0:(Sl KV×Int)⊕Nat)) k log b = .inr 0∧logOk srev b.1.l b.2 log=false):=by
 intro log
 induction log with
 | nil=>intro k b;exact .inl ⟨b,rfl,rfl⟩
 | cons e log ih =>
  intro k b
  cases h:okE srev b.1.l b.2 e
  ·right;simp only [runG,logOk,h,Bool.false_eq_true,if_false,Bool.false_and,and_self]
  ·simp only [runG,logOk,h,if_true,Bool.true_and]
   have:=ih (k+1) (R b.1 e,e.rev)
   simp only [hR] at this
   exact this
theorem mem_layP {x y:KV}:∀{l:List KV},y∈layP l x→y∈l∨y=x
 | [],h=>by simp [layP] at h;exact .inr h
 | z::l,h=>by
  unfold layP at h
  split at h
  ·rcases List.mem_cons.1 h with h | h
   ·exact .inl (by simp [h])
   ·rcases mem_layP h with h | h
    ·exact .inl (by simp [h])
    ·exact .inr h
  ·split at h
   ·rcases List.mem_cons.1 h with h | h
    ·exact .inr h
    ·exact .inl (by simp [h])
   ·rcases List.mem_cons.1 h with h | h
    ·exact .inr h
    ·exact .inl h
theorem mem_takeP {k:Bs} {y:KV}:∀{l:List KV},y∈takeP l k→y∈l
 | [],h=>by simp [takeP] at h
 | z::l,h=>by
  unfold takeP at h
  split at h
  ·exact List.mem_cons_of_mem _ h
  ·rcases List.mem_cons.1 h with h | h
   ·simp [h]
   ·exact List.mem_cons_of_mem _ (mem_takeP h)
theorem mem_stepP {rev:Int} {l:List KV} {e:Ev} {y:KV} (h:y∈stepP rev l e):y∈l∨y=e.kv:=by
 unfold stepP at h
 split at h
 ·exact .inl h
 ·split at h
  ·exact .inl (mem_takeP h)
  ·exact mem_layP h
theorem findX_wf {l:List KV} (h:∀x∈l,x.wf) (k:Bs):(findX l k).wf:=by
 unfold findX
 rcases hq:findN k 0 l with _ | i
 ·exact ⟨by simp [kv0,S64],by simp [kv0,S64],⟨by simp [kv0],by simp [kv0]⟩,⟨by simp [kv0],by simp [kv0]⟩,⟨by simp [kv0],by simp [kv0]⟩,⟨by simp [kv0],by simp [kv0]⟩⟩
 ·obtain ⟨h1,_⟩:=find_some hq
  simp only [List.getElem?_eq_getElem h1,Option.getD_some]
  exact h _ (List.getElem_mem _)
theorem base1_ev (x:KV) {H:List Blk} {p:Nat} {r lo:Int} {g1 g2:GV} (hp:H[p]? = some (.cells [I r,I lo,.g g1,.g g2])):EvF tab 124 [A x.c,.ptr p 0] H=some ⟨B (decide (lo<x.mod)),[],[]⟩:=by
 refine EvF_walk t124 (by simp) ?_
 have hpl:p<H.length:=(List.getElem?_eq_some_iff.1 hp).1
 have hp2:=(List.getElem?_eq_some_iff.1 hp).2
 have hlv:isLiveB H p=true:=by unfold isLiveB;rw [hp];rfl
 simp -implicitDefEqProofs [A,KV.c,hp2,hpl,getB_old,orB,hlv]
theorem May_ev (s:Store) (w:s.wf) (H:List Blk):EvF tab 56 [A s.c] H=some ⟨B (storeOk s),[],[]⟩:=by
 obtain ⟨_,_,⟨wb,lb⟩,wl,ll⟩:=w
 have m1:=fun H=>HMay_ev s.base (fun x hx=>(wb x hx).1) lb H
 have m2:=contains_ev (Tb:=tab) (f:=60) (g:=131) (agg:=true) (n:=6) (c:=KV.c) t60 t131 (fun x=>A x.c) (fun x=>decide (s.low<x.mod)) (.fv 124 [.ptr H.length 0]) s.base lb (H++[.cells (s.c.map .g)]) (fun x=>by simp [A,KV.c]) (fun x _ t=>by
  have h1:=base1_ev x (H:=H++[.cells (s.c.map .g)]) (p:=H.length) (r:=s.rev) (lo:=s.low) (g1:=KVs.g s.base) (g2:=Evs.g s.log) (by simp [Store.c])
  simp -implicitDefEqProofs [h1])
 have hq:=loop_runJ (E:=EvF tab) (h:=H) (c:=L56_0) (lv:=[1,3,4,50,51,52]) (l:=s.log.l) (β:=Sl KV×Int) (γ:=Nat) (fun _ b=>b.1.l.length≤30∧s.log.l.length≤60) (fun _ e b=>if okE s.rev b.1.l b.2 e=true then .inl (stepR e.rev b.1 e,e.rev) else .inr 0)
  (fun k b o=>⟨[(1,.ptr H.length 0),(3,.g (KVs.g b.1)),(4,I b.2),(50,.g (Evs.g s.log)),(51,I s.log.l.length),(52,I k)],[],.cells (s.c.map .g)::o⟩)
  (fun b o=>(.exit 0,⟨[(1,.ptr H.length 0),(3,.g (KVs.g b.1)),(4,I b.2),(50,.g (Evs.g s.log)),(51,I s.log.l.length),(52,I s.log.l.length),(53,B false)],[],.cells (s.c.map .g)::o⟩))
  (fun _ o=>(.ret,⟨[(2,B false)],[],.cells (s.c.map .g)::o⟩)) (by simp) (by simp) (fun k e b o hk hx hy hi => ?_) (fun b o _=>by delta L56_0;cases s.log <;> simp -implicitDefEqProofs)
 ·refine EvF_walk t56 (by simp) ?_
  unfold storeOk headOk baseOk
  by_cases c1:s.low<0
  ·simp -implicitDefEqProofs [A,Store.c,c1]
  by_cases c2:s.rev<s.low
  ·simp -implicitDefEqProofs [A,Store.c,c1,c2]
  by_cases c3:1099511627774<s.rev
  ·simp -implicitDefEqProofs [A,Store.c,c1,c2,c3]
  by_cases c4:30<s.base.l.length
  ·simp -implicitDefEqProofs [A,Store.c,c1,c2,c3,c4,show (30:Int)<(s.base.l.length:Int) by omega]
  have c4':¬(30:Int)<(s.base.l.length:Int):=by omega
  by_cases c5:60<s.log.l.length
  ·simp -implicitDefEqProofs [A,Store.c,c1,c2,c3,c4,c4',c5,show (60:Int)<(s.log.l.length:Int) by omega]
  have c5':¬(60:Int)<(s.log.l.length:Int):=by omega
  obtain ⟨o',hq⟩:=hq (s.base,s.low+1) [] ⟨by simp only;omega,by omega⟩
  have w1:IntKind.i64.wrap (s.low+1)=s.low+1:=wrap_i64 (by omega) (by omega)
  generalize mayL s.base.l=b1 at m1 ⊢
  cases b1
  ·simp -implicitDefEqProofs [A,Store.c,c1,c2,c3,c4,c4',c5,c5',m1]
  generalize (s.base.l.any fun x=>decide (s.low<x.mod))=b2 at m2 ⊢
  simp only [Store.c,List.map_cons,List.map_nil] at m2 hq
  cases b2
  ·rcases runG_log s.rev (fun b e=>stepR e.rev b e) (fun b e=>stepR_l e.rev b e) s.log.l 0 (s.base,s.low+1) with ⟨c,k1,k2⟩ | ⟨k1,k2⟩ <;> rw [k1] at hq <;> simp only [endJ,show ((0:Nat):Int)=0 from rfl] at hq <;> simp only at k2 <;> simp -implicitDefEqProofs [A,Store.c,c1,c2,c3,c4,c4',c5,c5',m1,m2,w1,hq,k2]
  ·simp -implicitDefEqProofs [A,Store.c,c1,c2,c3,c4,c4',c5,c5',m1,m2]
 ·obtain ⟨hi1,hi2⟩:=hi
  have e2:=wrap_succ hk ll
  have hmem:e∈s.log.l:=List.mem_of_getElem? hx
  have h1:=fun H=>right_ev b.1 e (wl e hmem).2.1 (by omega) H
  have h2:=fun H=>Fold_ev b.1 (.of [e]) e.rev (by simp only [Sl.l_of,List.length_cons,List.length_nil];omega) H
  have h3:foldR b.1 (Sl.of [e]).l e.rev=stepR e.rev b.1 e:=rfl
  rw [h3] at h2
  have h4:=stepR_l e.rev b.1 e
  delta L56_0
  obtain ⟨srev,slow,sbase,slog⟩:=s
  obtain ⟨bl,last⟩:=b
  simp only at hi1 hi2 hk hx hy e2 h1 h2 h4 ll ⊢
  cases slog with
  | nil=>simp at hk
  | of l =>
   simp only [Sl.l_of] at hk hx hy ll hi2 ⊢
   unfold okE
   rw [←h4]
   generalize rightP bl.l e=b1 at h1 ⊢
   generalize stepR e.rev bl e=R at h2 ⊢
   obtain ⟨er,eg,ek⟩:=e
   obtain ⟨k1,k2,k3,k4,k5,k6⟩:=ek
   simp only [A,Ev.c,Evs.g,Sl.g_of,List.map_cons,List.map_nil] at h1 h2 ⊢
   by_cases d1:er<last
   ·simp only [d1,decide_true,Bool.true_or,Bool.not_true,Bool.false_and,Bool.false_eq_true,if_false]
    refine ⟨o++[.cells [I er,B eg,T k1,T k2,I k3,I k4,I k5,I k6]],?_⟩
    simp -implicitDefEqProofs [hk,hy,Store.c,Ev.c,d1]
   ·by_cases d2:srev<er
    ·simp only [d1,d2,decide_true,decide_false,Bool.false_or,Bool.not_true,Bool.false_and,Bool.false_eq_true,if_false]
     refine ⟨o++[.cells [I er,B eg,T k1,T k2,I k3,I k4,I k5,I k6]],?_⟩
     simp -implicitDefEqProofs [hk,hy,Store.c,Ev.c,d1,d2]
    ·cases b1
     ·simp only [d1,d2,decide_false,Bool.false_or,Bool.not_false,Bool.true_and,Bool.false_and,Bool.false_eq_true,if_false]
      refine ⟨o++[.cells [I er,B eg,T k1,T k2,I k3,I k4,I k5,I k6]],?_⟩
      simp -implicitDefEqProofs [hk,hy,Store.c,Ev.c,d1,d2,h1]
     ·by_cases d3:R.l.length≤30
      ·simp only [d1,d2,d3,decide_false,decide_true,Bool.false_or,Bool.not_false,Bool.true_and,if_true]
       refine ⟨⟨trivial,hi2⟩,o++[.cells [I er,B eg,T k1,T k2,I k3,I k4,I k5,I k6]],?_⟩
       simp -implicitDefEqProofs [hk,hy,Store.c,Ev.c,d1,d2,h1,h2,d3,chunk,e2,show ¬(30:Int)<(R.l.length:Int) by omega]
      ·simp only [d1,d2,d3,decide_false,Bool.false_or,Bool.not_false,Bool.true_and,Bool.false_eq_true,if_false]
       refine ⟨o++[.cells [I er,B eg,T k1,T k2,I k3,I k4,I k5,I k6]],?_⟩
       simp -implicitDefEqProofs [hk,hy,Store.c,Ev.c,d1,d2,h1,h2,d3,chunk,show (30:Int)<(R.l.length:Int) by omega]
theorem May2_loop0 (s:Store) (lb:s.base.l.length≤9223372036854775807) (H:List Blk) :
  loopE (EvF tab) H L34_0 [1,3] ⟨[(1,.ptr H.length 0),(3,I 0)],[],[.cells (s.c.map .g)]⟩ =
   some (if baseOk s=true then (.exit 0,⟨[(1,.ptr H.length 0),(3,I s.base.l.length),(45,B false)],[],[.cells (s.c.map .g)]⟩) else (.ret,⟨[(2,B false)],[],[.cells (s.c.map .g)]⟩)):=by
 have hb:baseOk s=allP (fun x:KV => !decide (s.low<x.mod)) s.base.l:=by
  unfold baseOk allP
  induction s.base.l with
  | nil=>rfl
  | cons x l ih=>simp only [List.any_cons,List.all_cons,Bool.not_or,ih]
 rw [hb]
 refine loop_all0 (l:=s.base.l) (fun x:KV => !decide (s.low<x.mod)) (fun k=>⟨[(1,.ptr H.length 0),(3,I k)],[],[.cells (s.c.map .g)]⟩) _ _ (by simp) (by simp) (fun k x hk hx hy => ?_) (by delta L34_0;simp -implicitDefEqProofs [Store.c])
 delta L34_0
 have e2:=wrap_succ hk lb
 obtain ⟨srev,slow,sbase,slog⟩:=s
 simp only at hk hx hy e2 ⊢
 cases sbase with
 | nil=>simp at hk
 | of l =>
  simp only [Sl.l_of] at hk hy ⊢
  by_cases h:slow<x.mod
  ·simp -implicitDefEqProofs [hk,hy,Store.c,KV.c,h]
  ·simp -implicitDefEqProofs [hk,hy,Store.c,KV.c,h,e2]
theorem slice_one {α:Type} {l:List α} {k:Nat} {x:α} (h:l[k]? = some x):List.drop k (List.take (k+1) l)=[x]:=by
 have hk:k<l.length:=(List.getElem?_eq_some_iff.1 h).1
 have hx:l[k]=x:=(List.getElem?_eq_some_iff.1 h).2
 rw [List.take_succ_eq_append_getElem hk,List.drop_append_of_le_length (by simp;omega),List.drop_eq_nil_of_le (by simp;omega),hx];rfl
theorem May2_ev (s:Store) (w:s.wf) (H:List Blk):EvF tab 34 [A s.c] H=some ⟨B (storeOk s),[],[]⟩:=by
 obtain ⟨_,_,⟨wb,lb⟩,wl,ll⟩:=w
 have m1:=fun H=>May2L_ev s.base (fun x hx=>(wb x hx).1) lb H
 have m2:=May2_loop0 s lb H
 have hq:=loop_runJ (E:=EvF tab) (h:=H) (c:=L34_1) (lv:=[1,4,5,6]) (l:=s.log.l) (β:=Sl KV×Int) (γ:=Nat) (fun k b=>(b.1.l.length≤30∧(∀x∈b.1.l,x.wf))∧s.log.l.length≤60∧s.low+1≤b.2∧(k=0→b.2=s.low+1)) (fun _ e b=>if okE s.rev b.1.l b.2 e=true then .inl (stepR2 e.rev b.1 e,e.rev) else .inr 0)
  (fun k b o=>⟨[(1,.ptr H.length 0),(4,.g (KVs.g b.1)),(5,I (if k=0 then s.low else b.2)),(6,I k)],[],.cells (s.c.map .g)::o⟩)
  (fun b o=>(.exit 2,⟨[(1,.ptr H.length 0),(4,.g (KVs.g b.1)),(5,I (if s.log.l.length=0 then s.low else b.2)),(6,I s.log.l.length),(65,B false)],[],.cells (s.c.map .g)::o⟩))
  (fun _ o=>(.ret,⟨[(2,B false)],[],.cells (s.c.map .g)::o⟩)) (by simp) (by simp) (fun k e b o hk hx hy hi => ?_) (fun b o _=>by delta L34_1;simp -implicitDefEqProofs [Store.c])
 ·refine EvF_walk t34 (by simp) ?_
  unfold storeOk headOk
  by_cases c1:s.low<0
  ·simp -implicitDefEqProofs [A,Store.c,c1]
  by_cases c2:s.rev<s.low
  ·simp -implicitDefEqProofs [A,Store.c,c1,c2]
  by_cases c3:1099511627774<s.rev
  ·simp -implicitDefEqProofs [A,Store.c,c1,c2,c3]
  cases hm:mayL s.base.l
  ·rw [hm] at m1
   by_cases c4:30<s.base.l.length <;> by_cases c5:60<s.log.l.length <;> simp -implicitDefEqProofs [A,Store.c,c1,c2,c3,c4,c5,m1]
  rw [hm] at m1
  by_cases c4:30<s.base.l.length
  ·simp -implicitDefEqProofs [A,Store.c,c1,c2,c3,m1,c4,show (30:Int)<(s.base.l.length:Int) by omega]
  have c4':¬(30:Int)<(s.base.l.length:Int):=by omega
  by_cases c5:60<s.log.l.length
  ·simp -implicitDefEqProofs [A,Store.c,c1,c2,c3,m1,c4,c4',c5,show (60:Int)<(s.log.l.length:Int) by omega]
  have c5':¬(60:Int)<(s.log.l.length:Int):=by omega
  obtain ⟨o',hq⟩:=hq (s.base,s.low+1) [] ⟨⟨by simp only;omega,wb⟩,by omega,by simp only;omega,fun _=>rfl⟩
  generalize baseOk s=b2 at m2 ⊢
  simp only [Store.c,List.map_cons,List.map_nil] at m2 hq
  cases b2
  ·simp only [Bool.false_eq_true,if_false] at m2
   simp -implicitDefEqProofs [A,Store.c,c1,c2,c3,c4,c4',c5,c5',m1,m2]
  ·simp only [if_true] at m2
   rcases runG_log s.rev (fun b e=>stepR2 e.rev b e) (fun b e=>stepR2_l e.rev b e) s.log.l 0 (s.base,s.low+1) with ⟨c,k1,k2⟩ | ⟨k1,k2⟩ <;> rw [k1] at hq <;> simp only [endJ,show ((0:Nat):Int)=0 from rfl,if_true] at hq <;> simp only at k2 <;> simp -implicitDefEqProofs [A,Store.c,c1,c2,c3,c4,c4',c5,c5',m1,m2,hq,k2]
 ·obtain ⟨⟨hi1,hw⟩,hi2,hi3,hi4⟩:=hi
  have e2:=wrap_succ hk ll
  have hmem:e∈s.log.l:=List.mem_of_getElem? hx
  have hxw:=findX_wf hw e.kv.key
  have h1:=fun H=>right2_ev b.1 e (wl e hmem).2.1 hxw.2.2.2.2.1 (by omega) H
  have h2:=fun H=>Fold2_ev b.1 (.of [e]) e.rev (by simp only [Sl.l_of,List.length_cons,List.length_nil];omega) H
  have h3:foldR2 b.1 (Sl.of [e]).l e.rev=stepR2 e.rev b.1 e:=rfl
  rw [h3] at h2
  have h4:=stepR2_l e.rev b.1 e
  have hwk:=(wl e hmem).2
  have hnw:∀x∈(stepR2 e.rev b.1 e).l,x.wf:=fun x hx=>by
   rw [h4] at hx
   rcases mem_stepP hx with h | h
   ·exact hw x h
   ·rw [h];exact hwk
  delta L34_1
  obtain ⟨srev,slow,sbase,slog⟩:=s
  obtain ⟨bl,last⟩:=b
  simp only at hi1 hi2 hi3 hi4 hk hx hy e2 h1 h2 h4 ll hnw ⊢
  cases slog with
  | nil=>simp at hk
  | of l =>
   simp only [Sl.l_of] at hk hx hy ll hi2 ⊢
   have hsl:List.drop k (List.take (k+1) (List.map Ev.c l))=[Ev.c e]:=slice_one (by rw [List.getElem?_map,hx];rfl)
   unfold okE
   rw [←h4]
   generalize rightP bl.l e=b1 at h1 ⊢
   generalize stepR2 e.rev bl e=R at h2 hnw ⊢
   obtain ⟨er,eg,ek⟩:=e
   obtain ⟨k1,k2,k3,k4,k5,k6⟩:=ek
   simp only [A,Ev.c,Evs.g,Sl.g_of,List.map_cons,List.map_nil] at h1 h2 hsl ⊢
   obtain ⟨q,hq⟩:∃q,(if k=0 then slow else last)=q:=⟨_,rfl⟩
   rw [hq]
   have hqd:(er≤slow∨er<q)↔er<last:=by
    rw [←hq]
    by_cases h0:k=0
    ·have:=hi4 h0;rw [if_pos h0];omega
    ·rw [if_neg h0];omega
   have i1:(0:Int)≤(k:Int):=by omega
   have i2:(k:Int)+1≤(l.length:Int):=by omega
   have i3:((k:Int)+1).toNat=k+1:=by omega
   have i4:(k:Int)≤(k:Int)+1:=by omega
   have i5:(0:Int)≤(k:Int)+1:=by omega
   have i6:List.take l.length (List.map Ev.c l)=List.map Ev.c l:=List.take_of_length_le (by simp)
   by_cases d1:er<last
   ·simp only [d1,decide_true,Bool.true_or,Bool.not_true,Bool.false_and,Bool.false_eq_true,if_false]
    refine ⟨o++[.cells [I er,B eg,T k1,T k2,I k3,I k4,I k5,I k6]],?_⟩
    by_cases d0:er≤slow
    ·simp -implicitDefEqProofs [hk,hy,Store.c,Ev.c,d0]
    ·have d00:er<q:=(hqd.2 d1).resolve_left d0
     simp -implicitDefEqProofs [hk,hy,Store.c,Ev.c,d0,d00]
   ·have d0:¬er≤slow:=fun h=>d1 (hqd.1 (.inl h))
    have d00:¬er<q:=fun h=>d1 (hqd.1 (.inr h))
    by_cases d2:srev<er
    ·simp only [d1,d2,decide_true,decide_false,Bool.false_or,Bool.not_true,Bool.false_and,Bool.false_eq_true,if_false]
     refine ⟨o++[.cells [I er,B eg,T k1,T k2,I k3,I k4,I k5,I k6]],?_⟩
     simp -implicitDefEqProofs [hk,hy,Store.c,Ev.c,d0,d00,d2]
    ·cases b1
     ·simp only [d1,d2,decide_false,Bool.false_or,Bool.not_false,Bool.true_and,Bool.false_and,Bool.false_eq_true,if_false]
      refine ⟨o++[.cells [I er,B eg,T k1,T k2,I k3,I k4,I k5,I k6]],?_⟩
      simp -implicitDefEqProofs [hk,hy,Store.c,Ev.c,d0,d00,d2,h1]
     ·by_cases d3:R.l.length≤30
      ·simp only [d1,d2,d3,decide_false,decide_true,Bool.false_or,Bool.not_false,Bool.true_and,if_true]
       refine ⟨⟨⟨trivial,hnw⟩,hi2,by omega,fun h=>by omega⟩,o++[.cells [I er,B eg,T k1,T k2,I k3,I k4,I k5,I k6]],?_⟩
       simp -implicitDefEqProofs [hk,hy,Store.c,Ev.c,d0,d00,d2,h1,h2,d3,hsl,cutB,bnd,intOfA,i1,i2,i3,i4,i5,i6,e2,show k+1≤l.length by omega,show ¬(30:Int)<(R.l.length:Int) by omega]
      ·simp only [d1,d2,d3,decide_false,Bool.false_or,Bool.not_false,Bool.true_and,Bool.false_eq_true,if_false]
       refine ⟨o++[.cells [I er,B eg,T k1,T k2,I k3,I k4,I k5,I k6]],?_⟩
       simp -implicitDefEqProofs [hk,hy,Store.c,Ev.c,d0,d00,d2,h1,h2,d3,hsl,cutB,bnd,intOfA,i1,i2,i3,i4,i5,i6,e2,show k+1≤l.length by omega,show (30:Int)<(R.l.length:Int) by omega]
end Go.Proofs.YtndfdnlbljhlgaaGreat
end
section
namespace Go.Proofs.YtndfdnlbljhlgaaGreat
open Go Go.AM Go.Proofs
set_option maxRecDepth 20000
set_option maxHeartbeats 2000000
set_option linter.unusedSimpArgs false
set_option linter.unusedVariables false
def mutOkM (m:Mut):Bool:=keyOk m.key && !(decide (20<m.value.length)||(decide (m.lease<0)||decide (1099511627775<m.lease)))
def mayMG:List Bs→List Mut→Bool
 | _,[]=>true
 | met,m::l=>(!(met.contains m.key)&&mutOkM m)&&mayMG (met++[m.key]) l
def mayM (l:List Mut):Bool:=mayMG [] l&&decide (l.length≤30)
def metE (met:List Bs):List (GV×Option GV):=met.map fun k=>(GV.str k,none)
theorem find_met (k:Bs):∀met:List Bs,(met.contains k=false∧findM .s (.str k) (metE met)=some none)∨∃j,met.contains k=true∧findM .s (.str k) (metE met)=some (some j)∧(metE met)[j]?.map (·.2)=some none
 | [] => .inl ⟨rfl,rfl⟩
 | a::met=>by
  by_cases h:k=a
  ·subst h
   exact .inr ⟨0,by simp,by simp [metE,findM,eqG],by simp [metE]⟩
  ·have hk:(k==a)=false:=by simpa using h
   rcases find_met k met with ⟨h1,h2⟩ | ⟨j,h1,h2,h3⟩
   ·refine .inl ⟨by simp only [List.contains_cons,hk,h1,Bool.or_self],?_⟩
    simp only [metE,List.map_cons,findM,eqG,hk]
    rw [show met.map (fun k=>(GV.str k,(none:Option GV)))=metE met from rfl,h2]
   ·refine .inr ⟨j+1,by simp only [List.contains_cons,hk,h1,Bool.or_true],?_,by simpa [metE] using h3⟩
    simp only [metE,List.map_cons,findM,eqG,hk]
    rw [show met.map (fun k=>(GV.str k,(none:Option GV)))=metE met from rfl,h2]
theorem get_met (k:Bs) (met:List Bs):mgetV true .s none (.str k) (metE met)=some (.tup [.agg [],B (met.contains k)]):=by
 unfold mgetV
 rcases find_met k met with ⟨h1,h2⟩ | ⟨j,h1,h2,h3⟩
 ·rw [h1,h2];rfl
 ·rw [h1,h2];simp only [h3];rfl
theorem set_met (k:Bs) (met:List Bs) (h:met.contains k=false):msetV .s (.str k) none (metE met)=some (metE (met++[k])):=by
 unfold msetV
 rcases find_met k met with ⟨h1,h2⟩ | ⟨j,h1,h2,h3⟩
 ·rw [h2];simp [metE]
 ·rw [h1] at h;cases h
theorem runG_mayM:∀(l:List Mut) k (met:List Bs),(∃b,runG (fun _ (m:Mut) (met:List Bs)=>(if (!(met.contains m.key)&&mutOkM m)=true then .inl (met++[m.key]) else .inr 0:List Bs⊕Nat)) k l met = .inl b∧mayMG met l=true) ∨
  (runG (fun _ (m:Mut) (met:List Bs)=>(if (!(met.contains m.key)&&mutOkM m)=true then .inl (met++[m.key]) else .inr 0:List Bs⊕Nat)) k l met = .inr 0∧mayMG met l=false):=by
 intro l
 induction l with
 | nil=>intro k met;exact .inl ⟨met,rfl,rfl⟩
 | cons m l ih =>
  intro k met
  cases h:(!(met.contains m.key)&&mutOkM m)
  ·right;simp only [runG,mayMG,h,Bool.false_eq_true,if_false,Bool.false_and,and_self]
  ·simp only [runG,mayMG,h,if_true,Bool.true_and]
   exact ih _ _
theorem mayM_ev (s:Sl Mut) (hk:∀m∈s.l,m.key.length≤9223372036854775807) (hl:s.l.length≤9223372036854775807) (H:List Blk):EvF tab 137 [.g (Muts.g s)] H=some ⟨B (mayM s.l),[],[]⟩:=by
 have hq:=loop_runJ (E:=EvF tab) (h:=H) (c:=L137_0) (lv:=[0,3,9,10,11]) (l:=s.l) (β:=List Bs) (γ:=Nat) (fun _ _=>True) (fun _ m met=>if (!(met.contains m.key)&&mutOkM m)=true then .inl (met++[m.key]) else .inr 0)
  (fun k met o=>⟨[(0,.g (Muts.g s)),(3,.mp H.length),(9,.g (Muts.g s)),(10,I s.l.length),(11,I k)],[],.map (metE met)::o⟩)
  (fun met o=>(.exit 0,⟨[(0,.g (Muts.g s)),(3,.mp H.length),(9,.g (Muts.g s)),(10,I s.l.length),(11,I s.l.length),(12,B false)],[],.map (metE met)::o⟩))
  (fun _ o=>(.ret,⟨[(2,B false)],[],o⟩)) (by simp) (by simp) (fun k m met o hk2 hx hy hi => ?_) (fun met o _=>by delta L137_0;cases s <;> simp -implicitDefEqProofs) [] [] trivial
 ·obtain ⟨o',hq⟩:=hq
  simp only [Int.ofNat_zero,Int.cast_ofNat_Int] at hq
  refine EvF_walk t137 (by simp) ?_
  unfold mayM
  have e0:metE []=[]:=rfl
  rw [e0] at hq
  by_cases h30:s.l.length≤30
  ·rcases runG_mayM s.l 0 [] with ⟨b,k1,k2⟩ | ⟨k1,k2⟩ <;> rw [k1] at hq <;> simp only [endJ] at hq <;> simp -implicitDefEqProofs [hq,k2,h30,show (s.l.length:Int)≤30 by omega]
  ·rcases runG_mayM s.l 0 [] with ⟨b,k1,k2⟩ | ⟨k1,k2⟩ <;> rw [k1] at hq <;> simp only [endJ] at hq <;> simp -implicitDefEqProofs [hq,k2,h30,show ¬(s.l.length:Int)≤30 by omega]
 ·have e2:=wrap_succ hk2 (by omega)
  have h1:=fun H=>Check_ev m.key (hk m (List.mem_of_getElem? hx)) H
  have g1:=get_met m.key met
  have s1:=set_met m.key met
  delta L137_0
  cases s with
  | nil=>simp at hk2
  | of l =>
   simp only [Sl.l_of] at hk2 hx hy hl ⊢
   unfold mutOkM
   obtain ⟨mg,mk,mv,ml⟩:=m
   simp only at h1 g1 s1 ⊢
   cases hc:met.contains mk
   ·have s1:=s1 hc
    rw [hc] at g1
    generalize keyOk mk=b1 at h1 ⊢
    cases b1
    ·simp only [Bool.and_false,Bool.false_and,Bool.false_eq_true,if_false]
     refine ⟨.map (metE met)::(o++[.cells [B mg,T mk,T mv,I ml],.cells []]),?_⟩
     simp -implicitDefEqProofs [hk2,hy,Mut.c,zres,g1,h1]
    ·by_cases d1:20<mv.length
     ·simp only [d1,decide_true,Bool.true_or,Bool.not_true,Bool.and_false,Bool.false_eq_true,if_false]
      refine ⟨.map (metE met)::(o++[.cells [B mg,T mk,T mv,I ml],.cells []]),?_⟩
      simp -implicitDefEqProofs [hk2,hy,Mut.c,zres,g1,h1,show (20:Int)<(mv.length:Int) by omega]
     ·have d1':¬(20:Int)<(mv.length:Int):=by omega
      by_cases d2:ml<0
      ·simp only [d1,d2,decide_true,decide_false,Bool.true_or,Bool.false_or,Bool.not_true,Bool.and_false,Bool.false_eq_true,if_false]
       refine ⟨.map (metE met)::(o++[.cells [B mg,T mk,T mv,I ml],.cells []]),?_⟩
       simp -implicitDefEqProofs [hk2,hy,Mut.c,zres,g1,h1,d1',d2]
      ·by_cases d3:1099511627775<ml
       ·simp only [d1,d2,d3,decide_true,decide_false,Bool.true_or,Bool.false_or,Bool.not_true,Bool.and_false,Bool.false_eq_true,if_false]
        refine ⟨.map (metE met)::(o++[.cells [B mg,T mk,T mv,I ml],.cells []]),?_⟩
        simp -implicitDefEqProofs [hk2,hy,Mut.c,zres,g1,h1,d1',d2,d3]
       ·simp only [d1,d2,d3,decide_false,Bool.false_or,Bool.not_false,Bool.true_and,if_true]
        refine ⟨trivial,(o++[.cells [B mg,T mk,T mv,I ml],.cells []]),?_⟩
        simp -implicitDefEqProofs [hk2,hy,Mut.c,zres,g1,s1,h1,d1',d2,d3,e2]
   ·rw [hc] at g1
    simp only [Bool.not_true,Bool.false_and,Bool.false_eq_true,if_false]
    refine ⟨.map (metE met)::(o++[.cells [B mg,T mk,T mv,I ml],.cells []]),?_⟩
    simp -implicitDefEqProofs [hk2,hy,Mut.c,zres,g1]
theorem allP_met (x:Bs):∀l:List Mut,allP (fun y:Mut => !(y.key==x)) l = !((l.map (·.key)).contains x):=by
 intro l
 induction l with
 | nil=>rfl
 | cons y l ih =>
  rw [allP_cons,ih]
  have e:(y.key==x)=(x==y.key):=by rw [Bool.eq_iff_iff,beq_iff_eq,beq_iff_eq];exact eq_comm
  simp only [List.map_cons,List.contains_cons,Bool.not_or,e]
theorem muts2_inner (l:List Mut) (i:Nat) (x:Mut) (hx:l[i]? = some x) (hl:l.length≤9223372036854775807) (H o:List Blk) :
  loopE (EvF tab) H L140_0 [0,3,4] ⟨[(0,.g (.sl 4 (l.map Mut.c))),(3,I i),(4,I 0)],[],o⟩ =
   some (if ((l.take i).map (·.key)).contains x.key=false then (.exit 2,⟨[(0,.g (.sl 4 (l.map Mut.c))),(3,I i),(4,I i),(48,B false)],[],o⟩) else (.ret,⟨[(2,B false)],[],o⟩)):=by
 have hi:i<l.length:=(List.getElem?_eq_some_iff.1 hx).1
 have hx2:l[i]=x:=(List.getElem?_eq_some_iff.1 hx).2
 have hlen:(l.take i).length=i:=by simp;omega
 have hw:=loop_all0 (E:=EvF tab) (h:=H) (c:=L140_0) (lv:=[0,3,4]) (l:=l.take i) (fun y:Mut => !(y.key==x.key)) (fun k=>⟨[(0,.g (.sl 4 (l.map Mut.c))),(3,I i),(4,I k)],[],o⟩)
  (.exit 2,⟨[(0,.g (.sl 4 (l.map Mut.c))),(3,I i),(4,I i),(48,B false)],[],o⟩) (.ret,⟨[(2,B false)],[],o⟩) (by simp) (by simp) (fun k y hk hy hy2 => ?_) (by delta L140_0;rw [hlen];simp -implicitDefEqProofs)
 ·rw [allP_met] at hw
  have e0:((0:Nat):Int)=0:=rfl
  simp only [e0] at hw
  rw [hw]
  cases ((l.take i).map (·.key)).contains x.key <;> rfl
 ·rw [hlen] at hk
  have hy3:l[k]? = some y:=by rw [List.getElem?_take_of_lt hk] at hy;exact hy
  have hk2:k<l.length:=by omega
  have hy4:l[k]=y:=(List.getElem?_eq_some_iff.1 hy3).2
  have e2:=wrap_succ hk2 hl
  have hkI:(k:Int)<(i:Int):=by omega
  delta L140_0
  by_cases hq:y.key=x.key
  ·simp -implicitDefEqProofs [hk2,hi,hx2,hy4,Mut.c,hkI,hk,hq]
  ·simp -implicitDefEqProofs [hk2,hi,hx2,hy4,Mut.c,hkI,hk,hq,e2]
theorem muts5_ev (s:Sl Mut) (hk:∀m∈s.l,m.key.length≤9223372036854775807) (hl:s.l.length≤9223372036854775807) (H:List Blk):EvF tab 140 [.g (Muts.g s)] H=some ⟨B (mayM s.l),[],[]⟩:=by
 have hq:=loop_runJ (E:=EvF tab) (h:=H) (c:=L140_1) (lv:=[0,3]) (l:=s.l) (β:=List Bs) (γ:=Nat) (fun k met=>met=(s.l.take k).map (·.key)) (fun _ m met=>if (!(met.contains m.key)&&mutOkM m)=true then .inl (met++[m.key]) else .inr 0)
  (fun k met o=>⟨[(0,.g (Muts.g s)),(3,I k)],[],o⟩)
  (fun met o=>(.exit 0,⟨[(0,.g (Muts.g s)),(3,I s.l.length),(11,B false)],[],o⟩))
  (fun _ o=>(.ret,⟨[(2,B false)],[],o⟩)) (by simp) (by simp) (fun k m met o hk2 hx hy hi => ?_) (fun met o _=>by delta L140_1;cases s <;> simp -implicitDefEqProofs) [] [] (by simp)
 ·obtain ⟨o',hq⟩:=hq
  simp only [Int.ofNat_zero,Int.cast_ofNat_Int] at hq
  refine EvF_walk t140 (by simp) ?_
  unfold mayM
  by_cases h30:s.l.length≤30
  ·rcases runG_mayM s.l 0 [] with ⟨b,k1,k2⟩ | ⟨k1,k2⟩ <;> rw [k1] at hq <;> simp only [endJ] at hq <;> simp -implicitDefEqProofs [hq,k2,h30,show ¬(30:Int)<(s.l.length:Int) by omega]
  ·simp -implicitDefEqProofs [h30,show (30:Int)<(s.l.length:Int) by omega]
 ·have e2:=wrap_succ hk2 (by omega)
  have h1:=fun H=>Check2_ev m.key (hk m (List.mem_of_getElem? hx)) H
  have hnext:met++[m.key]=(s.l.take (k+1)).map (·.key):=by
   rw [List.take_succ_eq_append_getElem hk2,List.map_append,hi,hy];rfl
  delta L140_1
  cases s with
  | nil=>simp at hk2
  | of l =>
   simp only [Sl.l_of] at hk2 hx hy hl hi hnext ⊢
   have hin:=fun o=>muts2_inner l k m hx hl H o
   rw [←hi] at hin
   unfold mutOkM
   obtain ⟨mg,mk,mv,ml⟩:=m
   simp only at h1 hin hnext ⊢
   have fail:∀c:Bool,mutOkM ⟨mg,mk,mv,ml⟩=false→(if (!c&&mutOkM ⟨mg,mk,mv,ml⟩)=true then (.inl (met++[mk]):List Bs⊕Nat) else .inr 0) = .inr 0:=fun c h=>by rw [h,Bool.and_false];rfl
   unfold mutOkM at fail
   generalize keyOk mk=b1 at h1 fail ⊢
   cases b1
   ·rw [fail _ rfl]
    refine ⟨o,?_⟩
    simp -implicitDefEqProofs [hk2,hy,Mut.c,h1]
   ·by_cases d1:20<mv.length
    ·rw [fail _ (by simp [d1])]
     refine ⟨o,?_⟩
     simp -implicitDefEqProofs [hk2,hy,Mut.c,h1,show (20:Int)<(mv.length:Int) by omega]
    ·have d1':¬(20:Int)<(mv.length:Int):=by omega
     by_cases d2:ml<0
     ·rw [fail _ (by simp [d2])]
      refine ⟨o,?_⟩
      simp -implicitDefEqProofs [hk2,hy,Mut.c,h1,d1',d2]
     ·by_cases d3:1099511627775<ml
      ·rw [fail _ (by simp [d3])]
       refine ⟨o,?_⟩
       simp -implicitDefEqProofs [hk2,hy,Mut.c,h1,d1',d2,d3]
      ·simp only [d1,d2,d3,decide_false,Bool.false_or,Bool.not_false,Bool.true_and,Bool.and_true]
       cases hc:met.contains mk
       ·rw [hc] at hin
        simp only [if_true] at hin
        simp only [Bool.not_false,if_true]
        refine ⟨hnext,o,?_⟩
        simp -implicitDefEqProofs [hk2,hy,Mut.c,h1,d1',d2,d3,hin,e2]
       ·rw [hc] at hin
        simp only [Bool.true_eq_false,if_false] at hin
        simp only [Bool.not_true,Bool.false_eq_true,if_false]
        refine ⟨o,?_⟩
        simp -implicitDefEqProofs [hk2,hy,Mut.c,h1,d1',d2,d3,hin]
end Go.Proofs.YtndfdnlbljhlgaaGreat
end
section
namespace Go.Proofs.YtndfdnlbljhlgaaGreat
open Go Go.AM Go.Proofs
set_option maxRecDepth 20000
set_option maxHeartbeats 2000000
set_option linter.unusedSimpArgs false
set_option linter.unusedVariables false
def evOf (rev:Int) (l:List KV) (m:Mut):Ev:=⟨rev,m.gone,if m.gone=true then findX l m.key else nextP l m rev⟩
def evF (R:Sl KV→Ev→Sl KV) (rev:Int) (b:List Ev×Sl KV×Bool) (m:Mut):List Ev×Sl KV×Bool :=
 if (m.gone && !findB b.2.1.l m.key)=true then b else (b.1++[evOf rev b.2.1.l m],R b.2.1 (evOf rev b.2.1.l m),b.2.2||decide (30<(R b.2.1 (evOf rev b.2.1.l m)).l.length))
def evP (rev:Int) (b:List Ev×List KV×Bool) (m:Mut):List Ev×List KV×Bool :=
 if (m.gone && !findB b.2.1 m.key)=true then b else (b.1++[evOf rev b.2.1 m],stepP rev b.2.1 (evOf rev b.2.1 m),b.2.2||decide (30<(stepP rev b.2.1 (evOf rev b.2.1 m)).length))
theorem evF_P (R:Sl KV→Ev→Sl KV) (rev:Int) (hR:∀b e,(R b e).l=stepP rev b.l e):∀(ms:List Mut) (b:List Ev×Sl KV×Bool),
  (let c:=ms.foldl (evF R rev) b;(c.1,c.2.1.l,c.2.2))=ms.foldl (evP rev) (b.1,b.2.1.l,b.2.2)
 | [],b=>rfl
 | m::ms,b=>by
  rw [List.foldl_cons,List.foldl_cons,evF_P R rev hR ms]
  congr 1
  unfold evF evP
  simp only
  split
  ·rfl
  ·simp only [hR]
theorem evP_len (rev:Int):∀(ms:List Mut) (b:List Ev×List KV×Bool),(ms.foldl (evP rev) b).1.length≤b.1.length+ms.length
 | [],b=>by simp
 | m::ms,b=>by
  rw [List.foldl_cons]
  have h:=evP_len rev ms (evP rev b m)
  have h2:(evP rev b m).1.length≤b.1.length+1:=by unfold evP;split <;> simp
  simp only [List.length_cons];omega
theorem events_ev (s:Sl KV) (ms:Sl Mut) (rev:Int) (hl:s.l.length+ms.l.length≤200000) (H:List Blk) :
  EvF tab 138 [.g (KVs.g s),.g (Muts.g ms),I rev] H=some ⟨.tup [.g (Evs.g (slOf (ms.l.foldl (evF (stepR rev) rev) ([],s,false)).1)),B (ms.l.foldl (evF (stepR rev) rev) ([],s,false)).2.2],[],[]⟩:=by
 have hw:=loop_runJ (E:=EvF tab) (h:=H) (c:=L138_0) (lv:=[0,2,8,9,15,16,17]) (l:=ms.l) (β:=List Ev×Sl KV×Bool) (γ:=Unit) (fun k b=>b.1.length≤k∧b.2.1.l.length≤s.l.length+k) (fun k m b => .inl (evF (stepR rev) rev b m))
  (fun k b o=>⟨[(0,.g (KVs.g b.2.1)),(2,I rev),(8,.ms (H.length+1) (b.1.length+1) 8 0 b.1.length),(9,B b.2.2),(15,.g (Muts.g ms)),(16,I ms.l.length),(17,I k)],[],.rows 8 1 [] :: .rows 8 (b.1.length+1) (b.1.map Ev.c)::o⟩)
  (fun b o=>(.exit 0,⟨[(0,.g (KVs.g b.2.1)),(2,I rev),(8,.ms (H.length+1) (b.1.length+1) 8 0 b.1.length),(9,B b.2.2),(15,.g (Muts.g ms)),(16,I ms.l.length),(17,I ms.l.length),(18,B false)],[],.rows 8 1 [] :: .rows 8 (b.1.length+1) (b.1.map Ev.c)::o⟩))
  (fun _ o=>(.ret,⟨[],[],o⟩)) (by simp) (by simp) (fun k m b o hk hx hy hi => ?_) (fun b o _=>by delta L138_0;cases ms <;> simp -implicitDefEqProofs) ([],s,false) [] (by simp)
 ·obtain ⟨o',hw⟩:=hw
  rw [runG_fold] at hw
  have e0:((0:Nat):Int)=0:=rfl
  simp only [e0,endJ,List.length_nil,List.map_nil,Nat.zero_add] at hw
  refine EvF_walk t138 (by simp) ?_
  generalize ms.l.foldl (evF (stepR rev) rev) ([],s,false)=r at hw ⊢
  obtain ⟨r1,r2,r3⟩:=r
  have e3:List.take r1.length (List.map Ev.c r1)=List.map Ev.c r1:=List.take_of_length_le (by simp)
  unfold slOf
  cases r1 with
  | nil=>cases ms <;> simp only [Muts.g,Sl.g_nil,Sl.g_of,Sl.l_nil,Sl.l_of,List.length_nil,e0] at hw <;> simp -implicitDefEqProofs [hw]
  | cons x r1 =>
   have e4:List.take r1.length (List.map Ev.c r1)=List.map Ev.c r1:=List.take_of_length_le (by simp)
   cases ms <;> simp only [Muts.g,Sl.g_nil,Sl.g_of,Sl.l_nil,Sl.l_of,List.length_nil,e0] at hw <;> simp -implicitDefEqProofs [hw,e3,e4]
 ·obtain ⟨hi1,hi2⟩:=hi
  have e2:=wrap_succ hk (by omega)
  obtain ⟨r,t,f⟩:=b
  simp only at hi1 hi2 ⊢
  have h1:=fun H=>Find_ev t m.key (by omega) H
  have h2:=fun H=>next_ev t m rev (by omega) H
  obtain ⟨e,he⟩:∃e,evOf rev t.l m=e:=⟨_,rfl⟩
  have h3:=fun H=>Fold_ev t (.of [e]) rev (by simp only [Sl.l_of,List.length_cons,List.length_nil];omega) H
  have h4:foldR t (Sl.of [e]).l rev=stepR rev t e:=rfl
  rw [h4] at h3
  have h5:=stepP_len rev t.l e
  rw [←stepR_l] at h5
  delta L138_0
  cases ms with
  | nil=>simp at hk
  | of l =>
   simp only [Sl.l_of] at hk hx hy hl ⊢
   have e3:List.take r.length (List.map Ev.c r)=List.map Ev.c r:=List.take_of_length_le (by simp)
   unfold evF
   simp only
   rw [he]
   unfold evOf at he
   obtain ⟨mg,mk,mv,ml⟩:=m
   simp only at h1 h2 he ⊢
   have n1:r.length+1≤140737488355328:=by omega
   have n2:(r.length+1)*80≤140737488355328:=by omega
   cases mg
   ·simp only [Bool.false_eq_true,if_false,Bool.false_and] at he ⊢
    subst he
    generalize nextP t.l ⟨false,mk,mv,ml⟩ rev=x at h2 h3 h5 ⊢
    generalize stepR rev t ⟨rev,false,x⟩=R at h3 h5 ⊢
    refine ⟨⟨by simp;omega,by omega⟩,o++[.cells [B false,T mk,T mv,I ml],.cells ((Ev.c ⟨rev,false,x⟩).map .g)],?_⟩
    obtain ⟨x1,x2,x3,x4,x5,x6⟩:=x
    simp only [A,Mut.c,KV.c,Ev.c,Evs.g,Sl.g_of,List.map_cons,List.map_nil] at h2 h3 ⊢
    cases f
    ·by_cases d:30<R.l.length
     ·simp -implicitDefEqProofs [hk,hy,Mut.c,Ev.c,zres,h2,h3,chunk,appV,room,Nat.not_succ_le_self,n1,n2,e3,e2,d,show (30:Int)<(R.l.length:Int) by omega]
     ·simp -implicitDefEqProofs [hk,hy,Mut.c,Ev.c,zres,h2,h3,chunk,appV,room,Nat.not_succ_le_self,n1,n2,e3,e2,d,show ¬(30:Int)<(R.l.length:Int) by omega]
    ·simp -implicitDefEqProofs [hk,hy,Mut.c,Ev.c,zres,h2,h3,chunk,appV,room,Nat.not_succ_le_self,n1,n2,e3,e2]
   ·simp only [if_true,Bool.true_and] at he ⊢
    subst he
    generalize findX t.l mk=x at h1 h3 h5 ⊢
    generalize stepR rev t ⟨rev,true,x⟩=R at h3 h5 ⊢
    obtain ⟨x1,x2,x3,x4,x5,x6⟩:=x
    simp only [A,Mut.c,KV.c,Ev.c,Evs.g,Sl.g_of,List.map_cons,List.map_nil] at h1 h3 ⊢
    cases hb:findB t.l mk
    ·rw [hb] at h1
     simp only [Bool.not_false,if_true]
     refine ⟨⟨by omega,by omega⟩,o++[.cells [B true,T mk,T mv,I ml],.cells [I rev,B true,T [],T [],I 0,I 0,I 0,I 0],.cells [T x1,T x2,I x3,I x4,I x5,I x6]],?_⟩
     simp -implicitDefEqProofs [hk,hy,Mut.c,Ev.c,zres,h1,e2]
    ·rw [hb] at h1
     simp only [Bool.not_true,Bool.false_eq_true,if_false]
     refine ⟨⟨by simp;omega,by omega⟩,o++[.cells [B true,T mk,T mv,I ml],.cells [I rev,B true,T x1,T x2,I x3,I x4,I x5,I x6],.cells [T x1,T x2,I x3,I x4,I x5,I x6]],?_⟩
     cases f
     ·by_cases d:30<R.l.length
      ·simp -implicitDefEqProofs [hk,hy,Mut.c,Ev.c,zres,h1,h3,chunk,appV,room,Nat.not_succ_le_self,n1,n2,e3,e2,d,show (30:Int)<(R.l.length:Int) by omega]
      ·simp -implicitDefEqProofs [hk,hy,Mut.c,Ev.c,zres,h1,h3,chunk,appV,room,Nat.not_succ_le_self,n1,n2,e3,e2,d,show ¬(30:Int)<(R.l.length:Int) by omega]
     ·simp -implicitDefEqProofs [hk,hy,Mut.c,Ev.c,zres,h1,h3,chunk,appV,room,Nat.not_succ_le_self,n1,n2,e3,e2]
theorem concatTE:∃m msg m' msg',tab.T 139=some (concatF 8 80 177 m msg)∧tab.T 177=some (growF 8 80 [.int .i64 0,.bool false,.str [],.str [],.int .i64 0,.int .i64 0,.int .i64 0,.int .i64 0] m' msg') :=
 ⟨_,_,_,_,t139,t177⟩
theorem concatE_ev (a b:Sl Ev) (hn:a.l.length+b.l.length≤1000000) (H:List Blk) :
  EvF tab 139 [.g (.sl 1 [[Evs.g a],[Evs.g b]])] H=some ⟨.g (nslG 8 Ev.c (a.l++b.l)),[],[]⟩:=by
 obtain ⟨m,msg,m',msg',h1,h2⟩:=concatTE
 exact concat_ev h1 h2 a b (by omega) (by omega) H
def moreP (s:Store) (ms:List Mut):List Ev×List KV×Bool:=ms.foldl (evP (s.rev+1)) ([],foldP s.base.l s.log.l s.rev,false)
def applyE (s:Store) (ms:List Mut):Int :=
 if mayM ms=true then (if (moreP s ms).1=[] then 0 else if (moreP s ms).2.2=true∨s.rev=1099511627774∨60<s.log.l.length+(moreP s ms).1.length then 4 else 0) else 1
def applyN (s:Store) (ms:List Mut):Bool:=decide (applyE s ms=0) && !decide ((moreP s ms).1=[])
def applyS (s:Store) (ms:List Mut):Store:=if applyN s ms=true then ⟨s.rev+1,s.low,s.base,.of (s.log.l++(moreP s ms).1)⟩ else s
def applyV (s:Store) (ms:List Mut):Sl Ev:=if applyN s ms=true then .of (moreP s ms).1 else .nil
theorem Apply_ev (s:Store) (ms:Sl Mut) (hs:smallS s) (hr : -1≤s.rev∧s.rev≤4611686018427387904) (hk:∀m∈ms.l,m.key.length≤9223372036854775807) (hm:ms.l.length≤10000) (H:List Blk) :
  EvF tab 66 [A s.c,.g (Muts.g ms)] H=some ⟨.tup [A (applyS s ms.l).c,.g (Evs.g (applyV s ms.l)),I (applyE s ms.l)],[],[]⟩:=by
 have hs':=hs
 unfold smallS at hs'
 have m1:=fun H=>mayM_ev ms hk (by omega) H
 have m2:=fun H=>Now_ev s hs H
 have hnl:=foldP_len s.rev s.log.l s.base.l
 have hR:=foldR_l s.rev s.log.l s.base
 have m3:=fun H=>events_ev (foldR s.base s.log.l s.rev) ms (s.rev+1) (by rw [hR];omega) H
 have hP:=evF_P (stepR (s.rev+1)) (s.rev+1) (fun b e=>stepR_l _ b e) ms.l ([],foldR s.base s.log.l s.rev,false)
 simp only [hR] at hP
 have hel:=evP_len (s.rev+1) ms.l ([],foldP s.base.l s.log.l s.rev,false)
 rw [show ms.l.foldl (evP (s.rev+1)) ([],foldP s.base.l s.log.l s.rev,false)=moreP s ms.l from rfl] at hP hel
 have hP1:(ms.l.foldl (evF (stepR (s.rev+1)) (s.rev+1)) ([],foldR s.base s.log.l s.rev,false)).1=(moreP s ms.l).1:=by rw [←hP]
 have hP2:(ms.l.foldl (evF (stepR (s.rev+1)) (s.rev+1)) ([],foldR s.base s.log.l s.rev,false)).2.2=(moreP s ms.l).2.2:=by rw [←hP]
 rw [hP1,hP2] at m3
 refine EvF_walk t66 (by simp) ?_
 unfold applyS applyV applyN applyE
 generalize foldR s.base s.log.l s.rev=N at m2 m3
 generalize (moreP s ms.l).1=E1 at m3 hel ⊢
 generalize (moreP s ms.l).2.2=full at m3 ⊢
 generalize mayM ms.l=b0 at m1 ⊢
 simp only [List.length_nil,Nat.zero_add] at hel
 have w1:IntKind.i64.wrap (s.rev+1)=s.rev+1:=wrap_i64 (by omega) (by omega)
 obtain ⟨srev,slow,sbase,slog⟩:=s
 simp only at hr hs' hnl m2 m3 w1 ⊢
 have cc:=fun H=>concatE_ev slog (.of E1) (by simp;omega) H
 simp only [Sl.l_of,nslG_slOf] at cc
 have hll:lenV=lenV:=rfl
 generalize hg0:Muts.g ms=G0 at m1 m3
 generalize hg1:KVs.g sbase=G1 at m2
 simp only [A,Store.c,hg1,List.map_cons,List.map_nil] at m2
 cases b0
 ·simp -implicitDefEqProofs [zres,A,Store.c,hg0,hg1,m1]
 ·cases E1 with
  | nil =>
   simp only [slOf,if_true] at m3
   simp -implicitDefEqProofs [zres,A,Store.c,hg0,hg1,m1,m2,m3,w1]
  | cons e E1 =>
   simp only [slOf,reduceCtorEq,if_false] at m3
   have hne:¬(E1.length:Int)+1=0:=by omega
   cases full
   ·by_cases c1:srev=1099511627774
    ·subst c1
     rw [show (1099511627774:Int)+1=1099511627775 from rfl] at m3 w1
     simp -implicitDefEqProofs [zres,A,Store.c,hg0,hg1,m1,m2,m3,w1,hne]
    ·have hq:IntKind.i64.wrap ((slog.l.length:Int)+((E1.length:Int)+1))=(slog.l.length:Int)+((E1.length:Int)+1):=wrap_i64 (by omega) (by simp only [List.length_cons] at hel;omega)
     by_cases c2:60<slog.l.length+(E1.length+1)
     ·simp -implicitDefEqProofs [zres,A,Store.c,hg0,hg1,m1,m2,m3,w1,c1,hq,hne,c2,show (60:Int)<(slog.l.length:Int)+((E1.length:Int)+1) by omega]
     ·have hso:slOf (slog.l++e::E1) = .of (slog.l++e::E1):=by cases slog.l <;> rfl
      rw [hso] at cc
      simp only [Evs.g,Sl.g_of,List.map_cons,List.map_append] at cc m2 m3 ⊢
      have hb:¬(60:Int)<(slog.l.length:Int)+((E1.length:Int)+1):=by omega
      cases slog with
      | nil =>
       simp only [Sl.l_nil,Sl.g_nil,List.nil_append,List.map_nil,List.length_nil,Int.natCast_zero,Int.ofNat_zero,Int.zero_add,Nat.zero_add] at cc m2 hq hb c2 ⊢
       have hq1:IntKind.i64.wrap ((E1.length:Int)+1)=(E1.length:Int)+1:=wrap_i64 (by omega) (by omega)
       simp -implicitDefEqProofs [zres,A,Store.c,hg0,hg1,m1,m2,m3,w1,c1,hq,hne,hb,c2,cc,chunk,show E1.length≤59 by omega,hq1]
      | of sl =>
       simp only [Sl.l_of,Sl.g_of] at cc m2 hq hb c2 ⊢
       simp -implicitDefEqProofs [zres,A,Store.c,hg0,hg1,m1,m2,m3,w1,c1,hq,hne,hb,c2,cc,chunk]
   ·simp -implicitDefEqProofs [zres,A,Store.c,hg0,hg1,m1,m2,m3,w1,hne]
end Go.Proofs.YtndfdnlbljhlgaaGreat
end
section
namespace Go.Proofs.YtndfdnlbljhlgaaGreat
open Go Go.AM Go.Proofs
set_option maxRecDepth 20000
set_option maxHeartbeats 4000000
set_option linter.unusedSimpArgs false
set_option linter.unusedVariables false
theorem app_ownP {sz bytes g:Nat} (n:Nat) (xs ys:List (List GV)) (h1:xs.length+ys.length≤140737488355328) (h2:(xs.length+ys.length)*bytes≤140737488355328) (H:List Blk) :
  ∃g' W,g≤g'∧∀t m P,P.length=n→appV H ⟨t,m,P++[.rows sz g xs]⟩ sz bytes (.ms (H.length+n) g sz 0 xs.length) ys=some (.ms (H.length+n) g' sz 0 (xs.length+ys.length),⟨t,m,P++[.rows sz g' (xs++ys)]⟩,W):=by
 by_cases hne:ys=[]
 ·subst hne
  exact ⟨g,[],Nat.le_refl _,fun t m P hP=>by subst hP;simp -implicitDefEqProofs [appV]⟩
 ·exact ⟨g+1,[H.length+n],by omega,fun t m P hP=>by subst hP;exact app_grow hne h1 h2 H t m P⟩
theorem Apply2_loop (s:Sl KV) (ms:Sl Mut) (rev:Int) (p1 p2 p3 p4 p5:Blk) (hl:s.l.length+ms.l.length≤200000) (H:List Blk) :
  ∃o,loopE (EvF tab) H L70_0 [1,2,4,7,8,9,10,11] ⟨[(1,.g (Muts.g ms)),(2,.ptr H.length 0),(4,.ptr (H.length+3) 0),(7,.g (KVs.g s)),(8,I rev),(9,.ms (H.length+5) 1 8 0 0),(10,B false),(11,I 0)],[],[p1,p2,p3,p4,p5,.rows 8 1 []]⟩ =
   some (.exit 0,⟨[(1,.g (Muts.g ms)),(2,.ptr H.length 0),(4,.ptr (H.length+3) 0),(7,.g (KVs.g (ms.l.foldl (evF (stepR2 rev) rev) ([],s,false)).2.1)),(8,I rev),(9,.ms (H.length+5) ((ms.l.foldl (evF (stepR2 rev) rev) ([],s,false)).1.length+1) 8 0 (ms.l.foldl (evF (stepR2 rev) rev) ([],s,false)).1.length),(10,B (ms.l.foldl (evF (stepR2 rev) rev) ([],s,false)).2.2),(11,I ms.l.length),(28,B false)],[],
    p1::p2::p3::p4::p5 :: .rows 8 ((ms.l.foldl (evF (stepR2 rev) rev) ([],s,false)).1.length+1) ((ms.l.foldl (evF (stepR2 rev) rev) ([],s,false)).1.map Ev.c)::o⟩):=by
 have hw:=loop_runJ (E:=EvF tab) (h:=H) (c:=L70_0) (lv:=[1,2,4,7,8,9,10,11]) (l:=ms.l) (β:=List Ev×Sl KV×Bool) (γ:=Unit) (fun k b=>b.1.length≤k∧b.2.1.l.length≤s.l.length+k) (fun k m b => .inl (evF (stepR2 rev) rev b m))
  (fun k b o=>⟨[(1,.g (Muts.g ms)),(2,.ptr H.length 0),(4,.ptr (H.length+3) 0),(7,.g (KVs.g b.2.1)),(8,I rev),(9,.ms (H.length+5) (b.1.length+1) 8 0 b.1.length),(10,B b.2.2),(11,I k)],[],p1::p2::p3::p4::p5 :: .rows 8 (b.1.length+1) (b.1.map Ev.c)::o⟩)
  (fun b o=>(.exit 0,⟨[(1,.g (Muts.g ms)),(2,.ptr H.length 0),(4,.ptr (H.length+3) 0),(7,.g (KVs.g b.2.1)),(8,I rev),(9,.ms (H.length+5) (b.1.length+1) 8 0 b.1.length),(10,B b.2.2),(11,I ms.l.length),(28,B false)],[],p1::p2::p3::p4::p5 :: .rows 8 (b.1.length+1) (b.1.map Ev.c)::o⟩))
  (fun _ o=>(.ret,⟨[],[],o⟩)) (by simp) (by simp) (fun k m b o hk hx hy hi => ?_) (fun b o _=>by delta L70_0;cases ms <;> simp -implicitDefEqProofs) ([],s,false) [] (by simp)
 ·obtain ⟨o',hw⟩:=hw
  rw [runG_fold] at hw
  exact ⟨o',hw⟩
 ·obtain ⟨hi1,hi2⟩:=hi
  have e2:=wrap_succ hk (by omega)
  obtain ⟨r,t,f⟩:=b
  simp only at hi1 hi2 ⊢
  have h1:=fun H=>Find2_ev t m.key (by omega) H
  obtain ⟨e,he⟩:∃e,evOf rev t.l m=e:=⟨_,rfl⟩
  have h3:=fun H=>Fold2_ev t (.of [e]) rev (by simp only [Sl.l_of,List.length_cons,List.length_nil];omega) H
  have h4:foldR2 t (Sl.of [e]).l rev=stepR2 rev t e:=rfl
  rw [h4] at h3
  have h5:=stepP_len rev t.l e
  rw [←stepR2_l] at h5
  delta L70_0
  cases ms with
  | nil=>simp at hk
  | of l =>
   simp only [Sl.l_of] at hk hx hy hl ⊢
   have e3:List.take r.length (List.map Ev.c r)=List.map Ev.c r:=List.take_of_length_le (by simp)
   unfold evF
   simp only
   rw [he]
   unfold evOf at he
   obtain ⟨mg,mk,mv,ml⟩:=m
   simp only at h1 he ⊢
   have n1:r.length+1≤140737488355328:=by omega
   have n2:(r.length+1)*80≤140737488355328:=by omega
   cases mg
   ·simp only [Bool.false_eq_true,if_false,Bool.false_and] at he ⊢
    unfold nextP at he
    simp only at he
    generalize findX t.l mk=x at h1 he
    obtain ⟨x1,x2,x3,x4,x5,x6⟩:=x
    cases hb:findB t.l mk
    ·rw [hb] at h1 he
     simp only [Bool.false_eq_true,if_false] at he
     subst he
     generalize stepR2 rev t ⟨rev,false,⟨mk,mv,rev,rev,1,ml⟩⟩=R at h3 h5 ⊢
     refine ⟨⟨by simp;omega,by omega⟩,o++[.cells [T x1,T x2,I x3,I x4,I x5,I x6],.cells [I rev,B false,T mk,T mv,I rev,I rev,I 1,I ml]],?_⟩
     simp only [A,Mut.c,KV.c,Ev.c,Evs.g,Sl.g_of,List.map_cons,List.map_nil] at h1 h3 ⊢
     cases f
     ·by_cases d:30<R.l.length
      ·simp -implicitDefEqProofs [hk,hy,pends,List.append_assoc,List.cons_append,List.nil_append,Mut.c,Ev.c,zres,h1,h3,chunk,appV,room,Nat.not_succ_le_self,n1,n2,e3,e2,d,show (30:Int)<(R.l.length:Int) by omega]
      ·simp -implicitDefEqProofs [hk,hy,pends,List.append_assoc,List.cons_append,List.nil_append,Mut.c,Ev.c,zres,h1,h3,chunk,appV,room,Nat.not_succ_le_self,n1,n2,e3,e2,d,show ¬(30:Int)<(R.l.length:Int) by omega]
     ·simp -implicitDefEqProofs [hk,hy,pends,List.append_assoc,List.cons_append,List.nil_append,Mut.c,Ev.c,zres,h1,h3,chunk,appV,room,Nat.not_succ_le_self,n1,n2,e3,e2]
    ·rw [hb] at h1 he
     simp only [if_true] at he
     subst he
     obtain ⟨x7,h7⟩:∃n,IntKind.i64.wrap (x5+1)=n:=⟨_,rfl⟩
     rw [h7] at h3 h5 ⊢
     generalize stepR2 rev t ⟨rev,false,⟨mk,mv,x3,rev,x7,ml⟩⟩=R at h3 h5 ⊢
     refine ⟨⟨by simp;omega,by omega⟩,o++[.cells [T x1,T x2,I x3,I x4,I x5,I x6],.cells [I rev,B false,T mk,T mv,I x3,I rev,I x7,I ml]],?_⟩
     simp only [A,Mut.c,KV.c,Ev.c,Evs.g,Sl.g_of,List.map_cons,List.map_nil] at h1 h3 ⊢
     cases f
     ·by_cases d:30<R.l.length
      ·simp -implicitDefEqProofs [hk,hy,pends,List.append_assoc,List.cons_append,List.nil_append,Mut.c,Ev.c,zres,h1,h3,chunk,appV,room,Nat.not_succ_le_self,n1,n2,e3,e2,h7,d,show (30:Int)<(R.l.length:Int) by omega]
      ·simp -implicitDefEqProofs [hk,hy,pends,List.append_assoc,List.cons_append,List.nil_append,Mut.c,Ev.c,zres,h1,h3,chunk,appV,room,Nat.not_succ_le_self,n1,n2,e3,e2,h7,d,show ¬(30:Int)<(R.l.length:Int) by omega]
     ·simp -implicitDefEqProofs [hk,hy,pends,List.append_assoc,List.cons_append,List.nil_append,Mut.c,Ev.c,zres,h1,h3,chunk,appV,room,Nat.not_succ_le_self,n1,n2,e3,e2,h7]
   ·simp only [if_true,Bool.true_and] at he ⊢
    subst he
    generalize findX t.l mk=x at h1 h3 h5 ⊢
    generalize stepR2 rev t ⟨rev,true,x⟩=R at h3 h5 ⊢
    obtain ⟨x1,x2,x3,x4,x5,x6⟩:=x
    cases hb:findB t.l mk
    ·rw [hb] at h1
     simp only [A,Mut.c,KV.c,Ev.c,Evs.g,Sl.g_of,List.map_cons,List.map_nil] at h1 h3 ⊢
     simp only [Bool.not_false,if_true]
     refine ⟨⟨by omega,by omega⟩,o++[.cells [T x1,T x2,I x3,I x4,I x5,I x6],.cells [I rev,B true,T x1,T x2,I x3,I x4,I x5,I x6]],?_⟩
     simp -implicitDefEqProofs [hk,hy,pends,List.append_assoc,List.cons_append,List.nil_append,Mut.c,Ev.c,zres,h1,e2]
    ·rw [hb] at h1
     simp only [Bool.not_true,Bool.false_eq_true,if_false]
     refine ⟨⟨by simp;omega,by omega⟩,o++[.cells [T x1,T x2,I x3,I x4,I x5,I x6],.cells [I rev,B true,T x1,T x2,I x3,I x4,I x5,I x6]],?_⟩
     simp only [A,Mut.c,KV.c,Ev.c,Evs.g,Sl.g_of,List.map_cons,List.map_nil] at h1 h3 ⊢
     cases f
     ·by_cases d:30<R.l.length
      ·simp -implicitDefEqProofs [hk,hy,pends,List.append_assoc,List.cons_append,List.nil_append,Mut.c,Ev.c,zres,h1,h3,chunk,appV,room,Nat.not_succ_le_self,n1,n2,e3,e2,d,show (30:Int)<(R.l.length:Int) by omega]
      ·simp -implicitDefEqProofs [hk,hy,pends,List.append_assoc,List.cons_append,List.nil_append,Mut.c,Ev.c,zres,h1,h3,chunk,appV,room,Nat.not_succ_le_self,n1,n2,e3,e2,d,show ¬(30:Int)<(R.l.length:Int) by omega]
     ·simp -implicitDefEqProofs [hk,hy,pends,List.append_assoc,List.cons_append,List.nil_append,Mut.c,Ev.c,zres,h1,h3,chunk,appV,room,Nat.not_succ_le_self,n1,n2,e3,e2]
theorem applyE_eq (s:Store) (ms:List Mut) (h:s.rev≤1099511627774):applyE s ms=if mayM ms=true then (if (moreP s ms).1=[] then 0 else if (moreP s ms).2.2=true∨1099511627774≤s.rev∨60<s.log.l.length+(moreP s ms).1.length then 4 else 0) else 1:=by
 unfold applyE
 have e:s.rev=1099511627774↔1099511627774≤s.rev:=⟨fun h=>by omega,fun h'=>by omega⟩
 simp only [e]
theorem Apply2_ev (s:Store) (ms:Sl Mut) (hs:smallS s) (hr : -1≤s.rev∧s.rev≤1099511627774) (hk:∀m∈ms.l,m.key.length≤9223372036854775807) (hm:ms.l.length≤10000) (H:List Blk) :
  EvF tab 70 [A s.c,.g (Muts.g ms)] H=some ⟨.tup [A (applyS s ms.l).c,.g (Evs.g (applyV s ms.l)),I (applyE s ms.l)],[],[]⟩:=by
 have hs':=hs
 unfold smallS at hs'
 have m1:=fun H=>muts5_ev ms hk (by omega) H
 have m2:=fun H=>Now2_ev s hs H
 have hnl:=foldP_len s.rev s.log.l s.base.l
 have hR:=foldR2_l s.rev s.log.l s.base
 have m3:=fun p1 p2 p3 p4 p5 H=>Apply2_loop (foldR2 s.base s.log.l s.rev) ms (s.rev+1) p1 p2 p3 p4 p5 (by rw [hR];omega) H
 have hP:=evF_P (stepR2 (s.rev+1)) (s.rev+1) (fun b e=>stepR2_l _ b e) ms.l ([],foldR2 s.base s.log.l s.rev,false)
 simp only [hR] at hP
 have hel:=evP_len (s.rev+1) ms.l ([],foldP s.base.l s.log.l s.rev,false)
 rw [show ms.l.foldl (evP (s.rev+1)) ([],foldP s.base.l s.log.l s.rev,false)=moreP s ms.l from rfl] at hP hel
 have hP1:(ms.l.foldl (evF (stepR2 (s.rev+1)) (s.rev+1)) ([],foldR2 s.base s.log.l s.rev,false)).1=(moreP s ms.l).1:=by rw [←hP]
 have hP2:(ms.l.foldl (evF (stepR2 (s.rev+1)) (s.rev+1)) ([],foldR2 s.base s.log.l s.rev,false)).2.2=(moreP s ms.l).2.2:=by rw [←hP]
 rw [hP1,hP2] at m3
 refine EvF_walk t70 (by simp) ?_
 unfold applyS applyV applyN
 rw [applyE_eq s ms.l hr.2]
 generalize (ms.l.foldl (evF (stepR2 (s.rev+1)) (s.rev+1)) ([],foldR2 s.base s.log.l s.rev,false)).2.1=N2 at m3
 generalize foldR2 s.base s.log.l s.rev=N at m2 m3
 generalize (moreP s ms.l).1=E1 at m3 hel ⊢
 generalize (moreP s ms.l).2.2=full at m3 ⊢
 generalize mayM ms.l=b0 at m1 ⊢
 simp only [List.length_nil,Nat.zero_add] at hel
 have w1:IntKind.i64.wrap (s.rev+1)=s.rev+1:=wrap_i64 (by omega) (by omega)
 obtain ⟨srev,slow,sbase,slog⟩:=s
 simp only at hr hs' hnl m2 m3 w1 ⊢
 generalize hg0:Muts.g ms=G0 at m1 m3
 generalize hg1:KVs.g sbase=G1 at m2
 simp only [A,Store.c,hg1,List.map_cons,List.map_nil] at m2
 cases b0
 ·simp -implicitDefEqProofs [zres,A,Store.c,hg0,hg1,m1]
 ·obtain ⟨o,m3⟩:=m3 (.cells (Store.c ⟨srev,slow,sbase,slog⟩ |>.map .g)) (.rows 6 1 []) (.rows 8 1 []) (.cells [I 0,I 0,.ms (H.length+1) 1 6 0 0,.ms (H.length+2) 1 8 0 0]) (.rows 8 1 []) H
  simp only [Store.c,hg1,List.map_cons,List.map_nil] at m3
  cases E1 with
  | nil =>
   simp only [if_true,List.length_nil] at m3
   simp -implicitDefEqProofs [zres,A,Store.c,hg0,hg1,m1,m2,m3,w1]
  | cons e E1 =>
   simp only [reduceCtorEq,if_false,List.length_cons] at m3 hel
   have hne:¬(E1.length:Int)+1=0:=by omega
   cases full
   ·by_cases c1:1099511627774≤srev
    ·simp -implicitDefEqProofs [zres,A,Store.c,hg0,hg1,m1,m2,m3,w1,hne,c1]
    ·have hq:IntKind.i64.wrap ((slog.l.length:Int)+((E1.length:Int)+1))=(slog.l.length:Int)+((E1.length:Int)+1):=wrap_i64 (by omega) (by omega)
     by_cases c2:60<slog.l.length+(E1.length+1)
     ·simp -implicitDefEqProofs [zres,A,Store.c,hg0,hg1,m1,m2,m3,w1,c1,hq,hne,c2,show (60:Int)<(slog.l.length:Int)+((E1.length:Int)+1) by omega]
     ·have hb:¬(60:Int)<(slog.l.length:Int)+((E1.length:Int)+1):=by omega
      obtain ⟨g1,W1,k1,ap1⟩:=app_ownP (sz:=8) (bytes:=80) (g:=2) (o.length+9) [] (slog.l.map Ev.c) (by simp;omega) (by simp;omega) H
      obtain ⟨g2,W2,k2,ap2⟩:=app_ownP (sz:=8) (bytes:=80) (g:=g1) (o.length+9) (slog.l.map Ev.c) ((e::E1).map Ev.c) (by simp;omega) (by simp;omega) H
      have ap1:=fun t m (c:List AV)=>ap1 t m ([.cells [I srev,I slow,.g G1,.g (Evs.g slog)],.rows 6 1 [],.rows 8 1 [],.cells [I 0,I 0,.ms (H.length+1) 1 6 0 0,.ms (H.length+2) 1 8 0 0],.rows 8 1 [],.rows 8 (E1.length+1+1) ((e::E1).map Ev.c)]++o++[.rows 6 1 [],.rows 8 1 [],.cells c]) (by simp)
      have ap2:=fun t m (c:List AV)=>ap2 t m ([.cells [I srev,I slow,.g G1,.g (Evs.g slog)],.rows 6 1 [],.rows 8 1 [],.cells [I 0,I 0,.ms (H.length+1) 1 6 0 0,.ms (H.length+2) 1 8 0 0],.rows 8 1 [],.rows 8 (E1.length+1+1) ((e::E1).map Ev.c)]++o++[.rows 6 1 [],.rows 8 1 [],.cells c]) (by simp)
      simp only [List.length_nil,List.nil_append,Nat.zero_add,List.length_map,List.length_append,List.length_cons,List.append_assoc,List.cons_append,List.map_cons,List.map_nil] at ap1 ap2
      have e3:List.take (E1.length+1) (e.c::List.map Ev.c E1)=e.c::List.map Ev.c E1:=List.take_of_length_le (by simp)
      have hg2:¬g2=1:=by omega
      simp -implicitDefEqProofs [zres,A,Store.c,hg0,hg1,m1,m2,m3,w1,c1,hq,hne,hb,c2,ap1,ap2,e3,hg2,List.append_assoc,List.cons_append,List.nil_append]
      exact List.take_of_length_le (by simp)
   ·simp -implicitDefEqProofs [zres,A,Store.c,hg0,hg1,m1,m2,m3,w1,hne]
end Go.Proofs.YtndfdnlbljhlgaaGreat
end
