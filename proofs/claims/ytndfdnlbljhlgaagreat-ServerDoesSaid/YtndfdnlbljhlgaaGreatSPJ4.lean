/- Part of the proof: what the functions answer, part 4. No conditions. -/
import Derived.Test.YtndfdnlbljhlgaaGreatSPJ3
import Derived.Test.YtndfdnlbljhlgaaGreatTabA
import Derived.Test.YtndfdnlbljhlgaaGreatAMJ3
import Derived.KernelRfl
import Derived.Test.YtndfdnlbljhlgaaGreatSPJ1
import Derived.Test.YtndfdnlbljhlgaaGreatSPJ2
set_option linter.defProp false
set_option linter.unusedSimpArgs false
set_option linter.unusedVariables false
set_option maxHeartbeats 8000000
set_option maxRecDepth 20000
namespace Go.Proofs.YtndfdnlbljhlgaaGreat
open Go Go.AM Go.Proofs
theorem Zea {sz bytes g:Nat} (n:Nat) (xs ys:List (List GV)) (h1:xs.length+ys.length≤140737488355328) (h2:(xs.length+ys.length)*bytes≤140737488355328) (H:List Blk) :
  ∃g' W,g≤g'∧∀t m P,P.length=n→Yh H ⟨t,m,P++[.rows sz g xs]⟩ sz bytes (.ms (H.length+n) g sz 0 xs.length) ys=some (.ms (H.length+n) g' sz 0 (xs.length+ys.length),⟨t,m,P++[.rows sz g' (xs++ys)]⟩,W):=by
 by_cases hne:ys=[]
 ·subst hne
  exact ⟨g,[],Nat.le_refl _,fun t m P hP=>by subst hP;simp -implicitDefEqProofs [Yh]⟩
 ·exact ⟨g+1,[H.length+n],by omega,fun t m P hP=>by subst hP;exact Or hne h1 h2 H t m P⟩
theorem Zeb (s:Sl KV) (ms:Sl Mut) (rev:Int) (p1 p2 p3 p4 p5:Blk) (hl:s.l.length+ms.l.length≤200000) (H:List Blk) :
  ∃o,Ya (EvF tab) H Zdf [1,2,4,7,8,9,10,11] ⟨[(1,.g (Muts.g ms)),(2,.ptr H.length 0),(4,.ptr (H.length+3) 0),(7,.g (KVs.g s)),(8,I rev),(9,.ms (H.length+5) 1 8 0 0),(10,B false),(11,I 0)],[],[p1,p2,p3,p4,p5,.rows 8 1 []]⟩ =
   some (.exit 0,⟨[(1,.g (Muts.g ms)),(2,.ptr H.length 0),(4,.ptr (H.length+3) 0),(7,.g (KVs.g (ms.l.foldl (evF (Xr rev) rev) ([],s,false)).2.1)),(8,I rev),(9,.ms (H.length+5) ((ms.l.foldl (evF (Xr rev) rev) ([],s,false)).1.length+1) 8 0 (ms.l.foldl (evF (Xr rev) rev) ([],s,false)).1.length),(10,B (ms.l.foldl (evF (Xr rev) rev) ([],s,false)).2.2),(11,I ms.l.length),(28,B false)],[],
    p1::p2::p3::p4::p5 :: .rows 8 ((ms.l.foldl (evF (Xr rev) rev) ([],s,false)).1.length+1) ((ms.l.foldl (evF (Xr rev) rev) ([],s,false)).1.map Ev.c)::o⟩):=by
 have hw:=Zt (E:=EvF tab) (h:=H) (c:=Zdf) (lv:=[1,2,4,7,8,9,10,11]) (l:=ms.l) (β:=List Ev×Sl KV×Bool) (γ:=Unit) (fun k b=>b.1.length≤k∧b.2.1.l.length≤s.l.length+k) (fun k m b => .inl (evF (Xr rev) rev b m))
  (fun k b o=>⟨[(1,.g (Muts.g ms)),(2,.ptr H.length 0),(4,.ptr (H.length+3) 0),(7,.g (KVs.g b.2.1)),(8,I rev),(9,.ms (H.length+5) (b.1.length+1) 8 0 b.1.length),(10,B b.2.2),(11,I k)],[],p1::p2::p3::p4::p5 :: .rows 8 (b.1.length+1) (b.1.map Ev.c)::o⟩)
  (fun b o=>(.exit 0,⟨[(1,.g (Muts.g ms)),(2,.ptr H.length 0),(4,.ptr (H.length+3) 0),(7,.g (KVs.g b.2.1)),(8,I rev),(9,.ms (H.length+5) (b.1.length+1) 8 0 b.1.length),(10,B b.2.2),(11,I ms.l.length),(28,B false)],[],p1::p2::p3::p4::p5 :: .rows 8 (b.1.length+1) (b.1.map Ev.c)::o⟩))
  (fun _ o=>(.ret,⟨[],[],o⟩)) (by simp) (by simp) (fun k m b o hk hx hy hi => ?_) (fun b o _=>by delta Zdf;cases ms <;> simp -implicitDefEqProofs) ([],s,false) [] (by simp)
 ·obtain ⟨o',hw⟩:=hw
  rw [Uy] at hw
  exact ⟨o',hw⟩
 ·obtain ⟨hi1,hi2⟩:=hi
  have e2:=Zh hk (by omega)
  obtain ⟨r,t,f⟩:=b
  simp only at hi1 hi2 ⊢
  have h1:=fun H=>F6 t m.key (by omega) H
  obtain ⟨e,he⟩:∃e,Ti rev t.l m=e:=⟨_,rfl⟩
  have h3:=fun H=>Oz t (.of [e]) rev (by simp only [Sl.l_of,List.length_cons,List.length_nil];omega) H
  have h4:X0 t (Sl.of [e]).l rev=Xr rev t e:=rfl
  rw [h4] at h3
  have h5:=Qq rev t.l e
  rw [←Qp] at h5
  delta Zdf
  cases ms with
  | nil=>simp at hk
  | of l =>
   simp only [Sl.l_of] at hk hx hy hl ⊢
   have e3:List.take r.length (List.map Ev.c r)=List.map Ev.c r:=List.take_of_length_le (by simp)
   unfold evF
   simp only
   rw [he]
   unfold Ti at he
   obtain ⟨mg,mk,mv,ml⟩:=m
   simp only at h1 he ⊢
   have n1:r.length+1≤140737488355328:=by omega
   have n2:(r.length+1)*80≤140737488355328:=by omega
   cases mg
   ·simp only [Bool.false_eq_true,if_false,Bool.false_and] at he ⊢
    unfold Si at he
    simp only at he
    generalize W6 t.l mk=x at h1 he
    obtain ⟨x1,x2,x3,x4,x5,x6⟩:=x
    cases hb:Ua t.l mk
    ·rw [hb] at h1 he
     simp only [Bool.false_eq_true,if_false] at he
     subst he
     generalize Xr rev t ⟨rev,false,⟨mk,mv,rev,rev,1,ml⟩⟩=R at h3 h5 ⊢
     refine ⟨⟨by simp;omega,by omega⟩,o++[.cells [T x1,T x2,I x3,I x4,I x5,I x6],.cells [I rev,B false,T mk,T mv,I rev,I rev,I 1,I ml]],?_⟩
     simp only [A,Mut.c,KV.c,Ev.c,Evs.g,Sl.g_of,List.map_cons,List.map_nil] at h1 h3 ⊢
     cases f
     ·by_cases d:30<R.l.length
      ·simp -implicitDefEqProofs [hk,hy,Yf,List.append_assoc,List.cons_append,List.nil_append,Mut.c,Ev.c,Yc,h1,h3,Zx,Yh,room,Nat.not_succ_le_self,n1,n2,e3,e2,d,show (30:Int)<(R.l.length:Int) by omega]
      ·simp -implicitDefEqProofs [hk,hy,Yf,List.append_assoc,List.cons_append,List.nil_append,Mut.c,Ev.c,Yc,h1,h3,Zx,Yh,room,Nat.not_succ_le_self,n1,n2,e3,e2,d,show ¬(30:Int)<(R.l.length:Int) by omega]
     ·simp -implicitDefEqProofs [hk,hy,Yf,List.append_assoc,List.cons_append,List.nil_append,Mut.c,Ev.c,Yc,h1,h3,Zx,Yh,room,Nat.not_succ_le_self,n1,n2,e3,e2]
    ·rw [hb] at h1 he
     simp only [if_true] at he
     subst he
     obtain ⟨x7,h7⟩:∃n,IntKind.i64.wrap (x5+1)=n:=⟨_,rfl⟩
     rw [h7] at h3 h5 ⊢
     generalize Xr rev t ⟨rev,false,⟨mk,mv,x3,rev,x7,ml⟩⟩=R at h3 h5 ⊢
     refine ⟨⟨by simp;omega,by omega⟩,o++[.cells [T x1,T x2,I x3,I x4,I x5,I x6],.cells [I rev,B false,T mk,T mv,I x3,I rev,I x7,I ml]],?_⟩
     simp only [A,Mut.c,KV.c,Ev.c,Evs.g,Sl.g_of,List.map_cons,List.map_nil] at h1 h3 ⊢
     cases f
     ·by_cases d:30<R.l.length
      ·simp -implicitDefEqProofs [hk,hy,Yf,List.append_assoc,List.cons_append,List.nil_append,Mut.c,Ev.c,Yc,h1,h3,Zx,Yh,room,Nat.not_succ_le_self,n1,n2,e3,e2,h7,d,show (30:Int)<(R.l.length:Int) by omega]
      ·simp -implicitDefEqProofs [hk,hy,Yf,List.append_assoc,List.cons_append,List.nil_append,Mut.c,Ev.c,Yc,h1,h3,Zx,Yh,room,Nat.not_succ_le_self,n1,n2,e3,e2,h7,d,show ¬(30:Int)<(R.l.length:Int) by omega]
     ·simp -implicitDefEqProofs [hk,hy,Yf,List.append_assoc,List.cons_append,List.nil_append,Mut.c,Ev.c,Yc,h1,h3,Zx,Yh,room,Nat.not_succ_le_self,n1,n2,e3,e2,h7]
   ·simp only [if_true,Bool.true_and] at he ⊢
    subst he
    generalize W6 t.l mk=x at h1 h3 h5 ⊢
    generalize Xr rev t ⟨rev,true,x⟩=R at h3 h5 ⊢
    obtain ⟨x1,x2,x3,x4,x5,x6⟩:=x
    cases hb:Ua t.l mk
    ·rw [hb] at h1
     simp only [A,Mut.c,KV.c,Ev.c,Evs.g,Sl.g_of,List.map_cons,List.map_nil] at h1 h3 ⊢
     simp only [Bool.not_false,if_true]
     refine ⟨⟨by omega,by omega⟩,o++[.cells [T x1,T x2,I x3,I x4,I x5,I x6],.cells [I rev,B true,T x1,T x2,I x3,I x4,I x5,I x6]],?_⟩
     simp -implicitDefEqProofs [hk,hy,Yf,List.append_assoc,List.cons_append,List.nil_append,Mut.c,Ev.c,Yc,h1,e2]
    ·rw [hb] at h1
     simp only [Bool.not_true,Bool.false_eq_true,if_false]
     refine ⟨⟨by simp;omega,by omega⟩,o++[.cells [T x1,T x2,I x3,I x4,I x5,I x6],.cells [I rev,B true,T x1,T x2,I x3,I x4,I x5,I x6]],?_⟩
     simp only [A,Mut.c,KV.c,Ev.c,Evs.g,Sl.g_of,List.map_cons,List.map_nil] at h1 h3 ⊢
     cases f
     ·by_cases d:30<R.l.length
      ·simp -implicitDefEqProofs [hk,hy,Yf,List.append_assoc,List.cons_append,List.nil_append,Mut.c,Ev.c,Yc,h1,h3,Zx,Yh,room,Nat.not_succ_le_self,n1,n2,e3,e2,d,show (30:Int)<(R.l.length:Int) by omega]
      ·simp -implicitDefEqProofs [hk,hy,Yf,List.append_assoc,List.cons_append,List.nil_append,Mut.c,Ev.c,Yc,h1,h3,Zx,Yh,room,Nat.not_succ_le_self,n1,n2,e3,e2,d,show ¬(30:Int)<(R.l.length:Int) by omega]
     ·simp -implicitDefEqProofs [hk,hy,Yf,List.append_assoc,List.cons_append,List.nil_append,Mut.c,Ev.c,Yc,h1,h3,Zx,Yh,room,Nat.not_succ_le_self,n1,n2,e3,e2]
theorem Zn3 (s:Ze) (ms:List Mut) (h:s.rev≤1099511627774):Y9 s ms=if H6 ms=true then (if (Yt s ms).1=[] then 0 else if (Yt s ms).2.2=true∨1099511627774≤s.rev∨60<s.log.l.length+(Yt s ms).1.length then 4 else 0) else 1:=by
 unfold Y9
 have e:s.rev=1099511627774↔1099511627774≤s.rev:=⟨fun h=>by omega,fun h'=>by omega⟩
 simp only [e]
theorem Cz (s:Ze) (ms:Sl Mut) (hs:Z8 s) (hr : -1≤s.rev∧s.rev≤1099511627774) (hk:∀m∈ms.l,m.key.length≤9223372036854775807) (hm:ms.l.length≤10000) (H:List Blk) :
  EvF tab 70 [A s.c,.g (Muts.g ms)] H=some ⟨.tup [A (Xj s ms.l).c,.g (Evs.g (Tj s ms.l)),I (Y9 s ms.l)],[],[]⟩:=by
 have hs':=hs
 unfold Z8 at hs'
 have m1:=fun H=>Zsz ms hk (by omega) H
 have m2:=fun H=>Kh s hs H
 have hnl:=Vp s.rev s.log.l s.base.l
 have hR:=U9 s.rev s.log.l s.base
 have m3:=fun p1 p2 p3 p4 p5 H=>Zeb (X0 s.base s.log.l s.rev) ms (s.rev+1) p1 p2 p3 p4 p5 (by rw [hR];omega) H
 have hP:=Zs0 (Xr (s.rev+1)) (s.rev+1) (fun b e=>Qp _ b e) ms.l ([],X0 s.base s.log.l s.rev,false)
 simp only [hR] at hP
 have hel:=Zap (s.rev+1) ms.l ([],Wy s.base.l s.log.l s.rev,false)
 rw [show ms.l.foldl (evP (s.rev+1)) ([],Wy s.base.l s.log.l s.rev,false)=Yt s ms.l from rfl] at hP hel
 have hP1:(ms.l.foldl (evF (Xr (s.rev+1)) (s.rev+1)) ([],X0 s.base s.log.l s.rev,false)).1=(Yt s ms.l).1:=by rw [←hP]
 have hP2:(ms.l.foldl (evF (Xr (s.rev+1)) (s.rev+1)) ([],X0 s.base s.log.l s.rev,false)).2.2=(Yt s ms.l).2.2:=by rw [←hP]
 rw [hP1,hP2] at m3
 refine Zb t70 (by simp) ?_
 unfold Xj Tj Uq
 rw [Zn3 s ms.l hr.2]
 generalize (ms.l.foldl (evF (Xr (s.rev+1)) (s.rev+1)) ([],X0 s.base s.log.l s.rev,false)).2.1=N2 at m3
 generalize X0 s.base s.log.l s.rev=N at m2 m3
 generalize (Yt s ms.l).1=E1 at m3 hel ⊢
 generalize (Yt s ms.l).2.2=full at m3 ⊢
 generalize H6 ms.l=b0 at m1 ⊢
 simp only [List.length_nil,Nat.zero_add] at hel
 have w1:IntKind.i64.wrap (s.rev+1)=s.rev+1:=wrap_i64 (by omega) (by omega)
 obtain ⟨srev,Y5,Zy,Z3⟩:=s
 simp only at hr hs' hnl m2 m3 w1 ⊢
 generalize hg0:Muts.g ms=G0 at m1 m3
 generalize hg1:KVs.g Zy=G1 at m2
 simp only [A,Ze.c,hg1,List.map_cons,List.map_nil] at m2
 cases b0
 ·simp -implicitDefEqProofs [Yc,A,Ze.c,hg0,hg1,m1]
 ·obtain ⟨o,m3⟩:=m3 (.cells (Ze.c ⟨srev,Y5,Zy,Z3⟩ |>.map .g)) (.rows 6 1 []) (.rows 8 1 []) (.cells [I 0,I 0,.ms (H.length+1) 1 6 0 0,.ms (H.length+2) 1 8 0 0]) (.rows 8 1 []) H
  simp only [Ze.c,hg1,List.map_cons,List.map_nil] at m3
  cases E1 with
  | nil =>
   simp only [if_true,List.length_nil] at m3
   simp -implicitDefEqProofs [Yc,A,Ze.c,hg0,hg1,m1,m2,m3,w1]
  | cons e E1 =>
   simp only [reduceCtorEq,if_false,List.length_cons] at m3 hel
   have hne:¬(E1.length:Int)+1=0:=by omega
   cases full
   ·by_cases c1:1099511627774≤srev
    ·simp -implicitDefEqProofs [Yc,A,Ze.c,hg0,hg1,m1,m2,m3,w1,hne,c1]
    ·have hq:IntKind.i64.wrap ((Z3.l.length:Int)+((E1.length:Int)+1))=(Z3.l.length:Int)+((E1.length:Int)+1):=wrap_i64 (by omega) (by omega)
     by_cases c2:60<Z3.l.length+(E1.length+1)
     ·simp -implicitDefEqProofs [Yc,A,Ze.c,hg0,hg1,m1,m2,m3,w1,c1,hq,hne,c2,show (60:Int)<(Z3.l.length:Int)+((E1.length:Int)+1) by omega]
     ·have hb:¬(60:Int)<(Z3.l.length:Int)+((E1.length:Int)+1):=by omega
      obtain ⟨g1,W1,k1,ap1⟩:=Zea (sz:=8) (bytes:=80) (g:=2) (o.length+9) [] (Z3.l.map Ev.c) (by simp;omega) (by simp;omega) H
      obtain ⟨g2,W2,k2,ap2⟩:=Zea (sz:=8) (bytes:=80) (g:=g1) (o.length+9) (Z3.l.map Ev.c) ((e::E1).map Ev.c) (by simp;omega) (by simp;omega) H
      have ap1:=fun t m (c:List AV)=>ap1 t m ([.cells [I srev,I Y5,.g G1,.g (Evs.g Z3)],.rows 6 1 [],.rows 8 1 [],.cells [I 0,I 0,.ms (H.length+1) 1 6 0 0,.ms (H.length+2) 1 8 0 0],.rows 8 1 [],.rows 8 (E1.length+1+1) ((e::E1).map Ev.c)]++o++[.rows 6 1 [],.rows 8 1 [],.cells c]) (by simp)
      have ap2:=fun t m (c:List AV)=>ap2 t m ([.cells [I srev,I Y5,.g G1,.g (Evs.g Z3)],.rows 6 1 [],.rows 8 1 [],.cells [I 0,I 0,.ms (H.length+1) 1 6 0 0,.ms (H.length+2) 1 8 0 0],.rows 8 1 [],.rows 8 (E1.length+1+1) ((e::E1).map Ev.c)]++o++[.rows 6 1 [],.rows 8 1 [],.cells c]) (by simp)
      simp only [List.length_nil,List.nil_append,Nat.zero_add,List.length_map,List.length_append,List.length_cons,List.append_assoc,List.cons_append,List.map_cons,List.map_nil] at ap1 ap2
      have e3:List.take (E1.length+1) (e.c::List.map Ev.c E1)=e.c::List.map Ev.c E1:=List.take_of_length_le (by simp)
      have hg2:¬g2=1:=by omega
      simp -implicitDefEqProofs [Yc,A,Ze.c,hg0,hg1,m1,m2,m3,w1,c1,hq,hne,hb,c2,ap1,ap2,e3,hg2,List.append_assoc,List.cons_append,List.nil_append]
      exact List.take_of_length_le (by simp)
   ·simp -implicitDefEqProofs [Yc,A,Ze.c,hg0,hg1,m1,m2,m3,w1,hne]
theorem Zhp (H:List Blk):EvF tab 135 [.g .nsl] H=some ⟨.ms (H.length+1) 1 8 0 0,[],[.rows 8 1 [],.rows 8 1 []]⟩:=by
 refine Zb Z21 (by simp) ?_
 simp -implicitDefEqProofs
theorem Zn4 (l:List Ev) (hl:l.length≤1000000) (H:List Blk):∃g,g ≠ 1∧EvF tab 135 [.g (.sl 8 (l.map Ev.c))] H=some ⟨.ms (H.length+1) g 8 0 l.length,[],[.rows 8 1 [],.rows 8 g (l.map Ev.c)]⟩:=by
 by_cases h:l=[]
 ·subst h
  refine ⟨2,by decide,?_⟩
  refine Zb Z21 (by simp) ?_
  simp -implicitDefEqProofs [Yh]
 ·refine ⟨3,by decide,?_⟩
  refine Zb Z21 (by simp) ?_
  cases l with
  | nil=>exact absurd rfl h
  | cons x l =>
   simp only [List.length_cons] at hl
   simp -implicitDefEqProofs [Yh,room,show l.length+1≤140737488355328 by omega,show (l.length+1)*80≤140737488355328 by omega]
theorem Zzv (e:Ev) (to:Int) {H:List Blk} {p:Nat} (hp:H[p]? = some (.cells [I to])):EvF tab 136 [A e.c,.ptr p 0] H=some ⟨B (decide (e.rev≤to)),[],[]⟩:=by
 have hlt:p<H.length:=(List.getElem?_eq_some_iff.1 hp).1
 have hg:H[p] = .cells [I to]:=(List.getElem?_eq_some_iff.1 hp).2
 refine Zb Ya1 (by simp) ?_
 simp -implicitDefEqProofs [Ev.c,A,Zp hlt,orB,hg,hp]
theorem Zzw (l:List Ev) (p:Ev→Bool) (fv:AV) (hl:l.length≤1000000) {H:List Blk} {id g:Nat} (hid:H[id]? = some (.rows 8 g (l.map Ev.c)))
  (hcall:∀x∈l,∀t,X7 (EvF tab) H [] ⟨t,[],[]⟩ fv [A x.c]=some (.g (.bool (p x)),⟨t,[],[]⟩,[])) :
  EvF tab 175 [.ms id g 8 0 l.length,fv] H=some ⟨I (Xh p 0 l),[],[]⟩:=by
 have hlt:id<H.length:=(List.getElem?_eq_some_iff.1 hid).1
 have hw:=Oo (E:=EvF tab) (h:=H) (c:=A8) (lv:=[0,1,7,8]) (l:=l) (fun _ (_:Unit)=>True) (fun k x _=>if p x=true then .inr (.ret,⟨[(4,I k)],[],[]⟩) else .inl ())
  (fun k _=>⟨[(0,.ms id g 8 0 l.length),(1,fv),(7,I l.length),(8,I k)],[],[]⟩) (fun _=>(.exit 0,⟨[(0,.ms id g 8 0 l.length),(1,fv),(7,I l.length),(8,I l.length),(9,B false)],[],[]⟩)) (by simp)
  (fun k x _ hk hx hx' _ => ?_) (fun _ _=>by delta A8;simp -implicitDefEqProofs) l.length 0 () rfl (Nat.zero_le _) trivial
 ·have key:∀(l:List Ev) (k:Nat) (fin:Ex×St),N7 (fun _=>fin) (P4 (β:=Unit) (fun k x _=>if p x=true then .inr (.ret,⟨[(4,I k)],[],[]⟩) else .inl ()) k l ())=if l.any p=true then (.ret,⟨[(4,I (Xh p k l))],[],[]⟩) else fin:=by
   intro l
   induction l with
   | nil=>intro k fin;simp [P4,N7]
   | cons x l ih =>
    intro k fin
    simp only [P4,List.any_cons,Xh]
    by_cases hp:p x=true
    ·simp [hp,N7]
    ·simp only [hp,Bool.false_eq_true,if_false]
     rw [ih];simp
  rw [List.drop_zero,key] at hw
  refine Zb Z22 (by simp) ?_
  have e0:((0:Nat):Int)=0:=rfl
  rw [e0] at hw
  by_cases ha:l.any p=true
  ·rw [if_pos ha] at hw
   simp -implicitDefEqProofs [Zp hlt,orB,hid,hw]
  ·rw [if_neg ha] at hw
   have hn:Xh p 0 l = -1:=by
    have:=mt (Se p l 0).1 ha
    clear hw key hid hcall
    have aux:∀(l:List Ev) k,¬l.any p=true→Xh p k l = -1:=by
     intro l
     induction l with
     | nil=>intro k _;rfl
     | cons x l ih=>intro k h;simp only [List.any_cons,Bool.or_eq_true,not_or] at h;unfold Xh;rw [if_neg h.1];exact ih _ h.2
    exact aux l 0 ha
   simp -implicitDefEqProofs [Zp hlt,orB,hid,hw,hn]
 ·have hc:=hcall x (List.mem_of_getElem? hx)
  have e2:=Zh hk (by omega)
  delta A8
  generalize hp:p x=b at hc
  obtain ⟨er,eg,ek⟩:=x
  simp only [A,Ev.c,List.map_cons,List.map_nil] at hc
  cases b
  ·simp -implicitDefEqProofs [Zp hlt,orB,hid,hk,hx',Ev.c,hc,hp,e2]
  ·simp -implicitDefEqProofs [Zp hlt,orB,hid,hk,hx',Ev.c,hc,hp,e2]
def stay (p:Ev→Bool) (b:List Ev×Bool) (x:Ev):List Ev×Bool:=if p x=true then b else (b.1++[x],true)
theorem Zec (p:Ev→Bool):∀(l:List Ev) (b:List Ev×Bool),(l.foldl (stay p) b).1=b.1++l.filter (fun x => !p x)
 | [],b=>by simp
 | x::l,b=>by
  rw [List.foldl_cons,Zec p l]
  unfold stay
  by_cases h:p x=true
  ·simp [h]
  ·simp [Bool.eq_false_iff.2 h]
def Kk (id g:Nat) (l:List Ev) (b:List Ev×Bool):List (Nat×Blk):=if b.2=true then [(id,.rows 8 g ((b.1++l.drop b.1.length).map Ev.c))] else []
theorem Zs2 (l l1 l2:List Ev) (x0:Ev) (hll:l=l1++x0::l2) (p:Ev→Bool) (fv:AV) (hl:l.length≤1000000) {H:List Blk} {id g:Nat} (hid:H[id]? = some (.rows 8 g (l.map Ev.c)))
  (hcall:∀x∈l,∀t o m,(m=[]∨∃els,m=[(id,.rows 8 g els)])→X7 (EvF tab) H [] ⟨t,m,o⟩ fv [A x.c]=some (.g (.bool (p x)),⟨t,m,o⟩,[])) :
  ∃o,Ya (EvF tab) H Fx [0,1,5,6] ⟨[(0,.ms id g 8 0 l.length),(1,fv),(5,I l1.length),(6,I (l1.length+1:Nat))],[],[.rows 8 1 []]⟩ =
   some (.exit 0,⟨[(0,.ms id g 8 0 l.length),(1,fv),(5,I ((l2.foldl (stay p) (l1,false)).1.length)),(6,I l.length),(19,B false)],Kk id g l (l2.foldl (stay p) (l1,false)),.rows 8 1 []::o⟩):=by
 have hlt:id<H.length:=(List.getElem?_eq_some_iff.1 hid).1
 have hlen:l.length=l1.length+1+l2.length:=by rw [hll];simp;omega
 have hw:=Zt (E:=EvF tab) (h:=H) (c:=Fx) (lv:=[0,1,5,6]) (l:=l2) (β:=List Ev×Bool) (γ:=Unit) (fun k b=>b.1.length≤l1.length+k∧(b.2=false→b.1=l1)) (fun k x b => .inl (stay p b x))
  (fun k b o=>⟨[(0,.ms id g 8 0 l.length),(1,fv),(5,I b.1.length),(6,I (l1.length+1+k:Nat))],Kk id g l b,.rows 8 1 []::o⟩)
  (fun b o=>(.exit 0,⟨[(0,.ms id g 8 0 l.length),(1,fv),(5,I b.1.length),(6,I l.length),(19,B false)],Kk id g l b,.rows 8 1 []::o⟩))
  (fun _ o=>(.ret,⟨[],[],o⟩)) (by simp) (by simp) (fun k x b o hk hx hy hi => ?_) (fun b o hi => ?_) (l1,false) [] (by simp)
 ·obtain ⟨o',hw⟩:=hw
  rw [Uy] at hw
  exact ⟨o',hw⟩
 ·have e2:IntKind.i64.wrap (((l1.length+1+k:Nat):Int)+1)=((l1.length+1+(k+1):Nat):Int):=by rw [wrap_i64 (by omega) (by omega)];omega
  have hpos:l1.length+1+k<l.length:=by omega
  have hposI:((l1.length+1+k:Nat):Int)<(l.length:Int):=by omega
  have hgx:l[l1.length+1+k]? = some x:=by rw [hll,List.getElem?_append_right (by omega),show l1.length+1+k - l1.length=k+1 by omega,List.getElem?_cons_succ];exact hx
  have hgx2:l[l1.length+1+k]=x:=(List.getElem?_eq_some_iff.1 hgx).2
  have hc:=hcall x (List.mem_of_getElem? hgx)
  generalize hpp:p x=q at hc
  obtain ⟨r,w⟩:=b
  obtain ⟨hi1,hi2⟩:=hi
  simp only at hi1 hi2 ⊢
  have e5:IntKind.i64.wrap ((r.length:Int)+1)=((r.length:Int)+1):=wrap_i64 (by omega) (by omega)
  have hrl:r.length<l.length:=by omega
  obtain ⟨er,eg,ek⟩:=x
  simp only [A,Ev.c,List.map_cons,List.map_nil] at hc
  generalize hn:l1.length+1+k=n at e2 hpos hposI hgx hgx2 ⊢
  delta Fx
  cases q
  ·have hs:stay p (r,w) ⟨er,eg,ek⟩=(r++[⟨er,eg,ek⟩],true):=by unfold stay;rw [hpp];rfl
   refine ⟨⟨by rw [hs];simp;omega,by rw [hs];simp⟩,o++[.cells (Ev.c ⟨er,eg,ek⟩ |>.map .g)],?_⟩
   rw [hs]
   cases w
   ·have hc2:=fun t o=>hc t o [] (.inl rfl)
    unfold Kk
    simp only [Bool.false_eq_true,if_false,if_true] at hc2 ⊢
    simp -implicitDefEqProofs [Zp hlt,Z2 hlt,orB,hid,hpos,hposI,hgx2,Ev.c,hc2,e2,e5,hrl]
    have hr1:=hi2 rfl
    subst hr1
    rw [List.set_eq_take_append_cons_drop,if_pos (by simp;omega)]
    rw [←List.map_take,←List.map_drop,hll,List.take_left]
   ·obtain ⟨els,hels⟩:∃els,(r++l.drop r.length).map Ev.c=els:=⟨_,rfl⟩
    have hel:els.length=l.length:=by rw [←hels];simp;omega
    have hge:els[n]? = some (Ev.c ⟨er,eg,ek⟩):=by
     rw [←hels,List.getElem?_map,List.getElem?_append_right (by omega),List.getElem?_drop,show r.length+(n - r.length)=n by omega,hgx];rfl
    have hset:els.set r.length (Ev.c ⟨er,eg,ek⟩)=((r++[(⟨er,eg,ek⟩:Ev)])++l.drop (r.length+1)).map Ev.c:=by
     rw [←hels,List.map_append,List.set_append_right _ _ (by simp),List.length_map,Nat.sub_self,List.drop_eq_getElem_cons hrl]
     simp only [List.map_cons,List.set_cons_zero,List.map_append,List.map_nil,List.append_assoc,List.cons_append,List.nil_append]
    have hc2:=fun t o=>hc t o _ (.inr ⟨els,rfl⟩)
    unfold Kk
    simp only [if_true,List.length_append,List.length_cons,List.length_nil,Nat.zero_add] at hc2 ⊢
    rw [hels,←hset]
    have hpos':n<els.length:=by omega
    have hge2:els[n]=Ev.c ⟨er,eg,ek⟩:=(List.getElem?_eq_some_iff.1 hge).2
    simp only [Ev.c] at hge hge2
    have h8:∀hh:r.length<els.length,els[r.length].length=8:=by intro hh;subst hels;simp [Ev.c,KV.c]
    simp -implicitDefEqProofs [Zp hlt,Z2 hlt,orB,hid,hpos,hpos',hposI,hel,hge,hge2,Ev.c,hc2,e2,e5,hrl]
    have h8:=h8 (by omega)
    exact ⟨by omega,by rw [List.drop_eq_nil_of_le (by omega)]⟩
  ·have hs:stay p (r,w) ⟨er,eg,ek⟩=(r,w):=by unfold stay;rw [hpp];rfl
   refine ⟨⟨by rw [hs];simp;omega,by rw [hs];exact hi2⟩,o++[.cells (Ev.c ⟨er,eg,ek⟩ |>.map .g)],?_⟩
   rw [hs]
   cases w
   ·have hc2:=fun t o=>hc t o [] (.inl rfl)
    unfold Kk
    simp only [Bool.false_eq_true,if_false,if_true] at hc2 ⊢
    simp -implicitDefEqProofs [Zp hlt,Z2 hlt,orB,hid,hpos,hposI,hgx2,Ev.c,hc2,e2,e5,hrl]
   ·obtain ⟨els,hels⟩:∃els,(r++l.drop r.length).map Ev.c=els:=⟨_,rfl⟩
    have hel:els.length=l.length:=by rw [←hels];simp;omega
    have hge:els[n]? = some (Ev.c ⟨er,eg,ek⟩):=by
     rw [←hels,List.getElem?_map,List.getElem?_append_right (by omega),List.getElem?_drop,show r.length+(n - r.length)=n by omega,hgx];rfl
    have hc2:=fun t o=>hc t o _ (.inr ⟨els,rfl⟩)
    unfold Kk
    simp only [if_true,List.length_append,List.length_cons,List.length_nil,Nat.zero_add] at hc2 ⊢
    rw [hels]
    have hpos':n<els.length:=by omega
    have hge2:els[n]=Ev.c ⟨er,eg,ek⟩:=(List.getElem?_eq_some_iff.1 hge).2
    simp only [Ev.c] at hge hge2
    simp -implicitDefEqProofs [Zp hlt,Z2 hlt,orB,hid,hpos,hpos',hposI,hel,hge,hge2,Ev.c,hc2,e2,e5,hrl]
 ·obtain ⟨r,w⟩:=b
  have e1:l1.length+1+l2.length=l.length:=hlen.symm
  rw [e1]
  delta Fx
  unfold Kk
  cases w
  ·simp only [Bool.false_eq_true,if_false]
   simp -implicitDefEqProofs [Zp hlt,orB,hid]
  ·simp only [if_true]
   simp -implicitDefEqProofs [Zp hlt,orB,hid]
theorem Et (p:Ev→Bool):∀(l:List Ev) k,Xh p k l = -1→l.filter (fun x => !p x)=l
 | [],k,_=>rfl
 | x::l,k,h=>by
  unfold Xh at h
  by_cases hp:p x=true
  ·rw [if_pos hp] at h;omega
  ·rw [if_neg hp] at h
   simp only [List.filter_cons,Bool.eq_false_iff.2 hp,Bool.not_false,if_true,Et p l _ h]
theorem Eu (p:Ev→Bool):∀(l:List Ev) k,Xh p k l = -1∨∃l1 x l2,l=l1++x::l2∧Xh p k l=((k+l1.length:Nat):Int)∧p x=true∧l1.filter (fun x => !p x)=l1
 | [],k => .inl rfl
 | x::l,k=>by
  unfold Xh
  by_cases hp:p x=true
  ·exact .inr ⟨[],x,l,rfl,by rw [if_pos hp];simp,hp,rfl⟩
  ·rw [if_neg hp]
   rcases Eu p l (k+1) with h | ⟨l1,y,l2,h1,h2,h3,h4⟩
   ·exact .inl h
   ·exact .inr ⟨x::l1,y,l2,by rw [h1];rfl,by rw [h2];simp;omega,h3,by simp only [List.filter_cons,Bool.eq_false_iff.2 hp,Bool.not_false,if_true,h4]⟩
theorem Zs3 (p:Ev→Bool):∀(l:List Ev) (b:List Ev×Bool),(l.foldl (stay p) b).2=false→(l.foldl (stay p) b).1=b.1
 | [],b,_=>rfl
 | x::l,b,h=>by
  rw [List.foldl_cons] at h ⊢
  rw [Zs3 p l _ h]
  have h2:(stay p b x).2=false:=by
   have aux:∀(l:List Ev) (b:List Ev×Bool),b.2=true→(l.foldl (stay p) b).2=true:=by
    intro l
    induction l with
    | nil=>intro b h;exact h
    | cons x l ih=>intro b h;rw [List.foldl_cons];refine ih _ ?_;unfold stay;split;exact h;rfl
   cases hb:(stay p b x).2
   ·rfl
   ·rw [aux l _ hb] at h;cases h
  unfold stay at h2 ⊢
  split
  ·rfl
  ·rename_i hh;rw [if_neg hh] at h2;cases h2
theorem Zs4 (l:List Ev) (p:Ev→Bool) (fv:AV) (hl:l.length≤1000000) {H:List Blk} {id g:Nat} (hid:H[id]? = some (.rows 8 g (l.map Ev.c)))
  (hcall:∀x∈l,∀o' t o m,(m=[]∨∃els,m=[(id,.rows 8 g els)])→X7 (EvF tab) (H++o') [] ⟨t,m,o⟩ fv [A x.c]=some (.g (.bool (p x)),⟨t,m,o⟩,[])) :
  ∃m,(m=[]∧(l.filter fun x => !p x)=l∨∃z,m=[(id,.rows 8 g ((l.filter fun x => !p x).map Ev.c++z))]) ∧
   EvF tab 134 [.ms id g 8 0 l.length,fv] H=some ⟨.ms id g 8 0 (l.filter fun x => !p x).length,m,[]⟩:=by
 have hlt:id<H.length:=(List.getElem?_eq_some_iff.1 hid).1
 have h1:=fun o=>Zzw (H:=H++o) l p fv hl (by rw [List.getElem?_append_left hlt];exact hid) (fun x hx t=>hcall x hx o t [] [] (.inl rfl))
 rcases Eu p l 0 with hn | ⟨l1,x,l2,e1,e2,e3,e4⟩
 ·refine ⟨[],.inl ⟨rfl,Et p l 0 hn⟩,?_⟩
  rw [Et p l 0 hn]
  refine Zb Z50 (by simp) ?_
  rw [hn] at h1
  simp -implicitDefEqProofs [h1,hlt]
 ·obtain ⟨o,hw⟩:=Zs2 l l1 l2 x e1 p fv hl hid (fun x hx t o m hm=>by have:=hcall x hx [] t o m hm;rw [List.append_nil] at this;exact this)
  have hf:=Zec p l2 (l1,false)
  have hfl:(l.filter fun x => !p x)=(l2.foldl (stay p) (l1,false)).1:=by
   rw [hf,e1,List.filter_append,List.filter_cons,e4,e3];rfl
  have hlen:l.length=l1.length+1+l2.length:=by rw [e1];simp;omega
  have hle:(l2.foldl (stay p) (l1,false)).1.length≤l.length:=by rw [←hfl];exact List.length_filter_le _ _
  rw [←hfl] at hw hle
  generalize hw0:l2.foldl (stay p) (l1,false)=b at hw hfl
  obtain ⟨r,w⟩:=b
  simp only at hfl
  rw [hfl] at hw hle ⊢
  rw [Nat.zero_add] at e2
  rw [e2] at h1
  have n1:IntKind.i64.wrap ((l1.length:Int)+1)=(l1.length:Int)+1:=wrap_i64 (by omega) (by omega)
  rw [show ((l1.length+1:Nat):Int)=(l1.length:Int)+1 by omega] at hw
  have n2:¬(l1.length:Int) = -1:=by omega
  refine ⟨[(id,.rows 8 g (r.map Ev.c++List.replicate (l.length - r.length) [.int .i64 0,.bool false,.str [],.str [],.int .i64 0,.int .i64 0,.int .i64 0,.int .i64 0]))],.inr ⟨_,rfl⟩,?_⟩
  refine Zb Z50 (by simp) ?_
  unfold Kk at hw
  have hrI:(r.length:Int)≤(l.length:Int):=by omega
  cases w
  ·have hr:r=l1:=by
    have:=Zs3 p l2 (l1,false) (by rw [hw0])
    rw [hw0] at this;exact this
   subst hr
   have hidg:H[id] = .rows 8 g (l.map Ev.c):=(List.getElem?_eq_some_iff.1 hid).2
   have e9:List.take r.length (l.map Ev.c)=r.map Ev.c:=by rw [←List.map_take,e1,List.take_left]
   simp -implicitDefEqProofs [h1,hlt,n1,n2,hw,Zp hlt,Z2 hlt,orB,hid,hidg,Xd,bnd,Y2,hle,hrI,e9]
  ·simp -implicitDefEqProofs [h1,hlt,n1,n2,hw,Zp hlt,Z2 hlt,orB,hid,Xd,bnd,Y2,hle,hrI]
theorem C0 (to:Int) {HH:List Blk} {p id g:Nat} (hp:HH[p]? = some (.cells [I to])) (hne:id ≠ p) (x:Ev) (o':List Blk) (t:List (Nat×AV)) (o:List Blk) (m:List (Nat×Blk)) (hm:m=[]∨∃els,m=[(id,.rows 8 g els)]) :
  X7 (EvF tab) (HH++o') [] ⟨t,m,o⟩ (.fv 136 [.ptr p 0]) [A x.c]=some (B (decide (x.rev≤to)),⟨t,m,o⟩,[]):=by
 have hlt:p<HH.length:=(List.getElem?_eq_some_iff.1 hp).1
 have hf:(full (HH++o') ⟨t,m,o⟩)[p]? = some (.cells [I to]):=by
  rw [Z9,Zp (by rw [List.length_append];omega),List.getElem?_append_left hlt,hp]
  rcases hm with h | ⟨els,h⟩ <;> subst h
  ·rfl
  ·simp [hne,orB]
 have h1:=Zzv x to hf
 unfold X7
 simp only [List.all_nil,if_true,Yi,List.cons_append,List.nil_append]
 rw [h1,Zv5,Zg4]
 simp
def Pk (s:Ze) (to:Int):Int:=if to<0∨s.rev<to then 8 else if to<s.low then 9 else 0
def Vu (to:Int) (l:List Ev):List Ev:=l.filter fun x => !decide (x.rev≤to)
def P0 (to:Int):Sl Ev→Sl Ev
 | .nil => .nil
 | .of l => .of (Vu to l)
def Qf (s:Ze) (to:Int):Ze:=if Pk s to=0 then ⟨s.rev,to,Wr s.base s.log.l to,P0 to s.log⟩ else s
theorem C2 (s:Ze) (to:Int) (hs:Z8 s) (H:List Blk) :
  EvF tab 65 [A s.c,I to] H=some ⟨.tup [A (Qf s to).c,I (Pk s to)],[],[]⟩:=by
 have hs':=hs
 unfold Z8 at hs'
 have m1:=fun H=>Kg s.base s.log to (by omega) H
 refine Zb t65 (by simp) ?_
 unfold Qf Pk
 obtain ⟨srev,Y5,Zy,Z3⟩:=s
 simp only at hs' m1 ⊢
 generalize hF:Wr Zy Z3.l to=F at m1 ⊢
 generalize hg1:KVs.g Zy=G1 at m1
 generalize hg2:KVs.g F=G2 at m1
 by_cases c1:to<0
 ·simp -implicitDefEqProofs [A,Ze.c,hg1,c1]
 ·by_cases c2:srev<to
  ·simp -implicitDefEqProofs [A,Ze.c,hg1,c1,c2]
  ·by_cases c3:to<Y5
   ·simp -implicitDefEqProofs [A,Ze.c,hg1,c1,c2,c3]
   ·cases Z3 with
    | nil =>
     simp only [Evs.g,Sl.g_nil] at m1 ⊢
     have m3:=fun H=>Zhp H
     obtain ⟨m,hm,m4⟩:=Zs4 [] (fun e=>decide (e.rev≤to)) (.fv 136 [.ptr (H.length+1) 0]) (by simp) (H:=H++[.cells [I srev,I to,.g G2,.g .nsl],.cells [I to],.rows 6 1 [],.rows 8 1 [],.cells [I 0,I 0,.ms (H.length+2) 1 6 0 0,.ms (H.length+3) 1 8 0 0],.rows 8 1 [],.rows 8 1 []]) (id:=H.length+6) (g:=1) (by simp) (fun x _ o' t o m hm=>C0 to (g:=1) (by simp) (by omega) x o' t o m hm)
     simp only [List.filter_nil,List.length_nil,List.map_nil,List.nil_append] at hm m4
     rcases hm with ⟨hm,-⟩ | ⟨z,hm⟩ <;> subst hm <;> simp -implicitDefEqProofs [A,Ze.c,hg1,hg2,c1,c2,c3,m1,m3,m4,P0]
    | of l =>
     simp only [Evs.g,Sl.g_of,Sl.l_of] at m1 hs' hF ⊢
     obtain ⟨g,hg,m3⟩:=Zn4 l (by omega) (H++[.cells [I srev,I to,.g G2,.g (.sl 8 (l.map Ev.c))],.cells [I to],.rows 6 1 [],.rows 8 1 [],.cells [I 0,I 0,.ms (H.length+2) 1 6 0 0,.ms (H.length+3) 1 8 0 0]])
     obtain ⟨m,hm,m4⟩:=Zs4 l (fun e=>decide (e.rev≤to)) (.fv 136 [.ptr (H.length+1) 0]) (by omega) (H:=H++[.cells [I srev,I to,.g G2,.g (.sl 8 (l.map Ev.c))],.cells [I to],.rows 6 1 [],.rows 8 1 [],.cells [I 0,I 0,.ms (H.length+2) 1 6 0 0,.ms (H.length+3) 1 8 0 0],.rows 8 1 [],.rows 8 g (l.map Ev.c)]) (id:=H.length+6) (g:=g) (by simp) (fun x _ o' t o m hm=>C0 to (g:=g) (by simp) (by omega) x o' t o m hm)
     rw [show (l.filter fun e => !decide (e.rev≤to))=Vu to l from rfl] at hm m4
     have e5:List.take (Vu to l).length (List.map Ev.c (Vu to l))=List.map Ev.c (Vu to l):=List.take_of_length_le (by simp)
     rcases hm with ⟨hm,hk⟩ | ⟨z,hm⟩ <;> subst hm
     ·rw [hk] at m4
      simp -implicitDefEqProofs [A,Ze.c,hg1,hg2,c1,c2,c3,m1,m3,m4,P0,hg,hk,List.append_assoc,List.cons_append,List.nil_append]
      exact List.take_of_length_le (by simp)
     ·simp -implicitDefEqProofs [A,Ze.c,hg1,hg2,c1,c2,c3,m1,m3,m4,P0,hg,e5,List.append_assoc,List.cons_append,List.nil_append]
def C3 (H:List Blk) (r:List Ev):AV:=if r=[] then .g .nsl else .ms (H.length+5) (r.length+1) 8 0 r.length
def Zn5 (r:List Ev):List Blk:=if r=[] then [] else [.rows 8 (r.length+1) (r.map Ev.c)]
def Zkx (to:Int) (r:List Ev) (x:Ev):List Ev:=if x.rev≤to then r else r++[x]
theorem C4 (to:Int):∀(l r:List Ev),l.foldl (Zkx to) r=r++Vu to l
 | [],r=>by simp [Vu]
 | x::l,r=>by
  rw [List.foldl_cons,C4 to l]
  unfold Zkx Vu
  by_cases h:x.rev≤to <;> simp [h]
theorem Zn6 (srev Y5 to:Int) (G1 G2:GV) (log:Sl Ev) (c3:Blk) (hl:log.l.length≤1000000) (H:List Blk) :
  Ya (EvF tab) H Zde [1,2,4,6,7] ⟨[(1,I to),(2,.ptr H.length 0),(4,.ptr (H.length+3) 0),(6,.ptr (H.length+4) 0),(7,I 0)],[],[.cells [I srev,I Y5,.g G1,.g (Evs.g log)],.rows 6 1 [],.rows 8 1 [],c3,.cells [I srev,I to,.g G2,.g .nsl]]⟩ =
   some (.exit 0,⟨[(1,I to),(2,.ptr H.length 0),(4,.ptr (H.length+3) 0),(6,.ptr (H.length+4) 0),(7,I log.l.length),(36,B false)],[],[.cells [I srev,I Y5,.g G1,.g (Evs.g log)],.rows 6 1 [],.rows 8 1 [],c3,.cells [I srev,I to,.g G2,C3 H (Vu to log.l)]]++Zn5 (Vu to log.l)⟩):=by
 have hw:=Zt (E:=EvF tab) (h:=H) (c:=Zde) (lv:=[1,2,4,6,7]) (l:=log.l) (β:=List Ev) (γ:=Unit) (fun k r=>r.length≤k) (fun k x r => .inl (Zkx to r x))
  (fun k r o=>⟨[(1,I to),(2,.ptr H.length 0),(4,.ptr (H.length+3) 0),(6,.ptr (H.length+4) 0),(7,I k)],[],[.cells [I srev,I Y5,.g G1,.g (Evs.g log)],.rows 6 1 [],.rows 8 1 [],c3,.cells [I srev,I to,.g G2,C3 H r]]++Zn5 r⟩)
  (fun r o=>(.exit 0,⟨[(1,I to),(2,.ptr H.length 0),(4,.ptr (H.length+3) 0),(6,.ptr (H.length+4) 0),(7,I log.l.length),(36,B false)],[],[.cells [I srev,I Y5,.g G1,.g (Evs.g log)],.rows 6 1 [],.rows 8 1 [],c3,.cells [I srev,I to,.g G2,C3 H r]]++Zn5 r⟩))
  (fun _ o=>(.ret,⟨[],[],o⟩)) (by simp) (by simp) (fun k x r o hk hx hy hi => ?_) (fun r o _=>by delta Zde;cases log <;> simp -implicitDefEqProofs) [] [] (by simp)
 ·obtain ⟨o',hw⟩:=hw
  rw [Uy,C4,List.nil_append] at hw
  exact hw
 ·have e2:=Zh hk (by omega)
  delta Zde
  cases log with
  | nil=>simp at hk
  | of l =>
   simp only [Sl.l_of] at hk hx hy hl ⊢
   obtain ⟨er,eg,ek⟩:=x
   unfold Zkx
   simp only
   by_cases c1:er≤to
   ·refine ⟨by simp [c1];omega,o,?_⟩
    simp -implicitDefEqProofs [hk,hy,Ev.c,c1,e2,show ¬to<er by omega]
   ·have c2:to<er:=by omega
    refine ⟨by simp [c1];omega,o,?_⟩
    cases r with
    | nil=>simp -implicitDefEqProofs [hk,hy,Ev.c,c1,c2,e2,C3,Zn5,Zx,Yh,room]
    | cons y r =>
     simp only [List.length_cons] at hi
     simp -implicitDefEqProofs [hk,hy,Ev.c,c1,c2,e2,C3,Zn5,Zx,Yh,room,Nat.not_succ_le_self,show r.length+1+1≤140737488355328 by omega,show (r.length+1+1)*80≤140737488355328 by omega]
     exact List.take_of_length_le (by simp)
def N0 (s:Ze) (to:Int):Ze:=if Pk s to=0 then ⟨s.rev,to,X0 s.base s.log.l to,Zz (Vu to s.log.l)⟩ else s
theorem Ew (s:Ze) (to:Int) (hs:Z8 s) (H:List Blk) :
  EvF tab 69 [A s.c,I to] H=some ⟨.tup [A (N0 s to).c,I (Pk s to)],[],[]⟩:=by
 have hs':=hs
 unfold Z8 at hs'
 have m1:=fun H=>Oz s.base s.log to (by omega) H
 refine Zb t69 (by simp) ?_
 unfold N0 Pk
 obtain ⟨srev,Y5,Zy,Z3⟩:=s
 simp only at hs' m1 ⊢
 generalize hF:X0 Zy Z3.l to=F at m1 ⊢
 generalize hg1:KVs.g Zy=G1 at m1
 generalize hg2:KVs.g F=G2 at m1
 by_cases c1:to<0
 ·simp -implicitDefEqProofs [A,Ze.c,hg1,c1]
 ·by_cases c2:srev<to
  ·simp -implicitDefEqProofs [A,Ze.c,hg1,c1,c2]
  ·by_cases c3:to<Y5
   ·simp -implicitDefEqProofs [A,Ze.c,hg1,c1,c2,c3]
   ·have hw:=fun p=>Zn6 srev Y5 to G1 G2 Z3 p (by omega) H
    generalize Vu to Z3.l=r at hw ⊢
    unfold C3 Zn5 at hw
    unfold Zz
    cases r with
    | nil =>
     simp only [if_true,List.append_nil] at hw
     simp -implicitDefEqProofs [A,Ze.c,hg1,hg2,c1,c2,c3,m1,Yf,List.append_assoc,List.cons_append,List.nil_append,hw]
    | cons x r =>
     simp only [reduceCtorEq,if_false,List.cons_append,List.nil_append] at hw
     have e5:List.take (r.length+1) (x.c::List.map Ev.c r)=x.c::List.map Ev.c r:=List.take_of_length_le (by simp)
     simp -implicitDefEqProofs [A,Ze.c,hg1,hg2,c1,c2,c3,m1,Yf,List.append_assoc,List.cons_append,List.nil_append,hw,e5]
def O0 (k v:Bs):Bool := !(decide (60<(k.length:Int))||decide (60<(v.length:Int)))
def Me (m:Mut):Bool:=O0 m.key m.value
def Mf (m:Cmp):Bool:=O0 m.key m.value
theorem Ey (s:Sl Mut) (hl:s.l.length≤9223372036854775807) (H:List Blk) :
  Ya (EvF tab) H Zka [0,3] ⟨[(0,.g (Muts.g s)),(3,I 0)],[],[]⟩ =
   some (if Z7 Me s.l=true then (.exit 0,⟨[(0,.g (Muts.g s)),(3,I s.l.length),(10,B false)],[],[]⟩) else (.ret,⟨[(2,B false)],[],[]⟩)):=by
 refine Y4 (l:=s.l) Me (fun k=>⟨[(0,.g (Muts.g s)),(3,I k)],[],[]⟩) _ _ (by simp) (by simp) (fun k x hk hx hy => ?_) (by delta Zka;cases s <;> simp -implicitDefEqProofs)
 delta Zka
 have e2:=Zh hk hl
 cases s with
 | nil=>simp at hk
 | of l =>
  simp only [Sl.l_of] at hk hy
  by_cases h1:60<(x.key.length:Int)
  ·simp -implicitDefEqProofs [hk,hy,Mut.c,Me,O0,h1]
  ·by_cases h2:60<(x.value.length:Int)
   ·simp -implicitDefEqProofs [hk,hy,Mut.c,Me,O0,h1,h2]
   ·simp -implicitDefEqProofs [hk,hy,Mut.c,Me,O0,h1,h2,e2]
def Ng (s:Sl Mut):Bool:=decide (s.l.length≤8)&&Z7 Me s.l
theorem Kl (s:Sl Mut) (hl:s.l.length≤9223372036854775807) (H:List Blk):EvF tab 76 [.g (Muts.g s)] H=some ⟨B (Ng s),[],[]⟩:=by
 refine Zb t76 (by simp) ?_
 have hw:=Ey s hl H
 unfold Ng
 by_cases h:s.l.length≤8
 ·cases hs:Z7 Me s.l <;> rw [hs] at hw <;> simp only [Bool.false_eq_true,if_true,if_false] at hw
  all_goals simp -implicitDefEqProofs [h,show ¬(8:Int)<(s.l.length:Int) by omega,hw]
 ·simp -implicitDefEqProofs [h,show (8:Int)<(s.l.length:Int) by omega]
theorem Zhq (r:Req) (hl:r.iff.l.length≤9223372036854775807) (H:List Blk) :
  Ya (EvF tab) H Zjo [1,3] ⟨[(1,.ptr H.length 0),(3,I 0)],[],[.cells (r.c.map .g)]⟩ =
   some (if Z7 Mf r.iff.l=true then (.exit 0,⟨[(1,.ptr H.length 0),(3,I r.iff.l.length),(40,B false)],[],[.cells (r.c.map .g)]⟩) else (.ret,⟨[(2,B false)],[],[.cells (r.c.map .g)]⟩)):=by
 refine Y4 (l:=r.iff.l) Mf (fun k=>⟨[(1,.ptr H.length 0),(3,I k)],[],[.cells (r.c.map .g)]⟩) _ _ (by simp) (by simp) (fun k x hk hx hy => ?_) (by delta Zjo;simp -implicitDefEqProofs [Req.c])
 delta Zjo
 have e2:=Zh hk hl
 obtain ⟨b1,b2,b3,b4,b5,b6,b7,b8,b9,b10,bi,bt,be⟩:=r
 simp only at hk hl hx hy e2 ⊢
 cases bi with
 | nil=>simp at hk
 | of l =>
  simp only [Sl.l_of] at hk hy e2 ⊢
  by_cases h1:60<(x.key.length:Int)
  ·simp -implicitDefEqProofs [hk,hy,Req.c,Cmp.c,Mf,O0,h1]
  ·by_cases h2:60<(x.value.length:Int)
   ·simp -implicitDefEqProofs [hk,hy,Req.c,Cmp.c,Mf,O0,h1,h2]
   ·simp -implicitDefEqProofs [hk,hy,Req.c,Cmp.c,Mf,O0,h1,h2,e2]
def Km (r:Req):Bool:=decide (r.key.length≤60)&&decide (r.value.length≤60)&&decide (r.iff.l.length≤8)&&decide (r.thn.l.length≤8)&&decide (r.els.l.length≤8)&&Z7 Mf r.iff.l&&Ng r.thn&&Ng r.els
theorem Zs5 (r:Req) (w:r.wf) (H:List Blk):EvF tab 30 [A r.c] H=some ⟨B (Km r),[],[]⟩:=by
 have hw:=Zhq r w.2.2.2.2.2.2.2.2.2.1.2 H
 have hm1:=Kl r.thn w.2.2.2.2.2.2.2.2.2.2.1.2
 have hm2:=Kl r.els w.2.2.2.2.2.2.2.2.2.2.2.2
 refine Zb t30 (by simp) ?_
 obtain ⟨kind,who,seq,once,key,value,lease,rev,ttl,token,iff,thn,els⟩:=r
 unfold Km
 simp only at hw hm1 hm2 ⊢
 generalize Ng thn=m1 at hm1 ⊢
 generalize Ng els=m2 at hm2 ⊢
 simp only [Req.c,List.map_cons,List.map_nil] at hw
 by_cases k1:key.length≤60
 ·by_cases k2:value.length≤60
  ·by_cases k3:iff.l.length≤8
   ·by_cases k4:thn.l.length≤8
    ·by_cases k5:els.l.length≤8
     ·cases hs:Z7 Mf iff.l <;> rw [hs] at hw <;> simp only [Bool.false_eq_true,if_true,if_false] at hw
      ·simp -implicitDefEqProofs [A,Req.c,hw,k1,k2,k3,k4,k5,show ¬(60:Int)<(key.length:Int) by omega,show ¬(60:Int)<(value.length:Int) by omega,show ¬(8:Int)<(iff.l.length:Int) by omega,show ¬(8:Int)<(thn.l.length:Int) by omega,show ¬(8:Int)<(els.l.length:Int) by omega]
      ·cases m1 <;> simp -implicitDefEqProofs [A,Req.c,hw,hm1,hm2,k1,k2,k3,k4,k5,show ¬(60:Int)<(key.length:Int) by omega,show ¬(60:Int)<(value.length:Int) by omega,show ¬(8:Int)<(iff.l.length:Int) by omega,show ¬(8:Int)<(thn.l.length:Int) by omega,show ¬(8:Int)<(els.l.length:Int) by omega]
     ·simp -implicitDefEqProofs [A,Req.c,k1,k2,k3,k4,k5,show ¬(60:Int)<(key.length:Int) by omega,show ¬(60:Int)<(value.length:Int) by omega,show ¬(8:Int)<(iff.l.length:Int) by omega,show ¬(8:Int)<(thn.l.length:Int) by omega,show (8:Int)<(els.l.length:Int) by omega]
    ·simp -implicitDefEqProofs [A,Req.c,k1,k2,k3,k4,show ¬(60:Int)<(key.length:Int) by omega,show ¬(60:Int)<(value.length:Int) by omega,show ¬(8:Int)<(iff.l.length:Int) by omega,show (8:Int)<(thn.l.length:Int) by omega]
   ·simp -implicitDefEqProofs [A,Req.c,k1,k2,k3,show ¬(60:Int)<(key.length:Int) by omega,show ¬(60:Int)<(value.length:Int) by omega,show (8:Int)<(iff.l.length:Int) by omega]
  ·simp -implicitDefEqProofs [A,Req.c,k1,k2,show ¬(60:Int)<(key.length:Int) by omega,show (60:Int)<(value.length:Int) by omega]
 ·simp -implicitDefEqProofs [A,Req.c,k1,show (60:Int)<(key.length:Int) by omega]
theorem Zs6 (a b:Sl KV) (hab:a.l=b.l) (hl:b.l.length≤9223372036854775807) (H:List Blk):EvF tab 54 [.g (KVs.g a),.g (KVs.g b)] H=some ⟨B true,[],[]⟩:=by
 have hw:Ya (EvF tab) H Zj1 [0,1,5] ⟨[(0,.g (KVs.g a)),(1,.g (KVs.g b)),(5,I 0)],[],[]⟩=some (.exit 0,⟨[(0,.g (KVs.g a)),(1,.g (KVs.g b)),(5,I b.l.length),(14,B false)],[],[]⟩):=by
  refine Oq b.l.length (fun k=>⟨[(0,.g (KVs.g a)),(1,.g (KVs.g b)),(5,I k)],[],[]⟩) _ (by simp) (fun k hk => ?_) ?_
  ·delta Zj1
   have e2:=Zh hk hl
   rcases Sl.both hab with ⟨l,⟨rfl,rfl⟩ | ⟨rfl,rfl,rfl⟩ | ⟨rfl,rfl,rfl⟩ | ⟨rfl,rfl,rfl⟩⟩
   ·simp only [Sl.l_of] at hk
    obtain ⟨x,hx⟩:∃x,l[k]=x:=⟨_,rfl⟩
    simp -implicitDefEqProofs [hk,hx,KV.c,e2]
   all_goals simp at hk
  ·delta Zj1
   rcases Sl.both hab with ⟨l,⟨rfl,rfl⟩ | ⟨rfl,rfl,rfl⟩ | ⟨rfl,rfl,rfl⟩ | ⟨rfl,rfl,rfl⟩⟩ <;> simp -implicitDefEqProofs
 refine Zb t54 (by simp) ?_
 rcases Sl.both hab with ⟨l,⟨rfl,rfl⟩ | ⟨rfl,rfl,rfl⟩ | ⟨rfl,rfl,rfl⟩ | ⟨rfl,rfl,rfl⟩⟩ <;> simp at hw <;> simp -implicitDefEqProofs [hw]
theorem C5 (a b:Sl Ev) (hab:a.l=b.l) (hl:b.l.length≤9223372036854775807) (H:List Blk):EvF tab 55 [.g (Evs.g a),.g (Evs.g b)] H=some ⟨B true,[],[]⟩:=by
 have hw:Ya (EvF tab) H Zj2 [0,1,5] ⟨[(0,.g (Evs.g a)),(1,.g (Evs.g b)),(5,I 0)],[],[]⟩=some (.exit 0,⟨[(0,.g (Evs.g a)),(1,.g (Evs.g b)),(5,I b.l.length),(14,B false)],[],[]⟩):=by
  refine Oq b.l.length (fun k=>⟨[(0,.g (Evs.g a)),(1,.g (Evs.g b)),(5,I k)],[],[]⟩) _ (by simp) (fun k hk => ?_) ?_
  ·delta Zj2
   have e2:=Zh hk hl
   rcases Sl.both hab with ⟨l,⟨rfl,rfl⟩ | ⟨rfl,rfl,rfl⟩ | ⟨rfl,rfl,rfl⟩ | ⟨rfl,rfl,rfl⟩⟩
   ·simp only [Sl.l_of] at hk
    obtain ⟨x,hx⟩:∃x,l[k]=x:=⟨_,rfl⟩
    simp -implicitDefEqProofs [hk,hx,Ev.c,e2]
   all_goals simp at hk
  ·delta Zj2
   rcases Sl.both hab with ⟨l,⟨rfl,rfl⟩ | ⟨rfl,rfl,rfl⟩ | ⟨rfl,rfl,rfl⟩ | ⟨rfl,rfl,rfl⟩⟩ <;> simp -implicitDefEqProofs
 refine Zb t55 (by simp) ?_
 rcases Sl.both hab with ⟨l,⟨rfl,rfl⟩ | ⟨rfl,rfl,rfl⟩ | ⟨rfl,rfl,rfl⟩ | ⟨rfl,rfl,rfl⟩⟩ <;> simp at hw <;> simp -implicitDefEqProofs [hw]
def O1 (a b:Ze):Prop:=a.rev=b.rev∧a.low=b.low∧a.base.l=b.base.l∧a.log.l=b.log.l
theorem Zs7 (a b:Ze) (h:O1 a b) (hb:Z8 b) (H:List Blk):EvF tab 38 [A a.c,A b.c] H=some ⟨B true,[],[]⟩:=by
 unfold Z8 at hb
 obtain ⟨h1,h2,h3,h4⟩:=h
 have m1:=fun H=>Zs6 a.base b.base h3 (by omega) H
 have m2:=fun H=>C5 a.log b.log h4 (by omega) H
 refine Zb t38 (by simp) ?_
 obtain ⟨a1,a2,a3,a4⟩:=a
 obtain ⟨b1,b2,b3,b4⟩:=b
 simp only at h1 h2 m1 m2 ⊢
 subst h1 h2
 generalize hg1:KVs.g a3=g1 at m1
 generalize hg2:KVs.g b3=g2 at m1
 generalize hg3:Evs.g a4=g3 at m2
 generalize hg4:Evs.g b4=g4 at m2
 simp -implicitDefEqProofs [A,Ze.c,hg1,hg2,hg3,hg4,m1,m2]
def Zed (s:Ze):Bool:=(decide ((s.base.l.length:Int)≤40)&&Z7 Vh s.base.l)&&(decide ((s.log.l.length:Int)≤70)&&Z7 Tc s.log.l)
theorem Zzx (s:Ze) (w:s.wf) (H:List Blk):EvF tab 32 [A s.c] H=some ⟨B (Zed s),[],[]⟩:=by
 obtain ⟨w1,w2,w3,w4⟩:=w
 have m1:=fun H=>Zsd s.base w3.2 40 H
 have m2:=fun H=>Kc s.log w4.2 70 H
 refine Zb t32 (by simp) ?_
 unfold Zed
 generalize (decide ((s.base.l.length:Int)≤40)&&Z7 Vh s.base.l)=b1 at m1 ⊢
 generalize (decide ((s.log.l.length:Int)≤70)&&Z7 Tc s.log.l)=b2 at m2 ⊢
 obtain ⟨a1,a2,a3,a4⟩:=s
 simp only at m1 m2 ⊢
 generalize hg1:KVs.g a3=g1 at m1
 generalize hg3:Evs.g a4=g3 at m2
 cases b1 <;> simp -implicitDefEqProofs [A,Ze.c,hg1,hg3,m1,m2]
theorem Zhr {s:Ze} (h:Zed s=true):s.base.l.length≤40∧s.log.l.length≤70:=by
 unfold Zed at h
 simp only [Bool.and_eq_true,decide_eq_true_eq] at h
 omega
theorem Zee {s:Ze} (h:Zed s=true):Z8 s:=by have:=Zhr h;unfold Z8;omega
def Zky (a b:Zj):Prop:=a.code=b.code∧a.who=b.who∧a.seq=b.seq∧a.rev=b.rev∧a.lease=b.lease∧a.ttl=b.ttl∧a.yes=b.yes∧a.kvs.l=b.kvs.l∧a.events.l=b.events.l
theorem Zs8 (a b:Zj) (hs:Zky a b) (h1:b.kvs.l.length≤9223372036854775807) (h2:b.events.l.length≤9223372036854775807) (H:List Blk) :
  EvF tab 23 [A a.c,A b.c] H=some ⟨B true,[],[]⟩:=by
 refine Zb t23 (by simp) ?_
 obtain ⟨a1,a2,a3,a4,a5,a6,a7,a8,a9⟩:=a
 obtain ⟨b1,b2,b3,b4,b5,b6,b7,b8,b9⟩:=b
 obtain ⟨s1,s2,s3,s4,s5,s6,s7,s8,s9⟩:=hs
 simp only at s1 s2 s3 s4 s5 s6 s7 s8 s9
 subst s1 s2 s3 s4 s5 s6 s7
 have m1:=fun H=>Zs6 a8 b8 s8 h1 H
 have m2:=fun H=>C5 a9 b9 s9 h2 H
 generalize hg1:KVs.g a8=g1 at m1
 generalize hg2:KVs.g b8=g2 at m1
 generalize hg3:Evs.g a9=g3 at m2
 generalize hg4:Evs.g b9=g4 at m2
 simp -implicitDefEqProofs [A,Zj.c,hg1,hg2,hg3,hg4,m1,m2]
def Zaq (v:Int):GV := .int .i64 v
def Rl (b:List (Int×Int)):List (GV×Option GV):=b.map (kvG Zaq)
def H7 (p:Int×Int):List GV×Option GV:=([.int .i64 p.1,.int .i64 p.2],some (.bool true))
theorem Mg (w s:Int):∀(met:List (Int×Int)),Sn [.i,.i] [.int .i64 w,.int .i64 s] (met.map H7)=some (if met.contains (w,s)=true then some (met.findIdx (· == (w,s))) else none)
 | []=>rfl
 | p::met=>by
  obtain ⟨a,b⟩:=p
  have ih:=Mg w s met
  rw [List.map_cons]
  unfold Sn
  simp only [H7,List.map_cons,List.map_nil,eqL,eqG,if_true,Bool.and_true]
  by_cases h:w=a∧s=b
  ·obtain ⟨rfl,rfl⟩:=h
   simp [List.findIdx_cons]
  ·have hb:(w==a&&s==b)=false:=by
    rw [Bool.eq_false_iff];intro hh;rw [Bool.and_eq_true] at hh
    exact h ⟨by simpa using hh.1,by simpa using hh.2⟩
   rw [hb,ih]
   have hne:¬((a,b):Int×Int)=(w,s):=fun e=>by cases e;exact h ⟨rfl,rfl⟩
   have hc:((a,b)::met).contains (w,s)=met.contains (w,s):=by
    rw [Bool.eq_iff_iff,List.contains_iff_mem,List.contains_iff_mem,List.mem_cons]
    exact ⟨fun h=>h.elim (fun e=>absurd e.symm hne) id,.inr⟩
   rw [hc]
   have hne2:(((a,b):Int×Int)==(w,s))=false:=by simpa using hne
   cases hq:met.contains (w,s)
   ·simp
   ·simp [List.findIdx_cons,hne2]
theorem Zn7 (w s:Int) (met:List (Int×Int)):K6 false [.i,.i] (some (.bool false)) [.int .i64 w,.int .i64 s] (met.map H7)=some (.g (.bool (met.contains (w,s)))):=by
 unfold K6
 rw [if_pos (by simp),Mg]
 cases hq:met.contains (w,s)
 ·simp [mvV]
 ·have hlt:met.findIdx (· == (w,s))<met.length:=by
   rw [List.findIdx_lt_length]
   exact ⟨(w,s),List.contains_iff_mem.1 hq,by simp⟩
  simp only [if_true]
  rw [List.getElem?_map,List.getElem?_eq_getElem hlt]
  simp [mvV,H7]
theorem Zn8 (w s:Int) (met:List (Int×Int)) (h:met.contains (w,s)=false):K7 [.i,.i] [.int .i64 w,.int .i64 s] (some (.bool true)) (met.map H7)=some ((met++[(w,s)]).map H7):=by
 unfold K7
 rw [if_pos (by simp),Mg,h]
 simp [H7]
theorem Zkz (b:List (Int×Int)) (k:Int):Od false .i (some (.int .i64 0)) (.int .i64 k) (Rl b)=some (I (Vm b k)):=by
 have:=Zag Zaq k (.int .i64 0) false b
 unfold Rl
 rw [this]
 simp only [Bool.false_eq_true,if_false]
 unfold Vm
 cases Xf k b <;> rfl
theorem Zef (b:List (Int×Int)) (k:Int):Od true .i (some (.int .i64 0)) (.int .i64 k) (Rl b)=some (.tup [I (Vm b k),B (Xf k b).isSome]):=by
 have:=Zag Zaq k (.int .i64 0) true b
 unfold Rl
 rw [this]
 simp only [if_true]
 unfold Vm
 cases Xf k b <;> rfl
theorem Zk0 (b:List (Int×Int)) (k v:Int):Sa .i (.int .i64 k) (some (.int .i64 v)) (Rl b)=some (Rl (Td k v b)):=Sz Zaq k v b
theorem Zs9 (b:List (Int×Int)) (k v:Int):Vm (Td k v b) k=v:=by unfold Vm;rw [Kd,if_pos rfl];rfl
theorem Zzy:∀(l:List Zn) (k:Nat) (b:List (Int×Int)),Ym (fun _ (x:Zn) b=>flF b x) k l b=match Ds l b with | some b' => .inl b' | none => .inr ():=by
 intro l
 induction l with
 | nil=>intro k b;rfl
 | cons x l ih =>
  intro k b
  unfold Ym Ds flF
  by_cases h:(Xf x.who b).isSome=true
  ·simp [h]
  ·simp only [h,if_false,Bool.false_eq_true]
   exact ih _ _
def meF (F:List (Int×Int)) (b:List (Int×Int)×List (Int×Int)) (x:Zm):(List (Int×Int)×List (Int×Int))⊕Unit :=
 if Zdx F b.1 x=true then .inr () else if 4<Vm b.2 x.who+1 then .inr () else .inl (b.1++[Uh x],Td x.who (Vm b.2 x.who+1) b.2)
theorem Zzz (F:List (Int×Int)):∀(l:List Zm) (k:Nat) (b:List (Int×Int)×List (Int×Int)),(∃b',Ym (fun _ (x:Zm) b=>meF F b x) k l b = .inl b'∧Zak F l b.1 b.2=true)∨(Ym (fun _ (x:Zm) b=>meF F b x) k l b = .inr ()∧Zak F l b.1 b.2=false):=by
 intro l
 induction l with
 | nil=>intro k b;exact .inl ⟨b,rfl,rfl⟩
 | cons x l ih =>
  intro k b
  unfold Ym Zak meF
  by_cases h:Zdx F b.1 x=true
  ·right;simp [h]
  ·simp only [h,if_false,Bool.false_eq_true]
   by_cases h4:4<Vm b.2 x.who+1
   ·right;simp [h4]
   ·simp only [h4,if_false]
    exact ih _ _
theorem Zz0 (F:List (Int×Int)) (met:List (Int×Int)) (x:Zm):Zdx F met x=(met.contains (Uh x)||((Xf x.who F).isSome&&decide (x.seq≤Vm F x.who))):=by
 unfold Zdx Vm
 cases Xf x.who F <;> rfl
theorem Zz1 (m:Zi) (wf:m.wf) (hl:m.l.l.length+m.old.l.length≤5000) (H:List Blk):EvF tab 58 [A m.c] H=some ⟨B (Ox m.l.l m.old.l),[],[]⟩:=by
 have h1:=fun H=>Zks m wf (by omega) H
 have hwl:∀h st,X4 h st (.g (Ints.g (Zz (Yb m.l.l m.old.l))))=some (Yb m.l.l m.old.l).length:=fun h st=>by rw [Xa,Xz]
 obtain ⟨ml,mo⟩:=m
 simp only at hl h1 hwl ⊢
 have hw:=Zt (E:=EvF tab) (h:=H) (c:=Zj5) (lv:=[1,3,4,5,18,19,20]) (l:=mo.l) (β:=List (Int×Int)) (γ:=Unit) (fun _ _=>True) (fun _ x b=>flF b x)
  (fun k b o=>⟨[(1,.ptr H.length 0),(3,.mp (H.length+1)),(4,.mp (H.length+2)),(5,.mp (H.length+3)),(18,.g (Floors.g mo)),(19,I mo.l.length),(20,I k)],[],.cells ((Zi.c ⟨ml,mo⟩).map .g) :: .map (Rl b) :: .map2 [] :: .map []::o⟩)
  (fun b o=>(.exit 0,⟨[(1,.ptr H.length 0),(3,.mp (H.length+1)),(4,.mp (H.length+2)),(5,.mp (H.length+3)),(18,.g (Floors.g mo)),(19,I mo.l.length),(20,I mo.l.length),(21,B false)],[],.cells ((Zi.c ⟨ml,mo⟩).map .g) :: .map (Rl b) :: .map2 [] :: .map []::o⟩))
  (fun _ o=>(.ret,⟨[(2,B false)],[],o⟩)) (by simp) (by simp) (fun k x b o hk hx hy _ => ?_) (fun _ o _=>by delta Zj5;simp -implicitDefEqProofs) [] [] trivial
 have hw2:=fun F o0=>Zt (E:=EvF tab) (h:=H) (c:=Zj6) (lv:=[1,3,4,5,39,40,41]) (l:=ml.l) (β:=List (Int×Int)×List (Int×Int)) (γ:=Unit) (fun k b=>∀w,0≤Vm b.2 w∧Vm b.2 w≤k) (fun _ x b=>meF F b x)
  (fun k b o=>⟨[(1,.ptr H.length 0),(3,.mp (H.length+1)),(4,.mp (H.length+2)),(5,.mp (H.length+3)),(39,.g (MemoL.g ml)),(40,I ml.l.length),(41,I k)],[],.cells ((Zi.c ⟨ml,mo⟩).map .g) :: .map (Rl F) :: .map2 (b.1.map H7) :: .map (Rl b.2)::o⟩)
  (fun b o=>(.exit 2,⟨[(1,.ptr H.length 0),(3,.mp (H.length+1)),(4,.mp (H.length+2)),(5,.mp (H.length+3)),(39,.g (MemoL.g ml)),(40,I ml.l.length),(41,I ml.l.length),(42,B false)],[],.cells ((Zi.c ⟨ml,mo⟩).map .g) :: .map (Rl F) :: .map2 (b.1.map H7) :: .map (Rl b.2)::o⟩))
  (fun _ o=>(.ret,⟨[(2,B false)],[],o⟩)) (by simp) (by simp) (fun k x b o hk hx hy hi => ?_) (fun _ o _=>by delta Zj6;simp -implicitDefEqProofs) ([],[]) o0 (fun w=>by simp [Vm,Xf])
 ·obtain ⟨o',hw⟩:=hw
  rw [Zzy] at hw
  unfold Ox
  refine Zb t58 (by simp) ?_
  have hlen:∀h s,X4 h s (.g (MemoL.g ml))=some ml.l.length:=fun h s=>Xa ..
  have hlen2:∀h s,X4 h s (.g (Floors.g mo))=some mo.l.length:=fun h s=>Xa ..
  simp only [A,Zi.c,List.map_cons,List.map_nil] at hw hw2 h1 ⊢
  generalize MemoL.g ml=G1 at hw hw2 h1 hlen ⊢
  generalize Floors.g mo=G2 at hw hw2 h1 hlen2 ⊢
  rw [show Rl []=[] from rfl] at hw
  simp only [Int.ofNat_zero,Int.cast_ofNat_Int] at hw hw2
  cases hg:Ds mo.l [] with
  | none =>
   rw [hg] at hw
   simp only [Wj] at hw
   simp -implicitDefEqProofs [hw,hlen2]
  | some F =>
   rw [hg] at hw
   simp only [Wj] at hw
   obtain ⟨o2,hw2⟩:=hw2 F o'
   rw [show Rl []=[] from rfl] at hw2
   rcases Zzz F ml.l 0 ([],[]) with ⟨b',e1,e2⟩ | ⟨e1,e2⟩
   ·rw [e1] at hw2
    simp only at e2
    simp only [Wj] at hw2
    generalize Ints.g (Zz (Yb ml.l mo.l))=GW at h1 hwl
    by_cases h8:(Yb ml.l mo.l).length≤8
    ·have h8I:((Yb ml.l mo.l).length:Int)≤8:=by omega
     simp -implicitDefEqProofs [e2,hw,hw2,hlen,hlen2,h1,hwl,h8,h8I]
    ·have h8I:¬((Yb ml.l mo.l).length:Int)≤8:=by omega
     simp -implicitDefEqProofs [e2,hw,hw2,hlen,hlen2,h1,hwl,h8,h8I]
   ·rw [e1] at hw2
    simp only at e2
    simp only [Wj] at hw2
    simp -implicitDefEqProofs [e2,hw,hw2,hlen,hlen2]
 ·have e2:=Zh hk (by omega)
  delta Zj6
  obtain ⟨met,cnt⟩:=b
  simp only at hi ⊢
  have g1:=Zef F x.who
  have g2:=Zn7 x.who x.seq met
  have g3:=Zkz cnt x.who
  have g4:=Zk0 cnt x.who (Vm cnt x.who+1)
  have g5:=Zkz (Td x.who (Vm cnt x.who+1) cnt) x.who
  rw [Zs9] at g5
  have g6:=fun H=>Zhc x H
  have hb:=hi x.who
  have e3:IntKind.i64.wrap (Vm cnt x.who+1)=Vm cnt x.who+1:=wrap_i64 (by omega) (by omega)
  cases ml with
  | nil=>simp at hk
  | of l =>
   simp only [Sl.l_of] at hk hy hl
   unfold meF
   simp only
   rw [Zz0]
   cases hc:met.contains (Uh x)
   ·have g7:=Zn8 x.who x.seq met hc
    rw [show met.contains (x.who,x.seq)=met.contains (Uh x) from rfl,hc] at g2
    simp only [Bool.false_or]
    obtain ⟨xw,xs,x1,x2,x3,x4,x5,x6,x7,x8,x9⟩:=x
    simp only [Uh] at g7 hc ⊢
    simp only [A,Zm.c,List.map_cons,List.map_nil] at g1 g2 g3 g4 g5 g6 e3 hb ⊢
    have hnew:¬4<Vm cnt xw+1→∀w,0≤Vm (Td xw (Vm cnt xw+1) cnt) w∧Vm (Td xw (Vm cnt xw+1) cnt) w≤((k+1:Nat):Int):=fun _ w=>by
     have hw:=hi w
     unfold Vm at hw hb ⊢
     rw [Kd]
     by_cases h:w=xw
     ·rw [if_pos h,Option.getD_some];omega
     ·rw [if_neg h];omega
    generalize hMC2:Rl (Td xw (Vm cnt xw+1) cnt)=MC2 at g4 g5
    generalize Rl cnt=MC at g3 g4 ⊢
    generalize Rl F=MF at g1 ⊢
    generalize hMM2:(met++[(xw,xs)]).map H7=MM2 at g7
    generalize met.map H7=MM at g2 g7 ⊢
    generalize Vm F xw=cf at g1 ⊢
    generalize (Xf xw F).isSome=cb at g1 ⊢
    generalize hcc:Vm cnt xw=cc at g3 g4 g5 e3 hb hnew hMC2 ⊢
    cases cb
    ·simp only [Bool.false_and,Bool.false_eq_true,if_false]
     by_cases h4:4<cc+1
     ·rw [if_pos h4]
      refine ⟨.cells ((Zi.c ⟨.of l,mo⟩).map .g) :: .map MF :: .map2 MM2 :: .map MC2::(o++[.rows 6 1 [],.rows 8 1 [],.cells ((Zm.c ⟨xw,xs,x1,x2,x3,x4,x5,x6,x7,x8,x9⟩).map .g)]),?_⟩
      simp -implicitDefEqProofs [hk,hy,Zi.c,Zm.c,g1,g2,g3,g4,g5,g6,g7,e3,h4]
     ·rw [if_neg h4]
      refine ⟨hnew h4,o++[.rows 6 1 [],.rows 8 1 [],.cells ((Zm.c ⟨xw,xs,x1,x2,x3,x4,x5,x6,x7,x8,x9⟩).map .g)],?_⟩
      simp only
      rw [hMC2,hMM2]
      simp -implicitDefEqProofs [hk,hy,Zi.c,Zm.c,g1,g2,g3,g4,g5,g6,g7,e2,e3,h4]
    ·by_cases hq:xs≤cf
     ·simp only [hq,decide_true,Bool.and_self,if_true]
      refine ⟨.cells ((Zi.c ⟨.of l,mo⟩).map .g) :: .map MF :: .map2 MM :: .map MC::(o++[.rows 6 1 [],.rows 8 1 [],.cells ((Zm.c ⟨xw,xs,x1,x2,x3,x4,x5,x6,x7,x8,x9⟩).map .g)]),?_⟩
      simp -implicitDefEqProofs [hk,hy,Zi.c,Zm.c,g1,g2,g6,hq]
     ·simp only [hq,decide_false,Bool.and_false,Bool.false_eq_true,if_false]
      by_cases h4:4<cc+1
      ·rw [if_pos h4]
       refine ⟨.cells ((Zi.c ⟨.of l,mo⟩).map .g) :: .map MF :: .map2 MM2 :: .map MC2::(o++[.rows 6 1 [],.rows 8 1 [],.cells ((Zm.c ⟨xw,xs,x1,x2,x3,x4,x5,x6,x7,x8,x9⟩).map .g)]),?_⟩
       simp -implicitDefEqProofs [hk,hy,Zi.c,Zm.c,g1,g2,g3,g4,g5,g6,g7,e3,h4,hq]
      ·rw [if_neg h4]
       refine ⟨hnew h4,o++[.rows 6 1 [],.rows 8 1 [],.cells ((Zm.c ⟨xw,xs,x1,x2,x3,x4,x5,x6,x7,x8,x9⟩).map .g)],?_⟩
       simp only
       rw [hMC2,hMM2]
       simp -implicitDefEqProofs [hk,hy,Zi.c,Zm.c,g1,g2,g3,g4,g5,g6,g7,e2,e3,h4,hq]
   ·rw [show met.contains (x.who,x.seq)=met.contains (Uh x) from rfl,hc] at g2
    simp only [Bool.true_or,if_true]
    obtain ⟨xw,xs,x1,x2,x3,x4,x5,x6,x7,x8,x9⟩:=x
    simp only [A,Zm.c,List.map_cons,List.map_nil] at g1 g2 g6 ⊢
    generalize Rl F=MF at g1 ⊢
    generalize met.map H7=MM at g2 ⊢
    generalize Rl cnt=MC at ⊢
    generalize Vm F xw=cf at g1
    generalize (Xf xw F).isSome=cb at g1
    refine ⟨.cells ((Zi.c ⟨.of l,mo⟩).map .g) :: .map MF :: .map2 MM :: .map MC::(o++[.rows 6 1 [],.rows 8 1 [],.cells ((Zm.c ⟨xw,xs,x1,x2,x3,x4,x5,x6,x7,x8,x9⟩).map .g)]),?_⟩
    simp -implicitDefEqProofs [hk,hy,Zi.c,Zm.c,g1,g2,g6]
 ·have e2:=Zh hk (by omega)
  have g1:=Zef b x.who
  have g2:=Zk0 b x.who x.seq
  delta Zj5
  cases mo with
  | nil=>simp at hk
  | of l =>
   simp only [Sl.l_of] at hk hy hl
   obtain ⟨xw,xs⟩:=x
   unfold flF
   simp only at g1 g2 ⊢
   cases hc:(Xf xw b).isSome
   ·rw [hc] at g1
    simp only [Bool.false_eq_true,if_false]
    refine ⟨trivial,o++[.cells ((Zn.c ⟨xw,xs⟩).map .g)],?_⟩
    generalize Rl (Td xw xs b)=M2 at g2 ⊢
    generalize Rl b=M1 at g1 g2 ⊢
    simp -implicitDefEqProofs [hk,hy,Zi.c,Zn.c,e2,g1,g2]
   ·rw [hc] at g1
    simp only [if_true]
    refine ⟨.cells ((Zi.c ⟨ml,.of l⟩).map .g) :: .map (Rl b) :: .map2 [] :: .map []::(o++[.cells ((Zn.c ⟨xw,xs⟩).map .g)]),?_⟩
    generalize Rl b=M1 at g1 ⊢
    simp -implicitDefEqProofs [hk,hy,Zi.c,Zn.c,e2,g1]
def Zz2 (x:Zm):Bool:=(decide ((x.rep.kvs.l.length:Int)≤40)&&Z7 Vh x.rep.kvs.l)&&(decide ((x.rep.events.l.length:Int)≤40)&&Z7 Tc x.rep.events.l)
def Zn9 (m:Zi):Bool:=(decide (m.l.l.length≤40)&&decide (m.old.l.length≤20))&&Z7 Zz2 m.l.l
theorem Zz3 (m:Zi) (wf:m.wf) (H:List Blk):EvF tab 33 [A m.c] H=some ⟨B (Zn9 m),[],[]⟩:=by
 obtain ⟨ml,mo⟩:=m
 obtain ⟨⟨w1,w2⟩,⟨w3,w4⟩⟩:=wf
 simp only at w1 w2 w3 w4
 have hw:=Y4 (E:=EvF tab) (h:=H) (c:=Zjp) (lv:=[1,3]) (l:=ml.l) Zz2 (fun k=>⟨[(1,.ptr H.length 0),(3,I k)],[],[.cells ((Zi.c ⟨ml,mo⟩).map .g)]⟩) (.exit 0,⟨[(1,.ptr H.length 0),(3,I ml.l.length),(18,B false)],[],[.cells ((Zi.c ⟨ml,mo⟩).map .g)]⟩) (.ret,⟨[(2,B false)],[],[.cells ((Zi.c ⟨ml,mo⟩).map .g)]⟩) (by simp) (by simp) (fun k x hk hx hy => ?_) (by delta Zjp;simp -implicitDefEqProofs [Zi.c])
 ·refine Zb t33 (by simp) ?_
  unfold Zn9
  simp only [Zi.c,List.map_cons,List.map_nil,Int.ofNat_zero,Int.cast_ofNat_Int] at hw
  have hlen:∀h s,X4 h s (.g (MemoL.g ml))=some ml.l.length:=fun h s=>Xa ..
  have hlen2:∀h s,X4 h s (.g (Floors.g mo))=some mo.l.length:=fun h s=>Xa ..
  generalize hg1:MemoL.g ml=G1 at hw hlen
  generalize hg2:Floors.g mo=G2 at hw hlen2
  by_cases c1:ml.l.length≤40
  ·have c1I:¬(40:Int)<(ml.l.length:Int):=by omega
   by_cases c2:mo.l.length≤20
   ·have c2I:¬(20:Int)<(mo.l.length:Int):=by omega
    cases hs:Z7 Zz2 ml.l <;> rw [hs] at hw <;> simp only [Bool.false_eq_true,if_true,if_false] at hw
    ·simp -implicitDefEqProofs [A,Zi.c,hg1,hg2,hlen,hlen2,hw,c1,c2,c1I,c2I]
    ·simp -implicitDefEqProofs [A,Zi.c,hg1,hg2,hlen,hlen2,hw,c1,c2,c1I,c2I]
   ·have c2I:(20:Int)<(mo.l.length:Int):=by omega
    simp -implicitDefEqProofs [A,Zi.c,hg1,hg2,hlen,hlen2,c1,c2,c1I,c2I]
  ·have c1I:(40:Int)<(ml.l.length:Int):=by omega
   simp -implicitDefEqProofs [A,Zi.c,hg1,hg2,hlen,c1,c1I]
 ·have e2:=Zh hk w2
  have hxw:=w1 x (List.mem_of_getElem? hx)
  obtain ⟨_,_,r1,r2,r3,r4,r5,r6,⟨_,r7⟩,⟨_,r8⟩⟩:=hxw
  have f1:=fun H=>Zsd x.rep.kvs r7 40 H
  have f2:=fun H=>Kc x.rep.events r8 40 H
  delta Zjp
  unfold Zz2
  generalize (decide ((x.rep.kvs.l.length:Int)≤40)&&Z7 Vh x.rep.kvs.l)=b1 at f1 ⊢
  generalize (decide ((x.rep.events.l.length:Int)≤40)&&Z7 Tc x.rep.events.l)=b2 at f2 ⊢
  cases ml with
  | nil=>simp at hk
  | of l =>
   simp only [Sl.l_of] at hk hy
   obtain ⟨xw,xs,x1,x2,x3,x4,x5,x6,x7,x8,x9⟩:=x
   simp only at f1 f2
   generalize hgk:KVs.g x8=GK at f1
   generalize hge:Evs.g x9=GE at f2
   cases b1
   ·simp -implicitDefEqProofs [hk,hy,Zi.c,Zm.c,hgk,hge,f1]
   ·cases b2
    ·simp -implicitDefEqProofs [hk,hy,Zi.c,Zm.c,hgk,hge,f1,f2]
    ·simp -implicitDefEqProofs [hk,hy,Zi.c,Zm.c,hgk,hge,f1,f2,e2]
theorem Zhs {m:Zi} (h:Zn9 m=true):m.l.l.length≤40∧m.old.l.length≤20:=by
 unfold Zn9 at h
 simp only [Bool.and_eq_true,decide_eq_true_eq] at h
 exact ⟨h.1.1,h.1.2⟩
theorem Zar (r:Zj):Zky r r:=⟨rfl,rfl,rfl,rfl,rfl,rfl,rfl,rfl,rfl⟩
theorem C6 (r:Zj) (wr:r.wf) (H:List Blk):EvF tab 23 [A r.c,A r.c] H=some ⟨B true,[],[]⟩:=Zs8 r r (Zar r) wr.2.2.2.2.2.2.1.2 wr.2.2.2.2.2.2.2.2 H
theorem Zta (a b:Zi) (h1:a.l.l=b.l.l) (h2:a.old.l=b.old.l) (wf:b.wf) (H:List Blk):EvF tab 40 [A a.c,A b.c] H=some ⟨B true,[],[]⟩:=by
 obtain ⟨al,ao⟩:=a
 obtain ⟨bl,bo⟩:=b
 obtain ⟨⟨w1,w2⟩,⟨w3,w4⟩⟩:=wf
 simp only at h1 h2 w1 w2 w3 w4
 have hw:Ya (EvF tab) H Zjv [2,3,5] ⟨[(2,.ptr H.length 0),(3,.ptr (H.length+1) 0),(5,I 0)],[],[.cells ((Zi.c ⟨al,ao⟩).map .g),.cells ((Zi.c ⟨bl,bo⟩).map .g)]⟩ =
   some (.exit 0,⟨[(2,.ptr H.length 0),(3,.ptr (H.length+1) 0),(5,I bl.l.length),(27,B false)],[],[.cells ((Zi.c ⟨al,ao⟩).map .g),.cells ((Zi.c ⟨bl,bo⟩).map .g)]⟩):=by
  refine Oq bl.l.length (fun k=>⟨[(2,.ptr H.length 0),(3,.ptr (H.length+1) 0),(5,I k)],[],_⟩) _ (by simp) (fun k hk => ?_) ?_
  ·delta Zjv
   have e2:=Zh hk w2
   have hal:=fun (hk:k<bl.l.length) H=>C6 bl.l[k].rep (w1 bl.l[k] (List.getElem_mem hk)).2.2 H
   rcases Sl.both h1 with ⟨l,⟨rfl,rfl⟩ | ⟨rfl,rfl,rfl⟩ | ⟨rfl,rfl,rfl⟩ | ⟨rfl,rfl,rfl⟩⟩
   ·simp only [Sl.l_of] at hk hal
    have hal:=hal hk
    obtain ⟨x,hx⟩:∃x,l[k]=x:=⟨_,rfl⟩
    rw [hx] at hal
    obtain ⟨xw,xs,x1,x2,x3,x4,x5,x6,x7,x8,x9⟩:=x
    simp only [A,Zj.c,List.map_cons,List.map_nil] at hal
    simp -implicitDefEqProofs [hk,hx,Zi.c,Zm.c,e2,hal]
   all_goals simp at hk
  ·delta Zjv
   rcases Sl.both h1 with ⟨l,⟨rfl,rfl⟩ | ⟨rfl,rfl,rfl⟩ | ⟨rfl,rfl,rfl⟩ | ⟨rfl,rfl,rfl⟩⟩ <;> simp -implicitDefEqProofs [Zi.c]
 have hw2:Ya (EvF tab) H Zjw [2,3,6] ⟨[(2,.ptr H.length 0),(3,.ptr (H.length+1) 0),(6,I 0)],[],[.cells ((Zi.c ⟨al,ao⟩).map .g),.cells ((Zi.c ⟨bl,bo⟩).map .g)]⟩ =
   some (.exit 2,⟨[(2,.ptr H.length 0),(3,.ptr (H.length+1) 0),(6,I bo.l.length),(78,B false)],[],[.cells ((Zi.c ⟨al,ao⟩).map .g),.cells ((Zi.c ⟨bl,bo⟩).map .g)]⟩):=by
  refine Oq bo.l.length (fun k=>⟨[(2,.ptr H.length 0),(3,.ptr (H.length+1) 0),(6,I k)],[],_⟩) _ (by simp) (fun k hk => ?_) ?_
  ·delta Zjw
   have e2:=Zh hk w4
   rcases Sl.both h2 with ⟨l,⟨rfl,rfl⟩ | ⟨rfl,rfl,rfl⟩ | ⟨rfl,rfl,rfl⟩ | ⟨rfl,rfl,rfl⟩⟩
   ·simp only [Sl.l_of] at hk
    obtain ⟨x,hx⟩:∃x,l[k]=x:=⟨_,rfl⟩
    simp -implicitDefEqProofs [hk,hx,Zi.c,Zn.c,e2]
   all_goals simp at hk
  ·delta Zjw
   rcases Sl.both h2 with ⟨l,⟨rfl,rfl⟩ | ⟨rfl,rfl,rfl⟩ | ⟨rfl,rfl,rfl⟩ | ⟨rfl,rfl,rfl⟩⟩ <;> simp -implicitDefEqProofs [Zi.c]
 have l1:∀h s,X4 h s (.g (MemoL.g al))=some bl.l.length:=fun h s=>by rw [Xa,h1]
 have l2:∀h s,X4 h s (.g (MemoL.g bl))=some bl.l.length:=fun h s=>Xa ..
 have l3:∀h s,X4 h s (.g (Floors.g ao))=some bo.l.length:=fun h s=>by rw [Xa,h2]
 have l4:∀h s,X4 h s (.g (Floors.g bo))=some bo.l.length:=fun h s=>Xa ..
 refine Zb t40 (by simp) ?_
 simp only [A,Zi.c,List.map_cons,List.map_nil] at hw hw2 ⊢
 generalize MemoL.g al=G1 at hw hw2 l1 ⊢
 generalize MemoL.g bl=G2 at hw hw2 l2 ⊢
 generalize Floors.g ao=G3 at hw hw2 l3 ⊢
 generalize Floors.g bo=G4 at hw hw2 l4 ⊢
 simp -implicitDefEqProofs [hw,hw2,l1,l2,l3,l4]
theorem Ez (w y:Int):∀l:List Zn,(Yy l w y).length≤l.length+1
 | []=>by simp [Yy]
 | f::l=>by
  have:=Ez w y l
  unfold Yy
  split <;> simp <;> omega
theorem C7 (m:Zi) (w q:Int) (r:Zj):(X6 m w q r).l.l.length≤m.l.l.length+1∧(X6 m w q r).old.l.length≤m.old.l.length+1:=by
 unfold X6
 split
 ·omega
 ·split
  ·simp [Z5]
  ·have h1:=Ez w (Te (Yj (Z5 m.l.l w q r) w)) m.old.l
   have h2:(Tq (Z5 m.l.l w q r) w (Te (Yj (Z5 m.l.l w q r) w))).length≤(Z5 m.l.l w q r).length:=by unfold Tq;exact (List.eraseIdx_sublist _ _).length_le
   have h3:(Z5 m.l.l w q r).length=m.l.l.length+1:=by simp [Z5]
   simp only [Sl.l_of];omega
theorem Ztb {m:Zi} {w q:Int} {r:Zj} (wm:m.wf) (hl:m.l.l.length≤10000∧m.old.l.length≤10000) (ww:I64 w) (wq:I64 q) (wr:r.wf):(X6 m w q r).wf:=by
 have hlen:=C7 m w q r
 have hL:∀x∈Z5 m.l.l w q r,x.wf:=fun x hx=>by
  unfold Z5 at hx
  rcases List.mem_append.1 hx with hx | hx
  ·exact wm.1.1 x hx
  ·rw [List.mem_singleton] at hx;subst hx;exact ⟨ww,wq,wr⟩
 refine ⟨⟨fun x hx => ?_,by omega⟩,⟨fun f hf => ?_,by omega⟩⟩
 ·unfold X6 at hx
  split at hx
  ·exact wm.1.1 x hx
  ·split at hx
   ·exact hL x hx
   ·exact hL x ((List.eraseIdx_sublist _ _).subset hx)
 ·unfold X6 at hf
  split at hf
  ·exact wm.2.1 f hf
  ·split at hf
   ·exact wm.2.1 f hf
   ·rename_i h4
    simp only [Sl.l_of] at hf
    have hne:Yj (Z5 m.l.l w q r) w ≠ []:=fun e=>by rw [e] at h4;simp at h4
    obtain ⟨x,hx,hp⟩:=El _ w hne
    have hxs:=(hL x hx).2.1
    rw [Tf] at hp
    have hxe:x.seq=Te (Yj (Z5 m.l.l w q r) w):=congrArg Prod.snd hp
    rcases En hf with hf | ⟨g1,g2,g3 | ⟨g,g4,g5,g6⟩⟩
    ·exact wm.2.1 f hf
    ·exact ⟨g1▸ww,by rw [g3,←hxe];exact hxs⟩
    ·exact ⟨g1▸ww,by rw [g6];exact (wm.2.1 g g4).2⟩
def Zas (a b:Int):Int:=if a<b then -1 else if b<a then 1 else 0
def Zht (a b:Bs):Int:=if Op.bytesLess a b=true then -1 else if Op.bytesLess b a=true then 1 else 0
theorem Zk1 (a:Int) (H:List Blk):EvF tab 224 [I a] H=some ⟨B false,[],[]⟩:=by
 refine Zb Yct (by simp) ?_
 simp -implicitDefEqProofs
theorem Zat (a:Bs) (H:List Blk):EvF tab 232 [T a] H=some ⟨B false,[],[]⟩:=by
 refine Zb Yc0 (by simp) ?_
 simp -implicitDefEqProofs
theorem Zau (a b:Int) (H:List Blk):EvF tab 230 [I a,I b] H=some ⟨I (Zas a b),[],[]⟩:=by
 refine Zb Ycy (by simp) ?_
 unfold Zas
 by_cases h1:a<b
 ·simp -implicitDefEqProofs [Zk1,h1]
 ·by_cases h2:b<a <;> simp -implicitDefEqProofs [Zk1,h1,h2]
theorem Zz4 (a b:Bs) (H:List Blk):EvF tab 231 [T a,T b] H=some ⟨I (Zht a b),[],[]⟩:=by
 refine Zb Ycz (by simp) ?_
 unfold Zht
 rcases Jn a b with h | h | h
 ·simp -implicitDefEqProofs [Zat,h]
 ·subst h
  simp -implicitDefEqProofs [Zat,W7]
 ·simp -implicitDefEqProofs [Zat,h,Sf h,(Py h).symm]
def Du (c:Cmp) (x:KV):AV := .agg ((c.c++x.c).map .g)
theorem Zhu (c:Cmp) (x:KV) (H:List Blk):EvF tab 225 [Du c x] H=some ⟨I (Zas x.create c.n),[],[]⟩:=by
 refine Zb Ycu (by simp) ?_
 simp -implicitDefEqProofs [Du,Cmp.c,KV.c,Zau]
theorem Zz5 (c:Cmp) (x:KV) (H:List Blk):EvF tab 226 [Du c x] H=some ⟨I (Zas x.mod c.n),[],[]⟩:=by
 refine Zb Ycv (by simp) ?_
 simp -implicitDefEqProofs [Du,Cmp.c,KV.c,Zau]
theorem Zeg (c:Cmp) (x:KV) (H:List Blk):EvF tab 227 [Du c x] H=some ⟨I (Zas x.version c.n),[],[]⟩:=by
 refine Zb Ycw (by simp) ?_
 simp -implicitDefEqProofs [Du,Cmp.c,KV.c,Zau]
theorem Zoa (c:Cmp) (x:KV) (H:List Blk):EvF tab 228 [Du c x] H=some ⟨I (Zht x.value c.value),[],[]⟩:=by
 refine Zb Ycx (by simp) ?_
 simp -implicitDefEqProofs [Du,Cmp.c,KV.c,Zz4]
def Uz (c:Cmp):Bool:=decide (1≤c.what)&&(decide (c.what≤4)&&(decide (1≤c.how)&&decide (c.how≤3)))
theorem Zk2 (c:Cmp) (H:List Blk):EvF tab 186 [A c.c] H=some ⟨B (Uz c),[],[]⟩:=by
 refine Zb Yca (by simp) ?_
 unfold Uz
 obtain ⟨k,w,h,n,v⟩:=c
 simp only
 by_cases h1:1≤w
 ·by_cases h2:w≤4
  ·by_cases h3:1≤h
   ·by_cases h4:h≤3 <;> simp -implicitDefEqProofs [A,Cmp.c,h1,h2,h3,h4]
   ·simp -implicitDefEqProofs [A,Cmp.c,h1,h2,h3]
  ·simp -implicitDefEqProofs [A,Cmp.c,h1,h2]
 ·simp -implicitDefEqProofs [A,Cmp.c,h1]
def Zhv (how a b:Int):Bool:=(decide (how=1)&&decide (a=b))||((decide (how=2)&&decide (a<b))||(decide (how=3)&&decide (b<a)))
def Zz6 (how:Int) (a b:Bs):Bool:=(decide (how=1)&&a==b)||((decide (how=2)&&Op.bytesLess a b)||(decide (how=3)&&Op.bytesLess b a))
def We (l:List KV) (c:Cmp):Bool :=
 if c.what=1 then Zhv c.how (W6 l c.key).create c.n else if c.what=2 then Zhv c.how (W6 l c.key).mod c.n else
 if c.what=3 then Zhv c.how (W6 l c.key).version c.n else if c.what=4 then Zz6 c.how (W6 l c.key).value c.value else false
theorem Mh (a how b:Int) (H:List Blk):EvF tab 217 [I a,I how,I b] H=some ⟨B (Zhv how a b),[],[]⟩:=by
 refine Zb Ycr (by simp) ?_
 unfold Zhv
 by_cases h1:how=1
 ·subst h1
  by_cases h2:a=b <;> simp -implicitDefEqProofs [h2]
 ·by_cases h2:how=2
  ·subst h2
   by_cases h3:a<b <;> simp -implicitDefEqProofs [h3]
  ·by_cases h3:how=3
   ·subst h3
    by_cases h4:b<a <;> simp -implicitDefEqProofs [h4]
   ·simp -implicitDefEqProofs [h1,h2,h3]
theorem Zob (s:Sl KV) (c:Cmp) (hl:s.l.length≤9223372036854775807) (H:List Blk):EvF tab 197 [.g (KVs.g s),A c.c] H=some ⟨B (We s.l c),[],[]⟩:=by
 have h1:=fun H=>F6 s c.key hl H
 refine Zb Ycj (by simp) ?_
 unfold We
 generalize W6 s.l c.key=x at h1 ⊢
 generalize Ua s.l c.key=b at h1
 obtain ⟨x1,x2,x3,x4,x5,x6⟩:=x
 obtain ⟨k,w,h,n,v⟩:=c
 simp only [A,KV.c,List.map_cons,List.map_nil] at h1 ⊢
 by_cases w1:w=1
 ·subst w1
  simp -implicitDefEqProofs [Yc,Cmp.c,h1,Mh]
 ·by_cases w2:w=2
  ·subst w2
   simp -implicitDefEqProofs [Yc,Cmp.c,h1,Mh]
  ·by_cases w3:w=3
   ·subst w3
    simp -implicitDefEqProofs [Yc,Cmp.c,h1,Mh]
   ·by_cases w4:w=4
    ·subst w4
     unfold Zz6
     by_cases i1:h=1
     ·subst i1
      by_cases j:x2=v <;> simp -implicitDefEqProofs [Yc,Cmp.c,h1,j]
     ·by_cases i2:h=2
      ·subst i2
       cases j:Op.bytesLess x2 v <;> simp -implicitDefEqProofs [Yc,Cmp.c,h1,j]
      ·by_cases i3:h=3
       ·subst i3
        rcases Jn x2 v with j | j | j
        ·simp -implicitDefEqProofs [Yc,Cmp.c,h1,j,Sf j]
        ·subst j
         simp -implicitDefEqProofs [Yc,Cmp.c,h1,W7]
        ·simp -implicitDefEqProofs [Yc,Cmp.c,h1,j,Sf j,(Py j).symm]
       ·simp -implicitDefEqProofs [Yc,Cmp.c,h1,i1,i2,i3]
    ·simp -implicitDefEqProofs [Yc,Cmp.c,h1,w1,w2,w3,w4]
theorem Zz7 (H:List Blk):EvF tab 218 [] H=some ⟨.agg [.g .nfn,.g (.fn 225),.g (.fn 226),.g (.fn 227),.g (.fn 228)],[],[.cells [.g .nfn,.g (.fn 225),.g (.fn 226),.g (.fn 227),.g (.fn 228)]]⟩:=by
 refine Zb Ycs (by simp) ?_
 simp -implicitDefEqProofs
theorem E2 {a b:Int}:(Zas a b==0)=decide (a=b)∧(Zas a b == -1)=decide (a<b)∧(Zas a b==1)=decide (b<a):=by
 unfold Zas
 by_cases h1:a<b
 ·rw [if_pos h1];exact ⟨by simp;omega,by simp [h1],by simp;omega⟩
 ·rw [if_neg h1]
  by_cases h2:b<a
  ·rw [if_pos h2];exact ⟨by simp;omega,by simp;omega,by simp [h2]⟩
  ·rw [if_neg h2];exact ⟨by simp;omega,by simp;omega,by simp;omega⟩
theorem Ztc {a b:Bs}:(Zht a b==0)=(a==b)∧(Zht a b == -1)=Op.bytesLess a b∧(Zht a b==1)=Op.bytesLess b a:=by
 unfold Zht
 rcases Jn a b with h | h | h
 ·simp [h,Sf h,Py h]
 ·subst h;simp [W7]
 ·simp [h,Sf h,(Py h).symm]
theorem Ztd (s:Sl KV) (c:Cmp) (hl:s.l.length≤9223372036854775807) (H:List Blk):EvF tab 203 [.g (KVs.g s),A c.c] H=some ⟨B (Uz c&&We s.l c),[],[]⟩:=by
 have h1:=fun H=>H9 s c.key hl H
 have h2:=fun H=>Zk2 c H
 refine Zb Yco (by simp) ?_
 unfold We
 generalize W6 s.l c.key=x at h1 ⊢
 generalize Ua s.l c.key=b at h1
 have q1:=fun H=>Zhu c x H
 have q2:=fun H=>Zz5 c x H
 have q3:=fun H=>Zeg c x H
 have q4:=fun H=>Zoa c x H
 obtain ⟨x1,x2,x3,x4,x5,x6⟩:=x
 cases ho:Uz c
 ·rw [ho] at h2
  obtain ⟨k,w,h,n,v⟩:=c
  simp only [A,KV.c,Cmp.c,Du,List.cons_append,List.nil_append,List.map_cons,List.map_nil] at h1 h2 ⊢
  simp -implicitDefEqProofs [h2]
 ·rw [ho] at h2
  unfold Uz at ho
  simp only [Bool.and_eq_true,decide_eq_true_eq] at ho
  obtain ⟨k,w,h,n,v⟩:=c
  simp only [A,KV.c,Cmp.c,Du,List.cons_append,List.nil_append,List.map_cons,List.map_nil] at h1 h2 q1 q2 q3 q4 ho ⊢
  have hw:w=1∨w=2∨w=3∨w=4:=by omega
  have hh:h=1∨h=2∨h=3:=by omega
  obtain ⟨n1,n2,n3⟩:=E2 (a:=x3) (b:=n)
  obtain ⟨n4,n5,n6⟩:=E2 (a:=x4) (b:=n)
  obtain ⟨n7,n8,n9⟩:=E2 (a:=x5) (b:=n)
  obtain ⟨s1,s2,s3⟩:=Ztc (a:=x2) (b:=v)
  rcases hw with rfl | rfl | rfl | rfl <;> rcases hh with rfl | rfl | rfl <;> simp -implicitDefEqProofs [Yc,h1,h2,Zz7,q1,q2,q3,q4,Zhv,Zz6,n1,n2,n3,n4,n5,n6,n7,n8,n9,s1,s2,s3]
def Yv:List KV→Bs→Option KV
 | [],_=>none
 | y::l,k=>if y.key=k then some y else Yv l k
def Srt (l:List KV):Prop:=l.Pairwise fun a b=>Op.bytesLess a.key b.key=true
theorem Tu {k:Bs} {x:KV}:∀{l:List KV},Yv l k=some x→x∈l∧x.key=k
 | [],h=>by simp [Yv] at h
 | y::l,h=>by
  unfold Yv at h
  split at h
  ·rename_i hk;cases h;exact ⟨List.mem_cons_self,hk⟩
  ·obtain ⟨h1,h2⟩:=Tu h;exact ⟨List.mem_cons_of_mem _ h1,h2⟩
theorem Kn {k:Bs}:∀{l:List KV},(∀x∈l,x.key ≠ k)→Yv l k=none
 | [],_=>rfl
 | y::l,h=>by
  unfold Yv
  rw [if_neg (h y List.mem_cons_self)]
  exact Kn fun x hx=>h x (List.mem_cons_of_mem _ hx)
theorem Jw (k:Bs):∀(l:List KV) i,match Vl k i l with | some j=>i≤j∧∃x,l[j - i]? = some x∧Yv l k=some x | none=>Yv l k=none
 | [],i=>rfl
 | y::l,i=>by
  unfold Vl Yv
  by_cases h:y.key=k
  ·simp [h]
  ·simp only [if_neg h]
   have:=Jw k l (i+1)
   split at this
   ·rename_i j hj
    obtain ⟨h1,x,h2,h3⟩:=this
    refine ⟨by omega,x,?_,h3⟩
    rw [show j - i=(j - (i+1))+1 by omega,List.getElem?_cons_succ];exact h2
   ·exact this
theorem Qy (l:List KV) (k:Bs):Ua l k=(Yv l k).isSome:=by
 have:=Jw k l 0
 unfold Ua
 split at this
 ·rename_i j hj
  obtain ⟨-,x,-,h⟩:=this
  rw [hj,h];rfl
 ·rename_i hj
  rw [hj,this];rfl
theorem Jx (l:List KV) (k:Bs):W6 l k=(Yv l k).getD kv0:=by
 have:=Jw k l 0
 unfold W6
 split at this
 ·rename_i j hj
  obtain ⟨-,x,h1,h⟩:=this
  rw [Nat.sub_zero] at h1
  rw [hj,h];simp only [h1]
 ·rename_i hj
  rw [hj,this];rfl
theorem Srt.cons {y:KV} {l:List KV}:Srt (y::l)↔(∀x∈l,Op.bytesLess y.key x.key=true)∧Srt l:=List.pairwise_cons
theorem Zeh {x:KV}:∀{l:List KV},Srt l→x∈l→Yv l x.key=some x
 | [],_,h=>by cases h
 | y::l,hs,h=>by
  obtain ⟨h1,h2⟩:=Srt.cons.1 hs
  unfold Yv
  rcases List.mem_cons.1 h with rfl | h
  ·rw [if_pos rfl]
  ·rw [if_neg (Py (h1 x h))];exact Zeh h2 h
theorem Zz8 {x:KV} {y:KV} {l:List KV} (h1:∀z∈l,Op.bytesLess y.key z.key=true) (h:Op.bytesLess y.key x.key=true):∀z∈Un l x,Op.bytesLess y.key z.key=true:=by
 intro z hz
 rcases Kj hz with hz | rfl
 ·exact h1 z hz
 ·exact h
theorem Zei (x:KV):∀{l:List KV},Srt l→Srt (Un l x)
 | [],_=>List.pairwise_singleton _ _
 | y::l,hs=>by
  obtain ⟨h1,h2⟩:=Srt.cons.1 hs
  unfold Un
  split
  ·rename_i h
   exact Srt.cons.2 ⟨Zz8 h1 h,Zei x h2⟩
  ·rename_i h
   split
   ·rename_i hk
    exact Srt.cons.2 ⟨fun z hz=>by rw [←hk];exact h1 z hz,h2⟩
   ·rename_i hk
    have hlt:Op.bytesLess x.key y.key=true:=by
     rcases Jn y.key x.key with h3 | h3 | h3
     ·exact absurd h3 h
     ·exact absurd h3 hk
     ·exact h3
    refine Srt.cons.2 ⟨fun z hz => ?_,hs⟩
    rcases List.mem_cons.1 hz with rfl | hz
    ·exact hlt
    ·exact M7 _ _ _ hlt (h1 z hz)
theorem Zej (x:KV) (k:Bs):∀{l:List KV},Srt l→Yv (Un l x) k=if k=x.key then some x else Yv l k
 | [],_=>by
  unfold Un Yv Yv
  by_cases h:k=x.key
  ·rw [if_pos h,if_pos h.symm]
  ·rw [if_neg h,if_neg (fun e=>h e.symm)]
 | y::l,hs=>by
  obtain ⟨h1,h2⟩:=Srt.cons.1 hs
  unfold Un
  split
  ·rename_i h
   unfold Yv
   rw [Zej x k h2]
   by_cases hy:y.key=k
   ·rw [if_pos hy,if_pos hy,if_neg (fun e=>Py h (hy.trans e))]
   ·rw [if_neg hy,if_neg hy]
  ·rename_i h
   split
   ·rename_i hk
    unfold Yv
    by_cases hx:k=x.key
    ·rw [if_pos hx,if_pos hx.symm]
    ·rw [if_neg hx,if_neg (fun e=>hx e.symm),if_neg (fun e=>hx (e.symm.trans hk))]
   ·rename_i hk
    rw [show Yv (x::y::l) k=if x.key=k then some x else Yv (y::l) k from rfl]
    by_cases hx:k=x.key
    ·rw [if_pos hx,if_pos hx.symm]
    ·rw [if_neg hx,if_neg (fun e=>hx e.symm)]
theorem C8 (k:Bs):∀(l:List KV),(W8 l k).Sublist l
 | []=>List.Sublist.slnil
 | y::l=>by
  unfold W8
  split
  ·exact List.sublist_cons_self _ _
  ·exact (C8 k l).cons_cons _
theorem Zoc (k:Bs) {l:List KV} (h:Srt l):Srt (W8 l k):=List.Pairwise.sublist (C8 k l) h
theorem C9 (k' k:Bs):∀{l:List KV},Srt l→Yv (W8 l k') k=if k=k' then none else Yv l k
 | [],_=>by unfold W8 Yv;split <;> rfl
 | y::l,hs=>by
  obtain ⟨h1,h2⟩:=Srt.cons.1 hs
  unfold W8
  split
  ·rename_i hk
   by_cases h:k=k'
   ·rw [if_pos h,h,←hk]
    exact Kn fun x hx=>(Py (h1 x hx)).symm
   ·rw [if_neg h]
    rw [show Yv (y::l) k=if y.key=k then some y else Yv l k from rfl,if_neg (fun e=>h (e.symm.trans hk))]
  ·rename_i hk
   rw [show Yv (y::W8 l k') k=if y.key=k then some y else Yv (W8 l k') k from rfl,C9 k' k h2]
   rw [show Yv (y::l) k=if y.key=k then some y else Yv l k from rfl]
   by_cases h:k=k'
   ·rw [if_pos h,if_pos h,if_neg (fun e=>hk (e.trans h))]
   ·rw [if_neg h,if_neg h]
theorem Zod {x:KV} (h:Xe x=true):1≤x.key.length:=by
 simp only [Xe,Ux,Bool.and_eq_true,decide_eq_true_eq] at h
 exact h.1.1.1
theorem Zek:∀(l:List KV) (last:Bs),F7 last l=true↔(∀x∈l,Xe x=true∧Op.bytesLess last x.key=true)∧Srt l
 | [],last=>by simp [F7,Srt]
 | x::l,last=>by
  unfold F7
  rw [Bool.and_eq_true,Bool.and_eq_true,Zek l x.key,Srt.cons]
  constructor
  ·rintro ⟨⟨h1,h2⟩,h3,h4⟩
   refine ⟨fun z hz => ?_,fun z hz=>(h3 z hz).2,h4⟩
   rcases List.mem_cons.1 hz with rfl | hz
   ·exact ⟨h1,h2⟩
   ·exact ⟨(h3 z hz).1,M7 _ _ _ h2 (h3 z hz).2⟩
  ·rintro ⟨h1,h2,h3⟩
   exact ⟨h1 x List.mem_cons_self,fun z hz=>⟨(h1 z (List.mem_cons_of_mem _ hz)).1,h2 z hz⟩,h3⟩
theorem Zte (l:List KV):F8 l=true↔(∀x∈l,Xe x=true)∧Srt l:=by
 unfold F8
 rw [Zek]
 constructor
 ·rintro ⟨h1,h2⟩;exact ⟨fun x hx=>(h1 x hx).1,h2⟩
 ·rintro ⟨h1,h2⟩
  refine ⟨fun x hx=>⟨h1 x hx,?_⟩,h2⟩
  have:=Zod (h1 x hx)
  cases hq:x.key with
  | nil=>rw [hq] at this;simp at this
  | cons a b=>rfl
def Ui (l:List KV) (e:Ev):List KV:=if e.gone=true then W8 l e.kv.key else Un l e.kv
theorem Ko {rev:Int} {l:List KV} {e:Ev} (h:e.rev≤rev):Uf rev l e=Ui l e:=by unfold Uf Ui;rw [if_neg (by omega)]
theorem Ztf {rev:Int} {l:List KV} {e:Ev} (h:rev<e.rev):Uf rev l e=l:=by unfold Uf;rw [if_pos h]
theorem Rm {rev:Int}:∀{a:List Ev} {l:List KV},(∀e∈a,e.rev≤rev)→Wy l a rev=a.foldl Ui l
 | [],l,_=>rfl
 | e::a,l,h=>by
  have:=Rm (a:=a) (l:=Ui l e) (rev:=rev) fun x hx=>h x (List.mem_cons_of_mem _ hx)
  unfold Wy at this ⊢
  rw [List.foldl_cons,List.foldl_cons,Ko (h e List.mem_cons_self)];exact this
theorem E3 {rev:Int}:∀{a:List Ev} {l:List KV},(∀e∈a,rev<e.rev)→Wy l a rev=l
 | [],l,_=>rfl
 | e::a,l,h=>by
  have:=E3 (a:=a) (l:=l) (rev:=rev) fun x hx=>h x (List.mem_cons_of_mem _ hx)
  unfold Wy at this ⊢
  rw [List.foldl_cons,Ztf (h e List.mem_cons_self)];exact this
theorem Nh (l:List KV) (a b:List Ev) (rev:Int):Wy l (a++b) rev=Wy (Wy l a rev) b rev:=List.foldl_append
theorem Zel (e:Ev) {l:List KV} (h:Srt l):Srt (Ui l e):=by
 unfold Ui;split
 ·exact Zoc _ h
 ·exact Zei _ h
theorem Ztg (e:Ev) (k:Bs) {l:List KV} (h:Srt l):Yv (Ui l e) k=if k=e.kv.key then (if e.gone=true then none else some e.kv) else Yv l k:=by
 unfold Ui;split
 ·rw [C9 _ _ h]
 ·rw [Zej _ _ h]
theorem Zem {l:List KV} {e:Ev} {y:KV} (h:y∈Ui l e):y∈l∨(e.gone=false∧y=e.kv):=by
 unfold Ui at h
 split at h
 ·exact .inl (Ju h)
 ·rename_i hg
  rcases Kj h with h | h
  ·exact .inl h
  ·exact .inr ⟨Bool.eq_false_iff.2 hg,h⟩
theorem Zk3 {β:Type} (pr:KV→β) (hk:∀a b,pr a=pr b→a.key=b.key):∀{l m:List KV},Srt l→Srt m→(∀k,(Yv l k).map pr=(Yv m k).map pr)→l.map pr=m.map pr
 | [],[],_,_,_=>rfl
 | [],y::m,_,_,h=>by have:=h y.key;simp [Yv] at this
 | x::l,[],_,_,h=>by have:=h x.key;simp [Yv] at this
 | x::l,y::m,hl,hm,h=>by
  obtain ⟨l1,l2⟩:=Srt.cons.1 hl
  obtain ⟨m1,m2⟩:=Srt.cons.1 hm
  have hxy:pr x=pr y:=by
   have e1:=h x.key
   have e2:=h y.key
   by_cases hq:x.key=y.key
   ·simp only [Yv,hq,if_true,Option.map_some,Option.some.injEq] at e1;exact e1
   ·have hq':¬y.key=x.key:=fun e=>hq e.symm
    simp only [Yv,if_true,if_neg hq,if_neg hq',Option.map_some] at e1 e2
    cases g1:Yv m x.key with
    | none=>rw [g1] at e1;cases e1
    | some z =>
     cases g2:Yv l y.key with
     | none=>rw [g2] at e2;cases e2
     | some w =>
      obtain ⟨z1,z2⟩:=Tu g1
      obtain ⟨w1,w2⟩:=Tu g2
      have a1:=m1 z z1
      have a2:=l1 w w1
      rw [z2] at a1
      rw [w2] at a2
      rw [Sf a1] at a2;cases a2
  have hkey:=hk _ _ hxy
  rw [List.map_cons,List.map_cons,hxy]
  congr 1
  refine Zk3 pr hk l2 m2 fun k => ?_
  have e:=h k
  by_cases hq:x.key=k
  ·rw [Kn (l:=l) fun z hz=>by rw [←hq];exact (Py (l1 z hz)).symm,Kn (l:=m) fun z hz=>by rw [←hq,hkey];exact (Py (m1 z hz)).symm]
  ·simp only [Yv,if_neg hq,if_neg (show ¬y.key=k from fun e=>hq (hkey.trans e))] at e
   exact e
end Go.Proofs.YtndfdnlbljhlgaaGreat
