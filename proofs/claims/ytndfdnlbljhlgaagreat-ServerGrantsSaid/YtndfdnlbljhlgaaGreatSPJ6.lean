/- Part of the proof: what the functions answer, part 6 (SWatch1, GFrom, SWatch2, SWatch3, SWatch4, SWatch5, GServ5, GServ6, GLease4, GServ7, GSweep2, GTick2). No conditions. -/
import Derived.Test.YtndfdnlbljhlgaaGreatSPJ5
import Derived.Test.YtndfdnlbljhlgaaGreatSPJ4
import Derived.Test.YtndfdnlbljhlgaaGreatSPJ1
section
namespace Go.Proofs.YtndfdnlbljhlgaaGreat
open Go Go.AM Go.Proofs
set_option maxRecDepth 20000
set_option maxHeartbeats 1000000
set_option linter.unusedSimpArgs false
set_option linter.unusedVariables false
theorem HasPrefix0_ev (k p:Bs) (H:List Blk):EvF tab 202 [T k,T p] H=some ⟨B (preP p k),[],[]⟩:=by
 refine EvF_walk t202 (by simp) ?_
 unfold preP
 by_cases h:p.length≤k.length
 ·simp -implicitDefEqProofs [h,cutB,bnd,intOfA]
 ·simp -implicitDefEqProofs [h]
theorem HasPrefix_ev (k p:Bs) (H:List Blk):EvF tab 184 [T k,T p] H=some ⟨B (preP p k),[],[]⟩:=by
 refine EvF_walk t184 (by simp) ?_
 simp -implicitDefEqProofs [HasPrefix0_ev]
theorem runG_filterI {α:Type} (p:α→Bool):∀(l:List α) k r,runG (fun _ (x:α) (r:List α)=>(if p x=true then .inl (r++[x]) else .inl r:List α⊕Nat)) k l r = .inl (r++l.filter p):=by
 intro l
 induction l with
 | nil=>intro k r;simp [runG]
 | cons x l ih =>
  intro k r
  cases h:p x
  ·simp only [runG,h,Bool.false_eq_true,if_false,List.filter_cons]
   rw [ih]
  ·simp only [runG,h,if_true,List.filter_cons]
   rw [ih];simp
theorem of_ev (s:Sl Ev) (p:Bs) (rev:Int) (hl:s.l.length≤1000000) (H:List Blk):EvF tab 189 [.g (Evs.g s),T p,I rev] H=some ⟨.g (Evs.g (slOf (ofP s.l p rev))),[],[]⟩:=by
 refine EvF_walk t189 (by simp) ?_
 have hw:=loop_runJ (E:=EvF tab) (h:=H) (c:=L189_0) (lv:=[1,2,7,10,11,12]) (l:=s.l) (β:=List Ev) (γ:=Nat) (fun k r=>r.length≤k) (fun _ x r=>if inP p rev x=true then .inl (r++[x]) else .inl r)
  (fun k r o=>⟨[(1,T p),(2,I rev),(7,.ms (H.length+1) (r.length+1) 8 0 r.length),(10,.g (Evs.g s)),(11,I s.l.length),(12,I k)],[],.rows 8 1 [] :: .rows 8 (r.length+1) (r.map Ev.c)::o⟩)
  (fun r o=>(.exit 0,⟨[(1,T p),(2,I rev),(7,.ms (H.length+1) (r.length+1) 8 0 r.length),(10,.g (Evs.g s)),(11,I s.l.length),(12,I s.l.length),(13,B false)],[],.rows 8 1 [] :: .rows 8 (r.length+1) (r.map Ev.c)::o⟩))
  (fun _ o=>(.ret,⟨[],[],o⟩)) (by simp) (by simp) (fun k x r o hk hx hy hi => ?_) (fun r o _=>by delta L189_0;simp -implicitDefEqProofs) [] [] (by simp)
 ·obtain ⟨o',hw⟩:=hw
  rw [runG_filterI] at hw
  simp only [endJ,List.nil_append,List.map_nil,List.length_nil,Int.ofNat_zero,Int.cast_ofNat_Int,Nat.zero_add] at hw
  rw [show s.l.filter (inP p rev)=ofP s.l p rev from rfl] at hw
  obtain ⟨r,hr⟩:∃r,ofP s.l p rev=r:=⟨_,rfl⟩
  rw [hr] at hw ⊢
  cases r with
  | nil=>simp -implicitDefEqProofs [hw,slOf]
  | cons y r =>
   have e1:List.take r.length (List.map Ev.c r)=List.map Ev.c r:=List.take_of_length_le (by simp)
   simp -implicitDefEqProofs [hw,slOf,e1]
 ·have e2:=wrap_succ hk (by omega)
  have h1:=fun H=>HasPrefix_ev x.kv.key p H
  delta L189_0
  cases s with
  | nil=>simp at hk
  | of l =>
   simp only [Sl.l_of] at hk hy hl
   have e3:List.take r.length (List.map Ev.c r)=List.map Ev.c r:=List.take_of_length_le (by simp)
   by_cases hd:rev≤x.rev
   ·cases hp0:preP p x.kv.key
    ·have hp:inP p rev x=false:=by simp [inP,hp0]
     rw [hp0] at h1
     simp only [hp,Bool.false_eq_true,if_false]
     refine ⟨by omega,o++[.cells (x.c.map .g)],?_⟩
     simp -implicitDefEqProofs [hk,hy,Ev.c,hd,e2,h1]
    ·have hp:inP p rev x=true:=by simp [inP,hp0,hd]
     rw [hp0] at h1
     simp only [hp,if_true]
     refine ⟨by simp;omega,o++[.cells (x.c.map .g)],?_⟩
     simp -implicitDefEqProofs [hk,hy,Ev.c,hd,e2,h1,appV,room,Nat.not_succ_le_self,chunk,show r.length+1≤140737488355328 by omega,show (r.length+1)*80≤140737488355328 by omega,e3]
   ·have hp:inP p rev x=false:=by simp [inP,hd]
    simp only [hp,Bool.false_eq_true,if_false]
    refine ⟨by omega,o++[.cells (x.c.map .g)],?_⟩
    simp -implicitDefEqProofs [hk,hy,Ev.c,hd,e2]
end Go.Proofs.YtndfdnlbljhlgaaGreat
end
section
namespace Go.Proofs.YtndfdnlbljhlgaaGreat
open Go Go.AM Go.Proofs
set_option maxRecDepth 20000
set_option maxHeartbeats 2000000
set_option linter.unusedSimpArgs false
set_option linter.unusedVariables false
def fromP (l:List KV) (p:Bs):List KV:=l.filter fun x=>preP p x.key
end Go.Proofs.YtndfdnlbljhlgaaGreat
end
section
namespace Go.Proofs.YtndfdnlbljhlgaaGreat
open Go Go.AM Go.Proofs
set_option maxRecDepth 20000
set_option maxHeartbeats 2000000
set_option linter.unusedSimpArgs false
set_option linter.unusedVariables false
end Go.Proofs.YtndfdnlbljhlgaaGreat
end
section
namespace Go.Proofs.YtndfdnlbljhlgaaGreat
open Go Go.AM Go.Proofs
set_option maxRecDepth 20000
set_option maxHeartbeats 2000000
set_option linter.unusedSimpArgs false
set_option linter.unusedVariables false
theorem get_app (h L:List Blk) (k:Nat):(h++L)[h.length+k]? = L[k]?:=by rw [List.getElem?_append_right (by omega),Nat.add_sub_cancel_left]
theorem set_app (h L:List Blk) (k:Nat) (b:Blk):(h++L).set (h.length+k) b=h++L.set k b:=by
 rw [List.set_append_right _ _ (by omega),Nat.add_sub_cancel_left]
theorem getB_app (h L:List Blk) (t:List (Nat×AV)) (m:List (Nat×Blk)) (o:List Blk) (k:Nat) (hk:k<L.length):getB (h++L) ⟨t,m,o⟩ (h.length+k)=orB (lookM m (h.length+k)) L[k]?:=by
 rw [getB_old (by rw [List.length_append];omega),get_app]
theorem setB_app (h L:List Blk) (t:List (Nat×AV)) (m:List (Nat×Blk)) (o:List Blk) (k:Nat) (b:Blk) (hk:k<L.length):setB (h++L) ⟨t,m,o⟩ (h.length+k) b=⟨t,updM m (h.length+k) b,o⟩:=by
 rw [setB_old (by rw [List.length_append];omega)]
theorem app_growG {h:List Blk} {id sz bytes g:Nat} {xs ys:List (List GV)} (hid:id<h.length) (hne:ys ≠ []) (h1:xs.length+ys.length≤140737488355328) (h2:(xs.length+ys.length)*bytes≤140737488355328) (t:List (Nat×AV)) (m:List (Nat×Blk)) (o:List Blk)
  (hg:getB h ⟨t,m,o⟩ id=some (.rows sz g xs)) :
  appV h ⟨t,m,o⟩ sz bytes (.ms id g sz 0 xs.length) ys=some (.ms id (g+1) sz 0 (xs.length+ys.length),⟨t,updM m id (.rows sz (g+1) (xs++ys)),o⟩,[id]):=by
 cases ys with
 | nil=>exact absurd rfl hne
 | cons y ys =>
  simp only [List.length_cons] at h1 h2
  have e:¬xs.length+(ys.length+1)≤xs.length:=by omega
  simp only [appV,hg,true_and,if_true,List.length_cons,Nat.zero_add,if_neg e,Nat.le_refl,room,h1,h2,decide_true,Bool.and_self,setB_old hid,List.take_length]
def lpT (n:Nat):List (Nat×AV):=[(7,.ptr (n+1) 0),(8,.ptr (n+3) 0),(9,.ptr (n+4) 0),(10,.ptr (n+5) 0),(11,.ptr (n+7) 0)]
noncomputable def tenB (n:Nat) (s:Store) (most:Int) (res:AV) (n1 n2:Int) (g:Nat) (out:List Ev) (G:GV) (j:Option (Option Nat)):List Blk :=
 [.cells (s.c.map .g),.cells [I most],.rows 8 1 [],.cells [res],.cells [I n1],.cells [I n2],.rows 8 g (out.map Ev.c),.cells [.ms (n+6) g 8 0 out.length],.cells [.g G],.lp rd155 (lpT n) j]
theorem round_fits (s:Store) (most:Int) (g:Nat) (out grp:List Ev) (G:GV) (hne:grp ≠ []) (hsz:out.length+grp.length≤1000000) (hf:((out.length+grp.length:Nat):Int)≤most) (H:List Blk) :
  evRound (EvF tab) R155 [.g (Evs.g (.of grp))] (H.length+9) (H++tenB H.length s most (.ms (H.length+2) 1 8 0 0) 0 0 g out G none) =
   some ⟨B true,[(H.length+9,.lp rd155 (lpT H.length) none),(H.length+6,.rows 8 (g+1) ((out++grp).map Ev.c)),(H.length+7,.cells [.ms (H.length+6) (g+1) 8 0 (out++grp).length])],[]⟩:=by
 have hgl:0<grp.length:=List.length_pos_iff.2 hne
 have e1:IntKind.i64.wrap ((out.length:Int)+(grp.length:Int))=(out.length:Int)+(grp.length:Int):=wrap_i64 (by omega) (by omega)
 have e2:(out.length:Int)+(grp.length:Int)≤most:=by omega
 have hap:=fun t o=>app_growG (h:=H++(tenB H.length s most (.ms (H.length+2) 1 8 0 0) 0 0 g out G none).set 9 .hid) (id:=H.length+6) (sz:=8) (bytes:=80) (g:=g) (xs:=out.map Ev.c) (ys:=grp.map Ev.c) (by simp [tenB]) (by simpa using hne) (by simp;omega) (by simp;omega) t [] o (by simp [tenB,getB_app])
 simp only [List.length_map] at hap
 unfold evRound
 unfold tenB at hap ⊢
 simp only [get_app,hideB,set_app]
 simp only [List.set] at hap ⊢
 simp -implicitDefEqProofs [R155,lpT,putPs,bodyRd,endRd,jmpO,getB_app,setB_app,e1,e2,hap]
theorem round_full (s:Store) (most:Int) (g:Nat) (grp:List Ev) (G:GV) (hne:grp ≠ []) (hsz:grp.length≤1000000) (hf:most<(grp.length:Int)) (H:List Blk) :
  evRound (EvF tab) R155 [.g (Evs.g (.of grp))] (H.length+9) (H++tenB H.length s most (.ms (H.length+2) 1 8 0 0) 0 0 g [] G none) =
   some ⟨B false,[(H.length+9,.lp rd155 (lpT H.length) (some none)),(H.length+3,.cells [.g .nsl]),(H.length+4,.cells [I 0]),(H.length+5,.cells [I 4])],[]⟩:=by
 have e1:IntKind.i64.wrap ((grp.length:Int))=(grp.length:Int):=wrap_i64 (by omega) (by omega)
 have e2:¬(grp.length:Int)≤most:=by omega
 unfold evRound
 unfold tenB
 simp only [get_app,hideB,set_app]
 simp only [List.set]
 simp -implicitDefEqProofs [R155,lpT,putPs,bodyRd,endRd,jmpO,getB_app,setB_app,e1,e2]
theorem round_ends (s:Store) (most:Int) (g:Nat) (out grp:List Ev) (G:GV) (hne:grp ≠ []) (ho:out ≠ []) (hsz:out.length+grp.length≤1000000) (hf:most<((out.length+grp.length:Nat):Int)) (H:List Blk) :
  evRound (EvF tab) R155 [.g (Evs.g (.of grp))] (H.length+9) (H++tenB H.length s most (.ms (H.length+2) 1 8 0 0) 0 0 g out G none) =
   some ⟨B false,[(H.length+9,.lp rd155 (lpT H.length) (some none)),(H.length+3,.cells [.ms (H.length+6) g 8 0 out.length]),(H.length+4,.cells [I (revAt grp 0)]),(H.length+5,.cells [I 0])],[]⟩:=by
 have hol:0<out.length:=List.length_pos_iff.2 ho
 have e3:¬(out.length:Int)=0:=by omega
 cases grp with
 | nil=>exact absurd rfl hne
 | cons x grp =>
  simp only [List.length_cons] at hsz hf
  have e1:IntKind.i64.wrap ((out.length:Int)+((grp.length:Int)+1))=(out.length:Int)+((grp.length:Int)+1):=wrap_i64 (by omega) (by omega)
  have e2:¬(out.length:Int)+((grp.length:Int)+1)≤most:=by omega
  unfold evRound
  unfold tenB
  simp only [get_app,hideB,set_app]
  simp only [List.set]
  simp -implicitDefEqProofs [R155,lpT,putPs,bodyRd,endRd,jmpO,getB_app,setB_app,e1,e2,e3,ho,revAt,Ev.c]
theorem revisions_ev (G:GV) (H:List Blk):EvF tab 188 [.g G] H=some ⟨.fv 204 [.ptr H.length 0],[],[.cells [.g G]]⟩:=by
 refine EvF_walk t188 (by simp) ?_
 simp -implicitDefEqProofs
theorem other_ev (e:Ev) (x:Ev) (l:List Ev) {H:List Blk} {p:Nat} (hp:H[p]? = some (.cells [.g (Evs.g (.of (x::l)))])):EvF tab 205 [A e.c,.ptr p 0] H=some ⟨B (decide (e.rev ≠ x.rev)),[],[]⟩:=by
 have hlt:p<H.length:=(List.getElem?_eq_some_iff.1 hp).1
 have hg:H[p] = .cells [.g (Evs.g (.of (x::l)))]:=(List.getElem?_eq_some_iff.1 hp).2
 have hlv:∀o,isLiveB (H++o) p=true:=fun o=>by unfold isLiveB;rw [List.getElem?_append_left hlt,hp];rfl
 refine EvF_walk t205 (by simp) ?_
 by_cases c:e.rev=x.rev
 ·simp -implicitDefEqProofs [Ev.c,A,getB_old hlt,orB,hg,hp,c,hlv]
 ·simp -implicitDefEqProofs [Ev.c,A,getB_old hlt,orB,hg,hp,c,hlv]
theorem idxR_ev (x:Ev) (l:List Ev) (hl:(x::l).length≤1000000) {H:List Blk} {p:Nat} (hp:H[p]? = some (.cells [.g (Evs.g (.of (x::l)))])) :
  EvF tab 175 [.g (Evs.g (.of (x::l))),.fv 205 [.ptr p 0]] H=some ⟨I (idxG (fun e=>decide (e.rev ≠ revAt (x::l) 0)) 0 (x::l)),[],[]⟩:=by
 have:=index_ev (Tb:=tab) (f:=175) (agg:=true) (n:=8) (c:=Ev.c) t175 (fun e=>A e.c) (fun e=>decide (e.rev ≠ revAt (x::l) 0)) (.fv 205 [.ptr p 0]) (.of (x::l)) (by rw [Sl.l_of];omega) H (fun e=>by simp [Ev.c,A]) (fun e _ t=>by
  have:=other_ev e x l (H:=full H ⟨t,[],[]⟩) (p:=p) (by simpa using hp)
  rw [evCall_fv]
  simp only [List.all_nil,if_true]
  show fin H [] ⟨t,[],[]⟩ (EvF tab _ [A e.c,.ptr p 0] _)=_
  simp only [hideB]
  rw [this]
  simp -implicitDefEqProofs [revAt])
 exact this
end Go.Proofs.YtndfdnlbljhlgaaGreat
end
section
namespace Go.Proofs.YtndfdnlbljhlgaaGreat
open Go Go.AM Go.Proofs
set_option maxRecDepth 20000
set_option maxHeartbeats 2000000
set_option linter.unusedSimpArgs false
set_option linter.unusedVariables false
theorem loop_measE {E:FnS} {h:List Blk} {c:IC} {lv:List Nat} {β:Type} (m:β→Nat) (Inv:β→Prop) (S:β→St) (Q:Ex×St→Prop)
  (hstep:∀b,Inv b→(∃b',m b' < m b∧Inv b'∧kpN lv (evCode E h c (S b))=some (.normal,S b'))∨(∃r,r.1 ≠ .normal∧Q r∧kpN lv (evCode E h c (S b))=some r)) :
  ∀(n:Nat) (b:β),m b≤n→Inv b→∃r,Q r∧loopE E h c lv (S b)=some r:=by
 intro n
 induction n with
 | zero =>
  intro b hm hi
  rcases hstep b hi with ⟨b',h1,_⟩ | ⟨r,h1,h2,h3⟩
  ·omega
  ·exact ⟨r,h2,loopE_out E h c lv _ _ h1 h3⟩
 | succ n ih =>
  intro b hm hi
  rcases hstep b hi with ⟨b',h1,h2,h4⟩ | ⟨r,h1,h2,h3⟩
  ·rw [loopE_kp E h c lv _ _ h4]
   exact ih b' (by omega) h2
  ·exact ⟨r,h2,loopE_out E h c lv _ _ h1 h3⟩
def res0 (n:Nat):AV := .ms (n+2) 1 8 0 0
def EndB (n:Nat) (s:Store) (most srev:Int) (all:List Ev) (L:List Blk):Prop :=
 ∃g G,(((cutP all most srev).2.2=0∧(all.length:Int)≤most∧(g=1↔all=[])∧L=tenB n s most (res0 n) 0 0 g all G none) ∨
  (cutP all most srev=([],0,4)∧L=tenB n s most (.g .nsl) 0 4 g [] G (some none)) ∨
  (∃out nx,cutP all most srev=(out,nx,0)∧¬(all.length:Int)≤most∧out ≠ []∧g ≠ 1∧L=tenB n s most (.ms (n+6) g 8 0 out.length) nx 0 g out G (some none)))
structure RInv (n:Nat) (s:Store) (most:Int) (all:List Ev) (H h:List Blk) (b:List (Nat×Blk)×Nat×List Ev×Sl Ev):Prop where
 keys:∀p∈b.1,n≤p.1∧p.2.lt1 (n+10)=true
 bl:applyM h b.1=H++tenB n s most (res0 n) 0 0 b.2.1 b.2.2.1 (Evs.g b.2.2.2) none
 all:b.2.2.1++b.2.2.2.l=all
 len:(b.2.2.1.length:Int)≤most
 lt:∀e∈b.2.2.1,∀x∈b.2.2.2.l,e.rev<x.rev
 g:b.2.1=1↔b.2.2.1=[]
 gp:1≤b.2.1
theorem keys_upd {n:Nat} {m:List (Nat×Blk)} (h:∀p∈m,n≤p.1∧p.2.lt1 (n+10)=true) {id:Nat} (hid:n≤id) (b:Blk) (hb:b.lt1 (n+10)=true):∀p∈updM m id b,n≤p.1∧p.2.lt1 (n+10)=true:=by
 induction m with
 | nil=>intro p hp;rw [updM_nil] at hp;rw [List.mem_singleton.1 hp];exact ⟨hid,hb⟩
 | cons q m ih =>
  obtain ⟨a,v⟩:=q
  intro p hp
  rw [updM_cons] at hp
  split at hp
  ·rcases List.mem_cons.1 hp with rfl | hp
   ·exact ⟨(h (a,v) (by simp)).1,hb⟩
   ·exact h p (by simp [hp])
  ·rcases List.mem_cons.1 hp with rfl | hp
   ·exact h (a,v) (by simp)
   ·exact ih (fun p hp=>h p (by simp [hp])) p hp
theorem nn_mov (E:FnS) (h:List Blk) (s:St) (d:Option Nat) (g:Option (Nat×Bool)) (x:Opd):evOneY E h s ⟨d,g,.mov x⟩=ob (evOne E h 0 [] s ⟨d,g,.mov x⟩) fun p=>some p.1:=evOneY_n _ _ _ _ rfl
theorem nn_load (E:FnS) (h:List Blk) (s:St) (d:Option Nat) (g:Option (Nat×Bool)) (a:Bool) (n:Nat) (x:Opd):evOneY E h s ⟨d,g,.load a n x⟩=ob (evOne E h 0 [] s ⟨d,g,.load a n x⟩) fun p=>some p.1:=evOneY_n _ _ _ _ rfl
theorem nn_slc (E:FnS) (h:List Blk) (s:St) (d:Option Nat) (g:Option (Nat×Bool)) (n:Nat) (x:Opd) (a b:Option Opd):evOneY E h s ⟨d,g,.slc n x a b⟩=ob (evOne E h 0 [] s ⟨d,g,.slc n x a b⟩) fun p=>some p.1:=evOneY_n _ _ _ _ rfl
theorem nn_un (E:FnS) (h:List Blk) (s:St) (d:Option Nat) (g:Option (Nat×Bool)) (o:UnOp) (x:Opd):evOneY E h s ⟨d,g,.un o x⟩=ob (evOne E h 0 [] s ⟨d,g,.un o x⟩) fun p=>some p.1:=evOneY_n _ _ _ _ rfl
theorem idxR_evN (l:List Ev) (hne:l ≠ []) (hl:l.length≤1000000) {H:List Blk} {p:Nat} (hp:H[p]? = some (.cells [.g (Evs.g (.of l))])) :
  EvF tab 175 [.g (.sl 8 (l.map Ev.c)),.fv 205 [.ptr p 0]] H=some ⟨I (idxG (fun e=>decide (e.rev ≠ revAt l 0)) 0 l),[],[]⟩:=by
 cases l with
 | nil=>exact absurd rfl hne
 | cons x l=>exact idxR_ev x l hl hp
theorem rounds_loop (s:Store) (most srev:Int) (all:List Ev) (hs:SrtE all) (h1:1≤most) (hl:all.length≤100000) (H h:List Blk) (hh:h.length=H.length+10) (b:List (Nat×Blk)×Nat×List Ev×Sl Ev) (hb:RInv H.length s most all H h b) :
  ∃m e t,(∀p∈m,H.length≤p.1∧p.2.lt1 (H.length+10)=true)∧(∃L,applyM h m=H++L∧EndB H.length s most srev all L)∧(e = .exit 0∨e = .ret) ∧
   loopE (EvF tab) h L204_0 [0,1] ⟨[(0,.yv (H.length+9)),(1,.ptr (H.length+8) 0)],b.1,[]⟩=some (e,⟨t,m,[]⟩):=by
 have hlt:∀k,k<10→H.length+k<h.length:=fun k hk=>by omega
 have key:=loop_measE (E:=EvF tab) (h:=h) (c:=L204_0) (lv:=[0,1]) (β:=List (Nat×Blk)×Nat×List Ev×Sl Ev) (fun b=>b.2.2.2.l.length) (RInv H.length s most all H h)
  (fun b=>⟨[(0,.yv (H.length+9)),(1,.ptr (H.length+8) 0)],b.1,[]⟩)
  (fun r=>∃m e t,(∀p∈m,H.length≤p.1∧p.2.lt1 (H.length+10)=true)∧(∃L,applyM h m=H++L∧EndB H.length s most srev all L)∧(e = .exit 0∨e = .ret) ∧
   r=(e,⟨t,m,[]⟩)) (fun b hi => ?_) b.2.2.2.l.length b (Nat.le_refl _) hb
 ·obtain ⟨r,⟨m,e,t,k1,k2,k3,k4⟩,k5⟩:=key
  exact ⟨m,e,t,k1,k2,k3,by rw [k5,k4]⟩
 ·obtain ⟨m,g,out,l⟩:=b
  obtain ⟨i1,i2,i3,i4,i5,i6,i7⟩:=hi
  simp only at i1 i2 i3 i4 i5 i6 i7 ⊢
  have hgb:∀t k,getB h ⟨t,m,[]⟩ (H.length+k)=(tenB H.length s most (res0 H.length) 0 0 g out (Evs.g l) none)[k]?:=fun t k=>by
   rw [←getB_full];unfold full;rw [i2,List.append_nil,get_app]
  have hg8:∀t,getB h ⟨t,m,[]⟩ (H.length+8)=some (.cells [.g (Evs.g l)]):=fun t=>hgb t 8
  have hg9:∀t,getB h ⟨t,m,[]⟩ (H.length+9)=some (.lp rd155 (lpT H.length) none):=fun t=>hgb t 9
  have hm:applyM h m=H++tenB H.length s most (res0 H.length) 0 0 g out (Evs.g l) none:=i2
  rcases hll:l.l with _ | ⟨x,l'⟩
  ·right
   refine ⟨_,?_,⟨m,.exit 0,[(0,.yv (H.length+9)),(1,.ptr (H.length+8) 0),(6,B false)],i1,⟨_,i2,g,Evs.g l,.inl ?_⟩,.inl rfl,rfl⟩,?_⟩
   ·simp
   ·rw [hll,List.append_nil] at i3
    subst i3
    exact ⟨by rw [cut_fits i4],i4,i6,rfl⟩
   ·delta L204_0
    cases l with
    | nil=>simp -implicitDefEqProofs [hg8]
    | of l=>simp at hll;subst hll;simp -implicitDefEqProofs [hg8]
  ·obtain ⟨l0,rfl⟩:∃l0,l = .of l0:=by
    cases l with
    | nil=>simp at hll
    | of l=>exact ⟨l,rfl⟩
   simp only [Sl.l_of] at hll i3 i5 ⊢
   have hne0:l0 ≠ []:=by rw [hll];simp
   have hs0:SrtE l0:=by rw [←i3] at hs;exact (List.pairwise_append.1 hs).2.1
   obtain ⟨grp,d,q1,q2,q3,q4,q5⟩:=grp_split hne0 hs0
   have hl0:out.length+l0.length=all.length:=by rw [←i3,List.length_append]
   have hgd:grp.length+d.length=l0.length:=by rw [q1,List.length_append]
   have hgl:0<grp.length:=List.length_pos_iff.2 q2
   have hidx:=idxR_evN l0 hne0 (by omega) (H:=H++tenB H.length s most (res0 H.length) 0 0 g out (Evs.g (.of l0)) none) (p:=H.length+8) (by rw [get_app];rfl)
   unfold grpN at q5
   obtain ⟨r,hr⟩:∃r,revAt l0 0=r:=⟨_,rfl⟩
   rw [hr] at q3 q4 q5 hidx
   obtain ⟨j,hj⟩:∃j,idxG (fun e=>decide (e.rev ≠ r)) 0 l0=j:=⟨_,rfl⟩
   rw [hj] at q5 hidx
   have et:List.take grp.length (List.map Ev.c l0)=List.map Ev.c grp:=by rw [q1,List.map_append];exact List.take_left' (by simp)
   have ed:List.drop grp.length (List.map Ev.c l0)=List.map Ev.c d:=by rw [q1,List.map_append];exact List.drop_left' (by simp)
   have ea:List.take l0.length (List.map Ev.c l0)=List.map Ev.c l0:=List.take_of_length_le (by simp)
   have hfu:∀t,full h ⟨t,m,[]⟩=H++tenB H.length s most (res0 H.length) 0 0 g out (Evs.g (.of l0)) none:=fun t=>by unfold full;rw [hm,List.append_nil]
   have hb1:grp.length≤l0.length:=by omega
   have hb2:(grp.length:Int)≤(l0.length:Int):=by omega
   by_cases hfit:((out.length+grp.length:Nat):Int)≤most
   ·left
    have hrd:EvF tab 0 [.yk rd155.key,.g (.sl 8 (grp.map Ev.c)),.yv (H.length+9)] (H++tenB H.length s most (res0 H.length) 0 0 g out (.sl 8 (l0.map Ev.c)) none)=some _:=EvF_round (T:=tab) (key:=rd155.key) rfl tr155 (round_fits s most g out grp (Evs.g (.of l0)) q2 (by omega) hfit H)
    obtain ⟨m3,hm3⟩:∃m3,updM (updM (updM m (H.length+7) (.cells [.ms (H.length+6) (g+1) 8 0 (out++grp).length])) (H.length+6) (.rows 8 (g+1) ((out++grp).map Ev.c))) (H.length+9) (.lp rd155 (lpT H.length) none)=m3:=⟨_,rfl⟩
    have a3:applyM h m3=H++tenB H.length s most (res0 H.length) 0 0 (g+1) (out++grp) (Evs.g (.of l0)) none:=by
     rw [←hm3,applyM_upd,applyM_upd,applyM_upd,hm,set_app,set_app,set_app];rfl
    have hg8':∀t,getB h ⟨t,m3,[]⟩ (H.length+8)=some (.cells [.g (Evs.g (.of l0))]):=fun t=>by
     rw [←getB_full];unfold full;rw [a3,List.append_nil,get_app];rfl
    refine ⟨(updM m3 (H.length+8) (.cells [.g (Evs.g (.of d))]),g+1,out++grp,.of d),?_,⟨?_,?_,?_,?_,?_,?_,?_⟩,?_⟩
    ·have hll2:=congrArg List.length hll
     simp only [List.length_cons,Sl.l_of] at hll2 ⊢
     omega
    ·exact keys_upd (by rw [←hm3];exact keys_upd (keys_upd (keys_upd i1 (by omega) _ (by simp [lpT,Blk.lt1])) (by omega) _ (by simp [lpT,Blk.lt1])) (by omega) _ (by simp [lpT,Blk.lt1])) (by omega) _ (by simp [lpT,Blk.lt1])
    ·simp only
     rw [applyM_upd,a3,set_app];rfl
    ·simp only [Sl.l_of];rw [List.append_assoc,←q1];exact i3
    ·simp only [List.length_append];exact hfit
    ·simp only [Sl.l_of]
     intro e he x hx
     rcases List.mem_append.1 he with he | he
     ·exact i5 e he x (by rw [q1];simp [hx])
     ·have:=q3 e he;have:=q4 x hx;omega
    ·exact ⟨fun h=>by exfalso;have h2:g+1=1:=h;omega,fun h=>by simp [q2] at h⟩
    ·simp only;omega
    ·simp only [List.length_append,List.map_append] at hm3 hrd
     simp only [Sl.g_of,Evs.g] at hidx hrd hg8 hg8' hm a3 ⊢
     delta L204_0
     by_cases hj0:j<0
     ·rw [if_pos hj0] at q5
      have hb3:grp.length=l0.length:=by omega
      have hd:d=[]:=List.eq_nil_of_length_eq_zero (by omega)
      subst hd
      rw [List.append_nil] at q1
      subst q1
      simp -implicitDefEqProofs [nn_mov,nn_load,nn_slc,nn_un,hg8,hg9,hg8',hm,hidx,hrd,hm3,hne0,show 0<l0.length by omega,hj0,cutB,bnd,intOfA,hb1,hb2,et,ea,ed,setB_old (hlt 6 (by omega)),setB_old (hlt 7 (by omega)),setB_old (hlt 8 (by omega)),setB_old (hlt 9 (by omega))]
      done
     ·rw [if_neg hj0] at q5
      subst q5
      simp -implicitDefEqProofs [nn_mov,nn_load,nn_slc,nn_un,hg8,hg9,hg8',hm,hidx,hrd,hm3,hne0,show 0<l0.length by omega,hj0,cutB,bnd,intOfA,hb1,hb2,et,ea,ed,setB_old (hlt 6 (by omega)),setB_old (hlt 7 (by omega)),setB_old (hlt 8 (by omega)),setB_old (hlt 9 (by omega))]
   ·right
    have hcut:=cut_full (srev:=srev) (out:=out) (g:=grp) (d:=d) h1 i4 (by omega) (fun e he=>i5 e he l0[0] (List.getElem_mem (by omega))) (fun e he=>by
     have hq:=q3 e he
     rw [hq,←hr];unfold revAt;rw [List.getElem?_eq_getElem (by omega)]) (fun e he=>by
     have hq:=q4 e he
     rw [←hr] at hq;unfold revAt at hq;rw [List.getElem?_eq_getElem (by omega)] at hq;exact hq)
    rw [←q1,i3] at hcut
    have hr0:l0[0].rev=r:=by rw [←hr];unfold revAt;rw [List.getElem?_eq_getElem (by omega)]
    rw [hr0] at hcut
    have hnl:¬(all.length:Int)≤most:=by omega
    by_cases hout:out=[]
    ·subst hout
     rw [if_pos rfl] at hcut
     have hrd:EvF tab 0 [.yk rd155.key,.g (.sl 8 (grp.map Ev.c)),.yv (H.length+9)] (H++tenB H.length s most (res0 H.length) 0 0 g [] (.sl 8 (l0.map Ev.c)) none)=some _:=EvF_round (T:=tab) (key:=rd155.key) rfl tr155 (round_full s most g grp (Evs.g (.of l0)) q2 (by omega) (by simp only [List.length_nil] at hfit;omega) H)
     obtain ⟨m3,hm3⟩:∃m3,updM (updM (updM (updM m (H.length+5) (.cells [I 4])) (H.length+4) (.cells [I 0])) (H.length+3) (.cells [.g .nsl])) (H.length+9) (.lp rd155 (lpT H.length) (some none))=m3:=⟨_,rfl⟩
     have a3:applyM h m3=H++tenB H.length s most (.g .nsl) 0 4 g [] (Evs.g (.of l0)) (some none):=by
      rw [←hm3,applyM_upd,applyM_upd,applyM_upd,applyM_upd,hm,set_app,set_app,set_app,set_app];rfl
     refine ⟨_,?_,⟨m3,.ret,[(0,.yv (H.length+9)),(1,.ptr (H.length+8) 0),(3,I grp.length),(19,B true)],?_,⟨_,a3,g,Evs.g (.of l0),.inr (.inl ⟨hcut,rfl⟩)⟩,.inr rfl,rfl⟩,?_⟩
     ·simp
     ·rw [←hm3];exact keys_upd (keys_upd (keys_upd (keys_upd i1 (by omega) _ (by simp [lpT,Blk.lt1])) (by omega) _ (by simp [lpT,Blk.lt1])) (by omega) _ (by simp [lpT,Blk.lt1])) (by omega) _ (by simp [lpT,Blk.lt1])
     ·simp only [Sl.g_of,Evs.g] at hidx hrd hg8 hm a3 ⊢
      delta L204_0
      by_cases hj0:j<0
      ·rw [if_pos hj0] at q5
       have hb3:grp.length=l0.length:=by omega
       rw [hb3] at et ⊢
       simp -implicitDefEqProofs [nn_mov,nn_load,nn_slc,nn_un,hg8,hg9,hm,hidx,hrd,hm3,hne0,show 0<l0.length by omega,hj0,cutB,bnd,intOfA,hb1,hb2,et,ea,setB_old (hlt 3 (by omega)),setB_old (hlt 4 (by omega)),setB_old (hlt 5 (by omega)),setB_old (hlt 9 (by omega))]
      ·rw [if_neg hj0] at q5
       subst q5
       simp -implicitDefEqProofs [nn_mov,nn_load,nn_slc,nn_un,hg8,hg9,hm,hidx,hrd,hm3,hne0,show 0<l0.length by omega,hj0,cutB,bnd,intOfA,hb1,hb2,et,ea,setB_old (hlt 3 (by omega)),setB_old (hlt 4 (by omega)),setB_old (hlt 5 (by omega)),setB_old (hlt 9 (by omega))]
    ·rw [if_neg hout] at hcut
     have hgr:revAt grp 0=r:=by
      obtain ⟨e,he,h2⟩:=revAt_mem hgl
      rw [h2];exact q3 e he
     have hrd:EvF tab 0 [.yk rd155.key,.g (.sl 8 (grp.map Ev.c)),.yv (H.length+9)] (H++tenB H.length s most (res0 H.length) 0 0 g out (.sl 8 (l0.map Ev.c)) none)=some _:=EvF_round (T:=tab) (key:=rd155.key) rfl tr155 (round_ends s most g out grp (Evs.g (.of l0)) q2 hout (by omega) (by omega) H)
     rw [hgr] at hrd
     obtain ⟨m3,hm3⟩:∃m3,updM (updM (updM (updM m (H.length+5) (.cells [I 0])) (H.length+4) (.cells [I r])) (H.length+3) (.cells [.ms (H.length+6) g 8 0 out.length])) (H.length+9) (.lp rd155 (lpT H.length) (some none))=m3:=⟨_,rfl⟩
     have a3:applyM h m3=H++tenB H.length s most (.ms (H.length+6) g 8 0 out.length) r 0 g out (Evs.g (.of l0)) (some none):=by
      rw [←hm3,applyM_upd,applyM_upd,applyM_upd,applyM_upd,hm,set_app,set_app,set_app,set_app];rfl
     refine ⟨_,?_,⟨m3,.ret,[(0,.yv (H.length+9)),(1,.ptr (H.length+8) 0),(3,I grp.length),(19,B true)],?_,⟨_,a3,g,Evs.g (.of l0),.inr (.inr ⟨out,r,hcut,hnl,hout,fun h=>hout (i6.1 h),rfl⟩)⟩,.inr rfl,rfl⟩,?_⟩
     ·simp
     ·rw [←hm3];exact keys_upd (keys_upd (keys_upd (keys_upd i1 (by omega) _ (by simp [lpT,Blk.lt1])) (by omega) _ (by simp [lpT,Blk.lt1])) (by omega) _ (by simp [lpT,Blk.lt1])) (by omega) _ (by simp [lpT,Blk.lt1])
     ·simp only [Sl.g_of,Evs.g] at hidx hrd hg8 hm a3 ⊢
      delta L204_0
      by_cases hj0:j<0
      ·rw [if_pos hj0] at q5
       have hb3:grp.length=l0.length:=by omega
       rw [hb3] at et ⊢
       simp -implicitDefEqProofs [nn_mov,nn_load,nn_slc,nn_un,hg8,hg9,hm,hidx,hrd,hm3,hne0,show 0<l0.length by omega,hj0,cutB,bnd,intOfA,hb1,hb2,et,ea,setB_old (hlt 3 (by omega)),setB_old (hlt 4 (by omega)),setB_old (hlt 5 (by omega)),setB_old (hlt 9 (by omega))]
      ·rw [if_neg hj0] at q5
       subst q5
       simp -implicitDefEqProofs [nn_mov,nn_load,nn_slc,nn_un,hg8,hg9,hm,hidx,hrd,hm3,hne0,show 0<l0.length by omega,hj0,cutB,bnd,intOfA,hb1,hb2,et,ea,setB_old (hlt 3 (by omega)),setB_old (hlt 4 (by omega)),setB_old (hlt 5 (by omega)),setB_old (hlt 9 (by omega))]
end Go.Proofs.YtndfdnlbljhlgaaGreat
end
section
namespace Go.Proofs.YtndfdnlbljhlgaaGreat
open Go Go.AM Go.Proofs
set_option maxRecDepth 20000
set_option maxHeartbeats 2000000
set_option linter.unusedSimpArgs false
set_option linter.unusedVariables false
theorem setAll_own {H L0:List Blk}:∀{m:List (Nat×Blk)},(∀p∈m,H.length≤p.1)→∃L,(∀t,setAll H ⟨t,[],L0⟩ m=⟨t,[],L⟩)∧applyM (H++L0) m=H++L
 | [],_=>⟨L0,fun _=>by simp,by simp⟩
 | (i,b)::m,h=>by
  obtain ⟨L,h1,h2⟩:=setAll_own (m:=m) (fun p hp=>h p (by simp [hp]))
  have hi:H.length≤i:=h (i,b) (by simp)
  refine ⟨L.set (i - H.length) b,fun t => ?_,?_⟩
  ·rw [setAll_cons,h1];unfold setB;rw [if_neg (by omega)]
  ·simp only [applyM];rw [h2,List.set_append_right _ _ hi]
theorem rev1_ev (s:Store) (most srev:Int) (all:List Ev) (hs:SrtE all) (h1:1≤most) (hl:all.length≤100000) (H:List Blk) :
  ∃m L,(∀t,setAll H ⟨t,[],tenB H.length s most (res0 H.length) 0 0 1 [] (Evs.g (slOf all)) none⟩ m=⟨t,[],L⟩)∧EndB H.length s most srev all L ∧
   EvF tab 204 [.yv (H.length+9),.ptr (H.length+8) 0] (H++tenB H.length s most (res0 H.length) 0 0 1 [] (Evs.g (slOf all)) none)=some ⟨.tup [],m,[]⟩:=by
 obtain ⟨h,hh⟩:∃h,H++tenB H.length s most (res0 H.length) 0 0 1 [] (Evs.g (slOf all)) none=h:=⟨_,rfl⟩
 obtain ⟨m,e,t,k1,⟨L,k2,k3⟩,k4,k5⟩:=rounds_loop s most srev all hs h1 hl H h (by rw [←hh];simp [tenB]) ([],1,[],slOf all) ⟨by simp,by rw [←hh];rfl,by rw [slOf_l];rfl,by simp;omega,by simp,by simp,by simp⟩
 obtain ⟨L',j1,j2⟩:=setAll_own (H:=H) (L0:=tenB H.length s most (res0 H.length) 0 0 1 [] (Evs.g (slOf all)) none) (fun p hp=>(k1 p hp).1)
 rw [hh,k2] at j2
 have hL:=List.append_cancel_left j2
 subst hL
 refine ⟨m,L,j1,k3,?_⟩
 rw [hh]
 refine EvF_walk t204 (by simp) ?_
 have hlen:h.length=H.length+10:=by rw [←hh];simp [tenB]
 rcases k4 with rfl | rfl <;> simp -implicitDefEqProofs [k5] <;> exact fun a b hab=>by rw [hlen];exact (k1 (a,b) hab).2
theorem Since_ev (s:Store) (p:Bs) (rev most:Int) (hs:smallS s) (h0:0≤s.rev) (h1:s.rev≤1099511627775) (hsrt:SrtE s.log.l) (H:List Blk) :
  EvF tab 155 [A s.c,T p,I rev,I most] H=some ⟨.tup [.g (Evs.g (slOf (sinP s p rev most).1)),I (sinP s p rev most).2.1,I (sinP s p rev most).2.2],[],[]⟩:=by
 have hsl:s.log.l.length≤100000:=by unfold smallS at hs;omega
 have hlen:=ofP_len s.log.l p rev
 have e0:IntKind.i64.wrap (s.rev+1)=s.rev+1:=wrap_i64 (by omega) (by omega)
 have hof:=fun H=>of_ev s.log p rev (by omega) H
 have hall0:=ofP_srt hsrt p rev
 refine EvF_walk t155 (by simp) ?_
 unfold sinP
 obtain ⟨all,hall⟩:∃all,ofP s.log.l p rev=all:=⟨_,rfl⟩
 rw [hall] at hof hlen hall0 ⊢
 unfold sinE
 by_cases c1:most<1
 ·obtain ⟨a1,a2,a3,a4⟩:=s
  simp -implicitDefEqProofs [A,Store.c,c1,slOf]
 by_cases c2:30<most
 ·obtain ⟨a1,a2,a3,a4⟩:=s
  simp -implicitDefEqProofs [A,Store.c,c1,c2,slOf]
 by_cases c3:rev<1
 ·obtain ⟨a1,a2,a3,a4⟩:=s
  simp -implicitDefEqProofs [A,Store.c,c1,c2,c3,slOf]
 by_cases c4:s.rev+1<rev
 ·obtain ⟨a1,a2,a3,a4⟩:=s
  simp only at c4 e0
  simp -implicitDefEqProofs [A,Store.c,c1,c2,c3,c4,e0,slOf]
 by_cases c5:rev≤s.low
 ·obtain ⟨a1,a2,a3,a4⟩:=s
  simp only at c4 c5 e0
  simp -implicitDefEqProofs [A,Store.c,c1,c2,c3,c4,c5,e0,slOf]
 simp only [show (if most<1∨30<most then (1:Int) else if rev<1∨s.rev+1<rev then 8 else if rev≤s.low then 9 else 0)=0 from sinE_zero.2 ⟨⟨by omega,by omega⟩,⟨by omega,by omega⟩,by omega⟩,if_true]
 obtain ⟨m,L,k1,k2,k3⟩:=rev1_ev s most s.rev all hall0 (by omega) (by omega) H
 obtain ⟨a1,a2,a3,a4⟩:=s
 simp only at c4 c5 e0 k2 hof
 have hrv:=fun G H=>revisions_ev G H
 generalize hg0:Evs.g (slOf all)=G0 at hof k1 k3
 unfold tenB at k1 k3
 simp only [Store.c,List.map_cons,List.map_nil,List.length_nil,res0,lpT] at k1 k3
 generalize hg1:KVs.g a3=G1 at k1 k3
 generalize hg2:Evs.g a4=G2 at k1 k3 hof
 obtain ⟨g,G,⟨z1,z2,z3,rfl⟩ | ⟨z1,rfl⟩ | ⟨out,nx,z1,z2,z3,z4,rfl⟩⟩:=k2
 ·rw [cut_fits z2]
  unfold tenB at k1
  simp only [Store.c,List.map_cons,List.map_nil,lpT,res0] at k1
  simp -implicitDefEqProofs [A,Store.c,hg1,hg2,c1,c2,c3,c4,c5,e0,hof,hrv,rfV_fv,k3,k1,endRf]
  by_cases hall2:all=[]
  ·rw [if_pos (z3.2 hall2),hall2];rfl
  ·rw [if_neg (fun h=>hall2 (z3.1 h)),List.take_of_length_le (by simp)]
   unfold slOf;rw [if_neg hall2];rfl
 ·rw [z1]
  unfold tenB at k1
  simp only [Store.c,List.map_cons,List.map_nil,lpT,res0] at k1
  simp -implicitDefEqProofs [A,Store.c,hg1,hg2,c1,c2,c3,c4,c5,e0,hof,hrv,rfV_fv,k3,k1,endRf,slOf]
 ·rw [z1]
  unfold tenB at k1
  simp only [Store.c,List.map_cons,List.map_nil,lpT,res0] at k1
  have e1:List.take out.length (List.map Ev.c out)=List.map Ev.c out:=List.take_of_length_le (by simp)
  simp -implicitDefEqProofs [A,Store.c,hg1,hg2,c1,c2,c3,c4,c5,e0,hof,hrv,rfV_fv,k3,k1,endRf,slOf,z3,z4,e1]
end Go.Proofs.YtndfdnlbljhlgaaGreat
end
section
namespace Go.Proofs.YtndfdnlbljhlgaaGreat
open Go Go.AM Go.Proofs
set_option maxRecDepth 20000
set_option maxHeartbeats 2000000
set_option linter.unusedSimpArgs false
set_option linter.unusedVariables false
theorem FromP_ev (s:Sl KV) (p:Bs) (hl:s.l.length≤1000000) (H:List Blk):EvF tab 152 [.g (KVs.g s),T p] H=some ⟨.g (KVs.g (slOf (fromP s.l p))),[],[]⟩:=by
 refine EvF_walk t152 (by simp) ?_
 have hw:=loop_runJ (E:=EvF tab) (h:=H) (c:=L152_0) (lv:=[1,5,8,9,10]) (l:=s.l) (β:=List KV) (γ:=Nat) (fun k r=>r.length≤k) (fun _ x r=>if preP p x.key=true then .inl (r++[x]) else .inl r)
  (fun k r o=>⟨[(1,T p),(5,.ms (H.length+1) (r.length+1) 6 0 r.length),(8,.g (KVs.g s)),(9,I s.l.length),(10,I k)],[],.rows 6 1 [] :: .rows 6 (r.length+1) (r.map KV.c)::o⟩)
  (fun r o=>(.exit 0,⟨[(1,T p),(5,.ms (H.length+1) (r.length+1) 6 0 r.length),(8,.g (KVs.g s)),(9,I s.l.length),(10,I s.l.length),(11,B false)],[],.rows 6 1 [] :: .rows 6 (r.length+1) (r.map KV.c)::o⟩))
  (fun _ o=>(.ret,⟨[],[],o⟩)) (by simp) (by simp) (fun k x r o hk hx hy hi => ?_) (fun r o _=>by delta L152_0;simp -implicitDefEqProofs) [] [] (by simp)
 ·obtain ⟨o',hw⟩:=hw
  rw [runG_filterI (fun x:KV=>preP p x.key)] at hw
  simp only [endJ,List.nil_append,List.map_nil,List.length_nil,Int.ofNat_zero,Int.cast_ofNat_Int,Nat.zero_add] at hw
  rw [show (s.l.filter fun x=>preP p x.key)=fromP s.l p from rfl] at hw
  obtain ⟨r,hr⟩:∃r,fromP s.l p=r:=⟨_,rfl⟩
  rw [hr] at hw ⊢
  cases r with
  | nil=>simp -implicitDefEqProofs [hw,slOf]
  | cons y r =>
   have e1:List.take r.length (List.map KV.c r)=List.map KV.c r:=List.take_of_length_le (by simp)
   simp -implicitDefEqProofs [hw,slOf,e1]
 ·have e2:=wrap_succ hk (by omega)
  have h1:=fun H=>HasPrefix_ev x.key p H
  delta L152_0
  cases s with
  | nil=>simp at hk
  | of l =>
   simp only [Sl.l_of] at hk hy hl
   have e3:List.take r.length (List.map KV.c r)=List.map KV.c r:=List.take_of_length_le (by simp)
   cases hp0:preP p x.key
   ·rw [hp0] at h1
    simp only [Bool.false_eq_true,if_false]
    refine ⟨by omega,o++[.cells (x.c.map .g)],?_⟩
    simp -implicitDefEqProofs [hk,hy,KV.c,e2,h1]
   ·rw [hp0] at h1
    simp only [if_true]
    refine ⟨by simp;omega,o++[.cells (x.c.map .g)],?_⟩
    simp -implicitDefEqProofs [hk,hy,KV.c,e2,h1,appV,room,Nat.not_succ_le_self,chunk,show r.length+1≤140737488355328 by omega,show (r.length+1)*64≤140737488355328 by omega,e3]
def actC (s:Server) (p:Reply):Blk := .cells ((s.c++p.c).map .g)
theorem look_ev (s:Server) (p:Reply) (r:Req) (hs:smallS s.st) (hn:s.st.base.l.length+s.st.log.l.length≤5000) {H:List Blk} {q:Nat} (hq:H[q]? = some (actC s p)) :
  EvF tab 100 [.ptr q 0,A r.c] H=some ⟨I (atE s.st r.rev),[(q,actC s ⟨p.code,p.who,p.seq,s.st.rev,p.lease,p.ttl,p.yes,slOf (fromP (atR s.st r.rev).l r.key),p.events⟩)],[]⟩:=by
 have hpl:q<H.length:=(List.getElem?_eq_some_iff.1 hq).1
 have hp2:=(List.getElem?_eq_some_iff.1 hq).2
 have hlv:∀o,isLiveB (H++o) q=true:=fun o=>by unfold isLiveB;rw [List.getElem?_append_left hpl,hq];rfl
 have hla:(atR s.st r.rev).l.length≤1000000:=by
  unfold atR
  split
  ·rw [foldR_l];have:=foldP_len (atV s.st r.rev) s.st.log.l s.st.base.l;omega
  ·simp
 have m1:=fun H=>At_ev s.st r.rev hs H
 have m2:=fun H=>FromP_ev (atR s.st r.rev) r.key hla H
 refine EvF_walk t100 (by simp) ?_
 unfold actC at hp2 ⊢
 generalize atE s.st r.rev=e at m1 ⊢
 generalize slOf (fromP (atR s.st r.rev).l r.key)=F at m2 ⊢
 generalize atR s.st r.rev=N at m1 m2
 obtain ⟨⟨srev,slow,sbase,slog⟩,⟨lnext,ll⟩,⟨ml,mo⟩,clock⟩:=s
 obtain ⟨p1,p2,p3,p4,p5,p6,p7,p8,p9⟩:=p
 obtain ⟨rkind,rwho,rseq,ronce,rkey,rvalue,rlease,rrev,rttl,rtoken,riff,rthn,rels⟩:=r
 simp only [A,Store.c,Server.c,Reply.c,Req.c,List.map_cons,List.map_nil,List.cons_append,List.nil_append] at m1 m2 hp2 ⊢
 simp -implicitDefEqProofs [m1,m2,hp2,hpl,hlv,getB_old,setB_old,orB]
theorem watch_ev (s:Server) (p:Reply) (r:Req) (h:SOk s.st) {H:List Blk} {q:Nat} (hq:H[q]? = some (actC s p)) :
  EvF tab 102 [.ptr q 0,A r.c] H=some ⟨I (sinP s.st r.key r.rev 30).2.2,[(q,actC s ⟨p.code,p.who,p.seq,(sinP s.st r.key r.rev 30).2.1,p.lease,p.ttl,p.yes,p.kvs,slOf (sinP s.st r.key r.rev 30).1⟩)],[]⟩:=by
 have hpl:q<H.length:=(List.getElem?_eq_some_iff.1 hq).1
 have hp2:=(List.getElem?_eq_some_iff.1 hq).2
 have hlv:∀o,isLiveB (H++o) q=true:=fun o=>by unfold isLiveB;rw [List.getElem?_append_left hpl,hq];rfl
 have hb:=h.bl
 have hg:=h.ll
 have m1:=fun H=>Since_ev s.st r.key r.rev 30 (by unfold smallS;omega) (by have:=h.low0;have:=h.lowr;omega) (by have:=h.revM;omega) h.srt H
 refine EvF_walk t102 (by simp) ?_
 unfold actC at hp2 ⊢
 generalize slOf (sinP s.st r.key r.rev 30).1=F at m1 ⊢
 generalize (sinP s.st r.key r.rev 30).2.1=n at m1 ⊢
 generalize (sinP s.st r.key r.rev 30).2.2=e at m1 ⊢
 obtain ⟨⟨srev,slow,sbase,slog⟩,⟨lnext,ll⟩,⟨ml,mo⟩,clock⟩:=s
 obtain ⟨p1,p2,p3,p4,p5,p6,p7,p8,p9⟩:=p
 obtain ⟨rkind,rwho,rseq,ronce,rkey,rvalue,rlease,rrev,rttl,rtoken,riff,rthn,rels⟩:=r
 simp only [A,Store.c,Server.c,Reply.c,Req.c,List.map_cons,List.map_nil,List.cons_append,List.nil_append] at m1 hp2 ⊢
 simp -implicitDefEqProofs [m1,hp2,hpl,hlv,getB_old,setB_old,orB]
theorem grant_ev (s:Server) (p:Reply) (r:Req) (w:s.ls.wf) {H:List Blk} {q:Nat} (hq:H[q]? = some (actC s p)) :
  EvF tab 103 [.ptr q 0,A r.c] H=some ⟨I (grantOk s.ls r.ttl s.clock),[(q,actC ⟨s.st,grantS s.ls r.ttl s.clock,s.ms,s.clock⟩ ⟨p.code,p.who,p.seq,p.rev,grantI s.ls r.ttl s.clock,r.ttl,p.yes,p.kvs,p.events⟩)],[]⟩:=by
 have hpl:q<H.length:=(List.getElem?_eq_some_iff.1 hq).1
 have hp2:=(List.getElem?_eq_some_iff.1 hq).2
 have hlv:∀o,isLiveB (H++o) q=true:=fun o=>by unfold isLiveB;rw [List.getElem?_append_left hpl,hq];rfl
 have m1:=fun H=>Grant_ev s.ls r.ttl s.clock w H
 refine EvF_walk t103 (by simp) ?_
 unfold actC at hp2 ⊢
 generalize grantS s.ls r.ttl s.clock=L at m1 ⊢
 generalize grantI s.ls r.ttl s.clock=n at m1 ⊢
 generalize grantOk s.ls r.ttl s.clock=e at m1 ⊢
 obtain ⟨⟨srev,slow,sbase,slog⟩,⟨lnext,ll⟩,⟨ml,mo⟩,clock⟩:=s
 obtain ⟨p1,p2,p3,p4,p5,p6,p7,p8,p9⟩:=p
 obtain ⟨rkind,rwho,rseq,ronce,rkey,rvalue,rlease,rrev,rttl,rtoken,riff,rthn,rels⟩:=r
 obtain ⟨Ln,Ll⟩:=L
 simp only [A,Leases.c,Server.c,Reply.c,Req.c,List.map_cons,List.map_nil,List.cons_append,List.nil_append] at m1 hp2 ⊢
 simp -implicitDefEqProofs [m1,hp2,hpl,hlv,getB_old,setB_old,orB,pends,show ¬q=H.length by omega,show ¬q=H.length+1 by omega,show ¬H.length+1=q by omega,show ¬H.length=q by omega]
theorem keep_ev (s:Server) (p:Reply) (r:Req) (w:smallT s.ls) {H:List Blk} {q:Nat} (hq:H[q]? = some (actC s p)) :
  EvF tab 104 [.ptr q 0,A r.c] H=some ⟨I (lkeepE s.ls r.lease s.clock),[(q,actC ⟨s.st,keepS s.ls r.lease s.clock,s.ms,s.clock⟩ ⟨p.code,p.who,p.seq,p.rev,r.lease,keepT s.ls r.lease s.clock,p.yes,p.kvs,p.events⟩)],[]⟩:=by
 have hpl:q<H.length:=(List.getElem?_eq_some_iff.1 hq).1
 have hp2:=(List.getElem?_eq_some_iff.1 hq).2
 have hlv:∀o,isLiveB (H++o) q=true:=fun o=>by unfold isLiveB;rw [List.getElem?_append_left hpl,hq];rfl
 have m1:=fun H=>LKeep_ev s.ls r.lease s.clock w H
 refine EvF_walk t104 (by simp) ?_
 unfold actC at hp2 ⊢
 generalize keepS s.ls r.lease s.clock=L at m1 ⊢
 generalize keepT s.ls r.lease s.clock=n at m1 ⊢
 generalize lkeepE s.ls r.lease s.clock=e at m1 ⊢
 obtain ⟨⟨srev,slow,sbase,slog⟩,⟨lnext,ll⟩,⟨ml,mo⟩,clock⟩:=s
 obtain ⟨p1,p2,p3,p4,p5,p6,p7,p8,p9⟩:=p
 obtain ⟨rkind,rwho,rseq,ronce,rkey,rvalue,rlease,rrev,rttl,rtoken,riff,rthn,rels⟩:=r
 obtain ⟨Ln,Ll⟩:=L
 simp only [A,Leases.c,Server.c,Reply.c,Req.c,List.map_cons,List.map_nil,List.cons_append,List.nil_append] at m1 hp2 ⊢
 simp -implicitDefEqProofs [m1,hp2,hpl,hlv,getB_old,setB_old,orB,pends,show ¬q=H.length by omega,show ¬q=H.length+1 by omega,show ¬H.length+1=q by omega,show ¬H.length=q by omega]
theorem revoke_ev (s:Server) (p:Reply) (r:Req) (hf:Fit s) {H:List Blk} {q:Nat} (hq:H[q]? = some (actC s p)) :
  EvF tab 105 [.ptr q 0,A r.c] H=some ⟨I (sweepE s r.lease),[(q,actC (sweepS s r.lease) ⟨p.code,p.who,p.seq,(sweepS s r.lease).st.rev,r.lease,p.ttl,p.yes,p.kvs,p.events⟩)],[]⟩:=by
 have hpl:q<H.length:=(List.getElem?_eq_some_iff.1 hq).1
 have hp2:=(List.getElem?_eq_some_iff.1 hq).2
 have hlv:∀o,isLiveB (H++o) q=true:=fun o=>by unfold isLiveB;rw [List.getElem?_append_left hpl,hq];rfl
 have m1:=fun H=>Sweep_ev s r.lease hf H
 refine EvF_walk t105 (by simp) ?_
 unfold actC at hp2 ⊢
 generalize sweepS s r.lease=R at m1 ⊢
 generalize sweepE s r.lease=e at m1 ⊢
 obtain ⟨⟨srev,slow,sbase,slog⟩,⟨lnext,ll⟩,⟨ml,mo⟩,clock⟩:=s
 obtain ⟨p1,p2,p3,p4,p5,p6,p7,p8,p9⟩:=p
 obtain ⟨rkind,rwho,rseq,ronce,rkey,rvalue,rlease,rrev,rttl,rtoken,riff,rthn,rels⟩:=r
 obtain ⟨⟨srev',slow',sbase',slog'⟩,⟨lnext',ll'⟩,⟨ml',mo'⟩,clock'⟩:=R
 simp only [A,Server.c,Reply.c,Req.c,List.map_cons,List.map_nil,List.cons_append,List.nil_append] at m1 hp2 ⊢
 simp -implicitDefEqProofs [m1,hp2,hpl,hlv,getB_old,setB_old,orB,pends,show ¬q=H.length by omega,show ¬q=H.length+1 by omega,show ¬H.length+1=q by omega,show ¬H.length=q by omega]
theorem compact_ev (s:Server) (p:Reply) (r:Req) (hs:smallS s.st) {H:List Blk} {q:Nat} (hq:H[q]? = some (actC s p)) :
  EvF tab 106 [.ptr q 0,A r.c] H=some ⟨I (shrE s.st r.rev),[(q,actC ⟨shrS s.st r.rev,s.ls,s.ms,s.clock⟩ ⟨p.code,p.who,p.seq,(shrS s.st r.rev).rev,p.lease,p.ttl,p.yes,p.kvs,p.events⟩)],[]⟩:=by
 have hpl:q<H.length:=(List.getElem?_eq_some_iff.1 hq).1
 have hp2:=(List.getElem?_eq_some_iff.1 hq).2
 have hlv:∀o,isLiveB (H++o) q=true:=fun o=>by unfold isLiveB;rw [List.getElem?_append_left hpl,hq];rfl
 have m1:=fun H=>Shrink_ev s.st r.rev hs H
 refine EvF_walk t106 (by simp) ?_
 unfold actC at hp2 ⊢
 generalize shrS s.st r.rev=R at m1 ⊢
 generalize shrE s.st r.rev=e at m1 ⊢
 obtain ⟨⟨srev,slow,sbase,slog⟩,⟨lnext,ll⟩,⟨ml,mo⟩,clock⟩:=s
 obtain ⟨p1,p2,p3,p4,p5,p6,p7,p8,p9⟩:=p
 obtain ⟨rkind,rwho,rseq,ronce,rkey,rvalue,rlease,rrev,rttl,rtoken,riff,rthn,rels⟩:=r
 obtain ⟨srev',slow',sbase',slog'⟩:=R
 simp only [A,Store.c,Server.c,Reply.c,Req.c,List.map_cons,List.map_nil,List.cons_append,List.nil_append] at m1 hp2 ⊢
 simp -implicitDefEqProofs [m1,hp2,hpl,hlv,getB_old,setB_old,orB,pends,show ¬q=H.length by omega,show ¬q=H.length+1 by omega,show ¬H.length+1=q by omega,show ¬H.length=q by omega]
theorem concatTU:∃m msg m' msg',tab.T 153=some (concatF 4 48 185 m msg)∧tab.T 185=some (growF 4 48 [.bool false,.str [],.str [],.int .i64 0] m' msg') :=
 ⟨_,_,_,_,t153,t185⟩
theorem concatU_ev (a b:Sl Mut) (hn:a.l.length+b.l.length≤1000000) (H:List Blk) :
  EvF tab 153 [.g (.sl 1 [[Muts.g a],[Muts.g b]])] H=some ⟨.g (Muts.g (slOf (a.l++b.l))),[],[]⟩:=by
 obtain ⟨m,msg,m',msg',h1,h2⟩:=concatTU
 have:=concat_ev (c:=Mut.c) h1 h2 a b (by omega) (by omega) H
 rw [nslG_slOf] at this
 exact this
def heldM (L:List Lease) (m:Mut):Bool:=m.gone||(decide (m.lease=0)||hasS m.lease L)
theorem change_loop (s:Server) (p:Reply) (l:List Mut) (hn:l.length≤1000000) (hL:s.ls.l.l.length≤9223372036854775807) (B1:Blk) {H:List Blk} {q:Nat} (hq:H[q]? = some (actC s p)) :
  ∃o',loopE (EvF tab) H L101_0 [0,3,18,19,20] ⟨[(0,.ptr q 0),(3,.ptr H.length 0),(18,.g (Muts.g (slOf l))),(19,I l.length),(20,I 0)],[],[B1]⟩ =
   some (if allP (heldM s.ls.l.l) l=true then (.exit 0,⟨[(0,.ptr q 0),(3,.ptr H.length 0),(18,.g (Muts.g (slOf l))),(19,I l.length),(20,I l.length),(21,B false)],[],B1::o'⟩) else (.ret,⟨[(4,I 6)],[],B1::o'⟩)):=by
 have hpl:q<H.length:=(List.getElem?_eq_some_iff.1 hq).1
 have hp2:=(List.getElem?_eq_some_iff.1 hq).2
 have hlv:∀o,isLiveB (H++o) q=true:=fun o=>by unfold isLiveB;rw [List.getElem?_append_left hpl,hq];rfl
 have hw:=loop_runJ (E:=EvF tab) (h:=H) (c:=L101_0) (lv:=[0,3,18,19,20]) (l:=l) (β:=Unit) (γ:=Unit) (fun _ _=>True) (fun _ x _=>if heldM s.ls.l.l x=true then .inl () else .inr ())
  (fun k _ o=>⟨[(0,.ptr q 0),(3,.ptr H.length 0),(18,.g (Muts.g (slOf l))),(19,I l.length),(20,I k)],[],B1::o⟩)
  (fun _ o=>(.exit 0,⟨[(0,.ptr q 0),(3,.ptr H.length 0),(18,.g (Muts.g (slOf l))),(19,I l.length),(20,I l.length),(21,B false)],[],B1::o⟩))
  (fun _ o=>(.ret,⟨[(4,I 6)],[],B1::o⟩)) (by simp) (by simp) (fun k x _ o hk hx hy _ => ?_) (fun _ o _=>by delta L101_0;simp -implicitDefEqProofs) () [] trivial
 ·obtain ⟨o',hw⟩:=hw
  refine ⟨o',?_⟩
  rw [runG_allU] at hw
  simp only [Int.ofNat_zero,Int.cast_ofNat_Int] at hw
  rw [hw]
  cases allP (heldM s.ls.l.l) l <;> rfl
 ·have e2:=wrap_succ hk (by omega)
  have m1:=fun H=>Has_ev s.ls x.lease hL H
  have hs:slOf l = .of l:=by unfold slOf;rw [if_neg (by intro e;subst e;simp at hk)]
  unfold actC at hp2
  unfold heldM
  generalize hasS x.lease s.ls.l.l=b at m1 ⊢
  delta L101_0
  obtain ⟨⟨srev,slow,sbase,slog⟩,⟨lnext,ll⟩,⟨ml,mo⟩,clock⟩:=s
  obtain ⟨p1,p2,p3,p4,p5,p6,p7,p8,p9⟩:=p
  obtain ⟨xg,xk,xv,xl⟩:=x
  simp only [A,Leases.c,Server.c,Reply.c,List.map_cons,List.map_nil,List.cons_append,List.nil_append] at m1 hp2 ⊢
  rw [hs]
  cases xg
  ·by_cases c1:xl=0
   ·subst c1
    simp only [decide_true,Bool.true_or,Bool.or_true,if_true]
    refine ⟨trivial,o++[.cells ((Mut.c ⟨false,xk,xv,0⟩).map .g)],?_⟩
    simp -implicitDefEqProofs [m1,hk,hx,hy,e2,Mut.c,hp2,hpl,hlv,getB_old,orB]
   ·cases b
    ·simp only [c1,decide_false,Bool.or_self,Bool.false_eq_true,if_false]
     refine ⟨o++[.cells ((Mut.c ⟨false,xk,xv,xl⟩).map .g)],?_⟩
     simp -implicitDefEqProofs [m1,hk,hx,hy,e2,Mut.c,c1,hp2,hpl,hlv,getB_old,orB]
    ·simp only [c1,Bool.or_true,if_true]
     refine ⟨trivial,o++[.cells ((Mut.c ⟨false,xk,xv,xl⟩).map .g)],?_⟩
     simp -implicitDefEqProofs [m1,hk,hx,hy,e2,Mut.c,c1,hp2,hpl,hlv,getB_old,orB]
  ·simp only [Bool.true_or,if_true]
   refine ⟨trivial,o++[.cells ((Mut.c ⟨true,xk,xv,xl⟩).map .g)],?_⟩
   simp -implicitDefEqProofs [m1,hk,hx,hy,e2,Mut.c,hp2,hpl,hlv,getB_old,orB]
def txnOf (r:Req):Txn:=⟨r.iff,r.thn,r.els⟩
theorem change_ev (s:Server) (p:Reply) (r:Req) (hs:smallS s.st) (hr:0≤s.st.rev∧s.st.rev≤1099511627774) (w:(txnOf r).wf) (hm:r.thn.l.length+r.els.l.length≤1000000) (hL:s.ls.l.l.length≤9223372036854775807) {H:List Blk} {q:Nat} (hq:H[q]? = some (actC s p)) :
  EvF tab 101 [.ptr q 0,A r.c] H=some (if allP (heldM s.ls.l.l) (r.thn.l++r.els.l)=true then ⟨I (doE s.st (txnOf r)),[(q,actC ⟨doS s.st (txnOf r),s.ls,s.ms,s.clock⟩ ⟨p.code,p.who,p.seq,(doS s.st (txnOf r)).rev,p.lease,p.ttl,doY s.st (txnOf r),p.kvs,p.events⟩)],[]⟩ else ⟨I 6,[],[]⟩):=by
 have hpl:q<H.length:=(List.getElem?_eq_some_iff.1 hq).1
 have hp2:=(List.getElem?_eq_some_iff.1 hq).2
 have hlv:∀o,isLiveB (H++o) q=true:=fun o=>by unfold isLiveB;rw [List.getElem?_append_left hpl,hq];rfl
 have m1:=fun H=>concatU_ev r.thn r.els hm H
 have m2:=fun H=>Do_ev s.st (txnOf r) hs (by omega) w H
 obtain ⟨o,hw⟩:=change_loop s p (r.thn.l++r.els.l) (by simpa using hm) hL (.cells (r.c.map .g)) hq
 have hv:∀h st,lenV h st (.g (Muts.g (slOf (r.thn.l++r.els.l))))=some (r.thn.l++r.els.l).length:=fun h st=>by rw [lenV_Sl,slOf_l]
 refine EvF_walk t101 (by simp) ?_
 unfold actC at hp2 ⊢
 generalize doE s.st (txnOf r)=e at m2 ⊢
 generalize doV s.st (txnOf r)=v at m2
 generalize doY s.st (txnOf r)=y at m2 ⊢
 generalize doS s.st (txnOf r)=S at m2 ⊢
 generalize allP (heldM s.ls.l.l) (r.thn.l++r.els.l)=b at hw ⊢
 generalize Muts.g (slOf (r.thn.l++r.els.l))=G0 at m1 hw hv
 generalize (r.thn.l++r.els.l).length=n at hw hv
 obtain ⟨⟨srev,slow,sbase,slog⟩,⟨lnext,ll⟩,⟨ml,mo⟩,clock⟩:=s
 obtain ⟨p1,p2,p3,p4,p5,p6,p7,p8,p9⟩:=p
 obtain ⟨rkind,rwho,rseq,ronce,rkey,rvalue,rlease,rrev,rttl,rtoken,riff,rthn,rels⟩:=r
 obtain ⟨srev',slow',sbase',slog'⟩:=S
 simp only [A,Store.c,Txn.c,txnOf,Server.c,Reply.c,Req.c,List.map_cons,List.map_nil,List.cons_append,List.nil_append] at m1 m2 hp2 hw ⊢
 cases b
 ·simp only [Bool.false_eq_true,if_false] at hw ⊢
  simp -implicitDefEqProofs [m1,hv,hw,hp2,hpl,hlv,getB_old,setB_old,orB,chunk]
 ·simp only [if_true] at hw ⊢
  simp -implicitDefEqProofs [m1,m2,hv,hw,hp2,hpl,hlv,getB_old,setB_old,orB,pends,chunk,gap,gap0,sap,sap0,List.append_assoc,show ¬H.length+(o.length+1)=q by omega,show ¬q=H.length+(o.length+1) by omega,show ¬q=H.length by omega,show ¬q=H.length+1 by omega,show ¬H.length+1=q by omega,show ¬H.length=q by omega]
end Go.Proofs.YtndfdnlbljhlgaaGreat
end
section
namespace Go.Proofs.YtndfdnlbljhlgaaGreat
open Go Go.AM Go.Proofs
set_option maxRecDepth 20000
set_option maxHeartbeats 2000000
set_option linter.unusedSimpArgs false
set_option linter.unusedVariables false
def kindsM:List (Int×Nat):=[(1,100),(2,101),(3,102),(4,103),(5,104),(6,105),(7,106)]
theorem kinds_ev (H:List Blk):EvF tab 46 [] H=some ⟨.mp H.length,[],[.map (kindsM.map (kvG GV.fn))]⟩:=by
 refine EvF_walk t46 (by simp) ?_
 have m1:msetV .i (.int .i64 1) (some (.fn 100)) []=some ((kindsM.take 1).map (kvG GV.fn)):=mset_kv GV.fn 1 100 []
 have m2:msetV .i (.int .i64 2) (some (.fn 101)) ((kindsM.take 1).map (kvG GV.fn))=some ((kindsM.take 2).map (kvG GV.fn)):=mset_kv GV.fn 2 101 (kindsM.take 1)
 have m3:msetV .i (.int .i64 3) (some (.fn 102)) ((kindsM.take 2).map (kvG GV.fn))=some ((kindsM.take 3).map (kvG GV.fn)):=mset_kv GV.fn 3 102 (kindsM.take 2)
 have m4:msetV .i (.int .i64 4) (some (.fn 103)) ((kindsM.take 3).map (kvG GV.fn))=some ((kindsM.take 4).map (kvG GV.fn)):=mset_kv GV.fn 4 103 (kindsM.take 3)
 have m5:msetV .i (.int .i64 5) (some (.fn 104)) ((kindsM.take 4).map (kvG GV.fn))=some ((kindsM.take 5).map (kvG GV.fn)):=mset_kv GV.fn 5 104 (kindsM.take 4)
 have m6:msetV .i (.int .i64 6) (some (.fn 105)) ((kindsM.take 5).map (kvG GV.fn))=some ((kindsM.take 6).map (kvG GV.fn)):=mset_kv GV.fn 6 105 (kindsM.take 5)
 have m7:msetV .i (.int .i64 7) (some (.fn 106)) ((kindsM.take 6).map (kvG GV.fn))=some (kindsM.map (kvG GV.fn)):=mset_kv GV.fn 7 106 (kindsM.take 6)
 generalize (kindsM.take 1).map (kvG GV.fn)=l1 at m1 m2
 generalize (kindsM.take 2).map (kvG GV.fn)=l2 at m2 m3
 generalize (kindsM.take 3).map (kvG GV.fn)=l3 at m3 m4
 generalize (kindsM.take 4).map (kvG GV.fn)=l4 at m4 m5
 generalize (kindsM.take 5).map (kvG GV.fn)=l5 at m5 m6
 generalize (kindsM.take 6).map (kvG GV.fn)=l6 at m6 m7
 generalize kindsM.map (kvG GV.fn)=l7 at m7 ⊢
 simp -implicitDefEqProofs [m1,m2,m3,m4,m5,m6,m7]
def fnK (k:Int):Option Nat:=getA k kindsM
theorem get_kinds (k:Int):mgetV true .i (some .nfn) (.int .i64 k) (kindsM.map (kvG GV.fn))=some (.tup [.g (((fnK k).map GV.fn).getD .nfn),B (fnK k).isSome]):=by
 rw [mget_kv];rfl
def errR (r:Req) (e:Int):Reply:=⟨e,r.who,r.seq,0,0,0,false,.nil,.nil⟩
theorem refuse_ev (s:Server) (r:Req) (e:Int) {H:List Blk} {p q:Nat} (hp:H[p]? = some (.cells (s.c.map .g))) (hq:H[q]? = some (.cells (r.c.map .g))) :
  EvF tab 43 [I e,.ptr p 0,.ptr q 0] H=some ⟨.tup [A s.c,A (errR r e).c],[],[]⟩:=by
 have hpl:p<H.length:=(List.getElem?_eq_some_iff.1 hp).1
 have hp2:=(List.getElem?_eq_some_iff.1 hp).2
 have hql:q<H.length:=(List.getElem?_eq_some_iff.1 hq).1
 have hq2:=(List.getElem?_eq_some_iff.1 hq).2
 have hlp:∀o,isLiveB (H++o) p=true:=fun o=>by unfold isLiveB;rw [List.getElem?_append_left hpl,hp];rfl
 have hlq:∀o,isLiveB (H++o) q=true:=fun o=>by unfold isLiveB;rw [List.getElem?_append_left hql,hq];rfl
 refine EvF_walk t43 (by simp) ?_
 unfold errR
 obtain ⟨⟨srev,slow,sbase,slog⟩,⟨lnext,ll⟩,⟨ml,mo⟩,clock⟩:=s
 obtain ⟨rkind,rwho,rseq,ronce,rkey,rvalue,rlease,rrev,rttl,rtoken,riff,rthn,rels⟩:=r
 simp only [A,Server.c,Reply.c,Req.c,List.map_cons,List.map_nil] at hp2 hq2 ⊢
 simp -implicitDefEqProofs [hp2,hq2,hpl,hql,hlp,hlq,getB_old,orB,show ¬H.length+5=q by omega,show ¬H.length+5=p by omega]
def actR (s:Server) (r:Req):Int×Server×Reply :=
 if r.kind=1 then (atE s.st r.rev,s,⟨0,r.who,r.seq,s.st.rev,0,0,false,slOf (fromP (atR s.st r.rev).l r.key),.nil⟩)
 else if r.kind=2 then (if allP (heldM s.ls.l.l) (r.thn.l++r.els.l)=true then (doE s.st (txnOf r),⟨doS s.st (txnOf r),s.ls,s.ms,s.clock⟩,⟨0,r.who,r.seq,(doS s.st (txnOf r)).rev,0,0,doY s.st (txnOf r),.nil,.nil⟩) else (6,s,errR r 0))
 else if r.kind=3 then ((sinP s.st r.key r.rev 30).2.2,s,⟨0,r.who,r.seq,(sinP s.st r.key r.rev 30).2.1,0,0,false,.nil,slOf (sinP s.st r.key r.rev 30).1⟩)
 else if r.kind=4 then (grantOk s.ls r.ttl s.clock,⟨s.st,grantS s.ls r.ttl s.clock,s.ms,s.clock⟩,⟨0,r.who,r.seq,0,grantI s.ls r.ttl s.clock,r.ttl,false,.nil,.nil⟩)
 else if r.kind=5 then (lkeepE s.ls r.lease s.clock,⟨s.st,keepS s.ls r.lease s.clock,s.ms,s.clock⟩,⟨0,r.who,r.seq,0,r.lease,keepT s.ls r.lease s.clock,false,.nil,.nil⟩)
 else if r.kind=6 then (sweepE s r.lease,sweepS s r.lease,⟨0,r.who,r.seq,(sweepS s r.lease).st.rev,r.lease,0,false,.nil,.nil⟩)
 else if r.kind=7 then (shrE s.st r.rev,⟨shrS s.st r.rev,s.ls,s.ms,s.clock⟩,⟨0,r.who,r.seq,(shrS s.st r.rev).rev,0,0,false,.nil,.nil⟩)
 else (1,s,errR r 0)
structure DoOk (s:Server) (r:Req):Prop where
 srv:Srv0 s
 mw:s.ms.wf
 ml:s.ms.l.l.length+s.ms.old.l.length≤4000
 rw:r.wf
theorem act_ev {s:Server} {r:Req} (h:DoOk s r) (hm:r.thn.l.length+r.els.l.length≤1000000) {k:Nat} (hk:fnK r.kind=some k) :
  ∃u:Bool,(u=false→(actR s r).1 ≠ 0)∧∀{H:List Blk} {q:Nat} (hq:H[q]? = some (actC s (errR r 0))),EvF tab k [.ptr q 0,A r.c] H=some ⟨I (actR s r).1,if u=true then [(q,actC (actR s r).2.1 (actR s r).2.2)] else [],[]⟩:=by
 have hf:=h.srv.fit
 have h1:=hf.sz
 have hs:smallS s.st:=by unfold smallS;omega
 unfold fnK kindsM at hk
 unfold actR
 by_cases c1:r.kind=1
 ·simp only [c1,getA,if_true,Option.some.injEq] at hk ⊢
  subst hk
  exact ⟨true,(fun e=>by cases e),fun hq=>look_ev s (errR r 0) r hs h1 hq⟩
 by_cases c2:r.kind=2
 ·simp [c2,getA] at hk
  subst hk
  simp only [c2,show ¬(2:Int)=1 by omega,if_true,if_false]
  have:=fun {H:List Blk} {q:Nat} (hq:H[q]? = some (actC s (errR r 0)))=>change_ev s (errR r 0) r hs hf.rev ⟨h.rw.2.2.2.2.2.2.2.2.2.1,h.rw.2.2.2.2.2.2.2.2.2.2.1,h.rw.2.2.2.2.2.2.2.2.2.2.2⟩ hm (by have:=hf.ls;omega) hq
  by_cases hh:allP (heldM s.ls.l.l) (r.thn.l++r.els.l)=true
  ·simp only [if_pos hh] at this ⊢
   exact ⟨true,(fun e=>by cases e),fun hq=>this hq⟩
  ·simp only [if_neg hh] at this ⊢
   exact ⟨false,(fun _=>by simp),fun hq=>this hq⟩
 by_cases c3:r.kind=3
 ·simp [c3,getA] at hk
  subst hk
  simp only [c3,show ¬(3:Int)=1 by omega,show ¬(3:Int)=2 by omega,if_true,if_false]
  exact ⟨true,(fun e=>by cases e),fun hq=>watch_ev s (errR r 0) r h.srv.st hq⟩
 by_cases c4:r.kind=4
 ·simp [c4,getA] at hk
  subst hk
  simp only [c4,show ¬(4:Int)=1 by omega,show ¬(4:Int)=2 by omega,show ¬(4:Int)=3 by omega,if_true,if_false]
  exact ⟨true,(fun e=>by cases e),fun hq=>grant_ev s (errR r 0) r (may_wf h.srv.ls) hq⟩
 by_cases c5:r.kind=5
 ·simp [c5,getA] at hk
  subst hk
  simp only [c5,show ¬(5:Int)=1 by omega,show ¬(5:Int)=2 by omega,show ¬(5:Int)=3 by omega,show ¬(5:Int)=4 by omega,if_true,if_false]
  exact ⟨true,(fun e=>by cases e),fun hq=>keep_ev s (errR r 0) r (may_small h.srv.ls) hq⟩
 by_cases c6:r.kind=6
 ·simp [c6,getA] at hk
  subst hk
  simp only [c6,show ¬(6:Int)=1 by omega,show ¬(6:Int)=2 by omega,show ¬(6:Int)=3 by omega,show ¬(6:Int)=4 by omega,show ¬(6:Int)=5 by omega,if_true,if_false]
  exact ⟨true,(fun e=>by cases e),fun hq=>revoke_ev s (errR r 0) r hf hq⟩
 by_cases c7:r.kind=7
 ·simp [c7,getA] at hk
  subst hk
  simp only [c7,show ¬(7:Int)=1 by omega,show ¬(7:Int)=2 by omega,show ¬(7:Int)=3 by omega,show ¬(7:Int)=4 by omega,show ¬(7:Int)=5 by omega,show ¬(7:Int)=6 by omega,if_true,if_false]
  exact ⟨true,(fun e=>by cases e),fun hq=>compact_ev s (errR r 0) r hs hq⟩
 ·exfalso
  simp [getA,Ne.symm c1,Ne.symm c2,Ne.symm c3,Ne.symm c4,Ne.symm c5,Ne.symm c6,Ne.symm c7] at hk
def doP (s:Server) (r:Req):Server×Reply :=
 if reqOk r=true then
  if r.once=true∧(lookP s.ms.l.l s.ms.old.l r.who r.seq).2.1=true then (s,(lookP s.ms.l.l s.ms.old.l r.who r.seq).1)
  else if r.once=true∧(lookP s.ms.l.l s.ms.old.l r.who r.seq).2.2 ≠ 0 then (s,errR r (lookP s.ms.l.l s.ms.old.l r.who r.seq).2.2)
  else if (actR s r).1 ≠ 0 then (s,errR r (actR s r).1)
  else if r.once=true then (⟨(actR s r).2.1.st,(actR s r).2.1.ls,keepM (actR s r).2.1.ms r.who r.seq (actR s r).2.2,(actR s r).2.1.clock⟩,(actR s r).2.2)
  else ((actR s r).2.1,(actR s r).2.2)
 else (s,errR r 1)
theorem reqOk_len {r:Req} (h:reqOk r=true):r.iff.l.length≤4∧r.thn.l.length≤4∧r.els.l.length≤4:=by
 unfold reqOk cmpsOk mutsOk at h
 simp only [Bool.and_eq_true,decide_eq_true_eq] at h
 exact ⟨h.1.1.2.1,h.1.2.1,h.2.1⟩
theorem actR_ms (s:Server) (r:Req):(actR s r).2.1.ms=s.ms:=by
 unfold actR
 repeat' split
 all_goals first | rfl | exact (sweepS_clock s r.lease).2
theorem fnK_none {s:Server} {r:Req} (h:fnK r.kind=none):actR s r=(1,s,errR r 0):=by
 unfold fnK kindsM at h
 simp only [getA] at h
 repeat (split at h;· cases h)
 unfold actR
 simp_all [Ne.symm,eq_comm]
theorem SDo_ev {s:Server} {r:Req} (h:DoOk s r) (H:List Blk):EvF tab 17 [A s.c,A r.c] H=some ⟨.tup [A (doP s r).1.c,A (doP s r).2.c],[],[]⟩:=by
 have m1:=fun H=>MayAsk_ev r (rl h.rw) H
 have mR:=fun e b=>refuse_ev s r e (H:=H ++ .cells (s.c.map .g) :: .cells (r.c.map .g)::b) (p:=H.length) (q:=H.length+1) (by rw [List.getElem?_append_right (by omega),Nat.sub_self];rfl) (by rw [List.getElem?_append_right (by omega),Nat.add_sub_cancel_left];rfl)
 have m2:=fun H=>Look_ev s.ms r.who r.seq h.mw (by have:=h.ml;omega) H
 have m3:=fun H=>kinds_ev H
 have m4:=get_kinds r.kind
 have hz:=lookP_z s.ms.l.l s.ms.old.l r.who r.seq
 refine EvF_walk t17 (by simp) ?_
 unfold doP
 by_cases hok:reqOk r=true
 case neg =>
  rw [Bool.not_eq_true] at hok
  rw [hok] at m1 ⊢
  simp only [Bool.false_eq_true,if_false]
  obtain ⟨⟨srev,slow,sbase,slog⟩,⟨lnext,ll⟩,⟨ml,mo⟩,clock⟩:=s
  obtain ⟨rkind,rwho,rseq,ronce,rkey,rvalue,rlease,rrev,rttl,rtoken,riff,rthn,rels⟩:=r
  simp only [A,errR,Server.c,Req.c,Reply.c,KVs.g,Evs.g,Sl.g_nil,List.map_cons,List.map_nil] at m1 mR ⊢
  generalize Sl.g 6 KV.c sbase=G1 at mR ⊢
  generalize Sl.g 8 Ev.c slog=G2 at mR ⊢
  generalize LeaseL.g ll=G3 at mR ⊢
  generalize MemoL.g ml=G4 at mR ⊢
  generalize Floors.g mo=G5 at mR ⊢
  generalize Cmps.g riff=R1 at m1 mR ⊢
  generalize Muts.g rthn=R2 at m1 mR ⊢
  generalize Muts.g rels=R3 at m1 mR ⊢
  simp -implicitDefEqProofs [m1,mR]
 have hl:=reqOk_len hok
 rw [if_pos hok]
 rw [hok] at m1
 obtain ⟨⟨lr,li,le⟩,hlk⟩:∃v,lookP s.ms.l.l s.ms.old.l r.who r.seq=v:=⟨_,rfl⟩
 rw [hlk] at m2 hz ⊢
 simp only at m2 hz ⊢
 cases honce:r.once with
 | true =>
  cases li with
  | true =>
   have:=hz rfl
   subst this
   simp only [and_self,if_true]
   obtain ⟨⟨srev,slow,sbase,slog⟩,⟨lnext,ll⟩,⟨ml,mo⟩,clock⟩:=s
   obtain ⟨rkind,rwho,rseq,ronce,rkey,rvalue,rlease,rrev,rttl,rtoken,riff,rthn,rels⟩:=r
   obtain ⟨q1,q2,q3,q4,q5,q6,q7,q8,q9⟩:=lr
   simp only at honce
   subst honce
   simp only [A,errR,Server.c,Memos.c,Req.c,Reply.c,KVs.g,Evs.g,Sl.g_nil,List.map_cons,List.map_nil,List.cons_append,List.nil_append] at m1 m2 mR ⊢
   generalize Sl.g 6 KV.c sbase=G1 at mR ⊢
   generalize Sl.g 8 Ev.c slog=G2 at mR ⊢
   generalize LeaseL.g ll=G3 at mR ⊢
   generalize MemoL.g ml=G4 at m2 mR ⊢
   generalize Floors.g mo=G5 at m2 mR ⊢
   generalize Cmps.g riff=R1 at m1 mR ⊢
   generalize Muts.g rthn=R2 at m1 mR ⊢
   generalize Muts.g rels=R3 at m1 mR ⊢
   generalize Sl.g 6 KV.c q8=G11 at m2 ⊢
   generalize Sl.g 8 Ev.c q9=G12 at m2 ⊢
   simp -implicitDefEqProofs [m1,m2,mR]
  | false =>
  by_cases hle:le=0
  case neg =>
   simp only [Bool.false_eq_true,and_false,if_false,hle,ne_eq,not_false_eq_true,and_self,if_true]
   obtain ⟨⟨srev,slow,sbase,slog⟩,⟨lnext,ll⟩,⟨ml,mo⟩,clock⟩:=s
   obtain ⟨rkind,rwho,rseq,ronce,rkey,rvalue,rlease,rrev,rttl,rtoken,riff,rthn,rels⟩:=r
   obtain ⟨q1,q2,q3,q4,q5,q6,q7,q8,q9⟩:=lr
   simp only at honce
   subst honce
   simp only [A,errR,Server.c,Memos.c,Req.c,Reply.c,KVs.g,Evs.g,Sl.g_nil,List.map_cons,List.map_nil,List.cons_append,List.nil_append] at m1 m2 mR ⊢
   generalize Sl.g 6 KV.c sbase=G1 at mR ⊢
   generalize Sl.g 8 Ev.c slog=G2 at mR ⊢
   generalize LeaseL.g ll=G3 at mR ⊢
   generalize MemoL.g ml=G4 at m2 mR ⊢
   generalize Floors.g mo=G5 at m2 mR ⊢
   generalize Cmps.g riff=R1 at m1 mR ⊢
   generalize Muts.g rthn=R2 at m1 mR ⊢
   generalize Muts.g rels=R3 at m1 mR ⊢
   generalize Sl.g 6 KV.c q8=G11 at m2 ⊢
   generalize Sl.g 8 Ev.c q9=G12 at m2 ⊢
   simp -implicitDefEqProofs [m1,m2,mR,hle]
  subst hle
  simp only [Bool.false_eq_true,and_false,if_false,ne_eq,not_true_eq_false]
  have hms:=actR_ms s r
  have mK:=fun H=>Keep_ev s.ms r.who r.seq (actR s r).2.2 h.mw (by have:=h.ml;omega) H
  cases hk:fnK r.kind with
  | none =>
   have ha:=fnK_none (s:=s) hk
   rw [ha]
   rw [hk] at m4
   simp only [Option.map_none,Option.getD_none,Option.isSome_none] at m4
   clear h hms mK ha hk
   obtain ⟨⟨srev,slow,sbase,slog⟩,⟨lnext,ll⟩,⟨ml,mo⟩,clock⟩:=s
   obtain ⟨rkind,rwho,rseq,ronce,rkey,rvalue,rlease,rrev,rttl,rtoken,riff,rthn,rels⟩:=r
   simp only at honce
   subst honce
   simp only [A,errR,Server.c,Memos.c,Req.c,Reply.c,KVs.g,Evs.g,Sl.g_nil,List.map_cons,List.map_nil,List.cons_append,List.nil_append] at m1 m2 mR ⊢
   generalize hG1:Sl.g 6 KV.c sbase=G1 at mR ⊢
   generalize hG2:Sl.g 8 Ev.c slog=G2 at mR ⊢
   generalize hG3:LeaseL.g ll=G3 at mR ⊢
   generalize hG4:MemoL.g ml=G4 at m2 mR ⊢
   generalize hG5:Floors.g mo=G5 at m2 mR ⊢
   generalize Cmps.g riff=R1 at m1 mR ⊢
   generalize Muts.g rthn=R2 at m1 mR ⊢
   generalize Muts.g rels=R3 at m1 mR ⊢
   simp -implicitDefEqProofs [m1,m2,m3,m4,mR,hG1,hG2,hG3,hG4,hG5,Server.c,Reply.c]
  | some k =>
  obtain ⟨u,hu,hA⟩:=act_ev h (by omega) hk
  rw [hk] at m4
  simp only [Option.map_some,Option.getD_some,Option.isSome_some] at m4
  clear h
  generalize hkm:keepM s.ms r.who r.seq (actR s r).2.2=KM at mK
  generalize keepE s.ms r.who r.seq=KE at mK
  generalize actR s r=ar at *
  obtain ⟨e,s',p'⟩:=ar
  simp only at hms hu hA mK hkm ⊢
  rw [hms,hkm]
  have hA2:=fun b2 b3 b4 b5 b6 b7 b8 b9 b10 b11 b12 b13 b14=>hA (H:=H++[.cells (s.c.map .g),.cells (r.c.map .g),b2,b3,b4,b5,b6,b7,b8,b9,b10,b11,b12,b13,b14,actC s (errR r 0)]) (q:=H.length+15) (by rw [List.getElem?_append_right (by omega),Nat.add_sub_cancel_left];rfl)
  clear hA
  obtain ⟨⟨srev,slow,sbase,slog⟩,⟨lnext,ll⟩,⟨ml,mo⟩,clock⟩:=s
  obtain ⟨rkind,rwho,rseq,ronce,rkey,rvalue,rlease,rrev,rttl,rtoken,riff,rthn,rels⟩:=r
  obtain ⟨⟨srev',slow',sbase',slog'⟩,⟨lnext',ll'⟩,⟨ml',mo'⟩,clock'⟩:=s'
  obtain ⟨q1,q2,q3,q4,q5,q6,q7,q8,q9⟩:=p'
  obtain ⟨km,ko⟩:=KM
  simp only at honce hms
  subst honce
  cases hms
  simp only [A,actC,errR,Server.c,Store.c,Leases.c,Memos.c,Req.c,Reply.c,KVs.g,Evs.g,Sl.g_nil,List.map_cons,List.map_nil,List.cons_append,List.nil_append] at m1 m2 mR hA2 mK ⊢
  generalize hG1:Sl.g 6 KV.c sbase=G1 at mR hA2 ⊢
  generalize hG2:Sl.g 8 Ev.c slog=G2 at mR hA2 ⊢
  generalize hG3:LeaseL.g ll=G3 at mR hA2 ⊢
  generalize hG4:MemoL.g ml=G4 at m2 mR hA2 mK ⊢
  generalize hG5:Floors.g mo=G5 at m2 mR hA2 mK ⊢
  generalize Cmps.g riff=R1 at m1 mR hA2 ⊢
  generalize Muts.g rthn=R2 at m1 mR hA2 ⊢
  generalize Muts.g rels=R3 at m1 mR hA2 ⊢
  generalize hG6:Sl.g 6 KV.c sbase'=G6 at hA2 ⊢
  generalize hG7:Sl.g 8 Ev.c slog'=G7 at hA2 ⊢
  generalize hG8:LeaseL.g ll'=G8 at hA2 ⊢
  generalize hG9:MemoL.g km=G9 at mK ⊢
  generalize hG10:Floors.g ko=G10 at mK ⊢
  generalize hG11:Sl.g 6 KV.c q8=G11 at hA2 mK ⊢
  generalize hG12:Sl.g 8 Ev.c q9=G12 at hA2 mK ⊢
  by_cases he:e=0
  ·subst he
   have hu1:u=true:=by cases u;exact absurd rfl (hu rfl);rfl
   subst hu1
   simp only [if_true] at hA2
   simp -implicitDefEqProofs [m1,m2,m3,m4,hA2,mK,hG1,hG2,hG3,hG4,hG5,hG6,hG7,hG8,hG9,hG10,hG11,hG12,Server.c,Reply.c]
  ·cases u
   ·simp only [Bool.false_eq_true,if_false] at hA2
    simp -implicitDefEqProofs [m1,m2,m3,m4,hA2,mR,he,hG1,hG2,hG3,hG4,hG5,Server.c,Reply.c]
   ·simp only [if_true] at hA2
    simp -implicitDefEqProofs [m1,m2,m3,m4,hA2,mR,he,hG1,hG2,hG3,hG4,hG5,Server.c,Reply.c]
 | false =>
  simp only [Bool.false_eq_true,false_and,if_false]
  have hms:=actR_ms s r
  have mK:=fun H=>Keep_ev s.ms r.who r.seq (actR s r).2.2 h.mw (by have:=h.ml;omega) H
  cases hk:fnK r.kind with
  | none =>
   have ha:=fnK_none (s:=s) hk
   rw [ha]
   rw [hk] at m4
   simp only [Option.map_none,Option.getD_none,Option.isSome_none] at m4
   clear h hms mK ha hk
   obtain ⟨⟨srev,slow,sbase,slog⟩,⟨lnext,ll⟩,⟨ml,mo⟩,clock⟩:=s
   obtain ⟨rkind,rwho,rseq,ronce,rkey,rvalue,rlease,rrev,rttl,rtoken,riff,rthn,rels⟩:=r
   simp only at honce
   subst honce
   simp only [A,errR,Server.c,Memos.c,Req.c,Reply.c,KVs.g,Evs.g,Sl.g_nil,List.map_cons,List.map_nil,List.cons_append,List.nil_append] at m1 m2 mR ⊢
   generalize hG1:Sl.g 6 KV.c sbase=G1 at mR ⊢
   generalize hG2:Sl.g 8 Ev.c slog=G2 at mR ⊢
   generalize hG3:LeaseL.g ll=G3 at mR ⊢
   generalize hG4:MemoL.g ml=G4 at m2 mR ⊢
   generalize hG5:Floors.g mo=G5 at m2 mR ⊢
   generalize Cmps.g riff=R1 at m1 mR ⊢
   generalize Muts.g rthn=R2 at m1 mR ⊢
   generalize Muts.g rels=R3 at m1 mR ⊢
   simp -implicitDefEqProofs [m1,m2,m3,m4,mR,hG1,hG2,hG3,hG4,hG5,Server.c,Reply.c]
  | some k =>
  obtain ⟨u,hu,hA⟩:=act_ev h (by omega) hk
  rw [hk] at m4
  simp only [Option.map_some,Option.getD_some,Option.isSome_some] at m4
  clear h
  generalize hkm:keepM s.ms r.who r.seq (actR s r).2.2=KM at mK
  generalize keepE s.ms r.who r.seq=KE at mK
  generalize actR s r=ar at *
  obtain ⟨e,s',p'⟩:=ar
  simp only at hms hu hA mK hkm ⊢
  have hA2:=fun b2 b3 b4 b5 b6 b7 b8 b9 b10 b11=>hA (H:=H++[.cells (s.c.map .g),.cells (r.c.map .g),b2,b3,b4,b5,b6,b7,b8,b9,b10,b11,actC s (errR r 0)]) (q:=H.length+12) (by rw [List.getElem?_append_right (by omega),Nat.add_sub_cancel_left];rfl)
  clear hA
  obtain ⟨⟨srev,slow,sbase,slog⟩,⟨lnext,ll⟩,⟨ml,mo⟩,clock⟩:=s
  obtain ⟨rkind,rwho,rseq,ronce,rkey,rvalue,rlease,rrev,rttl,rtoken,riff,rthn,rels⟩:=r
  obtain ⟨⟨srev',slow',sbase',slog'⟩,⟨lnext',ll'⟩,⟨ml',mo'⟩,clock'⟩:=s'
  obtain ⟨q1,q2,q3,q4,q5,q6,q7,q8,q9⟩:=p'
  obtain ⟨km,ko⟩:=KM
  simp only at honce hms
  subst honce
  cases hms
  simp only [A,actC,errR,Server.c,Store.c,Leases.c,Memos.c,Req.c,Reply.c,KVs.g,Evs.g,Sl.g_nil,List.map_cons,List.map_nil,List.cons_append,List.nil_append] at m1 m2 mR hA2 mK ⊢
  generalize hG1:Sl.g 6 KV.c sbase=G1 at mR hA2 ⊢
  generalize hG2:Sl.g 8 Ev.c slog=G2 at mR hA2 ⊢
  generalize hG3:LeaseL.g ll=G3 at mR hA2 ⊢
  generalize hG4:MemoL.g ml=G4 at m2 mR hA2 mK ⊢
  generalize hG5:Floors.g mo=G5 at m2 mR hA2 mK ⊢
  generalize Cmps.g riff=R1 at m1 mR hA2 ⊢
  generalize Muts.g rthn=R2 at m1 mR hA2 ⊢
  generalize Muts.g rels=R3 at m1 mR hA2 ⊢
  generalize hG6:Sl.g 6 KV.c sbase'=G6 at hA2 ⊢
  generalize hG7:Sl.g 8 Ev.c slog'=G7 at hA2 ⊢
  generalize hG8:LeaseL.g ll'=G8 at hA2 ⊢
  generalize hG9:MemoL.g km=G9 at mK ⊢
  generalize hG10:Floors.g ko=G10 at mK ⊢
  generalize hG11:Sl.g 6 KV.c q8=G11 at hA2 mK ⊢
  generalize hG12:Sl.g 8 Ev.c q9=G12 at hA2 mK ⊢
  by_cases he:e=0
  ·subst he
   have hu1:u=true:=by cases u;exact absurd rfl (hu rfl);rfl
   subst hu1
   simp only [if_true] at hA2
   simp -implicitDefEqProofs [m1,m2,m3,m4,hA2,mK,hG1,hG2,hG3,hG4,hG5,hG6,hG7,hG8,hG9,hG10,hG11,hG12,Server.c,Reply.c]
  ·cases u
   ·simp only [Bool.false_eq_true,if_false] at hA2
    simp -implicitDefEqProofs [m1,m2,m3,m4,hA2,mR,he,hG1,hG2,hG3,hG4,hG5,Server.c,Reply.c]
   ·simp only [if_true] at hA2
    simp -implicitDefEqProofs [m1,m2,m3,m4,hA2,mR,he,hG1,hG2,hG3,hG4,hG5,Server.c,Reply.c]
end Go.Proofs.YtndfdnlbljhlgaaGreat
end
section
namespace Go.Proofs.YtndfdnlbljhlgaaGreat
open Go Go.AM Go.Proofs
set_option maxRecDepth 4000
set_option linter.unusedSimpArgs false
set_option linter.unusedVariables false
theorem LSame_ev (a b:Leases) (hn:a.next=b.next) (hab:a.l.l=b.l.l) (hl:b.l.l.length≤9223372036854775807) (H:List Blk):EvF tab 39 [A a.c,A b.c] H=some ⟨B true,[],[]⟩:=by
 obtain ⟨n,a⟩:=a
 obtain ⟨n',b⟩:=b
 simp only at hn hab hl
 subst hn
 have hw:loopE (EvF tab) H L39_0 [2,3,5] ⟨[(2,.ptr H.length 0),(3,.ptr (H.length+1) 0),(5,I 0)],[],[.cells [I n,.g (LeaseL.g a)],.cells [I n,.g (LeaseL.g b)]]⟩ =
   some (.exit 0,⟨[(2,.ptr H.length 0),(3,.ptr (H.length+1) 0),(5,I b.l.length),(24,B false)],[],[.cells [I n,.g (LeaseL.g a)],.cells [I n,.g (LeaseL.g b)]]⟩):=by
  refine loop_cnt b.l.length (fun k=>⟨[(2,.ptr H.length 0),(3,.ptr (H.length+1) 0),(5,I k)],[],[.cells [I n,.g (LeaseL.g a)],.cells [I n,.g (LeaseL.g b)]]⟩) _ (by simp) (fun k hk => ?_) ?_
  ·delta L39_0
   have e2:=wrap_succ hk hl
   rcases Sl.both hab with ⟨l,⟨rfl,rfl⟩ | ⟨rfl,rfl,rfl⟩ | ⟨rfl,rfl,rfl⟩ | ⟨rfl,rfl,rfl⟩⟩
   ·simp only [Sl.l_of] at hk
    obtain ⟨x,hx⟩:∃x,l[k]=x:=⟨_,rfl⟩
    simp -implicitDefEqProofs [hk,hx,Lease.c,e2]
   all_goals simp at hk
  ·delta L39_0
   rcases Sl.both hab with ⟨l,⟨rfl,rfl⟩ | ⟨rfl,rfl,rfl⟩ | ⟨rfl,rfl,rfl⟩ | ⟨rfl,rfl,rfl⟩⟩ <;> simp -implicitDefEqProofs
 refine EvF_walk t39 (by simp) ?_
 rcases Sl.both hab with ⟨l,⟨rfl,rfl⟩ | ⟨rfl,rfl,rfl⟩ | ⟨rfl,rfl,rfl⟩ | ⟨rfl,rfl,rfl⟩⟩ <;> simp at hw <;> simp -implicitDefEqProofs [A,Leases.c,hw]
end Go.Proofs.YtndfdnlbljhlgaaGreat
end
section
namespace Go.Proofs.YtndfdnlbljhlgaaGreat
open Go Go.AM Go.Proofs
set_option maxRecDepth 20000
set_option maxHeartbeats 2000000
set_option linter.unusedSimpArgs false
set_option linter.unusedVariables false
theorem Server.inv {gs:List GV} (h:HasTy (.p (.p (.i .i64) (.p (.i .i64) (.p (.sl 6 tKV) (.p (.sl 8 tEv) .u)))) (.p tLeases (.p (.p (.sl 11 (.p (.i .i64) (.p (.i .i64) (.p tReply .u)))) (.p (.sl 2 (.p (.i .i64) (.p (.i .i64) .u))) .u)) (.p (.i .i64) .u)))) gs):∃x:Server,x.wf∧gs=x.c:=by
 obtain ⟨_,_,rfl,h1,_,_,rfl,h2,_,_,rfl,⟨_,_,rfl,h3,_,_,rfl,h4,rfl⟩,_,_,rfl,⟨c,rfl,hc⟩,rfl⟩:=h
 obtain ⟨a,wa,rfl⟩:=Store.inv h1
 obtain ⟨b,wb,rfl⟩:=Leases.inv h2
 obtain ⟨l,l1,l2,rfl⟩:=h3.sl_inv (fun _=>Memo.inv)
 obtain ⟨o,o1,o2,rfl⟩:=h4.sl_inv (fun _=>Floor.inv)
 exact ⟨⟨a,b,⟨l,o⟩,c⟩,⟨wa,wb,⟨⟨l1,l2⟩,o1,o2⟩,hc⟩,by simp [Server.c,Store.c,Leases.c]⟩
structure SameV (a b:Server):Prop where
 st:sameS a.st b.st
 next:a.ls.next=b.ls.next
 ls:a.ls.l.l=b.ls.l.l
 ml:a.ms.l.l=b.ms.l.l
 mo:a.ms.old.l=b.ms.old.l
 ck:a.clock=b.clock
theorem SameV.refl (a:Server):SameV a a:=⟨⟨rfl,rfl,rfl,rfl⟩,rfl,rfl,rfl,rfl,rfl⟩
theorem SameV_ev (a b:Server) (h:SameV a b) (hs:smallS b.st) (hl:b.ls.l.l.length≤9223372036854775807) (wm:b.ms.wf) (H:List Blk):EvF tab 14 [A a.c,A b.c] H=some ⟨B true,[],[]⟩:=by
 have m1:=fun H=>SameS_ev a.st b.st h.st hs H
 have m2:=fun H=>LSame_ev a.ls b.ls h.next h.ls hl H
 have m3:=fun H=>SameM_ev a.ms b.ms h.ml h.mo wm H
 have hc:=h.ck
 refine EvF_walk t14 (by simp) ?_
 obtain ⟨⟨srev,slow,sbase,slog⟩,⟨lnext,ll⟩,⟨ml,mo⟩,clock⟩:=a
 obtain ⟨⟨srev',slow',sbase',slog'⟩,⟨lnext',ll'⟩,⟨ml',mo'⟩,clock'⟩:=b
 simp only at hc
 subst hc
 clear h hs hl wm
 simp only [A,Store.c,Leases.c,Memos.c,Server.c,List.map_cons,List.map_nil] at m1 m2 m3 ⊢
 generalize KVs.g sbase=G1 at m1 ⊢
 generalize Evs.g slog=G2 at m1 ⊢
 generalize LeaseL.g ll=G3 at m2 ⊢
 generalize MemoL.g ml=G4 at m3 ⊢
 generalize Floors.g mo=G5 at m3 ⊢
 generalize KVs.g sbase'=G6 at m1 ⊢
 generalize Evs.g slog'=G7 at m1 ⊢
 generalize LeaseL.g ll'=G8 at m2 ⊢
 generalize MemoL.g ml'=G9 at m3 ⊢
 generalize Floors.g mo'=G10 at m3 ⊢
 simp -implicitDefEqProofs [m1,m2,m3]
def fewV (s:Server):Bool:=fewS s.st&&(decide (s.ls.l.l.length≤20)&&fewM s.ms)
theorem FewV_ev (s:Server) (w:s.wf) (H:List Blk):EvF tab 10 [A s.c] H=some ⟨B (fewV s),[],[]⟩:=by
 obtain ⟨w1,w2,w3,w4⟩:=w
 have m1:=fun H=>FewS_ev s.st w1 H
 have m3:=fun H=>FewM_ev s.ms w3 H
 refine EvF_walk t10 (by simp) ?_
 have hv:∀h st,lenV h st (.g (LeaseL.g s.ls.l))=some s.ls.l.l.length:=fun h st=>lenV_Sl ..
 unfold fewV
 generalize fewS s.st=b1 at m1 ⊢
 generalize fewM s.ms=b3 at m3 ⊢
 generalize s.ls.l.l.length=n at hv ⊢
 obtain ⟨⟨srev,slow,sbase,slog⟩,⟨lnext,ll⟩,⟨ml,mo⟩,clock⟩:=s
 simp only [A,Store.c,Leases.c,Memos.c,Server.c,List.map_cons,List.map_nil] at m1 m3 hv ⊢
 generalize KVs.g sbase=G1 at m1 ⊢
 generalize Evs.g slog=G2 at m1 ⊢
 generalize LeaseL.g ll=G3 at hv ⊢
 generalize MemoL.g ml=G4 at m3 ⊢
 generalize Floors.g mo=G5 at m3 ⊢
 cases b1
 ·simp -implicitDefEqProofs [m1]
 ·by_cases c:n≤20
  ·simp -implicitDefEqProofs [m1,m3,hv,c,show (n:Int)≤20 by omega]
  ·simp -implicitDefEqProofs [m1,m3,hv,c,show ¬(n:Int)≤20 by omega]
theorem fewV_size {s:Server} (h:fewV s=true):fewS s.st=true∧s.ls.l.l.length≤20∧s.ms.l.l.length≤40∧s.ms.old.l.length≤20:=by
 unfold fewV at h
 simp only [Bool.and_eq_true,decide_eq_true_eq] at h
 exact ⟨h.1,h.2.1,fewM_small h.2.2⟩
structure VOk (s:Server):Prop where
 st:SOk s.st
 ls:mayS s.ls=true
 ms:MayOk s.ms.l.l s.ms.old.l
 ck:0≤s.clock∧s.clock≤1099511627775
 rep:∀x∈s.ms.l.l,repIn x=true
 held:∀x∈nowP s.st,heldL s.ls.l.l x=true
theorem mayV_iff {s:Server}:mayV s=true↔VOk s:=by
 unfold mayV timeIn
 simp only [Bool.and_eq_true,decide_eq_true_eq,allP_iff,storeOk_iff,mayMe_iff]
 constructor
 ·rintro ⟨h1,h2,h3,h4,h5,h6⟩;exact ⟨h1,h2,h3,h4,h5,h6⟩
 ·rintro ⟨h1,h2,h3,h4,h5,h6⟩;exact ⟨h1,h2,h3,h4,h5,h6⟩
theorem VOk.srv {s:Server} (h:VOk s):Srv0 s:=⟨h.st,h.ls⟩
end Go.Proofs.YtndfdnlbljhlgaaGreat
end
section
namespace Go.Proofs.YtndfdnlbljhlgaaGreat
open Go Go.AM Go.Proofs
set_option maxRecDepth 20000
set_option maxHeartbeats 2000000
set_option linter.unusedSimpArgs false
set_option linter.unusedVariables false
theorem applyE_same {a b:Store} (h:sameS a b) (ms:List Mut):applyE a ms=applyE b ms:=by
 obtain ⟨h1,h2,h3,h4⟩:=h
 unfold applyE moreP
 rw [h1,h3,h4]
theorem applyS_same {a b:Store} (h:sameS a b) (ms:List Mut):sameS (applyS a ms) (applyS b ms):=by
 have he:=applyE_same h ms
 have hm:moreP a ms=moreP b ms:=by obtain ⟨h1,h2,h3,h4⟩:=h;unfold moreP;rw [h1,h3,h4]
 unfold applyS applyN
 rw [he,hm]
 obtain ⟨h1,h2,h3,h4⟩:=h
 split
 ·exact ⟨by simp only;rw [h1],h2,h3,by simp only [Sl.l_of];rw [h4]⟩
 ·exact ⟨h1,h2,h3,h4⟩
theorem nowP_same {a b:Store} (h:sameS a b):nowP a=nowP b:=by
 obtain ⟨h1,h2,h3,h4⟩:=h
 unfold nowP;rw [h1,h3,h4]
theorem shrE_same {a b:Store} (h:sameS a b) (to:Int):shrE a to=shrE b to:=by
 obtain ⟨h1,h2,h3,h4⟩:=h
 unfold shrE;rw [h1,h2]
theorem keepR_sl (to:Int) (l:Sl Ev):(keepR to l).l=keepL to l.l:=by cases l <;> rfl
theorem shrS2_same {a b:Store} (h:sameS a b) (to:Int):sameS (shrS2 a to) (shrS b to):=by
 unfold shrS shrS2
 rw [shrE_same h]
 split
 ·obtain ⟨h1,h2,h3,h4⟩:=h
  exact ⟨h1,rfl,by simp only;rw [foldR2_l,foldR_l,h3,h4],by simp only;rw [slOf_l,keepR_sl,h4]⟩
 ·exact h
def sweepA2 (s:Store) (d:List Mut):Store:=if 60<s.log.l.length+d.length then shrS2 s s.rev else s
def sweepE2 (s:Server) (id:Int):Int:=if endE s.ls id=0 then applyE (sweepA2 s.st (sweepD s id)) (sweepD s id) else endE s.ls id
def sweepS2 (s:Server) (id:Int):Server:=if endE s.ls id=0∧applyE (sweepA2 s.st (sweepD s id)) (sweepD s id)=0 then ⟨applyS (sweepA2 s.st (sweepD s id)) (sweepD s id),endS s.ls id,s.ms,s.clock⟩ else s
theorem sweepA2_same {a b:Store} (h:sameS a b) (d:List Mut):sameS (sweepA2 a d) (sweepA b d):=by
 unfold sweepA2 sweepA
 rw [h.1,h.2.2.2]
 split
 ·exact shrS2_same h _
 ·exact h
theorem endE_same {a b:Leases} (h:a.l.l=b.l.l) (id:Int):endE a id=endE b id:=by unfold endE;rw [h]
theorem endS_same {a b:Leases} (hn:a.next=b.next) (h:a.l.l=b.l.l) (id:Int):(endS a id).next=(endS b id).next∧(endS a id).l.l=(endS b id).l.l:=by
 unfold endS
 rw [h]
 split
 ·exact ⟨hn,rfl⟩
 ·exact ⟨hn,h⟩
theorem sweepE2_same {a b:Server} (h:SameV a b) (id:Int):sweepE2 a id=sweepE b id:=by
 unfold sweepE2 sweepE sweepD
 rw [endE_same h.ls,nowP_same h.st,applyE_same (sweepA2_same h.st _)]
theorem sweepS2_same {a b:Server} (h:SameV a b) (id:Int):SameV (sweepS2 a id) (sweepS b id):=by
 unfold sweepS2 sweepS sweepD
 rw [endE_same h.ls,nowP_same h.st,applyE_same (sweepA2_same h.st _)]
 split
 ·obtain ⟨e1,e2⟩:=endS_same h.next h.ls id
  exact ⟨applyS_same (sweepA2_same h.st _) _,e1,e2,h.ml,h.mo,h.ck⟩
 ·exact h
theorem Fit.same {a b:Server} (h:SameV a b) (hf:Fit b):Fit a:=by
 obtain ⟨h1,h2,h3,h4⟩:=h.st
 exact ⟨by rw [h3,h4];exact hf.sz,by rw [h1];exact hf.rev,by rw [nowP_same h.st];exact hf.key,by rw [h.ls];exact hf.ls⟩
theorem Sweep2_ev (s:Server) (id:Int) (hf:Fit s) (H:List Blk):EvF tab 26 [A s.c,I id] H=some ⟨.tup [A (sweepS2 s id).c,I (sweepE2 s id)],[],[]⟩:=by
 have h1:=hf.sz
 have hs:smallS s.st:=by unfold smallS;omega
 have hnl:(foldR2 s.st.base s.st.log.l s.st.rev).l=nowP s.st:=foldR2_l ..
 have hnn:(nowP s.st).length≤5000:=by have:=foldP_len s.st.rev s.st.log.l s.st.base.l;unfold nowP;omega
 have m1:=fun H=>End2_ev s.ls id hf.ls H
 have m2:=fun H=>Now2_ev s.st hs H
 have m3:=fun H=>Drops2_ev (foldR2 s.st.base s.st.log.l s.st.rev) id (by rw [hnl];omega) H
 rw [hnl] at m3
 have m4:=fun H=>Shrink2_ev s.st s.st.rev hs H
 obtain ⟨a1,a2⟩:=sweepA_fit hf (sweepD s id)
 obtain ⟨e1,e2,e3,e4⟩:=sweepA2_same (a:=s.st) (b:=s.st) ⟨rfl,rfl,rfl,rfl⟩ (sweepD s id)
 have hD:(sweepD s id).length≤5000:=by have:=dropsS_len (nowP s.st) id;unfold sweepD;omega
 have m5:=fun H=>Apply2_ev (sweepA2 s.st (sweepD s id)) (slOf (sweepD s id)) (by unfold smallS at a1 ⊢;rw [e3,e4];exact a1) (by rw [e1,a2];have:=hf.rev;omega) (by rw [slOf_l];exact dropsS_key hf.key) (by rw [slOf_l];omega) H
 rw [slOf_l] at m5
 have hl60:sweepA2 s.st (sweepD s id)=if 60<s.st.log.l.length+(sweepD s id).length then shrS2 s.st s.st.rev else s.st:=rfl
 refine EvF_walk t26 (by simp) ?_
 unfold sweepS2 sweepE2
 rw [show dropsS (nowP s.st) id=sweepD s id from rfl] at m3
 clear e1 e2 e3 e4
 generalize sweepD s id=D at m3 m5 hD hl60 ⊢
 generalize foldR2 s.st.base s.st.log.l s.st.rev=N at m2 m3
 have w1:IntKind.i64.wrap ((s.st.log.l.length:Int)+(D.length:Int))=(s.st.log.l.length:Int)+(D.length:Int):=wrap_i64 (by omega) (by omega)
 have hv2:∀h st,lenV h st (.g (Muts.g (slOf D)))=some D.length:=fun h st=>by rw [lenV_Sl,slOf_l]
 generalize applyE (sweepA2 s.st D) D=ae at m5 ⊢
 generalize applyV (sweepA2 s.st D) D=av at m5
 obtain ⟨⟨srev,slow,sbase,slog⟩,⟨lnext,ll⟩,⟨ml,mo⟩,clock⟩:=s
 simp only at m1 m2 m3 m4 m5 w1 hl60 h1 ⊢
 have hv1:∀h st,lenV h st (.g (Evs.g slog))=some slog.l.length:=fun h st=>lenV_Sl ..
 generalize Muts.g (slOf D)=GD at m3 m5 hv2
 generalize applyS (sweepA2 ⟨srev,slow,sbase,slog⟩ D) D=P at m5 ⊢
 rw [hl60] at m5
 clear hl60 a1 a2 hf hs hnl hnn
 generalize shrS2 ⟨srev,slow,sbase,slog⟩ srev=Q at m4 m5
 generalize endE ⟨lnext,ll⟩ id=ee at m1 ⊢
 generalize endS ⟨lnext,ll⟩ id=L at m1 ⊢
 obtain ⟨prev,plow,pbase,plog⟩:=P
 obtain ⟨lnext',ll'⟩:=L
 by_cases h60:60<slog.l.length+D.length
 ·have h60I:(60:Int)<(slog.l.length:Int)+(D.length:Int):=by omega
  rw [if_pos h60] at m5
  obtain ⟨qrev,qlow,qbase,qlog⟩:=Q
  simp only [A,Store.c,Leases.c,Server.c,List.map_cons,List.map_nil] at m1 m2 m3 m4 m5 ⊢
  generalize hG1:KVs.g sbase=G1 at m2 m4 m5 ⊢
  generalize hG2:Evs.g slog=G2 at m2 m4 m5 hv1 ⊢
  generalize hG3:LeaseL.g ll=G3 at m1 ⊢
  generalize hG4:MemoL.g ml=G4
  generalize hG5:Floors.g mo=G5
  generalize KVs.g N=G6 at m2 m3
  generalize KVs.g qbase=G7 at m4 m5
  generalize Evs.g qlog=G8 at m4 m5
  generalize hG9:KVs.g pbase=G9 at m5 ⊢
  generalize hG10:Evs.g plog=G10 at m5 ⊢
  generalize hG11:LeaseL.g ll'=G11 at m1 ⊢
  generalize Evs.g av=G12 at m5
  by_cases he:ee=0
  ·subst he
   by_cases ha:ae=0
   ·subst ha
    simp -implicitDefEqProofs [m1,m2,m3,m4,m5,hv1,hv2,w1,pends,hG1,hG2,hG3,hG4,hG5,hG9,hG10,hG11,Server.c,h60I]
   ·simp -implicitDefEqProofs [m1,m2,m3,m4,m5,hv1,hv2,w1,pends,hG1,hG2,hG3,hG4,hG5,hG9,hG10,hG11,Server.c,h60I,ha]
  ·simp -implicitDefEqProofs [m1,he,hG1,hG2,hG3,hG4,hG5,Server.c]
 ·have h60I:¬(60:Int)<(slog.l.length:Int)+(D.length:Int):=by omega
  rw [if_neg h60] at m5
  obtain ⟨qrev,qlow,qbase,qlog⟩:=Q
  simp only [A,Store.c,Leases.c,Server.c,List.map_cons,List.map_nil] at m1 m2 m3 m4 m5 ⊢
  generalize hG1:KVs.g sbase=G1 at m2 m4 m5 ⊢
  generalize hG2:Evs.g slog=G2 at m2 m4 m5 hv1 ⊢
  generalize hG3:LeaseL.g ll=G3 at m1 ⊢
  generalize hG4:MemoL.g ml=G4
  generalize hG5:Floors.g mo=G5
  generalize KVs.g N=G6 at m2 m3
  generalize KVs.g qbase=G7 at m4 m5
  generalize Evs.g qlog=G8 at m4 m5
  generalize hG9:KVs.g pbase=G9 at m5 ⊢
  generalize hG10:Evs.g plog=G10 at m5 ⊢
  generalize hG11:LeaseL.g ll'=G11 at m1 ⊢
  generalize Evs.g av=G12 at m5
  by_cases he:ee=0
  ·subst he
   by_cases ha:ae=0
   ·subst ha
    simp -implicitDefEqProofs [m1,m2,m3,m4,m5,hv1,hv2,w1,pends,hG1,hG2,hG3,hG4,hG5,hG9,hG10,hG11,Server.c,h60I]
   ·simp -implicitDefEqProofs [m1,m2,m3,m4,m5,hv1,hv2,w1,pends,hG1,hG2,hG3,hG4,hG5,hG9,hG10,hG11,Server.c,h60I,ha]
  ·simp -implicitDefEqProofs [m1,he,hG1,hG2,hG3,hG4,hG5,Server.c]
end Go.Proofs.YtndfdnlbljhlgaaGreat
end
section
namespace Go.Proofs.YtndfdnlbljhlgaaGreat
open Go Go.AM Go.Proofs
set_option maxRecDepth 20000
set_option maxHeartbeats 2000000
set_option linter.unusedSimpArgs false
set_option linter.unusedVariables false
def sweepsS2 (s:Server) (ids:List Int):Server:=ids.foldl sweepS2 s
theorem sweepsS2_same:∀(ids:List Int) {a b:Server},SameV a b→SameV (sweepsS2 a ids) (sweepsS b ids)
 | [],_,_,h=>h
 | id::ids,_,_,h=>sweepsS2_same ids (sweepS2_same h id)
def tickS2 (s:Server) (by_:Int):Server:=if tickOk s by_ then sweepsS2 (tock s by_) (dueS s.ls.l.l (s.clock+by_)) else s
theorem tickS2_same (s:Server) (by_:Int):SameV (tickS s by_) (tickS2 s by_):=by
 unfold tickS tickS2
 split
 ·have h:=sweepsS2_same (dueS s.ls.l.l (s.clock+by_)) (SameV.refl (tock s by_))
  exact ⟨⟨h.st.1.symm,h.st.2.1.symm,h.st.2.2.1.symm,h.st.2.2.2.symm⟩,h.next.symm,h.ls.symm,h.ml.symm,h.mo.symm,h.ck.symm⟩
 ·exact .refl _
theorem runG_foldI {α β γ:Type} (f:β→α→β):∀(l:List α) k (b:β),runG (γ:=γ) (fun _ x b => .inl (f b x)) k l b = .inl (l.foldl f b)
 | [],_,_=>rfl
 | x::l,k,b=>runG_foldI f l (k+1) (f b x)
theorem tick2_loop (s:Server) (h:Srv0 s) (ids:List Int) (hl:ids.length≤9223372036854775807) (b0 b1 b2 b3 b4 b5 b6 b7 b8 b9 b10 b11:Blk) (H:List Blk) :
  ∃o,loopE (EvF tab) H L27_0 [4,5,6,7] ⟨[(4,.ptr (H.length+6) 0),(5,.ptr (H.length+12) 0),(6,.g (Ints.g (slOf ids))),(7,I 0)],[],[b0,b1,b2,b3,b4,b5,b6,b7,b8,b9,b10,b11,.cells (s.c.map .g)]⟩ =
   some (.exit 0,⟨[(4,.ptr (H.length+6) 0),(5,.ptr (H.length+12) 0),(6,.g (Ints.g (slOf ids))),(7,I ids.length),(38,B false)],[],b0::b1::b2::b3::b4::b5::b6::b7::b8::b9::b10::b11 :: .cells ((sweepsS2 s ids).c.map .g)::o⟩):=by
 have hlen:∀h st,lenV h st (.g (Ints.g (slOf ids)))=some ids.length:=fun h st=>by rw [lenV_Sl,slOf_l]
 have hw:=loop_runJ (E:=EvF tab) (h:=H) (c:=L27_0) (lv:=[4,5,6,7]) (l:=ids) (β:=Server) (γ:=Unit) (fun _ b=>∃b',Srv0 b'∧SameV b b') (fun _ x b => .inl (sweepS2 b x))
  (fun k b o=>⟨[(4,.ptr (H.length+6) 0),(5,.ptr (H.length+12) 0),(6,.g (Ints.g (slOf ids))),(7,I k)],[],b0::b1::b2::b3::b4::b5::b6::b7::b8::b9::b10::b11 :: .cells (b.c.map .g)::o⟩)
  (fun b o=>(.exit 0,⟨[(4,.ptr (H.length+6) 0),(5,.ptr (H.length+12) 0),(6,.g (Ints.g (slOf ids))),(7,I ids.length),(38,B false)],[],b0::b1::b2::b3::b4::b5::b6::b7::b8::b9::b10::b11 :: .cells (b.c.map .g)::o⟩))
  (fun _ o=>(.ret,⟨[],[],o⟩)) (by simp) (by simp) (fun k x b o hk hx hy hi => ?_) (fun b o _=>by generalize Ints.g (slOf ids)=G at hlen ⊢;delta L27_0;simp -implicitDefEqProofs [hlen]) s [] ⟨s,h,.refl _⟩
 ·obtain ⟨o',hw⟩:=hw
  rw [runG_foldI] at hw
  exact ⟨o',by simpa only [endJ,Int.ofNat_zero,Int.cast_ofNat_Int,sweepsS2] using hw⟩
 ·obtain ⟨b',hb,hsv⟩:=hi
  refine ⟨⟨_,hb.sweep x,sweepS2_same hsv x⟩,?_⟩
  have e2:=wrap_succ hk hl
  have m1:=fun H=>Sweep2_ev b x (hb.fit.same hsv) H
  clear hsv
  generalize sweepS2 b x=c at m1 ⊢
  generalize sweepE2 b x=e at m1
  delta L27_0
  obtain ⟨⟨srev,slow,sbase,slog⟩,⟨lnext,ll⟩,⟨ml,mo⟩,clock⟩:=b
  obtain ⟨⟨srev',slow',sbase',slog'⟩,⟨lnext',ll'⟩,⟨ml',mo'⟩,clock'⟩:=c
  have hs:slOf ids = .of ids:=by unfold slOf;rw [if_neg (by intro e;subst e;simp at hk)]
  rw [hs] at hlen ⊢
  simp only [A,Server.c,List.map_cons,List.map_nil] at m1 ⊢
  generalize KVs.g sbase=G1 at m1 ⊢
  generalize Evs.g slog=G2 at m1 ⊢
  generalize LeaseL.g ll=G3 at m1 ⊢
  generalize MemoL.g ml=G4 at m1 ⊢
  generalize Floors.g mo=G5 at m1 ⊢
  generalize KVs.g sbase'=T1 at m1 ⊢
  generalize Evs.g slog'=T2 at m1 ⊢
  generalize LeaseL.g ll'=T3 at m1 ⊢
  generalize MemoL.g ml'=T4 at m1 ⊢
  generalize Floors.g mo'=T5 at m1 ⊢
  refine ⟨o++[.cells [.g (.int .i64 srev'),.g (.int .i64 slow'),.g T1,.g T2,.g (.int .i64 lnext'),.g T3,.g T4,.g T5,.g (.int .i64 clock')]],?_⟩
  simp -implicitDefEqProofs [m1,hk,hx,hy,e2,hlen,Ints.c,pends,ptrCons]
theorem Tick2_ev (s:Server) (by_:Int) (h:Srv0 s) (hc:0≤s.clock∧s.clock≤1099511627775) (hi:I64 by_) (H:List Blk):EvF tab 27 [A s.c,I by_] H=some ⟨A (tickS2 s by_).c,[],[]⟩:=by
 have h8:=(mayS_iff.1 h.ls).2.1
 have hd:=dueS_len s.ls.l.l (s.clock+by_)
 have m1:=fun H=>Due2_ev s.ls (s.clock+by_) (by omega) H
 obtain ⟨o,hw⟩:=tick2_loop (tock s by_) ⟨h.st,h.ls⟩ (dueS s.ls.l.l (s.clock+by_)) (by omega) (.cells (s.c.map .g)) (.rows 6 1 []) (.rows 8 1 []) (.rows 3 1 []) (.rows 11 1 []) (.rows 2 1 []) (.cells [I 0,I 0,.ms (H.length+1) 1 6 0 0,.ms (H.length+2) 1 8 0 0,I 0,.ms (H.length+3) 1 3 0 0,.ms (H.length+4) 1 11 0 0,.ms (H.length+5) 1 2 0 0,I 0]) (.rows 6 1 []) (.rows 8 1 []) (.rows 3 1 []) (.rows 11 1 []) (.rows 2 1 []) H
 refine EvF_walk t27 (by simp) ?_
 unfold tickS2
 generalize sweepsS2 (tock s by_) (dueS s.ls.l.l (s.clock+by_))=R at hw ⊢
 generalize (dueS s.ls.l.l (s.clock+by_)).length=n at hw
 generalize Ints.g (slOf (dueS s.ls.l.l (s.clock+by_)))=GI at m1 hw
 have hi1:=hi.1
 have hi2:=hi.2
 obtain ⟨⟨srev,slow,sbase,slog⟩,⟨lnext,ll⟩,⟨ml,mo⟩,clock⟩:=s
 obtain ⟨⟨rrev,rlow,rbase,rlog⟩,⟨rnext,rl⟩,⟨rml,rmo⟩,rclock⟩:=R
 simp only [A,Server.c,Leases.c,tock,tickOk,List.map_cons,List.map_nil] at m1 hw hc ⊢
 generalize hG1:KVs.g sbase=G1 at hw ⊢
 generalize hG2:Evs.g slog=G2 at hw ⊢
 generalize hG3:LeaseL.g ll=G3 at m1 hw ⊢
 generalize hG4:MemoL.g ml=G4 at hw ⊢
 generalize hG5:Floors.g mo=G5 at hw ⊢
 generalize hG6:KVs.g rbase=G6 at hw ⊢
 generalize hG7:Evs.g rlog=G7 at hw ⊢
 generalize hG8:LeaseL.g rl=G8 at hw ⊢
 generalize hG9:MemoL.g rml=G9 at hw ⊢
 generalize hG10:Floors.g rmo=G10 at hw ⊢
 by_cases c1:0≤by_
 ·by_cases c2:by_≤1000
  ·have w1:IntKind.i64.wrap (1099511627775 - by_)=1099511627775 - by_:=wrap_i64 (by omega) (by omega)
   by_cases c3:clock≤1099511627775 - by_
   ·have w2:IntKind.i64.wrap (clock+by_)=clock+by_:=wrap_i64 (by omega) (by omega)
    simp -implicitDefEqProofs [m1,hw,w1,w2,c1,c2,c3,show ¬by_<0 by omega,show ¬1000<by_ by omega,show ¬1099511627775 - by_<clock by omega,Server.c,hG6,hG7,hG8,hG9,hG10,pends]
   ·simp -implicitDefEqProofs [w1,c1,c2,c3,show ¬by_<0 by omega,show ¬1000<by_ by omega,show 1099511627775 - by_<clock by omega,Server.c,hG1,hG2,hG3,hG4,hG5,pends]
  ·simp -implicitDefEqProofs [c1,c2,show ¬by_<0 by omega,show 1000<by_ by omega,Server.c,hG1,hG2,hG3,hG4,hG5,pends]
 ·simp -implicitDefEqProofs [c1,show by_<0 by omega,Server.c,hG1,hG2,hG3,hG4,hG5,pends]
end Go.Proofs.YtndfdnlbljhlgaaGreat
end
