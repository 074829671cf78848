/- Part of the proof: what the functions answer, part 7 (GSweepP, PWatch2, GDoP, STxn4, GLive10, LServ3, LServ5, GGrantP, LServ7). No conditions. -/
import Derived.Test.YtndfdnlbljhlgaaGreatSPJ6
import Derived.Test.YtndfdnlbljhlgaaGreatSPJ5
import Derived.KernelRfl
section
namespace Go.Proofs.YtndfdnlbljhlgaaGreat
open Go Go.AM Go.Proofs
set_option maxRecDepth 20000
set_option linter.unusedSimpArgs false
set_option linter.unusedVariables false
set_option linter.defProp false
theorem keepR_l (to:Int) (s:Sl Ev):(keepR to s).l=keepL to s.l:=by cases s <;> rfl
theorem gone_flag (rev:Int):∀(ms:List Mut) (b:List Ev×List KV×Bool),(∀m∈ms,m.gone=true)→b.2.1.length≤30→b.2.2=false→(ms.foldl (evP rev) b).2.2=false
 | [],b,_,_,h=>h
 | m::ms,b,hg,hl,hb=>by
  rw [List.foldl_cons]
  refine gone_flag rev ms _ (fun x hx=>hg x (by simp [hx])) ?_ ?_
  ·unfold evP
   split
   ·exact hl
   ·unfold stepP evOf
    rw [hg m (by simp)]
    simp only [Int.lt_irrefl,if_false,if_true]
    have:=takeP_len (findX b.2.1 m.key).key b.2.1
    omega
  ·unfold evP
   split
   ·exact hb
   ·have h1:(stepP rev b.2.1 (evOf rev b.2.1 m)).length≤30:=by
     unfold stepP evOf
     rw [hg m (by simp)]
     simp only [Int.lt_irrefl,if_false,if_true]
     have:=takeP_len (findX b.2.1 m.key).key b.2.1
     omega
    simp only [hb,Bool.false_or,decide_eq_false_iff_not]
    omega
theorem mayMG_drops:∀(l:List KV) (met:List Bs),Srt l→(∀x∈l,keyOk x.key=true)→(∀x∈l,met.contains x.key=false)→mayMG met (l.map dropM)=true
 | [],_,_,_,_=>rfl
 | x::l,met,hs,hk,hm=>by
  obtain ⟨h1,h2⟩:=Srt.cons.1 hs
  rw [List.map_cons]
  unfold mayMG
  have e:mutOkM (dropM x)=true:=by
   rw [mutOk_iff]
   exact ⟨hk x (by simp),by simp [dropM],by simp [dropM],by simp [dropM]⟩
  rw [e,show (dropM x).key=x.key from rfl,hm x (by simp)]
  simp only [Bool.not_false,Bool.and_self,Bool.true_and]
  refine mayMG_drops l _ h2 (fun y hy=>hk y (by simp [hy])) fun y hy => ?_
  have a1:=hm y (by simp [hy])
  have a2:=bl_ne (h1 y hy)
  rw [List.contains_eq_any_beq] at a1 ⊢
  rw [List.any_append,a1]
  simp [Ne.symm a2]
theorem drops_may {l:List KV} (hs:Srt l) (hk:∀x∈l,keyOk x.key=true) (hl:l.length≤30) (id:Int):mayM (dropsS l id)=true:=by
 have h1:=dropsS_len l id
 unfold mayM
 rw [Bool.and_eq_true,decide_eq_true_eq]
 refine ⟨?_,by omega⟩
 unfold dropsS
 split
 ·rfl
 ·exact mayMG_drops _ [] (List.Pairwise.sublist List.filter_sublist hs) (fun x hx=>hk x (List.mem_filter.1 hx).1) (fun x _=>rfl)
theorem dropsS_gone {l:List KV} {id:Int}:∀m∈dropsS l id,m.gone=true:=by
 intro m hm
 unfold dropsS at hm
 split at hm
 ·cases hm
 ·obtain ⟨x,_,rfl⟩:=List.mem_map.1 hm;rfl
theorem shr_rev {s:Store} (h:SOk s):shrS s s.rev=⟨s.rev,s.rev,foldR s.base s.log.l s.rev,keepR s.rev s.log⟩:=by
 have h0:shrE s s.rev=0:=shrE_zero.2 ⟨by have:=h.low0;have:=h.lowr;omega,Int.le_refl _,h.lowr⟩
 unfold shrS
 rw [if_pos h0]
theorem sweepA_now {s:Store} (h:SOk s) (d:List Mut) (hd:d.length≤60):nowP (sweepA s d)=nowP s∧(sweepA s d).rev=s.rev∧(sweepA s d).log.l.length+d.length≤60:=by
 unfold sweepA
 split
 ·rw [shr_rev h]
  refine ⟨?_,rfl,?_⟩
  ·unfold nowP
   simp only [foldR_l,keepR_l]
   exact shr_fold h (Int.le_refl _)
  ·simp only [keepR_l,keepL_no (fun e he=>(h.all e he).2),List.length_nil]
   omega
 ·exact ⟨rfl,rfl,by omega⟩
theorem sweep_apply {s:Store} (h:SOk s) (id:Int):applyE (sweepA s (dropsS (nowP s) id)) (dropsS (nowP s) id)=0∨(applyE (sweepA s (dropsS (nowP s) id)) (dropsS (nowP s) id) ≠ 0∧s.rev=1099511627774):=by
 have hg:=h.nowGood
 have hn:=h.nowLen
 have hd:=dropsS_len (nowP s) id
 obtain ⟨a1,a2,a3⟩:=sweepA_now h (dropsS (nowP s) id) (by omega)
 have hm:=drops_may hg.srt (fun x hx=>oneOk_kk (hg.one x hx).1) hn id
 have hso:=sweepA_SOk h (dropsS (nowP s) id)
 generalize hD:dropsS (nowP s) id=D at *
 obtain ⟨f1,f2,-⟩:=more_facts hso hm
 have hfl:(moreP (sweepA s D) D).2.2=false:=by
  unfold moreP
  refine gone_flag _ _ _ (by rw [←hD];exact dropsS_gone) ?_ rfl
  show (nowP (sweepA s D)).length≤30
  rw [a1];exact hn
 have hle:(moreP (sweepA s D) D).1.length≤D.length:=by rw [f2];exact List.length_filter_le ..
 unfold applyE
 rw [if_pos hm]
 split
 ·exact .inl rfl
 ·split
  ·rename_i hc
   refine .inr ⟨by omega,?_⟩
   rcases hc with hc | hc | hc
   ·rw [hfl] at hc;cases hc
   ·rw [a2] at hc;exact hc
   ·omega
  ·exact .inl rfl
theorem filter_get {l:List KV} (h:Srt l) (p:KV→Bool) (k:Bs):getK (l.filter p) k=(match getK l k with | some x=>if p x=true then some x else none | none=>none):=by
 induction l with
 | nil=>rfl
 | cons x l ih =>
  obtain ⟨h1,h2⟩:=Srt.cons.1 h
  have ih:=ih h2
  rw [List.filter_cons,show getK (x::l) k=if x.key=k then some x else getK l k from rfl]
  by_cases hk:x.key=k
  ·rw [if_pos hk]
   by_cases hp:p x=true
   ·rw [if_pos hp,show getK (x::l.filter p) k=if x.key=k then some x else getK (l.filter p) k from rfl,if_pos hk]
    simp only [hp,if_true]
   ·rw [if_neg hp]
    simp only [hp,if_false]
    refine getK_no fun z hz => ?_
    rw [←hk]
    exact (bl_ne (h1 z (List.mem_filter.1 hz).1)).symm
  ·rw [if_neg hk]
   by_cases hp:p x=true
   ·rw [if_pos hp,show getK (x::l.filter p) k=if x.key=k then some x else getK (l.filter p) k from rfl,if_neg hk,ih]
   ·rw [if_neg hp,ih]
theorem drops_mutK {l:List KV} (h:Srt l) (id:Int) (h0:id ≠ 0) (k:Bs):mutK (dropsS l id) k=(match getK l k with | some x=>if x.lease=id then some (dropM x) else none | none=>none):=by
 unfold dropsS
 rw [if_neg h0]
 induction l with
 | nil=>rfl
 | cons x l ih =>
  obtain ⟨h1,h2⟩:=Srt.cons.1 h
  have ih:=ih h2
  rw [List.filter_cons,show getK (x::l) k=if x.key=k then some x else getK l k from rfl]
  by_cases hk:x.key=k
  ·rw [if_pos hk]
   by_cases hp:x.lease=id
   ·rw [if_pos (by simp [dropP,hp]),List.map_cons,show mutK (dropM x::(l.filter (dropP id)).map dropM) k=if (dropM x).key=k then some (dropM x) else mutK ((l.filter (dropP id)).map dropM) k from rfl,show (dropM x).key=x.key from rfl,if_pos hk]
    simp only [hp,if_true]
   ·rw [if_neg (by simp [dropP,hp])]
    simp only [hp,if_false]
    refine mutK_none fun z hz => ?_
    obtain ⟨y,hy,rfl⟩:=List.mem_map.1 hz
    show y.key ≠ k
    rw [←hk]
    exact (bl_ne (h1 y (List.mem_filter.1 hy).1)).symm
  ·rw [if_neg hk]
   by_cases hp:x.lease=id
   ·rw [if_pos (by simp [dropP,hp]),List.map_cons,show mutK (dropM x::(l.filter (dropP id)).map dropM) k=if (dropM x).key=k then some (dropM x) else mutK ((l.filter (dropP id)).map dropM) k from rfl,show (dropM x).key=x.key from rfl,if_neg hk,ih]
   ·rw [if_neg (by simp [dropP,hp]),ih]
theorem srt_eq {l m:List KV} (hl:Srt l) (hm:Srt m) (h:∀k,getK l k=getK m k):l=m:=by
 have:=srt_ext (fun x=>x) (fun a b e=>by rw [e]) hl hm (fun k=>by rw [h k])
 simpa using this
theorem swept_now {s:Store} (h:SOk s) {id:Int} (h0:id ≠ 0) (he:applyE (sweepA s (dropsS (nowP s) id)) (dropsS (nowP s) id)=0) :
  nowP (applyS (sweepA s (dropsS (nowP s) id)) (dropsS (nowP s) id))=(nowP s).filter (fun x => !decide (x.lease=id))∧s.rev≤(applyS (sweepA s (dropsS (nowP s) id)) (dropsS (nowP s) id)).rev:=by
 have hd:=dropsS_len (nowP s) id
 have hn:=h.nowLen
 obtain ⟨a1,a2,a3⟩:=sweepA_now h (dropsS (nowP s) id) (by omega)
 have hso:=sweepA_SOk h (dropsS (nowP s) id)
 have hg:=h.nowGood.srt
 refine ⟨srt_eq (apply_SOk hso _).nowGood.srt (List.Pairwise.sublist List.filter_sublist hg) fun k => ?_,?_⟩
 ·rw [apply_now hso he k,a1,filter_get hg]
  unfold outK
  rw [drops_mutK hg id h0]
  cases getK (nowP s) k with
  | none=>rfl
  | some x =>
   simp only
   by_cases hp:x.lease=id
   ·simp [hp,dropM]
   ·simp [hp]
 ·have:=(apply_rev hso he).1
  rw [this]
  split <;> omega
theorem end_hasS {L:Leases} (h:mayS L=true) (id j:Int):hasS j (endS L id).l.l=(hasS j L.l.l && !decide (j=id)):=by
 by_cases hj:j=id
 ·subst hj;rw [end_has h];simp
 ·simp only [hj,decide_false,Bool.not_false,Bool.and_true]
  unfold endS
  rcases hp:placeN id 0 L.l.l with _ | i
  ·rfl
  ·simp only [slOf_l,endL']
   obtain ⟨hi,hii⟩:=place_some hp
   have e:L.l.l=L.l.l.take i++L.l.l[i]::L.l.l.drop (i+1):=by simp
   have key:(∃x∈L.l.l.take i++L.l.l.drop (i+1),x.id=j)↔∃x∈L.l.l,x.id=j:=by
    constructor
    ·rintro ⟨x,hx,hxj⟩
     rcases List.mem_append.1 hx with hx | hx
     ·exact ⟨x,List.mem_of_mem_take hx,hxj⟩
     ·exact ⟨x,List.mem_of_mem_drop hx,hxj⟩
    ·rintro ⟨x,hx,hxj⟩
     rw [e] at hx
     rcases List.mem_append.1 hx with hx | hx
     ·exact ⟨x,List.mem_append_left _ hx,hxj⟩
     ·rcases List.mem_cons.1 hx with rfl | hx
      ·exact absurd (hxj.symm.trans hii) hj
      ·exact ⟨x,List.mem_append_right _ hx,hxj⟩
   cases hb:hasS j L.l.l
   ·rw [Bool.eq_false_iff]
    intro hc
    have:=hasS_iff.2 (key.1 (hasS_iff.1 hc))
    rw [hb] at this;cases this
   ·exact hasS_iff.2 (key.2 (hasS_iff.1 hb))
theorem sweep_one {s:Server} (h:Srv0 s) {id:Int} (h0:id ≠ 0) (hh:hasS id s.ls.l.l=true) :
  (nowP (sweepS s id).st=(nowP s.st).filter (fun x => !decide (x.lease=id))∧(∀j,hasS j (sweepS s id).ls.l.l=(hasS j s.ls.l.l && !decide (j=id)))∧s.st.rev≤(sweepS s id).st.rev)∨(sweepS s id=s∧s.st.rev=1099511627774):=by
 have hE:endE s.ls id=0:=endE_0.2 hh
 unfold sweepS sweepD
 rcases sweep_apply h.st id with ha | ⟨ha,hr⟩
 ·rw [if_pos ⟨hE,ha⟩]
  obtain ⟨k1,k2⟩:=swept_now h.st h0 ha
  exact .inl ⟨k1,fun j=>end_hasS h.ls id j,k2⟩
 ·rw [if_neg (fun hc=>ha hc.2)]
  exact .inr ⟨rfl,hr⟩
theorem sweeps_spec:∀(ids:List Int) {s:Server},Srv0 s→ids.Nodup→(∀id∈ids,id ≠ 0∧hasS id s.ls.l.l=true) →
  ∃G:List Int,(∀g∈G,g∈ids)∧(∀id∈ids,id∈G∨(sweepsS s ids).st.rev=1099511627774)∧nowP (sweepsS s ids).st=(nowP s.st).filter (fun x => !decide (x.lease∈G)) ∧
   (∀j,hasS j (sweepsS s ids).ls.l.l=(hasS j s.ls.l.l && !decide (j∈G)))∧s.st.rev≤(sweepsS s ids).st.rev
 | [],s,h,_,_=>⟨[],by simp,by simp,(List.filter_eq_self.2 (fun x _=>by simp)).symm,by simp [sweepsS],Int.le_refl _⟩
 | id::ids,s,h,hn,hi=>by
  obtain ⟨n1,n2⟩:=List.nodup_cons.1 hn
  obtain ⟨h0,hh⟩:=hi id (by simp)
  have hs:=h.sweep id
  rcases sweep_one h h0 hh with ⟨k1,k2,k3⟩ | ⟨k1,k2⟩
  ·obtain ⟨G,g1,g2,g3,g4,g5⟩:=sweeps_spec ids hs n2 (fun j hj=>⟨(hi j (by simp [hj])).1,by
    rw [k2,(hi j (by simp [hj])).2]
    have:j ≠ id:=fun e=>n1 (e▸hj)
    simp [this]⟩)
   refine ⟨id::G,fun g hg => ?_,fun j hj => ?_,?_,fun j => ?_,?_⟩
   ·rcases List.mem_cons.1 hg with rfl | hg
    ·simp
    ·exact List.mem_cons_of_mem _ (g1 g hg)
   ·rcases List.mem_cons.1 hj with rfl | hj
    ·exact .inl (by simp)
    ·exact (g2 j hj).imp (fun h=>List.mem_cons_of_mem _ h) (fun h=>h)
   ·show nowP (sweepsS (sweepS s id) ids).st=_
    rw [g3,k1,List.filter_filter]
    congr 1
    funext x
    by_cases c1:x.lease=id <;> by_cases c2:x.lease∈G <;> simp [c1,c2]
   ·show hasS j (sweepsS (sweepS s id) ids).ls.l.l=_
    rw [g4,k2]
    by_cases c1:j=id <;> by_cases c2:j∈G <;> simp [c1,c2]
   ·show s.st.rev≤(sweepsS (sweepS s id) ids).st.rev
    omega
  ·have e:sweepsS s (id::ids)=sweepsS s ids:=by show sweepsS (sweepS s id) ids=_;rw [k1]
   obtain ⟨G,g1,g2,g3,g4,g5⟩:=sweeps_spec ids h n2 (fun j hj=>hi j (by simp [hj]))
   rw [e]
   have hM:=(Srv0.sweeps ids h).st.revM
   refine ⟨G,fun g hg=>List.mem_cons_of_mem _ (g1 g hg),fun j hj => ?_,g3,g4,g5⟩
   exact .inr (by omega)
theorem dueS_nodup {L:Leases} (h:mayS L=true) (n:Int):(dueS L.l.l n).Nodup:=by
 have h4:=(mayS_iff.1 h).2.2.2
 unfold dueS List.Nodup
 rw [List.pairwise_map]
 exact (h4.sublist List.filter_sublist).imp (fun e=>by omega)
theorem dueS_mem {L:Leases} (h:mayS L=true) (n:Int):∀id∈dueS L.l.l n,id ≠ 0∧hasS id L.l.l=true:=by
 intro id hid
 unfold dueS at hid
 obtain ⟨x,hx,rfl⟩:=List.mem_map.1 hid
 have hx:=(List.mem_filter.1 hx).1
 have:=((mayS_iff.1 h).2.2.1 x hx).1
 exact ⟨by omega,hasS_iff.2 ⟨x,hx,rfl⟩⟩
structure Swept (s t:Server) (now:Int):Prop where
 due:∀x∈s.ls.l.l,x.till≤now→hasS x.id t.ls.l.l=true→t.st.rev=1099511627774
 stay:∀x∈s.ls.l.l,¬x.till≤now→hasS x.id t.ls.l.l=true
 keys:∀x∈nowP s.st,(x.lease=0∨hasS x.lease t.ls.l.l=true)↔x∈nowP t.st
 len:(nowP t.st).length≤(nowP s.st).length
theorem tick_swept {s:Server} (h:Srv0 s) (hh:∀x∈nowP s.st,heldL s.ls.l.l x=true) (now:Int):Swept s (sweepsS ⟨s.st,s.ls,s.ms,now⟩ (dueS s.ls.l.l now)) now:=by
 obtain ⟨G,g1,g2,g3,g4,g5⟩:=sweeps_spec (dueS s.ls.l.l now) (s:=⟨s.st,s.ls,s.ms,now⟩) ⟨h.st,h.ls⟩ (dueS_nodup h.ls now) (dueS_mem h.ls now)
 simp only at g3 g4
 have hm:=mayS_iff.1 h.ls
 have hG:∀g∈G,∃y∈s.ls.l.l,y.id=g∧y.till≤now:=fun g hg=>by
  have:=g1 g hg
  unfold dueS at this
  obtain ⟨y,hy,rfl⟩:=List.mem_map.1 this
  obtain ⟨h1,h2⟩:=List.mem_filter.1 hy
  exact ⟨y,h1,rfl,by simpa [dueP] using h2⟩
 have hu:∀x∈s.ls.l.l,∀y∈s.ls.l.l,x.id=y.id→x=y:=fun x hx y hy he=>by
  obtain ⟨i,hi,rfl⟩:=List.mem_iff_getElem.1 hx
  obtain ⟨j,hj,rfl⟩:=List.mem_iff_getElem.1 hy
  have hp:=List.pairwise_iff_getElem.1 hm.2.2.2
  rcases Nat.lt_trichotomy i j with hij | hij | hij
  ·have:=hp i j hi hj hij;omega
  ·subst hij;rfl
  ·have:=hp j i hj hi hij;omega
 refine ⟨fun x hx hd ht => ?_,fun x hx hd => ?_,fun x hx => ?_,?_⟩
 ·have hid:x.id∈dueS s.ls.l.l now:=by
   unfold dueS
   exact List.mem_map.2 ⟨x,List.mem_filter.2 ⟨hx,by simp [dueP,hd]⟩,rfl⟩
  rcases g2 x.id hid with hg | hg
  ·rw [g4] at ht;simp [hg] at ht
  ·exact hg
 ·rw [g4,hasS_iff.2 ⟨x,hx,rfl⟩]
  have:x.id∉G:=fun hg=>by
   obtain ⟨y,hy,he,hd2⟩:=hG _ hg
   rw [hu x hx y hy he.symm] at hd
   exact hd hd2
  simp [this]
 ·rw [g3,List.mem_filter,g4]
  have h1:=hh x hx
  unfold heldL at h1
  simp only [Bool.or_eq_true,decide_eq_true_eq] at h1
  have h0:(0:Int)∉G:=fun hg=>(dueS_mem h.ls now 0 (g1 0 hg)).1 rfl
  constructor
  ·rintro (hz | hz)
   ·exact ⟨hx,by rw [hz];simp [h0]⟩
   ·simp only [Bool.and_eq_true,Bool.not_eq_true',decide_eq_false_iff_not] at hz
    exact ⟨hx,by simp [hz.2]⟩
  ·rintro ⟨_,hz⟩
   simp only [Bool.not_eq_true',decide_eq_false_iff_not] at hz
   rcases h1 with h1 | h1
   ·exact .inl h1
   ·exact .inr (by rw [h1];simp [hz])
 ·rw [g3];exact List.length_filter_le ..
end Go.Proofs.YtndfdnlbljhlgaaGreat
end
section
namespace Go.Proofs.YtndfdnlbljhlgaaGreat
open Go Go.AM Go.Proofs
set_option maxRecDepth 20000
set_option linter.unusedSimpArgs false
set_option linter.unusedVariables false
end Go.Proofs.YtndfdnlbljhlgaaGreat
end
section
namespace Go.Proofs.YtndfdnlbljhlgaaGreat
open Go Go.AM Go.Proofs
set_option maxRecDepth 20000
set_option linter.unusedSimpArgs false
set_option linter.unusedVariables false
set_option linter.defProp false
theorem oneOk_wf {x:KV} (h:oneOk x=true):x.wf:=by
 obtain ⟨p1,p2,⟨p3,p4⟩,⟨p5,p6⟩,p7,p8,p9,p10⟩:=oneOk_iff.1 h
 have:=keyOk_len p1
 unfold KV.wf I64 S64
 refine ⟨by omega,by omega,by omega,by omega,by omega,by omega⟩
theorem right_one {l:List KV} {b:Int} {e:Ev} (hg:GoodK l b) (hr:rightP l e=true):oneOk e.kv=true:=by
 unfold rightP at hr
 split at hr
 ·rw [Bool.and_eq_true,kvEq_iff,findB_get,findX_get] at hr
  cases hq:getK l e.kv.key with
  | none=>rw [hq] at hr;cases hr.1
  | some x =>
   rw [hq] at hr
   have:x=e.kv:=hr.2
   rw [←this]
   exact (hg.one x (getK_some hq).1).1
 ·rw [Bool.and_eq_true] at hr;exact hr.2
theorem logOk_one {srev:Int}:∀{log:List Ev} {l:List KV} {last b:Int},GoodK l b→b≤last→logOk srev l last log=true→∀e∈log,oneOk e.kv=true
 | [],_,_,_,_,_,_,e,he=>by cases he
 | e::log,l,last,b,hg,hb,h,x,hx=>by
  obtain ⟨h1,h2,h3,h4,h5⟩:=logOk_cons.1 h
  rcases List.mem_cons.1 hx with rfl | hx
  ·exact right_one hg h3
  ·exact logOk_one (right_good hg (by omega) h3) (Int.le_refl _) h5 x hx
theorem SOk.wf {s:Store} (h:SOk s):s.wf:=by
 have h1:=h.low0
 have h2:=h.lowr
 have h3:=h.revM
 have h4:=h.bl
 have h5:=h.ll
 unfold Store.wf
 refine ⟨by unfold I64;omega,by unfold I64;omega,⟨fun x hx=>oneOk_wf (h.good.one x hx).1,by omega⟩,⟨fun e he => ?_,by omega⟩⟩
 have:=h.all e he
 exact ⟨by unfold I64;omega,oneOk_wf (logOk_one h.good (by omega) h.log e he)⟩
theorem numOk_iff {n:Int}:numOk n=true↔0≤n∧n≤1099511627775:=by simp [numOk]
theorem heldL_iff {L:List Lease} {x:KV}:heldL L x=true↔x.lease=0∨hasS x.lease L=true:=by
 unfold heldL;simp
structure Big (s:Server) (n:Nat):Prop where
 v:VOk s
 mw:s.ms.wf
 ml:s.ms.l.l.length≤n
 mo:s.ms.old.l.length≤n
theorem Big.wf {s:Server} {n:Nat} (h:Big s n):s.wf:=⟨h.v.st.wf,may_wf h.v.ls,h.mw,by have:=h.v.ck;unfold I64;omega⟩
theorem Big.doOk {s:Server} {n:Nat} (h:Big s n) (hn:n≤1000) {r:Req} (w:r.wf):DoOk s r:=⟨h.v.srv,h.mw,by have:=h.ml;have:=h.mo;omega,w⟩
theorem Big.mono {s:Server} {n m:Nat} (h:Big s n) (hn:n≤m):Big s m:=⟨h.v,h.mw,by have:=h.ml;omega,by have:=h.mo;omega⟩
structure Done (s:Server) (r:Req) (n:Nat) (t:Server) (p:Reply):Prop where
 big:Big t (n+1)
 rev:s.st.rev≤t.st.rev
 ck:t.clock=s.clock
 err:p.code ≠ 0→t=s∧p=errR r p.code
 rep:reqOk r=true→repOk p=true
 wf:p.wf
theorem tick_big {s:Server} {n:Nat} (h:Big s n) (by_:Int):Big (tickS s by_) n∧s.clock≤(tickS s by_).clock:=by
 unfold tickS
 split
 case isFalse=>exact ⟨h,Int.le_refl _⟩
 rename_i hok
 obtain ⟨c1,c2,c3⟩:=hok
 have hc:=h.v.ck
 unfold tock
 have hs:=Srv0.sweeps (dueS s.ls.l.l (s.clock+by_)) (s:=⟨s.st,s.ls,s.ms,s.clock+by_⟩) ⟨h.v.st,h.v.ls⟩
 obtain ⟨k1,k2⟩:=sweepsS_clock (dueS s.ls.l.l (s.clock+by_)) ⟨s.st,s.ls,s.ms,s.clock+by_⟩
 have hsw:=tick_swept h.v.srv h.v.held (s.clock+by_)
 obtain ⟨G,g1,g2,g3,g4,g5⟩:=sweeps_spec (dueS s.ls.l.l (s.clock+by_)) (s:=⟨s.st,s.ls,s.ms,s.clock+by_⟩) ⟨h.v.st,h.v.ls⟩ (dueS_nodup h.v.ls _) (dueS_mem h.v.ls _)
 generalize sweepsS ⟨s.st,s.ls,s.ms,s.clock+by_⟩ (dueS s.ls.l.l (s.clock+by_))=t at *
 simp only at k1 k2 g3 g4
 refine ⟨⟨⟨hs.st,hs.ls,by rw [k2];exact h.v.ms,by rw [k1];omega,by rw [k2];exact h.v.rep,fun x hx => ?_⟩,by rw [k2];exact h.mw,by rw [k2];exact h.ml,by rw [k2];exact h.mo⟩,by rw [k1];omega⟩
 have hx2:=hx
 rw [g3] at hx2
 exact heldL_iff.2 ((hsw.keys x (List.mem_filter.1 hx2).1).2 hx)
end Go.Proofs.YtndfdnlbljhlgaaGreat
end
section
namespace Go.Proofs.YtndfdnlbljhlgaaGreat
open Go Go.AM Go.Proofs
set_option maxRecDepth 20000
set_option maxHeartbeats 4000000
set_option linter.unusedSimpArgs false
set_option linter.unusedVariables false
def cmpMade (k:Bs) (rev:Int):Cmp:=⟨k,1,1,rev,[]⟩
def txnPut (k v:Bs) (lease:Int):Txn:=⟨.of [cmpMade k 0],.of [⟨false,k,v,lease⟩],.nil⟩
theorem Absent2_ev (k:Bs) (H:List Blk):EvF tab 49 [T k] H=some ⟨A (cmpMade k 0).c,[],[]⟩:=by
 refine EvF_walk t49 (by simp) ?_
 simp -implicitDefEqProofs [A,cmpMade,Cmp.c]
theorem Put2_ev (k v:Bs) (n:Int) (H:List Blk):EvF tab 19 [T k,T v,I n] H=some ⟨A (txnPut k v n).c,[],[]⟩:=by
 have h1:=fun H=>Absent2_ev k H
 refine EvF_walk t19 (by simp) ?_
 simp only [A,cmpMade,Cmp.c,List.map_cons,List.map_nil] at h1
 simp -implicitDefEqProofs [A,cmpMade,Cmp.c,Mut.c,txnPut,Txn.c,h1,chunk]
end Go.Proofs.YtndfdnlbljhlgaaGreat
end
section
namespace Go.Proofs.YtndfdnlbljhlgaaGreat
open Go Go.AM Go.Proofs
set_option maxRecDepth 20000
set_option maxHeartbeats 4000000
set_option linter.unusedSimpArgs false
set_option linter.unusedVariables false
def sortQ (l:List Int):List Int:=l.foldl (fun s n=>insL n s) []
theorem sortL_c (l:List Int):sortL l=sortQ l:=by
 have:=insL_fold l []
 rw [sortL_nil,List.nil_append] at this
 exact this.symm
def lookC (l:List Memo) (old:List Floor) (w s:Int):Reply×Bool×Int :=
 match lookF l w s with
 | some x=>(x.rep,true,0)
 | none=>if s≤floorP old w then (rep0,false,7) else if 8≤(sortQ (whoL l old)).length∧w∉sortQ (whoL l old) then (rep0,false,4) else (rep0,false,0)
theorem lookP_c (l:List Memo) (old:List Floor) (w s:Int):lookP l old w s=lookC l old w s:=by
 unfold lookP lookC whosP
 rw [sortL_c]
 cases lookF l w s <;> rfl
def keepC (m:Memos) (w q:Int) (r:Reply):Memos :=
 if (lookC m.l.l m.old.l w q).2.1=true∨(lookC m.l.l m.old.l w q).2.2 ≠ 0 then m else
 if (sortQ (seqL (keepL1 m.l.l w q r) w)).length≤4 then ⟨.of (keepL1 m.l.l w q r),m.old⟩ else
  ⟨.of (delP (keepL1 m.l.l w q r) w (headI (sortQ (seqL (keepL1 m.l.l w q r) w)))),.of (raiseP m.old.l w (headI (sortQ (seqL (keepL1 m.l.l w q r) w))))⟩
theorem keepM_c (m:Memos) (w q:Int) (r:Reply):keepM m w q r=keepC m w q r:=by
 unfold keepM keepC seqsP
 rw [lookP_c,sortL_c]
def mayC (l:List Memo) (old:List Floor):Bool:=match goFl old [] with | some F=>goMe F l [] []&&decide ((sortQ (whoL l old)).length≤8) | none=>false
theorem mayMe_c (l:List Memo) (old:List Floor):mayMe l old=mayC l old:=by
 unfold mayMe mayC whosP
 rw [sortL_c]
 cases goFl old [] <;> rfl
def doC (s:Server) (r:Req):Server×Reply :=
 if reqOk r=true then
  if r.once=true∧(lookC s.ms.l.l s.ms.old.l r.who r.seq).2.1=true then (s,(lookC s.ms.l.l s.ms.old.l r.who r.seq).1)
  else if r.once=true∧(lookC s.ms.l.l s.ms.old.l r.who r.seq).2.2 ≠ 0 then (s,errR r (lookC s.ms.l.l s.ms.old.l r.who r.seq).2.2)
  else if (actR s r).1 ≠ 0 then (s,errR r (actR s r).1)
  else if r.once=true then (⟨(actR s r).2.1.st,(actR s r).2.1.ls,keepC (actR s r).2.1.ms r.who r.seq (actR s r).2.2,(actR s r).2.1.clock⟩,(actR s r).2.2)
  else ((actR s r).2.1,(actR s r).2.2)
 else (s,errR r 1)
theorem doP_c (s:Server) (r:Req):doP s r=doC s r:=by
 unfold doP doC
 simp only [lookP_c,keepM_c]
theorem VNew_ev (H:List Blk):EvF tab 48 [] H=some ⟨A (Store.c ⟨0,0,.nil,.nil⟩),[],[]⟩:=by
 refine EvF_walk t48 (by simp) ?_
 simp -implicitDefEqProofs [A,Store.c]
def v0:Server:=⟨⟨0,0,.nil,.nil⟩,⟨0,.nil⟩,⟨.nil,.nil⟩,0⟩
theorem SNew_ev (H:List Blk):EvF tab 18 [] H=some ⟨A v0.c,[],[]⟩:=by
 have m1:=VNew_ev
 refine EvF_walk t18 (by simp) ?_
 simp only [A,Store.c,Server.c,v0,KVs.g,Evs.g,LeaseL.g,MemoL.g,Floors.g,Sl.g_nil,List.map_cons,List.map_nil] at m1 ⊢
 simp -implicitDefEqProofs [m1]
def rq (kind who seq:Int) (once:Bool) (key:Bs) (lease ttl:Int) (t:Txn):Req:=⟨kind,who,seq,once,key,[],lease,0,ttl,0,t.iff,t.thn,t.els⟩
def t0:Txn:=⟨.nil,.nil,.nil⟩
def pa:Reply:=⟨0,3,1,0,1,10,false,.nil,.nil⟩
def pb:Reply:=⟨0,3,2,1,0,0,true,.nil,.nil⟩
def ka:KV:=⟨[97],[118],1,1,1,1⟩
def v1:Server:=⟨⟨0,0,.nil,.nil⟩,⟨1,.of [⟨1,10,10⟩]⟩,⟨.of [⟨3,1,pa⟩],.nil⟩,0⟩
def v2:Server:=⟨⟨1,0,.nil,.of [⟨1,false,ka⟩]⟩,⟨1,.of [⟨1,10,10⟩]⟩,⟨.of [⟨3,1,pa⟩,⟨3,2,pb⟩],.nil⟩,0⟩
def v3:Server:=⟨⟨1,0,.nil,.of [⟨1,false,ka⟩]⟩,⟨1,.of [⟨1,10,10⟩]⟩,⟨.of [⟨3,1,pa⟩,⟨3,2,pb⟩],.nil⟩,9⟩
def v4:Server:=⟨⟨2,0,.nil,.of [⟨1,false,ka⟩,⟨2,true,ka⟩]⟩,⟨1,.nil⟩,⟨.of [⟨3,1,pa⟩,⟨3,2,pb⟩],.nil⟩,10⟩
def v5:Server:=⟨⟨0,0,.nil,.nil⟩,⟨0,.nil⟩,⟨.nil,.nil⟩,-1⟩
def ra:Req:=rq 4 3 1 true [] 0 10 t0
def rb:Req:=rq 2 3 2 true [] 0 0 (txnPut [97] [118] 1)
def rc2:Req:=rq 2 3 2 true [] 0 0 t0
def rd:Req:=rq 2 3 3 false [] 0 0 (txnPut [98] [118] 2)
def re:Req:=rq 1 0 9 false [97] 0 0 t0
def rf:Req:=rq 1 0 0 false [97] 0 0 t0
def rg2:Req:=rq 5 0 0 false [] 1 0 t0
def rh:Req:=rq 0 0 0 false [] 0 0 t0
theorem rq_wf {kind who seq:Int} {once:Bool} {key:Bs} {lease ttl:Int} {t:Txn} (h:(I64 kind∧I64 who∧I64 seq∧I64 lease∧I64 ttl)∧key.length≤9223372036854775807∧t.wf):(rq kind who seq once key lease ttl t).wf:=by
 obtain ⟨⟨h1,h2,h3,h4,h5⟩,h6,h7,h8,h9⟩:=h
 exact ⟨h1,h2,h3,h6,by simp [S64,rq],h4,by simp [I64,rq],h5,by simp [I64,rq],h7,h8,h9⟩
theorem ok10 {s:Server} {r:Req} (h1:storeOk s.st=true) (h2:mayS s.ls=true) (h3:s.ms.wf) (h4:s.ms.l.l.length+s.ms.old.l.length≤4000) (h5:r.wf):DoOk s r:=⟨⟨storeOk_iff.1 h1,h2⟩,h3,h4,h5⟩
theorem ms10:v0.ms.wf∧v1.ms.wf∧v2.ms.wf:=by
 simp [Memos.wf,v0,v1,v2,Memo.wf,Reply.wf,pa,pb,I64]
theorem live10 (H:List Blk):EvF tab 12 [] H=some ⟨.g (.bool true),[],[]⟩:=by
 obtain ⟨q0,q1,q2⟩:=ms10
 have m0:=SNew_ev
 have p1:=fun H=>Put2_ev [97] [118] 1 H
 have p2:=fun H=>Put2_ev [98] [118] 2 H
 have m1:=fun H=>SDo_ev (ok10 (s:=v0) (r:=ra) (by kernel_rfl) (by kernel_rfl) q0 (by simp [v0]) (rq_wf (by simp [I64,t0,Txn.wf]))) H
 have m2:=fun H=>SDo_ev (ok10 (s:=v1) (r:=rb) (by kernel_rfl) (by kernel_rfl) q1 (by simp [v1]) (rq_wf (by simp [I64,txnPut,cmpMade,Txn.wf,Cmp.wf,Mut.wf,S64]))) H
 have m3:=fun H=>SDo_ev (ok10 (s:=v2) (r:=rc2) (by kernel_rfl) (by kernel_rfl) q2 (by simp [v2]) (rq_wf (by simp [I64,t0,Txn.wf]))) H
 have m4:=fun H=>SDo_ev (ok10 (s:=v2) (r:=rd) (by kernel_rfl) (by kernel_rfl) q2 (by simp [v2]) (rq_wf (by simp [I64,txnPut,cmpMade,Txn.wf,Cmp.wf,Mut.wf,S64]))) H
 have m5:=fun H=>SDo_ev (ok10 (s:=v2) (r:=re) (by kernel_rfl) (by kernel_rfl) q2 (by simp [v2]) (rq_wf (by simp [I64,t0,Txn.wf]))) H
 have m6:=fun H=>Tick_ev v2 9 ⟨storeOk_iff.1 (by kernel_rfl),by kernel_rfl⟩ (by simp [v2]) (by simp [I64]) H
 have m7:=fun H=>Tick_ev v3 1 ⟨storeOk_iff.1 (by kernel_rfl),by kernel_rfl⟩ (by simp [v3]) (by simp [I64]) H
 have m8:=fun H=>SDo_ev (ok10 (s:=v4) (r:=rf) (by kernel_rfl) (by kernel_rfl) q2 (by simp [v4]) (rq_wf (by simp [I64,t0,Txn.wf]))) H
 have m9:=fun H=>SDo_ev (ok10 (s:=v4) (r:=rg2) (by kernel_rfl) (by kernel_rfl) q2 (by simp [v4]) (rq_wf (by simp [I64,t0,Txn.wf]))) H
 have m10:=fun H=>SDo_ev (ok10 (s:=v4) (r:=rh) (by kernel_rfl) (by kernel_rfl) q2 (by simp [v4]) (rq_wf (by simp [I64,t0,Txn.wf]))) H
 have m11:=fun H=>SameV_ev v2 v2 (.refl _) (by simp [smallS,v2]) (by simp [v2]) q2 H
 have m12:=fun H=>SMay_ev v4 ⟨by simp [Store.wf,v4,Ev.wf,KV.wf,ka,I64,S64],by simp [Leases.wf,v4,I64],q2,by simp [I64,v4]⟩ (by simp [v4]) H
 have m13:=fun H=>SMay_ev v5 ⟨by simp [Store.wf,v5,I64],by simp [Leases.wf,v5,I64],q0,by simp [I64,v5]⟩ (by simp [v5]) H
 have e12:mayV v4=true:=by unfold mayV;rw [mayMe_c];kernel_rfl
 have e13:mayV v5=false:=by unfold mayV;rw [mayMe_c];kernel_rfl
 rw [e12] at m12
 rw [e13] at m13
 simp only [doP_c,show doC v0 ra=(v1,pa) by kernel_rfl] at m1
 simp only [doP_c,show doC v1 rb=(v2,pb) by kernel_rfl] at m2
 simp only [doP_c,show doC v2 rc2=(v2,pb) by kernel_rfl] at m3
 simp only [doP_c,show doC v2 rd=(v2,errR rd 6) by kernel_rfl] at m4
 simp only [doP_c,show doC v2 re=(v2,⟨0,0,9,1,0,0,false,.of [ka],.nil⟩) by kernel_rfl] at m5
 simp only [show tickS v2 9=v3 by kernel_rfl] at m6
 simp only [show tickS v3 1=v4 by kernel_rfl] at m7
 simp only [doP_c,show doC v4 rf=(v4,⟨0,0,0,2,0,0,false,.nil,.nil⟩) by kernel_rfl] at m8
 simp only [doP_c,show doC v4 rg2=(v4,errR rg2 6) by kernel_rfl] at m9
 simp only [doP_c,show doC v4 rh=(v4,errR rh 1) by kernel_rfl] at m10
 simp only [A,Server.c,Reply.c,Req.c,v0,v1,v2,v3,v4,v5,pa,pb,ka,ra,rb,rc2,rd,re,rf,rg2,rh,rq,t0,errR,txnPut,cmpMade,Txn.c,Cmp.c,Mut.c,KV.c,Ev.c,Memo.c,Lease.c,KVs.g,Evs.g,LeaseL.g,MemoL.g,Floors.g,Cmps.g,Muts.g,Sl.g_of,Sl.g_nil,List.map_cons,List.map_nil] at p1 p2 m0 m1 m2 m3 m4 m5 m6 m7 m8 m9 m10 m11 m12 m13
 refine EvF_walk t12 (by simp) ?_
 simp -implicitDefEqProofs [p1,p2,m0,m1,m2,m3,m4,m5,m6,m7,m8,m9,m10,m11,m12,m13,pends]
end Go.Proofs.YtndfdnlbljhlgaaGreat
end
section
namespace Go.Proofs.YtndfdnlbljhlgaaGreat
open Go Go.AM Go.Proofs
set_option maxRecDepth 20000
set_option maxHeartbeats 2000000
set_option linter.unusedSimpArgs false
set_option linter.unusedVariables false
end Go.Proofs.YtndfdnlbljhlgaaGreat
end
section
namespace Go.Proofs.YtndfdnlbljhlgaaGreat
open Go Go.AM Go.Proofs
set_option maxRecDepth 20000
set_option maxHeartbeats 2000000
set_option linter.unusedSimpArgs false
set_option linter.unusedVariables false
theorem SameV.symm {a b:Server} (h:SameV a b):SameV b a:=⟨⟨h.st.1.symm,h.st.2.1.symm,h.st.2.2.1.symm,h.st.2.2.2.symm⟩,h.next.symm,h.ls.symm,h.ml.symm,h.mo.symm,h.ck.symm⟩
theorem srv_small {s:Server} (h:Srv0 s):smallS s.st∧s.ls.l.l.length≤1000:=by
 have h1:=h.st.bl
 have h2:=h.st.ll
 have h3:=(mayS_iff.1 h.ls).2.1
 exact ⟨by unfold smallS;omega,by omega⟩
theorem ref_same {a b:Server} (h:SameV a b) (hb:Srv0 a) (wa:a.ms.wf) (H:List Blk):EvF tab 14 [A a.c,A b.c] H=some ⟨B true,[],[]⟩:=by
 obtain ⟨h1,h2⟩:=srv_small hb
 refine SameV_ev a b h ?_ (by rw [←h.ls];omega) ?_ H
 ·unfold smallS at h1 ⊢;rw [←h.st.2.2.1,←h.st.2.2.2];exact h1
 ·unfold Memos.wf at wa ⊢;rw [←h.ml,←h.mo];exact wa
theorem ServerTicks_law (x0:Server) (x1:Int) (x2:Int) (w0:x0.wf) (w1:I64 x1) (w2:I64 x2):EvF tab 6 [A x0.c,I x1,I x2] []=some ⟨.g (.bool true),[],[]⟩:=by
 have m0:=fun H=>FewV_ev x0 w0 H
 refine EvF_walk t6 (by simp) ?_
 cases hf:fewV x0
 ·rw [hf] at m0
  obtain ⟨⟨srev,slow,sbase,slog⟩,⟨lnext,ll⟩,⟨ml,mo⟩,clock⟩:=x0
  simp only [A,Server.c,List.map_cons,List.map_nil] at m0 ⊢
  simp -implicitDefEqProofs [m0,live10]
 rw [hf] at m0
 obtain ⟨hf1,hf2,hf3,hf4⟩:=fewV_size hf
 have m1:=fun H=>SMay_ev x0 w0 (by omega) H
 have m2:=fun H=>SMay2_ev x0 w0 (by omega) H
 cases hm:mayV x0
 ·rw [hm] at m1 m2
  obtain ⟨⟨srev,slow,sbase,slog⟩,⟨lnext,ll⟩,⟨ml,mo⟩,clock⟩:=x0
  simp only [A,Server.c,List.map_cons,List.map_nil] at m0 m1 m2 ⊢
  simp -implicitDefEqProofs [m0,m1,m2,live10]
 rw [hm] at m1 m2
 have hv:=mayV_iff.1 hm
 have m3:=fun H=>Sweep_ev x0 x2 hv.srv.fit H
 have m4:=fun H=>Sweep2_ev x0 x2 hv.srv.fit H
 have m5:=fun H=>Tick_ev x0 x1 hv.srv hv.ck w1 H
 have m6:=fun H=>Tick2_ev x0 x1 hv.srv hv.ck w1 H
 have hb:Big x0 40:=⟨hv,w0.2.2.1,by omega,by omega⟩
 obtain ⟨hu,huc⟩:=tick_big hb x1
 have m7:=fun H=>ref_same (tickS2_same x0 x1) hu.v.srv hu.mw H
 have m8:=fun H=>ref_same (sweepS2_same (.refl x0) x2).symm (hv.srv.sweep x2) (by rw [(sweepS_clock x0 x2).2];exact w0.2.2.1) H
 rw [sweepE2_same (.refl x0) x2] at m4
 clear hu huc hb hv hf1 hf2 hf3 hf4 hm hf
 generalize sweepE x0 x2=e at *
 generalize sweepS x0 x2=a at *
 generalize sweepS2 x0 x2=b at *
 generalize tickS x0 x1=t at *
 generalize tickS2 x0 x1=u at *
 obtain ⟨⟨srev,slow,sbase,slog⟩,⟨lnext,ll⟩,⟨ml,mo⟩,clock⟩:=x0
 obtain ⟨⟨arev,alow,abase,alog⟩,⟨anext,al⟩,⟨aml,amo⟩,aclock⟩:=a
 obtain ⟨⟨brev,blow,bbase,blog⟩,⟨bnext,bl⟩,⟨bml,bmo⟩,bclock⟩:=b
 obtain ⟨⟨trev,tlow,tbase,tlog⟩,⟨tnext,tl⟩,⟨tml,tmo⟩,tclock⟩:=t
 obtain ⟨⟨urev,ulow,ubase,ulog⟩,⟨unext,ul⟩,⟨uml,umo⟩,uclock⟩:=u
 simp only [A,Server.c,List.map_cons,List.map_nil] at m0 m1 m2 m3 m4 m5 m6 m7 m8 ⊢
 generalize KVs.g sbase=G1 at m0 m1 m2 m3 m4 m5 m6 ⊢
 generalize Evs.g slog=G2 at m0 m1 m2 m3 m4 m5 m6 ⊢
 generalize LeaseL.g ll=G3 at m0 m1 m2 m3 m4 m5 m6 ⊢
 generalize MemoL.g ml=G4 at m0 m1 m2 m3 m4 m5 m6 ⊢
 generalize Floors.g mo=G5 at m0 m1 m2 m3 m4 m5 m6 ⊢
 simp -implicitDefEqProofs [m0,m1,m2,m3,m4,m5,m6,m7,m8,live10,ptrCons]
end Go.Proofs.YtndfdnlbljhlgaaGreat
end
section
namespace Go.Proofs.YtndfdnlbljhlgaaGreat
open Go Go.AM Go.Proofs
set_option maxRecDepth 20000
set_option maxHeartbeats 2000000
set_option linter.unusedSimpArgs false
set_option linter.unusedVariables false
def gka:KV:=⟨[97],[],1,1,1,1⟩
def gkb:KV:=⟨[98],[],2,2,1,0⟩
def gL (ttl till:Int):Leases:=⟨1,.of [⟨1,ttl,till⟩]⟩
def g1 (ttl:Int):Server:=⟨⟨0,0,.nil,.nil⟩,gL ttl ttl,⟨.nil,.nil⟩,0⟩
def g2 (ttl:Int):Server:=⟨⟨1,0,.nil,.of [⟨1,false,gka⟩]⟩,gL ttl ttl,⟨.nil,.nil⟩,0⟩
def gA (ttl now till:Int):Server:=⟨⟨2,0,.nil,.of [⟨1,false,gka⟩,⟨2,false,gkb⟩]⟩,gL ttl till,⟨.nil,.nil⟩,now⟩
def gD (now:Int):Server:=⟨⟨3,0,.nil,.of [⟨1,false,gka⟩,⟨2,false,gkb⟩,⟨3,true,gka⟩]⟩,⟨1,.nil⟩,⟨.nil,.nil⟩,now⟩
def gra (ttl:Int):Req:=rq 4 0 0 false [] 0 ttl t0
def grb:Req:=rq 2 0 0 false [] 0 0 (txnPut [97] [] 1)
def grc:Req:=rq 2 0 0 false [] 0 0 (txnPut [98] [] 0)
def grk:Req:=rq 5 0 0 false [] 1 0 t0
def gpa (ttl:Int):Reply:=⟨0,0,0,0,1,ttl,false,.nil,.nil⟩
def gpb (n:Int):Reply:=⟨0,0,0,n,0,0,true,.nil,.nil⟩
def gpk (ttl:Int):Reply:=⟨0,0,0,0,1,ttl,false,.nil,.nil⟩
theorem g_mayS {ttl till:Int} (h1:1≤ttl∧ttl≤1000) (h2:0≤till∧till≤5000):mayS (gL ttl till)=true:=by
 refine mayS_iff.2 ⟨by simp [gL],by simp [gL],fun x hx => ?_,by simp [gL]⟩
 simp only [gL,Sl.l_of,List.mem_singleton] at hx
 subst hx
 unfold fOk
 simp only [gL]
 omega
theorem g_do1 {ttl:Int} (h:1≤ttl∧ttl≤1000):doP v0 (gra ttl)=(g1 ttl,gpa ttl):=by
 have e:grantOk ⟨0,.nil⟩ ttl 0=0:=by unfold grantOk timeOk;simp [h]
 have er:reqOk (gra ttl)=true:=by
  have h5:numOk ttl=true:=numOk_iff.2 (by omega)
  have h6:reqOk (gra 1)=true:=by kernel_rfl
  unfold reqOk at h6 ⊢
  simp only [gra,rq,Bool.and_eq_true] at h6 ⊢
  simp [h5,h6]
 unfold doP
 rw [if_pos er]
 unfold actR
 simp only [gra,rq,v0,e,grantS,grantI]
 simp [g1,gpa,gL,e,v0]
theorem g_do2 (ttl:Int):doP (g1 ttl) grb=(g2 ttl,gpb 1):=by rw [doP_c];kernel_rfl
theorem g_do3 (ttl:Int):doP (g2 ttl) grc=(gA ttl 0 ttl,gpb 2):=by rw [doP_c];kernel_rfl
theorem g_sweep (ttl now till:Int):sweepS (gA ttl now till) 1=gD now:=by kernel_rfl
theorem g_keepA {ttl now till:Int} (hn:0≤now∧now≤5000):doP (gA ttl now till) grk=(gA ttl now (if till<now+ttl then now+ttl else till),gpk ttl):=by
 have er:reqOk grk=true:=by kernel_rfl
 have et:timeOk now=true:=timeOk_iff.2 (by omega)
 have e5:lkeepE (gL ttl till) 1 now=0:=by
  unfold lkeepE;rw [if_pos et];kernel_rfl
 have e6:keepS (gL ttl till) 1 now=gL ttl (if till<now+ttl then now+ttl else till):=by
  unfold keepS;rw [if_pos et];rfl
 have e7:keepT (gL ttl till) 1 now=ttl:=by
  unfold keepT;rw [if_pos et];rfl
 unfold doP
 rw [if_pos er]
 unfold actR
 simp only [grk,rq,gA,e5,e6,e7]
 simp [gpk,gA,e5,e6,e7]
theorem g_keepD {now:Int} (hn:0≤now∧now≤5000):doP (gD now) grk=(gD now,errR grk 6):=by
 have er:reqOk grk=true:=by kernel_rfl
 have et:timeOk now=true:=timeOk_iff.2 (by omega)
 have e5:lkeepE ⟨1,.nil⟩ 1 now=6:=by
  unfold lkeepE;rw [if_pos et];kernel_rfl
 unfold doP
 rw [if_pos er]
 unfold actR
 simp only [grk,rq,gD,e5]
 simp [gD,e5,errR,grk,rq]
theorem g_tickA {ttl now till by_:Int} (hn:0≤now∧now≤5000) (hb:0≤by_∧by_≤100):tickS (gA ttl now till) by_=if now+by_<till then gA ttl (now+by_) till else gD (now+by_):=by
 have hk:tickOk (gA ttl now till) by_:=⟨by omega,by omega,by simp only [gA];omega⟩
 unfold tickS
 rw [if_pos hk]
 by_cases h:now+by_<till
 ·rw [if_pos h]
  have:dueS (gA ttl now till).ls.l.l ((gA ttl now till).clock+by_)=[]:=by simp [dueS,dueP,gA,gL];omega
  rw [this];rfl
 ·rw [if_neg h]
  have:dueS (gA ttl now till).ls.l.l ((gA ttl now till).clock+by_)=[1]:=by
   have hd:dueP (now+by_) ⟨1,ttl,till⟩=true:=by unfold dueP;rw [decide_eq_true_eq];simp only;omega
   show (([(⟨1,ttl,till⟩:Lease)].filter (dueP (now+by_))).map Lease.id)=[1]
   rw [List.filter_cons,if_pos hd];rfl
  rw [this]
  exact g_sweep ttl (now+by_) till
theorem g_tickD {now by_:Int} (hn:0≤now∧now≤5000) (hb:0≤by_∧by_≤100):tickS (gD now) by_=gD (now+by_):=by
 have hk:tickOk (gD now) by_:=⟨by omega,by omega,by simp only [gD];omega⟩
 unfold tickS
 rw [if_pos hk]
 rfl
theorem g_nowA (ttl now till:Int):foldR (gA ttl now till).st.base (gA ttl now till).st.log.l (gA ttl now till).st.rev = .of [gka,gkb]:=by kernel_rfl
theorem g_nowD (now:Int):foldR (gD now).st.base (gD now).st.log.l (gD now).st.rev = .of [gkb]:=by kernel_rfl
theorem g_srvA {ttl now till:Int} (h1:1≤ttl∧ttl≤1000) (h2:0≤till∧till≤5000):Srv0 (gA ttl now till):=⟨storeOk_iff.1 (by kernel_rfl),g_mayS h1 h2⟩
theorem g_srvD (now:Int):Srv0 (gD now):=⟨storeOk_iff.1 (by kernel_rfl),by kernel_rfl⟩
end Go.Proofs.YtndfdnlbljhlgaaGreat
end
section
namespace Go.Proofs.YtndfdnlbljhlgaaGreat
open Go Go.AM Go.Proofs
set_option maxRecDepth 20000
set_option maxHeartbeats 4000000
set_option linter.unusedSimpArgs false
set_option linter.unusedVariables false
def Bools.c (b:Bool):List GV:=[.bool b]
abbrev Bools.g (s:Sl Bool):GV:=Sl.g 1 Bools.c s
theorem tbs_inv {gs:List GV} (h:HasTy (.sl 1 .b) gs):∃s:Sl Bool,s.l.length≤9223372036854775807∧gs=[Bools.g s]:=by
 obtain ⟨s,h1,h2,rfl⟩:=h.sl_inv (W:=fun _=>True) (C:=Bools.c) (fun _=>tb_inv)
 exact ⟨s,h2,rfl⟩
structure GS where
 now:Int
 till:Int
 live:Bool
def gSrv (ttl:Int) (g:GS):Server:=if g.live=true then gA ttl g.now g.till else gD g.now
def clampT (x:Int):Int:=if 100<(if x<0 then 0 else x) then 100 else (if x<0 then 0 else x)
def gNow (x:Int) (g:GS):Int:=g.now+clampT x
def gLive (x:Int) (g:GS):Bool:=g.live&&decide (gNow x g<g.till)
def gTill (ttl:Int) (ks:List Bool) (k:Nat) (x:Int) (g:GS):Int:=if ks[k]? = some true∧gLive x g=true then (if g.till<gNow x g+ttl then gNow x g+ttl else g.till) else g.till
def gStep (ttl:Int) (ks:List Bool) (k:Nat) (x:Int) (g:GS):GS:=⟨gNow x g,gTill ttl ks k x g,gLive x g⟩
structure GI (k:Nat) (g:GS):Prop where
 now:0≤g.now∧g.now≤100*k
 till:0≤g.till∧g.till≤100*k+1000
theorem clamp_ok (x:Int):0≤clampT x∧clampT x≤100:=by
 unfold clampT
 repeat' split
 all_goals omega
theorem GI.next {k:Nat} {g:GS} (h:GI k g) {ttl:Int} (ht:1≤ttl∧ttl≤1000) (ks:List Bool) (x:Int):GI (k+1) (gStep ttl ks k x g):=by
 have hc:=clamp_ok x
 have h1:=h.now
 have h2:=h.till
 have hn:gNow x g=g.now+clampT x:=rfl
 refine ⟨by simp only [gStep];omega,?_⟩
 simp only [gStep,gTill]
 generalize gNow x g=n at *
 split
 ·split <;> omega
 ·omega
theorem gTick_ev {ttl:Int} (ht:1≤ttl∧ttl≤1000) {k:Nat} {g:GS} (h:GI k g) (hk:k≤30) (x:Int) (H:List Blk) :
  EvF tab 13 [A (gSrv ttl g).c,I (clampT x)] H=some ⟨A (gSrv ttl ⟨gNow x g,g.till,gLive x g⟩).c,[],[]⟩:=by
 have hc:=clamp_ok x
 have h1:=h.now
 have h2:=h.till
 obtain ⟨now,till,live⟩:=g
 unfold gLive
 simp only at h1 h2 ⊢
 cases live
 ·have e:=g_tickD (now:=now) (by_:=clampT x) (by omega) hc
  have:=Tick_ev (gD now) (clampT x) (g_srvD now) (by simp only [gD];omega) (by unfold I64;omega) H
  rw [e] at this
  simpa [gSrv,gNow] using this
 ·have e:=g_tickA (ttl:=ttl) (now:=now) (till:=till) (by_:=clampT x) (by omega) hc
  have:=Tick_ev (gA ttl now till) (clampT x) (g_srvA ht (by omega)) (by simp only [gA];omega) (by unfold I64;omega) H
  rw [e] at this
  by_cases hlt:now+clampT x<till
  ·simpa [gSrv,gNow,hlt] using this
  ·simpa [gSrv,gNow,hlt] using this
theorem gms:(⟨.nil,.nil⟩:Memos).wf:=by simp [Memos.wf]
theorem gkeep_ev {ttl:Int} (ht:1≤ttl∧ttl≤1000) {now till:Int} (hn:0≤now∧now≤5000) (h2:0≤till∧till≤5000) (live:Bool) (H:List Blk) :
  EvF tab 17 [A (gSrv ttl ⟨now,till,live⟩).c,A grk.c] H=some ⟨.tup [A (gSrv ttl ⟨now,if live=true∧till<now+ttl then now+ttl else till,live⟩).c,A (if live=true then gpk ttl else errR grk 6).c],[],[]⟩:=by
 have wk:grk.wf:=rq_wf (by simp [I64,t0,Txn.wf])
 cases live
 ·have:=SDo_ev (s:=gD now) (r:=grk) ⟨g_srvD now,gms,by simp [gD],wk⟩ H
  rw [g_keepD hn] at this
  simpa [gSrv] using this
 ·have:=SDo_ev (s:=gA ttl now till) (r:=grk) ⟨g_srvA ht h2,gms,by simp [gA],wk⟩ H
  rw [g_keepA hn] at this
  simpa [gSrv] using this
theorem gnow_ev (ttl:Int) (g:GS) (H:List Blk):EvF tab 20 [A (gSrv ttl g).st.c] H=some ⟨.g (KVs.g (.of (if g.live=true then [gka,gkb] else [gkb]))),[],[]⟩:=by
 obtain ⟨now,till,live⟩:=g
 cases live
 ·have:=Now_ev (gD now).st (by simp [smallS,gD]) H
  rw [g_nowD] at this
  exact this
 ·have:=Now_ev (gA ttl now till).st (by simp [smallS,gA]) H
  rw [g_nowA] at this
  exact this
theorem grants_loop {ttl:Int} (ht:1≤ttl∧ttl≤1000) (ticks:Sl Int) (keeps:Sl Bool) (hl:ticks.l.length≤30) (hlk:keeps.l.length≤9223372036854775807) (g0:GS) (h0:GI 0 g0) (b0 b1 b2 b3 b4:Blk) (o:List Blk) :
  ∃g o',loopE (EvF tab) [] L4_0 [0,1,2,7,11,12,13,14] ⟨[(0,I ttl),(1,.g (Ints.g ticks)),(2,.g (Bools.g keeps)),(7,.ptr 5 0),(11,I g0.till),(12,I g0.now),(13,B g0.live),(14,I 0)],[],b0::b1::b2::b3::b4 :: .cells ((gSrv ttl g0).c.map .g)::o⟩ =
   some (.exit 0,⟨[(0,I ttl),(1,.g (Ints.g ticks)),(2,.g (Bools.g keeps)),(7,.ptr 5 0),(11,I g.till),(12,I g.now),(13,B g.live),(14,I ticks.l.length),(69,B false)],[],b0::b1::b2::b3::b4 :: .cells ((gSrv ttl g).c.map .g)::o'⟩):=by
 have hlt:∀h st,lenV h st (.g (Ints.g ticks))=some ticks.l.length:=fun h st=>lenV_Sl ..
 have hlb:∀h st,lenV h st (.g (Bools.g keeps))=some keeps.l.length:=fun h st=>lenV_Sl ..
 have hw:=loop_runJ (E:=EvF tab) (h:=[]) (c:=L4_0) (lv:=[0,1,2,7,11,12,13,14]) (l:=ticks.l) (β:=GS) (γ:=Unit) GI (fun k x g => .inl (gStep ttl keeps.l k x g))
  (fun k g o=>⟨[(0,I ttl),(1,.g (Ints.g ticks)),(2,.g (Bools.g keeps)),(7,.ptr 5 0),(11,I g.till),(12,I g.now),(13,B g.live),(14,I k)],[],b0::b1::b2::b3::b4 :: .cells ((gSrv ttl g).c.map .g)::o⟩)
  (fun g o=>(.exit 0,⟨[(0,I ttl),(1,.g (Ints.g ticks)),(2,.g (Bools.g keeps)),(7,.ptr 5 0),(11,I g.till),(12,I g.now),(13,B g.live),(14,I ticks.l.length),(69,B false)],[],b0::b1::b2::b3::b4 :: .cells ((gSrv ttl g).c.map .g)::o⟩))
  (fun _ o=>(.ret,⟨[],[],o⟩)) (by simp) (by simp) (fun k x g o hk hx hy hi => ?_) (fun g o _=>by generalize Ints.g ticks=G at hlt ⊢;delta L4_0;simp -implicitDefEqProofs [hlt]) g0 o h0
 ·obtain ⟨o',hw⟩:=hw
  have hrun:∀(l:List Int) (k:Nat) (g:GS),∃g',runG (γ:=Unit) (fun k x g => .inl (gStep ttl keeps.l k x g)) k l g = .inl g':=by
   intro l
   induction l with
   | nil=>intro k g;exact ⟨g,rfl⟩
   | cons y l ih=>intro k g;exact ih _ _
  obtain ⟨g',hg⟩:=hrun ticks.l 0 g0
  rw [hg] at hw
  exact ⟨g',o',by simpa only [endJ,Int.ofNat_zero,Int.cast_ofNat_Int] using hw⟩
 ·refine ⟨hi.next ht keeps.l x,?_⟩
  have e2:=wrap_succ hk (by omega)
  have m1:=fun H=>gTick_ev ht hi (by omega) x H
  have m2:=fun H=>gnow_ev ttl ⟨gNow x g,g.till,gLive x g⟩ H
  have hn:=(hi.next ht [] x).now
  have h1:=hi.now
  have h2:=hi.till
  have hc:=clamp_ok x
  have m3:=fun H=>gkeep_ev ht (now:=gNow x g) (till:=g.till) (by simp only [gStep] at hn;omega) (by omega) (gLive x g) H
  have hcl:(if (100:Int)<(if x<0 then 0 else x) then 100 else (if x<0 then 0 else x))=clampT x:=rfl
  have hgn:gNow x g=g.now+clampT x:=rfl
  have hgl:gLive x g=(g.live&&decide (gNow x g<g.till)):=rfl
  have w1:IntKind.i64.wrap (g.now+clampT x)=g.now+clampT x:=wrap_i64 (by omega) (by omega)
  have w2:IntKind.i64.wrap (gNow x g+ttl)=gNow x g+ttl:=wrap_i64 (by omega) (by omega)
  unfold gStep gTill
  have hnow:g.now+clampT x=gNow x g:=rfl
  have w3:IntKind.i64.wrap 1=1:=by decide
  have w4:IntKind.i64.wrap 0=0:=by decide
  clear hn hc hi h0 hgn
  generalize clampT x=c at *
  generalize hnw:gNow x g=n at *
  have w5:IntKind.i64.wrap (g.now+c)=n:=by rw [w1];exact hnow
  generalize gLive x g=lv at *
  clear w1 hnow hnw
  generalize hS:gSrv ttl g=S at m1 ⊢
  obtain ⟨now,till,a⟩:=g
  obtain ⟨⟨srev,slow,sbase,slog⟩,⟨lnext,ll⟩,⟨ml,mo⟩,clock⟩:=S
  simp only at m1 m2 m3 hgl w5 h1 h2 ⊢
  clear hS h1 h2
  cases ticks with
  | nil=>simp at hk
  | of tl =>
  simp only [Sl.l_of] at hk hy hl ⊢
  delta L4_0
  cases a
  ·simp only [Bool.false_and] at hgl
   subst hgl
   rcases hb:keeps.l[k]? with _ | b
   ·have hle:¬(k:Int)<(keeps.l.length:Int):=by have:=List.getElem?_eq_none_iff.1 hb;omega
    simp only [reduceCtorEq,false_and,if_false]
    refine ⟨o,?_⟩
    clear m3
    simp only [A,gSrv,gA,gD,gL,gpk,grk,rq,t0,errR,Store.c,Leases.c,Server.c,Req.c,Reply.c,KVs.g,Evs.g,LeaseL.g,MemoL.g,Floors.g,Cmps.g,Muts.g,KV.c,Ev.c,Lease.c,gka,gkb,Sl.g_of,Sl.g_nil,if_true,if_false,Bool.false_eq_true,true_and,false_and,and_true,and_false,List.map_cons,List.map_nil] at m1 m2 ⊢
    simp -implicitDefEqProofs [m1,m2,hle,hk,hy,e2,hcl,w2,w3,w4,w5,hlb,Ints.c,Bools.c,pends,ptrCons]
   ·have hkb:=(List.getElem?_eq_some_iff.1 hb).1
    have hbb:=(List.getElem?_eq_some_iff.1 hb).2
    have hle:(k:Int)<(keeps.l.length:Int):=by omega
    cases keeps with
    | nil=>simp at hkb
    | of kl =>
    simp only [Sl.l_of] at hkb hbb hle hlb ⊢
    cases b
    ·simp only [Option.some.injEq,Bool.false_eq_true,false_and,if_false]
     refine ⟨o,?_⟩
     clear m3
     simp only [A,gSrv,gA,gD,gL,gpk,grk,rq,t0,errR,Store.c,Leases.c,Server.c,Req.c,Reply.c,KVs.g,Evs.g,LeaseL.g,MemoL.g,Floors.g,Cmps.g,Muts.g,KV.c,Ev.c,Lease.c,gka,gkb,Sl.g_of,Sl.g_nil,if_true,if_false,Bool.false_eq_true,true_and,false_and,and_true,and_false,List.map_cons,List.map_nil] at m1 m2 ⊢
     simp -implicitDefEqProofs [m1,m2,hle,hkb,hbb,hk,hy,e2,hcl,w2,w3,w4,w5,hlb,Ints.c,Bools.c,pends,ptrCons]
    ·simp only [true_and,Bool.false_eq_true,if_false]
     refine ⟨o++[.rows 6 1 [],.rows 8 1 [],.rows 3 1 [],.rows 11 1 [],.rows 2 1 [],.cells ((gSrv ttl ⟨n,till,false⟩).c.map .g),.rows 6 1 [],.rows 8 1 [],.cells ((errR grk 6).c.map .g)],?_⟩
     simp only [A,gSrv,gA,gD,gL,gpk,grk,rq,t0,errR,Store.c,Leases.c,Server.c,Req.c,Reply.c,KVs.g,Evs.g,LeaseL.g,MemoL.g,Floors.g,Cmps.g,Muts.g,KV.c,Ev.c,Lease.c,gka,gkb,Sl.g_of,Sl.g_nil,if_true,if_false,Bool.false_eq_true,true_and,false_and,and_true,and_false,List.map_cons,List.map_nil] at m1 m2 m3 ⊢
     simp -implicitDefEqProofs [m1,m2,m3,hle,hkb,hbb,hk,hy,e2,hcl,w2,w3,w4,w5,hlb,Ints.c,Bools.c,pends,ptrCons]
  ·by_cases hc1:n<till
   ·simp only [hc1,decide_true,Bool.and_self] at hgl
    subst hgl
    rcases hb:keeps.l[k]? with _ | b
    ·have hle:¬(k:Int)<(keeps.l.length:Int):=by have:=List.getElem?_eq_none_iff.1 hb;omega
     simp only [reduceCtorEq,false_and,if_false]
     refine ⟨o,?_⟩
     clear m3
     simp only [A,gSrv,gA,gD,gL,gpk,grk,rq,t0,errR,Store.c,Leases.c,Server.c,Req.c,Reply.c,KVs.g,Evs.g,LeaseL.g,MemoL.g,Floors.g,Cmps.g,Muts.g,KV.c,Ev.c,Lease.c,gka,gkb,Sl.g_of,Sl.g_nil,if_true,if_false,Bool.false_eq_true,true_and,false_and,and_true,and_false,List.map_cons,List.map_nil] at m1 m2 ⊢
     simp -implicitDefEqProofs [m1,m2,hle,hc1,hk,hy,e2,hcl,w2,w3,w4,w5,hlb,Ints.c,Bools.c,pends,ptrCons]
    ·have hkb:=(List.getElem?_eq_some_iff.1 hb).1
     have hbb:=(List.getElem?_eq_some_iff.1 hb).2
     have hle:(k:Int)<(keeps.l.length:Int):=by omega
     cases keeps with
     | nil=>simp at hkb
     | of kl =>
     simp only [Sl.l_of] at hkb hbb hle hlb ⊢
     cases b
     ·simp only [Option.some.injEq,Bool.false_eq_true,false_and,if_false]
      refine ⟨o,?_⟩
      clear m3
      simp only [A,gSrv,gA,gD,gL,gpk,grk,rq,t0,errR,Store.c,Leases.c,Server.c,Req.c,Reply.c,KVs.g,Evs.g,LeaseL.g,MemoL.g,Floors.g,Cmps.g,Muts.g,KV.c,Ev.c,Lease.c,gka,gkb,Sl.g_of,Sl.g_nil,if_true,if_false,Bool.false_eq_true,true_and,false_and,and_true,and_false,List.map_cons,List.map_nil] at m1 m2 ⊢
      simp -implicitDefEqProofs [m1,m2,hle,hkb,hbb,hc1,hk,hy,e2,hcl,w2,w3,w4,w5,hlb,Ints.c,Bools.c,pends,ptrCons]
     ·simp only [true_and,if_true]
      refine ⟨o++[.rows 6 1 [],.rows 8 1 [],.rows 3 1 [],.rows 11 1 [],.rows 2 1 [],.cells ((gSrv ttl ⟨n,if till<n+ttl then n+ttl else till,true⟩).c.map .g),.rows 6 1 [],.rows 8 1 [],.cells ((gpk ttl).c.map .g)],?_⟩
      simp only [A,gSrv,gA,gD,gL,gpk,grk,rq,t0,errR,Store.c,Leases.c,Server.c,Req.c,Reply.c,KVs.g,Evs.g,LeaseL.g,MemoL.g,Floors.g,Cmps.g,Muts.g,KV.c,Ev.c,Lease.c,gka,gkb,Sl.g_of,Sl.g_nil,if_true,if_false,Bool.false_eq_true,true_and,false_and,and_true,and_false,List.map_cons,List.map_nil] at m1 m2 m3 ⊢
      simp -implicitDefEqProofs [m1,m2,m3,hle,hkb,hbb,hc1,hk,hy,e2,hcl,w2,w3,w4,w5,hlb,Ints.c,Bools.c,pends,ptrCons]
   ·simp only [hc1,decide_false,Bool.and_false] at hgl
    subst hgl
    rcases hb:keeps.l[k]? with _ | b
    ·have hle:¬(k:Int)<(keeps.l.length:Int):=by have:=List.getElem?_eq_none_iff.1 hb;omega
     simp only [reduceCtorEq,false_and,if_false]
     refine ⟨o,?_⟩
     clear m3
     simp only [A,gSrv,gA,gD,gL,gpk,grk,rq,t0,errR,Store.c,Leases.c,Server.c,Req.c,Reply.c,KVs.g,Evs.g,LeaseL.g,MemoL.g,Floors.g,Cmps.g,Muts.g,KV.c,Ev.c,Lease.c,gka,gkb,Sl.g_of,Sl.g_nil,if_true,if_false,Bool.false_eq_true,true_and,false_and,and_true,and_false,List.map_cons,List.map_nil] at m1 m2 ⊢
     simp -implicitDefEqProofs [m1,m2,hle,hc1,hk,hy,e2,hcl,w2,w3,w4,w5,hlb,Ints.c,Bools.c,pends,ptrCons]
    ·have hkb:=(List.getElem?_eq_some_iff.1 hb).1
     have hbb:=(List.getElem?_eq_some_iff.1 hb).2
     have hle:(k:Int)<(keeps.l.length:Int):=by omega
     cases keeps with
     | nil=>simp at hkb
     | of kl =>
     simp only [Sl.l_of] at hkb hbb hle hlb ⊢
     cases b
     ·simp only [Option.some.injEq,Bool.false_eq_true,false_and,if_false]
      refine ⟨o,?_⟩
      clear m3
      simp only [A,gSrv,gA,gD,gL,gpk,grk,rq,t0,errR,Store.c,Leases.c,Server.c,Req.c,Reply.c,KVs.g,Evs.g,LeaseL.g,MemoL.g,Floors.g,Cmps.g,Muts.g,KV.c,Ev.c,Lease.c,gka,gkb,Sl.g_of,Sl.g_nil,if_true,if_false,Bool.false_eq_true,true_and,false_and,and_true,and_false,List.map_cons,List.map_nil] at m1 m2 ⊢
      simp -implicitDefEqProofs [m1,m2,hle,hkb,hbb,hc1,hk,hy,e2,hcl,w2,w3,w4,w5,hlb,Ints.c,Bools.c,pends,ptrCons]
     ·simp only [true_and,Bool.false_eq_true,if_false]
      refine ⟨o++[.rows 6 1 [],.rows 8 1 [],.rows 3 1 [],.rows 11 1 [],.rows 2 1 [],.cells ((gSrv ttl ⟨n,till,false⟩).c.map .g),.rows 6 1 [],.rows 8 1 [],.cells ((errR grk 6).c.map .g)],?_⟩
      simp only [A,gSrv,gA,gD,gL,gpk,grk,rq,t0,errR,Store.c,Leases.c,Server.c,Req.c,Reply.c,KVs.g,Evs.g,LeaseL.g,MemoL.g,Floors.g,Cmps.g,Muts.g,KV.c,Ev.c,Lease.c,gka,gkb,Sl.g_of,Sl.g_nil,if_true,if_false,Bool.false_eq_true,true_and,false_and,and_true,and_false,List.map_cons,List.map_nil] at m1 m2 m3 ⊢
      simp -implicitDefEqProofs [m1,m2,m3,hle,hkb,hbb,hc1,hk,hy,e2,hcl,w2,w3,w4,w5,hlb,Ints.c,Bools.c,pends,ptrCons]
theorem ServerGrants_law (x0:Int) (x1:Sl Int) (x2:Sl Bool) (w0:I64 x0) (w1:(∀x∈x1.l,I64 x)∧x1.l.length≤9223372036854775807) (w2:x2.l.length≤9223372036854775807):EvF tab 4 [I x0,.g (Ints.g x1),.g (Bools.g x2)] []=some ⟨.g (.bool true),[],[]⟩:=by
 have hlt:∀h st,lenV h st (.g (Ints.g x1))=some x1.l.length:=fun h st=>lenV_Sl ..
 refine EvF_walk t4 (by simp) ?_
 by_cases c1:x0<1
 ·generalize Ints.g x1=GI at *
  generalize Bools.g x2=GB
  simp -implicitDefEqProofs [hlt,c1,live10]
 by_cases c2:1000<x0
 ·generalize Ints.g x1=GI at *
  generalize Bools.g x2=GB
  simp -implicitDefEqProofs [hlt,c1,c2,live10]
 by_cases c3:30<(x1.l.length:Int)
 ·generalize Ints.g x1=GI at *
  generalize Bools.g x2=GB
  simp -implicitDefEqProofs [hlt,c1,c2,c3,live10]
 have ht:1≤x0∧x0≤1000:=by omega
 have m0:=SNew_ev
 have p1:=fun H=>Put2_ev [97] [] 1 H
 have p2:=fun H=>Put2_ev [98] [] 0 H
 have m1:=fun H=>SDo_ev (s:=v0) (r:=gra x0) ⟨⟨storeOk_iff.1 (by kernel_rfl),by kernel_rfl⟩,ms10.1,by simp [v0],rq_wf (by simp [I64,t0,Txn.wf];unfold I64 at w0;omega)⟩ H
 rw [g_do1 ht] at m1
 have m2:=fun H=>SDo_ev (s:=g1 x0) (r:=grb) ⟨⟨storeOk_iff.1 (by kernel_rfl),g_mayS ht (by omega)⟩,gms,by simp [g1],rq_wf (by simp [I64,txnPut,cmpMade,Txn.wf,Cmp.wf,Mut.wf,S64])⟩ H
 rw [g_do2] at m2
 have m3:=fun H=>SDo_ev (s:=g2 x0) (r:=grc) ⟨⟨storeOk_iff.1 (by kernel_rfl),g_mayS ht (by omega)⟩,gms,by simp [g2],rq_wf (by simp [I64,txnPut,cmpMade,Txn.wf,Cmp.wf,Mut.wf,S64])⟩ H
 rw [g_do3] at m3
 have hw:=fun b0 b1 b2 b3 b4 o=>grants_loop ht x1 x2 (by omega) w2 ⟨0,x0,true⟩ ⟨by simp,by simp;omega⟩ b0 b1 b2 b3 b4 o
 obtain ⟨g,o',hw⟩:=hw (.rows 6 1 []) (.rows 8 1 []) (.rows 3 1 []) (.rows 11 1 []) (.rows 2 1 []) [.rows 6 1 [],.rows 8 1 [],.cells ((gpa x0).c.map .g),.cells ((gpb 1).c.map .g),.cells ((gpb 2).c.map .g)]
 obtain ⟨now,till,live⟩:=g
 generalize hG:Ints.g x1=GI at *
 generalize hB:Bools.g x2=GB at *
 simp only [A,gSrv,gA,g1,g2,gL,gra,grb,grc,gpa,gpb,Server.c,Reply.c,Req.c,v0,rq,t0,txnPut,cmpMade,Txn.c,Cmp.c,Mut.c,KV.c,Ev.c,Lease.c,gka,gkb,KVs.g,Evs.g,LeaseL.g,MemoL.g,Floors.g,Cmps.g,Muts.g,Sl.g_of,Sl.g_nil,if_true,List.map_cons,List.map_nil] at p1 p2 m0 m1 m2 m3 hw
 cases live
 ·simp only [gD,Bool.false_eq_true,if_false,Evs.g,KVs.g,LeaseL.g,MemoL.g,Floors.g,Ev.c,gka,gkb,KV.c,Sl.g_of,Sl.g_nil,List.map_cons,List.map_nil] at hw
  simp -implicitDefEqProofs [hlt,c1,c2,c3,m0,p1,p2,m1,m2,m3,hw,live10,pends,ptrCons]
 ·simp only [if_true] at hw
  simp -implicitDefEqProofs [hlt,c1,c2,c3,m0,p1,p2,m1,m2,m3,hw,live10,pends,ptrCons]
end Go.Proofs.YtndfdnlbljhlgaaGreat
end
