/- Part of the proof: what the functions answer, part 7 (GSweepP, PWatch2, GDoP, STxn4, GLive10, LServ3). No conditions. -/
import Derived.Test.YtndfdnlbljhlgaaGreatSPJ6
import Derived.Test.YtndfdnlbljhlgaaGreatSPJ5
import Derived.KernelRfl
section
namespace Go.Proofs.YtndfdnlbljhlgaaGreat
open Go Go.AM Go.Proofs
set_option maxRecDepth 20000
set_option linter.unusedSimpArgs false
set_option linter.unusedVariables false
set_option linter.defProp false
theorem keepR_l (to:Int) (s:Sl Ev):(keepR to s).l=keepL to s.l:=by cases s <;> rfl
theorem gone_flag (rev:Int):∀(ms:List Mut) (b:List Ev×List KV×Bool),(∀m∈ms,m.gone=true)→b.2.1.length≤30→b.2.2=false→(ms.foldl (evP rev) b).2.2=false
 | [],b,_,_,h=>h
 | m::ms,b,hg,hl,hb=>by
  rw [List.foldl_cons]
  refine gone_flag rev ms _ (fun x hx=>hg x (by simp [hx])) ?_ ?_
  ·unfold evP
   split
   ·exact hl
   ·unfold stepP evOf
    rw [hg m (by simp)]
    simp only [Int.lt_irrefl,if_false,if_true]
    have:=takeP_len (findX b.2.1 m.key).key b.2.1
    omega
  ·unfold evP
   split
   ·exact hb
   ·have h1:(stepP rev b.2.1 (evOf rev b.2.1 m)).length≤30:=by
     unfold stepP evOf
     rw [hg m (by simp)]
     simp only [Int.lt_irrefl,if_false,if_true]
     have:=takeP_len (findX b.2.1 m.key).key b.2.1
     omega
    simp only [hb,Bool.false_or,decide_eq_false_iff_not]
    omega
theorem mayMG_drops:∀(l:List KV) (met:List Bs),Srt l→(∀x∈l,keyOk x.key=true)→(∀x∈l,met.contains x.key=false)→mayMG met (l.map dropM)=true
 | [],_,_,_,_=>rfl
 | x::l,met,hs,hk,hm=>by
  obtain ⟨h1,h2⟩:=Srt.cons.1 hs
  rw [List.map_cons]
  unfold mayMG
  have e:mutOkM (dropM x)=true:=by
   rw [mutOk_iff]
   exact ⟨hk x (by simp),by simp [dropM],by simp [dropM],by simp [dropM]⟩
  rw [e,show (dropM x).key=x.key from rfl,hm x (by simp)]
  simp only [Bool.not_false,Bool.and_self,Bool.true_and]
  refine mayMG_drops l _ h2 (fun y hy=>hk y (by simp [hy])) fun y hy => ?_
  have a1:=hm y (by simp [hy])
  have a2:=bl_ne (h1 y hy)
  rw [List.contains_eq_any_beq] at a1 ⊢
  rw [List.any_append,a1]
  simp [Ne.symm a2]
theorem drops_may {l:List KV} (hs:Srt l) (hk:∀x∈l,keyOk x.key=true) (hl:l.length≤30) (id:Int):mayM (dropsS l id)=true:=by
 have h1:=dropsS_len l id
 unfold mayM
 rw [Bool.and_eq_true,decide_eq_true_eq]
 refine ⟨?_,by omega⟩
 unfold dropsS
 split
 ·rfl
 ·exact mayMG_drops _ [] (List.Pairwise.sublist List.filter_sublist hs) (fun x hx=>hk x (List.mem_filter.1 hx).1) (fun x _=>rfl)
theorem dropsS_gone {l:List KV} {id:Int}:∀m∈dropsS l id,m.gone=true:=by
 intro m hm
 unfold dropsS at hm
 split at hm
 ·cases hm
 ·obtain ⟨x,_,rfl⟩:=List.mem_map.1 hm;rfl
theorem shr_rev {s:Store} (h:SOk s):shrS s s.rev=⟨s.rev,s.rev,foldR s.base s.log.l s.rev,keepR s.rev s.log⟩:=by
 have h0:shrE s s.rev=0:=shrE_zero.2 ⟨by have:=h.low0;have:=h.lowr;omega,Int.le_refl _,h.lowr⟩
 unfold shrS
 rw [if_pos h0]
theorem sweepA_now {s:Store} (h:SOk s) (d:List Mut) (hd:d.length≤60):nowP (sweepA s d)=nowP s∧(sweepA s d).rev=s.rev∧(sweepA s d).log.l.length+d.length≤60:=by
 unfold sweepA
 split
 ·rw [shr_rev h]
  refine ⟨?_,rfl,?_⟩
  ·unfold nowP
   simp only [foldR_l,keepR_l]
   exact shr_fold h (Int.le_refl _)
  ·simp only [keepR_l,keepL_no (fun e he=>(h.all e he).2),List.length_nil]
   omega
 ·exact ⟨rfl,rfl,by omega⟩
theorem sweep_apply {s:Store} (h:SOk s) (id:Int):applyE (sweepA s (dropsS (nowP s) id)) (dropsS (nowP s) id)=0∨(applyE (sweepA s (dropsS (nowP s) id)) (dropsS (nowP s) id) ≠ 0∧s.rev=1099511627774):=by
 have hg:=h.nowGood
 have hn:=h.nowLen
 have hd:=dropsS_len (nowP s) id
 obtain ⟨a1,a2,a3⟩:=sweepA_now h (dropsS (nowP s) id) (by omega)
 have hm:=drops_may hg.srt (fun x hx=>oneOk_kk (hg.one x hx).1) hn id
 have hso:=sweepA_SOk h (dropsS (nowP s) id)
 generalize hD:dropsS (nowP s) id=D at *
 obtain ⟨f1,f2,-⟩:=more_facts hso hm
 have hfl:(moreP (sweepA s D) D).2.2=false:=by
  unfold moreP
  refine gone_flag _ _ _ (by rw [←hD];exact dropsS_gone) ?_ rfl
  show (nowP (sweepA s D)).length≤30
  rw [a1];exact hn
 have hle:(moreP (sweepA s D) D).1.length≤D.length:=by rw [f2];exact List.length_filter_le ..
 unfold applyE
 rw [if_pos hm]
 split
 ·exact .inl rfl
 ·split
  ·rename_i hc
   refine .inr ⟨by omega,?_⟩
   rcases hc with hc | hc | hc
   ·rw [hfl] at hc;cases hc
   ·rw [a2] at hc;exact hc
   ·omega
  ·exact .inl rfl
theorem filter_get {l:List KV} (h:Srt l) (p:KV→Bool) (k:Bs):getK (l.filter p) k=(match getK l k with | some x=>if p x=true then some x else none | none=>none):=by
 induction l with
 | nil=>rfl
 | cons x l ih =>
  obtain ⟨h1,h2⟩:=Srt.cons.1 h
  have ih:=ih h2
  rw [List.filter_cons,show getK (x::l) k=if x.key=k then some x else getK l k from rfl]
  by_cases hk:x.key=k
  ·rw [if_pos hk]
   by_cases hp:p x=true
   ·rw [if_pos hp,show getK (x::l.filter p) k=if x.key=k then some x else getK (l.filter p) k from rfl,if_pos hk]
    simp only [hp,if_true]
   ·rw [if_neg hp]
    simp only [hp,if_false]
    refine getK_no fun z hz => ?_
    rw [←hk]
    exact (bl_ne (h1 z (List.mem_filter.1 hz).1)).symm
  ·rw [if_neg hk]
   by_cases hp:p x=true
   ·rw [if_pos hp,show getK (x::l.filter p) k=if x.key=k then some x else getK (l.filter p) k from rfl,if_neg hk,ih]
   ·rw [if_neg hp,ih]
theorem drops_mutK {l:List KV} (h:Srt l) (id:Int) (h0:id ≠ 0) (k:Bs):mutK (dropsS l id) k=(match getK l k with | some x=>if x.lease=id then some (dropM x) else none | none=>none):=by
 unfold dropsS
 rw [if_neg h0]
 induction l with
 | nil=>rfl
 | cons x l ih =>
  obtain ⟨h1,h2⟩:=Srt.cons.1 h
  have ih:=ih h2
  rw [List.filter_cons,show getK (x::l) k=if x.key=k then some x else getK l k from rfl]
  by_cases hk:x.key=k
  ·rw [if_pos hk]
   by_cases hp:x.lease=id
   ·rw [if_pos (by simp [dropP,hp]),List.map_cons,show mutK (dropM x::(l.filter (dropP id)).map dropM) k=if (dropM x).key=k then some (dropM x) else mutK ((l.filter (dropP id)).map dropM) k from rfl,show (dropM x).key=x.key from rfl,if_pos hk]
    simp only [hp,if_true]
   ·rw [if_neg (by simp [dropP,hp])]
    simp only [hp,if_false]
    refine mutK_none fun z hz => ?_
    obtain ⟨y,hy,rfl⟩:=List.mem_map.1 hz
    show y.key ≠ k
    rw [←hk]
    exact (bl_ne (h1 y (List.mem_filter.1 hy).1)).symm
  ·rw [if_neg hk]
   by_cases hp:x.lease=id
   ·rw [if_pos (by simp [dropP,hp]),List.map_cons,show mutK (dropM x::(l.filter (dropP id)).map dropM) k=if (dropM x).key=k then some (dropM x) else mutK ((l.filter (dropP id)).map dropM) k from rfl,show (dropM x).key=x.key from rfl,if_neg hk,ih]
   ·rw [if_neg (by simp [dropP,hp]),ih]
theorem srt_eq {l m:List KV} (hl:Srt l) (hm:Srt m) (h:∀k,getK l k=getK m k):l=m:=by
 have:=srt_ext (fun x=>x) (fun a b e=>by rw [e]) hl hm (fun k=>by rw [h k])
 simpa using this
theorem swept_now {s:Store} (h:SOk s) {id:Int} (h0:id ≠ 0) (he:applyE (sweepA s (dropsS (nowP s) id)) (dropsS (nowP s) id)=0) :
  nowP (applyS (sweepA s (dropsS (nowP s) id)) (dropsS (nowP s) id))=(nowP s).filter (fun x => !decide (x.lease=id))∧s.rev≤(applyS (sweepA s (dropsS (nowP s) id)) (dropsS (nowP s) id)).rev:=by
 have hd:=dropsS_len (nowP s) id
 have hn:=h.nowLen
 obtain ⟨a1,a2,a3⟩:=sweepA_now h (dropsS (nowP s) id) (by omega)
 have hso:=sweepA_SOk h (dropsS (nowP s) id)
 have hg:=h.nowGood.srt
 refine ⟨srt_eq (apply_SOk hso _).nowGood.srt (List.Pairwise.sublist List.filter_sublist hg) fun k => ?_,?_⟩
 ·rw [apply_now hso he k,a1,filter_get hg]
  unfold outK
  rw [drops_mutK hg id h0]
  cases getK (nowP s) k with
  | none=>rfl
  | some x =>
   simp only
   by_cases hp:x.lease=id
   ·simp [hp,dropM]
   ·simp [hp]
 ·have:=(apply_rev hso he).1
  rw [this]
  split <;> omega
theorem end_hasS {L:Leases} (h:mayS L=true) (id j:Int):hasS j (endS L id).l.l=(hasS j L.l.l && !decide (j=id)):=by
 by_cases hj:j=id
 ·subst hj;rw [end_has h];simp
 ·simp only [hj,decide_false,Bool.not_false,Bool.and_true]
  unfold endS
  rcases hp:placeN id 0 L.l.l with _ | i
  ·rfl
  ·simp only [slOf_l,endL']
   obtain ⟨hi,hii⟩:=place_some hp
   have e:L.l.l=L.l.l.take i++L.l.l[i]::L.l.l.drop (i+1):=by simp
   have key:(∃x∈L.l.l.take i++L.l.l.drop (i+1),x.id=j)↔∃x∈L.l.l,x.id=j:=by
    constructor
    ·rintro ⟨x,hx,hxj⟩
     rcases List.mem_append.1 hx with hx | hx
     ·exact ⟨x,List.mem_of_mem_take hx,hxj⟩
     ·exact ⟨x,List.mem_of_mem_drop hx,hxj⟩
    ·rintro ⟨x,hx,hxj⟩
     rw [e] at hx
     rcases List.mem_append.1 hx with hx | hx
     ·exact ⟨x,List.mem_append_left _ hx,hxj⟩
     ·rcases List.mem_cons.1 hx with rfl | hx
      ·exact absurd (hxj.symm.trans hii) hj
      ·exact ⟨x,List.mem_append_right _ hx,hxj⟩
   cases hb:hasS j L.l.l
   ·rw [Bool.eq_false_iff]
    intro hc
    have:=hasS_iff.2 (key.1 (hasS_iff.1 hc))
    rw [hb] at this;cases this
   ·exact hasS_iff.2 (key.2 (hasS_iff.1 hb))
theorem sweep_one {s:Server} (h:Srv0 s) {id:Int} (h0:id ≠ 0) (hh:hasS id s.ls.l.l=true) :
  (nowP (sweepS s id).st=(nowP s.st).filter (fun x => !decide (x.lease=id))∧(∀j,hasS j (sweepS s id).ls.l.l=(hasS j s.ls.l.l && !decide (j=id)))∧s.st.rev≤(sweepS s id).st.rev)∨(sweepS s id=s∧s.st.rev=1099511627774):=by
 have hE:endE s.ls id=0:=endE_0.2 hh
 unfold sweepS sweepD
 rcases sweep_apply h.st id with ha | ⟨ha,hr⟩
 ·rw [if_pos ⟨hE,ha⟩]
  obtain ⟨k1,k2⟩:=swept_now h.st h0 ha
  exact .inl ⟨k1,fun j=>end_hasS h.ls id j,k2⟩
 ·rw [if_neg (fun hc=>ha hc.2)]
  exact .inr ⟨rfl,hr⟩
theorem sweeps_spec:∀(ids:List Int) {s:Server},Srv0 s→ids.Nodup→(∀id∈ids,id ≠ 0∧hasS id s.ls.l.l=true) →
  ∃G:List Int,(∀g∈G,g∈ids)∧(∀id∈ids,id∈G∨(sweepsS s ids).st.rev=1099511627774)∧nowP (sweepsS s ids).st=(nowP s.st).filter (fun x => !decide (x.lease∈G)) ∧
   (∀j,hasS j (sweepsS s ids).ls.l.l=(hasS j s.ls.l.l && !decide (j∈G)))∧s.st.rev≤(sweepsS s ids).st.rev
 | [],s,h,_,_=>⟨[],by simp,by simp,(List.filter_eq_self.2 (fun x _=>by simp)).symm,by simp [sweepsS],Int.le_refl _⟩
 | id::ids,s,h,hn,hi=>by
  obtain ⟨n1,n2⟩:=List.nodup_cons.1 hn
  obtain ⟨h0,hh⟩:=hi id (by simp)
  have hs:=h.sweep id
  rcases sweep_one h h0 hh with ⟨k1,k2,k3⟩ | ⟨k1,k2⟩
  ·obtain ⟨G,g1,g2,g3,g4,g5⟩:=sweeps_spec ids hs n2 (fun j hj=>⟨(hi j (by simp [hj])).1,by
    rw [k2,(hi j (by simp [hj])).2]
    have:j ≠ id:=fun e=>n1 (e▸hj)
    simp [this]⟩)
   refine ⟨id::G,fun g hg => ?_,fun j hj => ?_,?_,fun j => ?_,?_⟩
   ·rcases List.mem_cons.1 hg with rfl | hg
    ·simp
    ·exact List.mem_cons_of_mem _ (g1 g hg)
   ·rcases List.mem_cons.1 hj with rfl | hj
    ·exact .inl (by simp)
    ·exact (g2 j hj).imp (fun h=>List.mem_cons_of_mem _ h) (fun h=>h)
   ·show nowP (sweepsS (sweepS s id) ids).st=_
    rw [g3,k1,List.filter_filter]
    congr 1
    funext x
    by_cases c1:x.lease=id <;> by_cases c2:x.lease∈G <;> simp [c1,c2]
   ·show hasS j (sweepsS (sweepS s id) ids).ls.l.l=_
    rw [g4,k2]
    by_cases c1:j=id <;> by_cases c2:j∈G <;> simp [c1,c2]
   ·show s.st.rev≤(sweepsS (sweepS s id) ids).st.rev
    omega
  ·have e:sweepsS s (id::ids)=sweepsS s ids:=by show sweepsS (sweepS s id) ids=_;rw [k1]
   obtain ⟨G,g1,g2,g3,g4,g5⟩:=sweeps_spec ids h n2 (fun j hj=>hi j (by simp [hj]))
   rw [e]
   have hM:=(Srv0.sweeps ids h).st.revM
   refine ⟨G,fun g hg=>List.mem_cons_of_mem _ (g1 g hg),fun j hj => ?_,g3,g4,g5⟩
   exact .inr (by omega)
theorem dueS_nodup {L:Leases} (h:mayS L=true) (n:Int):(dueS L.l.l n).Nodup:=by
 have h4:=(mayS_iff.1 h).2.2.2
 unfold dueS List.Nodup
 rw [List.pairwise_map]
 exact (h4.sublist List.filter_sublist).imp (fun e=>by omega)
theorem dueS_mem {L:Leases} (h:mayS L=true) (n:Int):∀id∈dueS L.l.l n,id ≠ 0∧hasS id L.l.l=true:=by
 intro id hid
 unfold dueS at hid
 obtain ⟨x,hx,rfl⟩:=List.mem_map.1 hid
 have hx:=(List.mem_filter.1 hx).1
 have:=((mayS_iff.1 h).2.2.1 x hx).1
 exact ⟨by omega,hasS_iff.2 ⟨x,hx,rfl⟩⟩
structure Swept (s t:Server) (now:Int):Prop where
 due:∀x∈s.ls.l.l,x.till≤now→hasS x.id t.ls.l.l=true→t.st.rev=1099511627774
 stay:∀x∈s.ls.l.l,¬x.till≤now→hasS x.id t.ls.l.l=true
 keys:∀x∈nowP s.st,(x.lease=0∨hasS x.lease t.ls.l.l=true)↔x∈nowP t.st
 len:(nowP t.st).length≤(nowP s.st).length
theorem tick_swept {s:Server} (h:Srv0 s) (hh:∀x∈nowP s.st,heldL s.ls.l.l x=true) (now:Int):Swept s (sweepsS ⟨s.st,s.ls,s.ms,now⟩ (dueS s.ls.l.l now)) now:=by
 obtain ⟨G,g1,g2,g3,g4,g5⟩:=sweeps_spec (dueS s.ls.l.l now) (s:=⟨s.st,s.ls,s.ms,now⟩) ⟨h.st,h.ls⟩ (dueS_nodup h.ls now) (dueS_mem h.ls now)
 simp only at g3 g4
 have hm:=mayS_iff.1 h.ls
 have hG:∀g∈G,∃y∈s.ls.l.l,y.id=g∧y.till≤now:=fun g hg=>by
  have:=g1 g hg
  unfold dueS at this
  obtain ⟨y,hy,rfl⟩:=List.mem_map.1 this
  obtain ⟨h1,h2⟩:=List.mem_filter.1 hy
  exact ⟨y,h1,rfl,by simpa [dueP] using h2⟩
 have hu:∀x∈s.ls.l.l,∀y∈s.ls.l.l,x.id=y.id→x=y:=fun x hx y hy he=>by
  obtain ⟨i,hi,rfl⟩:=List.mem_iff_getElem.1 hx
  obtain ⟨j,hj,rfl⟩:=List.mem_iff_getElem.1 hy
  have hp:=List.pairwise_iff_getElem.1 hm.2.2.2
  rcases Nat.lt_trichotomy i j with hij | hij | hij
  ·have:=hp i j hi hj hij;omega
  ·subst hij;rfl
  ·have:=hp j i hj hi hij;omega
 refine ⟨fun x hx hd ht => ?_,fun x hx hd => ?_,fun x hx => ?_,?_⟩
 ·have hid:x.id∈dueS s.ls.l.l now:=by
   unfold dueS
   exact List.mem_map.2 ⟨x,List.mem_filter.2 ⟨hx,by simp [dueP,hd]⟩,rfl⟩
  rcases g2 x.id hid with hg | hg
  ·rw [g4] at ht;simp [hg] at ht
  ·exact hg
 ·rw [g4,hasS_iff.2 ⟨x,hx,rfl⟩]
  have:x.id∉G:=fun hg=>by
   obtain ⟨y,hy,he,hd2⟩:=hG _ hg
   rw [hu x hx y hy he.symm] at hd
   exact hd hd2
  simp [this]
 ·rw [g3,List.mem_filter,g4]
  have h1:=hh x hx
  unfold heldL at h1
  simp only [Bool.or_eq_true,decide_eq_true_eq] at h1
  have h0:(0:Int)∉G:=fun hg=>(dueS_mem h.ls now 0 (g1 0 hg)).1 rfl
  constructor
  ·rintro (hz | hz)
   ·exact ⟨hx,by rw [hz];simp [h0]⟩
   ·simp only [Bool.and_eq_true,Bool.not_eq_true',decide_eq_false_iff_not] at hz
    exact ⟨hx,by simp [hz.2]⟩
  ·rintro ⟨_,hz⟩
   simp only [Bool.not_eq_true',decide_eq_false_iff_not] at hz
   rcases h1 with h1 | h1
   ·exact .inl h1
   ·exact .inr (by rw [h1];simp [hz])
 ·rw [g3];exact List.length_filter_le ..
end Go.Proofs.YtndfdnlbljhlgaaGreat
end
section
namespace Go.Proofs.YtndfdnlbljhlgaaGreat
open Go Go.AM Go.Proofs
set_option maxRecDepth 20000
set_option linter.unusedSimpArgs false
set_option linter.unusedVariables false
theorem sinP_ok {s:Store} (h:SOk s) {p:Bs} {rev most:Int} (he:(sinP s p rev most).2.2=0):sinE s rev most=0∧CutOk s p rev most (sinP s p rev most)∧sinE s (sinP s p rev most).2.1 most=0:=by
 by_cases h0:sinE s rev most=0
 ·have e:sinP s p rev most=cutP (ofP s.log.l p rev) most s.rev:=by unfold sinP;rw [if_pos h0]
  rw [e] at he ⊢
  obtain ⟨⟨a1,a2⟩,⟨a3,a4⟩,a5⟩:=sinE_zero.1 h0
  have hc:=cut_ok h a1 a4 he
  refine ⟨h0,hc,sinE_zero.2 ⟨⟨a1,a2⟩,?_,?_⟩⟩
  ·have:=hc.lo;have:=hc.hi;omega
  ·have:=hc.lo;omega
 ·unfold sinP at he;rw [if_neg h0] at he;exact absurd he h0
end Go.Proofs.YtndfdnlbljhlgaaGreat
end
section
namespace Go.Proofs.YtndfdnlbljhlgaaGreat
open Go Go.AM Go.Proofs
set_option maxRecDepth 20000
set_option linter.unusedSimpArgs false
set_option linter.unusedVariables false
set_option linter.defProp false
theorem oneOk_wf {x:KV} (h:oneOk x=true):x.wf:=by
 obtain ⟨p1,p2,⟨p3,p4⟩,⟨p5,p6⟩,p7,p8,p9,p10⟩:=oneOk_iff.1 h
 have:=keyOk_len p1
 unfold KV.wf I64 S64
 refine ⟨by omega,by omega,by omega,by omega,by omega,by omega⟩
theorem right_one {l:List KV} {b:Int} {e:Ev} (hg:GoodK l b) (hr:rightP l e=true):oneOk e.kv=true:=by
 unfold rightP at hr
 split at hr
 ·rw [Bool.and_eq_true,kvEq_iff,findB_get,findX_get] at hr
  cases hq:getK l e.kv.key with
  | none=>rw [hq] at hr;cases hr.1
  | some x =>
   rw [hq] at hr
   have:x=e.kv:=hr.2
   rw [←this]
   exact (hg.one x (getK_some hq).1).1
 ·rw [Bool.and_eq_true] at hr;exact hr.2
theorem logOk_one {srev:Int}:∀{log:List Ev} {l:List KV} {last b:Int},GoodK l b→b≤last→logOk srev l last log=true→∀e∈log,oneOk e.kv=true
 | [],_,_,_,_,_,_,e,he=>by cases he
 | e::log,l,last,b,hg,hb,h,x,hx=>by
  obtain ⟨h1,h2,h3,h4,h5⟩:=logOk_cons.1 h
  rcases List.mem_cons.1 hx with rfl | hx
  ·exact right_one hg h3
  ·exact logOk_one (right_good hg (by omega) h3) (Int.le_refl _) h5 x hx
theorem SOk.wf {s:Store} (h:SOk s):s.wf:=by
 have h1:=h.low0
 have h2:=h.lowr
 have h3:=h.revM
 have h4:=h.bl
 have h5:=h.ll
 unfold Store.wf
 refine ⟨by unfold I64;omega,by unfold I64;omega,⟨fun x hx=>oneOk_wf (h.good.one x hx).1,by omega⟩,⟨fun e he => ?_,by omega⟩⟩
 have:=h.all e he
 exact ⟨by unfold I64;omega,oneOk_wf (logOk_one h.good (by omega) h.log e he)⟩
theorem logOk_left {srev:Int}:∀{a b:List Ev} {l:List KV} {last:Int},logOk srev l last (a++b)=true→logOk srev l last a=true
 | [],_,_,_,_=>rfl
 | e::a,b,l,last,h=>by
  rw [List.cons_append] at h
  obtain ⟨h1,h2,h3,h4,h5⟩:=logOk_cons.1 h
  exact logOk_cons.2 ⟨h1,h2,h3,h4,logOk_left h5⟩
theorem fold_at {s:Store} (h:SOk s) (rev:Int) (h1:s.low≤rev):(∀x∈foldP s.base.l s.log.l rev,oneOk x=true)∧(foldP s.base.l s.log.l rev).length≤30:=by
 obtain ⟨a,b,e,ha,hb⟩:=logOk_split rev h.log
 have hl:=h.log
 rw [e] at hl
 have hl:=logOk_left hl
 have hf:foldP s.base.l s.log.l rev=a.foldl actP s.base.l:=by rw [e,foldP_app,foldP_le ha,foldP_gt hb]
 rw [hf]
 exact ⟨fun x hx=>((logOk_good h.good (by omega) hl rev h1 ha).one x hx).1,logOk_len h.bl hl⟩
theorem at_one {s:Store} (h:SOk s) (rev:Int):(∀x∈(atR s rev).l,oneOk x=true)∧(atR s rev).l.length≤30:=by
 unfold atR
 split
 ·rename_i he
  rw [foldR_l]
  refine fold_at h _ ?_
  unfold atE at he
  unfold atV
  by_cases h0:rev=0
  ·rw [if_pos h0];exact h.lowr
  ·rw [if_neg h0] at he ⊢
   split at he
   ·omega
   ·split at he
    ·omega
    ·omega
 ·exact ⟨fun x hx=>by simp at hx,by simp⟩
theorem kvOk_one {x:KV} (h:oneOk x=true):kvOk x=true:=by
 obtain ⟨p1,p2,⟨p3,p4⟩,⟨p5,p6⟩,p7,p8,p9,p10⟩:=oneOk_iff.1 h
 have:=keyOk_len p1
 unfold kvOk txtOk numOk
 simp only [Bool.and_eq_true,decide_eq_true_eq]
 omega
theorem numOk_iff {n:Int}:numOk n=true↔0≤n∧n≤1099511627775:=by simp [numOk]
theorem kvsOk_slOf {l:List KV} (h1:∀x∈l,oneOk x=true) (h2:l.length≤30):kvsOk (slOf l)=true:=by
 unfold kvsOk
 rw [slOf_l,Bool.and_eq_true,decide_eq_true_eq,List.all_eq_true]
 exact ⟨h2,fun x hx=>kvOk_one (h1 x hx)⟩
theorem fromP_sub {l:List KV} {p:Bs}:(∀x∈fromP l p,x∈l)∧(fromP l p).length≤l.length:=⟨fun x hx=>(List.mem_filter.1 hx).1,List.length_filter_le ..⟩
theorem reqOk_num {r:Req} (h:reqOk r=true):(0≤r.who∧r.who≤1099511627775)∧(0≤r.seq∧r.seq≤1099511627775)∧(0≤r.lease∧r.lease≤1099511627775)∧(0≤r.ttl∧r.ttl≤1099511627775):=by
 unfold reqOk numOk at h
 simp only [Bool.and_eq_true,decide_eq_true_eq] at h
 omega
theorem repOk_num {code who seq rev lease ttl:Int} {yes:Bool} (h0:0≤code∧code≤14) (h1:0≤who∧who≤1099511627775) (h2:0≤seq∧seq≤1099511627775) (h3:0≤rev∧rev≤1099511627775) (h4:0≤lease∧lease≤1099511627775) (h5:0≤ttl∧ttl≤1099511627775) {kvs:KVs} {evs:Evs} (h6:kvsOk kvs=true) (h7:evsOk evs=true) :
  repOk ⟨code,who,seq,rev,lease,ttl,yes,kvs,evs⟩=true:=by
 unfold repOk
 simp only [numOk,Bool.and_eq_true,decide_eq_true_eq]
 exact ⟨⟨⟨h0,h1,h2,h3,h4,h5⟩,h6⟩,h7⟩
theorem kvs_nil:kvsOk .nil=true:=by rfl
theorem evs_nil:evsOk .nil=true:=by rfl
theorem errR_ok {r:Req} (h:reqOk r=true) {e:Int} (he:0≤e∧e≤14):repOk (errR r e)=true:=by
 obtain ⟨h1,h2,h3,h4⟩:=reqOk_num h
 exact repOk_num he h1 h2 (by omega) (by omega) (by omega) kvs_nil evs_nil
theorem sin_rep {s:Store} (h:SOk s) (p:Bs) (rev:Int) (he:(sinP s p rev 30).2.2=0):(0≤(sinP s p rev 30).2.1∧(sinP s p rev 30).2.1≤s.rev+1)∧evsOk (slOf (sinP s p rev 30).1)=true:=by
 obtain ⟨h1,h2,h3⟩:=sinP_ok h he
 have h4:=sinE_zero.1 h1
 have h5:=h2.lo
 have h6:=h2.hi
 have h7:=h.low0
 have h8:=h.lowr
 have h9:=h.revM
 refine ⟨by omega,?_⟩
 unfold evsOk
 rw [slOf_l,Bool.and_eq_true,decide_eq_true_eq,List.all_eq_true]
 refine ⟨by have:=h2.len;omega,fun x hx => ?_⟩
 have hx2:x∈s.log.l:=by
  have:x∈ofP s.log.l p rev:=by rw [h2.split];exact List.mem_append_left _ hx
  exact (ofP_mem.1 this).1
 have h10:=h.all x hx2
 unfold evOk
 rw [Bool.and_eq_true,numOk_iff]
 exact ⟨kvOk_one (logOk_one h.good (by omega) h.log x hx2),by omega⟩
theorem heldL_iff {L:List Lease} {x:KV}:heldL L x=true↔x.lease=0∨hasS x.lease L=true:=by
 unfold heldL;simp
theorem grant_has {L:Leases} (t now j:Int) (h:hasS j L.l.l=true):hasS j (grantS L t now).l.l=true:=by
 unfold grantS
 split
 ·obtain ⟨x,hx,hj⟩:=hasS_iff.1 h
  exact hasS_iff.2 ⟨x,by simp [hx],hj⟩
 ·exact h
theorem keep_has {L:Leases} (id now j:Int) (h:hasS j L.l.l=true):hasS j (keepS L id now).l.l=true:=by
 unfold keepS
 split
 ·rcases hp:placeN id 0 L.l.l with _ | i
  ·exact h
  ·simp only [Sl.l_of]
   obtain ⟨hi,hii⟩:=place_some hp
   obtain ⟨x,hx,hj⟩:=hasS_iff.1 h
   obtain ⟨k,hk,rfl⟩:=List.mem_iff_getElem.1 hx
   refine hasS_iff.2 ⟨(L.l.l.set i (keptL (L.l.l[i]?.getD default) now))[k]'(by simpa using hk),List.getElem_mem _,?_⟩
   rw [List.getElem_set]
   split
   ·rename_i e
    subst e
    rw [List.getElem?_eq_getElem hk]
    exact hj
   ·exact hj
 ·exact h
theorem shr_now {s:Store} (h:SOk s) (to:Int):nowP (shrS s to)=nowP s:=by
 unfold shrS
 split
 ·rename_i he
  obtain ⟨h1,h2,h3⟩:=shrE_zero.1 he
  unfold nowP
  simp only [foldR_l,keepR_l]
  exact shr_fold h h2
 ·rfl
theorem doE_zero {s:Store} {t:Txn} (h:doE s t=0):doOk t=true∧applyE s (doL s t).l=0:=by
 unfold doE at h
 split at h
 ·exact ⟨by assumption,h⟩
 ·omega
theorem doS_SOk {s:Store} (h:SOk s) (t:Txn):SOk (doS s t):=by
 unfold doS
 split
 ·exact apply_SOk h _
 ·exact h
theorem do_held {s:Server} (h:VOk s) {r:Req} (hh:allP (heldM s.ls.l.l) (r.thn.l++r.els.l)=true):∀x∈nowP (doS s.st (txnOf r)),heldL s.ls.l.l x=true:=by
 intro x hx
 unfold doS at hx
 split at hx
 case isFalse=>exact h.held x hx
 by_cases he:applyE s.st (doL s.st (txnOf r)).l=0
 ·have hsrt:=(apply_SOk h.st (doL s.st (txnOf r)).l).nowGood.srt
  have hg:=mem_getK hsrt hx
  rw [apply_now h.st he] at hg
  unfold outK at hg
  have hm:∀m,mutK (doL s.st (txnOf r)).l x.key=some m→m∈(doL s.st (txnOf r)).l:=by
   generalize (doL s.st (txnOf r)).l=ms
   intro m
   induction ms with
   | nil=>intro hc;cases hc
   | cons y ys ih =>
    intro hc
    unfold mutK at hc
    split at hc
    ·cases hc;simp
    ·exact List.mem_cons_of_mem _ (ih hc)
  cases hq:mutK (doL s.st (txnOf r)).l x.key with
  | none =>
   rw [hq] at hg
   exact h.held x (getK_some hg).1
  | some m =>
   rw [hq] at hg
   simp only at hg
   split at hg
   ·cases hg
   ·rename_i hgn
    have hmm:=hm m hq
    have hml:m∈r.thn.l++r.els.l:=by
     unfold doL at hmm
     split at hmm
     ·exact List.mem_append_left _ hmm
     ·exact List.mem_append_right _ hmm
    have:=allP_iff.1 hh m hml
    unfold heldM at this
    rw [Bool.not_eq_true] at hgn
    rw [hgn,Bool.false_or,Bool.or_eq_true,decide_eq_true_eq] at this
    have hl:x.lease=m.lease:=by
     have:=Option.some.inj hg
     rw [←this]
     unfold nextK
     split <;> rfl
    rw [heldL_iff,hl];exact this
 ·have:applyS s.st (doL s.st (txnOf r)).l=s.st:=(applyN_false (by unfold applyN;simp [he])).1
  rw [this] at hx
  exact h.held x hx
theorem act_ok {s:Server} (h:VOk s) {r:Req} (hr:reqOk r=true) (he:(actR s r).1=0) :
  SOk (actR s r).2.1.st∧mayS (actR s r).2.1.ls=true∧(actR s r).2.1.clock=s.clock∧(∀x∈nowP (actR s r).2.1.st,heldL (actR s r).2.1.ls.l.l x=true)∧s.st.rev≤(actR s r).2.1.st.rev ∧
   repOk (actR s r).2.2=true∧(actR s r).2.2.code=0∧(actR s r).2.2.who=r.who∧(actR s r).2.2.seq=r.seq:=by
 obtain ⟨n1,n2,n3,n4⟩:=reqOk_num hr
 have hrev:0≤s.st.rev∧s.st.rev≤1099511627774:=⟨by have:=h.st.low0;have:=h.st.lowr;omega,h.st.revM⟩
 unfold actR at he ⊢
 split at he
 ·rename_i c
  simp only [if_pos c]
  obtain ⟨a1,a2⟩:=at_one h.st r.rev
  exact ⟨h.st,h.ls,by trivial,h.held,Int.le_refl _,repOk_num (by omega) n1 n2 (by omega) (by omega) (by omega) (kvsOk_slOf (fun x hx=>a1 x (fromP_sub.1 x hx)) (Nat.le_trans fromP_sub.2 a2)) evs_nil,by trivial,by trivial,by trivial⟩
 rename_i c1
 simp only [if_neg c1]
 split at he
 ·rename_i c
  simp only [if_pos c]
  split at he
  ·rename_i hh
   simp only [if_pos hh]
   obtain ⟨d1,d2⟩:=doE_zero he
   have hs:=doS_SOk h.st (txnOf r)
   have hrv:s.st.rev≤(doS s.st (txnOf r)).rev:=by
    unfold doS
    rw [if_pos d1,(apply_rev h.st d2).1]
    split <;> omega
   exact ⟨hs,h.ls,by trivial,do_held h hh,hrv,repOk_num (by omega) n1 n2 (by have:=hs.revM;omega) (by omega) (by omega) kvs_nil evs_nil,by trivial,by trivial,by trivial⟩
  ·simp only at he;omega
 rename_i c2
 simp only [if_neg c2]
 split at he
 ·rename_i c
  simp only [if_pos c]
  obtain ⟨e1,e2⟩:=sin_rep h.st r.key r.rev he
  exact ⟨h.st,h.ls,by trivial,h.held,Int.le_refl _,repOk_num (by omega) n1 n2 (by omega) (by omega) (by omega) kvs_nil e2,by trivial,by trivial,by trivial⟩
 rename_i c3
 simp only [if_neg c3]
 split at he
 ·rename_i c
  simp only [if_pos c]
  have hb:=(mayS_iff.1 (may_grant h.ls r.ttl s.clock)).1
  have hi:0≤grantI s.ls r.ttl s.clock∧grantI s.ls r.ttl s.clock≤1099511627775:=by
   have:=(mayS_iff.1 h.ls).1
   unfold grantI
   rw [if_pos he]
   unfold grantS at hb
   rw [if_pos he] at hb
   simp only at hb
   omega
  exact ⟨h.st,may_grant h.ls _ _,by trivial,fun x hx=>heldL_iff.2 ((heldL_iff.1 (h.held x hx)).imp id fun e=>grant_has _ _ _ e),Int.le_refl _,repOk_num (by omega) n1 n2 (by omega) hi (by omega) kvs_nil evs_nil,by trivial,by trivial,by trivial⟩
 rename_i c4
 simp only [if_neg c4]
 split at he
 ·rename_i c
  simp only [if_pos c]
  have ht:0≤keepT s.ls r.lease s.clock∧keepT s.ls r.lease s.clock≤1099511627775:=by
   unfold keepT
   split
   ·rcases hp:placeN r.lease 0 s.ls.l.l with _ | i
    ·simp
    ·simp only
     obtain ⟨hi,hii⟩:=place_some hp
     rw [List.getElem?_eq_getElem hi]
     have:=((mayS_iff.1 h.ls).2.2.1 _ (List.getElem_mem hi)).2
     unfold fOk at this
     simp only [Option.getD_some]
     omega
   ·omega
  exact ⟨h.st,may_keep h.ls _ _,by trivial,fun x hx=>heldL_iff.2 ((heldL_iff.1 (h.held x hx)).imp id fun e=>keep_has _ _ _ e),Int.le_refl _,repOk_num (by omega) n1 n2 (by omega) n3 ht kvs_nil evs_nil,by trivial,by trivial,by trivial⟩
 rename_i c5
 simp only [if_neg c5]
 split at he
 ·rename_i c
  simp only [if_pos c]
  have hs0:=h.srv.sweep r.lease
  have hE:endE s.ls r.lease=0:=by
   unfold sweepE at he
   split at he
   ·assumption
   ·exact he
  have hA:applyE (sweepA s.st (sweepD s r.lease)) (sweepD s r.lease)=0:=by
   unfold sweepE at he
   rw [if_pos hE] at he;exact he
  have hh:hasS r.lease s.ls.l.l=true:=endE_0.1 hE
  have h0:r.lease ≠ 0:=by
   obtain ⟨y,hy,hyi⟩:=hasS_iff.1 hh
   have:=((mayS_iff.1 h.ls).2.2.1 y hy).1
   omega
  have hk:=swept_now h.st h0 hA
  have hsw:sweepS s r.lease=⟨applyS (sweepA s.st (sweepD s r.lease)) (sweepD s r.lease),endS s.ls r.lease,s.ms,s.clock⟩:=by unfold sweepS;rw [if_pos ⟨hE,hA⟩]
  refine ⟨hs0.st,hs0.ls,(sweepS_clock s r.lease).1,fun x hx => ?_,by rw [hsw];exact hk.2,repOk_num (by omega) n1 n2 (by have:=hs0.st.revM;have:=hs0.st.low0;have:=hs0.st.lowr;omega) n3 (by omega) kvs_nil evs_nil,by trivial,by trivial,by trivial⟩
  rw [hsw] at hx ⊢
  simp only at hx ⊢
  rw [show sweepD s r.lease=dropsS (nowP s.st) r.lease from rfl,hk.1] at hx
  obtain ⟨x1,x2⟩:=List.mem_filter.1 hx
  simp only [Bool.not_eq_true',decide_eq_false_iff_not] at x2
  refine heldL_iff.2 ((heldL_iff.1 (h.held x x1)).imp id fun e => ?_)
  rw [end_hasS h.ls,e];simp [x2]
 rename_i c6
 simp only [if_neg c6]
 split at he
 ·rename_i c
  simp only [if_pos c]
  have hs:=shr_SOk h.st r.rev
  have hrv:(shrS s.st r.rev).rev=s.st.rev:=by unfold shrS;split <;> rfl
  exact ⟨hs,h.ls,by trivial,by rw [shr_now h.st];exact h.held,by rw [hrv];exact Int.le_refl _,repOk_num (by omega) n1 n2 (by omega) (by omega) (by omega) kvs_nil evs_nil,by trivial,by trivial,by trivial⟩
 ·simp only at he;omega
theorem applyE_code (s:Store) (ms:List Mut):0≤applyE s ms∧applyE s ms≤14:=by
 unfold applyE
 repeat' split
 all_goals omega
theorem sin_code (s:Store) (p:Bs) (rev most:Int):0≤(sinP s p rev most).2.2∧(sinP s p rev most).2.2≤14:=by
 unfold sinP cutP
 split
 ·repeat' split
  all_goals simp
 ·unfold sinE
  simp only
  repeat' split
  all_goals omega
theorem act_code (s:Server) (r:Req):0≤(actR s r).1∧(actR s r).1≤14:=by
 unfold actR
 split
 ·unfold atE;simp only;repeat' split
  all_goals omega
 split
 ·split
  ·unfold doE
   split
   ·exact applyE_code ..
   ·omega
  ·simp
 split
 ·exact sin_code ..
 split
 ·unfold grantOk;simp only;repeat' split
  all_goals omega
 split
 ·unfold lkeepE;simp only;repeat' split
  all_goals omega
 split
 ·unfold sweepE
  simp only
  split
  ·exact applyE_code ..
  ·unfold endE;split <;> omega
 split
 ·unfold shrE;simp only;repeat' split
  all_goals omega
 ·simp
theorem look_code (l:List Memo) (old:List Floor) (w q:Int):0≤(lookP l old w q).2.2∧(lookP l old w q).2.2≤14:=by
 unfold lookP
 split
 ·simp
 ·split
  ·simp
  ·split <;> simp
theorem look_rep {l:List Memo} {old:List Floor} {w q:Int} (h:(lookP l old w q).2.1=true):∃x∈l,(lookP l old w q).1=x.rep:=by
 unfold lookP at h ⊢
 cases hf:lookF l w q with
 | some x=>exact ⟨x,List.mem_of_find?_eq_some hf,rfl⟩
 | none =>
  exfalso
  rw [hf] at h
  simp only at h
  split at h
  ·simp at h
  ·split at h <;> simp at h
theorem kvOk_wf {x:KV} (h:kvOk x=true):x.wf:=by
 unfold kvOk txtOk numOk at h
 simp only [Bool.and_eq_true,decide_eq_true_eq] at h
 unfold KV.wf I64 S64
 omega
theorem repOk_wf {p:Reply} (h:repOk p=true):p.wf:=by
 unfold repOk kvsOk evsOk at h
 simp only [numOk,Bool.and_eq_true,decide_eq_true_eq,List.all_eq_true] at h
 obtain ⟨⟨⟨h0,h1,h2,h3,h4,h5⟩,h6,h7⟩,h8,h9⟩:=h
 unfold Reply.wf I64
 refine ⟨by omega,by omega,by omega,by omega,by omega,by omega,⟨fun y hy=>kvOk_wf (h7 y hy),by omega⟩,⟨fun y hy => ?_,by omega⟩⟩
 have:=h9 y hy
 unfold evOk at this
 rw [Bool.and_eq_true,numOk_iff] at this
 exact ⟨by unfold I64;omega,kvOk_wf this.1⟩
theorem errR_wf {r:Req} (w:r.wf) {e:Int} (he:0≤e∧e≤14):(errR r e).wf:=by
 have h1:=w.2.1
 have h2:=w.2.2.1
 unfold Reply.wf errR
 simp [h1,h2,I64]
 unfold I64 at h1 h2
 omega
structure Big (s:Server) (n:Nat):Prop where
 v:VOk s
 mw:s.ms.wf
 ml:s.ms.l.l.length≤n
 mo:s.ms.old.l.length≤n
theorem Big.wf {s:Server} {n:Nat} (h:Big s n):s.wf:=⟨h.v.st.wf,may_wf h.v.ls,h.mw,by have:=h.v.ck;unfold I64;omega⟩
theorem Big.doOk {s:Server} {n:Nat} (h:Big s n) (hn:n≤1000) {r:Req} (w:r.wf):DoOk s r:=⟨h.v.srv,h.mw,by have:=h.ml;have:=h.mo;omega,w⟩
theorem Big.mono {s:Server} {n m:Nat} (h:Big s n) (hn:n≤m):Big s m:=⟨h.v,h.mw,by have:=h.ml;omega,by have:=h.mo;omega⟩
theorem keep_sub {m:Memos} {w q:Int} {p:Reply}:∀x∈(keepM m w q p).l.l,x∈m.l.l∨x=⟨w,q,p⟩:=by
 intro x hx
 unfold keepM at hx
 split at hx
 ·exact .inl hx
 ·split at hx
  ·simp only [Sl.l_of,keepL1] at hx
   rcases List.mem_append.1 hx with hx | hx
   ·exact .inl hx
   ·exact .inr (by simpa using hx)
  ·simp only [Sl.l_of,delP] at hx
   have hx:=List.mem_of_mem_eraseIdx hx
   unfold keepL1 at hx
   rcases List.mem_append.1 hx with hx | hx
   ·exact .inl hx
   ·exact .inr (by simpa using hx)
structure Done (s:Server) (r:Req) (n:Nat) (t:Server) (p:Reply):Prop where
 big:Big t (n+1)
 rev:s.st.rev≤t.st.rev
 ck:t.clock=s.clock
 err:p.code ≠ 0→t=s∧p=errR r p.code
 rep:reqOk r=true→repOk p=true
 wf:p.wf
theorem do_done {s:Server} {n:Nat} (h:Big s n) (hn:n≤1000) {r:Req} (w:r.wf):Done s r n (doP s r).1 (doP s r).2:=by
 have hb:=h.mono (Nat.le_succ n)
 have refuse:∀e,0≤e∧e≤14→(reqOk r=true→repOk (errR r e)=true)→Done s r n s (errR r e):=fun e he hr=>⟨hb,Int.le_refl _,rfl,fun _=>⟨rfl,rfl⟩,hr,errR_wf w he⟩
 unfold doP
 by_cases hr:reqOk r=true
 case neg=>rw [if_neg hr];exact refuse 1 (by omega) (fun hc=>absurd hc hr)
 rw [if_pos hr]
 by_cases h1:r.once=true∧(lookP s.ms.l.l s.ms.old.l r.who r.seq).2.1=true
 ·rw [if_pos h1]
  obtain ⟨x,hx,he⟩:=look_rep h1.2
  have hi:=h.v.rep x hx
  unfold repIn at hi
  simp only [Bool.and_eq_true,decide_eq_true_eq] at hi
  simp only
  rw [he]
  exact ⟨hb,Int.le_refl _,rfl,fun hc=>absurd hi.2.1 hc,fun _=>hi.1,repOk_wf hi.1⟩
 rw [if_neg h1]
 by_cases h2:r.once=true∧(lookP s.ms.l.l s.ms.old.l r.who r.seq).2.2 ≠ 0
 ·rw [if_pos h2]
  have hc:=look_code s.ms.l.l s.ms.old.l r.who r.seq
  exact refuse _ hc (fun hr=>errR_ok hr hc)
 rw [if_neg h2]
 by_cases h3:(actR s r).1 ≠ 0
 ·rw [if_pos h3]
  exact refuse _ (act_code s r) (fun hr=>errR_ok hr (act_code s r))
 rw [if_neg h3]
 have h3:(actR s r).1=0:=by omega
 obtain ⟨a1,a2,a3,a4,a5,a6,a7,a8,a9⟩:=act_ok h.v hr h3
 have hms:=actR_ms s r
 by_cases h4:r.once=true
 ·rw [if_pos h4]
  simp only
  rw [hms]
  have k1:(lookP s.ms.l.l s.ms.old.l r.who r.seq).2.1=false:=by
   cases hq:(lookP s.ms.l.l s.ms.old.l r.who r.seq).2.1
   ·rfl
   ·exact absurd ⟨h4,hq⟩ h1
  have k2:(lookP s.ms.l.l s.ms.old.l r.who r.seq).2.2=0:=by
   by_cases hq:(lookP s.ms.l.l s.ms.old.l r.who r.seq).2.2=0
   ·exact hq
   ·exact absurd ⟨h4,hq⟩ h2
  have hl:=keepM_len s.ms r.who r.seq (actR s r).2.2
  have hml:=h.ml
  have hmo:=h.mo
  refine ⟨⟨⟨a1,a2,keep_MayOk _ k1 k2 h.v.ms,by rw [a3];exact h.v.ck,fun x hx => ?_,a4⟩,keepM_wf h.mw (by omega) w.2.1 w.2.2.1 (repOk_wf a6),by simp only;omega,by simp only;omega⟩,a5,a3,fun hc=>absurd a7 hc,fun _=>a6,repOk_wf a6⟩
  rcases keep_sub x hx with hx | rfl
  ·exact h.v.rep x hx
  ·unfold repIn
   simp [a6,a7,a8,a9]
 ·rw [if_neg h4]
  simp only
  refine ⟨⟨⟨a1,a2,by rw [hms];exact h.v.ms,by rw [a3];exact h.v.ck,by rw [hms];exact h.v.rep,a4⟩,by rw [hms];exact h.mw,by rw [hms];have:=h.ml;omega,by rw [hms];have:=h.mo;omega⟩,a5,a3,fun hc=>absurd a7 hc,fun _=>a6,repOk_wf a6⟩
theorem tick_big {s:Server} {n:Nat} (h:Big s n) (by_:Int):Big (tickS s by_) n∧s.clock≤(tickS s by_).clock:=by
 unfold tickS
 split
 case isFalse=>exact ⟨h,Int.le_refl _⟩
 rename_i hok
 obtain ⟨c1,c2,c3⟩:=hok
 have hc:=h.v.ck
 unfold tock
 have hs:=Srv0.sweeps (dueS s.ls.l.l (s.clock+by_)) (s:=⟨s.st,s.ls,s.ms,s.clock+by_⟩) ⟨h.v.st,h.v.ls⟩
 obtain ⟨k1,k2⟩:=sweepsS_clock (dueS s.ls.l.l (s.clock+by_)) ⟨s.st,s.ls,s.ms,s.clock+by_⟩
 have hsw:=tick_swept h.v.srv h.v.held (s.clock+by_)
 obtain ⟨G,g1,g2,g3,g4,g5⟩:=sweeps_spec (dueS s.ls.l.l (s.clock+by_)) (s:=⟨s.st,s.ls,s.ms,s.clock+by_⟩) ⟨h.v.st,h.v.ls⟩ (dueS_nodup h.v.ls _) (dueS_mem h.v.ls _)
 generalize sweepsS ⟨s.st,s.ls,s.ms,s.clock+by_⟩ (dueS s.ls.l.l (s.clock+by_))=t at *
 simp only at k1 k2 g3 g4
 refine ⟨⟨⟨hs.st,hs.ls,by rw [k2];exact h.v.ms,by rw [k1];omega,by rw [k2];exact h.v.rep,fun x hx => ?_⟩,by rw [k2];exact h.mw,by rw [k2];exact h.ml,by rw [k2];exact h.mo⟩,by rw [k1];omega⟩
 have hx2:=hx
 rw [g3] at hx2
 exact heldL_iff.2 ((hsw.keys x (List.mem_filter.1 hx2).1).2 hx)
end Go.Proofs.YtndfdnlbljhlgaaGreat
end
section
namespace Go.Proofs.YtndfdnlbljhlgaaGreat
open Go Go.AM Go.Proofs
set_option maxRecDepth 20000
set_option maxHeartbeats 4000000
set_option linter.unusedSimpArgs false
set_option linter.unusedVariables false
def cmpMade (k:Bs) (rev:Int):Cmp:=⟨k,1,1,rev,[]⟩
def txnPut (k v:Bs) (lease:Int):Txn:=⟨.of [cmpMade k 0],.of [⟨false,k,v,lease⟩],.nil⟩
theorem Absent2_ev (k:Bs) (H:List Blk):EvF tab 49 [T k] H=some ⟨A (cmpMade k 0).c,[],[]⟩:=by
 refine EvF_walk t49 (by simp) ?_
 simp -implicitDefEqProofs [A,cmpMade,Cmp.c]
theorem Put2_ev (k v:Bs) (n:Int) (H:List Blk):EvF tab 19 [T k,T v,I n] H=some ⟨A (txnPut k v n).c,[],[]⟩:=by
 have h1:=fun H=>Absent2_ev k H
 refine EvF_walk t19 (by simp) ?_
 simp only [A,cmpMade,Cmp.c,List.map_cons,List.map_nil] at h1
 simp -implicitDefEqProofs [A,cmpMade,Cmp.c,Mut.c,txnPut,Txn.c,h1,chunk]
end Go.Proofs.YtndfdnlbljhlgaaGreat
end
section
namespace Go.Proofs.YtndfdnlbljhlgaaGreat
open Go Go.AM Go.Proofs
set_option maxRecDepth 20000
set_option maxHeartbeats 4000000
set_option linter.unusedSimpArgs false
set_option linter.unusedVariables false
def sortQ (l:List Int):List Int:=l.foldl (fun s n=>insL n s) []
theorem sortL_c (l:List Int):sortL l=sortQ l:=by
 have:=insL_fold l []
 rw [sortL_nil,List.nil_append] at this
 exact this.symm
def lookC (l:List Memo) (old:List Floor) (w s:Int):Reply×Bool×Int :=
 match lookF l w s with
 | some x=>(x.rep,true,0)
 | none=>if s≤floorP old w then (rep0,false,7) else if 8≤(sortQ (whoL l old)).length∧w∉sortQ (whoL l old) then (rep0,false,4) else (rep0,false,0)
theorem lookP_c (l:List Memo) (old:List Floor) (w s:Int):lookP l old w s=lookC l old w s:=by
 unfold lookP lookC whosP
 rw [sortL_c]
 cases lookF l w s <;> rfl
def keepC (m:Memos) (w q:Int) (r:Reply):Memos :=
 if (lookC m.l.l m.old.l w q).2.1=true∨(lookC m.l.l m.old.l w q).2.2 ≠ 0 then m else
 if (sortQ (seqL (keepL1 m.l.l w q r) w)).length≤4 then ⟨.of (keepL1 m.l.l w q r),m.old⟩ else
  ⟨.of (delP (keepL1 m.l.l w q r) w (headI (sortQ (seqL (keepL1 m.l.l w q r) w)))),.of (raiseP m.old.l w (headI (sortQ (seqL (keepL1 m.l.l w q r) w))))⟩
theorem keepM_c (m:Memos) (w q:Int) (r:Reply):keepM m w q r=keepC m w q r:=by
 unfold keepM keepC seqsP
 rw [lookP_c,sortL_c]
def mayC (l:List Memo) (old:List Floor):Bool:=match goFl old [] with | some F=>goMe F l [] []&&decide ((sortQ (whoL l old)).length≤8) | none=>false
theorem mayMe_c (l:List Memo) (old:List Floor):mayMe l old=mayC l old:=by
 unfold mayMe mayC whosP
 rw [sortL_c]
 cases goFl old [] <;> rfl
def doC (s:Server) (r:Req):Server×Reply :=
 if reqOk r=true then
  if r.once=true∧(lookC s.ms.l.l s.ms.old.l r.who r.seq).2.1=true then (s,(lookC s.ms.l.l s.ms.old.l r.who r.seq).1)
  else if r.once=true∧(lookC s.ms.l.l s.ms.old.l r.who r.seq).2.2 ≠ 0 then (s,errR r (lookC s.ms.l.l s.ms.old.l r.who r.seq).2.2)
  else if (actR s r).1 ≠ 0 then (s,errR r (actR s r).1)
  else if r.once=true then (⟨(actR s r).2.1.st,(actR s r).2.1.ls,keepC (actR s r).2.1.ms r.who r.seq (actR s r).2.2,(actR s r).2.1.clock⟩,(actR s r).2.2)
  else ((actR s r).2.1,(actR s r).2.2)
 else (s,errR r 1)
theorem doP_c (s:Server) (r:Req):doP s r=doC s r:=by
 unfold doP doC
 simp only [lookP_c,keepM_c]
theorem VNew_ev (H:List Blk):EvF tab 48 [] H=some ⟨A (Store.c ⟨0,0,.nil,.nil⟩),[],[]⟩:=by
 refine EvF_walk t48 (by simp) ?_
 simp -implicitDefEqProofs [A,Store.c]
def v0:Server:=⟨⟨0,0,.nil,.nil⟩,⟨0,.nil⟩,⟨.nil,.nil⟩,0⟩
theorem SNew_ev (H:List Blk):EvF tab 18 [] H=some ⟨A v0.c,[],[]⟩:=by
 have m1:=VNew_ev
 refine EvF_walk t18 (by simp) ?_
 simp only [A,Store.c,Server.c,v0,KVs.g,Evs.g,LeaseL.g,MemoL.g,Floors.g,Sl.g_nil,List.map_cons,List.map_nil] at m1 ⊢
 simp -implicitDefEqProofs [m1]
def rq (kind who seq:Int) (once:Bool) (key:Bs) (lease ttl:Int) (t:Txn):Req:=⟨kind,who,seq,once,key,[],lease,0,ttl,0,t.iff,t.thn,t.els⟩
def t0:Txn:=⟨.nil,.nil,.nil⟩
def pa:Reply:=⟨0,3,1,0,1,10,false,.nil,.nil⟩
def pb:Reply:=⟨0,3,2,1,0,0,true,.nil,.nil⟩
def ka:KV:=⟨[97],[118],1,1,1,1⟩
def v1:Server:=⟨⟨0,0,.nil,.nil⟩,⟨1,.of [⟨1,10,10⟩]⟩,⟨.of [⟨3,1,pa⟩],.nil⟩,0⟩
def v2:Server:=⟨⟨1,0,.nil,.of [⟨1,false,ka⟩]⟩,⟨1,.of [⟨1,10,10⟩]⟩,⟨.of [⟨3,1,pa⟩,⟨3,2,pb⟩],.nil⟩,0⟩
def v3:Server:=⟨⟨1,0,.nil,.of [⟨1,false,ka⟩]⟩,⟨1,.of [⟨1,10,10⟩]⟩,⟨.of [⟨3,1,pa⟩,⟨3,2,pb⟩],.nil⟩,9⟩
def v4:Server:=⟨⟨2,0,.nil,.of [⟨1,false,ka⟩,⟨2,true,ka⟩]⟩,⟨1,.nil⟩,⟨.of [⟨3,1,pa⟩,⟨3,2,pb⟩],.nil⟩,10⟩
def v5:Server:=⟨⟨0,0,.nil,.nil⟩,⟨0,.nil⟩,⟨.nil,.nil⟩,-1⟩
def ra:Req:=rq 4 3 1 true [] 0 10 t0
def rb:Req:=rq 2 3 2 true [] 0 0 (txnPut [97] [118] 1)
def rc2:Req:=rq 2 3 2 true [] 0 0 t0
def rd:Req:=rq 2 3 3 false [] 0 0 (txnPut [98] [118] 2)
def re:Req:=rq 1 0 9 false [97] 0 0 t0
def rf:Req:=rq 1 0 0 false [97] 0 0 t0
def rg2:Req:=rq 5 0 0 false [] 1 0 t0
def rh:Req:=rq 0 0 0 false [] 0 0 t0
theorem rq_wf {kind who seq:Int} {once:Bool} {key:Bs} {lease ttl:Int} {t:Txn} (h:(I64 kind∧I64 who∧I64 seq∧I64 lease∧I64 ttl)∧key.length≤9223372036854775807∧t.wf):(rq kind who seq once key lease ttl t).wf:=by
 obtain ⟨⟨h1,h2,h3,h4,h5⟩,h6,h7,h8,h9⟩:=h
 exact ⟨h1,h2,h3,h6,by simp [S64,rq],h4,by simp [I64,rq],h5,by simp [I64,rq],h7,h8,h9⟩
theorem ok10 {s:Server} {r:Req} (h1:storeOk s.st=true) (h2:mayS s.ls=true) (h3:s.ms.wf) (h4:s.ms.l.l.length+s.ms.old.l.length≤4000) (h5:r.wf):DoOk s r:=⟨⟨storeOk_iff.1 h1,h2⟩,h3,h4,h5⟩
theorem ms10:v0.ms.wf∧v1.ms.wf∧v2.ms.wf:=by
 simp [Memos.wf,v0,v1,v2,Memo.wf,Reply.wf,pa,pb,I64]
theorem live10 (H:List Blk):EvF tab 12 [] H=some ⟨.g (.bool true),[],[]⟩:=by
 obtain ⟨q0,q1,q2⟩:=ms10
 have m0:=SNew_ev
 have p1:=fun H=>Put2_ev [97] [118] 1 H
 have p2:=fun H=>Put2_ev [98] [118] 2 H
 have m1:=fun H=>SDo_ev (ok10 (s:=v0) (r:=ra) (by kernel_rfl) (by kernel_rfl) q0 (by simp [v0]) (rq_wf (by simp [I64,t0,Txn.wf]))) H
 have m2:=fun H=>SDo_ev (ok10 (s:=v1) (r:=rb) (by kernel_rfl) (by kernel_rfl) q1 (by simp [v1]) (rq_wf (by simp [I64,txnPut,cmpMade,Txn.wf,Cmp.wf,Mut.wf,S64]))) H
 have m3:=fun H=>SDo_ev (ok10 (s:=v2) (r:=rc2) (by kernel_rfl) (by kernel_rfl) q2 (by simp [v2]) (rq_wf (by simp [I64,t0,Txn.wf]))) H
 have m4:=fun H=>SDo_ev (ok10 (s:=v2) (r:=rd) (by kernel_rfl) (by kernel_rfl) q2 (by simp [v2]) (rq_wf (by simp [I64,txnPut,cmpMade,Txn.wf,Cmp.wf,Mut.wf,S64]))) H
 have m5:=fun H=>SDo_ev (ok10 (s:=v2) (r:=re) (by kernel_rfl) (by kernel_rfl) q2 (by simp [v2]) (rq_wf (by simp [I64,t0,Txn.wf]))) H
 have m6:=fun H=>Tick_ev v2 9 ⟨storeOk_iff.1 (by kernel_rfl),by kernel_rfl⟩ (by simp [v2]) (by simp [I64]) H
 have m7:=fun H=>Tick_ev v3 1 ⟨storeOk_iff.1 (by kernel_rfl),by kernel_rfl⟩ (by simp [v3]) (by simp [I64]) H
 have m8:=fun H=>SDo_ev (ok10 (s:=v4) (r:=rf) (by kernel_rfl) (by kernel_rfl) q2 (by simp [v4]) (rq_wf (by simp [I64,t0,Txn.wf]))) H
 have m9:=fun H=>SDo_ev (ok10 (s:=v4) (r:=rg2) (by kernel_rfl) (by kernel_rfl) q2 (by simp [v4]) (rq_wf (by simp [I64,t0,Txn.wf]))) H
 have m10:=fun H=>SDo_ev (ok10 (s:=v4) (r:=rh) (by kernel_rfl) (by kernel_rfl) q2 (by simp [v4]) (rq_wf (by simp [I64,t0,Txn.wf]))) H
 have m11:=fun H=>SameV_ev v2 v2 (.refl _) (by simp [smallS,v2]) (by simp [v2]) q2 H
 have m12:=fun H=>SMay_ev v4 ⟨by simp [Store.wf,v4,Ev.wf,KV.wf,ka,I64,S64],by simp [Leases.wf,v4,I64],q2,by simp [I64,v4]⟩ (by simp [v4]) H
 have m13:=fun H=>SMay_ev v5 ⟨by simp [Store.wf,v5,I64],by simp [Leases.wf,v5,I64],q0,by simp [I64,v5]⟩ (by simp [v5]) H
 have e12:mayV v4=true:=by unfold mayV;rw [mayMe_c];kernel_rfl
 have e13:mayV v5=false:=by unfold mayV;rw [mayMe_c];kernel_rfl
 rw [e12] at m12
 rw [e13] at m13
 simp only [doP_c,show doC v0 ra=(v1,pa) by kernel_rfl] at m1
 simp only [doP_c,show doC v1 rb=(v2,pb) by kernel_rfl] at m2
 simp only [doP_c,show doC v2 rc2=(v2,pb) by kernel_rfl] at m3
 simp only [doP_c,show doC v2 rd=(v2,errR rd 6) by kernel_rfl] at m4
 simp only [doP_c,show doC v2 re=(v2,⟨0,0,9,1,0,0,false,.of [ka],.nil⟩) by kernel_rfl] at m5
 simp only [show tickS v2 9=v3 by kernel_rfl] at m6
 simp only [show tickS v3 1=v4 by kernel_rfl] at m7
 simp only [doP_c,show doC v4 rf=(v4,⟨0,0,0,2,0,0,false,.nil,.nil⟩) by kernel_rfl] at m8
 simp only [doP_c,show doC v4 rg2=(v4,errR rg2 6) by kernel_rfl] at m9
 simp only [doP_c,show doC v4 rh=(v4,errR rh 1) by kernel_rfl] at m10
 simp only [A,Server.c,Reply.c,Req.c,v0,v1,v2,v3,v4,v5,pa,pb,ka,ra,rb,rc2,rd,re,rf,rg2,rh,rq,t0,errR,txnPut,cmpMade,Txn.c,Cmp.c,Mut.c,KV.c,Ev.c,Memo.c,Lease.c,KVs.g,Evs.g,LeaseL.g,MemoL.g,Floors.g,Cmps.g,Muts.g,Sl.g_of,Sl.g_nil,List.map_cons,List.map_nil] at p1 p2 m0 m1 m2 m3 m4 m5 m6 m7 m8 m9 m10 m11 m12 m13
 refine EvF_walk t12 (by simp) ?_
 simp -implicitDefEqProofs [p1,p2,m0,m1,m2,m3,m4,m5,m6,m7,m8,m9,m10,m11,m12,m13,pends]
end Go.Proofs.YtndfdnlbljhlgaaGreat
end
section
namespace Go.Proofs.YtndfdnlbljhlgaaGreat
open Go Go.AM Go.Proofs
set_option maxRecDepth 20000
set_option maxHeartbeats 2000000
set_option linter.unusedSimpArgs false
set_option linter.unusedVariables false
theorem few_big {s:Server} {r:Req} (w:s.wf) (h:few10 s r=true):Big s 40∧smallS s.st:=by
 unfold few10 at h
 simp only [Bool.and_eq_true] at h
 obtain ⟨h0,hm,_⟩:=h
 obtain ⟨h1,h2,h3,h4⟩:=fewV_size h0
 exact ⟨⟨mayV_iff.1 hm,w.2.2.1,by omega,by omega⟩,fewS_smallS h1⟩
theorem big_small {s:Server} {n:Nat} (h:Big s n):smallS s.st∧s.ls.l.l.length≤1000:=by
 have h1:=h.v.st.bl
 have h2:=h.v.st.ll
 have h3:=(mayS_iff.1 h.v.ls).2.1
 exact ⟨by unfold smallS;omega,by omega⟩
theorem ServerMay_law (x0:Server) (x1:Req) (x2:Int) (w0:x0.wf) (w1:x1.wf) (w2:I64 x2):EvF tab 7 [A x0.c,A x1.c,I x2] []=some ⟨.g (.bool true),[],[]⟩:=by
 have m0:=fun H=>few10_ev x0 x1 w0 w1 H
 refine EvF_walk t7 (by simp) ?_
 cases hf:few10 x0 x1
 ·rw [hf] at m0
  obtain ⟨⟨srev,slow,sbase,slog⟩,⟨lnext,ll⟩,⟨ml,mo⟩,clock⟩:=x0
  obtain ⟨rkind,rwho,rseq,ronce,rkey,rvalue,rlease,rrev,rttl,rtoken,riff,rthn,rels⟩:=x1
  simp only [A,Server.c,Req.c,List.map_cons,List.map_nil] at m0 ⊢
  simp -implicitDefEqProofs [m0,live10]
 rw [hf] at m0
 obtain ⟨hb,hss⟩:=few_big w0 hf
 have hd:=do_done hb (by omega) w1
 obtain ⟨hu,huc⟩:=tick_big hb x2
 have m1:=fun H=>SDo_ev (hb.doOk (by omega) w1) H
 have m2:=fun H=>Tick_ev x0 x2 hb.v.srv hb.v.ck w2 H
 have hbt:=hd.big
 have m3:=fun H=>SMay2_ev (doP x0 x1).1 hbt.wf (by have:=hbt.ml;have:=hbt.mo;omega) H
 have m4:=fun H=>SMay2_ev (tickS x0 x2) hu.wf (by have:=hu.ml;have:=hu.mo;omega) H
 have m5:=fun H=>SMay_ev (doP x0 x1).1 hbt.wf (by have:=hbt.ml;have:=hbt.mo;omega) H
 have m6:=fun H=>SMay_ev (tickS x0 x2) hu.wf (by have:=hu.ml;have:=hu.mo;omega) H
 rw [mayV_iff.2 hbt.v] at m3 m5
 rw [mayV_iff.2 hu.v] at m4 m6
 have m7:=fun H=>SameV_ev x0 x0 (.refl _) hss (by have:=(big_small hb).2;omega) w0.2.2.1 H
 have m8:=fun H=>MayAsk2_ev x1 (rl w1) H
 have m9:=fun H=>MayTell2_ev (doP x0 x1).2 (rp hd.wf) (H:=H) (v1 := .g (KVs.g (doP x0 x1).2.kvs)) (v2 := .g (Evs.g (doP x0 x1).2.events)) (Rp.of (doP x0 x1).2.kvs) (Rp.of (doP x0 x1).2.events)
 have m10:=fun H=>AlikeS_ev (doP x0 x1).2 hd.wf H
 have hrep:=hd.rep
 have herr:=hd.err
 have hrev:=hd.rev
 clear hd hbt hu hb hss hf
 generalize repOk (doP x0 x1).2=b1 at m9 hrep
 generalize reqOk x1=b2 at m8 hrep
 have hb12:b2=true→b1=true:=hrep
 clear hrep
 generalize (doP x0 x1).1=t at *
 generalize (doP x0 x1).2=p at *
 generalize tickS x0 x2=u at *
 by_cases hc:p.code=0
 ·clear herr m10 m7
  obtain ⟨⟨srev,slow,sbase,slog⟩,⟨lnext,ll⟩,⟨ml,mo⟩,clock⟩:=x0
  obtain ⟨⟨trev,tlow,tbase,tlog⟩,⟨tnext,tl⟩,⟨tml,tmo⟩,tclock⟩:=t
  obtain ⟨⟨urev,ulow,ubase,ulog⟩,⟨unext,ul⟩,⟨uml,umo⟩,uclock⟩:=u
  obtain ⟨rkind,rwho,rseq,ronce,rkey,rvalue,rlease,rrev,rttl,rtoken,riff,rthn,rels⟩:=x1
  obtain ⟨p1,p2,p3,p4,p5,p6,p7,p8,p9⟩:=p
  simp only at hc hrev huc
  subst hc
  simp only [A,rc,Server.c,Req.c,Reply.c,List.map_cons,List.map_nil] at m0 m1 m2 m3 m4 m5 m6 m8 m9 ⊢
  generalize KVs.g sbase=G1 at m0 m1 m2 ⊢
  generalize Evs.g slog=G2 at m0 m1 m2 ⊢
  generalize LeaseL.g ll=G3 at m0 m1 m2 ⊢
  generalize MemoL.g ml=G4 at m0 m1 m2 ⊢
  generalize Floors.g mo=G5 at m0 m1 m2 ⊢
  generalize Cmps.g riff=R1 at m0 m1 m8 ⊢
  generalize Muts.g rthn=R2 at m0 m1 m8 ⊢
  generalize Muts.g rels=R3 at m0 m1 m8 ⊢
  generalize KVs.g tbase=T1 at m1 m3 m5
  generalize Evs.g tlog=T2 at m1 m3 m5
  generalize LeaseL.g tl=T3 at m1 m3 m5
  generalize MemoL.g tml=T4 at m1 m3 m5
  generalize Floors.g tmo=T5 at m1 m3 m5
  generalize KVs.g ubase=U1 at m2 m4 m6
  generalize Evs.g ulog=U2 at m2 m4 m6
  generalize LeaseL.g ul=U3 at m2 m4 m6
  generalize MemoL.g uml=U4 at m2 m4 m6
  generalize Floors.g umo=U5 at m2 m4 m6
  generalize KVs.g p8=P1 at m1 m9
  generalize Evs.g p9=P2 at m1 m9
  cases b2
  ·simp -implicitDefEqProofs [m0,m1,m2,m3,m4,m5,m6,m8,m9,live10,show srev≤trev by omega,show clock≤uclock by omega]
  ·have:=hb12 rfl
   subst this
   simp -implicitDefEqProofs [m0,m1,m2,m3,m4,m5,m6,m8,m9,live10,show srev≤trev by omega,show clock≤uclock by omega]
 ·obtain ⟨e1,e2⟩:=herr hc
  subst e1
  obtain ⟨⟨srev,slow,sbase,slog⟩,⟨lnext,ll⟩,⟨ml,mo⟩,clock⟩:=t
  obtain ⟨⟨urev,ulow,ubase,ulog⟩,⟨unext,ul⟩,⟨uml,umo⟩,uclock⟩:=u
  obtain ⟨rkind,rwho,rseq,ronce,rkey,rvalue,rlease,rrev,rttl,rtoken,riff,rthn,rels⟩:=x1
  obtain ⟨p1,p2,p3,p4,p5,p6,p7,p8,p9⟩:=p
  simp only [errR,Reply.mk.injEq,true_and] at hc hrev huc e2
  obtain ⟨rfl,rfl,rfl,rfl,rfl,rfl,rfl,rfl⟩:=e2
  simp only [A,rc,Server.c,Req.c,Reply.c,KVs.g,Evs.g,Sl.g_nil,List.map_cons,List.map_nil] at m0 m1 m2 m3 m4 m5 m6 m7 m8 m9 m10 ⊢
  generalize Sl.g 6 KV.c sbase=G1 at m0 m1 m2 m3 m5 m7 ⊢
  generalize Sl.g 8 Ev.c slog=G2 at m0 m1 m2 m3 m5 m7 ⊢
  generalize LeaseL.g ll=G3 at m0 m1 m2 m3 m5 m7 ⊢
  generalize MemoL.g ml=G4 at m0 m1 m2 m3 m5 m7 ⊢
  generalize Floors.g mo=G5 at m0 m1 m2 m3 m5 m7 ⊢
  generalize Cmps.g riff=R1 at m0 m1 m8 ⊢
  generalize Muts.g rthn=R2 at m0 m1 m8 ⊢
  generalize Muts.g rels=R3 at m0 m1 m8 ⊢
  generalize Sl.g 6 KV.c ubase=U1 at m2 m4 m6
  generalize Sl.g 8 Ev.c ulog=U2 at m2 m4 m6
  generalize LeaseL.g ul=U3 at m2 m4 m6
  generalize MemoL.g uml=U4 at m2 m4 m6
  generalize Floors.g umo=U5 at m2 m4 m6
  cases b2
  ·simp -implicitDefEqProofs [m0,m1,m2,m3,m4,m5,m6,m7,m8,m9,m10,hc,live10,show clock≤uclock by omega]
  ·have:=hb12 rfl
   subst this
   simp -implicitDefEqProofs [m0,m1,m2,m3,m4,m5,m6,m7,m8,m9,m10,hc,live10,show clock≤uclock by omega]
end Go.Proofs.YtndfdnlbljhlgaaGreat
end
