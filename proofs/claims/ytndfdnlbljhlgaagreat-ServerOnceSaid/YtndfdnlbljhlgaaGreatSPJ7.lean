/- Part of the proof: what the functions answer, part 7 (GSweepP, PWatch2, GDoP, GOnceP, STxn4, GLive10, LServ3, LServ4). No conditions. -/
import Derived.Test.YtndfdnlbljhlgaaGreatSPJ6
import Derived.Test.YtndfdnlbljhlgaaGreatSPJ5
import Derived.KernelRfl
section
namespace Go.Proofs.YtndfdnlbljhlgaaGreat
open Go Go.AM Go.Proofs
set_option maxRecDepth 20000
set_option linter.unusedSimpArgs false
set_option linter.unusedVariables false
set_option linter.defProp false
theorem keepR_l (to:Int) (s:Sl Ev):(keepR to s).l=keepL to s.l:=by cases s <;> rfl
theorem shr_rev {s:Store} (h:SOk s):shrS s s.rev=⟨s.rev,s.rev,foldR s.base s.log.l s.rev,keepR s.rev s.log⟩:=by
 have h0:shrE s s.rev=0:=shrE_zero.2 ⟨by have:=h.low0;have:=h.lowr;omega,Int.le_refl _,h.lowr⟩
 unfold shrS
 rw [if_pos h0]
theorem sweepA_now {s:Store} (h:SOk s) (d:List Mut) (hd:d.length≤60):nowP (sweepA s d)=nowP s∧(sweepA s d).rev=s.rev∧(sweepA s d).log.l.length+d.length≤60:=by
 unfold sweepA
 split
 ·rw [shr_rev h]
  refine ⟨?_,rfl,?_⟩
  ·unfold nowP
   simp only [foldR_l,keepR_l]
   exact shr_fold h (Int.le_refl _)
  ·simp only [keepR_l,keepL_no (fun e he=>(h.all e he).2),List.length_nil]
   omega
 ·exact ⟨rfl,rfl,by omega⟩
theorem filter_get {l:List KV} (h:Srt l) (p:KV→Bool) (k:Bs):getK (l.filter p) k=(match getK l k with | some x=>if p x=true then some x else none | none=>none):=by
 induction l with
 | nil=>rfl
 | cons x l ih =>
  obtain ⟨h1,h2⟩:=Srt.cons.1 h
  have ih:=ih h2
  rw [List.filter_cons,show getK (x::l) k=if x.key=k then some x else getK l k from rfl]
  by_cases hk:x.key=k
  ·rw [if_pos hk]
   by_cases hp:p x=true
   ·rw [if_pos hp,show getK (x::l.filter p) k=if x.key=k then some x else getK (l.filter p) k from rfl,if_pos hk]
    simp only [hp,if_true]
   ·rw [if_neg hp]
    simp only [hp,if_false]
    refine getK_no fun z hz => ?_
    rw [←hk]
    exact (bl_ne (h1 z (List.mem_filter.1 hz).1)).symm
  ·rw [if_neg hk]
   by_cases hp:p x=true
   ·rw [if_pos hp,show getK (x::l.filter p) k=if x.key=k then some x else getK (l.filter p) k from rfl,if_neg hk,ih]
   ·rw [if_neg hp,ih]
theorem drops_mutK {l:List KV} (h:Srt l) (id:Int) (h0:id ≠ 0) (k:Bs):mutK (dropsS l id) k=(match getK l k with | some x=>if x.lease=id then some (dropM x) else none | none=>none):=by
 unfold dropsS
 rw [if_neg h0]
 induction l with
 | nil=>rfl
 | cons x l ih =>
  obtain ⟨h1,h2⟩:=Srt.cons.1 h
  have ih:=ih h2
  rw [List.filter_cons,show getK (x::l) k=if x.key=k then some x else getK l k from rfl]
  by_cases hk:x.key=k
  ·rw [if_pos hk]
   by_cases hp:x.lease=id
   ·rw [if_pos (by simp [dropP,hp]),List.map_cons,show mutK (dropM x::(l.filter (dropP id)).map dropM) k=if (dropM x).key=k then some (dropM x) else mutK ((l.filter (dropP id)).map dropM) k from rfl,show (dropM x).key=x.key from rfl,if_pos hk]
    simp only [hp,if_true]
   ·rw [if_neg (by simp [dropP,hp])]
    simp only [hp,if_false]
    refine mutK_none fun z hz => ?_
    obtain ⟨y,hy,rfl⟩:=List.mem_map.1 hz
    show y.key ≠ k
    rw [←hk]
    exact (bl_ne (h1 y (List.mem_filter.1 hy).1)).symm
  ·rw [if_neg hk]
   by_cases hp:x.lease=id
   ·rw [if_pos (by simp [dropP,hp]),List.map_cons,show mutK (dropM x::(l.filter (dropP id)).map dropM) k=if (dropM x).key=k then some (dropM x) else mutK ((l.filter (dropP id)).map dropM) k from rfl,show (dropM x).key=x.key from rfl,if_neg hk,ih]
   ·rw [if_neg (by simp [dropP,hp]),ih]
theorem srt_eq {l m:List KV} (hl:Srt l) (hm:Srt m) (h:∀k,getK l k=getK m k):l=m:=by
 have:=srt_ext (fun x=>x) (fun a b e=>by rw [e]) hl hm (fun k=>by rw [h k])
 simpa using this
theorem swept_now {s:Store} (h:SOk s) {id:Int} (h0:id ≠ 0) (he:applyE (sweepA s (dropsS (nowP s) id)) (dropsS (nowP s) id)=0) :
  nowP (applyS (sweepA s (dropsS (nowP s) id)) (dropsS (nowP s) id))=(nowP s).filter (fun x => !decide (x.lease=id))∧s.rev≤(applyS (sweepA s (dropsS (nowP s) id)) (dropsS (nowP s) id)).rev:=by
 have hd:=dropsS_len (nowP s) id
 have hn:=h.nowLen
 obtain ⟨a1,a2,a3⟩:=sweepA_now h (dropsS (nowP s) id) (by omega)
 have hso:=sweepA_SOk h (dropsS (nowP s) id)
 have hg:=h.nowGood.srt
 refine ⟨srt_eq (apply_SOk hso _).nowGood.srt (List.Pairwise.sublist List.filter_sublist hg) fun k => ?_,?_⟩
 ·rw [apply_now hso he k,a1,filter_get hg]
  unfold outK
  rw [drops_mutK hg id h0]
  cases getK (nowP s) k with
  | none=>rfl
  | some x =>
   simp only
   by_cases hp:x.lease=id
   ·simp [hp,dropM]
   ·simp [hp]
 ·have:=(apply_rev hso he).1
  rw [this]
  split <;> omega
theorem end_hasS {L:Leases} (h:mayS L=true) (id j:Int):hasS j (endS L id).l.l=(hasS j L.l.l && !decide (j=id)):=by
 by_cases hj:j=id
 ·subst hj;rw [end_has h];simp
 ·simp only [hj,decide_false,Bool.not_false,Bool.and_true]
  unfold endS
  rcases hp:placeN id 0 L.l.l with _ | i
  ·rfl
  ·simp only [slOf_l,endL']
   obtain ⟨hi,hii⟩:=place_some hp
   have e:L.l.l=L.l.l.take i++L.l.l[i]::L.l.l.drop (i+1):=by simp
   have key:(∃x∈L.l.l.take i++L.l.l.drop (i+1),x.id=j)↔∃x∈L.l.l,x.id=j:=by
    constructor
    ·rintro ⟨x,hx,hxj⟩
     rcases List.mem_append.1 hx with hx | hx
     ·exact ⟨x,List.mem_of_mem_take hx,hxj⟩
     ·exact ⟨x,List.mem_of_mem_drop hx,hxj⟩
    ·rintro ⟨x,hx,hxj⟩
     rw [e] at hx
     rcases List.mem_append.1 hx with hx | hx
     ·exact ⟨x,List.mem_append_left _ hx,hxj⟩
     ·rcases List.mem_cons.1 hx with rfl | hx
      ·exact absurd (hxj.symm.trans hii) hj
      ·exact ⟨x,List.mem_append_right _ hx,hxj⟩
   cases hb:hasS j L.l.l
   ·rw [Bool.eq_false_iff]
    intro hc
    have:=hasS_iff.2 (key.1 (hasS_iff.1 hc))
    rw [hb] at this;cases this
   ·exact hasS_iff.2 (key.2 (hasS_iff.1 hb))
structure Swept (s t:Server) (now:Int):Prop where
 due:∀x∈s.ls.l.l,x.till≤now→hasS x.id t.ls.l.l=true→t.st.rev=1099511627774
 stay:∀x∈s.ls.l.l,¬x.till≤now→hasS x.id t.ls.l.l=true
 keys:∀x∈nowP s.st,(x.lease=0∨hasS x.lease t.ls.l.l=true)↔x∈nowP t.st
 len:(nowP t.st).length≤(nowP s.st).length
end Go.Proofs.YtndfdnlbljhlgaaGreat
end
section
namespace Go.Proofs.YtndfdnlbljhlgaaGreat
open Go Go.AM Go.Proofs
set_option maxRecDepth 20000
set_option linter.unusedSimpArgs false
set_option linter.unusedVariables false
theorem sinP_ok {s:Store} (h:SOk s) {p:Bs} {rev most:Int} (he:(sinP s p rev most).2.2=0):sinE s rev most=0∧CutOk s p rev most (sinP s p rev most)∧sinE s (sinP s p rev most).2.1 most=0:=by
 by_cases h0:sinE s rev most=0
 ·have e:sinP s p rev most=cutP (ofP s.log.l p rev) most s.rev:=by unfold sinP;rw [if_pos h0]
  rw [e] at he ⊢
  obtain ⟨⟨a1,a2⟩,⟨a3,a4⟩,a5⟩:=sinE_zero.1 h0
  have hc:=cut_ok h a1 a4 he
  refine ⟨h0,hc,sinE_zero.2 ⟨⟨a1,a2⟩,?_,?_⟩⟩
  ·have:=hc.lo;have:=hc.hi;omega
  ·have:=hc.lo;omega
 ·unfold sinP at he;rw [if_neg h0] at he;exact absurd he h0
end Go.Proofs.YtndfdnlbljhlgaaGreat
end
section
namespace Go.Proofs.YtndfdnlbljhlgaaGreat
open Go Go.AM Go.Proofs
set_option maxRecDepth 20000
set_option linter.unusedSimpArgs false
set_option linter.unusedVariables false
set_option linter.defProp false
theorem oneOk_wf {x:KV} (h:oneOk x=true):x.wf:=by
 obtain ⟨p1,p2,⟨p3,p4⟩,⟨p5,p6⟩,p7,p8,p9,p10⟩:=oneOk_iff.1 h
 have:=keyOk_len p1
 unfold KV.wf I64 S64
 refine ⟨by omega,by omega,by omega,by omega,by omega,by omega⟩
theorem right_one {l:List KV} {b:Int} {e:Ev} (hg:GoodK l b) (hr:rightP l e=true):oneOk e.kv=true:=by
 unfold rightP at hr
 split at hr
 ·rw [Bool.and_eq_true,kvEq_iff,findB_get,findX_get] at hr
  cases hq:getK l e.kv.key with
  | none=>rw [hq] at hr;cases hr.1
  | some x =>
   rw [hq] at hr
   have:x=e.kv:=hr.2
   rw [←this]
   exact (hg.one x (getK_some hq).1).1
 ·rw [Bool.and_eq_true] at hr;exact hr.2
theorem logOk_one {srev:Int}:∀{log:List Ev} {l:List KV} {last b:Int},GoodK l b→b≤last→logOk srev l last log=true→∀e∈log,oneOk e.kv=true
 | [],_,_,_,_,_,_,e,he=>by cases he
 | e::log,l,last,b,hg,hb,h,x,hx=>by
  obtain ⟨h1,h2,h3,h4,h5⟩:=logOk_cons.1 h
  rcases List.mem_cons.1 hx with rfl | hx
  ·exact right_one hg h3
  ·exact logOk_one (right_good hg (by omega) h3) (Int.le_refl _) h5 x hx
theorem SOk.wf {s:Store} (h:SOk s):s.wf:=by
 have h1:=h.low0
 have h2:=h.lowr
 have h3:=h.revM
 have h4:=h.bl
 have h5:=h.ll
 unfold Store.wf
 refine ⟨by unfold I64;omega,by unfold I64;omega,⟨fun x hx=>oneOk_wf (h.good.one x hx).1,by omega⟩,⟨fun e he => ?_,by omega⟩⟩
 have:=h.all e he
 exact ⟨by unfold I64;omega,oneOk_wf (logOk_one h.good (by omega) h.log e he)⟩
theorem logOk_left {srev:Int}:∀{a b:List Ev} {l:List KV} {last:Int},logOk srev l last (a++b)=true→logOk srev l last a=true
 | [],_,_,_,_=>rfl
 | e::a,b,l,last,h=>by
  rw [List.cons_append] at h
  obtain ⟨h1,h2,h3,h4,h5⟩:=logOk_cons.1 h
  exact logOk_cons.2 ⟨h1,h2,h3,h4,logOk_left h5⟩
theorem fold_at {s:Store} (h:SOk s) (rev:Int) (h1:s.low≤rev):(∀x∈foldP s.base.l s.log.l rev,oneOk x=true)∧(foldP s.base.l s.log.l rev).length≤30:=by
 obtain ⟨a,b,e,ha,hb⟩:=logOk_split rev h.log
 have hl:=h.log
 rw [e] at hl
 have hl:=logOk_left hl
 have hf:foldP s.base.l s.log.l rev=a.foldl actP s.base.l:=by rw [e,foldP_app,foldP_le ha,foldP_gt hb]
 rw [hf]
 exact ⟨fun x hx=>((logOk_good h.good (by omega) hl rev h1 ha).one x hx).1,logOk_len h.bl hl⟩
theorem at_one {s:Store} (h:SOk s) (rev:Int):(∀x∈(atR s rev).l,oneOk x=true)∧(atR s rev).l.length≤30:=by
 unfold atR
 split
 ·rename_i he
  rw [foldR_l]
  refine fold_at h _ ?_
  unfold atE at he
  unfold atV
  by_cases h0:rev=0
  ·rw [if_pos h0];exact h.lowr
  ·rw [if_neg h0] at he ⊢
   split at he
   ·omega
   ·split at he
    ·omega
    ·omega
 ·exact ⟨fun x hx=>by simp at hx,by simp⟩
theorem kvOk_one {x:KV} (h:oneOk x=true):kvOk x=true:=by
 obtain ⟨p1,p2,⟨p3,p4⟩,⟨p5,p6⟩,p7,p8,p9,p10⟩:=oneOk_iff.1 h
 have:=keyOk_len p1
 unfold kvOk txtOk numOk
 simp only [Bool.and_eq_true,decide_eq_true_eq]
 omega
theorem numOk_iff {n:Int}:numOk n=true↔0≤n∧n≤1099511627775:=by simp [numOk]
theorem kvsOk_slOf {l:List KV} (h1:∀x∈l,oneOk x=true) (h2:l.length≤30):kvsOk (slOf l)=true:=by
 unfold kvsOk
 rw [slOf_l,Bool.and_eq_true,decide_eq_true_eq,List.all_eq_true]
 exact ⟨h2,fun x hx=>kvOk_one (h1 x hx)⟩
theorem fromP_sub {l:List KV} {p:Bs}:(∀x∈fromP l p,x∈l)∧(fromP l p).length≤l.length:=⟨fun x hx=>(List.mem_filter.1 hx).1,List.length_filter_le ..⟩
theorem reqOk_num {r:Req} (h:reqOk r=true):(0≤r.who∧r.who≤1099511627775)∧(0≤r.seq∧r.seq≤1099511627775)∧(0≤r.lease∧r.lease≤1099511627775)∧(0≤r.ttl∧r.ttl≤1099511627775):=by
 unfold reqOk numOk at h
 simp only [Bool.and_eq_true,decide_eq_true_eq] at h
 omega
theorem repOk_num {code who seq rev lease ttl:Int} {yes:Bool} (h0:0≤code∧code≤14) (h1:0≤who∧who≤1099511627775) (h2:0≤seq∧seq≤1099511627775) (h3:0≤rev∧rev≤1099511627775) (h4:0≤lease∧lease≤1099511627775) (h5:0≤ttl∧ttl≤1099511627775) {kvs:KVs} {evs:Evs} (h6:kvsOk kvs=true) (h7:evsOk evs=true) :
  repOk ⟨code,who,seq,rev,lease,ttl,yes,kvs,evs⟩=true:=by
 unfold repOk
 simp only [numOk,Bool.and_eq_true,decide_eq_true_eq]
 exact ⟨⟨⟨h0,h1,h2,h3,h4,h5⟩,h6⟩,h7⟩
theorem kvs_nil:kvsOk .nil=true:=by rfl
theorem evs_nil:evsOk .nil=true:=by rfl
theorem errR_ok {r:Req} (h:reqOk r=true) {e:Int} (he:0≤e∧e≤14):repOk (errR r e)=true:=by
 obtain ⟨h1,h2,h3,h4⟩:=reqOk_num h
 exact repOk_num he h1 h2 (by omega) (by omega) (by omega) kvs_nil evs_nil
theorem sin_rep {s:Store} (h:SOk s) (p:Bs) (rev:Int) (he:(sinP s p rev 30).2.2=0):(0≤(sinP s p rev 30).2.1∧(sinP s p rev 30).2.1≤s.rev+1)∧evsOk (slOf (sinP s p rev 30).1)=true:=by
 obtain ⟨h1,h2,h3⟩:=sinP_ok h he
 have h4:=sinE_zero.1 h1
 have h5:=h2.lo
 have h6:=h2.hi
 have h7:=h.low0
 have h8:=h.lowr
 have h9:=h.revM
 refine ⟨by omega,?_⟩
 unfold evsOk
 rw [slOf_l,Bool.and_eq_true,decide_eq_true_eq,List.all_eq_true]
 refine ⟨by have:=h2.len;omega,fun x hx => ?_⟩
 have hx2:x∈s.log.l:=by
  have:x∈ofP s.log.l p rev:=by rw [h2.split];exact List.mem_append_left _ hx
  exact (ofP_mem.1 this).1
 have h10:=h.all x hx2
 unfold evOk
 rw [Bool.and_eq_true,numOk_iff]
 exact ⟨kvOk_one (logOk_one h.good (by omega) h.log x hx2),by omega⟩
theorem heldL_iff {L:List Lease} {x:KV}:heldL L x=true↔x.lease=0∨hasS x.lease L=true:=by
 unfold heldL;simp
theorem grant_has {L:Leases} (t now j:Int) (h:hasS j L.l.l=true):hasS j (grantS L t now).l.l=true:=by
 unfold grantS
 split
 ·obtain ⟨x,hx,hj⟩:=hasS_iff.1 h
  exact hasS_iff.2 ⟨x,by simp [hx],hj⟩
 ·exact h
theorem keep_has {L:Leases} (id now j:Int) (h:hasS j L.l.l=true):hasS j (keepS L id now).l.l=true:=by
 unfold keepS
 split
 ·rcases hp:placeN id 0 L.l.l with _ | i
  ·exact h
  ·simp only [Sl.l_of]
   obtain ⟨hi,hii⟩:=place_some hp
   obtain ⟨x,hx,hj⟩:=hasS_iff.1 h
   obtain ⟨k,hk,rfl⟩:=List.mem_iff_getElem.1 hx
   refine hasS_iff.2 ⟨(L.l.l.set i (keptL (L.l.l[i]?.getD default) now))[k]'(by simpa using hk),List.getElem_mem _,?_⟩
   rw [List.getElem_set]
   split
   ·rename_i e
    subst e
    rw [List.getElem?_eq_getElem hk]
    exact hj
   ·exact hj
 ·exact h
theorem shr_now {s:Store} (h:SOk s) (to:Int):nowP (shrS s to)=nowP s:=by
 unfold shrS
 split
 ·rename_i he
  obtain ⟨h1,h2,h3⟩:=shrE_zero.1 he
  unfold nowP
  simp only [foldR_l,keepR_l]
  exact shr_fold h h2
 ·rfl
theorem doE_zero {s:Store} {t:Txn} (h:doE s t=0):doOk t=true∧applyE s (doL s t).l=0:=by
 unfold doE at h
 split at h
 ·exact ⟨by assumption,h⟩
 ·omega
theorem doS_SOk {s:Store} (h:SOk s) (t:Txn):SOk (doS s t):=by
 unfold doS
 split
 ·exact apply_SOk h _
 ·exact h
theorem do_held {s:Server} (h:VOk s) {r:Req} (hh:allP (heldM s.ls.l.l) (r.thn.l++r.els.l)=true):∀x∈nowP (doS s.st (txnOf r)),heldL s.ls.l.l x=true:=by
 intro x hx
 unfold doS at hx
 split at hx
 case isFalse=>exact h.held x hx
 by_cases he:applyE s.st (doL s.st (txnOf r)).l=0
 ·have hsrt:=(apply_SOk h.st (doL s.st (txnOf r)).l).nowGood.srt
  have hg:=mem_getK hsrt hx
  rw [apply_now h.st he] at hg
  unfold outK at hg
  have hm:∀m,mutK (doL s.st (txnOf r)).l x.key=some m→m∈(doL s.st (txnOf r)).l:=by
   generalize (doL s.st (txnOf r)).l=ms
   intro m
   induction ms with
   | nil=>intro hc;cases hc
   | cons y ys ih =>
    intro hc
    unfold mutK at hc
    split at hc
    ·cases hc;simp
    ·exact List.mem_cons_of_mem _ (ih hc)
  cases hq:mutK (doL s.st (txnOf r)).l x.key with
  | none =>
   rw [hq] at hg
   exact h.held x (getK_some hg).1
  | some m =>
   rw [hq] at hg
   simp only at hg
   split at hg
   ·cases hg
   ·rename_i hgn
    have hmm:=hm m hq
    have hml:m∈r.thn.l++r.els.l:=by
     unfold doL at hmm
     split at hmm
     ·exact List.mem_append_left _ hmm
     ·exact List.mem_append_right _ hmm
    have:=allP_iff.1 hh m hml
    unfold heldM at this
    rw [Bool.not_eq_true] at hgn
    rw [hgn,Bool.false_or,Bool.or_eq_true,decide_eq_true_eq] at this
    have hl:x.lease=m.lease:=by
     have:=Option.some.inj hg
     rw [←this]
     unfold nextK
     split <;> rfl
    rw [heldL_iff,hl];exact this
 ·have:applyS s.st (doL s.st (txnOf r)).l=s.st:=(applyN_false (by unfold applyN;simp [he])).1
  rw [this] at hx
  exact h.held x hx
theorem act_ok {s:Server} (h:VOk s) {r:Req} (hr:reqOk r=true) (he:(actR s r).1=0) :
  SOk (actR s r).2.1.st∧mayS (actR s r).2.1.ls=true∧(actR s r).2.1.clock=s.clock∧(∀x∈nowP (actR s r).2.1.st,heldL (actR s r).2.1.ls.l.l x=true)∧s.st.rev≤(actR s r).2.1.st.rev ∧
   repOk (actR s r).2.2=true∧(actR s r).2.2.code=0∧(actR s r).2.2.who=r.who∧(actR s r).2.2.seq=r.seq:=by
 obtain ⟨n1,n2,n3,n4⟩:=reqOk_num hr
 have hrev:0≤s.st.rev∧s.st.rev≤1099511627774:=⟨by have:=h.st.low0;have:=h.st.lowr;omega,h.st.revM⟩
 unfold actR at he ⊢
 split at he
 ·rename_i c
  simp only [if_pos c]
  obtain ⟨a1,a2⟩:=at_one h.st r.rev
  exact ⟨h.st,h.ls,by trivial,h.held,Int.le_refl _,repOk_num (by omega) n1 n2 (by omega) (by omega) (by omega) (kvsOk_slOf (fun x hx=>a1 x (fromP_sub.1 x hx)) (Nat.le_trans fromP_sub.2 a2)) evs_nil,by trivial,by trivial,by trivial⟩
 rename_i c1
 simp only [if_neg c1]
 split at he
 ·rename_i c
  simp only [if_pos c]
  split at he
  ·rename_i hh
   simp only [if_pos hh]
   obtain ⟨d1,d2⟩:=doE_zero he
   have hs:=doS_SOk h.st (txnOf r)
   have hrv:s.st.rev≤(doS s.st (txnOf r)).rev:=by
    unfold doS
    rw [if_pos d1,(apply_rev h.st d2).1]
    split <;> omega
   exact ⟨hs,h.ls,by trivial,do_held h hh,hrv,repOk_num (by omega) n1 n2 (by have:=hs.revM;omega) (by omega) (by omega) kvs_nil evs_nil,by trivial,by trivial,by trivial⟩
  ·simp only at he;omega
 rename_i c2
 simp only [if_neg c2]
 split at he
 ·rename_i c
  simp only [if_pos c]
  obtain ⟨e1,e2⟩:=sin_rep h.st r.key r.rev he
  exact ⟨h.st,h.ls,by trivial,h.held,Int.le_refl _,repOk_num (by omega) n1 n2 (by omega) (by omega) (by omega) kvs_nil e2,by trivial,by trivial,by trivial⟩
 rename_i c3
 simp only [if_neg c3]
 split at he
 ·rename_i c
  simp only [if_pos c]
  have hb:=(mayS_iff.1 (may_grant h.ls r.ttl s.clock)).1
  have hi:0≤grantI s.ls r.ttl s.clock∧grantI s.ls r.ttl s.clock≤1099511627775:=by
   have:=(mayS_iff.1 h.ls).1
   unfold grantI
   rw [if_pos he]
   unfold grantS at hb
   rw [if_pos he] at hb
   simp only at hb
   omega
  exact ⟨h.st,may_grant h.ls _ _,by trivial,fun x hx=>heldL_iff.2 ((heldL_iff.1 (h.held x hx)).imp id fun e=>grant_has _ _ _ e),Int.le_refl _,repOk_num (by omega) n1 n2 (by omega) hi (by omega) kvs_nil evs_nil,by trivial,by trivial,by trivial⟩
 rename_i c4
 simp only [if_neg c4]
 split at he
 ·rename_i c
  simp only [if_pos c]
  have ht:0≤keepT s.ls r.lease s.clock∧keepT s.ls r.lease s.clock≤1099511627775:=by
   unfold keepT
   split
   ·rcases hp:placeN r.lease 0 s.ls.l.l with _ | i
    ·simp
    ·simp only
     obtain ⟨hi,hii⟩:=place_some hp
     rw [List.getElem?_eq_getElem hi]
     have:=((mayS_iff.1 h.ls).2.2.1 _ (List.getElem_mem hi)).2
     unfold fOk at this
     simp only [Option.getD_some]
     omega
   ·omega
  exact ⟨h.st,may_keep h.ls _ _,by trivial,fun x hx=>heldL_iff.2 ((heldL_iff.1 (h.held x hx)).imp id fun e=>keep_has _ _ _ e),Int.le_refl _,repOk_num (by omega) n1 n2 (by omega) n3 ht kvs_nil evs_nil,by trivial,by trivial,by trivial⟩
 rename_i c5
 simp only [if_neg c5]
 split at he
 ·rename_i c
  simp only [if_pos c]
  have hs0:=h.srv.sweep r.lease
  have hE:endE s.ls r.lease=0:=by
   unfold sweepE at he
   split at he
   ·assumption
   ·exact he
  have hA:applyE (sweepA s.st (sweepD s r.lease)) (sweepD s r.lease)=0:=by
   unfold sweepE at he
   rw [if_pos hE] at he;exact he
  have hh:hasS r.lease s.ls.l.l=true:=endE_0.1 hE
  have h0:r.lease ≠ 0:=by
   obtain ⟨y,hy,hyi⟩:=hasS_iff.1 hh
   have:=((mayS_iff.1 h.ls).2.2.1 y hy).1
   omega
  have hk:=swept_now h.st h0 hA
  have hsw:sweepS s r.lease=⟨applyS (sweepA s.st (sweepD s r.lease)) (sweepD s r.lease),endS s.ls r.lease,s.ms,s.clock⟩:=by unfold sweepS;rw [if_pos ⟨hE,hA⟩]
  refine ⟨hs0.st,hs0.ls,(sweepS_clock s r.lease).1,fun x hx => ?_,by rw [hsw];exact hk.2,repOk_num (by omega) n1 n2 (by have:=hs0.st.revM;have:=hs0.st.low0;have:=hs0.st.lowr;omega) n3 (by omega) kvs_nil evs_nil,by trivial,by trivial,by trivial⟩
  rw [hsw] at hx ⊢
  simp only at hx ⊢
  rw [show sweepD s r.lease=dropsS (nowP s.st) r.lease from rfl,hk.1] at hx
  obtain ⟨x1,x2⟩:=List.mem_filter.1 hx
  simp only [Bool.not_eq_true',decide_eq_false_iff_not] at x2
  refine heldL_iff.2 ((heldL_iff.1 (h.held x x1)).imp id fun e => ?_)
  rw [end_hasS h.ls,e];simp [x2]
 rename_i c6
 simp only [if_neg c6]
 split at he
 ·rename_i c
  simp only [if_pos c]
  have hs:=shr_SOk h.st r.rev
  have hrv:(shrS s.st r.rev).rev=s.st.rev:=by unfold shrS;split <;> rfl
  exact ⟨hs,h.ls,by trivial,by rw [shr_now h.st];exact h.held,by rw [hrv];exact Int.le_refl _,repOk_num (by omega) n1 n2 (by omega) (by omega) (by omega) kvs_nil evs_nil,by trivial,by trivial,by trivial⟩
 ·simp only at he;omega
theorem applyE_code (s:Store) (ms:List Mut):0≤applyE s ms∧applyE s ms≤14:=by
 unfold applyE
 repeat' split
 all_goals omega
theorem sin_code (s:Store) (p:Bs) (rev most:Int):0≤(sinP s p rev most).2.2∧(sinP s p rev most).2.2≤14:=by
 unfold sinP cutP
 split
 ·repeat' split
  all_goals simp
 ·unfold sinE
  simp only
  repeat' split
  all_goals omega
theorem act_code (s:Server) (r:Req):0≤(actR s r).1∧(actR s r).1≤14:=by
 unfold actR
 split
 ·unfold atE;simp only;repeat' split
  all_goals omega
 split
 ·split
  ·unfold doE
   split
   ·exact applyE_code ..
   ·omega
  ·simp
 split
 ·exact sin_code ..
 split
 ·unfold grantOk;simp only;repeat' split
  all_goals omega
 split
 ·unfold lkeepE;simp only;repeat' split
  all_goals omega
 split
 ·unfold sweepE
  simp only
  split
  ·exact applyE_code ..
  ·unfold endE;split <;> omega
 split
 ·unfold shrE;simp only;repeat' split
  all_goals omega
 ·simp
theorem look_code (l:List Memo) (old:List Floor) (w q:Int):0≤(lookP l old w q).2.2∧(lookP l old w q).2.2≤14:=by
 unfold lookP
 split
 ·simp
 ·split
  ·simp
  ·split <;> simp
theorem look_rep {l:List Memo} {old:List Floor} {w q:Int} (h:(lookP l old w q).2.1=true):∃x∈l,(lookP l old w q).1=x.rep:=by
 unfold lookP at h ⊢
 cases hf:lookF l w q with
 | some x=>exact ⟨x,List.mem_of_find?_eq_some hf,rfl⟩
 | none =>
  exfalso
  rw [hf] at h
  simp only at h
  split at h
  ·simp at h
  ·split at h <;> simp at h
theorem kvOk_wf {x:KV} (h:kvOk x=true):x.wf:=by
 unfold kvOk txtOk numOk at h
 simp only [Bool.and_eq_true,decide_eq_true_eq] at h
 unfold KV.wf I64 S64
 omega
theorem repOk_wf {p:Reply} (h:repOk p=true):p.wf:=by
 unfold repOk kvsOk evsOk at h
 simp only [numOk,Bool.and_eq_true,decide_eq_true_eq,List.all_eq_true] at h
 obtain ⟨⟨⟨h0,h1,h2,h3,h4,h5⟩,h6,h7⟩,h8,h9⟩:=h
 unfold Reply.wf I64
 refine ⟨by omega,by omega,by omega,by omega,by omega,by omega,⟨fun y hy=>kvOk_wf (h7 y hy),by omega⟩,⟨fun y hy => ?_,by omega⟩⟩
 have:=h9 y hy
 unfold evOk at this
 rw [Bool.and_eq_true,numOk_iff] at this
 exact ⟨by unfold I64;omega,kvOk_wf this.1⟩
theorem errR_wf {r:Req} (w:r.wf) {e:Int} (he:0≤e∧e≤14):(errR r e).wf:=by
 have h1:=w.2.1
 have h2:=w.2.2.1
 unfold Reply.wf errR
 simp [h1,h2,I64]
 unfold I64 at h1 h2
 omega
structure Big (s:Server) (n:Nat):Prop where
 v:VOk s
 mw:s.ms.wf
 ml:s.ms.l.l.length≤n
 mo:s.ms.old.l.length≤n
theorem Big.wf {s:Server} {n:Nat} (h:Big s n):s.wf:=⟨h.v.st.wf,may_wf h.v.ls,h.mw,by have:=h.v.ck;unfold I64;omega⟩
theorem Big.doOk {s:Server} {n:Nat} (h:Big s n) (hn:n≤1000) {r:Req} (w:r.wf):DoOk s r:=⟨h.v.srv,h.mw,by have:=h.ml;have:=h.mo;omega,w⟩
theorem Big.mono {s:Server} {n m:Nat} (h:Big s n) (hn:n≤m):Big s m:=⟨h.v,h.mw,by have:=h.ml;omega,by have:=h.mo;omega⟩
theorem keep_sub {m:Memos} {w q:Int} {p:Reply}:∀x∈(keepM m w q p).l.l,x∈m.l.l∨x=⟨w,q,p⟩:=by
 intro x hx
 unfold keepM at hx
 split at hx
 ·exact .inl hx
 ·split at hx
  ·simp only [Sl.l_of,keepL1] at hx
   rcases List.mem_append.1 hx with hx | hx
   ·exact .inl hx
   ·exact .inr (by simpa using hx)
  ·simp only [Sl.l_of,delP] at hx
   have hx:=List.mem_of_mem_eraseIdx hx
   unfold keepL1 at hx
   rcases List.mem_append.1 hx with hx | hx
   ·exact .inl hx
   ·exact .inr (by simpa using hx)
structure Done (s:Server) (r:Req) (n:Nat) (t:Server) (p:Reply):Prop where
 big:Big t (n+1)
 rev:s.st.rev≤t.st.rev
 ck:t.clock=s.clock
 err:p.code ≠ 0→t=s∧p=errR r p.code
 rep:reqOk r=true→repOk p=true
 wf:p.wf
theorem do_done {s:Server} {n:Nat} (h:Big s n) (hn:n≤1000) {r:Req} (w:r.wf):Done s r n (doP s r).1 (doP s r).2:=by
 have hb:=h.mono (Nat.le_succ n)
 have refuse:∀e,0≤e∧e≤14→(reqOk r=true→repOk (errR r e)=true)→Done s r n s (errR r e):=fun e he hr=>⟨hb,Int.le_refl _,rfl,fun _=>⟨rfl,rfl⟩,hr,errR_wf w he⟩
 unfold doP
 by_cases hr:reqOk r=true
 case neg=>rw [if_neg hr];exact refuse 1 (by omega) (fun hc=>absurd hc hr)
 rw [if_pos hr]
 by_cases h1:r.once=true∧(lookP s.ms.l.l s.ms.old.l r.who r.seq).2.1=true
 ·rw [if_pos h1]
  obtain ⟨x,hx,he⟩:=look_rep h1.2
  have hi:=h.v.rep x hx
  unfold repIn at hi
  simp only [Bool.and_eq_true,decide_eq_true_eq] at hi
  simp only
  rw [he]
  exact ⟨hb,Int.le_refl _,rfl,fun hc=>absurd hi.2.1 hc,fun _=>hi.1,repOk_wf hi.1⟩
 rw [if_neg h1]
 by_cases h2:r.once=true∧(lookP s.ms.l.l s.ms.old.l r.who r.seq).2.2 ≠ 0
 ·rw [if_pos h2]
  have hc:=look_code s.ms.l.l s.ms.old.l r.who r.seq
  exact refuse _ hc (fun hr=>errR_ok hr hc)
 rw [if_neg h2]
 by_cases h3:(actR s r).1 ≠ 0
 ·rw [if_pos h3]
  exact refuse _ (act_code s r) (fun hr=>errR_ok hr (act_code s r))
 rw [if_neg h3]
 have h3:(actR s r).1=0:=by omega
 obtain ⟨a1,a2,a3,a4,a5,a6,a7,a8,a9⟩:=act_ok h.v hr h3
 have hms:=actR_ms s r
 by_cases h4:r.once=true
 ·rw [if_pos h4]
  simp only
  rw [hms]
  have k1:(lookP s.ms.l.l s.ms.old.l r.who r.seq).2.1=false:=by
   cases hq:(lookP s.ms.l.l s.ms.old.l r.who r.seq).2.1
   ·rfl
   ·exact absurd ⟨h4,hq⟩ h1
  have k2:(lookP s.ms.l.l s.ms.old.l r.who r.seq).2.2=0:=by
   by_cases hq:(lookP s.ms.l.l s.ms.old.l r.who r.seq).2.2=0
   ·exact hq
   ·exact absurd ⟨h4,hq⟩ h2
  have hl:=keepM_len s.ms r.who r.seq (actR s r).2.2
  have hml:=h.ml
  have hmo:=h.mo
  refine ⟨⟨⟨a1,a2,keep_MayOk _ k1 k2 h.v.ms,by rw [a3];exact h.v.ck,fun x hx => ?_,a4⟩,keepM_wf h.mw (by omega) w.2.1 w.2.2.1 (repOk_wf a6),by simp only;omega,by simp only;omega⟩,a5,a3,fun hc=>absurd a7 hc,fun _=>a6,repOk_wf a6⟩
  rcases keep_sub x hx with hx | rfl
  ·exact h.v.rep x hx
  ·unfold repIn
   simp [a6,a7,a8,a9]
 ·rw [if_neg h4]
  simp only
  refine ⟨⟨⟨a1,a2,by rw [hms];exact h.v.ms,by rw [a3];exact h.v.ck,by rw [hms];exact h.v.rep,a4⟩,by rw [hms];exact h.mw,by rw [hms];have:=h.ml;omega,by rw [hms];have:=h.mo;omega⟩,a5,a3,fun hc=>absurd a7 hc,fun _=>a6,repOk_wf a6⟩
end Go.Proofs.YtndfdnlbljhlgaaGreat
end
section
namespace Go.Proofs.YtndfdnlbljhlgaaGreat
open Go Go.AM Go.Proofs
set_option maxRecDepth 20000
set_option linter.unusedSimpArgs false
set_option linter.unusedVariables false
set_option linter.defProp false
def Told (m:Memos) (w q:Int) (p:Reply):Prop:=(∃x,lookF m.l.l w q=some x∧x.rep=p)∨(lookF m.l.l w q=none∧hasP m.old.l w=true∧q≤floorP m.old.l w)
theorem Told.look {m:Memos} {w q:Int} {p:Reply} (h:Told m w q p):lookP m.l.l m.old.l w q=(p,true,0)∨lookP m.l.l m.old.l w q=(rep0,false,7):=by
 unfold lookP
 rcases h with ⟨x,hx,hr⟩ | ⟨h1,h2,h3⟩
 ·rw [hx];exact .inl (by simp only;rw [hr])
 ·rw [h1];exact .inr (by simp only;rw [if_pos h3])
theorem Told.keep {m:Memos} {n0 n1:Int} {p:Reply} (h:Told m n0 n1 p) (hm:MayOk m.l.l m.old.l) (w q:Int) (r:Reply):Told (keepM m w q r) n0 n1 p:=by
 by_cases he:(lookP m.l.l m.old.l w q).2.1=true∨(lookP m.l.l m.old.l w q).2.2 ≠ 0
 ·rw [keep_err he];exact h
 ·have e1:(lookP m.l.l m.old.l w q).2.1=false:=by
   cases h:(lookP m.l.l m.old.l w q).2.1
   ·rfl
   ·exact absurd (.inl h) he
  have e2:(lookP m.l.l m.old.l w q).2.2=0:=by
   by_cases h:(lookP m.l.l m.old.l w q).2.2=0
   ·exact h
   ·exact absurd (.inr h) he
  have hko:=kept_ok e1 e2
  have hkk:=keep_KeepOk r e1 e2 hm.keys
  unfold Told
  by_cases hn:n0=w
  ·subst hn
   rcases h with ⟨x,hx,hr⟩ | ⟨h1,h2,h3⟩
   ·cases hq:lookF (keepM m n0 q r).l.l n0 n1 with
    | some z =>
     rcases hkk.found n1 z hq with ⟨h4,_⟩ | h4
     ·subst h4;rw [hko.no] at hx;cases hx
     ·rw [hx] at h4;cases h4;exact .inl ⟨x,rfl,hr⟩
    | none =>
     rcases hkk.lost n1 hq with ⟨h4,_⟩ | h4
     ·rw [hx] at h4;cases h4
     ·exact .inr ⟨rfl,h4⟩
   ·refine .inr ⟨?_,(hkk.fw h2).1,by have:=(hkk.fw h2).2;omega⟩
    cases hq:lookF (keepM m n0 q r).l.l n0 n1 with
    | none=>rfl
    | some z =>
     rcases hkk.found n1 z hq with ⟨h4,_⟩ | h4
     ·have:=hko.fl;omega
     ·rw [h1] at h4;cases h4
  ·rw [hkk.other n0 n1 hn,(hkk.fo n0 hn).1,(hkk.fo n0 hn).2]
   exact h
theorem Told.done {s:Server} {w q:Int} {p:Reply} (h:Told s.ms w q p) (hm:MayOk s.ms.l.l s.ms.old.l) (r:Req):Told (doP s r).1.ms w q p:=by
 unfold doP
 split
 ·split
  ·exact h
  split
  ·exact h
  split
  ·exact h
  split
  ·simp only;rw [actR_ms];exact h.keep hm _ _ _
  ·simp only;rw [actR_ms];exact h
 ·exact h
theorem told_first {s:Server} {n:Nat} (h:Big s n) (hn:n≤1000) {r:Req} (w:r.wf) (ho:r.once=true) (hc:(doP s r).2.code=0):Told (doP s r).1.ms r.who r.seq (doP s r).2∧reqOk r=true:=by
 unfold doP at hc ⊢
 by_cases hr:reqOk r=true
 case neg=>rw [if_neg hr] at hc;exact absurd hc (by simp [errR])
 rw [if_pos hr] at hc ⊢
 refine ⟨?_,hr⟩
 by_cases h1:r.once=true∧(lookP s.ms.l.l s.ms.old.l r.who r.seq).2.1=true
 ·rw [if_pos h1]
  have h2:=h1.2
  simp only
  unfold lookP at h2 ⊢
  cases hf:lookF s.ms.l.l r.who r.seq with
  | some x=>exact .inl ⟨x,hf,rfl⟩
  | none =>
   exfalso
   rw [hf] at h2
   simp only at h2
   split at h2
   ·simp at h2
   ·split at h2 <;> simp at h2
 rw [if_neg h1] at hc ⊢
 by_cases h2:r.once=true∧(lookP s.ms.l.l s.ms.old.l r.who r.seq).2.2 ≠ 0
 ·rw [if_pos h2] at hc;exact absurd hc h2.2
 rw [if_neg h2] at hc ⊢
 by_cases h3:(actR s r).1 ≠ 0
 ·rw [if_pos h3] at hc;exact absurd hc h3
 rw [if_neg h3,if_pos ho]
 simp only
 rw [actR_ms]
 have k1:(lookP s.ms.l.l s.ms.old.l r.who r.seq).2.1=false:=by
  cases hq:(lookP s.ms.l.l s.ms.old.l r.who r.seq).2.1
  ·rfl
  ·exact absurd ⟨ho,hq⟩ h1
 have k2:(lookP s.ms.l.l s.ms.old.l r.who r.seq).2.2=0:=by
  by_cases hq:(lookP s.ms.l.l s.ms.old.l r.who r.seq).2.2=0
  ·exact hq
  ·exact absurd ⟨ho,hq⟩ h2
 have hko:=kept_ok k1 k2
 have hkk:=keep_KeepOk (actR s r).2.2 k1 k2 h.v.ms.keys
 generalize (actR s r).2.2=p at *
 unfold Told
 cases hq:lookF (keepM s.ms r.who r.seq p).l.l r.who r.seq with
 | some z =>
  rcases hkk.found r.seq z hq with ⟨_,h4⟩ | h4
  ·exact .inl ⟨z,rfl,h4⟩
  ·rw [hko.no] at h4;cases h4
 | none =>
  rcases hkk.lost r.seq hq with ⟨_,h4⟩ | h4
  ·exact absurd rfl h4
  ·exact .inr ⟨rfl,h4⟩
theorem told_again {t:Server} {r:Req} {p:Reply} (h:Told t.ms r.who r.seq p) (ho:r.once=true) (hr:reqOk r=true):doP t r=(t,p)∨doP t r=(t,errR r 7):=by
 unfold doP
 rw [if_pos hr]
 rcases h.look with e | e
 ·rw [e,if_pos ⟨ho,rfl⟩];exact .inl rfl
 ·rw [e,if_neg (by simp),if_pos ⟨ho,by simp⟩];exact .inr rfl
end Go.Proofs.YtndfdnlbljhlgaaGreat
end
section
namespace Go.Proofs.YtndfdnlbljhlgaaGreat
open Go Go.AM Go.Proofs
set_option maxRecDepth 20000
set_option maxHeartbeats 4000000
set_option linter.unusedSimpArgs false
set_option linter.unusedVariables false
def cmpMade (k:Bs) (rev:Int):Cmp:=⟨k,1,1,rev,[]⟩
def txnPut (k v:Bs) (lease:Int):Txn:=⟨.of [cmpMade k 0],.of [⟨false,k,v,lease⟩],.nil⟩
theorem Absent2_ev (k:Bs) (H:List Blk):EvF tab 49 [T k] H=some ⟨A (cmpMade k 0).c,[],[]⟩:=by
 refine EvF_walk t49 (by simp) ?_
 simp -implicitDefEqProofs [A,cmpMade,Cmp.c]
theorem Put2_ev (k v:Bs) (n:Int) (H:List Blk):EvF tab 19 [T k,T v,I n] H=some ⟨A (txnPut k v n).c,[],[]⟩:=by
 have h1:=fun H=>Absent2_ev k H
 refine EvF_walk t19 (by simp) ?_
 simp only [A,cmpMade,Cmp.c,List.map_cons,List.map_nil] at h1
 simp -implicitDefEqProofs [A,cmpMade,Cmp.c,Mut.c,txnPut,Txn.c,h1,chunk]
end Go.Proofs.YtndfdnlbljhlgaaGreat
end
section
namespace Go.Proofs.YtndfdnlbljhlgaaGreat
open Go Go.AM Go.Proofs
set_option maxRecDepth 20000
set_option maxHeartbeats 4000000
set_option linter.unusedSimpArgs false
set_option linter.unusedVariables false
def sortQ (l:List Int):List Int:=l.foldl (fun s n=>insL n s) []
theorem sortL_c (l:List Int):sortL l=sortQ l:=by
 have:=insL_fold l []
 rw [sortL_nil,List.nil_append] at this
 exact this.symm
def lookC (l:List Memo) (old:List Floor) (w s:Int):Reply×Bool×Int :=
 match lookF l w s with
 | some x=>(x.rep,true,0)
 | none=>if s≤floorP old w then (rep0,false,7) else if 8≤(sortQ (whoL l old)).length∧w∉sortQ (whoL l old) then (rep0,false,4) else (rep0,false,0)
theorem lookP_c (l:List Memo) (old:List Floor) (w s:Int):lookP l old w s=lookC l old w s:=by
 unfold lookP lookC whosP
 rw [sortL_c]
 cases lookF l w s <;> rfl
def keepC (m:Memos) (w q:Int) (r:Reply):Memos :=
 if (lookC m.l.l m.old.l w q).2.1=true∨(lookC m.l.l m.old.l w q).2.2 ≠ 0 then m else
 if (sortQ (seqL (keepL1 m.l.l w q r) w)).length≤4 then ⟨.of (keepL1 m.l.l w q r),m.old⟩ else
  ⟨.of (delP (keepL1 m.l.l w q r) w (headI (sortQ (seqL (keepL1 m.l.l w q r) w)))),.of (raiseP m.old.l w (headI (sortQ (seqL (keepL1 m.l.l w q r) w))))⟩
theorem keepM_c (m:Memos) (w q:Int) (r:Reply):keepM m w q r=keepC m w q r:=by
 unfold keepM keepC seqsP
 rw [lookP_c,sortL_c]
def mayC (l:List Memo) (old:List Floor):Bool:=match goFl old [] with | some F=>goMe F l [] []&&decide ((sortQ (whoL l old)).length≤8) | none=>false
theorem mayMe_c (l:List Memo) (old:List Floor):mayMe l old=mayC l old:=by
 unfold mayMe mayC whosP
 rw [sortL_c]
 cases goFl old [] <;> rfl
def doC (s:Server) (r:Req):Server×Reply :=
 if reqOk r=true then
  if r.once=true∧(lookC s.ms.l.l s.ms.old.l r.who r.seq).2.1=true then (s,(lookC s.ms.l.l s.ms.old.l r.who r.seq).1)
  else if r.once=true∧(lookC s.ms.l.l s.ms.old.l r.who r.seq).2.2 ≠ 0 then (s,errR r (lookC s.ms.l.l s.ms.old.l r.who r.seq).2.2)
  else if (actR s r).1 ≠ 0 then (s,errR r (actR s r).1)
  else if r.once=true then (⟨(actR s r).2.1.st,(actR s r).2.1.ls,keepC (actR s r).2.1.ms r.who r.seq (actR s r).2.2,(actR s r).2.1.clock⟩,(actR s r).2.2)
  else ((actR s r).2.1,(actR s r).2.2)
 else (s,errR r 1)
theorem doP_c (s:Server) (r:Req):doP s r=doC s r:=by
 unfold doP doC
 simp only [lookP_c,keepM_c]
theorem VNew_ev (H:List Blk):EvF tab 48 [] H=some ⟨A (Store.c ⟨0,0,.nil,.nil⟩),[],[]⟩:=by
 refine EvF_walk t48 (by simp) ?_
 simp -implicitDefEqProofs [A,Store.c]
def v0:Server:=⟨⟨0,0,.nil,.nil⟩,⟨0,.nil⟩,⟨.nil,.nil⟩,0⟩
theorem SNew_ev (H:List Blk):EvF tab 18 [] H=some ⟨A v0.c,[],[]⟩:=by
 have m1:=VNew_ev
 refine EvF_walk t18 (by simp) ?_
 simp only [A,Store.c,Server.c,v0,KVs.g,Evs.g,LeaseL.g,MemoL.g,Floors.g,Sl.g_nil,List.map_cons,List.map_nil] at m1 ⊢
 simp -implicitDefEqProofs [m1]
def rq (kind who seq:Int) (once:Bool) (key:Bs) (lease ttl:Int) (t:Txn):Req:=⟨kind,who,seq,once,key,[],lease,0,ttl,0,t.iff,t.thn,t.els⟩
def t0:Txn:=⟨.nil,.nil,.nil⟩
def pa:Reply:=⟨0,3,1,0,1,10,false,.nil,.nil⟩
def pb:Reply:=⟨0,3,2,1,0,0,true,.nil,.nil⟩
def ka:KV:=⟨[97],[118],1,1,1,1⟩
def v1:Server:=⟨⟨0,0,.nil,.nil⟩,⟨1,.of [⟨1,10,10⟩]⟩,⟨.of [⟨3,1,pa⟩],.nil⟩,0⟩
def v2:Server:=⟨⟨1,0,.nil,.of [⟨1,false,ka⟩]⟩,⟨1,.of [⟨1,10,10⟩]⟩,⟨.of [⟨3,1,pa⟩,⟨3,2,pb⟩],.nil⟩,0⟩
def v3:Server:=⟨⟨1,0,.nil,.of [⟨1,false,ka⟩]⟩,⟨1,.of [⟨1,10,10⟩]⟩,⟨.of [⟨3,1,pa⟩,⟨3,2,pb⟩],.nil⟩,9⟩
def v4:Server:=⟨⟨2,0,.nil,.of [⟨1,false,ka⟩,⟨2,true,ka⟩]⟩,⟨1,.nil⟩,⟨.of [⟨3,1,pa⟩,⟨3,2,pb⟩],.nil⟩,10⟩
def v5:Server:=⟨⟨0,0,.nil,.nil⟩,⟨0,.nil⟩,⟨.nil,.nil⟩,-1⟩
def ra:Req:=rq 4 3 1 true [] 0 10 t0
def rb:Req:=rq 2 3 2 true [] 0 0 (txnPut [97] [118] 1)
def rc2:Req:=rq 2 3 2 true [] 0 0 t0
def rd:Req:=rq 2 3 3 false [] 0 0 (txnPut [98] [118] 2)
def re:Req:=rq 1 0 9 false [97] 0 0 t0
def rf:Req:=rq 1 0 0 false [97] 0 0 t0
def rg2:Req:=rq 5 0 0 false [] 1 0 t0
def rh:Req:=rq 0 0 0 false [] 0 0 t0
theorem rq_wf {kind who seq:Int} {once:Bool} {key:Bs} {lease ttl:Int} {t:Txn} (h:(I64 kind∧I64 who∧I64 seq∧I64 lease∧I64 ttl)∧key.length≤9223372036854775807∧t.wf):(rq kind who seq once key lease ttl t).wf:=by
 obtain ⟨⟨h1,h2,h3,h4,h5⟩,h6,h7,h8,h9⟩:=h
 exact ⟨h1,h2,h3,h6,by simp [S64,rq],h4,by simp [I64,rq],h5,by simp [I64,rq],h7,h8,h9⟩
theorem ok10 {s:Server} {r:Req} (h1:storeOk s.st=true) (h2:mayS s.ls=true) (h3:s.ms.wf) (h4:s.ms.l.l.length+s.ms.old.l.length≤4000) (h5:r.wf):DoOk s r:=⟨⟨storeOk_iff.1 h1,h2⟩,h3,h4,h5⟩
theorem ms10:v0.ms.wf∧v1.ms.wf∧v2.ms.wf:=by
 simp [Memos.wf,v0,v1,v2,Memo.wf,Reply.wf,pa,pb,I64]
theorem live10 (H:List Blk):EvF tab 12 [] H=some ⟨.g (.bool true),[],[]⟩:=by
 obtain ⟨q0,q1,q2⟩:=ms10
 have m0:=SNew_ev
 have p1:=fun H=>Put2_ev [97] [118] 1 H
 have p2:=fun H=>Put2_ev [98] [118] 2 H
 have m1:=fun H=>SDo_ev (ok10 (s:=v0) (r:=ra) (by kernel_rfl) (by kernel_rfl) q0 (by simp [v0]) (rq_wf (by simp [I64,t0,Txn.wf]))) H
 have m2:=fun H=>SDo_ev (ok10 (s:=v1) (r:=rb) (by kernel_rfl) (by kernel_rfl) q1 (by simp [v1]) (rq_wf (by simp [I64,txnPut,cmpMade,Txn.wf,Cmp.wf,Mut.wf,S64]))) H
 have m3:=fun H=>SDo_ev (ok10 (s:=v2) (r:=rc2) (by kernel_rfl) (by kernel_rfl) q2 (by simp [v2]) (rq_wf (by simp [I64,t0,Txn.wf]))) H
 have m4:=fun H=>SDo_ev (ok10 (s:=v2) (r:=rd) (by kernel_rfl) (by kernel_rfl) q2 (by simp [v2]) (rq_wf (by simp [I64,txnPut,cmpMade,Txn.wf,Cmp.wf,Mut.wf,S64]))) H
 have m5:=fun H=>SDo_ev (ok10 (s:=v2) (r:=re) (by kernel_rfl) (by kernel_rfl) q2 (by simp [v2]) (rq_wf (by simp [I64,t0,Txn.wf]))) H
 have m6:=fun H=>Tick_ev v2 9 ⟨storeOk_iff.1 (by kernel_rfl),by kernel_rfl⟩ (by simp [v2]) (by simp [I64]) H
 have m7:=fun H=>Tick_ev v3 1 ⟨storeOk_iff.1 (by kernel_rfl),by kernel_rfl⟩ (by simp [v3]) (by simp [I64]) H
 have m8:=fun H=>SDo_ev (ok10 (s:=v4) (r:=rf) (by kernel_rfl) (by kernel_rfl) q2 (by simp [v4]) (rq_wf (by simp [I64,t0,Txn.wf]))) H
 have m9:=fun H=>SDo_ev (ok10 (s:=v4) (r:=rg2) (by kernel_rfl) (by kernel_rfl) q2 (by simp [v4]) (rq_wf (by simp [I64,t0,Txn.wf]))) H
 have m10:=fun H=>SDo_ev (ok10 (s:=v4) (r:=rh) (by kernel_rfl) (by kernel_rfl) q2 (by simp [v4]) (rq_wf (by simp [I64,t0,Txn.wf]))) H
 have m11:=fun H=>SameV_ev v2 v2 (.refl _) (by simp [smallS,v2]) (by simp [v2]) q2 H
 have m12:=fun H=>SMay_ev v4 ⟨by simp [Store.wf,v4,Ev.wf,KV.wf,ka,I64,S64],by simp [Leases.wf,v4,I64],q2,by simp [I64,v4]⟩ (by simp [v4]) H
 have m13:=fun H=>SMay_ev v5 ⟨by simp [Store.wf,v5,I64],by simp [Leases.wf,v5,I64],q0,by simp [I64,v5]⟩ (by simp [v5]) H
 have e12:mayV v4=true:=by unfold mayV;rw [mayMe_c];kernel_rfl
 have e13:mayV v5=false:=by unfold mayV;rw [mayMe_c];kernel_rfl
 rw [e12] at m12
 rw [e13] at m13
 simp only [doP_c,show doC v0 ra=(v1,pa) by kernel_rfl] at m1
 simp only [doP_c,show doC v1 rb=(v2,pb) by kernel_rfl] at m2
 simp only [doP_c,show doC v2 rc2=(v2,pb) by kernel_rfl] at m3
 simp only [doP_c,show doC v2 rd=(v2,errR rd 6) by kernel_rfl] at m4
 simp only [doP_c,show doC v2 re=(v2,⟨0,0,9,1,0,0,false,.of [ka],.nil⟩) by kernel_rfl] at m5
 simp only [show tickS v2 9=v3 by kernel_rfl] at m6
 simp only [show tickS v3 1=v4 by kernel_rfl] at m7
 simp only [doP_c,show doC v4 rf=(v4,⟨0,0,0,2,0,0,false,.nil,.nil⟩) by kernel_rfl] at m8
 simp only [doP_c,show doC v4 rg2=(v4,errR rg2 6) by kernel_rfl] at m9
 simp only [doP_c,show doC v4 rh=(v4,errR rh 1) by kernel_rfl] at m10
 simp only [A,Server.c,Reply.c,Req.c,v0,v1,v2,v3,v4,v5,pa,pb,ka,ra,rb,rc2,rd,re,rf,rg2,rh,rq,t0,errR,txnPut,cmpMade,Txn.c,Cmp.c,Mut.c,KV.c,Ev.c,Memo.c,Lease.c,KVs.g,Evs.g,LeaseL.g,MemoL.g,Floors.g,Cmps.g,Muts.g,Sl.g_of,Sl.g_nil,List.map_cons,List.map_nil] at p1 p2 m0 m1 m2 m3 m4 m5 m6 m7 m8 m9 m10 m11 m12 m13
 refine EvF_walk t12 (by simp) ?_
 simp -implicitDefEqProofs [p1,p2,m0,m1,m2,m3,m4,m5,m6,m7,m8,m9,m10,m11,m12,m13,pends]
end Go.Proofs.YtndfdnlbljhlgaaGreat
end
section
namespace Go.Proofs.YtndfdnlbljhlgaaGreat
open Go Go.AM Go.Proofs
set_option maxRecDepth 20000
set_option maxHeartbeats 2000000
set_option linter.unusedSimpArgs false
set_option linter.unusedVariables false
theorem few_big {s:Server} {r:Req} (w:s.wf) (h:few10 s r=true):Big s 40∧smallS s.st:=by
 unfold few10 at h
 simp only [Bool.and_eq_true] at h
 obtain ⟨h0,hm,_⟩:=h
 obtain ⟨h1,h2,h3,h4⟩:=fewV_size h0
 exact ⟨⟨mayV_iff.1 hm,w.2.2.1,by omega,by omega⟩,fewS_smallS h1⟩
theorem big_small {s:Server} {n:Nat} (h:Big s n):smallS s.st∧s.ls.l.l.length≤1000:=by
 have h1:=h.v.st.bl
 have h2:=h.v.st.ll
 have h3:=(mayS_iff.1 h.v.ls).2.1
 exact ⟨by unfold smallS;omega,by omega⟩
end Go.Proofs.YtndfdnlbljhlgaaGreat
end
section
namespace Go.Proofs.YtndfdnlbljhlgaaGreat
open Go Go.AM Go.Proofs
set_option maxRecDepth 20000
set_option maxHeartbeats 4000000
set_option linter.unusedSimpArgs false
set_option linter.unusedVariables false
abbrev Reqs.g (s:Sl Req):GV:=Sl.g 13 Req.c s
theorem Reqs.inv {gs:List GV} (h:HasTy (.sl 13 tReq) gs):∃s:Sl Req,((∀y∈s.l,y.wf)∧s.l.length≤9223372036854775807)∧gs=[Reqs.g s]:=by
 obtain ⟨s,h1,h2,rfl⟩:=h.sl_inv (fun _=>Req.inv)
 exact ⟨s,⟨h1,h2⟩,rfl⟩
def onceR (r:Req):Req:=⟨r.kind,r.who,r.seq,true,r.key,r.value,r.lease,r.rev,r.ttl,r.token,r.iff,r.thn,r.els⟩
def onceO (l:Sl Req) (k:Nat) (x:Option Req) (t:Server):Server⊕Server:=match x with
 | some y=>if shortReq y=true then .inl (doP t y).1 else .inr t
 | none => .inl t
theorem AlikeN_ev (a b:Reply) (h:¬a.code=b.code) (H:List Blk):EvF tab 23 [A a.c,A b.c] H=some ⟨B false,[],[]⟩:=by
 refine EvF_walk t23 (by simp) ?_
 obtain ⟨a1,a2,a3,a4,a5,a6,a7,a8,a9⟩:=a
 obtain ⟨b1,b2,b3,b4,b5,b6,b7,b8,b9⟩:=b
 simp only at h
 generalize hg1:KVs.g a8=g1
 generalize hg2:KVs.g b8=g2
 generalize hg3:Evs.g a9=g3
 generalize hg4:Evs.g b9=g4
 simp -implicitDefEqProofs [A,Reply.c,hg1,hg2,hg3,hg4,h]
theorem once10_loop (r:Req) (p:Reply) (ho:r.once=true) (hr:reqOk r=true) (wr:r.wf) (wp:p.wf) (hpc:p.code=0) (l:Sl Req) (wl:∀y∈l.l,y.wf) (hl:l.l.length≤12) (t0:Server) (hb:Big t0 41) (ht:Told t0.ms r.who r.seq p) (b0 b2 b3 b4 b5 b6 b8 b9:Blk) :
  ∃(R:Server⊕Server) (o':List Blk),loopE (EvF tab) [] L8_0 [2,4,7,8,9] ⟨[(2,.g (Reqs.g l)),(4,.ptr 1 0),(7,.ptr 7 0),(8,.ptr 10 0),(9,I 0)],[],[b0,.cells (r.c.map .g),b2,b3,b4,b5,b6,.cells (t0.c.map .g),b8,b9,.cells (p.c.map .g)]⟩ =
   some (endJ (fun t o=>(.exit 0,⟨[(2,.g (Reqs.g l)),(4,.ptr 1 0),(7,.ptr 7 0),(8,.ptr 10 0),(9,I (l.l.length+1:Nat)),(43,B false)],[],b0 :: .cells (r.c.map .g)::b2::b3::b4::b5::b6 :: .cells (t.c.map .g)::b8::b9 :: .cells (p.c.map .g)::o⟩))
    (fun t o=>(.ret,⟨[(6,B true)],[],b0 :: .cells (r.c.map .g)::b2::b3::b4::b5::b6 :: .cells (t.c.map .g)::b8::b9 :: .cells (p.c.map .g)::o⟩)) o' R):=by
 have hw:=loop_runJ (E:=EvF tab) (h:=[]) (c:=L8_0) (lv:=[2,4,7,8,9]) (l:=l.l.map some++[none]) (β:=Server) (γ:=Server) (fun k t=>Big t (41+k)∧Told t.ms r.who r.seq p) (onceO l)
  (fun k t o=>⟨[(2,.g (Reqs.g l)),(4,.ptr 1 0),(7,.ptr 7 0),(8,.ptr 10 0),(9,I k)],[],b0 :: .cells (r.c.map .g)::b2::b3::b4::b5::b6 :: .cells (t.c.map .g)::b8::b9 :: .cells (p.c.map .g)::o⟩)
  (fun t o=>(.exit 0,⟨[(2,.g (Reqs.g l)),(4,.ptr 1 0),(7,.ptr 7 0),(8,.ptr 10 0),(9,I (l.l.length+1:Nat)),(43,B false)],[],b0 :: .cells (r.c.map .g)::b2::b3::b4::b5::b6 :: .cells (t.c.map .g)::b8::b9 :: .cells (p.c.map .g)::o⟩))
  (fun t o=>(.ret,⟨[(6,B true)],[],b0 :: .cells (r.c.map .g)::b2::b3::b4::b5::b6 :: .cells (t.c.map .g)::b8::b9 :: .cells (p.c.map .g)::o⟩)) (by simp) (by simp) (fun k x t o hk hx hy hi => ?_) (fun t o _=>by
   have hlen:∀h s,lenV h s (.g (Reqs.g l))=some l.l.length:=fun h s=>lenV_Sl ..
   simp only [List.length_append,List.length_map,List.length_cons,List.length_nil,Nat.zero_add]
   generalize Reqs.g l=G at hlen ⊢
   delta L8_0
   simp -implicitDefEqProofs [hlen,show ¬((l.l.length+1:Nat):Int)≤(l.l.length:Int) by omega,show ¬((l.l.length:Int)+1)≤(l.l.length:Int) by omega]) t0 [] ⟨hb,ht⟩
 ·obtain ⟨o',hw⟩:=hw
  exact ⟨_,o',by simpa only [Int.ofNat_zero,Int.cast_ofNat_Int] using hw⟩
 ·obtain ⟨hB,hT⟩:=hi
  simp only [List.length_append,List.length_map,List.length_cons,List.length_nil,Nat.zero_add] at hk
  have e2:=wrap_succ (n:=1000) (k:=k) (by omega) (by omega)
  have m1:=fun H=>SDo_ev (hB.doOk (by omega) wr) H
  obtain ⟨hss,hls⟩:=big_small hB
  have m2:=fun H=>SameV_ev t t (.refl _) hss (by omega) hB.mw H
  have m3:=fun H=>AlikeS_ev p wp H
  have m6:=fun H=>AlikeN_ev p (errR r 7) (by simp [errR,hpc]) H
  have ha:=told_again hT ho hr
  have hlen:∀h s,lenV h s (.g (Reqs.g l))=some l.l.length:=fun h s=>lenV_Sl ..
  by_cases hkl:k<l.l.length
  ·have hx2:x=some (l.l[k]):=by
    rw [List.getElem?_append_left (by simpa using hkl),List.getElem?_map,List.getElem?_eq_getElem hkl] at hx
    simpa using hx.symm
   subst hx2
   have wy:=wl _ (List.getElem_mem hkl)
   have m4:=fun H=>Short_ev l.l[k] wy H
   obtain ⟨y,hy2⟩:∃y,l.l[k]=y:=⟨_,rfl⟩
   rw [hy2] at wy m4
   rw [show onceO l k (some l.l[k]) t=if shortReq y=true then .inl (doP t y).1 else .inr t by rw [←hy2];rfl]
   have m5:=fun H=>SDo_ev (hB.doOk (by omega) wy) H
   have hd:=do_done hB (by omega) wy
   have hdt:=hT.done hB.v.ms y
   have hdb:=hd.big
   clear hd hx hy hk hss hls hT hB ht hb
   generalize (doP t y).1=u at *
   generalize (doP t y).2=q at *
   generalize shortReq y=b at *
   cases l with
   | nil=>simp at hkl
   | of l =>
   simp only [Sl.l_of] at hkl hy2 hlen e2 hl ⊢
   have e3:(k:Int)≤(l.length:Int):=by omega
   have e4:(k:Int)<(l.length:Int):=by omega
   obtain ⟨⟨trev,tlow,tbase,tlog⟩,⟨tnext,tl⟩,⟨tml,tmo⟩,tclock⟩:=t
   obtain ⟨⟨urev,ulow,ubase,ulog⟩,⟨unext,ul⟩,⟨uml,umo⟩,uclock⟩:=u
   obtain ⟨rkind,rwho,rseq,ronce,rkey,rvalue,rlease,rrev,rttl,rtoken,riff,rthn,rels⟩:=r
   obtain ⟨y1,y2,y3,y4,y5,y6,y7,y8,y9,y10,y11,y12,y13⟩:=y
   obtain ⟨p1,p2,p3,p4,p5,p6,p7,p8,p9⟩:=p
   obtain ⟨q1,q2,q3,q4,q5,q6,q7,q8,q9⟩:=q
   simp only [errR] at ha m6
   delta L8_0
   cases b
   ·simp only [Bool.false_eq_true,if_false,if_true]
    rcases ha with ha | ha
    ·rw [ha] at m1
     simp only [A,Server.c,Req.c,Reply.c,KVs.g,Evs.g,Sl.g_nil,List.map_cons,List.map_nil] at m1 m2 m3 m6 m4 m5 ⊢
     generalize Sl.g 6 KV.c tbase=T1 at m1 m2 m5 ⊢
     generalize Sl.g 8 Ev.c tlog=T2 at m1 m2 m5 ⊢
     generalize LeaseL.g tl=T3 at m1 m2 m5 ⊢
     generalize MemoL.g tml=T4 at m1 m2 m5 ⊢
     generalize Floors.g tmo=T5 at m1 m2 m5 ⊢
     generalize Cmps.g riff=R1 at m1 ⊢
     generalize Muts.g rthn=R2 at m1 ⊢
     generalize Muts.g rels=R3 at m1 ⊢
     generalize Sl.g 6 KV.c p8=P1 at m1 m3 m6 ⊢
     generalize Sl.g 8 Ev.c p9=P2 at m1 m3 m6 ⊢
     generalize Sl.g 6 KV.c ubase=U1 at m5 ⊢
     generalize Sl.g 8 Ev.c ulog=U2 at m5 ⊢
     generalize LeaseL.g ul=U3 at m5 ⊢
     generalize MemoL.g uml=U4 at m5 ⊢
     generalize Floors.g umo=U5 at m5 ⊢
     generalize Sl.g 6 KV.c q8=Q1 at m5
     generalize Sl.g 8 Ev.c q9=Q2 at m5
     refine ⟨o++[.rows 6 1 [],.rows 8 1 [],.rows 3 1 [],.rows 11 1 [],.rows 2 1 [],.cells [.g (.int .i64 trev),.g (.int .i64 tlow),.g T1,.g T2,.g (.int .i64 tnext),.g T3,.g T4,.g T5,.g (.int .i64 tclock)],.rows 6 1 [],.rows 8 1 [],.cells [.g (.int .i64 p1),.g (.int .i64 p2),.g (.int .i64 p3),.g (.int .i64 p4),.g (.int .i64 p5),.g (.int .i64 p6),.g (.bool p7),.g P1,.g P2]],?_⟩
     simp -implicitDefEqProofs [hkl,hy2,hlen,e2,e3,e4,m1,m2,m3,m6,m4,live10,Req.c,pends,ptrCons]
    ·rw [ha] at m1
     simp only [A,Server.c,Req.c,Reply.c,KVs.g,Evs.g,Sl.g_nil,List.map_cons,List.map_nil] at m1 m2 m3 m6 m4 m5 ⊢
     generalize Sl.g 6 KV.c tbase=T1 at m1 m2 m5 ⊢
     generalize Sl.g 8 Ev.c tlog=T2 at m1 m2 m5 ⊢
     generalize LeaseL.g tl=T3 at m1 m2 m5 ⊢
     generalize MemoL.g tml=T4 at m1 m2 m5 ⊢
     generalize Floors.g tmo=T5 at m1 m2 m5 ⊢
     generalize Cmps.g riff=R1 at m1 ⊢
     generalize Muts.g rthn=R2 at m1 ⊢
     generalize Muts.g rels=R3 at m1 ⊢
     generalize Sl.g 6 KV.c p8=P1 at m1 m3 m6 ⊢
     generalize Sl.g 8 Ev.c p9=P2 at m1 m3 m6 ⊢
     generalize Sl.g 6 KV.c ubase=U1 at m5 ⊢
     generalize Sl.g 8 Ev.c ulog=U2 at m5 ⊢
     generalize LeaseL.g ul=U3 at m5 ⊢
     generalize MemoL.g uml=U4 at m5 ⊢
     generalize Floors.g umo=U5 at m5 ⊢
     generalize Sl.g 6 KV.c q8=Q1 at m5
     generalize Sl.g 8 Ev.c q9=Q2 at m5
     refine ⟨o++[.rows 6 1 [],.rows 8 1 [],.rows 3 1 [],.rows 11 1 [],.rows 2 1 [],.cells [.g (.int .i64 trev),.g (.int .i64 tlow),.g T1,.g T2,.g (.int .i64 tnext),.g T3,.g T4,.g T5,.g (.int .i64 tclock)],.rows 6 1 [],.rows 8 1 [],.cells [.g (.int .i64 7),.g (.int .i64 rwho),.g (.int .i64 rseq),.g (.int .i64 0),.g (.int .i64 0),.g (.int .i64 0),.g (.bool false),.g .nsl,.g .nsl]],?_⟩
     simp -implicitDefEqProofs [hkl,hy2,hlen,e2,e3,e4,m1,m2,m3,m6,m4,live10,Req.c,pends,ptrCons]
   ·simp only [Bool.false_eq_true,if_false,if_true]
    rcases ha with ha | ha
    ·rw [ha] at m1
     simp only [A,Server.c,Req.c,Reply.c,KVs.g,Evs.g,Sl.g_nil,List.map_cons,List.map_nil] at m1 m2 m3 m6 m4 m5 ⊢
     generalize Sl.g 6 KV.c tbase=T1 at m1 m2 m5 ⊢
     generalize Sl.g 8 Ev.c tlog=T2 at m1 m2 m5 ⊢
     generalize LeaseL.g tl=T3 at m1 m2 m5 ⊢
     generalize MemoL.g tml=T4 at m1 m2 m5 ⊢
     generalize Floors.g tmo=T5 at m1 m2 m5 ⊢
     generalize Cmps.g riff=R1 at m1 ⊢
     generalize Muts.g rthn=R2 at m1 ⊢
     generalize Muts.g rels=R3 at m1 ⊢
     generalize Sl.g 6 KV.c p8=P1 at m1 m3 m6 ⊢
     generalize Sl.g 8 Ev.c p9=P2 at m1 m3 m6 ⊢
     generalize Sl.g 6 KV.c ubase=U1 at m5 ⊢
     generalize Sl.g 8 Ev.c ulog=U2 at m5 ⊢
     generalize LeaseL.g ul=U3 at m5 ⊢
     generalize MemoL.g uml=U4 at m5 ⊢
     generalize Floors.g umo=U5 at m5 ⊢
     generalize Sl.g 6 KV.c q8=Q1 at m5
     generalize Sl.g 8 Ev.c q9=Q2 at m5
     refine ⟨⟨hdb,hdt⟩,o++[.rows 6 1 [],.rows 8 1 [],.rows 3 1 [],.rows 11 1 [],.rows 2 1 [],.cells [.g (.int .i64 trev),.g (.int .i64 tlow),.g T1,.g T2,.g (.int .i64 tnext),.g T3,.g T4,.g T5,.g (.int .i64 tclock)],.rows 6 1 [],.rows 8 1 [],.cells [.g (.int .i64 p1),.g (.int .i64 p2),.g (.int .i64 p3),.g (.int .i64 p4),.g (.int .i64 p5),.g (.int .i64 p6),.g (.bool p7),.g P1,.g P2],.cells [.g (.int .i64 urev),.g (.int .i64 ulow),.g U1,.g U2,.g (.int .i64 unext),.g U3,.g U4,.g U5,.g (.int .i64 uclock)],.cells [.g (.int .i64 q1),.g (.int .i64 q2),.g (.int .i64 q3),.g (.int .i64 q4),.g (.int .i64 q5),.g (.int .i64 q6),.g (.bool q7),.g Q1,.g Q2]],?_⟩
     simp -implicitDefEqProofs [hkl,hy2,hlen,e2,e3,e4,m1,m2,m3,m6,m4,m5,live10,Req.c,pends,ptrCons]
    ·rw [ha] at m1
     simp only [A,Server.c,Req.c,Reply.c,KVs.g,Evs.g,Sl.g_nil,List.map_cons,List.map_nil] at m1 m2 m3 m6 m4 m5 ⊢
     generalize Sl.g 6 KV.c tbase=T1 at m1 m2 m5 ⊢
     generalize Sl.g 8 Ev.c tlog=T2 at m1 m2 m5 ⊢
     generalize LeaseL.g tl=T3 at m1 m2 m5 ⊢
     generalize MemoL.g tml=T4 at m1 m2 m5 ⊢
     generalize Floors.g tmo=T5 at m1 m2 m5 ⊢
     generalize Cmps.g riff=R1 at m1 ⊢
     generalize Muts.g rthn=R2 at m1 ⊢
     generalize Muts.g rels=R3 at m1 ⊢
     generalize Sl.g 6 KV.c p8=P1 at m1 m3 m6 ⊢
     generalize Sl.g 8 Ev.c p9=P2 at m1 m3 m6 ⊢
     generalize Sl.g 6 KV.c ubase=U1 at m5 ⊢
     generalize Sl.g 8 Ev.c ulog=U2 at m5 ⊢
     generalize LeaseL.g ul=U3 at m5 ⊢
     generalize MemoL.g uml=U4 at m5 ⊢
     generalize Floors.g umo=U5 at m5 ⊢
     generalize Sl.g 6 KV.c q8=Q1 at m5
     generalize Sl.g 8 Ev.c q9=Q2 at m5
     refine ⟨⟨hdb,hdt⟩,o++[.rows 6 1 [],.rows 8 1 [],.rows 3 1 [],.rows 11 1 [],.rows 2 1 [],.cells [.g (.int .i64 trev),.g (.int .i64 tlow),.g T1,.g T2,.g (.int .i64 tnext),.g T3,.g T4,.g T5,.g (.int .i64 tclock)],.rows 6 1 [],.rows 8 1 [],.cells [.g (.int .i64 7),.g (.int .i64 rwho),.g (.int .i64 rseq),.g (.int .i64 0),.g (.int .i64 0),.g (.int .i64 0),.g (.bool false),.g .nsl,.g .nsl],.cells [.g (.int .i64 urev),.g (.int .i64 ulow),.g U1,.g U2,.g (.int .i64 unext),.g U3,.g U4,.g U5,.g (.int .i64 uclock)],.cells [.g (.int .i64 q1),.g (.int .i64 q2),.g (.int .i64 q3),.g (.int .i64 q4),.g (.int .i64 q5),.g (.int .i64 q6),.g (.bool q7),.g Q1,.g Q2]],?_⟩
     simp -implicitDefEqProofs [hkl,hy2,hlen,e2,e3,e4,m1,m2,m3,m6,m4,m5,live10,Req.c,pends,ptrCons]
  ·have hx2:x=none:=by
    rw [List.getElem?_append_right (by simpa using hkl)] at hx
    simp only [List.length_map] at hx
    rw [show k - l.l.length=0 by omega] at hx
    simpa using hx.symm
   subst hx2
   rw [show onceO l k none t = .inl t from rfl]
   simp only
   have e3:(k:Int)≤(l.l.length:Int):=by omega
   have e4:¬(k:Int)<(l.l.length:Int):=by omega
   generalize Reqs.g l=G at hlen ⊢
   obtain ⟨⟨trev,tlow,tbase,tlog⟩,⟨tnext,tl⟩,⟨tml,tmo⟩,tclock⟩:=t
   obtain ⟨rkind,rwho,rseq,ronce,rkey,rvalue,rlease,rrev,rttl,rtoken,riff,rthn,rels⟩:=r
   obtain ⟨p1,p2,p3,p4,p5,p6,p7,p8,p9⟩:=p
   simp only [errR] at ha m6
   refine ⟨⟨hB.mono (by omega),hT⟩,?_⟩
   clear hB hT hb ht
   delta L8_0
   rcases ha with ha | ha
   ·rw [ha] at m1
    simp only [A,Server.c,Req.c,Reply.c,KVs.g,Evs.g,Sl.g_nil,List.map_cons,List.map_nil] at m1 m2 m3 m6 ⊢
    generalize Sl.g 6 KV.c tbase=T1 at m1 m2 ⊢
    generalize Sl.g 8 Ev.c tlog=T2 at m1 m2 ⊢
    generalize LeaseL.g tl=T3 at m1 m2 ⊢
    generalize MemoL.g tml=T4 at m1 m2 ⊢
    generalize Floors.g tmo=T5 at m1 m2 ⊢
    generalize Cmps.g riff=R1 at m1 ⊢
    generalize Muts.g rthn=R2 at m1 ⊢
    generalize Muts.g rels=R3 at m1 ⊢
    generalize Sl.g 6 KV.c p8=P1 at m1 m3 m6 ⊢
    generalize Sl.g 8 Ev.c p9=P2 at m1 m3 m6 ⊢
    refine ⟨o++[.rows 6 1 [],.rows 8 1 [],.rows 3 1 [],.rows 11 1 [],.rows 2 1 [],.cells [.g (.int .i64 trev),.g (.int .i64 tlow),.g T1,.g T2,.g (.int .i64 tnext),.g T3,.g T4,.g T5,.g (.int .i64 tclock)],.rows 6 1 [],.rows 8 1 [],.cells [.g (.int .i64 p1),.g (.int .i64 p2),.g (.int .i64 p3),.g (.int .i64 p4),.g (.int .i64 p5),.g (.int .i64 p6),.g (.bool p7),.g P1,.g P2]],?_⟩
    simp -implicitDefEqProofs [hlen,e2,e3,e4,m1,m2,m3,m6,Req.c,pends,ptrCons]
   ·rw [ha] at m1
    simp only [A,Server.c,Req.c,Reply.c,KVs.g,Evs.g,Sl.g_nil,List.map_cons,List.map_nil] at m1 m2 m3 m6 ⊢
    generalize Sl.g 6 KV.c tbase=T1 at m1 m2 ⊢
    generalize Sl.g 8 Ev.c tlog=T2 at m1 m2 ⊢
    generalize LeaseL.g tl=T3 at m1 m2 ⊢
    generalize MemoL.g tml=T4 at m1 m2 ⊢
    generalize Floors.g tmo=T5 at m1 m2 ⊢
    generalize Cmps.g riff=R1 at m1 ⊢
    generalize Muts.g rthn=R2 at m1 ⊢
    generalize Muts.g rels=R3 at m1 ⊢
    generalize Sl.g 6 KV.c p8=P1 at m1 m3 m6 ⊢
    generalize Sl.g 8 Ev.c p9=P2 at m1 m3 m6 ⊢
    refine ⟨o++[.rows 6 1 [],.rows 8 1 [],.rows 3 1 [],.rows 11 1 [],.rows 2 1 [],.cells [.g (.int .i64 trev),.g (.int .i64 tlow),.g T1,.g T2,.g (.int .i64 tnext),.g T3,.g T4,.g T5,.g (.int .i64 tclock)],.rows 6 1 [],.rows 8 1 [],.cells [.g (.int .i64 7),.g (.int .i64 rwho),.g (.int .i64 rseq),.g (.int .i64 0),.g (.int .i64 0),.g (.int .i64 0),.g (.bool false),.g .nsl,.g .nsl]],?_⟩
    simp -implicitDefEqProofs [hlen,e2,e3,e4,m1,m2,m3,m6,Req.c,pends,ptrCons]
theorem ServerOnce_law (x0:Server) (x1:Req) (x2:Sl Req) (w0:x0.wf) (w1:x1.wf) (w2:(∀y∈x2.l,y.wf)∧x2.l.length≤9223372036854775807):EvF tab 8 [A x0.c,A x1.c,.g (Reqs.g x2)] []=some ⟨.g (.bool true),[],[]⟩:=by
 have m0:=fun H=>few10_ev x0 x1 w0 w1 H
 have hlen:∀h s,lenV h s (.g (Reqs.g x2))=some x2.l.length:=fun h s=>lenV_Sl ..
 refine EvF_walk t8 (by simp) ?_
 cases hf:few10 x0 x1
 ·rw [hf] at m0
  generalize Reqs.g x2=G at hlen ⊢
  obtain ⟨⟨srev,slow,sbase,slog⟩,⟨lnext,ll⟩,⟨ml,mo⟩,clock⟩:=x0
  obtain ⟨rkind,rwho,rseq,ronce,rkey,rvalue,rlease,rrev,rttl,rtoken,riff,rthn,rels⟩:=x1
  simp only [A,Server.c,Req.c,List.map_cons,List.map_nil] at m0 ⊢
  simp -implicitDefEqProofs [m0,live10,hlen]
 rw [hf] at m0
 by_cases hl:x2.l.length≤12
 case neg =>
  have hl2:12<(x2.l.length:Int):=by omega
  generalize Reqs.g x2=G at hlen ⊢
  obtain ⟨⟨srev,slow,sbase,slog⟩,⟨lnext,ll⟩,⟨ml,mo⟩,clock⟩:=x0
  obtain ⟨rkind,rwho,rseq,ronce,rkey,rvalue,rlease,rrev,rttl,rtoken,riff,rthn,rels⟩:=x1
  simp only [A,Server.c,Req.c,List.map_cons,List.map_nil] at m0 ⊢
  simp -implicitDefEqProofs [m0,live10,hlen,hl2]
 have hl2:¬12<(x2.l.length:Int):=by omega
 obtain ⟨hb,hss⟩:=few_big w0 hf
 have w3:(onceR x1).wf:=w1
 have hd:=do_done hb (by omega) w3
 have m1:=fun H=>SDo_ev (hb.doOk (by omega) w3) H
 have m2:=fun H=>SameV_ev x0 x0 (.refl _) hss (by have:=(big_small hb).2;omega) w0.2.2.1 H
 by_cases hc:(doP x0 (onceR x1)).2.code=0
 ·obtain ⟨ht,hr⟩:=told_first hb (by omega) w3 rfl hc
  have hw:=fun b0 b2 b3 b4 b5 b6 b8 b9=>once10_loop (onceR x1) (doP x0 (onceR x1)).2 rfl hr w3 hd.wf hc x2 w2.1 hl (doP x0 (onceR x1)).1 hd.big ht b0 b2 b3 b4 b5 b6 b8 b9
  obtain ⟨R,o',hw⟩:=hw (.cells (x0.c.map .g)) (.rows 6 1 []) (.rows 8 1 []) (.rows 3 1 []) (.rows 11 1 []) (.rows 2 1 []) (.rows 6 1 []) (.rows 8 1 [])
  clear ht hd hr hb hss hf w3
  generalize (doP x0 (onceR x1)).1=t at *
  generalize (doP x0 (onceR x1)).2=p at *
  generalize Reqs.g x2=G at hlen hw ⊢
  obtain ⟨⟨srev,slow,sbase,slog⟩,⟨lnext,ll⟩,⟨ml,mo⟩,clock⟩:=x0
  obtain ⟨rkind,rwho,rseq,ronce,rkey,rvalue,rlease,rrev,rttl,rtoken,riff,rthn,rels⟩:=x1
  obtain ⟨⟨trev,tlow,tbase,tlog⟩,⟨tnext,tl⟩,⟨tml,tmo⟩,tclock⟩:=t
  obtain ⟨p1,p2,p3,p4,p5,p6,p7,p8,p9⟩:=p
  simp only at hc
  subst hc
  simp only [A,onceR,Server.c,Req.c,Reply.c,List.map_cons,List.map_nil] at m0 m1 m2 hw ⊢
  rcases R with R | R
  ·simp only [endJ] at hw
   simp -implicitDefEqProofs [m0,m1,m2,hw,hlen,hl2,live10,pends]
  ·simp only [endJ] at hw
   simp -implicitDefEqProofs [m0,m1,m2,hw,hlen,hl2,live10,pends]
 ·obtain ⟨e1,e2⟩:=hd.err hc
  rw [e1] at m1
  clear hd hb hss hf w3 e2
  generalize (doP x0 (onceR x1)).2=p at *
  generalize Reqs.g x2=G at hlen ⊢
  obtain ⟨⟨srev,slow,sbase,slog⟩,⟨lnext,ll⟩,⟨ml,mo⟩,clock⟩:=x0
  obtain ⟨rkind,rwho,rseq,ronce,rkey,rvalue,rlease,rrev,rttl,rtoken,riff,rthn,rels⟩:=x1
  obtain ⟨p1,p2,p3,p4,p5,p6,p7,p8,p9⟩:=p
  simp only at hc
  simp only [A,onceR,Server.c,Req.c,Reply.c,List.map_cons,List.map_nil] at m0 m1 m2 ⊢
  simp -implicitDefEqProofs [m0,m1,m2,hlen,hl2,hc,live10,pends]
end Go.Proofs.YtndfdnlbljhlgaaGreat
end
