/- Part of the proof: what the functions answer, part 4 (SMvcc6, SMvcc7, SShort, SSame, SMvcc8, GAlike, SMemo9, GMemoS, STxn1, PMvcc1, PMvcc2, PMvcc3). No conditions. -/
import Derived.Test.YtndfdnlbljhlgaaGreatSPJ3
import Derived.Test.YtndfdnlbljhlgaaGreatTabA
import Derived.Test.YtndfdnlbljhlgaaGreatAMJ4
import Derived.KernelRfl
import Derived.Test.YtndfdnlbljhlgaaGreatSPJ1
import Derived.Test.YtndfdnlbljhlgaaGreatSPJ2
section
namespace Go.Proofs.YtndfdnlbljhlgaaGreat
open Go Go.AM Go.Proofs
set_option maxRecDepth 20000
set_option maxHeartbeats 4000000
set_option linter.unusedSimpArgs false
set_option linter.unusedVariables false
theorem CloneE_nil (H:List Blk):EvF tab 135 [.g .nsl] H=some ⟨.ms (H.length+1) 1 8 0 0,[],[.rows 8 1 [],.rows 8 1 []]⟩:=by
 refine EvF_walk t135 (by simp) ?_
 simp -implicitDefEqProofs
theorem CloneE_of (l:List Ev) (hl:l.length≤1000000) (H:List Blk):∃g,g ≠ 1∧EvF tab 135 [.g (.sl 8 (l.map Ev.c))] H=some ⟨.ms (H.length+1) g 8 0 l.length,[],[.rows 8 1 [],.rows 8 g (l.map Ev.c)]⟩:=by
 by_cases h:l=[]
 ·subst h
  refine ⟨2,by decide,?_⟩
  refine EvF_walk t135 (by simp) ?_
  simp -implicitDefEqProofs [appV]
 ·refine ⟨3,by decide,?_⟩
  refine EvF_walk t135 (by simp) ?_
  cases l with
  | nil=>exact absurd rfl h
  | cons x l =>
   simp only [List.length_cons] at hl
   simp -implicitDefEqProofs [appV,room,show l.length+1≤140737488355328 by omega,show (l.length+1)*80≤140737488355328 by omega]
theorem shr1_ev (e:Ev) (to:Int) {H:List Blk} {p:Nat} (hp:H[p]? = some (.cells [I to])):EvF tab 136 [A e.c,.ptr p 0] H=some ⟨B (decide (e.rev≤to)),[],[]⟩:=by
 have hlt:p<H.length:=(List.getElem?_eq_some_iff.1 hp).1
 have hg:H[p] = .cells [I to]:=(List.getElem?_eq_some_iff.1 hp).2
 refine EvF_walk t136 (by simp) ?_
 simp -implicitDefEqProofs [Ev.c,A,getB_old hlt,orB,hg,hp]
theorem idxM_ev (l:List Ev) (p:Ev→Bool) (fv:AV) (hl:l.length≤1000000) {H:List Blk} {id g:Nat} (hid:H[id]? = some (.rows 8 g (l.map Ev.c)))
  (hcall:∀x∈l,∀t,evCall (EvF tab) H [] ⟨t,[],[]⟩ fv [A x.c]=some (.g (.bool (p x)),⟨t,[],[]⟩,[])) :
  EvF tab 175 [.ms id g 8 0 l.length,fv] H=some ⟨I (idxG p 0 l),[],[]⟩:=by
 have hlt:id<H.length:=(List.getElem?_eq_some_iff.1 hid).1
 have hw:=loop_run (E:=EvF tab) (h:=H) (c:=L175_0) (lv:=[0,1,7,8]) (l:=l) (fun _ (_:Unit)=>True) (fun k x _=>if p x=true then .inr (.ret,⟨[(4,I k)],[],[]⟩) else .inl ())
  (fun k _=>⟨[(0,.ms id g 8 0 l.length),(1,fv),(7,I l.length),(8,I k)],[],[]⟩) (fun _=>(.exit 0,⟨[(0,.ms id g 8 0 l.length),(1,fv),(7,I l.length),(8,I l.length),(9,B false)],[],[]⟩)) (by simp)
  (fun k x _ hk hx hx' _ => ?_) (fun _ _=>by delta L175_0;simp -implicitDefEqProofs) l.length 0 () rfl (Nat.zero_le _) trivial
 ·have key:∀(l:List Ev) (k:Nat) (fin:Ex×St),endL (fun _=>fin) (runL (β:=Unit) (fun k x _=>if p x=true then .inr (.ret,⟨[(4,I k)],[],[]⟩) else .inl ()) k l ())=if l.any p=true then (.ret,⟨[(4,I (idxG p k l))],[],[]⟩) else fin:=by
   intro l
   induction l with
   | nil=>intro k fin;simp [runL,endL]
   | cons x l ih =>
    intro k fin
    simp only [runL,List.any_cons,idxG]
    by_cases hp:p x=true
    ·simp [hp,endL]
    ·simp only [hp,Bool.false_eq_true,if_false]
     rw [ih];simp
  rw [List.drop_zero,key] at hw
  refine EvF_walk t175 (by simp) ?_
  have e0:((0:Nat):Int)=0:=rfl
  rw [e0] at hw
  by_cases ha:l.any p=true
  ·rw [if_pos ha] at hw
   simp -implicitDefEqProofs [getB_old hlt,orB,hid,hw]
  ·rw [if_neg ha] at hw
   have hn:idxG p 0 l = -1:=by
    have:=mt (idxG_iff p l 0).1 ha
    clear hw key hid hcall
    have aux:∀(l:List Ev) k,¬l.any p=true→idxG p k l = -1:=by
     intro l
     induction l with
     | nil=>intro k _;rfl
     | cons x l ih=>intro k h;simp only [List.any_cons,Bool.or_eq_true,not_or] at h;unfold idxG;rw [if_neg h.1];exact ih _ h.2
    exact aux l 0 ha
   simp -implicitDefEqProofs [getB_old hlt,orB,hid,hw,hn]
 ·have hc:=hcall x (List.mem_of_getElem? hx)
  have e2:=wrap_succ hk (by omega)
  delta L175_0
  generalize hp:p x=b at hc
  obtain ⟨er,eg,ek⟩:=x
  simp only [A,Ev.c,List.map_cons,List.map_nil] at hc
  cases b
  ·simp -implicitDefEqProofs [getB_old hlt,orB,hid,hk,hx',Ev.c,hc,hp,e2]
  ·simp -implicitDefEqProofs [getB_old hlt,orB,hid,hk,hx',Ev.c,hc,hp,e2]
def stay (p:Ev→Bool) (b:List Ev×Bool) (x:Ev):List Ev×Bool:=if p x=true then b else (b.1++[x],true)
theorem stay_fin (p:Ev→Bool):∀(l:List Ev) (b:List Ev×Bool),(l.foldl (stay p) b).1=b.1++l.filter (fun x => !p x)
 | [],b=>by simp
 | x::l,b=>by
  rw [List.foldl_cons,stay_fin p l]
  unfold stay
  by_cases h:p x=true
  ·simp [h]
  ·simp [Bool.eq_false_iff.2 h]
def stayM (id g:Nat) (l:List Ev) (b:List Ev×Bool):List (Nat×Blk):=if b.2=true then [(id,.rows 8 g ((b.1++l.drop b.1.length).map Ev.c))] else []
theorem del_loop (l l1 l2:List Ev) (x0:Ev) (hll:l=l1++x0::l2) (p:Ev→Bool) (fv:AV) (hl:l.length≤1000000) {H:List Blk} {id g:Nat} (hid:H[id]? = some (.rows 8 g (l.map Ev.c)))
  (hcall:∀x∈l,∀t o m,(m=[]∨∃els,m=[(id,.rows 8 g els)])→evCall (EvF tab) H [] ⟨t,m,o⟩ fv [A x.c]=some (.g (.bool (p x)),⟨t,m,o⟩,[])) :
  ∃o,loopE (EvF tab) H L134_0 [0,1,5,6] ⟨[(0,.ms id g 8 0 l.length),(1,fv),(5,I l1.length),(6,I (l1.length+1:Nat))],[],[.rows 8 1 []]⟩ =
   some (.exit 0,⟨[(0,.ms id g 8 0 l.length),(1,fv),(5,I ((l2.foldl (stay p) (l1,false)).1.length)),(6,I l.length),(19,B false)],stayM id g l (l2.foldl (stay p) (l1,false)),.rows 8 1 []::o⟩):=by
 have hlt:id<H.length:=(List.getElem?_eq_some_iff.1 hid).1
 have hlen:l.length=l1.length+1+l2.length:=by rw [hll];simp;omega
 have hw:=loop_runJ (E:=EvF tab) (h:=H) (c:=L134_0) (lv:=[0,1,5,6]) (l:=l2) (β:=List Ev×Bool) (γ:=Unit) (fun k b=>b.1.length≤l1.length+k∧(b.2=false→b.1=l1)) (fun k x b => .inl (stay p b x))
  (fun k b o=>⟨[(0,.ms id g 8 0 l.length),(1,fv),(5,I b.1.length),(6,I (l1.length+1+k:Nat))],stayM id g l b,.rows 8 1 []::o⟩)
  (fun b o=>(.exit 0,⟨[(0,.ms id g 8 0 l.length),(1,fv),(5,I b.1.length),(6,I l.length),(19,B false)],stayM id g l b,.rows 8 1 []::o⟩))
  (fun _ o=>(.ret,⟨[],[],o⟩)) (by simp) (by simp) (fun k x b o hk hx hy hi => ?_) (fun b o hi => ?_) (l1,false) [] (by simp)
 ·obtain ⟨o',hw⟩:=hw
  rw [runG_fold] at hw
  exact ⟨o',hw⟩
 ·have e2:IntKind.i64.wrap (((l1.length+1+k:Nat):Int)+1)=((l1.length+1+(k+1):Nat):Int):=by rw [wrap_i64 (by omega) (by omega)];omega
  have hpos:l1.length+1+k<l.length:=by omega
  have hposI:((l1.length+1+k:Nat):Int)<(l.length:Int):=by omega
  have hgx:l[l1.length+1+k]? = some x:=by rw [hll,List.getElem?_append_right (by omega),show l1.length+1+k - l1.length=k+1 by omega,List.getElem?_cons_succ];exact hx
  have hgx2:l[l1.length+1+k]=x:=(List.getElem?_eq_some_iff.1 hgx).2
  have hc:=hcall x (List.mem_of_getElem? hgx)
  generalize hpp:p x=q at hc
  obtain ⟨r,w⟩:=b
  obtain ⟨hi1,hi2⟩:=hi
  simp only at hi1 hi2 ⊢
  have e5:IntKind.i64.wrap ((r.length:Int)+1)=((r.length:Int)+1):=wrap_i64 (by omega) (by omega)
  have hrl:r.length<l.length:=by omega
  obtain ⟨er,eg,ek⟩:=x
  simp only [A,Ev.c,List.map_cons,List.map_nil] at hc
  generalize hn:l1.length+1+k=n at e2 hpos hposI hgx hgx2 ⊢
  delta L134_0
  cases q
  ·have hs:stay p (r,w) ⟨er,eg,ek⟩=(r++[⟨er,eg,ek⟩],true):=by unfold stay;rw [hpp];rfl
   refine ⟨⟨by rw [hs];simp;omega,by rw [hs];simp⟩,o++[.cells (Ev.c ⟨er,eg,ek⟩ |>.map .g)],?_⟩
   rw [hs]
   cases w
   ·have hc2:=fun t o=>hc t o [] (.inl rfl)
    unfold stayM
    simp only [Bool.false_eq_true,if_false,if_true] at hc2 ⊢
    simp -implicitDefEqProofs [getB_old hlt,setB_old hlt,orB,hid,hpos,hposI,hgx2,Ev.c,hc2,e2,e5,hrl]
    have hr1:=hi2 rfl
    subst hr1
    rw [List.set_eq_take_append_cons_drop,if_pos (by simp;omega)]
    rw [←List.map_take,←List.map_drop,hll,List.take_left]
   ·obtain ⟨els,hels⟩:∃els,(r++l.drop r.length).map Ev.c=els:=⟨_,rfl⟩
    have hel:els.length=l.length:=by rw [←hels];simp;omega
    have hge:els[n]? = some (Ev.c ⟨er,eg,ek⟩):=by
     rw [←hels,List.getElem?_map,List.getElem?_append_right (by omega),List.getElem?_drop,show r.length+(n - r.length)=n by omega,hgx];rfl
    have hset:els.set r.length (Ev.c ⟨er,eg,ek⟩)=((r++[(⟨er,eg,ek⟩:Ev)])++l.drop (r.length+1)).map Ev.c:=by
     rw [←hels,List.map_append,List.set_append_right _ _ (by simp),List.length_map,Nat.sub_self,List.drop_eq_getElem_cons hrl]
     simp only [List.map_cons,List.set_cons_zero,List.map_append,List.map_nil,List.append_assoc,List.cons_append,List.nil_append]
    have hc2:=fun t o=>hc t o _ (.inr ⟨els,rfl⟩)
    unfold stayM
    simp only [if_true,List.length_append,List.length_cons,List.length_nil,Nat.zero_add] at hc2 ⊢
    rw [hels,←hset]
    have hpos':n<els.length:=by omega
    have hge2:els[n]=Ev.c ⟨er,eg,ek⟩:=(List.getElem?_eq_some_iff.1 hge).2
    simp only [Ev.c] at hge hge2
    have h8:∀hh:r.length<els.length,els[r.length].length=8:=by intro hh;subst hels;simp [Ev.c,KV.c]
    simp -implicitDefEqProofs [getB_old hlt,setB_old hlt,orB,hid,hpos,hpos',hposI,hel,hge,hge2,Ev.c,hc2,e2,e5,hrl]
    have h8:=h8 (by omega)
    exact ⟨by omega,by rw [List.drop_eq_nil_of_le (by omega)]⟩
  ·have hs:stay p (r,w) ⟨er,eg,ek⟩=(r,w):=by unfold stay;rw [hpp];rfl
   refine ⟨⟨by rw [hs];simp;omega,by rw [hs];exact hi2⟩,o++[.cells (Ev.c ⟨er,eg,ek⟩ |>.map .g)],?_⟩
   rw [hs]
   cases w
   ·have hc2:=fun t o=>hc t o [] (.inl rfl)
    unfold stayM
    simp only [Bool.false_eq_true,if_false,if_true] at hc2 ⊢
    simp -implicitDefEqProofs [getB_old hlt,setB_old hlt,orB,hid,hpos,hposI,hgx2,Ev.c,hc2,e2,e5,hrl]
   ·obtain ⟨els,hels⟩:∃els,(r++l.drop r.length).map Ev.c=els:=⟨_,rfl⟩
    have hel:els.length=l.length:=by rw [←hels];simp;omega
    have hge:els[n]? = some (Ev.c ⟨er,eg,ek⟩):=by
     rw [←hels,List.getElem?_map,List.getElem?_append_right (by omega),List.getElem?_drop,show r.length+(n - r.length)=n by omega,hgx];rfl
    have hc2:=fun t o=>hc t o _ (.inr ⟨els,rfl⟩)
    unfold stayM
    simp only [if_true,List.length_append,List.length_cons,List.length_nil,Nat.zero_add] at hc2 ⊢
    rw [hels]
    have hpos':n<els.length:=by omega
    have hge2:els[n]=Ev.c ⟨er,eg,ek⟩:=(List.getElem?_eq_some_iff.1 hge).2
    simp only [Ev.c] at hge hge2
    simp -implicitDefEqProofs [getB_old hlt,setB_old hlt,orB,hid,hpos,hpos',hposI,hel,hge,hge2,Ev.c,hc2,e2,e5,hrl]
 ·obtain ⟨r,w⟩:=b
  have e1:l1.length+1+l2.length=l.length:=hlen.symm
  rw [e1]
  delta L134_0
  unfold stayM
  cases w
  ·simp only [Bool.false_eq_true,if_false]
   simp -implicitDefEqProofs [getB_old hlt,orB,hid]
  ·simp only [if_true]
   simp -implicitDefEqProofs [getB_old hlt,orB,hid]
theorem idxG_neg (p:Ev→Bool):∀(l:List Ev) k,idxG p k l = -1→l.filter (fun x => !p x)=l
 | [],k,_=>rfl
 | x::l,k,h=>by
  unfold idxG at h
  by_cases hp:p x=true
  ·rw [if_pos hp] at h;omega
  ·rw [if_neg hp] at h
   simp only [List.filter_cons,Bool.eq_false_iff.2 hp,Bool.not_false,if_true,idxG_neg p l _ h]
theorem idxG_split (p:Ev→Bool):∀(l:List Ev) k,idxG p k l = -1∨∃l1 x l2,l=l1++x::l2∧idxG p k l=((k+l1.length:Nat):Int)∧p x=true∧l1.filter (fun x => !p x)=l1
 | [],k => .inl rfl
 | x::l,k=>by
  unfold idxG
  by_cases hp:p x=true
  ·exact .inr ⟨[],x,l,rfl,by rw [if_pos hp];simp,hp,rfl⟩
  ·rw [if_neg hp]
   rcases idxG_split p l (k+1) with h | ⟨l1,y,l2,h1,h2,h3,h4⟩
   ·exact .inl h
   ·exact .inr ⟨x::l1,y,l2,by rw [h1];rfl,by rw [h2];simp;omega,h3,by simp only [List.filter_cons,Bool.eq_false_iff.2 hp,Bool.not_false,if_true,h4]⟩
theorem stay_w (p:Ev→Bool):∀(l:List Ev) (b:List Ev×Bool),(l.foldl (stay p) b).2=false→(l.foldl (stay p) b).1=b.1
 | [],b,_=>rfl
 | x::l,b,h=>by
  rw [List.foldl_cons] at h ⊢
  rw [stay_w p l _ h]
  have h2:(stay p b x).2=false:=by
   have aux:∀(l:List Ev) (b:List Ev×Bool),b.2=true→(l.foldl (stay p) b).2=true:=by
    intro l
    induction l with
    | nil=>intro b h;exact h
    | cons x l ih=>intro b h;rw [List.foldl_cons];refine ih _ ?_;unfold stay;split;exact h;rfl
   cases hb:(stay p b x).2
   ·rfl
   ·rw [aux l _ hb] at h;cases h
  unfold stay at h2 ⊢
  split
  ·rfl
  ·rename_i hh;rw [if_neg hh] at h2;cases h2
theorem Del_ev (l:List Ev) (p:Ev→Bool) (fv:AV) (hl:l.length≤1000000) {H:List Blk} {id g:Nat} (hid:H[id]? = some (.rows 8 g (l.map Ev.c)))
  (hcall:∀x∈l,∀o' t o m,(m=[]∨∃els,m=[(id,.rows 8 g els)])→evCall (EvF tab) (H++o') [] ⟨t,m,o⟩ fv [A x.c]=some (.g (.bool (p x)),⟨t,m,o⟩,[])) :
  ∃m,(m=[]∧(l.filter fun x => !p x)=l∨∃z,m=[(id,.rows 8 g ((l.filter fun x => !p x).map Ev.c++z))]) ∧
   EvF tab 134 [.ms id g 8 0 l.length,fv] H=some ⟨.ms id g 8 0 (l.filter fun x => !p x).length,m,[]⟩:=by
 have hlt:id<H.length:=(List.getElem?_eq_some_iff.1 hid).1
 have h1:=fun o=>idxM_ev (H:=H++o) l p fv hl (by rw [List.getElem?_append_left hlt];exact hid) (fun x hx t=>hcall x hx o t [] [] (.inl rfl))
 rcases idxG_split p l 0 with hn | ⟨l1,x,l2,e1,e2,e3,e4⟩
 ·refine ⟨[],.inl ⟨rfl,idxG_neg p l 0 hn⟩,?_⟩
  rw [idxG_neg p l 0 hn]
  refine EvF_walk t134 (by simp) ?_
  rw [hn] at h1
  simp -implicitDefEqProofs [h1,hlt]
 ·obtain ⟨o,hw⟩:=del_loop l l1 l2 x e1 p fv hl hid (fun x hx t o m hm=>by have:=hcall x hx [] t o m hm;rw [List.append_nil] at this;exact this)
  have hf:=stay_fin p l2 (l1,false)
  have hfl:(l.filter fun x => !p x)=(l2.foldl (stay p) (l1,false)).1:=by
   rw [hf,e1,List.filter_append,List.filter_cons,e4,e3];rfl
  have hlen:l.length=l1.length+1+l2.length:=by rw [e1];simp;omega
  have hle:(l2.foldl (stay p) (l1,false)).1.length≤l.length:=by rw [←hfl];exact List.length_filter_le _ _
  rw [←hfl] at hw hle
  generalize hw0:l2.foldl (stay p) (l1,false)=b at hw hfl
  obtain ⟨r,w⟩:=b
  simp only at hfl
  rw [hfl] at hw hle ⊢
  rw [Nat.zero_add] at e2
  rw [e2] at h1
  have n1:IntKind.i64.wrap ((l1.length:Int)+1)=(l1.length:Int)+1:=wrap_i64 (by omega) (by omega)
  rw [show ((l1.length+1:Nat):Int)=(l1.length:Int)+1 by omega] at hw
  have n2:¬(l1.length:Int) = -1:=by omega
  refine ⟨[(id,.rows 8 g (r.map Ev.c++List.replicate (l.length - r.length) [.int .i64 0,.bool false,.str [],.str [],.int .i64 0,.int .i64 0,.int .i64 0,.int .i64 0]))],.inr ⟨_,rfl⟩,?_⟩
  refine EvF_walk t134 (by simp) ?_
  unfold stayM at hw
  have hrI:(r.length:Int)≤(l.length:Int):=by omega
  cases w
  ·have hr:r=l1:=by
    have:=stay_w p l2 (l1,false) (by rw [hw0])
    rw [hw0] at this;exact this
   subst hr
   have hidg:H[id] = .rows 8 g (l.map Ev.c):=(List.getElem?_eq_some_iff.1 hid).2
   have e9:List.take r.length (l.map Ev.c)=r.map Ev.c:=by rw [←List.map_take,e1,List.take_left]
   simp -implicitDefEqProofs [h1,hlt,n1,n2,hw,getB_old hlt,setB_old hlt,orB,hid,hidg,cutB,bnd,intOfA,hle,hrI,e9]
  ·simp -implicitDefEqProofs [h1,hlt,n1,n2,hw,getB_old hlt,setB_old hlt,orB,hid,cutB,bnd,intOfA,hle,hrI]
theorem shr1_call (to:Int) {HH:List Blk} {p id g:Nat} (hp:HH[p]? = some (.cells [I to])) (hne:id ≠ p) (x:Ev) (o':List Blk) (t:List (Nat×AV)) (o:List Blk) (m:List (Nat×Blk)) (hm:m=[]∨∃els,m=[(id,.rows 8 g els)]) :
  evCall (EvF tab) (HH++o') [] ⟨t,m,o⟩ (.fv 136 [.ptr p 0]) [A x.c]=some (B (decide (x.rev≤to)),⟨t,m,o⟩,[]):=by
 have hlt:p<HH.length:=(List.getElem?_eq_some_iff.1 hp).1
 have hf:(full (HH++o') ⟨t,m,o⟩)[p]? = some (.cells [I to]):=by
  rw [getB_full,getB_old (by rw [List.length_append];omega),List.getElem?_append_left hlt,hp]
  rcases hm with h | ⟨els,h⟩ <;> subst h
  ·rfl
  ·simp [hne,orB]
 have h1:=shr1_ev x to hf
 unfold evCall
 simp only [List.all_nil,if_true,hideB,List.cons_append,List.nil_append]
 rw [h1,fin_res,setAll_nil]
 simp
def shrE (s:Store) (to:Int):Int:=if to<0∨s.rev<to then 8 else if to<s.low then 9 else 0
def keepL (to:Int) (l:List Ev):List Ev:=l.filter fun x => !decide (x.rev≤to)
def keepR (to:Int):Sl Ev→Sl Ev
 | .nil => .nil
 | .of l => .of (keepL to l)
def shrS (s:Store) (to:Int):Store:=if shrE s to=0 then ⟨s.rev,to,foldR s.base s.log.l to,keepR to s.log⟩ else s
theorem Shrink_ev (s:Store) (to:Int) (hs:smallS s) (H:List Blk) :
  EvF tab 65 [A s.c,I to] H=some ⟨.tup [A (shrS s to).c,I (shrE s to)],[],[]⟩:=by
 have hs':=hs
 unfold smallS at hs'
 have m1:=fun H=>Fold_ev s.base s.log to (by omega) H
 refine EvF_walk t65 (by simp) ?_
 unfold shrS shrE
 obtain ⟨srev,slow,sbase,slog⟩:=s
 simp only at hs' m1 ⊢
 generalize hF:foldR sbase slog.l to=F at m1 ⊢
 generalize hg1:KVs.g sbase=G1 at m1
 generalize hg2:KVs.g F=G2 at m1
 by_cases c1:to<0
 ·simp -implicitDefEqProofs [A,Store.c,hg1,c1]
 ·by_cases c2:srev<to
  ·simp -implicitDefEqProofs [A,Store.c,hg1,c1,c2]
  ·by_cases c3:to<slow
   ·simp -implicitDefEqProofs [A,Store.c,hg1,c1,c2,c3]
   ·cases slog with
    | nil =>
     simp only [Evs.g,Sl.g_nil] at m1 ⊢
     have m3:=fun H=>CloneE_nil H
     obtain ⟨m,hm,m4⟩:=Del_ev [] (fun e=>decide (e.rev≤to)) (.fv 136 [.ptr (H.length+1) 0]) (by simp) (H:=H++[.cells [I srev,I to,.g G2,.g .nsl],.cells [I to],.rows 6 1 [],.rows 8 1 [],.cells [I 0,I 0,.ms (H.length+2) 1 6 0 0,.ms (H.length+3) 1 8 0 0],.rows 8 1 [],.rows 8 1 []]) (id:=H.length+6) (g:=1) (by simp) (fun x _ o' t o m hm=>shr1_call to (g:=1) (by simp) (by omega) x o' t o m hm)
     simp only [List.filter_nil,List.length_nil,List.map_nil,List.nil_append] at hm m4
     rcases hm with ⟨hm,-⟩ | ⟨z,hm⟩ <;> subst hm <;> simp -implicitDefEqProofs [A,Store.c,hg1,hg2,c1,c2,c3,m1,m3,m4,keepR]
    | of l =>
     simp only [Evs.g,Sl.g_of,Sl.l_of] at m1 hs' hF ⊢
     obtain ⟨g,hg,m3⟩:=CloneE_of l (by omega) (H++[.cells [I srev,I to,.g G2,.g (.sl 8 (l.map Ev.c))],.cells [I to],.rows 6 1 [],.rows 8 1 [],.cells [I 0,I 0,.ms (H.length+2) 1 6 0 0,.ms (H.length+3) 1 8 0 0]])
     obtain ⟨m,hm,m4⟩:=Del_ev l (fun e=>decide (e.rev≤to)) (.fv 136 [.ptr (H.length+1) 0]) (by omega) (H:=H++[.cells [I srev,I to,.g G2,.g (.sl 8 (l.map Ev.c))],.cells [I to],.rows 6 1 [],.rows 8 1 [],.cells [I 0,I 0,.ms (H.length+2) 1 6 0 0,.ms (H.length+3) 1 8 0 0],.rows 8 1 [],.rows 8 g (l.map Ev.c)]) (id:=H.length+6) (g:=g) (by simp) (fun x _ o' t o m hm=>shr1_call to (g:=g) (by simp) (by omega) x o' t o m hm)
     rw [show (l.filter fun e => !decide (e.rev≤to))=keepL to l from rfl] at hm m4
     have e5:List.take (keepL to l).length (List.map Ev.c (keepL to l))=List.map Ev.c (keepL to l):=List.take_of_length_le (by simp)
     rcases hm with ⟨hm,hk⟩ | ⟨z,hm⟩ <;> subst hm
     ·rw [hk] at m4
      simp -implicitDefEqProofs [A,Store.c,hg1,hg2,c1,c2,c3,m1,m3,m4,keepR,hg,hk,List.append_assoc,List.cons_append,List.nil_append]
      exact List.take_of_length_le (by simp)
     ·simp -implicitDefEqProofs [A,Store.c,hg1,hg2,c1,c2,c3,m1,m3,m4,keepR,hg,e5,List.append_assoc,List.cons_append,List.nil_append]
end Go.Proofs.YtndfdnlbljhlgaaGreat
end
section
namespace Go.Proofs.YtndfdnlbljhlgaaGreat
open Go Go.AM Go.Proofs
set_option maxRecDepth 20000
set_option maxHeartbeats 4000000
set_option linter.unusedSimpArgs false
set_option linter.unusedVariables false
def slotV (H:List Blk) (r:List Ev):AV:=if r=[] then .g .nsl else .ms (H.length+5) (r.length+1) 8 0 r.length
def rowV (r:List Ev):List Blk:=if r=[] then [] else [.rows 8 (r.length+1) (r.map Ev.c)]
def keepF (to:Int) (r:List Ev) (x:Ev):List Ev:=if x.rev≤to then r else r++[x]
theorem keepF_fin (to:Int):∀(l r:List Ev),l.foldl (keepF to) r=r++keepL to l
 | [],r=>by simp [keepL]
 | x::l,r=>by
  rw [List.foldl_cons,keepF_fin to l]
  unfold keepF keepL
  by_cases h:x.rev≤to <;> simp [h]
theorem shr2_loop (srev slow to:Int) (G1 G2:GV) (log:Sl Ev) (c3:Blk) (hl:log.l.length≤1000000) (H:List Blk) :
  loopE (EvF tab) H L69_0 [1,2,4,6,7] ⟨[(1,I to),(2,.ptr H.length 0),(4,.ptr (H.length+3) 0),(6,.ptr (H.length+4) 0),(7,I 0)],[],[.cells [I srev,I slow,.g G1,.g (Evs.g log)],.rows 6 1 [],.rows 8 1 [],c3,.cells [I srev,I to,.g G2,.g .nsl]]⟩ =
   some (.exit 0,⟨[(1,I to),(2,.ptr H.length 0),(4,.ptr (H.length+3) 0),(6,.ptr (H.length+4) 0),(7,I log.l.length),(36,B false)],[],[.cells [I srev,I slow,.g G1,.g (Evs.g log)],.rows 6 1 [],.rows 8 1 [],c3,.cells [I srev,I to,.g G2,slotV H (keepL to log.l)]]++rowV (keepL to log.l)⟩):=by
 have hw:=loop_runJ (E:=EvF tab) (h:=H) (c:=L69_0) (lv:=[1,2,4,6,7]) (l:=log.l) (β:=List Ev) (γ:=Unit) (fun k r=>r.length≤k) (fun k x r => .inl (keepF to r x))
  (fun k r o=>⟨[(1,I to),(2,.ptr H.length 0),(4,.ptr (H.length+3) 0),(6,.ptr (H.length+4) 0),(7,I k)],[],[.cells [I srev,I slow,.g G1,.g (Evs.g log)],.rows 6 1 [],.rows 8 1 [],c3,.cells [I srev,I to,.g G2,slotV H r]]++rowV r⟩)
  (fun r o=>(.exit 0,⟨[(1,I to),(2,.ptr H.length 0),(4,.ptr (H.length+3) 0),(6,.ptr (H.length+4) 0),(7,I log.l.length),(36,B false)],[],[.cells [I srev,I slow,.g G1,.g (Evs.g log)],.rows 6 1 [],.rows 8 1 [],c3,.cells [I srev,I to,.g G2,slotV H r]]++rowV r⟩))
  (fun _ o=>(.ret,⟨[],[],o⟩)) (by simp) (by simp) (fun k x r o hk hx hy hi => ?_) (fun r o _=>by delta L69_0;cases log <;> simp -implicitDefEqProofs) [] [] (by simp)
 ·obtain ⟨o',hw⟩:=hw
  rw [runG_fold,keepF_fin,List.nil_append] at hw
  exact hw
 ·have e2:=wrap_succ hk (by omega)
  delta L69_0
  cases log with
  | nil=>simp at hk
  | of l =>
   simp only [Sl.l_of] at hk hx hy hl ⊢
   obtain ⟨er,eg,ek⟩:=x
   unfold keepF
   simp only
   by_cases c1:er≤to
   ·refine ⟨by simp [c1];omega,o,?_⟩
    simp -implicitDefEqProofs [hk,hy,Ev.c,c1,e2,show ¬to<er by omega]
   ·have c2:to<er:=by omega
    refine ⟨by simp [c1];omega,o,?_⟩
    cases r with
    | nil=>simp -implicitDefEqProofs [hk,hy,Ev.c,c1,c2,e2,slotV,rowV,chunk,appV,room]
    | cons y r =>
     simp only [List.length_cons] at hi
     simp -implicitDefEqProofs [hk,hy,Ev.c,c1,c2,e2,slotV,rowV,chunk,appV,room,Nat.not_succ_le_self,show r.length+1+1≤140737488355328 by omega,show (r.length+1+1)*80≤140737488355328 by omega]
     exact List.take_of_length_le (by simp)
def shrS2 (s:Store) (to:Int):Store:=if shrE s to=0 then ⟨s.rev,to,foldR2 s.base s.log.l to,slOf (keepL to s.log.l)⟩ else s
theorem Shrink2_ev (s:Store) (to:Int) (hs:smallS s) (H:List Blk) :
  EvF tab 69 [A s.c,I to] H=some ⟨.tup [A (shrS2 s to).c,I (shrE s to)],[],[]⟩:=by
 have hs':=hs
 unfold smallS at hs'
 have m1:=fun H=>Fold2_ev s.base s.log to (by omega) H
 refine EvF_walk t69 (by simp) ?_
 unfold shrS2 shrE
 obtain ⟨srev,slow,sbase,slog⟩:=s
 simp only at hs' m1 ⊢
 generalize hF:foldR2 sbase slog.l to=F at m1 ⊢
 generalize hg1:KVs.g sbase=G1 at m1
 generalize hg2:KVs.g F=G2 at m1
 by_cases c1:to<0
 ·simp -implicitDefEqProofs [A,Store.c,hg1,c1]
 ·by_cases c2:srev<to
  ·simp -implicitDefEqProofs [A,Store.c,hg1,c1,c2]
  ·by_cases c3:to<slow
   ·simp -implicitDefEqProofs [A,Store.c,hg1,c1,c2,c3]
   ·have hw:=fun p=>shr2_loop srev slow to G1 G2 slog p (by omega) H
    generalize keepL to slog.l=r at hw ⊢
    unfold slotV rowV at hw
    unfold slOf
    cases r with
    | nil =>
     simp only [if_true,List.append_nil] at hw
     simp -implicitDefEqProofs [A,Store.c,hg1,hg2,c1,c2,c3,m1,pends,List.append_assoc,List.cons_append,List.nil_append,hw]
    | cons x r =>
     simp only [reduceCtorEq,if_false,List.cons_append,List.nil_append] at hw
     have e5:List.take (r.length+1) (x.c::List.map Ev.c r)=x.c::List.map Ev.c r:=List.take_of_length_le (by simp)
     simp -implicitDefEqProofs [A,Store.c,hg1,hg2,c1,c2,c3,m1,pends,List.append_assoc,List.cons_append,List.nil_append,hw,e5]
end Go.Proofs.YtndfdnlbljhlgaaGreat
end
section
namespace Go.Proofs.YtndfdnlbljhlgaaGreat
open Go Go.AM Go.Proofs
set_option maxRecDepth 20000
set_option maxHeartbeats 1000000
set_option linter.unusedSimpArgs false
set_option linter.unusedVariables false
end Go.Proofs.YtndfdnlbljhlgaaGreat
end
section
namespace Go.Proofs.YtndfdnlbljhlgaaGreat
open Go Go.AM Go.Proofs
set_option maxRecDepth 4000
set_option linter.unusedSimpArgs false
set_option linter.unusedVariables false
end Go.Proofs.YtndfdnlbljhlgaaGreat
end
section
namespace Go.Proofs.YtndfdnlbljhlgaaGreat
open Go Go.AM Go.Proofs
set_option maxRecDepth 20000
set_option maxHeartbeats 2000000
set_option linter.unusedSimpArgs false
set_option linter.unusedVariables false
theorem KVs_ev (a b:Sl KV) (hab:a.l=b.l) (hl:b.l.length≤9223372036854775807) (H:List Blk):EvF tab 54 [.g (KVs.g a),.g (KVs.g b)] H=some ⟨B true,[],[]⟩:=by
 have hw:loopE (EvF tab) H L54_0 [0,1,5] ⟨[(0,.g (KVs.g a)),(1,.g (KVs.g b)),(5,I 0)],[],[]⟩=some (.exit 0,⟨[(0,.g (KVs.g a)),(1,.g (KVs.g b)),(5,I b.l.length),(14,B false)],[],[]⟩):=by
  refine loop_cnt b.l.length (fun k=>⟨[(0,.g (KVs.g a)),(1,.g (KVs.g b)),(5,I k)],[],[]⟩) _ (by simp) (fun k hk => ?_) ?_
  ·delta L54_0
   have e2:=wrap_succ hk hl
   rcases Sl.both hab with ⟨l,⟨rfl,rfl⟩ | ⟨rfl,rfl,rfl⟩ | ⟨rfl,rfl,rfl⟩ | ⟨rfl,rfl,rfl⟩⟩
   ·simp only [Sl.l_of] at hk
    obtain ⟨x,hx⟩:∃x,l[k]=x:=⟨_,rfl⟩
    simp -implicitDefEqProofs [hk,hx,KV.c,e2]
   all_goals simp at hk
  ·delta L54_0
   rcases Sl.both hab with ⟨l,⟨rfl,rfl⟩ | ⟨rfl,rfl,rfl⟩ | ⟨rfl,rfl,rfl⟩ | ⟨rfl,rfl,rfl⟩⟩ <;> simp -implicitDefEqProofs
 refine EvF_walk t54 (by simp) ?_
 rcases Sl.both hab with ⟨l,⟨rfl,rfl⟩ | ⟨rfl,rfl,rfl⟩ | ⟨rfl,rfl,rfl⟩ | ⟨rfl,rfl,rfl⟩⟩ <;> simp at hw <;> simp -implicitDefEqProofs [hw]
theorem Events_ev (a b:Sl Ev) (hab:a.l=b.l) (hl:b.l.length≤9223372036854775807) (H:List Blk):EvF tab 55 [.g (Evs.g a),.g (Evs.g b)] H=some ⟨B true,[],[]⟩:=by
 have hw:loopE (EvF tab) H L55_0 [0,1,5] ⟨[(0,.g (Evs.g a)),(1,.g (Evs.g b)),(5,I 0)],[],[]⟩=some (.exit 0,⟨[(0,.g (Evs.g a)),(1,.g (Evs.g b)),(5,I b.l.length),(14,B false)],[],[]⟩):=by
  refine loop_cnt b.l.length (fun k=>⟨[(0,.g (Evs.g a)),(1,.g (Evs.g b)),(5,I k)],[],[]⟩) _ (by simp) (fun k hk => ?_) ?_
  ·delta L55_0
   have e2:=wrap_succ hk hl
   rcases Sl.both hab with ⟨l,⟨rfl,rfl⟩ | ⟨rfl,rfl,rfl⟩ | ⟨rfl,rfl,rfl⟩ | ⟨rfl,rfl,rfl⟩⟩
   ·simp only [Sl.l_of] at hk
    obtain ⟨x,hx⟩:∃x,l[k]=x:=⟨_,rfl⟩
    simp -implicitDefEqProofs [hk,hx,Ev.c,e2]
   all_goals simp at hk
  ·delta L55_0
   rcases Sl.both hab with ⟨l,⟨rfl,rfl⟩ | ⟨rfl,rfl,rfl⟩ | ⟨rfl,rfl,rfl⟩ | ⟨rfl,rfl,rfl⟩⟩ <;> simp -implicitDefEqProofs
 refine EvF_walk t55 (by simp) ?_
 rcases Sl.both hab with ⟨l,⟨rfl,rfl⟩ | ⟨rfl,rfl,rfl⟩ | ⟨rfl,rfl,rfl⟩ | ⟨rfl,rfl,rfl⟩⟩ <;> simp at hw <;> simp -implicitDefEqProofs [hw]
def sameS (a b:Store):Prop:=a.rev=b.rev∧a.low=b.low∧a.base.l=b.base.l∧a.log.l=b.log.l
theorem SameS_ev (a b:Store) (h:sameS a b) (hb:smallS b) (H:List Blk):EvF tab 38 [A a.c,A b.c] H=some ⟨B true,[],[]⟩:=by
 unfold smallS at hb
 obtain ⟨h1,h2,h3,h4⟩:=h
 have m1:=fun H=>KVs_ev a.base b.base h3 (by omega) H
 have m2:=fun H=>Events_ev a.log b.log h4 (by omega) H
 refine EvF_walk t38 (by simp) ?_
 obtain ⟨a1,a2,a3,a4⟩:=a
 obtain ⟨b1,b2,b3,b4⟩:=b
 simp only at h1 h2 m1 m2 ⊢
 subst h1 h2
 generalize hg1:KVs.g a3=g1 at m1
 generalize hg2:KVs.g b3=g2 at m1
 generalize hg3:Evs.g a4=g3 at m2
 generalize hg4:Evs.g b4=g4 at m2
 simp -implicitDefEqProofs [A,Store.c,hg1,hg2,hg3,hg4,m1,m2]
def fewS (s:Store):Bool:=(decide ((s.base.l.length:Int)≤40)&&allP shortKV s.base.l)&&(decide ((s.log.l.length:Int)≤70)&&allP shortEv s.log.l)
theorem FewS_ev (s:Store) (w:s.wf) (H:List Blk):EvF tab 32 [A s.c] H=some ⟨B (fewS s),[],[]⟩:=by
 obtain ⟨w1,w2,w3,w4⟩:=w
 have m1:=fun H=>Few_ev s.base w3.2 40 H
 have m2:=fun H=>FewEvents_ev s.log w4.2 70 H
 refine EvF_walk t32 (by simp) ?_
 unfold fewS
 generalize (decide ((s.base.l.length:Int)≤40)&&allP shortKV s.base.l)=b1 at m1 ⊢
 generalize (decide ((s.log.l.length:Int)≤70)&&allP shortEv s.log.l)=b2 at m2 ⊢
 obtain ⟨a1,a2,a3,a4⟩:=s
 simp only at m1 m2 ⊢
 generalize hg1:KVs.g a3=g1 at m1
 generalize hg3:Evs.g a4=g3 at m2
 cases b1 <;> simp -implicitDefEqProofs [A,Store.c,hg1,hg3,m1,m2]
end Go.Proofs.YtndfdnlbljhlgaaGreat
end
section
namespace Go.Proofs.YtndfdnlbljhlgaaGreat
open Go Go.AM Go.Proofs
set_option maxRecDepth 20000
set_option maxHeartbeats 1000000
set_option linter.unusedSimpArgs false
set_option linter.unusedVariables false
def sameRep (a b:Reply):Prop:=a.code=b.code∧a.who=b.who∧a.seq=b.seq∧a.rev=b.rev∧a.lease=b.lease∧a.ttl=b.ttl∧a.yes=b.yes∧a.kvs.l=b.kvs.l∧a.events.l=b.events.l
theorem Alike_ev (a b:Reply) (hs:sameRep a b) (h1:b.kvs.l.length≤9223372036854775807) (h2:b.events.l.length≤9223372036854775807) (H:List Blk) :
  EvF tab 23 [A a.c,A b.c] H=some ⟨B true,[],[]⟩:=by
 refine EvF_walk t23 (by simp) ?_
 obtain ⟨a1,a2,a3,a4,a5,a6,a7,a8,a9⟩:=a
 obtain ⟨b1,b2,b3,b4,b5,b6,b7,b8,b9⟩:=b
 obtain ⟨s1,s2,s3,s4,s5,s6,s7,s8,s9⟩:=hs
 simp only at s1 s2 s3 s4 s5 s6 s7 s8 s9
 subst s1 s2 s3 s4 s5 s6 s7
 have m1:=fun H=>KVs_ev a8 b8 s8 h1 H
 have m2:=fun H=>Events_ev a9 b9 s9 h2 H
 generalize hg1:KVs.g a8=g1 at m1
 generalize hg2:KVs.g b8=g2 at m1
 generalize hg3:Evs.g a9=g3 at m2
 generalize hg4:Evs.g b9=g4 at m2
 simp -implicitDefEqProofs [A,Reply.c,hg1,hg2,hg3,hg4,m1,m2]
end Go.Proofs.YtndfdnlbljhlgaaGreat
end
section
namespace Go.Proofs.YtndfdnlbljhlgaaGreat
open Go Go.AM Go.Proofs
set_option maxRecDepth 20000
set_option maxHeartbeats 8000000
set_option linter.unusedSimpArgs false
set_option linter.unusedVariables false
def int64G (v:Int):GV := .int .i64 v
def cntM (b:List (Int×Int)):List (GV×Option GV):=b.map (kvG int64G)
def metG (p:Int×Int):List GV×Option GV:=([.int .i64 p.1,.int .i64 p.2],some (.bool true))
theorem findM2_met (w s:Int):∀(met:List (Int×Int)),findM2 [.i,.i] [.int .i64 w,.int .i64 s] (met.map metG)=some (if met.contains (w,s)=true then some (met.findIdx (· == (w,s))) else none)
 | []=>rfl
 | p::met=>by
  obtain ⟨a,b⟩:=p
  have ih:=findM2_met w s met
  rw [List.map_cons]
  unfold findM2
  simp only [metG,List.map_cons,List.map_nil,eqL,eqG,if_true,Bool.and_true]
  by_cases h:w=a∧s=b
  ·obtain ⟨rfl,rfl⟩:=h
   simp [List.findIdx_cons]
  ·have hb:(w==a&&s==b)=false:=by
    rw [Bool.eq_false_iff];intro hh;rw [Bool.and_eq_true] at hh
    exact h ⟨by simpa using hh.1,by simpa using hh.2⟩
   rw [hb,ih]
   have hne:¬((a,b):Int×Int)=(w,s):=fun e=>by cases e;exact h ⟨rfl,rfl⟩
   have hc:((a,b)::met).contains (w,s)=met.contains (w,s):=by
    rw [Bool.eq_iff_iff,List.contains_iff_mem,List.contains_iff_mem,List.mem_cons]
    exact ⟨fun h=>h.elim (fun e=>absurd e.symm hne) id,.inr⟩
   rw [hc]
   have hne2:(((a,b):Int×Int)==(w,s))=false:=by simpa using hne
   cases hq:met.contains (w,s)
   ·simp
   ·simp [List.findIdx_cons,hne2]
theorem mget2_met (w s:Int) (met:List (Int×Int)):mgetV2 false [.i,.i] (some (.bool false)) [.int .i64 w,.int .i64 s] (met.map metG)=some (.g (.bool (met.contains (w,s)))):=by
 unfold mgetV2
 rw [if_pos (by simp),findM2_met]
 cases hq:met.contains (w,s)
 ·simp [mvV]
 ·have hlt:met.findIdx (· == (w,s))<met.length:=by
   rw [List.findIdx_lt_length]
   exact ⟨(w,s),List.contains_iff_mem.1 hq,by simp⟩
  simp only [if_true]
  rw [List.getElem?_map,List.getElem?_eq_getElem hlt]
  simp [mvV,metG]
theorem mset2_met (w s:Int) (met:List (Int×Int)) (h:met.contains (w,s)=false):msetV2 [.i,.i] [.int .i64 w,.int .i64 s] (some (.bool true)) (met.map metG)=some ((met++[(w,s)]).map metG):=by
 unfold msetV2
 rw [if_pos (by simp),findM2_met,h]
 simp [metG]
theorem cnt_get (b:List (Int×Int)) (k:Int):mgetV false .i (some (.int .i64 0)) (.int .i64 k) (cntM b)=some (I (cntN b k)):=by
 have:=mget_kv int64G k (.int .i64 0) false b
 unfold cntM
 rw [this]
 simp only [Bool.false_eq_true,if_false]
 unfold cntN
 cases getA k b <;> rfl
theorem cnt_get2 (b:List (Int×Int)) (k:Int):mgetV true .i (some (.int .i64 0)) (.int .i64 k) (cntM b)=some (.tup [I (cntN b k),B (getA k b).isSome]):=by
 have:=mget_kv int64G k (.int .i64 0) true b
 unfold cntM
 rw [this]
 simp only [if_true]
 unfold cntN
 cases getA k b <;> rfl
theorem cnt_set (b:List (Int×Int)) (k v:Int):msetV .i (.int .i64 k) (some (.int .i64 v)) (cntM b)=some (cntM (setA k v b)):=mset_kv int64G k v b
theorem cntN_set (b:List (Int×Int)) (k v:Int):cntN (setA k v b) k=v:=by unfold cntN;rw [getA_set,if_pos rfl];rfl
theorem runG_fl:∀(l:List Floor) (k:Nat) (b:List (Int×Int)),runG (fun _ (x:Floor) b=>flF b x) k l b=match goFl l b with | some b' => .inl b' | none => .inr ():=by
 intro l
 induction l with
 | nil=>intro k b;rfl
 | cons x l ih =>
  intro k b
  unfold runG goFl flF
  by_cases h:(getA x.who b).isSome=true
  ·simp [h]
  ·simp only [h,if_false,Bool.false_eq_true]
   exact ih _ _
def meF (F:List (Int×Int)) (b:List (Int×Int)×List (Int×Int)) (x:Memo):(List (Int×Int)×List (Int×Int))⊕Unit :=
 if badM F b.1 x=true then .inr () else if 4<cntN b.2 x.who+1 then .inr () else .inl (b.1++[mkey x],setA x.who (cntN b.2 x.who+1) b.2)
theorem runG_me (F:List (Int×Int)):∀(l:List Memo) (k:Nat) (b:List (Int×Int)×List (Int×Int)),(∃b',runG (fun _ (x:Memo) b=>meF F b x) k l b = .inl b'∧goMe F l b.1 b.2=true)∨(runG (fun _ (x:Memo) b=>meF F b x) k l b = .inr ()∧goMe F l b.1 b.2=false):=by
 intro l
 induction l with
 | nil=>intro k b;exact .inl ⟨b,rfl,rfl⟩
 | cons x l ih =>
  intro k b
  unfold runG goMe meF
  by_cases h:badM F b.1 x=true
  ·right;simp [h]
  ·simp only [h,if_false,Bool.false_eq_true]
   by_cases h4:4<cntN b.2 x.who+1
   ·right;simp [h4]
   ·simp only [h4,if_false]
    exact ih _ _
theorem badM_eq (F:List (Int×Int)) (met:List (Int×Int)) (x:Memo):badM F met x=(met.contains (mkey x)||((getA x.who F).isSome&&decide (x.seq≤cntN F x.who))):=by
 unfold badM cntN
 cases getA x.who F <;> rfl
theorem MMay_ev (m:Memos) (wf:m.wf) (hl:m.l.l.length+m.old.l.length≤5000) (H:List Blk):EvF tab 58 [A m.c] H=some ⟨B (mayMe m.l.l m.old.l),[],[]⟩:=by
 have h1:=fun H=>Whos_ev m wf (by omega) H
 have hwl:∀h st,lenV h st (.g (Ints.g (slOf (whosP m.l.l m.old.l))))=some (whosP m.l.l m.old.l).length:=fun h st=>by rw [lenV_Sl,slOf_l]
 obtain ⟨ml,mo⟩:=m
 simp only at hl h1 hwl ⊢
 have hw:=loop_runJ (E:=EvF tab) (h:=H) (c:=L58_0) (lv:=[1,3,4,5,18,19,20]) (l:=mo.l) (β:=List (Int×Int)) (γ:=Unit) (fun _ _=>True) (fun _ x b=>flF b x)
  (fun k b o=>⟨[(1,.ptr H.length 0),(3,.mp (H.length+1)),(4,.mp (H.length+2)),(5,.mp (H.length+3)),(18,.g (Floors.g mo)),(19,I mo.l.length),(20,I k)],[],.cells ((Memos.c ⟨ml,mo⟩).map .g) :: .map (cntM b) :: .map2 [] :: .map []::o⟩)
  (fun b o=>(.exit 0,⟨[(1,.ptr H.length 0),(3,.mp (H.length+1)),(4,.mp (H.length+2)),(5,.mp (H.length+3)),(18,.g (Floors.g mo)),(19,I mo.l.length),(20,I mo.l.length),(21,B false)],[],.cells ((Memos.c ⟨ml,mo⟩).map .g) :: .map (cntM b) :: .map2 [] :: .map []::o⟩))
  (fun _ o=>(.ret,⟨[(2,B false)],[],o⟩)) (by simp) (by simp) (fun k x b o hk hx hy _ => ?_) (fun _ o _=>by delta L58_0;simp -implicitDefEqProofs) [] [] trivial
 have hw2:=fun F o0=>loop_runJ (E:=EvF tab) (h:=H) (c:=L58_1) (lv:=[1,3,4,5,39,40,41]) (l:=ml.l) (β:=List (Int×Int)×List (Int×Int)) (γ:=Unit) (fun k b=>∀w,0≤cntN b.2 w∧cntN b.2 w≤k) (fun _ x b=>meF F b x)
  (fun k b o=>⟨[(1,.ptr H.length 0),(3,.mp (H.length+1)),(4,.mp (H.length+2)),(5,.mp (H.length+3)),(39,.g (MemoL.g ml)),(40,I ml.l.length),(41,I k)],[],.cells ((Memos.c ⟨ml,mo⟩).map .g) :: .map (cntM F) :: .map2 (b.1.map metG) :: .map (cntM b.2)::o⟩)
  (fun b o=>(.exit 2,⟨[(1,.ptr H.length 0),(3,.mp (H.length+1)),(4,.mp (H.length+2)),(5,.mp (H.length+3)),(39,.g (MemoL.g ml)),(40,I ml.l.length),(41,I ml.l.length),(42,B false)],[],.cells ((Memos.c ⟨ml,mo⟩).map .g) :: .map (cntM F) :: .map2 (b.1.map metG) :: .map (cntM b.2)::o⟩))
  (fun _ o=>(.ret,⟨[(2,B false)],[],o⟩)) (by simp) (by simp) (fun k x b o hk hx hy hi => ?_) (fun _ o _=>by delta L58_1;simp -implicitDefEqProofs) ([],[]) o0 (fun w=>by simp [cntN,getA])
 ·obtain ⟨o',hw⟩:=hw
  rw [runG_fl] at hw
  unfold mayMe
  refine EvF_walk t58 (by simp) ?_
  have hlen:∀h s,lenV h s (.g (MemoL.g ml))=some ml.l.length:=fun h s=>lenV_Sl ..
  have hlen2:∀h s,lenV h s (.g (Floors.g mo))=some mo.l.length:=fun h s=>lenV_Sl ..
  simp only [A,Memos.c,List.map_cons,List.map_nil] at hw hw2 h1 ⊢
  generalize MemoL.g ml=G1 at hw hw2 h1 hlen ⊢
  generalize Floors.g mo=G2 at hw hw2 h1 hlen2 ⊢
  rw [show cntM []=[] from rfl] at hw
  simp only [Int.ofNat_zero,Int.cast_ofNat_Int] at hw hw2
  cases hg:goFl mo.l [] with
  | none =>
   rw [hg] at hw
   simp only [endJ] at hw
   simp -implicitDefEqProofs [hw,hlen2]
  | some F =>
   rw [hg] at hw
   simp only [endJ] at hw
   obtain ⟨o2,hw2⟩:=hw2 F o'
   rw [show cntM []=[] from rfl] at hw2
   rcases runG_me F ml.l 0 ([],[]) with ⟨b',e1,e2⟩ | ⟨e1,e2⟩
   ·rw [e1] at hw2
    simp only at e2
    simp only [endJ] at hw2
    generalize Ints.g (slOf (whosP ml.l mo.l))=GW at h1 hwl
    by_cases h8:(whosP ml.l mo.l).length≤8
    ·have h8I:((whosP ml.l mo.l).length:Int)≤8:=by omega
     simp -implicitDefEqProofs [e2,hw,hw2,hlen,hlen2,h1,hwl,h8,h8I]
    ·have h8I:¬((whosP ml.l mo.l).length:Int)≤8:=by omega
     simp -implicitDefEqProofs [e2,hw,hw2,hlen,hlen2,h1,hwl,h8,h8I]
   ·rw [e1] at hw2
    simp only at e2
    simp only [endJ] at hw2
    simp -implicitDefEqProofs [e2,hw,hw2,hlen,hlen2]
 ·have e2:=wrap_succ hk (by omega)
  delta L58_1
  obtain ⟨met,cnt⟩:=b
  simp only at hi ⊢
  have g1:=cnt_get2 F x.who
  have g2:=mget2_met x.who x.seq met
  have g3:=cnt_get cnt x.who
  have g4:=cnt_set cnt x.who (cntN cnt x.who+1)
  have g5:=cnt_get (setA x.who (cntN cnt x.who+1) cnt) x.who
  rw [cntN_set] at g5
  have g6:=fun H=>mof_ev x H
  have hb:=hi x.who
  have e3:IntKind.i64.wrap (cntN cnt x.who+1)=cntN cnt x.who+1:=wrap_i64 (by omega) (by omega)
  cases ml with
  | nil=>simp at hk
  | of l =>
   simp only [Sl.l_of] at hk hy hl
   unfold meF
   simp only
   rw [badM_eq]
   cases hc:met.contains (mkey x)
   ·have g7:=mset2_met x.who x.seq met hc
    rw [show met.contains (x.who,x.seq)=met.contains (mkey x) from rfl,hc] at g2
    simp only [Bool.false_or]
    obtain ⟨xw,xs,x1,x2,x3,x4,x5,x6,x7,x8,x9⟩:=x
    simp only [mkey] at g7 hc ⊢
    simp only [A,Memo.c,List.map_cons,List.map_nil] at g1 g2 g3 g4 g5 g6 e3 hb ⊢
    have hnew:¬4<cntN cnt xw+1→∀w,0≤cntN (setA xw (cntN cnt xw+1) cnt) w∧cntN (setA xw (cntN cnt xw+1) cnt) w≤((k+1:Nat):Int):=fun _ w=>by
     have hw:=hi w
     unfold cntN at hw hb ⊢
     rw [getA_set]
     by_cases h:w=xw
     ·rw [if_pos h,Option.getD_some];omega
     ·rw [if_neg h];omega
    generalize hMC2:cntM (setA xw (cntN cnt xw+1) cnt)=MC2 at g4 g5
    generalize cntM cnt=MC at g3 g4 ⊢
    generalize cntM F=MF at g1 ⊢
    generalize hMM2:(met++[(xw,xs)]).map metG=MM2 at g7
    generalize met.map metG=MM at g2 g7 ⊢
    generalize cntN F xw=cf at g1 ⊢
    generalize (getA xw F).isSome=cb at g1 ⊢
    generalize hcc:cntN cnt xw=cc at g3 g4 g5 e3 hb hnew hMC2 ⊢
    cases cb
    ·simp only [Bool.false_and,Bool.false_eq_true,if_false]
     by_cases h4:4<cc+1
     ·rw [if_pos h4]
      refine ⟨.cells ((Memos.c ⟨.of l,mo⟩).map .g) :: .map MF :: .map2 MM2 :: .map MC2::(o++[.rows 6 1 [],.rows 8 1 [],.cells ((Memo.c ⟨xw,xs,x1,x2,x3,x4,x5,x6,x7,x8,x9⟩).map .g)]),?_⟩
      simp -implicitDefEqProofs [hk,hy,Memos.c,Memo.c,g1,g2,g3,g4,g5,g6,g7,e3,h4]
     ·rw [if_neg h4]
      refine ⟨hnew h4,o++[.rows 6 1 [],.rows 8 1 [],.cells ((Memo.c ⟨xw,xs,x1,x2,x3,x4,x5,x6,x7,x8,x9⟩).map .g)],?_⟩
      simp only
      rw [hMC2,hMM2]
      simp -implicitDefEqProofs [hk,hy,Memos.c,Memo.c,g1,g2,g3,g4,g5,g6,g7,e2,e3,h4]
    ·by_cases hq:xs≤cf
     ·simp only [hq,decide_true,Bool.and_self,if_true]
      refine ⟨.cells ((Memos.c ⟨.of l,mo⟩).map .g) :: .map MF :: .map2 MM :: .map MC::(o++[.rows 6 1 [],.rows 8 1 [],.cells ((Memo.c ⟨xw,xs,x1,x2,x3,x4,x5,x6,x7,x8,x9⟩).map .g)]),?_⟩
      simp -implicitDefEqProofs [hk,hy,Memos.c,Memo.c,g1,g2,g6,hq]
     ·simp only [hq,decide_false,Bool.and_false,Bool.false_eq_true,if_false]
      by_cases h4:4<cc+1
      ·rw [if_pos h4]
       refine ⟨.cells ((Memos.c ⟨.of l,mo⟩).map .g) :: .map MF :: .map2 MM2 :: .map MC2::(o++[.rows 6 1 [],.rows 8 1 [],.cells ((Memo.c ⟨xw,xs,x1,x2,x3,x4,x5,x6,x7,x8,x9⟩).map .g)]),?_⟩
       simp -implicitDefEqProofs [hk,hy,Memos.c,Memo.c,g1,g2,g3,g4,g5,g6,g7,e3,h4,hq]
      ·rw [if_neg h4]
       refine ⟨hnew h4,o++[.rows 6 1 [],.rows 8 1 [],.cells ((Memo.c ⟨xw,xs,x1,x2,x3,x4,x5,x6,x7,x8,x9⟩).map .g)],?_⟩
       simp only
       rw [hMC2,hMM2]
       simp -implicitDefEqProofs [hk,hy,Memos.c,Memo.c,g1,g2,g3,g4,g5,g6,g7,e2,e3,h4,hq]
   ·rw [show met.contains (x.who,x.seq)=met.contains (mkey x) from rfl,hc] at g2
    simp only [Bool.true_or,if_true]
    obtain ⟨xw,xs,x1,x2,x3,x4,x5,x6,x7,x8,x9⟩:=x
    simp only [A,Memo.c,List.map_cons,List.map_nil] at g1 g2 g6 ⊢
    generalize cntM F=MF at g1 ⊢
    generalize met.map metG=MM at g2 ⊢
    generalize cntM cnt=MC at ⊢
    generalize cntN F xw=cf at g1
    generalize (getA xw F).isSome=cb at g1
    refine ⟨.cells ((Memos.c ⟨.of l,mo⟩).map .g) :: .map MF :: .map2 MM :: .map MC::(o++[.rows 6 1 [],.rows 8 1 [],.cells ((Memo.c ⟨xw,xs,x1,x2,x3,x4,x5,x6,x7,x8,x9⟩).map .g)]),?_⟩
    simp -implicitDefEqProofs [hk,hy,Memos.c,Memo.c,g1,g2,g6]
 ·have e2:=wrap_succ hk (by omega)
  have g1:=cnt_get2 b x.who
  have g2:=cnt_set b x.who x.seq
  delta L58_0
  cases mo with
  | nil=>simp at hk
  | of l =>
   simp only [Sl.l_of] at hk hy hl
   obtain ⟨xw,xs⟩:=x
   unfold flF
   simp only at g1 g2 ⊢
   cases hc:(getA xw b).isSome
   ·rw [hc] at g1
    simp only [Bool.false_eq_true,if_false]
    refine ⟨trivial,o++[.cells ((Floor.c ⟨xw,xs⟩).map .g)],?_⟩
    generalize cntM (setA xw xs b)=M2 at g2 ⊢
    generalize cntM b=M1 at g1 g2 ⊢
    simp -implicitDefEqProofs [hk,hy,Memos.c,Floor.c,e2,g1,g2]
   ·rw [hc] at g1
    simp only [if_true]
    refine ⟨.cells ((Memos.c ⟨ml,.of l⟩).map .g) :: .map (cntM b) :: .map2 [] :: .map []::(o++[.cells ((Floor.c ⟨xw,xs⟩).map .g)]),?_⟩
    generalize cntM b=M1 at g1 ⊢
    simp -implicitDefEqProofs [hk,hy,Memos.c,Floor.c,e2,g1]
end Go.Proofs.YtndfdnlbljhlgaaGreat
end
section
namespace Go.Proofs.YtndfdnlbljhlgaaGreat
open Go Go.AM Go.Proofs
set_option maxRecDepth 20000
set_option maxHeartbeats 8000000
set_option linter.unusedSimpArgs false
set_option linter.unusedVariables false
def fewR (x:Memo):Bool:=(decide ((x.rep.kvs.l.length:Int)≤40)&&allP shortKV x.rep.kvs.l)&&(decide ((x.rep.events.l.length:Int)≤40)&&allP shortEv x.rep.events.l)
def fewM (m:Memos):Bool:=(decide (m.l.l.length≤40)&&decide (m.old.l.length≤20))&&allP fewR m.l.l
theorem FewM_ev (m:Memos) (wf:m.wf) (H:List Blk):EvF tab 33 [A m.c] H=some ⟨B (fewM m),[],[]⟩:=by
 obtain ⟨ml,mo⟩:=m
 obtain ⟨⟨w1,w2⟩,⟨w3,w4⟩⟩:=wf
 simp only at w1 w2 w3 w4
 have hw:=loop_all0 (E:=EvF tab) (h:=H) (c:=L33_0) (lv:=[1,3]) (l:=ml.l) fewR (fun k=>⟨[(1,.ptr H.length 0),(3,I k)],[],[.cells ((Memos.c ⟨ml,mo⟩).map .g)]⟩) (.exit 0,⟨[(1,.ptr H.length 0),(3,I ml.l.length),(18,B false)],[],[.cells ((Memos.c ⟨ml,mo⟩).map .g)]⟩) (.ret,⟨[(2,B false)],[],[.cells ((Memos.c ⟨ml,mo⟩).map .g)]⟩) (by simp) (by simp) (fun k x hk hx hy => ?_) (by delta L33_0;simp -implicitDefEqProofs [Memos.c])
 ·refine EvF_walk t33 (by simp) ?_
  unfold fewM
  simp only [Memos.c,List.map_cons,List.map_nil,Int.ofNat_zero,Int.cast_ofNat_Int] at hw
  have hlen:∀h s,lenV h s (.g (MemoL.g ml))=some ml.l.length:=fun h s=>lenV_Sl ..
  have hlen2:∀h s,lenV h s (.g (Floors.g mo))=some mo.l.length:=fun h s=>lenV_Sl ..
  generalize hg1:MemoL.g ml=G1 at hw hlen
  generalize hg2:Floors.g mo=G2 at hw hlen2
  by_cases c1:ml.l.length≤40
  ·have c1I:¬(40:Int)<(ml.l.length:Int):=by omega
   by_cases c2:mo.l.length≤20
   ·have c2I:¬(20:Int)<(mo.l.length:Int):=by omega
    cases hs:allP fewR ml.l <;> rw [hs] at hw <;> simp only [Bool.false_eq_true,if_true,if_false] at hw
    ·simp -implicitDefEqProofs [A,Memos.c,hg1,hg2,hlen,hlen2,hw,c1,c2,c1I,c2I]
    ·simp -implicitDefEqProofs [A,Memos.c,hg1,hg2,hlen,hlen2,hw,c1,c2,c1I,c2I]
   ·have c2I:(20:Int)<(mo.l.length:Int):=by omega
    simp -implicitDefEqProofs [A,Memos.c,hg1,hg2,hlen,hlen2,c1,c2,c1I,c2I]
  ·have c1I:(40:Int)<(ml.l.length:Int):=by omega
   simp -implicitDefEqProofs [A,Memos.c,hg1,hg2,hlen,c1,c1I]
 ·have e2:=wrap_succ hk w2
  have hxw:=w1 x (List.mem_of_getElem? hx)
  obtain ⟨_,_,r1,r2,r3,r4,r5,r6,⟨_,r7⟩,⟨_,r8⟩⟩:=hxw
  have f1:=fun H=>Few_ev x.rep.kvs r7 40 H
  have f2:=fun H=>FewEvents_ev x.rep.events r8 40 H
  delta L33_0
  unfold fewR
  generalize (decide ((x.rep.kvs.l.length:Int)≤40)&&allP shortKV x.rep.kvs.l)=b1 at f1 ⊢
  generalize (decide ((x.rep.events.l.length:Int)≤40)&&allP shortEv x.rep.events.l)=b2 at f2 ⊢
  cases ml with
  | nil=>simp at hk
  | of l =>
   simp only [Sl.l_of] at hk hy
   obtain ⟨xw,xs,x1,x2,x3,x4,x5,x6,x7,x8,x9⟩:=x
   simp only at f1 f2
   generalize hgk:KVs.g x8=GK at f1
   generalize hge:Evs.g x9=GE at f2
   cases b1
   ·simp -implicitDefEqProofs [hk,hy,Memos.c,Memo.c,hgk,hge,f1]
   ·cases b2
    ·simp -implicitDefEqProofs [hk,hy,Memos.c,Memo.c,hgk,hge,f1,f2]
    ·simp -implicitDefEqProofs [hk,hy,Memos.c,Memo.c,hgk,hge,f1,f2,e2]
theorem fewM_small {m:Memos} (h:fewM m=true):m.l.l.length≤40∧m.old.l.length≤20:=by
 unfold fewM at h
 simp only [Bool.and_eq_true,decide_eq_true_eq] at h
 exact ⟨h.1.1,h.1.2⟩
theorem sameRep_self (r:Reply):sameRep r r:=⟨rfl,rfl,rfl,rfl,rfl,rfl,rfl,rfl,rfl⟩
theorem AlikeS_ev (r:Reply) (wr:r.wf) (H:List Blk):EvF tab 23 [A r.c,A r.c] H=some ⟨B true,[],[]⟩:=Alike_ev r r (sameRep_self r) wr.2.2.2.2.2.2.1.2 wr.2.2.2.2.2.2.2.2 H
theorem SameM_ev (a b:Memos) (h1:a.l.l=b.l.l) (h2:a.old.l=b.old.l) (wf:b.wf) (H:List Blk):EvF tab 40 [A a.c,A b.c] H=some ⟨B true,[],[]⟩:=by
 obtain ⟨al,ao⟩:=a
 obtain ⟨bl,bo⟩:=b
 obtain ⟨⟨w1,w2⟩,⟨w3,w4⟩⟩:=wf
 simp only at h1 h2 w1 w2 w3 w4
 have hw:loopE (EvF tab) H L40_0 [2,3,5] ⟨[(2,.ptr H.length 0),(3,.ptr (H.length+1) 0),(5,I 0)],[],[.cells ((Memos.c ⟨al,ao⟩).map .g),.cells ((Memos.c ⟨bl,bo⟩).map .g)]⟩ =
   some (.exit 0,⟨[(2,.ptr H.length 0),(3,.ptr (H.length+1) 0),(5,I bl.l.length),(27,B false)],[],[.cells ((Memos.c ⟨al,ao⟩).map .g),.cells ((Memos.c ⟨bl,bo⟩).map .g)]⟩):=by
  refine loop_cnt bl.l.length (fun k=>⟨[(2,.ptr H.length 0),(3,.ptr (H.length+1) 0),(5,I k)],[],_⟩) _ (by simp) (fun k hk => ?_) ?_
  ·delta L40_0
   have e2:=wrap_succ hk w2
   have hal:=fun (hk:k<bl.l.length) H=>AlikeS_ev bl.l[k].rep (w1 bl.l[k] (List.getElem_mem hk)).2.2 H
   rcases Sl.both h1 with ⟨l,⟨rfl,rfl⟩ | ⟨rfl,rfl,rfl⟩ | ⟨rfl,rfl,rfl⟩ | ⟨rfl,rfl,rfl⟩⟩
   ·simp only [Sl.l_of] at hk hal
    have hal:=hal hk
    obtain ⟨x,hx⟩:∃x,l[k]=x:=⟨_,rfl⟩
    rw [hx] at hal
    obtain ⟨xw,xs,x1,x2,x3,x4,x5,x6,x7,x8,x9⟩:=x
    simp only [A,Reply.c,List.map_cons,List.map_nil] at hal
    simp -implicitDefEqProofs [hk,hx,Memos.c,Memo.c,e2,hal]
   all_goals simp at hk
  ·delta L40_0
   rcases Sl.both h1 with ⟨l,⟨rfl,rfl⟩ | ⟨rfl,rfl,rfl⟩ | ⟨rfl,rfl,rfl⟩ | ⟨rfl,rfl,rfl⟩⟩ <;> simp -implicitDefEqProofs [Memos.c]
 have hw2:loopE (EvF tab) H L40_1 [2,3,6] ⟨[(2,.ptr H.length 0),(3,.ptr (H.length+1) 0),(6,I 0)],[],[.cells ((Memos.c ⟨al,ao⟩).map .g),.cells ((Memos.c ⟨bl,bo⟩).map .g)]⟩ =
   some (.exit 2,⟨[(2,.ptr H.length 0),(3,.ptr (H.length+1) 0),(6,I bo.l.length),(78,B false)],[],[.cells ((Memos.c ⟨al,ao⟩).map .g),.cells ((Memos.c ⟨bl,bo⟩).map .g)]⟩):=by
  refine loop_cnt bo.l.length (fun k=>⟨[(2,.ptr H.length 0),(3,.ptr (H.length+1) 0),(6,I k)],[],_⟩) _ (by simp) (fun k hk => ?_) ?_
  ·delta L40_1
   have e2:=wrap_succ hk w4
   rcases Sl.both h2 with ⟨l,⟨rfl,rfl⟩ | ⟨rfl,rfl,rfl⟩ | ⟨rfl,rfl,rfl⟩ | ⟨rfl,rfl,rfl⟩⟩
   ·simp only [Sl.l_of] at hk
    obtain ⟨x,hx⟩:∃x,l[k]=x:=⟨_,rfl⟩
    simp -implicitDefEqProofs [hk,hx,Memos.c,Floor.c,e2]
   all_goals simp at hk
  ·delta L40_1
   rcases Sl.both h2 with ⟨l,⟨rfl,rfl⟩ | ⟨rfl,rfl,rfl⟩ | ⟨rfl,rfl,rfl⟩ | ⟨rfl,rfl,rfl⟩⟩ <;> simp -implicitDefEqProofs [Memos.c]
 have l1:∀h s,lenV h s (.g (MemoL.g al))=some bl.l.length:=fun h s=>by rw [lenV_Sl,h1]
 have l2:∀h s,lenV h s (.g (MemoL.g bl))=some bl.l.length:=fun h s=>lenV_Sl ..
 have l3:∀h s,lenV h s (.g (Floors.g ao))=some bo.l.length:=fun h s=>by rw [lenV_Sl,h2]
 have l4:∀h s,lenV h s (.g (Floors.g bo))=some bo.l.length:=fun h s=>lenV_Sl ..
 refine EvF_walk t40 (by simp) ?_
 simp only [A,Memos.c,List.map_cons,List.map_nil] at hw hw2 ⊢
 generalize MemoL.g al=G1 at hw hw2 l1 ⊢
 generalize MemoL.g bl=G2 at hw hw2 l2 ⊢
 generalize Floors.g ao=G3 at hw hw2 l3 ⊢
 generalize Floors.g bo=G4 at hw hw2 l4 ⊢
 simp -implicitDefEqProofs [hw,hw2,l1,l2,l3,l4]
end Go.Proofs.YtndfdnlbljhlgaaGreat
end
section
namespace Go.Proofs.YtndfdnlbljhlgaaGreat
open Go Go.AM Go.Proofs
set_option maxRecDepth 20000
set_option maxHeartbeats 2000000
set_option linter.unusedSimpArgs false
set_option linter.unusedVariables false
def cmpI (a b:Int):Int:=if a<b then -1 else if b<a then 1 else 0
def cmpS (a b:Bs):Int:=if Op.bytesLess a b=true then -1 else if Op.bytesLess b a=true then 1 else 0
theorem nanI_ev (a:Int) (H:List Blk):EvF tab 224 [I a] H=some ⟨B false,[],[]⟩:=by
 refine EvF_walk t224 (by simp) ?_
 simp -implicitDefEqProofs
theorem nanS_ev (a:Bs) (H:List Blk):EvF tab 232 [T a] H=some ⟨B false,[],[]⟩:=by
 refine EvF_walk t232 (by simp) ?_
 simp -implicitDefEqProofs
theorem cmpI_ev (a b:Int) (H:List Blk):EvF tab 230 [I a,I b] H=some ⟨I (cmpI a b),[],[]⟩:=by
 refine EvF_walk t230 (by simp) ?_
 unfold cmpI
 by_cases h1:a<b
 ·simp -implicitDefEqProofs [nanI_ev,h1]
 ·by_cases h2:b<a <;> simp -implicitDefEqProofs [nanI_ev,h1,h2]
theorem cmpS_ev (a b:Bs) (H:List Blk):EvF tab 231 [T a,T b] H=some ⟨I (cmpS a b),[],[]⟩:=by
 refine EvF_walk t231 (by simp) ?_
 unfold cmpS
 rcases bl_tri a b with h | h | h
 ·simp -implicitDefEqProofs [nanS_ev,h]
 ·subst h
  simp -implicitDefEqProofs [nanS_ev,bl_irrefl]
 ·simp -implicitDefEqProofs [nanS_ev,h,bl_asymm h,(bl_ne h).symm]
def qArg (c:Cmp) (x:KV):AV := .agg ((c.c++x.c).map .g)
theorem qCreate_ev (c:Cmp) (x:KV) (H:List Blk):EvF tab 225 [qArg c x] H=some ⟨I (cmpI x.create c.n),[],[]⟩:=by
 refine EvF_walk t225 (by simp) ?_
 simp -implicitDefEqProofs [qArg,Cmp.c,KV.c,cmpI_ev]
theorem qMod_ev (c:Cmp) (x:KV) (H:List Blk):EvF tab 226 [qArg c x] H=some ⟨I (cmpI x.mod c.n),[],[]⟩:=by
 refine EvF_walk t226 (by simp) ?_
 simp -implicitDefEqProofs [qArg,Cmp.c,KV.c,cmpI_ev]
theorem qVersion_ev (c:Cmp) (x:KV) (H:List Blk):EvF tab 227 [qArg c x] H=some ⟨I (cmpI x.version c.n),[],[]⟩:=by
 refine EvF_walk t227 (by simp) ?_
 simp -implicitDefEqProofs [qArg,Cmp.c,KV.c,cmpI_ev]
theorem qValue_ev (c:Cmp) (x:KV) (H:List Blk):EvF tab 228 [qArg c x] H=some ⟨I (cmpS x.value c.value),[],[]⟩:=by
 refine EvF_walk t228 (by simp) ?_
 simp -implicitDefEqProofs [qArg,Cmp.c,KV.c,cmpS_ev]
def askOk (c:Cmp):Bool:=decide (1≤c.what)&&(decide (c.what≤4)&&(decide (1≤c.how)&&decide (c.how≤3)))
theorem tmay_ev (c:Cmp) (H:List Blk):EvF tab 186 [A c.c] H=some ⟨B (askOk c),[],[]⟩:=by
 refine EvF_walk t186 (by simp) ?_
 unfold askOk
 obtain ⟨k,w,h,n,v⟩:=c
 simp only
 by_cases h1:1≤w
 ·by_cases h2:w≤4
  ·by_cases h3:1≤h
   ·by_cases h4:h≤3 <;> simp -implicitDefEqProofs [A,Cmp.c,h1,h2,h3,h4]
   ·simp -implicitDefEqProofs [A,Cmp.c,h1,h2,h3]
  ·simp -implicitDefEqProofs [A,Cmp.c,h1,h2]
 ·simp -implicitDefEqProofs [A,Cmp.c,h1]
def numP (how a b:Int):Bool:=(decide (how=1)&&decide (a=b))||((decide (how=2)&&decide (a<b))||(decide (how=3)&&decide (b<a)))
def strP (how:Int) (a b:Bs):Bool:=(decide (how=1)&&a==b)||((decide (how=2)&&Op.bytesLess a b)||(decide (how=3)&&Op.bytesLess b a))
def holdsP (l:List KV) (c:Cmp):Bool :=
 if c.what=1 then numP c.how (findX l c.key).create c.n else if c.what=2 then numP c.how (findX l c.key).mod c.n else
 if c.what=3 then numP c.how (findX l c.key).version c.n else if c.what=4 then strP c.how (findX l c.key).value c.value else false
theorem ways_ev (H:List Blk):EvF tab 218 [] H=some ⟨.agg [.g .nfn,.g (.fn 225),.g (.fn 226),.g (.fn 227),.g (.fn 228)],[],[.cells [.g .nfn,.g (.fn 225),.g (.fn 226),.g (.fn 227),.g (.fn 228)]]⟩:=by
 refine EvF_walk t218 (by simp) ?_
 simp -implicitDefEqProofs
theorem cmpI_num {a b:Int}:(cmpI a b==0)=decide (a=b)∧(cmpI a b == -1)=decide (a<b)∧(cmpI a b==1)=decide (b<a):=by
 unfold cmpI
 by_cases h1:a<b
 ·rw [if_pos h1];exact ⟨by simp;omega,by simp [h1],by simp;omega⟩
 ·rw [if_neg h1]
  by_cases h2:b<a
  ·rw [if_pos h2];exact ⟨by simp;omega,by simp;omega,by simp [h2]⟩
  ·rw [if_neg h2];exact ⟨by simp;omega,by simp;omega,by simp;omega⟩
theorem cmpS_num {a b:Bs}:(cmpS a b==0)=(a==b)∧(cmpS a b == -1)=Op.bytesLess a b∧(cmpS a b==1)=Op.bytesLess b a:=by
 unfold cmpS
 rcases bl_tri a b with h | h | h
 ·simp [h,bl_asymm h,bl_ne h]
 ·subst h;simp [bl_irrefl]
 ·simp [h,bl_asymm h,(bl_ne h).symm]
theorem Holds_ev (s:Sl KV) (c:Cmp) (hl:s.l.length≤9223372036854775807) (H:List Blk):EvF tab 203 [.g (KVs.g s),A c.c] H=some ⟨B (askOk c&&holdsP s.l c),[],[]⟩:=by
 have h1:=fun H=>Find_ev s c.key hl H
 have h2:=fun H=>tmay_ev c H
 refine EvF_walk t203 (by simp) ?_
 unfold holdsP
 generalize findX s.l c.key=x at h1 ⊢
 generalize findB s.l c.key=b at h1
 have q1:=fun H=>qCreate_ev c x H
 have q2:=fun H=>qMod_ev c x H
 have q3:=fun H=>qVersion_ev c x H
 have q4:=fun H=>qValue_ev c x H
 obtain ⟨x1,x2,x3,x4,x5,x6⟩:=x
 cases ho:askOk c
 ·rw [ho] at h2
  obtain ⟨k,w,h,n,v⟩:=c
  simp only [A,KV.c,Cmp.c,qArg,List.cons_append,List.nil_append,List.map_cons,List.map_nil] at h1 h2 ⊢
  simp -implicitDefEqProofs [h2]
 ·rw [ho] at h2
  unfold askOk at ho
  simp only [Bool.and_eq_true,decide_eq_true_eq] at ho
  obtain ⟨k,w,h,n,v⟩:=c
  simp only [A,KV.c,Cmp.c,qArg,List.cons_append,List.nil_append,List.map_cons,List.map_nil] at h1 h2 q1 q2 q3 q4 ho ⊢
  have hw:w=1∨w=2∨w=3∨w=4:=by omega
  have hh:h=1∨h=2∨h=3:=by omega
  obtain ⟨n1,n2,n3⟩:=cmpI_num (a:=x3) (b:=n)
  obtain ⟨n4,n5,n6⟩:=cmpI_num (a:=x4) (b:=n)
  obtain ⟨n7,n8,n9⟩:=cmpI_num (a:=x5) (b:=n)
  obtain ⟨s1,s2,s3⟩:=cmpS_num (a:=x2) (b:=v)
  rcases hw with rfl | rfl | rfl | rfl <;> rcases hh with rfl | rfl | rfl <;> simp -implicitDefEqProofs [zres,h1,h2,ways_ev,q1,q2,q3,q4,numP,strP,n1,n2,n3,n4,n5,n6,n7,n8,n9,s1,s2,s3]
end Go.Proofs.YtndfdnlbljhlgaaGreat
end
section
namespace Go.Proofs.YtndfdnlbljhlgaaGreat
open Go Go.AM Go.Proofs
set_option linter.unusedSimpArgs false
set_option linter.unusedVariables false
set_option linter.defProp false
def getK:List KV→Bs→Option KV
 | [],_=>none
 | y::l,k=>if y.key=k then some y else getK l k
def Srt (l:List KV):Prop:=l.Pairwise fun a b=>Op.bytesLess a.key b.key=true
theorem getK_some {k:Bs} {x:KV}:∀{l:List KV},getK l k=some x→x∈l∧x.key=k
 | [],h=>by simp [getK] at h
 | y::l,h=>by
  unfold getK at h
  split at h
  ·rename_i hk;cases h;exact ⟨List.mem_cons_self,hk⟩
  ·obtain ⟨h1,h2⟩:=getK_some h;exact ⟨List.mem_cons_of_mem _ h1,h2⟩
theorem getK_no {k:Bs}:∀{l:List KV},(∀x∈l,x.key ≠ k)→getK l k=none
 | [],_=>rfl
 | y::l,h=>by
  unfold getK
  rw [if_neg (h y List.mem_cons_self)]
  exact getK_no fun x hx=>h x (List.mem_cons_of_mem _ hx)
theorem findN_get (k:Bs):∀(l:List KV) i,match findN k i l with | some j=>i≤j∧∃x,l[j - i]? = some x∧getK l k=some x | none=>getK l k=none
 | [],i=>rfl
 | y::l,i=>by
  unfold findN getK
  by_cases h:y.key=k
  ·simp [h]
  ·simp only [if_neg h]
   have:=findN_get k l (i+1)
   split at this
   ·rename_i j hj
    obtain ⟨h1,x,h2,h3⟩:=this
    refine ⟨by omega,x,?_,h3⟩
    rw [show j - i=(j - (i+1))+1 by omega,List.getElem?_cons_succ];exact h2
   ·exact this
theorem findB_get (l:List KV) (k:Bs):findB l k=(getK l k).isSome:=by
 have:=findN_get k l 0
 unfold findB
 split at this
 ·rename_i j hj
  obtain ⟨-,x,-,h⟩:=this
  rw [hj,h];rfl
 ·rename_i hj
  rw [hj,this];rfl
theorem findX_get (l:List KV) (k:Bs):findX l k=(getK l k).getD kv0:=by
 have:=findN_get k l 0
 unfold findX
 split at this
 ·rename_i j hj
  obtain ⟨-,x,h1,h⟩:=this
  rw [Nat.sub_zero] at h1
  rw [hj,h];simp only [h1]
 ·rename_i hj
  rw [hj,this];rfl
theorem Srt.cons {y:KV} {l:List KV}:Srt (y::l)↔(∀x∈l,Op.bytesLess y.key x.key=true)∧Srt l:=List.pairwise_cons
theorem layP_lt {x:KV} {y:KV} {l:List KV} (h1:∀z∈l,Op.bytesLess y.key z.key=true) (h:Op.bytesLess y.key x.key=true):∀z∈layP l x,Op.bytesLess y.key z.key=true:=by
 intro z hz
 rcases mem_layP hz with hz | rfl
 ·exact h1 z hz
 ·exact h
theorem layP_srt (x:KV):∀{l:List KV},Srt l→Srt (layP l x)
 | [],_=>List.pairwise_singleton _ _
 | y::l,hs=>by
  obtain ⟨h1,h2⟩:=Srt.cons.1 hs
  unfold layP
  split
  ·rename_i h
   exact Srt.cons.2 ⟨layP_lt h1 h,layP_srt x h2⟩
  ·rename_i h
   split
   ·rename_i hk
    exact Srt.cons.2 ⟨fun z hz=>by rw [←hk];exact h1 z hz,h2⟩
   ·rename_i hk
    have hlt:Op.bytesLess x.key y.key=true:=by
     rcases bl_tri y.key x.key with h3 | h3 | h3
     ·exact absurd h3 h
     ·exact absurd h3 hk
     ·exact h3
    refine Srt.cons.2 ⟨fun z hz => ?_,hs⟩
    rcases List.mem_cons.1 hz with rfl | hz
    ·exact hlt
    ·exact bl_trans _ _ _ hlt (h1 z hz)
theorem layP_get (x:KV) (k:Bs):∀{l:List KV},Srt l→getK (layP l x) k=if k=x.key then some x else getK l k
 | [],_=>by
  unfold layP getK getK
  by_cases h:k=x.key
  ·rw [if_pos h,if_pos h.symm]
  ·rw [if_neg h,if_neg (fun e=>h e.symm)]
 | y::l,hs=>by
  obtain ⟨h1,h2⟩:=Srt.cons.1 hs
  unfold layP
  split
  ·rename_i h
   unfold getK
   rw [layP_get x k h2]
   by_cases hy:y.key=k
   ·rw [if_pos hy,if_pos hy,if_neg (fun e=>bl_ne h (hy.trans e))]
   ·rw [if_neg hy,if_neg hy]
  ·rename_i h
   split
   ·rename_i hk
    unfold getK
    by_cases hx:k=x.key
    ·rw [if_pos hx,if_pos hx.symm]
    ·rw [if_neg hx,if_neg (fun e=>hx e.symm),if_neg (fun e=>hx (e.symm.trans hk))]
   ·rename_i hk
    rw [show getK (x::y::l) k=if x.key=k then some x else getK (y::l) k from rfl]
    by_cases hx:k=x.key
    ·rw [if_pos hx,if_pos hx.symm]
    ·rw [if_neg hx,if_neg (fun e=>hx e.symm)]
theorem takeP_sub (k:Bs):∀(l:List KV),(takeP l k).Sublist l
 | []=>List.Sublist.slnil
 | y::l=>by
  unfold takeP
  split
  ·exact List.sublist_cons_self _ _
  ·exact (takeP_sub k l).cons_cons _
theorem takeP_srt (k:Bs) {l:List KV} (h:Srt l):Srt (takeP l k):=List.Pairwise.sublist (takeP_sub k l) h
theorem takeP_get (k' k:Bs):∀{l:List KV},Srt l→getK (takeP l k') k=if k=k' then none else getK l k
 | [],_=>by unfold takeP getK;split <;> rfl
 | y::l,hs=>by
  obtain ⟨h1,h2⟩:=Srt.cons.1 hs
  unfold takeP
  split
  ·rename_i hk
   by_cases h:k=k'
   ·rw [if_pos h,h,←hk]
    exact getK_no fun x hx=>(bl_ne (h1 x hx)).symm
   ·rw [if_neg h]
    rw [show getK (y::l) k=if y.key=k then some y else getK l k from rfl,if_neg (fun e=>h (e.symm.trans hk))]
  ·rename_i hk
   rw [show getK (y::takeP l k') k=if y.key=k then some y else getK (takeP l k') k from rfl,takeP_get k' k h2]
   rw [show getK (y::l) k=if y.key=k then some y else getK l k from rfl]
   by_cases h:k=k'
   ·rw [if_pos h,if_pos h,if_neg (fun e=>hk (e.trans h))]
   ·rw [if_neg h,if_neg h]
theorem oneOk_key {x:KV} (h:oneOk x=true):1≤x.key.length:=by
 simp only [oneOk,keyOk,Bool.and_eq_true,decide_eq_true_eq] at h
 exact h.1.1.1
theorem mayG_iff:∀(l:List KV) (last:Bs),mayG last l=true↔(∀x∈l,oneOk x=true∧Op.bytesLess last x.key=true)∧Srt l
 | [],last=>by simp [mayG,Srt]
 | x::l,last=>by
  unfold mayG
  rw [Bool.and_eq_true,Bool.and_eq_true,mayG_iff l x.key,Srt.cons]
  constructor
  ·rintro ⟨⟨h1,h2⟩,h3,h4⟩
   refine ⟨fun z hz => ?_,fun z hz=>(h3 z hz).2,h4⟩
   rcases List.mem_cons.1 hz with rfl | hz
   ·exact ⟨h1,h2⟩
   ·exact ⟨(h3 z hz).1,bl_trans _ _ _ h2 (h3 z hz).2⟩
  ·rintro ⟨h1,h2,h3⟩
   exact ⟨h1 x List.mem_cons_self,fun z hz=>⟨(h1 z (List.mem_cons_of_mem _ hz)).1,h2 z hz⟩,h3⟩
theorem mayL_iff (l:List KV):mayL l=true↔(∀x∈l,oneOk x=true)∧Srt l:=by
 unfold mayL
 rw [mayG_iff]
 constructor
 ·rintro ⟨h1,h2⟩;exact ⟨fun x hx=>(h1 x hx).1,h2⟩
 ·rintro ⟨h1,h2⟩
  refine ⟨fun x hx=>⟨h1 x hx,?_⟩,h2⟩
  have:=oneOk_key (h1 x hx)
  cases hq:x.key with
  | nil=>rw [hq] at this;simp at this
  | cons a b=>rfl
def actP (l:List KV) (e:Ev):List KV:=if e.gone=true then takeP l e.kv.key else layP l e.kv
theorem stepP_le {rev:Int} {l:List KV} {e:Ev} (h:e.rev≤rev):stepP rev l e=actP l e:=by unfold stepP actP;rw [if_neg (by omega)]
theorem stepP_gt {rev:Int} {l:List KV} {e:Ev} (h:rev<e.rev):stepP rev l e=l:=by unfold stepP;rw [if_pos h]
theorem foldP_le {rev:Int}:∀{a:List Ev} {l:List KV},(∀e∈a,e.rev≤rev)→foldP l a rev=a.foldl actP l
 | [],l,_=>rfl
 | e::a,l,h=>by
  have:=foldP_le (a:=a) (l:=actP l e) (rev:=rev) fun x hx=>h x (List.mem_cons_of_mem _ hx)
  unfold foldP at this ⊢
  rw [List.foldl_cons,List.foldl_cons,stepP_le (h e List.mem_cons_self)];exact this
theorem foldP_gt {rev:Int}:∀{a:List Ev} {l:List KV},(∀e∈a,rev<e.rev)→foldP l a rev=l
 | [],l,_=>rfl
 | e::a,l,h=>by
  have:=foldP_gt (a:=a) (l:=l) (rev:=rev) fun x hx=>h x (List.mem_cons_of_mem _ hx)
  unfold foldP at this ⊢
  rw [List.foldl_cons,stepP_gt (h e List.mem_cons_self)];exact this
theorem foldP_app (l:List KV) (a b:List Ev) (rev:Int):foldP l (a++b) rev=foldP (foldP l a rev) b rev:=List.foldl_append
theorem actP_srt (e:Ev) {l:List KV} (h:Srt l):Srt (actP l e):=by
 unfold actP;split
 ·exact takeP_srt _ h
 ·exact layP_srt _ h
theorem actP_get (e:Ev) (k:Bs) {l:List KV} (h:Srt l):getK (actP l e) k=if k=e.kv.key then (if e.gone=true then none else some e.kv) else getK l k:=by
 unfold actP;split
 ·rw [takeP_get _ _ h]
 ·rw [layP_get _ _ h]
theorem mem_actP {l:List KV} {e:Ev} {y:KV} (h:y∈actP l e):y∈l∨(e.gone=false∧y=e.kv):=by
 unfold actP at h
 split at h
 ·exact .inl (mem_takeP h)
 ·rename_i hg
  rcases mem_layP h with h | h
  ·exact .inl h
  ·exact .inr ⟨Bool.eq_false_iff.2 hg,h⟩
theorem srt_ext {β:Type} (pr:KV→β) (hk:∀a b,pr a=pr b→a.key=b.key):∀{l m:List KV},Srt l→Srt m→(∀k,(getK l k).map pr=(getK m k).map pr)→l.map pr=m.map pr
 | [],[],_,_,_=>rfl
 | [],y::m,_,_,h=>by have:=h y.key;simp [getK] at this
 | x::l,[],_,_,h=>by have:=h x.key;simp [getK] at this
 | x::l,y::m,hl,hm,h=>by
  obtain ⟨l1,l2⟩:=Srt.cons.1 hl
  obtain ⟨m1,m2⟩:=Srt.cons.1 hm
  have hxy:pr x=pr y:=by
   have e1:=h x.key
   have e2:=h y.key
   by_cases hq:x.key=y.key
   ·simp only [getK,hq,if_true,Option.map_some,Option.some.injEq] at e1;exact e1
   ·have hq':¬y.key=x.key:=fun e=>hq e.symm
    simp only [getK,if_true,if_neg hq,if_neg hq',Option.map_some] at e1 e2
    cases g1:getK m x.key with
    | none=>rw [g1] at e1;cases e1
    | some z =>
     cases g2:getK l y.key with
     | none=>rw [g2] at e2;cases e2
     | some w =>
      obtain ⟨z1,z2⟩:=getK_some g1
      obtain ⟨w1,w2⟩:=getK_some g2
      have a1:=m1 z z1
      have a2:=l1 w w1
      rw [z2] at a1
      rw [w2] at a2
      rw [bl_asymm a1] at a2;cases a2
  have hkey:=hk _ _ hxy
  rw [List.map_cons,List.map_cons,hxy]
  congr 1
  refine srt_ext pr hk l2 m2 fun k => ?_
  have e:=h k
  by_cases hq:x.key=k
  ·rw [getK_no (l:=l) fun z hz=>by rw [←hq];exact (bl_ne (l1 z hz)).symm,getK_no (l:=m) fun z hz=>by rw [←hq,hkey];exact (bl_ne (m1 z hz)).symm]
  ·simp only [getK,if_neg hq,if_neg (show ¬y.key=k from fun e=>hq (hkey.trans e))] at e
   exact e
end Go.Proofs.YtndfdnlbljhlgaaGreat
end
section
namespace Go.Proofs.YtndfdnlbljhlgaaGreat
open Go Go.AM Go.Proofs
set_option linter.unusedSimpArgs false
set_option linter.unusedVariables false
set_option linter.defProp false
theorem oneOk_iff {x:KV}:oneOk x=true↔keyOk x.key=true∧x.value.length≤20∧(1≤x.create∧x.create≤1099511627775)∧(x.create≤x.mod∧x.mod≤1099511627775)∧1≤x.version∧x.version≤x.mod - x.create+1∧(0≤x.lease∧x.lease≤1099511627775):=by
 unfold oneOk numL
 simp only [Bool.and_eq_true,decide_eq_true_eq]
structure GoodK (l:List KV) (b:Int):Prop where
 one:∀x∈l,oneOk x=true∧x.mod≤b
 srt:Srt l
theorem logOk_cons {srev last:Int} {l:List KV} {e:Ev} {log:List Ev}:logOk srev l last (e::log)=true↔last≤e.rev∧e.rev≤srev∧rightP l e=true∧(actP l e).length≤30∧logOk srev (actP l e) e.rev log=true:=by
 rw [show logOk srev l last (e::log)=(okE srev l last e&&logOk srev (stepP e.rev l e) e.rev log) from rfl,stepP_le (Int.le_refl _)]
 unfold okE
 rw [stepP_le (Int.le_refl _)]
 simp only [Bool.and_eq_true,Bool.not_eq_true',Bool.or_eq_false_iff,decide_eq_false_iff_not,decide_eq_true_eq]
 constructor
 ·rintro ⟨⟨⟨⟨h1,h2⟩,h3⟩,h4⟩,h5⟩;exact ⟨by omega,by omega,h3,h4,h5⟩
 ·rintro ⟨h1,h2,h3,h4,h5⟩;exact ⟨⟨⟨⟨by omega,by omega⟩,h3⟩,h4⟩,h5⟩
theorem nextP_mod (l:List KV) (m:Mut) (rev:Int):(nextP l m rev).mod=rev:=by unfold nextP;split <;> rfl
theorem right_good {l:List KV} {b:Int} {e:Ev} (hg:GoodK l b) (hb:b≤e.rev) (hr:rightP l e=true):GoodK (actP l e) e.rev:=by
 refine ⟨fun y hy => ?_,actP_srt e hg.srt⟩
 rcases mem_actP hy with hy | ⟨hn,rfl⟩
 ·exact ⟨(hg.one y hy).1,by have:=(hg.one y hy).2;omega⟩
 ·unfold rightP at hr
  rw [if_neg (by rw [hn];exact Bool.false_ne_true)] at hr
  rw [Bool.and_eq_true,kvEq_iff] at hr
  refine ⟨hr.2,?_⟩
  have:=congrArg KV.mod hr.1
  rw [nextP_mod] at this
  omega
theorem logOk_good {srev:Int}:∀{log:List Ev} {l:List KV} {last b:Int},GoodK l b→b≤last→logOk srev l last log=true→∀B,b≤B→(∀e∈log,e.rev≤B)→GoodK (log.foldl actP l) B
 | [],l,last,b,hg,_,_,B,hB,_=>⟨fun x hx=>⟨(hg.one x hx).1,by have:=(hg.one x hx).2;omega⟩,hg.srt⟩
 | e::log,l,last,b,hg,hb,h,B,hB,hE=>by
  obtain ⟨h1,h2,h3,h4,h5⟩:=logOk_cons.1 h
  rw [List.foldl_cons]
  exact logOk_good (right_good hg (by omega) h3) (Int.le_refl _) h5 B (hE e List.mem_cons_self) fun x hx=>hE x (List.mem_cons_of_mem _ hx)
theorem logOk_all {srev:Int}:∀{log:List Ev} {l:List KV} {last:Int},logOk srev l last log=true→∀e∈log,last≤e.rev∧e.rev≤srev
 | [],_,_,_,e,he=>by cases he
 | e::log,l,last,h,x,hx=>by
  obtain ⟨h1,h2,h3,h4,h5⟩:=logOk_cons.1 h
  rcases List.mem_cons.1 hx with rfl | hx
  ·exact ⟨h1,h2⟩
  ·have:=logOk_all h5 x hx;exact ⟨by omega,this.2⟩
theorem logOk_len {srev:Int}:∀{log:List Ev} {l:List KV} {last:Int},l.length≤30→logOk srev l last log=true→(log.foldl actP l).length≤30
 | [],_,_,hl,_=>hl
 | e::log,l,last,hl,h=>by
  obtain ⟨h1,h2,h3,h4,h5⟩:=logOk_cons.1 h
  rw [List.foldl_cons];exact logOk_len h4 h5
theorem logOk_last {srev last last':Int} {l:List KV} {log:List Ev} (h:logOk srev l last log=true) (h':∀e∈log,last'≤e.rev):logOk srev l last' log=true:=by
 cases log with
 | nil=>rfl
 | cons e log =>
  obtain ⟨h1,h2⟩:=logOk_cons.1 h
  exact logOk_cons.2 ⟨h' e List.mem_cons_self,h2⟩
theorem logOk_srev {srev srev':Int} (hs:srev≤srev'):∀{log:List Ev} {l:List KV} {last:Int},logOk srev l last log=true→logOk srev' l last log=true
 | [],_,_,_=>rfl
 | e::log,l,last,h=>by
  obtain ⟨h1,h2,h3,h4,h5⟩:=logOk_cons.1 h
  exact logOk_cons.2 ⟨h1,by omega,h3,h4,logOk_srev hs h5⟩
theorem logOk_app {srev:Int}:∀{a b:List Ev} {l:List KV} {last:Int},logOk srev l last (a++b)=true→logOk srev l last a=true∧∃last',logOk srev (a.foldl actP l) last' b=true
 | [],b,l,last,h=>⟨rfl,last,h⟩
 | e::a,b,l,last,h=>by
  obtain ⟨h1,h2,h3,h4,h5⟩:=logOk_cons.1 h
  obtain ⟨k1,k2⟩:=logOk_app h5
  exact ⟨logOk_cons.2 ⟨h1,h2,h3,h4,k1⟩,k2⟩
theorem logOk_join {srev:Int} {b:List Ev}:∀{a:List Ev} {l:List KV} {last:Int},logOk srev l last a=true→(∀last':Int,(∀e∈a,e.rev≤srev)→last'≤srev→logOk srev (a.foldl actP l) last' b=true)→last≤srev→logOk srev l last (a++b)=true
 | [],l,last,_,hb,hl=>hb last (fun _ h=>by cases h) hl
 | e::a,l,last,h,hb,hl=>by
  obtain ⟨h1,h2,h3,h4,h5⟩:=logOk_cons.1 h
  exact logOk_cons.2 ⟨h1,h2,h3,h4,logOk_join h5 (fun last' ha hl'=>hb last' (fun x hx=>by rcases List.mem_cons.1 hx with rfl | hx;exact h2;exact ha x hx) hl') h2⟩
theorem logOk_split {srev:Int} (to:Int):∀{log:List Ev} {l:List KV} {last:Int},logOk srev l last log=true→∃a b,log=a++b∧(∀e∈a,e.rev≤to)∧(∀e∈b,to<e.rev)
 | [],_,_,_=>⟨[],[],rfl,(fun _ h=>nomatch h),(fun _ h=>nomatch h)⟩
 | e::log,l,last,h=>by
  obtain ⟨h1,h2,h3,h4,h5⟩:=logOk_cons.1 h
  by_cases ht:e.rev≤to
  ·obtain ⟨a,b,k1,k2,k3⟩:=logOk_split to h5
   exact ⟨e::a,b,by rw [k1];rfl,fun x hx=>by rcases List.mem_cons.1 hx with rfl | hx;exact ht;exact k2 x hx,k3⟩
  ·refine ⟨[],e::log,rfl,(fun _ h=>nomatch h),fun x hx => ?_⟩
   rcases List.mem_cons.1 hx with rfl | hx
   ·omega
   ·have:=(logOk_all h5 x hx).1;omega
structure SOk (s:Store):Prop where
 low0:0≤s.low
 lowr:s.low≤s.rev
 revM:s.rev≤1099511627774
 bl:s.base.l.length≤30
 ll:s.log.l.length≤60
 good:GoodK s.base.l s.low
 log:logOk s.rev s.base.l (s.low+1) s.log.l=true
theorem storeOk_iff {s:Store}:storeOk s=true↔SOk s:=by
 unfold storeOk headOk baseOk
 simp only [Bool.and_eq_true,Bool.not_eq_true',Bool.or_eq_false_iff,decide_eq_false_iff_not,Bool.not_eq_false',List.any_eq_false,decide_eq_true_eq,mayL_iff]
 constructor
 ·rintro ⟨⟨h1,h2,h3,h4,h5,h6,h7⟩,h8,h9⟩
  exact ⟨by omega,by omega,by omega,by omega,by omega,⟨fun x hx=>⟨h6 x hx,by have:=h8 x hx;omega⟩,h7⟩,h9⟩
 ·rintro ⟨h1,h2,h3,h4,h5,h6,h7⟩
  exact ⟨⟨by omega,by omega,by omega,by omega,by omega,fun x hx=>(h6.one x hx).1,h6.srt⟩,fun x hx=>by have:=(h6.one x hx).2;omega,h7⟩
theorem SOk.all {s:Store} (h:SOk s):∀e∈s.log.l,s.low<e.rev∧e.rev≤s.rev:=fun e he=>by
 have:=logOk_all h.log e he;exact ⟨by omega,this.2⟩
def nowP (s:Store):List KV:=foldP s.base.l s.log.l s.rev
theorem SOk.now {s:Store} (h:SOk s):nowP s=s.log.l.foldl actP s.base.l:=foldP_le fun e he=>(h.all e he).2
theorem SOk.nowGood {s:Store} (h:SOk s):GoodK (nowP s) s.rev:=by
 rw [h.now]
 exact logOk_good h.good (by omega) h.log s.rev (by have:=h.lowr;omega) fun e he=>(h.all e he).2
theorem SOk.nowLen {s:Store} (h:SOk s):(nowP s).length≤30:=by rw [h.now];exact logOk_len h.bl h.log
def nextK (o:Option KV) (m:Mut) (rev:Int):KV :=
 match o with
 | some x=>⟨m.key,m.value,x.create,rev,IntKind.i64.wrap (x.version+1),m.lease⟩
 | none=>⟨m.key,m.value,rev,rev,1,m.lease⟩
theorem nextP_K (l:List KV) (m:Mut) (rev:Int):nextP l m rev=nextK (getK l m.key) m rev:=by
 unfold nextP nextK
 rw [findB_get,findX_get]
 cases getK l m.key <;> rfl
def mutK:List Mut→Bs→Option Mut
 | [],_=>none
 | m::ms,k=>if m.key=k then some m else mutK ms k
def outK (rev:Int) (l:List KV) (ms:List Mut) (k:Bs):Option KV :=
 match mutK ms k with
 | none=>getK l k
 | some m=>if m.gone=true then none else some (nextK (getK l k) m rev)
def doesP (l:List KV) (m:Mut):Bool := !(m.gone&&(getK l m.key).isNone)
def actsN (l:List KV) (ms:List Mut):Nat:=(ms.filter (doesP l)).length
theorem mayMG_all:∀{ms:List Mut} {met:List Bs},mayMG met ms=true→∀x∈ms,met.contains x.key=false∧mutOkM x=true
 | [],_,_,x,hx=>by cases hx
 | m::ms,met,h,x,hx=>by
  unfold mayMG at h
  simp only [Bool.and_eq_true,Bool.not_eq_true'] at h
  rcases List.mem_cons.1 hx with rfl | hx
  ·exact h.1
  ·obtain ⟨k1,k2⟩:=mayMG_all h.2 x hx
   rw [List.contains_eq_any_beq,List.any_append,Bool.or_eq_false_iff] at k1
   rw [List.contains_eq_any_beq]
   exact ⟨k1.1,k2⟩
theorem mutK_none {k:Bs}:∀{ms:List Mut},(∀x∈ms,x.key ≠ k)→mutK ms k=none
 | [],_=>rfl
 | m::ms,h=>by unfold mutK;rw [if_neg (h m List.mem_cons_self)];exact mutK_none fun x hx=>h x (List.mem_cons_of_mem _ hx)
theorem mutOk_iff {m:Mut}:mutOkM m=true↔keyOk m.key=true∧m.value.length≤20∧0≤m.lease∧m.lease≤1099511627775:=by
 unfold mutOkM
 simp only [Bool.and_eq_true,Bool.not_eq_true',Bool.or_eq_false_iff,decide_eq_false_iff_not]
 constructor
 ·rintro ⟨h1,h2,h3,h4⟩;exact ⟨h1,by omega,by omega,by omega⟩
 ·rintro ⟨h1,h2,h3,h4⟩;exact ⟨h1,by omega,by omega,by omega⟩
structure InvM (l:List KV) (met:List Bs) (rev:Int):Prop where
 srt:Srt l
 one:∀x∈l,oneOk x=true∧x.mod≤rev∧(met.contains x.key=false→x.mod<rev)
theorem nextK_ok {l:List KV} {met:List Bs} {rev:Int} {m:Mut} (hi:InvM l met rev) (h1:1≤rev) (h2:rev≤1099511627775) (hm:met.contains m.key=false) (hok:mutOkM m=true):oneOk (nextK (getK l m.key) m rev)=true:=by
 obtain ⟨o1,o2,o3,o4⟩:=mutOk_iff.1 hok
 cases hg:getK l m.key with
 | none=>exact oneOk_iff.2 ⟨o1,o2,⟨h1,h2⟩,⟨Int.le_refl _,h2⟩,Int.le_refl _,by simp only [nextK];omega,o3,o4⟩
 | some x =>
  obtain ⟨hx,hk⟩:=getK_some hg
  obtain ⟨i1,i2,i3⟩:=hi.one x hx
  have i3:=i3 (by rw [hk];exact hm)
  obtain ⟨p1,p2,⟨p3,p4⟩,⟨p5,p6⟩,p7,p8,p9⟩:=oneOk_iff.1 i1
  have hw:IntKind.i64.wrap (x.version+1)=x.version+1:=wrap_i64 (by omega) (by omega)
  refine oneOk_iff.2 ⟨o1,o2,⟨p3,p4⟩,⟨?_,h2⟩,?_,?_,o3,o4⟩
  ·show x.create≤rev;omega
  ·show 1≤IntKind.i64.wrap (x.version+1);omega
  ·show IntKind.i64.wrap (x.version+1)≤rev - x.create+1;omega
theorem evOf_key {rev:Int} {l:List KV} {m:Mut} (h:¬(m.gone && !findB l m.key)=true):(evOf rev l m).kv.key=m.key:=by
 unfold evOf
 split
 ·rename_i hg
  rw [hg,Bool.true_and,Bool.not_eq_true',Bool.not_eq_false,findB_get] at h
  show (findX l m.key).key=m.key
  rw [findX_get]
  cases hq:getK l m.key with
  | none=>rw [hq] at h;cases h
  | some x=>exact (getK_some hq).2
 ·show (nextP l m rev).key=m.key
  unfold nextP;split <;> rfl
theorem evOf_right {rev:Int} {l:List KV} {m:Mut} (h:¬(m.gone && !findB l m.key)=true) (ho:m.gone=false→oneOk (nextP l m rev)=true):rightP l (evOf rev l m)=true:=by
 have hk:=evOf_key (rev:=rev) h
 unfold rightP
 rw [hk]
 by_cases hg:m.gone=true
 ·have e1:(evOf rev l m).gone=true:=hg
  have e2:(evOf rev l m).kv=findX l m.key:=by unfold evOf;rw [if_pos hg]
  rw [if_pos e1,e2]
  rw [hg,Bool.true_and,Bool.not_eq_true',Bool.not_eq_false] at h
  rw [h,Bool.true_and,kvEq_iff]
 ·have hg':=Bool.eq_false_iff.2 hg
  have e1:¬(evOf rev l m).gone=true:=hg
  have e2:(evOf rev l m).kv=nextP l m rev:=by unfold evOf;rw [if_neg hg]
  rw [if_neg e1,e2,ho hg',Bool.and_true,kvEq_iff]
  unfold nextP
  by_cases hb:findB l m.key=true
  ·simp only [if_pos hb];rfl
  ·simp only [if_neg hb];rfl
theorem apply_ind {rev:Int} (h1:1≤rev) (h2:rev≤1099511627775):∀(ms:List Mut) (met:List Bs) (es:List Ev) (l:List KV) (f:Bool),InvM l met rev→mayMG met ms=true →
  ∃E b,ms.foldl (evP rev) (es,l,f)=(es++E,E.foldl actP l,b)∧(∀e∈E,e.rev=rev)∧E.length=actsN l ms∧(∀k,getK (E.foldl actP l) k=outK rev l ms k)∧Srt (E.foldl actP l) ∧
   (b=false→f=false∧∀last,last≤rev→logOk rev l last E=true):=by
 intro ms
 induction ms with
 | nil=>intro met es l f hi hm;exact ⟨[],f,by simp,(fun _ h=>nomatch h),rfl,fun k=>rfl,hi.srt,fun h=>⟨h,fun _ _=>rfl⟩⟩
 | cons m ms ih =>
  intro met es l f hi hm
  have hall:=mayMG_all hm
  unfold mayMG at hm
  simp only [Bool.and_eq_true,Bool.not_eq_true'] at hm
  obtain ⟨⟨hnm,hok⟩,hrest⟩:=hm
  have hne:∀x∈ms,x.key ≠ m.key:=fun x hx e=>by
   have:=(mayMG_all hrest x hx).1
   rw [e] at this;simp at this
  have hmk:=mutK_none hne
  rw [List.foldl_cons]
  by_cases hs:(m.gone && !findB l m.key)=true
  ·have e1:evP rev (es,l,f) m=(es,l,f):=by unfold evP;rw [if_pos hs]
   obtain ⟨E,b,k1,k2,k3,k4,k5,k6⟩:=ih (met++[m.key]) es l f ⟨hi.srt,fun x hx=>⟨(hi.one x hx).1,(hi.one x hx).2.1,fun hc=>(hi.one x hx).2.2 (by
    rw [List.contains_eq_any_beq,List.any_append,Bool.or_eq_false_iff] at hc
    rw [List.contains_eq_any_beq];exact hc.1)⟩⟩ hrest
   rw [Bool.and_eq_true,Bool.not_eq_true',findB_get] at hs
   have hn:getK l m.key=none:=by cases hq:getK l m.key with
    | none=>rfl
    | some x=>rw [hq] at hs;cases hs.2
   refine ⟨E,b,by rw [e1,k1],k2,?_,fun k => ?_,k5,k6⟩
   ·rw [k3];unfold actsN
    rw [List.filter_cons,if_neg (by unfold doesP;rw [hs.1,hn];simp)]
   ·rw [k4]
    unfold outK
    rw [show mutK (m::ms) k=if m.key=k then some m else mutK ms k from rfl]
    by_cases hk:m.key=k
    ·subst hk;rw [if_pos rfl,hmk];simp only [hs.1,if_true,hn]
    ·rw [if_neg hk]
  ·have hk:=evOf_key (rev:=rev) hs
   have hrev:(evOf rev l m).rev=rev:=rfl
   have e1:evP rev (es,l,f) m=(es++[evOf rev l m],actP l (evOf rev l m),f||decide (30<(actP l (evOf rev l m)).length)):=by
    unfold evP;rw [if_neg hs];simp only [stepP_le (show (evOf rev l m).rev≤rev by rw [hrev];exact Int.le_refl _)]
   have hno:m.gone=false→(evOf rev l m).kv=nextK (getK l m.key) m rev:=fun hg=>by
    rw [←nextP_K];unfold evOf;rw [if_neg (by rw [hg];exact Bool.false_ne_true)]
   have hone:=nextK_ok hi h1 h2 hnm hok
   have hr:=evOf_right (rev:=rev) hs (fun _=>by rw [nextP_K];exact hone)
   have hget:=fun k=>actP_get (evOf rev l m) k hi.srt
   rw [hk] at hget
   have hgone:(evOf rev l m).gone=m.gone:=rfl
   rw [hgone] at hget
   generalize hev:evOf rev l m=e at e1 hk hrev hr hget hno hgone
   obtain ⟨E,b,k1,k2,k3,k4,k5,k6⟩:=ih (met++[m.key]) (es++[e]) (actP l e) (f||decide (30<(actP l e).length)) ⟨actP_srt e hi.srt,fun y hy=>by
    rcases mem_actP hy with hy | ⟨hg,rfl⟩
    ·refine ⟨(hi.one y hy).1,(hi.one y hy).2.1,fun hc=>(hi.one y hy).2.2 ?_⟩
     rw [List.contains_eq_any_beq,List.any_append,Bool.or_eq_false_iff] at hc
     rw [List.contains_eq_any_beq];exact hc.1
    ·rw [hgone] at hg
     rw [hno hg]
     refine ⟨hone,?_,fun hc => ?_⟩
     ·have:(nextK (getK l m.key) m rev).mod=rev:=by unfold nextK;split <;> rfl
      omega
     ·have:(nextK (getK l m.key) m rev).key=m.key:=by unfold nextK;split <;> rfl
      rw [this] at hc;simp at hc⟩ hrest
   refine ⟨e::E,b,by rw [e1,k1];simp,fun x hx => ?_,?_,fun k => ?_,k5,fun hb => ?_⟩
   ·rcases List.mem_cons.1 hx with rfl | hx
    ·exact hrev
    ·exact k2 x hx
   ·rw [List.length_cons,k3];unfold actsN
    rw [List.filter_cons,if_pos (by unfold doesP;rw [Bool.not_eq_true',Bool.eq_false_iff];intro hh;apply hs;rw [Bool.and_eq_true] at hh ⊢;refine ⟨hh.1,?_⟩;rw [findB_get];cases hq:getK l m.key <;> simp [hq] at hh ⊢)]
    rw [List.length_cons]
    congr 1
    congr 1
    refine List.filter_congr fun x hx => ?_
    unfold doesP
    rw [hget,if_neg (hne x hx)]
   ·rw [List.foldl_cons,k4]
    unfold outK
    rw [show mutK (m::ms) k=if m.key=k then some m else mutK ms k from rfl]
    by_cases hq:m.key=k
    ·subst hq
     rw [if_pos rfl,hmk]
     simp only [hget,if_true]
     by_cases hg:m.gone=true
     ·rw [if_pos hg,if_pos hg]
     ·rw [if_neg hg,if_neg hg,hno (Bool.eq_false_iff.2 hg)]
    ·rw [if_neg hq,hget,if_neg (fun e=>hq e.symm)]
   ·obtain ⟨j1,j2⟩:=k6 hb
    rw [Bool.or_eq_false_iff,decide_eq_false_iff_not] at j1
    refine ⟨j1.1,fun last hl=>logOk_cons.2 ⟨by rw [hrev];exact hl,by rw [hrev];exact Int.le_refl _,hr,by omega,?_⟩⟩
    rw [hrev];exact j2 rev (Int.le_refl _)
end Go.Proofs.YtndfdnlbljhlgaaGreat
end
section
namespace Go.Proofs.YtndfdnlbljhlgaaGreat
open Go Go.AM Go.Proofs
set_option linter.unusedSimpArgs false
set_option linter.unusedVariables false
set_option linter.defProp false
theorem more_facts {s:Store} (h:SOk s) {ms:List Mut} (hm:mayM ms=true):(∀e∈(moreP s ms).1,e.rev=s.rev+1)∧(moreP s ms).1.length=actsN (nowP s) ms∧(moreP s ms).2.1=(moreP s ms).1.foldl actP (nowP s) ∧
  (∀k,getK ((moreP s ms).1.foldl actP (nowP s)) k=outK (s.rev+1) (nowP s) ms k)∧Srt ((moreP s ms).1.foldl actP (nowP s))∧((moreP s ms).2.2=false→∀last,last≤s.rev+1→logOk (s.rev+1) (nowP s) last (moreP s ms).1=true):=by
 have hg:=h.nowGood
 have hr:=h.revM
 have h0:=h.low0
 have h1:=h.lowr
 unfold mayM at hm
 rw [Bool.and_eq_true] at hm
 obtain ⟨E,b,k1,k2,k3,k4,k5,k6⟩:=apply_ind (rev:=s.rev+1) (by omega) (by omega) ms [] [] (nowP s) false ⟨hg.srt,fun x hx=>⟨(hg.one x hx).1,by have:=(hg.one x hx).2;omega,fun _=>by have:=(hg.one x hx).2;omega⟩⟩ hm.1
 have e:moreP s ms=(E,E.foldl actP (nowP s),b):=by unfold moreP;rw [show foldP s.base.l s.log.l s.rev=nowP s from rfl,k1];rfl
 rw [e]
 exact ⟨k2,k3,rfl,k4,k5,fun hb=>(k6 hb).2⟩
theorem applyE_zero {s:Store} {ms:List Mut} (h:applyE s ms=0):mayM ms=true∧((moreP s ms).1=[]∨(moreP s ms).2.2=false∧s.rev ≠ 1099511627774∧s.log.l.length+(moreP s ms).1.length≤60):=by
 unfold applyE at h
 by_cases h1:mayM ms=true
 ·rw [if_pos h1] at h
  by_cases h2:(moreP s ms).1=[]
  ·exact ⟨h1,.inl h2⟩
  ·rw [if_neg h2] at h
   refine ⟨h1,.inr ?_⟩
   by_cases h3:(moreP s ms).2.2=true∨s.rev=1099511627774∨60<s.log.l.length+(moreP s ms).1.length
   ·rw [if_pos h3] at h;omega
   ·refine ⟨Bool.eq_false_iff.2 fun hh=>h3 (.inl hh),fun hh=>h3 (.inr (.inl hh)),?_⟩
    have:¬60<s.log.l.length+(moreP s ms).1.length:=fun hh=>h3 (.inr (.inr hh))
    omega
 ·rw [if_neg h1] at h;omega
theorem applyN_iff {s:Store} {ms:List Mut}:applyN s ms=true↔applyE s ms=0∧(moreP s ms).1 ≠ []:=by
 unfold applyN
 rw [Bool.and_eq_true,decide_eq_true_eq,Bool.not_eq_true',decide_eq_false_iff_not]
theorem applyN_false {s:Store} {ms:List Mut} (h:applyN s ms=false):applyS s ms=s∧applyV s ms = .nil:=by
 unfold applyS applyV
 rw [h];exact ⟨rfl,rfl⟩
theorem applyN_true {s:Store} {ms:List Mut} (h:applyN s ms=true):applyS s ms=⟨s.rev+1,s.low,s.base,.of (s.log.l++(moreP s ms).1)⟩∧applyV s ms = .of (moreP s ms).1:=by
 unfold applyS applyV
 rw [if_pos h,if_pos h];exact ⟨rfl,rfl⟩
theorem now_new {s:Store} (h:SOk s) {ms:List Mut} (hN:applyN s ms=true):nowP (applyS s ms)=(moreP s ms).1.foldl actP (nowP s):=by
 obtain ⟨h1,-⟩:=applyN_iff.1 hN
 obtain ⟨hm,-⟩:=applyE_zero h1
 obtain ⟨f1,-⟩:=more_facts h hm
 rw [(applyN_true hN).1]
 unfold nowP
 simp only [Sl.l_of]
 rw [foldP_app,foldP_le (a:=(moreP s ms).1) fun e he=>by rw [f1 e he];exact Int.le_refl _]
 rw [foldP_le fun e he=>by have:=(h.all e he).2;omega,←h.now];rfl
theorem apply_SOk {s:Store} (h:SOk s) (ms:List Mut):SOk (applyS s ms):=by
 cases hN:applyN s ms
 ·rw [(applyN_false hN).1];exact h
 ·obtain ⟨h1,h2⟩:=applyN_iff.1 hN
  obtain ⟨hm,h3⟩:=applyE_zero h1
  have h3:=h3.resolve_left h2
  obtain ⟨f1,f2,f3,f4,f5,f6⟩:=more_facts h hm
  have f6:=f6 h3.1
  rw [(applyN_true hN).1]
  have r1:=h.low0
  have r2:=h.lowr
  have r3:=h.revM
  refine ⟨h.low0,by show s.low≤s.rev+1;omega,by show s.rev+1≤1099511627774;omega,h.bl,by simp only [Sl.l_of,List.length_append];omega,h.good,?_⟩
  show logOk (s.rev+1) s.base.l (s.low+1) (s.log.l++(moreP s ms).1)=true
  refine logOk_join (logOk_srev (by omega) h.log) (fun last' _ hl => ?_) (by omega)
  rw [←h.now];exact f6 last' hl
theorem apply_now {s:Store} (h:SOk s) {ms:List Mut} (he:applyE s ms=0) (k:Bs):getK (nowP (applyS s ms)) k=outK (s.rev+1) (nowP s) ms k:=by
 obtain ⟨hm,h3⟩:=applyE_zero he
 obtain ⟨f1,f2,f3,f4,f5,f6⟩:=more_facts h hm
 cases hN:applyN s ms
 ·rw [(applyN_false hN).1]
  have h4:(moreP s ms).1=[]:=by
   by_cases hh:(moreP s ms).1=[]
   ·exact hh
   ·rw [applyN_iff.2 ⟨he,hh⟩] at hN;cases hN
  have:=f4 k
  rw [h4] at this;exact this
 ·rw [now_new h hN];exact f4 k
theorem apply_rev {s:Store} (h:SOk s) {ms:List Mut} (he:applyE s ms=0):(applyS s ms).rev=(if actsN (nowP s) ms=0 then s.rev else s.rev+1)∧(applyS s ms).log.l.length=s.log.l.length+actsN (nowP s) ms:=by
 obtain ⟨hm,h3⟩:=applyE_zero he
 obtain ⟨f1,f2,-⟩:=more_facts h hm
 rw [←f2]
 cases hN:applyN s ms
 ·rw [(applyN_false hN).1]
  have h4:(moreP s ms).1=[]:=by
   by_cases hh:(moreP s ms).1=[]
   ·exact hh
   ·rw [applyN_iff.2 ⟨he,hh⟩] at hN;cases hN
  rw [h4];exact ⟨rfl,rfl⟩
 ·have h4:=(applyN_iff.1 hN).2
  rw [(applyN_true hN).1,if_neg (by simpa using h4)]
  exact ⟨rfl,by simp⟩
theorem keepL_all {to:Int} {l:List Ev} (h:∀e∈l,to<e.rev):keepL to l=l:=by
 unfold keepL
 rw [List.filter_eq_self]
 intro e he
 have:=h e he
 simp;omega
theorem keepL_no {to:Int} {l:List Ev} (h:∀e∈l,e.rev≤to):keepL to l=[]:=by
 unfold keepL
 rw [List.filter_eq_nil_iff]
 intro e he
 have:=h e he
 simp;omega
theorem keepL_app (to:Int) (a b:List Ev):keepL to (a++b)=keepL to a++keepL to b:=List.filter_append ..
theorem shr_split {s:Store} (h:SOk s) (to:Int):∃a b,s.log.l=a++b∧(∀e∈a,e.rev≤to)∧(∀e∈b,to<e.rev)∧keepL to s.log.l=b∧foldP s.base.l s.log.l to=a.foldl actP s.base.l:=by
 obtain ⟨a,b,h1,h2,h3⟩:=logOk_split to h.log
 refine ⟨a,b,h1,h2,h3,?_,?_⟩
 ·rw [h1,keepL_app,keepL_no h2,keepL_all h3];rfl
 ·rw [h1,foldP_app,foldP_le h2,foldP_gt h3]
theorem shr_fold {s:Store} (h:SOk s) {to rev:Int} (hr:to≤rev):foldP (foldP s.base.l s.log.l to) (keepL to s.log.l) rev=foldP s.base.l s.log.l rev:=by
 obtain ⟨a,b,h1,h2,h3,h4,h5⟩:=shr_split h to
 rw [h5,h4,h1,foldP_app,foldP_le (a:=a) fun e he=>by have:=h2 e he;omega]
theorem shrE_zero {s:Store} {to:Int}:shrE s to=0↔0≤to∧to≤s.rev∧s.low≤to:=by
 unfold shrE
 by_cases h1:to<0∨s.rev<to
 ·rw [if_pos h1];omega
 ·rw [if_neg h1]
  by_cases h2:to<s.low
  ·rw [if_pos h2];omega
  ·rw [if_neg h2];omega
theorem shr_SOk {s:Store} (h:SOk s) (to:Int):SOk (shrS s to):=by
 unfold shrS
 by_cases hz:shrE s to=0
 ·rw [if_pos hz]
  obtain ⟨z1,z2,z3⟩:=shrE_zero.1 hz
  obtain ⟨a,b,h1,h2,h3,h4,h5⟩:=shr_split h to
  have hlog:=h.log
  rw [h1] at hlog
  obtain ⟨l1,last',l2⟩:=logOk_app hlog
  refine ⟨z1,z2,h.revM,?_,?_,?_,?_⟩
  ·show (foldR s.base s.log.l to).l.length≤30
   rw [foldR_l,h5];exact logOk_len h.bl l1
  ·show (keepR to s.log).l.length≤60
   have:(keepR to s.log).l.length≤s.log.l.length:=by
    cases s.log with
    | nil=>exact Nat.le_refl _
    | of l=>exact List.length_filter_le _ _
   have:=h.ll;omega
  ·show GoodK (foldR s.base s.log.l to).l to
   rw [foldR_l,h5]
   exact logOk_good h.good (by omega) l1 to z3 h2
  ·show logOk s.rev (foldR s.base s.log.l to).l (to+1) (keepR to s.log).l=true
   have e:(keepR to s.log).l=keepL to s.log.l:=by cases s.log <;> rfl
   rw [foldR_l,h5,e,h4]
   exact logOk_last l2 fun x hx=>by have:=h3 x hx;omega
 ·rw [if_neg hz];exact h
end Go.Proofs.YtndfdnlbljhlgaaGreat
end
