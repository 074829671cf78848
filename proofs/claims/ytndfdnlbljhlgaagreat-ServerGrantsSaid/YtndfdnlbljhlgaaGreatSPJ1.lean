/- Part of the proof: what the functions answer, part 1 (SHist1, PStr, SHist2, PHist, GLease1, GLease2, GLease3, GPLease, PMemo, SFew, SMemo1). No conditions. -/
import Derived.Test.YtndfdnlbljhlgaaGreatTabA
import Derived.Test.YtndfdnlbljhlgaaGreatAMJ4
import Derived.KernelRfl
import Derived.Test.YtndfdnlbljhlgaaGreatAMJ3
section
namespace Go.Proofs.YtndfdnlbljhlgaaGreat
open Go Go.AM Go.Proofs
set_option maxRecDepth 20000
set_option maxHeartbeats 1000000
set_option linter.unusedSimpArgs false
set_option linter.unusedVariables false
def byteOk (b:UInt8):Bool:=decide (33≤b.toNat)&&decide (b.toNat≤126)
def keyOk (k:Bs):Bool:=(decide (1≤k.length)&&decide (k.length≤40))&&k.all byteOk
theorem Check1_ev (b:UInt8) (H:List Blk):EvF tab 200 [.g (.int .u8 b.toNat)] H=some ⟨B (byteOk b),[],[]⟩:=by
 refine EvF_walk t200 (by simp) ?_
 unfold byteOk
 by_cases h1:33≤b.toNat
 ·by_cases h2:b.toNat≤126
  ·simp -implicitDefEqProofs [h1,h2,show (32:Int)<(b.toNat:Int) by omega,show (b.toNat:Int)≤126 by omega]
  ·simp -implicitDefEqProofs [h1,h2,show (32:Int)<(b.toNat:Int) by omega,show ¬(b.toNat:Int)≤126 by omega]
 ·simp -implicitDefEqProofs [h1,show ¬(32:Int)<(b.toNat:Int) by omega]
theorem each_loop (k:Bs) (hl:k.length≤9223372036854775807) (H:List Blk) :
  loopE (EvF tab) H L199_0 [2,18,19,20] ⟨[(2,.g (.fn 200)),(18,.g (.sl 1 (bytesG k))),(19,I k.length),(20,I 0)],[],[]⟩ =
   some (if allP byteOk k=true then (.exit 0,⟨[(2,.g (.fn 200)),(18,.g (.sl 1 (bytesG k))),(19,I k.length),(20,I k.length),(21,B false)],[],[]⟩) else (.ret,⟨[(6,B false)],[],[]⟩)):=by
 refine loop_all0 (l:=k) byteOk (fun i=>⟨[(2,.g (.fn 200)),(18,.g (.sl 1 (bytesG k))),(19,I k.length),(20,I i)],[],[]⟩) _ _ (by simp) (by simp) (fun i x hk hx hy => ?_) (by delta L199_0;simp -implicitDefEqProofs)
 delta L199_0
 have e2:=wrap_succ hk hl
 have hel:(bytesG k)[i]? = some [.int .u8 x.toNat]:=by unfold bytesG;rw [List.getElem?_map,hx];rfl
 have h1:=Check1_ev x
 generalize byteOk x=b at h1 ⊢
 cases b <;> simp -implicitDefEqProofs [hk,hel,h1,e2]
theorem Check_ev (k:Bs) (hl:k.length≤9223372036854775807) (H:List Blk):EvF tab 176 [T k] H=some ⟨B (keyOk k),[],[]⟩:=by
 have he:∀H,EvF tab 199 [T k,I 40,.g (.fn 200)] H=some ⟨B (keyOk k),[],[]⟩:=fun H=>by
  have hw:=each_loop k hl H
  refine EvF_walk t199 (by simp) ?_
  unfold keyOk
  rw [show k.all byteOk=allP byteOk k from rfl]
  have hb:(bytesG k).length=k.length:=bytesG_len k
  by_cases h0:k=[]
  ·subst h0;simp -implicitDefEqProofs
  ·have h1:1≤k.length:=List.length_pos_iff.2 h0
   by_cases h2:k.length≤40
   ·cases hs:allP byteOk k <;> rw [hs] at hw <;> simp only [Bool.false_eq_true,if_true,if_false] at hw
    all_goals simp -implicitDefEqProofs [h0,h1,h2,hb,hw,show ¬(40:Int)<(k.length:Int) by omega]
   ·simp -implicitDefEqProofs [h0,h2,show (40:Int)<(k.length:Int) by omega]
 refine EvF_walk t176 (by simp) ?_
 generalize keyOk k=b at he ⊢
 simp -implicitDefEqProofs [he]
theorem Check2_loop (k:Bs) (hl:k.length≤9223372036854775807) (H:List Blk) :
  loopE (EvF tab) H L178_0 [0,3] ⟨[(0,T k),(3,I 0)],[],[]⟩ =
   some (if allP byteOk k=true then (.exit 0,⟨[(0,T k),(3,I k.length),(15,B false)],[],[]⟩) else (.ret,⟨[(2,B false)],[],[]⟩)):=by
 refine loop_all0 (l:=k) byteOk (fun i=>⟨[(0,T k),(3,I i)],[],[]⟩) _ _ (by simp) (by simp) (fun i x hk hx hy => ?_) (by delta L178_0;simp -implicitDefEqProofs)
 delta L178_0
 have e2:=wrap_succ hk hl
 unfold byteOk
 by_cases h1:33≤x.toNat
 ·by_cases h2:x.toNat≤126
  ·simp -implicitDefEqProofs [hk,hx,hy,h1,h2,e2,show ¬(x.toNat:Int)<33 by omega,show ¬(126:Int)<(x.toNat:Int) by omega]
  ·simp -implicitDefEqProofs [hk,hx,hy,h1,h2,e2,show ¬(x.toNat:Int)<33 by omega,show (126:Int)<(x.toNat:Int) by omega]
 ·simp -implicitDefEqProofs [hk,hx,hy,h1,e2,show (x.toNat:Int)<33 by omega]
theorem Check2_ev (k:Bs) (hl:k.length≤9223372036854775807) (H:List Blk):EvF tab 178 [T k] H=some ⟨B (keyOk k),[],[]⟩:=by
 have hw:=Check2_loop k hl H
 refine EvF_walk t178 (by simp) ?_
 unfold keyOk
 rw [show k.all byteOk=allP byteOk k from rfl]
 by_cases h1:1≤k.length
 ·by_cases h2:k.length≤40
  ·cases hs:allP byteOk k <;> rw [hs] at hw <;> simp only [Bool.false_eq_true,if_true,if_false] at hw
   all_goals simp -implicitDefEqProofs [h1,h2,hw,show ¬(k.length:Int)<1 by omega,show ¬(40:Int)<(k.length:Int) by omega]
  ·simp -implicitDefEqProofs [h1,h2,show ¬(k.length:Int)<1 by omega,show (40:Int)<(k.length:Int) by omega]
 ·simp -implicitDefEqProofs [h1,show (k.length:Int)<1 by omega]
def numL (n least:Int):Bool:=decide (least≤n)&&decide (n≤1099511627775)
def oneOk (x:KV):Bool:=keyOk x.key&&(decide (x.value.length≤20)&&(numL x.create 1&&(numL x.mod x.create&&(decide (1≤x.version)&&(decide (x.version≤x.mod - x.create+1)&&numL x.lease 0)))))
theorem number_ev (n least:Int) (H:List Blk):EvF tab 198 [I n,I least] H=some ⟨B (numL n least),[],[]⟩:=by
 refine EvF_walk t198 (by simp) ?_
 unfold numL
 by_cases h1:least≤n <;> simp -implicitDefEqProofs [h1]
theorem one_ev (x:KV) (hl:x.key.length≤9223372036854775807) (H:List Blk):EvF tab 168 [A x.c] H=some ⟨B (oneOk x),[],[]⟩:=by
 have h1:=Check_ev x.key hl
 have h2:=number_ev x.create 1
 have h3:=number_ev x.mod x.create
 have h4:=number_ev x.lease 0
 refine EvF_walk t168 (by simp) ?_
 unfold oneOk
 generalize keyOk x.key=b1 at h1 ⊢
 cases b1
 ·simp -implicitDefEqProofs [A,KV.c,h1]
 by_cases hv:x.value.length≤20
 case neg=>simp -implicitDefEqProofs [A,KV.c,h1,hv,show ¬(x.value.length:Int)≤20 by omega]
 have hv':(x.value.length:Int)≤20:=by omega
 cases e2:numL x.create 1
 ·rw [e2] at h2;simp -implicitDefEqProofs [A,KV.c,h1,hv,hv',h2]
 cases e3:numL x.mod x.create
 ·rw [e2] at h2;rw [e3] at h3;simp -implicitDefEqProofs [A,KV.c,h1,hv,hv',h2,h3]
 rw [e2] at h2;rw [e3] at h3
 simp only [numL,Bool.and_eq_true,decide_eq_true_eq] at e2 e3
 have w1:IntKind.i64.wrap (x.mod - x.create)=x.mod - x.create:=wrap_i64 (by omega) (by omega)
 have w2:IntKind.i64.wrap (x.mod - x.create+1)=x.mod - x.create+1:=wrap_i64 (by omega) (by omega)
 by_cases h5:1≤x.version
 case neg=>simp -implicitDefEqProofs [A,KV.c,h1,hv,hv',h2,h3,h5]
 by_cases h6:x.version≤x.mod - x.create+1
 case neg=>simp -implicitDefEqProofs [A,KV.c,h1,hv,hv',h2,h3,h5,w1,w2,h6]
 simp -implicitDefEqProofs [A,KV.c,h1,hv,hv',h2,h3,h5,w1,w2,h6,h4]
theorem One2_ev (x:KV) (hl:x.key.length≤9223372036854775807) (H:List Blk):EvF tab 142 [A x.c] H=some ⟨B (oneOk x),[],[]⟩:=by
 have h1:=Check2_ev x.key hl
 refine EvF_walk t142 (by simp) ?_
 unfold oneOk
 generalize keyOk x.key=b1 at h1 ⊢
 cases b1
 ·simp -implicitDefEqProofs [A,KV.c,h1]
 by_cases hv:x.value.length≤20
 case neg=>simp -implicitDefEqProofs [A,KV.c,h1,hv,show (20:Int)<(x.value.length:Int) by omega]
 have hv':¬(20:Int)<(x.value.length:Int):=by omega
 unfold numL
 by_cases c1:1≤x.create
 case neg=>simp -implicitDefEqProofs [A,KV.c,h1,hv,hv',c1,show x.create<1 by omega]
 by_cases c2:x.create≤1099511627775
 case neg=>simp -implicitDefEqProofs [A,KV.c,h1,hv,hv',c1,c2,show ¬x.create<1 by omega,show 1099511627775<x.create by omega]
 have c1':¬x.create<1:=by omega
 have c2':¬1099511627775<x.create:=by omega
 by_cases c3:x.create≤x.mod
 case neg=>simp -implicitDefEqProofs [A,KV.c,h1,hv,hv',c1,c2,c1',c2',c3]
 by_cases c4:x.mod≤1099511627775
 case neg=>simp -implicitDefEqProofs [A,KV.c,h1,hv,hv',c1,c2,c1',c2',c3,c4]
 have w1:IntKind.i64.wrap (x.mod - x.create)=x.mod - x.create:=wrap_i64 (by omega) (by omega)
 have w2:IntKind.i64.wrap (x.mod - x.create+1)=x.mod - x.create+1:=wrap_i64 (by omega) (by omega)
 by_cases h5:1≤x.version
 case neg=>simp -implicitDefEqProofs [A,KV.c,h1,hv,hv',c1,c2,c1',c2',c3,c4,h5]
 by_cases h6:x.version≤x.mod - x.create+1
 case neg=>simp -implicitDefEqProofs [A,KV.c,h1,hv,hv',c1,c2,c1',c2',c3,c4,h5,w1,w2,h6]
 by_cases h7:0≤x.lease
 case neg=>simp -implicitDefEqProofs [A,KV.c,h1,hv,hv',c1,c2,c1',c2',c3,c4,h5,w1,w2,h6,h7]
 simp -implicitDefEqProofs [A,KV.c,h1,hv,hv',c1,c2,c1',c2',c3,c4,h5,w1,w2,h6,h7]
def findN (k:Bs):Nat→List KV→Option Nat
 | _,[]=>none
 | i,x::l=>if x.key=k then some i else findN k (i+1) l
def kv0:KV:=⟨[],[],0,0,0,0⟩
def findX (l:List KV) (k:Bs):KV:=match findN k 0 l with | some i=>l[i]?.getD kv0 | none=>kv0
def findB (l:List KV) (k:Bs):Bool:=(findN k 0 l).isSome
def findI (l:List KV) (k:Bs):Int:=match findN k 0 l with | some i=>i | none => -1
theorem findN_spec (k:Bs):∀(l:List KV) i j,findN k i l=some j→i≤j∧∃(h:j - i<l.length),l[j - i].key=k:=by
 intro l
 induction l with
 | nil=>intro i j h;simp [findN] at h
 | cons x l ih =>
  intro i j h
  unfold findN at h
  split at h
  ·cases h;rename_i hk;exact ⟨Nat.le_refl _,by simp,by simp [hk]⟩
  ·obtain ⟨h1,h2,h3⟩:=ih (i+1) j h
   refine ⟨by omega,by simp;omega,?_⟩
   have e:j - i=(j - (i+1))+1:=by omega
   simp only [e,List.getElem_cons_succ];exact h3
theorem find_some {k:Bs} {l:List KV} {i:Nat} (h:findN k 0 l=some i):∃h:i<l.length,l[i].key=k:=by
 obtain ⟨_,h2⟩:=findN_spec k l 0 i h
 simpa using h2
theorem idxG_find (k:Bs):∀(l:List KV) i,idxG (fun x:KV=>x.key==k) i l=match findN k i l with | some j=>(j:Int) | none => -1:=by
 intro l
 induction l with
 | nil=>intro i;rfl
 | cons x l ih =>
  intro i
  by_cases h:x.key=k
  ·simp [idxG,findN,h]
  ·simp only [idxG,findN,h,if_false]
   rw [←ih];simp [h]
theorem is1_ev (x:KV) (k:Bs) {H:List Blk} {p:Nat} (hp:H[p]? = some (.cells [T k])):EvF tab 195 [A x.c,.ptr p 0] H=some ⟨B (x.key==k),[],[]⟩:=by
 refine EvF_walk t195 (by simp) ?_
 have hpl:p<H.length:=(List.getElem?_eq_some_iff.1 hp).1
 have hp2:=(List.getElem?_eq_some_iff.1 hp).2
 simp -implicitDefEqProofs [A,KV.c,hp2,hpl,getB_old,orB]
theorem is_ev (k:Bs) (H:List Blk):EvF tab 164 [T k] H=some ⟨.fv 195 [.ptr H.length 0],[],[.cells [T k]]⟩:=by
 refine EvF_walk t164 (by simp) ?_
 simp -implicitDefEqProofs
theorem idx_ev (s:Sl KV) (k:Bs) (hl:s.l.length≤9223372036854775807) {H:List Blk} {p:Nat} (hp:H[p]? = some (.cells [T k])) :
  EvF tab 131 [.g (KVs.g s),.fv 195 [.ptr p 0]] H=some ⟨I (findI s.l k),[],[]⟩:=by
 have:=index_ev (Tb:=tab) (f:=131) (agg:=true) (n:=6) (c:=KV.c) t131 (fun x=>A x.c) (fun x:KV=>x.key==k) (.fv 195 [.ptr p 0]) s hl H (fun x=>by simp [A,KV.c]) (fun x _ t=>by
  have h1:=is1_ev x k hp
  simp -implicitDefEqProofs [h1])
 rw [idxG_find] at this
 exact this
theorem Find_ev (s:Sl KV) (k:Bs) (hl:s.l.length≤9223372036854775807) (H:List Blk):EvF tab 169 [.g (KVs.g s),T k] H=some ⟨.tup [A (findX s.l k).c,B (findB s.l k)],[],[]⟩:=by
 refine EvF_walk t169 (by simp) ?_
 have hi:=fun H=>is_ev k H
 have hx:=fun (b:Blk)=>idx_ev s k hl (H:=H++[b,.cells [T k]]) (p:=H.length+1) (by rw [List.getElem?_append_right (by omega)];simp)
 unfold findX findB
 unfold findI at hx
 rcases hq:findN k 0 s.l with _ | i <;> simp only [hq] at hx ⊢
 ·simp -implicitDefEqProofs [zres,A,KV.c,kv0,hi,hx]
 ·obtain ⟨h1,h2⟩:=find_some hq
  cases s with
  | nil=>simp at h1
  | of l =>
   simp only [Sl.l_of,KVs.g,Sl.g_of] at h1 hx ⊢
   have hg:l[i]? = some l[i]:=List.getElem?_eq_getElem h1
   rw [hg]
   simp -implicitDefEqProofs [zres,A,KV.c,hi,hx,hg,h1]
theorem runG_find (k:Bs):∀(l:List KV) i,runG (fun i (x:KV) (_:Unit)=>if x.key=k then .inr i else .inl ()) i l ()=match findN k i l with | some j => .inr j | none=>(.inl ():Unit⊕Nat):=by
 intro l
 induction l with
 | nil=>intro i;rfl
 | cons x l ih =>
  intro i
  by_cases h:x.key=k
  ·simp [runG,findN,h]
  ·simp only [runG,findN,h,if_false]
   exact ih _
theorem Find2_ev (s:Sl KV) (k:Bs) (hl:s.l.length≤9223372036854775807) (H:List Blk):EvF tab 141 [.g (KVs.g s),T k] H=some ⟨.tup [A (findX s.l k).c,B (findB s.l k)],[],[]⟩:=by
 have hw:=loop_runJ (E:=EvF tab) (h:=H) (c:=L141_0) (lv:=[0,1,4,6]) (l:=s.l) (β:=Unit) (γ:=Nat) (fun _ _=>True) (fun i (x:KV) _=>if x.key=k then .inr i else .inl ())
  (fun i _ o=>⟨[(0,.g (KVs.g s)),(1,T k),(4,.ptr H.length 0),(6,I i)],[],.cells [T [],T [],I 0,I 0,I 0,I 0]::o⟩) (fun _ o=>(.exit 0,⟨[(0,.g (KVs.g s)),(1,T k),(4,.ptr H.length 0),(6,I s.l.length),(10,B false)],[],.cells [T [],T [],I 0,I 0,I 0,I 0]::o⟩))
  (fun i o=>(.ret,⟨[(4,.ptr H.length 0),(5,B true)],[],.cells (((s.l[i]?).getD kv0).c.map .g)::o⟩)) (by simp) (by simp) (fun i x b o hk hx hy _ => ?_) (fun _ o _=>by delta L141_0;cases s <;> simp -implicitDefEqProofs) () [] trivial
 ·obtain ⟨o',hw⟩:=hw
  rw [runG_find] at hw
  have e0:((0:Nat):Int)=0:=rfl
  simp only [e0] at hw
  refine EvF_walk t141 (by simp) ?_
  unfold findX findB
  rcases hq:findN k 0 s.l with _ | i <;> simp only [hq,endJ] at hw ⊢
  ·simp -implicitDefEqProofs [zres,A,KV.c,kv0,hw]
  ·generalize s.l[i]?.getD kv0=x at hw ⊢
   simp only [KV.c,List.map_cons,List.map_nil] at hw
   simp -implicitDefEqProofs [zres,A,KV.c,hw]
 ·have e2:=wrap_succ hk hl
  delta L141_0
  cases s with
  | nil=>simp at hk
  | of l =>
   simp only [Sl.l_of] at hk hx hy ⊢
   by_cases h:x.key=k
   ·simp only [if_pos h]
    refine ⟨o,?_⟩
    rw [hx]
    simp -implicitDefEqProofs [hk,hy,KV.c,h,kv0]
   ·simp only [if_neg h]
    refine ⟨trivial,o,?_⟩
    simp -implicitDefEqProofs [hk,hy,KV.c,h,e2]
end Go.Proofs.YtndfdnlbljhlgaaGreat
end
section
namespace Go.Proofs.YtndfdnlbljhlgaaGreat
open Go Go.AM Go.Proofs
set_option linter.unusedSimpArgs false
set_option linter.unusedVariables false
theorem bl_cons (a b:UInt8) (x y:Bs):Op.bytesLess (a::x) (b::y)=(decide (a<b)||(a==b&&Op.bytesLess x y)):=rfl
theorem bl_irrefl:∀a:Bs,Op.bytesLess a a=false
 | []=>rfl
 | a::x=>by
  rw [bl_cons,bl_irrefl x]
  have:¬a<a:=by rw [UInt8.lt_iff_toNat_lt];omega
  simp [this]
theorem bl_tri:∀a b:Bs,Op.bytesLess a b=true∨a=b∨Op.bytesLess b a=true
 | [],[] => .inr (.inl rfl)
 | [],b::y => .inl rfl
 | a::x,[] => .inr (.inr rfl)
 | a::x,b::y=>by
  rw [bl_cons,bl_cons]
  by_cases h:a<b
  ·exact .inl (by simp [h])
  ·by_cases h2:b<a
   ·exact .inr (.inr (by simp [h2]))
   ·have e:a=b:=by
     apply UInt8.toNat_inj.1
     rw [UInt8.lt_iff_toNat_lt] at h h2;omega
    subst e
    rcases bl_tri x y with h3 | h3 | h3
    ·exact .inl (by simp [h3])
    ·exact .inr (.inl (by rw [h3]))
    ·exact .inr (.inr (by simp [h3]))
theorem bl_trans:∀a b c:Bs,Op.bytesLess a b=true→Op.bytesLess b c=true→Op.bytesLess a c=true
 | a,b,[],_,h2=>by cases b <;> cases h2
 | [],b,c::z,_,_=>rfl
 | a::x,[],c::z,h1,_=>by cases h1
 | a::x,b::y,c::z,h1,h2=>by
  rw [bl_cons] at h1 h2 ⊢
  simp only [Bool.or_eq_true,decide_eq_true_eq,Bool.and_eq_true,beq_iff_eq] at h1 h2 ⊢
  rcases h1 with h1 | ⟨rfl,h1⟩
  ·rcases h2 with h2 | ⟨rfl,h2⟩
   ·left;rw [UInt8.lt_iff_toNat_lt] at *;omega
   ·exact .inl h1
  ·rcases h2 with h2 | ⟨rfl,h2⟩
   ·exact .inl h2
   ·exact .inr ⟨rfl,bl_trans x y z h1 h2⟩
theorem bl_asymm {a b:Bs} (h:Op.bytesLess a b=true):Op.bytesLess b a=false:=by
 cases h2:Op.bytesLess b a
 ·rfl
 ·have:=bl_trans a b a h h2;rw [bl_irrefl] at this;cases this
theorem bl_ne {a b:Bs} (h:Op.bytesLess a b=true):a ≠ b:=fun e=>by subst e;rw [bl_irrefl] at h;cases h
theorem bl_not (a b:Bs):(!(Op.bytesLess a b||a==b))=Op.bytesLess b a:=by
 rcases bl_tri a b with h | h | h
 ·rw [h,bl_asymm h];rfl
 ·subst h;rw [bl_irrefl];simp
 ·have h2:=bl_asymm h
  have h3:(a==b)=false:=by simpa using (bl_ne h).symm
  rw [h2,h3,h];rfl
end Go.Proofs.YtndfdnlbljhlgaaGreat
end
section
namespace Go.Proofs.YtndfdnlbljhlgaaGreat
open Go Go.AM Go.Proofs
set_option maxRecDepth 20000
set_option maxHeartbeats 1000000
set_option linter.unusedSimpArgs false
set_option linter.unusedVariables false
def mayG:Bs→List KV→Bool
 | _,[]=>true
 | last,x::l=>(oneOk x&&Op.bytesLess last x.key)&&mayG x.key l
def mayL (l:List KV):Bool:=mayG [] l
def KS (l:List KV):Prop:=∀x∈l,x.key.length≤9223372036854775807
theorem runG_mayK:∀(l:List KV) k last,(∃b,runG (fun _ (x:KV) (last:Bs)=>(if (oneOk x&&Op.bytesLess last x.key)=true then .inl x.key else .inr 0:Bs⊕Nat)) k l last = .inl b∧mayG last l=true) ∨
  (runG (fun _ (x:KV) (last:Bs)=>(if (oneOk x&&Op.bytesLess last x.key)=true then .inl x.key else .inr 0:Bs⊕Nat)) k l last = .inr 0∧mayG last l=false):=by
 intro l
 induction l with
 | nil=>intro k last;exact .inl ⟨last,rfl,rfl⟩
 | cons x l ih =>
  intro k last
  cases h:(oneOk x&&Op.bytesLess last x.key)
  ·right;simp only [runG,mayG,h,Bool.false_eq_true,if_false,Bool.false_and,and_self]
  ·simp only [runG,mayG,h,if_true,Bool.true_and]
   exact ih _ _
theorem HMay_ev (s:Sl KV) (hk:KS s.l) (hl:s.l.length≤9223372036854775807) (H:List Blk):EvF tab 123 [.g (KVs.g s)] H=some ⟨B (mayL s.l),[],[]⟩:=by
 have hq:=loop_runJ (E:=EvF tab) (h:=H) (c:=L123_0) (lv:=[3,6,7,8]) (l:=s.l) (β:=Bs) (γ:=Nat) (fun _ _=>True) (fun _ x last=>if (oneOk x&&Op.bytesLess last x.key)=true then .inl x.key else .inr 0)
  (fun k r o=>⟨[(3,T r),(6,.g (KVs.g s)),(7,I s.l.length),(8,I k)],[],o⟩)
  (fun r o=>(.exit 0,⟨[(3,T r),(6,.g (KVs.g s)),(7,I s.l.length),(8,I s.l.length),(9,B false)],[],o⟩))
  (fun _ o=>(.ret,⟨[(2,B false)],[],o⟩)) (by simp) (by simp) (fun k x r o hk2 hx hy hi => ?_) (fun r o _=>by delta L123_0;cases s <;> simp -implicitDefEqProofs) [] [] trivial
 ·obtain ⟨o',hq⟩:=hq
  simp only [Int.ofNat_zero,Int.cast_ofNat_Int] at hq
  refine EvF_walk t123 (by simp) ?_
  unfold mayL
  rcases runG_mayK s.l 0 [] with ⟨b,k1,k2⟩ | ⟨k1,k2⟩ <;> rw [k1] at hq <;> simp only [endJ] at hq <;> simp -implicitDefEqProofs [hq,k2]
 ·have e2:=wrap_succ hk2 (by omega)
  have h1:=fun H=>one_ev x (hk x (List.mem_of_getElem? hx)) H
  delta L123_0
  cases s with
  | nil=>simp at hk2
  | of l =>
   simp only [Sl.l_of] at hk2 hx hy hl ⊢
   have hb:=bl_not x.key r
   generalize oneOk x=b1 at h1 ⊢
   simp only [A,KV.c,List.map_cons,List.map_nil] at h1
   cases b1
   ·refine ⟨o++[.cells (x.c.map .g)],?_⟩
    simp -implicitDefEqProofs [hk2,hy,KV.c,h1]
   ·rw [←hb]
    generalize hc:(Op.bytesLess x.key r||x.key==r)=b2
    cases b2
    ·refine ⟨trivial,o++[.cells (x.c.map .g)],?_⟩
     simp -implicitDefEqProofs [hk2,hy,KV.c,h1,hc,e2]
    ·refine ⟨o++[.cells (x.c.map .g)],?_⟩
     simp -implicitDefEqProofs [hk2,hy,KV.c,h1,hc]
theorem May2L_ev (s:Sl KV) (hk:KS s.l) (hl:s.l.length≤9223372036854775807) (H:List Blk):EvF tab 79 [.g (KVs.g s)] H=some ⟨B (mayL s.l),[],[]⟩:=by
 have hq:=loop_runJ (E:=EvF tab) (h:=H) (c:=L79_0) (lv:=[0,3]) (l:=s.l) (β:=Bs) (γ:=Nat) (fun k last=>(k=0∧last=[])∨∃j y,k=j+1∧s.l[j]? = some y∧last=y.key) (fun _ x last=>if (oneOk x&&Op.bytesLess last x.key)=true then .inl x.key else .inr 0)
  (fun k r o=>⟨[(0,.g (KVs.g s)),(3,I k)],[],o⟩)
  (fun r o=>(.exit 0,⟨[(0,.g (KVs.g s)),(3,I s.l.length),(7,B false)],[],o⟩))
  (fun _ o=>(.ret,⟨[(2,B false)],[],o⟩)) (by simp) (by simp) (fun k x r o hk2 hx hy hi => ?_) (fun r o _=>by delta L79_0;cases s <;> simp -implicitDefEqProofs) [] [] (.inl ⟨rfl,rfl⟩)
 ·obtain ⟨o',hq⟩:=hq
  simp only [Int.ofNat_zero,Int.cast_ofNat_Int] at hq
  refine EvF_walk t79 (by simp) ?_
  unfold mayL
  rcases runG_mayK s.l 0 [] with ⟨b,k1,k2⟩ | ⟨k1,k2⟩ <;> rw [k1] at hq <;> simp only [endJ] at hq <;> simp -implicitDefEqProofs [hq,k2]
 ·have e2:=wrap_succ hk2 (by omega)
  have h1:=fun H=>One2_ev x (hk x (List.mem_of_getElem? hx)) H
  delta L79_0
  cases s with
  | nil=>simp at hk2
  | of l =>
   simp only [Sl.l_of] at hk2 hx hy hl hi ⊢
   have hne:oneOk x=true→Op.bytesLess [] x.key=true:=fun h=>by
    have h1:1≤x.key.length:=by
     simp only [oneOk,keyOk,Bool.and_eq_true,decide_eq_true_eq] at h;exact h.1.1.1
    cases hq:x.key with
    | nil=>rw [hq] at h1;simp at h1
    | cons a b=>rfl
   cases ho:oneOk x <;> rw [ho] at h1
   ·refine ⟨o,?_⟩
    simp only [A,KV.c,List.map_cons,List.map_nil] at h1
    rcases hi with ⟨rfl,rfl⟩ | ⟨j,y,rfl,hj,rfl⟩
    ·simp -implicitDefEqProofs [hk2,hy,KV.c,h1]
    ·simp -implicitDefEqProofs [hk2,hy,KV.c,h1,show (j:Int)+1<(l.length:Int) by omega,show (0:Int)≤(j:Int)+1 by omega]
   ·simp only [A,KV.c,List.map_cons,List.map_nil] at h1
    rcases hi with ⟨rfl,rfl⟩ | ⟨j,y,rfl,hj,rfl⟩
    ·rw [hne ho]
     refine ⟨.inr ⟨0,x,rfl,hx,rfl⟩,o,?_⟩
     simp -implicitDefEqProofs [hk2,hy,KV.c,h1,e2,show IntKind.i64.wrap 1=1 from rfl]
    ·have hj2:j<l.length:=by omega
     have hj3:l[j]=y:=by have:=List.getElem?_eq_getElem hj2;rw [hj] at this;exact (Option.some.inj this).symm
     have e3:IntKind.i64.wrap ((j:Int)+1 - 1)=(j:Int):=by rw [wrap_i64 (by omega) (by omega)];omega
     have e4:(0:Int)<(j:Int)+1:=by omega
     have e6:IntKind.i64.wrap (j:Int)=(j:Int):=wrap_i64 (by omega) (by omega)
     have e7:(j:Int)+1<(l.length:Int):=by omega
     have e8:(0:Int)≤(j:Int)+1:=by omega
     have e9:((j:Int)+1).toNat=j+1:=by omega
     have e5:IntKind.i64.wrap ((j:Int)+1+1)=(j:Int)+1+1:=wrap_i64 (by omega) (by omega)
     cases hc:Op.bytesLess y.key x.key
     ·refine ⟨o,?_⟩
      simp -implicitDefEqProofs [hk2,hy,KV.c,h1,e3,e4,e6,e7,e8,e9,hj2,hj3,hc,show j+1<l.length by omega]
     ·refine ⟨.inr ⟨j+1,x,rfl,hx,rfl⟩,o,?_⟩
      simp -implicitDefEqProofs [hk2,hy,KV.c,h1,e3,e4,e5,e6,e7,e8,e9,hj2,hj3,hc,show j+1<l.length by omega]
end Go.Proofs.YtndfdnlbljhlgaaGreat
end
section
namespace Go.Proofs.YtndfdnlbljhlgaaGreat
open Go Go.AM Go.Proofs
set_option linter.unusedSimpArgs false
set_option linter.unusedVariables false
def layP:List KV→KV→List KV
 | [],x=>[x]
 | y::l,x=>if Op.bytesLess y.key x.key=true then y::layP l x else if y.key=x.key then x::l else x::y::l
def takeP:List KV→Bs→List KV
 | [],_=>[]
 | y::l,k=>if y.key=k then l else y::takeP l k
def stepP (rev:Int) (l:List KV) (e:Ev):List KV:=if rev<e.rev then l else if e.gone=true then takeP l e.kv.key else layP l e.kv
def foldP (l:List KV) (log:List Ev) (rev:Int):List KV:=log.foldl (stepP rev) l
theorem layP_len (x:KV):∀l,(layP l x).length≤l.length+1
 | []=>by simp [layP]
 | y::l=>by
  have:=layP_len x l
  unfold layP
  split
  ·simp only [List.length_cons];omega
  ·split <;> simp
theorem takeP_len (k:Bs):∀l,(takeP l k).length≤l.length
 | []=>by simp [takeP]
 | y::l=>by
  have:=takeP_len k l
  unfold takeP
  split
  ·simp
  ·simp only [List.length_cons];omega
theorem layP_ne (l:List KV) (x:KV):layP l x ≠ []:=by
 cases l with
 | nil=>simp [layP]
 | cons y l=>unfold layP;split;simp;split <;> simp
def layF (x:KV) (b:List KV×Bool) (y:KV):List KV×Bool :=
 if (b.2||Op.bytesLess y.key x.key)=true then (b.1++[y],b.2) else if y.key=x.key then (b.1++[x],true) else (b.1++[x,y],true)
theorem layF_true (x:KV):∀(l r:List KV),l.foldl (layF x) (r,true)=(r++l,true)
 | [],r=>by simp
 | y::l,r=>by
  rw [List.foldl_cons,show layF x (r,true) y=(r++[y],true) by simp [layF],layF_true x l]
  simp
theorem layF_fin (x:KV):∀(l r:List KV),(let b:=l.foldl (layF x) (r,false);if b.2=true then b.1 else b.1++[x])=r++layP l x
 | [],r=>by simp [layP]
 | y::l,r=>by
  rw [List.foldl_cons]
  by_cases h:Op.bytesLess y.key x.key=true
  ·rw [show layF x (r,false) y=(r++[y],false) by simp [layF,h]]
   have:=layF_fin x l (r++[y])
   rw [this]
   simp [layP,h]
  ·by_cases h2:y.key=x.key
   ·rw [show layF x (r,false) y=(r++[x],true) by simp only [layF,Bool.false_or,h,h2,if_true];simp [bl_irrefl],layF_true]
    simp [layP,h,h2,bl_irrefl]
   ·rw [show layF x (r,false) y=(r++[x,y],true) by simp [layF,h,h2],layF_true]
    simp [layP,h,h2]
theorem takeP_find (k:Bs):∀(l:List KV) (i:Nat),(match findN k i l with | none=>takeP l k=l | some j=>takeP l k=l.take (j - i)++l.drop (j - i+1))
 | [],i=>rfl
 | y::l,i=>by
  unfold findN takeP
  by_cases h:y.key=k
  ·simp [h]
  ·simp only [if_neg h]
   have:=takeP_find k l (i+1)
   rcases hq:findN k (i+1) l with _ | j <;> rw [hq] at this <;> simp only at this ⊢
   ·rw [this]
   ·obtain ⟨h1,_⟩:=findN_spec k l (i+1) j hq
    have e:j - i=(j - (i+1))+1:=by omega
    rw [this,e];rfl
def slOf {α:Type} (l:List α):Sl α:=if l=[] then .nil else .of l
theorem slOf_l {α:Type} (l:List α):(slOf l).l=l:=by unfold slOf;split <;> simp_all
theorem nslG_slOf {α:Type} (sz:Nat) (c:α→List GV) (l:List α):nslG sz c l=(slOf l).g sz c:=by
 unfold nslG slOf;split <;> rfl
def takeR (s:Sl KV) (k:Bs):Sl KV:=match findN k 0 s.l with | none=>s | some i=>slOf (s.l.take i++s.l.drop (i+1))
theorem takeR_l (s:Sl KV) (k:Bs):(takeR s k).l=takeP s.l k:=by
 have:=takeP_find k s.l 0
 unfold takeR
 rcases hq:findN k 0 s.l with _ | j <;> rw [hq] at this <;> simp only at this ⊢
 ·exact this.symm
 ·rw [slOf_l,this];rfl
def stepR (rev:Int) (s:Sl KV) (e:Ev):Sl KV:=if rev<e.rev then s else if e.gone=true then takeR s e.kv.key else .of (layP s.l e.kv)
def stepR2 (rev:Int) (s:Sl KV) (e:Ev):Sl KV:=if rev<e.rev then s else if e.gone=true then .of (takeP s.l e.kv.key) else .of (layP s.l e.kv)
theorem stepR_l (rev:Int) (s:Sl KV) (e:Ev):(stepR rev s e).l=stepP rev s.l e:=by
 unfold stepR stepP;split;rfl;split;exact takeR_l _ _;rfl
theorem stepR2_l (rev:Int) (s:Sl KV) (e:Ev):(stepR2 rev s e).l=stepP rev s.l e:=by
 unfold stepR2 stepP;split;rfl;split <;> rfl
def foldR (s:Sl KV) (log:List Ev) (rev:Int):Sl KV:=log.foldl (stepR rev) s
def foldR2 (s:Sl KV) (log:List Ev) (rev:Int):Sl KV:=log.foldl (stepR2 rev) s
theorem foldR_l (rev:Int):∀(log:List Ev) (s:Sl KV),(foldR s log rev).l=foldP s.l log rev
 | [],s=>rfl
 | e::log,s=>by
  have:=foldR_l rev log (stepR rev s e)
  unfold foldR foldP at *
  rw [List.foldl_cons,List.foldl_cons,this,stepR_l]
theorem foldR2_l (rev:Int):∀(log:List Ev) (s:Sl KV),(foldR2 s log rev).l=foldP s.l log rev
 | [],s=>rfl
 | e::log,s=>by
  have:=foldR2_l rev log (stepR2 rev s e)
  unfold foldR2 foldP at *
  rw [List.foldl_cons,List.foldl_cons,this,stepR2_l]
theorem stepP_len (rev:Int) (l:List KV) (e:Ev):(stepP rev l e).length≤l.length+1:=by
 unfold stepP;split;omega;split
 ·have:=takeP_len e.kv.key l;omega
 ·exact layP_len _ _
theorem foldP_len (rev:Int):∀(log:List Ev) (l:List KV),(foldP l log rev).length≤l.length+log.length
 | [],l=>by simp [foldP]
 | e::log,l=>by
  have h1:=foldP_len rev log (stepP rev l e)
  have h2:=stepP_len rev l e
  unfold foldP at *
  rw [List.foldl_cons,List.length_cons];omega
end Go.Proofs.YtndfdnlbljhlgaaGreat
end
section
namespace Go.Proofs.YtndfdnlbljhlgaaGreat
open Go Go.AM Go.Proofs
set_option maxRecDepth 4000
set_option linter.unusedSimpArgs false
set_option linter.unusedVariables false
def placeN (id:Int):Nat→List Lease→Option Nat
 | _,[]=>none
 | k,x::r=>if x.id=id then some k else placeN id (k+1) r
def placeI (id:Int) (l:List Lease):Int:=match placeN id 0 l with
 | some i=>i
 | none => -1
theorem place_ev (L:Leases) (id:Int) (hl:L.l.l.length≤9223372036854775807) (H:List Blk):EvF tab 132 [A L.c,I id] H=some ⟨I (placeI id L.l.l),[],[]⟩:=by
 refine EvF_walk t132 (by simp) ?_
 obtain ⟨nx,s⟩:=L
 simp only at hl
 have hw:=fun o=>loop_runJ (E:=EvF tab) (h:=H) (c:=L132_0) (lv:=[1,5,9,10,11]) (l:=s.l) (β:=Unit) (γ:=Nat) (fun _ _=>True) (fun k x _=>if x.id=id then .inr k else .inl ())
  (fun k _ o=>⟨[(1,I id),(5,I (-1)),(9,.g (LeaseL.g s)),(10,I s.l.length),(11,I k)],[],o⟩)
  (fun _ o=>(.exit 0,⟨[(1,I id),(5,I (-1)),(9,.g (LeaseL.g s)),(10,I s.l.length),(11,I s.l.length),(12,B false)],[],o⟩))
  (fun i o=>(.exit 0,⟨[(5,I i)],[],o⟩)) (by simp) (by simp) (fun k x b o hk hx hy _ => ?_) (fun b o _=>by delta L132_0;simp -implicitDefEqProofs) () o trivial
 ·obtain ⟨o',hw⟩:=hw [.cells [I nx,.g (LeaseL.g s)]]
  have key:∀(l:List Lease) k,runG (fun k (x:Lease) (_:Unit)=>if x.id=id then .inr k else .inl ()) k l ()=match placeN id k l with | some i => .inr i | none=>(.inl ():Unit⊕Nat):=by
   intro l
   induction l with
   | nil=>intro k;rfl
   | cons x l ih =>
    intro k
    simp only [runG,placeN]
    by_cases h:x.id=id <;> simp only [h,if_true,if_false]
    exact ih _
  rw [key] at hw
  simp only [Int.ofNat_zero,Int.cast_ofNat_Int] at hw
  unfold placeI
  rcases hq:placeN id 0 s.l with _ | i <;> rw [hq] at hw <;> simp only [endJ] at hw <;> simp -implicitDefEqProofs [A,Leases.c,hw]
 ·have e2:=wrap_succ hk hl
  delta L132_0
  cases s with
  | nil=>simp at hk
  | of l =>
   simp only [Sl.l_of] at hk hy
   by_cases hi:x.id=id
   ·simp only [if_pos hi]
    exact ⟨o++[.cells (x.c.map .g)],by simp -implicitDefEqProofs [hk,hy,Lease.c,hi]⟩
   ·simp only [if_neg hi]
    exact ⟨trivial,o++[.cells (x.c.map .g)],by simp -implicitDefEqProofs [hk,hy,Lease.c,hi,e2]⟩
theorem runG_place (id:Int):∀(l:List Lease) k,runG (fun k (x:Lease) (_:Unit)=>if x.id=id then .inr k else .inl ()) k l ()=match placeN id k l with | some i => .inr i | none=>(.inl ():Unit⊕Nat):=by
 intro l
 induction l with
 | nil=>intro k;rfl
 | cons x l ih =>
  intro k
  simp only [runG,placeN]
  by_cases h:x.id=id <;> simp only [h,if_true,if_false]
  exact ih _
theorem place2_ev (L:Leases) (id:Int) (hl:L.l.l.length≤9223372036854775807) (H:List Blk):EvF tab 42 [A L.c,I id] H=some ⟨I (placeI id L.l.l),[],[]⟩:=by
 refine EvF_walk t42 (by simp) ?_
 obtain ⟨nx,s⟩:=L
 simp only at hl
 have hw:=loop_runJ (E:=EvF tab) (h:=H) (c:=L42_0) (lv:=[1,2,5]) (l:=s.l) (β:=Unit) (γ:=Nat) (fun _ _=>True) (fun k x _=>if x.id=id then .inr k else .inl ())
  (fun k _ o=>⟨[(1,I id),(2,.ptr H.length 0),(5,I k)],[],[.cells [I nx,.g (LeaseL.g s)]]⟩)
  (fun _ o=>(.exit 0,⟨[(1,I id),(2,.ptr H.length 0),(5,I s.l.length),(10,B false)],[],[.cells [I nx,.g (LeaseL.g s)]]⟩))
  (fun i o=>(.ret,⟨[(4,I i)],[],[.cells [I nx,.g (LeaseL.g s)]]⟩)) (by simp) (by simp) (fun k x b o hk hx hy _ => ?_) (fun b o _=>by delta L42_0;simp -implicitDefEqProofs) () [] trivial
 ·obtain ⟨o',hw⟩:=hw
  rw [runG_place] at hw
  simp only [Int.ofNat_zero,Int.cast_ofNat_Int] at hw
  unfold placeI
  rcases hq:placeN id 0 s.l with _ | i <;> rw [hq] at hw <;> simp only [endJ] at hw <;> simp -implicitDefEqProofs [A,Leases.c,hw]
 ·have e2:=wrap_succ hk hl
  delta L42_0
  cases s with
  | nil=>simp at hk
  | of l =>
   simp only [Sl.l_of] at hk hy
   by_cases hi:x.id=id
   ·simp only [if_pos hi]
    exact ⟨o,by simp -implicitDefEqProofs [hk,hy,Lease.c,hi]⟩
   ·simp only [if_neg hi]
    exact ⟨trivial,o,by simp -implicitDefEqProofs [hk,hy,Lease.c,hi,e2]⟩
def timeOk (n:Int):Bool:=decide (0≤n)&&decide (n≤1099511627775)
theorem timeOk_iff {n:Int}:timeOk n=true↔0≤n∧n≤1099511627775:=by simp [timeOk]
theorem moment_ev (n:Int) (H:List Blk):EvF tab 126 [I n] H=some ⟨B (timeOk n),[],[]⟩:=by
 refine EvF_walk t126 (by simp) ?_
 by_cases h2:0≤n <;> simp -implicitDefEqProofs [h2,timeOk]
theorem timeR_ev (n:Int) (H:List Blk):EvF tab 81 [I n] H=some ⟨B (timeOk n),[],[]⟩:=by
 refine EvF_walk t81 (by simp) ?_
 by_cases h2:0≤n <;> simp -implicitDefEqProofs [h2,timeOk]
theorem isLive_of {H:List Blk} {id:Nat} {b:Blk} (h:H[id]? = some b):isLiveB H id=b.live:=by unfold isLiveB;rw [h]
theorem stretch_ev {H:List Blk} {id:Nat} {a b c:Int} (hH:H[id]? = some (.cells [I a,I b,I c])) (now:Int) :
  EvF tab 190 [.ptr id 0,I now] H=some ⟨.tup [],[(id,.cells [I a,I b,I (if c<IntKind.i64.wrap (now+b) then IntKind.i64.wrap (now+b) else c)])],[]⟩:=by
 refine EvF_walk t190 (by simp) ?_
 have hlt:id<H.length:=(List.getElem?_eq_some_iff.1 hH).1
 have hlive:=isLive_of hH
 by_cases h:c<IntKind.i64.wrap (now+b) <;> simp -implicitDefEqProofs [getB_old hlt,setB_old hlt,hH,hlive,h]
theorem stretch3 (H:List Blk) (x y z:Blk) (a b c now:Int):EvF tab 190 [.ptr (H.length+3) 0,I now] (H++[x,y,z,.cells [I a,I b,I c]]) =
  some ⟨.tup [],[(H.length+3,.cells [I a,I b,I (if c<IntKind.i64.wrap (now+b) then IntKind.i64.wrap (now+b) else c)])],[]⟩ :=
 stretch_ev (by simp) now
theorem concatTL:∃m msg m' msg',tab.T 133=some (concatF 3 24 174 m msg)∧tab.T 174=some (growF 3 24 [.int .i64 0,.int .i64 0,.int .i64 0] m' msg') :=
 ⟨_,_,_,_,t133,t174⟩
theorem concatL_ev (a b:Sl Lease) (hn:a.l.length+b.l.length≤1099511627776) (H:List Blk) :
  EvF tab 133 [.g (.sl 1 [[LeaseL.g a],[LeaseL.g b]])] H=some ⟨.g (nslG 3 Lease.c (a.l++b.l)),[],[]⟩:=by
 obtain ⟨m,msg,m',msg',h1,h2⟩:=concatTL
 exact concat_ev h1 h2 a b (by omega) (by omega) H
def grantOk (L:Leases) (ttl now:Int):Int:=if 1≤ttl∧ttl≤1000∧timeOk now=true then (if 8≤L.l.l.length∨1099511627775≤L.next then 4 else 0) else 1
def grantS (L:Leases) (ttl now:Int):Leases:=if grantOk L ttl now=0 then ⟨L.next+1,.of (L.l.l++[⟨L.next+1,ttl,now+ttl⟩])⟩ else L
def grantI (L:Leases) (ttl now:Int):Int:=if grantOk L ttl now=0 then L.next+1 else 0
theorem Grant_ev (L:Leases) (ttl now:Int) (hL:L.wf) (H:List Blk):EvF tab 156 [A L.c,I ttl,I now] H=some ⟨.tup [A (grantS L ttl now).c,I (grantI L ttl now),I (grantOk L ttl now)],[],[]⟩:=by
 refine EvF_walk t156 (by simp) ?_
 obtain ⟨nx,s⟩:=L
 obtain ⟨⟨hn1,hn2⟩,_,hl⟩:=hL
 simp only at hn1 hn2 hl
 have m1:=fun H=>moment_ev now H
 unfold grantS grantI grantOk
 simp only
 by_cases h1:1≤ttl
 case neg=>simp -implicitDefEqProofs [A,Leases.c,h1,show ttl<1 by omega]
 by_cases h2:ttl≤1000
 case neg=>simp -implicitDefEqProofs [A,Leases.c,h1,h2,show ¬ttl<1 by omega,show 1000<ttl by omega]
 cases h3:timeOk now
 case false=>rw [h3] at m1;simp -implicitDefEqProofs [A,Leases.c,h1,h2,show ¬ttl<1 by omega,show ¬1000<ttl by omega,m1]
 rw [h3] at m1
 have h3':=timeOk_iff.1 h3
 by_cases h4:8≤s.l.length
 case pos=>simp -implicitDefEqProofs [A,Leases.c,h1,h2,show ¬ttl<1 by omega,show ¬1000<ttl by omega,m1,h4,show (8:Int)≤s.l.length by omega]
 by_cases h5:1099511627775≤nx
 case pos=>simp -implicitDefEqProofs [A,Leases.c,h1,h2,show ¬ttl<1 by omega,show ¬1000<ttl by omega,m1,h4,show ¬(8:Int)≤s.l.length by omega,h5]
 have e1:IntKind.i64.wrap (nx+1)=nx+1:=wrap_i64 (by omega) (by omega)
 have e2:IntKind.i64.wrap (now+ttl)=now+ttl:=wrap_i64 (by omega) (by omega)
 have cc:=fun H=>concatL_ev s (.of [⟨nx+1,ttl,now+ttl⟩]) (by simp;omega) H
 simp only [LeaseL.g,Sl.g_of,Sl.l_of,Lease.c,List.map_cons,List.map_nil] at cc
 simp -implicitDefEqProofs [A,Leases.c,h1,h2,show ¬ttl<1 by omega,show ¬1000<ttl by omega,m1,h4,show ¬(8:Int)≤s.l.length by omega,h5,e1,stretch3,chunk,e2,show 0<now+ttl by omega,cc,nslG]
theorem placeN_spec (id:Int):∀(l:List Lease) k i,placeN id k l=some i→k≤i∧∃(h:i - k<l.length),l[i - k].id=id
 | [],k,i,h=>by cases h
 | x::l,k,i,h=>by
  simp only [placeN] at h
  split at h
  ·rename_i hx
   cases h
   exact ⟨Nat.le_refl _,by simp,by simpa using hx⟩
  ·obtain ⟨h1,h2,h3⟩:=placeN_spec id l (k+1) i h
   refine ⟨by omega,by simp;omega,?_⟩
   have:i - k=(i - (k+1))+1:=by omega
   simp only [this,List.getElem_cons_succ]
   exact h3
theorem place_some {id:Int} {l:List Lease} {i:Nat} (h:placeN id 0 l=some i):∃h:i<l.length,l[i].id=id:=by
 obtain ⟨_,h2,h3⟩:=placeN_spec id l 0 i h
 exact ⟨by simpa using h2,by simpa using h3⟩
def hasS (id:Int) (l:List Lease):Bool:=(placeN id 0 l).isSome
theorem Has_ev (L:Leases) (id:Int) (hl:L.l.l.length≤9223372036854775807) (H:List Blk):EvF tab 62 [A L.c,I id] H=some ⟨B (hasS id L.l.l),[],[]⟩:=by
 refine EvF_walk t62 (by simp) ?_
 have p:=fun H=>place_ev L id hl H
 unfold hasS
 simp only [A,Leases.c,List.map_cons,List.map_nil] at p ⊢
 rcases hq:placeN id 0 L.l.l with _ | i <;> simp only [placeI,hq] at p <;> simp -implicitDefEqProofs [p]
theorem Has2_ev (L:Leases) (id:Int) (hl:L.l.l.length≤9223372036854775807) (H:List Blk):EvF tab 16 [A L.c,I id] H=some ⟨B (hasS id L.l.l),[],[]⟩:=by
 refine EvF_walk t16 (by simp) ?_
 have p:=fun H=>place2_ev L id hl H
 unfold hasS
 simp only [A,Leases.c,List.map_cons,List.map_nil] at p ⊢
 rcases hq:placeN id 0 L.l.l with _ | i <;> simp only [placeI,hq] at p <;> simp -implicitDefEqProofs [p]
def keptL (x:Lease) (now:Int):Lease:=⟨x.id,x.ttl,if x.till<now+x.ttl then now+x.ttl else x.till⟩
def lkeepE (L:Leases) (id now:Int):Int:=if timeOk now=true then (if hasS id L.l.l=true then 0 else 6) else 1
def keepS (L:Leases) (id now:Int):Leases:=if timeOk now=true then (match placeN id 0 L.l.l with | some i=>⟨L.next,.of (L.l.l.set i (keptL (L.l.l[i]?.getD default) now))⟩ | none=>L) else L
def keepT (L:Leases) (id now:Int):Int:=if timeOk now=true then (match placeN id 0 L.l.l with | some i=>(L.l.l[i]?.getD default).ttl | none=>0) else 0
def smallT (L:Leases):Prop:=L.l.l.length≤1099511627776∧∀x∈L.l.l,-1125899906842624≤x.ttl∧x.ttl≤1125899906842624
theorem cloneT:tab.T 191=some (cloneF 3 24 true):=t191
theorem LKeep_ev (L:Leases) (id now:Int) (hs:smallT L) (H:List Blk):EvF tab 157 [A L.c,I id,I now] H=some ⟨.tup [A (keepS L id now).c,I (keepT L id now),I (lkeepE L id now)],[],[]⟩:=by
 refine EvF_walk t157 (by simp) ?_
 have m1:=fun H=>moment_ev now H
 have p:=fun H=>place_ev L id (by have:=hs.1;omega) H
 obtain ⟨nx,s⟩:=L
 obtain ⟨hl,ht⟩:=hs
 simp only at hl ht
 unfold keepS keepT lkeepE hasS
 simp only [A,Leases.c,List.map_cons,List.map_nil] at p ⊢
 cases h3:timeOk now
 case false=>rw [h3] at m1;simp -implicitDefEqProofs [m1]
 rw [h3] at m1
 have h3':=timeOk_iff.1 h3
 rcases hq:placeN id 0 s.l with _ | i <;> simp only [placeI,hq] at p
 case none=>simp -implicitDefEqProofs [m1,p]
 obtain ⟨hi,hid⟩:=place_some hq
 cases s with
 | nil=>simp at hi
 | of l =>
  simp only [Sl.l_of] at hi hid ht hl
  obtain ⟨x,hx⟩:∃x,l[i]=x:=⟨_,rfl⟩
  have htx:=ht x (by rw [←hx];exact List.getElem_mem _)
  have e2:IntKind.i64.wrap (now+x.ttl)=now+x.ttl:=wrap_i64 (by omega) (by omega)
  have cl:=fun H=>clone_ev (c:=Lease.c) cloneT l (fun e=>by rw [e] at hi;simp at hi) (by omega) (by omega) H
  simp only [LeaseL.g,Sl.g_of,Sl.l_of] at p
  simp -implicitDefEqProofs [m1,p,hi,hx,Lease.c,stretch3,cl,e2]
  rw [List.take_of_length_le (by simp)];rfl
def endE (L:Leases) (id:Int):Int:=if hasS id L.l.l=true then 0 else 6
def endL' (l:List Lease) (i:Nat):List Lease:=l.take i++l.drop (i+1)
def endS (L:Leases) (id:Int):Leases:=match placeN id 0 L.l.l with | some i=>⟨L.next,slOf (endL' L.l.l i)⟩ | none=>L
theorem End_ev (L:Leases) (id:Int) (hl:L.l.l.length≤1099511627776) (H:List Blk):EvF tab 63 [A L.c,I id] H=some ⟨.tup [A (endS L id).c,I (endE L id)],[],[]⟩:=by
 refine EvF_walk t63 (by simp) ?_
 have p:=fun H=>place_ev L id (by omega) H
 obtain ⟨nx,s⟩:=L
 simp only at hl
 unfold endS endE hasS
 simp only [A,Leases.c,List.map_cons,List.map_nil] at p ⊢
 rcases hq:placeN id 0 s.l with _ | i <;> simp only [placeI,hq] at p
 case none=>simp -implicitDefEqProofs [p]
 obtain ⟨hi,hid⟩:=place_some hq
 cases s with
 | nil=>simp at hi
 | of l =>
  simp only [Sl.l_of] at hi hid hl
  simp only [LeaseL.g,Sl.g_of,Sl.l_of] at p
  have cc:=fun H=>concatL_ev (.of (l.take i)) (.of (l.drop (i+1))) (by simp;omega) H
  simp only [LeaseL.g,Sl.g_of,Sl.l_of,nslG_slOf,List.map_take,List.map_drop] at cc
  have e1:IntKind.i64.wrap ((i:Int)+1)=(i:Int)+1:=wrap_i64 (by omega) (by omega)
  have e2:((i:Int)+1).toNat=i+1:=by omega
  have e3:List.take l.length (List.map Lease.c l)=List.map Lease.c l:=List.take_of_length_le (by simp)
  simp -implicitDefEqProofs [p,cc,cutB,bnd,intOfA,e1,e2,e3,show i≤l.length by omega,show i+1≤l.length by omega,show (i:Int)≤l.length by omega,show (i:Int)+1≤l.length by omega,show (0:Int)≤(i:Int)+1 by omega,chunk,endL']
theorem End2_ev (L:Leases) (id:Int) (hl:L.l.l.length≤1099511627776) (H:List Blk):EvF tab 67 [A L.c,I id] H=some ⟨.tup [A (endS L id).c,I (endE L id)],[],[]⟩:=by
 refine EvF_walk t67 (by simp) ?_
 have p:=fun H=>place2_ev L id (by omega) H
 obtain ⟨nx,s⟩:=L
 simp only at hl
 unfold endS endE hasS
 simp only [A,Leases.c,List.map_cons,List.map_nil] at p ⊢
 rcases hq:placeN id 0 s.l with _ | i <;> simp only [placeI,hq] at p
 case none=>simp -implicitDefEqProofs [p]
 obtain ⟨hi,hid⟩:=place_some hq
 cases s with
 | nil=>simp at hi
 | of l =>
  simp only [Sl.l_of] at hi hid hl
  simp only [LeaseL.g,Sl.g_of,Sl.l_of] at p
  have e1:IntKind.i64.wrap ((i:Int)+1)=(i:Int)+1:=wrap_i64 (by omega) (by omega)
  have e2:((i:Int)+1).toNat=i+1:=by omega
  have e3:List.take l.length (List.map Lease.c l)=List.map Lease.c l:=List.take_of_length_le (by simp)
  obtain ⟨xs,hxs⟩:∃xs,l.take i=xs:=⟨_,rfl⟩
  obtain ⟨ys,hys⟩:∃ys,l.drop (i+1)=ys:=⟨_,rfl⟩
  have hlx:xs.length+ys.length≤1099511627776:=by rw [←hxs,←hys];simp;omega
  have e4:List.take i (List.map Lease.c l)=List.map Lease.c xs:=by rw [←hxs,List.map_take]
  have e5:List.drop (i+1) (List.map Lease.c l)=List.map Lease.c ys:=by rw [←hys,List.map_drop]
  have ee:endL' l i=xs++ys:=by rw [←hxs,←hys];rfl
  have e6:List.take xs.length (List.map Lease.c xs)=List.map Lease.c xs:=List.take_of_length_le (by simp)
  have e7:List.take ys.length (List.map Lease.c ys)=List.map Lease.c ys:=List.take_of_length_le (by simp)
  have e8:List.take (xs.length+ys.length) (List.map Lease.c xs++List.map Lease.c ys)=List.map Lease.c xs++List.map Lease.c ys:=List.take_of_length_le (by simp)
  have ax:=fun (hx:xs ≠ []) t m o=>app_nil (c:=Lease.c) (sz:=3) (bytes:=24) (l:=xs) hx (by omega) (by omega) H t m o
  have ay:=fun (hx:ys ≠ []) t m o=>app_nil (c:=Lease.c) (sz:=3) (bytes:=24) (l:=ys) hx (by omega) (by omega) H t m o
  have ag:=fun (hx:ys.map Lease.c ≠ []) t m A B C D E=>app_grow (sz:=3) (bytes:=24) (g:=2) (xs:=xs.map Lease.c) (ys:=ys.map Lease.c) hx (by simp;omega) (by simp;omega) H t m [A,B,C,D,E]
  simp only [List.length_cons,List.length_nil,List.cons_append,List.nil_append,List.length_map,Nat.zero_add,Nat.reduceAdd] at ag
  have a0:∀t m o,appV H ⟨t,m,o⟩ 3 24 (.g .nsl) []=some (.g .nsl,⟨t,m,o⟩,[]):=fun t m o=>rfl
  have am:∀t m A B C D E,appV H ⟨t,m,[A,B,C,D,E,.rows 3 2 (xs.map Lease.c)]⟩ 3 24 (.ms (H.length+5) 2 3 0 xs.length) []=some (.ms (H.length+5) 2 3 0 xs.length,⟨t,m,[A,B,C,D,E,.rows 3 2 (xs.map Lease.c)]⟩,[]):=fun t m A B C D E=>by simp [appV]
  have F1:i≤l.length:=by omega
  have F2:i+1≤l.length:=by omega
  have F3:(i:Int)≤l.length:=by omega
  have F4:(i:Int)+1≤l.length:=by omega
  have F5:(0:Int)≤(i:Int)+1:=by omega
  by_cases hx:xs=[]
  ·by_cases hy:ys=[]
   ·rw [hx] at e4;rw [hy] at e5
    rw [hx,hy] at ee
    simp -implicitDefEqProofs [p,cutB,bnd,intOfA,e1,e2,e3,e4,e5,a0,ee,F1,F2,F3,F4,F5,slOf]
   ·rw [hx] at e4
    rw [hx] at ee
    simp -implicitDefEqProofs [p,cutB,bnd,intOfA,e1,e2,e3,e4,e5,a0,ay hy,e7,ee,F1,F2,F3,F4,F5,slOf,hy]
  ·by_cases hy:ys=[]
   ·rw [hy] at e5
    rw [hy] at ee
    simp -implicitDefEqProofs [p,cutB,bnd,intOfA,e1,e2,e3,e4,e5,ax hx,am,e6,ee,F1,F2,F3,F4,F5,slOf,hx]
   ·simp -implicitDefEqProofs [p,cutB,bnd,intOfA,e1,e2,e3,e4,e5,ax hx,ag (by simpa using hy),e8,ee,F1,F2,F3,F4,F5,slOf,hx]
end Go.Proofs.YtndfdnlbljhlgaaGreat
end
section
namespace Go.Proofs.YtndfdnlbljhlgaaGreat
open Go Go.AM Go.Proofs
set_option maxRecDepth 4000
set_option linter.unusedSimpArgs false
set_option linter.unusedVariables false
theorem runG_filter {α β:Type} (p:α→Bool) (f:α→β):∀(l:List α) k r,runG (fun _ (x:α) (r:List β)=>(if p x=true then .inl (r++[f x]) else .inl r:List β⊕Nat)) k l r = .inl (r++(l.filter p).map f):=by
 intro l
 induction l with
 | nil=>intro k r;simp [runG]
 | cons x l ih =>
  intro k r
  cases h:p x
  ·simp only [runG,h,Bool.false_eq_true,if_false,List.filter_cons]
   exact ih _ _
  ·simp only [runG,h,if_true,List.filter_cons]
   rw [ih];simp
def dueP (now:Int) (x:Lease):Bool:=decide (x.till≤now)
def dueS (l:List Lease) (now:Int):List Int:=(l.filter (dueP now)).map Lease.id
theorem Due_ev (L:Leases) (now:Int) (hl:L.l.l.length≤1099511627776) (H:List Blk):EvF tab 37 [A L.c,I now] H=some ⟨.g (Ints.g (slOf (dueS L.l.l now))),[],[]⟩:=by
 refine EvF_walk t37 (by simp) ?_
 obtain ⟨nx,s⟩:=L
 simp only at hl ⊢
 have hw:=loop_runJ (E:=EvF tab) (h:=H) (c:=L37_0) (lv:=[1,5,9,10,11]) (l:=s.l) (β:=List Int) (γ:=Nat) (fun k r=>r.length≤k) (fun _ x r=>if dueP now x=true then .inl (r++[x.id]) else .inl r)
  (fun k r o=>⟨[(1,I now),(5,.ms (H.length+2) (r.length+1) 1 0 r.length),(9,.g (LeaseL.g s)),(10,I s.l.length),(11,I k)],[],.cells [I nx,.g (LeaseL.g s)] :: .rows 1 1 [] :: .rows 1 (r.length+1) (r.map Ints.c)::o⟩)
  (fun r o=>(.exit 0,⟨[(1,I now),(5,.ms (H.length+2) (r.length+1) 1 0 r.length),(9,.g (LeaseL.g s)),(10,I s.l.length),(11,I s.l.length),(12,B false)],[],.cells [I nx,.g (LeaseL.g s)] :: .rows 1 1 [] :: .rows 1 (r.length+1) (r.map Ints.c)::o⟩))
  (fun _ o=>(.ret,⟨[],[],o⟩)) (by simp) (by simp) (fun k x r o hk hx hy hi => ?_) (fun r o _=>by delta L37_0;simp -implicitDefEqProofs) [] [] (by simp)
 ·obtain ⟨o',hw⟩:=hw
  rw [runG_filter] at hw
  simp only [endJ,List.nil_append,List.map_nil,List.length_nil,Int.ofNat_zero,Int.cast_ofNat_Int,Nat.zero_add] at hw
  rw [show (s.l.filter (dueP now)).map Lease.id=dueS s.l now from rfl] at hw
  obtain ⟨r,hr⟩:∃r,dueS s.l now=r:=⟨_,rfl⟩
  rw [hr] at hw ⊢
  have e1:List.take r.length (List.map Ints.c r)=List.map Ints.c r:=List.take_of_length_le (by simp)
  cases r with
  | nil=>simp -implicitDefEqProofs [A,Leases.c,hw,slOf]
  | cons y r =>
   have e1:List.take r.length (List.map Ints.c r)=List.map Ints.c r:=List.take_of_length_le (by simp)
   simp -implicitDefEqProofs [A,Leases.c,hw,slOf,e1]
 ·have e2:=wrap_succ hk (by omega)
  delta L37_0
  cases s with
  | nil=>simp at hk
  | of l =>
   simp only [Sl.l_of] at hk hy hl
   have e3:List.take r.length (List.map Ints.c r)=List.map Ints.c r:=List.take_of_length_le (by simp)
   by_cases hd:x.till≤now
   ·have hp:dueP now x=true:=by simp [dueP,hd]
    simp only [hp,if_true]
    refine ⟨by simp;omega,o++[.cells (x.c.map .g)],?_⟩
    simp -implicitDefEqProofs [hk,hy,Lease.c,hd,e2,appV,room,Nat.not_succ_le_self,chunk,Ints.c,show r.length+1≤140737488355328 by omega,show (r.length+1)*8≤140737488355328 by omega,e3]
   ·have hp:dueP now x=false:=by simp [dueP];omega
    simp only [hp,Bool.false_eq_true,if_false]
    refine ⟨by omega,o++[.cells (x.c.map .g)],?_⟩
    simp -implicitDefEqProofs [hk,hy,Lease.c,hd,e2]
theorem Due2_ev (L:Leases) (now:Int) (hl:L.l.l.length≤1099511627776) (H:List Blk):EvF tab 71 [A L.c,I now] H=some ⟨.g (Ints.g (slOf (dueS L.l.l now))),[],[]⟩:=by
 refine EvF_walk t71 (by simp) ?_
 obtain ⟨nx,s⟩:=L
 simp only at hl ⊢
 have hw:=loop_runJ (E:=EvF tab) (h:=H) (c:=L71_0) (lv:=[1,2,5,6]) (l:=s.l) (β:=List Int) (γ:=Nat) (fun k r=>r.length≤k) (fun _ x r=>if dueP now x=true then .inl (r++[x.id]) else .inl r)
  (fun k r o=>⟨[(1,I now),(2,.ptr H.length 0),(5,.ms (H.length+2) (r.length+1) 1 0 r.length),(6,I k)],[],[.cells [I nx,.g (LeaseL.g s)],.rows 1 1 [],.rows 1 (r.length+1) (r.map Ints.c)]⟩)
  (fun r o=>(.exit 0,⟨[(1,I now),(2,.ptr H.length 0),(5,.ms (H.length+2) (r.length+1) 1 0 r.length),(6,I s.l.length),(11,B false)],[],[.cells [I nx,.g (LeaseL.g s)],.rows 1 1 [],.rows 1 (r.length+1) (r.map Ints.c)]⟩))
  (fun _ o=>(.ret,⟨[],[],o⟩)) (by simp) (by simp) (fun k x r o hk hx hy hi => ?_) (fun r o _=>by delta L71_0;simp -implicitDefEqProofs) [] [] (by simp)
 ·obtain ⟨o',hw⟩:=hw
  rw [runG_filter] at hw
  simp only [endJ,List.nil_append,List.map_nil,List.length_nil,Int.ofNat_zero,Int.cast_ofNat_Int,Nat.zero_add] at hw
  rw [show (s.l.filter (dueP now)).map Lease.id=dueS s.l now from rfl] at hw
  obtain ⟨r,hr⟩:∃r,dueS s.l now=r:=⟨_,rfl⟩
  rw [hr] at hw ⊢
  cases r with
  | nil=>simp -implicitDefEqProofs [A,Leases.c,hw,slOf]
  | cons y r =>
   have e1:List.take r.length (List.map Ints.c r)=List.map Ints.c r:=List.take_of_length_le (by simp)
   simp -implicitDefEqProofs [A,Leases.c,hw,slOf,e1]
 ·have e2:=wrap_succ hk (by omega)
  delta L71_0
  cases s with
  | nil=>simp at hk
  | of l =>
   simp only [Sl.l_of] at hk hy hl
   have e3:List.take r.length (List.map Ints.c r)=List.map Ints.c r:=List.take_of_length_le (by simp)
   by_cases hd:x.till≤now
   ·have hp:dueP now x=true:=by simp [dueP,hd]
    simp only [hp,if_true]
    refine ⟨by simp;omega,o,?_⟩
    simp -implicitDefEqProofs [hk,hy,Lease.c,hd,e2,appV,room,Nat.not_succ_le_self,chunk,Ints.c,show r.length+1≤140737488355328 by omega,show (r.length+1)*8≤140737488355328 by omega,e3]
   ·have hp:dueP now x=false:=by simp [dueP];omega
    simp only [hp,Bool.false_eq_true,if_false]
    refine ⟨by omega,o,?_⟩
    simp -implicitDefEqProofs [hk,hy,Lease.c,hd,e2]
def dropM (x:KV):Mut:=⟨true,x.key,[],0⟩
def dropP (id:Int) (x:KV):Bool:=decide (x.lease=id)
def dropsS (l:List KV) (id:Int):List Mut:=if id=0 then [] else (l.filter (dropP id)).map dropM
theorem Drops_ev (s:KVs) (id:Int) (hl:s.l.length≤1099511627776) (H:List Blk):EvF tab 64 [.g (KVs.g s),I id] H=some ⟨.g (Muts.g (slOf (dropsS s.l id))),[],[]⟩:=by
 refine EvF_walk t64 (by simp) ?_
 unfold dropsS
 by_cases h0:id=0
 ·simp -implicitDefEqProofs [h0,slOf]
 simp only [if_neg h0]
 have hw:=loop_runJ (E:=EvF tab) (h:=H) (c:=L64_0) (lv:=[1,5,10,11,12]) (l:=s.l) (β:=List Mut) (γ:=Nat) (fun k r=>r.length≤k) (fun _ x r=>if dropP id x=true then .inl (r++[dropM x]) else .inl r)
  (fun k r o=>⟨[(1,I id),(5,.ms (H.length+1) (r.length+1) 4 0 r.length),(10,.g (KVs.g s)),(11,I s.l.length),(12,I k)],[],.rows 4 1 [] :: .rows 4 (r.length+1) (r.map Mut.c)::o⟩)
  (fun r o=>(.exit 0,⟨[(1,I id),(5,.ms (H.length+1) (r.length+1) 4 0 r.length),(10,.g (KVs.g s)),(11,I s.l.length),(12,I s.l.length),(13,B false)],[],.rows 4 1 [] :: .rows 4 (r.length+1) (r.map Mut.c)::o⟩))
  (fun _ o=>(.ret,⟨[],[],o⟩)) (by simp) (by simp) (fun k x r o hk hx hy hi => ?_) (fun r o _=>by delta L64_0;simp -implicitDefEqProofs) [] [] (by simp)
 ·obtain ⟨o',hw⟩:=hw
  rw [runG_filter] at hw
  simp only [endJ,List.nil_append,List.map_nil,List.length_nil,Int.ofNat_zero,Int.cast_ofNat_Int,Nat.zero_add] at hw
  obtain ⟨r,hr⟩:∃r,(s.l.filter (dropP id)).map dropM=r:=⟨_,rfl⟩
  rw [hr] at hw ⊢
  cases r with
  | nil=>simp -implicitDefEqProofs [h0,hw,slOf]
  | cons y r =>
   have e1:List.take r.length (List.map Mut.c r)=List.map Mut.c r:=List.take_of_length_le (by simp)
   simp -implicitDefEqProofs [h0,hw,slOf,e1]
 ·have e2:=wrap_succ hk (by omega)
  delta L64_0
  cases s with
  | nil=>simp at hk
  | of l =>
   simp only [Sl.l_of] at hk hy hl
   have e3:List.take r.length (List.map Mut.c r)=List.map Mut.c r:=List.take_of_length_le (by simp)
   by_cases hd:x.lease=id
   ·have hp:dropP id x=true:=by simp [dropP,hd]
    simp only [hp,if_true]
    refine ⟨by simp;omega,o++[.cells (x.c.map .g)],?_⟩
    simp -implicitDefEqProofs [hk,hy,KV.c,hd,e2,appV,room,Nat.not_succ_le_self,chunk,Mut.c,dropM,show r.length+1≤140737488355328 by omega,show (r.length+1)*48≤140737488355328 by omega,e3]
   ·have hp:dropP id x=false:=by simp [dropP,hd]
    simp only [hp,Bool.false_eq_true,if_false]
    refine ⟨by omega,o++[.cells (x.c.map .g)],?_⟩
    simp -implicitDefEqProofs [hk,hy,KV.c,hd,e2]
theorem Drops2_ev (s:KVs) (id:Int) (hl:s.l.length≤1099511627776) (H:List Blk):EvF tab 68 [.g (KVs.g s),I id] H=some ⟨.g (Muts.g (slOf (dropsS s.l id))),[],[]⟩:=by
 refine EvF_walk t68 (by simp) ?_
 have hw:=loop_runJ (E:=EvF tab) (h:=H) (c:=L68_0) (lv:=[0,1,5,6]) (l:=s.l) (β:=List Mut) (γ:=Nat) (fun k r=>r.length≤k) (fun _ x r=>if (!decide (id=0)&&dropP id x)=true then .inl (r++[dropM x]) else .inl r)
  (fun k r o=>⟨[(0,.g (KVs.g s)),(1,I id),(5,.ms (H.length+1) (r.length+1) 4 0 r.length),(6,I k)],[],[.rows 4 1 [],.rows 4 (r.length+1) (r.map Mut.c)]⟩)
  (fun r o=>(.exit 0,⟨[(0,.g (KVs.g s)),(1,I id),(5,.ms (H.length+1) (r.length+1) 4 0 r.length),(6,I s.l.length),(10,B false)],[],[.rows 4 1 [],.rows 4 (r.length+1) (r.map Mut.c)]⟩))
  (fun _ o=>(.ret,⟨[],[],o⟩)) (by simp) (by simp) (fun k x r o hk hx hy hi => ?_) (fun r o _=>by delta L68_0;simp -implicitDefEqProofs) [] [] (by simp)
 ·obtain ⟨o',hw⟩:=hw
  rw [runG_filter (fun x => !decide (id=0)&&dropP id x) dropM] at hw
  simp only [endJ,List.nil_append,List.map_nil,List.length_nil,Int.ofNat_zero,Int.cast_ofNat_Int,Nat.zero_add] at hw
  have hd:(s.l.filter (fun x => !decide (id=0)&&dropP id x)).map dropM=dropsS s.l id:=by
   unfold dropsS
   by_cases h0:id=0
   ·simp [h0]
   ·simp [h0]
  rw [hd] at hw
  obtain ⟨r,hr⟩:∃r,dropsS s.l id=r:=⟨_,rfl⟩
  rw [hr] at hw ⊢
  cases r with
  | nil=>simp -implicitDefEqProofs [hw,slOf]
  | cons y r =>
   have e1:List.take r.length (List.map Mut.c r)=List.map Mut.c r:=List.take_of_length_le (by simp)
   simp -implicitDefEqProofs [hw,slOf,e1]
 ·have e2:=wrap_succ hk (by omega)
  delta L68_0
  cases s with
  | nil=>simp at hk
  | of l =>
   simp only [Sl.l_of] at hk hy hl
   have e3:List.take r.length (List.map Mut.c r)=List.map Mut.c r:=List.take_of_length_le (by simp)
   by_cases h0:id=0
   ·have hp:(!decide (id=0)&&dropP id x)=false:=by simp [h0]
    simp only [hp,Bool.false_eq_true,if_false]
    refine ⟨by omega,o,?_⟩
    simp -implicitDefEqProofs [hk,hy,KV.c,h0,e2]
   ·by_cases hd:x.lease=id
    ·have hp:(!decide (id=0)&&dropP id x)=true:=by simp [dropP,hd,h0]
     simp only [hp,if_true]
     refine ⟨by simp;omega,o,?_⟩
     simp -implicitDefEqProofs [hk,hy,KV.c,hd,h0,e2,appV,room,Nat.not_succ_le_self,chunk,Mut.c,dropM,show r.length+1≤140737488355328 by omega,show (r.length+1)*48≤140737488355328 by omega,e3]
    ·have hp:(!decide (id=0)&&dropP id x)=false:=by simp [dropP,hd]
     simp only [hp,Bool.false_eq_true,if_false]
     refine ⟨by omega,o,?_⟩
     simp -implicitDefEqProofs [hk,hy,KV.c,hd,h0,e2]
end Go.Proofs.YtndfdnlbljhlgaaGreat
end
section
namespace Go.Proofs.YtndfdnlbljhlgaaGreat
open Go Go.AM Go.Proofs
set_option maxRecDepth 4000
set_option linter.unusedSimpArgs false
set_option linter.unusedVariables false
def okL (next last:Int) (x:Lease):Bool:=decide (last<x.id)&&decide (x.id≤next)&&decide (1≤x.ttl)&&decide (x.ttl≤1000)&&decide (0≤x.till)&&decide (x.till≤1099511627775+x.ttl)
theorem okL_iff {next last:Int} {x:Lease}:okL next last x=true↔last<x.id∧x.id≤next∧1≤x.ttl∧x.ttl≤1000∧0≤x.till∧x.till≤1099511627775+x.ttl:=by
 simp [okL,Bool.and_eq_true,and_assoc]
def lmayG (next:Int):Int→List Lease→Bool
 | _,[]=>true
 | last,x::r=>okL next last x&&lmayG next x.id r
def mayS (L:Leases):Bool:=timeOk L.next&&decide (L.l.l.length≤8)&&lmayG L.next 0 L.l.l
theorem runG_may (next:Int):∀(l:List Lease) k last,(∃b,runG (fun _ (x:Lease) (last:Int)=>(if okL next last x=true then .inl x.id else .inr 0:Int⊕Nat)) k l last = .inl b∧lmayG next last l=true) ∨
  (runG (fun _ (x:Lease) (last:Int)=>(if okL next last x=true then .inl x.id else .inr 0:Int⊕Nat)) k l last = .inr 0∧lmayG next last l=false):=by
 intro l
 induction l with
 | nil=>intro k last;exact .inl ⟨last,rfl,rfl⟩
 | cons x l ih =>
  intro k last
  cases h:okL next last x
  ·right;simp only [runG,lmayG,h,Bool.false_eq_true,if_false,Bool.false_and,and_self]
  ·simp only [runG,lmayG,h,if_true,Bool.true_and]
   exact ih _ _
theorem LMay_ev (L:Leases) (hL:L.wf) (H:List Blk):EvF tab 57 [A L.c] H=some ⟨B (mayS L),[],[]⟩:=by
 refine EvF_walk t57 (by simp) ?_
 have m1:=fun n H=>moment_ev n H
 obtain ⟨nx,s⟩:=L
 obtain ⟨⟨hn1,hn2⟩,hw,hl⟩:=hL
 simp only at hn1 hn2 hl hw
 unfold mayS
 simp only
 cases h1:timeOk nx
 ·simp -implicitDefEqProofs [A,Leases.c,m1,h1]
 by_cases h2:s.l.length≤8
 case neg=>simp -implicitDefEqProofs [A,Leases.c,m1,h1,h2,show (8:Int)<s.l.length by omega]
 have hq:=loop_runJ (E:=EvF tab) (h:=H) (c:=L57_0) (lv:=[1,3,17,18,19]) (l:=s.l) (β:=Int) (γ:=Nat) (fun _ _=>True) (fun _ x last=>if okL nx last x=true then .inl x.id else .inr 0)
  (fun k r o=>⟨[(1,.ptr H.length 0),(3,I r),(17,.g (LeaseL.g s)),(18,I s.l.length),(19,I k)],[],.cells [I nx,.g (LeaseL.g s)]::o⟩)
  (fun r o=>(.exit 0,⟨[(1,.ptr H.length 0),(3,I r),(17,.g (LeaseL.g s)),(18,I s.l.length),(19,I s.l.length),(20,B false)],[],.cells [I nx,.g (LeaseL.g s)]::o⟩))
  (fun _ o=>(.ret,⟨[(2,B false)],[],.cells [I nx,.g (LeaseL.g s)]::o⟩)) (by simp) (by simp) (fun k x r o hk hx hy hi => ?_) (fun r o _=>by delta L57_0;simp -implicitDefEqProofs) 0 [] trivial
 ·obtain ⟨o',hq⟩:=hq
  simp only [Int.ofNat_zero,Int.cast_ofNat_Int] at hq
  rcases runG_may nx s.l 0 0 with ⟨b,k1,k2⟩ | ⟨k1,k2⟩ <;> rw [k1] at hq <;> simp only [endJ] at hq <;> simp -implicitDefEqProofs [A,Leases.c,m1,h1,h2,show ¬(8:Int)<s.l.length by omega,hq,k2]
 ·have e2:=wrap_succ hk (by omega)
  have hx2:x∈s.l:=by rw [←hy];exact List.getElem_mem _
  obtain ⟨⟨i1,i2⟩,⟨i3,i4⟩,⟨i5,i6⟩⟩:=hw x hx2
  delta L57_0
  cases s with
  | nil=>simp at hk
  | of l =>
   simp only [Sl.l_of] at hk hy hl
   have fail:okL nx r x=false→(if okL nx r x=true then (Sum.inl x.id:Int⊕Nat) else .inr 0) = .inr 0:=fun h=>by simp [h]
   by_cases c1:r<x.id
   case neg =>
    rw [fail (by simp [okL,c1])]
    exact ⟨o++[.cells (x.c.map .g)],by simp -implicitDefEqProofs [hk,hy,Lease.c,show x.id≤r by omega]⟩
   by_cases c2:x.id≤nx
   case neg =>
    rw [fail (by simp [okL,c2])]
    exact ⟨o++[.cells (x.c.map .g)],by simp -implicitDefEqProofs [hk,hy,Lease.c,show ¬x.id≤r by omega,show nx<x.id by omega]⟩
   by_cases c3:1≤x.ttl
   case neg =>
    rw [fail (by simp [okL,c3])]
    exact ⟨o++[.cells (x.c.map .g)],by simp -implicitDefEqProofs [hk,hy,Lease.c,show ¬x.id≤r by omega,show ¬nx<x.id by omega,show x.ttl<1 by omega]⟩
   by_cases c4:x.ttl≤1000
   case neg =>
    rw [fail (by simp [okL,c4])]
    exact ⟨o++[.cells (x.c.map .g)],by simp -implicitDefEqProofs [hk,hy,Lease.c,show ¬x.id≤r by omega,show ¬nx<x.id by omega,show ¬x.ttl<1 by omega,show 1000<x.ttl by omega]⟩
   by_cases c5:0≤x.till
   case neg =>
    rw [fail (by simp [okL,c5])]
    exact ⟨o++[.cells (x.c.map .g)],by simp -implicitDefEqProofs [hk,hy,Lease.c,show ¬x.id≤r by omega,show ¬nx<x.id by omega,show ¬x.ttl<1 by omega,show ¬1000<x.ttl by omega,show x.till<0 by omega]⟩
   have e3:IntKind.i64.wrap (x.till - x.ttl)=x.till - x.ttl:=wrap_i64 (by omega) (by omega)
   have e4:timeOk (if x.ttl<x.till then x.till - x.ttl else 0)=decide (x.till≤1099511627775+x.ttl):=by
    unfold timeOk
    rw [Bool.eq_iff_iff]
    simp only [Bool.and_eq_true,decide_eq_true_eq]
    split <;> constructor <;> intro h <;> omega
   have e5:=fun H=>m1 (if x.ttl<x.till then x.till - x.ttl else 0) H
   rw [e4] at e5
   by_cases c6:x.till≤1099511627775+x.ttl
   case neg =>
    rw [fail (by simp [okL,c6])]
    rw [decide_eq_false c6] at e5
    exact ⟨o++[.cells (x.c.map .g)],by simp -implicitDefEqProofs [hk,hy,Lease.c,show ¬x.id≤r by omega,show ¬nx<x.id by omega,show ¬x.ttl<1 by omega,show ¬1000<x.ttl by omega,show ¬x.till<0 by omega,e3,e5]⟩
   rw [decide_eq_true c6] at e5
   rw [if_pos (okL_iff.2 ⟨c1,c2,c3,c4,c5,c6⟩)]
   exact ⟨trivial,o++[.cells (x.c.map .g)],by simp -implicitDefEqProofs [hk,hy,Lease.c,show ¬x.id≤r by omega,show ¬nx<x.id by omega,show ¬x.ttl<1 by omega,show ¬1000<x.ttl by omega,show ¬x.till<0 by omega,e3,e5,e2]⟩
theorem LMay2_ev (L:Leases) (hL:L.wf) (H:List Blk):EvF tab 35 [A L.c] H=some ⟨B (mayS L),[],[]⟩:=by
 refine EvF_walk t35 (by simp) ?_
 have m1:=fun n H=>timeR_ev n H
 obtain ⟨nx,s⟩:=L
 obtain ⟨⟨hn1,hn2⟩,hw,hl⟩:=hL
 simp only at hn1 hn2 hl hw
 unfold mayS
 simp only
 cases h1:timeOk nx
 ·simp -implicitDefEqProofs [A,Leases.c,m1,h1]
 by_cases h2:s.l.length≤8
 case neg=>simp -implicitDefEqProofs [A,Leases.c,m1,h1,h2,show (8:Int)<s.l.length by omega]
 have hq:=loop_runJ (E:=EvF tab) (h:=H) (c:=L35_0) (lv:=[1,3]) (l:=s.l) (β:=Int) (γ:=Nat) (fun k r=>(k=0→r=0)∧(0<k→1≤r∧∃y,s.l[k - 1]? = some y∧y.id=r)) (fun _ x last=>if okL nx last x=true then .inl x.id else .inr 0)
  (fun k r o=>⟨[(1,.ptr H.length 0),(3,I k)],[],.cells [I nx,.g (LeaseL.g s)]::o⟩)
  (fun r o=>(.exit 0,⟨[(1,.ptr H.length 0),(3,I s.l.length),(19,B false)],[],.cells [I nx,.g (LeaseL.g s)]::o⟩))
  (fun _ o=>(.ret,⟨[(2,B false)],[],.cells [I nx,.g (LeaseL.g s)]::o⟩)) (by simp) (by simp) (fun k x r o hk hx hy hi => ?_) (fun r o _=>by delta L35_0;simp -implicitDefEqProofs) 0 [] ⟨fun _=>rfl,fun h=>by omega⟩
 ·obtain ⟨o',hq⟩:=hq
  simp only [Int.ofNat_zero,Int.cast_ofNat_Int] at hq
  rcases runG_may nx s.l 0 0 with ⟨b,k1,k2⟩ | ⟨k1,k2⟩ <;> rw [k1] at hq <;> simp only [endJ] at hq <;> simp -implicitDefEqProofs [A,Leases.c,m1,h1,h2,show ¬(8:Int)<s.l.length by omega,hq,k2]
 ·have e2:=wrap_succ hk (by omega)
  have hx2:x∈s.l:=by rw [←hy];exact List.getElem_mem _
  obtain ⟨⟨i1,i2⟩,⟨i3,i4⟩,⟨i5,i6⟩⟩:=hw x hx2
  obtain ⟨hi0,hi1⟩:=hi
  delta L35_0
  cases s with
  | nil=>simp at hk
  | of l =>
   simp only [Sl.l_of] at hk hy hl hi1
   have fail:okL nx r x=false→(if okL nx r x=true then (Sum.inl x.id:Int⊕Nat) else .inr 0) = .inr 0:=fun h=>by simp [h]
   have hr0:0≤r:=by
    rcases Nat.eq_zero_or_pos k with h | h
    ·rw [hi0 h];omega
    ·have:=(hi1 h).1;omega
   by_cases c0:1≤x.id
   case neg =>
    rw [fail (by simp [okL];omega)]
    exact ⟨o++[.cells (x.c.map .g)],by simp -implicitDefEqProofs [hk,hy,Lease.c,show x.id<1 by omega]⟩
   by_cases c2:x.id≤nx
   case neg =>
    rw [fail (by simp [okL,c2])]
    exact ⟨o++[.cells (x.c.map .g)],by simp -implicitDefEqProofs [hk,hy,Lease.c,show ¬x.id<1 by omega,show nx<x.id by omega]⟩
   have e6:IntKind.i64.wrap (1099511627775+x.ttl)=1099511627775+x.ttl∨1000<x.ttl∨x.ttl<1:=by
    by_cases h:1000<x.ttl∨x.ttl<1
    ·exact .inr h
    ·exact .inl (wrap_i64 (by omega) (by omega))
   cases k with
   | zero =>
    have hr:=hi0 rfl
    subst hr
    have c1:0<x.id:=by omega
    by_cases c3:1≤x.ttl
    case neg =>
     rw [fail (by simp [okL,c3])]
     exact ⟨o++[.cells (x.c.map .g)],by simp -implicitDefEqProofs [hk,hy,Lease.c,show ¬x.id<1 by omega,show ¬nx<x.id by omega,show x.ttl<1 by omega]⟩
    by_cases c4:x.ttl≤1000
    case neg =>
     rw [fail (by simp [okL,c4])]
     exact ⟨o++[.cells (x.c.map .g)],by simp -implicitDefEqProofs [hk,hy,Lease.c,show ¬x.id<1 by omega,show ¬nx<x.id by omega,show ¬x.ttl<1 by omega,show 1000<x.ttl by omega]⟩
    by_cases c5:0≤x.till
    case neg =>
     rw [fail (by simp [okL,c5])]
     exact ⟨o++[.cells (x.c.map .g)],by simp -implicitDefEqProofs [hk,hy,Lease.c,show ¬x.id<1 by omega,show ¬nx<x.id by omega,show ¬x.ttl<1 by omega,show ¬1000<x.ttl by omega,show x.till<0 by omega]⟩
    have e7:IntKind.i64.wrap (1099511627775+x.ttl)=1099511627775+x.ttl:=e6.elim id (fun h=>by omega)
    by_cases c6:x.till≤1099511627775+x.ttl
    case neg =>
     rw [fail (by simp [okL,c6])]
     exact ⟨o++[.cells (x.c.map .g)],by simp -implicitDefEqProofs [hk,hy,Lease.c,show ¬x.id<1 by omega,show ¬nx<x.id by omega,show ¬x.ttl<1 by omega,show ¬1000<x.ttl by omega,show ¬x.till<0 by omega,e7,show 1099511627775+x.ttl<x.till by omega]⟩
    rw [if_pos (okL_iff.2 ⟨c1,c2,c3,c4,c5,c6⟩)]
    exact ⟨⟨fun h=>by omega,fun _=>⟨by omega,x,by simp [hk,hy],rfl⟩⟩,o++[.cells (x.c.map .g)],by simp -implicitDefEqProofs [hk,hy,Lease.c,show ¬x.id<1 by omega,show ¬nx<x.id by omega,show ¬x.ttl<1 by omega,show ¬1000<x.ttl by omega,show ¬x.till<0 by omega,e7,show ¬1099511627775+x.ttl<x.till by omega,e2,show IntKind.i64.wrap 1=1 by decide +kernel]⟩
   | succ k =>
    obtain ⟨hr1,z,hz,hzr⟩:=hi1 (by omega)
    simp only [Nat.add_sub_cancel] at hz
    obtain ⟨hkz,hz2⟩:=List.getElem?_eq_some_iff.1 hz
    have w1:IntKind.i64.wrap (k:Int)=k:=wrap_i64 (by omega) (by omega)
    have w2:IntKind.i64.wrap ((k:Int)+1)=(k:Int)+1:=wrap_i64 (by omega) (by omega)
    have w3:IntKind.i64.wrap ((k:Int)+1 - 1)=k:=by rw [show (k:Int)+1 - 1=k by omega];exact w1
    have w4:(k:Int)+1<l.length:=by omega
    have w5:(0:Int)≤(k:Int)+1:=by omega
    have w6:((k:Int)+1).toNat=k+1:=by omega
    have w7:IntKind.i64.wrap ((k:Int)+1+1)=(k:Int)+1+1:=wrap_i64 (by omega) (by omega)
    by_cases c1:r<x.id
    case neg =>
     rw [fail (by simp [okL,c1])]
     exact ⟨o++[.cells (x.c.map .g)],by simp -implicitDefEqProofs [hk,hy,Lease.c,show ¬x.id<1 by omega,show ¬nx<x.id by omega,w1,w3,w4,w5,w6,hkz,hz2,hzr,show x.id≤r by omega]⟩
    by_cases c3:1≤x.ttl
    case neg =>
     rw [fail (by simp [okL,c3])]
     exact ⟨o++[.cells (x.c.map .g)],by simp -implicitDefEqProofs [hk,hy,Lease.c,show ¬x.id<1 by omega,show ¬nx<x.id by omega,w1,w3,w4,w5,w6,hkz,hz2,hzr,show ¬x.id≤r by omega,show x.ttl<1 by omega]⟩
    by_cases c4:x.ttl≤1000
    case neg =>
     rw [fail (by simp [okL,c4])]
     exact ⟨o++[.cells (x.c.map .g)],by simp -implicitDefEqProofs [hk,hy,Lease.c,show ¬x.id<1 by omega,show ¬nx<x.id by omega,w1,w3,w4,w5,w6,hkz,hz2,hzr,show ¬x.id≤r by omega,show ¬x.ttl<1 by omega,show 1000<x.ttl by omega]⟩
    by_cases c5:0≤x.till
    case neg =>
     rw [fail (by simp [okL,c5])]
     exact ⟨o++[.cells (x.c.map .g)],by simp -implicitDefEqProofs [hk,hy,Lease.c,show ¬x.id<1 by omega,show ¬nx<x.id by omega,w1,w3,w4,w5,w6,hkz,hz2,hzr,show ¬x.id≤r by omega,show ¬x.ttl<1 by omega,show ¬1000<x.ttl by omega,show x.till<0 by omega]⟩
    have e7:IntKind.i64.wrap (1099511627775+x.ttl)=1099511627775+x.ttl:=e6.elim id (fun h=>by omega)
    by_cases c6:x.till≤1099511627775+x.ttl
    case neg =>
     rw [fail (by simp [okL,c6])]
     exact ⟨o++[.cells (x.c.map .g)],by simp -implicitDefEqProofs [hk,hy,Lease.c,show ¬x.id<1 by omega,show ¬nx<x.id by omega,w1,w3,w4,w5,w6,hkz,hz2,hzr,show ¬x.id≤r by omega,show ¬x.ttl<1 by omega,show ¬1000<x.ttl by omega,show ¬x.till<0 by omega,e7,show 1099511627775+x.ttl<x.till by omega]⟩
    rw [if_pos (okL_iff.2 ⟨c1,c2,c3,c4,c5,c6⟩)]
    exact ⟨⟨fun h=>by omega,fun _=>⟨by omega,x,by simp [hk,hy],rfl⟩⟩,o++[.cells (x.c.map .g)],by simp -implicitDefEqProofs [hk,hy,Lease.c,show ¬x.id<1 by omega,show ¬nx<x.id by omega,w1,w3,w4,w5,w6,hkz,hz2,hzr,show ¬x.id≤r by omega,show ¬x.ttl<1 by omega,show ¬1000<x.ttl by omega,show ¬x.till<0 by omega,e7,show ¬1099511627775+x.ttl<x.till by omega,e2,w7]⟩
end Go.Proofs.YtndfdnlbljhlgaaGreat
end
section
namespace Go.Proofs.YtndfdnlbljhlgaaGreat
open Go Go.AM Go.Proofs
set_option linter.unusedSimpArgs false
set_option linter.unusedVariables false
theorem hasS_iff {id:Int} {l:List Lease}:hasS id l=true↔∃x∈l,x.id=id:=by
 unfold hasS
 have key:∀(l:List Lease) k,(placeN id k l).isSome=true↔∃x∈l,x.id=id:=by
  intro l
  induction l with
  | nil=>intro k;simp [placeN]
  | cons x l ih =>
   intro k
   simp only [placeN]
   by_cases h:x.id=id
   ·simp [h]
   ·simp [h,ih]
 exact key l 0
def fOk (next:Int) (x:Lease):Prop:=x.id≤next∧1≤x.ttl∧x.ttl≤1000∧0≤x.till∧x.till≤1099511627775+x.ttl
theorem lmayG_iff {next:Int}:∀{l:List Lease} {last:Int},lmayG next last l=true↔(∀x∈l,last<x.id∧fOk next x)∧l.Pairwise (fun x y=>x.id<y.id):=by
 intro l
 induction l with
 | nil=>intro last;simp [lmayG]
 | cons x l ih =>
  intro last
  simp only [lmayG,Bool.and_eq_true,okL_iff,ih,List.pairwise_cons,List.mem_cons,fOk]
  constructor
  ·rintro ⟨⟨h1,h2⟩,h3,h4⟩
   refine ⟨?_,fun y hy=>(h3 y hy).1,h4⟩
   rintro y (rfl | hy)
   ·exact ⟨h1,h2⟩
   ·have:=h3 y hy;exact ⟨by omega,this.2⟩
  ·rintro ⟨h1,h2,h3⟩
   exact ⟨h1 x (.inl rfl),fun y hy=>⟨h2 y hy,(h1 y (.inr hy)).2⟩,h3⟩
theorem mayS_iff {L:Leases}:mayS L=true↔(0≤L.next∧L.next≤1099511627775)∧L.l.l.length≤8∧(∀x∈L.l.l,0<x.id∧fOk L.next x)∧L.l.l.Pairwise (fun x y=>x.id<y.id):=by
 simp only [mayS,Bool.and_eq_true,timeOk_iff,decide_eq_true_eq,lmayG_iff,and_assoc]
theorem endL'_erase (l:List Lease) (i:Nat):endL' l i=l.eraseIdx i:=by
 rw [endL',List.eraseIdx_eq_take_drop_succ]
theorem may_end {L:Leases} (h:mayS L=true) (id:Int):mayS (endS L id)=true:=by
 unfold endS
 rcases hp:placeN id 0 L.l.l with _ | i
 ·exact h
 ·simp only
  rw [mayS_iff] at h ⊢
  obtain ⟨h1,h2,h3,h4⟩:=h
  have hs:(endL' L.l.l i).Sublist L.l.l:=by rw [endL'_erase];exact List.eraseIdx_sublist _ _
  simp only [slOf_l]
  exact ⟨h1,by have:=hs.length_le;omega,fun x hx=>h3 x (hs.subset hx),h4.sublist hs⟩
theorem end_has {L:Leases} (h:mayS L=true) (id:Int):hasS id (endS L id).l.l=false:=by
 rw [Bool.eq_false_iff,ne_eq,hasS_iff]
 rintro ⟨x,hx,hid⟩
 unfold endS at hx
 rcases hp:placeN id 0 L.l.l with _ | i
 ·rw [hp] at hx
  have:hasS id L.l.l=true:=hasS_iff.2 ⟨x,hx,hid⟩
  simp [hasS,hp] at this
 ·rw [hp] at hx
  simp only [slOf_l,endL'] at hx
  obtain ⟨hi,hii⟩:=place_some hp
  have h4:=(mayS_iff.1 h).2.2.2
  have e:L.l.l=L.l.l.take i++L.l.l[i]::L.l.l.drop (i+1):=by simp
  rw [e,List.pairwise_append] at h4
  obtain ⟨_,h5,h6⟩:=h4
  rw [List.pairwise_cons] at h5
  rcases List.mem_append.1 hx with hx | hx
  ·have:=h6 x hx _ (List.mem_cons_self ..)
   omega
  ·have:=h5.1 x hx
   omega
theorem endE_0 {L:Leases} {id:Int}:endE L id=0↔hasS id L.l.l=true:=by
 unfold endE;cases hasS id L.l.l <;> simp
theorem may_small {L:Leases} (h:mayS L=true):smallT L:=by
 obtain ⟨_,h2,h3,_⟩:=mayS_iff.1 h
 exact ⟨by omega,fun x hx=>by have:=(h3 x hx).2;simp only [fOk] at this;omega⟩
theorem may_wf {L:Leases} (h:mayS L=true):L.wf:=by
 obtain ⟨h1,h2,h3,_⟩:=mayS_iff.1 h
 refine ⟨⟨by omega,by omega⟩,fun x hx => ?_,by omega⟩
 have:=h3 x hx
 simp only [fOk] at this
 exact ⟨⟨by omega,by omega⟩,⟨by omega,by omega⟩,⟨by omega,by omega⟩⟩
end Go.Proofs.YtndfdnlbljhlgaaGreat
end
section
namespace Go.Proofs.YtndfdnlbljhlgaaGreat
open Go Go.AM Go.Proofs
set_option maxRecDepth 20000
set_option linter.unusedSimpArgs false
set_option linter.unusedVariables false
set_option linter.defProp false
structure Memo where
 who:Int
 seq:Int
 rep:Reply
def Memo.c (x:Memo):List GV:=[.int .i64 x.who,.int .i64 x.seq,.int .i64 x.rep.code,.int .i64 x.rep.who,.int .i64 x.rep.seq,.int .i64 x.rep.rev,.int .i64 x.rep.lease,.int .i64 x.rep.ttl,.bool x.rep.yes,x.rep.kvs.g,x.rep.events.g]
def Memo.wf (x:Memo):Prop:=I64 x.who∧I64 x.seq∧x.rep.wf
structure Floor where
 who:Int
 seq:Int
 deriving DecidableEq
def Floor.c (x:Floor):List GV:=[.int .i64 x.who,.int .i64 x.seq]
def Floor.wf (x:Floor):Prop:=I64 x.who∧I64 x.seq
abbrev MemoL.g (s:Sl Memo):GV:=Sl.g 11 Memo.c s
abbrev Floors.g (s:Sl Floor):GV:=Sl.g 2 Floor.c s
structure Memos where
 l:Sl Memo
 old:Sl Floor
def Memos.c (x:Memos):List GV:=[MemoL.g x.l,Floors.g x.old]
def Memos.wf (x:Memos):Prop:=((∀y∈x.l.l,y.wf)∧x.l.l.length≤9223372036854775807)∧((∀y∈x.old.l,y.wf)∧x.old.l.length≤9223372036854775807)
def mkey (x:Memo):Int×Int:=(x.who,x.seq)
def SrtI (l:List Int):Prop:=l.Pairwise (fun a b=>a≤b)
theorem sortL_perm (l:List Int):(sortL l).Perm l:=List.mergeSort_perm l _
theorem sortL_srt (l:List Int):SrtI (sortL l):=by
 have:=List.pairwise_mergeSort (le:=fun x y:Int=>decide (x≤y)) (fun a b c h1 h2=>by simp at h1 h2 ⊢;omega) (fun a b=>by simp;omega) l
 exact this.imp (by simp)
theorem srt_uniq {a b:List Int} (ha:SrtI a) (hb:SrtI b) (hp:a.Perm b):a=b:=List.Perm.eq_of_pairwise (le:=fun a b=>a≤b) (fun a b _ _ h1 h2=>by omega) ha hb hp
def insL (n:Int):List Int→List Int
 | []=>[n]
 | y::l=>if y<n then y::insL n l else n::y::l
theorem insL_perm (n:Int):∀l,(insL n l).Perm (n::l)
 | []=>List.Perm.refl _
 | y::l=>by
  unfold insL
  split
  ·exact ((insL_perm n l).cons y).trans (List.Perm.swap n y l)
  ·exact List.Perm.refl _
theorem insL_srt (n:Int):∀{l:List Int},SrtI l→SrtI (insL n l)
 | [],_=>List.pairwise_singleton _ _
 | y::l,h=>by
  obtain ⟨h1,h2⟩:=List.pairwise_cons.1 h
  unfold insL
  split
  ·refine List.pairwise_cons.2 ⟨fun z hz => ?_,insL_srt n h2⟩
   rcases List.mem_cons.1 ((insL_perm n l).mem_iff.1 hz) with rfl | hz
   ·omega
   ·exact h1 z hz
  ·refine List.pairwise_cons.2 ⟨fun z hz => ?_,h⟩
   rcases List.mem_cons.1 hz with rfl | hz
   ·omega
   ·have:=h1 z hz;omega
theorem sortL_snoc (l:List Int) (n:Int):sortL (l++[n])=insL n (sortL l):=by
 refine srt_uniq (sortL_srt _) (insL_srt n (sortL_srt l)) ?_
 exact (sortL_perm _).trans ((List.perm_append_singleton n l).trans (((sortL_perm l).cons n).symm.trans (insL_perm n _).symm))
def putO (n:Int):List Int→List Int
 | []=>[n]
 | y::l=>if y<n then y::putO n l else if y=n then y::l else n::y::l
theorem putO_in (n:Int):∀{l:List Int},SrtI l→n∈l→putO n l=l
 | [],_,h=>by simp at h
 | y::l,hs,h=>by
  obtain ⟨h1,h2⟩:=List.pairwise_cons.1 hs
  unfold putO
  split
  ·rename_i hlt
   rcases List.mem_cons.1 h with rfl | h
   ·omega
   ·rw [putO_in n h2 h]
  ·rename_i hge
   rcases List.mem_cons.1 h with rfl | h
   ·rw [if_pos rfl]
   ·have:=h1 n h
    rw [if_pos (by omega)]
theorem putO_out (n:Int):∀{l:List Int},n∉l→putO n l=insL n l
 | [],_=>rfl
 | y::l,h=>by
  simp only [List.mem_cons,not_or] at h
  unfold putO insL
  rw [if_neg (show ¬y=n from fun e=>h.1 e.symm),putO_out n h.2]
def onceF (ks:List Int) (k:Int):List Int:=if k∈ks then ks else ks++[k]
def onceL (l:List Int):List Int:=l.foldl onceF []
theorem onceF_mem {ks:List Int} {k x:Int}:x∈onceF ks k↔x∈ks∨x=k:=by
 unfold onceF
 split
 ·rename_i h
  exact ⟨.inl,fun h2=>h2.elim id fun e=>e▸h⟩
 ·simp
theorem onceF_nodup {ks:List Int} (h:ks.Nodup) (k:Int):(onceF ks k).Nodup:=by
 unfold onceF
 split
 ·exact h
 ·rename_i hk
  rw [List.nodup_append]
  refine ⟨h,by simp,fun a ha b hb => ?_⟩
  rw [List.mem_singleton.1 hb]
  exact fun e=>hk (e▸ha)
theorem onceFold_mem:∀{l ks:List Int} {x:Int},x∈l.foldl onceF ks↔x∈ks∨x∈l
 | [],ks,x=>by simp
 | y::l,ks,x=>by
  rw [List.foldl_cons,onceFold_mem,onceF_mem]
  simp only [List.mem_cons]
  constructor
  ·rintro ((h | h) | h)
   ·exact .inl h
   ·exact .inr (.inl h)
   ·exact .inr (.inr h)
  ·rintro (h | h | h)
   ·exact .inl (.inl h)
   ·exact .inl (.inr h)
   ·exact .inr h
theorem onceFold_nodup:∀{l ks:List Int},ks.Nodup→(l.foldl onceF ks).Nodup
 | [],_,h=>h
 | y::l,ks,h=>by rw [List.foldl_cons];exact onceFold_nodup (onceF_nodup h y)
theorem onceFold_len:∀(l ks:List Int),(l.foldl onceF ks).length≤ks.length+l.length
 | [],ks=>by simp
 | y::l,ks=>by
  have:=onceFold_len l (onceF ks y)
  have h2:(onceF ks y).length≤ks.length+1:=by unfold onceF;split <;> simp
  rw [List.foldl_cons,List.length_cons];omega
theorem onceL_mem {l:List Int} {x:Int}:x∈onceL l↔x∈l:=by unfold onceL;rw [onceFold_mem];simp
theorem onceL_nodup (l:List Int):(onceL l).Nodup:=onceFold_nodup (by simp)
theorem putO_fold:∀(l ks:List Int),l.foldl (fun s n=>putO n s) (sortL ks)=sortL (l.foldl onceF ks)
 | [],ks=>rfl
 | y::l,ks=>by
  rw [List.foldl_cons,List.foldl_cons,←putO_fold l (onceF ks y)]
  congr 1
  unfold onceF
  split
  ·rename_i h;exact putO_in y (sortL_srt ks) ((sortL_perm ks).mem_iff.2 h)
  ·rename_i h
   rw [sortL_snoc,putO_out]
   exact fun h2=>h ((sortL_perm ks).mem_iff.1 h2)
theorem insL_fold:∀(l ks:List Int),l.foldl (fun s n=>insL n s) (sortL ks)=sortL (ks++l)
 | [],ks=>by simp
 | y::l,ks=>by
  rw [List.foldl_cons,←sortL_snoc,insL_fold l (ks++[y])];simp
theorem sortL_nil:sortL []=[]:=by simp [sortL]
def floorP:List Floor→Int→Int
 | [],_ => -1
 | f::l,w=>if f.who=w then f.seq else floorP l w
def hasP (l:List Floor) (w:Int):Bool:=l.any fun f=>decide (f.who=w)
def seqL (l:List Memo) (w:Int):List Int:=(l.filter fun x=>decide (x.who=w)).map Memo.seq
def seqsP (l:List Memo) (w:Int):List Int:=sortL (seqL l w)
def whoL (l:List Memo) (old:List Floor):List Int:=onceL (l.map Memo.who++old.map Floor.who)
def whosP (l:List Memo) (old:List Floor):List Int:=sortL (whoL l old)
theorem whosP_len (l:List Memo) (old:List Floor):(whosP l old).length≤l.length+old.length:=by
 unfold whosP whoL onceL
 rw [sortL_len]
 have:=onceFold_len (l.map Memo.who++old.map Floor.who) []
 simp only [List.length_append,List.length_map,List.length_nil] at this
 omega
def rep0:Reply:=⟨0,0,0,0,0,0,false,.nil,.nil⟩
def lookF (l:List Memo) (w s:Int):Option Memo:=l.find? fun x=>decide (x.who=w)&&decide (x.seq=s)
def lookP (l:List Memo) (old:List Floor) (w s:Int):Reply×Bool×Int :=
 match lookF l w s with
 | some x=>(x.rep,true,0)
 | none=>if s≤floorP old w then (rep0,false,7) else if 8≤(whosP l old).length∧w∉whosP l old then (rep0,false,4) else (rep0,false,0)
end Go.Proofs.YtndfdnlbljhlgaaGreat
end
section
namespace Go.Proofs.YtndfdnlbljhlgaaGreat
open Go Go.AM Go.Proofs
set_option maxRecDepth 4000
set_option linter.unusedSimpArgs false
def shortKV (x:KV):Bool := !(decide (60<(x.key.length:Int))||decide (60<(x.value.length:Int)))
def shortEv (x:Ev):Bool:=shortKV x.kv
theorem Few_loop (s:KVs) (hl:s.l.length≤9223372036854775807) (H:List Blk) :
  loopE (EvF tab) H L77_0 [0,5] ⟨[(0,.g (KVs.g s)),(5,I 0)],[],[]⟩ =
   some (if allP shortKV s.l=true then (.exit 0,⟨[(0,.g (KVs.g s)),(5,I s.l.length),(13,B false)],[],[]⟩) else (.ret,⟨[(4,B false)],[],[]⟩)):=by
 refine loop_all0 (l:=s.l) shortKV (fun k=>⟨[(0,.g (KVs.g s)),(5,I k)],[],[]⟩) _ _ (by simp) (by simp) (fun k x hk hx hy => ?_) (by delta L77_0;cases s <;> simp -implicitDefEqProofs)
 delta L77_0
 have e2:=wrap_succ hk hl
 cases s with
 | nil=>simp at hk
 | of l =>
  simp only [Sl.l_of] at hk hy
  by_cases h1:60<(x.key.length:Int)
  ·simp -implicitDefEqProofs [hk,hy,KV.c,shortKV,h1]
  ·by_cases h2:60<(x.value.length:Int)
   ·simp -implicitDefEqProofs [hk,hy,KV.c,shortKV,h1,h2]
   ·simp -implicitDefEqProofs [hk,hy,KV.c,shortKV,h1,h2,e2]
theorem Few_ev (s:KVs) (hl:s.l.length≤9223372036854775807) (n:Int) (H:List Blk):EvF tab 77 [.g (KVs.g s),I n] H=some ⟨B (decide ((s.l.length:Int)≤n)&&allP shortKV s.l),[],[]⟩:=by
 refine EvF_walk t77 (by simp) ?_
 have hw:=Few_loop s hl H
 rcases Int.lt_or_le n s.l.length with h | h
 ·have e:decide ((s.l.length:Int)≤n)=false:=by simp;omega
  rw [e]
  cases s <;> simp at h <;> simp -implicitDefEqProofs [h]
 ·have e:decide ((s.l.length:Int)≤n)=true:=by simp;omega
  rw [e]
  cases hs:allP shortKV s.l <;> rw [hs] at hw <;> simp only [Bool.false_eq_true,if_true,if_false] at hw
  all_goals cases s <;> simp at h hw hs <;> simp -implicitDefEqProofs [show ¬n<0 by omega,Int.not_lt.2 h,hw]
theorem FewEvents_loop (s:Evs) (hl:s.l.length≤9223372036854775807) (H:List Blk) :
  loopE (EvF tab) H L78_0 [0,5] ⟨[(0,.g (Evs.g s)),(5,I 0)],[],[]⟩ =
   some (if allP shortEv s.l=true then (.exit 0,⟨[(0,.g (Evs.g s)),(5,I s.l.length),(13,B false)],[],[]⟩) else (.ret,⟨[(4,B false)],[],[]⟩)):=by
 refine loop_all0 (l:=s.l) shortEv (fun k=>⟨[(0,.g (Evs.g s)),(5,I k)],[],[]⟩) _ _ (by simp) (by simp) (fun k x hk hx hy => ?_) (by delta L78_0;cases s <;> simp -implicitDefEqProofs)
 delta L78_0
 have e2:=wrap_succ hk hl
 cases s with
 | nil=>simp at hk
 | of l =>
  simp only [Sl.l_of] at hk hy
  by_cases h1:60<(x.kv.key.length:Int)
  ·simp -implicitDefEqProofs [hk,hy,Ev.c,shortKV,shortEv,h1]
  ·by_cases h2:60<(x.kv.value.length:Int)
   ·simp -implicitDefEqProofs [hk,hy,Ev.c,shortKV,shortEv,h1,h2]
   ·simp -implicitDefEqProofs [hk,hy,Ev.c,shortKV,shortEv,h1,h2,e2]
theorem FewEvents_ev (s:Evs) (hl:s.l.length≤9223372036854775807) (n:Int) (H:List Blk):EvF tab 78 [.g (Evs.g s),I n] H=some ⟨B (decide ((s.l.length:Int)≤n)&&allP shortEv s.l),[],[]⟩:=by
 refine EvF_walk t78 (by simp) ?_
 have hw:=FewEvents_loop s hl H
 rcases Int.lt_or_le n s.l.length with h | h
 ·have e:decide ((s.l.length:Int)≤n)=false:=by simp;omega
  rw [e]
  cases s <;> simp at h <;> simp -implicitDefEqProofs [h]
 ·have e:decide ((s.l.length:Int)≤n)=true:=by simp;omega
  rw [e]
  cases hs:allP shortEv s.l <;> rw [hs] at hw <;> simp only [Bool.false_eq_true,if_true,if_false] at hw
  all_goals cases s <;> simp at h hw hs <;> simp -implicitDefEqProofs [show ¬n<0 by omega,Int.not_lt.2 h,hw]
end Go.Proofs.YtndfdnlbljhlgaaGreat
end
section
namespace Go.Proofs.YtndfdnlbljhlgaaGreat
open Go Go.AM Go.Proofs
set_option maxRecDepth 20000
set_option maxHeartbeats 2000000
set_option linter.unusedSimpArgs false
set_option linter.unusedVariables false
theorem Memo.inv {gs:List GV} (h:HasTy (.p (.i .i64) (.p (.i .i64) (.p (.p (.i .i64) (.p (.i .i64) (.p (.i .i64) (.p (.i .i64) (.p (.i .i64) (.p (.i .i64) (.p .b (.p (.sl 6 tKV) (.p (.sl 8 tEv) .u))))))))) .u))) gs):∃x:Memo,x.wf∧gs=x.c:=by
 obtain ⟨_,_,rfl,⟨a,rfl,ha⟩,_,_,rfl,⟨b,rfl,hb⟩,_,_,rfl,hr,rfl⟩:=h
 obtain ⟨r,wr,rfl⟩:=Reply.inv hr
 exact ⟨⟨a,b,r⟩,⟨ha,hb,wr⟩,by simp [Memo.c,Reply.c]⟩
theorem Floor.inv {gs:List GV} (h:HasTy (.p (.i .i64) (.p (.i .i64) .u)) gs):∃x:Floor,x.wf∧gs=x.c:=by
 obtain ⟨_,_,rfl,⟨a,rfl,ha⟩,_,_,rfl,⟨b,rfl,hb⟩,rfl⟩:=h
 exact ⟨⟨a,b⟩,⟨ha,hb⟩,by simp [Floor.c]⟩
theorem Floor_ev (m:Memos) (w:Int) (hl:m.old.l.length≤9223372036854775807) (H:List Blk):EvF tab 97 [A m.c,I w] H=some ⟨I (floorP m.old.l w),[],[]⟩:=by
 obtain ⟨ml,mo⟩:=m
 simp only at hl ⊢
 have hw:=loop_runJ (E:=EvF tab) (h:=H) (c:=L97_0) (lv:=[1,8,9,10]) (l:=mo.l) (β:=Unit) (γ:=Int) (fun _ _=>True) (fun _ x _=>if x.who=w then .inr x.seq else .inl ())
  (fun k _ o=>⟨[(1,I w),(8,.g (Floors.g mo)),(9,I mo.l.length),(10,I k)],[],o⟩)
  (fun _ o=>(.exit 0,⟨[(1,I w),(8,.g (Floors.g mo)),(9,I mo.l.length),(10,I mo.l.length),(11,B false)],[],o⟩))
  (fun n o=>(.ret,⟨[(4,I n)],[],o⟩)) (by simp) (by simp) (fun k x b o hk hx hy _ => ?_) (fun _ o _=>by delta L97_0;simp -implicitDefEqProofs) () [.cells ((Memos.c ⟨ml,mo⟩).map .g)] trivial
 ·obtain ⟨o',hw⟩:=hw
  have hr:∀(l:List Floor) k,runG (fun _ (x:Floor) (_:Unit)=>if x.who=w then (.inr x.seq:Unit⊕Int) else .inl ()) k l ()=if hasP l w=true then .inr (floorP l w) else .inl ():=by
   intro l
   induction l with
   | nil=>intro k;rfl
   | cons x l ih =>
    intro k
    unfold runG floorP hasP
    by_cases h:x.who=w
    ·simp [h]
    ·simp only [if_neg h]
     rw [ih]
     unfold hasP
     simp [h]
  have hn:∀(l:List Floor),hasP l w=false→floorP l w = -1:=by
   intro l
   induction l with
   | nil=>intro _;rfl
   | cons x l ih =>
    intro h
    unfold hasP at h ih
    rw [List.any_cons,Bool.or_eq_false_iff] at h
    unfold floorP
    rw [if_neg (by simpa using h.1)]
    exact ih h.2
  rw [hr] at hw
  simp only [Int.ofNat_zero,Int.cast_ofNat_Int] at hw
  refine EvF_walk t97 (by simp) ?_
  simp only [Memos.c,List.map_cons,List.map_nil] at hw
  have hlen:∀h s,lenV h s (.g (Floors.g mo))=some mo.l.length:=fun h s=>lenV_Sl ..
  generalize hg1:MemoL.g ml=G1 at hw
  generalize hg2:Floors.g mo=G2 at hw hlen
  cases hh:hasP mo.l w
  ·rw [hh] at hw
   simp only [Bool.false_eq_true,if_false,endJ] at hw
   simp -implicitDefEqProofs [A,Memos.c,hg1,hg2,hlen,hw,hn mo.l hh]
  ·rw [hh] at hw
   simp only [if_true,endJ] at hw
   simp -implicitDefEqProofs [A,Memos.c,hg1,hg2,hlen,hw]
 ·have e2:=wrap_succ hk hl
  delta L97_0
  cases mo with
  | nil=>simp at hk
  | of l =>
   simp only [Sl.l_of] at hk hy hl
   by_cases h:x.who=w
   ·simp only [if_pos h]
    refine ⟨o++[.cells (x.c.map .g)],?_⟩
    simp -implicitDefEqProofs [hk,hy,Floor.c,h,e2]
   ·simp only [if_neg h]
    refine ⟨trivial,o++[.cells (x.c.map .g)],?_⟩
    simp -implicitDefEqProofs [hk,hy,Floor.c,h,e2]
theorem runG_filterM {α β:Type} (p:α→Bool) (f:α→β):∀(l:List α) k r,runG (fun _ (x:α) (r:List β)=>(if p x=true then .inl (r++[f x]) else .inl r:List β⊕Nat)) k l r = .inl (r++(l.filter p).map f):=by
 intro l
 induction l with
 | nil=>intro k r;simp [runG]
 | cons x l ih =>
  intro k r
  cases h:p x
  ·simp only [runG,h,Bool.false_eq_true,if_false,List.filter_cons]
   rw [ih]
  ·simp only [runG,h,if_true,List.filter_cons]
   rw [ih];simp
theorem intG_eq:intG=Ints.c:=rfl
theorem sort_ev {H:List Blk} {id g:Nat} {zs:List Int} (h:H[id]? = some (.rows 1 g (zs.map Ints.c))) (hl:zs.length≤1000000):EvF tab 159 [.ms id g 1 0 zs.length] H=some ⟨.tup [],[(id,.rows 1 g ((sortL zs).map Ints.c))],[]⟩:=by
 refine EvF_ext rfl (fun _ _ h=>by cases h) ?_
 have e1:=intsG_map zs
 rw [intG_eq] at e1
 show orX _ _ _ _ _=_
 have e2:zs.length<4611686018427387904:=by omega
 simp [orX,keysX,sortX,Go.AM.sortA,h,e1,intG_eq,e2]
end Go.Proofs.YtndfdnlbljhlgaaGreat
end
