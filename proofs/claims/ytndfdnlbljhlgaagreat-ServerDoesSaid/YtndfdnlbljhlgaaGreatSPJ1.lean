/- Part of the proof: what the functions answer, part 1. No conditions. -/
import Derived.Test.YtndfdnlbljhlgaaGreatTabA
import Derived.Test.YtndfdnlbljhlgaaGreatAMJ3
import Derived.KernelRfl
set_option linter.defProp false
set_option linter.unusedSimpArgs false
set_option linter.unusedVariables false
set_option maxHeartbeats 2000000
set_option maxRecDepth 20000
namespace Go.Proofs.YtndfdnlbljhlgaaGreat
open Go Go.AM Go.Proofs
def Um (b:UInt8):Bool:=decide (33≤b.toNat)&&decide (b.toNat≤126)
def Ux (k:Bs):Bool:=(decide (1≤k.length)&&decide (k.length≤40))&&k.all Um
theorem Znh (b:UInt8) (H:List Blk):EvF tab 200 [.g (.int .u8 b.toNat)] H=some ⟨B (Um b),[],[]⟩:=by
 refine Zb Ycm (by simp) ?_
 unfold Um
 by_cases h1:33≤b.toNat
 ·by_cases h2:b.toNat≤126
  ·simp -implicitDefEqProofs [h1,h2,show (32:Int)<(b.toNat:Int) by omega,show (b.toNat:Int)≤126 by omega]
  ·simp -implicitDefEqProofs [h1,h2,show (32:Int)<(b.toNat:Int) by omega,show ¬(b.toNat:Int)≤126 by omega]
 ·simp -implicitDefEqProofs [h1,show ¬(32:Int)<(b.toNat:Int) by omega]
theorem Zni (k:Bs) (hl:k.length≤9223372036854775807) (H:List Blk) :
  Ya (EvF tab) H Zac [2,18,19,20] ⟨[(2,.g (.fn 200)),(18,.g (.sl 1 (Xb k))),(19,I k.length),(20,I 0)],[],[]⟩ =
   some (if Z7 Um k=true then (.exit 0,⟨[(2,.g (.fn 200)),(18,.g (.sl 1 (Xb k))),(19,I k.length),(20,I k.length),(21,B false)],[],[]⟩) else (.ret,⟨[(6,B false)],[],[]⟩)):=by
 refine Y4 (l:=k) Um (fun i=>⟨[(2,.g (.fn 200)),(18,.g (.sl 1 (Xb k))),(19,I k.length),(20,I i)],[],[]⟩) _ _ (by simp) (by simp) (fun i x hk hx hy => ?_) (by delta Zac;simp -implicitDefEqProofs)
 delta Zac
 have e2:=Zh hk hl
 have hel:(Xb k)[i]? = some [.int .u8 x.toNat]:=by unfold Xb;rw [List.getElem?_map,hx];rfl
 have h1:=Znh x
 generalize Um x=b at h1 ⊢
 cases b <;> simp -implicitDefEqProofs [hk,hel,h1,e2]
theorem Zdh (k:Bs) (hl:k.length≤9223372036854775807) (H:List Blk):EvF tab 176 [T k] H=some ⟨B (Ux k),[],[]⟩:=by
 have he:∀H,EvF tab 199 [T k,I 40,.g (.fn 200)] H=some ⟨B (Ux k),[],[]⟩:=fun H=>by
  have hw:=Zni k hl H
  refine Zb Ycl (by simp) ?_
  unfold Ux
  rw [show k.all Um=Z7 Um k from rfl]
  have hb:(Xb k).length=k.length:=Zg6 k
  by_cases h0:k=[]
  ·subst h0;simp -implicitDefEqProofs
  ·have h1:1≤k.length:=List.length_pos_iff.2 h0
   by_cases h2:k.length≤40
   ·cases hs:Z7 Um k <;> rw [hs] at hw <;> simp only [Bool.false_eq_true,if_true,if_false] at hw
    all_goals simp -implicitDefEqProofs [h0,h1,h2,hb,hw,show ¬(40:Int)<(k.length:Int) by omega]
   ·simp -implicitDefEqProofs [h0,h2,show (40:Int)<(k.length:Int) by omega]
 refine Zb Yb2 (by simp) ?_
 generalize Ux k=b at he ⊢
 simp -implicitDefEqProofs [he]
theorem Zdi (k:Bs) (hl:k.length≤9223372036854775807) (H:List Blk) :
  Ya (EvF tab) H A9 [0,3] ⟨[(0,T k),(3,I 0)],[],[]⟩ =
   some (if Z7 Um k=true then (.exit 0,⟨[(0,T k),(3,I k.length),(15,B false)],[],[]⟩) else (.ret,⟨[(2,B false)],[],[]⟩)):=by
 refine Y4 (l:=k) Um (fun i=>⟨[(0,T k),(3,I i)],[],[]⟩) _ _ (by simp) (by simp) (fun i x hk hx hy => ?_) (by delta A9;simp -implicitDefEqProofs)
 delta A9
 have e2:=Zh hk hl
 unfold Um
 by_cases h1:33≤x.toNat
 ·by_cases h2:x.toNat≤126
  ·simp -implicitDefEqProofs [hk,hx,hy,h1,h2,e2,show ¬(x.toNat:Int)<33 by omega,show ¬(126:Int)<(x.toNat:Int) by omega]
  ·simp -implicitDefEqProofs [hk,hx,hy,h1,h2,e2,show ¬(x.toNat:Int)<33 by omega,show (126:Int)<(x.toNat:Int) by omega]
 ·simp -implicitDefEqProofs [hk,hx,hy,h1,e2,show (x.toNat:Int)<33 by omega]
theorem Cl (k:Bs) (hl:k.length≤9223372036854775807) (H:List Blk):EvF tab 178 [T k] H=some ⟨B (Ux k),[],[]⟩:=by
 have hw:=Zdi k hl H
 refine Zb Yb4 (by simp) ?_
 unfold Ux
 rw [show k.all Um=Z7 Um k from rfl]
 by_cases h1:1≤k.length
 ·by_cases h2:k.length≤40
  ·cases hs:Z7 Um k <;> rw [hs] at hw <;> simp only [Bool.false_eq_true,if_true,if_false] at hw
   all_goals simp -implicitDefEqProofs [h1,h2,hw,show ¬(k.length:Int)<1 by omega,show ¬(40:Int)<(k.length:Int) by omega]
  ·simp -implicitDefEqProofs [h1,h2,show ¬(k.length:Int)<1 by omega,show (40:Int)<(k.length:Int) by omega]
 ·simp -implicitDefEqProofs [h1,show (k.length:Int)<1 by omega]
def F0 (n least:Int):Bool:=decide (least≤n)&&decide (n≤1099511627775)
def Xe (x:KV):Bool:=Ux x.key&&(decide (x.value.length≤20)&&(F0 x.create 1&&(F0 x.mod x.create&&(decide (1≤x.version)&&(decide (x.version≤x.mod - x.create+1)&&F0 x.lease 0)))))
theorem Jl (n least:Int) (H:List Blk):EvF tab 198 [I n,I least] H=some ⟨B (F0 n least),[],[]⟩:=by
 refine Zb Yck (by simp) ?_
 unfold F0
 by_cases h1:least≤n <;> simp -implicitDefEqProofs [h1]
theorem Z23 (x:KV) (hl:x.key.length≤9223372036854775807) (H:List Blk):EvF tab 168 [A x.c] H=some ⟨B (Xe x),[],[]⟩:=by
 have h1:=Zdh x.key hl
 have h2:=Jl x.create 1
 have h3:=Jl x.mod x.create
 have h4:=Jl x.lease 0
 refine Zb Ybv (by simp) ?_
 unfold Xe
 generalize Ux x.key=b1 at h1 ⊢
 cases b1
 ·simp -implicitDefEqProofs [A,KV.c,h1]
 by_cases hv:x.value.length≤20
 case neg=>simp -implicitDefEqProofs [A,KV.c,h1,hv,show ¬(x.value.length:Int)≤20 by omega]
 have hv':(x.value.length:Int)≤20:=by omega
 cases e2:F0 x.create 1
 ·rw [e2] at h2;simp -implicitDefEqProofs [A,KV.c,h1,hv,hv',h2]
 cases e3:F0 x.mod x.create
 ·rw [e2] at h2;rw [e3] at h3;simp -implicitDefEqProofs [A,KV.c,h1,hv,hv',h2,h3]
 rw [e2] at h2;rw [e3] at h3
 simp only [F0,Bool.and_eq_true,decide_eq_true_eq] at e2 e3
 have w1:IntKind.i64.wrap (x.mod - x.create)=x.mod - x.create:=wrap_i64 (by omega) (by omega)
 have w2:IntKind.i64.wrap (x.mod - x.create+1)=x.mod - x.create+1:=wrap_i64 (by omega) (by omega)
 by_cases h5:1≤x.version
 case neg=>simp -implicitDefEqProofs [A,KV.c,h1,hv,hv',h2,h3,h5]
 by_cases h6:x.version≤x.mod - x.create+1
 case neg=>simp -implicitDefEqProofs [A,KV.c,h1,hv,hv',h2,h3,h5,w1,w2,h6]
 simp -implicitDefEqProofs [A,KV.c,h1,hv,hv',h2,h3,h5,w1,w2,h6,h4]
theorem Zkn (x:KV) (hl:x.key.length≤9223372036854775807) (H:List Blk):EvF tab 142 [A x.c] H=some ⟨B (Xe x),[],[]⟩:=by
 have h1:=Cl x.key hl
 refine Zb Ya7 (by simp) ?_
 unfold Xe
 generalize Ux x.key=b1 at h1 ⊢
 cases b1
 ·simp -implicitDefEqProofs [A,KV.c,h1]
 by_cases hv:x.value.length≤20
 case neg=>simp -implicitDefEqProofs [A,KV.c,h1,hv,show (20:Int)<(x.value.length:Int) by omega]
 have hv':¬(20:Int)<(x.value.length:Int):=by omega
 unfold F0
 by_cases c1:1≤x.create
 case neg=>simp -implicitDefEqProofs [A,KV.c,h1,hv,hv',c1,show x.create<1 by omega]
 by_cases c2:x.create≤1099511627775
 case neg=>simp -implicitDefEqProofs [A,KV.c,h1,hv,hv',c1,c2,show ¬x.create<1 by omega,show 1099511627775<x.create by omega]
 have c1':¬x.create<1:=by omega
 have c2':¬1099511627775<x.create:=by omega
 by_cases c3:x.create≤x.mod
 case neg=>simp -implicitDefEqProofs [A,KV.c,h1,hv,hv',c1,c2,c1',c2',c3]
 by_cases c4:x.mod≤1099511627775
 case neg=>simp -implicitDefEqProofs [A,KV.c,h1,hv,hv',c1,c2,c1',c2',c3,c4]
 have w1:IntKind.i64.wrap (x.mod - x.create)=x.mod - x.create:=wrap_i64 (by omega) (by omega)
 have w2:IntKind.i64.wrap (x.mod - x.create+1)=x.mod - x.create+1:=wrap_i64 (by omega) (by omega)
 by_cases h5:1≤x.version
 case neg=>simp -implicitDefEqProofs [A,KV.c,h1,hv,hv',c1,c2,c1',c2',c3,c4,h5]
 by_cases h6:x.version≤x.mod - x.create+1
 case neg=>simp -implicitDefEqProofs [A,KV.c,h1,hv,hv',c1,c2,c1',c2',c3,c4,h5,w1,w2,h6]
 by_cases h7:0≤x.lease
 case neg=>simp -implicitDefEqProofs [A,KV.c,h1,hv,hv',c1,c2,c1',c2',c3,c4,h5,w1,w2,h6,h7]
 simp -implicitDefEqProofs [A,KV.c,h1,hv,hv',c1,c2,c1',c2',c3,c4,h5,w1,w2,h6,h7]
def Vl (k:Bs):Nat→List KV→Option Nat
 | _,[]=>none
 | i,x::l=>if x.key=k then some i else Vl k (i+1) l
def kv0:KV:=⟨[],[],0,0,0,0⟩
def W6 (l:List KV) (k:Bs):KV:=match Vl k 0 l with | some i=>l[i]?.getD kv0 | none=>kv0
def Ua (l:List KV) (k:Bs):Bool:=(Vl k 0 l).isSome
def Zr1 (l:List KV) (k:Bs):Int:=match Vl k 0 l with | some i=>i | none => -1
theorem findN_spec (k:Bs):∀(l:List KV) i j,Vl k i l=some j→i≤j∧∃(h:j - i<l.length),l[j - i].key=k:=by
 intro l
 induction l with
 | nil=>intro i j h;simp [Vl] at h
 | cons x l ih =>
  intro i j h
  unfold Vl at h
  split at h
  ·cases h;rename_i hk;exact ⟨Nat.le_refl _,by simp,by simp [hk]⟩
  ·obtain ⟨h1,h2,h3⟩:=ih (i+1) j h
   refine ⟨by omega,by simp;omega,?_⟩
   have e:j - i=(j - (i+1))+1:=by omega
   simp only [e,List.getElem_cons_succ];exact h3
theorem Jm {k:Bs} {l:List KV} {i:Nat} (h:Vl k 0 l=some i):∃h:i<l.length,l[i].key=k:=by
 obtain ⟨_,h2⟩:=findN_spec k l 0 i h
 simpa using h2
theorem Znj (k:Bs):∀(l:List KV) i,Xh (fun x:KV=>x.key==k) i l=match Vl k i l with | some j=>(j:Int) | none => -1:=by
 intro l
 induction l with
 | nil=>intro i;rfl
 | cons x l ih =>
  intro i
  by_cases h:x.key=k
  ·simp [Xh,Vl,h]
  ·simp only [Xh,Vl,h,if_false]
   rw [←ih];simp [h]
theorem Z24 (x:KV) (k:Bs) {H:List Blk} {p:Nat} (hp:H[p]? = some (.cells [T k])):EvF tab 195 [A x.c,.ptr p 0] H=some ⟨B (x.key==k),[],[]⟩:=by
 refine Zb Ych (by simp) ?_
 have hpl:p<H.length:=(List.getElem?_eq_some_iff.1 hp).1
 have hp2:=(List.getElem?_eq_some_iff.1 hp).2
 simp -implicitDefEqProofs [A,KV.c,hp2,hpl,Zp,orB]
theorem Z1g (k:Bs) (H:List Blk):EvF tab 164 [T k] H=some ⟨.fv 195 [.ptr H.length 0],[],[.cells [T k]]⟩:=by
 refine Zb Ybr (by simp) ?_
 simp -implicitDefEqProofs
theorem Zr2 (s:Sl KV) (k:Bs) (hl:s.l.length≤9223372036854775807) {H:List Blk} {p:Nat} (hp:H[p]? = some (.cells [T k])) :
  EvF tab 131 [.g (KVs.g s),.fv 195 [.ptr p 0]] H=some ⟨I (Zr1 s.l k),[],[]⟩:=by
 have:=Ot (Tb:=tab) (f:=131) (agg:=true) (n:=6) (c:=KV.c) Zzb (fun x=>A x.c) (fun x:KV=>x.key==k) (.fv 195 [.ptr p 0]) s hl H (fun x=>by simp [A,KV.c]) (fun x _ t=>by
  have h1:=Z24 x k hp
  simp -implicitDefEqProofs [h1])
 rw [Znj] at this
 exact this
theorem H9 (s:Sl KV) (k:Bs) (hl:s.l.length≤9223372036854775807) (H:List Blk):EvF tab 169 [.g (KVs.g s),T k] H=some ⟨.tup [A (W6 s.l k).c,B (Ua s.l k)],[],[]⟩:=by
 refine Zb Ybw (by simp) ?_
 have hi:=fun H=>Z1g k H
 have hx:=fun (b:Blk)=>Zr2 s k hl (H:=H++[b,.cells [T k]]) (p:=H.length+1) (by rw [List.getElem?_append_right (by omega)];simp)
 unfold W6 Ua
 unfold Zr1 at hx
 rcases hq:Vl k 0 s.l with _ | i <;> simp only [hq] at hx ⊢
 ·simp -implicitDefEqProofs [Yc,A,KV.c,kv0,hi,hx]
 ·obtain ⟨h1,h2⟩:=Jm hq
  cases s with
  | nil=>simp at h1
  | of l =>
   simp only [Sl.l_of,KVs.g,Sl.g_of] at h1 hx ⊢
   have hg:l[i]? = some l[i]:=List.getElem?_eq_getElem h1
   rw [hg]
   simp -implicitDefEqProofs [Yc,A,KV.c,hi,hx,hg,h1]
theorem Znk (k:Bs):∀(l:List KV) i,Ym (fun i (x:KV) (_:Unit)=>if x.key=k then .inr i else .inl ()) i l ()=match Vl k i l with | some j => .inr j | none=>(.inl ():Unit⊕Nat):=by
 intro l
 induction l with
 | nil=>intro i;rfl
 | cons x l ih =>
  intro i
  by_cases h:x.key=k
  ·simp [Ym,Vl,h]
  ·simp only [Ym,Vl,h,if_false]
   exact ih _
theorem F6 (s:Sl KV) (k:Bs) (hl:s.l.length≤9223372036854775807) (H:List Blk):EvF tab 141 [.g (KVs.g s),T k] H=some ⟨.tup [A (W6 s.l k).c,B (Ua s.l k)],[],[]⟩:=by
 have hw:=Zt (E:=EvF tab) (h:=H) (c:=A3) (lv:=[0,1,4,6]) (l:=s.l) (β:=Unit) (γ:=Nat) (fun _ _=>True) (fun i (x:KV) _=>if x.key=k then .inr i else .inl ())
  (fun i _ o=>⟨[(0,.g (KVs.g s)),(1,T k),(4,.ptr H.length 0),(6,I i)],[],.cells [T [],T [],I 0,I 0,I 0,I 0]::o⟩) (fun _ o=>(.exit 0,⟨[(0,.g (KVs.g s)),(1,T k),(4,.ptr H.length 0),(6,I s.l.length),(10,B false)],[],.cells [T [],T [],I 0,I 0,I 0,I 0]::o⟩))
  (fun i o=>(.ret,⟨[(4,.ptr H.length 0),(5,B true)],[],.cells (((s.l[i]?).getD kv0).c.map .g)::o⟩)) (by simp) (by simp) (fun i x b o hk hx hy _ => ?_) (fun _ o _=>by delta A3;cases s <;> simp -implicitDefEqProofs) () [] trivial
 ·obtain ⟨o',hw⟩:=hw
  rw [Znk] at hw
  have e0:((0:Nat):Int)=0:=rfl
  simp only [e0] at hw
  refine Zb Ya6 (by simp) ?_
  unfold W6 Ua
  rcases hq:Vl k 0 s.l with _ | i <;> simp only [hq,Wj] at hw ⊢
  ·simp -implicitDefEqProofs [Yc,A,KV.c,kv0,hw]
  ·generalize s.l[i]?.getD kv0=x at hw ⊢
   simp only [KV.c,List.map_cons,List.map_nil] at hw
   simp -implicitDefEqProofs [Yc,A,KV.c,hw]
 ·have e2:=Zh hk hl
  delta A3
  cases s with
  | nil=>simp at hk
  | of l =>
   simp only [Sl.l_of] at hk hx hy ⊢
   by_cases h:x.key=k
   ·simp only [if_pos h]
    refine ⟨o,?_⟩
    rw [hx]
    simp -implicitDefEqProofs [hk,hy,KV.c,h,kv0]
   ·simp only [if_neg h]
    refine ⟨trivial,o,?_⟩
    simp -implicitDefEqProofs [hk,hy,KV.c,h,e2]
theorem Ga (a b:UInt8) (x y:Bs):Op.bytesLess (a::x) (b::y)=(decide (a<b)||(a==b&&Op.bytesLess x y)):=rfl
theorem W7:∀a:Bs,Op.bytesLess a a=false
 | []=>rfl
 | a::x=>by
  rw [Ga,W7 x]
  have:¬a<a:=by rw [UInt8.lt_iff_toNat_lt];omega
  simp [this]
theorem Jn:∀a b:Bs,Op.bytesLess a b=true∨a=b∨Op.bytesLess b a=true
 | [],[] => .inr (.inl rfl)
 | [],b::y => .inl rfl
 | a::x,[] => .inr (.inr rfl)
 | a::x,b::y=>by
  rw [Ga,Ga]
  by_cases h:a<b
  ·exact .inl (by simp [h])
  ·by_cases h2:b<a
   ·exact .inr (.inr (by simp [h2]))
   ·have e:a=b:=by
     apply UInt8.toNat_inj.1
     rw [UInt8.lt_iff_toNat_lt] at h h2;omega
    subst e
    rcases Jn x y with h3 | h3 | h3
    ·exact .inl (by simp [h3])
    ·exact .inr (.inl (by rw [h3]))
    ·exact .inr (.inr (by simp [h3]))
theorem M7:∀a b c:Bs,Op.bytesLess a b=true→Op.bytesLess b c=true→Op.bytesLess a c=true
 | a,b,[],_,h2=>by cases b <;> cases h2
 | [],b,c::z,_,_=>rfl
 | a::x,[],c::z,h1,_=>by cases h1
 | a::x,b::y,c::z,h1,h2=>by
  rw [Ga] at h1 h2 ⊢
  simp only [Bool.or_eq_true,decide_eq_true_eq,Bool.and_eq_true,beq_iff_eq] at h1 h2 ⊢
  rcases h1 with h1 | ⟨rfl,h1⟩
  ·rcases h2 with h2 | ⟨rfl,h2⟩
   ·left;rw [UInt8.lt_iff_toNat_lt] at *;omega
   ·exact .inl h1
  ·rcases h2 with h2 | ⟨rfl,h2⟩
   ·exact .inl h2
   ·exact .inr ⟨rfl,M7 x y z h1 h2⟩
theorem Sf {a b:Bs} (h:Op.bytesLess a b=true):Op.bytesLess b a=false:=by
 cases h2:Op.bytesLess b a
 ·rfl
 ·have:=M7 a b a h h2;rw [W7] at this;cases this
theorem Py {a b:Bs} (h:Op.bytesLess a b=true):a ≠ b:=fun e=>by subst e;rw [W7] at h;cases h
theorem Z25 (a b:Bs):(!(Op.bytesLess a b||a==b))=Op.bytesLess b a:=by
 rcases Jn a b with h | h | h
 ·rw [h,Sf h];rfl
 ·subst h;rw [W7];simp
 ·have h2:=Sf h
  have h3:(a==b)=false:=by simpa using (Py h).symm
  rw [h2,h3,h];rfl
def F7:Bs→List KV→Bool
 | _,[]=>true
 | last,x::l=>(Xe x&&Op.bytesLess last x.key)&&F7 x.key l
def F8 (l:List KV):Bool:=F7 [] l
def KS (l:List KV):Prop:=∀x∈l,x.key.length≤9223372036854775807
theorem Cm:∀(l:List KV) k last,(∃b,Ym (fun _ (x:KV) (last:Bs)=>(if (Xe x&&Op.bytesLess last x.key)=true then .inl x.key else .inr 0:Bs⊕Nat)) k l last = .inl b∧F7 last l=true) ∨
  (Ym (fun _ (x:KV) (last:Bs)=>(if (Xe x&&Op.bytesLess last x.key)=true then .inl x.key else .inr 0:Bs⊕Nat)) k l last = .inr 0∧F7 last l=false):=by
 intro l
 induction l with
 | nil=>intro k last;exact .inl ⟨last,rfl,rfl⟩
 | cons x l ih =>
  intro k last
  cases h:(Xe x&&Op.bytesLess last x.key)
  ·right;simp only [Ym,F7,h,Bool.false_eq_true,if_false,Bool.false_and,and_self]
  ·simp only [Ym,F7,h,if_true,Bool.true_and]
   exact ih _ _
theorem Zko (s:Sl KV) (hk:KS s.l) (hl:s.l.length≤9223372036854775807) (H:List Blk):EvF tab 123 [.g (KVs.g s)] H=some ⟨B (F8 s.l),[],[]⟩:=by
 have hq:=Zt (E:=EvF tab) (h:=H) (c:=Ay) (lv:=[3,6,7,8]) (l:=s.l) (β:=Bs) (γ:=Nat) (fun _ _=>True) (fun _ x last=>if (Xe x&&Op.bytesLess last x.key)=true then .inl x.key else .inr 0)
  (fun k r o=>⟨[(3,T r),(6,.g (KVs.g s)),(7,I s.l.length),(8,I k)],[],o⟩)
  (fun r o=>(.exit 0,⟨[(3,T r),(6,.g (KVs.g s)),(7,I s.l.length),(8,I s.l.length),(9,B false)],[],o⟩))
  (fun _ o=>(.ret,⟨[(2,B false)],[],o⟩)) (by simp) (by simp) (fun k x r o hk2 hx hy hi => ?_) (fun r o _=>by delta Ay;cases s <;> simp -implicitDefEqProofs) [] [] trivial
 ·obtain ⟨o',hq⟩:=hq
  simp only [Int.ofNat_zero,Int.cast_ofNat_Int] at hq
  refine Zb Yar (by simp) ?_
  unfold F8
  rcases Cm s.l 0 [] with ⟨b,k1,k2⟩ | ⟨k1,k2⟩ <;> rw [k1] at hq <;> simp only [Wj] at hq <;> simp -implicitDefEqProofs [hq,k2]
 ·have e2:=Zh hk2 (by omega)
  have h1:=fun H=>Z23 x (hk x (List.mem_of_getElem? hx)) H
  delta Ay
  cases s with
  | nil=>simp at hk2
  | of l =>
   simp only [Sl.l_of] at hk2 hx hy hl ⊢
   have hb:=Z25 x.key r
   generalize Xe x=b1 at h1 ⊢
   simp only [A,KV.c,List.map_cons,List.map_nil] at h1
   cases b1
   ·refine ⟨o++[.cells (x.c.map .g)],?_⟩
    simp -implicitDefEqProofs [hk2,hy,KV.c,h1]
   ·rw [←hb]
    generalize hc:(Op.bytesLess x.key r||x.key==r)=b2
    cases b2
    ·refine ⟨trivial,o++[.cells (x.c.map .g)],?_⟩
     simp -implicitDefEqProofs [hk2,hy,KV.c,h1,hc,e2]
    ·refine ⟨o++[.cells (x.c.map .g)],?_⟩
     simp -implicitDefEqProofs [hk2,hy,KV.c,h1,hc]
theorem Zr3 (s:Sl KV) (hk:KS s.l) (hl:s.l.length≤9223372036854775807) (H:List Blk):EvF tab 79 [.g (KVs.g s)] H=some ⟨B (F8 s.l),[],[]⟩:=by
 have hq:=Zt (E:=EvF tab) (h:=H) (c:=Zkd) (lv:=[0,3]) (l:=s.l) (β:=Bs) (γ:=Nat) (fun k last=>(k=0∧last=[])∨∃j y,k=j+1∧s.l[j]? = some y∧last=y.key) (fun _ x last=>if (Xe x&&Op.bytesLess last x.key)=true then .inl x.key else .inr 0)
  (fun k r o=>⟨[(0,.g (KVs.g s)),(3,I k)],[],o⟩)
  (fun r o=>(.exit 0,⟨[(0,.g (KVs.g s)),(3,I s.l.length),(7,B false)],[],o⟩))
  (fun _ o=>(.ret,⟨[(2,B false)],[],o⟩)) (by simp) (by simp) (fun k x r o hk2 hx hy hi => ?_) (fun r o _=>by delta Zkd;cases s <;> simp -implicitDefEqProofs) [] [] (.inl ⟨rfl,rfl⟩)
 ·obtain ⟨o',hq⟩:=hq
  simp only [Int.ofNat_zero,Int.cast_ofNat_Int] at hq
  refine Zb t79 (by simp) ?_
  unfold F8
  rcases Cm s.l 0 [] with ⟨b,k1,k2⟩ | ⟨k1,k2⟩ <;> rw [k1] at hq <;> simp only [Wj] at hq <;> simp -implicitDefEqProofs [hq,k2]
 ·have e2:=Zh hk2 (by omega)
  have h1:=fun H=>Zkn x (hk x (List.mem_of_getElem? hx)) H
  delta Zkd
  cases s with
  | nil=>simp at hk2
  | of l =>
   simp only [Sl.l_of] at hk2 hx hy hl hi ⊢
   have hne:Xe x=true→Op.bytesLess [] x.key=true:=fun h=>by
    have h1:1≤x.key.length:=by
     simp only [Xe,Ux,Bool.and_eq_true,decide_eq_true_eq] at h;exact h.1.1.1
    cases hq:x.key with
    | nil=>rw [hq] at h1;simp at h1
    | cons a b=>rfl
   cases ho:Xe x <;> rw [ho] at h1
   ·refine ⟨o,?_⟩
    simp only [A,KV.c,List.map_cons,List.map_nil] at h1
    rcases hi with ⟨rfl,rfl⟩ | ⟨j,y,rfl,hj,rfl⟩
    ·simp -implicitDefEqProofs [hk2,hy,KV.c,h1]
    ·simp -implicitDefEqProofs [hk2,hy,KV.c,h1,show (j:Int)+1<(l.length:Int) by omega,show (0:Int)≤(j:Int)+1 by omega]
   ·simp only [A,KV.c,List.map_cons,List.map_nil] at h1
    rcases hi with ⟨rfl,rfl⟩ | ⟨j,y,rfl,hj,rfl⟩
    ·rw [hne ho]
     refine ⟨.inr ⟨0,x,rfl,hx,rfl⟩,o,?_⟩
     simp -implicitDefEqProofs [hk2,hy,KV.c,h1,e2,show IntKind.i64.wrap 1=1 from rfl]
    ·have hj2:j<l.length:=by omega
     have hj3:l[j]=y:=by have:=List.getElem?_eq_getElem hj2;rw [hj] at this;exact (Option.some.inj this).symm
     have e3:IntKind.i64.wrap ((j:Int)+1 - 1)=(j:Int):=by rw [wrap_i64 (by omega) (by omega)];omega
     have e4:(0:Int)<(j:Int)+1:=by omega
     have e6:IntKind.i64.wrap (j:Int)=(j:Int):=wrap_i64 (by omega) (by omega)
     have e7:(j:Int)+1<(l.length:Int):=by omega
     have e8:(0:Int)≤(j:Int)+1:=by omega
     have e9:((j:Int)+1).toNat=j+1:=by omega
     have e5:IntKind.i64.wrap ((j:Int)+1+1)=(j:Int)+1+1:=wrap_i64 (by omega) (by omega)
     cases hc:Op.bytesLess y.key x.key
     ·refine ⟨o,?_⟩
      simp -implicitDefEqProofs [hk2,hy,KV.c,h1,e3,e4,e6,e7,e8,e9,hj2,hj3,hc,show j+1<l.length by omega]
     ·refine ⟨.inr ⟨j+1,x,rfl,hx,rfl⟩,o,?_⟩
      simp -implicitDefEqProofs [hk2,hy,KV.c,h1,e3,e4,e5,e6,e7,e8,e9,hj2,hj3,hc,show j+1<l.length by omega]
def Un:List KV→KV→List KV
 | [],x=>[x]
 | y::l,x=>if Op.bytesLess y.key x.key=true then y::Un l x else if y.key=x.key then x::l else x::y::l
def W8:List KV→Bs→List KV
 | [],_=>[]
 | y::l,k=>if y.key=k then l else y::W8 l k
def Uf (rev:Int) (l:List KV) (e:Ev):List KV:=if rev<e.rev then l else if e.gone=true then W8 l e.kv.key else Un l e.kv
def Wy (l:List KV) (log:List Ev) (rev:Int):List KV:=log.foldl (Uf rev) l
theorem F9 (x:KV):∀l,(Un l x).length≤l.length+1
 | []=>by simp [Un]
 | y::l=>by
  have:=F9 x l
  unfold Un
  split
  ·simp only [List.length_cons];omega
  ·split <;> simp
theorem Cn (k:Bs):∀l,(W8 l k).length≤l.length
 | []=>by simp [W8]
 | y::l=>by
  have:=Cn k l
  unfold W8
  split
  ·simp
  ·simp only [List.length_cons];omega
theorem Zzc (l:List KV) (x:KV):Un l x ≠ []:=by
 cases l with
 | nil=>simp [Un]
 | cons y l=>unfold Un;split;simp;split <;> simp
def Jo (x:KV) (b:List KV×Bool) (y:KV):List KV×Bool :=
 if (b.2||Op.bytesLess y.key x.key)=true then (b.1++[y],b.2) else if y.key=x.key then (b.1++[x],true) else (b.1++[x,y],true)
theorem Jp (x:KV):∀(l r:List KV),l.foldl (Jo x) (r,true)=(r++l,true)
 | [],r=>by simp
 | y::l,r=>by
  rw [List.foldl_cons,show Jo x (r,true) y=(r++[y],true) by simp [Jo],Jp x l]
  simp
theorem Zdj (x:KV):∀(l r:List KV),(let b:=l.foldl (Jo x) (r,false);if b.2=true then b.1 else b.1++[x])=r++Un l x
 | [],r=>by simp [Un]
 | y::l,r=>by
  rw [List.foldl_cons]
  by_cases h:Op.bytesLess y.key x.key=true
  ·rw [show Jo x (r,false) y=(r++[y],false) by simp [Jo,h]]
   have:=Zdj x l (r++[y])
   rw [this]
   simp [Un,h]
  ·by_cases h2:y.key=x.key
   ·rw [show Jo x (r,false) y=(r++[x],true) by simp only [Jo,Bool.false_or,h,h2,if_true];simp [W7],Jp]
    simp [Un,h,h2,W7]
   ·rw [show Jo x (r,false) y=(r++[x,y],true) by simp [Jo,h,h2],Jp]
    simp [Un,h,h2]
theorem Ea (k:Bs):∀(l:List KV) (i:Nat),(match Vl k i l with | none=>W8 l k=l | some j=>W8 l k=l.take (j - i)++l.drop (j - i+1))
 | [],i=>rfl
 | y::l,i=>by
  unfold Vl W8
  by_cases h:y.key=k
  ·simp [h]
  ·simp only [if_neg h]
   have:=Ea k l (i+1)
   rcases hq:Vl k (i+1) l with _ | j <;> rw [hq] at this <;> simp only at this ⊢
   ·rw [this]
   ·obtain ⟨h1,_⟩:=findN_spec k l (i+1) j hq
    have e:j - i=(j - (i+1))+1:=by omega
    rw [this,e];rfl
def Zz {α:Type} (l:List α):Sl α:=if l=[] then .nil else .of l
theorem Xz {α:Type} (l:List α):(Zz l).l=l:=by unfold Zz;split <;> simp_all
theorem Na {α:Type} (sz:Nat) (c:α→List GV) (l:List α):Fp sz c l=(Zz l).g sz c:=by
 unfold Fp Zz;split <;> rfl
def Zdk (s:Sl KV) (k:Bs):Sl KV:=match Vl k 0 s.l with | none=>s | some i=>Zz (s.l.take i++s.l.drop (i+1))
theorem Zzd (s:Sl KV) (k:Bs):(Zdk s k).l=W8 s.l k:=by
 have:=Ea k s.l 0
 unfold Zdk
 rcases hq:Vl k 0 s.l with _ | j <;> rw [hq] at this <;> simp only at this ⊢
 ·exact this.symm
 ·rw [Xz,this];rfl
def Ug (rev:Int) (s:Sl KV) (e:Ev):Sl KV:=if rev<e.rev then s else if e.gone=true then Zdk s e.kv.key else .of (Un s.l e.kv)
def Xr (rev:Int) (s:Sl KV) (e:Ev):Sl KV:=if rev<e.rev then s else if e.gone=true then .of (W8 s.l e.kv.key) else .of (Un s.l e.kv)
theorem Nb (rev:Int) (s:Sl KV) (e:Ev):(Ug rev s e).l=Uf rev s.l e:=by
 unfold Ug Uf;split;rfl;split;exact Zzd _ _;rfl
theorem Qp (rev:Int) (s:Sl KV) (e:Ev):(Xr rev s e).l=Uf rev s.l e:=by
 unfold Xr Uf;split;rfl;split <;> rfl
def Wr (s:Sl KV) (log:List Ev) (rev:Int):Sl KV:=log.foldl (Ug rev) s
def X0 (s:Sl KV) (log:List Ev) (rev:Int):Sl KV:=log.foldl (Xr rev) s
theorem W0 (rev:Int):∀(log:List Ev) (s:Sl KV),(Wr s log rev).l=Wy s.l log rev
 | [],s=>rfl
 | e::log,s=>by
  have:=W0 rev log (Ug rev s e)
  unfold Wr Wy at *
  rw [List.foldl_cons,List.foldl_cons,this,Nb]
theorem U9 (rev:Int):∀(log:List Ev) (s:Sl KV),(X0 s log rev).l=Wy s.l log rev
 | [],s=>rfl
 | e::log,s=>by
  have:=U9 rev log (Xr rev s e)
  unfold X0 Wy at *
  rw [List.foldl_cons,List.foldl_cons,this,Qp]
theorem Qq (rev:Int) (l:List KV) (e:Ev):(Uf rev l e).length≤l.length+1:=by
 unfold Uf;split;omega;split
 ·have:=Cn e.kv.key l;omega
 ·exact F9 _ _
theorem Vp (rev:Int):∀(log:List Ev) (l:List KV),(Wy l log rev).length≤l.length+log.length
 | [],l=>by simp [Wy]
 | e::log,l=>by
  have h1:=Vp rev log (Uf rev l e)
  have h2:=Qq rev l e
  unfold Wy at *
  rw [List.foldl_cons,List.length_cons];omega
def Xi (id:Int):Nat→List Zu→Option Nat
 | _,[]=>none
 | k,x::r=>if x.id=id then some k else Xi id (k+1) r
def Qc (id:Int) (l:List Zu):Int:=match Xi id 0 l with
 | some i=>i
 | none => -1
theorem Eb (L:Zk) (id:Int) (hl:L.l.l.length≤9223372036854775807) (H:List Blk):EvF tab 132 [A L.c,I id] H=some ⟨I (Qc id L.l.l),[],[]⟩:=by
 refine Zb Yaz (by simp) ?_
 obtain ⟨nx,s⟩:=L
 simp only at hl
 have hw:=fun o=>Zt (E:=EvF tab) (h:=H) (c:=Az) (lv:=[1,5,9,10,11]) (l:=s.l) (β:=Unit) (γ:=Nat) (fun _ _=>True) (fun k x _=>if x.id=id then .inr k else .inl ())
  (fun k _ o=>⟨[(1,I id),(5,I (-1)),(9,.g (LeaseL.g s)),(10,I s.l.length),(11,I k)],[],o⟩)
  (fun _ o=>(.exit 0,⟨[(1,I id),(5,I (-1)),(9,.g (LeaseL.g s)),(10,I s.l.length),(11,I s.l.length),(12,B false)],[],o⟩))
  (fun i o=>(.exit 0,⟨[(5,I i)],[],o⟩)) (by simp) (by simp) (fun k x b o hk hx hy _ => ?_) (fun b o _=>by delta Az;simp -implicitDefEqProofs) () o trivial
 ·obtain ⟨o',hw⟩:=hw [.cells [I nx,.g (LeaseL.g s)]]
  have key:∀(l:List Zu) k,Ym (fun k (x:Zu) (_:Unit)=>if x.id=id then .inr k else .inl ()) k l ()=match Xi id k l with | some i => .inr i | none=>(.inl ():Unit⊕Nat):=by
   intro l
   induction l with
   | nil=>intro k;rfl
   | cons x l ih =>
    intro k
    simp only [Ym,Xi]
    by_cases h:x.id=id <;> simp only [h,if_true,if_false]
    exact ih _
  rw [key] at hw
  simp only [Int.ofNat_zero,Int.cast_ofNat_Int] at hw
  unfold Qc
  rcases hq:Xi id 0 s.l with _ | i <;> rw [hq] at hw <;> simp only [Wj] at hw <;> simp -implicitDefEqProofs [A,Zk.c,hw]
 ·have e2:=Zh hk hl
  delta Az
  cases s with
  | nil=>simp at hk
  | of l =>
   simp only [Sl.l_of] at hk hy
   by_cases hi:x.id=id
   ·simp only [if_pos hi]
    exact ⟨o++[.cells (x.c.map .g)],by simp -implicitDefEqProofs [hk,hy,Zu.c,hi]⟩
   ·simp only [if_neg hi]
    exact ⟨trivial,o++[.cells (x.c.map .g)],by simp -implicitDefEqProofs [hk,hy,Zu.c,hi,e2]⟩
theorem Zg8 (id:Int):∀(l:List Zu) k,Ym (fun k (x:Zu) (_:Unit)=>if x.id=id then .inr k else .inl ()) k l ()=match Xi id k l with | some i => .inr i | none=>(.inl ():Unit⊕Nat):=by
 intro l
 induction l with
 | nil=>intro k;rfl
 | cons x l ih =>
  intro k
  simp only [Ym,Xi]
  by_cases h:x.id=id <;> simp only [h,if_true,if_false]
  exact ih _
theorem Jq (L:Zk) (id:Int) (hl:L.l.l.length≤9223372036854775807) (H:List Blk):EvF tab 42 [A L.c,I id] H=some ⟨I (Qc id L.l.l),[],[]⟩:=by
 refine Zb t42 (by simp) ?_
 obtain ⟨nx,s⟩:=L
 simp only at hl
 have hw:=Zt (E:=EvF tab) (h:=H) (c:=Zjy) (lv:=[1,2,5]) (l:=s.l) (β:=Unit) (γ:=Nat) (fun _ _=>True) (fun k x _=>if x.id=id then .inr k else .inl ())
  (fun k _ o=>⟨[(1,I id),(2,.ptr H.length 0),(5,I k)],[],[.cells [I nx,.g (LeaseL.g s)]]⟩)
  (fun _ o=>(.exit 0,⟨[(1,I id),(2,.ptr H.length 0),(5,I s.l.length),(10,B false)],[],[.cells [I nx,.g (LeaseL.g s)]]⟩))
  (fun i o=>(.ret,⟨[(4,I i)],[],[.cells [I nx,.g (LeaseL.g s)]]⟩)) (by simp) (by simp) (fun k x b o hk hx hy _ => ?_) (fun b o _=>by delta Zjy;simp -implicitDefEqProofs) () [] trivial
 ·obtain ⟨o',hw⟩:=hw
  rw [Zg8] at hw
  simp only [Int.ofNat_zero,Int.cast_ofNat_Int] at hw
  unfold Qc
  rcases hq:Xi id 0 s.l with _ | i <;> rw [hq] at hw <;> simp only [Wj] at hw <;> simp -implicitDefEqProofs [A,Zk.c,hw]
 ·have e2:=Zh hk hl
  delta Zjy
  cases s with
  | nil=>simp at hk
  | of l =>
   simp only [Sl.l_of] at hk hy
   by_cases hi:x.id=id
   ·simp only [if_pos hi]
    exact ⟨o,by simp -implicitDefEqProofs [hk,hy,Zu.c,hi]⟩
   ·simp only [if_neg hi]
    exact ⟨trivial,o,by simp -implicitDefEqProofs [hk,hy,Zu.c,hi,e2]⟩
def Wm (n:Int):Bool:=decide (0≤n)&&decide (n≤1099511627775)
theorem Uo {n:Int}:Wm n=true↔0≤n∧n≤1099511627775:=by simp [Wm]
theorem Jr (n:Int) (H:List Blk):EvF tab 126 [I n] H=some ⟨B (Wm n),[],[]⟩:=by
 refine Zb Yau (by simp) ?_
 by_cases h2:0≤n <;> simp -implicitDefEqProofs [h2,Wm]
theorem Ec (n:Int) (H:List Blk):EvF tab 81 [I n] H=some ⟨B (Wm n),[],[]⟩:=by
 refine Zb t81 (by simp) ?_
 by_cases h2:0≤n <;> simp -implicitDefEqProofs [h2,Wm]
theorem Znl {H:List Blk} {id:Nat} {b:Blk} (h:H[id]? = some b):Zq H id=b.live:=by unfold Zq;rw [h]
theorem Zg9 {H:List Blk} {id:Nat} {a b c:Int} (hH:H[id]? = some (.cells [I a,I b,I c])) (now:Int) :
  EvF tab 190 [.ptr id 0,I now] H=some ⟨.tup [],[(id,.cells [I a,I b,I (if c<IntKind.i64.wrap (now+b) then IntKind.i64.wrap (now+b) else c)])],[]⟩:=by
 refine Zb Yce (by simp) ?_
 have hlt:id<H.length:=(List.getElem?_eq_some_iff.1 hH).1
 have hlive:=Znl hH
 by_cases h:c<IntKind.i64.wrap (now+b) <;> simp -implicitDefEqProofs [Zp hlt,Z2 hlt,hH,hlive,h]
theorem Zdl (H:List Blk) (x y z:Blk) (a b c now:Int):EvF tab 190 [.ptr (H.length+3) 0,I now] (H++[x,y,z,.cells [I a,I b,I c]]) =
  some ⟨.tup [],[(H.length+3,.cells [I a,I b,I (if c<IntKind.i64.wrap (now+b) then IntKind.i64.wrap (now+b) else c)])],[]⟩ :=
 Zg9 (by simp) now
theorem Zr4:∃m msg m' msg',tab.T 133=some (Sy 3 24 174 m msg)∧tab.T 174=some (M4 3 24 [.int .i64 0,.int .i64 0,.int .i64 0] m' msg') :=
 ⟨_,_,_,_,Ya0,Yb1⟩
theorem Ed (a b:Sl Zu) (hn:a.l.length+b.l.length≤1099511627776) (H:List Blk) :
  EvF tab 133 [.g (.sl 1 [[LeaseL.g a],[LeaseL.g b]])] H=some ⟨.g (Fp 3 Zu.c (a.l++b.l)),[],[]⟩:=by
 obtain ⟨m,msg,m',msg',h1,h2⟩:=Zr4
 exact Qo h1 h2 a b (by omega) (by omega) H
def Vf (L:Zk) (ttl now:Int):Int:=if 1≤ttl∧ttl≤1000∧Wm now=true then (if 8≤L.l.l.length∨1099511627775≤L.next then 4 else 0) else 1
def Ta (L:Zk) (ttl now:Int):Zk:=if Vf L ttl now=0 then ⟨L.next+1,.of (L.l.l++[⟨L.next+1,ttl,now+ttl⟩])⟩ else L
def So (L:Zk) (ttl now:Int):Int:=if Vf L ttl now=0 then L.next+1 else 0
theorem Zr5 (L:Zk) (ttl now:Int) (hL:L.wf) (H:List Blk):EvF tab 156 [A L.c,I ttl,I now] H=some ⟨.tup [A (Ta L ttl now).c,I (So L ttl now),I (Vf L ttl now)],[],[]⟩:=by
 refine Zb Ybk (by simp) ?_
 obtain ⟨nx,s⟩:=L
 obtain ⟨⟨hn1,hn2⟩,_,hl⟩:=hL
 simp only at hn1 hn2 hl
 have m1:=fun H=>Jr now H
 unfold Ta So Vf
 simp only
 by_cases h1:1≤ttl
 case neg=>simp -implicitDefEqProofs [A,Zk.c,h1,show ttl<1 by omega]
 by_cases h2:ttl≤1000
 case neg=>simp -implicitDefEqProofs [A,Zk.c,h1,h2,show ¬ttl<1 by omega,show 1000<ttl by omega]
 cases h3:Wm now
 case false=>rw [h3] at m1;simp -implicitDefEqProofs [A,Zk.c,h1,h2,show ¬ttl<1 by omega,show ¬1000<ttl by omega,m1]
 rw [h3] at m1
 have h3':=Uo.1 h3
 by_cases h4:8≤s.l.length
 case pos=>simp -implicitDefEqProofs [A,Zk.c,h1,h2,show ¬ttl<1 by omega,show ¬1000<ttl by omega,m1,h4,show (8:Int)≤s.l.length by omega]
 by_cases h5:1099511627775≤nx
 case pos=>simp -implicitDefEqProofs [A,Zk.c,h1,h2,show ¬ttl<1 by omega,show ¬1000<ttl by omega,m1,h4,show ¬(8:Int)≤s.l.length by omega,h5]
 have e1:IntKind.i64.wrap (nx+1)=nx+1:=wrap_i64 (by omega) (by omega)
 have e2:IntKind.i64.wrap (now+ttl)=now+ttl:=wrap_i64 (by omega) (by omega)
 have cc:=fun H=>Ed s (.of [⟨nx+1,ttl,now+ttl⟩]) (by simp;omega) H
 simp only [LeaseL.g,Sl.g_of,Sl.l_of,Zu.c,List.map_cons,List.map_nil] at cc
 simp -implicitDefEqProofs [A,Zk.c,h1,h2,show ¬ttl<1 by omega,show ¬1000<ttl by omega,m1,h4,show ¬(8:Int)≤s.l.length by omega,h5,e1,Zdl,Zx,e2,show 0<now+ttl by omega,cc,Fp]
theorem Znm (L:Zk) (ttl now:Int) (hL:L.wf) (H:List Blk):EvF tab 121 [A L.c,I ttl,I now] H=some ⟨.tup [A (Ta L ttl now).c,I (So L ttl now),I (Vf L ttl now)],[],[]⟩:=by
 refine Zb Yap (by simp) ?_
 obtain ⟨nx,s⟩:=L
 obtain ⟨⟨hn1,hn2⟩,_,hl⟩:=hL
 simp only at hn1 hn2 hl
 have m1:=fun H=>Ec now H
 unfold Ta So Vf
 simp only
 by_cases h1:1≤ttl
 case neg=>simp -implicitDefEqProofs [A,Zk.c,h1,show ttl<1 by omega]
 by_cases h2:ttl≤1000
 case neg=>simp -implicitDefEqProofs [A,Zk.c,h1,h2,show ¬ttl<1 by omega,show 1000<ttl by omega]
 cases h3:Wm now
 case false=>rw [h3] at m1;simp -implicitDefEqProofs [A,Zk.c,h1,h2,show ¬ttl<1 by omega,show ¬1000<ttl by omega,m1]
 rw [h3] at m1
 have h3':=Uo.1 h3
 by_cases h4:8≤s.l.length
 case pos=>simp -implicitDefEqProofs [A,Zk.c,h1,h2,show ¬ttl<1 by omega,show ¬1000<ttl by omega,m1,h4,show (8:Int)≤s.l.length by omega]
 by_cases h5:1099511627775≤nx
 case pos=>simp -implicitDefEqProofs [A,Zk.c,h1,h2,show ¬ttl<1 by omega,show ¬1000<ttl by omega,m1,h4,show ¬(8:Int)≤s.l.length by omega,h5]
 have e1:IntKind.i64.wrap (nx+1)=nx+1:=wrap_i64 (by omega) (by omega)
 have e2:IntKind.i64.wrap (now+ttl)=now+ttl:=wrap_i64 (by omega) (by omega)
 cases s with
 | nil =>
  simp -implicitDefEqProofs [A,Zk.c,h1,h2,show ¬ttl<1 by omega,show ¬1000<ttl by omega,m1,h5,e1,e2,Yh,room,Zx,Zu.c]
 | of l =>
  simp only [Sl.l_of] at h4
  cases l with
  | nil=>simp -implicitDefEqProofs [A,Zk.c,h1,h2,show ¬ttl<1 by omega,show ¬1000<ttl by omega,m1,h5,e1,e2,Yh,room,Zx,Zu.c]
  | cons x l =>
   simp only [List.length_cons] at h4
   have e7:List.take l.length (List.map Zu.c l)=List.map Zu.c l:=List.take_of_length_le (by simp)
   have e6:List.take (l.length+1) (List.map Zu.c l++[[GV.int .i64 (nx+1),.int .i64 ttl,.int .i64 (now+ttl)]])=List.map Zu.c l++[[GV.int .i64 (nx+1),.int .i64 ttl,.int .i64 (now+ttl)]]:=List.take_of_length_le (by simp)
   simp -implicitDefEqProofs [A,Zk.c,h1,h2,show ¬ttl<1 by omega,show ¬1000<ttl by omega,m1,show ¬8≤l.length+1 by omega,show ¬(8:Int)≤(l.length:Int)+1 by omega,h5,e1,e2,Yh,room,Zx,e6,e7,Nat.not_succ_le_self,show l.length+1≤140737488355328 by omega,show (l.length+1)*24≤140737488355328 by omega,show l.length+1+1≤140737488355328 by omega,show (l.length+1+1)*24≤140737488355328 by omega]
   simp [Zu.c]
theorem placeN_spec (id:Int):∀(l:List Zu) k i,Xi id k l=some i→k≤i∧∃(h:i - k<l.length),l[i - k].id=id
 | [],k,i,h=>by cases h
 | x::l,k,i,h=>by
  simp only [Xi] at h
  split at h
  ·rename_i hx
   cases h
   exact ⟨Nat.le_refl _,by simp,by simpa using hx⟩
  ·obtain ⟨h1,h2,h3⟩:=placeN_spec id l (k+1) i h
   refine ⟨by omega,by simp;omega,?_⟩
   have:i - k=(i - (k+1))+1:=by omega
   simp only [this,List.getElem_cons_succ]
   exact h3
theorem Vg {id:Int} {l:List Zu} {i:Nat} (h:Xi id 0 l=some i):∃h:i<l.length,l[i].id=id:=by
 obtain ⟨_,h2,h3⟩:=placeN_spec id l 0 i h
 exact ⟨by simpa using h2,by simpa using h3⟩
def V1 (id:Int) (l:List Zu):Bool:=(Xi id 0 l).isSome
theorem Zr6 (L:Zk) (id:Int) (hl:L.l.l.length≤9223372036854775807) (H:List Blk):EvF tab 62 [A L.c,I id] H=some ⟨B (V1 id L.l.l),[],[]⟩:=by
 refine Zb t62 (by simp) ?_
 have p:=fun H=>Eb L id hl H
 unfold V1
 simp only [A,Zk.c,List.map_cons,List.map_nil] at p ⊢
 rcases hq:Xi id 0 L.l.l with _ | i <;> simp only [Qc,hq] at p <;> simp -implicitDefEqProofs [p]
theorem Zkp (L:Zk) (id:Int) (hl:L.l.l.length≤9223372036854775807) (H:List Blk):EvF tab 16 [A L.c,I id] H=some ⟨B (V1 id L.l.l),[],[]⟩:=by
 refine Zb t16 (by simp) ?_
 have p:=fun H=>Jq L id hl H
 unfold V1
 simp only [A,Zk.c,List.map_cons,List.map_nil] at p ⊢
 rcases hq:Xi id 0 L.l.l with _ | i <;> simp only [Qc,hq] at p <;> simp -implicitDefEqProofs [p]
def Hn (x:Zu) (now:Int):Zu:=⟨x.id,x.ttl,if x.till<now+x.ttl then now+x.ttl else x.till⟩
def Qd (L:Zk) (id now:Int):Int:=if Wm now=true then (if V1 id L.l.l=true then 0 else 6) else 1
def Qr (L:Zk) (id now:Int):Zk:=if Wm now=true then (match Xi id 0 L.l.l with | some i=>⟨L.next,.of (L.l.l.set i (Hn (L.l.l[i]?.getD default) now))⟩ | none=>L) else L
def Pz (L:Zk) (id now:Int):Int:=if Wm now=true then (match Xi id 0 L.l.l with | some i=>(L.l.l[i]?.getD default).ttl | none=>0) else 0
def Zad (L:Zk):Prop:=L.l.l.length≤1099511627776∧∀x∈L.l.l,-1125899906842624≤x.ttl∧x.ttl≤1125899906842624
theorem Z26:tab.T 191=some (Zg7 3 24 true):=Ycf
theorem Zr7 (L:Zk) (id now:Int) (hs:Zad L) (H:List Blk):EvF tab 157 [A L.c,I id,I now] H=some ⟨.tup [A (Qr L id now).c,I (Pz L id now),I (Qd L id now)],[],[]⟩:=by
 refine Zb Ybl (by simp) ?_
 have m1:=fun H=>Jr now H
 have p:=fun H=>Eb L id (by have:=hs.1;omega) H
 obtain ⟨nx,s⟩:=L
 obtain ⟨hl,ht⟩:=hs
 simp only at hl ht
 unfold Qr Pz Qd V1
 simp only [A,Zk.c,List.map_cons,List.map_nil] at p ⊢
 cases h3:Wm now
 case false=>rw [h3] at m1;simp -implicitDefEqProofs [m1]
 rw [h3] at m1
 have h3':=Uo.1 h3
 rcases hq:Xi id 0 s.l with _ | i <;> simp only [Qc,hq] at p
 case none=>simp -implicitDefEqProofs [m1,p]
 obtain ⟨hi,hid⟩:=Vg hq
 cases s with
 | nil=>simp at hi
 | of l =>
  simp only [Sl.l_of] at hi hid ht hl
  obtain ⟨x,hx⟩:∃x,l[i]=x:=⟨_,rfl⟩
  have htx:=ht x (by rw [←hx];exact List.getElem_mem _)
  have e2:IntKind.i64.wrap (now+x.ttl)=now+x.ttl:=wrap_i64 (by omega) (by omega)
  have cl:=fun H=>Zc3 (c:=Zu.c) Z26 l (fun e=>by rw [e] at hi;simp at hi) (by omega) (by omega) H
  simp only [LeaseL.g,Sl.g_of,Sl.l_of] at p
  simp -implicitDefEqProofs [m1,p,hi,hx,Zu.c,Zdl,cl,e2]
  rw [List.take_of_length_le (by simp)];rfl
theorem Znn (L:Zk) (id now:Int) (hs:Zad L) (H:List Blk):EvF tab 122 [A L.c,I id,I now] H=some ⟨.tup [A (Qr L id now).c,I (Pz L id now),I (Qd L id now)],[],[]⟩:=by
 refine Zb Yaq (by simp) ?_
 have m1:=fun H=>Ec now H
 have p:=fun H=>Jq L id (by have:=hs.1;omega) H
 obtain ⟨nx,s⟩:=L
 obtain ⟨hl,ht⟩:=hs
 simp only at hl ht
 unfold Qr Pz Qd V1
 simp only [A,Zk.c,List.map_cons,List.map_nil] at p ⊢
 cases h3:Wm now
 case false=>rw [h3] at m1;simp -implicitDefEqProofs [m1]
 rw [h3] at m1
 have h3':=Uo.1 h3
 rcases hq:Xi id 0 s.l with _ | i <;> simp only [Qc,hq] at p
 case none=>simp -implicitDefEqProofs [m1,p]
 obtain ⟨hi,hid⟩:=Vg hq
 cases s with
 | nil=>simp at hi
 | of l =>
  simp only [Sl.l_of] at hi hid ht hl
  obtain ⟨x,hx⟩:∃x,l[i]=x:=⟨_,rfl⟩
  have htx:=ht x (by rw [←hx];exact List.getElem_mem _)
  have e2:IntKind.i64.wrap (now+x.ttl)=now+x.ttl:=wrap_i64 (by omega) (by omega)
  simp only [LeaseL.g,Sl.g_of,Sl.l_of] at p
  have ap:=fun t m o=>Ar (c:=Zu.c) (sz:=3) (bytes:=24) (l:=l) (fun e=>by rw [e] at hi;simp at hi) (by omega) (by omega) H t m o
  by_cases hc:x.till<now+x.ttl
  ·simp -implicitDefEqProofs [m1,p,hi,hx,Zu.c,e2,ap,hc]
   rw [List.take_of_length_le (by simp)];simp [Hn,hc]
  ·have e:Hn x now=x:=by simp [Hn,hc]
   have e9:(List.map Zu.c l).set i x.c=List.map Zu.c l:=by
    have:=@List.set_getElem_self _ (List.map Zu.c l) i (by simpa using hi)
    simpa [hx] using this
   simp -implicitDefEqProofs [m1,p,hi,hx,Zu.c,e2,ap,hc]
   rw [List.take_of_length_le (by simp),e];exact e9.symm
def Pd (L:Zk) (id:Int):Int:=if V1 id L.l.l=true then 0 else 6
def Ho (l:List Zu) (i:Nat):List Zu:=l.take i++l.drop (i+1)
def Qt (L:Zk) (id:Int):Zk:=match Xi id 0 L.l.l with | some i=>⟨L.next,Zz (Ho L.l.l i)⟩ | none=>L
theorem Z27 (L:Zk) (id:Int) (hl:L.l.l.length≤1099511627776) (H:List Blk):EvF tab 63 [A L.c,I id] H=some ⟨.tup [A (Qt L id).c,I (Pd L id)],[],[]⟩:=by
 refine Zb t63 (by simp) ?_
 have p:=fun H=>Eb L id (by omega) H
 obtain ⟨nx,s⟩:=L
 simp only at hl
 unfold Qt Pd V1
 simp only [A,Zk.c,List.map_cons,List.map_nil] at p ⊢
 rcases hq:Xi id 0 s.l with _ | i <;> simp only [Qc,hq] at p
 case none=>simp -implicitDefEqProofs [p]
 obtain ⟨hi,hid⟩:=Vg hq
 cases s with
 | nil=>simp at hi
 | of l =>
  simp only [Sl.l_of] at hi hid hl
  simp only [LeaseL.g,Sl.g_of,Sl.l_of] at p
  have cc:=fun H=>Ed (.of (l.take i)) (.of (l.drop (i+1))) (by simp;omega) H
  simp only [LeaseL.g,Sl.g_of,Sl.l_of,Na,List.map_take,List.map_drop] at cc
  have e1:IntKind.i64.wrap ((i:Int)+1)=(i:Int)+1:=wrap_i64 (by omega) (by omega)
  have e2:((i:Int)+1).toNat=i+1:=by omega
  have e3:List.take l.length (List.map Zu.c l)=List.map Zu.c l:=List.take_of_length_le (by simp)
  simp -implicitDefEqProofs [p,cc,Xd,bnd,Y2,e1,e2,e3,show i≤l.length by omega,show i+1≤l.length by omega,show (i:Int)≤l.length by omega,show (i:Int)+1≤l.length by omega,show (0:Int)≤(i:Int)+1 by omega,Zx,Ho]
theorem Zze (L:Zk) (id:Int) (hl:L.l.l.length≤1099511627776) (H:List Blk):EvF tab 67 [A L.c,I id] H=some ⟨.tup [A (Qt L id).c,I (Pd L id)],[],[]⟩:=by
 refine Zb t67 (by simp) ?_
 have p:=fun H=>Jq L id (by omega) H
 obtain ⟨nx,s⟩:=L
 simp only at hl
 unfold Qt Pd V1
 simp only [A,Zk.c,List.map_cons,List.map_nil] at p ⊢
 rcases hq:Xi id 0 s.l with _ | i <;> simp only [Qc,hq] at p
 case none=>simp -implicitDefEqProofs [p]
 obtain ⟨hi,hid⟩:=Vg hq
 cases s with
 | nil=>simp at hi
 | of l =>
  simp only [Sl.l_of] at hi hid hl
  simp only [LeaseL.g,Sl.g_of,Sl.l_of] at p
  have e1:IntKind.i64.wrap ((i:Int)+1)=(i:Int)+1:=wrap_i64 (by omega) (by omega)
  have e2:((i:Int)+1).toNat=i+1:=by omega
  have e3:List.take l.length (List.map Zu.c l)=List.map Zu.c l:=List.take_of_length_le (by simp)
  obtain ⟨xs,hxs⟩:∃xs,l.take i=xs:=⟨_,rfl⟩
  obtain ⟨ys,hys⟩:∃ys,l.drop (i+1)=ys:=⟨_,rfl⟩
  have hlx:xs.length+ys.length≤1099511627776:=by rw [←hxs,←hys];simp;omega
  have e4:List.take i (List.map Zu.c l)=List.map Zu.c xs:=by rw [←hxs,List.map_take]
  have e5:List.drop (i+1) (List.map Zu.c l)=List.map Zu.c ys:=by rw [←hys,List.map_drop]
  have ee:Ho l i=xs++ys:=by rw [←hxs,←hys];rfl
  have e6:List.take xs.length (List.map Zu.c xs)=List.map Zu.c xs:=List.take_of_length_le (by simp)
  have e7:List.take ys.length (List.map Zu.c ys)=List.map Zu.c ys:=List.take_of_length_le (by simp)
  have e8:List.take (xs.length+ys.length) (List.map Zu.c xs++List.map Zu.c ys)=List.map Zu.c xs++List.map Zu.c ys:=List.take_of_length_le (by simp)
  have ax:=fun (hx:xs ≠ []) t m o=>Ar (c:=Zu.c) (sz:=3) (bytes:=24) (l:=xs) hx (by omega) (by omega) H t m o
  have ay:=fun (hx:ys ≠ []) t m o=>Ar (c:=Zu.c) (sz:=3) (bytes:=24) (l:=ys) hx (by omega) (by omega) H t m o
  have ag:=fun (hx:ys.map Zu.c ≠ []) t m A B C D E=>Or (sz:=3) (bytes:=24) (g:=2) (xs:=xs.map Zu.c) (ys:=ys.map Zu.c) hx (by simp;omega) (by simp;omega) H t m [A,B,C,D,E]
  simp only [List.length_cons,List.length_nil,List.cons_append,List.nil_append,List.length_map,Nat.zero_add,Nat.reduceAdd] at ag
  have a0:∀t m o,Yh H ⟨t,m,o⟩ 3 24 (.g .nsl) []=some (.g .nsl,⟨t,m,o⟩,[]):=fun t m o=>rfl
  have am:∀t m A B C D E,Yh H ⟨t,m,[A,B,C,D,E,.rows 3 2 (xs.map Zu.c)]⟩ 3 24 (.ms (H.length+5) 2 3 0 xs.length) []=some (.ms (H.length+5) 2 3 0 xs.length,⟨t,m,[A,B,C,D,E,.rows 3 2 (xs.map Zu.c)]⟩,[]):=fun t m A B C D E=>by simp [Yh]
  have F1:i≤l.length:=by omega
  have F2:i+1≤l.length:=by omega
  have F3:(i:Int)≤l.length:=by omega
  have F4:(i:Int)+1≤l.length:=by omega
  have F5:(0:Int)≤(i:Int)+1:=by omega
  by_cases hx:xs=[]
  ·by_cases hy:ys=[]
   ·rw [hx] at e4;rw [hy] at e5
    rw [hx,hy] at ee
    simp -implicitDefEqProofs [p,Xd,bnd,Y2,e1,e2,e3,e4,e5,a0,ee,F1,F2,F3,F4,F5,Zz]
   ·rw [hx] at e4
    rw [hx] at ee
    simp -implicitDefEqProofs [p,Xd,bnd,Y2,e1,e2,e3,e4,e5,a0,ay hy,e7,ee,F1,F2,F3,F4,F5,Zz,hy]
  ·by_cases hy:ys=[]
   ·rw [hy] at e5
    rw [hy] at ee
    simp -implicitDefEqProofs [p,Xd,bnd,Y2,e1,e2,e3,e4,e5,ax hx,am,e6,ee,F1,F2,F3,F4,F5,Zz,hx]
   ·simp -implicitDefEqProofs [p,Xd,bnd,Y2,e1,e2,e3,e4,e5,ax hx,ag (by simpa using hy),e8,ee,F1,F2,F3,F4,F5,Zz,hx]
theorem Ou {α β:Type} (p:α→Bool) (f:α→β):∀(l:List α) k r,Ym (fun _ (x:α) (r:List β)=>(if p x=true then .inl (r++[f x]) else .inl r:List β⊕Nat)) k l r = .inl (r++(l.filter p).map f):=by
 intro l
 induction l with
 | nil=>intro k r;simp [Ym]
 | cons x l ih =>
  intro k r
  cases h:p x
  ·simp only [Ym,h,Bool.false_eq_true,if_false,List.filter_cons]
   exact ih _ _
  ·simp only [Ym,h,if_true,List.filter_cons]
   rw [ih];simp
def Zha (now:Int) (x:Zu):Bool:=decide (x.till≤now)
def M8 (l:List Zu) (now:Int):List Int:=(l.filter (Zha now)).map Zu.id
theorem Z28 (L:Zk) (now:Int) (hl:L.l.l.length≤1099511627776) (H:List Blk):EvF tab 37 [A L.c,I now] H=some ⟨.g (Ints.g (Zz (M8 L.l.l now))),[],[]⟩:=by
 refine Zb t37 (by simp) ?_
 obtain ⟨nx,s⟩:=L
 simp only at hl ⊢
 have hw:=Zt (E:=EvF tab) (h:=H) (c:=Zjt) (lv:=[1,5,9,10,11]) (l:=s.l) (β:=List Int) (γ:=Nat) (fun k r=>r.length≤k) (fun _ x r=>if Zha now x=true then .inl (r++[x.id]) else .inl r)
  (fun k r o=>⟨[(1,I now),(5,.ms (H.length+2) (r.length+1) 1 0 r.length),(9,.g (LeaseL.g s)),(10,I s.l.length),(11,I k)],[],.cells [I nx,.g (LeaseL.g s)] :: .rows 1 1 [] :: .rows 1 (r.length+1) (r.map Ints.c)::o⟩)
  (fun r o=>(.exit 0,⟨[(1,I now),(5,.ms (H.length+2) (r.length+1) 1 0 r.length),(9,.g (LeaseL.g s)),(10,I s.l.length),(11,I s.l.length),(12,B false)],[],.cells [I nx,.g (LeaseL.g s)] :: .rows 1 1 [] :: .rows 1 (r.length+1) (r.map Ints.c)::o⟩))
  (fun _ o=>(.ret,⟨[],[],o⟩)) (by simp) (by simp) (fun k x r o hk hx hy hi => ?_) (fun r o _=>by delta Zjt;simp -implicitDefEqProofs) [] [] (by simp)
 ·obtain ⟨o',hw⟩:=hw
  rw [Ou] at hw
  simp only [Wj,List.nil_append,List.map_nil,List.length_nil,Int.ofNat_zero,Int.cast_ofNat_Int,Nat.zero_add] at hw
  rw [show (s.l.filter (Zha now)).map Zu.id=M8 s.l now from rfl] at hw
  obtain ⟨r,hr⟩:∃r,M8 s.l now=r:=⟨_,rfl⟩
  rw [hr] at hw ⊢
  have e1:List.take r.length (List.map Ints.c r)=List.map Ints.c r:=List.take_of_length_le (by simp)
  cases r with
  | nil=>simp -implicitDefEqProofs [A,Zk.c,hw,Zz]
  | cons y r =>
   have e1:List.take r.length (List.map Ints.c r)=List.map Ints.c r:=List.take_of_length_le (by simp)
   simp -implicitDefEqProofs [A,Zk.c,hw,Zz,e1]
 ·have e2:=Zh hk (by omega)
  delta Zjt
  cases s with
  | nil=>simp at hk
  | of l =>
   simp only [Sl.l_of] at hk hy hl
   have e3:List.take r.length (List.map Ints.c r)=List.map Ints.c r:=List.take_of_length_le (by simp)
   by_cases hd:x.till≤now
   ·have hp:Zha now x=true:=by simp [Zha,hd]
    simp only [hp,if_true]
    refine ⟨by simp;omega,o++[.cells (x.c.map .g)],?_⟩
    simp -implicitDefEqProofs [hk,hy,Zu.c,hd,e2,Yh,room,Nat.not_succ_le_self,Zx,Ints.c,show r.length+1≤140737488355328 by omega,show (r.length+1)*8≤140737488355328 by omega,e3]
   ·have hp:Zha now x=false:=by simp [Zha];omega
    simp only [hp,Bool.false_eq_true,if_false]
    refine ⟨by omega,o++[.cells (x.c.map .g)],?_⟩
    simp -implicitDefEqProofs [hk,hy,Zu.c,hd,e2]
def Ub (x:KV):Mut:=⟨true,x.key,[],0⟩
def V2 (id:Int) (x:KV):Bool:=decide (x.lease=id)
def Wd (l:List KV) (id:Int):List Mut:=if id=0 then [] else (l.filter (V2 id)).map Ub
theorem Zr8 (s:KVs) (id:Int) (hl:s.l.length≤1099511627776) (H:List Blk):EvF tab 64 [.g (KVs.g s),I id] H=some ⟨.g (Muts.g (Zz (Wd s.l id))),[],[]⟩:=by
 refine Zb t64 (by simp) ?_
 unfold Wd
 by_cases h0:id=0
 ·simp -implicitDefEqProofs [h0,Zz]
 simp only [if_neg h0]
 have hw:=Zt (E:=EvF tab) (h:=H) (c:=Zj7) (lv:=[1,5,10,11,12]) (l:=s.l) (β:=List Mut) (γ:=Nat) (fun k r=>r.length≤k) (fun _ x r=>if V2 id x=true then .inl (r++[Ub x]) else .inl r)
  (fun k r o=>⟨[(1,I id),(5,.ms (H.length+1) (r.length+1) 4 0 r.length),(10,.g (KVs.g s)),(11,I s.l.length),(12,I k)],[],.rows 4 1 [] :: .rows 4 (r.length+1) (r.map Mut.c)::o⟩)
  (fun r o=>(.exit 0,⟨[(1,I id),(5,.ms (H.length+1) (r.length+1) 4 0 r.length),(10,.g (KVs.g s)),(11,I s.l.length),(12,I s.l.length),(13,B false)],[],.rows 4 1 [] :: .rows 4 (r.length+1) (r.map Mut.c)::o⟩))
  (fun _ o=>(.ret,⟨[],[],o⟩)) (by simp) (by simp) (fun k x r o hk hx hy hi => ?_) (fun r o _=>by delta Zj7;simp -implicitDefEqProofs) [] [] (by simp)
 ·obtain ⟨o',hw⟩:=hw
  rw [Ou] at hw
  simp only [Wj,List.nil_append,List.map_nil,List.length_nil,Int.ofNat_zero,Int.cast_ofNat_Int,Nat.zero_add] at hw
  obtain ⟨r,hr⟩:∃r,(s.l.filter (V2 id)).map Ub=r:=⟨_,rfl⟩
  rw [hr] at hw ⊢
  cases r with
  | nil=>simp -implicitDefEqProofs [h0,hw,Zz]
  | cons y r =>
   have e1:List.take r.length (List.map Mut.c r)=List.map Mut.c r:=List.take_of_length_le (by simp)
   simp -implicitDefEqProofs [h0,hw,Zz,e1]
 ·have e2:=Zh hk (by omega)
  delta Zj7
  cases s with
  | nil=>simp at hk
  | of l =>
   simp only [Sl.l_of] at hk hy hl
   have e3:List.take r.length (List.map Mut.c r)=List.map Mut.c r:=List.take_of_length_le (by simp)
   by_cases hd:x.lease=id
   ·have hp:V2 id x=true:=by simp [V2,hd]
    simp only [hp,if_true]
    refine ⟨by simp;omega,o++[.cells (x.c.map .g)],?_⟩
    simp -implicitDefEqProofs [hk,hy,KV.c,hd,e2,Yh,room,Nat.not_succ_le_self,Zx,Mut.c,Ub,show r.length+1≤140737488355328 by omega,show (r.length+1)*48≤140737488355328 by omega,e3]
   ·have hp:V2 id x=false:=by simp [V2,hd]
    simp only [hp,Bool.false_eq_true,if_false]
    refine ⟨by omega,o++[.cells (x.c.map .g)],?_⟩
    simp -implicitDefEqProofs [hk,hy,KV.c,hd,e2]
theorem Zno (s:KVs) (id:Int) (hl:s.l.length≤1099511627776) (H:List Blk):EvF tab 68 [.g (KVs.g s),I id] H=some ⟨.g (Muts.g (Zz (Wd s.l id))),[],[]⟩:=by
 refine Zb t68 (by simp) ?_
 have hw:=Zt (E:=EvF tab) (h:=H) (c:=Zj8) (lv:=[0,1,5,6]) (l:=s.l) (β:=List Mut) (γ:=Nat) (fun k r=>r.length≤k) (fun _ x r=>if (!decide (id=0)&&V2 id x)=true then .inl (r++[Ub x]) else .inl r)
  (fun k r o=>⟨[(0,.g (KVs.g s)),(1,I id),(5,.ms (H.length+1) (r.length+1) 4 0 r.length),(6,I k)],[],[.rows 4 1 [],.rows 4 (r.length+1) (r.map Mut.c)]⟩)
  (fun r o=>(.exit 0,⟨[(0,.g (KVs.g s)),(1,I id),(5,.ms (H.length+1) (r.length+1) 4 0 r.length),(6,I s.l.length),(10,B false)],[],[.rows 4 1 [],.rows 4 (r.length+1) (r.map Mut.c)]⟩))
  (fun _ o=>(.ret,⟨[],[],o⟩)) (by simp) (by simp) (fun k x r o hk hx hy hi => ?_) (fun r o _=>by delta Zj8;simp -implicitDefEqProofs) [] [] (by simp)
 ·obtain ⟨o',hw⟩:=hw
  rw [Ou (fun x => !decide (id=0)&&V2 id x) Ub] at hw
  simp only [Wj,List.nil_append,List.map_nil,List.length_nil,Int.ofNat_zero,Int.cast_ofNat_Int,Nat.zero_add] at hw
  have hd:(s.l.filter (fun x => !decide (id=0)&&V2 id x)).map Ub=Wd s.l id:=by
   unfold Wd
   by_cases h0:id=0
   ·simp [h0]
   ·simp [h0]
  rw [hd] at hw
  obtain ⟨r,hr⟩:∃r,Wd s.l id=r:=⟨_,rfl⟩
  rw [hr] at hw ⊢
  cases r with
  | nil=>simp -implicitDefEqProofs [hw,Zz]
  | cons y r =>
   have e1:List.take r.length (List.map Mut.c r)=List.map Mut.c r:=List.take_of_length_le (by simp)
   simp -implicitDefEqProofs [hw,Zz,e1]
 ·have e2:=Zh hk (by omega)
  delta Zj8
  cases s with
  | nil=>simp at hk
  | of l =>
   simp only [Sl.l_of] at hk hy hl
   have e3:List.take r.length (List.map Mut.c r)=List.map Mut.c r:=List.take_of_length_le (by simp)
   by_cases h0:id=0
   ·have hp:(!decide (id=0)&&V2 id x)=false:=by simp [h0]
    simp only [hp,Bool.false_eq_true,if_false]
    refine ⟨by omega,o,?_⟩
    simp -implicitDefEqProofs [hk,hy,KV.c,h0,e2]
   ·by_cases hd:x.lease=id
    ·have hp:(!decide (id=0)&&V2 id x)=true:=by simp [V2,hd,h0]
     simp only [hp,if_true]
     refine ⟨by simp;omega,o,?_⟩
     simp -implicitDefEqProofs [hk,hy,KV.c,hd,h0,e2,Yh,room,Nat.not_succ_le_self,Zx,Mut.c,Ub,show r.length+1≤140737488355328 by omega,show (r.length+1)*48≤140737488355328 by omega,e3]
    ·have hp:(!decide (id=0)&&V2 id x)=false:=by simp [V2,hd]
     simp only [hp,Bool.false_eq_true,if_false]
     refine ⟨by omega,o,?_⟩
     simp -implicitDefEqProofs [hk,hy,KV.c,hd,h0,e2]
def okL (next last:Int) (x:Zu):Bool:=decide (last<x.id)&&decide (x.id≤next)&&decide (1≤x.ttl)&&decide (x.ttl≤1000)&&decide (0≤x.till)&&decide (x.till≤1099511627775+x.ttl)
theorem Gb {next last:Int} {x:Zu}:okL next last x=true↔last<x.id∧x.id≤next∧1≤x.ttl∧x.ttl≤1000∧0≤x.till∧x.till≤1099511627775+x.ttl:=by
 simp [okL,Bool.and_eq_true,and_assoc]
def M9 (next:Int):Int→List Zu→Bool
 | _,[]=>true
 | last,x::r=>okL next last x&&M9 next x.id r
def Ri (L:Zk):Bool:=Wm L.next&&decide (L.l.l.length≤8)&&M9 L.next 0 L.l.l
theorem Zdm (next:Int):∀(l:List Zu) k last,(∃b,Ym (fun _ (x:Zu) (last:Int)=>(if okL next last x=true then .inl x.id else .inr 0:Int⊕Nat)) k l last = .inl b∧M9 next last l=true) ∨
  (Ym (fun _ (x:Zu) (last:Int)=>(if okL next last x=true then .inl x.id else .inr 0:Int⊕Nat)) k l last = .inr 0∧M9 next last l=false):=by
 intro l
 induction l with
 | nil=>intro k last;exact .inl ⟨last,rfl,rfl⟩
 | cons x l ih =>
  intro k last
  cases h:okL next last x
  ·right;simp only [Ym,M9,h,Bool.false_eq_true,if_false,Bool.false_and,and_self]
  ·simp only [Ym,M9,h,if_true,Bool.true_and]
   exact ih _ _
theorem Zzf (L:Zk) (hL:L.wf) (H:List Blk):EvF tab 57 [A L.c] H=some ⟨B (Ri L),[],[]⟩:=by
 refine Zb t57 (by simp) ?_
 have m1:=fun n H=>Jr n H
 obtain ⟨nx,s⟩:=L
 obtain ⟨⟨hn1,hn2⟩,hw,hl⟩:=hL
 simp only at hn1 hn2 hl hw
 unfold Ri
 simp only
 cases h1:Wm nx
 ·simp -implicitDefEqProofs [A,Zk.c,m1,h1]
 by_cases h2:s.l.length≤8
 case neg=>simp -implicitDefEqProofs [A,Zk.c,m1,h1,h2,show (8:Int)<s.l.length by omega]
 have hq:=Zt (E:=EvF tab) (h:=H) (c:=Zj4) (lv:=[1,3,17,18,19]) (l:=s.l) (β:=Int) (γ:=Nat) (fun _ _=>True) (fun _ x last=>if okL nx last x=true then .inl x.id else .inr 0)
  (fun k r o=>⟨[(1,.ptr H.length 0),(3,I r),(17,.g (LeaseL.g s)),(18,I s.l.length),(19,I k)],[],.cells [I nx,.g (LeaseL.g s)]::o⟩)
  (fun r o=>(.exit 0,⟨[(1,.ptr H.length 0),(3,I r),(17,.g (LeaseL.g s)),(18,I s.l.length),(19,I s.l.length),(20,B false)],[],.cells [I nx,.g (LeaseL.g s)]::o⟩))
  (fun _ o=>(.ret,⟨[(2,B false)],[],.cells [I nx,.g (LeaseL.g s)]::o⟩)) (by simp) (by simp) (fun k x r o hk hx hy hi => ?_) (fun r o _=>by delta Zj4;simp -implicitDefEqProofs) 0 [] trivial
 ·obtain ⟨o',hq⟩:=hq
  simp only [Int.ofNat_zero,Int.cast_ofNat_Int] at hq
  rcases Zdm nx s.l 0 0 with ⟨b,k1,k2⟩ | ⟨k1,k2⟩ <;> rw [k1] at hq <;> simp only [Wj] at hq <;> simp -implicitDefEqProofs [A,Zk.c,m1,h1,h2,show ¬(8:Int)<s.l.length by omega,hq,k2]
 ·have e2:=Zh hk (by omega)
  have hx2:x∈s.l:=by rw [←hy];exact List.getElem_mem _
  obtain ⟨⟨i1,i2⟩,⟨i3,i4⟩,⟨i5,i6⟩⟩:=hw x hx2
  delta Zj4
  cases s with
  | nil=>simp at hk
  | of l =>
   simp only [Sl.l_of] at hk hy hl
   have fail:okL nx r x=false→(if okL nx r x=true then (Sum.inl x.id:Int⊕Nat) else .inr 0) = .inr 0:=fun h=>by simp [h]
   by_cases c1:r<x.id
   case neg =>
    rw [fail (by simp [okL,c1])]
    exact ⟨o++[.cells (x.c.map .g)],by simp -implicitDefEqProofs [hk,hy,Zu.c,show x.id≤r by omega]⟩
   by_cases c2:x.id≤nx
   case neg =>
    rw [fail (by simp [okL,c2])]
    exact ⟨o++[.cells (x.c.map .g)],by simp -implicitDefEqProofs [hk,hy,Zu.c,show ¬x.id≤r by omega,show nx<x.id by omega]⟩
   by_cases c3:1≤x.ttl
   case neg =>
    rw [fail (by simp [okL,c3])]
    exact ⟨o++[.cells (x.c.map .g)],by simp -implicitDefEqProofs [hk,hy,Zu.c,show ¬x.id≤r by omega,show ¬nx<x.id by omega,show x.ttl<1 by omega]⟩
   by_cases c4:x.ttl≤1000
   case neg =>
    rw [fail (by simp [okL,c4])]
    exact ⟨o++[.cells (x.c.map .g)],by simp -implicitDefEqProofs [hk,hy,Zu.c,show ¬x.id≤r by omega,show ¬nx<x.id by omega,show ¬x.ttl<1 by omega,show 1000<x.ttl by omega]⟩
   by_cases c5:0≤x.till
   case neg =>
    rw [fail (by simp [okL,c5])]
    exact ⟨o++[.cells (x.c.map .g)],by simp -implicitDefEqProofs [hk,hy,Zu.c,show ¬x.id≤r by omega,show ¬nx<x.id by omega,show ¬x.ttl<1 by omega,show ¬1000<x.ttl by omega,show x.till<0 by omega]⟩
   have e3:IntKind.i64.wrap (x.till - x.ttl)=x.till - x.ttl:=wrap_i64 (by omega) (by omega)
   have e4:Wm (if x.ttl<x.till then x.till - x.ttl else 0)=decide (x.till≤1099511627775+x.ttl):=by
    unfold Wm
    rw [Bool.eq_iff_iff]
    simp only [Bool.and_eq_true,decide_eq_true_eq]
    split <;> constructor <;> intro h <;> omega
   have e5:=fun H=>m1 (if x.ttl<x.till then x.till - x.ttl else 0) H
   rw [e4] at e5
   by_cases c6:x.till≤1099511627775+x.ttl
   case neg =>
    rw [fail (by simp [okL,c6])]
    rw [decide_eq_false c6] at e5
    exact ⟨o++[.cells (x.c.map .g)],by simp -implicitDefEqProofs [hk,hy,Zu.c,show ¬x.id≤r by omega,show ¬nx<x.id by omega,show ¬x.ttl<1 by omega,show ¬1000<x.ttl by omega,show ¬x.till<0 by omega,e3,e5]⟩
   rw [decide_eq_true c6] at e5
   rw [if_pos (Gb.2 ⟨c1,c2,c3,c4,c5,c6⟩)]
   exact ⟨trivial,o++[.cells (x.c.map .g)],by simp -implicitDefEqProofs [hk,hy,Zu.c,show ¬x.id≤r by omega,show ¬nx<x.id by omega,show ¬x.ttl<1 by omega,show ¬1000<x.ttl by omega,show ¬x.till<0 by omega,e3,e5,e2]⟩
theorem Zr9 (L:Zk) (hL:L.wf) (H:List Blk):EvF tab 35 [A L.c] H=some ⟨B (Ri L),[],[]⟩:=by
 refine Zb t35 (by simp) ?_
 have m1:=fun n H=>Ec n H
 obtain ⟨nx,s⟩:=L
 obtain ⟨⟨hn1,hn2⟩,hw,hl⟩:=hL
 simp only at hn1 hn2 hl hw
 unfold Ri
 simp only
 cases h1:Wm nx
 ·simp -implicitDefEqProofs [A,Zk.c,m1,h1]
 by_cases h2:s.l.length≤8
 case neg=>simp -implicitDefEqProofs [A,Zk.c,m1,h1,h2,show (8:Int)<s.l.length by omega]
 have hq:=Zt (E:=EvF tab) (h:=H) (c:=Zjs) (lv:=[1,3]) (l:=s.l) (β:=Int) (γ:=Nat) (fun k r=>(k=0→r=0)∧(0<k→1≤r∧∃y,s.l[k - 1]? = some y∧y.id=r)) (fun _ x last=>if okL nx last x=true then .inl x.id else .inr 0)
  (fun k r o=>⟨[(1,.ptr H.length 0),(3,I k)],[],.cells [I nx,.g (LeaseL.g s)]::o⟩)
  (fun r o=>(.exit 0,⟨[(1,.ptr H.length 0),(3,I s.l.length),(19,B false)],[],.cells [I nx,.g (LeaseL.g s)]::o⟩))
  (fun _ o=>(.ret,⟨[(2,B false)],[],.cells [I nx,.g (LeaseL.g s)]::o⟩)) (by simp) (by simp) (fun k x r o hk hx hy hi => ?_) (fun r o _=>by delta Zjs;simp -implicitDefEqProofs) 0 [] ⟨fun _=>rfl,fun h=>by omega⟩
 ·obtain ⟨o',hq⟩:=hq
  simp only [Int.ofNat_zero,Int.cast_ofNat_Int] at hq
  rcases Zdm nx s.l 0 0 with ⟨b,k1,k2⟩ | ⟨k1,k2⟩ <;> rw [k1] at hq <;> simp only [Wj] at hq <;> simp -implicitDefEqProofs [A,Zk.c,m1,h1,h2,show ¬(8:Int)<s.l.length by omega,hq,k2]
 ·have e2:=Zh hk (by omega)
  have hx2:x∈s.l:=by rw [←hy];exact List.getElem_mem _
  obtain ⟨⟨i1,i2⟩,⟨i3,i4⟩,⟨i5,i6⟩⟩:=hw x hx2
  obtain ⟨hi0,hi1⟩:=hi
  delta Zjs
  cases s with
  | nil=>simp at hk
  | of l =>
   simp only [Sl.l_of] at hk hy hl hi1
   have fail:okL nx r x=false→(if okL nx r x=true then (Sum.inl x.id:Int⊕Nat) else .inr 0) = .inr 0:=fun h=>by simp [h]
   have hr0:0≤r:=by
    rcases Nat.eq_zero_or_pos k with h | h
    ·rw [hi0 h];omega
    ·have:=(hi1 h).1;omega
   by_cases c0:1≤x.id
   case neg =>
    rw [fail (by simp [okL];omega)]
    exact ⟨o++[.cells (x.c.map .g)],by simp -implicitDefEqProofs [hk,hy,Zu.c,show x.id<1 by omega]⟩
   by_cases c2:x.id≤nx
   case neg =>
    rw [fail (by simp [okL,c2])]
    exact ⟨o++[.cells (x.c.map .g)],by simp -implicitDefEqProofs [hk,hy,Zu.c,show ¬x.id<1 by omega,show nx<x.id by omega]⟩
   have e6:IntKind.i64.wrap (1099511627775+x.ttl)=1099511627775+x.ttl∨1000<x.ttl∨x.ttl<1:=by
    by_cases h:1000<x.ttl∨x.ttl<1
    ·exact .inr h
    ·exact .inl (wrap_i64 (by omega) (by omega))
   cases k with
   | zero =>
    have hr:=hi0 rfl
    subst hr
    have c1:0<x.id:=by omega
    by_cases c3:1≤x.ttl
    case neg =>
     rw [fail (by simp [okL,c3])]
     exact ⟨o++[.cells (x.c.map .g)],by simp -implicitDefEqProofs [hk,hy,Zu.c,show ¬x.id<1 by omega,show ¬nx<x.id by omega,show x.ttl<1 by omega]⟩
    by_cases c4:x.ttl≤1000
    case neg =>
     rw [fail (by simp [okL,c4])]
     exact ⟨o++[.cells (x.c.map .g)],by simp -implicitDefEqProofs [hk,hy,Zu.c,show ¬x.id<1 by omega,show ¬nx<x.id by omega,show ¬x.ttl<1 by omega,show 1000<x.ttl by omega]⟩
    by_cases c5:0≤x.till
    case neg =>
     rw [fail (by simp [okL,c5])]
     exact ⟨o++[.cells (x.c.map .g)],by simp -implicitDefEqProofs [hk,hy,Zu.c,show ¬x.id<1 by omega,show ¬nx<x.id by omega,show ¬x.ttl<1 by omega,show ¬1000<x.ttl by omega,show x.till<0 by omega]⟩
    have e7:IntKind.i64.wrap (1099511627775+x.ttl)=1099511627775+x.ttl:=e6.elim id (fun h=>by omega)
    by_cases c6:x.till≤1099511627775+x.ttl
    case neg =>
     rw [fail (by simp [okL,c6])]
     exact ⟨o++[.cells (x.c.map .g)],by simp -implicitDefEqProofs [hk,hy,Zu.c,show ¬x.id<1 by omega,show ¬nx<x.id by omega,show ¬x.ttl<1 by omega,show ¬1000<x.ttl by omega,show ¬x.till<0 by omega,e7,show 1099511627775+x.ttl<x.till by omega]⟩
    rw [if_pos (Gb.2 ⟨c1,c2,c3,c4,c5,c6⟩)]
    exact ⟨⟨fun h=>by omega,fun _=>⟨by omega,x,by simp [hk,hy],rfl⟩⟩,o++[.cells (x.c.map .g)],by simp -implicitDefEqProofs [hk,hy,Zu.c,show ¬x.id<1 by omega,show ¬nx<x.id by omega,show ¬x.ttl<1 by omega,show ¬1000<x.ttl by omega,show ¬x.till<0 by omega,e7,show ¬1099511627775+x.ttl<x.till by omega,e2,show IntKind.i64.wrap 1=1 by decide +kernel]⟩
   | succ k =>
    obtain ⟨hr1,z,hz,hzr⟩:=hi1 (by omega)
    simp only [Nat.add_sub_cancel] at hz
    obtain ⟨hkz,hz2⟩:=List.getElem?_eq_some_iff.1 hz
    have w1:IntKind.i64.wrap (k:Int)=k:=wrap_i64 (by omega) (by omega)
    have w2:IntKind.i64.wrap ((k:Int)+1)=(k:Int)+1:=wrap_i64 (by omega) (by omega)
    have w3:IntKind.i64.wrap ((k:Int)+1 - 1)=k:=by rw [show (k:Int)+1 - 1=k by omega];exact w1
    have w4:(k:Int)+1<l.length:=by omega
    have w5:(0:Int)≤(k:Int)+1:=by omega
    have w6:((k:Int)+1).toNat=k+1:=by omega
    have w7:IntKind.i64.wrap ((k:Int)+1+1)=(k:Int)+1+1:=wrap_i64 (by omega) (by omega)
    by_cases c1:r<x.id
    case neg =>
     rw [fail (by simp [okL,c1])]
     exact ⟨o++[.cells (x.c.map .g)],by simp -implicitDefEqProofs [hk,hy,Zu.c,show ¬x.id<1 by omega,show ¬nx<x.id by omega,w1,w3,w4,w5,w6,hkz,hz2,hzr,show x.id≤r by omega]⟩
    by_cases c3:1≤x.ttl
    case neg =>
     rw [fail (by simp [okL,c3])]
     exact ⟨o++[.cells (x.c.map .g)],by simp -implicitDefEqProofs [hk,hy,Zu.c,show ¬x.id<1 by omega,show ¬nx<x.id by omega,w1,w3,w4,w5,w6,hkz,hz2,hzr,show ¬x.id≤r by omega,show x.ttl<1 by omega]⟩
    by_cases c4:x.ttl≤1000
    case neg =>
     rw [fail (by simp [okL,c4])]
     exact ⟨o++[.cells (x.c.map .g)],by simp -implicitDefEqProofs [hk,hy,Zu.c,show ¬x.id<1 by omega,show ¬nx<x.id by omega,w1,w3,w4,w5,w6,hkz,hz2,hzr,show ¬x.id≤r by omega,show ¬x.ttl<1 by omega,show 1000<x.ttl by omega]⟩
    by_cases c5:0≤x.till
    case neg =>
     rw [fail (by simp [okL,c5])]
     exact ⟨o++[.cells (x.c.map .g)],by simp -implicitDefEqProofs [hk,hy,Zu.c,show ¬x.id<1 by omega,show ¬nx<x.id by omega,w1,w3,w4,w5,w6,hkz,hz2,hzr,show ¬x.id≤r by omega,show ¬x.ttl<1 by omega,show ¬1000<x.ttl by omega,show x.till<0 by omega]⟩
    have e7:IntKind.i64.wrap (1099511627775+x.ttl)=1099511627775+x.ttl:=e6.elim id (fun h=>by omega)
    by_cases c6:x.till≤1099511627775+x.ttl
    case neg =>
     rw [fail (by simp [okL,c6])]
     exact ⟨o++[.cells (x.c.map .g)],by simp -implicitDefEqProofs [hk,hy,Zu.c,show ¬x.id<1 by omega,show ¬nx<x.id by omega,w1,w3,w4,w5,w6,hkz,hz2,hzr,show ¬x.id≤r by omega,show ¬x.ttl<1 by omega,show ¬1000<x.ttl by omega,show ¬x.till<0 by omega,e7,show 1099511627775+x.ttl<x.till by omega]⟩
    rw [if_pos (Gb.2 ⟨c1,c2,c3,c4,c5,c6⟩)]
    exact ⟨⟨fun h=>by omega,fun _=>⟨by omega,x,by simp [hk,hy],rfl⟩⟩,o++[.cells (x.c.map .g)],by simp -implicitDefEqProofs [hk,hy,Zu.c,show ¬x.id<1 by omega,show ¬nx<x.id by omega,w1,w3,w4,w5,w6,hkz,hz2,hzr,show ¬x.id≤r by omega,show ¬x.ttl<1 by omega,show ¬1000<x.ttl by omega,show ¬x.till<0 by omega,e7,show ¬1099511627775+x.ttl<x.till by omega,e2,w7]⟩
theorem V3 {id:Int} {l:List Zu}:V1 id l=true↔∃x∈l,x.id=id:=by
 unfold V1
 have key:∀(l:List Zu) k,(Xi id k l).isSome=true↔∃x∈l,x.id=id:=by
  intro l
  induction l with
  | nil=>intro k;simp [Xi]
  | cons x l ih =>
   intro k
   simp only [Xi]
   by_cases h:x.id=id
   ·simp [h]
   ·simp [h,ih]
 exact key l 0
def fOk (next:Int) (x:Zu):Prop:=x.id≤next∧1≤x.ttl∧x.ttl≤1000∧0≤x.till∧x.till≤1099511627775+x.ttl
theorem Znp {next:Int}:∀{l:List Zu} {last:Int},M9 next last l=true↔(∀x∈l,last<x.id∧fOk next x)∧l.Pairwise (fun x y=>x.id<y.id):=by
 intro l
 induction l with
 | nil=>intro last;simp [M9]
 | cons x l ih =>
  intro last
  simp only [M9,Bool.and_eq_true,Gb,ih,List.pairwise_cons,List.mem_cons,fOk]
  constructor
  ·rintro ⟨⟨h1,h2⟩,h3,h4⟩
   refine ⟨?_,fun y hy=>(h3 y hy).1,h4⟩
   rintro y (rfl | hy)
   ·exact ⟨h1,h2⟩
   ·have:=h3 y hy;exact ⟨by omega,this.2⟩
  ·rintro ⟨h1,h2,h3⟩
   exact ⟨h1 x (.inl rfl),fun y hy=>⟨h2 y hy,(h1 y (.inr hy)).2⟩,h3⟩
theorem Ws {L:Zk}:Ri L=true↔(0≤L.next∧L.next≤1099511627775)∧L.l.l.length≤8∧(∀x∈L.l.l,0<x.id∧fOk L.next x)∧L.l.l.Pairwise (fun x y=>x.id<y.id):=by
 simp only [Ri,Bool.and_eq_true,Uo,decide_eq_true_eq,Znp,and_assoc]
theorem Znq {L:Zk} {t now:Int}:Vf L t now=0↔(1≤t∧t≤1000∧Wm now=true)∧¬(8≤L.l.l.length∨1099511627775≤L.next):=by
 unfold Vf
 by_cases h:1≤t∧t≤1000∧Wm now=true
 ·by_cases h2:8≤L.l.l.length∨1099511627775≤L.next
  ·simp only [if_pos h,if_pos h2];simp [h2]
  ·simp only [if_pos h,if_neg h2];simp [h,h2]
 ·simp only [if_neg h];simp only [h,false_and,iff_false];decide
theorem Co {L:Zk} (h:Ri L=true) (t now:Int):Ri (Ta L t now)=true:=by
 unfold Ta
 by_cases hg:Vf L t now=0
 ·rw [if_pos hg]
  obtain ⟨⟨g1,g2,g3⟩,g4⟩:=Znq.1 hg
  rw [Uo] at g3
  rw [Ws] at h ⊢
  obtain ⟨h1,h2,h3,h4⟩:=h
  refine ⟨⟨by simp only;omega,by simp only;omega⟩,by simp;omega,?_,?_⟩
  ·intro x hx
   simp only [Sl.l_of,List.mem_append,List.mem_singleton] at hx
   rcases hx with hx | rfl
   ·have:=h3 x hx
    simp only [fOk] at this ⊢;omega
   ·simp only [fOk];omega
  ·simp only [Sl.l_of,List.pairwise_append,List.mem_singleton]
   refine ⟨h4,by simp,?_⟩
   rintro x hx y rfl
   have:=(h3 x hx).2.1
   simp only;omega
 ·rw [if_neg hg];exact h
theorem Zsa {L:Zk} (h:Ri L=true) (id now:Int):Ri (Qr L id now)=true:=by
 unfold Qr
 by_cases ht:Wm now=true
 ·rw [if_pos ht]
  rw [Uo] at ht
  rcases hp:Xi id 0 L.l.l with _ | i
  ·exact h
  ·simp only
   obtain ⟨hi,hid⟩:=Vg hp
   rw [Ws] at h ⊢
   obtain ⟨h1,h2,h3,h4⟩:=h
   have hx:=h3 _ (List.getElem_mem hi)
   have hg:L.l.l[i]?.getD default=L.l.l[i]:=by simp [hi]
   refine ⟨h1,by simpa using h2,?_,?_⟩
   ·intro x hm
    simp only [Sl.l_of] at hm
    rcases List.mem_or_eq_of_mem_set hm with hm | rfl
    ·exact h3 x hm
    ·rw [hg]
     simp only [fOk,Hn] at hx ⊢
     split <;> omega
   ·have e:(L.l.l.set i (Hn (L.l.l[i]?.getD default) now)).map Zu.id=L.l.l.map Zu.id:=by
     rw [List.map_set,hg]
     simp only [Hn]
     rw [show L.l.l[i].id=(L.l.l.map Zu.id)[i]'(by simpa using hi) by simp,List.set_getElem_self]
    have:=(List.pairwise_map (f:=Zu.id) (R:=fun a b:Int=>a<b)).2 h4
    rw [←e] at this
    exact List.pairwise_map.1 this
 ·rw [if_neg ht];exact h
theorem Zdn (l:List Zu) (i:Nat):Ho l i=l.eraseIdx i:=by
 rw [Ho,List.eraseIdx_eq_take_drop_succ]
theorem Zzg {L:Zk} (h:Ri L=true) (id:Int):Ri (Qt L id)=true:=by
 unfold Qt
 rcases hp:Xi id 0 L.l.l with _ | i
 ·exact h
 ·simp only
  rw [Ws] at h ⊢
  obtain ⟨h1,h2,h3,h4⟩:=h
  have hs:(Ho L.l.l i).Sublist L.l.l:=by rw [Zdn];exact List.eraseIdx_sublist _ _
  simp only [Xz]
  exact ⟨h1,by have:=hs.length_le;omega,fun x hx=>h3 x (hs.subset hx),h4.sublist hs⟩
theorem Zzh {L:Zk} (h:Ri L=true) (id:Int):V1 id (Qt L id).l.l=false:=by
 rw [Bool.eq_false_iff,ne_eq,V3]
 rintro ⟨x,hx,hid⟩
 unfold Qt at hx
 rcases hp:Xi id 0 L.l.l with _ | i
 ·rw [hp] at hx
  have:V1 id L.l.l=true:=V3.2 ⟨x,hx,hid⟩
  simp [V1,hp] at this
 ·rw [hp] at hx
  simp only [Xz,Ho] at hx
  obtain ⟨hi,hii⟩:=Vg hp
  have h4:=(Ws.1 h).2.2.2
  have e:L.l.l=L.l.l.take i++L.l.l[i]::L.l.l.drop (i+1):=by simp
  rw [e,List.pairwise_append] at h4
  obtain ⟨_,h5,h6⟩:=h4
  rw [List.pairwise_cons] at h5
  rcases List.mem_append.1 hx with hx | hx
  ·have:=h6 x hx _ (List.mem_cons_self ..)
   omega
  ·have:=h5.1 x hx
   omega
theorem Z29 {L:Zk} {id:Int}:Pd L id=0↔V1 id L.l.l=true:=by
 unfold Pd;cases V1 id L.l.l <;> simp
theorem Cp {L:Zk} (h:Ri L=true):Zad L:=by
 obtain ⟨_,h2,h3,_⟩:=Ws.1 h
 exact ⟨by omega,fun x hx=>by have:=(h3 x hx).2;simp only [fOk] at this;omega⟩
theorem Zhb {L:Zk} (h:Ri L=true):L.wf:=by
 obtain ⟨h1,h2,h3,_⟩:=Ws.1 h
 refine ⟨⟨by omega,by omega⟩,fun x hx => ?_,by omega⟩
 have:=h3 x hx
 simp only [fOk] at this
 exact ⟨⟨by omega,by omega⟩,⟨by omega,by omega⟩,⟨by omega,by omega⟩⟩
structure Zm where
 who:Int
 seq:Int
 rep:Zj
def Zm.c (x:Zm):List GV:=[.int .i64 x.who,.int .i64 x.seq,.int .i64 x.rep.code,.int .i64 x.rep.who,.int .i64 x.rep.seq,.int .i64 x.rep.rev,.int .i64 x.rep.lease,.int .i64 x.rep.ttl,.bool x.rep.yes,x.rep.kvs.g,x.rep.events.g]
def Zm.wf (x:Zm):Prop:=I64 x.who∧I64 x.seq∧x.rep.wf
structure Zn where
 who:Int
 seq:Int
 deriving DecidableEq
def Zn.c (x:Zn):List GV:=[.int .i64 x.who,.int .i64 x.seq]
def Zn.wf (x:Zn):Prop:=I64 x.who∧I64 x.seq
abbrev MemoL.g (s:Sl Zm):GV:=Sl.g 11 Zm.c s
abbrev Floors.g (s:Sl Zn):GV:=Sl.g 2 Zn.c s
structure Zi where
 l:Sl Zm
 old:Sl Zn
def Zi.c (x:Zi):List GV:=[MemoL.g x.l,Floors.g x.old]
def Zi.wf (x:Zi):Prop:=((∀y∈x.l.l,y.wf)∧x.l.l.length≤9223372036854775807)∧((∀y∈x.old.l,y.wf)∧x.old.l.length≤9223372036854775807)
def Uh (x:Zm):Int×Int:=(x.who,x.seq)
def Zdo (l:List Int):Prop:=l.Pairwise (fun a b=>a≤b)
theorem Wv (l:List Int):(Yx l).Perm l:=List.mergeSort_perm l _
theorem Qu (l:List Int):Zdo (Yx l):=by
 have:=List.pairwise_mergeSort (le:=fun x y:Int=>decide (x≤y)) (fun a b c h1 h2=>by simp at h1 h2 ⊢;omega) (fun a b=>by simp;omega) l
 exact this.imp (by simp)
theorem Zsb {a b:List Int} (ha:Zdo a) (hb:Zdo b) (hp:a.Perm b):a=b:=List.Perm.eq_of_pairwise (le:=fun a b=>a≤b) (fun a b _ _ h1 h2=>by omega) ha hb hp
def Tp (n:Int):List Int→List Int
 | []=>[n]
 | y::l=>if y<n then y::Tp n l else n::y::l
theorem Qv (n:Int):∀l,(Tp n l).Perm (n::l)
 | []=>List.Perm.refl _
 | y::l=>by
  unfold Tp
  split
  ·exact ((Qv n l).cons y).trans (List.Perm.swap n y l)
  ·exact List.Perm.refl _
theorem Zdp (n:Int):∀{l:List Int},Zdo l→Zdo (Tp n l)
 | [],_=>List.pairwise_singleton _ _
 | y::l,h=>by
  obtain ⟨h1,h2⟩:=List.pairwise_cons.1 h
  unfold Tp
  split
  ·refine List.pairwise_cons.2 ⟨fun z hz => ?_,Zdp n h2⟩
   rcases List.mem_cons.1 ((Qv n l).mem_iff.1 hz) with rfl | hz
   ·omega
   ·exact h1 z hz
  ·refine List.pairwise_cons.2 ⟨fun z hz => ?_,h⟩
   rcases List.mem_cons.1 hz with rfl | hz
   ·omega
   ·have:=h1 z hz;omega
theorem Ee (l:List Int) (n:Int):Yx (l++[n])=Tp n (Yx l):=by
 refine Zsb (Qu _) (Zdp n (Qu l)) ?_
 exact (Wv _).trans ((List.perm_append_singleton n l).trans (((Wv l).cons n).symm.trans (Qv n _).symm))
def U4 (n:Int):List Int→List Int
 | []=>[n]
 | y::l=>if y<n then y::U4 n l else if y=n then y::l else n::y::l
theorem Zae (n:Int):∀{l:List Int},Zdo l→n∈l→U4 n l=l
 | [],_,h=>by simp at h
 | y::l,hs,h=>by
  obtain ⟨h1,h2⟩:=List.pairwise_cons.1 hs
  unfold U4
  split
  ·rename_i hlt
   rcases List.mem_cons.1 h with rfl | h
   ·omega
   ·rw [Zae n h2 h]
  ·rename_i hge
   rcases List.mem_cons.1 h with rfl | h
   ·rw [if_pos rfl]
   ·have:=h1 n h
    rw [if_pos (by omega)]
theorem Ef (n:Int):∀{l:List Int},n∉l→U4 n l=Tp n l
 | [],_=>rfl
 | y::l,h=>by
  simp only [List.mem_cons,not_or] at h
  unfold U4 Tp
  rw [if_neg (show ¬y=n from fun e=>h.1 e.symm),Ef n h.2]
def Wt (ks:List Int) (k:Int):List Int:=if k∈ks then ks else ks++[k]
def Cq (l:List Int):List Int:=l.foldl Wt []
theorem Znr {ks:List Int} {k x:Int}:x∈Wt ks k↔x∈ks∨x=k:=by
 unfold Wt
 split
 ·rename_i h
  exact ⟨.inl,fun h2=>h2.elim id fun e=>e▸h⟩
 ·simp
theorem Zdq {ks:List Int} (h:ks.Nodup) (k:Int):(Wt ks k).Nodup:=by
 unfold Wt
 split
 ·exact h
 ·rename_i hk
  rw [List.nodup_append]
  refine ⟨h,by simp,fun a ha b hb => ?_⟩
  rw [List.mem_singleton.1 hb]
  exact fun e=>hk (e▸ha)
theorem Ka:∀{l ks:List Int} {x:Int},x∈l.foldl Wt ks↔x∈ks∨x∈l
 | [],ks,x=>by simp
 | y::l,ks,x=>by
  rw [List.foldl_cons,Ka,Znr]
  simp only [List.mem_cons]
  constructor
  ·rintro ((h | h) | h)
   ·exact .inl h
   ·exact .inr (.inl h)
   ·exact .inr (.inr h)
  ·rintro (h | h | h)
   ·exact .inl (.inl h)
   ·exact .inl (.inr h)
   ·exact .inr h
theorem Ov:∀{l ks:List Int},ks.Nodup→(l.foldl Wt ks).Nodup
 | [],_,h=>h
 | y::l,ks,h=>by rw [List.foldl_cons];exact Ov (Zdq h y)
theorem Pe:∀(l ks:List Int),(l.foldl Wt ks).length≤ks.length+l.length
 | [],ks=>by simp
 | y::l,ks=>by
  have:=Pe l (Wt ks y)
  have h2:(Wt ks y).length≤ks.length+1:=by unfold Wt;split <;> simp
  rw [List.foldl_cons,List.length_cons];omega
theorem Cr {l:List Int} {x:Int}:x∈Cq l↔x∈l:=by unfold Cq;rw [Ka];simp
theorem Hp (l:List Int):(Cq l).Nodup:=Ov (by simp)
theorem Cs:∀(l ks:List Int),l.foldl (fun s n=>U4 n s) (Yx ks)=Yx (l.foldl Wt ks)
 | [],ks=>rfl
 | y::l,ks=>by
  rw [List.foldl_cons,List.foldl_cons,←Cs l (Wt ks y)]
  congr 1
  unfold Wt
  split
  ·rename_i h;exact Zae y (Qu ks) ((Wv ks).mem_iff.2 h)
  ·rename_i h
   rw [Ee,Ef]
   exact fun h2=>h ((Wv ks).mem_iff.1 h2)
theorem Nc:∀(l ks:List Int),l.foldl (fun s n=>Tp n s) (Yx ks)=Yx (ks++l)
 | [],ks=>by simp
 | y::l,ks=>by
  rw [List.foldl_cons,←Ee,Nc l (ks++[y])];simp
theorem S8:Yx []=[]:=by simp [Yx]
def Yd:List Zn→Int→Int
 | [],_ => -1
 | f::l,w=>if f.who=w then f.seq else Yd l w
def X8 (l:List Zn) (w:Int):Bool:=l.any fun f=>decide (f.who=w)
def Xo (l:List Zm) (w:Int):List Int:=(l.filter fun x=>decide (x.who=w)).map Zm.seq
def Yj (l:List Zm) (w:Int):List Int:=Yx (Xo l w)
def Ma (l:List Zm) (old:List Zn):List Int:=Cq (l.map Zm.who++old.map Zn.who)
def Yb (l:List Zm) (old:List Zn):List Int:=Yx (Ma l old)
theorem Zns {l:List Zm} {old:List Zn} {w:Int}:w∈Yb l old↔(∃x∈l,x.who=w)∨(∃f∈old,f.who=w):=by
 unfold Yb Ma
 rw [(Wv _).mem_iff,Cr,List.mem_append,List.mem_map,List.mem_map]
theorem Js (l:List Zm) (old:List Zn):(Yb l old).length≤l.length+old.length:=by
 unfold Yb Ma Cq
 rw [W5]
 have:=Pe (l.map Zm.who++old.map Zn.who) []
 simp only [List.length_append,List.length_map,List.length_nil] at this
 omega
theorem Hq (l:List Zm) (old:List Zn):(Yb l old).Nodup:=(Wv _).nodup_iff.2 (Hp _)
def Kb:Zj:=⟨0,0,0,0,0,0,false,.nil,.nil⟩
def Wx (l:List Zm) (w s:Int):Option Zm:=l.find? fun x=>decide (x.who=w)&&decide (x.seq=s)
def Yn (l:List Zm) (old:List Zn) (w s:Int):Zj×Bool×Int :=
 match Wx l w s with
 | some x=>(x.rep,true,0)
 | none=>if s≤Yd old w then (Kb,false,7) else if 8≤(Yb l old).length∧w∉Yb l old then (Kb,false,4) else (Kb,false,0)
def Vh (x:KV):Bool := !(decide (60<(x.key.length:Int))||decide (60<(x.value.length:Int)))
def Tc (x:Ev):Bool:=Vh x.kv
theorem Zsc (s:KVs) (hl:s.l.length≤9223372036854775807) (H:List Blk) :
  Ya (EvF tab) H Zkb [0,5] ⟨[(0,.g (KVs.g s)),(5,I 0)],[],[]⟩ =
   some (if Z7 Vh s.l=true then (.exit 0,⟨[(0,.g (KVs.g s)),(5,I s.l.length),(13,B false)],[],[]⟩) else (.ret,⟨[(4,B false)],[],[]⟩)):=by
 refine Y4 (l:=s.l) Vh (fun k=>⟨[(0,.g (KVs.g s)),(5,I k)],[],[]⟩) _ _ (by simp) (by simp) (fun k x hk hx hy => ?_) (by delta Zkb;cases s <;> simp -implicitDefEqProofs)
 delta Zkb
 have e2:=Zh hk hl
 cases s with
 | nil=>simp at hk
 | of l =>
  simp only [Sl.l_of] at hk hy
  by_cases h1:60<(x.key.length:Int)
  ·simp -implicitDefEqProofs [hk,hy,KV.c,Vh,h1]
  ·by_cases h2:60<(x.value.length:Int)
   ·simp -implicitDefEqProofs [hk,hy,KV.c,Vh,h1,h2]
   ·simp -implicitDefEqProofs [hk,hy,KV.c,Vh,h1,h2,e2]
theorem Zsd (s:KVs) (hl:s.l.length≤9223372036854775807) (n:Int) (H:List Blk):EvF tab 77 [.g (KVs.g s),I n] H=some ⟨B (decide ((s.l.length:Int)≤n)&&Z7 Vh s.l),[],[]⟩:=by
 refine Zb t77 (by simp) ?_
 have hw:=Zsc s hl H
 rcases Int.lt_or_le n s.l.length with h | h
 ·have e:decide ((s.l.length:Int)≤n)=false:=by simp;omega
  rw [e]
  cases s <;> simp at h <;> simp -implicitDefEqProofs [h]
 ·have e:decide ((s.l.length:Int)≤n)=true:=by simp;omega
  rw [e]
  cases hs:Z7 Vh s.l <;> rw [hs] at hw <;> simp only [Bool.false_eq_true,if_true,if_false] at hw
  all_goals cases s <;> simp at h hw hs <;> simp -implicitDefEqProofs [show ¬n<0 by omega,Int.not_lt.2 h,hw]
theorem Eg (s:Evs) (hl:s.l.length≤9223372036854775807) (H:List Blk) :
  Ya (EvF tab) H Zkc [0,5] ⟨[(0,.g (Evs.g s)),(5,I 0)],[],[]⟩ =
   some (if Z7 Tc s.l=true then (.exit 0,⟨[(0,.g (Evs.g s)),(5,I s.l.length),(13,B false)],[],[]⟩) else (.ret,⟨[(4,B false)],[],[]⟩)):=by
 refine Y4 (l:=s.l) Tc (fun k=>⟨[(0,.g (Evs.g s)),(5,I k)],[],[]⟩) _ _ (by simp) (by simp) (fun k x hk hx hy => ?_) (by delta Zkc;cases s <;> simp -implicitDefEqProofs)
 delta Zkc
 have e2:=Zh hk hl
 cases s with
 | nil=>simp at hk
 | of l =>
  simp only [Sl.l_of] at hk hy
  by_cases h1:60<(x.kv.key.length:Int)
  ·simp -implicitDefEqProofs [hk,hy,Ev.c,Vh,Tc,h1]
  ·by_cases h2:60<(x.kv.value.length:Int)
   ·simp -implicitDefEqProofs [hk,hy,Ev.c,Vh,Tc,h1,h2]
   ·simp -implicitDefEqProofs [hk,hy,Ev.c,Vh,Tc,h1,h2,e2]
theorem Kc (s:Evs) (hl:s.l.length≤9223372036854775807) (n:Int) (H:List Blk):EvF tab 78 [.g (Evs.g s),I n] H=some ⟨B (decide ((s.l.length:Int)≤n)&&Z7 Tc s.l),[],[]⟩:=by
 refine Zb t78 (by simp) ?_
 have hw:=Eg s hl H
 rcases Int.lt_or_le n s.l.length with h | h
 ·have e:decide ((s.l.length:Int)≤n)=false:=by simp;omega
  rw [e]
  cases s <;> simp at h <;> simp -implicitDefEqProofs [h]
 ·have e:decide ((s.l.length:Int)≤n)=true:=by simp;omega
  rw [e]
  cases hs:Z7 Tc s.l <;> rw [hs] at hw <;> simp only [Bool.false_eq_true,if_true,if_false] at hw
  all_goals cases s <;> simp at h hw hs <;> simp -implicitDefEqProofs [show ¬n<0 by omega,Int.not_lt.2 h,hw]
theorem Zm.inv {gs:List GV} (h:Wi (.p (.i .i64) (.p (.i .i64) (.p (.p (.i .i64) (.p (.i .i64) (.p (.i .i64) (.p (.i .i64) (.p (.i .i64) (.p (.i .i64) (.p .b (.p (.sl 6 tKV) (.p (.sl 8 tEv) .u))))))))) .u))) gs):∃x:Zm,x.wf∧gs=x.c:=by
 obtain ⟨_,_,rfl,⟨a,rfl,ha⟩,_,_,rfl,⟨b,rfl,hb⟩,_,_,rfl,hr,rfl⟩:=h
 obtain ⟨r,wr,rfl⟩:=Zj.inv hr
 exact ⟨⟨a,b,r⟩,⟨ha,hb,wr⟩,by simp [Zm.c,Zj.c]⟩
theorem Zn.inv {gs:List GV} (h:Wi (.p (.i .i64) (.p (.i .i64) .u)) gs):∃x:Zn,x.wf∧gs=x.c:=by
 obtain ⟨_,_,rfl,⟨a,rfl,ha⟩,_,_,rfl,⟨b,rfl,hb⟩,rfl⟩:=h
 exact ⟨⟨a,b⟩,⟨ha,hb⟩,by simp [Zn.c]⟩
theorem Zse (m:Zi) (w:Int) (hl:m.old.l.length≤9223372036854775807) (H:List Blk):EvF tab 97 [A m.c,I w] H=some ⟨I (Yd m.old.l w),[],[]⟩:=by
 obtain ⟨ml,mo⟩:=m
 simp only at hl ⊢
 have hw:=Zt (E:=EvF tab) (h:=H) (c:=Zkk) (lv:=[1,8,9,10]) (l:=mo.l) (β:=Unit) (γ:=Int) (fun _ _=>True) (fun _ x _=>if x.who=w then .inr x.seq else .inl ())
  (fun k _ o=>⟨[(1,I w),(8,.g (Floors.g mo)),(9,I mo.l.length),(10,I k)],[],o⟩)
  (fun _ o=>(.exit 0,⟨[(1,I w),(8,.g (Floors.g mo)),(9,I mo.l.length),(10,I mo.l.length),(11,B false)],[],o⟩))
  (fun n o=>(.ret,⟨[(4,I n)],[],o⟩)) (by simp) (by simp) (fun k x b o hk hx hy _ => ?_) (fun _ o _=>by delta Zkk;simp -implicitDefEqProofs) () [.cells ((Zi.c ⟨ml,mo⟩).map .g)] trivial
 ·obtain ⟨o',hw⟩:=hw
  have hr:∀(l:List Zn) k,Ym (fun _ (x:Zn) (_:Unit)=>if x.who=w then (.inr x.seq:Unit⊕Int) else .inl ()) k l ()=if X8 l w=true then .inr (Yd l w) else .inl ():=by
   intro l
   induction l with
   | nil=>intro k;rfl
   | cons x l ih =>
    intro k
    unfold Ym Yd X8
    by_cases h:x.who=w
    ·simp [h]
    ·simp only [if_neg h]
     rw [ih]
     unfold X8
     simp [h]
  have hn:∀(l:List Zn),X8 l w=false→Yd l w = -1:=by
   intro l
   induction l with
   | nil=>intro _;rfl
   | cons x l ih =>
    intro h
    unfold X8 at h ih
    rw [List.any_cons,Bool.or_eq_false_iff] at h
    unfold Yd
    rw [if_neg (by simpa using h.1)]
    exact ih h.2
  rw [hr] at hw
  simp only [Int.ofNat_zero,Int.cast_ofNat_Int] at hw
  refine Zb t97 (by simp) ?_
  simp only [Zi.c,List.map_cons,List.map_nil] at hw
  have hlen:∀h s,X4 h s (.g (Floors.g mo))=some mo.l.length:=fun h s=>Xa ..
  generalize hg1:MemoL.g ml=G1 at hw
  generalize hg2:Floors.g mo=G2 at hw hlen
  cases hh:X8 mo.l w
  ·rw [hh] at hw
   simp only [Bool.false_eq_true,if_false,Wj] at hw
   simp -implicitDefEqProofs [A,Zi.c,hg1,hg2,hlen,hw,hn mo.l hh]
  ·rw [hh] at hw
   simp only [if_true,Wj] at hw
   simp -implicitDefEqProofs [A,Zi.c,hg1,hg2,hlen,hw]
 ·have e2:=Zh hk hl
  delta Zkk
  cases mo with
  | nil=>simp at hk
  | of l =>
   simp only [Sl.l_of] at hk hy hl
   by_cases h:x.who=w
   ·simp only [if_pos h]
    refine ⟨o++[.cells (x.c.map .g)],?_⟩
    simp -implicitDefEqProofs [hk,hy,Zn.c,h,e2]
   ·simp only [if_neg h]
    refine ⟨trivial,o++[.cells (x.c.map .g)],?_⟩
    simp -implicitDefEqProofs [hk,hy,Zn.c,h,e2]
theorem Zaf {α β:Type} (p:α→Bool) (f:α→β):∀(l:List α) k r,Ym (fun _ (x:α) (r:List β)=>(if p x=true then .inl (r++[f x]) else .inl r:List β⊕Nat)) k l r = .inl (r++(l.filter p).map f):=by
 intro l
 induction l with
 | nil=>intro k r;simp [Ym]
 | cons x l ih =>
  intro k r
  cases h:p x
  ·simp only [Ym,h,Bool.false_eq_true,if_false,List.filter_cons]
   rw [ih]
  ·simp only [Ym,h,if_true,List.filter_cons]
   rw [ih];simp
theorem Zkq:U3=Ints.c:=rfl
theorem Zzi {H:List Blk} {id g:Nat} {zs:List Int} (h:H[id]? = some (.rows 1 g (zs.map Ints.c))) (hl:zs.length≤1000000):EvF tab 159 [.ms id g 1 0 zs.length] H=some ⟨.tup [],[(id,.rows 1 g ((Yx zs).map Ints.c))],[]⟩:=by
 refine Zja rfl (fun _ _ h=>by cases h) ?_
 have e1:=Jj zs
 rw [Zkq] at e1
 show orX _ _ _ _ _=_
 have e2:zs.length<4611686018427387904:=by omega
 simp [orX,Zb3,Zje,Go.AM.sortA,h,e1,Zkq,e2]
end Go.Proofs.YtndfdnlbljhlgaaGreat
