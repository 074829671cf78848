/- Part of the proof: what the functions answer, part 6. No conditions. -/
import Derived.Test.YtndfdnlbljhlgaaGreatSPJ4
import Derived.Test.YtndfdnlbljhlgaaGreatSPJ5
set_option linter.unusedSimpArgs false
set_option linter.unusedVariables false
set_option maxHeartbeats 2000000
set_option maxRecDepth 20000
namespace Go.Proofs.YtndfdnlbljhlgaaGreat
open Go Go.AM Go.Proofs
def Sk {α:Type} (p:Nat→α→Bool):Nat→List α→Bool
 | _,[]=>true
 | k,x::l=>p k x&&Sk p (k+1) l
theorem Zay {α:Type} (p:Nat→α→Bool):∀(l:List α) (k:Nat),Ym (fun k (x:α) (_:Unit)=>if p k x=true then .inl () else .inr ()) k l ()=if Sk p k l=true then .inl () else (.inr ():Unit⊕Unit)
 | [],_=>rfl
 | x::l,k=>by
  unfold Ym Sk
  by_cases h:p k x=true
  ·simp only [h,if_true,Bool.true_and];exact Zay p l (k+1)
  ·simp [h]
theorem Nm {α:Type} (p:Nat→α→Bool):∀(l:List α) (k:Nat),Sk p k l=true↔∀j (h:j<l.length),p (k+j) l[j]=true
 | [],_=>by simp [Sk]
 | x::l,k=>by
  unfold Sk
  rw [Bool.and_eq_true,Nm p l (k+1)]
  constructor
  ·rintro ⟨h1,h2⟩ j hj
   cases j with
   | zero=>exact h1
   | succ j=>have:=h2 j (by simpa using hj);rw [show k+1+j=k+(j+1) by omega] at this;exact this
  ·intro h
   refine ⟨h 0 (by simp),fun j hj => ?_⟩
   have:=h (j+1) (by simpa using hj)
   rw [show k+(j+1)=k+1+j by omega] at this;exact this
theorem Zew {α β:Type} (f:α→β) (e:α→α→Bool) (he:∀x y,e x y=true↔f y=f x) (L:List α):Sk (fun k x=>Z7 (fun y => !e x y) (L.take k)) 0 L=true↔(L.map f).Nodup:=by
 rw [Nm,List.Nodup,List.pairwise_iff_getElem]
 simp only [Nat.zero_add,Fo,List.length_map,List.getElem_map]
 constructor
 ·intro h i j hi hj hij hne
  have:=h j hj L[i] (List.mem_iff_getElem.2 ⟨i,by rw [List.length_take];omega,by rw [List.getElem_take]⟩)
  rw [Bool.not_eq_true',Bool.eq_false_iff] at this
  exact this ((he _ _).2 hne)
 ·intro h j hj y hy
  obtain ⟨i,hi,rfl⟩:=List.mem_iff_getElem.1 hy
  rw [List.length_take] at hi
  rw [List.getElem_take,Bool.not_eq_true',Bool.eq_false_iff]
  intro hc
  exact h i j (by omega) hj (by omega) ((he _ _).1 hc)
theorem Z0c (s:Sl Zn) (w:Int) (hl:s.l.length≤9223372036854775807) (H:List Blk):EvF tab 83 [.g (Floors.g s),I w] H=some ⟨B (X8 s.l w),[],[]⟩:=by
 have hw:=Y4 (E:=EvF tab) (h:=H) (c:=Zkf) (lv:=[0,1,5]) (l:=s.l) (fun x:Zn => !decide (x.who=w)) (fun k=>⟨[(0,.g (Floors.g s)),(1,I w),(5,I k)],[],[]⟩)
  (.exit 0,⟨[(0,.g (Floors.g s)),(1,I w),(5,I s.l.length),(9,B false)],[],[]⟩) (.ret,⟨[(4,B true)],[],[]⟩) (by simp) (by simp) (fun k x hk hx hy => ?_) (by delta Zkf;cases s <;> simp -implicitDefEqProofs)
 ·refine Zb t83 (by simp) ?_
  simp only [Int.ofNat_zero,Int.cast_ofNat_Int] at hw
  have e:X8 s.l w = !Z7 (fun x:Zn => !decide (x.who=w)) s.l:=by
   unfold X8 Z7
   induction s.l with
   | nil=>rfl
   | cons x l ih=>simp only [List.any_cons,List.all_cons,ih];cases decide (x.who=w) <;> rfl
  rw [e]
  cases hb:Z7 (fun x:Zn => !decide (x.who=w)) s.l <;> rw [hb] at hw <;> simp only [Bool.false_eq_true,if_false,if_true] at hw <;> simp -implicitDefEqProofs [hw]
 ·have e2:=Zh hk hl
  delta Zkf
  cases s with
  | nil=>simp at hk
  | of l =>
   simp only [Sl.l_of] at hk hy hx
   obtain ⟨xw,xs⟩:=x
   by_cases h:xw=w <;> simp -implicitDefEqProofs [hk,hx,hy,Zn.c,h,e2]
theorem Ztp (m:Zi) (i:Nat) (x:Zm) (hx:m.l.l[i]? = some x) (hl:m.l.l.length≤10000) (H:List Blk) :
  Ya (EvF tab) H Zc9 [1,3,4] ⟨[(1,.ptr H.length 0),(3,I i),(4,I 0)],[],[.cells (m.c.map .g)]⟩ =
   some (if Z7 (fun y => !isP x.who x.seq y) (m.l.l.take i)=true then (.exit 2,⟨[(1,.ptr H.length 0),(3,I i),(4,I i),(52,B false)],[],[.cells (m.c.map .g)]⟩) else (.ret,⟨[(2,B false)],[],[.cells (m.c.map .g)]⟩)):=by
 have hi:i<m.l.l.length:=(List.getElem?_eq_some_iff.1 hx).1
 have hlt:(m.l.l.take i).length=i:=by rw [List.length_take];omega
 have hw:=Y4 (E:=EvF tab) (h:=H) (c:=Zc9) (lv:=[1,3,4]) (l:=m.l.l.take i) (fun y:Zm => !isP x.who x.seq y) (fun k=>⟨[(1,.ptr H.length 0),(3,I i),(4,I k)],[],[.cells (m.c.map .g)]⟩)
  (.exit 2,⟨[(1,.ptr H.length 0),(3,I i),(4,I i),(52,B false)],[],[.cells (m.c.map .g)]⟩) (.ret,⟨[(2,B false)],[],[.cells (m.c.map .g)]⟩) (by simp) (by simp) (fun k y hk hy hy2 => ?_) (by rw [hlt];delta Zc9;simp -implicitDefEqProofs)
 ·simpa only [Int.ofNat_zero,Int.cast_ofNat_Int] using hw
 ·have hki:k<i:=by rw [hlt] at hk;exact hk
  have e2:=Zh hki (by omega)
  rw [List.getElem?_take_of_lt hki] at hy
  clear hk hy2 hlt
  delta Zc9
  obtain ⟨ml,mo⟩:=m
  simp only at hx hy hi hl
  cases ml with
  | nil=>simp at hi
  | of l =>
  simp only [Sl.l_of] at hx hy hi hl
  obtain ⟨xw,xs,r1,r2,r3,r4,r5,r6,r7,r8,r9⟩:=x
  obtain ⟨yw,ys,q1,q2,q3,q4,q5,q6,q7,q8,q9⟩:=y
  have hx2:=(List.getElem?_eq_some_iff.1 hx).2
  unfold isP
  by_cases c1:yw=xw
  ·by_cases c2:ys=xs
   ·simp -implicitDefEqProofs [Zi.c,Zm.c,hx,hx2,hy,hi,hki,e2,c1,c2]
   ·simp -implicitDefEqProofs [Zi.c,Zm.c,hx,hx2,hy,hi,hki,e2,c1,c2]
  ·simp -implicitDefEqProofs [Zi.c,Zm.c,hx,hx2,hy,hi,hki,e2,c1]
def okM (l:List Zm) (old:List Zn) (k:Nat) (x:Zm):Bool := !(decide (x.seq≤Yd old x.who)&&X8 old x.who)&&(decide ((Yj l x.who).length≤4)&&Z7 (fun y => !isP x.who x.seq y) (l.take k))
theorem Ztq (m:Zi) (hl:m.l.l.length+m.old.l.length≤5000) (H:List Blk) :
  Ya (EvF tab) H Zda [1,3] ⟨[(1,.ptr H.length 0),(3,I 0)],[],[.cells (m.c.map .g)]⟩ =
   some (if Sk (okM m.l.l m.old.l) 0 m.l.l=true then (.exit 0,⟨[(1,.ptr H.length 0),(3,I m.l.l.length),(11,B false)],[],[.cells (m.c.map .g)]⟩) else (.ret,⟨[(2,B false)],[],[.cells (m.c.map .g)]⟩)):=by
 have hq:=Zt (E:=EvF tab) (h:=H) (c:=Zda) (lv:=[1,3]) (l:=m.l.l) (β:=Unit) (γ:=Unit) (fun _ _=>True) (fun k x _=>if okM m.l.l m.old.l k x=true then .inl () else .inr ())
  (fun k _ o=>⟨[(1,.ptr H.length 0),(3,I k)],[],[.cells (m.c.map .g)]⟩)
  (fun _ o=>(.exit 0,⟨[(1,.ptr H.length 0),(3,I m.l.l.length),(11,B false)],[],[.cells (m.c.map .g)]⟩))
  (fun _ o=>(.ret,⟨[(2,B false)],[],[.cells (m.c.map .g)]⟩)) (by simp) (by simp) (fun k x _ o hk hx hy _ => ?_) (fun _ o _=>by delta Zda;obtain ⟨ml,mo⟩:=m;simp -implicitDefEqProofs [Zi.c]) () [] trivial
 ·obtain ⟨o',hq⟩:=hq
  rw [Zay] at hq
  simp only [Int.ofNat_zero,Int.cast_ofNat_Int] at hq
  rw [hq]
  cases Sk (okM m.l.l m.old.l) 0 m.l.l <;> rfl
 ·have e2:=Zh hk (by omega)
  have m1:=fun H=>Cu m x.who (by omega) H
  have m2:=fun H=>Z0c m.old x.who (by omega) H
  have m3:=fun H=>Zsh m x.who (by omega) H
  have hi:=Ztp m k x hx (by omega) H
  have hO:okM m.l.l m.old.l k x=(!(decide (x.seq≤Yd m.old.l x.who)&&X8 m.old.l x.who)&&(decide ((Yj m.l.l x.who).length≤4)&&Z7 (fun y => !isP x.who x.seq y) (m.l.l.take k))):=rfl
  have hv:∀h st,X4 h st (.g (Ints.g (Zz (Yj m.l.l x.who))))=some (Yj m.l.l x.who).length:=fun h st=>by rw [Xa,Xz]
  generalize okM m.l.l m.old.l k x=b at hO ⊢
  generalize Yd m.old.l x.who=f at m1 hO
  generalize X8 m.old.l x.who=hb at m2 hO
  generalize Ints.g (Zz (Yj m.l.l x.who))=GI at m3 hv
  generalize (Yj m.l.l x.who).length=n at hv hO
  generalize Z7 (fun y => !isP x.who x.seq y) (m.l.l.take k)=ib at hi hO
  delta Zda
  obtain ⟨ml,mo⟩:=m
  simp only at hk hx hy hl hi e2 ⊢
  cases ml with
  | nil=>simp at hk
  | of l =>
  simp only [Sl.l_of] at hk hx hy hl e2 ⊢
  obtain ⟨xw,xs,r1,r2,r3,r4,r5,r6,r7,r8,r9⟩:=x
  simp only [A,Zi.c,List.map_cons,List.map_nil,MemoL.g,Sl.g_of] at m1 m2 m3 hi hO ⊢
  generalize Floors.g mo=G2 at m1 m2 m3 hi ⊢
  by_cases c1:xs≤f
  ·cases hb
   ·by_cases c2:n≤4
    ·simp only [c1,c2,decide_true,Bool.and_false,Bool.not_false,Bool.true_and] at hO
     subst hO
     cases b
     ·simp only [Bool.false_eq_true,if_false] at hi ⊢
      refine ⟨[],?_⟩
      simp -implicitDefEqProofs [m1,m2,m3,hi,hv,hk,hx,hy,e2,Zm.c,c1,c2,show ¬(4:Int)<(n:Int) by omega]
     ·simp only [if_true] at hi ⊢
      refine ⟨trivial,[],?_⟩
      simp -implicitDefEqProofs [m1,m2,m3,hi,hv,hk,hx,hy,e2,Zm.c,c1,c2,show ¬(4:Int)<(n:Int) by omega]
    ·simp only [c1,c2,decide_true,decide_false,Bool.and_false,Bool.false_and,Bool.not_false,Bool.true_and] at hO
     subst hO
     refine ⟨[],?_⟩
     simp -implicitDefEqProofs [m1,m2,m3,hi,hv,hk,hx,hy,e2,Zm.c,c1,c2,show (4:Int)<(n:Int) by omega]
   ·simp only [c1,decide_true,Bool.and_self,Bool.not_true,Bool.false_and] at hO
    subst hO
    refine ⟨[],?_⟩
    simp -implicitDefEqProofs [m1,m2,m3,hi,hv,hk,hx,hy,e2,Zm.c,c1]
  ·by_cases c2:n≤4
   ·simp only [c1,c2,decide_true,decide_false,Bool.false_and,Bool.and_false,Bool.not_false,Bool.true_and] at hO
    subst hO
    cases b
    ·simp only [Bool.false_eq_true,if_false] at hi ⊢
     refine ⟨[],?_⟩
     simp -implicitDefEqProofs [m1,m2,m3,hi,hv,hk,hx,hy,e2,Zm.c,c1,c2,show ¬(4:Int)<(n:Int) by omega]
    ·simp only [if_true] at hi ⊢
     refine ⟨trivial,[],?_⟩
     simp -implicitDefEqProofs [m1,m2,m3,hi,hv,hk,hx,hy,e2,Zm.c,c1,c2,show ¬(4:Int)<(n:Int) by omega]
   ·simp only [c1,c2,decide_true,decide_false,Bool.and_false,Bool.false_and,Bool.not_false,Bool.true_and] at hO
    subst hO
    refine ⟨[],?_⟩
    simp -implicitDefEqProofs [m1,m2,m3,hi,hv,hk,hx,hy,e2,Zm.c,c1,c2,show (4:Int)<(n:Int) by omega]
theorem Ztr (m:Zi) (i:Nat) (x:Zn) (hx:m.old.l[i]? = some x) (hl:m.old.l.length≤10000) (H:List Blk) :
  Ya (EvF tab) H Zdb [1,5,6] ⟨[(1,.ptr H.length 0),(5,I i),(6,I 0)],[],[.cells (m.c.map .g)]⟩ =
   some (if Z7 (fun y:Zn => !decide (y.who=x.who)) (m.old.l.take i)=true then (.exit 6,⟨[(1,.ptr H.length 0),(5,I i),(6,I i),(92,B false)],[],[.cells (m.c.map .g)]⟩) else (.ret,⟨[(2,B false)],[],[.cells (m.c.map .g)]⟩)):=by
 have hi:i<m.old.l.length:=(List.getElem?_eq_some_iff.1 hx).1
 have hlt:(m.old.l.take i).length=i:=by rw [List.length_take];omega
 have hw:=Y4 (E:=EvF tab) (h:=H) (c:=Zdb) (lv:=[1,5,6]) (l:=m.old.l.take i) (fun y:Zn => !decide (y.who=x.who)) (fun k=>⟨[(1,.ptr H.length 0),(5,I i),(6,I k)],[],[.cells (m.c.map .g)]⟩)
  (.exit 6,⟨[(1,.ptr H.length 0),(5,I i),(6,I i),(92,B false)],[],[.cells (m.c.map .g)]⟩) (.ret,⟨[(2,B false)],[],[.cells (m.c.map .g)]⟩) (by simp) (by simp) (fun k y hk hy hy2 => ?_) (by rw [hlt];delta Zdb;simp -implicitDefEqProofs)
 ·simpa only [Int.ofNat_zero,Int.cast_ofNat_Int] using hw
 ·have hki:k<i:=by rw [hlt] at hk;exact hk
  have e2:=Zh hki (by omega)
  rw [List.getElem?_take_of_lt hki] at hy
  clear hk hy2 hlt
  delta Zdb
  obtain ⟨ml,mo⟩:=m
  simp only at hx hy hi hl
  cases mo with
  | nil=>simp at hi
  | of l =>
  simp only [Sl.l_of] at hx hy hi hl
  obtain ⟨xw,xs⟩:=x
  obtain ⟨yw,ys⟩:=y
  have hx2:=(List.getElem?_eq_some_iff.1 hx).2
  by_cases c1:yw=xw
  ·simp -implicitDefEqProofs [Zi.c,Zn.c,hx,hx2,hy,hi,hki,e2,c1]
  ·simp -implicitDefEqProofs [Zi.c,Zn.c,hx,hx2,hy,hi,hki,e2,c1]
def okF (old:List Zn) (k:Nat) (x:Zn):Bool:=Z7 (fun y:Zn => !decide (y.who=x.who)) (old.take k)
theorem Zts (m:Zi) (hl:m.l.l.length+m.old.l.length≤5000) (H:List Blk) :
  Ya (EvF tab) H Zdc [1,5] ⟨[(1,.ptr H.length 0),(5,I 0)],[],[.cells (m.c.map .g)]⟩ =
   some (if Sk (okF m.old.l) 0 m.old.l=true then (.exit 4,⟨[(1,.ptr H.length 0),(5,I m.old.l.length),(87,B false)],[],[.cells (m.c.map .g)]⟩) else (.ret,⟨[(2,B false)],[],[.cells (m.c.map .g)]⟩)):=by
 have hq:=Zt (E:=EvF tab) (h:=H) (c:=Zdc) (lv:=[1,5]) (l:=m.old.l) (β:=Unit) (γ:=Unit) (fun _ _=>True) (fun k x _=>if okF m.old.l k x=true then .inl () else .inr ())
  (fun k _ o=>⟨[(1,.ptr H.length 0),(5,I k)],[],[.cells (m.c.map .g)]⟩)
  (fun _ o=>(.exit 4,⟨[(1,.ptr H.length 0),(5,I m.old.l.length),(87,B false)],[],[.cells (m.c.map .g)]⟩))
  (fun _ o=>(.ret,⟨[(2,B false)],[],[.cells (m.c.map .g)]⟩)) (by simp) (by simp) (fun k x _ o hk hx hy _ => ?_) (fun _ o _=>by delta Zdc;obtain ⟨ml,mo⟩:=m;simp -implicitDefEqProofs [Zi.c]) () [] trivial
 ·obtain ⟨o',hq⟩:=hq
  rw [Zay] at hq
  simp only [Int.ofNat_zero,Int.cast_ofNat_Int] at hq
  rw [hq]
  cases Sk (okF m.old.l) 0 m.old.l <;> rfl
 ·have e2:=Zh hk (by omega)
  have hi:=Ztr m k x hx (by omega) H
  have hO:okF m.old.l k x=Z7 (fun y:Zn => !decide (y.who=x.who)) (m.old.l.take k):=rfl
  rw [←hO] at hi
  generalize okF m.old.l k x=b at hi ⊢
  delta Zdc
  obtain ⟨ml,mo⟩:=m
  simp only at hk hx hy hl hi e2 ⊢
  cases mo with
  | nil=>simp at hk
  | of l =>
  simp only [Sl.l_of] at hk hx hy hl e2 ⊢
  simp only [A,Zi.c,List.map_cons,List.map_nil,Floors.g,Sl.g_of] at hi ⊢
  generalize MemoL.g ml=G2 at hi ⊢
  cases b
  ·simp only [Bool.false_eq_true,if_false] at hi ⊢
   refine ⟨[],?_⟩
   simp -implicitDefEqProofs [hi,hk,e2]
  ·simp only [if_true] at hi ⊢
   refine ⟨trivial,[],?_⟩
   simp -implicitDefEqProofs [hi,hk,e2]
def Ztt (l:List Zm) (old:List Zn):Bool:=Sk (okM l old) 0 l&&(Sk (okF old) 0 old&&decide ((Yb l old).length≤8))
theorem Ztu (m:Zi) (hl:m.l.l.length+m.old.l.length≤5000) (H:List Blk):EvF tab 36 [A m.c] H=some ⟨B (Ztt m.l.l m.old.l),[],[]⟩:=by
 have h1:=Ztq m hl H
 have h2:=Zts m hl H
 have m1:=fun H=>Zds m (by omega) H
 refine Zb t36 (by simp) ?_
 have hv:∀h st,X4 h st (.g (Ints.g (Zz (Yb m.l.l m.old.l))))=some (Yb m.l.l m.old.l).length:=fun h st=>by rw [Xa,Xz]
 unfold Ztt
 generalize Ints.g (Zz (Yb m.l.l m.old.l))=GI at m1 hv
 generalize (Yb m.l.l m.old.l).length=n at hv ⊢
 generalize Sk (okM m.l.l m.old.l) 0 m.l.l=b1 at h1 ⊢
 generalize Sk (okF m.old.l) 0 m.old.l=b2 at h2 ⊢
 obtain ⟨ml,mo⟩:=m
 simp only [A,Zi.c,List.map_cons,List.map_nil] at m1 h1 h2 ⊢
 generalize MemoL.g ml=G1 at m1 h1 h2 ⊢
 generalize Floors.g mo=G2 at m1 h1 h2 ⊢
 cases b1
 ·simp only [Bool.false_eq_true,if_false] at h1
  simp -implicitDefEqProofs [h1]
 ·simp only [if_true] at h1
  cases b2
  ·simp only [Bool.false_eq_true,if_false] at h2
   simp -implicitDefEqProofs [h1,h2]
  ·simp only [if_true] at h2
   by_cases c:n≤8
   ·simp -implicitDefEqProofs [h1,h2,m1,hv,c,show (n:Int)≤8 by omega]
   ·simp -implicitDefEqProofs [h1,h2,m1,hv,c,show ¬(n:Int)≤8 by omega]
theorem Z0d (x y:Zm):isP x.who x.seq y=true↔Uh y=Uh x:=Tf
theorem Ztv {l:List Zm} {old:List Zn}:Ztt l old=true↔Zd2 l old:=by
 unfold Ztt
 rw [Bool.and_eq_true,Bool.and_eq_true,decide_eq_true_eq]
 have hF:Sk (okF old) 0 old=true↔(old.map Zn.who).Nodup:=Zew Zn.who (fun x y=>decide (y.who=x.who)) (fun x y=>by simp) old
 have hM:Sk (okM l old) 0 l=true↔(∀x∈l,¬(x.seq≤Yd old x.who∧X8 old x.who=true)∧(Yj l x.who).length≤4)∧(l.map Uh).Nodup:=by
  rw [←Zew Uh (fun x y=>isP x.who x.seq y) Z0d l,Nm,Nm]
  simp only [Nat.zero_add,okM,Bool.and_eq_true,Bool.not_eq_true',decide_eq_true_eq]
  constructor
  ·intro h
   refine ⟨fun x hx => ?_,fun j hj=>(h j hj).2.2⟩
   obtain ⟨j,hj,rfl⟩:=List.mem_iff_getElem.1 hx
   refine ⟨fun hc => ?_,(h j hj).2.1⟩
   have:=(h j hj).1
   simp [hc.1,hc.2] at this
  ·rintro ⟨h1,h2⟩ j hj
   obtain ⟨k1,k2⟩:=h1 l[j] (List.getElem_mem hj)
   refine ⟨?_,k2,h2 j hj⟩
   by_cases c1:l[j].seq≤Yd old l[j].who
   ·cases hh:X8 old l[j].who
    ·simp
    ·exact absurd ⟨c1,hh⟩ k1
   ·simp [c1]
 rw [hF,hM]
 constructor
 ·rintro ⟨⟨h1,h2⟩,h3,h4⟩
  refine ⟨h3,h2,fun x hx f hf hw => ?_,fun w => ?_,h4⟩
  ·have:=(h1 x hx).1
   have hh:X8 old x.who=true:=Sg.2 (List.mem_map.2 ⟨f,hf,hw⟩)
   have he:=Mc h3 hf
   rw [hw] at he
   have:¬x.seq≤Yd old x.who:=fun hc=>this ⟨hc,hh⟩
   omega
  ·by_cases hin:∃z∈l,z.who=w
   ·obtain ⟨z,hz,rfl⟩:=hin
    have:=(h1 z hz).2
    unfold Yj at this
    rw [W5] at this
    exact this
   ·have h0:Xo l w=[]:=by
     unfold Xo
     rw [List.map_eq_nil_iff,List.filter_eq_nil_iff]
     intro z hz
     have:¬z.who=w:=fun e=>hin ⟨z,hz,e⟩
     simp [this]
    rw [h0];simp
 ·intro h
  refine ⟨⟨fun x hx=>⟨fun hc => ?_,?_⟩,h.keys⟩,h.fl,h.whos⟩
  ·obtain ⟨f,hf,hw⟩:=List.mem_map.1 (Sg.1 hc.2)
   have:=h.above x hx f hf hw
   have he:=Mc h.fl hf
   rw [hw] at he
   have:=hc.1
   omega
  ·unfold Yj;rw [W5];exact h.cnt _
theorem Z0e (l:List Zm) (old:List Zn):Ztt l old=Ox l old:=by
 have h1:=@Ztv l old
 have h2:=@Cw l old
 cases h:Ox l old
 ·rw [Bool.eq_false_iff];intro hc
  rw [h2.2 (h1.1 hc)] at h;cases h
 ·exact h1.2 (h2.1 h)
theorem Zov (s:Zf) (hw:∀x∈s.ms.l.l,RP x.rep) (hl:s.ms.l.l.length≤9223372036854775807) (H:List Blk) :
  ∃o',Ya (EvF tab) H Zc4 [1,3] ⟨[(1,.ptr H.length 0),(3,I 0)],[],[.cells (s.c.map .g)]⟩ =
   some (if Z7 Ss s.ms.l.l=true then (.exit 0,⟨[(1,.ptr H.length 0),(3,I s.ms.l.l.length),(38,B false)],[],.cells (s.c.map .g)::o'⟩) else (.ret,⟨[(2,B false)],[],.cells (s.c.map .g)::o'⟩)):=by
 have hq:=Zt (E:=EvF tab) (h:=H) (c:=Zc4) (lv:=[1,3]) (l:=s.ms.l.l) (β:=Unit) (γ:=Unit) (fun _ _=>True) (fun _ x _=>if Ss x=true then .inl () else .inr ())
  (fun k _ o=>⟨[(1,.ptr H.length 0),(3,I k)],[],.cells (s.c.map .g)::o⟩)
  (fun _ o=>(.exit 0,⟨[(1,.ptr H.length 0),(3,I s.ms.l.l.length),(38,B false)],[],.cells (s.c.map .g)::o⟩))
  (fun _ o=>(.ret,⟨[(2,B false)],[],.cells (s.c.map .g)::o⟩)) (by simp) (by simp) (fun k x _ o hk hx hy _ => ?_) (fun _ o _=>by delta Zc4;obtain ⟨⟨srev,Y5,Zy,Z3⟩,⟨Y7,ll⟩,⟨ml,mo⟩,clock⟩:=s;simp -implicitDefEqProofs [Zf.c]) () [] trivial
 ·obtain ⟨o',hq⟩:=hq
  refine ⟨o',?_⟩
  rw [J2] at hq
  simp only [Int.ofNat_zero,Int.cast_ofNat_Int] at hq
  rw [hq]
  cases Z7 Ss s.ms.l.l <;> rfl
 ·have e2:=Zh hk hl
  have m1:=fun H=>Zev x.rep (hw x (List.mem_of_getElem? hx)) (H:=H) (v1 := .g (KVs.g x.rep.kvs)) (v2 := .g (Evs.g x.rep.events)) (Rp.of x.rep.kvs) (Rp.of x.rep.events)
  have hO:Ss x=(Sj x.rep&&(decide (x.rep.code=0)&&(decide (x.rep.who=x.who)&&decide (x.rep.seq=x.seq)))):=rfl
  generalize Ss x=b at hO ⊢
  generalize Sj x.rep=b1 at m1 hO
  delta Zc4
  obtain ⟨⟨srev,Y5,Zy,Z3⟩,⟨Y7,ll⟩,⟨ml,mo⟩,clock⟩:=s
  simp only at hk hx hy e2 ⊢
  cases ml with
  | nil=>simp at hk
  | of l =>
  simp only [Sl.l_of] at hk hx hy e2 ⊢
  obtain ⟨xw,xs,r1,r2,r3,r4,r5,r6,r7,r8,r9⟩:=x
  simp only [rc,Zf.c,List.map_cons,List.map_nil] at m1 hO ⊢
  cases b1
  ·simp only [Bool.false_and] at hO
   subst hO
   refine ⟨o++[.rows 6 1 [],.rows 8 1 [],.cells ((Zj.c ⟨r1,r2,r3,r4,r5,r6,r7,r8,r9⟩).map .g)],?_⟩
   simp -implicitDefEqProofs [m1,hk,hx,hy,e2,Zm.c,Zj.c,List.append_assoc]
  ·by_cases c1:r1=0
   ·subst c1
    by_cases c2:r2=xw
    ·subst c2
     by_cases c3:r3=xs
     ·subst c3
      simp only [decide_true,Bool.and_self] at hO
      subst hO
      simp only [if_true]
      refine ⟨trivial,o++[.rows 6 1 [],.rows 8 1 [],.cells ((Zj.c ⟨0,r2,r3,r4,r5,r6,r7,r8,r9⟩).map .g)],?_⟩
      simp -implicitDefEqProofs [m1,hk,hx,hy,e2,Zm.c,Zj.c,List.append_assoc]
     ·simp only [c3,decide_true,decide_false,Bool.and_self,Bool.and_false] at hO
      subst hO
      refine ⟨o++[.rows 6 1 [],.rows 8 1 [],.cells ((Zj.c ⟨0,r2,r3,r4,r5,r6,r7,r8,r9⟩).map .g)],?_⟩
      simp -implicitDefEqProofs [m1,hk,hx,hy,e2,c3,Zm.c,Zj.c,List.append_assoc]
    ·simp only [c2,decide_true,decide_false,Bool.and_self,Bool.and_false,Bool.false_and] at hO
     subst hO
     refine ⟨o++[.rows 6 1 [],.rows 8 1 [],.cells ((Zj.c ⟨0,r2,r3,r4,r5,r6,r7,r8,r9⟩).map .g)],?_⟩
     simp -implicitDefEqProofs [m1,hk,hx,hy,e2,c2,Zm.c,Zj.c,List.append_assoc]
   ·simp only [c1,decide_false,Bool.and_false,Bool.false_and] at hO
    subst hO
    refine ⟨o++[.rows 6 1 [],.rows 8 1 [],.cells ((Zj.c ⟨r1,r2,r3,r4,r5,r6,r7,r8,r9⟩).map .g)],?_⟩
    simp -implicitDefEqProofs [m1,hk,hx,hy,e2,c1,Zm.c,Zj.c,List.append_assoc]
theorem Zh5 (s:Zf) (L:Sl KV) (hL:L.l.length≤1000000) (hl:s.ls.l.l.length≤9223372036854775807) (o:List Blk) (H:List Blk) :
  Ya (EvF tab) H Zc5 [1,5,6] ⟨[(1,.ptr H.length 0),(5,.g (KVs.g L)),(6,I 0)],[],.cells (s.c.map .g)::o⟩ =
   some (if Z7 (R4 s.ls.l.l) L.l=true then (.exit 2,⟨[(1,.ptr H.length 0),(5,.g (KVs.g L)),(6,I L.l.length),(86,B false)],[],.cells (s.c.map .g)::o⟩) else (.ret,⟨[(2,B false)],[],.cells (s.c.map .g)::o⟩)):=by
 have hw:=Y4 (E:=EvF tab) (h:=H) (c:=Zc5) (lv:=[1,5,6]) (l:=L.l) (R4 s.ls.l.l) (fun k=>⟨[(1,.ptr H.length 0),(5,.g (KVs.g L)),(6,I k)],[],.cells (s.c.map .g)::o⟩)
  (.exit 2,⟨[(1,.ptr H.length 0),(5,.g (KVs.g L)),(6,I L.l.length),(86,B false)],[],.cells (s.c.map .g)::o⟩) (.ret,⟨[(2,B false)],[],.cells (s.c.map .g)::o⟩) (by simp) (by simp) (fun k x hk hx hy => ?_) (by delta Zc5;simp -implicitDefEqProofs)
 ·simpa only [Int.ofNat_zero,Int.cast_ofNat_Int] using hw
 ·have e2:=Zh hk (by omega)
  have m1:=fun H=>Zkp s.ls x.lease hl H
  unfold R4
  generalize V1 x.lease s.ls.l.l=b at m1 ⊢
  delta Zc5
  obtain ⟨⟨srev,Y5,Zy,Z3⟩,⟨Y7,ll⟩,⟨ml,mo⟩,clock⟩:=s
  simp only [A,Zk.c,Zf.c,List.map_cons,List.map_nil] at m1 ⊢
  cases L with
  | nil=>simp at hk
  | of l =>
  simp only [Sl.l_of] at hk hx hy e2 ⊢
  obtain ⟨y1,y2,y3,y4,y5,y6⟩:=x
  by_cases c1:y6=0
  ·subst c1;simp -implicitDefEqProofs [m1,hk,hx,hy,e2,KV.c]
  ·cases b <;> simp -implicitDefEqProofs [m1,hk,hx,hy,e2,KV.c,c1]
theorem Ztw (s:Zf) (w:s.wf) (hm:s.ms.l.l.length+s.ms.old.l.length≤5000) (H:List Blk):EvF tab 11 [A s.c] H=some ⟨B (Kt s),[],[]⟩:=by
 obtain ⟨w1,w2,w3,w4⟩:=w
 have m1:=fun H=>Zzr s.st w1 H
 have m2:=fun H=>Zr9 s.ls w2 H
 have m3:=fun H=>Ztu s.ms hm H
 rw [Z0e] at m3
 obtain ⟨o,hq⟩:=Zov s (fun x hx=>rp (w3.1.1 x hx).2.2) (by omega) H
 by_cases hok:T8 s.st=true
 case neg =>
  rw [Bool.not_eq_true] at hok
  refine Zb t11 (by simp) ?_
  unfold Kt
  rw [hok] at m1 ⊢
  simp only [A,Ze.c,Zf.c,List.map_cons,List.map_nil] at m1 ⊢
  simp -implicitDefEqProofs [m1]
 have hO:=U0.1 hok
 have hs:Z8 s.st:=by have:=hO.bl;have:=hO.ll;unfold Z8;omega
 have m4:=fun H=>Kh s.st hs H
 have hR:(X0 s.st.base s.st.log.l s.st.rev).l=Y0 s.st:=U9 ..
 have m5:=fun o=>Zh5 s (X0 s.st.base s.st.log.l s.st.rev) (by rw [hR];have:=hO.nowLen;omega) w2.2.2 o H
 rw [hR] at m5
 refine Zb t11 (by simp) ?_
 unfold Kt Zax
 rw [hok] at m1 ⊢
 generalize Ri s.ls=b2 at m2 ⊢
 generalize Ox s.ms.l.l s.ms.old.l=b3 at m3 ⊢
 generalize Z7 Ss s.ms.l.l=b4 at hq ⊢
 generalize Z7 (R4 s.ls.l.l) (Y0 s.st)=b5 at m5 ⊢
 generalize (Y0 s.st).length=n5 at m5
 generalize s.ms.l.l.length=n at hq hm
 obtain ⟨⟨srev,Y5,Zy,Z3⟩,⟨Y7,ll⟩,⟨ml,mo⟩,clock⟩:=s
 simp only [A,Ze.c,Zk.c,Zi.c,Zf.c,List.map_cons,List.map_nil] at m1 m2 m3 m4 m5 hq ⊢
 generalize KVs.g (X0 Zy Z3.l srev)=G0 at m4 m5
 generalize KVs.g Zy=G1 at m1 m4 m5 hq ⊢
 generalize Evs.g Z3=G2 at m1 m4 m5 hq ⊢
 generalize LeaseL.g ll=G3 at m2 m5 hq ⊢
 generalize MemoL.g ml=G4 at m3 m5 hq ⊢
 generalize Floors.g mo=G5 at m3 m5 hq ⊢
 clear hO hs hok
 cases b2
 ·simp -implicitDefEqProofs [m1,m2]
 cases b3
 ·simp -implicitDefEqProofs [m1,m2,m3]
 by_cases c1:0≤clock
 ·by_cases c2:clock≤1099511627775
  ·cases b4
   ·simp only [Bool.false_eq_true,if_false] at hq
    simp -implicitDefEqProofs [m1,m2,m3,hq,c1,c2,show ¬clock<0 by omega,show ¬1099511627775<clock by omega]
   ·simp only [if_true] at hq
    cases b5
    ·simp only [Bool.false_eq_true,if_false] at m5
     simp -implicitDefEqProofs [m1,m2,m3,m4,m5,hq,c1,c2,show ¬clock<0 by omega,show ¬1099511627775<clock by omega]
    ·simp only [if_true] at m5
     simp -implicitDefEqProofs [m1,m2,m3,m4,m5,hq,c1,c2,show ¬clock<0 by omega,show ¬1099511627775<clock by omega]
  ·simp -implicitDefEqProofs [m1,m2,m3,c1,c2,show ¬clock<0 by omega,show 1099511627775<clock by omega]
 ·simp -implicitDefEqProofs [m1,m2,m3,c1,show clock<0 by omega]
structure Dv (s:Zf):Prop where
 st:SOk s.st
 ls:Ri s.ls=true
theorem J3 {k:Bs} (h:Ux k=true):k.length≤40:=by
 unfold Ux at h
 simp only [Bool.and_eq_true,decide_eq_true_eq] at h
 exact h.1.2
theorem Ztx {x:KV} (h:Xe x=true):Ux x.key=true:=by
 unfold Xe at h
 rw [Bool.and_eq_true] at h
 exact h.1
theorem Dv.fit {s:Zf} (h:Dv s):Fit s:=by
 have h1:=h.st
 have h2:=(Ws.1 h.ls).2.1
 refine ⟨?_,⟨?_,h1.revM⟩,fun x hx => ?_,by omega⟩
 ·have:=h1.bl;have:=h1.ll;omega
 ·have:=h1.low0;have:=h1.lowr;omega
 ·have:=J3 (Ztx (h1.nowGood.one x hx).1);omega
theorem E9 {s:Ze} (h:SOk s) (d:List Mut):SOk (Wg s d):=by
 unfold Wg;split
 ·exact Zk6 h _
 ·exact h
theorem Dv.sweep {s:Zf} (h:Dv s) (id:Int):Dv (Vi s id):=by
 unfold Vi
 split
 ·exact ⟨Nk (E9 h.st _) _,Zzg h.ls id⟩
 ·exact h
theorem Ku (s:Zf) (id:Int):(Vi s id).clock=s.clock∧(Vi s id).ms=s.ms:=by
 unfold Vi;split <;> exact ⟨rfl,rfl⟩
def Nn (s:Zf) (ids:List Int):Zf:=ids.foldl Vi s
def Zaz (s:Zf) (by_:Int):Prop:=0≤by_∧by_≤1000∧s.clock≤1099511627775 - by_
instance (s:Zf) (by_:Int):Decidable (Zaz s by_):=by unfold Zaz;infer_instance
def Zow (s:Zf) (by_:Int):Zf:=⟨s.st,s.ls,s.ms,s.clock+by_⟩
def Zk9 (s:Zf) (by_:Int):Zf:=if Zaz s by_ then Nn (Zow s by_) (M8 s.ls.l.l (s.clock+by_)) else s
theorem Zox (s:Zf) (h:Dv s) (ids:List Int) (hl:ids.length≤9223372036854775807) (b1 b2 b3 b4 b5 b6:Blk) (H:List Blk) :
  Ya (EvF tab) H Zc6 [2,4,30,31,32] ⟨[(2,.ptr H.length 0),(4,.ptr (H.length+6) 0),(30,.g (Ints.g (Zz ids))),(31,I ids.length),(32,I 0)],[],[.cells (s.c.map .g),b1,b2,b3,b4,b5,b6]⟩ =
   some (.exit 0,⟨[(2,.ptr H.length 0),(4,.ptr (H.length+6) 0),(30,.g (Ints.g (Zz ids))),(31,I ids.length),(32,I ids.length),(33,B false)],[],[.cells ((Nn s ids).c.map .g),b1,b2,b3,b4,b5,b6]⟩):=by
 have hw:=Cj (E:=EvF tab) (h:=H) (c:=Zc6) (lv:=[2,4,30,31,32]) (l:=ids) (β:=Zf) (fun _ b=>Dv b) Vi
  (fun k b=>⟨[(2,.ptr H.length 0),(4,.ptr (H.length+6) 0),(30,.g (Ints.g (Zz ids))),(31,I ids.length),(32,I k)],[],[.cells (b.c.map .g),b1,b2,b3,b4,b5,b6]⟩)
  (fun b=>(.exit 0,⟨[(2,.ptr H.length 0),(4,.ptr (H.length+6) 0),(30,.g (Ints.g (Zz ids))),(31,I ids.length),(32,I ids.length),(33,B false)],[],[.cells (b.c.map .g),b1,b2,b3,b4,b5,b6]⟩)) (by simp) (fun k x b hk hx hy hi => ?_) (fun b _=>by delta Zc6;simp -implicitDefEqProofs) s h
 ·simpa only [Int.ofNat_zero,Int.cast_ofNat_Int,Nn] using hw
 ·refine ⟨hi.sweep x,?_⟩
  have e2:=Zh hk hl
  have m1:=fun H=>Zeq b x hi.fit H
  generalize Vi b x=c at m1 ⊢
  generalize Ro b x=e at m1
  delta Zc6
  obtain ⟨⟨srev,Y5,Zy,Z3⟩,⟨Y7,ll⟩,⟨ml,mo⟩,clock⟩:=b
  obtain ⟨⟨srev',slow',sbase',slog'⟩,⟨lnext',ll'⟩,⟨ml',mo'⟩,clock'⟩:=c
  simp only [A,Zf.c,List.map_cons,List.map_nil] at m1 ⊢
  have hs:Zz ids = .of ids:=by unfold Zz;rw [if_neg (by intro e;subst e;simp at hk)]
  rw [hs]
  simp -implicitDefEqProofs [m1,hk,hx,hy,e2,Ints.c]
theorem Zty (l:List Zu) (n:Int):(M8 l n).length≤l.length:=by unfold M8;rw [List.length_map];exact List.length_filter_le ..
theorem Zla (s:Zf) (by_:Int) (h:Dv s) (hc:0≤s.clock∧s.clock≤1099511627775) (hi:I64 by_) (H:List Blk):EvF tab 13 [A s.c,I by_] H=some ⟨A (Zk9 s by_).c,[],[]⟩:=by
 have h8:=(Ws.1 h.ls).2.1
 have hd:=Zty s.ls.l.l (s.clock+by_)
 have m1:=fun H=>Z28 s.ls (s.clock+by_) (by omega) H
 have hw:=fun b1 b2 b3 b4 b5 b6=>Zox (Zow s by_) ⟨h.st,h.ls⟩ (M8 s.ls.l.l (s.clock+by_)) (by omega) b1 b2 b3 b4 b5 b6 H
 refine Zb t13 (by simp) ?_
 have hv:∀h st,X4 h st (.g (Ints.g (Zz (M8 s.ls.l.l (s.clock+by_)))))=some (M8 s.ls.l.l (s.clock+by_)).length:=fun h st=>by rw [Xa,Xz]
 unfold Zk9
 have e:(Nn (Zow s by_) (M8 s.ls.l.l (s.clock+by_)))=(Nn (Zow s by_) (M8 s.ls.l.l (s.clock+by_))):=rfl
 generalize Nn (Zow s by_) (M8 s.ls.l.l (s.clock+by_))=R at hw ⊢
 generalize (M8 s.ls.l.l (s.clock+by_)).length=n at hw hv
 generalize Ints.g (Zz (M8 s.ls.l.l (s.clock+by_)))=GI at m1 hw hv
 have hi1:=hi.1
 have hi2:=hi.2
 obtain ⟨⟨srev,Y5,Zy,Z3⟩,⟨Y7,ll⟩,⟨ml,mo⟩,clock⟩:=s
 obtain ⟨⟨Tr,Ydp,Z6a,Yc8⟩,⟨Ydh,rl⟩,⟨rml,rmo⟩,Yc9⟩:=R
 simp only [A,Zf.c,Zk.c,Zow,Zaz,List.map_cons,List.map_nil] at m1 hw hc hv ⊢
 generalize hG1:KVs.g Zy=G1 at hw ⊢
 generalize hG2:Evs.g Z3=G2 at hw ⊢
 generalize hG3:LeaseL.g ll=G3 at m1 hw ⊢
 generalize hG4:MemoL.g ml=G4 at hw ⊢
 generalize hG5:Floors.g mo=G5 at hw ⊢
 generalize hG6:KVs.g Z6a=G6 at hw ⊢
 generalize hG7:Evs.g Yc8=G7 at hw ⊢
 generalize hG8:LeaseL.g rl=G8 at hw ⊢
 generalize hG9:MemoL.g rml=G9 at hw ⊢
 generalize hG10:Floors.g rmo=G10 at hw ⊢
 by_cases c1:0≤by_
 ·by_cases c2:by_≤1000
  ·have w1:IntKind.i64.wrap (1099511627775 - by_)=1099511627775 - by_:=wrap_i64 (by omega) (by omega)
   by_cases c3:clock≤1099511627775 - by_
   ·have w2:IntKind.i64.wrap (clock+by_)=clock+by_:=wrap_i64 (by omega) (by omega)
    simp -implicitDefEqProofs [m1,hw,hv,w1,w2,c1,c2,c3,show ¬by_<0 by omega,show ¬1000<by_ by omega,show ¬1099511627775 - by_<clock by omega,Zf.c,hG6,hG7,hG8,hG9,hG10]
   ·simp -implicitDefEqProofs [w1,c1,c2,c3,show ¬by_<0 by omega,show ¬1000<by_ by omega,show 1099511627775 - by_<clock by omega,Zf.c,hG1,hG2,hG3,hG4,hG5]
  ·simp -implicitDefEqProofs [c1,c2,show ¬by_<0 by omega,show 1000<by_ by omega,Zf.c,hG1,hG2,hG3,hG4,hG5]
 ·simp -implicitDefEqProofs [c1,show by_<0 by omega,Zf.c,hG1,hG2,hG3,hG4,hG5]
def O5 (p k:Bs):Bool:=decide (p.length≤k.length)&&(k.take p.length==p)
def inP (p:Bs) (rev:Int) (e:Ev):Bool:=decide (rev≤e.rev)&&O5 p e.kv.key
def ofP (l:List Ev) (p:Bs) (rev:Int):List Ev:=l.filter (inP p rev)
def Yr (l:List Ev) (i:Nat):Int:=match l[i]? with | some e=>e.rev | none=>0
def Kv (all:List Ev) (most srev:Int):List Ev×Int×Int :=
 if (all.length:Int)≤most then (all,srev+1,0) else
 if Yr all most.toNat=Yr all 0 then ([],0,4) else
  (all.takeWhile (fun e=>decide (e.rev<Yr all most.toNat)),Yr all most.toNat,0)
def Dw (s:Ze) (rev most:Int):Int :=
 if most<1∨30<most then 1 else if rev<1∨s.rev+1<rev then 8 else if rev≤s.low then 9 else 0
def Vw (s:Ze) (p:Bs) (rev most:Int):List Ev×Int×Int :=
 if Dw s rev most=0 then Kv (ofP s.log.l p rev) most s.rev else ([],0,Dw s rev most)
def J4 (l:List Ev):Prop:=l.Pairwise (fun a b=>a.rev≤b.rev)
theorem Bg {srev:Int}:∀{log:List Ev} {l:List KV} {last:Int},Wa srev l last log=true→J4 log
 | [],_,_,_=>List.Pairwise.nil
 | e::log,l,last,h=>by
  rw [Yz] at h
  obtain ⟨h1,h2,h3,h4,h5⟩:=h
  exact List.pairwise_cons.2 ⟨fun a ha=>(Ni h5 a ha).1,Bg h5⟩
theorem SOk.srt {s:Ze} (h:SOk s):J4 s.log.l:=Bg h.log
theorem Za0 {l:List Ev} (h:J4 l) (p:Bs) (rev:Int):J4 (ofP l p rev):=List.Pairwise.sublist List.filter_sublist h
theorem Zlb (l:List Ev) (p:Bs) (rev:Int):(ofP l p rev).length≤l.length:=List.length_filter_le ..
theorem Za1 {l:List Ev} {p:Bs} {rev:Int} {e:Ev}:e∈ofP l p rev↔e∈l∧rev≤e.rev∧O5 p e.kv.key=true:=by
 unfold ofP inP;rw [List.mem_filter];simp
theorem V4 {a b:List Ev} {i:Nat} (h:i<a.length):Yr (a++b) i=Yr a i:=by unfold Yr;rw [List.getElem?_append_left h]
theorem Vn {a b:List Ev} {i:Nat} (h:a.length≤i):Yr (a++b) i=Yr b (i - a.length):=by unfold Yr;rw [List.getElem?_append_right h]
theorem U1 {a:List Ev} {i:Nat} (h:i<a.length):∃e∈a,Yr a i=e.rev:=⟨a[i],List.getElem_mem h,by unfold Yr;rw [List.getElem?_eq_getElem h]⟩
theorem Zex {a:List Ev} (hs:J4 a) {i j:Nat} (hij:i≤j) (h:j<a.length):Yr a i≤Yr a j:=by
 unfold Yr
 rw [List.getElem?_eq_getElem h,List.getElem?_eq_getElem (show i<a.length by omega)]
 rcases Nat.lt_or_eq_of_le hij with h2 | h2
 ·exact List.pairwise_iff_getElem.1 hs i j (by omega) h h2
 ·subst h2;exact Int.le_refl _
theorem Bh (r:Int):∀(l:List Ev) (k:Nat),J4 l→(∀e∈l,r≤e.rev) →
  ∃g d,l=g++d∧(∀e∈g,e.rev=r)∧(∀e∈d,r<e.rev)∧(if Xh (fun e=>decide (e.rev ≠ r)) k l<0 then ((k+l.length:Nat):Int) else Xh (fun e=>decide (e.rev ≠ r)) k l)=((k+g.length:Nat):Int)
 | [],k,_,_=>⟨[],[],rfl,by simp,by simp,by simp [Xh]⟩
 | e::l,k,hs,hr=>by
  obtain ⟨h1,h2⟩:=List.pairwise_cons.1 hs
  by_cases he:e.rev=r
  ·obtain ⟨g,d,q1,q2,q3,q4⟩:=Bh r l (k+1) h2 (fun x hx=>hr x (by simp [hx]))
   refine ⟨e::g,d,by rw [q1];rfl,?_,q3,?_⟩
   ·intro x hx
    rcases List.mem_cons.1 hx with rfl | hx
    ·exact he
    ·exact q2 x hx
   ·simp only [Xh,he,ne_eq,not_true,decide_false,Bool.false_eq_true,if_false,List.length_cons]
    simp only [ne_eq] at q4
    rw [show k+(l.length+1)=k+1+l.length by omega,show k+(g.length+1)=k+1+g.length by omega]
    exact q4
  ·refine ⟨[],e::l,rfl,by simp,?_,?_⟩
   ·have h0:r<e.rev:=by have:=hr e (by simp);omega
    intro x hx
    rcases List.mem_cons.1 hx with rfl | hx
    ·exact h0
    ·have:=h1 x hx;omega
   ·have:¬((k:Int)<0):=by omega
    simp [Xh,he,this]
def Z3h (l:List Ev):Int:=if Xh (fun e=>decide (e.rev ≠ Yr l 0)) 0 l<0 then (l.length:Int) else Xh (fun e=>decide (e.rev ≠ Yr l 0)) 0 l
theorem Zoy {l:List Ev} (hne:l ≠ []) (hs:J4 l):∃g d,l=g++d∧g ≠ []∧(∀e∈g,e.rev=Yr l 0)∧(∀e∈d,Yr l 0<e.rev)∧Z3h l=(g.length:Int):=by
 cases l with
 | nil=>exact absurd rfl hne
 | cons e l =>
  have h0:Yr (e::l) 0=e.rev:=rfl
  obtain ⟨h1,h2⟩:=List.pairwise_cons.1 hs
  obtain ⟨g,d,q1,q2,q3,q4⟩:=Bh (Yr (e::l) 0) (e::l) 0 hs (fun x hx=>by
   rw [h0]
   rcases List.mem_cons.1 hx with rfl | hx
   ·exact Int.le_refl _
   ·exact h1 x hx)
  refine ⟨g,d,q1,?_,q2,q3,?_⟩
  ·intro hg
   subst hg
   have:=q3 e (by rw [List.nil_append] at q1;rw [←q1];simp)
   rw [h0] at this;omega
  ·unfold Z3h
   simpa using q4
theorem Zh6 {α:Type} {p:α→Bool}:∀{a b:List α},(∀x∈a,p x=true)→(∀x∈b.head?,p x=false)→(a++b).takeWhile p=a
 | [],[],_,_=>rfl
 | [],x::b,_,h=>by simp [h x (by simp)]
 | x::a,b,h,h2=>by
  rw [List.cons_append,List.takeWhile_cons,h x (by simp),if_pos rfl,Zh6 (fun y hy=>h y (by simp [hy])) h2]
theorem Da {all:List Ev} {most srev:Int} (h:(all.length:Int)≤most):Kv all most srev=(all,srev+1,0):=by unfold Kv;rw [if_pos h]
theorem Ztz {out g d:List Ev} {most srev r:Int} (h1:1≤most) (ho:(out.length:Int)≤most) (hf:most<((out.length+g.length:Nat):Int)) (hr:∀e∈out,e.rev<r) (hg:∀e∈g,e.rev=r) (hd:∀e∈d,r<e.rev) :
  Kv (out++(g++d)) most srev=if out=[] then ([],0,4) else (out,r,0):=by
 have hn:¬((out++(g++d)).length:Int)≤most:=by simp only [List.length_append];omega
 have e1:Yr (out++(g++d)) most.toNat=r:=by
  rw [Vn (by omega),V4 (by omega)]
  obtain ⟨e,he,h⟩:=U1 (a:=g) (i:=most.toNat - out.length) (by omega)
  rw [h];exact hg e he
 unfold Kv
 rw [if_neg hn,e1]
 have hgl:0<g.length:=by omega
 by_cases hout:out=[]
 ·subst hout
  have e2:Yr ([]++(g++d)) 0=r:=by
   rw [List.nil_append,V4 hgl]
   obtain ⟨e,he,h⟩:=U1 hgl
   rw [h];exact hg e he
  rw [e2,if_pos rfl,if_pos rfl]
 ·have hol:0<out.length:=List.length_pos_iff.2 hout
  have e2:Yr (out++(g++d)) 0<r:=by
   rw [V4 hol]
   obtain ⟨e,he,h⟩:=U1 hol
   rw [h];exact hr e he
  rw [if_neg (by omega),if_neg hout]
  have e3:(out++(g++d)).takeWhile (fun e=>decide (e.rev<r))=out:=Zh6 (fun x hx=>by simpa using hr x hx) (fun x hx=>by
   cases g with
   | nil=>simp at hgl
   | cons y g =>
    simp at hx
    subst hx
    have:=hg y (by simp)
    simp;omega)
  rw [e3]
theorem Zh7 {α:Type} {p:α→Bool}:∀{l:List α} {x:α},x∈l.takeWhile p→p x=true
 | [],_,h=>by simp at h
 | y::l,x,h=>by
  rw [List.takeWhile_cons] at h
  split at h
  ·rename_i hy
   rcases List.mem_cons.1 h with rfl | h
   ·exact hy
   ·exact Zh7 h
  ·simp at h
def Zt0 (l:List Ev) (most:Int):Bool:=(List.range l.length).any fun i=>decide (i+most.toNat<l.length)&&decide (Yr l i=Yr l (i+most.toNat))
theorem Db {l:List Ev} {most:Int}:Zt0 l most=true↔∃i,i+most.toNat<l.length∧Yr l i=Yr l (i+most.toNat):=by
 unfold Zt0
 rw [List.any_eq_true]
 simp only [List.mem_range,Bool.and_eq_true,decide_eq_true_eq]
 exact ⟨fun ⟨i,h1,h2,h3⟩=>⟨i,h2,h3⟩,fun ⟨i,h2,h3⟩=>⟨i,by omega,h2,h3⟩⟩
theorem Zoz {l:List Ev} (hs:J4 l) (p:Bs) (rev nx:Int) (h:rev≤nx):ofP l p rev=(ofP l p rev).takeWhile (fun e=>decide (e.rev<nx))++ofP l p nx:=by
 have key:∀{l:List Ev},J4 l→l=l.takeWhile (fun e=>decide (e.rev<nx))++l.filter (fun e=>decide (nx≤e.rev)):=by
  intro l
  induction l with
  | nil=>intro _;rfl
  | cons e l ih =>
   intro hs
   obtain ⟨h1,h2⟩:=List.pairwise_cons.1 hs
   by_cases he:e.rev<nx
   ·rw [List.takeWhile_cons,if_pos (by simpa using he),List.filter_cons,if_neg (by simp;omega),List.cons_append,←ih h2]
   ·rw [List.takeWhile_cons,if_neg (by simpa using he),List.nil_append]
    symm
    rw [List.filter_eq_self]
    intro x hx
    rcases List.mem_cons.1 hx with rfl | hx
    ·simp;omega
    ·have:=h1 x hx;simp;omega
 have h1:=key (Za0 hs p rev)
 have h2:(ofP l p rev).filter (fun e=>decide (nx≤e.rev))=ofP l p nx:=by
  unfold ofP
  rw [List.filter_filter]
  apply List.filter_congr
  intro x _
  unfold inP
  by_cases h3:nx≤x.rev
  ·simp [h3,show rev≤x.rev by omega]
  ·simp [h3]
 rw [h2] at h1
 exact h1
structure Z1k (s:Ze) (p:Bs) (rev most:Int) (r:List Ev×Int×Int):Prop where
 lo:rev≤r.2.1 - 1∨(r.2.1=s.rev+1∧rev≤r.2.1)
 hi:r.2.1≤s.rev+1
 len:(r.1.length:Int)≤most
 pre:r.1=(ofP s.log.l p rev).takeWhile (fun e=>decide (e.rev<r.2.1))
 split:ofP s.log.l p rev=r.1++ofP s.log.l p r.2.1
 ne:r.2.1≤s.rev→r.1 ≠ []
 big:Zt0 (ofP s.log.l p rev) most=Zt0 (ofP s.log.l p r.2.1) most
theorem Zlc {l:List Ev} {most:Int} (h:(l.length:Int)≤most):Zt0 l most=false:=by
 rw [Bool.eq_false_iff];intro hb
 obtain ⟨i,h1,h2⟩:=Db.1 hb
 omega
theorem Zld {s:Ze} (h:SOk s) (p:Bs):ofP s.log.l p (s.rev+1)=[]:=by
 unfold ofP
 rw [List.filter_eq_nil_iff]
 intro e he
 have:=(h.all e he).2
 simp [inP];omega
theorem Z3i {s:Ze} (h:SOk s) {p:Bs} {rev most:Int} (h1:1≤most) (hr:rev≤s.rev+1) (he:(Kv (ofP s.log.l p rev) most s.rev).2.2=0):Z1k s p rev most (Kv (ofP s.log.l p rev) most s.rev):=by
 have hs:=Za0 h.srt p rev
 have hin:∀e∈ofP s.log.l p rev,rev≤e.rev∧e.rev≤s.rev:=fun e he=>⟨(Za1.1 he).2.1,(h.all e (Za1.1 he).1).2⟩
 by_cases c1:((ofP s.log.l p rev).length:Int)≤most
 ·rw [Da c1]
  refine ⟨.inr ⟨rfl,hr⟩,Int.le_refl _,c1,?_,?_,fun h=>by simp only at h;omega,?_⟩
  ·have:=Zh6 (p:=fun e=>decide (e.rev<s.rev+1)) (a:=ofP s.log.l p rev) (b:=[]) (fun x hx=>by have:=(hin x hx).2;simp;omega) (fun x hx=>by simp at hx)
   rw [List.append_nil] at this
   exact this.symm
  ·simp [Zld h]
  ·rw [Zlc c1,Zld h,Zlc (by simp;omega)]
 ·unfold Kv at he ⊢
  rw [if_neg c1] at he ⊢
  by_cases c2:Yr (ofP s.log.l p rev) most.toNat=Yr (ofP s.log.l p rev) 0
  ·rw [if_pos c2] at he;simp at he
  ·rw [if_neg c2]
   have hm:most.toNat<(ofP s.log.l p rev).length:=by omega
   obtain ⟨e,hme,hee⟩:=U1 hm
   have hle:=Zex hs (Nat.zero_le most.toNat) hm
   obtain ⟨e0,hme0,hee0⟩:=U1 (show 0<(ofP s.log.l p rev).length by omega)
   obtain ⟨nx,hnx⟩:∃nx,Yr (ofP s.log.l p rev) most.toNat=nx:=⟨_,rfl⟩
   have hb:=hin e hme
   have hb0:=hin e0 hme0
   rw [hnx] at c2 hee hle ⊢
   have hsp:=Zoz h.srt p rev nx (by omega)
   have hlt:((ofP s.log.l p rev).takeWhile (fun e=>decide (e.rev<nx))).length≤most.toNat:=by
    obtain ⟨a,ha⟩:∃a,(ofP s.log.l p rev).takeWhile (fun e=>decide (e.rev<nx))=a:=⟨_,rfl⟩
    have hal:∀e∈a,e.rev<nx:=fun e he=>by rw [←ha] at he;simpa using Zh7 he
    rw [ha] at hsp ⊢
    rcases Nat.lt_or_ge most.toNat a.length with hc | hc
    ·exfalso
     obtain ⟨e2,hm2,he2⟩:=U1 hc
     have h5:Yr (ofP s.log.l p rev) most.toNat=Yr a most.toNat:=by rw [hsp,V4 hc]
     have h6:=hal e2 hm2
     omega
    ·exact hc
   refine ⟨.inl (by simp only;omega),by simp only;omega,by simp only;omega,rfl,hsp,fun _ => ?_,?_⟩
   ·simp only
    cases hq:ofP s.log.l p rev with
    | nil=>rw [hq] at hm;simp at hm
    | cons x l =>
     rw [hq] at hee0 c2 hle
     have:x.rev<nx:=by
      have:Yr (x::l) 0=x.rev:=rfl
      omega
     rw [List.takeWhile_cons,if_pos (by simpa using this)]
     simp
   ·simp only
    obtain ⟨a,ha⟩:∃a,(ofP s.log.l p rev).takeWhile (fun e=>decide (e.rev<nx))=a:=⟨_,rfl⟩
    have hal:∀e∈a,e.rev<nx:=fun e he=>by rw [←ha] at he;simpa using Zh7 he
    rw [ha] at hsp hlt
    rw [Bool.eq_iff_iff,Db,Db]
    constructor
    ·rintro ⟨i,hi1,hi2⟩
     rcases Nat.lt_or_ge i a.length with hc | hc
     ·exfalso
      have h3:=Zex hs (show most.toNat≤i+most.toNat by omega) hi1
      rw [hnx] at h3
      have h4:Yr (ofP s.log.l p rev) i=Yr a i:=by rw [hsp,V4 hc]
      obtain ⟨e2,hm2,he2⟩:=U1 hc
      have:=hal e2 hm2
      omega
     ·refine ⟨i - a.length,?_,?_⟩
      ·rw [hsp] at hi1;simp only [List.length_append] at hi1;omega
      ·rw [hsp,Vn hc,Vn (by omega)] at hi2
       rw [hi2];congr 1;omega
    ·rintro ⟨i,hi1,hi2⟩
     refine ⟨i+a.length,by rw [hsp];simp only [List.length_append];omega,?_⟩
     rw [hsp,Vn (by omega),Vn (by omega)]
     rw [show i+a.length - a.length=i by omega,show i+a.length+most.toNat - a.length=i+most.toNat by omega]
     exact hi2
theorem Np {s:Ze} {rev most:Int}:Dw s rev most=0↔(1≤most∧most≤30)∧(1≤rev∧rev≤s.rev+1)∧s.low<rev:=by
 unfold Dw
 split
 ·exact ⟨fun h=>by omega,fun h=>by omega⟩
 ·split
  ·exact ⟨fun h=>by omega,fun h=>by omega⟩
  ·split
   ·exact ⟨fun h=>by omega,fun h=>by omega⟩
   ·exact ⟨fun _=>by omega,fun _=>rfl⟩
theorem Zo0 (k p:Bs) (H:List Blk):EvF tab 167 [T k,T p] H=some ⟨B (O5 p k),[],[]⟩:=by
 refine Zb Ybu (by simp) ?_
 unfold O5
 by_cases h:p.length≤k.length
 ·simp -implicitDefEqProofs [h,Xd,bnd,Y2]
 ·simp -implicitDefEqProofs [h]
theorem Dx (k p:Bs) (H:List Blk):EvF tab 202 [T k,T p] H=some ⟨B (O5 p k),[],[]⟩:=by
 refine Zb Ycn (by simp) ?_
 unfold O5
 by_cases h:p.length≤k.length
 ·simp -implicitDefEqProofs [h,Xd,bnd,Y2]
 ·simp -implicitDefEqProofs [h]
theorem Kw (k p:Bs) (H:List Blk):EvF tab 184 [T k,T p] H=some ⟨B (O5 p k),[],[]⟩:=by
 refine Zb Yb8 (by simp) ?_
 simp -implicitDefEqProofs [Dx]
theorem S0 {α:Type} (p:α→Bool):∀(l:List α) k r,Ym (fun _ (x:α) (r:List α)=>(if p x=true then .inl (r++[x]) else .inl r:List α⊕Nat)) k l r = .inl (r++l.filter p):=by
 intro l
 induction l with
 | nil=>intro k r;simp [Ym]
 | cons x l ih =>
  intro k r
  cases h:p x
  ·simp only [Ym,h,Bool.false_eq_true,if_false,List.filter_cons]
   rw [ih]
  ·simp only [Ym,h,if_true,List.filter_cons]
   rw [ih];simp
theorem Z54 (s:Sl Ev) (p:Bs) (rev:Int) (hl:s.l.length≤1000000) (H:List Blk):EvF tab 189 [.g (Evs.g s),T p,I rev] H=some ⟨.g (Evs.g (Zz (ofP s.l p rev))),[],[]⟩:=by
 refine Zb Ycd (by simp) ?_
 have hw:=Zt (E:=EvF tab) (h:=H) (c:=Zab) (lv:=[1,2,7,10,11,12]) (l:=s.l) (β:=List Ev) (γ:=Nat) (fun k r=>r.length≤k) (fun _ x r=>if inP p rev x=true then .inl (r++[x]) else .inl r)
  (fun k r o=>⟨[(1,T p),(2,I rev),(7,.ms (H.length+1) (r.length+1) 8 0 r.length),(10,.g (Evs.g s)),(11,I s.l.length),(12,I k)],[],.rows 8 1 [] :: .rows 8 (r.length+1) (r.map Ev.c)::o⟩)
  (fun r o=>(.exit 0,⟨[(1,T p),(2,I rev),(7,.ms (H.length+1) (r.length+1) 8 0 r.length),(10,.g (Evs.g s)),(11,I s.l.length),(12,I s.l.length),(13,B false)],[],.rows 8 1 [] :: .rows 8 (r.length+1) (r.map Ev.c)::o⟩))
  (fun _ o=>(.ret,⟨[],[],o⟩)) (by simp) (by simp) (fun k x r o hk hx hy hi => ?_) (fun r o _=>by delta Zab;simp -implicitDefEqProofs) [] [] (by simp)
 ·obtain ⟨o',hw⟩:=hw
  rw [S0] at hw
  simp only [Wj,List.nil_append,List.map_nil,List.length_nil,Int.ofNat_zero,Int.cast_ofNat_Int,Nat.zero_add] at hw
  rw [show s.l.filter (inP p rev)=ofP s.l p rev from rfl] at hw
  obtain ⟨r,hr⟩:∃r,ofP s.l p rev=r:=⟨_,rfl⟩
  rw [hr] at hw ⊢
  cases r with
  | nil=>simp -implicitDefEqProofs [hw,Zz]
  | cons y r =>
   have e1:List.take r.length (List.map Ev.c r)=List.map Ev.c r:=List.take_of_length_le (by simp)
   simp -implicitDefEqProofs [hw,Zz,e1]
 ·have e2:=Zh hk (by omega)
  have h1:=fun H=>Kw x.kv.key p H
  delta Zab
  cases s with
  | nil=>simp at hk
  | of l =>
   simp only [Sl.l_of] at hk hy hl
   have e3:List.take r.length (List.map Ev.c r)=List.map Ev.c r:=List.take_of_length_le (by simp)
   by_cases hd:rev≤x.rev
   ·cases hp0:O5 p x.kv.key
    ·have hp:inP p rev x=false:=by simp [inP,hp0]
     rw [hp0] at h1
     simp only [hp,Bool.false_eq_true,if_false]
     refine ⟨by omega,o++[.cells (x.c.map .g)],?_⟩
     simp -implicitDefEqProofs [hk,hy,Ev.c,hd,e2,h1]
    ·have hp:inP p rev x=true:=by simp [inP,hp0,hd]
     rw [hp0] at h1
     simp only [hp,if_true]
     refine ⟨by simp;omega,o++[.cells (x.c.map .g)],?_⟩
     simp -implicitDefEqProofs [hk,hy,Ev.c,hd,e2,h1,Yh,room,Nat.not_succ_le_self,Zx,show r.length+1≤140737488355328 by omega,show (r.length+1)*80≤140737488355328 by omega,e3]
   ·have hp:inP p rev x=false:=by simp [inP,hd]
    simp only [hp,Bool.false_eq_true,if_false]
    refine ⟨by omega,o++[.cells (x.c.map .g)],?_⟩
    simp -implicitDefEqProofs [hk,hy,Ev.c,hd,e2]
theorem Zey (s:Ze) (p:Bs) (rev most:Int) (hl:s.log.l.length≤1000000) (p1 p2 p3:Blk) (H:List Blk) :
  Ya (EvF tab) H Fv [1,2,3,4,11,12] ⟨[(1,T p),(2,I rev),(3,I most),(4,.ptr H.length 0),(11,.ms (H.length+2) 1 8 0 0),(12,I 0)],[],[.cells (s.c.map .g),p1,.rows 8 1 []]⟩ =
   some (.exit 0,⟨[(1,T p),(2,I rev),(3,I most),(4,.ptr H.length 0),(11,.ms (H.length+2) ((ofP s.log.l p rev).length+1) 8 0 (ofP s.log.l p rev).length),(12,I s.log.l.length),(39,B false)],[],[.cells (s.c.map .g),p1,.rows 8 ((ofP s.log.l p rev).length+1) ((ofP s.log.l p rev).map Ev.c)]⟩):=by
 have hw:=Zt (E:=EvF tab) (h:=H) (c:=Fv) (lv:=[1,2,3,4,11,12]) (l:=s.log.l) (β:=List Ev) (γ:=Nat) (fun k r=>r.length≤k) (fun _ x r=>if inP p rev x=true then .inl (r++[x]) else .inl r)
  (fun k r o=>⟨[(1,T p),(2,I rev),(3,I most),(4,.ptr H.length 0),(11,.ms (H.length+2) (r.length+1) 8 0 r.length),(12,I k)],[],[.cells (s.c.map .g),p1,.rows 8 (r.length+1) (r.map Ev.c)]⟩)
  (fun r o=>(.exit 0,⟨[(1,T p),(2,I rev),(3,I most),(4,.ptr H.length 0),(11,.ms (H.length+2) (r.length+1) 8 0 r.length),(12,I s.log.l.length),(39,B false)],[],[.cells (s.c.map .g),p1,.rows 8 (r.length+1) (r.map Ev.c)]⟩))
  (fun _ o=>(.ret,⟨[],[],o⟩)) (by simp) (by simp) (fun k x r o hk hx hy hi => ?_) (fun r o _=>by delta Fv;simp -implicitDefEqProofs [Ze.c]) [] [] (by simp)
 ·obtain ⟨o',hw⟩:=hw
  rw [S0] at hw
  simp only [Wj,List.nil_append,List.map_nil,List.length_nil,Int.ofNat_zero,Int.cast_ofNat_Int,Nat.zero_add] at hw
  exact hw
 ·have e2:=Zh hk (by omega)
  have h1:=fun H=>Zo0 x.kv.key p H
  obtain ⟨a1,a2,a3,a4⟩:=s
  simp only at hk hl hx hy e2 ⊢
  delta Fv
  cases a4 with
  | nil=>simp at hk
  | of l =>
   simp only [Sl.l_of] at hk hy hl
   have e3:List.take r.length (List.map Ev.c r)=List.map Ev.c r:=List.take_of_length_le (by simp)
   by_cases hd:rev≤x.rev
   ·cases hp0:O5 p x.kv.key
    ·have hp:inP p rev x=false:=by simp [inP,hp0]
     rw [hp0] at h1
     simp only [hp,Bool.false_eq_true,if_false]
     refine ⟨by omega,o,?_⟩
     simp -implicitDefEqProofs [hk,hy,Ze.c,Ev.c,hd,e2,h1]
    ·have hp:inP p rev x=true:=by simp [inP,hp0,hd]
     rw [hp0] at h1
     simp only [hp,if_true]
     refine ⟨by simp;omega,o,?_⟩
     simp -implicitDefEqProofs [hk,hy,Ze.c,Ev.c,hd,e2,h1,Yh,room,Nat.not_succ_le_self,Zx,show r.length+1≤140737488355328 by omega,show (r.length+1)*80≤140737488355328 by omega,e3]
   ·have hp:inP p rev x=false:=by simp [inP,hd]
    simp only [hp,Bool.false_eq_true,if_false]
    refine ⟨by omega,o,?_⟩
    simp -implicitDefEqProofs [hk,hy,Ze.c,Ev.c,hd,e2]
theorem Z0f {α:Type} (p:α→Bool) (F:List α→List Blk→Ex×St) (o:List Blk):∀(l:List α) k r,Wj F F o (Ym (fun _ (x:α) (r:List α)=>(if p x=true then .inl (r++[x]) else .inr r:List α⊕List α)) k l r)=F (r++l.takeWhile p) o:=by
 intro l
 induction l with
 | nil=>intro k r;simp [Ym,Wj]
 | cons x l ih =>
  intro k r
  cases h:p x
  ·simp only [Ym,h,Bool.false_eq_true,if_false,List.takeWhile_cons]
   simp [Wj]
  ·simp only [Ym,h,if_true,List.takeWhile_cons]
   rw [ih];simp
theorem Zo1 (all:List Ev) (nx:Int) (g:Nat) (hl:all.length≤1000000) (p1 p2:Blk) (H:List Blk) :
  Ya (EvF tab) H Fw [11,13,14,15] ⟨[(11,.ms (H.length+2) g 8 0 all.length),(13,I nx),(14,.ms (H.length+3) 1 8 0 0),(15,I 0)],[],[p1,p2,.rows 8 g (all.map Ev.c),.rows 8 1 []]⟩ =
   some (.exit 2,⟨[(11,.ms (H.length+2) g 8 0 all.length),(13,I nx),(14,.ms (H.length+3) ((all.takeWhile fun e=>decide (e.rev<nx)).length+1) 8 0 (all.takeWhile fun e=>decide (e.rev<nx)).length),(15,I (all.takeWhile fun e=>decide (e.rev<nx)).length),(100,B false)],[],[p1,p2,.rows 8 g (all.map Ev.c),.rows 8 ((all.takeWhile fun e=>decide (e.rev<nx)).length+1) ((all.takeWhile fun e=>decide (e.rev<nx)).map Ev.c)]⟩):=by
 have hw:=Zt (E:=EvF tab) (h:=H) (c:=Fw) (lv:=[11,13,14,15]) (l:=all) (β:=List Ev) (γ:=List Ev) (fun k r=>r.length=k) (fun _ x r=>if (fun e:Ev=>decide (e.rev<nx)) x=true then .inl (r++[x]) else .inr r)
  (fun k r o=>⟨[(11,.ms (H.length+2) g 8 0 all.length),(13,I nx),(14,.ms (H.length+3) (r.length+1) 8 0 r.length),(15,I r.length)],[],[p1,p2,.rows 8 g (all.map Ev.c),.rows 8 (r.length+1) (r.map Ev.c)]⟩)
  (fun r o=>(.exit 2,⟨[(11,.ms (H.length+2) g 8 0 all.length),(13,I nx),(14,.ms (H.length+3) (r.length+1) 8 0 r.length),(15,I r.length),(100,B false)],[],[p1,p2,.rows 8 g (all.map Ev.c),.rows 8 (r.length+1) (r.map Ev.c)]⟩))
  (fun r o=>(.exit 2,⟨[(11,.ms (H.length+2) g 8 0 all.length),(13,I nx),(14,.ms (H.length+3) (r.length+1) 8 0 r.length),(15,I r.length),(100,B false)],[],[p1,p2,.rows 8 g (all.map Ev.c),.rows 8 (r.length+1) (r.map Ev.c)]⟩)) (by simp) (by simp) (fun k x r o hk hx hy hi => ?_) (fun r o hi=>by delta Fw;simp -implicitDefEqProofs [hi]) [] [] (by simp)
 ·obtain ⟨o',hw⟩:=hw
  rw [Z0f] at hw
  simpa only [List.nil_append,List.map_nil,List.length_nil,Int.ofNat_zero,Int.cast_ofNat_Int,Nat.zero_add] using hw
 ·have e2:=Zh hk (by omega)
  have e3:List.take r.length (List.map Ev.c r)=List.map Ev.c r:=List.take_of_length_le (by simp)
  subst hi
  delta Fw
  by_cases hd:x.rev<nx
  ·simp only [hd,decide_true,if_true]
   refine ⟨by simp,o,?_⟩
   simp -implicitDefEqProofs [hk,hy,hx,Ev.c,hd,e2,Yh,room,Nat.not_succ_le_self,Zx,show r.length+1≤140737488355328 by omega,show (r.length+1)*80≤140737488355328 by omega,e3]
  ·simp only [hd,decide_false,Bool.false_eq_true,if_false]
   refine ⟨o,?_⟩
   simp -implicitDefEqProofs [hk,hy,hx,Ev.c,hd,e2]
def Q1 (l:List KV) (p:Bs):List KV:=l.filter fun x=>O5 p x.key
theorem Z0g (s:Sl KV) (p:Bs) (hl:s.l.length≤1000000) (H:List Blk):EvF tab 117 [.g (KVs.g s),T p] H=some ⟨.g (KVs.g (Zz (Q1 s.l p))),[],[]⟩:=by
 refine Zb Yal (by simp) ?_
 have hw:=Zt (E:=EvF tab) (h:=H) (c:=Av) (lv:=[0,1,5,6]) (l:=s.l) (β:=List KV) (γ:=Nat) (fun k r=>r.length≤k) (fun _ x r=>if (fun x:KV=>O5 p x.key) x=true then .inl (r++[x]) else .inl r)
  (fun k r o=>⟨[(0,.g (KVs.g s)),(1,T p),(5,.ms (H.length+1) (r.length+1) 6 0 r.length),(6,I k)],[],[.rows 6 1 [],.rows 6 (r.length+1) (r.map KV.c)]⟩)
  (fun r o=>(.exit 0,⟨[(0,.g (KVs.g s)),(1,T p),(5,.ms (H.length+1) (r.length+1) 6 0 r.length),(6,I s.l.length),(10,B false)],[],[.rows 6 1 [],.rows 6 (r.length+1) (r.map KV.c)]⟩))
  (fun _ o=>(.ret,⟨[],[],o⟩)) (by simp) (by simp) (fun k x r o hk hx hy hi => ?_) (fun r o _=>by delta Av;simp -implicitDefEqProofs) [] [] (by simp)
 ·obtain ⟨o',hw⟩:=hw
  rw [S0] at hw
  simp only [Wj,List.nil_append,List.map_nil,List.length_nil,Int.ofNat_zero,Int.cast_ofNat_Int,Nat.zero_add] at hw
  rw [show (s.l.filter fun x=>O5 p x.key)=Q1 s.l p from rfl] at hw
  obtain ⟨r,hr⟩:∃r,Q1 s.l p=r:=⟨_,rfl⟩
  rw [hr] at hw ⊢
  cases r with
  | nil=>simp -implicitDefEqProofs [hw,Zz]
  | cons y r =>
   have e1:List.take r.length (List.map KV.c r)=List.map KV.c r:=List.take_of_length_le (by simp)
   simp -implicitDefEqProofs [hw,Zz,e1]
 ·have e2:=Zh hk (by omega)
  delta Av
  cases s with
  | nil=>simp at hk
  | of l =>
   simp only [Sl.l_of] at hk hy hl
   have e3:List.take r.length (List.map KV.c r)=List.map KV.c r:=List.take_of_length_le (by simp)
   obtain ⟨k1,k2,k3,k4,k5,k6⟩:=x
   simp only
   unfold O5
   by_cases h1:p.length≤k1.length
   ·by_cases h2:List.take p.length k1=p
    ·simp only [h1,h2,decide_true,beq_self_eq_true,Bool.and_self,if_true]
     refine ⟨by simp;omega,o,?_⟩
     simp -implicitDefEqProofs [hk,hy,KV.c,h1,h2,e2,Yh,room,Nat.not_succ_le_self,Zx,Xd,bnd,Y2,show r.length+1≤140737488355328 by omega,show (r.length+1)*64≤140737488355328 by omega,e3]
    ·have hb:(List.take p.length k1==p)=false:=by simpa using h2
     simp only [h1,hb,decide_true,Bool.and_false,Bool.false_eq_true,if_false]
     refine ⟨by omega,o,?_⟩
     simp -implicitDefEqProofs [hk,hy,KV.c,h1,h2,e2,Xd,bnd,Y2]
   ·simp only [h1,decide_false,Bool.false_and,Bool.false_eq_true,if_false]
    refine ⟨by omega,o,?_⟩
    simp -implicitDefEqProofs [hk,hy,KV.c,h1,e2]
theorem Zo2 (s:Ze) (p:Bs) (rev most:Int) (hs:Z8 s) (h0:0≤s.rev) (h1:s.rev≤1099511627775) (H:List Blk) :
  EvF tab 120 [A s.c,T p,I rev,I most] H=some ⟨.tup [.g (Evs.g (Zz (Vw s p rev most).1)),I (Vw s p rev most).2.1,I (Vw s p rev most).2.2],[],[]⟩:=by
 have hsl:s.log.l.length≤1000000:=by unfold Z8 at hs;omega
 have hw:=fun p1 H=>Zey s p rev most hsl p1 p1 p1 H
 have hlen:=Zlb s.log.l p rev
 have e0:IntKind.i64.wrap (s.rev+1)=s.rev+1:=wrap_i64 (by omega) (by omega)
 refine Zb Yao (by simp) ?_
 unfold Vw
 obtain ⟨a1,a2,a3,a4⟩:=s
 simp only at hlen hw hsl h0 h1 e0 ⊢
 obtain ⟨all,hall⟩:∃all,ofP a4.l p rev=all:=⟨_,rfl⟩
 rw [hall] at hw hlen ⊢
 simp only [Ze.c,List.map_cons,List.map_nil] at hw
 generalize hg1:KVs.g a3=G1 at hw
 generalize hg2:Evs.g a4=G2 at hw
 unfold Dw
 by_cases c1:most<1
 ·simp -implicitDefEqProofs [A,Ze.c,hg1,hg2,c1,Zz]
 by_cases c2:30<most
 ·simp -implicitDefEqProofs [A,Ze.c,hg1,hg2,c1,c2,Zz]
 by_cases c3:rev<1
 ·simp -implicitDefEqProofs [A,Ze.c,hg1,hg2,c1,c2,c3,Zz]
 by_cases c4:a1+1<rev
 ·simp -implicitDefEqProofs [A,Ze.c,hg1,hg2,c1,c2,c3,c4,e0,Zz]
 by_cases c5:rev≤a2
 ·simp -implicitDefEqProofs [A,Ze.c,hg1,hg2,c1,c2,c3,c4,c5,e0,Zz]
 unfold Kv
 by_cases c6:(all.length:Int)≤most
 ·rw [if_pos c6]
  cases all with
  | nil=>simp only [List.length_nil] at hw c6;simp -implicitDefEqProofs [A,Ze.c,hg1,hg2,c1,c2,c3,c4,c5,show (0:Int)≤most by omega,e0,hw,Zz]
  | cons y r =>
   have e1:List.take r.length (List.map Ev.c r)=List.map Ev.c r:=List.take_of_length_le (by simp)
   simp only [List.length_cons] at hw c6
   simp -implicitDefEqProofs [A,Ze.c,hg1,hg2,c1,c2,c3,c4,c5,show (r.length:Int)+1≤most by omega,e0,hw,Zz,e1]
 ·have hm:most.toNat<all.length:=by omega
  have hm0:0<all.length:=by omega
  obtain ⟨x,hx⟩:∃x,all[most.toNat]=x:=⟨_,rfl⟩
  obtain ⟨y,hy⟩:∃y,all[0]=y:=⟨_,rfl⟩
  have r1:Yr all most.toNat=x.rev:=by unfold Yr;rw [List.getElem?_eq_getElem hm,hx]
  have r2:Yr all 0=y.rev:=by unfold Yr;rw [List.getElem?_eq_getElem hm0,hy]
  have m0:(0:Int)≤most:=by omega
  have m1:most<(all.length:Int):=by omega
  have m2:((most.toNat:Nat):Int)=most:=by omega
  rw [r1,r2]
  by_cases c7:x.rev=y.rev
  ·simp -implicitDefEqProofs [A,Ze.c,hg1,hg2,c1,c2,c3,c4,c5,c6,e0,hw,Zz,hm,hx,hy,hm0,Ev.c,c7,m0,m1,m2]
  ·have hw2:=fun p1 p2 H=>Zo1 all x.rev (all.length+1) (by omega) p1 p2 H
   obtain ⟨tw,htw⟩:∃tw,(all.takeWhile fun e=>decide (e.rev<x.rev))=tw:=⟨_,rfl⟩
   rw [htw] at hw2 ⊢
   cases tw with
   | nil=>simp only [List.length_nil] at hw2;simp -implicitDefEqProofs [A,Ze.c,hg1,hg2,c1,c2,c3,c4,c5,c6,e0,hw,Zz,hm,hx,hy,hm0,Ev.c,c7,m0,m1,m2,hw2]
   | cons z r =>
    have e1:List.take r.length (List.map Ev.c r)=List.map Ev.c r:=List.take_of_length_le (by simp)
    simp only [List.length_cons] at hw2
    simp -implicitDefEqProofs [A,Ze.c,hg1,hg2,c1,c2,c3,c4,c5,c6,e0,hw,Zz,hm,hx,hy,hm0,Ev.c,c7,m0,m1,m2,hw2,e1]
theorem Pn (h L:List Blk) (k:Nat):(h++L)[h.length+k]? = L[k]?:=by rw [List.getElem?_append_right (by omega),Nat.add_sub_cancel_left]
theorem Vj (h L:List Blk) (k:Nat) (b:Blk):(h++L).set (h.length+k) b=h++L.set k b:=by
 rw [List.set_append_right _ _ (by omega),Nat.add_sub_cancel_left]
theorem Kx (h L:List Blk) (t:List (Nat×AV)) (m:List (Nat×Blk)) (o:List Blk) (k:Nat) (hk:k<L.length):Yp (h++L) ⟨t,m,o⟩ (h.length+k)=orB (Ps m (h.length+k)) L[k]?:=by
 rw [Zp (by rw [List.length_append];omega),Pn]
theorem Dc (h L:List Blk) (t:List (Nat×AV)) (m:List (Nat×Blk)) (o:List Blk) (k:Nat) (b:Blk) (hk:k<L.length):setB (h++L) ⟨t,m,o⟩ (h.length+k) b=⟨t,To m (h.length+k) b,o⟩:=by
 rw [Z2 (by rw [List.length_append];omega)]
theorem Zo3 {h:List Blk} {id sz bytes g:Nat} {xs ys:List (List GV)} (hid:id<h.length) (hne:ys ≠ []) (h1:xs.length+ys.length≤140737488355328) (h2:(xs.length+ys.length)*bytes≤140737488355328) (t:List (Nat×AV)) (m:List (Nat×Blk)) (o:List Blk)
  (hg:Yp h ⟨t,m,o⟩ id=some (.rows sz g xs)) :
  Yh h ⟨t,m,o⟩ sz bytes (.ms id g sz 0 xs.length) ys=some (.ms id (g+1) sz 0 (xs.length+ys.length),⟨t,To m id (.rows sz (g+1) (xs++ys)),o⟩,[id]):=by
 cases ys with
 | nil=>exact absurd rfl hne
 | cons y ys =>
  simp only [List.length_cons] at h1 h2
  have e:¬xs.length+(ys.length+1)≤xs.length:=by omega
  simp only [Yh,hg,true_and,if_true,List.length_cons,Nat.zero_add,if_neg e,Nat.le_refl,room,h1,h2,decide_true,Bool.and_self,Z2 hid,List.take_length]
def lpT (n:Nat):List (Nat×AV):=[(7,.ptr (n+1) 0),(8,.ptr (n+3) 0),(9,.ptr (n+4) 0),(10,.ptr (n+5) 0),(11,.ptr (n+7) 0)]
noncomputable def Ue (n:Nat) (s:Ze) (most:Int) (res:AV) (n1 n2:Int) (g:Nat) (out:List Ev) (G:GV) (j:Option (Option Nat)):List Blk :=
 [.cells (s.c.map .g),.cells [I most],.rows 8 1 [],.cells [res],.cells [I n1],.cells [I n2],.rows 8 g (out.map Ev.c),.cells [.ms (n+6) g 8 0 out.length],.cells [.g G],.lp Sr (lpT n) j]
theorem Zh8 (s:Ze) (most:Int) (g:Nat) (out grp:List Ev) (G:GV) (hne:grp ≠ []) (hsz:out.length+grp.length≤1000000) (hf:((out.length+grp.length:Nat):Int)≤most) (H:List Blk) :
  Vt (EvF tab) A6 [.g (Evs.g (.of grp))] (H.length+9) (H++Ue H.length s most (.ms (H.length+2) 1 8 0 0) 0 0 g out G none) =
   some ⟨B true,[(H.length+9,.lp Sr (lpT H.length) none),(H.length+6,.rows 8 (g+1) ((out++grp).map Ev.c)),(H.length+7,.cells [.ms (H.length+6) (g+1) 8 0 (out++grp).length])],[]⟩:=by
 have hgl:0<grp.length:=List.length_pos_iff.2 hne
 have e1:IntKind.i64.wrap ((out.length:Int)+(grp.length:Int))=(out.length:Int)+(grp.length:Int):=wrap_i64 (by omega) (by omega)
 have e2:(out.length:Int)+(grp.length:Int)≤most:=by omega
 have hap:=fun t o=>Zo3 (h:=H++(Ue H.length s most (.ms (H.length+2) 1 8 0 0) 0 0 g out G none).set 9 .hid) (id:=H.length+6) (sz:=8) (bytes:=80) (g:=g) (xs:=out.map Ev.c) (ys:=grp.map Ev.c) (by simp [Ue]) (by simpa using hne) (by simp;omega) (by simp;omega) t [] o (by simp [Ue,Kx])
 simp only [List.length_map] at hap
 unfold Vt
 unfold Ue at hap ⊢
 simp only [Pn,Yi,Vj]
 simp only [List.set] at hap ⊢
 simp -implicitDefEqProofs [A6,lpT,Hf,N5,Gn,Sw,Kx,Dc,e1,e2,hap]
theorem Zh9 (s:Ze) (most:Int) (g:Nat) (grp:List Ev) (G:GV) (hne:grp ≠ []) (hsz:grp.length≤1000000) (hf:most<(grp.length:Int)) (H:List Blk) :
  Vt (EvF tab) A6 [.g (Evs.g (.of grp))] (H.length+9) (H++Ue H.length s most (.ms (H.length+2) 1 8 0 0) 0 0 g [] G none) =
   some ⟨B false,[(H.length+9,.lp Sr (lpT H.length) (some none)),(H.length+3,.cells [.g .nsl]),(H.length+4,.cells [I 0]),(H.length+5,.cells [I 4])],[]⟩:=by
 have e1:IntKind.i64.wrap ((grp.length:Int))=(grp.length:Int):=wrap_i64 (by omega) (by omega)
 have e2:¬(grp.length:Int)≤most:=by omega
 unfold Vt
 unfold Ue
 simp only [Pn,Yi,Vj]
 simp only [List.set]
 simp -implicitDefEqProofs [A6,lpT,Hf,N5,Gn,Sw,Kx,Dc,e1,e2]
theorem Zia (s:Ze) (most:Int) (g:Nat) (out grp:List Ev) (G:GV) (hne:grp ≠ []) (ho:out ≠ []) (hsz:out.length+grp.length≤1000000) (hf:most<((out.length+grp.length:Nat):Int)) (H:List Blk) :
  Vt (EvF tab) A6 [.g (Evs.g (.of grp))] (H.length+9) (H++Ue H.length s most (.ms (H.length+2) 1 8 0 0) 0 0 g out G none) =
   some ⟨B false,[(H.length+9,.lp Sr (lpT H.length) (some none)),(H.length+3,.cells [.ms (H.length+6) g 8 0 out.length]),(H.length+4,.cells [I (Yr grp 0)]),(H.length+5,.cells [I 0])],[]⟩:=by
 have hol:0<out.length:=List.length_pos_iff.2 ho
 have e3:¬(out.length:Int)=0:=by omega
 cases grp with
 | nil=>exact absurd rfl hne
 | cons x grp =>
  simp only [List.length_cons] at hsz hf
  have e1:IntKind.i64.wrap ((out.length:Int)+((grp.length:Int)+1))=(out.length:Int)+((grp.length:Int)+1):=wrap_i64 (by omega) (by omega)
  have e2:¬(out.length:Int)+((grp.length:Int)+1)≤most:=by omega
  unfold Vt
  unfold Ue
  simp only [Pn,Yi,Vj]
  simp only [List.set]
  simp -implicitDefEqProofs [A6,lpT,Hf,N5,Gn,Sw,Kx,Dc,e1,e2,e3,ho,Yr,Ev.c]
theorem Za2 (G:GV) (H:List Blk):EvF tab 188 [.g G] H=some ⟨.fv 204 [.ptr H.length 0],[],[.cells [.g G]]⟩:=by
 refine Zb Ycc (by simp) ?_
 simp -implicitDefEqProofs
theorem Zt1 (e:Ev) (x:Ev) (l:List Ev) {H:List Blk} {p:Nat} (hp:H[p]? = some (.cells [.g (Evs.g (.of (x::l)))])):EvF tab 205 [A e.c,.ptr p 0] H=some ⟨B (decide (e.rev ≠ x.rev)),[],[]⟩:=by
 have hlt:p<H.length:=(List.getElem?_eq_some_iff.1 hp).1
 have hg:H[p] = .cells [.g (Evs.g (.of (x::l)))]:=(List.getElem?_eq_some_iff.1 hp).2
 have hlv:∀o,Zq (H++o) p=true:=fun o=>by unfold Zq;rw [List.getElem?_append_left hlt,hp];rfl
 refine Zb Ycq (by simp) ?_
 by_cases c:e.rev=x.rev
 ·simp -implicitDefEqProofs [Ev.c,A,Zp hlt,orB,hg,hp,c,hlv]
 ·simp -implicitDefEqProofs [Ev.c,A,Zp hlt,orB,hg,hp,c,hlv]
theorem Z0h (x:Ev) (l:List Ev) (hl:(x::l).length≤1000000) {H:List Blk} {p:Nat} (hp:H[p]? = some (.cells [.g (Evs.g (.of (x::l)))])) :
  EvF tab 175 [.g (Evs.g (.of (x::l))),.fv 205 [.ptr p 0]] H=some ⟨I (Xh (fun e=>decide (e.rev ≠ Yr (x::l) 0)) 0 (x::l)),[],[]⟩:=by
 have:=Ot (Tb:=tab) (f:=175) (agg:=true) (n:=8) (c:=Ev.c) Z22 (fun e=>A e.c) (fun e=>decide (e.rev ≠ Yr (x::l) 0)) (.fv 205 [.ptr p 0]) (.of (x::l)) (by rw [Sl.l_of];omega) H (fun e=>by simp [Ev.c,A]) (fun e _ t=>by
  have:=Zt1 e x l (H:=full H ⟨t,[],[]⟩) (p:=p) (by simpa using hp)
  rw [Qn]
  simp only [List.all_nil,if_true]
  show fin H [] ⟨t,[],[]⟩ (EvF tab _ [A e.c,.ptr p 0] _)=_
  simp only [Yi]
  rw [this]
  simp -implicitDefEqProofs [Yr])
 exact this
theorem Zib {E:FnS} {h:List Blk} {c:IC} {lv:List Nat} {β:Type} (m:β→Nat) (Inv:β→Prop) (S:β→St) (Q:Ex×St→Prop)
  (hstep:∀b,Inv b→(∃b',m b' < m b∧Inv b'∧kpN lv (Zo E h c (S b))=some (.normal,S b'))∨(∃r,r.1 ≠ .normal∧Q r∧kpN lv (Zo E h c (S b))=some r)) :
  ∀(n:Nat) (b:β),m b≤n→Inv b→∃r,Q r∧Ya E h c lv (S b)=some r:=by
 intro n
 induction n with
 | zero =>
  intro b hm hi
  rcases hstep b hi with ⟨b',h1,_⟩ | ⟨r,h1,h2,h3⟩
  ·omega
  ·exact ⟨r,h2,Wp E h c lv _ _ h1 h3⟩
 | succ n ih =>
  intro b hm hi
  rcases hstep b hi with ⟨b',h1,h2,h4⟩ | ⟨r,h1,h2,h3⟩
  ·rw [On E h c lv _ _ h4]
   exact ih b' (by omega) h2
  ·exact ⟨r,h2,Wp E h c lv _ _ h1 h3⟩
def P5 (n:Nat):AV := .ms (n+2) 1 8 0 0
def Z3j (n:Nat) (s:Ze) (most srev:Int) (all:List Ev) (L:List Blk):Prop :=
 ∃g G,(((Kv all most srev).2.2=0∧(all.length:Int)≤most∧(g=1↔all=[])∧L=Ue n s most (P5 n) 0 0 g all G none) ∨
  (Kv all most srev=([],0,4)∧L=Ue n s most (.g .nsl) 0 4 g [] G (some none)) ∨
  (∃out nx,Kv all most srev=(out,nx,0)∧¬(all.length:Int)≤most∧out ≠ []∧g ≠ 1∧L=Ue n s most (.ms (n+6) g 8 0 out.length) nx 0 g out G (some none)))
structure RInv (n:Nat) (s:Ze) (most:Int) (all:List Ev) (H h:List Blk) (b:List (Nat×Blk)×Nat×List Ev×Sl Ev):Prop where
 keys:∀p∈b.1,n≤p.1∧p.2.lt1 (n+10)=true
 bl:Zv h b.1=H++Ue n s most (P5 n) 0 0 b.2.1 b.2.2.1 (Evs.g b.2.2.2) none
 all:b.2.2.1++b.2.2.2.l=all
 len:(b.2.2.1.length:Int)≤most
 lt:∀e∈b.2.2.1,∀x∈b.2.2.2.l,e.rev<x.rev
 g:b.2.1=1↔b.2.2.1=[]
 gp:1≤b.2.1
theorem Vo {n:Nat} {m:List (Nat×Blk)} (h:∀p∈m,n≤p.1∧p.2.lt1 (n+10)=true) {id:Nat} (hid:n≤id) (b:Blk) (hb:b.lt1 (n+10)=true):∀p∈To m id b,n≤p.1∧p.2.lt1 (n+10)=true:=by
 induction m with
 | nil=>intro p hp;rw [Zry] at hp;rw [List.mem_singleton.1 hp];exact ⟨hid,hb⟩
 | cons q m ih =>
  obtain ⟨a,v⟩:=q
  intro p hp
  rw [Znd] at hp
  split at hp
  ·rcases List.mem_cons.1 hp with rfl | hp
   ·exact ⟨(h (a,v) (by simp)).1,hb⟩
   ·exact h p (by simp [hp])
  ·rcases List.mem_cons.1 hp with rfl | hp
   ·exact h (a,v) (by simp)
   ·exact ih (fun p hp=>h p (by simp [hp])) p hp
theorem J5 (E:FnS) (h:List Blk) (s:St) (d:Option Nat) (g:Option (Nat×Bool)) (x:Opd):Ud E h s ⟨d,g,.mov x⟩=ob (Wh E h 0 [] s ⟨d,g,.mov x⟩) fun p=>some p.1:=Oj _ _ _ _ rfl
theorem Nq (E:FnS) (h:List Blk) (s:St) (d:Option Nat) (g:Option (Nat×Bool)) (a:Bool) (n:Nat) (x:Opd):Ud E h s ⟨d,g,.load a n x⟩=ob (Wh E h 0 [] s ⟨d,g,.load a n x⟩) fun p=>some p.1:=Oj _ _ _ _ rfl
theorem J6 (E:FnS) (h:List Blk) (s:St) (d:Option Nat) (g:Option (Nat×Bool)) (n:Nat) (x:Opd) (a b:Option Opd):Ud E h s ⟨d,g,.slc n x a b⟩=ob (Wh E h 0 [] s ⟨d,g,.slc n x a b⟩) fun p=>some p.1:=Oj _ _ _ _ rfl
theorem Bi (E:FnS) (h:List Blk) (s:St) (d:Option Nat) (g:Option (Nat×Bool)) (o:UnOp) (x:Opd):Ud E h s ⟨d,g,.un o x⟩=ob (Wh E h 0 [] s ⟨d,g,.un o x⟩) fun p=>some p.1:=Oj _ _ _ _ rfl
theorem Zt2 (l:List Ev) (hne:l ≠ []) (hl:l.length≤1000000) {H:List Blk} {p:Nat} (hp:H[p]? = some (.cells [.g (Evs.g (.of l))])) :
  EvF tab 175 [.g (.sl 8 (l.map Ev.c)),.fv 205 [.ptr p 0]] H=some ⟨I (Xh (fun e=>decide (e.rev ≠ Yr l 0)) 0 l),[],[]⟩:=by
 cases l with
 | nil=>exact absurd rfl hne
 | cons x l=>exact Z0h x l hl hp
theorem Zez (s:Ze) (most srev:Int) (all:List Ev) (hs:J4 all) (h1:1≤most) (hl:all.length≤100000) (H h:List Blk) (hh:h.length=H.length+10) (b:List (Nat×Blk)×Nat×List Ev×Sl Ev) (hb:RInv H.length s most all H h b) :
  ∃m e t,(∀p∈m,H.length≤p.1∧p.2.lt1 (H.length+10)=true)∧(∃L,Zv h m=H++L∧Z3j H.length s most srev all L)∧(e = .exit 0∨e = .ret) ∧
   Ya (EvF tab) h N9 [0,1] ⟨[(0,.yv (H.length+9)),(1,.ptr (H.length+8) 0)],b.1,[]⟩=some (e,⟨t,m,[]⟩):=by
 have hlt:∀k,k<10→H.length+k<h.length:=fun k hk=>by omega
 have key:=Zib (E:=EvF tab) (h:=h) (c:=N9) (lv:=[0,1]) (β:=List (Nat×Blk)×Nat×List Ev×Sl Ev) (fun b=>b.2.2.2.l.length) (RInv H.length s most all H h)
  (fun b=>⟨[(0,.yv (H.length+9)),(1,.ptr (H.length+8) 0)],b.1,[]⟩)
  (fun r=>∃m e t,(∀p∈m,H.length≤p.1∧p.2.lt1 (H.length+10)=true)∧(∃L,Zv h m=H++L∧Z3j H.length s most srev all L)∧(e = .exit 0∨e = .ret) ∧
   r=(e,⟨t,m,[]⟩)) (fun b hi => ?_) b.2.2.2.l.length b (Nat.le_refl _) hb
 ·obtain ⟨r,⟨m,e,t,k1,k2,k3,k4⟩,k5⟩:=key
  exact ⟨m,e,t,k1,k2,k3,by rw [k5,k4]⟩
 ·obtain ⟨m,g,out,l⟩:=b
  obtain ⟨i1,i2,i3,i4,i5,i6,i7⟩:=hi
  simp only at i1 i2 i3 i4 i5 i6 i7 ⊢
  have hgb:∀t k,Yp h ⟨t,m,[]⟩ (H.length+k)=(Ue H.length s most (P5 H.length) 0 0 g out (Evs.g l) none)[k]?:=fun t k=>by
   rw [←Z9];unfold full;rw [i2,List.append_nil,Pn]
  have hg8:∀t,Yp h ⟨t,m,[]⟩ (H.length+8)=some (.cells [.g (Evs.g l)]):=fun t=>hgb t 8
  have hg9:∀t,Yp h ⟨t,m,[]⟩ (H.length+9)=some (.lp Sr (lpT H.length) none):=fun t=>hgb t 9
  have hm:Zv h m=H++Ue H.length s most (P5 H.length) 0 0 g out (Evs.g l) none:=i2
  rcases hll:l.l with _ | ⟨x,l'⟩
  ·right
   refine ⟨_,?_,⟨m,.exit 0,[(0,.yv (H.length+9)),(1,.ptr (H.length+8) 0),(6,B false)],i1,⟨_,i2,g,Evs.g l,.inl ?_⟩,.inl rfl,rfl⟩,?_⟩
   ·simp
   ·rw [hll,List.append_nil] at i3
    subst i3
    exact ⟨by rw [Da i4],i4,i6,rfl⟩
   ·delta N9
    cases l with
    | nil=>simp -implicitDefEqProofs [hg8]
    | of l=>simp at hll;subst hll;simp -implicitDefEqProofs [hg8]
  ·obtain ⟨l0,rfl⟩:∃l0,l = .of l0:=by
    cases l with
    | nil=>simp at hll
    | of l=>exact ⟨l,rfl⟩
   simp only [Sl.l_of] at hll i3 i5 ⊢
   have hne0:l0 ≠ []:=by rw [hll];simp
   have hs0:J4 l0:=by rw [←i3] at hs;exact (List.pairwise_append.1 hs).2.1
   obtain ⟨grp,d,q1,q2,q3,q4,q5⟩:=Zoy hne0 hs0
   have hl0:out.length+l0.length=all.length:=by rw [←i3,List.length_append]
   have hgd:grp.length+d.length=l0.length:=by rw [q1,List.length_append]
   have hgl:0<grp.length:=List.length_pos_iff.2 q2
   have hidx:=Zt2 l0 hne0 (by omega) (H:=H++Ue H.length s most (P5 H.length) 0 0 g out (Evs.g (.of l0)) none) (p:=H.length+8) (by rw [Pn];rfl)
   unfold Z3h at q5
   obtain ⟨r,hr⟩:∃r,Yr l0 0=r:=⟨_,rfl⟩
   rw [hr] at q3 q4 q5 hidx
   obtain ⟨j,hj⟩:∃j,Xh (fun e=>decide (e.rev ≠ r)) 0 l0=j:=⟨_,rfl⟩
   rw [hj] at q5 hidx
   have et:List.take grp.length (List.map Ev.c l0)=List.map Ev.c grp:=by rw [q1,List.map_append];exact List.take_left' (by simp)
   have ed:List.drop grp.length (List.map Ev.c l0)=List.map Ev.c d:=by rw [q1,List.map_append];exact List.drop_left' (by simp)
   have ea:List.take l0.length (List.map Ev.c l0)=List.map Ev.c l0:=List.take_of_length_le (by simp)
   have hfu:∀t,full h ⟨t,m,[]⟩=H++Ue H.length s most (P5 H.length) 0 0 g out (Evs.g (.of l0)) none:=fun t=>by unfold full;rw [hm,List.append_nil]
   have hb1:grp.length≤l0.length:=by omega
   have hb2:(grp.length:Int)≤(l0.length:Int):=by omega
   by_cases hfit:((out.length+grp.length:Nat):Int)≤most
   ·left
    have hrd:EvF tab 0 [.yk Sr.key,.g (.sl 8 (grp.map Ev.c)),.yv (H.length+9)] (H++Ue H.length s most (P5 H.length) 0 0 g out (.sl 8 (l0.map Ev.c)) none)=some _:=Jh (T:=tab) (key:=Sr.key) rfl Zr0 (Zh8 s most g out grp (Evs.g (.of l0)) q2 (by omega) hfit H)
    obtain ⟨m3,hm3⟩:∃m3,To (To (To m (H.length+7) (.cells [.ms (H.length+6) (g+1) 8 0 (out++grp).length])) (H.length+6) (.rows 8 (g+1) ((out++grp).map Ev.c))) (H.length+9) (.lp Sr (lpT H.length) none)=m3:=⟨_,rfl⟩
    have a3:Zv h m3=H++Ue H.length s most (P5 H.length) 0 0 (g+1) (out++grp) (Evs.g (.of l0)) none:=by
     rw [←hm3,Xl,Xl,Xl,hm,Vj,Vj,Vj];rfl
    have hg8':∀t,Yp h ⟨t,m3,[]⟩ (H.length+8)=some (.cells [.g (Evs.g (.of l0))]):=fun t=>by
     rw [←Z9];unfold full;rw [a3,List.append_nil,Pn];rfl
    refine ⟨(To m3 (H.length+8) (.cells [.g (Evs.g (.of d))]),g+1,out++grp,.of d),?_,⟨?_,?_,?_,?_,?_,?_,?_⟩,?_⟩
    ·have hll2:=congrArg List.length hll
     simp only [List.length_cons,Sl.l_of] at hll2 ⊢
     omega
    ·exact Vo (by rw [←hm3];exact Vo (Vo (Vo i1 (by omega) _ (by simp [lpT,Blk.lt1])) (by omega) _ (by simp [lpT,Blk.lt1])) (by omega) _ (by simp [lpT,Blk.lt1])) (by omega) _ (by simp [lpT,Blk.lt1])
    ·simp only
     rw [Xl,a3,Vj];rfl
    ·simp only [Sl.l_of];rw [List.append_assoc,←q1];exact i3
    ·simp only [List.length_append];exact hfit
    ·simp only [Sl.l_of]
     intro e he x hx
     rcases List.mem_append.1 he with he | he
     ·exact i5 e he x (by rw [q1];simp [hx])
     ·have:=q3 e he;have:=q4 x hx;omega
    ·exact ⟨fun h=>by exfalso;have h2:g+1=1:=h;omega,fun h=>by simp [q2] at h⟩
    ·simp only;omega
    ·simp only [List.length_append,List.map_append] at hm3 hrd
     simp only [Sl.g_of,Evs.g] at hidx hrd hg8 hg8' hm a3 ⊢
     delta N9
     by_cases hj0:j<0
     ·rw [if_pos hj0] at q5
      have hb3:grp.length=l0.length:=by omega
      have hd:d=[]:=List.eq_nil_of_length_eq_zero (by omega)
      subst hd
      rw [List.append_nil] at q1
      subst q1
      simp -implicitDefEqProofs [J5,Nq,J6,Bi,hg8,hg9,hg8',hm,hidx,hrd,hm3,hne0,show 0<l0.length by omega,hj0,Xd,bnd,Y2,hb1,hb2,et,ea,ed,Z2 (hlt 6 (by omega)),Z2 (hlt 7 (by omega)),Z2 (hlt 8 (by omega)),Z2 (hlt 9 (by omega))]
      done
     ·rw [if_neg hj0] at q5
      subst q5
      simp -implicitDefEqProofs [J5,Nq,J6,Bi,hg8,hg9,hg8',hm,hidx,hrd,hm3,hne0,show 0<l0.length by omega,hj0,Xd,bnd,Y2,hb1,hb2,et,ea,ed,Z2 (hlt 6 (by omega)),Z2 (hlt 7 (by omega)),Z2 (hlt 8 (by omega)),Z2 (hlt 9 (by omega))]
   ·right
    have hcut:=Ztz (srev:=srev) (out:=out) (g:=grp) (d:=d) h1 i4 (by omega) (fun e he=>i5 e he l0[0] (List.getElem_mem (by omega))) (fun e he=>by
     have hq:=q3 e he
     rw [hq,←hr];unfold Yr;rw [List.getElem?_eq_getElem (by omega)]) (fun e he=>by
     have hq:=q4 e he
     rw [←hr] at hq;unfold Yr at hq;rw [List.getElem?_eq_getElem (by omega)] at hq;exact hq)
    rw [←q1,i3] at hcut
    have hr0:l0[0].rev=r:=by rw [←hr];unfold Yr;rw [List.getElem?_eq_getElem (by omega)]
    rw [hr0] at hcut
    have hnl:¬(all.length:Int)≤most:=by omega
    by_cases hout:out=[]
    ·subst hout
     rw [if_pos rfl] at hcut
     have hrd:EvF tab 0 [.yk Sr.key,.g (.sl 8 (grp.map Ev.c)),.yv (H.length+9)] (H++Ue H.length s most (P5 H.length) 0 0 g [] (.sl 8 (l0.map Ev.c)) none)=some _:=Jh (T:=tab) (key:=Sr.key) rfl Zr0 (Zh9 s most g grp (Evs.g (.of l0)) q2 (by omega) (by simp only [List.length_nil] at hfit;omega) H)
     obtain ⟨m3,hm3⟩:∃m3,To (To (To (To m (H.length+5) (.cells [I 4])) (H.length+4) (.cells [I 0])) (H.length+3) (.cells [.g .nsl])) (H.length+9) (.lp Sr (lpT H.length) (some none))=m3:=⟨_,rfl⟩
     have a3:Zv h m3=H++Ue H.length s most (.g .nsl) 0 4 g [] (Evs.g (.of l0)) (some none):=by
      rw [←hm3,Xl,Xl,Xl,Xl,hm,Vj,Vj,Vj,Vj];rfl
     refine ⟨_,?_,⟨m3,.ret,[(0,.yv (H.length+9)),(1,.ptr (H.length+8) 0),(3,I grp.length),(19,B true)],?_,⟨_,a3,g,Evs.g (.of l0),.inr (.inl ⟨hcut,rfl⟩)⟩,.inr rfl,rfl⟩,?_⟩
     ·simp
     ·rw [←hm3];exact Vo (Vo (Vo (Vo i1 (by omega) _ (by simp [lpT,Blk.lt1])) (by omega) _ (by simp [lpT,Blk.lt1])) (by omega) _ (by simp [lpT,Blk.lt1])) (by omega) _ (by simp [lpT,Blk.lt1])
     ·simp only [Sl.g_of,Evs.g] at hidx hrd hg8 hm a3 ⊢
      delta N9
      by_cases hj0:j<0
      ·rw [if_pos hj0] at q5
       have hb3:grp.length=l0.length:=by omega
       rw [hb3] at et ⊢
       simp -implicitDefEqProofs [J5,Nq,J6,Bi,hg8,hg9,hm,hidx,hrd,hm3,hne0,show 0<l0.length by omega,hj0,Xd,bnd,Y2,hb1,hb2,et,ea,Z2 (hlt 3 (by omega)),Z2 (hlt 4 (by omega)),Z2 (hlt 5 (by omega)),Z2 (hlt 9 (by omega))]
      ·rw [if_neg hj0] at q5
       subst q5
       simp -implicitDefEqProofs [J5,Nq,J6,Bi,hg8,hg9,hm,hidx,hrd,hm3,hne0,show 0<l0.length by omega,hj0,Xd,bnd,Y2,hb1,hb2,et,ea,Z2 (hlt 3 (by omega)),Z2 (hlt 4 (by omega)),Z2 (hlt 5 (by omega)),Z2 (hlt 9 (by omega))]
    ·rw [if_neg hout] at hcut
     have hgr:Yr grp 0=r:=by
      obtain ⟨e,he,h2⟩:=U1 hgl
      rw [h2];exact q3 e he
     have hrd:EvF tab 0 [.yk Sr.key,.g (.sl 8 (grp.map Ev.c)),.yv (H.length+9)] (H++Ue H.length s most (P5 H.length) 0 0 g out (.sl 8 (l0.map Ev.c)) none)=some _:=Jh (T:=tab) (key:=Sr.key) rfl Zr0 (Zia s most g out grp (Evs.g (.of l0)) q2 hout (by omega) (by omega) H)
     rw [hgr] at hrd
     obtain ⟨m3,hm3⟩:∃m3,To (To (To (To m (H.length+5) (.cells [I 0])) (H.length+4) (.cells [I r])) (H.length+3) (.cells [.ms (H.length+6) g 8 0 out.length])) (H.length+9) (.lp Sr (lpT H.length) (some none))=m3:=⟨_,rfl⟩
     have a3:Zv h m3=H++Ue H.length s most (.ms (H.length+6) g 8 0 out.length) r 0 g out (Evs.g (.of l0)) (some none):=by
      rw [←hm3,Xl,Xl,Xl,Xl,hm,Vj,Vj,Vj,Vj];rfl
     refine ⟨_,?_,⟨m3,.ret,[(0,.yv (H.length+9)),(1,.ptr (H.length+8) 0),(3,I grp.length),(19,B true)],?_,⟨_,a3,g,Evs.g (.of l0),.inr (.inr ⟨out,r,hcut,hnl,hout,fun h=>hout (i6.1 h),rfl⟩)⟩,.inr rfl,rfl⟩,?_⟩
     ·simp
     ·rw [←hm3];exact Vo (Vo (Vo (Vo i1 (by omega) _ (by simp [lpT,Blk.lt1])) (by omega) _ (by simp [lpT,Blk.lt1])) (by omega) _ (by simp [lpT,Blk.lt1])) (by omega) _ (by simp [lpT,Blk.lt1])
     ·simp only [Sl.g_of,Evs.g] at hidx hrd hg8 hm a3 ⊢
      delta N9
      by_cases hj0:j<0
      ·rw [if_pos hj0] at q5
       have hb3:grp.length=l0.length:=by omega
       rw [hb3] at et ⊢
       simp -implicitDefEqProofs [J5,Nq,J6,Bi,hg8,hg9,hm,hidx,hrd,hm3,hne0,show 0<l0.length by omega,hj0,Xd,bnd,Y2,hb1,hb2,et,ea,Z2 (hlt 3 (by omega)),Z2 (hlt 4 (by omega)),Z2 (hlt 5 (by omega)),Z2 (hlt 9 (by omega))]
      ·rw [if_neg hj0] at q5
       subst q5
       simp -implicitDefEqProofs [J5,Nq,J6,Bi,hg8,hg9,hm,hidx,hrd,hm3,hne0,show 0<l0.length by omega,hj0,Xd,bnd,Y2,hb1,hb2,et,ea,Z2 (hlt 3 (by omega)),Z2 (hlt 4 (by omega)),Z2 (hlt 5 (by omega)),Z2 (hlt 9 (by omega))]
theorem Dd {H L0:List Blk}:∀{m:List (Nat×Blk)},(∀p∈m,H.length≤p.1)→∃L,(∀t,Wc H ⟨t,[],L0⟩ m=⟨t,[],L⟩)∧Zv (H++L0) m=H++L
 | [],_=>⟨L0,fun _=>by simp,by simp⟩
 | (i,b)::m,h=>by
  obtain ⟨L,h1,h2⟩:=Dd (m:=m) (fun p hp=>h p (by simp [hp]))
  have hi:H.length≤i:=h (i,b) (by simp)
  refine ⟨L.set (i - H.length) b,fun t => ?_,?_⟩
  ·rw [Zcz,h1];unfold setB;rw [if_neg (by omega)]
  ·simp only [Zv];rw [h2,List.set_append_right _ _ hi]
theorem Z0i (s:Ze) (most srev:Int) (all:List Ev) (hs:J4 all) (h1:1≤most) (hl:all.length≤100000) (H:List Blk) :
  ∃m L,(∀t,Wc H ⟨t,[],Ue H.length s most (P5 H.length) 0 0 1 [] (Evs.g (Zz all)) none⟩ m=⟨t,[],L⟩)∧Z3j H.length s most srev all L ∧
   EvF tab 204 [.yv (H.length+9),.ptr (H.length+8) 0] (H++Ue H.length s most (P5 H.length) 0 0 1 [] (Evs.g (Zz all)) none)=some ⟨.tup [],m,[]⟩:=by
 obtain ⟨h,hh⟩:∃h,H++Ue H.length s most (P5 H.length) 0 0 1 [] (Evs.g (Zz all)) none=h:=⟨_,rfl⟩
 obtain ⟨m,e,t,k1,⟨L,k2,k3⟩,k4,k5⟩:=Zez s most srev all hs h1 hl H h (by rw [←hh];simp [Ue]) ([],1,[],Zz all) ⟨by simp,by rw [←hh];rfl,by rw [Xz];rfl,by simp;omega,by simp,by simp,by simp⟩
 obtain ⟨L',j1,j2⟩:=Dd (H:=H) (L0:=Ue H.length s most (P5 H.length) 0 0 1 [] (Evs.g (Zz all)) none) (fun p hp=>(k1 p hp).1)
 rw [hh,k2] at j2
 have hL:=List.append_cancel_left j2
 subst hL
 refine ⟨m,L,j1,k3,?_⟩
 rw [hh]
 refine Zb Ycp (by simp) ?_
 have hlen:h.length=H.length+10:=by rw [←hh];simp [Ue]
 rcases k4 with rfl | rfl <;> simp -implicitDefEqProofs [k5] <;> exact fun a b hab=>by rw [hlen];exact (k1 (a,b) hab).2
theorem Zt3 (s:Ze) (p:Bs) (rev most:Int) (hs:Z8 s) (h0:0≤s.rev) (h1:s.rev≤1099511627775) (hsrt:J4 s.log.l) (H:List Blk) :
  EvF tab 155 [A s.c,T p,I rev,I most] H=some ⟨.tup [.g (Evs.g (Zz (Vw s p rev most).1)),I (Vw s p rev most).2.1,I (Vw s p rev most).2.2],[],[]⟩:=by
 have hsl:s.log.l.length≤100000:=by unfold Z8 at hs;omega
 have hlen:=Zlb s.log.l p rev
 have e0:IntKind.i64.wrap (s.rev+1)=s.rev+1:=wrap_i64 (by omega) (by omega)
 have hof:=fun H=>Z54 s.log p rev (by omega) H
 have hall0:=Za0 hsrt p rev
 refine Zb Ybj (by simp) ?_
 unfold Vw
 obtain ⟨all,hall⟩:∃all,ofP s.log.l p rev=all:=⟨_,rfl⟩
 rw [hall] at hof hlen hall0 ⊢
 unfold Dw
 by_cases c1:most<1
 ·obtain ⟨a1,a2,a3,a4⟩:=s
  simp -implicitDefEqProofs [A,Ze.c,c1,Zz]
 by_cases c2:30<most
 ·obtain ⟨a1,a2,a3,a4⟩:=s
  simp -implicitDefEqProofs [A,Ze.c,c1,c2,Zz]
 by_cases c3:rev<1
 ·obtain ⟨a1,a2,a3,a4⟩:=s
  simp -implicitDefEqProofs [A,Ze.c,c1,c2,c3,Zz]
 by_cases c4:s.rev+1<rev
 ·obtain ⟨a1,a2,a3,a4⟩:=s
  simp only at c4 e0
  simp -implicitDefEqProofs [A,Ze.c,c1,c2,c3,c4,e0,Zz]
 by_cases c5:rev≤s.low
 ·obtain ⟨a1,a2,a3,a4⟩:=s
  simp only at c4 c5 e0
  simp -implicitDefEqProofs [A,Ze.c,c1,c2,c3,c4,c5,e0,Zz]
 simp only [show (if most<1∨30<most then (1:Int) else if rev<1∨s.rev+1<rev then 8 else if rev≤s.low then 9 else 0)=0 from Np.2 ⟨⟨by omega,by omega⟩,⟨by omega,by omega⟩,by omega⟩,if_true]
 obtain ⟨m,L,k1,k2,k3⟩:=Z0i s most s.rev all hall0 (by omega) (by omega) H
 obtain ⟨a1,a2,a3,a4⟩:=s
 simp only at c4 c5 e0 k2 hof
 have hrv:=fun G H=>Za2 G H
 generalize hg0:Evs.g (Zz all)=G0 at hof k1 k3
 unfold Ue at k1 k3
 simp only [Ze.c,List.map_cons,List.map_nil,List.length_nil,P5,lpT] at k1 k3
 generalize hg1:KVs.g a3=G1 at k1 k3
 generalize hg2:Evs.g a4=G2 at k1 k3 hof
 obtain ⟨g,G,⟨z1,z2,z3,rfl⟩ | ⟨z1,rfl⟩ | ⟨out,nx,z1,z2,z3,z4,rfl⟩⟩:=k2
 ·rw [Da z2]
  unfold Ue at k1
  simp only [Ze.c,List.map_cons,List.map_nil,lpT,P5] at k1
  simp -implicitDefEqProofs [A,Ze.c,hg1,hg2,c1,c2,c3,c4,c5,e0,hof,hrv,Zga,k3,k1,Gm]
  by_cases hall2:all=[]
  ·rw [if_pos (z3.2 hall2),hall2];rfl
  ·rw [if_neg (fun h=>hall2 (z3.1 h)),List.take_of_length_le (by simp)]
   unfold Zz;rw [if_neg hall2];rfl
 ·rw [z1]
  unfold Ue at k1
  simp only [Ze.c,List.map_cons,List.map_nil,lpT,P5] at k1
  simp -implicitDefEqProofs [A,Ze.c,hg1,hg2,c1,c2,c3,c4,c5,e0,hof,hrv,Zga,k3,k1,Gm,Zz]
 ·rw [z1]
  unfold Ue at k1
  simp only [Ze.c,List.map_cons,List.map_nil,lpT,P5] at k1
  have e1:List.take out.length (List.map Ev.c out)=List.map Ev.c out:=List.take_of_length_le (by simp)
  simp -implicitDefEqProofs [A,Ze.c,hg1,hg2,c1,c2,c3,c4,c5,e0,hof,hrv,Zga,k3,k1,Gm,Zz,z3,z4,e1]
end Go.Proofs.YtndfdnlbljhlgaaGreat
