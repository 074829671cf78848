/- Part of the proof: what the functions answer, part 8. No conditions. -/
import Derived.Test.YtndfdnlbljhlgaaGreatSPJ7
import Derived.Test.YtndfdnlbljhlgaaGreatSPJ2
import Derived.Test.YtndfdnlbljhlgaaGreatSPJ5
import Derived.Test.YtndfdnlbljhlgaaGreatSPJ6
import Derived.KernelRfl
set_option linter.unusedSimpArgs false
set_option linter.unusedVariables false
set_option maxHeartbeats 4000000
set_option maxRecDepth 20000
namespace Go.Proofs.YtndfdnlbljhlgaaGreat
open Go Go.AM Go.Proofs
theorem Z3m {n:Nat} (h:n≤5000):n+1≤140737488355328∧(n+1)*120≤140737488355328∧n+1+1≤140737488355328∧(n+1+1)*120≤140737488355328:=by omega
theorem Z56 {n:Nat} (h:n≤5000):n+1≤140737488355328∧(n+1)*16≤140737488355328∧n+1+1≤140737488355328∧(n+1+1)*16≤140737488355328:=by omega
theorem Z3n (w y:Int) (ys:List Int) (X:AV) (H:List Blk) (b0 b1 b2 b3 b4 b5 b6 b7 b8 b9 b11 b12:Blk) :
  Ya (EvF tab) H Fs [1,8,13,14,18] ⟨[(1,I w),(8,.ptr (H.length+4) 0),(13,.ptr (H.length+10) 0),(14,.g (.sl 1 ((y::ys).map Ints.c))),(18,I 0)],[],[b0,b1,b2,b3,b4,b5,b6,b7,b8,b9,.cells [X,.g .nsl],b11,b12]⟩ =
   some (.exit 2,⟨[(1,I w),(8,.ptr (H.length+4) 0),(13,.ptr (H.length+10) 0),(14,.g (.sl 1 ((y::ys).map Ints.c))),(18,I 0),(107,B false)],[],[b0,b1,b2,b3,b4,b5,b6,b7,b8,b9,.cells [X,.g .nsl],b11,b12]⟩):=by
 refine Wp _ _ _ _ _ _ (by simp) ?_
 delta Fs;simp -implicitDefEqProofs
theorem Bu (w y:Int):∀l:List Zn,X8 l w=false→Yy l w y=l++[⟨w,y⟩]
 | [],_=>rfl
 | f::l,h=>by
  unfold X8 at h
  rw [List.any_cons,Bool.or_eq_false_iff,decide_eq_false_iff_not] at h
  unfold Yy
  rw [if_neg h.1,Bu w y l h.2];rfl
theorem Zul (m:Zi) (w q:Int) (r:Zj) (hl:m.l.l.length+m.old.l.length≤5000) (H:List Blk) :
  EvF tab 53 [A m.c,I w,I q,A r.c] H=some ⟨.tup [A (Mk m w q r).c,I (Ek m w q)],[],[]⟩:=by
 have h1:=fun H=>Zdv m w q (by omega) H
 refine Zb t53 (by simp) ?_
 obtain ⟨ml,mo⟩:=m
 unfold Mk Ek
 simp only at hl h1 ⊢
 obtain ⟨lk,hlk⟩:∃lk,Yn ml.l mo.l w q=lk:=⟨_,rfl⟩
 have hz:=Zaj ml.l mo.l w q
 rw [hlk] at h1 hz ⊢
 obtain ⟨lr,li,le⟩:=lk
 simp only at h1 hz ⊢
 obtain ⟨p1,p2,p3,p4,p5,p6,p7,p8,p9⟩:=lr
 have hvl:∀h s,Vs h s 11 (.g (MemoL.g ml))=some (ml.l.map Zm.c):=fun h s=>M3 ..
 have hvo:∀h s,Vs h s 2 (.g (Floors.g mo))=some (mo.l.map Zn.c):=fun h s=>M3 ..
 cases li
 ·simp only [Bool.false_eq_true,false_or,if_false]
  by_cases he:le=0
  ·subst he
   simp only [ne_eq,not_true_eq_false,if_false]
   obtain ⟨L,hL⟩:∃L,Z5 ml.l w q r=L:=⟨_,rfl⟩
   have hLl:L.length=ml.l.length+1:=by rw [←hL];simp [Z5]
   have hLm:L.map Zm.c=ml.l.map Zm.c++[Zm.c ⟨w,q,r⟩]:=by rw [←hL];simp [Z5]
   have hne:Yj L w ≠ []:=by
    intro e
    have:q∈Yj L w:=by
     unfold Yj
     rw [(Wv _).mem_iff]
     unfold Xo
     rw [List.mem_map]
     exact ⟨⟨w,q,r⟩,by rw [List.mem_filter,←hL];simp [Z5],rfl⟩
    rw [e] at this;simp at this
   rw [hL]
   obtain ⟨y,ys,hys⟩:∃y ys,Yj L w=y::ys:=by
    cases h:Yj L w with
    | nil=>exact absurd h hne
    | cons y ys=>exact ⟨y,ys,rfl⟩
   have h3:=fun a2 (ha2:AV.leaf a2=true) g H id (hid:H[id]? = some (Blk.rows 11 g (L.map Zm.c)))=>Zpi L a2 w (by omega) ha2 (g:=g) hid
   rw [hys] at h3 ⊢
   have hgs:Ints.g (Zz (y::ys)) = .sl 1 ((y::ys).map Ints.c):=rfl
   rw [hgs] at h3
   simp only [Te]
   obtain ⟨r1,r2,r3,r4,r5,r6,r7,r8,r9⟩:=r
   simp only [A,Zi.c,Zj.c,List.map_cons,List.map_nil,Zm.c] at h1 hLm ⊢
   have h30:=fun a2 (ha2:AV.leaf a2=true) g (b0 b1 b2 b3 b4 b5 b6 b7 b8 b9 b10:Blk)=>h3 a2 ha2 g (H++[b0,b1,b2,b3,b4,b5,b6,b7,b8,b9,b10,.rows 11 g (L.map Zm.c)]) (H.length+11) (by rw [List.getElem?_append_right (by omega),Nat.add_sub_cancel_left];rfl)
   have h31:=fun a2 (ha2:AV.leaf a2=true) g (b0 b1 b2 b3 b4 b5 b6 b7 b8 b9 b10 b12:Blk)=>h3 a2 ha2 g (H++[b0,b1,b2,b3,b4,b5,b6,b7,b8,b9,b10,.rows 11 g (L.map Zm.c),b12]) (H.length+11) (by rw [List.getElem?_append_right (by omega),Nat.add_sub_cancel_left];rfl)
   clear h3
   generalize hG1:MemoL.g ml=G1 at h1 hvl ⊢
   generalize hG2:Floors.g mo=G2 at h1 hvo ⊢
   have eL:List.take L.length (List.map Zm.c L)=List.map Zm.c L:=List.take_of_length_le (by simp)
   have hk:=fun a2 g b0 b1 b2 b3 b4 b5 b6 b7 b8 b9=>Br L w y ys g a2 (.ptr (H.length+4) 0) (by omega) (H:=H) (P:=[b0,b1,b2,b3,b4,b5,b6,b7,b8,b9,.cells [.ms (H.length+11) g 11 0 L.length,a2],.rows 11 g (L.map Zm.c)]) rfl rfl
   have hk2:=fun a2 g b0 b1 b2 b3 b4 b5 b6 b7 b8 b9 b12=>Br L w y ys g a2 (.ptr (H.length+4) 0) (by omega) (H:=H) (P:=[b0,b1,b2,b3,b4,b5,b6,b7,b8,b9,.cells [.ms (H.length+11) g 11 0 L.length,a2],.rows 11 g (L.map Zm.c),b12]) rfl rfl
   simp only [List.length_cons,List.length_nil,List.cons_append,List.nil_append,Nat.reduceAdd,List.map_cons,Ints.c] at hk hk2
   obtain ⟨gone,hgone⟩:∃b,(L.foldl (P3 w y) ([],false)).2=b:=⟨_,rfl⟩
   rw [hgone] at hk hk2
   obtain ⟨KL,hKL⟩:∃KL,Tq L w y=KL:=⟨_,rfl⟩
   rw [hKL] at hk hk2 ⊢
   have hKn:KL.length≤10000:=by rw [←hKL];unfold Tq;have:=List.length_eraseIdx_le L (Rk w y L);omega
   have hKn2:L.length≤KL.length+1:=by rw [←hKL];unfold Tq;rw [List.length_eraseIdx];split <;> omega
   have eK:List.take KL.length (List.map Zm.c KL)=List.map Zm.c KL:=List.take_of_length_le (by simp)
   by_cases hml:ml.l=[]
   ·have h4:(y::ys).length≤4:=by
     have hsl:(Yj L w).length≤L.length:=by unfold Yj Xo;rw [W5,List.length_map];exact List.length_filter_le ..
     have:ml.l.length=0:=by rw [hml];rfl
     rw [hys] at hsl;omega
    have h4I:((ys.length:Int)+1)≤4:=by simp only [List.length_cons] at h4;omega
    rw [if_pos h4]
    rw [hml] at hvl hLm hLl
    simp only [List.map_nil,List.length_nil,Nat.zero_add,List.nil_append] at hvl hLm hLl
    by_cases hmo:mo.l=[]
    ·rw [hmo] at hvo
     simp only [List.map_nil] at hvo
     have h3n:=fun b0 b1 b2 b3 b4 b5 b6 b7 b8 b9 b10=>h30 (.g .nsl) rfl 2 b0 b1 b2 b3 b4 b5 b6 b7 b8 b9 b10
     clear h30 h31 hk hk2
     rw [hLm,hLl] at h3n
     simp -implicitDefEqProofs [h1,hvl,hvo,h3n,h4I,Yh,room,Zx,A,Zi.c,Zj.c,AV.leaf]
     exact ⟨hLm.symm,by rw [hmo];rfl⟩
    ·obtain ⟨z,zs,hz2⟩:∃z zs,mo.l.map Zn.c=z::zs:=by
      cases h:mo.l with
      | nil=>exact absurd h hmo
      | cons a b=>exact ⟨_,_,rfl⟩
     have hzl:zs.length+1=mo.l.length:=by have:=congrArg List.length hz2;simp at this;omega
     rw [hz2] at hvo
     have n1:zs.length+1≤140737488355328:=by omega
     have n2:(zs.length+1)*16≤140737488355328:=by omega
     have h3n:=fun b0 b1 b2 b3 b4 b5 b6 b7 b8 b9 b10 b12=>h31 (.ms (H.length+12) 2 2 0 (zs.length+1)) rfl 2 b0 b1 b2 b3 b4 b5 b6 b7 b8 b9 b10 b12
     clear h30 h31 hk hk2
     rw [hLm,hLl] at h3n
     have eZ:List.take (zs.length+1) (z::zs)=z::zs:=List.take_of_length_le (by simp)
     simp -implicitDefEqProofs [h1,hvl,hvo,h3n,h4I,Yh,room,Zx,n1,n2,eZ,A,Zi.c,Zj.c,AV.leaf]
     exact ⟨hLm.symm,by rw [Zz,if_neg hmo,←hz2];rfl⟩
   ·obtain ⟨x,xs,hx2⟩:∃x xs,ml.l.map Zm.c=x::xs:=by
     cases h:ml.l with
     | nil=>exact absurd h hml
     | cons a b=>exact ⟨_,_,rfl⟩
    have hxl:xs.length+1=ml.l.length:=by have:=congrArg List.length hx2;simp at this;omega
    rw [hx2] at hvl hLm
    have hLl2:L.length=xs.length+1+1:=by omega
    have n0:xs.length≤5000:=by omega
    obtain ⟨n1,n2,n3,n4⟩:=Z3m n0
    rw [List.cons_append] at hLm
    have hdel:(Tq L w y).length=KL.length:=by rw [hKL]
    by_cases hmo:mo.l=[]
    ·rw [hmo] at hvo
     simp only [List.map_nil] at hvo
     have h3n:=fun b0 b1 b2 b3 b4 b5 b6 b7 b8 b9 b10=>h30 (.g .nsl) rfl 3 b0 b1 b2 b3 b4 b5 b6 b7 b8 b9 b10
     have hkn:=fun b0 b1 b2 b3 b4 b5 b6 b7 b8 b9=>hk (.g .nsl) 3 b0 b1 b2 b3 b4 b5 b6 b7 b8 b9
     clear h30 h31 hk hk2
     rw [hLm,hLl2] at h3n hkn
     by_cases h4:(y::ys).length≤4
     ·have h4I:((ys.length:Int)+1)≤4:=by simp only [List.length_cons] at h4;omega
      rw [if_pos h4]
      simp -implicitDefEqProofs [h1,hvl,hvo,h3n,h4I,Yh,room,Zx,n1,n2,n3,n4,Nat.not_succ_le_self,A,Zi.c,Zj.c,Ints.c,AV.leaf]
      exact ⟨by rw [hLm];congr 1;exact List.take_of_length_le (by simp),by rw [hmo];rfl⟩
     ·have hKn2:0<KL.length:=by omega
      have h4I:¬((ys.length:Int)+1)≤4:=by simp only [List.length_cons] at h4;omega
      rw [if_neg h4]
      have hf:=fun X b0 b1 b2 b3 b4 b5 b6 b7 b8 b9 b11 b12=>Z3n w y ys X H b0 b1 b2 b3 b4 b5 b6 b7 b8 b9 b11 b12
      simp only [List.map_cons,Ints.c] at hf
      simp -implicitDefEqProofs [h1,hvl,hvo,h3n,hkn,hf,h4I,Yh,room,Zx,n1,n2,n3,n4,Nat.not_succ_le_self,A,Zi.c,Zj.c,Ints.c,AV.leaf]
      have hK0:KL ≠ []:=by intro e;rw [e] at hKn2;simp at hKn2
      exact ⟨by rw [if_neg hK0,eK],by rw [hmo];rfl⟩
    ·obtain ⟨z,zs,hz2⟩:∃z zs,mo.l.map Zn.c=z::zs:=by
      cases h:mo.l with
      | nil=>exact absurd h hmo
      | cons a b=>exact ⟨_,_,rfl⟩
     have hzl:zs.length+1=mo.l.length:=by have:=congrArg List.length hz2;simp at this;omega
     rw [hz2] at hvo
     have k0:zs.length≤5000:=by omega
     obtain ⟨k1,k2,k3,k4⟩:=Z56 k0
     have h3n:=fun b0 b1 b2 b3 b4 b5 b6 b7 b8 b9 b10 b12=>h31 (.ms (H.length+12) 2 2 0 (zs.length+1)) rfl 3 b0 b1 b2 b3 b4 b5 b6 b7 b8 b9 b10 b12
     have hkn:=fun b0 b1 b2 b3 b4 b5 b6 b7 b8 b9 b12=>hk2 (.ms (H.length+12) 2 2 0 (zs.length+1)) 3 b0 b1 b2 b3 b4 b5 b6 b7 b8 b9 b12
     clear h30 h31 hk hk2
     rw [hLm,hLl2] at h3n hkn
     have eZ:List.take (zs.length+1) (z::zs)=z::zs:=List.take_of_length_le (by simp)
     by_cases h4:(y::ys).length≤4
     ·have h4I:((ys.length:Int)+1)≤4:=by simp only [List.length_cons] at h4;omega
      rw [if_pos h4]
      simp -implicitDefEqProofs [h1,hvl,hvo,h3n,h4I,Yh,room,Zx,n1,n2,n3,n4,k1,k2,eZ,Nat.not_succ_le_self,A,Zi.c,Zj.c,Ints.c,AV.leaf]
      exact ⟨by rw [hLm];congr 1;exact List.take_of_length_le (by simp),by rw [Zz,if_neg hmo,←hz2];rfl⟩
     ·have hKn2:0<KL.length:=by omega
      have h4I:¬((ys.length:Int)+1)≤4:=by simp only [List.length_cons] at h4;omega
      rw [if_neg h4]
      have hf:=fun gK nK b0 b1 b2 b3 b5 b6 b7 b8 b9 b11 b13=>Z0u mo.l w y ys gK nK (by omega) hmo H b0 b1 b2 b3 .pend b5 b6 b7 b8 b9 b11 b13
      rw [hz2,←hzl] at hf
      simp only [List.map_cons,Ints.c] at hf
      by_cases hp:X8 mo.l w=true
      ·simp only [if_pos hp] at hf
       simp -implicitDefEqProofs [h1,hvl,hvo,h3n,hkn,hf,h4I,Yh,room,Zx,n1,n2,n3,n4,k1,k2,eZ,Nat.not_succ_le_self,A,Zi.c,Zj.c,Ints.c,AV.leaf]
       have hrl:(Yy mo.l w y).length=zs.length+1:=by have h:=congrArg List.length (Pg w y mo.l);rw [if_pos hp,List.length_map,List.length_map] at h;omega
       have hK0:KL ≠ []:=by intro e;rw [e] at hKn2;simp at hKn2
       exact ⟨by omega,by rw [if_neg hK0,eK],List.take_of_length_le (by rw [List.length_map];omega)⟩
      ·simp only [if_neg hp] at hf
       simp -implicitDefEqProofs [h1,hvl,hvo,h3n,hkn,hf,h4I,Yh,room,Zx,n1,n2,n3,n4,k1,k2,k3,k4,eZ,Nat.not_succ_le_self,A,Zi.c,Zj.c,Ints.c,AV.leaf]
       have hK0:KL ≠ []:=by intro e;rw [e] at hKn2;simp at hKn2
       exact ⟨by rw [if_neg hK0,eK],by rw [Bu w y mo.l (by simpa using hp),List.map_append,hz2];simp [Zn.c,List.take_of_length_le]⟩
  ·simp only [ne_eq,he,not_false_eq_true,if_true]
   obtain ⟨r1,r2,r3,r4,r5,r6,r7,r8,r9⟩:=r
   simp only [A,Zi.c,Zj.c,List.map_cons,List.map_nil] at h1 ⊢
   generalize MemoL.g ml=G1 at h1 ⊢
   generalize Floors.g mo=G2 at h1 ⊢
   simp -implicitDefEqProofs [h1,he,A,Zi.c,Zj.c]
 ·have:=hz rfl
  subst this
  simp only [true_or,if_true]
  obtain ⟨r1,r2,r3,r4,r5,r6,r7,r8,r9⟩:=r
  simp only [A,Zi.c,Zj.c,List.map_cons,List.map_nil] at h1 ⊢
  generalize MemoL.g ml=G1 at h1 ⊢
  generalize Floors.g mo=G2 at h1 ⊢
  simp -implicitDefEqProofs [h1,A,Zi.c,Zj.c]
theorem Zum (cs:Sl Cmp) (hc:cs.l.length≤9223372036854775807) (a1 a2 a3 a4:GV) (g2 g3:AV) (q2 q3 q5:Blk) (b1 b2 b3 b4:AV) (H:List Blk) :
  Ya (EvF tab) H Ax [2,3,4,8] ⟨[(2,.ptr H.length 0),(3,.ptr (H.length+1) 0),(4,.ptr (H.length+4) 0),(8,I 0)],[],[.cells [.g a1,.g a2,.g a3,.g a4],.cells [.g (Cmps.g cs),g2,g3],q2,q3,.cells [b1,b2,b3,b4],q5]⟩ =
   some (if Z7 Uz cs.l=true then (.exit 0,⟨[(2,.ptr H.length 0),(3,.ptr (H.length+1) 0),(4,.ptr (H.length+4) 0),(8,I cs.l.length),(35,B false)],[],[.cells [.g a1,.g a2,.g a3,.g a4],.cells [.g (Cmps.g cs),g2,g3],q2,q3,.cells [b1,b2,b3,b4],q5]⟩)
    else (.ret,⟨[(4,.ptr (H.length+4) 0),(5,B false),(6,.ms (H.length+6) 1 8 0 0),(7,I 1)],[],[.cells [.g a1,.g a2,.g a3,.g a4],.cells [.g (Cmps.g cs),g2,g3],q2,q3,.cells [.g a1,.g a2,.g a3,.g a4],q5,.rows 8 1 []]⟩)):=by
 refine Y4 (l:=cs.l) Uz (fun k=>⟨[(2,.ptr H.length 0),(3,.ptr (H.length+1) 0),(4,.ptr (H.length+4) 0),(8,I k)],[],[.cells [.g a1,.g a2,.g a3,.g a4],.cells [.g (Cmps.g cs),g2,g3],q2,q3,.cells [b1,b2,b3,b4],q5]⟩) _ _ (by simp) (by simp) (fun k c hk hx hy => ?_) (by delta Ax;cases cs <;> simp -implicitDefEqProofs)
 have e2:=Zh hk (by omega)
 delta Ax
 cases cs with
 | nil=>simp at hk
 | of l =>
  simp only [Sl.l_of] at hk hy
  unfold Uz
  obtain ⟨c1,w,h,c4,c5⟩:=c
  simp only
  by_cases h1:1≤w
  ·by_cases h2:w≤4
   ·by_cases h3:1≤h
    ·by_cases h4:h≤3
     ·simp -implicitDefEqProofs [hk,hy,Cmp.c,h1,h2,h3,h4,e2,show ¬w<1 by omega,show ¬4<w by omega,show ¬h<1 by omega,show ¬3<h by omega]
     ·simp -implicitDefEqProofs [hk,hy,Cmp.c,h1,h2,h3,h4,show ¬w<1 by omega,show ¬4<w by omega,show ¬h<1 by omega,show 3<h by omega]
    ·simp -implicitDefEqProofs [hk,hy,Cmp.c,h1,h2,h3,show ¬w<1 by omega,show ¬4<w by omega,show h<1 by omega]
   ·simp -implicitDefEqProofs [hk,hy,Cmp.c,h1,h2,show ¬w<1 by omega,show 4<w by omega]
  ·simp -implicitDefEqProofs [hk,hy,Cmp.c,h1,show w<1 by omega]
theorem Z3o (s:Ze) (t:Txn) (hs:Z8 s) (hr : -1≤s.rev∧s.rev≤1099511627774) (w:t.wf) (H:List Blk) :
  EvF tab 119 [A s.c,A t.c] H=some ⟨.tup [A (doS s t).c,B (doY s t),.g (Evs.g (doV s t)),I (doE s t)],[],[]⟩:=by
 have hn:=Vp s.rev s.log.l s.base.l
 have hs2:=hs
 unfold Z8 at hs2
 obtain ⟨⟨w1,w2⟩,⟨w3,w4⟩,⟨w5,w6⟩⟩:=w
 have m1:=fun H=>Kh s hs H
 have m2:=fun H=>Z0a (X0 s.base s.log.l s.rev) t.iff (by rw [U9];omega) w2 H
 rw [show (X0 s.base s.log.l s.rev).l=Y0 s from U9 ..,show Z7 (We (Y0 s)) t.iff.l=Zol s t from rfl] at m2
 generalize X0 s.base s.log.l s.rev=N at m1 m2
 have m3:=fun (hl:(doL s t).l.length≤4) H=>Cz s (doL s t) hs hr (fun m hm=>by
  unfold doL at hm
  split at hm
  ·exact (w3 m hm).1
  ·exact (w5 m hm).1) (by omega) H
 have hbad:Y9 s (doL s t).l ≠ 0→Xj s (doL s t).l=s∧Tj s (doL s t).l = .nil:=fun he=>Tk (by unfold Uq;rw [decide_eq_false he];rfl)
 refine Zb Yan (by simp) ?_
 unfold doS doY doV doE doOk Zhz
 obtain ⟨a1,a2,a3,a4,ha⟩:∃a1 a2 a3 a4,s.c=[a1,a2,a3,a4]:=⟨_,_,_,_,rfl⟩
 obtain ⟨b1,b2,b3,b4,hb⟩:∃a1 a2 a3 a4,(Xj s (doL s t).l).c=[a1,a2,a3,a4]:=⟨_,_,_,_,rfl⟩
 by_cases hl:t.iff.l.length≤4∧t.thn.l.length≤4∧t.els.l.length≤4
 ·obtain ⟨l1,l2,l3⟩:=hl
  have m3:=m3 (by unfold doL;split <;> assumption)
  have lp:=Zum t.iff w2 a1 a2 a3 a4 (.g (Muts.g t.thn)) (.g (Muts.g t.els)) (.rows 6 1 []) (.rows 8 1 []) (.rows 8 1 []) (I 0) (I 0) (.ms (H.length+2) 1 6 0 0) (.ms (H.length+3) 1 8 0 0) H
  rw [ha] at m1 m3 ⊢
  rw [hb] at m3
  generalize Y9 s (doL s t).l=e1 at m3 hbad ⊢
  generalize hv:Tj s (doL s t).l=v at m3 hbad ⊢
  generalize hgv:Evs.g v=gv at m3
  generalize hu:Xj s (doL s t).l=u at m3 hb hbad ⊢
  clear hv hu
  unfold doL at m3
  generalize Zol s t=y at m2 m3 ⊢
  obtain ⟨tif,tth,tel⟩:=t
  simp only [Txn.c,List.map_cons,List.map_nil,A] at l1 l2 l3 m1 m2 m3 lp ⊢
  generalize hk:Z7 Uz tif.l=k at lp ⊢
  have i1:¬(4:Int)<(tif.l.length:Int):=by omega
  have i2:¬(4:Int)<(tth.l.length:Int):=by omega
  have i3:¬(4:Int)<(tel.l.length:Int):=by omega
  cases k
  ·simp only [Bool.false_eq_true,if_false] at lp
   simp -implicitDefEqProofs [l1,l2,l3,i1,i2,i3,lp,ha]
  ·simp only [if_true] at lp
   by_cases he:e1=0
   ·cases y
    ·simp only [Bool.false_eq_true,if_false] at m3
     simp -implicitDefEqProofs [l1,l2,l3,i1,i2,i3,lp,ha,hb,hgv,m1,m2,m3,he]
    ·simp only [if_true] at m3
     simp -implicitDefEqProofs [l1,l2,l3,i1,i2,i3,lp,ha,hb,hgv,m1,m2,m3,he]
   ·obtain ⟨u1,u2⟩:=hbad he
    subst u1 u2
    rw [ha] at hb
    simp only [Evs.g,Sl.g_nil] at hgv
    cases y
    ·simp only [Bool.false_eq_true,if_false] at m3
     simp -implicitDefEqProofs [l1,l2,l3,i1,i2,i3,lp,ha,m1,m2,m3,he]
    ·simp only [if_true] at m3
     simp -implicitDefEqProofs [l1,l2,l3,i1,i2,i3,lp,ha,m1,m2,m3,he]
 ·rw [ha]
  obtain ⟨tif,tth,tel⟩:=t
  simp only [Txn.c,List.map_cons,List.map_nil,A] at hl ⊢
  by_cases l1:tif.l.length≤4
  ·have i1:¬(4:Int)<(tif.l.length:Int):=by omega
   by_cases l2:tth.l.length≤4
   ·have i2:¬(4:Int)<(tth.l.length:Int):=by omega
    by_cases l3:tel.l.length≤4
    ·exact absurd ⟨l1,l2,l3⟩ hl
    ·have i3:(4:Int)<(tel.l.length:Int):=by omega
     simp -implicitDefEqProofs [l1,l2,l3,i1,i2,i3,ha]
   ·have i2:(4:Int)<(tth.l.length:Int):=by omega
    simp -implicitDefEqProofs [l1,l2,i1,i2,ha]
  ·have i1:(4:Int)<(tif.l.length:Int):=by omega
   simp -implicitDefEqProofs [l1,i1,ha]
def R5 (k:Bs) (rev:Int):Cmp:=⟨k,1,1,rev,[]⟩
def Ml (k v:Bs) (lease:Int):Txn:=⟨.of [R5 k 0],.of [⟨false,k,v,lease⟩],.nil⟩
theorem Zii (k:Bs) (H:List Blk):EvF tab 49 [T k] H=some ⟨A (R5 k 0).c,[],[]⟩:=by
 refine Zb t49 (by simp) ?_
 simp -implicitDefEqProofs [A,R5,Cmp.c]
theorem Zlg (k v:Bs) (n:Int) (H:List Blk):EvF tab 19 [T k,T v,I n] H=some ⟨A (Ml k v n).c,[],[]⟩:=by
 have h1:=fun H=>Zii k H
 refine Zb t19 (by simp) ?_
 simp only [A,R5,Cmp.c,List.map_cons,List.map_nil] at h1
 simp -implicitDefEqProofs [A,R5,Cmp.c,Mut.c,Ml,Txn.c,h1,Zx]
theorem Zij (L:Zk) (s:Sl Mut) (hn:s.l.length≤9223372036854775807) (hL:L.l.l.length≤9223372036854775807) (H:List Blk) :
  Ya (EvF tab) H Aw [1,2,5] ⟨[(1,.g (Muts.g s)),(2,.ptr H.length 0),(5,I 0)],[],[.cells (L.c.map .g)]⟩ =
   some (if Z7 (Uj L.l.l) s.l=true then (.exit 0,⟨[(1,.g (Muts.g s)),(2,.ptr H.length 0),(5,I s.l.length),(9,B false)],[],[.cells (L.c.map .g)]⟩) else (.ret,⟨[(4,B false)],[],[.cells (L.c.map .g)]⟩)):=by
 refine Y4 (l:=s.l) (Uj L.l.l) (fun k=>⟨[(1,.g (Muts.g s)),(2,.ptr H.length 0),(5,I k)],[],[.cells (L.c.map .g)]⟩) _ _ (by simp) (by simp) (fun k x hk hx hy => ?_) (by delta Aw;cases s <;> simp -implicitDefEqProofs)
 have e2:=Zh hk hn
 have m1:=fun H=>Zkp L x.lease hL H
 unfold Uj
 generalize V1 x.lease L.l.l=b at m1 ⊢
 delta Aw
 obtain ⟨Ln,Ll⟩:=L
 obtain ⟨xg,xk,xv,xl⟩:=x
 simp only [A,Zk.c,List.map_cons,List.map_nil] at m1 ⊢
 generalize LeaseL.g Ll=GL at m1 ⊢
 cases s with
 | nil=>simp at hk
 | of l =>
  simp only [Sl.l_of] at hk hy e2 ⊢
  cases xg
  ·by_cases c1:xl=0
   ·subst c1
    simp -implicitDefEqProofs [m1,hk,hx,hy,e2,Mut.c]
   ·cases b
    ·simp -implicitDefEqProofs [m1,hk,hx,hy,e2,Mut.c,c1]
    ·simp -implicitDefEqProofs [m1,hk,hx,hy,e2,Mut.c,c1]
  ·simp -implicitDefEqProofs [m1,hk,hx,hy,e2,Mut.c]
theorem Ze8 (L:Zk) (s:Sl Mut) (hn:s.l.length≤9223372036854775807) (hL:L.l.l.length≤9223372036854775807) (H:List Blk):EvF tab 118 [A L.c,.g (Muts.g s)] H=some ⟨B (Z7 (Uj L.l.l) s.l),[],[]⟩:=by
 have hw:=Zij L s hn hL H
 refine Zb Yam (by simp) ?_
 generalize Muts.g s=G at hw ⊢
 generalize s.l.length=n at hw
 obtain ⟨Ln,Ll⟩:=L
 simp only [A,Zk.c,List.map_cons,List.map_nil] at hw ⊢
 cases hb:Z7 (Uj Ll.l) s.l <;> rw [hb] at hw <;> simp only [Bool.false_eq_true,if_true,if_false] at hw <;> simp -implicitDefEqProofs [hw]
theorem Zun {α:Type} (p:α→Bool) (a b:List α):Z7 p (a++b)=(Z7 p a&&Z7 p b):=by unfold Z7;exact List.all_append
def fr2 (s:Zf) (r:Req):Zf×Zj :=
 if r.kind=1 then (s,⟨atE s.st r.rev,r.who,r.seq,s.st.rev,0,0,false,Zz (Q1 (Dt s.st r.rev).l r.key),.nil⟩)
 else if r.kind=2 then (if (Z7 (Uj s.ls.l.l) r.thn.l&&Z7 (Uj s.ls.l.l) r.els.l)=true then (⟨doS s.st (Y6 r),s.ls,s.ms,s.clock⟩,⟨doE s.st (Y6 r),r.who,r.seq,(doS s.st (Y6 r)).rev,0,0,doY s.st (Y6 r),.nil,.nil⟩) else (s,Xg r 6))
 else if r.kind=3 then (s,⟨(Vw s.st r.key r.rev 30).2.2,r.who,r.seq,(Vw s.st r.key r.rev 30).2.1,0,0,false,.nil,Zz (Vw s.st r.key r.rev 30).1⟩)
 else if r.kind=4 then (⟨s.st,Ta s.ls r.ttl s.clock,s.ms,s.clock⟩,⟨Vf s.ls r.ttl s.clock,r.who,r.seq,0,So s.ls r.ttl s.clock,r.ttl,false,.nil,.nil⟩)
 else if r.kind=5 then (⟨s.st,Qr s.ls r.lease s.clock,s.ms,s.clock⟩,⟨Qd s.ls r.lease s.clock,r.who,r.seq,0,r.lease,Pz s.ls r.lease s.clock,false,.nil,.nil⟩)
 else if r.kind=6 then (S3 s r.lease,⟨Nr s r.lease,r.who,r.seq,(S3 s r.lease).st.rev,r.lease,0,false,.nil,.nil⟩)
 else if r.kind=7 then (⟨N0 s.st r.rev,s.ls,s.ms,s.clock⟩,⟨Pk s.st r.rev,r.who,r.seq,(N0 s.st r.rev).rev,0,0,false,.nil,.nil⟩)
 else (s,Xg r 1)
theorem Zuo {s:Zf} {r:Req} (h:Zo8 s r) (H:List Blk):EvF tab 52 [A s.c,A r.c] H=some ⟨.tup [A (fr2 s r).1.c,A (fr2 s r).2.c],[],[]⟩:=by
 have hO:=h.srv.st
 have hb:=hO.bl
 have hg:=hO.ll
 have hs:Z8 s.st:=by unfold Z8;omega
 have hrv:0≤s.st.rev∧s.st.rev≤1099511627774:=⟨by have:=hO.low0;have:=hO.lowr;omega,hO.revM⟩
 have hL:=(Ws.1 h.srv.ls).2.1
 obtain ⟨k1,k2,k3,k4,k5,k6,k7,k8,k9,k10,k11,k12⟩:=h.rw
 refine Zb t52 (by simp) ?_
 unfold fr2
 by_cases c1:r.kind=1
 ·rw [if_pos c1]
  have hla:(Dt s.st r.rev).l.length≤1000000:=by
   unfold Dt
   split
   ·rw [U9];have:=Vp (atV s.st r.rev) s.st.log.l s.st.base.l;omega
   ·simp
  have m1:=fun H=>Z3c s.st r.rev hs H
  have m2:=fun H=>Z0g (Dt s.st r.rev) r.key hla H
  generalize atE s.st r.rev=e at m1 ⊢
  generalize Zz (Q1 (Dt s.st r.rev).l r.key)=F at m2 ⊢
  generalize Dt s.st r.rev=N at m1 m2
  clear hla hs hrv hb hg hO hL h
  obtain ⟨⟨srev,Y5,Zy,Z3⟩,⟨Y7,ll⟩,⟨ml,mo⟩,clock⟩:=s
  obtain ⟨W9,Tw,Tx,Wz,Ty,Xu,Xv,Tr,Tz,Xw,X1,X2,X3⟩:=r
  simp only at c1
  subst c1
  simp only [A,Ze.c,Zk.c,Zf.c,Req.c,Zj.c,Txn.c,Y6,Xg,KVs.g,Evs.g,Sl.g_nil,List.map_cons,List.map_nil] at m1 m2 ⊢
  generalize Sl.g 6 KV.c Zy=G1 at m1 m2 ⊢
  generalize Sl.g 8 Ev.c Z3=G2 at m1 m2 ⊢
  generalize LeaseL.g ll=G3 at m1 m2 ⊢
  generalize MemoL.g ml=G4 at m1 m2 ⊢
  generalize Floors.g mo=G5 at m1 m2 ⊢
  generalize Cmps.g X1=R1 at m1 m2 ⊢
  generalize Muts.g X2=R2 at m1 m2 ⊢
  generalize Muts.g X3=R3 at m1 m2 ⊢
  generalize Sl.g 6 KV.c N=GN at m1 m2
  generalize Sl.g 6 KV.c F=GF at m2 ⊢
  simp -implicitDefEqProofs [m1,m2,Yf,X5]
 rw [if_neg c1]
 by_cases c2:r.kind=2
 ·rw [if_pos c2]
  have m1:=fun H=>Ze8 s.ls r.thn k11.2 (by omega) H
  have m2:=fun H=>Ze8 s.ls r.els k12.2 (by omega) H
  have m3:=fun H=>Z3o s.st (Y6 r) hs ⟨by omega,hrv.2⟩ ⟨k10,k11,k12⟩ H
  generalize Z7 (Uj s.ls.l.l) r.thn.l=b1 at m1 ⊢
  generalize Z7 (Uj s.ls.l.l) r.els.l=b2 at m2 ⊢
  generalize doS s.st (Y6 r)=D at m3 ⊢
  generalize doE s.st (Y6 r)=e at m3 ⊢
  generalize doY s.st (Y6 r)=y at m3 ⊢
  generalize doV s.st (Y6 r)=V at m3
  clear hs hrv hb hg hO hL h k1 k2 k3 k4 k5 k6 k7 k8 k9 k10 k11 k12
  obtain ⟨Ydn,Ydo,Z59,Yc5⟩:=D
  obtain ⟨⟨srev,Y5,Zy,Z3⟩,⟨Y7,ll⟩,⟨ml,mo⟩,clock⟩:=s
  obtain ⟨W9,Tw,Tx,Wz,Ty,Xu,Xv,Tr,Tz,Xw,X1,X2,X3⟩:=r
  simp only at c2
  subst c2
  cases b1
  ·simp only [Bool.false_and,Bool.false_eq_true,if_false]
   simp only [A,Ze.c,Zk.c,Zf.c,Req.c,Zj.c,Txn.c,Y6,Xg,KVs.g,Evs.g,Sl.g_nil,List.map_cons,List.map_nil] at m1 ⊢
   generalize Sl.g 6 KV.c Zy=G1 at m1 ⊢
   generalize Sl.g 8 Ev.c Z3=G2 at m1 ⊢
   generalize LeaseL.g ll=G3 at m1 ⊢
   generalize MemoL.g ml=G4 at m1 ⊢
   generalize Floors.g mo=G5 at m1 ⊢
   generalize Cmps.g X1=R1 at m1 ⊢
   generalize Muts.g X2=R2 at m1 ⊢
   generalize Muts.g X3=R3 at m1 ⊢
   simp -implicitDefEqProofs [m1,Yf,X5]
  ·cases b2
   ·simp only [Bool.and_false,Bool.false_eq_true,if_false]
    simp only [A,Ze.c,Zk.c,Zf.c,Req.c,Zj.c,Txn.c,Y6,Xg,KVs.g,Evs.g,Sl.g_nil,List.map_cons,List.map_nil] at m1 m2 ⊢
    generalize Sl.g 6 KV.c Zy=G1 at m1 m2 ⊢
    generalize Sl.g 8 Ev.c Z3=G2 at m1 m2 ⊢
    generalize LeaseL.g ll=G3 at m1 m2 ⊢
    generalize MemoL.g ml=G4 at m1 m2 ⊢
    generalize Floors.g mo=G5 at m1 m2 ⊢
    generalize Cmps.g X1=R1 at m1 m2 ⊢
    generalize Muts.g X2=R2 at m1 m2 ⊢
    generalize Muts.g X3=R3 at m1 m2 ⊢
    simp -implicitDefEqProofs [m1,m2,Yf,X5]
   ·simp only [Bool.and_self,if_true]
    simp only [A,Ze.c,Zk.c,Zf.c,Req.c,Zj.c,Txn.c,Y6,Xg,KVs.g,Evs.g,Sl.g_nil,List.map_cons,List.map_nil] at m1 m2 m3 ⊢
    generalize Sl.g 6 KV.c Zy=G1 at m1 m2 m3 ⊢
    generalize Sl.g 8 Ev.c Z3=G2 at m1 m2 m3 ⊢
    generalize LeaseL.g ll=G3 at m1 m2 m3 ⊢
    generalize MemoL.g ml=G4 at m1 m2 m3 ⊢
    generalize Floors.g mo=G5 at m1 m2 m3 ⊢
    generalize Cmps.g X1=R1 at m1 m2 m3 ⊢
    generalize Muts.g X2=R2 at m1 m2 m3 ⊢
    generalize Muts.g X3=R3 at m1 m2 m3 ⊢
    generalize Sl.g 6 KV.c Z59=D1 at m3 ⊢
    generalize Sl.g 8 Ev.c Yc5=D2 at m3 ⊢
    generalize Sl.g 8 Ev.c V=D3 at m3
    simp -implicitDefEqProofs [m1,m2,m3,Yf,X5]
 rw [if_neg c2]
 by_cases c3:r.kind=3
 ·rw [if_pos c3]
  have m1:=fun H=>Zo2 s.st r.key r.rev 30 hs (by omega) (by omega) H
  generalize Zz (Vw s.st r.key r.rev 30).1=F at m1 ⊢
  generalize (Vw s.st r.key r.rev 30).2.1=n at m1 ⊢
  generalize (Vw s.st r.key r.rev 30).2.2=e at m1 ⊢
  clear hs hrv hb hg hO hL h
  obtain ⟨⟨srev,Y5,Zy,Z3⟩,⟨Y7,ll⟩,⟨ml,mo⟩,clock⟩:=s
  obtain ⟨W9,Tw,Tx,Wz,Ty,Xu,Xv,Tr,Tz,Xw,X1,X2,X3⟩:=r
  simp only at c3
  subst c3
  simp only [A,Ze.c,Zk.c,Zf.c,Req.c,Zj.c,Txn.c,Y6,Xg,KVs.g,Evs.g,Sl.g_nil,List.map_cons,List.map_nil] at m1 ⊢
  generalize Sl.g 6 KV.c Zy=G1 at m1 ⊢
  generalize Sl.g 8 Ev.c Z3=G2 at m1 ⊢
  generalize LeaseL.g ll=G3 at m1 ⊢
  generalize MemoL.g ml=G4 at m1 ⊢
  generalize Floors.g mo=G5 at m1 ⊢
  generalize Cmps.g X1=R1 at m1 ⊢
  generalize Muts.g X2=R2 at m1 ⊢
  generalize Muts.g X3=R3 at m1 ⊢
  generalize Sl.g 8 Ev.c F=GF at m1 ⊢
  simp -implicitDefEqProofs [m1,Yf,X5]
 rw [if_neg c3]
 by_cases c4:r.kind=4
 ·rw [if_pos c4]
  have m1:=fun H=>Znm s.ls r.ttl s.clock (Zhb h.srv.ls) H
  generalize Ta s.ls r.ttl s.clock=L at m1 ⊢
  generalize So s.ls r.ttl s.clock=n at m1 ⊢
  generalize Vf s.ls r.ttl s.clock=e at m1 ⊢
  clear hs hrv hb hg hO hL h
  obtain ⟨Ln,Ll⟩:=L
  obtain ⟨⟨srev,Y5,Zy,Z3⟩,⟨Y7,ll⟩,⟨ml,mo⟩,clock⟩:=s
  obtain ⟨W9,Tw,Tx,Wz,Ty,Xu,Xv,Tr,Tz,Xw,X1,X2,X3⟩:=r
  simp only at c4
  subst c4
  simp only [A,Ze.c,Zk.c,Zf.c,Req.c,Zj.c,Txn.c,Y6,Xg,KVs.g,Evs.g,Sl.g_nil,List.map_cons,List.map_nil] at m1 ⊢
  generalize Sl.g 6 KV.c Zy=G1 at m1 ⊢
  generalize Sl.g 8 Ev.c Z3=G2 at m1 ⊢
  generalize LeaseL.g ll=G3 at m1 ⊢
  generalize MemoL.g ml=G4 at m1 ⊢
  generalize Floors.g mo=G5 at m1 ⊢
  generalize Cmps.g X1=R1 at m1 ⊢
  generalize Muts.g X2=R2 at m1 ⊢
  generalize Muts.g X3=R3 at m1 ⊢
  generalize LeaseL.g Ll=GL at m1 ⊢
  simp -implicitDefEqProofs [m1,Yf,X5]
 rw [if_neg c4]
 by_cases c5:r.kind=5
 ·rw [if_pos c5]
  have m1:=fun H=>Znn s.ls r.lease s.clock (Cp h.srv.ls) H
  generalize Qr s.ls r.lease s.clock=L at m1 ⊢
  generalize Pz s.ls r.lease s.clock=n at m1 ⊢
  generalize Qd s.ls r.lease s.clock=e at m1 ⊢
  clear hs hrv hb hg hO hL h
  obtain ⟨Ln,Ll⟩:=L
  obtain ⟨⟨srev,Y5,Zy,Z3⟩,⟨Y7,ll⟩,⟨ml,mo⟩,clock⟩:=s
  obtain ⟨W9,Tw,Tx,Wz,Ty,Xu,Xv,Tr,Tz,Xw,X1,X2,X3⟩:=r
  simp only at c5
  subst c5
  simp only [A,Ze.c,Zk.c,Zf.c,Req.c,Zj.c,Txn.c,Y6,Xg,KVs.g,Evs.g,Sl.g_nil,List.map_cons,List.map_nil] at m1 ⊢
  generalize Sl.g 6 KV.c Zy=G1 at m1 ⊢
  generalize Sl.g 8 Ev.c Z3=G2 at m1 ⊢
  generalize LeaseL.g ll=G3 at m1 ⊢
  generalize MemoL.g ml=G4 at m1 ⊢
  generalize Floors.g mo=G5 at m1 ⊢
  generalize Cmps.g X1=R1 at m1 ⊢
  generalize Muts.g X2=R2 at m1 ⊢
  generalize Muts.g X3=R3 at m1 ⊢
  generalize LeaseL.g Ll=GL at m1 ⊢
  simp -implicitDefEqProofs [m1,Yf,X5]
 rw [if_neg c5]
 by_cases c6:r.kind=6
 ·rw [if_pos c6]
  have m1:=fun H=>Zpd s r.lease h.srv.fit H
  generalize S3 s r.lease=R at m1 ⊢
  generalize Nr s r.lease=e at m1 ⊢
  clear hs hrv hb hg hO hL h
  obtain ⟨⟨srev',slow',sbase',slog'⟩,⟨lnext',ll'⟩,⟨ml',mo'⟩,clock'⟩:=R
  obtain ⟨⟨srev,Y5,Zy,Z3⟩,⟨Y7,ll⟩,⟨ml,mo⟩,clock⟩:=s
  obtain ⟨W9,Tw,Tx,Wz,Ty,Xu,Xv,Tr,Tz,Xw,X1,X2,X3⟩:=r
  simp only at c6
  subst c6
  simp only [A,Ze.c,Zk.c,Zf.c,Req.c,Zj.c,Txn.c,Y6,Xg,KVs.g,Evs.g,Sl.g_nil,List.map_cons,List.map_nil] at m1 ⊢
  generalize Sl.g 6 KV.c Zy=G1 at m1 ⊢
  generalize Sl.g 8 Ev.c Z3=G2 at m1 ⊢
  generalize LeaseL.g ll=G3 at m1 ⊢
  generalize MemoL.g ml=G4 at m1 ⊢
  generalize Floors.g mo=G5 at m1 ⊢
  generalize Cmps.g X1=R1 at m1 ⊢
  generalize Muts.g X2=R2 at m1 ⊢
  generalize Muts.g X3=R3 at m1 ⊢
  generalize Sl.g 6 KV.c sbase'=T1 at m1 ⊢
  generalize Sl.g 8 Ev.c slog'=T2 at m1 ⊢
  generalize LeaseL.g ll'=T3 at m1 ⊢
  generalize MemoL.g ml'=T4 at m1 ⊢
  generalize Floors.g mo'=T5 at m1 ⊢
  simp -implicitDefEqProofs [m1,Yf,X5]
 rw [if_neg c6]
 by_cases c7:r.kind=7
 ·rw [if_pos c7]
  have m1:=fun H=>Ew s.st r.rev hs H
  generalize N0 s.st r.rev=R at m1 ⊢
  generalize Pk s.st r.rev=e at m1 ⊢
  clear hs hrv hb hg hO hL h
  obtain ⟨srev',slow',sbase',slog'⟩:=R
  obtain ⟨⟨srev,Y5,Zy,Z3⟩,⟨Y7,ll⟩,⟨ml,mo⟩,clock⟩:=s
  obtain ⟨W9,Tw,Tx,Wz,Ty,Xu,Xv,Tr,Tz,Xw,X1,X2,X3⟩:=r
  simp only at c7
  subst c7
  simp only [A,Ze.c,Zk.c,Zf.c,Req.c,Zj.c,Txn.c,Y6,Xg,KVs.g,Evs.g,Sl.g_nil,List.map_cons,List.map_nil] at m1 ⊢
  generalize Sl.g 6 KV.c Zy=G1 at m1 ⊢
  generalize Sl.g 8 Ev.c Z3=G2 at m1 ⊢
  generalize LeaseL.g ll=G3 at m1 ⊢
  generalize MemoL.g ml=G4 at m1 ⊢
  generalize Floors.g mo=G5 at m1 ⊢
  generalize Cmps.g X1=R1 at m1 ⊢
  generalize Muts.g X2=R2 at m1 ⊢
  generalize Muts.g X3=R3 at m1 ⊢
  generalize Sl.g 6 KV.c sbase'=T1 at m1 ⊢
  generalize Sl.g 8 Ev.c slog'=T2 at m1 ⊢
  simp -implicitDefEqProofs [m1,Yf,X5]
 rw [if_neg c7]
 clear hs hrv hb hg hO hL h
 obtain ⟨⟨srev,Y5,Zy,Z3⟩,⟨Y7,ll⟩,⟨ml,mo⟩,clock⟩:=s
 obtain ⟨W9,Tw,Tx,Wz,Ty,Xu,Xv,Tr,Tz,Xw,X1,X2,X3⟩:=r
 simp only [A,Ze.c,Zk.c,Zf.c,Req.c,Zj.c,Txn.c,Y6,Xg,KVs.g,Evs.g,Sl.g_nil,List.map_cons,List.map_nil] at c1 c2 c3 c4 c5 c6 c7 ⊢
 generalize Sl.g 6 KV.c Zy=G1
 generalize Sl.g 8 Ev.c Z3=G2
 generalize LeaseL.g ll=G3
 generalize MemoL.g ml=G4
 generalize Floors.g mo=G5
 generalize Cmps.g X1=R1
 generalize Muts.g X2=R2
 generalize Muts.g X3=R3
 simp -implicitDefEqProofs [c1,c2,c3,c4,c5,c6,c7,Yf,X5]
def doR (s:Zf) (r:Req):Zf×Zj :=
 if Tm r=true then
  if r.once=true∧(Yn s.ms.l.l s.ms.old.l r.who r.seq).2.1=true then (s,(Yn s.ms.l.l s.ms.old.l r.who r.seq).1)
  else if r.once=true∧(Yn s.ms.l.l s.ms.old.l r.who r.seq).2.2 ≠ 0 then (s,Xg r (Yn s.ms.l.l s.ms.old.l r.who r.seq).2.2)
  else if (fr2 s r).2.code ≠ 0 then (s,Xg r (fr2 s r).2.code)
  else if r.once=true then (⟨(fr2 s r).1.st,(fr2 s r).1.ls,Mk (fr2 s r).1.ms r.who r.seq (fr2 s r).2,(fr2 s r).1.clock⟩,(fr2 s r).2)
  else ((fr2 s r).1,(fr2 s r).2)
 else (s,Xg r 1)
theorem Zup (s:Zf) (r:Req):(fr2 s r).1.ms=s.ms:=by
 have:=(Ky (Tn.refl s) r.lease)
 have hk:(S3 s r.lease).ms=s.ms:=by unfold S3;split <;> rfl
 unfold fr2
 repeat' split
 all_goals first | rfl | exact hk
theorem Z0v {s:Zf} {r:Req} (h:Zo8 s r) (H:List Blk):EvF tab 22 [A s.c,A r.c] H=some ⟨.tup [A (doR s r).1.c,A (doR s r).2.c],[],[]⟩:=by
 have m1:=fun H=>Zh3 r (rl h.rw) H
 have m2:=fun H=>Zdv s.ms r.who r.seq (by have:=h.ml;omega) H
 have m3:=fun H=>Zuo h H
 have m4:=fun H=>Zul (fr2 s r).1.ms r.who r.seq (fr2 s r).2 (by rw [Zup];have:=h.ml;omega) H
 refine Zb t22 (by simp) ?_
 unfold doR
 clear h
 generalize Mk (fr2 s r).1.ms r.who r.seq (fr2 s r).2=K at m4 ⊢
 generalize Ek (fr2 s r).1.ms r.who r.seq=ke at m4
 generalize (fr2 s r).1=t at m3 m4 ⊢
 generalize (fr2 s r).2=p at m3 m4 ⊢
 generalize Yn s.ms.l.l s.ms.old.l r.who r.seq=lk at m2 ⊢
 generalize Tm r=ok at m1 ⊢
 obtain ⟨lr,li,le⟩:=lk
 obtain ⟨l1,l2,l3,l4,l5,l6,l7,l8,l9⟩:=lr
 obtain ⟨p1,p2,p3,p4,p5,p6,p7,p8,p9⟩:=p
 obtain ⟨⟨Yc2,Yc3,Hw,Zfa⟩,⟨Z58,tl⟩,⟨tml,tmo⟩,Z3q⟩:=t
 obtain ⟨kml,kmo⟩:=K
 obtain ⟨⟨srev,Y5,Zy,Z3⟩,⟨Y7,ll⟩,⟨ml,mo⟩,clock⟩:=s
 obtain ⟨W9,Tw,Tx,Wz,Ty,Xu,Xv,Tr,Tz,Xw,X1,X2,X3⟩:=r
 simp only at m2 m3 m4 ⊢
 cases ok
 ·simp only [Bool.false_eq_true,if_false]
  simp only [A,Ze.c,Zk.c,Zi.c,Zf.c,Req.c,Zj.c,Xg,KVs.g,Evs.g,Sl.g_nil,List.map_cons,List.map_nil] at m1 m2 m3 m4 ⊢
  generalize Sl.g 6 KV.c Zy=G1 at m1 m2 m3 m4 ⊢
  generalize Sl.g 8 Ev.c Z3=G2 at m1 m2 m3 m4 ⊢
  generalize LeaseL.g ll=G3 at m1 m2 m3 m4 ⊢
  generalize MemoL.g ml=G4 at m1 m2 m3 m4 ⊢
  generalize Floors.g mo=G5 at m1 m2 m3 m4 ⊢
  generalize Cmps.g X1=R1 at m1 m2 m3 m4 ⊢
  generalize Muts.g X2=R2 at m1 m2 m3 m4 ⊢
  generalize Muts.g X3=R3 at m1 m2 m3 m4 ⊢
  generalize Sl.g 6 KV.c Hw=T1 at m3 ⊢
  generalize Sl.g 8 Ev.c Zfa=T2 at m3 ⊢
  generalize LeaseL.g tl=T3 at m3 ⊢
  generalize MemoL.g tml=T4 at m3 m4 ⊢
  generalize Floors.g tmo=T5 at m3 m4 ⊢
  generalize Sl.g 6 KV.c p8=P1 at m3 m4 ⊢
  generalize Sl.g 8 Ev.c p9=P2 at m3 m4 ⊢
  generalize Sl.g 6 KV.c l8=L1 at m2 ⊢
  generalize Sl.g 8 Ev.c l9=L2 at m2 ⊢
  generalize MemoL.g kml=K1 at m4 ⊢
  generalize Floors.g kmo=K2 at m4 ⊢
  simp -implicitDefEqProofs [m1,Yf,X5]
 simp only [if_true]
 cases Wz
 ·simp only [Bool.false_eq_true,false_and,if_false]
  by_cases hc:p1=0
  ·rw [if_neg (by omega)]
   subst hc
   simp only [A,Ze.c,Zk.c,Zi.c,Zf.c,Req.c,Zj.c,Xg,KVs.g,Evs.g,Sl.g_nil,List.map_cons,List.map_nil] at m1 m2 m3 m4 ⊢
   generalize Sl.g 6 KV.c Zy=G1 at m1 m2 m3 m4 ⊢
   generalize Sl.g 8 Ev.c Z3=G2 at m1 m2 m3 m4 ⊢
   generalize LeaseL.g ll=G3 at m1 m2 m3 m4 ⊢
   generalize MemoL.g ml=G4 at m1 m2 m3 m4 ⊢
   generalize Floors.g mo=G5 at m1 m2 m3 m4 ⊢
   generalize Cmps.g X1=R1 at m1 m2 m3 m4 ⊢
   generalize Muts.g X2=R2 at m1 m2 m3 m4 ⊢
   generalize Muts.g X3=R3 at m1 m2 m3 m4 ⊢
   generalize Sl.g 6 KV.c Hw=T1 at m3 ⊢
   generalize Sl.g 8 Ev.c Zfa=T2 at m3 ⊢
   generalize LeaseL.g tl=T3 at m3 ⊢
   generalize MemoL.g tml=T4 at m3 m4 ⊢
   generalize Floors.g tmo=T5 at m3 m4 ⊢
   generalize Sl.g 6 KV.c p8=P1 at m3 m4 ⊢
   generalize Sl.g 8 Ev.c p9=P2 at m3 m4 ⊢
   generalize Sl.g 6 KV.c l8=L1 at m2 ⊢
   generalize Sl.g 8 Ev.c l9=L2 at m2 ⊢
   generalize MemoL.g kml=K1 at m4 ⊢
   generalize Floors.g kmo=K2 at m4 ⊢
   simp -implicitDefEqProofs [m1,m3,Yf,X5]
  ·rw [if_pos hc]
   simp only [A,Ze.c,Zk.c,Zi.c,Zf.c,Req.c,Zj.c,Xg,KVs.g,Evs.g,Sl.g_nil,List.map_cons,List.map_nil] at m1 m2 m3 m4 ⊢
   generalize Sl.g 6 KV.c Zy=G1 at m1 m2 m3 m4 ⊢
   generalize Sl.g 8 Ev.c Z3=G2 at m1 m2 m3 m4 ⊢
   generalize LeaseL.g ll=G3 at m1 m2 m3 m4 ⊢
   generalize MemoL.g ml=G4 at m1 m2 m3 m4 ⊢
   generalize Floors.g mo=G5 at m1 m2 m3 m4 ⊢
   generalize Cmps.g X1=R1 at m1 m2 m3 m4 ⊢
   generalize Muts.g X2=R2 at m1 m2 m3 m4 ⊢
   generalize Muts.g X3=R3 at m1 m2 m3 m4 ⊢
   generalize Sl.g 6 KV.c Hw=T1 at m3 ⊢
   generalize Sl.g 8 Ev.c Zfa=T2 at m3 ⊢
   generalize LeaseL.g tl=T3 at m3 ⊢
   generalize MemoL.g tml=T4 at m3 m4 ⊢
   generalize Floors.g tmo=T5 at m3 m4 ⊢
   generalize Sl.g 6 KV.c p8=P1 at m3 m4 ⊢
   generalize Sl.g 8 Ev.c p9=P2 at m3 m4 ⊢
   generalize Sl.g 6 KV.c l8=L1 at m2 ⊢
   generalize Sl.g 8 Ev.c l9=L2 at m2 ⊢
   generalize MemoL.g kml=K1 at m4 ⊢
   generalize Floors.g kmo=K2 at m4 ⊢
   simp -implicitDefEqProofs [m1,m3,hc,Yf,X5]
 ·simp only [true_and,if_true]
  cases li
  ·simp only [Bool.false_eq_true,if_false]
   by_cases he:le=0
   ·subst he
    rw [if_neg (by omega)]
    by_cases hc:p1=0
    ·rw [if_neg (by omega)]
     subst hc
     simp only [A,Ze.c,Zk.c,Zi.c,Zf.c,Req.c,Zj.c,Xg,KVs.g,Evs.g,Sl.g_nil,List.map_cons,List.map_nil] at m1 m2 m3 m4 ⊢
     generalize Sl.g 6 KV.c Zy=G1 at m1 m2 m3 m4 ⊢
     generalize Sl.g 8 Ev.c Z3=G2 at m1 m2 m3 m4 ⊢
     generalize LeaseL.g ll=G3 at m1 m2 m3 m4 ⊢
     generalize MemoL.g ml=G4 at m1 m2 m3 m4 ⊢
     generalize Floors.g mo=G5 at m1 m2 m3 m4 ⊢
     generalize Cmps.g X1=R1 at m1 m2 m3 m4 ⊢
     generalize Muts.g X2=R2 at m1 m2 m3 m4 ⊢
     generalize Muts.g X3=R3 at m1 m2 m3 m4 ⊢
     generalize Sl.g 6 KV.c Hw=T1 at m3 ⊢
     generalize Sl.g 8 Ev.c Zfa=T2 at m3 ⊢
     generalize LeaseL.g tl=T3 at m3 ⊢
     generalize MemoL.g tml=T4 at m3 m4 ⊢
     generalize Floors.g tmo=T5 at m3 m4 ⊢
     generalize Sl.g 6 KV.c p8=P1 at m3 m4 ⊢
     generalize Sl.g 8 Ev.c p9=P2 at m3 m4 ⊢
     generalize Sl.g 6 KV.c l8=L1 at m2 ⊢
     generalize Sl.g 8 Ev.c l9=L2 at m2 ⊢
     generalize MemoL.g kml=K1 at m4 ⊢
     generalize Floors.g kmo=K2 at m4 ⊢
     simp -implicitDefEqProofs [m1,m2,m3,m4,Yf,X5]
    ·rw [if_pos hc]
     simp only [A,Ze.c,Zk.c,Zi.c,Zf.c,Req.c,Zj.c,Xg,KVs.g,Evs.g,Sl.g_nil,List.map_cons,List.map_nil] at m1 m2 m3 m4 ⊢
     generalize Sl.g 6 KV.c Zy=G1 at m1 m2 m3 m4 ⊢
     generalize Sl.g 8 Ev.c Z3=G2 at m1 m2 m3 m4 ⊢
     generalize LeaseL.g ll=G3 at m1 m2 m3 m4 ⊢
     generalize MemoL.g ml=G4 at m1 m2 m3 m4 ⊢
     generalize Floors.g mo=G5 at m1 m2 m3 m4 ⊢
     generalize Cmps.g X1=R1 at m1 m2 m3 m4 ⊢
     generalize Muts.g X2=R2 at m1 m2 m3 m4 ⊢
     generalize Muts.g X3=R3 at m1 m2 m3 m4 ⊢
     generalize Sl.g 6 KV.c Hw=T1 at m3 ⊢
     generalize Sl.g 8 Ev.c Zfa=T2 at m3 ⊢
     generalize LeaseL.g tl=T3 at m3 ⊢
     generalize MemoL.g tml=T4 at m3 m4 ⊢
     generalize Floors.g tmo=T5 at m3 m4 ⊢
     generalize Sl.g 6 KV.c p8=P1 at m3 m4 ⊢
     generalize Sl.g 8 Ev.c p9=P2 at m3 m4 ⊢
     generalize Sl.g 6 KV.c l8=L1 at m2 ⊢
     generalize Sl.g 8 Ev.c l9=L2 at m2 ⊢
     generalize MemoL.g kml=K1 at m4 ⊢
     generalize Floors.g kmo=K2 at m4 ⊢
     simp -implicitDefEqProofs [m1,m2,m3,hc,Yf,X5]
   ·rw [if_pos he]
    simp only [A,Ze.c,Zk.c,Zi.c,Zf.c,Req.c,Zj.c,Xg,KVs.g,Evs.g,Sl.g_nil,List.map_cons,List.map_nil] at m1 m2 m3 m4 ⊢
    generalize Sl.g 6 KV.c Zy=G1 at m1 m2 m3 m4 ⊢
    generalize Sl.g 8 Ev.c Z3=G2 at m1 m2 m3 m4 ⊢
    generalize LeaseL.g ll=G3 at m1 m2 m3 m4 ⊢
    generalize MemoL.g ml=G4 at m1 m2 m3 m4 ⊢
    generalize Floors.g mo=G5 at m1 m2 m3 m4 ⊢
    generalize Cmps.g X1=R1 at m1 m2 m3 m4 ⊢
    generalize Muts.g X2=R2 at m1 m2 m3 m4 ⊢
    generalize Muts.g X3=R3 at m1 m2 m3 m4 ⊢
    generalize Sl.g 6 KV.c Hw=T1 at m3 ⊢
    generalize Sl.g 8 Ev.c Zfa=T2 at m3 ⊢
    generalize LeaseL.g tl=T3 at m3 ⊢
    generalize MemoL.g tml=T4 at m3 m4 ⊢
    generalize Floors.g tmo=T5 at m3 m4 ⊢
    generalize Sl.g 6 KV.c p8=P1 at m3 m4 ⊢
    generalize Sl.g 8 Ev.c p9=P2 at m3 m4 ⊢
    generalize Sl.g 6 KV.c l8=L1 at m2 ⊢
    generalize Sl.g 8 Ev.c l9=L2 at m2 ⊢
    generalize MemoL.g kml=K1 at m4 ⊢
    generalize Floors.g kmo=K2 at m4 ⊢
    simp -implicitDefEqProofs [m1,m2,he,Yf,X5]
  ·simp only [if_true]
   simp only [A,Ze.c,Zk.c,Zi.c,Zf.c,Req.c,Zj.c,Xg,KVs.g,Evs.g,Sl.g_nil,List.map_cons,List.map_nil] at m1 m2 m3 m4 ⊢
   generalize Sl.g 6 KV.c Zy=G1 at m1 m2 m3 m4 ⊢
   generalize Sl.g 8 Ev.c Z3=G2 at m1 m2 m3 m4 ⊢
   generalize LeaseL.g ll=G3 at m1 m2 m3 m4 ⊢
   generalize MemoL.g ml=G4 at m1 m2 m3 m4 ⊢
   generalize Floors.g mo=G5 at m1 m2 m3 m4 ⊢
   generalize Cmps.g X1=R1 at m1 m2 m3 m4 ⊢
   generalize Muts.g X2=R2 at m1 m2 m3 m4 ⊢
   generalize Muts.g X3=R3 at m1 m2 m3 m4 ⊢
   generalize Sl.g 6 KV.c Hw=T1 at m3 ⊢
   generalize Sl.g 8 Ev.c Zfa=T2 at m3 ⊢
   generalize LeaseL.g tl=T3 at m3 ⊢
   generalize MemoL.g tml=T4 at m3 m4 ⊢
   generalize Floors.g tmo=T5 at m3 m4 ⊢
   generalize Sl.g 6 KV.c p8=P1 at m3 m4 ⊢
   generalize Sl.g 8 Ev.c p9=P2 at m3 m4 ⊢
   generalize Sl.g 6 KV.c l8=L1 at m2 ⊢
   generalize Sl.g 8 Ev.c l9=L2 at m2 ⊢
   generalize MemoL.g kml=K1 at m4 ⊢
   generalize Floors.g kmo=K2 at m4 ⊢
   simp -implicitDefEqProofs [m1,m2,Yf,X5]
theorem Z3p (s:Ze) (rev:Int):(Dt s rev).l=(atR s rev).l:=by
 unfold Dt atR
 split
 ·rw [U9,W0]
 ·rfl
theorem Tn.symm' {a b:Zf} (h:Tn a b):Tn b a:=⟨⟨h.st.1.symm,h.st.2.1.symm,h.st.2.2.1.symm,h.st.2.2.2.symm⟩,h.next.symm,h.ls.symm,h.ml.symm,h.mo.symm,h.ck.symm⟩
theorem Z0w (s:Zf) (r:Req):(fr2 s r).2.code=(Xk s r).1∧((Xk s r).1=0→Tn (Xk s r).2.1 (fr2 s r).1∧(Xk s r).2.2=(fr2 s r).2):=by
 unfold Xk fr2
 by_cases c1:r.kind=1
 ·simp only [if_pos c1]
  exact ⟨by trivial,fun h=>⟨.refl s,by rw [h,Z3p]⟩⟩
 simp only [if_neg c1]
 by_cases c2:r.kind=2
 ·simp only [if_pos c2]
  rw [Zun]
  by_cases hh:(Z7 (Uj s.ls.l.l) r.thn.l&&Z7 (Uj s.ls.l.l) r.els.l)=true
  ·simp only [if_pos hh]
   exact ⟨by trivial,fun h=>⟨.refl _,by rw [h]⟩⟩
  ·simp only [if_neg hh]
   exact ⟨by trivial,fun h=>absurd h (by omega)⟩
 simp only [if_neg c2]
 by_cases c3:r.kind=3
 ·simp only [if_pos c3]
  exact ⟨by trivial,fun h=>⟨.refl s,by rw [h]⟩⟩
 simp only [if_neg c3]
 by_cases c4:r.kind=4
 ·simp only [if_pos c4]
  exact ⟨by trivial,fun h=>⟨.refl _,by rw [h]⟩⟩
 simp only [if_neg c4]
 by_cases c5:r.kind=5
 ·simp only [if_pos c5]
  exact ⟨by trivial,fun h=>⟨.refl _,by rw [h]⟩⟩
 simp only [if_neg c5]
 by_cases c6:r.kind=6
 ·simp only [if_pos c6]
  have hs:=Ky (Tn.refl s) r.lease
  rw [Za3 (Tn.refl s),hs.st.1]
  exact ⟨by trivial,fun h=>⟨hs.symm',by rw [h]⟩⟩
 simp only [if_neg c6]
 by_cases c7:r.kind=7
 ·simp only [if_pos c7]
  have hs:=De (a:=s.st) (b:=s.st) ⟨rfl,rfl,rfl,rfl⟩ r.rev
  rw [hs.1]
  exact ⟨by trivial,fun h=>⟨⟨⟨hs.1.symm,hs.2.1.symm,hs.2.2.1.symm,hs.2.2.2.symm⟩,rfl,rfl,rfl,rfl,rfl⟩,by rw [h]⟩⟩
 simp only [if_neg c7]
 exact ⟨by simp [Xg],fun h=>absurd h (by omega)⟩
theorem Zuq (s:Zf) (r:Req):Tn (doP s r).1 (doR s r).1∧(doR s r).2=(doP s r).2:=by
 obtain ⟨h1,h2⟩:=Z0w s r
 unfold doP doR
 by_cases hr:Tm r=true
 case neg=>simp only [if_neg hr];exact ⟨.refl s,by trivial⟩
 simp only [if_pos hr]
 by_cases k1:r.once=true∧(Yn s.ms.l.l s.ms.old.l r.who r.seq).2.1=true
 ·simp only [if_pos k1];exact ⟨.refl s,by trivial⟩
 simp only [if_neg k1]
 by_cases k2:r.once=true∧(Yn s.ms.l.l s.ms.old.l r.who r.seq).2.2 ≠ 0
 ·simp only [if_pos k2];exact ⟨.refl s,by trivial⟩
 simp only [if_neg k2]
 rw [h1]
 by_cases k3:(Xk s r).1 ≠ 0
 ·simp only [if_pos k3];exact ⟨.refl s,by trivial⟩
 simp only [if_neg k3]
 obtain ⟨h3,h4⟩:=h2 (by omega)
 by_cases k4:r.once=true
 ·simp only [if_pos k4]
  rw [Ge,Zup,←h4]
  obtain ⟨e1,e2⟩:=Zuk s.ms r.who r.seq (Xk s r).2.2
  exact ⟨⟨h3.st,h3.next,h3.ls,e1,e2,h3.ck⟩,rfl⟩
 ·simp only [if_neg k4]
  exact ⟨h3,h4.symm⟩
def Di (l:List Int):List Int:=l.foldl (fun s n=>Tp n s) []
theorem Za5 (l:List Int):Yx l=Di l:=by
 have:=Nc l []
 rw [S8,List.nil_append] at this
 exact this.symm
def Ht (l:List Zm) (old:List Zn) (w s:Int):Zj×Bool×Int :=
 match Wx l w s with
 | some x=>(x.rep,true,0)
 | none=>if s≤Yd old w then (Kb,false,7) else if 8≤(Di (Ma l old)).length∧w∉Di (Ma l old) then (Kb,false,4) else (Kb,false,0)
theorem Zlh (l:List Zm) (old:List Zn) (w s:Int):Yn l old w s=Ht l old w s:=by
 unfold Yn Ht Yb
 rw [Za5]
 cases Wx l w s <;> rfl
def Zur (m:Zi) (w q:Int) (r:Zj):Zi :=
 if (Ht m.l.l m.old.l w q).2.1=true∨(Ht m.l.l m.old.l w q).2.2 ≠ 0 then m else
 if (Di (Xo (Z5 m.l.l w q r) w)).length≤4 then ⟨.of (Z5 m.l.l w q r),m.old⟩ else
  ⟨.of (Tq (Z5 m.l.l w q r) w (Te (Di (Xo (Z5 m.l.l w q r) w)))),.of (Yy m.old.l w (Te (Di (Xo (Z5 m.l.l w q r) w))))⟩
theorem Z0x (m:Zi) (w q:Int) (r:Zj):X6 m w q r=Zur m w q r:=by
 unfold X6 Zur Yj
 rw [Zlh,Za5]
def Z57 (l:List Zm) (old:List Zn):Bool:=match Ds old [] with | some F=>Zak F l [] []&&decide ((Di (Ma l old)).length≤8) | none=>false
theorem Zli (l:List Zm) (old:List Zn):Ox l old=Z57 l old:=by
 unfold Ox Z57 Yb
 rw [Za5]
 cases Ds old [] <;> rfl
def doC (s:Zf) (r:Req):Zf×Zj :=
 if Tm r=true then
  if r.once=true∧(Ht s.ms.l.l s.ms.old.l r.who r.seq).2.1=true then (s,(Ht s.ms.l.l s.ms.old.l r.who r.seq).1)
  else if r.once=true∧(Ht s.ms.l.l s.ms.old.l r.who r.seq).2.2 ≠ 0 then (s,Xg r (Ht s.ms.l.l s.ms.old.l r.who r.seq).2.2)
  else if (Xk s r).1 ≠ 0 then (s,Xg r (Xk s r).1)
  else if r.once=true then (⟨(Xk s r).2.1.st,(Xk s r).2.1.ls,Zur (Xk s r).2.1.ms r.who r.seq (Xk s r).2.2,(Xk s r).2.1.clock⟩,(Xk s r).2.2)
  else ((Xk s r).2.1,(Xk s r).2.2)
 else (s,Xg r 1)
theorem Hu (s:Zf) (r:Req):doP s r=doC s r:=by
 unfold doP doC
 simp only [Zlh,Z0x]
theorem Z0y (H:List Blk):EvF tab 48 [] H=some ⟨A (Ze.c ⟨0,0,.nil,.nil⟩),[],[]⟩:=by
 refine Zb t48 (by simp) ?_
 simp -implicitDefEqProofs [A,Ze.c]
def v0:Zf:=⟨⟨0,0,.nil,.nil⟩,⟨0,.nil⟩,⟨.nil,.nil⟩,0⟩
theorem Z0z (H:List Blk):EvF tab 18 [] H=some ⟨A v0.c,[],[]⟩:=by
 have m1:=Z0y
 refine Zb t18 (by simp) ?_
 simp only [A,Ze.c,Zf.c,v0,KVs.g,Evs.g,LeaseL.g,MemoL.g,Floors.g,Sl.g_nil,List.map_cons,List.map_nil] at m1 ⊢
 simp -implicitDefEqProofs [m1]
def rq (kind who seq:Int) (once:Bool) (key:Bs) (lease ttl:Int) (t:Txn):Req:=⟨kind,who,seq,once,key,[],lease,0,ttl,0,t.iff,t.thn,t.els⟩
def t0:Txn:=⟨.nil,.nil,.nil⟩
def pa:Zj:=⟨0,3,1,0,1,10,false,.nil,.nil⟩
def pb:Zj:=⟨0,3,2,1,0,0,true,.nil,.nil⟩
def ka:KV:=⟨[97],[118],1,1,1,1⟩
def v1:Zf:=⟨⟨0,0,.nil,.nil⟩,⟨1,.of [⟨1,10,10⟩]⟩,⟨.of [⟨3,1,pa⟩],.nil⟩,0⟩
def v2:Zf:=⟨⟨1,0,.nil,.of [⟨1,false,ka⟩]⟩,⟨1,.of [⟨1,10,10⟩]⟩,⟨.of [⟨3,1,pa⟩,⟨3,2,pb⟩],.nil⟩,0⟩
def v3:Zf:=⟨⟨1,0,.nil,.of [⟨1,false,ka⟩]⟩,⟨1,.of [⟨1,10,10⟩]⟩,⟨.of [⟨3,1,pa⟩,⟨3,2,pb⟩],.nil⟩,9⟩
def v4:Zf:=⟨⟨2,0,.nil,.of [⟨1,false,ka⟩,⟨2,true,ka⟩]⟩,⟨1,.nil⟩,⟨.of [⟨3,1,pa⟩,⟨3,2,pb⟩],.nil⟩,10⟩
def v5:Zf:=⟨⟨0,0,.nil,.nil⟩,⟨0,.nil⟩,⟨.nil,.nil⟩,-1⟩
def ra:Req:=rq 4 3 1 true [] 0 10 t0
def rb:Req:=rq 2 3 2 true [] 0 0 (Ml [97] [118] 1)
def rc2:Req:=rq 2 3 2 true [] 0 0 t0
def rd:Req:=rq 2 3 3 false [] 0 0 (Ml [98] [118] 2)
def re:Req:=rq 1 0 9 false [97] 0 0 t0
def rf:Req:=rq 1 0 0 false [97] 0 0 t0
def rg2:Req:=rq 5 0 0 false [] 1 0 t0
def rh:Req:=rq 0 0 0 false [] 0 0 t0
theorem Hv {kind who seq:Int} {once:Bool} {key:Bs} {lease ttl:Int} {t:Txn} (h:(I64 kind∧I64 who∧I64 seq∧I64 lease∧I64 ttl)∧key.length≤9223372036854775807∧t.wf):(rq kind who seq once key lease ttl t).wf:=by
 obtain ⟨⟨h1,h2,h3,h4,h5⟩,h6,h7,h8,h9⟩:=h
 exact ⟨h1,h2,h3,h6,by simp [S64,rq],h4,by simp [I64,rq],h5,by simp [I64,rq],h7,h8,h9⟩
theorem Ze9 {s:Zf} {r:Req} (h1:T8 s.st=true) (h2:Ri s.ls=true) (h3:s.ms.wf) (h4:s.ms.l.l.length+s.ms.old.l.length≤4000) (h5:r.wf):Zo8 s r:=⟨⟨U0.1 h1,h2⟩,h3,h4,h5⟩
theorem Yc1:v0.ms.wf∧v1.ms.wf∧v2.ms.wf:=by
 simp [Zi.wf,v0,v1,v2,Zm.wf,Zj.wf,pa,pb,I64]
theorem Zus (H:List Blk):EvF tab 12 [] H=some ⟨.g (.bool true),[],[]⟩:=by
 obtain ⟨q0,q1,q2⟩:=Yc1
 have m0:=Z0z
 have p1:=fun H=>Zlg [97] [118] 1 H
 have p2:=fun H=>Zlg [98] [118] 2 H
 have m1:=fun H=>Po (Ze9 (s:=v0) (r:=ra) (by kernel_rfl) (by kernel_rfl) q0 (by simp [v0]) (Hv (by simp [I64,t0,Txn.wf]))) H
 have m2:=fun H=>Po (Ze9 (s:=v1) (r:=rb) (by kernel_rfl) (by kernel_rfl) q1 (by simp [v1]) (Hv (by simp [I64,Ml,R5,Txn.wf,Cmp.wf,Mut.wf,S64]))) H
 have m3:=fun H=>Po (Ze9 (s:=v2) (r:=rc2) (by kernel_rfl) (by kernel_rfl) q2 (by simp [v2]) (Hv (by simp [I64,t0,Txn.wf]))) H
 have m4:=fun H=>Po (Ze9 (s:=v2) (r:=rd) (by kernel_rfl) (by kernel_rfl) q2 (by simp [v2]) (Hv (by simp [I64,Ml,R5,Txn.wf,Cmp.wf,Mut.wf,S64]))) H
 have m5:=fun H=>Po (Ze9 (s:=v2) (r:=re) (by kernel_rfl) (by kernel_rfl) q2 (by simp [v2]) (Hv (by simp [I64,t0,Txn.wf]))) H
 have m6:=fun H=>Zla v2 9 ⟨U0.1 (by kernel_rfl),by kernel_rfl⟩ (by simp [v2]) (by simp [I64]) H
 have m7:=fun H=>Zla v3 1 ⟨U0.1 (by kernel_rfl),by kernel_rfl⟩ (by simp [v3]) (by simp [I64]) H
 have m8:=fun H=>Po (Ze9 (s:=v4) (r:=rf) (by kernel_rfl) (by kernel_rfl) q2 (by simp [v4]) (Hv (by simp [I64,t0,Txn.wf]))) H
 have m9:=fun H=>Po (Ze9 (s:=v4) (r:=rg2) (by kernel_rfl) (by kernel_rfl) q2 (by simp [v4]) (Hv (by simp [I64,t0,Txn.wf]))) H
 have m10:=fun H=>Po (Ze9 (s:=v4) (r:=rh) (by kernel_rfl) (by kernel_rfl) q2 (by simp [v4]) (Hv (by simp [I64,t0,Txn.wf]))) H
 have m11:=fun H=>Ze2 v2 v2 (.refl _) (by simp [Z8,v2]) (by simp [v2]) q2 H
 have m12:=fun H=>Zk8 v4 ⟨by simp [Ze.wf,v4,Ev.wf,KV.wf,ka,I64,S64],by simp [Zk.wf,v4,I64],q2,by simp [I64,v4]⟩ (by simp [v4]) H
 have m13:=fun H=>Zk8 v5 ⟨by simp [Ze.wf,v5,I64],by simp [Zk.wf,v5,I64],q0,by simp [I64,v5]⟩ (by simp [v5]) H
 have e12:Kt v4=true:=by unfold Kt;rw [Zli];kernel_rfl
 have e13:Kt v5=false:=by unfold Kt;rw [Zli];kernel_rfl
 rw [e12] at m12
 rw [e13] at m13
 simp only [Hu,show doC v0 ra=(v1,pa) by kernel_rfl] at m1
 simp only [Hu,show doC v1 rb=(v2,pb) by kernel_rfl] at m2
 simp only [Hu,show doC v2 rc2=(v2,pb) by kernel_rfl] at m3
 simp only [Hu,show doC v2 rd=(v2,Xg rd 6) by kernel_rfl] at m4
 simp only [Hu,show doC v2 re=(v2,⟨0,0,9,1,0,0,false,.of [ka],.nil⟩) by kernel_rfl] at m5
 simp only [show Zk9 v2 9=v3 by kernel_rfl] at m6
 simp only [show Zk9 v3 1=v4 by kernel_rfl] at m7
 simp only [Hu,show doC v4 rf=(v4,⟨0,0,0,2,0,0,false,.nil,.nil⟩) by kernel_rfl] at m8
 simp only [Hu,show doC v4 rg2=(v4,Xg rg2 6) by kernel_rfl] at m9
 simp only [Hu,show doC v4 rh=(v4,Xg rh 1) by kernel_rfl] at m10
 simp only [A,Zf.c,Zj.c,Req.c,v0,v1,v2,v3,v4,v5,pa,pb,ka,ra,rb,rc2,rd,re,rf,rg2,rh,rq,t0,Xg,Ml,R5,Txn.c,Cmp.c,Mut.c,KV.c,Ev.c,Zm.c,Zu.c,KVs.g,Evs.g,LeaseL.g,MemoL.g,Floors.g,Cmps.g,Muts.g,Sl.g_of,Sl.g_nil,List.map_cons,List.map_nil] at p1 p2 m0 m1 m2 m3 m4 m5 m6 m7 m8 m9 m10 m11 m12 m13
 refine Zb t12 (by simp) ?_
 simp -implicitDefEqProofs [p1,p2,m0,m1,m2,m3,m4,m5,m6,m7,m8,m9,m10,m11,m12,m13,Yf]
theorem Z00 {s:Zf} {r:Req} (w:s.wf) (h:Ze3 s r=true):Big s 40∧Z8 s.st:=by
 unfold Ze3 at h
 simp only [Bool.and_eq_true] at h
 obtain ⟨h0,hm,_⟩:=h
 obtain ⟨h1,h2,h3,h4⟩:=Bj h0
 exact ⟨⟨Zuc.1 hm,w.2.2.1,by omega,by omega⟩,Zee h1⟩
theorem Zpj {s:Zf} {n:Nat} (h:Big s n):Z8 s.st∧s.ls.l.l.length≤1000:=by
 have h1:=h.v.st.bl
 have h2:=h.v.st.ll
 have h3:=(Ws.1 h.v.ls).2.1
 exact ⟨by unfold Z8;omega,by omega⟩
theorem Tn.symm {a b:Zf} (h:Tn a b):Tn b a:=⟨⟨h.st.1.symm,h.st.2.1.symm,h.st.2.2.1.symm,h.st.2.2.2.symm⟩,h.next.symm,h.ls.symm,h.ml.symm,h.mo.symm,h.ck.symm⟩
theorem Zut {a b:Zf} {n:Nat} (h:Tn a b) (hb:Big a n) (H:List Blk):EvF tab 14 [A a.c,A b.c] H=some ⟨B true,[],[]⟩:=by
 obtain ⟨h1,h2⟩:=Zpj hb
 have wa:=hb.mw
 refine Ze2 a b h ?_ (by rw [←h.ls];omega) ?_ H
 ·unfold Z8 at h1 ⊢;rw [←h.st.2.2.1,←h.st.2.2.2];exact h1
 ·unfold Zi.wf at wa ⊢;rw [←h.ml,←h.mo];exact wa
theorem Dj (x0:Zf) (x1:Req) (w0:x0.wf) (w1:x1.wf):EvF tab 5 [A x0.c,A x1.c] []=some ⟨.g (.bool true),[],[]⟩:=by
 have m0:=fun H=>Zub x0 x1 w0 w1 H
 refine Zb t5 (by simp) ?_
 cases hf:Ze3 x0 x1
 ·rw [hf] at m0
  obtain ⟨⟨srev,Y5,Zy,Z3⟩,⟨Y7,ll⟩,⟨ml,mo⟩,clock⟩:=x0
  obtain ⟨W9,Tw,Tx,Wz,Ty,Xu,Xv,Tr,Tz,Xw,X1,X2,X3⟩:=x1
  simp only [A,Zf.c,Req.c,List.map_cons,List.map_nil] at m0 ⊢
  simp -implicitDefEqProofs [m0,Zus]
 rw [hf] at m0
 obtain ⟨hb,hss⟩:=Z00 w0 hf
 have hd:=Z0t hb (by omega) w1
 have hok:=hb.doOk (by omega) w1
 have m1:=fun H=>Po hok H
 have m2:=fun H=>Z0v hok H
 obtain ⟨hs,hp⟩:=Zuq x0 x1
 have m3:=fun H=>Zut hs hd.big H
 have m4:=fun H=>C6 (doP x0 x1).2 hd.wf H
 rw [hp] at m2
 clear hs hp hok hd hb hss hf
 generalize (doP x0 x1).1=t at *
 generalize (doP x0 x1).2=p at *
 generalize (doR x0 x1).1=u at *
 obtain ⟨⟨srev,Y5,Zy,Z3⟩,⟨Y7,ll⟩,⟨ml,mo⟩,clock⟩:=x0
 obtain ⟨⟨Yc2,Yc3,Hw,Zfa⟩,⟨Z58,tl⟩,⟨tml,tmo⟩,Z3q⟩:=t
 obtain ⟨⟨Ydk,Ydl,Ydf,Ydm⟩,⟨Ydg,ul⟩,⟨uml,umo⟩,Yc4⟩:=u
 obtain ⟨W9,Tw,Tx,Wz,Ty,Xu,Xv,Tr,Tz,Xw,X1,X2,X3⟩:=x1
 obtain ⟨p1,p2,p3,p4,p5,p6,p7,p8,p9⟩:=p
 simp only [A,Zf.c,Req.c,Zj.c,List.map_cons,List.map_nil] at m0 m1 m2 m3 m4 ⊢
 generalize KVs.g Zy=G1 at m0 m1 m2 ⊢
 generalize Evs.g Z3=G2 at m0 m1 m2 ⊢
 generalize LeaseL.g ll=G3 at m0 m1 m2 ⊢
 generalize MemoL.g ml=G4 at m0 m1 m2 ⊢
 generalize Floors.g mo=G5 at m0 m1 m2 ⊢
 generalize Cmps.g X1=R1 at m0 m1 m2 ⊢
 generalize Muts.g X2=R2 at m0 m1 m2 ⊢
 generalize Muts.g X3=R3 at m0 m1 m2 ⊢
 simp -implicitDefEqProofs [m0,m1,m2,m3,m4,Zus,Yf,X5]
end Go.Proofs.YtndfdnlbljhlgaaGreat
