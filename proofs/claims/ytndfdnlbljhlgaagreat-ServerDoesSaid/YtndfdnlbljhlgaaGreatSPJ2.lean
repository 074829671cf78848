/- Part of the proof: what the functions answer, part 2. No conditions. -/
import Derived.Test.YtndfdnlbljhlgaaGreatSPJ1
set_option linter.defProp false
set_option linter.unusedSimpArgs false
set_option linter.unusedVariables false
set_option maxHeartbeats 8000000
set_option maxRecDepth 20000
namespace Go.Proofs.YtndfdnlbljhlgaaGreat
open Go Go.AM Go.Proofs
def Qw (n:Int):List Int→Nat
 | []=>0
 | y::l=>if y<n then Qw n l+1 else 0
theorem Zkr (n:Int):∀l,Qw n l≤l.length
 | []=>Nat.le_refl _
 | y::l=>by
  have:=Zkr n l
  unfold Qw;split <;> simp <;> omega
theorem Zdr (n:Int):∀l,Tp n l=l.take (Qw n l)++(n::l.drop (Qw n l))
 | []=>rfl
 | y::l=>by
  have:=Zdr n l
  unfold Tp Qw
  split
  ·rw [this];rfl
  ·rfl
theorem Eh {sz bytes g:Nat} (n:Nat) (xs ys:List (List GV)) (h1:xs.length+ys.length≤140737488355328) (h2:(xs.length+ys.length)*bytes≤140737488355328) (H:List Blk) :
  ∃(g':Nat) (W:List Nat),g≤g'∧∀(t:List (Nat×AV)) (m:List (Nat×Blk)) (P:List Blk),P.length=n→Yh H ⟨t,m,P++[.rows sz g xs]⟩ sz bytes (.ms (H.length+n) g sz 0 xs.length) ys=some (.ms (H.length+n) g' sz 0 (xs++ys).length,⟨t,m,P++[.rows sz g' (xs++ys)]⟩,W):=by
 by_cases hne:ys=[]
 ·subst hne
  exact ⟨g,[],Nat.le_refl _,fun t m P hP=>by subst hP;simp -implicitDefEqProofs [Yh]⟩
 ·exact ⟨g+1,[H.length+n],by omega,fun t m P hP=>by subst hP;rw [List.length_append];exact Or hne h1 h2 H t m P⟩
theorem Ei (n:Int):∀l,U4 n l=if l[Qw n l]? = some n then l else Tp n l
 | []=>by simp [U4,Tp]
 | y::l=>by
  have:=Ei n l
  unfold U4 Qw Tp
  by_cases h:y<n
  ·simp only [h,if_true,List.getElem?_cons_succ]
   rw [this]
   split <;> rfl
  ·simp only [h,if_false,List.getElem?_cons_zero,Option.some.injEq]
def Mb (once:Bool) (n:Int) (l:List Int):List Int:=if once=true then U4 n l else Tp n l
theorem Zsf (l:List Int) (n:Int) (once:Bool) (hl:l.length≤100000) (H:List Blk) (p:Blk) (G:AV) (hlen:∀s,X4 H s G=some l.length)
  (hG:G = .g (.sl 1 (l.map Ints.c))∨l=[]) :
  Ya (EvF tab) H N8 [0,1,2,7] ⟨[(0,G),(1,I n),(2,B once),(7,I 0)],[],[p]⟩ =
   some (.exit 0,⟨[(0,G),(1,I n),(2,B once),(7,I (Qw n l)),(20,B false)],[],[p]⟩):=by
 have hw:=Zt (E:=EvF tab) (h:=H) (c:=N8) (lv:=[0,1,2,7]) (l:=l) (β:=Unit) (γ:=Nat) (fun _ _=>True) (fun k y _=>if y<n then .inl () else .inr k)
  (fun k _ _=>⟨[(0,G),(1,I n),(2,B once),(7,I k)],[],[p]⟩)
  (fun _ _=>(.exit 0,⟨[(0,G),(1,I n),(2,B once),(7,I l.length),(20,B false)],[],[p]⟩))
  (fun k _=>(.exit 0,⟨[(0,G),(1,I n),(2,B once),(7,I k),(20,B false)],[],[p]⟩)) (by simp) (by simp) (fun k y b o hk hx hy _ => ?_) (fun _ o _=>by delta N8;simp -implicitDefEqProofs [hlen]) () [] trivial
 ·obtain ⟨o',hw⟩:=hw
  have hr:∀(l:List Int) k,Ym (fun k (y:Int) (_:Unit)=>if y<n then (.inl ():Unit⊕Nat) else .inr k) k l ()=if Qw n l=l.length then .inl () else .inr (k+Qw n l):=by
   intro l
   induction l with
   | nil=>intro k;rfl
   | cons y l ih =>
    intro k
    unfold Ym Qw
    by_cases h:y<n
    ·simp only [if_pos h]
     rw [ih]
     simp only [List.length_cons,Nat.add_right_cancel_iff]
     rw [show k+1+Qw n l=k+(Qw n l+1) by omega]
    ·simp only [if_neg h]
     rw [if_neg (by simp)];rfl
  rw [hr] at hw
  simp only [Int.ofNat_zero,Int.cast_ofNat_Int,Nat.zero_add] at hw
  by_cases hc:Qw n l=l.length
  ·rw [if_pos hc] at hw;rw [hc];exact hw
  ·rw [if_neg hc] at hw;exact hw
 ·have e2:=Zh hk (by omega)
  rcases hG with rfl | rfl
  ·delta N8
   by_cases h:y<n
   ·simp only [if_pos h]
    refine ⟨trivial,o,?_⟩
    simp -implicitDefEqProofs [hk,hy,hx,Ints.c,h,e2]
   ·simp only [if_neg h]
    refine ⟨o,?_⟩
    simp -implicitDefEqProofs [hk,hy,hx,Ints.c,h,e2]
  ·simp at hk
theorem Zsg (l:List Int) (n:Int) (once:Bool) (hl:l.length≤100000) (H:List Blk):EvF tab 115 [.g (.sl 1 (l.map Ints.c)),I n,B once] H=some ⟨.g (.sl 1 ((Mb once n l).map Ints.c)),[],[]⟩:=by
 have hw:=Zsf l n once hl H (.rows 1 1 []) (.g (.sl 1 (l.map Ints.c))) (fun s=>by simp [X4]) (.inl rfl)
 refine Zb Z5z (by simp) ?_
 have hc:=Zkr n l
 have hcI:((Qw n l:Nat):Int)≤(l.length:Int):=by omega
 have hput:∀once,Mb once n l=if once=true∧l[Qw n l]? = some n then l else l.take (Qw n l)++(n::l.drop (Qw n l)):=by
  intro once
  unfold Mb
  rw [Ei,Zdr]
  cases once
  ·simp
  ·simp
 rw [hput]
 generalize hcc:Qw n l=c at hw hc hcI hput ⊢
 have e0:List.take l.length (List.map Ints.c l)=List.map Ints.c l:=List.take_of_length_le (by simp)
 have hl1:(List.take c (List.map Ints.c l)).length≤l.length:=by simp;omega
 have hl2:(List.drop c (List.map Ints.c l)).length≤l.length:=by simp
 obtain ⟨LA,e1⟩:∃A,List.take c (List.map Ints.c l)=A:=⟨_,rfl⟩
 obtain ⟨LD,e2⟩:∃A,List.drop c (List.map Ints.c l)=A:=⟨_,rfl⟩
 rw [e1] at hl1
 rw [e2] at hl2
 have er:List.map Ints.c (l.take c++(n::l.drop c))=LA++Ints.c n::LD:=by rw [List.map_append,List.map_cons,List.map_take,List.map_drop,e1,e2]
 obtain ⟨g1,W1,q1,a1⟩:=Eh (sz:=1) (bytes:=8) (g:=2) 1 [] LA (by simp;omega) (by simp;omega) H
 rw [List.nil_append] at a1
 obtain ⟨g2,W2,q2,a2⟩:=Eh (sz:=1) (bytes:=8) (g:=g1) 1 LA [Ints.c n] (by simp;omega) (by simp;omega) H
 obtain ⟨g3,W3,q3,a3⟩:=Eh (sz:=1) (bytes:=8) (g:=g2) 1 (LA++[Ints.c n]) LD (by simp;omega) (by simp;omega) H
 have a1':=fun t p=>a1 t [] [p] rfl
 have a2':=fun t p=>a2 t [] [p] rfl
 have a3':=fun t p=>a3 t [] [p] rfl
 simp only [List.cons_append,List.nil_append,List.append_assoc,List.length_append,List.length_cons,Ints.c,List.length_nil,Nat.zero_add] at a1' a2' a3'
 have g3n:¬g3=1:=by omega
 have et:List.take (LA.length+(LD.length+1)) (LA++[GV.int .i64 n]::LD)=LA++[GV.int .i64 n]::LD:=List.take_of_length_le (by simp)
 by_cases hcl:c<l.length
 ·have hclI:(c:Int)<(l.length:Int):=by omega
  obtain ⟨x,hx⟩:∃x,l[c]=x:=⟨_,rfl⟩
  have hx?:l[c]? = some x:=by rw [List.getElem?_eq_getElem hcl,hx]
  rw [hx?]
  cases once
  ·simp -implicitDefEqProofs [hw,hcl,hclI,hc,hcI,hx,hx?,Xd,bnd,Y2,e0,e1,e2,er,et,a1',a2',a3',g3n,Zx,Ints.c]
  ·by_cases hxn:x=n
   ·simp -implicitDefEqProofs [hw,hcl,hclI,hc,hcI,hx,hx?,hxn,Ints.c]
   ·simp -implicitDefEqProofs [hw,hcl,hclI,hc,hcI,hx,hx?,hxn,Xd,bnd,Y2,e0,e1,e2,er,et,a1',a2',a3',g3n,Zx,Ints.c]
 ·have hclI:¬(c:Int)<(l.length:Int):=by omega
  have hx?:l[c]? = none:=List.getElem?_eq_none (by omega)
  rw [hx?]
  cases once
  ·simp -implicitDefEqProofs [hw,hcl,hclI,hc,hcI,hx?,Xd,bnd,Y2,e0,e1,e2,er,et,a1',a2',a3',g3n,Zx,Ints.c]
  ·simp -implicitDefEqProofs [hw,hcl,hclI,hc,hcI,hx?,Xd,bnd,Y2,e0,e1,e2,er,et,a1',a2',a3',g3n,Zx,Ints.c]
theorem Zzj (n:Int) (once:Bool) {H:List Blk} {id:Nat} (hid:H[id]? = some (.rows 1 1 [])):EvF tab 115 [.ms id 1 1 0 0,I n,B once] H=some ⟨.g (.sl 1 ([n].map Ints.c)),[],[]⟩:=by
 have hlt:id<H.length:=(List.getElem?_eq_some_iff.1 hid).1
 have hidg:H[id] = .rows 1 1 []:=(List.getElem?_eq_some_iff.1 hid).2
 have hlv:Zq H id=true:=by unfold Zq;rw [hid];rfl
 have hw:Ya (EvF tab) H N8 [0,1,2,7] ⟨[(0,.ms id 1 1 0 0),(1,I n),(2,B once),(7,I 0)],[],[.rows 1 1 []]⟩=some (.exit 0,⟨[(0,.ms id 1 1 0 0),(1,I n),(2,B once),(7,I 0),(20,B false)],[],[.rows 1 1 []]⟩):=by
  refine Wp _ _ _ _ _ _ (by simp) ?_
  delta N8
  simp -implicitDefEqProofs [Zp hlt,orB,hid,hidg,hlv]
 refine Zb Z5z (by simp) ?_
 have hr1:∀o,Zq (H++o) id=true:=fun o=>by unfold Zq;rw [List.getElem?_append_left hlt,hid];rfl
 cases once <;> simp -implicitDefEqProofs [hw,Zp hlt,orB,hid,hidg,hlv,hr1,Xd,bnd,Y2,Yh,room,Nat.not_succ_le_self,Zx,Ints.c]
def Xt (id:Nat) (l:List Int):AV:=if l=[] then .ms id 1 1 0 0 else .g (.sl 1 (l.map Ints.c))
theorem Zzk (once : Bool) (n : Int) (l : List Int) : Mb once n l ≠ [] := by
  unfold Mb
  cases once
  · simp only [Bool.false_eq_true, if_false]
    cases l with
    | nil => simp [Tp]
    | cons y l => unfold Tp; split <;> simp
  · simp only [if_true]
    cases l with
    | nil => simp [U4]
    | cons y l => unfold U4; split
                  · simp
                  · split <;> simp
theorem Ow (once:Bool) (n:Int) (l:List Int):(Mb once n l).length≤l.length+1:=by
 have h1:=(Qv n l).length_eq
 unfold Mb
 split
 ·rw [Ei];split
  ·omega
  ·rw [h1];simp
 ·rw [h1];simp
theorem Gc (l:List Int) (n:Int) (once:Bool) (hl:l.length≤100000) {H:List Blk} {id:Nat} (hid:H[id]? = some (.rows 1 1 [])):EvF tab 115 [Xt id l,I n,B once] H=some ⟨Xt id (Mb once n l),[],[]⟩:=by
 unfold Xt
 rw [if_neg (Zzk once n l)]
 cases l with
 | nil =>
  have:=Zzj n once hid
  have e:Mb once n []=[n]:=by unfold Mb;cases once <;> rfl
  rw [e];exact this
 | cons y l=>exact Zsg (y::l) n once hl H
theorem Tt {α β:Type} (f:β→α→β):∀(l:List α) (k:Nat) (b:β),Ym (γ:=Unit) (fun k (x:α) b => .inl (f b x)) k l b = .inl (l.foldl f b):=by
 intro l
 induction l with
 | nil=>intro k b;simp [Ym]
 | cons x l ih=>intro k b;simp only [Ym,ih];simp
theorem Zsh (m:Zi) (w:Int) (hl:m.l.l.length≤10000) (H:List Blk):EvF tab 84 [A m.c,I w] H=some ⟨.g (Ints.g (Zz (Yj m.l.l w))),[],[]⟩:=by
 obtain ⟨ml,mo⟩:=m
 simp only at hl ⊢
 have hw:=Zt (E:=EvF tab) (h:=H) (c:=Ft) (lv:=[1,2,5,6]) (l:=ml.l) (β:=List Int) (γ:=Unit) (fun k r=>r.length≤k) (fun _ x r => .inl ((fun r (x:Zm)=>if x.who=w then Tp x.seq r else r) r x))
  (fun k r o=>⟨[(1,I w),(2,.ptr H.length 0),(5,Xt (H.length+2) r),(6,I k)],[],[.cells ((Zi.c ⟨ml,mo⟩).map .g),.rows 1 1 [],.rows 1 1 []]⟩)
  (fun r o=>(.exit 0,⟨[(1,I w),(2,.ptr H.length 0),(5,Xt (H.length+2) r),(6,I ml.l.length),(11,B false)],[],[.cells ((Zi.c ⟨ml,mo⟩).map .g),.rows 1 1 [],.rows 1 1 []]⟩))
  (fun n o=>(.ret,⟨[],[],o⟩)) (by simp) (by simp) (fun k x r o hk hx hy hi => ?_) (fun _ o _=>by delta Ft;simp -implicitDefEqProofs [Zi.c]) [] [] (by simp)
 ·obtain ⟨o',hw⟩:=hw
  rw [Tt] at hw
  have hf:∀(l:List Zm) (r:List Int),l.foldl (fun r (x:Zm)=>if x.who=w then Tp x.seq r else r) r=(Xo l w).foldl (fun s n=>Tp n s) r:=by
   intro l
   induction l with
   | nil=>intro r;rfl
   | cons x l ih =>
    intro r
    unfold Xo at ih ⊢
    rw [List.foldl_cons,ih,List.filter_cons]
    by_cases h:x.who=w
    ·simp [h]
    ·simp [h]
  have hs:=Nc (Xo ml.l w) []
  rw [S8,List.nil_append] at hs
  rw [hf,hs] at hw
  rw [show Yx (Xo ml.l w)=Yj ml.l w from rfl] at hw
  simp only [Wj,Int.ofNat_zero,Int.cast_ofNat_Int] at hw
  refine Zb t84 (by simp) ?_
  simp only [Zi.c,List.map_cons,List.map_nil] at hw
  generalize hg1:MemoL.g ml=G1 at hw
  generalize hg2:Floors.g mo=G2 at hw
  obtain ⟨r,hr⟩:∃r,Yj ml.l w=r:=⟨_,rfl⟩
  rw [hr] at hw ⊢
  cases r with
  | nil=>simp only [Xt,if_true] at hw;simp -implicitDefEqProofs [A,Zi.c,hg1,hg2,hw,Zz]
  | cons y r=>simp only [Xt,reduceCtorEq,if_false,if_true] at hw;simp -implicitDefEqProofs [A,Zi.c,hg1,hg2,hw,Zz]
 ·have e2:=Zh hk (by omega)
  have hp:=fun H id (hid:H[id]? = some (Blk.rows 1 1 []))=>Gc r x.seq false (by omega) hid
  have hp2:=fun (b c:Blk)=>hp (H++[b,c,.rows 1 1 []]) (H.length+2) (by rw [List.getElem?_append_right (by omega),Nat.add_sub_cancel_left];rfl)
  have hpl:=Ow false x.seq r
  have hpb:Mb false x.seq r=Tp x.seq r:=rfl
  rw [hpb] at hp2 hpl
  delta Ft
  cases ml with
  | nil=>simp at hk
  | of l =>
   simp only [Sl.l_of] at hk hy hl
   obtain ⟨xw,xs,x1,x2,x3,x4,x5,x6,x7,x8,x9⟩:=x
   simp only at hp2 hpl ⊢
   by_cases h:xw=w
   ·simp only [h,if_true]
    refine ⟨by omega,o,?_⟩
    generalize Xt (H.length+2) r=S1 at hp2 ⊢
    generalize Xt (H.length+2) (Tp xs r)=S2 at hp2 ⊢
    simp -implicitDefEqProofs [hk,hy,Zi.c,Zm.c,h,e2,hp2]
   ·simp only [h,if_false]
    refine ⟨by omega,o,?_⟩
    simp -implicitDefEqProofs [hk,hy,Zi.c,Zm.c,h,e2]
theorem Zds (m:Zi) (hl:m.l.l.length+m.old.l.length≤10000) (H:List Blk):EvF tab 85 [A m.c] H=some ⟨.g (Ints.g (Zz (Yb m.l.l m.old.l))),[],[]⟩:=by
 obtain ⟨ml,mo⟩:=m
 simp only at hl ⊢
 have hlo:∀(l:List Int) (r:List Int),(l.foldl (fun r n=>U4 n r) r).length≤r.length+l.length:=by
  intro l
  induction l with
  | nil=>intro r;simp
  | cons y l ih =>
   intro r
   have:=ih (U4 y r)
   have h2:(U4 y r).length≤r.length+1:=Ow true y r
   rw [List.foldl_cons,List.length_cons];omega
 have hw:=Zt (E:=EvF tab) (h:=H) (c:=Zkg) (lv:=[1,3,4]) (l:=ml.l) (β:=List Int) (γ:=Unit) (fun k r=>r.length≤k) (fun _ x r => .inl ((fun r (x:Zm)=>U4 x.who r) r x))
  (fun k r o=>⟨[(1,.ptr H.length 0),(3,Xt (H.length+2) r),(4,I k)],[],[.cells ((Zi.c ⟨ml,mo⟩).map .g),.rows 1 1 [],.rows 1 1 []]⟩)
  (fun r o=>(.exit 0,⟨[(1,.ptr H.length 0),(3,Xt (H.length+2) r),(4,I ml.l.length),(10,B false)],[],[.cells ((Zi.c ⟨ml,mo⟩).map .g),.rows 1 1 [],.rows 1 1 []]⟩))
  (fun n o=>(.ret,⟨[],[],o⟩)) (by simp) (by simp) (fun k x r o hk hx hy hi => ?_) (fun _ o _=>by delta Zkg;simp -implicitDefEqProofs [Zi.c]) [] [] (by simp)
 have hw2:=fun (r0:List Int) (hr0:r0.length≤ml.l.length)=>Zt (E:=EvF tab) (h:=H) (c:=Zkh) (lv:=[1,3,5]) (l:=mo.l) (β:=List Int) (γ:=Unit) (fun k r=>r.length≤ml.l.length+k) (fun _ x r => .inl ((fun r (x:Zn)=>U4 x.who r) r x))
  (fun k r o=>⟨[(1,.ptr H.length 0),(3,Xt (H.length+2) r),(5,I k)],[],[.cells ((Zi.c ⟨ml,mo⟩).map .g),.rows 1 1 [],.rows 1 1 []]⟩)
  (fun r o=>(.exit 2,⟨[(1,.ptr H.length 0),(3,Xt (H.length+2) r),(5,I mo.l.length),(25,B false)],[],[.cells ((Zi.c ⟨ml,mo⟩).map .g),.rows 1 1 [],.rows 1 1 []]⟩))
  (fun n o=>(.ret,⟨[],[],o⟩)) (by simp) (by simp) (fun k x r o hk hx hy hi => ?_) (fun _ o _=>by delta Zkh;simp -implicitDefEqProofs [Zi.c]) r0 [] (by simpa using hr0)
 ·obtain ⟨o',hw⟩:=hw
  rw [Tt] at hw
  have hf:∀(l:List Zm) (r:List Int),l.foldl (fun r (x:Zm)=>U4 x.who r) r=(l.map Zm.who).foldl (fun r n=>U4 n r) r:=by
   intro l r;rw [List.foldl_map]
  have hf2:∀(l:List Zn) (r:List Int),l.foldl (fun r (x:Zn)=>U4 x.who r) r=(l.map Zn.who).foldl (fun r n=>U4 n r) r:=by
   intro l r;rw [List.foldl_map]
  rw [hf] at hw
  have hln:=hlo (ml.l.map Zm.who) []
  simp only [List.length_nil,List.length_map,Nat.zero_add] at hln
  obtain ⟨o2,hw2⟩:=hw2 _ hln
  rw [Tt,hf2,←List.foldl_append] at hw2
  have hs:=Cs (ml.l.map Zm.who++mo.l.map Zn.who) []
  rw [S8] at hs
  rw [hs] at hw2
  rw [show Yx ((ml.l.map Zm.who++mo.l.map Zn.who).foldl Wt [])=Yb ml.l mo.l from rfl] at hw2
  simp only [Wj,Int.ofNat_zero,Int.cast_ofNat_Int] at hw hw2
  refine Zb t85 (by simp) ?_
  simp only [Zi.c,List.map_cons,List.map_nil] at hw hw2
  generalize hg1:MemoL.g ml=G1 at hw hw2
  generalize hg2:Floors.g mo=G2 at hw hw2
  generalize hst:Xt (H.length+2) ((ml.l.map Zm.who).foldl (fun r n=>U4 n r) [])=S1 at hw hw2
  have h0:Xt (H.length+2) [] = .ms (H.length+2) 1 1 0 0:=rfl
  rw [h0] at hw
  obtain ⟨r,hr⟩:∃r,Yb ml.l mo.l=r:=⟨_,rfl⟩
  rw [hr] at hw2 ⊢
  cases r with
  | nil=>simp only [Xt,if_true] at hw2;simp -implicitDefEqProofs [A,Zi.c,hg1,hg2,hw,hw2,Zz]
  | cons y r=>simp only [Xt,reduceCtorEq,if_false] at hw2;simp -implicitDefEqProofs [A,Zi.c,hg1,hg2,hw,hw2,Zz]
 ·have e2:=Zh hk (by omega)
  have hp:=fun H id (hid:H[id]? = some (Blk.rows 1 1 []))=>Gc r x.who true (by omega) hid
  have hp2:=fun (b c:Blk)=>hp (H++[b,c,.rows 1 1 []]) (H.length+2) (by rw [List.getElem?_append_right (by omega),Nat.add_sub_cancel_left];rfl)
  have hpl:=Ow true x.who r
  have hpb:Mb true x.who r=U4 x.who r:=rfl
  rw [hpb] at hp2 hpl
  delta Zkh
  cases mo with
  | nil=>simp at hk
  | of l =>
   simp only [Sl.l_of] at hk hy hl
   obtain ⟨xw,xs⟩:=x
   simp only at hp2 hpl ⊢
   refine ⟨by omega,o,?_⟩
   generalize Xt (H.length+2) r=S1 at hp2 ⊢
   generalize Xt (H.length+2) (U4 xw r)=S2 at hp2 ⊢
   simp -implicitDefEqProofs [hk,hy,Zi.c,Zn.c,e2,hp2]
 ·have e2:=Zh hk (by omega)
  have hp:=fun H id (hid:H[id]? = some (Blk.rows 1 1 []))=>Gc r x.who true (by omega) hid
  have hp2:=fun (b c:Blk)=>hp (H++[b,c,.rows 1 1 []]) (H.length+2) (by rw [List.getElem?_append_right (by omega),Nat.add_sub_cancel_left];rfl)
  have hpl:=Ow true x.who r
  have hpb:Mb true x.who r=U4 x.who r:=rfl
  rw [hpb] at hp2 hpl
  delta Zkg
  cases ml with
  | nil=>simp at hk
  | of l =>
   simp only [Sl.l_of] at hk hy hl
   obtain ⟨xw,xs,x1,x2,x3,x4,x5,x6,x7,x8,x9⟩:=x
   simp only at hp2 hpl ⊢
   refine ⟨by omega,o,?_⟩
   generalize Xt (H.length+2) r=S1 at hp2 ⊢
   generalize Xt (H.length+2) (U4 xw r)=S2 at hp2 ⊢
   simp -implicitDefEqProofs [hk,hy,Zi.c,Zm.c,e2,hp2]
def kvG {β:Type} (G:β→GV) (p:Int×β):GV×Option GV:=(.int .i64 p.1,some (G p.2))
def Xf {β:Type} (k:Int):List (Int×β)→Option β
 | []=>none
 | p::l=>if p.1=k then some p.2 else Xf k l
def Td {β:Type} (k:Int) (v:β):List (Int×β)→List (Int×β)
 | []=>[(k,v)]
 | p::l=>if p.1=k then (k,v)::l else p::Td k v l
theorem Ej {β:Type} (G:β→GV) (k:Int) (v:β):∀(l:List (Int×β)),
  (Xf k l=none∧Ut .i (.int .i64 k) (l.map (kvG G))=some none∧Td k v l=l++[(k,v)]) ∨
  (∃j v0,Xf k l=some v0∧Ut .i (.int .i64 k) (l.map (kvG G))=some (some j)∧l[j]? = some (k,v0)∧Td k v l=l.set j (k,v))
 | [] => .inl ⟨rfl,rfl,rfl⟩
 | p::l=>by
  obtain ⟨a,b⟩:=p
  by_cases h:a=k
  ·subst h
   exact .inr ⟨0,b,by simp [Xf],by simp [Ut,kvG,eqG],by simp,by simp [Td]⟩
  ·have h':(k==a)=false:=by simpa using fun e=>h e.symm
   rcases Ej G k v l with ⟨h1,h2,h3⟩ | ⟨j,v0,h1,h2,h3,h4⟩
   ·exact .inl ⟨by simp [Xf,h,h1],by simp [Ut,kvG,eqG,h',h2],by simp [Td,h,h3]⟩
   ·exact .inr ⟨j+1,v0,by simp [Xf,h,h1],by simp [Ut,kvG,eqG,h',h2],by simp [h3],by simp [Td,h,h4]⟩
theorem Sz {β:Type} (G:β→GV) (k:Int) (v:β) (l:List (Int×β)):Sa .i (.int .i64 k) (some (G v)) (l.map (kvG G))=some ((Td k v l).map (kvG G)):=by
 unfold Sa
 rcases Ej G k v l with ⟨h1,h2,h3⟩ | ⟨j,v0,h1,h2,h3,h4⟩
 ·rw [h2,h3];simp [kvG]
 ·rw [h2,h4];simp [kvG,List.map_set]
theorem Zag {β:Type} (G:β→GV) (k:Int) (z:GV) (cm:Bool) (l:List (Int×β)):Od cm .i (some z) (.int .i64 k) (l.map (kvG G))=some (if cm=true then .tup [.g (((Xf k l).map G).getD z),B (Xf k l).isSome] else .g (((Xf k l).map G).getD z)):=by
 unfold Od
 cases l with
 | nil=>simp [Ut,Xf,mvV]
 | cons p l =>
  rcases Ej G k p.2 (p::l) with ⟨h1,h2,h3⟩ | ⟨j,v0,h1,h2,h3,h4⟩
  ·rw [h2,h1];simp [mvV]
  ·rw [h2,h1];simp only [List.getElem?_map,h3];simp [mvV,kvG]
theorem Ct:∀(ks:List Int) (k:Int),Td k true (ks.map fun k=>(k,true))=(Wt ks k).map fun k=>(k,true)
 | [],k=>rfl
 | y::ks,k=>by
  have ih:=Ct ks k
  unfold Wt at ih ⊢
  rw [List.map_cons]
  unfold Td
  by_cases h:y=k
  ·subst h;simp
  ·have h':¬k=y:=fun e=>h e.symm
   simp only [h,if_false,List.mem_cons,h',false_or]
   rw [ih]
   split <;> rfl
def Z1h (b:Bool):GV := .bool b
def Qx (ks:List Int):List (GV×Option GV):=(ks.map fun k=>(k,true)).map (kvG Z1h)
theorem Zdt (ks:List Int) (k:Int):Sa .i (.int .i64 k) (some (.bool true)) (Qx ks)=some (Qx (Wt ks k)):=by
 have:=Sz Z1h k true (ks.map fun k=>(k,true))
 rw [Ct] at this
 exact this
theorem Znt {H:List Blk} {p id:Nat} {ks:List Int} (h1:H[p]? = some (.cells [.mp id])) (h2:H[id]? = some (.map (Qx ks))) (hn:ks.Nodup) (hw:∀k∈ks,I64 k) (hl:ks.length≤1000000) :
  EvF tab 149 [.fv 183 [.ptr p 0]] H=some ⟨.g (Ints.g (Zz (Yx ks))),[],[]⟩:=by
 refine Zja rfl (fun _ _ h=>by cases h) ?_
 have e1:M0 ((Qx ks).map fun e=>[e.1])=some ks:=by
  have:((Qx ks).map fun e=>[e.1])=ks.map U3:=by unfold Qx;simp [kvG,U3]
  rw [this];exact Jj ks
 have e2:(ks.all fun k=>(Lit.int .i64 k).wf)=true:=by
  rw [List.all_eq_true]
  intro k hk
  obtain ⟨a,b⟩:=hw k hk
  show (decide _&&decide _)=true
  rw [Bool.and_eq_true,decide_eq_true_eq,decide_eq_true_eq]
  exact ⟨a,b⟩
 have e3:(if ks=[] then GV.nsl else GV.sl 1 ((Yx ks).map U3))=Ints.g (Zz (Yx ks)):=by
  have:=W5 ks
  unfold Zz
  by_cases h:ks=[]
  ·subst h;rw [if_pos rfl,S8,if_pos rfl];rfl
  ·have h':Yx ks ≠ []:=fun e=>h (List.eq_nil_of_length_eq_zero (by rw [←this,e];rfl))
   rw [if_neg h,if_neg h'];rfl
 show orX _ _ _ _ _=_
 unfold orX Zb3
 rw [if_pos rfl]
 unfold Go.AM.keysA
 simp only [if_true,h1,h2,e1]
 rw [if_pos ⟨hn,e2,hl⟩,e3]
theorem Zsi (id:Nat) (H:List Blk):EvF tab 150 [.mp id] H=some ⟨.fv 183 [.ptr H.length 0],[],[.cells [.mp id]]⟩:=by
 refine Zb Ybe (by simp) ?_
 simp -implicitDefEqProofs
theorem Zks (m:Zi) (wf:m.wf) (hl:m.l.l.length+m.old.l.length≤10000) (H:List Blk):EvF tab 98 [A m.c] H=some ⟨.g (Ints.g (Zz (Yb m.l.l m.old.l))),[],[]⟩:=by
 obtain ⟨ml,mo⟩:=m
 obtain ⟨⟨w1,_⟩,⟨w2,_⟩⟩:=wf
 simp only at hl w1 w2 ⊢
 have hw:=Zt (E:=EvF tab) (h:=H) (c:=Zkl) (lv:=[1,3,10,11,12]) (l:=ml.l) (β:=List Int) (γ:=Unit) (fun _ _=>True) (fun _ x r => .inl ((fun r (x:Zm)=>Wt r x.who) r x))
  (fun k r o=>⟨[(1,.ptr H.length 0),(3,.mp (H.length+2)),(10,.g (MemoL.g ml)),(11,I ml.l.length),(12,I k)],[],.cells ((Zi.c ⟨ml,mo⟩).map .g) :: .rows 1 1 [] :: .map (Qx r)::o⟩)
  (fun r o=>(.exit 0,⟨[(1,.ptr H.length 0),(3,.mp (H.length+2)),(10,.g (MemoL.g ml)),(11,I ml.l.length),(12,I ml.l.length),(13,B false)],[],.cells ((Zi.c ⟨ml,mo⟩).map .g) :: .rows 1 1 [] :: .map (Qx r)::o⟩))
  (fun n o=>(.ret,⟨[],[],o⟩)) (by simp) (by simp) (fun k x r o hk hx hy _ => ?_) (fun _ o _=>by delta Zkl;simp -implicitDefEqProofs) [] [] trivial
 have hw2:=fun r0 o0=>Zt (E:=EvF tab) (h:=H) (c:=Zkm) (lv:=[3,21,22,23]) (l:=mo.l) (β:=List Int) (γ:=Unit) (fun _ _=>True) (fun _ x r => .inl ((fun r (x:Zn)=>Wt r x.who) r x))
  (fun k r o=>⟨[(3,.mp (H.length+2)),(21,.g (Floors.g mo)),(22,I mo.l.length),(23,I k)],[],.cells ((Zi.c ⟨ml,mo⟩).map .g) :: .rows 1 1 [] :: .map (Qx r)::o⟩)
  (fun r o=>(.exit 2,⟨[(3,.mp (H.length+2)),(21,.g (Floors.g mo)),(22,I mo.l.length),(23,I mo.l.length),(24,B false)],[],.cells ((Zi.c ⟨ml,mo⟩).map .g) :: .rows 1 1 [] :: .map (Qx r)::o⟩))
  (fun n o=>(.ret,⟨[],[],o⟩)) (by simp) (by simp) (fun k x r o hk hx hy _ => ?_) (fun _ o _=>by delta Zkm;simp -implicitDefEqProofs) r0 o0 trivial
 ·obtain ⟨o',hw⟩:=hw
  rw [Tt] at hw
  have hf:∀(l:List Zm) (r:List Int),l.foldl (fun r (x:Zm)=>Wt r x.who) r=(l.map Zm.who).foldl Wt r:=by
   intro l r;rw [List.foldl_map]
  have hf2:∀(l:List Zn) (r:List Int),l.foldl (fun r (x:Zn)=>Wt r x.who) r=(l.map Zn.who).foldl Wt r:=by
   intro l r;rw [List.foldl_map]
  rw [hf] at hw
  obtain ⟨o2,hw2⟩:=hw2 ((ml.l.map Zm.who).foldl Wt []) o'
  rw [Tt,hf2,←List.foldl_append] at hw2
  rw [show (ml.l.map Zm.who++mo.l.map Zn.who).foldl Wt []=Ma ml.l mo.l from rfl] at hw2
  simp only [Wj,Int.ofNat_zero,Int.cast_ofNat_Int] at hw hw2
  have hk:=fun (a b:Blk)=>Znt (H:=H++(a::b :: .map (Qx (Ma ml.l mo.l))::(o2++[.cells [.mp (H.length+2)]]))) (p:=H.length+(o2.length+3)) (id:=H.length+2) (ks:=Ma ml.l mo.l) (by
    rw [List.getElem?_append_right (by omega),Nat.add_sub_cancel_left,show a::b::Blk.map (Qx (Ma ml.l mo.l))::(o2++[Blk.cells [.mp (H.length+2)]])=(a::b::Blk.map (Qx (Ma ml.l mo.l))::o2)++[Blk.cells [.mp (H.length+2)]] from rfl,List.getElem?_append_right (by simp)]
    simp) (by rw [List.getElem?_append_right (by omega),Nat.add_sub_cancel_left];rfl) (Hp _) (fun k hk=>by
    unfold Ma at hk
    rw [Cr,List.mem_append,List.mem_map,List.mem_map] at hk
    rcases hk with ⟨x,hx,rfl⟩ | ⟨x,hx,rfl⟩
    ·exact (w1 x hx).1
    ·exact (w2 x hx).1) (by
    have:=Pe (ml.l.map Zm.who++mo.l.map Zn.who) []
    simp only [List.length_append,List.length_map,List.length_nil] at this
    unfold Ma Cq;omega)
  rw [show Yx (Ma ml.l mo.l)=Yb ml.l mo.l from rfl] at hk
  have hk1:=fun H'=>Zsi (H.length+2) H'
  refine Zb t98 (by simp) ?_
  simp only [Zi.c,List.map_cons,List.map_nil] at hw hw2
  have hlen:∀h s,X4 h s (.g (MemoL.g ml))=some ml.l.length:=fun h s=>Xa ..
  have hlen2:∀h s,X4 h s (.g (Floors.g mo))=some mo.l.length:=fun h s=>Xa ..
  generalize hg1:MemoL.g ml=G1 at hw hw2 hlen
  generalize hg2:Floors.g mo=G2 at hw hw2 hlen2
  rw [show Qx []=[] from rfl] at hw
  generalize Qx ((ml.l.map Zm.who).foldl Wt [])=M1 at hw hw2
  generalize Qx (Ma ml.l mo.l)=M2 at hw2 hk
  generalize Ints.g (Zz (Yb ml.l mo.l))=R at hk ⊢
  simp -implicitDefEqProofs [A,Zi.c,hg1,hg2,hlen,hlen2,hw,hw2,hk1,hk]
 ·have e2:=Zh hk (by omega)
  have hs:=Zdt r x.who
  delta Zkm
  cases mo with
  | nil=>simp at hk
  | of l =>
   simp only [Sl.l_of] at hk hy hl
   obtain ⟨xw,xs⟩:=x
   simp only at hs ⊢
   refine ⟨trivial,o++[.cells ((Zn.c ⟨xw,xs⟩).map .g)],?_⟩
   generalize Qx (Wt r xw)=M2 at hs ⊢
   generalize Qx r=M1 at hs ⊢
   simp -implicitDefEqProofs [hk,hy,Zi.c,Zn.c,e2,hs]
 ·have e2:=Zh hk (by omega)
  have hs:=Zdt r x.who
  delta Zkl
  cases ml with
  | nil=>simp at hk
  | of l =>
   simp only [Sl.l_of] at hk hy hl
   obtain ⟨xw,xs,x1,x2,x3,x4,x5,x6,x7,x8,x9⟩:=x
   simp only at hs ⊢
   refine ⟨trivial,o++[.rows 6 1 [],.rows 8 1 [],.cells ((Zm.c ⟨xw,xs,x1,x2,x3,x4,x5,x6,x7,x8,x9⟩).map .g)],?_⟩
   generalize Qx (Wt r xw)=M2 at hs ⊢
   generalize Qx r=M1 at hs ⊢
   simp -implicitDefEqProofs [hk,hy,Zi.c,Zm.c,e2,hs]
theorem Pf {α:Type} (p:α→Bool):∀(l:List α) (k:Nat),(∃x j,l.find? p=some x∧l[j]? = some x∧Xh p k l=((k+j:Nat):Int))∨(l.find? p=none∧Xh p k l = -1)
 | [],k => .inr ⟨rfl,rfl⟩
 | y::l,k=>by
  by_cases h:p y=true
  ·exact .inl ⟨y,0,by simp [h],rfl,by simp [Xh,h]⟩
  ·rcases Pf p l (k+1) with ⟨x,j,h1,h2,h3⟩ | ⟨h1,h2⟩
   ·exact .inl ⟨x,j+1,by simp [h,h1],by simpa using h2,by unfold Xh;rw [if_neg h,h3];omega⟩
   ·exact .inr ⟨by simp [h,h1],by unfold Xh;rw [if_neg h,h2]⟩
theorem Zdu (s:Sl Int) (n:Int) (hl:s.l.length≤1000000) (H:List Blk):EvF tab 99 [.g (Ints.g s),I n] H=some ⟨B (decide (n∈s.l)),[],[]⟩:=by
 have hi:EvF tab 151 [.g (Ints.g s),I n] H=some ⟨I (Xh (fun y=>decide (y=n)) 0 s.l),[],[]⟩:=by
  have hw:=Oo (E:=EvF tab) (h:=H) (c:=A4) (lv:=[0,1,7,8]) (l:=s.l) (fun _ (_:Unit)=>True) (fun k x _=>if (fun y=>decide (y=n)) x=true then .inr (.ret,⟨[(4,I k)],[],[]⟩) else .inl ())
   (fun k _=>⟨[(0,.g (Ints.g s)),(1,I n),(7,I s.l.length),(8,I k)],[],[]⟩) (fun _=>(.exit 0,⟨[(0,.g (Ints.g s)),(1,I n),(7,I s.l.length),(8,I s.l.length),(9,B false)],[],[]⟩)) (by simp)
   (fun k x _ hk hx hx' _ => ?_) (fun _ _=>by delta A4;simp -implicitDefEqProofs) s.l.length 0 () rfl (Nat.zero_le _) trivial
  ·have key:∀(l:List Int) (k:Nat) (fin:Ex×St),N7 (fun _=>fin) (P4 (β:=Unit) (fun k x _=>if (fun y=>decide (y=n)) x=true then .inr (.ret,⟨[(4,I k)],[],[]⟩) else .inl ()) k l ())=if l.any (fun y=>decide (y=n))=true then (.ret,⟨[(4,I (Xh (fun y=>decide (y=n)) k l))],[],[]⟩) else fin:=by
    intro l
    induction l with
    | nil=>intro k fin;simp [P4,N7]
    | cons x l ih =>
     intro k fin
     simp only [P4,List.any_cons,Xh]
     by_cases hp:x=n
     ·simp [hp,N7]
     ·simp only [hp,decide_false,Bool.false_eq_true,if_false]
      rw [ih];simp
   rw [List.drop_zero,key] at hw
   refine Zb Ybf (by simp) ?_
   have e0:((0:Nat):Int)=0:=rfl
   rw [e0] at hw
   have hlen:∀h st,X4 h st (.g (Ints.g s))=some s.l.length:=fun h st=>Xa ..
   generalize Ints.g s=G at hw hlen ⊢
   rcases Pf (fun y=>decide (y=n)) s.l 0 with ⟨x,j,h1,h2,h3⟩ | ⟨h1,h2⟩
   ·have ha:s.l.any (fun y=>decide (y=n))=true:=(Se _ s.l 0).1 (by rw [h3];omega)
    rw [if_pos ha] at hw
    simp -implicitDefEqProofs [hlen,hw]
   ·have ha:¬s.l.any (fun y=>decide (y=n))=true:=fun h=>by
     have:=(Se _ s.l 0).2 h;rw [h2] at this;omega
    rw [if_neg ha] at hw
    rw [h2]
    simp -implicitDefEqProofs [hlen,hw]
  ·have e2:=Zh hk (by omega)
   delta A4
   cases s with
   | nil=>simp at hk
   | of l =>
    simp only [Sl.l_of] at hk hx' hl
    by_cases h:x=n
    ·simp -implicitDefEqProofs [hk,hx',Ints.c,h,e2]
    ·simp -implicitDefEqProofs [hk,hx',Ints.c,h,e2,show ¬n=x from fun e=>h e.symm]
 refine Zb t99 (by simp) ?_
 have hd:decide (0≤Xh (fun y=>decide (y=n)) 0 s.l)=decide (n∈s.l):=by
  rw [Fq]
  rw [Bool.eq_iff_iff,List.any_eq_true,decide_eq_true_eq]
  constructor
  ·rintro ⟨x,h1,h2⟩;rw [←of_decide_eq_true h2];exact h1
  ·intro h;exact ⟨n,h,by simp⟩
 rw [←hd]
 generalize Ints.g s=G at hi ⊢
 simp -implicitDefEqProofs [hi]
theorem Zhc (x:Zm) (H:List Blk):EvF tab 96 [A x.c] H=some ⟨A [.int .i64 x.who,.int .i64 x.seq],[],[]⟩:=by
 refine Zb t96 (by simp) ?_
 simp -implicitDefEqProofs [A,Zm.c]
def isP (w s:Int) (x:Zm):Bool:=decide (x.who=w)&&decide (x.seq=s)
theorem Rj (l:List Zm) (w s:Int):Wx l w s=l.find? (isP w s):=rfl
theorem Zsj (x:Zm) (w s:Int) {H:List Blk} {p:Nat} (hp:H[p]? = some (.cells [I w,I s])):EvF tab 95 [A x.c,.ptr p 0] H=some ⟨B (isP w s x),[],[]⟩:=by
 have hlt:p<H.length:=(List.getElem?_eq_some_iff.1 hp).1
 have hg:H[p] = .cells [I w,I s]:=(List.getElem?_eq_some_iff.1 hp).2
 have hlv:∀o,Zq (H++o) p=true:=fun o=>by unfold Zq;rw [List.getElem?_append_left hlt,hp];rfl
 have h1:=fun H=>Zhc x H
 refine Zb t95 (by simp) ?_
 unfold isP
 obtain ⟨xw,xs,x1,x2,x3,x4,x5,x6,x7,x8,x9⟩:=x
 simp only [Zm.c,A,List.map_cons,List.map_nil] at h1 ⊢
 by_cases c1:xw=w
 ·subst c1
  by_cases c2:xs=s
  ·subst c2
   simp -implicitDefEqProofs [A,Zp hlt,orB,hg,hp,h1,hlv]
  ·simp -implicitDefEqProofs [A,Zp hlt,orB,hg,hp,h1,hlv,c2]
 ·simp -implicitDefEqProofs [A,Zp hlt,orB,hg,hp,h1,hlv,c1]
theorem Zsk (s:Sl Zm) (w q:Int) (hl:s.l.length≤1000000) {H:List Blk} {p:Nat} (hp:H[p]? = some (.cells [I w,I q])) :
  EvF tab 94 [.g (MemoL.g s),.fv 95 [.ptr p 0]] H=some ⟨I (Xh (isP w q) 0 s.l),[],[]⟩:=by
 have:=Ot (Tb:=tab) (f:=94) (agg:=true) (n:=11) (c:=Zm.c) t94 (fun e=>A e.c) (isP w q) (.fv 95 [.ptr p 0]) s (by omega) H (fun e=>by simp [Zm.c,A]) (fun e _ t=>by
  have:=Zsj e w q (H:=full H ⟨t,[],[]⟩) (p:=p) (by simpa using hp)
  rw [Qn]
  simp only [List.all_nil,if_true]
  show fin H [] ⟨t,[],[]⟩ (EvF tab _ [A e.c,.ptr p 0] _)=_
  simp only [Yi]
  rw [this]
  simp -implicitDefEqProofs)
 exact this
theorem Zkt (m:Zi) (w q:Int) (wf:m.wf) (hl:m.l.l.length+m.old.l.length≤10000) (H:List Blk) :
  EvF tab 45 [A m.c,I w,I q] H=some ⟨.tup [A (Yn m.l.l m.old.l w q).1.c,B (Yn m.l.l m.old.l w q).2.1,I (Yn m.l.l m.old.l w q).2.2],[],[]⟩:=by
 have h1:=fun H=>Zse m w (by omega) H
 have h2:=fun H=>Zks m wf hl H
 have h4:=fun H=>Zdu (Zz (Yb m.l.l m.old.l)) w (by rw [Xz];have:=Js m.l.l m.old.l;omega) H
 have hwl:=Js m.l.l m.old.l
 have hlen:∀h st,X4 h st (.g (Ints.g (Zz (Yb m.l.l m.old.l))))=some (Yb m.l.l m.old.l).length:=fun h st=>by rw [Xa,Xz]
 rw [Xz] at h4
 obtain ⟨ml,mo⟩:=m
 simp only at h1 h2 h4 hlen hwl hl ⊢
 have h3:=fun (a b c d:Blk)=>Zsk ml w q (by omega) (H:=H++[a,b,c,d,.cells [I w,I q]]) (p:=H.length+4) (by rw [List.getElem?_append_right (by omega),Nat.add_sub_cancel_left];rfl)
 refine Zb t45 (by simp) ?_
 unfold Yn
 rw [Rj]
 simp only [A,Zi.c,List.map_cons,List.map_nil] at h1 h2 ⊢
 rcases Pf (isP w q) ml.l 0 with ⟨x,j,f1,f2,f3⟩ | ⟨f1,f2⟩
 ·rw [f1]
  rw [f3] at h3
  simp only [Nat.zero_add] at h3 ⊢
  cases ml with
  | nil=>simp at f2
  | of l =>
   simp only [Sl.l_of] at f2
   obtain ⟨hj,hx⟩:=List.getElem?_eq_some_iff.1 f2
   obtain ⟨xw,xs,x1,x2,x3,x4,x5,x6,x7,x8,x9⟩:=x
   simp only [Sl.g_of,MemoL.g] at h3
   generalize Floors.g mo=G2 at h1 h2 ⊢
   simp -implicitDefEqProofs [h3,hj,hx,Zm.c,Zj.c,A]
 ·rw [f1]
  rw [f2] at h3
  generalize MemoL.g ml=G1 at h1 h2 h3 ⊢
  generalize Floors.g mo=G2 at h1 h2 ⊢
  by_cases c1:q≤Yd mo.l w
  ·simp -implicitDefEqProofs [h3,h1,c1,Kb,Zj.c,A]
  ·by_cases c2:8≤(Yb ml.l mo.l).length
   ·have c2I:(8:Int)≤((Yb ml.l mo.l).length:Int):=by omega
    generalize Ints.g (Zz (Yb ml.l mo.l))=GW at h2 h4 hlen
    by_cases c3:w∈Yb ml.l mo.l
    ·simp only [c3,decide_true] at h4
     simp -implicitDefEqProofs [h3,h1,h2,h4,hlen,c1,c2,c2I,c3,Kb,Zj.c,A]
    ·simp only [c3,decide_false] at h4
     simp -implicitDefEqProofs [h3,h1,h2,h4,hlen,c1,c2,c2I,c3,Kb,Zj.c,A]
   ·have c2I:¬(8:Int)≤((Yb ml.l mo.l).length:Int):=by omega
    generalize Ints.g (Zz (Yb ml.l mo.l))=GW at h2 h4 hlen
    simp -implicitDefEqProofs [h3,h1,h2,hlen,c1,c2,c2I,Kb,Zj.c,A]
theorem Zhd (w:Int):∀(l:List Zn) k,Ym (fun _ (x:Zn) (_:Unit)=>if x.who=w then (.inr x.seq:Unit⊕Int) else .inl ()) k l ()=if X8 l w=true then .inr (Yd l w) else .inl ():=by
 intro l
 induction l with
 | nil=>intro k;rfl
 | cons x l ih =>
  intro k
  unfold Ym Yd X8
  by_cases h:x.who=w
  ·simp [h]
  ·simp only [if_neg h]
   rw [ih]
   unfold X8
   simp [h]
theorem Znu (w:Int):∀(l:List Zn),X8 l w=false→Yd l w = -1:=by
 intro l
 induction l with
 | nil=>intro _;rfl
 | cons x l ih =>
  intro h
  unfold X8 at h ih
  rw [List.any_cons,Bool.or_eq_false_iff] at h
  unfold Yd
  rw [if_neg (by simpa using h.1)]
  exact ih h.2
theorem Cu (m:Zi) (w:Int) (hl:m.old.l.length≤9223372036854775807) (H:List Blk):EvF tab 82 [A m.c,I w] H=some ⟨I (Yd m.old.l w),[],[]⟩:=by
 obtain ⟨ml,mo⟩:=m
 simp only at hl ⊢
 have hw:=Zt (E:=EvF tab) (h:=H) (c:=Zke) (lv:=[1,2,5]) (l:=mo.l) (β:=Unit) (γ:=Int) (fun _ _=>True) (fun _ x _=>if x.who=w then .inr x.seq else .inl ())
  (fun k _ o=>⟨[(1,I w),(2,.ptr H.length 0),(5,I k)],[],[.cells ((Zi.c ⟨ml,mo⟩).map .g)]⟩)
  (fun _ o=>(.exit 0,⟨[(1,I w),(2,.ptr H.length 0),(5,I mo.l.length),(10,B false)],[],[.cells ((Zi.c ⟨ml,mo⟩).map .g)]⟩))
  (fun n o=>(.ret,⟨[(4,I n)],[],[.cells ((Zi.c ⟨ml,mo⟩).map .g)]⟩)) (by simp) (by simp) (fun k x b o hk hx hy _ => ?_) (fun _ o _=>by delta Zke;simp -implicitDefEqProofs [Zi.c]) () [] trivial
 ·obtain ⟨o',hw⟩:=hw
  rw [Zhd] at hw
  simp only [Int.ofNat_zero,Int.cast_ofNat_Int] at hw
  refine Zb t82 (by simp) ?_
  simp only [Zi.c,List.map_cons,List.map_nil] at hw
  generalize hg1:MemoL.g ml=G1 at hw
  generalize hg2:Floors.g mo=G2 at hw
  cases hh:X8 mo.l w
  ·rw [hh] at hw
   simp only [Bool.false_eq_true,if_false,Wj] at hw
   simp -implicitDefEqProofs [A,Zi.c,hg1,hg2,hw,Znu w mo.l hh]
  ·rw [hh] at hw
   simp only [if_true,Wj] at hw
   simp -implicitDefEqProofs [A,Zi.c,hg1,hg2,hw]
 ·have e2:=Zh hk hl
  delta Zke
  cases mo with
  | nil=>simp at hk
  | of l =>
   simp only [Sl.l_of] at hk hy hl
   by_cases h:x.who=w
   ·simp only [if_pos h]
    refine ⟨o,?_⟩
    simp -implicitDefEqProofs [hk,hy,Zi.c,Zn.c,h,e2]
   ·simp only [if_neg h]
    refine ⟨trivial,o,?_⟩
    simp -implicitDefEqProofs [hk,hy,Zi.c,Zn.c,h,e2]
theorem Zhe (w q:Int):∀(l:List Zm) k,Ym (fun _ (x:Zm) (_:Unit)=>if isP w q x=true then (.inr x:Unit⊕Zm) else .inl ()) k l ()=match l.find? (isP w q) with | some x => .inr x | none => .inl ():=by
 intro l
 induction l with
 | nil=>intro k;rfl
 | cons x l ih =>
  intro k
  unfold Ym
  by_cases h:isP w q x=true
  ·simp [h]
  ·simp only [if_neg h]
   rw [ih,List.find?_cons_of_neg h]
theorem Zdv (m:Zi) (w q:Int) (hl:m.l.l.length+m.old.l.length≤10000) (H:List Blk) :
  EvF tab 51 [A m.c,I w,I q] H=some ⟨.tup [A (Yn m.l.l m.old.l w q).1.c,B (Yn m.l.l m.old.l w q).2.1,I (Yn m.l.l m.old.l w q).2.2],[],[]⟩:=by
 have h1:=fun H=>Cu m w (by omega) H
 have h2:=fun H=>Zds m hl H
 have hwl:=Js m.l.l m.old.l
 have h4:=fun H=>Zsg (Yb m.l.l m.old.l) w true (by omega) H
 have hlen:∀h st,X4 h st (.g (Ints.g (Zz (Yb m.l.l m.old.l))))=some (Yb m.l.l m.old.l).length:=fun h st=>by rw [Xa,Xz]
 obtain ⟨ml,mo⟩:=m
 simp only at h1 h2 h4 hlen hwl hl ⊢
 have hw:=Zt (E:=EvF tab) (h:=H) (c:=Zj0) (lv:=[1,2,3,6,9]) (l:=ml.l) (β:=Unit) (γ:=Zm) (fun _ _=>True) (fun _ x _=>if isP w q x=true then .inr x else .inl ())
  (fun k _ o=>⟨[(1,I w),(2,I q),(3,.ptr H.length 0),(6,.ptr (H.length+3) 0),(9,I k)],[],[.cells ((Zi.c ⟨ml,mo⟩).map .g),.rows 6 1 [],.rows 8 1 [],.cells [I 0,I 0,I 0,I 0,I 0,I 0,B false,.ms (H.length+1) 1 6 0 0,.ms (H.length+2) 1 8 0 0]]⟩)
  (fun _ o=>(.exit 0,⟨[(1,I w),(2,I q),(3,.ptr H.length 0),(6,.ptr (H.length+3) 0),(9,I ml.l.length),(15,B false)],[],[.cells ((Zi.c ⟨ml,mo⟩).map .g),.rows 6 1 [],.rows 8 1 [],.cells [I 0,I 0,I 0,I 0,I 0,I 0,B false,.ms (H.length+1) 1 6 0 0,.ms (H.length+2) 1 8 0 0]]⟩))
  (fun x o=>(.ret,⟨[(6,.ptr (H.length+3) 0),(7,B true),(8,I 0)],[],[.cells ((Zi.c ⟨ml,mo⟩).map .g),.rows 6 1 [],.rows 8 1 [],.cells (x.rep.c.map .g)]⟩)) (by simp) (by simp) (fun k x b o hk hx hy _ => ?_) (fun _ o _=>by delta Zj0;simp -implicitDefEqProofs [Zi.c]) () [] trivial
 ·obtain ⟨o',hw⟩:=hw
  rw [Zhe] at hw
  simp only [Int.ofNat_zero,Int.cast_ofNat_Int] at hw
  refine Zb t51 (by simp) ?_
  simp only [A,Zi.c,List.map_cons,List.map_nil] at hw h1 h2 ⊢
  generalize MemoL.g ml=G1 at hw h1 h2 ⊢
  generalize Floors.g mo=G2 at hw h1 h2 ⊢
  unfold Yn
  rw [Rj]
  cases hf:ml.l.find? (isP w q) with
  | some x =>
   rw [hf] at hw
   simp only [Wj] at hw
   obtain ⟨xw,xs,x1,x2,x3,x4,x5,x6,x7,x8,x9⟩:=x
   simp only [Zj.c,List.map_cons,List.map_nil] at hw
   simp -implicitDefEqProofs [hw,Zj.c,A]
  | none =>
   rw [hf] at hw
   simp only [Wj] at hw
   by_cases c1:q≤Yd mo.l w
   ·simp -implicitDefEqProofs [hw,h1,c1,Kb,Zj.c,A]
   ·by_cases c2:8≤(Yb ml.l mo.l).length
    ·have c2I:(8:Int)≤((Yb ml.l mo.l).length:Int):=by omega
     have hne:¬Yb ml.l mo.l=[]:=fun e=>by rw [e] at c2;simp at c2
     have hgg:Ints.g (Zz (Yb ml.l mo.l)) = .sl 1 ((Yb ml.l mo.l).map Ints.c):=by unfold Zz;rw [if_neg hne];rfl
     rw [←hgg] at h4
     have hpb:Mb true w (Yb ml.l mo.l)=U4 w (Yb ml.l mo.l):=rfl
     rw [hpb] at h4
     have hsrt:Zdo (Yb ml.l mo.l):=Qu _
     generalize Ints.g (Zz (Yb ml.l mo.l))=GW at h2 h4 hlen
     have hpl:∀h st,X4 h st (.g (.sl 1 ((U4 w (Yb ml.l mo.l)).map Ints.c)))=some (U4 w (Yb ml.l mo.l)).length:=fun h st=>by simp [X4]
     generalize GV.sl 1 ((U4 w (Yb ml.l mo.l)).map Ints.c)=GP at h4 hpl
     by_cases c3:w∈Yb ml.l mo.l
     ·rw [Zae w hsrt c3] at hpl
      simp -implicitDefEqProofs [hw,h1,h2,h4,hlen,hpl,c1,c2,c2I,c3,Kb,Zj.c,A]
     ·rw [Ef w c3,(Qv w _).length_eq,List.length_cons] at hpl
      simp -implicitDefEqProofs [hw,h1,h2,h4,hlen,hpl,c1,c2,c2I,c3,Kb,Zj.c,A]
      omega
    ·have c2I:¬(8:Int)≤((Yb ml.l mo.l).length:Int):=by omega
     generalize Ints.g (Zz (Yb ml.l mo.l))=GW at h2 hlen
     simp -implicitDefEqProofs [hw,h1,h2,hlen,c1,c2,c2I,Kb,Zj.c,A]
 ·have e2:=Zh hk (by omega)
  delta Zj0
  cases ml with
  | nil=>simp at hk
  | of l =>
   simp only [Sl.l_of] at hk hy hl
   obtain ⟨xw,xs,x1,x2,x3,x4,x5,x6,x7,x8,x9⟩:=x
   unfold isP
   by_cases c1:xw=w
   ·subst c1
    by_cases c2:xs=q
    ·subst c2
     simp only [decide_true,Bool.and_self,if_true]
     refine ⟨o,?_⟩
     simp -implicitDefEqProofs [hk,hy,Zi.c,Zm.c,Zj.c,e2]
    ·simp only [c2,decide_true,decide_false,Bool.and_false,Bool.false_eq_true,if_false]
     refine ⟨trivial,o,?_⟩
     simp -implicitDefEqProofs [hk,hy,Zi.c,Zm.c,c2,e2]
   ·simp only [c1,decide_false,Bool.false_and,Bool.false_eq_true,if_false]
    refine ⟨trivial,o,?_⟩
    simp -implicitDefEqProofs [hk,hy,Zi.c,Zm.c,c1,e2]
def isF (w:Int) (x:Zn):Bool:=decide (x.who=w)
theorem Znv (x:Zn) (w:Int) {H:List Blk} {p:Nat} (hp:H[p]? = some (.cells [I w])):EvF tab 161 [A x.c,.ptr p 0] H=some ⟨B (isF w x),[],[]⟩:=by
 have hlt:p<H.length:=(List.getElem?_eq_some_iff.1 hp).1
 have hg:H[p] = .cells [I w]:=(List.getElem?_eq_some_iff.1 hp).2
 have hlv:∀o,Zq (H++o) p=true:=fun o=>by unfold Zq;rw [List.getElem?_append_left hlt,hp];rfl
 refine Zb Ybo (by simp) ?_
 unfold isF
 obtain ⟨xw,xs⟩:=x
 by_cases c1:xw=w
 ·simp -implicitDefEqProofs [A,Zn.c,Zp hlt,orB,hg,hp,hlv,c1]
 ·simp -implicitDefEqProofs [A,Zn.c,Zp hlt,orB,hg,hp,hlv,c1]
theorem Zsl (s:Sl Zn) (w:Int) (hl:s.l.length≤1000000) {H:List Blk} {p:Nat} (hp:H[p]? = some (.cells [I w])) :
  EvF tab 160 [.g (Floors.g s),.fv 161 [.ptr p 0]] H=some ⟨I (Xh (isF w) 0 s.l),[],[]⟩:=by
 have:=Ot (Tb:=tab) (f:=160) (agg:=true) (n:=2) (c:=Zn.c) Ybn (fun e=>A e.c) (isF w) (.fv 161 [.ptr p 0]) s (by omega) H (fun e=>by simp [Zn.c,A]) (fun e _ t=>by
  have:=Znv e w (H:=full H ⟨t,[],[]⟩) (p:=p) (by simpa using hp)
  rw [Qn]
  simp only [List.all_nil,if_true]
  show fin H [] ⟨t,[],[]⟩ (EvF tab _ [A e.c,.ptr p 0] _)=_
  simp only [Yi]
  rw [this]
  simp -implicitDefEqProofs)
 exact this
theorem Zsm:∃m msg m' msg',tab.T 162=some (Sy 2 16 194 m msg)∧tab.T 194=some (M4 2 16 [.int .i64 0,.int .i64 0] m' msg') :=
 ⟨_,_,_,_,Ybp,Ycg⟩
theorem Zdw (a b:Sl Zn) (hn:a.l.length+b.l.length≤1000000) (H:List Blk) :
  EvF tab 162 [.g (.sl 1 [[Floors.g a],[Floors.g b]])] H=some ⟨.g (Fp 2 Zn.c (a.l++b.l)),[],[]⟩:=by
 obtain ⟨m,msg,m',msg',h1,h2⟩:=Zsm
 exact Qo h1 h2 a b (by omega) (by omega) H
theorem Zzl:tab.T 163=some (Zg7 2 16 true):=Ybq
def Yy:List Zn→Int→Int→List Zn
 | [],w,q=>[⟨w,q⟩]
 | f::l,w,q=>if f.who=w then ⟨w,max f.seq q⟩::l else f::Yy l w q
theorem Zhf (w q:Int):∀(l:List Zn),(∃(x:Zn) (j:Nat),l.find? (isF w)=some x∧l[j]? = some x∧Xh (isF w) 0 l=(j:Int)∧Yy l w q=l.set j ⟨w,max x.seq q⟩)∨(l.find? (isF w)=none∧Xh (isF w) 0 l = -1∧Yy l w q=l++[⟨w,q⟩]):=by
 have key:∀(l:List Zn) (k:Nat),(∃(x:Zn) (j:Nat),l.find? (isF w)=some x∧l[j]? = some x∧Xh (isF w) k l=((k+j:Nat):Int)∧Yy l w q=l.set j ⟨w,max x.seq q⟩)∨(l.find? (isF w)=none∧Xh (isF w) k l = -1∧Yy l w q=l++[⟨w,q⟩]):=by
  intro l
  induction l with
  | nil=>intro k;exact .inr ⟨rfl,rfl,rfl⟩
  | cons y l ih =>
   intro k
   by_cases h:y.who=w
   ·have hp:isF w y=true:=by simp [isF,h]
    exact .inl ⟨y,0,by simp [hp],rfl,by simp [Xh,hp],by unfold Yy;rw [if_pos h];rfl⟩
   ·have hp:¬isF w y=true:=by simp [isF,h]
    rcases ih (k+1) with ⟨x,j,h1,h2,h3,h4⟩ | ⟨h1,h2,h3⟩
    ·exact .inl ⟨x,j+1,by rw [List.find?_cons_of_neg hp,h1],by simpa using h2,by unfold Xh;rw [if_neg hp,h3];omega,by unfold Yy;rw [if_neg h,h4];rfl⟩
    ·exact .inr ⟨by rw [List.find?_cons_of_neg hp,h1],by unfold Xh;rw [if_neg hp,h2],by unfold Yy;rw [if_neg h,h3];rfl⟩
 intro l
 rcases key l 0 with ⟨x,j,h1,h2,h3,h4⟩ | h
 ·exact .inl ⟨x,j,h1,h2,by rw [h3];simp,h4⟩
 ·exact .inr h
theorem Zku (a b:Int):(if a<b then b else a)=max a b:=by omega
theorem Zsn (s:Sl Zn) (w q:Int) (hl:s.l.length≤10000) (H:List Blk):EvF tab 111 [.g (Floors.g s),I w,I q] H=some ⟨.g (Floors.g (.of (Yy s.l w q))),[],[]⟩:=by
 have h1:=Zsl s w (by omega) (H:=H++[.cells [I w],.rows 2 1 []]) (p:=H.length) (by rw [List.getElem?_append_right (by omega),Nat.sub_self];rfl)
 have h2:=fun H=>Zdw s (.of [⟨w,q⟩]) (by simp only [Sl.l_of,List.length_cons,List.length_nil];omega) H
 refine Zb Yag (by simp) ?_
 rcases Zhf w q s.l with ⟨x,j,f1,f2,f3,f4⟩ | ⟨f1,f2,f3⟩
 ·rw [f3] at h1
  rw [f4]
  cases s with
  | nil=>simp at f2
  | of l =>
   simp only [Sl.l_of] at f2 hl ⊢
   obtain ⟨hj,hx⟩:=List.getElem?_eq_some_iff.1 f2
   have hne:l ≠ []:=fun e=>by rw [e] at f2;simp at f2
   have h3:=fun H=>Zc3 (c:=Zn.c) Zzl l hne (by omega) (by omega) H
   have hjn:¬((j:Int)<0):=by omega
   obtain ⟨xw,xs⟩:=x
   simp only [Floors.g,Sl.g_of] at h1
   have e1:List.take l.length ((List.map Zn.c l).set j [.int .i64 xw,.int .i64 (max xs q)])=(List.map Zn.c l).set j [.int .i64 xw,.int .i64 (max xs q)]:=List.take_of_length_le (by simp)
   simp -implicitDefEqProofs [h1,h3,hj,hx,hjn,Zn.c,e1,List.map_set]
   have hxw:xw=w:=by have:=List.find?_some f1;simpa [isF] using this
   rw [Zku,List.take_of_length_le (by simp),hxw]
 ·rw [f2] at h1
  rw [f3]
  simp only [Sl.l_of,Fp,List.append_eq_nil_iff,reduceCtorEq,and_false,if_false] at h2
  generalize Floors.g s=G1 at h1 h2 ⊢
  simp only [Sl.g_of,Floors.g] at h2
  simp only [Zn.c,List.map_cons,List.map_nil] at h2
  simp -implicitDefEqProofs [h1,h2,Zn.c,Zx]
theorem Zso (l:List Zm) (G2:GV) (w:Int) (hl:l.length≤10000) {H:List Blk} {id g:Nat} (hid:H[id]? = some (.rows 11 g (l.map Zm.c))) :
  EvF tab 108 [.agg [.ms id g 11 0 l.length,.g G2],I w] H=some ⟨.g (Ints.g (Zz (Yj l w))),[],[]⟩:=by
 have hlt:id<H.length:=(List.getElem?_eq_some_iff.1 hid).1
 have hidg:H[id] = .rows 11 g (l.map Zm.c):=(List.getElem?_eq_some_iff.1 hid).2
 have hlv:∀o,Zq (H++o) id=true:=fun o=>by unfold Zq;rw [List.getElem?_append_left hlt,hid];rfl
 have hw:=Zt (E:=EvF tab) (h:=H) (c:=As) (lv:=[1,5,9,10,11]) (l:=l) (β:=List Int) (γ:=Nat) (fun k r=>r.length≤k) (fun _ x r=>if (fun x:Zm=>decide (x.who=w)) x=true then .inl (r++[Zm.seq x]) else .inl r)
  (fun k r o=>⟨[(1,I w),(5,.ms (H.length+2) (r.length+1) 1 0 r.length),(9,.ms id g 11 0 l.length),(10,I l.length),(11,I k)],[],.cells [.ms id g 11 0 l.length,.g G2] :: .rows 1 1 [] :: .rows 1 (r.length+1) (r.map Ints.c)::o⟩)
  (fun r o=>(.exit 0,⟨[(1,I w),(5,.ms (H.length+2) (r.length+1) 1 0 r.length),(9,.ms id g 11 0 l.length),(10,I l.length),(11,I l.length),(12,B false)],[],.cells [.ms id g 11 0 l.length,.g G2] :: .rows 1 1 [] :: .rows 1 (r.length+1) (r.map Ints.c)::o⟩))
  (fun n o=>(.ret,⟨[],[],o⟩)) (by simp) (by simp) (fun k x r o hk hx hy hi => ?_) (fun _ o _=>by delta As;simp -implicitDefEqProofs) [] [] (by simp)
 ·obtain ⟨o',hw⟩:=hw
  rw [Zaf] at hw
  simp only [Wj,List.nil_append,List.map_nil,List.length_nil,Int.ofNat_zero,Int.cast_ofNat_Int,Nat.zero_add] at hw
  rw [show (l.filter fun x=>decide (x.who=w)).map Zm.seq=Xo l w from rfl] at hw
  have hsl:(Xo l w).length≤l.length:=by unfold Xo;rw [List.length_map];exact List.length_filter_le ..
  unfold Yj
  obtain ⟨r,hr⟩:∃r,Xo l w=r:=⟨_,rfl⟩
  rw [hr] at hw hsl ⊢
  have hs:=fun (P:Blk) (Q:Blk)=>Zzi (H:=H++(P::Q :: .rows 1 (r.length+1) (r.map Ints.c)::o')) (id:=H.length+2) (g:=r.length+1) (zs:=r) (by rw [List.getElem?_append_right (by omega),Nat.add_sub_cancel_left];rfl) (by omega)
  have hsn:=W5 r
  refine Zb Yad (by simp) ?_
  cases r with
  | nil =>
   rw [S8] at hs ⊢
   simp only [List.length_nil,List.map_nil,Nat.zero_add] at hs
   simp -implicitDefEqProofs [Zp hlt,orB,hid,hidg,hlv,hw,hs,Zz]
  | cons y r =>
   obtain ⟨q,hq⟩:∃q,Yx (y::r)=q:=⟨_,rfl⟩
   rw [hq] at hs hsn ⊢
   cases q with
   | nil=>simp at hsn
   | cons z q =>
    simp only [List.length_cons,Nat.add_right_cancel_iff] at hsn
    simp only [List.length_cons,List.map_cons] at hs
    have e1:List.take r.length (List.map Ints.c q)=List.map Ints.c q:=List.take_of_length_le (by simp [hsn])
    simp -implicitDefEqProofs [Zp hlt,orB,hid,hidg,hlv,hw,hs,Zz,e1,show r.length≤q.length by omega]
 ·have e2:=Zh hk (by omega)
  delta As
  have e3:List.take r.length (List.map Ints.c r)=List.map Ints.c r:=List.take_of_length_le (by simp)
  obtain ⟨xw,xs,x1,x2,x3,x4,x5,x6,x7,x8,x9⟩:=x
  by_cases h:xw=w
  ·simp only [h,decide_true,if_true]
   refine ⟨by simp;omega,o++[.rows 6 1 [],.rows 8 1 [],.cells ((Zm.c ⟨xw,xs,x1,x2,x3,x4,x5,x6,x7,x8,x9⟩).map .g)],?_⟩
   simp -implicitDefEqProofs [Zp hlt,orB,hid,hidg,hlv,hk,hy,Zm.c,h,e2,Ints.c,Yh,room,Nat.not_succ_le_self,Zx,show r.length+1≤140737488355328 by omega,show (r.length+1)*8≤140737488355328 by omega,e3]
  ·simp only [h,decide_false,Bool.false_eq_true,if_false]
   refine ⟨by omega,o++[.rows 6 1 [],.rows 8 1 [],.cells ((Zm.c ⟨xw,xs,x1,x2,x3,x4,x5,x6,x7,x8,x9⟩).map .g)],?_⟩
   simp -implicitDefEqProofs [Zp hlt,orB,hid,hidg,hlv,hk,hy,Zm.c,h,e2]
theorem Zsp (x:Zm) (w:Int) (y:Int) (ys:List Int) {H:List Blk} {p q:Nat} (hp:H[p]? = some (.cells [I w])) (hq:H[q]? = some (.cells [.g (.sl 1 ((y::ys).map Ints.c))])) :
  EvF tab 109 [A x.c,.ptr p 0,.ptr q 0] H=some ⟨B (isP w y x),[],[]⟩:=by
 have hlt:p<H.length:=(List.getElem?_eq_some_iff.1 hp).1
 have hg:H[p] = .cells [I w]:=(List.getElem?_eq_some_iff.1 hp).2
 have hlv:∀o,Zq (H++o) p=true:=fun o=>by unfold Zq;rw [List.getElem?_append_left hlt,hp];rfl
 have hlt2:q<H.length:=(List.getElem?_eq_some_iff.1 hq).1
 have hg2:H[q] = .cells [.g (.sl 1 ((y::ys).map Ints.c))]:=(List.getElem?_eq_some_iff.1 hq).2
 have hlv2:∀o,Zq (H++o) q=true:=fun o=>by unfold Zq;rw [List.getElem?_append_left hlt2,hq];rfl
 have h1:=fun H=>Zhc x H
 refine Zb Yae (by simp) ?_
 unfold isP
 obtain ⟨xw,xs,x1,x2,x3,x4,x5,x6,x7,x8,x9⟩:=x
 simp only [Zm.c,A,List.map_cons,List.map_nil] at h1 ⊢
 by_cases c1:xw=w
 ·subst c1
  by_cases c2:xs=y
  ·subst c2
   simp -implicitDefEqProofs [A,Zp hlt,Zp hlt2,orB,hg,hp,hg2,hq,h1,hlv,hlv2,Ints.c]
  ·simp -implicitDefEqProofs [A,Zp hlt,Zp hlt2,orB,hg,hp,hg2,hq,h1,hlv,hlv2,c2,Ints.c]
 ·simp -implicitDefEqProofs [A,Zp hlt,Zp hlt2,orB,hg,hp,hg2,hq,h1,hlv,hlv2,c1,Ints.c]
theorem Zhg (l:List Zm) (w y:Int) (ys:List Int) (hl:l.length≤1000000) {H:List Blk} {id g p q:Nat} (hid:H[id]? = some (.rows 11 g (l.map Zm.c))) (hp:H[p]? = some (.cells [I w])) (hq:H[q]? = some (.cells [.g (.sl 1 ((y::ys).map Ints.c))])) :
  EvF tab 94 [.ms id g 11 0 l.length,.fv 109 [.ptr p 0,.ptr q 0]] H=some ⟨I (Xh (isP w y) 0 l),[],[]⟩:=by
 have hlt:id<H.length:=(List.getElem?_eq_some_iff.1 hid).1
 have hidg:H[id] = .rows 11 g (l.map Zm.c):=(List.getElem?_eq_some_iff.1 hid).2
 have hlv:∀o,Zq (H++o) id=true:=fun o=>by unfold Zq;rw [List.getElem?_append_left hlt,hid];rfl
 have hcall:∀x t,X7 (EvF tab) H [] ⟨t,[],[]⟩ (.fv 109 [.ptr p 0,.ptr q 0]) [A x.c]=some (.g (.bool (isP w y x)),⟨t,[],[]⟩,[]):=fun x t=>by
  have:=Zsp x w y ys (H:=full H ⟨t,[],[]⟩) (p:=p) (q:=q) (by simpa using hp) (by simpa using hq)
  rw [Qn]
  simp only [List.all_nil,if_true]
  show fin H [] ⟨t,[],[]⟩ (EvF tab _ [A x.c,.ptr p 0,.ptr q 0] _)=_
  simp only [Yi]
  rw [this]
  simp -implicitDefEqProofs
 generalize AV.fv 109 [.ptr p 0,.ptr q 0]=fv at hcall ⊢
 have hw:=Oo (E:=EvF tab) (h:=H) (c:=Zkj) (lv:=[0,1,7,8]) (l:=l) (fun _ (_:Unit)=>True) (fun k x _=>if isP w y x=true then .inr (.ret,⟨[(4,I k)],[],[]⟩) else .inl ())
  (fun k _=>⟨[(0,.ms id g 11 0 l.length),(1,fv),(7,I l.length),(8,I k)],[],[]⟩) (fun _=>(.exit 0,⟨[(0,.ms id g 11 0 l.length),(1,fv),(7,I l.length),(8,I l.length),(9,B false)],[],[]⟩)) (by simp)
  (fun k x _ hk hx hx' _ => ?_) (fun _ _=>by delta Zkj;simp -implicitDefEqProofs) l.length 0 () rfl (Nat.zero_le _) trivial
 ·have key:∀(l:List Zm) (k:Nat) (fin:Ex×St),N7 (fun _=>fin) (P4 (β:=Unit) (fun k x _=>if isP w y x=true then .inr (.ret,⟨[(4,I k)],[],[]⟩) else .inl ()) k l ())=if l.any (isP w y)=true then (.ret,⟨[(4,I (Xh (isP w y) k l))],[],[]⟩) else fin:=by
   intro l
   induction l with
   | nil=>intro k fin;simp [P4,N7]
   | cons x l ih =>
    intro k fin
    simp only [P4,List.any_cons,Xh]
    by_cases hp:isP w y x=true
    ·simp [hp,N7]
    ·simp only [hp,Bool.false_eq_true,if_false]
     rw [ih];simp
  rw [List.drop_zero,key] at hw
  refine Zb t94 (by simp) ?_
  have e0:((0:Nat):Int)=0:=rfl
  rw [e0] at hw
  rcases Pf (isP w y) l 0 with ⟨x,j,h1,h2,h3⟩ | ⟨h1,h2⟩
  ·have ha:l.any (isP w y)=true:=(Se _ l 0).1 (by rw [h3];omega)
   rw [if_pos ha] at hw
   simp -implicitDefEqProofs [Zp hlt,orB,hid,hidg,hlv,hw]
  ·have ha:¬l.any (isP w y)=true:=fun h=>by
    have:=(Se _ l 0).2 h;rw [h2] at this;omega
   rw [if_neg ha] at hw
   rw [h2]
   simp -implicitDefEqProofs [Zp hlt,orB,hid,hidg,hlv,hw]
 ·have hc:=hcall x
  have e2:=Zh hk (by omega)
  have hlv0:Zq H id=true:=by have:=hlv [];simpa using this
  delta Zkj
  generalize hpp:isP w y x=b at hc ⊢
  obtain ⟨xw,xs,x1,x2,x3,x4,x5,x6,x7,x8,x9⟩:=x
  simp only [A,Zm.c,List.map_cons,List.map_nil] at hc
  cases b
  ·simp -implicitDefEqProofs [Zp hlt,orB,hid,hidg,hlv,hlv0,hk,hx',Zm.c,hc,e2]
  ·simp -implicitDefEqProofs [Zp hlt,orB,hid,hidg,hlv,hlv0,hk,hx',Zm.c,hc,e2]
def Zah (sz bytes:Nat) (g:FuncId) (m:TypeId) (msg:List UInt8):Zg:={ Sy sz bytes g m msg with esc:=true }
theorem Zhh {f g:FuncId} {α:Type} {sz bytes:Nat} {z:List GV} {m m':TypeId} {msg msg':List UInt8} {c:α→List GV} (hF:tab.T f=some (Zah sz bytes g m msg)) (hG:tab.T g=some (M4 sz bytes z m' msg'))
  (a b:Sl α) (h0:¬a.l.length+b.l.length=0) (hn:a.l.length+b.l.length≤140737488355328) (hb:(a.l.length+b.l.length)*bytes≤140737488355328) (H:List Blk) :
  EvF tab f [.g (.sl 1 [[a.g sz c],[b.g sz c]])] H=some ⟨.ms (H.length+2) 2 sz 0 (a.l++b.l).length,[],[.rows sz 1 [],.rows sz 1 [],.rows sz 2 ((a.l++b.l).map c)]⟩:=by
 refine Zb hF (by simp [Zah,Sy]) ?_
 have g1:=fun H=>Zjl hG (a.l.length+b.l.length) hn hb H
 have l0:=fun o=>M5 (E:=EvF tab) (m:=m) (msg:=msg) (sz:=sz) (c:=c) a b hn H o
 simp only [Int.natCast_add] at l0 g1
 have l1:=fun A B=>M6 (E:=EvF tab) (sz:=sz) (bytes:=bytes) (z:=z) (c:=c) a b H A B
 simp only [if_neg h0] at g1
 simp -implicitDefEqProofs only [List.map_append] at l1
 unfold Sy
 simp -implicitDefEqProofs [l0,g1,l1]
theorem Zsq:∃m msg m' msg',tab.T 107=some (Zah 11 120 158 m msg)∧tab.T 158=some (M4 11 120 [.int .i64 0,.int .i64 0,.int .i64 0,.int .i64 0,.int .i64 0,.int .i64 0,.int .i64 0,.int .i64 0,.bool false,.nsl,.nsl] m' msg') :=
 ⟨_,_,_,_,Yac,Ybm⟩
theorem Zhi (a:Sl Zm) (x:Zm) (hn:a.l.length≤10000) (H:List Blk) :
  EvF tab 107 [.g (.sl 1 [[MemoL.g a],[.sl 11 [x.c]]])] H=some ⟨.ms (H.length+2) 2 11 0 (a.l++[x]).length,[],[.rows 11 1 [],.rows 11 1 [],.rows 11 2 ((a.l++[x]).map Zm.c)]⟩:=by
 obtain ⟨m,msg,m',msg',h1,h2⟩:=Zsq
 exact Zhh h1 h2 a (.of [x]) (by simp) (by simp;omega) (by simp;omega) H
def Zai:List GV:=[.int .i64 0,.int .i64 0,.int .i64 0,.int .i64 0,.int .i64 0,.int .i64 0,.int .i64 0,.int .i64 0,.bool false,.nsl,.nsl]
theorem Zzm (l:List Zm) (i:Nat) (hi:i<l.length) (hl:l.length≤10000) {H:List Blk} {id:Nat} (hid:H[id]? = some (.rows 11 2 (l.map Zm.c))) :
  EvF tab 110 [.ms id 2 11 0 l.length,I i,I (i+1:Nat)] H=some ⟨.ms id 2 11 0 (l.length - 1),[(id,.rows 11 2 ((l.eraseIdx i).map Zm.c++[Zai]))],[]⟩:=by
 have hlt:id<H.length:=(List.getElem?_eq_some_iff.1 hid).1
 have hidg:H[id] = .rows 11 2 (l.map Zm.c):=(List.getElem?_eq_some_iff.1 hid).2
 have hlv:∀o,Zq (H++o) id=true:=fun o=>by unfold Zq;rw [List.getElem?_append_left hlt,hid];rfl
 refine Zb Yaf (by simp) ?_
 have hiI:(i:Int)<(l.length:Int):=by omega
 have hi1:((i+1:Nat):Int)≤(l.length:Int):=by omega
 obtain ⟨L,hL⟩:∃L,List.map Zm.c l=L:=⟨_,rfl⟩
 have hLl:L.length=l.length:=by rw [←hL];simp
 have hres:(l.eraseIdx i).map Zm.c=L.take i++L.drop (i+1):=by rw [List.eraseIdx_eq_take_drop_succ,List.map_append,List.map_take,List.map_drop,hL]
 rw [hres]
 rw [hL] at hid hidg
 rw [←hLl] at hi hiI hi1 hl ⊢
 clear hres hL hLl
 have eD:List.take (L.length - (i+1)) (List.drop (i+1) L)=List.drop (i+1) L:=List.take_of_length_le (by simp)
 by_cases hlast:i+1=L.length
 ·have hd:List.drop (i+1) L=[]:=List.drop_eq_nil_of_le (by omega)
  have e3:L.length - (i+1)=0:=by omega
  simp -implicitDefEqProofs [Zp hlt,Z2 hlt,orB,hid,hidg,hlv,Xd,bnd,Y2,hiI,hi1,hi,show i≤L.length by omega,show i+1≤L.length by omega,show (i:Int)≤(L.length:Int) by omega,show (i:Int)+1≤(L.length:Int) by omega,show (0:Int)≤(i:Int)+1 by omega,show (i:Int)≤(i:Int)+1 by omega,show ¬(i:Int)=(i:Int)+1 by omega,eD,hd,e3,Yh]
  simp [hlt,Zai,hd,show L.length - i=1 by omega,show L.length - 1=i by omega]
 ·obtain ⟨y,ys,hd⟩:∃y ys,List.drop (i+1) L=y::ys:=by
   cases h:List.drop (i+1) L with
   | nil=>have:=congrArg List.length h;simp at this;omega
   | cons y ys=>exact ⟨y,ys,rfl⟩
  have hlen:=congrArg List.length hd
  simp only [List.length_drop,List.length_cons] at hlen
  have hl3:i+(ys.length+1)≤L.length:=by omega
  have hl4:i+(ys.length+1)=L.length - 1:=by omega
  have hd2:(List.drop (L.length - 1) L).length=1:=by rw [List.length_drop];omega
  obtain ⟨z,hz⟩:∃z,List.drop (L.length - 1) L=[z]:=by
   match h:List.drop (L.length - 1) L,hd2 with
   | [z],_=>exact ⟨z,rfl⟩
  rw [hd] at eD
  simp -implicitDefEqProofs [Zp hlt,Z2 hlt,orB,hid,hidg,hlv,Xd,bnd,Y2,hiI,hi1,hi,show i≤L.length by omega,show i+1≤L.length by omega,show (i:Int)≤(L.length:Int) by omega,show (i:Int)+1≤(L.length:Int) by omega,show (0:Int)≤(i:Int)+1 by omega,show (i:Int)≤(i:Int)+1 by omega,show ¬(i:Int)=(i:Int)+1 by omega,eD,hd,Yh,hl3,hl4,hz]
  have eT:List.take (L.length - 1) (List.take i L++y::(ys++[z]))=List.take i L++y::ys:=by
   have e:List.take i L++y::(ys++[z])=(List.take i L++y::ys)++[z]:=by simp
   rw [e]
   exact List.take_left' (by simp;omega)
  have eN:List.drop L.length (List.take i L++y::(ys++[z]))=[]:=List.drop_eq_nil_of_le (by simp;omega)
  simp [hlt,Zai,hd,show ¬L.length≤L.length - 1 by omega,show L.length≤i+(ys.length+1+1) by omega,show L.length - (L.length - 1)=1 by omega,eT,eN]
  omega
def Rk (w q:Int):List Zm→Nat
 | []=>0
 | x::l=>if isP w q x=true then 0 else Rk w q l+1
def Tq (l:List Zm) (w q:Int):List Zm:=l.eraseIdx (Rk w q l)
def Te (l:List Int):Int:=match l with | y::_=>y | []=>0
def Z5 (l:List Zm) (w q:Int) (r:Zj):List Zm:=l++[⟨w,q,r⟩]
def X6 (m:Zi) (w q:Int) (r:Zj):Zi :=
 if (Yn m.l.l m.old.l w q).2.1=true∨(Yn m.l.l m.old.l w q).2.2 ≠ 0 then m else
 if (Yj (Z5 m.l.l w q r) w).length≤4 then ⟨.of (Z5 m.l.l w q r),m.old⟩ else
  ⟨.of (Tq (Z5 m.l.l w q r) w (Te (Yj (Z5 m.l.l w q r) w))),.of (Yy m.old.l w (Te (Yj (Z5 m.l.l w q r) w)))⟩
def Ek (m:Zi) (w q:Int):Int:=if (Yn m.l.l m.old.l w q).2.1=true then 11 else (Yn m.l.l m.old.l w q).2.2
theorem Zaj (l:List Zm) (old:List Zn) (w q:Int):(Yn l old w q).2.1=true→(Yn l old w q).2.2=0:=by
 unfold Yn
 split
 ·intro _;rfl
 ·split
  ·intro h;cases h
  ·split
   ·intro h;cases h
   ·intro _;rfl
theorem Znw (w q:Int):∀(l:List Zm),(∃x∈l,isP w q x=true)→Rk w q l<l.length∧Xh (isP w q) 0 l=(Rk w q l:Int):=by
 have key:∀(l:List Zm) (k:Nat),(∃x∈l,isP w q x=true)→Rk w q l<l.length∧Xh (isP w q) k l=((k+Rk w q l:Nat):Int):=by
  intro l
  induction l with
  | nil=>rintro k ⟨x,hx,_⟩;simp at hx
  | cons y l ih =>
   rintro k ⟨x,hx,hp⟩
   unfold Rk Xh
   by_cases h:isP w q y=true
   ·rw [if_pos h,if_pos h];simp
   ·rw [if_neg h,if_neg h]
    rcases List.mem_cons.1 hx with rfl | hx
    ·exact absurd hp h
    ·obtain ⟨h1,h2⟩:=ih (k+1) ⟨x,hx,hp⟩
     rw [h2,List.length_cons]
     exact ⟨by omega,by omega⟩
 intro l h
 obtain ⟨h1,h2⟩:=key l 0 h
 exact ⟨h1,by rw [h2];simp⟩
theorem El (l:List Zm) (w:Int) (h:Yj l w ≠ []):∃x∈l,isP w (Te (Yj l w)) x=true:=by
 have hm:Te (Yj l w)∈Yj l w:=by
  cases hq:Yj l w with
  | nil=>exact absurd hq h
  | cons y ys=>simp [Te]
 generalize Te (Yj l w)=y at hm ⊢
 unfold Yj at hm
 rw [(Wv _).mem_iff] at hm
 unfold Xo at hm
 rw [List.mem_map] at hm
 obtain ⟨x,hx,rfl⟩:=hm
 rw [List.mem_filter] at hx
 exact ⟨x,hx.1,by unfold isP;rw [hx.2];simp⟩
theorem Zkv (m:Zi) (w q:Int) (r:Zj) (wf:m.wf) (hl:m.l.l.length+m.old.l.length≤5000) (H:List Blk) :
  EvF tab 47 [A m.c,I w,I q,A r.c] H=some ⟨.tup [A (X6 m w q r).c,I (Ek m w q)],[],[]⟩:=by
 have h1:=fun H=>Zkt m w q wf (by omega) H
 refine Zb t47 (by simp) ?_
 obtain ⟨ml,mo⟩:=m
 unfold X6 Ek
 simp only at hl h1 ⊢
 obtain ⟨lk,hlk⟩:∃lk,Yn ml.l mo.l w q=lk:=⟨_,rfl⟩
 have hz:=Zaj ml.l mo.l w q
 rw [hlk] at h1 hz ⊢
 obtain ⟨lr,li,le⟩:=lk
 simp only at h1 hz ⊢
 obtain ⟨p1,p2,p3,p4,p5,p6,p7,p8,p9⟩:=lr
 obtain ⟨r1,r2,r3,r4,r5,r6,r7,r8,r9⟩:=r
 simp only [A,Zi.c,Zj.c,List.map_cons,List.map_nil] at h1 ⊢
 cases li
 ·simp only [Bool.false_eq_true,false_or,if_false]
  by_cases he:le=0
  ·subst he
   simp only [ne_eq,not_true_eq_false,if_false]
   have h2:=fun H=>Zhi ml ⟨w,q,⟨r1,r2,r3,r4,r5,r6,r7,r8,r9⟩⟩ (by omega) H
   rw [show ml.l++[⟨w,q,⟨r1,r2,r3,r4,r5,r6,r7,r8,r9⟩⟩]=Z5 ml.l w q ⟨r1,r2,r3,r4,r5,r6,r7,r8,r9⟩ from rfl] at h2
   obtain ⟨L,hL⟩:∃L,Z5 ml.l w q ⟨r1,r2,r3,r4,r5,r6,r7,r8,r9⟩=L:=⟨_,rfl⟩
   have hLl:L.length=ml.l.length+1:=by rw [←hL];simp [Z5]
   rw [hL] at h2 ⊢
   simp only [Zm.c] at h2
   generalize MemoL.g ml=G1 at h1 h2 ⊢
   generalize hG2:Floors.g mo=G2 at h1 ⊢
   have h3:=fun (b0 b1 b2 b3 b4 b5 b6 b7 b8 b9 b10:Blk)=>Zso L G2 w (by omega) (H:=H++[b0,b1,b2,b3,b4,b5,b6,b7,b8,b9,b10,.rows 11 2 (L.map Zm.c)]) (id:=H.length+11) (g:=2) (by rw [List.getElem?_append_right (by omega),Nat.add_sub_cancel_left];rfl)
   have hne:Yj L w ≠ []:=by
    intro e
    have:q∈Yj L w:=by
     unfold Yj
     rw [(Wv _).mem_iff]
     unfold Xo
     rw [List.mem_map]
     exact ⟨⟨w,q,⟨r1,r2,r3,r4,r5,r6,r7,r8,r9⟩⟩,by rw [List.mem_filter,←hL];simp [Z5],rfl⟩
    rw [e] at this;simp at this
   have hhm:=El L w hne
   obtain ⟨y,ys,hys⟩:∃y ys,Yj L w=y::ys:=by
    cases h:Yj L w with
    | nil=>exact absurd h hne
    | cons y ys=>exact ⟨y,ys,rfl⟩
   rw [hys] at h3 hhm ⊢
   simp only [Te] at hhm ⊢
   have hgs:Ints.g (Zz (y::ys)) = .sl 1 ((y::ys).map Ints.c):=rfl
   rw [hgs] at h3
   have eL:List.take L.length (List.map Zm.c L)=List.map Zm.c L:=List.take_of_length_le (by simp)
   by_cases h4:(y::ys).length≤4
   ·rw [if_pos h4]
    have h4I:((ys.length:Int)+1)≤4:=by simp only [List.length_cons] at h4;omega
    simp -implicitDefEqProofs [h1,h2,h3,h4I,eL,A,Zi.c,Zj.c,hG2,Zx]
   ·rw [if_neg h4]
    have h4I:¬((ys.length:Int)+1)≤4:=by simp only [List.length_cons] at h4;omega
    obtain ⟨j1,j2⟩:=Znw w y L hhm
    have h5:=fun (b0 b2 b3 b4 b5 b6 b7 b8 b9 b10 b12:Blk)=>Zhg L w y ys (by omega) (H:=H++[b0,.cells [I w],b2,b3,b4,b5,b6,b7,b8,b9,b10,.rows 11 2 (L.map Zm.c),b12,.cells [.g (.sl 1 ((y::ys).map Ints.c))]]) (id:=H.length+11) (g:=2) (p:=H.length+1) (q:=H.length+13) (by rw [List.getElem?_append_right (by omega),Nat.add_sub_cancel_left];rfl) (by rw [List.getElem?_append_right (by omega),Nat.add_sub_cancel_left];rfl) (by rw [List.getElem?_append_right (by omega),Nat.add_sub_cancel_left];rfl)
    rw [j2] at h5
    have h6:=fun (b0 b1 b2 b3 b4 b5 b6 b7 b8 b9 b10 b12 b13:Blk)=>Zzm L (Rk w y L) j1 (by omega) (H:=H++[b0,b1,b2,b3,b4,b5,b6,b7,b8,b9,b10,.rows 11 2 (L.map Zm.c),b12,b13]) (id:=H.length+11) (by rw [List.getElem?_append_right (by omega),Nat.add_sub_cancel_left];rfl)
    have h7:=fun H=>Zsn mo w y (by omega) H
    rw [hG2] at h7
    have hdl:(Tq L w y).length=L.length - 1:=by unfold Tq;rw [List.length_eraseIdx,if_pos j1]
    rw [show L.eraseIdx (Rk w y L)=Tq L w y from rfl] at h6
    rw [←hdl] at h6
    have e8:IntKind.i64.wrap ((Rk w y L:Int)+1)=((Rk w y L+1:Nat):Int):=by rw [wrap_i64 (by omega) (by omega)];omega
    have eD:List.take (Tq L w y).length (List.map Zm.c (Tq L w y)++[Zai])=List.map Zm.c (Tq L w y):=List.take_left' (by simp)
    generalize Tq L w y=D at h6 hdl eD ⊢
    generalize Rk w y L=J at h5 h6 e8
    simp only [Int.natCast_add,Int.cast_ofNat_Int] at h6 e8
    simp only [List.map_cons,Ints.c] at h3 h5
    simp -implicitDefEqProofs [h1,h2,h3,h4I,h5,h6,h7,e8,eD,A,Zi.c,Zj.c,Ints.c,hG2,Zx]
  ·simp only [ne_eq,he,not_false_eq_true,if_true]
   generalize MemoL.g ml=G1 at h1 ⊢
   generalize Floors.g mo=G2 at h1 ⊢
   simp -implicitDefEqProofs [h1,he,A,Zi.c,Zj.c]
 ·have:=hz rfl
  subst this
  simp only [true_or,if_true]
  generalize MemoL.g ml=G1 at h1 ⊢
  generalize Floors.g mo=G2 at h1 ⊢
  simp -implicitDefEqProofs [h1,A,Zi.c,Zj.c]
def flF (b:List (Int×Int)) (x:Zn):List (Int×Int)⊕Unit:=if (Xf x.who b).isSome=true then .inr () else .inl (Td x.who x.seq b)
def Ds:List Zn→List (Int×Int)→Option (List (Int×Int))
 | [],b=>some b
 | x::l,b=>if (Xf x.who b).isSome=true then none else Ds l (Td x.who x.seq b)
def Zdx (F:List (Int×Int)) (met:List (Int×Int)) (x:Zm):Bool:=met.contains (Uh x)||(match Xf x.who F with | some f=>decide (x.seq≤f) | none=>false)
def Vm (cnt:List (Int×Int)) (w:Int):Int:=(Xf w cnt).getD 0
def Zak (F:List (Int×Int)):List Zm→List (Int×Int)→List (Int×Int)→Bool
 | [],_,_=>true
 | x::l,met,cnt=>if Zdx F met x=true then false else if 4<Vm cnt x.who+1 then false else Zak F l (met++[Uh x]) (Td x.who (Vm cnt x.who+1) cnt)
def Ox (l:List Zm) (old:List Zn):Bool:=match Ds old [] with | some F=>Zak F l [] []&&decide ((Yb l old).length≤8) | none=>false
theorem Jt {β:Type} {k:Int}:∀{l:List (Int×β)},Xf k l=none↔k∉l.map (·.1)
 | []=>by simp [Xf]
 | p::l=>by
  unfold Xf
  by_cases h:p.1=k
  ·rw [if_pos h];simp [h]
  ·rw [if_neg h,Jt]
   have h':¬k=p.1:=fun e=>h e.symm
   simp [h']
theorem Cv {β:Type} {k:Int} {v:β}:∀{l:List (Int×β)},Xf k l=some v→(k,v)∈l
 | [],h=>by simp [Xf] at h
 | p::l,h=>by
  unfold Xf at h
  by_cases h1:p.1=k
  ·rw [if_pos h1] at h;cases h;subst h1;simp
  ·rw [if_neg h1] at h;exact List.mem_cons_of_mem _ (Cv h)
theorem Zdy {β:Type} {k:Int} {v:β}:∀{l:List (Int×β)},(l.map (·.1)).Nodup→(k,v)∈l→Xf k l=some v
 | [],_,h=>by simp at h
 | p::l,hn,h=>by
  rw [List.map_cons,List.nodup_cons] at hn
  unfold Xf
  rcases List.mem_cons.1 h with rfl | h
  ·rw [if_pos rfl]
  ·have:p.1 ≠ k:=fun e=>hn.1 (by rw [e];exact List.mem_map.2 ⟨(k,v),h,rfl⟩)
   rw [if_neg this];exact Zdy hn.2 h
theorem Zdz {β:Type} {k:Int} {v:β}:∀{l:List (Int×β)},Xf k l=none→Td k v l=l++[(k,v)]
 | [],_=>rfl
 | p::l,h=>by
  unfold Xf at h
  unfold Td
  by_cases h1:p.1=k
  ·rw [if_pos h1] at h;cases h
  ·rw [if_neg h1] at h ⊢;rw [Zdz h];rfl
theorem Kd {β:Type} {k k':Int} {v:β}:∀{l:List (Int×β)},Xf k' (Td k v l)=if k'=k then some v else Xf k' l
 | []=>by
  unfold Td Xf
  by_cases h:k'=k
  ·rw [if_pos h,if_pos h.symm]
  ·rw [if_neg h,if_neg fun e=>h e.symm];rfl
 | p::l=>by
  unfold Td
  by_cases h1:p.1=k
  ·rw [if_pos h1]
   rw [show Xf k' ((k,v)::l)=if k=k' then some v else Xf k' l from rfl,show Xf k' (p::l)=if p.1=k' then some p.2 else Xf k' l from rfl]
   by_cases h:k'=k
   ·rw [if_pos h,if_pos h.symm]
   ·rw [if_neg h,if_neg fun e=>h e.symm,if_neg fun e=>h (by rw [←e,h1])]
  ·rw [if_neg h1]
   rw [show Xf k' (p::Td k v l)=if p.1=k' then some p.2 else Xf k' (Td k v l) from rfl,Kd (l:=l),show Xf k' (p::l)=if p.1=k' then some p.2 else Xf k' l from rfl]
   by_cases h:p.1=k'
   ·rw [if_pos h,if_pos h,if_neg fun e=>h1 (by rw [h,e])]
   ·rw [if_neg h,if_neg h]
def flP (x:Zn):Int×Int:=(x.who,x.seq)
theorem Zd0:∀(l p:List Zn),Ds l (p.map flP)=if (l.map Zn.who).Nodup∧(∀x∈l,x.who∉p.map Zn.who) then some ((p++l).map flP) else none
 | [],p=>by simp [Ds]
 | x::l,p=>by
  unfold Ds
  have hk:((p.map flP).map (·.1))=p.map Zn.who:=by rw [List.map_map];rfl
  by_cases h:x.who∈p.map Zn.who
  ·have h1:(Xf x.who (p.map flP)).isSome=true:=by
    cases hq:Xf x.who (p.map flP) with
    | some v=>rfl
    | none=>rw [Jt,hk] at hq;exact absurd h hq
   rw [if_pos h1,if_neg]
   rintro ⟨_,h2⟩
   exact h2 x (by simp) h
  ·have h1:Xf x.who (p.map flP)=none:=by rw [Jt,hk];exact h
   rw [h1]
   simp only [Option.isSome_none,Bool.false_eq_true,if_false]
   rw [Zdz h1]
   have:=Zd0 l (p++[x])
   rw [List.map_append] at this
   rw [show p.map flP++[(x.who,x.seq)]=p.map flP++[x].map flP from rfl,this]
   rw [List.append_assoc,List.singleton_append]
   by_cases hc:(l.map Zn.who).Nodup∧∀y∈l,y.who∉(p++[x]).map Zn.who
   ·rw [if_pos hc,if_pos]
    obtain ⟨c1,c2⟩:=hc
    refine ⟨by
     rw [List.map_cons,List.nodup_cons]
     refine ⟨fun hm => ?_,c1⟩
     obtain ⟨y,hy,he⟩:=List.mem_map.1 hm
     exact c2 y hy (by rw [he];simp),fun y hy => ?_⟩
    rcases List.mem_cons.1 hy with rfl | hy
    ·exact h
    ·have:=c2 y hy
     rw [List.map_append,List.mem_append,not_or] at this
     exact this.1
   ·rw [if_neg hc,if_neg]
    rintro ⟨d1,d2⟩
    rw [List.map_cons,List.nodup_cons] at d1
    refine hc ⟨d1.2,fun y hy => ?_⟩
    rw [List.map_append,List.mem_append,not_or]
    refine ⟨d2 y (List.mem_cons_of_mem _ hy),fun hm => ?_⟩
    have:y.who=x.who:=by simpa using hm
    exact d1.1 (by rw [←this];exact List.mem_map.2 ⟨y,hy,rfl⟩)
theorem Ke (a b:List Zm) (w:Int):Xo (a++b) w=Xo a w++Xo b w:=by unfold Xo;rw [List.filter_append,List.map_append]
theorem Em (x:Zm) (w:Int):(Xo [x] w).length=if x.who=w then 1 else 0:=by unfold Xo;by_cases h:x.who=w <;> simp [h]
theorem Zd1 (F:List (Int×Int)):∀(l p:List Zm) (cnt:List (Int×Int)),(∀w,Vm cnt w=((Xo p w).length:Int)) →
  (Zak F l (p.map Uh) cnt=true↔(l.map Uh).Nodup∧(∀x∈l,Uh x∉p.map Uh)∧(∀x∈l,∀f,Xf x.who F=some f→f<x.seq)∧(∀x∈l,(Xo (p++l) x.who).length≤4))
 | [],p,cnt,_=>by simp [Zak]
 | x::l,p,cnt,hc=>by
  unfold Zak
  have hbad:Zdx F (p.map Uh) x=false↔Uh x∉p.map Uh∧∀f,Xf x.who F=some f→f<x.seq:=by
   unfold Zdx
   rw [Bool.or_eq_false_iff,List.contains_eq_mem,decide_eq_false_iff_not]
   refine and_congr_right fun _ => ?_
   cases Xf x.who F with
   | none=>simp
   | some f=>simp
  have hcn:∀w,Vm (Td x.who (Vm cnt x.who+1) cnt) w=((Xo (p++[x]) w).length:Int):=fun w=>by
   unfold Vm
   rw [Kd,Ke,List.length_append,Em]
   have:=hc w
   unfold Vm at this
   by_cases h:w=x.who
   ·subst h;rw [if_pos rfl,if_pos rfl,Option.getD_some,this];omega
   ·rw [if_neg h,if_neg fun e=>h e.symm,this];omega
  cases hb:Zdx F (p.map Uh) x
  ·simp only [Bool.false_eq_true,if_false]
   obtain ⟨b1,b2⟩:=hbad.1 hb
   have ih:=Zd1 F l (p++[x]) (Td x.who (Vm cnt x.who+1) cnt) hcn
   rw [List.map_append,List.map_cons,List.map_nil] at ih
   have hx:=hc x.who
   have hmono:∀w,(Xo (p++x::l) w).length=(Xo p w).length+(Xo [x] w).length+(Xo l w).length:=fun w=>by
    rw [show p++x::l=p++([x]++l) from rfl,Ke,Ke];simp only [List.length_append];omega
   by_cases h4:4<Vm cnt x.who+1
   ·rw [if_pos h4]
    simp only [Bool.false_eq_true,false_iff]
    rintro ⟨_,_,_,d⟩
    have:=d x (by simp)
    rw [hmono,Em,if_pos rfl] at this
    omega
   ·rw [if_neg h4,ih]
    rw [show p++[x]++l=p++x::l by simp]
    constructor
    ·rintro ⟨d1,d2,d3,d4⟩
     refine ⟨?_,?_,?_,?_⟩
     ·rw [List.map_cons,List.nodup_cons]
      refine ⟨fun hm => ?_,d1⟩
      obtain ⟨y,hy,he⟩:=List.mem_map.1 hm
      exact d2 y hy (by rw [he];simp)
     ·intro y hy
      rcases List.mem_cons.1 hy with rfl | hy
      ·exact b1
      ·exact fun hm=>d2 y hy (List.mem_append_left _ hm)
     ·intro y hy
      rcases List.mem_cons.1 hy with rfl | hy
      ·exact b2
      ·exact d3 y hy
     ·intro y hy
      rcases List.mem_cons.1 hy with rfl | hy
      ·by_cases hin:∃z∈l,z.who=y.who
       ·obtain ⟨z,hz,hzw⟩:=hin
        have:=d4 z hz
        rw [hzw] at this;exact this
       ·have h0:Xo l y.who=[]:=by
         unfold Xo
         rw [List.map_eq_nil_iff,List.filter_eq_nil_iff]
         intro z hz
         have:¬z.who=y.who:=fun e=>hin ⟨z,hz,e⟩
         simp [this]
        rw [hmono,h0,Em,if_pos rfl]
        simp only [List.length_nil];omega
      ·exact d4 y hy
    ·rintro ⟨d1,d2,d3,d4⟩
     rw [List.map_cons,List.nodup_cons] at d1
     refine ⟨d1.2,?_,fun y hy=>d3 y (List.mem_cons_of_mem _ hy),fun y hy=>d4 y (List.mem_cons_of_mem _ hy)⟩
     intro y hy hm
     rcases List.mem_append.1 hm with hm | hm
     ·exact d2 y (List.mem_cons_of_mem _ hy) hm
     ·rw [List.mem_singleton] at hm
      exact d1.1 (by rw [←hm];exact List.mem_map.2 ⟨y,hy,rfl⟩)
  ·simp only [if_true,Bool.false_eq_true,false_iff]
   rintro ⟨_,d2,d3,_⟩
   have:=hbad.2 ⟨d2 x (by simp),d3 x (by simp)⟩
   rw [this] at hb;cases hb
structure Zd2 (l:List Zm) (old:List Zn):Prop where
 fl:(old.map Zn.who).Nodup
 keys:(l.map Uh).Nodup
 above:∀x∈l,∀f∈old,f.who=x.who→f.seq<x.seq
 cnt:∀w,(Xo l w).length≤4
 whos:(Yb l old).length≤8
theorem Cw {l:List Zm} {old:List Zn}:Ox l old=true↔Zd2 l old:=by
 have h0:=Zd0 old []
 simp only [List.map_nil,List.not_mem_nil,not_false_eq_true,implies_true,and_true,List.nil_append] at h0
 unfold Ox
 rw [h0]
 by_cases hn:(old.map Zn.who).Nodup
 ·rw [if_pos hn]
  simp only [Bool.and_eq_true,decide_eq_true_eq]
  have h1:=Zd1 (old.map flP) l [] [] (fun w=>by simp [Vm,Xf,Xo])
  simp only [List.map_nil,List.not_mem_nil,not_false_eq_true,implies_true,true_and,List.nil_append] at h1
  rw [h1]
  have hk:((old.map flP).map (·.1))=old.map Zn.who:=by rw [List.map_map];rfl
  constructor
  ·rintro ⟨⟨d1,d3,d4⟩,d5⟩
   refine ⟨hn,d1,fun x hx f hf hw=>d3 x hx f.seq ?_,fun w => ?_,d5⟩
   ·rw [←hw]
    exact Zdy (by rw [hk];exact hn) (List.mem_map.2 ⟨f,hf,rfl⟩)
   ·by_cases hin:∃z∈l,z.who=w
    ·obtain ⟨z,hz,rfl⟩:=hin;exact d4 z hz
    ·have h0:Xo l w=[]:=by
      unfold Xo
      rw [List.map_eq_nil_iff,List.filter_eq_nil_iff]
      intro z hz
      have:¬z.who=w:=fun e=>hin ⟨z,hz,e⟩
      simp [this]
     rw [h0];simp
  ·rintro ⟨c1,c2,c3,c4,c5⟩
   refine ⟨⟨c2,fun x hx f hf => ?_,fun x hx=>c4 _⟩,c5⟩
   have:=Cv hf
   obtain ⟨fl,h1,h2⟩:=List.mem_map.1 this
   have e1:fl.who=x.who:=congrArg Prod.fst h2
   have e2:fl.seq=f:=congrArg Prod.snd h2
   rw [←e2];exact c3 x hx fl h1 e1
 ·rw [if_neg hn]
  simp only [Bool.false_eq_true,false_iff]
  exact fun h=>hn h.fl
theorem Qe:∀{a b:List Int},a.Nodup→(∀x∈a,x∈b)→a.length≤b.length
 | [],_,_,_=>Nat.zero_le _
 | x::a,b,hn,hs=>by
  rw [List.nodup_cons] at hn
  have hx:=hs x (by simp)
  have h2:=Qe (a:=a) (b:=b.erase x) hn.2 (fun y hy=>by
   have hne:y ≠ x:=fun e=>hn.1 (e▸hy)
   exact (List.mem_erase_of_ne hne).2 (hs y (List.mem_cons_of_mem _ hy)))
  rw [List.length_erase_of_mem hx] at h2
  have:0<b.length:=List.length_pos_of_mem hx
  rw [List.length_cons];omega
theorem Tf {w q:Int} {x:Zm}:isP w q x=true↔Uh x=(w,q):=by
 unfold isP Uh
 rw [Bool.and_eq_true,decide_eq_true_eq,decide_eq_true_eq,Prod.mk.injEq]
theorem Hr (w q:Int):∀{l:List Zm},(l.map Uh).Nodup→(∃x∈l,isP w q x=true)→Tq l w q=l.filter fun x => !isP w q x
 | [],_,⟨x,hx,_⟩=>by simp at hx
 | y::l,hn,⟨x,hx,hp⟩=>by
  rw [List.map_cons,List.nodup_cons] at hn
  unfold Tq Rk
  by_cases h:isP w q y=true
  ·rw [if_pos h,List.filter_cons]
   simp only [h,Bool.not_true,Bool.false_eq_true,if_false]
   symm
   rw [List.eraseIdx_cons_zero,List.filter_eq_self]
   intro z hz
   have:¬isP w q z=true:=fun hz2=>hn.1 (by
    rw [Tf] at h hz2
    rw [h,←hz2]
    exact List.mem_map.2 ⟨z,hz,rfl⟩)
   simp [this]
  ·rw [if_neg h,List.filter_cons]
   have hb:isP w q y=false:=Bool.eq_false_iff.2 h
   simp only [hb,Bool.not_false,if_true]
   rcases List.mem_cons.1 hx with rfl | hx
   ·exact absurd hp h
   ·have:=Hr w q hn.2 ⟨x,hx,hp⟩
    unfold Tq at this
    rw [List.eraseIdx_cons_succ,this]
theorem Kf (w w' y:Int):∀(old:List Zn),Yd (Yy old w y) w'=if w'=w then (if X8 old w=true then max (Yd old w) y else y) else Yd old w'
 | []=>by
  unfold Yy Yd X8
  by_cases h:w'=w
  ·subst h;simp
  ·have h':¬w=w':=fun e=>h e.symm
   simp [h,h',Yd]
 | f::old=>by
  have ih:=Kf w w' y old
  unfold Yy
  by_cases h1:f.who=w
  ·rw [if_pos h1]
   by_cases h:w'=w
   ·subst h
    have hh:X8 (f::old) w'=true:=by unfold X8;simp [h1]
    rw [if_pos rfl,if_pos hh]
    unfold Yd;rw [if_pos rfl,if_pos h1]
   ·rw [if_neg h]
    rw [show Yd (⟨w,max f.seq y⟩::old) w'=if w=w' then max f.seq y else Yd old w' from rfl,if_neg fun e=>h e.symm,show Yd (f::old) w'=if f.who=w' then f.seq else Yd old w' from rfl,if_neg fun e=>h (by rw [←e,h1])]
  ·rw [if_neg h1]
   have hh:X8 (f::old) w=X8 old w:=by unfold X8;simp [h1]
   rw [show Yd (f::Yy old w y) w'=if f.who=w' then f.seq else Yd (Yy old w y) w' from rfl,ih,hh]
   rw [show Yd (f::old) w'=if f.who=w' then f.seq else Yd old w' from rfl,show Yd (f::old) w=if f.who=w then f.seq else Yd old w from rfl,if_neg h1]
   by_cases h2:f.who=w'
   ·rw [if_pos h2,if_pos h2,if_neg fun e=>h1 (by rw [h2,e])]
   ·rw [if_neg h2,if_neg h2]
theorem Pg (w y:Int):∀(old:List Zn),(Yy old w y).map Zn.who=if X8 old w=true then old.map Zn.who else old.map Zn.who++[w]
 | []=>rfl
 | f::old=>by
  have ih:=Pg w y old
  unfold Yy
  by_cases h1:f.who=w
  ·have hh:X8 (f::old) w=true:=by unfold X8;simp [h1]
   rw [if_pos h1,if_pos hh];simp [h1]
  ·have hh:X8 (f::old) w=X8 old w:=by unfold X8;simp [h1]
   rw [if_neg h1,hh,List.map_cons,ih]
   split <;> rfl
theorem Sg {old:List Zn} {w:Int}:X8 old w=true↔w∈old.map Zn.who:=by
 unfold X8;rw [List.any_eq_true,List.mem_map];simp
theorem En {w y:Int} {old:List Zn} {f:Zn} (h:f∈Yy old w y):f∈old∨(f.who=w∧y≤f.seq∧(f.seq=y∨∃g∈old,g.who=w∧f.seq=g.seq)):=by
 induction old with
 | nil =>
  unfold Yy at h
  rw [List.mem_singleton] at h
  subst h;exact .inr ⟨rfl,Int.le_refl _,.inl rfl⟩
 | cons g old ih =>
  unfold Yy at h
  split at h
  ·rename_i h1
   rcases List.mem_cons.1 h with rfl | h
   ·refine .inr ⟨rfl,Int.le_max_right _ _,?_⟩
    by_cases hc:g.seq≤y
    ·exact .inl (by simp only;omega)
    ·exact .inr ⟨g,by simp,h1,by simp only;omega⟩
   ·exact .inl (List.mem_cons_of_mem _ h)
  ·rcases List.mem_cons.1 h with rfl | h
   ·exact .inl (by simp)
   ·rcases ih h with h | ⟨h1,h2,h3⟩
    ·exact .inl (List.mem_cons_of_mem _ h)
    ·refine .inr ⟨h1,h2,h3.imp id ?_⟩
     rintro ⟨z,hz,hw,hs⟩
     exact ⟨z,List.mem_cons_of_mem _ hz,hw,hs⟩
theorem Mc {old:List Zn} (hn:(old.map Zn.who).Nodup) {f:Zn} (hf:f∈old):Yd old f.who=f.seq:=by
 induction old with
 | nil=>simp at hf
 | cons g old ih =>
  rw [List.map_cons,List.nodup_cons] at hn
  unfold Yd
  rcases List.mem_cons.1 hf with rfl | hf
  ·rw [if_pos rfl]
  ·rw [if_neg fun e=>hn.1 (by rw [e];exact List.mem_map.2 ⟨f,hf,rfl⟩),ih hn.2 hf]
structure Zsr (l:List Zm) (old:List Zn) (w q:Int):Prop where
 no:Wx l w q=none
 fl:Yd old w<q
 room:¬(8≤(Yb l old).length∧w∉Yb l old)
theorem Zal {l:List Zm} {old:List Zn} {w q:Int} (h1:(Yn l old w q).2.1=false) (h2:(Yn l old w q).2.2=0):Zsr l old w q:=by
 unfold Yn at h1 h2
 split at h1
 ·cases h1
 ·rename_i hn
  rw [hn] at h2
  simp only at h2
  split at h2
  ·simp at h2
  ·rename_i hf
   split at h2
   ·simp at h2
   ·rename_i hr
    exact ⟨hn,by omega,hr⟩
theorem Zhj {l:List Zm} {w q:Int}:Wx l w q=none↔(w,q)∉l.map Uh:=by
 rw [Rj,List.find?_eq_none,List.mem_map]
 constructor
 ·rintro h ⟨x,hx,he⟩;exact h x hx (Tf.2 he)
 ·intro h x hx hp;exact h ⟨x,hx,Tf.1 hp⟩
theorem Eo {l:List Zm} {old:List Zn} {w q:Int} (r:Zj) (hk:Zsr l old w q) (hn:(l.map Uh).Nodup):((Z5 l w q r).map Uh).Nodup:=by
 unfold Z5
 rw [List.map_append,List.nodup_append]
 refine ⟨hn,by simp,fun a ha b hb => ?_⟩
 simp only [List.map_cons,List.map_nil,List.mem_singleton] at hb
 subst hb
 intro e
 subst e
 exact Zhj.1 hk.no ha
theorem Nf (l:List Zm) (w q w':Int) (r:Zj):Xo (Z5 l w q r) w'=if w'=w then Xo l w'++[q] else Xo l w':=by
 unfold Z5
 rw [Ke]
 unfold Xo
 by_cases h:w'=w
 ·subst h;simp
 ·have h':¬w=w':=fun e=>h e.symm
  simp [h,h']
theorem Zhk {l:List Zm} {w:Int} {x:Zm} (hx:x∈l) (hw:x.who=w):Te (Yj l w)≤x.seq:=by
 have hm:x.seq∈Yj l w:=by
  unfold Yj
  rw [(Wv _).mem_iff]
  unfold Xo
  exact List.mem_map.2 ⟨x,List.mem_filter.2 ⟨hx,by simpa using hw⟩,rfl⟩
 have hs:Zdo (Yj l w):=Qu _
 cases hq:Yj l w with
 | nil=>rw [hq] at hm;simp at hm
 | cons y ys =>
  rw [hq] at hm hs
  obtain ⟨h1,_⟩:=List.pairwise_cons.1 hs
  rcases List.mem_cons.1 hm with h | h
  ·simp only [Te];omega
  ·simp only [Te];exact h1 _ h
end Go.Proofs.YtndfdnlbljhlgaaGreat
