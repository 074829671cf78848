/- Part of the proof: what the functions answer, part 2 (SMemo2, SMemo3, SMemo4, SMemo5, SMemo6, SMemo7, SMemo8, PMemo2, PMemo3, PMemo4, SHist3). No conditions. -/
import Derived.Test.YtndfdnlbljhlgaaGreatSPJ1
section
namespace Go.Proofs.YtndfdnlbljhlgaaGreat
open Go Go.AM Go.Proofs
set_option maxRecDepth 20000
set_option maxHeartbeats 4000000
set_option linter.unusedSimpArgs false
set_option linter.unusedVariables false
def cntI (n:Int):List Int→Nat
 | []=>0
 | y::l=>if y<n then cntI n l+1 else 0
theorem cntI_le (n:Int):∀l,cntI n l≤l.length
 | []=>Nat.le_refl _
 | y::l=>by
  have:=cntI_le n l
  unfold cntI;split <;> simp <;> omega
theorem insL_cnt (n:Int):∀l,insL n l=l.take (cntI n l)++(n::l.drop (cntI n l))
 | []=>rfl
 | y::l=>by
  have:=insL_cnt n l
  unfold insL cntI
  split
  ·rw [this];rfl
  ·rfl
theorem appG_own {sz bytes g:Nat} (n:Nat) (xs ys:List (List GV)) (h1:xs.length+ys.length≤140737488355328) (h2:(xs.length+ys.length)*bytes≤140737488355328) (H:List Blk) :
  ∃(g':Nat) (W:List Nat),g≤g'∧∀(t:List (Nat×AV)) (m:List (Nat×Blk)) (P:List Blk),P.length=n→appV H ⟨t,m,P++[.rows sz g xs]⟩ sz bytes (.ms (H.length+n) g sz 0 xs.length) ys=some (.ms (H.length+n) g' sz 0 (xs++ys).length,⟨t,m,P++[.rows sz g' (xs++ys)]⟩,W):=by
 by_cases hne:ys=[]
 ·subst hne
  exact ⟨g,[],Nat.le_refl _,fun t m P hP=>by subst hP;simp -implicitDefEqProofs [appV]⟩
 ·exact ⟨g+1,[H.length+n],by omega,fun t m P hP=>by subst hP;rw [List.length_append];exact app_grow hne h1 h2 H t m P⟩
theorem putO_cnt (n:Int):∀l,putO n l=if l[cntI n l]? = some n then l else insL n l
 | []=>by simp [putO,insL]
 | y::l=>by
  have:=putO_cnt n l
  unfold putO cntI insL
  by_cases h:y<n
  ·simp only [h,if_true,List.getElem?_cons_succ]
   rw [this]
   split <;> rfl
  ·simp only [h,if_false,List.getElem?_cons_zero,Option.some.injEq]
def putB (once:Bool) (n:Int) (l:List Int):List Int:=if once=true then putO n l else insL n l
theorem put_loop (l:List Int) (n:Int) (once:Bool) (hl:l.length≤100000) (H:List Blk) (p:Blk) (G:AV) (hlen:∀s,lenV H s G=some l.length)
  (hG:G = .g (.sl 1 (l.map Ints.c))∨l=[]) :
  loopE (EvF tab) H L115_0 [0,1,2,7] ⟨[(0,G),(1,I n),(2,B once),(7,I 0)],[],[p]⟩ =
   some (.exit 0,⟨[(0,G),(1,I n),(2,B once),(7,I (cntI n l)),(20,B false)],[],[p]⟩):=by
 have hw:=loop_runJ (E:=EvF tab) (h:=H) (c:=L115_0) (lv:=[0,1,2,7]) (l:=l) (β:=Unit) (γ:=Nat) (fun _ _=>True) (fun k y _=>if y<n then .inl () else .inr k)
  (fun k _ _=>⟨[(0,G),(1,I n),(2,B once),(7,I k)],[],[p]⟩)
  (fun _ _=>(.exit 0,⟨[(0,G),(1,I n),(2,B once),(7,I l.length),(20,B false)],[],[p]⟩))
  (fun k _=>(.exit 0,⟨[(0,G),(1,I n),(2,B once),(7,I k),(20,B false)],[],[p]⟩)) (by simp) (by simp) (fun k y b o hk hx hy _ => ?_) (fun _ o _=>by delta L115_0;simp -implicitDefEqProofs [hlen]) () [] trivial
 ·obtain ⟨o',hw⟩:=hw
  have hr:∀(l:List Int) k,runG (fun k (y:Int) (_:Unit)=>if y<n then (.inl ():Unit⊕Nat) else .inr k) k l ()=if cntI n l=l.length then .inl () else .inr (k+cntI n l):=by
   intro l
   induction l with
   | nil=>intro k;rfl
   | cons y l ih =>
    intro k
    unfold runG cntI
    by_cases h:y<n
    ·simp only [if_pos h]
     rw [ih]
     simp only [List.length_cons,Nat.add_right_cancel_iff]
     rw [show k+1+cntI n l=k+(cntI n l+1) by omega]
    ·simp only [if_neg h]
     rw [if_neg (by simp)];rfl
  rw [hr] at hw
  simp only [Int.ofNat_zero,Int.cast_ofNat_Int,Nat.zero_add] at hw
  by_cases hc:cntI n l=l.length
  ·rw [if_pos hc] at hw;rw [hc];exact hw
  ·rw [if_neg hc] at hw;exact hw
 ·have e2:=wrap_succ hk (by omega)
  rcases hG with rfl | rfl
  ·delta L115_0
   by_cases h:y<n
   ·simp only [if_pos h]
    refine ⟨trivial,o,?_⟩
    simp -implicitDefEqProofs [hk,hy,hx,Ints.c,h,e2]
   ·simp only [if_neg h]
    refine ⟨o,?_⟩
    simp -implicitDefEqProofs [hk,hy,hx,Ints.c,h,e2]
  ·simp at hk
theorem put_ev (l:List Int) (n:Int) (once:Bool) (hl:l.length≤100000) (H:List Blk):EvF tab 115 [.g (.sl 1 (l.map Ints.c)),I n,B once] H=some ⟨.g (.sl 1 ((putB once n l).map Ints.c)),[],[]⟩:=by
 have hw:=put_loop l n once hl H (.rows 1 1 []) (.g (.sl 1 (l.map Ints.c))) (fun s=>by simp [lenV]) (.inl rfl)
 refine EvF_walk t115 (by simp) ?_
 have hc:=cntI_le n l
 have hcI:((cntI n l:Nat):Int)≤(l.length:Int):=by omega
 have hput:∀once,putB once n l=if once=true∧l[cntI n l]? = some n then l else l.take (cntI n l)++(n::l.drop (cntI n l)):=by
  intro once
  unfold putB
  rw [putO_cnt,insL_cnt]
  cases once
  ·simp
  ·simp
 rw [hput]
 generalize hcc:cntI n l=c at hw hc hcI hput ⊢
 have e0:List.take l.length (List.map Ints.c l)=List.map Ints.c l:=List.take_of_length_le (by simp)
 have hl1:(List.take c (List.map Ints.c l)).length≤l.length:=by simp;omega
 have hl2:(List.drop c (List.map Ints.c l)).length≤l.length:=by simp
 obtain ⟨LA,e1⟩:∃A,List.take c (List.map Ints.c l)=A:=⟨_,rfl⟩
 obtain ⟨LD,e2⟩:∃A,List.drop c (List.map Ints.c l)=A:=⟨_,rfl⟩
 rw [e1] at hl1
 rw [e2] at hl2
 have er:List.map Ints.c (l.take c++(n::l.drop c))=LA++Ints.c n::LD:=by rw [List.map_append,List.map_cons,List.map_take,List.map_drop,e1,e2]
 obtain ⟨g1,W1,q1,a1⟩:=appG_own (sz:=1) (bytes:=8) (g:=2) 1 [] LA (by simp;omega) (by simp;omega) H
 rw [List.nil_append] at a1
 obtain ⟨g2,W2,q2,a2⟩:=appG_own (sz:=1) (bytes:=8) (g:=g1) 1 LA [Ints.c n] (by simp;omega) (by simp;omega) H
 obtain ⟨g3,W3,q3,a3⟩:=appG_own (sz:=1) (bytes:=8) (g:=g2) 1 (LA++[Ints.c n]) LD (by simp;omega) (by simp;omega) H
 have a1':=fun t p=>a1 t [] [p] rfl
 have a2':=fun t p=>a2 t [] [p] rfl
 have a3':=fun t p=>a3 t [] [p] rfl
 simp only [List.cons_append,List.nil_append,List.append_assoc,List.length_append,List.length_cons,Ints.c,List.length_nil,Nat.zero_add] at a1' a2' a3'
 have g3n:¬g3=1:=by omega
 have et:List.take (LA.length+(LD.length+1)) (LA++[GV.int .i64 n]::LD)=LA++[GV.int .i64 n]::LD:=List.take_of_length_le (by simp)
 by_cases hcl:c<l.length
 ·have hclI:(c:Int)<(l.length:Int):=by omega
  obtain ⟨x,hx⟩:∃x,l[c]=x:=⟨_,rfl⟩
  have hx?:l[c]? = some x:=by rw [List.getElem?_eq_getElem hcl,hx]
  rw [hx?]
  cases once
  ·simp -implicitDefEqProofs [hw,hcl,hclI,hc,hcI,hx,hx?,cutB,bnd,intOfA,e0,e1,e2,er,et,a1',a2',a3',g3n,chunk,Ints.c]
  ·by_cases hxn:x=n
   ·simp -implicitDefEqProofs [hw,hcl,hclI,hc,hcI,hx,hx?,hxn,Ints.c]
   ·simp -implicitDefEqProofs [hw,hcl,hclI,hc,hcI,hx,hx?,hxn,cutB,bnd,intOfA,e0,e1,e2,er,et,a1',a2',a3',g3n,chunk,Ints.c]
 ·have hclI:¬(c:Int)<(l.length:Int):=by omega
  have hx?:l[c]? = none:=List.getElem?_eq_none (by omega)
  rw [hx?]
  cases once
  ·simp -implicitDefEqProofs [hw,hcl,hclI,hc,hcI,hx?,cutB,bnd,intOfA,e0,e1,e2,er,et,a1',a2',a3',g3n,chunk,Ints.c]
  ·simp -implicitDefEqProofs [hw,hcl,hclI,hc,hcI,hx?,cutB,bnd,intOfA,e0,e1,e2,er,et,a1',a2',a3',g3n,chunk,Ints.c]
theorem putN_ev (n:Int) (once:Bool) {H:List Blk} {id:Nat} (hid:H[id]? = some (.rows 1 1 [])):EvF tab 115 [.ms id 1 1 0 0,I n,B once] H=some ⟨.g (.sl 1 ([n].map Ints.c)),[],[]⟩:=by
 have hlt:id<H.length:=(List.getElem?_eq_some_iff.1 hid).1
 have hidg:H[id] = .rows 1 1 []:=(List.getElem?_eq_some_iff.1 hid).2
 have hlv:isLiveB H id=true:=by unfold isLiveB;rw [hid];rfl
 have hw:loopE (EvF tab) H L115_0 [0,1,2,7] ⟨[(0,.ms id 1 1 0 0),(1,I n),(2,B once),(7,I 0)],[],[.rows 1 1 []]⟩=some (.exit 0,⟨[(0,.ms id 1 1 0 0),(1,I n),(2,B once),(7,I 0),(20,B false)],[],[.rows 1 1 []]⟩):=by
  refine loopE_out _ _ _ _ _ _ (by simp) ?_
  delta L115_0
  simp -implicitDefEqProofs [getB_old hlt,orB,hid,hidg,hlv]
 refine EvF_walk t115 (by simp) ?_
 have hr1:∀o,isLiveB (H++o) id=true:=fun o=>by unfold isLiveB;rw [List.getElem?_append_left hlt,hid];rfl
 cases once <;> simp -implicitDefEqProofs [hw,getB_old hlt,orB,hid,hidg,hlv,hr1,cutB,bnd,intOfA,appV,room,Nat.not_succ_le_self,chunk,Ints.c]
def startV (id:Nat) (l:List Int):AV:=if l=[] then .ms id 1 1 0 0 else .g (.sl 1 (l.map Ints.c))
theorem putB_ne (once : Bool) (n : Int) (l : List Int) : putB once n l ≠ [] := by
  unfold putB
  cases once
  · simp only [Bool.false_eq_true, if_false]
    cases l with
    | nil => simp [insL]
    | cons y l => unfold insL; split <;> simp
  · simp only [if_true]
    cases l with
    | nil => simp [putO]
    | cons y l => unfold putO; split
                  · simp
                  · split <;> simp
theorem putB_len (once:Bool) (n:Int) (l:List Int):(putB once n l).length≤l.length+1:=by
 have h1:=(insL_perm n l).length_eq
 unfold putB
 split
 ·rw [putO_cnt];split
  ·omega
  ·rw [h1];simp
 ·rw [h1];simp
theorem putS_ev (l:List Int) (n:Int) (once:Bool) (hl:l.length≤100000) {H:List Blk} {id:Nat} (hid:H[id]? = some (.rows 1 1 [])):EvF tab 115 [startV id l,I n,B once] H=some ⟨startV id (putB once n l),[],[]⟩:=by
 unfold startV
 rw [if_neg (putB_ne once n l)]
 cases l with
 | nil =>
  have:=putN_ev n once hid
  have e:putB once n []=[n]:=by unfold putB;cases once <;> rfl
  rw [e];exact this
 | cons y l=>exact put_ev (y::l) n once hl H
theorem runG_foldM {α β:Type} (f:β→α→β):∀(l:List α) (k:Nat) (b:β),runG (γ:=Unit) (fun k (x:α) b => .inl (f b x)) k l b = .inl (l.foldl f b):=by
 intro l
 induction l with
 | nil=>intro k b;simp [runG]
 | cons x l ih=>intro k b;simp only [runG,ih];simp
theorem Seqs2_ev (m:Memos) (w:Int) (hl:m.l.l.length≤10000) (H:List Blk):EvF tab 84 [A m.c,I w] H=some ⟨.g (Ints.g (slOf (seqsP m.l.l w))),[],[]⟩:=by
 obtain ⟨ml,mo⟩:=m
 simp only at hl ⊢
 have hw:=loop_runJ (E:=EvF tab) (h:=H) (c:=L84_0) (lv:=[1,2,5,6]) (l:=ml.l) (β:=List Int) (γ:=Unit) (fun k r=>r.length≤k) (fun _ x r => .inl ((fun r (x:Memo)=>if x.who=w then insL x.seq r else r) r x))
  (fun k r o=>⟨[(1,I w),(2,.ptr H.length 0),(5,startV (H.length+2) r),(6,I k)],[],[.cells ((Memos.c ⟨ml,mo⟩).map .g),.rows 1 1 [],.rows 1 1 []]⟩)
  (fun r o=>(.exit 0,⟨[(1,I w),(2,.ptr H.length 0),(5,startV (H.length+2) r),(6,I ml.l.length),(11,B false)],[],[.cells ((Memos.c ⟨ml,mo⟩).map .g),.rows 1 1 [],.rows 1 1 []]⟩))
  (fun n o=>(.ret,⟨[],[],o⟩)) (by simp) (by simp) (fun k x r o hk hx hy hi => ?_) (fun _ o _=>by delta L84_0;simp -implicitDefEqProofs [Memos.c]) [] [] (by simp)
 ·obtain ⟨o',hw⟩:=hw
  rw [runG_foldM] at hw
  have hf:∀(l:List Memo) (r:List Int),l.foldl (fun r (x:Memo)=>if x.who=w then insL x.seq r else r) r=(seqL l w).foldl (fun s n=>insL n s) r:=by
   intro l
   induction l with
   | nil=>intro r;rfl
   | cons x l ih =>
    intro r
    unfold seqL at ih ⊢
    rw [List.foldl_cons,ih,List.filter_cons]
    by_cases h:x.who=w
    ·simp [h]
    ·simp [h]
  have hs:=insL_fold (seqL ml.l w) []
  rw [sortL_nil,List.nil_append] at hs
  rw [hf,hs] at hw
  rw [show sortL (seqL ml.l w)=seqsP ml.l w from rfl] at hw
  simp only [endJ,Int.ofNat_zero,Int.cast_ofNat_Int] at hw
  refine EvF_walk t84 (by simp) ?_
  simp only [Memos.c,List.map_cons,List.map_nil] at hw
  generalize hg1:MemoL.g ml=G1 at hw
  generalize hg2:Floors.g mo=G2 at hw
  obtain ⟨r,hr⟩:∃r,seqsP ml.l w=r:=⟨_,rfl⟩
  rw [hr] at hw ⊢
  cases r with
  | nil=>simp only [startV,if_true] at hw;simp -implicitDefEqProofs [A,Memos.c,hg1,hg2,hw,slOf]
  | cons y r=>simp only [startV,reduceCtorEq,if_false,if_true] at hw;simp -implicitDefEqProofs [A,Memos.c,hg1,hg2,hw,slOf]
 ·have e2:=wrap_succ hk (by omega)
  have hp:=fun H id (hid:H[id]? = some (Blk.rows 1 1 []))=>putS_ev r x.seq false (by omega) hid
  have hp2:=fun (b c:Blk)=>hp (H++[b,c,.rows 1 1 []]) (H.length+2) (by rw [List.getElem?_append_right (by omega),Nat.add_sub_cancel_left];rfl)
  have hpl:=putB_len false x.seq r
  have hpb:putB false x.seq r=insL x.seq r:=rfl
  rw [hpb] at hp2 hpl
  delta L84_0
  cases ml with
  | nil=>simp at hk
  | of l =>
   simp only [Sl.l_of] at hk hy hl
   obtain ⟨xw,xs,x1,x2,x3,x4,x5,x6,x7,x8,x9⟩:=x
   simp only at hp2 hpl ⊢
   by_cases h:xw=w
   ·simp only [h,if_true]
    refine ⟨by omega,o,?_⟩
    generalize startV (H.length+2) r=S1 at hp2 ⊢
    generalize startV (H.length+2) (insL xs r)=S2 at hp2 ⊢
    simp -implicitDefEqProofs [hk,hy,Memos.c,Memo.c,h,e2,hp2]
   ·simp only [h,if_false]
    refine ⟨by omega,o,?_⟩
    simp -implicitDefEqProofs [hk,hy,Memos.c,Memo.c,h,e2]
theorem Whos2_ev (m:Memos) (hl:m.l.l.length+m.old.l.length≤10000) (H:List Blk):EvF tab 85 [A m.c] H=some ⟨.g (Ints.g (slOf (whosP m.l.l m.old.l))),[],[]⟩:=by
 obtain ⟨ml,mo⟩:=m
 simp only at hl ⊢
 have hlo:∀(l:List Int) (r:List Int),(l.foldl (fun r n=>putO n r) r).length≤r.length+l.length:=by
  intro l
  induction l with
  | nil=>intro r;simp
  | cons y l ih =>
   intro r
   have:=ih (putO y r)
   have h2:(putO y r).length≤r.length+1:=putB_len true y r
   rw [List.foldl_cons,List.length_cons];omega
 have hw:=loop_runJ (E:=EvF tab) (h:=H) (c:=L85_0) (lv:=[1,3,4]) (l:=ml.l) (β:=List Int) (γ:=Unit) (fun k r=>r.length≤k) (fun _ x r => .inl ((fun r (x:Memo)=>putO x.who r) r x))
  (fun k r o=>⟨[(1,.ptr H.length 0),(3,startV (H.length+2) r),(4,I k)],[],[.cells ((Memos.c ⟨ml,mo⟩).map .g),.rows 1 1 [],.rows 1 1 []]⟩)
  (fun r o=>(.exit 0,⟨[(1,.ptr H.length 0),(3,startV (H.length+2) r),(4,I ml.l.length),(10,B false)],[],[.cells ((Memos.c ⟨ml,mo⟩).map .g),.rows 1 1 [],.rows 1 1 []]⟩))
  (fun n o=>(.ret,⟨[],[],o⟩)) (by simp) (by simp) (fun k x r o hk hx hy hi => ?_) (fun _ o _=>by delta L85_0;simp -implicitDefEqProofs [Memos.c]) [] [] (by simp)
 have hw2:=fun (r0:List Int) (hr0:r0.length≤ml.l.length)=>loop_runJ (E:=EvF tab) (h:=H) (c:=L85_1) (lv:=[1,3,5]) (l:=mo.l) (β:=List Int) (γ:=Unit) (fun k r=>r.length≤ml.l.length+k) (fun _ x r => .inl ((fun r (x:Floor)=>putO x.who r) r x))
  (fun k r o=>⟨[(1,.ptr H.length 0),(3,startV (H.length+2) r),(5,I k)],[],[.cells ((Memos.c ⟨ml,mo⟩).map .g),.rows 1 1 [],.rows 1 1 []]⟩)
  (fun r o=>(.exit 2,⟨[(1,.ptr H.length 0),(3,startV (H.length+2) r),(5,I mo.l.length),(25,B false)],[],[.cells ((Memos.c ⟨ml,mo⟩).map .g),.rows 1 1 [],.rows 1 1 []]⟩))
  (fun n o=>(.ret,⟨[],[],o⟩)) (by simp) (by simp) (fun k x r o hk hx hy hi => ?_) (fun _ o _=>by delta L85_1;simp -implicitDefEqProofs [Memos.c]) r0 [] (by simpa using hr0)
 ·obtain ⟨o',hw⟩:=hw
  rw [runG_foldM] at hw
  have hf:∀(l:List Memo) (r:List Int),l.foldl (fun r (x:Memo)=>putO x.who r) r=(l.map Memo.who).foldl (fun r n=>putO n r) r:=by
   intro l r;rw [List.foldl_map]
  have hf2:∀(l:List Floor) (r:List Int),l.foldl (fun r (x:Floor)=>putO x.who r) r=(l.map Floor.who).foldl (fun r n=>putO n r) r:=by
   intro l r;rw [List.foldl_map]
  rw [hf] at hw
  have hln:=hlo (ml.l.map Memo.who) []
  simp only [List.length_nil,List.length_map,Nat.zero_add] at hln
  obtain ⟨o2,hw2⟩:=hw2 _ hln
  rw [runG_foldM,hf2,←List.foldl_append] at hw2
  have hs:=putO_fold (ml.l.map Memo.who++mo.l.map Floor.who) []
  rw [sortL_nil] at hs
  rw [hs] at hw2
  rw [show sortL ((ml.l.map Memo.who++mo.l.map Floor.who).foldl onceF [])=whosP ml.l mo.l from rfl] at hw2
  simp only [endJ,Int.ofNat_zero,Int.cast_ofNat_Int] at hw hw2
  refine EvF_walk t85 (by simp) ?_
  simp only [Memos.c,List.map_cons,List.map_nil] at hw hw2
  generalize hg1:MemoL.g ml=G1 at hw hw2
  generalize hg2:Floors.g mo=G2 at hw hw2
  generalize hst:startV (H.length+2) ((ml.l.map Memo.who).foldl (fun r n=>putO n r) [])=S1 at hw hw2
  have h0:startV (H.length+2) [] = .ms (H.length+2) 1 1 0 0:=rfl
  rw [h0] at hw
  obtain ⟨r,hr⟩:∃r,whosP ml.l mo.l=r:=⟨_,rfl⟩
  rw [hr] at hw2 ⊢
  cases r with
  | nil=>simp only [startV,if_true] at hw2;simp -implicitDefEqProofs [A,Memos.c,hg1,hg2,hw,hw2,slOf]
  | cons y r=>simp only [startV,reduceCtorEq,if_false] at hw2;simp -implicitDefEqProofs [A,Memos.c,hg1,hg2,hw,hw2,slOf]
 ·have e2:=wrap_succ hk (by omega)
  have hp:=fun H id (hid:H[id]? = some (Blk.rows 1 1 []))=>putS_ev r x.who true (by omega) hid
  have hp2:=fun (b c:Blk)=>hp (H++[b,c,.rows 1 1 []]) (H.length+2) (by rw [List.getElem?_append_right (by omega),Nat.add_sub_cancel_left];rfl)
  have hpl:=putB_len true x.who r
  have hpb:putB true x.who r=putO x.who r:=rfl
  rw [hpb] at hp2 hpl
  delta L85_1
  cases mo with
  | nil=>simp at hk
  | of l =>
   simp only [Sl.l_of] at hk hy hl
   obtain ⟨xw,xs⟩:=x
   simp only at hp2 hpl ⊢
   refine ⟨by omega,o,?_⟩
   generalize startV (H.length+2) r=S1 at hp2 ⊢
   generalize startV (H.length+2) (putO xw r)=S2 at hp2 ⊢
   simp -implicitDefEqProofs [hk,hy,Memos.c,Floor.c,e2,hp2]
 ·have e2:=wrap_succ hk (by omega)
  have hp:=fun H id (hid:H[id]? = some (Blk.rows 1 1 []))=>putS_ev r x.who true (by omega) hid
  have hp2:=fun (b c:Blk)=>hp (H++[b,c,.rows 1 1 []]) (H.length+2) (by rw [List.getElem?_append_right (by omega),Nat.add_sub_cancel_left];rfl)
  have hpl:=putB_len true x.who r
  have hpb:putB true x.who r=putO x.who r:=rfl
  rw [hpb] at hp2 hpl
  delta L85_0
  cases ml with
  | nil=>simp at hk
  | of l =>
   simp only [Sl.l_of] at hk hy hl
   obtain ⟨xw,xs,x1,x2,x3,x4,x5,x6,x7,x8,x9⟩:=x
   simp only at hp2 hpl ⊢
   refine ⟨by omega,o,?_⟩
   generalize startV (H.length+2) r=S1 at hp2 ⊢
   generalize startV (H.length+2) (putO xw r)=S2 at hp2 ⊢
   simp -implicitDefEqProofs [hk,hy,Memos.c,Memo.c,e2,hp2]
end Go.Proofs.YtndfdnlbljhlgaaGreat
end
section
namespace Go.Proofs.YtndfdnlbljhlgaaGreat
open Go Go.AM Go.Proofs
set_option maxRecDepth 20000
set_option maxHeartbeats 4000000
set_option linter.unusedSimpArgs false
set_option linter.unusedVariables false
def kvG {β:Type} (G:β→GV) (p:Int×β):GV×Option GV:=(.int .i64 p.1,some (G p.2))
def getA {β:Type} (k:Int):List (Int×β)→Option β
 | []=>none
 | p::l=>if p.1=k then some p.2 else getA k l
def setA {β:Type} (k:Int) (v:β):List (Int×β)→List (Int×β)
 | []=>[(k,v)]
 | p::l=>if p.1=k then (k,v)::l else p::setA k v l
theorem findM_kv {β:Type} (G:β→GV) (k:Int) (v:β):∀(l:List (Int×β)),
  (getA k l=none∧findM .i (.int .i64 k) (l.map (kvG G))=some none∧setA k v l=l++[(k,v)]) ∨
  (∃j v0,getA k l=some v0∧findM .i (.int .i64 k) (l.map (kvG G))=some (some j)∧l[j]? = some (k,v0)∧setA k v l=l.set j (k,v))
 | [] => .inl ⟨rfl,rfl,rfl⟩
 | p::l=>by
  obtain ⟨a,b⟩:=p
  by_cases h:a=k
  ·subst h
   exact .inr ⟨0,b,by simp [getA],by simp [findM,kvG,eqG],by simp,by simp [setA]⟩
  ·have h':(k==a)=false:=by simpa using fun e=>h e.symm
   rcases findM_kv G k v l with ⟨h1,h2,h3⟩ | ⟨j,v0,h1,h2,h3,h4⟩
   ·exact .inl ⟨by simp [getA,h,h1],by simp [findM,kvG,eqG,h',h2],by simp [setA,h,h3]⟩
   ·exact .inr ⟨j+1,v0,by simp [getA,h,h1],by simp [findM,kvG,eqG,h',h2],by simp [h3],by simp [setA,h,h4]⟩
theorem mset_kv {β:Type} (G:β→GV) (k:Int) (v:β) (l:List (Int×β)):msetV .i (.int .i64 k) (some (G v)) (l.map (kvG G))=some ((setA k v l).map (kvG G)):=by
 unfold msetV
 rcases findM_kv G k v l with ⟨h1,h2,h3⟩ | ⟨j,v0,h1,h2,h3,h4⟩
 ·rw [h2,h3];simp [kvG]
 ·rw [h2,h4];simp [kvG,List.map_set]
theorem mget_kv {β:Type} (G:β→GV) (k:Int) (z:GV) (cm:Bool) (l:List (Int×β)):mgetV cm .i (some z) (.int .i64 k) (l.map (kvG G))=some (if cm=true then .tup [.g (((getA k l).map G).getD z),B (getA k l).isSome] else .g (((getA k l).map G).getD z)):=by
 unfold mgetV
 cases l with
 | nil=>simp [findM,getA,mvV]
 | cons p l =>
  rcases findM_kv G k p.2 (p::l) with ⟨h1,h2,h3⟩ | ⟨j,v0,h1,h2,h3,h4⟩
  ·rw [h2,h1];simp [mvV]
  ·rw [h2,h1];simp only [List.getElem?_map,h3];simp [mvV,kvG]
theorem setA_true:∀(ks:List Int) (k:Int),setA k true (ks.map fun k=>(k,true))=(onceF ks k).map fun k=>(k,true)
 | [],k=>rfl
 | y::ks,k=>by
  have ih:=setA_true ks k
  unfold onceF at ih ⊢
  rw [List.map_cons]
  unfold setA
  by_cases h:y=k
  ·subst h;simp
  ·have h':¬k=y:=fun e=>h e.symm
   simp only [h,if_false,List.mem_cons,h',false_or]
   rw [ih]
   split <;> rfl
def boolG (b:Bool):GV := .bool b
def metM (ks:List Int):List (GV×Option GV):=(ks.map fun k=>(k,true)).map (kvG boolG)
theorem metM_set (ks:List Int) (k:Int):msetV .i (.int .i64 k) (some (.bool true)) (metM ks)=some (metM (onceF ks k)):=by
 have:=mset_kv boolG k true (ks.map fun k=>(k,true))
 rw [setA_true] at this
 exact this
theorem sorted_ev {H:List Blk} {p id:Nat} {ks:List Int} (h1:H[p]? = some (.cells [.mp id])) (h2:H[id]? = some (.map (metM ks))) (hn:ks.Nodup) (hw:∀k∈ks,I64 k) (hl:ks.length≤1000000) :
  EvF tab 149 [.fv 183 [.ptr p 0]] H=some ⟨.g (Ints.g (slOf (sortL ks))),[],[]⟩:=by
 refine EvF_ext rfl (fun _ _ h=>by cases h) ?_
 have e1:intsG ((metM ks).map fun e=>[e.1])=some ks:=by
  have:((metM ks).map fun e=>[e.1])=ks.map intG:=by unfold metM;simp [kvG,intG]
  rw [this];exact intsG_map ks
 have e2:(ks.all fun k=>(Lit.int .i64 k).wf)=true:=by
  rw [List.all_eq_true]
  intro k hk
  obtain ⟨a,b⟩:=hw k hk
  show (decide _&&decide _)=true
  rw [Bool.and_eq_true,decide_eq_true_eq,decide_eq_true_eq]
  exact ⟨a,b⟩
 have e3:(if ks=[] then GV.nsl else GV.sl 1 ((sortL ks).map intG))=Ints.g (slOf (sortL ks)):=by
  have:=sortL_len ks
  unfold slOf
  by_cases h:ks=[]
  ·subst h;rw [if_pos rfl,sortL_nil,if_pos rfl];rfl
  ·have h':sortL ks ≠ []:=fun e=>h (List.eq_nil_of_length_eq_zero (by rw [←this,e];rfl))
   rw [if_neg h,if_neg h'];rfl
 show orX _ _ _ _ _=_
 unfold orX keysX
 rw [if_pos rfl]
 unfold Go.AM.keysA
 simp only [if_true,h1,h2,e1]
 rw [if_pos ⟨hn,e2,hl⟩,e3]
theorem keys1_ev (id:Nat) (H:List Blk):EvF tab 150 [.mp id] H=some ⟨.fv 183 [.ptr H.length 0],[],[.cells [.mp id]]⟩:=by
 refine EvF_walk t150 (by simp) ?_
 simp -implicitDefEqProofs
theorem Whos_ev (m:Memos) (wf:m.wf) (hl:m.l.l.length+m.old.l.length≤10000) (H:List Blk):EvF tab 98 [A m.c] H=some ⟨.g (Ints.g (slOf (whosP m.l.l m.old.l))),[],[]⟩:=by
 obtain ⟨ml,mo⟩:=m
 obtain ⟨⟨w1,_⟩,⟨w2,_⟩⟩:=wf
 simp only at hl w1 w2 ⊢
 have hw:=loop_runJ (E:=EvF tab) (h:=H) (c:=L98_0) (lv:=[1,3,10,11,12]) (l:=ml.l) (β:=List Int) (γ:=Unit) (fun _ _=>True) (fun _ x r => .inl ((fun r (x:Memo)=>onceF r x.who) r x))
  (fun k r o=>⟨[(1,.ptr H.length 0),(3,.mp (H.length+2)),(10,.g (MemoL.g ml)),(11,I ml.l.length),(12,I k)],[],.cells ((Memos.c ⟨ml,mo⟩).map .g) :: .rows 1 1 [] :: .map (metM r)::o⟩)
  (fun r o=>(.exit 0,⟨[(1,.ptr H.length 0),(3,.mp (H.length+2)),(10,.g (MemoL.g ml)),(11,I ml.l.length),(12,I ml.l.length),(13,B false)],[],.cells ((Memos.c ⟨ml,mo⟩).map .g) :: .rows 1 1 [] :: .map (metM r)::o⟩))
  (fun n o=>(.ret,⟨[],[],o⟩)) (by simp) (by simp) (fun k x r o hk hx hy _ => ?_) (fun _ o _=>by delta L98_0;simp -implicitDefEqProofs) [] [] trivial
 have hw2:=fun r0 o0=>loop_runJ (E:=EvF tab) (h:=H) (c:=L98_1) (lv:=[3,21,22,23]) (l:=mo.l) (β:=List Int) (γ:=Unit) (fun _ _=>True) (fun _ x r => .inl ((fun r (x:Floor)=>onceF r x.who) r x))
  (fun k r o=>⟨[(3,.mp (H.length+2)),(21,.g (Floors.g mo)),(22,I mo.l.length),(23,I k)],[],.cells ((Memos.c ⟨ml,mo⟩).map .g) :: .rows 1 1 [] :: .map (metM r)::o⟩)
  (fun r o=>(.exit 2,⟨[(3,.mp (H.length+2)),(21,.g (Floors.g mo)),(22,I mo.l.length),(23,I mo.l.length),(24,B false)],[],.cells ((Memos.c ⟨ml,mo⟩).map .g) :: .rows 1 1 [] :: .map (metM r)::o⟩))
  (fun n o=>(.ret,⟨[],[],o⟩)) (by simp) (by simp) (fun k x r o hk hx hy _ => ?_) (fun _ o _=>by delta L98_1;simp -implicitDefEqProofs) r0 o0 trivial
 ·obtain ⟨o',hw⟩:=hw
  rw [runG_foldM] at hw
  have hf:∀(l:List Memo) (r:List Int),l.foldl (fun r (x:Memo)=>onceF r x.who) r=(l.map Memo.who).foldl onceF r:=by
   intro l r;rw [List.foldl_map]
  have hf2:∀(l:List Floor) (r:List Int),l.foldl (fun r (x:Floor)=>onceF r x.who) r=(l.map Floor.who).foldl onceF r:=by
   intro l r;rw [List.foldl_map]
  rw [hf] at hw
  obtain ⟨o2,hw2⟩:=hw2 ((ml.l.map Memo.who).foldl onceF []) o'
  rw [runG_foldM,hf2,←List.foldl_append] at hw2
  rw [show (ml.l.map Memo.who++mo.l.map Floor.who).foldl onceF []=whoL ml.l mo.l from rfl] at hw2
  simp only [endJ,Int.ofNat_zero,Int.cast_ofNat_Int] at hw hw2
  have hk:=fun (a b:Blk)=>sorted_ev (H:=H++(a::b :: .map (metM (whoL ml.l mo.l))::(o2++[.cells [.mp (H.length+2)]]))) (p:=H.length+(o2.length+3)) (id:=H.length+2) (ks:=whoL ml.l mo.l) (by
    rw [List.getElem?_append_right (by omega),Nat.add_sub_cancel_left,show a::b::Blk.map (metM (whoL ml.l mo.l))::(o2++[Blk.cells [.mp (H.length+2)]])=(a::b::Blk.map (metM (whoL ml.l mo.l))::o2)++[Blk.cells [.mp (H.length+2)]] from rfl,List.getElem?_append_right (by simp)]
    simp) (by rw [List.getElem?_append_right (by omega),Nat.add_sub_cancel_left];rfl) (onceL_nodup _) (fun k hk=>by
    unfold whoL at hk
    rw [onceL_mem,List.mem_append,List.mem_map,List.mem_map] at hk
    rcases hk with ⟨x,hx,rfl⟩ | ⟨x,hx,rfl⟩
    ·exact (w1 x hx).1
    ·exact (w2 x hx).1) (by
    have:=onceFold_len (ml.l.map Memo.who++mo.l.map Floor.who) []
    simp only [List.length_append,List.length_map,List.length_nil] at this
    unfold whoL onceL;omega)
  rw [show sortL (whoL ml.l mo.l)=whosP ml.l mo.l from rfl] at hk
  have hk1:=fun H'=>keys1_ev (H.length+2) H'
  refine EvF_walk t98 (by simp) ?_
  simp only [Memos.c,List.map_cons,List.map_nil] at hw hw2
  have hlen:∀h s,lenV h s (.g (MemoL.g ml))=some ml.l.length:=fun h s=>lenV_Sl ..
  have hlen2:∀h s,lenV h s (.g (Floors.g mo))=some mo.l.length:=fun h s=>lenV_Sl ..
  generalize hg1:MemoL.g ml=G1 at hw hw2 hlen
  generalize hg2:Floors.g mo=G2 at hw hw2 hlen2
  rw [show metM []=[] from rfl] at hw
  generalize metM ((ml.l.map Memo.who).foldl onceF [])=M1 at hw hw2
  generalize metM (whoL ml.l mo.l)=M2 at hw2 hk
  generalize Ints.g (slOf (whosP ml.l mo.l))=R at hk ⊢
  simp -implicitDefEqProofs [A,Memos.c,hg1,hg2,hlen,hlen2,hw,hw2,hk1,hk]
 ·have e2:=wrap_succ hk (by omega)
  have hs:=metM_set r x.who
  delta L98_1
  cases mo with
  | nil=>simp at hk
  | of l =>
   simp only [Sl.l_of] at hk hy hl
   obtain ⟨xw,xs⟩:=x
   simp only at hs ⊢
   refine ⟨trivial,o++[.cells ((Floor.c ⟨xw,xs⟩).map .g)],?_⟩
   generalize metM (onceF r xw)=M2 at hs ⊢
   generalize metM r=M1 at hs ⊢
   simp -implicitDefEqProofs [hk,hy,Memos.c,Floor.c,e2,hs]
 ·have e2:=wrap_succ hk (by omega)
  have hs:=metM_set r x.who
  delta L98_0
  cases ml with
  | nil=>simp at hk
  | of l =>
   simp only [Sl.l_of] at hk hy hl
   obtain ⟨xw,xs,x1,x2,x3,x4,x5,x6,x7,x8,x9⟩:=x
   simp only at hs ⊢
   refine ⟨trivial,o++[.rows 6 1 [],.rows 8 1 [],.cells ((Memo.c ⟨xw,xs,x1,x2,x3,x4,x5,x6,x7,x8,x9⟩).map .g)],?_⟩
   generalize metM (onceF r xw)=M2 at hs ⊢
   generalize metM r=M1 at hs ⊢
   simp -implicitDefEqProofs [hk,hy,Memos.c,Memo.c,e2,hs]
end Go.Proofs.YtndfdnlbljhlgaaGreat
end
section
namespace Go.Proofs.YtndfdnlbljhlgaaGreat
open Go Go.AM Go.Proofs
set_option maxRecDepth 20000
set_option maxHeartbeats 4000000
set_option linter.unusedSimpArgs false
set_option linter.unusedVariables false
theorem idxG_findM {α:Type} (p:α→Bool):∀(l:List α) (k:Nat),(∃x j,l.find? p=some x∧l[j]? = some x∧idxG p k l=((k+j:Nat):Int))∨(l.find? p=none∧idxG p k l = -1)
 | [],k => .inr ⟨rfl,rfl⟩
 | y::l,k=>by
  by_cases h:p y=true
  ·exact .inl ⟨y,0,by simp [h],rfl,by simp [idxG,h]⟩
  ·rcases idxG_findM p l (k+1) with ⟨x,j,h1,h2,h3⟩ | ⟨h1,h2⟩
   ·exact .inl ⟨x,j+1,by simp [h,h1],by simpa using h2,by unfold idxG;rw [if_neg h,h3];omega⟩
   ·exact .inr ⟨by simp [h,h1],by unfold idxG;rw [if_neg h,h2]⟩
theorem Contains_ev (s:Sl Int) (n:Int) (hl:s.l.length≤1000000) (H:List Blk):EvF tab 99 [.g (Ints.g s),I n] H=some ⟨B (decide (n∈s.l)),[],[]⟩:=by
 have hi:EvF tab 151 [.g (Ints.g s),I n] H=some ⟨I (idxG (fun y=>decide (y=n)) 0 s.l),[],[]⟩:=by
  have hw:=loop_run (E:=EvF tab) (h:=H) (c:=L151_0) (lv:=[0,1,7,8]) (l:=s.l) (fun _ (_:Unit)=>True) (fun k x _=>if (fun y=>decide (y=n)) x=true then .inr (.ret,⟨[(4,I k)],[],[]⟩) else .inl ())
   (fun k _=>⟨[(0,.g (Ints.g s)),(1,I n),(7,I s.l.length),(8,I k)],[],[]⟩) (fun _=>(.exit 0,⟨[(0,.g (Ints.g s)),(1,I n),(7,I s.l.length),(8,I s.l.length),(9,B false)],[],[]⟩)) (by simp)
   (fun k x _ hk hx hx' _ => ?_) (fun _ _=>by delta L151_0;simp -implicitDefEqProofs) s.l.length 0 () rfl (Nat.zero_le _) trivial
  ·have key:∀(l:List Int) (k:Nat) (fin:Ex×St),endL (fun _=>fin) (runL (β:=Unit) (fun k x _=>if (fun y=>decide (y=n)) x=true then .inr (.ret,⟨[(4,I k)],[],[]⟩) else .inl ()) k l ())=if l.any (fun y=>decide (y=n))=true then (.ret,⟨[(4,I (idxG (fun y=>decide (y=n)) k l))],[],[]⟩) else fin:=by
    intro l
    induction l with
    | nil=>intro k fin;simp [runL,endL]
    | cons x l ih =>
     intro k fin
     simp only [runL,List.any_cons,idxG]
     by_cases hp:x=n
     ·simp [hp,endL]
     ·simp only [hp,decide_false,Bool.false_eq_true,if_false]
      rw [ih];simp
   rw [List.drop_zero,key] at hw
   refine EvF_walk t151 (by simp) ?_
   have e0:((0:Nat):Int)=0:=rfl
   rw [e0] at hw
   have hlen:∀h st,lenV h st (.g (Ints.g s))=some s.l.length:=fun h st=>lenV_Sl ..
   generalize Ints.g s=G at hw hlen ⊢
   rcases idxG_findM (fun y=>decide (y=n)) s.l 0 with ⟨x,j,h1,h2,h3⟩ | ⟨h1,h2⟩
   ·have ha:s.l.any (fun y=>decide (y=n))=true:=(idxG_iff _ s.l 0).1 (by rw [h3];omega)
    rw [if_pos ha] at hw
    simp -implicitDefEqProofs [hlen,hw]
   ·have ha:¬s.l.any (fun y=>decide (y=n))=true:=fun h=>by
     have:=(idxG_iff _ s.l 0).2 h;rw [h2] at this;omega
    rw [if_neg ha] at hw
    rw [h2]
    simp -implicitDefEqProofs [hlen,hw]
  ·have e2:=wrap_succ hk (by omega)
   delta L151_0
   cases s with
   | nil=>simp at hk
   | of l =>
    simp only [Sl.l_of] at hk hx' hl
    by_cases h:x=n
    ·simp -implicitDefEqProofs [hk,hx',Ints.c,h,e2]
    ·simp -implicitDefEqProofs [hk,hx',Ints.c,h,e2,show ¬n=x from fun e=>h e.symm]
 refine EvF_walk t99 (by simp) ?_
 have hd:decide (0≤idxG (fun y=>decide (y=n)) 0 s.l)=decide (n∈s.l):=by
  rw [idxG_any]
  rw [Bool.eq_iff_iff,List.any_eq_true,decide_eq_true_eq]
  constructor
  ·rintro ⟨x,h1,h2⟩;rw [←of_decide_eq_true h2];exact h1
  ·intro h;exact ⟨n,h,by simp⟩
 rw [←hd]
 generalize Ints.g s=G at hi ⊢
 simp -implicitDefEqProofs [hi]
theorem mof_ev (x:Memo) (H:List Blk):EvF tab 96 [A x.c] H=some ⟨A [.int .i64 x.who,.int .i64 x.seq],[],[]⟩:=by
 refine EvF_walk t96 (by simp) ?_
 simp -implicitDefEqProofs [A,Memo.c]
def isP (w s:Int) (x:Memo):Bool:=decide (x.who=w)&&decide (x.seq=s)
theorem lookF_eq (l:List Memo) (w s:Int):lookF l w s=l.find? (isP w s):=rfl
theorem look1_ev (x:Memo) (w s:Int) {H:List Blk} {p:Nat} (hp:H[p]? = some (.cells [I w,I s])):EvF tab 95 [A x.c,.ptr p 0] H=some ⟨B (isP w s x),[],[]⟩:=by
 have hlt:p<H.length:=(List.getElem?_eq_some_iff.1 hp).1
 have hg:H[p] = .cells [I w,I s]:=(List.getElem?_eq_some_iff.1 hp).2
 have hlv:∀o,isLiveB (H++o) p=true:=fun o=>by unfold isLiveB;rw [List.getElem?_append_left hlt,hp];rfl
 have h1:=fun H=>mof_ev x H
 refine EvF_walk t95 (by simp) ?_
 unfold isP
 obtain ⟨xw,xs,x1,x2,x3,x4,x5,x6,x7,x8,x9⟩:=x
 simp only [Memo.c,A,List.map_cons,List.map_nil] at h1 ⊢
 by_cases c1:xw=w
 ·subst c1
  by_cases c2:xs=s
  ·subst c2
   simp -implicitDefEqProofs [A,getB_old hlt,orB,hg,hp,h1,hlv]
  ·simp -implicitDefEqProofs [A,getB_old hlt,orB,hg,hp,h1,hlv,c2]
 ·simp -implicitDefEqProofs [A,getB_old hlt,orB,hg,hp,h1,hlv,c1]
theorem idxMo_ev (s:Sl Memo) (w q:Int) (hl:s.l.length≤1000000) {H:List Blk} {p:Nat} (hp:H[p]? = some (.cells [I w,I q])) :
  EvF tab 94 [.g (MemoL.g s),.fv 95 [.ptr p 0]] H=some ⟨I (idxG (isP w q) 0 s.l),[],[]⟩:=by
 have:=index_ev (Tb:=tab) (f:=94) (agg:=true) (n:=11) (c:=Memo.c) t94 (fun e=>A e.c) (isP w q) (.fv 95 [.ptr p 0]) s (by omega) H (fun e=>by simp [Memo.c,A]) (fun e _ t=>by
  have:=look1_ev e w q (H:=full H ⟨t,[],[]⟩) (p:=p) (by simpa using hp)
  rw [evCall_fv]
  simp only [List.all_nil,if_true]
  show fin H [] ⟨t,[],[]⟩ (EvF tab _ [A e.c,.ptr p 0] _)=_
  simp only [hideB]
  rw [this]
  simp -implicitDefEqProofs)
 exact this
theorem Look_ev (m:Memos) (w q:Int) (wf:m.wf) (hl:m.l.l.length+m.old.l.length≤10000) (H:List Blk) :
  EvF tab 45 [A m.c,I w,I q] H=some ⟨.tup [A (lookP m.l.l m.old.l w q).1.c,B (lookP m.l.l m.old.l w q).2.1,I (lookP m.l.l m.old.l w q).2.2],[],[]⟩:=by
 have h1:=fun H=>Floor_ev m w (by omega) H
 have h2:=fun H=>Whos_ev m wf hl H
 have h4:=fun H=>Contains_ev (slOf (whosP m.l.l m.old.l)) w (by rw [slOf_l];have:=whosP_len m.l.l m.old.l;omega) H
 have hwl:=whosP_len m.l.l m.old.l
 have hlen:∀h st,lenV h st (.g (Ints.g (slOf (whosP m.l.l m.old.l))))=some (whosP m.l.l m.old.l).length:=fun h st=>by rw [lenV_Sl,slOf_l]
 rw [slOf_l] at h4
 obtain ⟨ml,mo⟩:=m
 simp only at h1 h2 h4 hlen hwl hl ⊢
 have h3:=fun (a b c d:Blk)=>idxMo_ev ml w q (by omega) (H:=H++[a,b,c,d,.cells [I w,I q]]) (p:=H.length+4) (by rw [List.getElem?_append_right (by omega),Nat.add_sub_cancel_left];rfl)
 refine EvF_walk t45 (by simp) ?_
 unfold lookP
 rw [lookF_eq]
 simp only [A,Memos.c,List.map_cons,List.map_nil] at h1 h2 ⊢
 rcases idxG_findM (isP w q) ml.l 0 with ⟨x,j,f1,f2,f3⟩ | ⟨f1,f2⟩
 ·rw [f1]
  rw [f3] at h3
  simp only [Nat.zero_add] at h3 ⊢
  cases ml with
  | nil=>simp at f2
  | of l =>
   simp only [Sl.l_of] at f2
   obtain ⟨hj,hx⟩:=List.getElem?_eq_some_iff.1 f2
   obtain ⟨xw,xs,x1,x2,x3,x4,x5,x6,x7,x8,x9⟩:=x
   simp only [Sl.g_of,MemoL.g] at h3
   generalize Floors.g mo=G2 at h1 h2 ⊢
   simp -implicitDefEqProofs [h3,hj,hx,Memo.c,Reply.c,A]
 ·rw [f1]
  rw [f2] at h3
  generalize MemoL.g ml=G1 at h1 h2 h3 ⊢
  generalize Floors.g mo=G2 at h1 h2 ⊢
  by_cases c1:q≤floorP mo.l w
  ·simp -implicitDefEqProofs [h3,h1,c1,rep0,Reply.c,A]
  ·by_cases c2:8≤(whosP ml.l mo.l).length
   ·have c2I:(8:Int)≤((whosP ml.l mo.l).length:Int):=by omega
    generalize Ints.g (slOf (whosP ml.l mo.l))=GW at h2 h4 hlen
    by_cases c3:w∈whosP ml.l mo.l
    ·simp only [c3,decide_true] at h4
     simp -implicitDefEqProofs [h3,h1,h2,h4,hlen,c1,c2,c2I,c3,rep0,Reply.c,A]
    ·simp only [c3,decide_false] at h4
     simp -implicitDefEqProofs [h3,h1,h2,h4,hlen,c1,c2,c2I,c3,rep0,Reply.c,A]
   ·have c2I:¬(8:Int)≤((whosP ml.l mo.l).length:Int):=by omega
    generalize Ints.g (slOf (whosP ml.l mo.l))=GW at h2 h4 hlen
    simp -implicitDefEqProofs [h3,h1,h2,hlen,c1,c2,c2I,rep0,Reply.c,A]
end Go.Proofs.YtndfdnlbljhlgaaGreat
end
section
namespace Go.Proofs.YtndfdnlbljhlgaaGreat
open Go Go.AM Go.Proofs
set_option maxRecDepth 20000
set_option maxHeartbeats 4000000
set_option linter.unusedSimpArgs false
set_option linter.unusedVariables false
theorem floor_runG (w:Int):∀(l:List Floor) k,runG (fun _ (x:Floor) (_:Unit)=>if x.who=w then (.inr x.seq:Unit⊕Int) else .inl ()) k l ()=if hasP l w=true then .inr (floorP l w) else .inl ():=by
 intro l
 induction l with
 | nil=>intro k;rfl
 | cons x l ih =>
  intro k
  unfold runG floorP hasP
  by_cases h:x.who=w
  ·simp [h]
  ·simp only [if_neg h]
   rw [ih]
   unfold hasP
   simp [h]
theorem floorP_no (w:Int):∀(l:List Floor),hasP l w=false→floorP l w = -1:=by
 intro l
 induction l with
 | nil=>intro _;rfl
 | cons x l ih =>
  intro h
  unfold hasP at h ih
  rw [List.any_cons,Bool.or_eq_false_iff] at h
  unfold floorP
  rw [if_neg (by simpa using h.1)]
  exact ih h.2
theorem Floor2_ev (m:Memos) (w:Int) (hl:m.old.l.length≤9223372036854775807) (H:List Blk):EvF tab 82 [A m.c,I w] H=some ⟨I (floorP m.old.l w),[],[]⟩:=by
 obtain ⟨ml,mo⟩:=m
 simp only at hl ⊢
 have hw:=loop_runJ (E:=EvF tab) (h:=H) (c:=L82_0) (lv:=[1,2,5]) (l:=mo.l) (β:=Unit) (γ:=Int) (fun _ _=>True) (fun _ x _=>if x.who=w then .inr x.seq else .inl ())
  (fun k _ o=>⟨[(1,I w),(2,.ptr H.length 0),(5,I k)],[],[.cells ((Memos.c ⟨ml,mo⟩).map .g)]⟩)
  (fun _ o=>(.exit 0,⟨[(1,I w),(2,.ptr H.length 0),(5,I mo.l.length),(10,B false)],[],[.cells ((Memos.c ⟨ml,mo⟩).map .g)]⟩))
  (fun n o=>(.ret,⟨[(4,I n)],[],[.cells ((Memos.c ⟨ml,mo⟩).map .g)]⟩)) (by simp) (by simp) (fun k x b o hk hx hy _ => ?_) (fun _ o _=>by delta L82_0;simp -implicitDefEqProofs [Memos.c]) () [] trivial
 ·obtain ⟨o',hw⟩:=hw
  rw [floor_runG] at hw
  simp only [Int.ofNat_zero,Int.cast_ofNat_Int] at hw
  refine EvF_walk t82 (by simp) ?_
  simp only [Memos.c,List.map_cons,List.map_nil] at hw
  generalize hg1:MemoL.g ml=G1 at hw
  generalize hg2:Floors.g mo=G2 at hw
  cases hh:hasP mo.l w
  ·rw [hh] at hw
   simp only [Bool.false_eq_true,if_false,endJ] at hw
   simp -implicitDefEqProofs [A,Memos.c,hg1,hg2,hw,floorP_no w mo.l hh]
  ·rw [hh] at hw
   simp only [if_true,endJ] at hw
   simp -implicitDefEqProofs [A,Memos.c,hg1,hg2,hw]
 ·have e2:=wrap_succ hk hl
  delta L82_0
  cases mo with
  | nil=>simp at hk
  | of l =>
   simp only [Sl.l_of] at hk hy hl
   by_cases h:x.who=w
   ·simp only [if_pos h]
    refine ⟨o,?_⟩
    simp -implicitDefEqProofs [hk,hy,Memos.c,Floor.c,h,e2]
   ·simp only [if_neg h]
    refine ⟨trivial,o,?_⟩
    simp -implicitDefEqProofs [hk,hy,Memos.c,Floor.c,h,e2]
end Go.Proofs.YtndfdnlbljhlgaaGreat
end
section
namespace Go.Proofs.YtndfdnlbljhlgaaGreat
open Go Go.AM Go.Proofs
set_option maxRecDepth 20000
set_option maxHeartbeats 4000000
set_option linter.unusedSimpArgs false
set_option linter.unusedVariables false
def isF (w:Int) (x:Floor):Bool:=decide (x.who=w)
theorem raise1_ev (x:Floor) (w:Int) {H:List Blk} {p:Nat} (hp:H[p]? = some (.cells [I w])):EvF tab 161 [A x.c,.ptr p 0] H=some ⟨B (isF w x),[],[]⟩:=by
 have hlt:p<H.length:=(List.getElem?_eq_some_iff.1 hp).1
 have hg:H[p] = .cells [I w]:=(List.getElem?_eq_some_iff.1 hp).2
 have hlv:∀o,isLiveB (H++o) p=true:=fun o=>by unfold isLiveB;rw [List.getElem?_append_left hlt,hp];rfl
 refine EvF_walk t161 (by simp) ?_
 unfold isF
 obtain ⟨xw,xs⟩:=x
 by_cases c1:xw=w
 ·simp -implicitDefEqProofs [A,Floor.c,getB_old hlt,orB,hg,hp,hlv,c1]
 ·simp -implicitDefEqProofs [A,Floor.c,getB_old hlt,orB,hg,hp,hlv,c1]
theorem idxFl_ev (s:Sl Floor) (w:Int) (hl:s.l.length≤1000000) {H:List Blk} {p:Nat} (hp:H[p]? = some (.cells [I w])) :
  EvF tab 160 [.g (Floors.g s),.fv 161 [.ptr p 0]] H=some ⟨I (idxG (isF w) 0 s.l),[],[]⟩:=by
 have:=index_ev (Tb:=tab) (f:=160) (agg:=true) (n:=2) (c:=Floor.c) t160 (fun e=>A e.c) (isF w) (.fv 161 [.ptr p 0]) s (by omega) H (fun e=>by simp [Floor.c,A]) (fun e _ t=>by
  have:=raise1_ev e w (H:=full H ⟨t,[],[]⟩) (p:=p) (by simpa using hp)
  rw [evCall_fv]
  simp only [List.all_nil,if_true]
  show fin H [] ⟨t,[],[]⟩ (EvF tab _ [A e.c,.ptr p 0] _)=_
  simp only [hideB]
  rw [this]
  simp -implicitDefEqProofs)
 exact this
theorem concatTF:∃m msg m' msg',tab.T 162=some (concatF 2 16 194 m msg)∧tab.T 194=some (growF 2 16 [.int .i64 0,.int .i64 0] m' msg') :=
 ⟨_,_,_,_,t162,t194⟩
theorem concatFl_ev (a b:Sl Floor) (hn:a.l.length+b.l.length≤1000000) (H:List Blk) :
  EvF tab 162 [.g (.sl 1 [[Floors.g a],[Floors.g b]])] H=some ⟨.g (nslG 2 Floor.c (a.l++b.l)),[],[]⟩:=by
 obtain ⟨m,msg,m',msg',h1,h2⟩:=concatTF
 exact concat_ev h1 h2 a b (by omega) (by omega) H
theorem cloneTF:tab.T 163=some (cloneF 2 16 true):=t163
def raiseP:List Floor→Int→Int→List Floor
 | [],w,q=>[⟨w,q⟩]
 | f::l,w,q=>if f.who=w then ⟨w,max f.seq q⟩::l else f::raiseP l w q
theorem raiseP_idx (w q:Int):∀(l:List Floor),(∃(x:Floor) (j:Nat),l.find? (isF w)=some x∧l[j]? = some x∧idxG (isF w) 0 l=(j:Int)∧raiseP l w q=l.set j ⟨w,max x.seq q⟩)∨(l.find? (isF w)=none∧idxG (isF w) 0 l = -1∧raiseP l w q=l++[⟨w,q⟩]):=by
 have key:∀(l:List Floor) (k:Nat),(∃(x:Floor) (j:Nat),l.find? (isF w)=some x∧l[j]? = some x∧idxG (isF w) k l=((k+j:Nat):Int)∧raiseP l w q=l.set j ⟨w,max x.seq q⟩)∨(l.find? (isF w)=none∧idxG (isF w) k l = -1∧raiseP l w q=l++[⟨w,q⟩]):=by
  intro l
  induction l with
  | nil=>intro k;exact .inr ⟨rfl,rfl,rfl⟩
  | cons y l ih =>
   intro k
   by_cases h:y.who=w
   ·have hp:isF w y=true:=by simp [isF,h]
    exact .inl ⟨y,0,by simp [hp],rfl,by simp [idxG,hp],by unfold raiseP;rw [if_pos h];rfl⟩
   ·have hp:¬isF w y=true:=by simp [isF,h]
    rcases ih (k+1) with ⟨x,j,h1,h2,h3,h4⟩ | ⟨h1,h2,h3⟩
    ·exact .inl ⟨x,j+1,by rw [List.find?_cons_of_neg hp,h1],by simpa using h2,by unfold idxG;rw [if_neg hp,h3];omega,by unfold raiseP;rw [if_neg h,h4];rfl⟩
    ·exact .inr ⟨by rw [List.find?_cons_of_neg hp,h1],by unfold idxG;rw [if_neg hp,h2],by unfold raiseP;rw [if_neg h,h3];rfl⟩
 intro l
 rcases key l 0 with ⟨x,j,h1,h2,h3,h4⟩ | h
 ·exact .inl ⟨x,j,h1,h2,by rw [h3];simp,h4⟩
 ·exact .inr h
theorem max_ite (a b:Int):(if a<b then b else a)=max a b:=by omega
theorem raise_ev (s:Sl Floor) (w q:Int) (hl:s.l.length≤10000) (H:List Blk):EvF tab 111 [.g (Floors.g s),I w,I q] H=some ⟨.g (Floors.g (.of (raiseP s.l w q))),[],[]⟩:=by
 have h1:=idxFl_ev s w (by omega) (H:=H++[.cells [I w],.rows 2 1 []]) (p:=H.length) (by rw [List.getElem?_append_right (by omega),Nat.sub_self];rfl)
 have h2:=fun H=>concatFl_ev s (.of [⟨w,q⟩]) (by simp only [Sl.l_of,List.length_cons,List.length_nil];omega) H
 refine EvF_walk t111 (by simp) ?_
 rcases raiseP_idx w q s.l with ⟨x,j,f1,f2,f3,f4⟩ | ⟨f1,f2,f3⟩
 ·rw [f3] at h1
  rw [f4]
  cases s with
  | nil=>simp at f2
  | of l =>
   simp only [Sl.l_of] at f2 hl ⊢
   obtain ⟨hj,hx⟩:=List.getElem?_eq_some_iff.1 f2
   have hne:l ≠ []:=fun e=>by rw [e] at f2;simp at f2
   have h3:=fun H=>clone_ev (c:=Floor.c) cloneTF l hne (by omega) (by omega) H
   have hjn:¬((j:Int)<0):=by omega
   obtain ⟨xw,xs⟩:=x
   simp only [Floors.g,Sl.g_of] at h1
   have e1:List.take l.length ((List.map Floor.c l).set j [.int .i64 xw,.int .i64 (max xs q)])=(List.map Floor.c l).set j [.int .i64 xw,.int .i64 (max xs q)]:=List.take_of_length_le (by simp)
   simp -implicitDefEqProofs [h1,h3,hj,hx,hjn,Floor.c,e1,List.map_set]
   have hxw:xw=w:=by have:=List.find?_some f1;simpa [isF] using this
   rw [max_ite,List.take_of_length_le (by simp),hxw]
 ·rw [f2] at h1
  rw [f3]
  simp only [Sl.l_of,nslG,List.append_eq_nil_iff,reduceCtorEq,and_false,if_false] at h2
  generalize Floors.g s=G1 at h1 h2 ⊢
  simp only [Sl.g_of,Floors.g] at h2
  simp only [Floor.c,List.map_cons,List.map_nil] at h2
  simp -implicitDefEqProofs [h1,h2,Floor.c,chunk]
theorem SeqsM_ev (l:List Memo) (G2:GV) (w:Int) (hl:l.length≤10000) {H:List Blk} {id g:Nat} (hid:H[id]? = some (.rows 11 g (l.map Memo.c))) :
  EvF tab 108 [.agg [.ms id g 11 0 l.length,.g G2],I w] H=some ⟨.g (Ints.g (slOf (seqsP l w))),[],[]⟩:=by
 have hlt:id<H.length:=(List.getElem?_eq_some_iff.1 hid).1
 have hidg:H[id] = .rows 11 g (l.map Memo.c):=(List.getElem?_eq_some_iff.1 hid).2
 have hlv:∀o,isLiveB (H++o) id=true:=fun o=>by unfold isLiveB;rw [List.getElem?_append_left hlt,hid];rfl
 have hw:=loop_runJ (E:=EvF tab) (h:=H) (c:=L108_0) (lv:=[1,5,9,10,11]) (l:=l) (β:=List Int) (γ:=Nat) (fun k r=>r.length≤k) (fun _ x r=>if (fun x:Memo=>decide (x.who=w)) x=true then .inl (r++[Memo.seq x]) else .inl r)
  (fun k r o=>⟨[(1,I w),(5,.ms (H.length+2) (r.length+1) 1 0 r.length),(9,.ms id g 11 0 l.length),(10,I l.length),(11,I k)],[],.cells [.ms id g 11 0 l.length,.g G2] :: .rows 1 1 [] :: .rows 1 (r.length+1) (r.map Ints.c)::o⟩)
  (fun r o=>(.exit 0,⟨[(1,I w),(5,.ms (H.length+2) (r.length+1) 1 0 r.length),(9,.ms id g 11 0 l.length),(10,I l.length),(11,I l.length),(12,B false)],[],.cells [.ms id g 11 0 l.length,.g G2] :: .rows 1 1 [] :: .rows 1 (r.length+1) (r.map Ints.c)::o⟩))
  (fun n o=>(.ret,⟨[],[],o⟩)) (by simp) (by simp) (fun k x r o hk hx hy hi => ?_) (fun _ o _=>by delta L108_0;simp -implicitDefEqProofs) [] [] (by simp)
 ·obtain ⟨o',hw⟩:=hw
  rw [runG_filterM] at hw
  simp only [endJ,List.nil_append,List.map_nil,List.length_nil,Int.ofNat_zero,Int.cast_ofNat_Int,Nat.zero_add] at hw
  rw [show (l.filter fun x=>decide (x.who=w)).map Memo.seq=seqL l w from rfl] at hw
  have hsl:(seqL l w).length≤l.length:=by unfold seqL;rw [List.length_map];exact List.length_filter_le ..
  unfold seqsP
  obtain ⟨r,hr⟩:∃r,seqL l w=r:=⟨_,rfl⟩
  rw [hr] at hw hsl ⊢
  have hs:=fun (P:Blk) (Q:Blk)=>sort_ev (H:=H++(P::Q :: .rows 1 (r.length+1) (r.map Ints.c)::o')) (id:=H.length+2) (g:=r.length+1) (zs:=r) (by rw [List.getElem?_append_right (by omega),Nat.add_sub_cancel_left];rfl) (by omega)
  have hsn:=sortL_len r
  refine EvF_walk t108 (by simp) ?_
  cases r with
  | nil =>
   rw [sortL_nil] at hs ⊢
   simp only [List.length_nil,List.map_nil,Nat.zero_add] at hs
   simp -implicitDefEqProofs [getB_old hlt,orB,hid,hidg,hlv,hw,hs,slOf]
  | cons y r =>
   obtain ⟨q,hq⟩:∃q,sortL (y::r)=q:=⟨_,rfl⟩
   rw [hq] at hs hsn ⊢
   cases q with
   | nil=>simp at hsn
   | cons z q =>
    simp only [List.length_cons,Nat.add_right_cancel_iff] at hsn
    simp only [List.length_cons,List.map_cons] at hs
    have e1:List.take r.length (List.map Ints.c q)=List.map Ints.c q:=List.take_of_length_le (by simp [hsn])
    simp -implicitDefEqProofs [getB_old hlt,orB,hid,hidg,hlv,hw,hs,slOf,e1,show r.length≤q.length by omega]
 ·have e2:=wrap_succ hk (by omega)
  delta L108_0
  have e3:List.take r.length (List.map Ints.c r)=List.map Ints.c r:=List.take_of_length_le (by simp)
  obtain ⟨xw,xs,x1,x2,x3,x4,x5,x6,x7,x8,x9⟩:=x
  by_cases h:xw=w
  ·simp only [h,decide_true,if_true]
   refine ⟨by simp;omega,o++[.rows 6 1 [],.rows 8 1 [],.cells ((Memo.c ⟨xw,xs,x1,x2,x3,x4,x5,x6,x7,x8,x9⟩).map .g)],?_⟩
   simp -implicitDefEqProofs [getB_old hlt,orB,hid,hidg,hlv,hk,hy,Memo.c,h,e2,Ints.c,appV,room,Nat.not_succ_le_self,chunk,show r.length+1≤140737488355328 by omega,show (r.length+1)*8≤140737488355328 by omega,e3]
  ·simp only [h,decide_false,Bool.false_eq_true,if_false]
   refine ⟨by omega,o++[.rows 6 1 [],.rows 8 1 [],.cells ((Memo.c ⟨xw,xs,x1,x2,x3,x4,x5,x6,x7,x8,x9⟩).map .g)],?_⟩
   simp -implicitDefEqProofs [getB_old hlt,orB,hid,hidg,hlv,hk,hy,Memo.c,h,e2]
theorem keep1_ev (x:Memo) (w:Int) (y:Int) (ys:List Int) {H:List Blk} {p q:Nat} (hp:H[p]? = some (.cells [I w])) (hq:H[q]? = some (.cells [.g (.sl 1 ((y::ys).map Ints.c))])) :
  EvF tab 109 [A x.c,.ptr p 0,.ptr q 0] H=some ⟨B (isP w y x),[],[]⟩:=by
 have hlt:p<H.length:=(List.getElem?_eq_some_iff.1 hp).1
 have hg:H[p] = .cells [I w]:=(List.getElem?_eq_some_iff.1 hp).2
 have hlv:∀o,isLiveB (H++o) p=true:=fun o=>by unfold isLiveB;rw [List.getElem?_append_left hlt,hp];rfl
 have hlt2:q<H.length:=(List.getElem?_eq_some_iff.1 hq).1
 have hg2:H[q] = .cells [.g (.sl 1 ((y::ys).map Ints.c))]:=(List.getElem?_eq_some_iff.1 hq).2
 have hlv2:∀o,isLiveB (H++o) q=true:=fun o=>by unfold isLiveB;rw [List.getElem?_append_left hlt2,hq];rfl
 have h1:=fun H=>mof_ev x H
 refine EvF_walk t109 (by simp) ?_
 unfold isP
 obtain ⟨xw,xs,x1,x2,x3,x4,x5,x6,x7,x8,x9⟩:=x
 simp only [Memo.c,A,List.map_cons,List.map_nil] at h1 ⊢
 by_cases c1:xw=w
 ·subst c1
  by_cases c2:xs=y
  ·subst c2
   simp -implicitDefEqProofs [A,getB_old hlt,getB_old hlt2,orB,hg,hp,hg2,hq,h1,hlv,hlv2,Ints.c]
  ·simp -implicitDefEqProofs [A,getB_old hlt,getB_old hlt2,orB,hg,hp,hg2,hq,h1,hlv,hlv2,c2,Ints.c]
 ·simp -implicitDefEqProofs [A,getB_old hlt,getB_old hlt2,orB,hg,hp,hg2,hq,h1,hlv,hlv2,c1,Ints.c]
end Go.Proofs.YtndfdnlbljhlgaaGreat
end
section
namespace Go.Proofs.YtndfdnlbljhlgaaGreat
open Go Go.AM Go.Proofs
set_option maxRecDepth 20000
set_option maxHeartbeats 4000000
set_option linter.unusedSimpArgs false
set_option linter.unusedVariables false
theorem idxKeep_ev (l:List Memo) (w y:Int) (ys:List Int) (hl:l.length≤1000000) {H:List Blk} {id g p q:Nat} (hid:H[id]? = some (.rows 11 g (l.map Memo.c))) (hp:H[p]? = some (.cells [I w])) (hq:H[q]? = some (.cells [.g (.sl 1 ((y::ys).map Ints.c))])) :
  EvF tab 94 [.ms id g 11 0 l.length,.fv 109 [.ptr p 0,.ptr q 0]] H=some ⟨I (idxG (isP w y) 0 l),[],[]⟩:=by
 have hlt:id<H.length:=(List.getElem?_eq_some_iff.1 hid).1
 have hidg:H[id] = .rows 11 g (l.map Memo.c):=(List.getElem?_eq_some_iff.1 hid).2
 have hlv:∀o,isLiveB (H++o) id=true:=fun o=>by unfold isLiveB;rw [List.getElem?_append_left hlt,hid];rfl
 have hcall:∀x t,evCall (EvF tab) H [] ⟨t,[],[]⟩ (.fv 109 [.ptr p 0,.ptr q 0]) [A x.c]=some (.g (.bool (isP w y x)),⟨t,[],[]⟩,[]):=fun x t=>by
  have:=keep1_ev x w y ys (H:=full H ⟨t,[],[]⟩) (p:=p) (q:=q) (by simpa using hp) (by simpa using hq)
  rw [evCall_fv]
  simp only [List.all_nil,if_true]
  show fin H [] ⟨t,[],[]⟩ (EvF tab _ [A x.c,.ptr p 0,.ptr q 0] _)=_
  simp only [hideB]
  rw [this]
  simp -implicitDefEqProofs
 generalize AV.fv 109 [.ptr p 0,.ptr q 0]=fv at hcall ⊢
 have hw:=loop_run (E:=EvF tab) (h:=H) (c:=L94_0) (lv:=[0,1,7,8]) (l:=l) (fun _ (_:Unit)=>True) (fun k x _=>if isP w y x=true then .inr (.ret,⟨[(4,I k)],[],[]⟩) else .inl ())
  (fun k _=>⟨[(0,.ms id g 11 0 l.length),(1,fv),(7,I l.length),(8,I k)],[],[]⟩) (fun _=>(.exit 0,⟨[(0,.ms id g 11 0 l.length),(1,fv),(7,I l.length),(8,I l.length),(9,B false)],[],[]⟩)) (by simp)
  (fun k x _ hk hx hx' _ => ?_) (fun _ _=>by delta L94_0;simp -implicitDefEqProofs) l.length 0 () rfl (Nat.zero_le _) trivial
 ·have key:∀(l:List Memo) (k:Nat) (fin:Ex×St),endL (fun _=>fin) (runL (β:=Unit) (fun k x _=>if isP w y x=true then .inr (.ret,⟨[(4,I k)],[],[]⟩) else .inl ()) k l ())=if l.any (isP w y)=true then (.ret,⟨[(4,I (idxG (isP w y) k l))],[],[]⟩) else fin:=by
   intro l
   induction l with
   | nil=>intro k fin;simp [runL,endL]
   | cons x l ih =>
    intro k fin
    simp only [runL,List.any_cons,idxG]
    by_cases hp:isP w y x=true
    ·simp [hp,endL]
    ·simp only [hp,Bool.false_eq_true,if_false]
     rw [ih];simp
  rw [List.drop_zero,key] at hw
  refine EvF_walk t94 (by simp) ?_
  have e0:((0:Nat):Int)=0:=rfl
  rw [e0] at hw
  rcases idxG_findM (isP w y) l 0 with ⟨x,j,h1,h2,h3⟩ | ⟨h1,h2⟩
  ·have ha:l.any (isP w y)=true:=(idxG_iff _ l 0).1 (by rw [h3];omega)
   rw [if_pos ha] at hw
   simp -implicitDefEqProofs [getB_old hlt,orB,hid,hidg,hlv,hw]
  ·have ha:¬l.any (isP w y)=true:=fun h=>by
    have:=(idxG_iff _ l 0).2 h;rw [h2] at this;omega
   rw [if_neg ha] at hw
   rw [h2]
   simp -implicitDefEqProofs [getB_old hlt,orB,hid,hidg,hlv,hw]
 ·have hc:=hcall x
  have e2:=wrap_succ hk (by omega)
  have hlv0:isLiveB H id=true:=by have:=hlv [];simpa using this
  delta L94_0
  generalize hpp:isP w y x=b at hc ⊢
  obtain ⟨xw,xs,x1,x2,x3,x4,x5,x6,x7,x8,x9⟩:=x
  simp only [A,Memo.c,List.map_cons,List.map_nil] at hc
  cases b
  ·simp -implicitDefEqProofs [getB_old hlt,orB,hid,hidg,hlv,hlv0,hk,hx',Memo.c,hc,e2]
  ·simp -implicitDefEqProofs [getB_old hlt,orB,hid,hidg,hlv,hlv0,hk,hx',Memo.c,hc,e2]
def concatX (sz bytes:Nat) (g:FuncId) (m:TypeId) (msg:List UInt8):IFunc:={ concatF sz bytes g m msg with esc:=true }
theorem concatX_ev {f g:FuncId} {α:Type} {sz bytes:Nat} {z:List GV} {m m':TypeId} {msg msg':List UInt8} {c:α→List GV} (hF:tab.T f=some (concatX sz bytes g m msg)) (hG:tab.T g=some (growF sz bytes z m' msg'))
  (a b:Sl α) (h0:¬a.l.length+b.l.length=0) (hn:a.l.length+b.l.length≤140737488355328) (hb:(a.l.length+b.l.length)*bytes≤140737488355328) (H:List Blk) :
  EvF tab f [.g (.sl 1 [[a.g sz c],[b.g sz c]])] H=some ⟨.ms (H.length+2) 2 sz 0 (a.l++b.l).length,[],[.rows sz 1 [],.rows sz 1 [],.rows sz 2 ((a.l++b.l).map c)]⟩:=by
 refine EvF_walk hF (by simp [concatX,concatF]) ?_
 have g1:=fun H=>grow_ev hG (a.l.length+b.l.length) hn hb H
 have l0:=fun o=>concat_loop0 (E:=EvF tab) (m:=m) (msg:=msg) (sz:=sz) (c:=c) a b hn H o
 simp only [Int.natCast_add] at l0 g1
 have l1:=fun A B=>concat_loop1 (E:=EvF tab) (sz:=sz) (bytes:=bytes) (z:=z) (c:=c) a b H A B
 simp only [if_neg h0] at g1
 simp -implicitDefEqProofs only [List.map_append] at l1
 unfold concatF
 simp -implicitDefEqProofs [l0,g1,l1]
theorem concatTM:∃m msg m' msg',tab.T 107=some (concatX 11 120 158 m msg)∧tab.T 158=some (growF 11 120 [.int .i64 0,.int .i64 0,.int .i64 0,.int .i64 0,.int .i64 0,.int .i64 0,.int .i64 0,.int .i64 0,.bool false,.nsl,.nsl] m' msg') :=
 ⟨_,_,_,_,t107,t158⟩
theorem concatM_ev (a:Sl Memo) (x:Memo) (hn:a.l.length≤10000) (H:List Blk) :
  EvF tab 107 [.g (.sl 1 [[MemoL.g a],[.sl 11 [x.c]]])] H=some ⟨.ms (H.length+2) 2 11 0 (a.l++[x]).length,[],[.rows 11 1 [],.rows 11 1 [],.rows 11 2 ((a.l++[x]).map Memo.c)]⟩:=by
 obtain ⟨m,msg,m',msg',h1,h2⟩:=concatTM
 exact concatX_ev h1 h2 a (.of [x]) (by simp) (by simp;omega) (by simp;omega) H
def memo0G:List GV:=[.int .i64 0,.int .i64 0,.int .i64 0,.int .i64 0,.int .i64 0,.int .i64 0,.int .i64 0,.int .i64 0,.bool false,.nsl,.nsl]
theorem delM_ev (l:List Memo) (i:Nat) (hi:i<l.length) (hl:l.length≤10000) {H:List Blk} {id:Nat} (hid:H[id]? = some (.rows 11 2 (l.map Memo.c))) :
  EvF tab 110 [.ms id 2 11 0 l.length,I i,I (i+1:Nat)] H=some ⟨.ms id 2 11 0 (l.length - 1),[(id,.rows 11 2 ((l.eraseIdx i).map Memo.c++[memo0G]))],[]⟩:=by
 have hlt:id<H.length:=(List.getElem?_eq_some_iff.1 hid).1
 have hidg:H[id] = .rows 11 2 (l.map Memo.c):=(List.getElem?_eq_some_iff.1 hid).2
 have hlv:∀o,isLiveB (H++o) id=true:=fun o=>by unfold isLiveB;rw [List.getElem?_append_left hlt,hid];rfl
 refine EvF_walk t110 (by simp) ?_
 have hiI:(i:Int)<(l.length:Int):=by omega
 have hi1:((i+1:Nat):Int)≤(l.length:Int):=by omega
 obtain ⟨L,hL⟩:∃L,List.map Memo.c l=L:=⟨_,rfl⟩
 have hLl:L.length=l.length:=by rw [←hL];simp
 have hres:(l.eraseIdx i).map Memo.c=L.take i++L.drop (i+1):=by rw [List.eraseIdx_eq_take_drop_succ,List.map_append,List.map_take,List.map_drop,hL]
 rw [hres]
 rw [hL] at hid hidg
 rw [←hLl] at hi hiI hi1 hl ⊢
 clear hres hL hLl
 have eD:List.take (L.length - (i+1)) (List.drop (i+1) L)=List.drop (i+1) L:=List.take_of_length_le (by simp)
 by_cases hlast:i+1=L.length
 ·have hd:List.drop (i+1) L=[]:=List.drop_eq_nil_of_le (by omega)
  have e3:L.length - (i+1)=0:=by omega
  simp -implicitDefEqProofs [getB_old hlt,setB_old hlt,orB,hid,hidg,hlv,cutB,bnd,intOfA,hiI,hi1,hi,show i≤L.length by omega,show i+1≤L.length by omega,show (i:Int)≤(L.length:Int) by omega,show (i:Int)+1≤(L.length:Int) by omega,show (0:Int)≤(i:Int)+1 by omega,show (i:Int)≤(i:Int)+1 by omega,show ¬(i:Int)=(i:Int)+1 by omega,eD,hd,e3,appV]
  simp [hlt,memo0G,hd,show L.length - i=1 by omega,show L.length - 1=i by omega]
 ·obtain ⟨y,ys,hd⟩:∃y ys,List.drop (i+1) L=y::ys:=by
   cases h:List.drop (i+1) L with
   | nil=>have:=congrArg List.length h;simp at this;omega
   | cons y ys=>exact ⟨y,ys,rfl⟩
  have hlen:=congrArg List.length hd
  simp only [List.length_drop,List.length_cons] at hlen
  have hl3:i+(ys.length+1)≤L.length:=by omega
  have hl4:i+(ys.length+1)=L.length - 1:=by omega
  have hd2:(List.drop (L.length - 1) L).length=1:=by rw [List.length_drop];omega
  obtain ⟨z,hz⟩:∃z,List.drop (L.length - 1) L=[z]:=by
   match h:List.drop (L.length - 1) L,hd2 with
   | [z],_=>exact ⟨z,rfl⟩
  rw [hd] at eD
  simp -implicitDefEqProofs [getB_old hlt,setB_old hlt,orB,hid,hidg,hlv,cutB,bnd,intOfA,hiI,hi1,hi,show i≤L.length by omega,show i+1≤L.length by omega,show (i:Int)≤(L.length:Int) by omega,show (i:Int)+1≤(L.length:Int) by omega,show (0:Int)≤(i:Int)+1 by omega,show (i:Int)≤(i:Int)+1 by omega,show ¬(i:Int)=(i:Int)+1 by omega,eD,hd,appV,hl3,hl4,hz]
  have eT:List.take (L.length - 1) (List.take i L++y::(ys++[z]))=List.take i L++y::ys:=by
   have e:List.take i L++y::(ys++[z])=(List.take i L++y::ys)++[z]:=by simp
   rw [e]
   exact List.take_left' (by simp;omega)
  have eN:List.drop L.length (List.take i L++y::(ys++[z]))=[]:=List.drop_eq_nil_of_le (by simp;omega)
  simp [hlt,memo0G,hd,show ¬L.length≤L.length - 1 by omega,show L.length≤i+(ys.length+1+1) by omega,show L.length - (L.length - 1)=1 by omega,eT,eN]
  omega
end Go.Proofs.YtndfdnlbljhlgaaGreat
end
section
namespace Go.Proofs.YtndfdnlbljhlgaaGreat
open Go Go.AM Go.Proofs
set_option maxRecDepth 20000
set_option maxHeartbeats 8000000
set_option linter.unusedSimpArgs false
set_option linter.unusedVariables false
def findJ (w q:Int):List Memo→Nat
 | []=>0
 | x::l=>if isP w q x=true then 0 else findJ w q l+1
def delP (l:List Memo) (w q:Int):List Memo:=l.eraseIdx (findJ w q l)
def headI (l:List Int):Int:=match l with | y::_=>y | []=>0
def keepL1 (l:List Memo) (w q:Int) (r:Reply):List Memo:=l++[⟨w,q,r⟩]
def keepM (m:Memos) (w q:Int) (r:Reply):Memos :=
 if (lookP m.l.l m.old.l w q).2.1=true∨(lookP m.l.l m.old.l w q).2.2 ≠ 0 then m else
 if (seqsP (keepL1 m.l.l w q r) w).length≤4 then ⟨.of (keepL1 m.l.l w q r),m.old⟩ else
  ⟨.of (delP (keepL1 m.l.l w q r) w (headI (seqsP (keepL1 m.l.l w q r) w))),.of (raiseP m.old.l w (headI (seqsP (keepL1 m.l.l w q r) w)))⟩
def keepE (m:Memos) (w q:Int):Int:=if (lookP m.l.l m.old.l w q).2.1=true then 11 else (lookP m.l.l m.old.l w q).2.2
theorem lookP_z (l:List Memo) (old:List Floor) (w q:Int):(lookP l old w q).2.1=true→(lookP l old w q).2.2=0:=by
 unfold lookP
 split
 ·intro _;rfl
 ·split
  ·intro h;cases h
  ·split
   ·intro h;cases h
   ·intro _;rfl
theorem findJ_idx (w q:Int):∀(l:List Memo),(∃x∈l,isP w q x=true)→findJ w q l<l.length∧idxG (isP w q) 0 l=(findJ w q l:Int):=by
 have key:∀(l:List Memo) (k:Nat),(∃x∈l,isP w q x=true)→findJ w q l<l.length∧idxG (isP w q) k l=((k+findJ w q l:Nat):Int):=by
  intro l
  induction l with
  | nil=>rintro k ⟨x,hx,_⟩;simp at hx
  | cons y l ih =>
   rintro k ⟨x,hx,hp⟩
   unfold findJ idxG
   by_cases h:isP w q y=true
   ·rw [if_pos h,if_pos h];simp
   ·rw [if_neg h,if_neg h]
    rcases List.mem_cons.1 hx with rfl | hx
    ·exact absurd hp h
    ·obtain ⟨h1,h2⟩:=ih (k+1) ⟨x,hx,hp⟩
     rw [h2,List.length_cons]
     exact ⟨by omega,by omega⟩
 intro l h
 obtain ⟨h1,h2⟩:=key l 0 h
 exact ⟨h1,by rw [h2];simp⟩
theorem head_mem (l:List Memo) (w:Int) (h:seqsP l w ≠ []):∃x∈l,isP w (headI (seqsP l w)) x=true:=by
 have hm:headI (seqsP l w)∈seqsP l w:=by
  cases hq:seqsP l w with
  | nil=>exact absurd hq h
  | cons y ys=>simp [headI]
 generalize headI (seqsP l w)=y at hm ⊢
 unfold seqsP at hm
 rw [(sortL_perm _).mem_iff] at hm
 unfold seqL at hm
 rw [List.mem_map] at hm
 obtain ⟨x,hx,rfl⟩:=hm
 rw [List.mem_filter] at hx
 exact ⟨x,hx.1,by unfold isP;rw [hx.2];simp⟩
theorem Keep_ev (m:Memos) (w q:Int) (r:Reply) (wf:m.wf) (hl:m.l.l.length+m.old.l.length≤5000) (H:List Blk) :
  EvF tab 47 [A m.c,I w,I q,A r.c] H=some ⟨.tup [A (keepM m w q r).c,I (keepE m w q)],[],[]⟩:=by
 have h1:=fun H=>Look_ev m w q wf (by omega) H
 refine EvF_walk t47 (by simp) ?_
 obtain ⟨ml,mo⟩:=m
 unfold keepM keepE
 simp only at hl h1 ⊢
 obtain ⟨lk,hlk⟩:∃lk,lookP ml.l mo.l w q=lk:=⟨_,rfl⟩
 have hz:=lookP_z ml.l mo.l w q
 rw [hlk] at h1 hz ⊢
 obtain ⟨lr,li,le⟩:=lk
 simp only at h1 hz ⊢
 obtain ⟨p1,p2,p3,p4,p5,p6,p7,p8,p9⟩:=lr
 obtain ⟨r1,r2,r3,r4,r5,r6,r7,r8,r9⟩:=r
 simp only [A,Memos.c,Reply.c,List.map_cons,List.map_nil] at h1 ⊢
 cases li
 ·simp only [Bool.false_eq_true,false_or,if_false]
  by_cases he:le=0
  ·subst he
   simp only [ne_eq,not_true_eq_false,if_false]
   have h2:=fun H=>concatM_ev ml ⟨w,q,⟨r1,r2,r3,r4,r5,r6,r7,r8,r9⟩⟩ (by omega) H
   rw [show ml.l++[⟨w,q,⟨r1,r2,r3,r4,r5,r6,r7,r8,r9⟩⟩]=keepL1 ml.l w q ⟨r1,r2,r3,r4,r5,r6,r7,r8,r9⟩ from rfl] at h2
   obtain ⟨L,hL⟩:∃L,keepL1 ml.l w q ⟨r1,r2,r3,r4,r5,r6,r7,r8,r9⟩=L:=⟨_,rfl⟩
   have hLl:L.length=ml.l.length+1:=by rw [←hL];simp [keepL1]
   rw [hL] at h2 ⊢
   simp only [Memo.c] at h2
   generalize MemoL.g ml=G1 at h1 h2 ⊢
   generalize hG2:Floors.g mo=G2 at h1 ⊢
   have h3:=fun (b0 b1 b2 b3 b4 b5 b6 b7 b8 b9 b10:Blk)=>SeqsM_ev L G2 w (by omega) (H:=H++[b0,b1,b2,b3,b4,b5,b6,b7,b8,b9,b10,.rows 11 2 (L.map Memo.c)]) (id:=H.length+11) (g:=2) (by rw [List.getElem?_append_right (by omega),Nat.add_sub_cancel_left];rfl)
   have hne:seqsP L w ≠ []:=by
    intro e
    have:q∈seqsP L w:=by
     unfold seqsP
     rw [(sortL_perm _).mem_iff]
     unfold seqL
     rw [List.mem_map]
     exact ⟨⟨w,q,⟨r1,r2,r3,r4,r5,r6,r7,r8,r9⟩⟩,by rw [List.mem_filter,←hL];simp [keepL1],rfl⟩
    rw [e] at this;simp at this
   have hhm:=head_mem L w hne
   obtain ⟨y,ys,hys⟩:∃y ys,seqsP L w=y::ys:=by
    cases h:seqsP L w with
    | nil=>exact absurd h hne
    | cons y ys=>exact ⟨y,ys,rfl⟩
   rw [hys] at h3 hhm ⊢
   simp only [headI] at hhm ⊢
   have hgs:Ints.g (slOf (y::ys)) = .sl 1 ((y::ys).map Ints.c):=rfl
   rw [hgs] at h3
   have eL:List.take L.length (List.map Memo.c L)=List.map Memo.c L:=List.take_of_length_le (by simp)
   by_cases h4:(y::ys).length≤4
   ·rw [if_pos h4]
    have h4I:((ys.length:Int)+1)≤4:=by simp only [List.length_cons] at h4;omega
    simp -implicitDefEqProofs [h1,h2,h3,h4I,eL,A,Memos.c,Reply.c,hG2,chunk]
   ·rw [if_neg h4]
    have h4I:¬((ys.length:Int)+1)≤4:=by simp only [List.length_cons] at h4;omega
    obtain ⟨j1,j2⟩:=findJ_idx w y L hhm
    have h5:=fun (b0 b2 b3 b4 b5 b6 b7 b8 b9 b10 b12:Blk)=>idxKeep_ev L w y ys (by omega) (H:=H++[b0,.cells [I w],b2,b3,b4,b5,b6,b7,b8,b9,b10,.rows 11 2 (L.map Memo.c),b12,.cells [.g (.sl 1 ((y::ys).map Ints.c))]]) (id:=H.length+11) (g:=2) (p:=H.length+1) (q:=H.length+13) (by rw [List.getElem?_append_right (by omega),Nat.add_sub_cancel_left];rfl) (by rw [List.getElem?_append_right (by omega),Nat.add_sub_cancel_left];rfl) (by rw [List.getElem?_append_right (by omega),Nat.add_sub_cancel_left];rfl)
    rw [j2] at h5
    have h6:=fun (b0 b1 b2 b3 b4 b5 b6 b7 b8 b9 b10 b12 b13:Blk)=>delM_ev L (findJ w y L) j1 (by omega) (H:=H++[b0,b1,b2,b3,b4,b5,b6,b7,b8,b9,b10,.rows 11 2 (L.map Memo.c),b12,b13]) (id:=H.length+11) (by rw [List.getElem?_append_right (by omega),Nat.add_sub_cancel_left];rfl)
    have h7:=fun H=>raise_ev mo w y (by omega) H
    rw [hG2] at h7
    have hdl:(delP L w y).length=L.length - 1:=by unfold delP;rw [List.length_eraseIdx,if_pos j1]
    rw [show L.eraseIdx (findJ w y L)=delP L w y from rfl] at h6
    rw [←hdl] at h6
    have e8:IntKind.i64.wrap ((findJ w y L:Int)+1)=((findJ w y L+1:Nat):Int):=by rw [wrap_i64 (by omega) (by omega)];omega
    have eD:List.take (delP L w y).length (List.map Memo.c (delP L w y)++[memo0G])=List.map Memo.c (delP L w y):=List.take_left' (by simp)
    generalize delP L w y=D at h6 hdl eD ⊢
    generalize findJ w y L=J at h5 h6 e8
    simp only [Int.natCast_add,Int.cast_ofNat_Int] at h6 e8
    simp only [List.map_cons,Ints.c] at h3 h5
    simp -implicitDefEqProofs [h1,h2,h3,h4I,h5,h6,h7,e8,eD,A,Memos.c,Reply.c,Ints.c,hG2,chunk]
  ·simp only [ne_eq,he,not_false_eq_true,if_true]
   generalize MemoL.g ml=G1 at h1 ⊢
   generalize Floors.g mo=G2 at h1 ⊢
   simp -implicitDefEqProofs [h1,he,A,Memos.c,Reply.c]
 ·have:=hz rfl
  subst this
  simp only [true_or,if_true]
  generalize MemoL.g ml=G1 at h1 ⊢
  generalize Floors.g mo=G2 at h1 ⊢
  simp -implicitDefEqProofs [h1,A,Memos.c,Reply.c]
end Go.Proofs.YtndfdnlbljhlgaaGreat
end
section
namespace Go.Proofs.YtndfdnlbljhlgaaGreat
open Go Go.AM Go.Proofs
set_option maxRecDepth 20000
set_option linter.unusedSimpArgs false
set_option linter.unusedVariables false
set_option linter.defProp false
def flF (b:List (Int×Int)) (x:Floor):List (Int×Int)⊕Unit:=if (getA x.who b).isSome=true then .inr () else .inl (setA x.who x.seq b)
def goFl:List Floor→List (Int×Int)→Option (List (Int×Int))
 | [],b=>some b
 | x::l,b=>if (getA x.who b).isSome=true then none else goFl l (setA x.who x.seq b)
def badM (F:List (Int×Int)) (met:List (Int×Int)) (x:Memo):Bool:=met.contains (mkey x)||(match getA x.who F with | some f=>decide (x.seq≤f) | none=>false)
def cntN (cnt:List (Int×Int)) (w:Int):Int:=(getA w cnt).getD 0
def goMe (F:List (Int×Int)):List Memo→List (Int×Int)→List (Int×Int)→Bool
 | [],_,_=>true
 | x::l,met,cnt=>if badM F met x=true then false else if 4<cntN cnt x.who+1 then false else goMe F l (met++[mkey x]) (setA x.who (cntN cnt x.who+1) cnt)
def mayMe (l:List Memo) (old:List Floor):Bool:=match goFl old [] with | some F=>goMe F l [] []&&decide ((whosP l old).length≤8) | none=>false
theorem getA_none {β:Type} {k:Int}:∀{l:List (Int×β)},getA k l=none↔k∉l.map (·.1)
 | []=>by simp [getA]
 | p::l=>by
  unfold getA
  by_cases h:p.1=k
  ·rw [if_pos h];simp [h]
  ·rw [if_neg h,getA_none]
   have h':¬k=p.1:=fun e=>h e.symm
   simp [h']
theorem getA_some {β:Type} {k:Int} {v:β}:∀{l:List (Int×β)},getA k l=some v→(k,v)∈l
 | [],h=>by simp [getA] at h
 | p::l,h=>by
  unfold getA at h
  by_cases h1:p.1=k
  ·rw [if_pos h1] at h;cases h;subst h1;simp
  ·rw [if_neg h1] at h;exact List.mem_cons_of_mem _ (getA_some h)
theorem getA_mem {β:Type} {k:Int} {v:β}:∀{l:List (Int×β)},(l.map (·.1)).Nodup→(k,v)∈l→getA k l=some v
 | [],_,h=>by simp at h
 | p::l,hn,h=>by
  rw [List.map_cons,List.nodup_cons] at hn
  unfold getA
  rcases List.mem_cons.1 h with rfl | h
  ·rw [if_pos rfl]
  ·have:p.1 ≠ k:=fun e=>hn.1 (by rw [e];exact List.mem_map.2 ⟨(k,v),h,rfl⟩)
   rw [if_neg this];exact getA_mem hn.2 h
theorem setA_new {β:Type} {k:Int} {v:β}:∀{l:List (Int×β)},getA k l=none→setA k v l=l++[(k,v)]
 | [],_=>rfl
 | p::l,h=>by
  unfold getA at h
  unfold setA
  by_cases h1:p.1=k
  ·rw [if_pos h1] at h;cases h
  ·rw [if_neg h1] at h ⊢;rw [setA_new h];rfl
theorem getA_set {β:Type} {k k':Int} {v:β}:∀{l:List (Int×β)},getA k' (setA k v l)=if k'=k then some v else getA k' l
 | []=>by
  unfold setA getA
  by_cases h:k'=k
  ·rw [if_pos h,if_pos h.symm]
  ·rw [if_neg h,if_neg fun e=>h e.symm];rfl
 | p::l=>by
  unfold setA
  by_cases h1:p.1=k
  ·rw [if_pos h1]
   rw [show getA k' ((k,v)::l)=if k=k' then some v else getA k' l from rfl,show getA k' (p::l)=if p.1=k' then some p.2 else getA k' l from rfl]
   by_cases h:k'=k
   ·rw [if_pos h,if_pos h.symm]
   ·rw [if_neg h,if_neg fun e=>h e.symm,if_neg fun e=>h (by rw [←e,h1])]
  ·rw [if_neg h1]
   rw [show getA k' (p::setA k v l)=if p.1=k' then some p.2 else getA k' (setA k v l) from rfl,getA_set (l:=l),show getA k' (p::l)=if p.1=k' then some p.2 else getA k' l from rfl]
   by_cases h:p.1=k'
   ·rw [if_pos h,if_pos h,if_neg fun e=>h1 (by rw [h,e])]
   ·rw [if_neg h,if_neg h]
def flP (x:Floor):Int×Int:=(x.who,x.seq)
theorem goFl_iff:∀(l p:List Floor),goFl l (p.map flP)=if (l.map Floor.who).Nodup∧(∀x∈l,x.who∉p.map Floor.who) then some ((p++l).map flP) else none
 | [],p=>by simp [goFl]
 | x::l,p=>by
  unfold goFl
  have hk:((p.map flP).map (·.1))=p.map Floor.who:=by rw [List.map_map];rfl
  by_cases h:x.who∈p.map Floor.who
  ·have h1:(getA x.who (p.map flP)).isSome=true:=by
    cases hq:getA x.who (p.map flP) with
    | some v=>rfl
    | none=>rw [getA_none,hk] at hq;exact absurd h hq
   rw [if_pos h1,if_neg]
   rintro ⟨_,h2⟩
   exact h2 x (by simp) h
  ·have h1:getA x.who (p.map flP)=none:=by rw [getA_none,hk];exact h
   rw [h1]
   simp only [Option.isSome_none,Bool.false_eq_true,if_false]
   rw [setA_new h1]
   have:=goFl_iff l (p++[x])
   rw [List.map_append] at this
   rw [show p.map flP++[(x.who,x.seq)]=p.map flP++[x].map flP from rfl,this]
   rw [List.append_assoc,List.singleton_append]
   by_cases hc:(l.map Floor.who).Nodup∧∀y∈l,y.who∉(p++[x]).map Floor.who
   ·rw [if_pos hc,if_pos]
    obtain ⟨c1,c2⟩:=hc
    refine ⟨by
     rw [List.map_cons,List.nodup_cons]
     refine ⟨fun hm => ?_,c1⟩
     obtain ⟨y,hy,he⟩:=List.mem_map.1 hm
     exact c2 y hy (by rw [he];simp),fun y hy => ?_⟩
    rcases List.mem_cons.1 hy with rfl | hy
    ·exact h
    ·have:=c2 y hy
     rw [List.map_append,List.mem_append,not_or] at this
     exact this.1
   ·rw [if_neg hc,if_neg]
    rintro ⟨d1,d2⟩
    rw [List.map_cons,List.nodup_cons] at d1
    refine hc ⟨d1.2,fun y hy => ?_⟩
    rw [List.map_append,List.mem_append,not_or]
    refine ⟨d2 y (List.mem_cons_of_mem _ hy),fun hm => ?_⟩
    have:y.who=x.who:=by simpa using hm
    exact d1.1 (by rw [←this];exact List.mem_map.2 ⟨y,hy,rfl⟩)
theorem seqL_app (a b:List Memo) (w:Int):seqL (a++b) w=seqL a w++seqL b w:=by unfold seqL;rw [List.filter_append,List.map_append]
theorem seqL_one (x:Memo) (w:Int):(seqL [x] w).length=if x.who=w then 1 else 0:=by unfold seqL;by_cases h:x.who=w <;> simp [h]
theorem goMe_iff (F:List (Int×Int)):∀(l p:List Memo) (cnt:List (Int×Int)),(∀w,cntN cnt w=((seqL p w).length:Int)) →
  (goMe F l (p.map mkey) cnt=true↔(l.map mkey).Nodup∧(∀x∈l,mkey x∉p.map mkey)∧(∀x∈l,∀f,getA x.who F=some f→f<x.seq)∧(∀x∈l,(seqL (p++l) x.who).length≤4))
 | [],p,cnt,_=>by simp [goMe]
 | x::l,p,cnt,hc=>by
  unfold goMe
  have hbad:badM F (p.map mkey) x=false↔mkey x∉p.map mkey∧∀f,getA x.who F=some f→f<x.seq:=by
   unfold badM
   rw [Bool.or_eq_false_iff,List.contains_eq_mem,decide_eq_false_iff_not]
   refine and_congr_right fun _ => ?_
   cases getA x.who F with
   | none=>simp
   | some f=>simp
  have hcn:∀w,cntN (setA x.who (cntN cnt x.who+1) cnt) w=((seqL (p++[x]) w).length:Int):=fun w=>by
   unfold cntN
   rw [getA_set,seqL_app,List.length_append,seqL_one]
   have:=hc w
   unfold cntN at this
   by_cases h:w=x.who
   ·subst h;rw [if_pos rfl,if_pos rfl,Option.getD_some,this];omega
   ·rw [if_neg h,if_neg fun e=>h e.symm,this];omega
  cases hb:badM F (p.map mkey) x
  ·simp only [Bool.false_eq_true,if_false]
   obtain ⟨b1,b2⟩:=hbad.1 hb
   have ih:=goMe_iff F l (p++[x]) (setA x.who (cntN cnt x.who+1) cnt) hcn
   rw [List.map_append,List.map_cons,List.map_nil] at ih
   have hx:=hc x.who
   have hmono:∀w,(seqL (p++x::l) w).length=(seqL p w).length+(seqL [x] w).length+(seqL l w).length:=fun w=>by
    rw [show p++x::l=p++([x]++l) from rfl,seqL_app,seqL_app];simp only [List.length_append];omega
   by_cases h4:4<cntN cnt x.who+1
   ·rw [if_pos h4]
    simp only [Bool.false_eq_true,false_iff]
    rintro ⟨_,_,_,d⟩
    have:=d x (by simp)
    rw [hmono,seqL_one,if_pos rfl] at this
    omega
   ·rw [if_neg h4,ih]
    rw [show p++[x]++l=p++x::l by simp]
    constructor
    ·rintro ⟨d1,d2,d3,d4⟩
     refine ⟨?_,?_,?_,?_⟩
     ·rw [List.map_cons,List.nodup_cons]
      refine ⟨fun hm => ?_,d1⟩
      obtain ⟨y,hy,he⟩:=List.mem_map.1 hm
      exact d2 y hy (by rw [he];simp)
     ·intro y hy
      rcases List.mem_cons.1 hy with rfl | hy
      ·exact b1
      ·exact fun hm=>d2 y hy (List.mem_append_left _ hm)
     ·intro y hy
      rcases List.mem_cons.1 hy with rfl | hy
      ·exact b2
      ·exact d3 y hy
     ·intro y hy
      rcases List.mem_cons.1 hy with rfl | hy
      ·by_cases hin:∃z∈l,z.who=y.who
       ·obtain ⟨z,hz,hzw⟩:=hin
        have:=d4 z hz
        rw [hzw] at this;exact this
       ·have h0:seqL l y.who=[]:=by
         unfold seqL
         rw [List.map_eq_nil_iff,List.filter_eq_nil_iff]
         intro z hz
         have:¬z.who=y.who:=fun e=>hin ⟨z,hz,e⟩
         simp [this]
        rw [hmono,h0,seqL_one,if_pos rfl]
        simp only [List.length_nil];omega
      ·exact d4 y hy
    ·rintro ⟨d1,d2,d3,d4⟩
     rw [List.map_cons,List.nodup_cons] at d1
     refine ⟨d1.2,?_,fun y hy=>d3 y (List.mem_cons_of_mem _ hy),fun y hy=>d4 y (List.mem_cons_of_mem _ hy)⟩
     intro y hy hm
     rcases List.mem_append.1 hm with hm | hm
     ·exact d2 y (List.mem_cons_of_mem _ hy) hm
     ·rw [List.mem_singleton] at hm
      exact d1.1 (by rw [←hm];exact List.mem_map.2 ⟨y,hy,rfl⟩)
  ·simp only [if_true,Bool.false_eq_true,false_iff]
   rintro ⟨_,d2,d3,_⟩
   have:=hbad.2 ⟨d2 x (by simp),d3 x (by simp)⟩
   rw [this] at hb;cases hb
structure MayOk (l:List Memo) (old:List Floor):Prop where
 fl:(old.map Floor.who).Nodup
 keys:(l.map mkey).Nodup
 above:∀x∈l,∀f∈old,f.who=x.who→f.seq<x.seq
 cnt:∀w,(seqL l w).length≤4
 whos:(whosP l old).length≤8
theorem mayMe_iff {l:List Memo} {old:List Floor}:mayMe l old=true↔MayOk l old:=by
 have h0:=goFl_iff old []
 simp only [List.map_nil,List.not_mem_nil,not_false_eq_true,implies_true,and_true,List.nil_append] at h0
 unfold mayMe
 rw [h0]
 by_cases hn:(old.map Floor.who).Nodup
 ·rw [if_pos hn]
  simp only [Bool.and_eq_true,decide_eq_true_eq]
  have h1:=goMe_iff (old.map flP) l [] [] (fun w=>by simp [cntN,getA,seqL])
  simp only [List.map_nil,List.not_mem_nil,not_false_eq_true,implies_true,true_and,List.nil_append] at h1
  rw [h1]
  have hk:((old.map flP).map (·.1))=old.map Floor.who:=by rw [List.map_map];rfl
  constructor
  ·rintro ⟨⟨d1,d3,d4⟩,d5⟩
   refine ⟨hn,d1,fun x hx f hf hw=>d3 x hx f.seq ?_,fun w => ?_,d5⟩
   ·rw [←hw]
    exact getA_mem (by rw [hk];exact hn) (List.mem_map.2 ⟨f,hf,rfl⟩)
   ·by_cases hin:∃z∈l,z.who=w
    ·obtain ⟨z,hz,rfl⟩:=hin;exact d4 z hz
    ·have h0:seqL l w=[]:=by
      unfold seqL
      rw [List.map_eq_nil_iff,List.filter_eq_nil_iff]
      intro z hz
      have:¬z.who=w:=fun e=>hin ⟨z,hz,e⟩
      simp [this]
     rw [h0];simp
  ·rintro ⟨c1,c2,c3,c4,c5⟩
   refine ⟨⟨c2,fun x hx f hf => ?_,fun x hx=>c4 _⟩,c5⟩
   have:=getA_some hf
   obtain ⟨fl,h1,h2⟩:=List.mem_map.1 this
   have e1:fl.who=x.who:=congrArg Prod.fst h2
   have e2:fl.seq=f:=congrArg Prod.snd h2
   rw [←e2];exact c3 x hx fl h1 e1
 ·rw [if_neg hn]
  simp only [Bool.false_eq_true,false_iff]
  exact fun h=>hn h.fl
end Go.Proofs.YtndfdnlbljhlgaaGreat
end
section
namespace Go.Proofs.YtndfdnlbljhlgaaGreat
open Go Go.AM Go.Proofs
set_option maxRecDepth 20000
set_option linter.unusedSimpArgs false
set_option linter.unusedVariables false
set_option linter.defProp false
theorem isP_iff {w q:Int} {x:Memo}:isP w q x=true↔mkey x=(w,q):=by
 unfold isP mkey
 rw [Bool.and_eq_true,decide_eq_true_eq,decide_eq_true_eq,Prod.mk.injEq]
theorem hasP_iff {old:List Floor} {w:Int}:hasP old w=true↔w∈old.map Floor.who:=by
 unfold hasP;rw [List.any_eq_true,List.mem_map];simp
theorem floorP_mem {old:List Floor} (hn:(old.map Floor.who).Nodup) {f:Floor} (hf:f∈old):floorP old f.who=f.seq:=by
 induction old with
 | nil=>simp at hf
 | cons g old ih =>
  rw [List.map_cons,List.nodup_cons] at hn
  unfold floorP
  rcases List.mem_cons.1 hf with rfl | hf
  ·rw [if_pos rfl]
  ·rw [if_neg fun e=>hn.1 (by rw [e];exact List.mem_map.2 ⟨f,hf,rfl⟩),ih hn.2 hf]
structure KeptOk (l:List Memo) (old:List Floor) (w q:Int):Prop where
 no:lookF l w q=none
 fl:floorP old w<q
 room:¬(8≤(whosP l old).length∧w∉whosP l old)
end Go.Proofs.YtndfdnlbljhlgaaGreat
end
section
namespace Go.Proofs.YtndfdnlbljhlgaaGreat
open Go Go.AM Go.Proofs
set_option maxRecDepth 20000
set_option linter.unusedSimpArgs false
set_option linter.unusedVariables false
set_option linter.defProp false
structure KeepOk (m k:Memos) (w q:Int) (r:Reply):Prop where
 other:∀a b,a ≠ w→lookF k.l.l a b=lookF m.l.l a b
 found:∀b x,lookF k.l.l w b=some x→(b=q∧x.rep=r)∨lookF m.l.l w b=some x
 lost:∀b,lookF k.l.l w b=none→(lookF m.l.l w b=none∧b ≠ q)∨(hasP k.old.l w=true∧b≤floorP k.old.l w)
 fo:∀a,a ≠ w→floorP k.old.l a=floorP m.old.l a∧hasP k.old.l a=hasP m.old.l a
 fw:hasP m.old.l w=true→hasP k.old.l w=true∧floorP m.old.l w≤floorP k.old.l w
 who:∀a,a∈whosP k.l.l k.old.l↔a=w∨a∈whosP m.l.l m.old.l
end Go.Proofs.YtndfdnlbljhlgaaGreat
end
section
namespace Go.Proofs.YtndfdnlbljhlgaaGreat
open Go Go.AM Go.Proofs
set_option maxRecDepth 20000
set_option maxHeartbeats 1000000
set_option linter.unusedSimpArgs false
set_option linter.unusedVariables false
theorem runG_fold {α β:Type} (f:β→α→β):∀(l:List α) (k:Nat) (b:β),runG (γ:=Unit) (fun k (x:α) b => .inl (f b x)) k l b = .inl (l.foldl f b):=by
 intro l
 induction l with
 | nil=>intro k b;simp [runG]
 | cons x l ih=>intro k b;simp only [runG,ih];simp
theorem Lay_ev (s:Sl KV) (x:KV) (hl:s.l.length≤1000000) (H:List Blk):EvF tab 114 [.g (KVs.g s),A x.c] H=some ⟨.g (KVs.g (.of (layP s.l x))),[],[]⟩:=by
 have hw:=loop_runJ (E:=EvF tab) (h:=H) (c:=L114_0) (lv:=[3,5,6,9,10,11]) (l:=s.l) (β:=List KV×Bool) (γ:=Unit) (fun k b=>b.1.length≤2*k) (fun k y b => .inl (layF x b y))
  (fun k b o=>⟨[(3,.ptr H.length 0),(5,.ms (H.length+2) (k+1) 6 0 b.1.length),(6,B b.2),(9,.g (KVs.g s)),(10,I s.l.length),(11,I k)],[],.cells (x.c.map .g) :: .rows 6 1 [] :: .rows 6 (k+1) (b.1.map KV.c)::o⟩)
  (fun b o=>(.exit 0,⟨[(3,.ptr H.length 0),(5,.ms (H.length+2) (s.l.length+1) 6 0 b.1.length),(6,B b.2),(9,.g (KVs.g s)),(10,I s.l.length),(11,I s.l.length),(12,B false)],[],.cells (x.c.map .g) :: .rows 6 1 [] :: .rows 6 (s.l.length+1) (b.1.map KV.c)::o⟩))
  (fun _ o=>(.ret,⟨[],[],o⟩)) (by simp) (by simp) (fun k y b o hk hx hy hi => ?_) (fun b o _=>by delta L114_0;cases s <;> simp -implicitDefEqProofs) ([],false) [] (by simp)
 ·obtain ⟨o',hw⟩:=hw
  rw [runG_fold] at hw
  have e0:((0:Nat):Int)=0:=rfl
  simp only [e0,endJ,List.length_nil,List.map_nil,Nat.zero_add] at hw
  have hf:=layF_fin x s.l []
  have hlen:=layP_len x s.l
  have hne:=layP_ne s.l x
  rw [List.nil_append] at hf
  refine EvF_walk t114 (by simp) ?_
  obtain ⟨rr,hr⟩:∃r,s.l.foldl (layF x) ([],false)=r:=⟨_,rfl⟩
  rw [hr] at hw hf
  obtain ⟨r,b⟩:=rr
  simp only at hf hw
  have e3:List.take r.length (List.map KV.c r)=List.map KV.c r:=List.take_of_length_le (by simp)
  simp only [KV.c,List.map_cons,List.map_nil] at hw
  cases b
  ·simp only [Bool.false_eq_true,if_false] at hf
   rw [←hf] at hlen ⊢
   simp only [List.length_append,List.length_cons,List.length_nil] at hlen
   have e4:List.take (r.length+1) (List.map KV.c r++[KV.c x])=List.map KV.c r++[KV.c x]:=List.take_of_length_le (by simp)
   simp only [KV.c,List.map_append,List.map_cons,List.map_nil] at e3 e4 ⊢
   simp -implicitDefEqProofs [A,KV.c,hw,chunk,appV,room,Nat.not_succ_le_self,show r.length+1≤140737488355328 by omega,show (r.length+1)*64≤140737488355328 by omega,e3,e4]
  ·simp only [if_true] at hf
   subst hf
   have hn:¬s.l=[]:=by
    intro h0
    rw [h0] at hr;simp at hr
   simp -implicitDefEqProofs [A,KV.c,hw,e3,hn]
 ·have e2:=wrap_succ hk (by omega)
  delta L114_0
  cases s with
  | nil=>simp at hk
  | of l =>
   simp only [Sl.l_of] at hk hx hy hl ⊢
   obtain ⟨r,bb⟩:=b
   simp only at hi ⊢
   have e3:List.take r.length (List.map KV.c r)=List.map KV.c r:=List.take_of_length_le (by simp)
   unfold layF
   simp only
   cases bb
   ·cases h1:Op.bytesLess y.key x.key
    ·by_cases h2:y.key=x.key
     ·refine ⟨by simp [h2,bl_irrefl];omega,o++[.cells (y.c.map .g)],?_⟩
      simp -implicitDefEqProofs [hk,hy,KV.c,h1,h2,bl_irrefl,e2,appV,room,Nat.not_succ_le_self,chunk,show r.length+1≤140737488355328 by omega,show (r.length+1)*64≤140737488355328 by omega,e3]
     ·refine ⟨by simp [h2];omega,o++[.cells (y.c.map .g)],?_⟩
      simp -implicitDefEqProofs [hk,hy,KV.c,h1,h2,e2,appV,room,Nat.not_succ_le_self,chunk,show r.length+2≤140737488355328 by omega,show (r.length+2)*64≤140737488355328 by omega,show ¬r.length+2≤r.length by omega,e3]
    ·refine ⟨by simp;omega,o++[.cells (y.c.map .g)],?_⟩
     simp -implicitDefEqProofs [hk,hy,KV.c,h1,e2,appV,room,Nat.not_succ_le_self,chunk,show r.length+1≤140737488355328 by omega,show (r.length+1)*64≤140737488355328 by omega,e3]
   ·refine ⟨by simp;omega,o++[.cells (y.c.map .g)],?_⟩
    simp -implicitDefEqProofs [hk,hy,KV.c,e2,appV,room,Nat.not_succ_le_self,chunk,show r.length+1≤140737488355328 by omega,show (r.length+1)*64≤140737488355328 by omega,e3]
theorem Clone_ev (s:Sl KV) (hl:s.l.length≤1000000) (H:List Blk):EvF tab 112 [.g (KVs.g s)] H=some ⟨.g (KVs.g s),[],[]⟩:=by
 refine EvF_walk t112 (by simp) ?_
 cases s with
 | nil=>simp -implicitDefEqProofs
 | of l =>
  simp only [Sl.l_of] at hl
  cases l with
  | nil=>simp -implicitDefEqProofs [appV]
  | cons y l =>
   simp only [List.length_cons] at hl
   have e3:List.take (l.length+1) (KV.c y::List.map KV.c l)=KV.c y::List.map KV.c l:=List.take_of_length_le (by simp)
   simp -implicitDefEqProofs [appV,room,show l.length+1≤140737488355328 by omega,show (l.length+1)*64≤140737488355328 by omega,e3]
theorem concatT:∃m msg m' msg',tab.T 165=some (concatF 6 64 196 m msg)∧tab.T 196=some (growF 6 64 [.str [],.str [],.int .i64 0,.int .i64 0,.int .i64 0,.int .i64 0] m' msg') :=
 ⟨_,_,_,_,t165,t196⟩
theorem concatK_ev (a b:Sl KV) (hn:a.l.length+b.l.length≤1000000) (H:List Blk) :
  EvF tab 165 [.g (.sl 1 [[KVs.g a],[KVs.g b]])] H=some ⟨.g (nslG 6 KV.c (a.l++b.l)),[],[]⟩:=by
 obtain ⟨m,msg,m',msg',h1,h2⟩:=concatT
 exact concat_ev h1 h2 a b (by omega) (by omega) H
theorem Take_ev (s:Sl KV) (k:Bs) (hl:s.l.length≤1000000) (H:List Blk):EvF tab 113 [.g (KVs.g s),T k] H=some ⟨.g (KVs.g (takeR s k)),[],[]⟩:=by
 refine EvF_walk t113 (by simp) ?_
 have hi:=fun H=>is_ev k H
 have hx:=fun (b:Blk)=>idx_ev s k (by omega) (H:=H++[b,.cells [T k]]) (p:=H.length+1) (by rw [List.getElem?_append_right (by omega)];simp)
 have hc:=fun H=>Clone_ev s hl H
 unfold takeR
 unfold findI at hx
 rcases hq:findN k 0 s.l with _ | i <;> simp only [hq] at hx ⊢
 ·simp -implicitDefEqProofs [hi,hx,hc]
 ·obtain ⟨h1,h2⟩:=find_some hq
  cases s with
  | nil=>simp at h1
  | of l =>
   simp only [Sl.l_of,KVs.g,Sl.g_of] at h1 hx hl ⊢
   have cc:=fun H=>concatK_ev (.of (l.take i)) (.of (l.drop (i+1))) (by simp;omega) H
   simp only [KVs.g,Sl.g_of,Sl.l_of,nslG_slOf,List.map_take,List.map_drop] at cc
   have e1:IntKind.i64.wrap ((i:Int)+1)=(i:Int)+1:=wrap_i64 (by omega) (by omega)
   have e2:((i:Int)+1).toNat=i+1:=by omega
   have e3:List.take l.length (List.map KV.c l)=List.map KV.c l:=List.take_of_length_le (by simp)
   simp -implicitDefEqProofs [hi,hx,cc,cutB,bnd,intOfA,e1,e2,e3,show i≤l.length by omega,show i+1≤l.length by omega,show (i:Int)≤l.length by omega,show (i:Int)+1≤l.length by omega,show (0:Int)≤(i:Int)+1 by omega,chunk]
end Go.Proofs.YtndfdnlbljhlgaaGreat
end
