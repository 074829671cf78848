/- Part of the proof: what the functions answer, part 4 (SMemo9, GMemoS, STxn1, PMvcc1, PMvcc2, PMvcc3, STxn2, STxn3, GServ1, GWire1, GWire2). No conditions. -/
import Derived.Test.YtndfdnlbljhlgaaGreatSPJ2
import Derived.Test.YtndfdnlbljhlgaaGreatSPJ3
import Derived.Test.YtndfdnlbljhlgaaGreatSPJ1
section
namespace Go.Proofs.YtndfdnlbljhlgaaGreat
open Go Go.AM Go.Proofs
set_option maxRecDepth 20000
set_option maxHeartbeats 8000000
set_option linter.unusedSimpArgs false
set_option linter.unusedVariables false
def int64G (v:Int):GV := .int .i64 v
def cntM (b:List (Int×Int)):List (GV×Option GV):=b.map (kvG int64G)
def metG (p:Int×Int):List GV×Option GV:=([.int .i64 p.1,.int .i64 p.2],some (.bool true))
theorem findM2_met (w s:Int):∀(met:List (Int×Int)),findM2 [.i,.i] [.int .i64 w,.int .i64 s] (met.map metG)=some (if met.contains (w,s)=true then some (met.findIdx (· == (w,s))) else none)
 | []=>rfl
 | p::met=>by
  obtain ⟨a,b⟩:=p
  have ih:=findM2_met w s met
  rw [List.map_cons]
  unfold findM2
  simp only [metG,List.map_cons,List.map_nil,eqL,eqG,if_true,Bool.and_true]
  by_cases h:w=a∧s=b
  ·obtain ⟨rfl,rfl⟩:=h
   simp [List.findIdx_cons]
  ·have hb:(w==a&&s==b)=false:=by
    rw [Bool.eq_false_iff];intro hh;rw [Bool.and_eq_true] at hh
    exact h ⟨by simpa using hh.1,by simpa using hh.2⟩
   rw [hb,ih]
   have hne:¬((a,b):Int×Int)=(w,s):=fun e=>by cases e;exact h ⟨rfl,rfl⟩
   have hc:((a,b)::met).contains (w,s)=met.contains (w,s):=by
    rw [Bool.eq_iff_iff,List.contains_iff_mem,List.contains_iff_mem,List.mem_cons]
    exact ⟨fun h=>h.elim (fun e=>absurd e.symm hne) id,.inr⟩
   rw [hc]
   have hne2:(((a,b):Int×Int)==(w,s))=false:=by simpa using hne
   cases hq:met.contains (w,s)
   ·simp
   ·simp [List.findIdx_cons,hne2]
theorem mget2_met (w s:Int) (met:List (Int×Int)):mgetV2 false [.i,.i] (some (.bool false)) [.int .i64 w,.int .i64 s] (met.map metG)=some (.g (.bool (met.contains (w,s)))):=by
 unfold mgetV2
 rw [if_pos (by simp),findM2_met]
 cases hq:met.contains (w,s)
 ·simp [mvV]
 ·have hlt:met.findIdx (· == (w,s))<met.length:=by
   rw [List.findIdx_lt_length]
   exact ⟨(w,s),List.contains_iff_mem.1 hq,by simp⟩
  simp only [if_true]
  rw [List.getElem?_map,List.getElem?_eq_getElem hlt]
  simp [mvV,metG]
theorem mset2_met (w s:Int) (met:List (Int×Int)) (h:met.contains (w,s)=false):msetV2 [.i,.i] [.int .i64 w,.int .i64 s] (some (.bool true)) (met.map metG)=some ((met++[(w,s)]).map metG):=by
 unfold msetV2
 rw [if_pos (by simp),findM2_met,h]
 simp [metG]
theorem cnt_get (b:List (Int×Int)) (k:Int):mgetV false .i (some (.int .i64 0)) (.int .i64 k) (cntM b)=some (I (cntN b k)):=by
 have:=mget_kv int64G k (.int .i64 0) false b
 unfold cntM
 rw [this]
 simp only [Bool.false_eq_true,if_false]
 unfold cntN
 cases getA k b <;> rfl
theorem cnt_get2 (b:List (Int×Int)) (k:Int):mgetV true .i (some (.int .i64 0)) (.int .i64 k) (cntM b)=some (.tup [I (cntN b k),B (getA k b).isSome]):=by
 have:=mget_kv int64G k (.int .i64 0) true b
 unfold cntM
 rw [this]
 simp only [if_true]
 unfold cntN
 cases getA k b <;> rfl
theorem cnt_set (b:List (Int×Int)) (k v:Int):msetV .i (.int .i64 k) (some (.int .i64 v)) (cntM b)=some (cntM (setA k v b)):=mset_kv int64G k v b
theorem cntN_set (b:List (Int×Int)) (k v:Int):cntN (setA k v b) k=v:=by unfold cntN;rw [getA_set,if_pos rfl];rfl
theorem runG_fl:∀(l:List Floor) (k:Nat) (b:List (Int×Int)),runG (fun _ (x:Floor) b=>flF b x) k l b=match goFl l b with | some b' => .inl b' | none => .inr ():=by
 intro l
 induction l with
 | nil=>intro k b;rfl
 | cons x l ih =>
  intro k b
  unfold runG goFl flF
  by_cases h:(getA x.who b).isSome=true
  ·simp [h]
  ·simp only [h,if_false,Bool.false_eq_true]
   exact ih _ _
def meF (F:List (Int×Int)) (b:List (Int×Int)×List (Int×Int)) (x:Memo):(List (Int×Int)×List (Int×Int))⊕Unit :=
 if badM F b.1 x=true then .inr () else if 4<cntN b.2 x.who+1 then .inr () else .inl (b.1++[mkey x],setA x.who (cntN b.2 x.who+1) b.2)
theorem runG_me (F:List (Int×Int)):∀(l:List Memo) (k:Nat) (b:List (Int×Int)×List (Int×Int)),(∃b',runG (fun _ (x:Memo) b=>meF F b x) k l b = .inl b'∧goMe F l b.1 b.2=true)∨(runG (fun _ (x:Memo) b=>meF F b x) k l b = .inr ()∧goMe F l b.1 b.2=false):=by
 intro l
 induction l with
 | nil=>intro k b;exact .inl ⟨b,rfl,rfl⟩
 | cons x l ih =>
  intro k b
  unfold runG goMe meF
  by_cases h:badM F b.1 x=true
  ·right;simp [h]
  ·simp only [h,if_false,Bool.false_eq_true]
   by_cases h4:4<cntN b.2 x.who+1
   ·right;simp [h4]
   ·simp only [h4,if_false]
    exact ih _ _
theorem badM_eq (F:List (Int×Int)) (met:List (Int×Int)) (x:Memo):badM F met x=(met.contains (mkey x)||((getA x.who F).isSome&&decide (x.seq≤cntN F x.who))):=by
 unfold badM cntN
 cases getA x.who F <;> rfl
theorem MMay_ev (m:Memos) (wf:m.wf) (hl:m.l.l.length+m.old.l.length≤5000) (H:List Blk):EvF tab 58 [A m.c] H=some ⟨B (mayMe m.l.l m.old.l),[],[]⟩:=by
 have h1:=fun H=>Whos_ev m wf (by omega) H
 have hwl:∀h st,lenV h st (.g (Ints.g (slOf (whosP m.l.l m.old.l))))=some (whosP m.l.l m.old.l).length:=fun h st=>by rw [lenV_Sl,slOf_l]
 obtain ⟨ml,mo⟩:=m
 simp only at hl h1 hwl ⊢
 have hw:=loop_runJ (E:=EvF tab) (h:=H) (c:=L58_0) (lv:=[1,3,4,5,18,19,20]) (l:=mo.l) (β:=List (Int×Int)) (γ:=Unit) (fun _ _=>True) (fun _ x b=>flF b x)
  (fun k b o=>⟨[(1,.ptr H.length 0),(3,.mp (H.length+1)),(4,.mp (H.length+2)),(5,.mp (H.length+3)),(18,.g (Floors.g mo)),(19,I mo.l.length),(20,I k)],[],.cells ((Memos.c ⟨ml,mo⟩).map .g) :: .map (cntM b) :: .map2 [] :: .map []::o⟩)
  (fun b o=>(.exit 0,⟨[(1,.ptr H.length 0),(3,.mp (H.length+1)),(4,.mp (H.length+2)),(5,.mp (H.length+3)),(18,.g (Floors.g mo)),(19,I mo.l.length),(20,I mo.l.length),(21,B false)],[],.cells ((Memos.c ⟨ml,mo⟩).map .g) :: .map (cntM b) :: .map2 [] :: .map []::o⟩))
  (fun _ o=>(.ret,⟨[(2,B false)],[],o⟩)) (by simp) (by simp) (fun k x b o hk hx hy _ => ?_) (fun _ o _=>by delta L58_0;simp -implicitDefEqProofs) [] [] trivial
 have hw2:=fun F o0=>loop_runJ (E:=EvF tab) (h:=H) (c:=L58_1) (lv:=[1,3,4,5,39,40,41]) (l:=ml.l) (β:=List (Int×Int)×List (Int×Int)) (γ:=Unit) (fun k b=>∀w,0≤cntN b.2 w∧cntN b.2 w≤k) (fun _ x b=>meF F b x)
  (fun k b o=>⟨[(1,.ptr H.length 0),(3,.mp (H.length+1)),(4,.mp (H.length+2)),(5,.mp (H.length+3)),(39,.g (MemoL.g ml)),(40,I ml.l.length),(41,I k)],[],.cells ((Memos.c ⟨ml,mo⟩).map .g) :: .map (cntM F) :: .map2 (b.1.map metG) :: .map (cntM b.2)::o⟩)
  (fun b o=>(.exit 2,⟨[(1,.ptr H.length 0),(3,.mp (H.length+1)),(4,.mp (H.length+2)),(5,.mp (H.length+3)),(39,.g (MemoL.g ml)),(40,I ml.l.length),(41,I ml.l.length),(42,B false)],[],.cells ((Memos.c ⟨ml,mo⟩).map .g) :: .map (cntM F) :: .map2 (b.1.map metG) :: .map (cntM b.2)::o⟩))
  (fun _ o=>(.ret,⟨[(2,B false)],[],o⟩)) (by simp) (by simp) (fun k x b o hk hx hy hi => ?_) (fun _ o _=>by delta L58_1;simp -implicitDefEqProofs) ([],[]) o0 (fun w=>by simp [cntN,getA])
 ·obtain ⟨o',hw⟩:=hw
  rw [runG_fl] at hw
  unfold mayMe
  refine EvF_walk t58 (by simp) ?_
  have hlen:∀h s,lenV h s (.g (MemoL.g ml))=some ml.l.length:=fun h s=>lenV_Sl ..
  have hlen2:∀h s,lenV h s (.g (Floors.g mo))=some mo.l.length:=fun h s=>lenV_Sl ..
  simp only [A,Memos.c,List.map_cons,List.map_nil] at hw hw2 h1 ⊢
  generalize MemoL.g ml=G1 at hw hw2 h1 hlen ⊢
  generalize Floors.g mo=G2 at hw hw2 h1 hlen2 ⊢
  rw [show cntM []=[] from rfl] at hw
  simp only [Int.ofNat_zero,Int.cast_ofNat_Int] at hw hw2
  cases hg:goFl mo.l [] with
  | none =>
   rw [hg] at hw
   simp only [endJ] at hw
   simp -implicitDefEqProofs [hw,hlen2]
  | some F =>
   rw [hg] at hw
   simp only [endJ] at hw
   obtain ⟨o2,hw2⟩:=hw2 F o'
   rw [show cntM []=[] from rfl] at hw2
   rcases runG_me F ml.l 0 ([],[]) with ⟨b',e1,e2⟩ | ⟨e1,e2⟩
   ·rw [e1] at hw2
    simp only at e2
    simp only [endJ] at hw2
    generalize Ints.g (slOf (whosP ml.l mo.l))=GW at h1 hwl
    by_cases h8:(whosP ml.l mo.l).length≤8
    ·have h8I:((whosP ml.l mo.l).length:Int)≤8:=by omega
     simp -implicitDefEqProofs [e2,hw,hw2,hlen,hlen2,h1,hwl,h8,h8I]
    ·have h8I:¬((whosP ml.l mo.l).length:Int)≤8:=by omega
     simp -implicitDefEqProofs [e2,hw,hw2,hlen,hlen2,h1,hwl,h8,h8I]
   ·rw [e1] at hw2
    simp only at e2
    simp only [endJ] at hw2
    simp -implicitDefEqProofs [e2,hw,hw2,hlen,hlen2]
 ·have e2:=wrap_succ hk (by omega)
  delta L58_1
  obtain ⟨met,cnt⟩:=b
  simp only at hi ⊢
  have g1:=cnt_get2 F x.who
  have g2:=mget2_met x.who x.seq met
  have g3:=cnt_get cnt x.who
  have g4:=cnt_set cnt x.who (cntN cnt x.who+1)
  have g5:=cnt_get (setA x.who (cntN cnt x.who+1) cnt) x.who
  rw [cntN_set] at g5
  have g6:=fun H=>mof_ev x H
  have hb:=hi x.who
  have e3:IntKind.i64.wrap (cntN cnt x.who+1)=cntN cnt x.who+1:=wrap_i64 (by omega) (by omega)
  cases ml with
  | nil=>simp at hk
  | of l =>
   simp only [Sl.l_of] at hk hy hl
   unfold meF
   simp only
   rw [badM_eq]
   cases hc:met.contains (mkey x)
   ·have g7:=mset2_met x.who x.seq met hc
    rw [show met.contains (x.who,x.seq)=met.contains (mkey x) from rfl,hc] at g2
    simp only [Bool.false_or]
    obtain ⟨xw,xs,x1,x2,x3,x4,x5,x6,x7,x8,x9⟩:=x
    simp only [mkey] at g7 hc ⊢
    simp only [A,Memo.c,List.map_cons,List.map_nil] at g1 g2 g3 g4 g5 g6 e3 hb ⊢
    have hnew:¬4<cntN cnt xw+1→∀w,0≤cntN (setA xw (cntN cnt xw+1) cnt) w∧cntN (setA xw (cntN cnt xw+1) cnt) w≤((k+1:Nat):Int):=fun _ w=>by
     have hw:=hi w
     unfold cntN at hw hb ⊢
     rw [getA_set]
     by_cases h:w=xw
     ·rw [if_pos h,Option.getD_some];omega
     ·rw [if_neg h];omega
    generalize hMC2:cntM (setA xw (cntN cnt xw+1) cnt)=MC2 at g4 g5
    generalize cntM cnt=MC at g3 g4 ⊢
    generalize cntM F=MF at g1 ⊢
    generalize hMM2:(met++[(xw,xs)]).map metG=MM2 at g7
    generalize met.map metG=MM at g2 g7 ⊢
    generalize cntN F xw=cf at g1 ⊢
    generalize (getA xw F).isSome=cb at g1 ⊢
    generalize hcc:cntN cnt xw=cc at g3 g4 g5 e3 hb hnew hMC2 ⊢
    cases cb
    ·simp only [Bool.false_and,Bool.false_eq_true,if_false]
     by_cases h4:4<cc+1
     ·rw [if_pos h4]
      refine ⟨.cells ((Memos.c ⟨.of l,mo⟩).map .g) :: .map MF :: .map2 MM2 :: .map MC2::(o++[.rows 6 1 [],.rows 8 1 [],.cells ((Memo.c ⟨xw,xs,x1,x2,x3,x4,x5,x6,x7,x8,x9⟩).map .g)]),?_⟩
      simp -implicitDefEqProofs [hk,hy,Memos.c,Memo.c,g1,g2,g3,g4,g5,g6,g7,e3,h4]
     ·rw [if_neg h4]
      refine ⟨hnew h4,o++[.rows 6 1 [],.rows 8 1 [],.cells ((Memo.c ⟨xw,xs,x1,x2,x3,x4,x5,x6,x7,x8,x9⟩).map .g)],?_⟩
      simp only
      rw [hMC2,hMM2]
      simp -implicitDefEqProofs [hk,hy,Memos.c,Memo.c,g1,g2,g3,g4,g5,g6,g7,e2,e3,h4]
    ·by_cases hq:xs≤cf
     ·simp only [hq,decide_true,Bool.and_self,if_true]
      refine ⟨.cells ((Memos.c ⟨.of l,mo⟩).map .g) :: .map MF :: .map2 MM :: .map MC::(o++[.rows 6 1 [],.rows 8 1 [],.cells ((Memo.c ⟨xw,xs,x1,x2,x3,x4,x5,x6,x7,x8,x9⟩).map .g)]),?_⟩
      simp -implicitDefEqProofs [hk,hy,Memos.c,Memo.c,g1,g2,g6,hq]
     ·simp only [hq,decide_false,Bool.and_false,Bool.false_eq_true,if_false]
      by_cases h4:4<cc+1
      ·rw [if_pos h4]
       refine ⟨.cells ((Memos.c ⟨.of l,mo⟩).map .g) :: .map MF :: .map2 MM2 :: .map MC2::(o++[.rows 6 1 [],.rows 8 1 [],.cells ((Memo.c ⟨xw,xs,x1,x2,x3,x4,x5,x6,x7,x8,x9⟩).map .g)]),?_⟩
       simp -implicitDefEqProofs [hk,hy,Memos.c,Memo.c,g1,g2,g3,g4,g5,g6,g7,e3,h4,hq]
      ·rw [if_neg h4]
       refine ⟨hnew h4,o++[.rows 6 1 [],.rows 8 1 [],.cells ((Memo.c ⟨xw,xs,x1,x2,x3,x4,x5,x6,x7,x8,x9⟩).map .g)],?_⟩
       simp only
       rw [hMC2,hMM2]
       simp -implicitDefEqProofs [hk,hy,Memos.c,Memo.c,g1,g2,g3,g4,g5,g6,g7,e2,e3,h4,hq]
   ·rw [show met.contains (x.who,x.seq)=met.contains (mkey x) from rfl,hc] at g2
    simp only [Bool.true_or,if_true]
    obtain ⟨xw,xs,x1,x2,x3,x4,x5,x6,x7,x8,x9⟩:=x
    simp only [A,Memo.c,List.map_cons,List.map_nil] at g1 g2 g6 ⊢
    generalize cntM F=MF at g1 ⊢
    generalize met.map metG=MM at g2 ⊢
    generalize cntM cnt=MC at ⊢
    generalize cntN F xw=cf at g1
    generalize (getA xw F).isSome=cb at g1
    refine ⟨.cells ((Memos.c ⟨.of l,mo⟩).map .g) :: .map MF :: .map2 MM :: .map MC::(o++[.rows 6 1 [],.rows 8 1 [],.cells ((Memo.c ⟨xw,xs,x1,x2,x3,x4,x5,x6,x7,x8,x9⟩).map .g)]),?_⟩
    simp -implicitDefEqProofs [hk,hy,Memos.c,Memo.c,g1,g2,g6]
 ·have e2:=wrap_succ hk (by omega)
  have g1:=cnt_get2 b x.who
  have g2:=cnt_set b x.who x.seq
  delta L58_0
  cases mo with
  | nil=>simp at hk
  | of l =>
   simp only [Sl.l_of] at hk hy hl
   obtain ⟨xw,xs⟩:=x
   unfold flF
   simp only at g1 g2 ⊢
   cases hc:(getA xw b).isSome
   ·rw [hc] at g1
    simp only [Bool.false_eq_true,if_false]
    refine ⟨trivial,o++[.cells ((Floor.c ⟨xw,xs⟩).map .g)],?_⟩
    generalize cntM (setA xw xs b)=M2 at g2 ⊢
    generalize cntM b=M1 at g1 g2 ⊢
    simp -implicitDefEqProofs [hk,hy,Memos.c,Floor.c,e2,g1,g2]
   ·rw [hc] at g1
    simp only [if_true]
    refine ⟨.cells ((Memos.c ⟨ml,.of l⟩).map .g) :: .map (cntM b) :: .map2 [] :: .map []::(o++[.cells ((Floor.c ⟨xw,xs⟩).map .g)]),?_⟩
    generalize cntM b=M1 at g1 ⊢
    simp -implicitDefEqProofs [hk,hy,Memos.c,Floor.c,e2,g1]
end Go.Proofs.YtndfdnlbljhlgaaGreat
end
section
namespace Go.Proofs.YtndfdnlbljhlgaaGreat
open Go Go.AM Go.Proofs
set_option maxRecDepth 20000
set_option maxHeartbeats 8000000
set_option linter.unusedSimpArgs false
set_option linter.unusedVariables false
def fewR (x:Memo):Bool:=(decide ((x.rep.kvs.l.length:Int)≤40)&&allP shortKV x.rep.kvs.l)&&(decide ((x.rep.events.l.length:Int)≤40)&&allP shortEv x.rep.events.l)
def fewM (m:Memos):Bool:=(decide (m.l.l.length≤40)&&decide (m.old.l.length≤20))&&allP fewR m.l.l
theorem FewM_ev (m:Memos) (wf:m.wf) (H:List Blk):EvF tab 33 [A m.c] H=some ⟨B (fewM m),[],[]⟩:=by
 obtain ⟨ml,mo⟩:=m
 obtain ⟨⟨w1,w2⟩,⟨w3,w4⟩⟩:=wf
 simp only at w1 w2 w3 w4
 have hw:=loop_all0 (E:=EvF tab) (h:=H) (c:=L33_0) (lv:=[1,3]) (l:=ml.l) fewR (fun k=>⟨[(1,.ptr H.length 0),(3,I k)],[],[.cells ((Memos.c ⟨ml,mo⟩).map .g)]⟩) (.exit 0,⟨[(1,.ptr H.length 0),(3,I ml.l.length),(18,B false)],[],[.cells ((Memos.c ⟨ml,mo⟩).map .g)]⟩) (.ret,⟨[(2,B false)],[],[.cells ((Memos.c ⟨ml,mo⟩).map .g)]⟩) (by simp) (by simp) (fun k x hk hx hy => ?_) (by delta L33_0;simp -implicitDefEqProofs [Memos.c])
 ·refine EvF_walk t33 (by simp) ?_
  unfold fewM
  simp only [Memos.c,List.map_cons,List.map_nil,Int.ofNat_zero,Int.cast_ofNat_Int] at hw
  have hlen:∀h s,lenV h s (.g (MemoL.g ml))=some ml.l.length:=fun h s=>lenV_Sl ..
  have hlen2:∀h s,lenV h s (.g (Floors.g mo))=some mo.l.length:=fun h s=>lenV_Sl ..
  generalize hg1:MemoL.g ml=G1 at hw hlen
  generalize hg2:Floors.g mo=G2 at hw hlen2
  by_cases c1:ml.l.length≤40
  ·have c1I:¬(40:Int)<(ml.l.length:Int):=by omega
   by_cases c2:mo.l.length≤20
   ·have c2I:¬(20:Int)<(mo.l.length:Int):=by omega
    cases hs:allP fewR ml.l <;> rw [hs] at hw <;> simp only [Bool.false_eq_true,if_true,if_false] at hw
    ·simp -implicitDefEqProofs [A,Memos.c,hg1,hg2,hlen,hlen2,hw,c1,c2,c1I,c2I]
    ·simp -implicitDefEqProofs [A,Memos.c,hg1,hg2,hlen,hlen2,hw,c1,c2,c1I,c2I]
   ·have c2I:(20:Int)<(mo.l.length:Int):=by omega
    simp -implicitDefEqProofs [A,Memos.c,hg1,hg2,hlen,hlen2,c1,c2,c1I,c2I]
  ·have c1I:(40:Int)<(ml.l.length:Int):=by omega
   simp -implicitDefEqProofs [A,Memos.c,hg1,hg2,hlen,c1,c1I]
 ·have e2:=wrap_succ hk w2
  have hxw:=w1 x (List.mem_of_getElem? hx)
  obtain ⟨_,_,r1,r2,r3,r4,r5,r6,⟨_,r7⟩,⟨_,r8⟩⟩:=hxw
  have f1:=fun H=>Few_ev x.rep.kvs r7 40 H
  have f2:=fun H=>FewEvents_ev x.rep.events r8 40 H
  delta L33_0
  unfold fewR
  generalize (decide ((x.rep.kvs.l.length:Int)≤40)&&allP shortKV x.rep.kvs.l)=b1 at f1 ⊢
  generalize (decide ((x.rep.events.l.length:Int)≤40)&&allP shortEv x.rep.events.l)=b2 at f2 ⊢
  cases ml with
  | nil=>simp at hk
  | of l =>
   simp only [Sl.l_of] at hk hy
   obtain ⟨xw,xs,x1,x2,x3,x4,x5,x6,x7,x8,x9⟩:=x
   simp only at f1 f2
   generalize hgk:KVs.g x8=GK at f1
   generalize hge:Evs.g x9=GE at f2
   cases b1
   ·simp -implicitDefEqProofs [hk,hy,Memos.c,Memo.c,hgk,hge,f1]
   ·cases b2
    ·simp -implicitDefEqProofs [hk,hy,Memos.c,Memo.c,hgk,hge,f1,f2]
    ·simp -implicitDefEqProofs [hk,hy,Memos.c,Memo.c,hgk,hge,f1,f2,e2]
theorem fewM_small {m:Memos} (h:fewM m=true):m.l.l.length≤40∧m.old.l.length≤20:=by
 unfold fewM at h
 simp only [Bool.and_eq_true,decide_eq_true_eq] at h
 exact ⟨h.1.1,h.1.2⟩
theorem sameRep_self (r:Reply):sameRep r r:=⟨rfl,rfl,rfl,rfl,rfl,rfl,rfl,rfl,rfl⟩
theorem AlikeS_ev (r:Reply) (wr:r.wf) (H:List Blk):EvF tab 23 [A r.c,A r.c] H=some ⟨B true,[],[]⟩:=Alike_ev r r (sameRep_self r) wr.2.2.2.2.2.2.1.2 wr.2.2.2.2.2.2.2.2 H
theorem SameM_ev (a b:Memos) (h1:a.l.l=b.l.l) (h2:a.old.l=b.old.l) (wf:b.wf) (H:List Blk):EvF tab 40 [A a.c,A b.c] H=some ⟨B true,[],[]⟩:=by
 obtain ⟨al,ao⟩:=a
 obtain ⟨bl,bo⟩:=b
 obtain ⟨⟨w1,w2⟩,⟨w3,w4⟩⟩:=wf
 simp only at h1 h2 w1 w2 w3 w4
 have hw:loopE (EvF tab) H L40_0 [2,3,5] ⟨[(2,.ptr H.length 0),(3,.ptr (H.length+1) 0),(5,I 0)],[],[.cells ((Memos.c ⟨al,ao⟩).map .g),.cells ((Memos.c ⟨bl,bo⟩).map .g)]⟩ =
   some (.exit 0,⟨[(2,.ptr H.length 0),(3,.ptr (H.length+1) 0),(5,I bl.l.length),(27,B false)],[],[.cells ((Memos.c ⟨al,ao⟩).map .g),.cells ((Memos.c ⟨bl,bo⟩).map .g)]⟩):=by
  refine loop_cnt bl.l.length (fun k=>⟨[(2,.ptr H.length 0),(3,.ptr (H.length+1) 0),(5,I k)],[],_⟩) _ (by simp) (fun k hk => ?_) ?_
  ·delta L40_0
   have e2:=wrap_succ hk w2
   have hal:=fun (hk:k<bl.l.length) H=>AlikeS_ev bl.l[k].rep (w1 bl.l[k] (List.getElem_mem hk)).2.2 H
   rcases Sl.both h1 with ⟨l,⟨rfl,rfl⟩ | ⟨rfl,rfl,rfl⟩ | ⟨rfl,rfl,rfl⟩ | ⟨rfl,rfl,rfl⟩⟩
   ·simp only [Sl.l_of] at hk hal
    have hal:=hal hk
    obtain ⟨x,hx⟩:∃x,l[k]=x:=⟨_,rfl⟩
    rw [hx] at hal
    obtain ⟨xw,xs,x1,x2,x3,x4,x5,x6,x7,x8,x9⟩:=x
    simp only [A,Reply.c,List.map_cons,List.map_nil] at hal
    simp -implicitDefEqProofs [hk,hx,Memos.c,Memo.c,e2,hal]
   all_goals simp at hk
  ·delta L40_0
   rcases Sl.both h1 with ⟨l,⟨rfl,rfl⟩ | ⟨rfl,rfl,rfl⟩ | ⟨rfl,rfl,rfl⟩ | ⟨rfl,rfl,rfl⟩⟩ <;> simp -implicitDefEqProofs [Memos.c]
 have hw2:loopE (EvF tab) H L40_1 [2,3,6] ⟨[(2,.ptr H.length 0),(3,.ptr (H.length+1) 0),(6,I 0)],[],[.cells ((Memos.c ⟨al,ao⟩).map .g),.cells ((Memos.c ⟨bl,bo⟩).map .g)]⟩ =
   some (.exit 2,⟨[(2,.ptr H.length 0),(3,.ptr (H.length+1) 0),(6,I bo.l.length),(78,B false)],[],[.cells ((Memos.c ⟨al,ao⟩).map .g),.cells ((Memos.c ⟨bl,bo⟩).map .g)]⟩):=by
  refine loop_cnt bo.l.length (fun k=>⟨[(2,.ptr H.length 0),(3,.ptr (H.length+1) 0),(6,I k)],[],_⟩) _ (by simp) (fun k hk => ?_) ?_
  ·delta L40_1
   have e2:=wrap_succ hk w4
   rcases Sl.both h2 with ⟨l,⟨rfl,rfl⟩ | ⟨rfl,rfl,rfl⟩ | ⟨rfl,rfl,rfl⟩ | ⟨rfl,rfl,rfl⟩⟩
   ·simp only [Sl.l_of] at hk
    obtain ⟨x,hx⟩:∃x,l[k]=x:=⟨_,rfl⟩
    simp -implicitDefEqProofs [hk,hx,Memos.c,Floor.c,e2]
   all_goals simp at hk
  ·delta L40_1
   rcases Sl.both h2 with ⟨l,⟨rfl,rfl⟩ | ⟨rfl,rfl,rfl⟩ | ⟨rfl,rfl,rfl⟩ | ⟨rfl,rfl,rfl⟩⟩ <;> simp -implicitDefEqProofs [Memos.c]
 have l1:∀h s,lenV h s (.g (MemoL.g al))=some bl.l.length:=fun h s=>by rw [lenV_Sl,h1]
 have l2:∀h s,lenV h s (.g (MemoL.g bl))=some bl.l.length:=fun h s=>lenV_Sl ..
 have l3:∀h s,lenV h s (.g (Floors.g ao))=some bo.l.length:=fun h s=>by rw [lenV_Sl,h2]
 have l4:∀h s,lenV h s (.g (Floors.g bo))=some bo.l.length:=fun h s=>lenV_Sl ..
 refine EvF_walk t40 (by simp) ?_
 simp only [A,Memos.c,List.map_cons,List.map_nil] at hw hw2 ⊢
 generalize MemoL.g al=G1 at hw hw2 l1 ⊢
 generalize MemoL.g bl=G2 at hw hw2 l2 ⊢
 generalize Floors.g ao=G3 at hw hw2 l3 ⊢
 generalize Floors.g bo=G4 at hw hw2 l4 ⊢
 simp -implicitDefEqProofs [hw,hw2,l1,l2,l3,l4]
end Go.Proofs.YtndfdnlbljhlgaaGreat
end
section
namespace Go.Proofs.YtndfdnlbljhlgaaGreat
open Go Go.AM Go.Proofs
set_option maxRecDepth 20000
set_option maxHeartbeats 2000000
set_option linter.unusedSimpArgs false
set_option linter.unusedVariables false
def cmpI (a b:Int):Int:=if a<b then -1 else if b<a then 1 else 0
def cmpS (a b:Bs):Int:=if Op.bytesLess a b=true then -1 else if Op.bytesLess b a=true then 1 else 0
theorem nanI_ev (a:Int) (H:List Blk):EvF tab 224 [I a] H=some ⟨B false,[],[]⟩:=by
 refine EvF_walk t224 (by simp) ?_
 simp -implicitDefEqProofs
theorem nanS_ev (a:Bs) (H:List Blk):EvF tab 232 [T a] H=some ⟨B false,[],[]⟩:=by
 refine EvF_walk t232 (by simp) ?_
 simp -implicitDefEqProofs
theorem cmpI_ev (a b:Int) (H:List Blk):EvF tab 230 [I a,I b] H=some ⟨I (cmpI a b),[],[]⟩:=by
 refine EvF_walk t230 (by simp) ?_
 unfold cmpI
 by_cases h1:a<b
 ·simp -implicitDefEqProofs [nanI_ev,h1]
 ·by_cases h2:b<a <;> simp -implicitDefEqProofs [nanI_ev,h1,h2]
theorem cmpS_ev (a b:Bs) (H:List Blk):EvF tab 231 [T a,T b] H=some ⟨I (cmpS a b),[],[]⟩:=by
 refine EvF_walk t231 (by simp) ?_
 unfold cmpS
 rcases bl_tri a b with h | h | h
 ·simp -implicitDefEqProofs [nanS_ev,h]
 ·subst h
  simp -implicitDefEqProofs [nanS_ev,bl_irrefl]
 ·simp -implicitDefEqProofs [nanS_ev,h,bl_asymm h,(bl_ne h).symm]
def qArg (c:Cmp) (x:KV):AV := .agg ((c.c++x.c).map .g)
theorem qCreate_ev (c:Cmp) (x:KV) (H:List Blk):EvF tab 225 [qArg c x] H=some ⟨I (cmpI x.create c.n),[],[]⟩:=by
 refine EvF_walk t225 (by simp) ?_
 simp -implicitDefEqProofs [qArg,Cmp.c,KV.c,cmpI_ev]
theorem qMod_ev (c:Cmp) (x:KV) (H:List Blk):EvF tab 226 [qArg c x] H=some ⟨I (cmpI x.mod c.n),[],[]⟩:=by
 refine EvF_walk t226 (by simp) ?_
 simp -implicitDefEqProofs [qArg,Cmp.c,KV.c,cmpI_ev]
theorem qVersion_ev (c:Cmp) (x:KV) (H:List Blk):EvF tab 227 [qArg c x] H=some ⟨I (cmpI x.version c.n),[],[]⟩:=by
 refine EvF_walk t227 (by simp) ?_
 simp -implicitDefEqProofs [qArg,Cmp.c,KV.c,cmpI_ev]
theorem qValue_ev (c:Cmp) (x:KV) (H:List Blk):EvF tab 228 [qArg c x] H=some ⟨I (cmpS x.value c.value),[],[]⟩:=by
 refine EvF_walk t228 (by simp) ?_
 simp -implicitDefEqProofs [qArg,Cmp.c,KV.c,cmpS_ev]
def askOk (c:Cmp):Bool:=decide (1≤c.what)&&(decide (c.what≤4)&&(decide (1≤c.how)&&decide (c.how≤3)))
theorem tmay_ev (c:Cmp) (H:List Blk):EvF tab 186 [A c.c] H=some ⟨B (askOk c),[],[]⟩:=by
 refine EvF_walk t186 (by simp) ?_
 unfold askOk
 obtain ⟨k,w,h,n,v⟩:=c
 simp only
 by_cases h1:1≤w
 ·by_cases h2:w≤4
  ·by_cases h3:1≤h
   ·by_cases h4:h≤3 <;> simp -implicitDefEqProofs [A,Cmp.c,h1,h2,h3,h4]
   ·simp -implicitDefEqProofs [A,Cmp.c,h1,h2,h3]
  ·simp -implicitDefEqProofs [A,Cmp.c,h1,h2]
 ·simp -implicitDefEqProofs [A,Cmp.c,h1]
def numP (how a b:Int):Bool:=(decide (how=1)&&decide (a=b))||((decide (how=2)&&decide (a<b))||(decide (how=3)&&decide (b<a)))
def strP (how:Int) (a b:Bs):Bool:=(decide (how=1)&&a==b)||((decide (how=2)&&Op.bytesLess a b)||(decide (how=3)&&Op.bytesLess b a))
def holdsP (l:List KV) (c:Cmp):Bool :=
 if c.what=1 then numP c.how (findX l c.key).create c.n else if c.what=2 then numP c.how (findX l c.key).mod c.n else
 if c.what=3 then numP c.how (findX l c.key).version c.n else if c.what=4 then strP c.how (findX l c.key).value c.value else false
theorem ways_ev (H:List Blk):EvF tab 218 [] H=some ⟨.agg [.g .nfn,.g (.fn 225),.g (.fn 226),.g (.fn 227),.g (.fn 228)],[],[.cells [.g .nfn,.g (.fn 225),.g (.fn 226),.g (.fn 227),.g (.fn 228)]]⟩:=by
 refine EvF_walk t218 (by simp) ?_
 simp -implicitDefEqProofs
theorem cmpI_num {a b:Int}:(cmpI a b==0)=decide (a=b)∧(cmpI a b == -1)=decide (a<b)∧(cmpI a b==1)=decide (b<a):=by
 unfold cmpI
 by_cases h1:a<b
 ·rw [if_pos h1];exact ⟨by simp;omega,by simp [h1],by simp;omega⟩
 ·rw [if_neg h1]
  by_cases h2:b<a
  ·rw [if_pos h2];exact ⟨by simp;omega,by simp;omega,by simp [h2]⟩
  ·rw [if_neg h2];exact ⟨by simp;omega,by simp;omega,by simp;omega⟩
theorem cmpS_num {a b:Bs}:(cmpS a b==0)=(a==b)∧(cmpS a b == -1)=Op.bytesLess a b∧(cmpS a b==1)=Op.bytesLess b a:=by
 unfold cmpS
 rcases bl_tri a b with h | h | h
 ·simp [h,bl_asymm h,bl_ne h]
 ·subst h;simp [bl_irrefl]
 ·simp [h,bl_asymm h,(bl_ne h).symm]
theorem Holds_ev (s:Sl KV) (c:Cmp) (hl:s.l.length≤9223372036854775807) (H:List Blk):EvF tab 203 [.g (KVs.g s),A c.c] H=some ⟨B (askOk c&&holdsP s.l c),[],[]⟩:=by
 have h1:=fun H=>Find_ev s c.key hl H
 have h2:=fun H=>tmay_ev c H
 refine EvF_walk t203 (by simp) ?_
 unfold holdsP
 generalize findX s.l c.key=x at h1 ⊢
 generalize findB s.l c.key=b at h1
 have q1:=fun H=>qCreate_ev c x H
 have q2:=fun H=>qMod_ev c x H
 have q3:=fun H=>qVersion_ev c x H
 have q4:=fun H=>qValue_ev c x H
 obtain ⟨x1,x2,x3,x4,x5,x6⟩:=x
 cases ho:askOk c
 ·rw [ho] at h2
  obtain ⟨k,w,h,n,v⟩:=c
  simp only [A,KV.c,Cmp.c,qArg,List.cons_append,List.nil_append,List.map_cons,List.map_nil] at h1 h2 ⊢
  simp -implicitDefEqProofs [h2]
 ·rw [ho] at h2
  unfold askOk at ho
  simp only [Bool.and_eq_true,decide_eq_true_eq] at ho
  obtain ⟨k,w,h,n,v⟩:=c
  simp only [A,KV.c,Cmp.c,qArg,List.cons_append,List.nil_append,List.map_cons,List.map_nil] at h1 h2 q1 q2 q3 q4 ho ⊢
  have hw:w=1∨w=2∨w=3∨w=4:=by omega
  have hh:h=1∨h=2∨h=3:=by omega
  obtain ⟨n1,n2,n3⟩:=cmpI_num (a:=x3) (b:=n)
  obtain ⟨n4,n5,n6⟩:=cmpI_num (a:=x4) (b:=n)
  obtain ⟨n7,n8,n9⟩:=cmpI_num (a:=x5) (b:=n)
  obtain ⟨s1,s2,s3⟩:=cmpS_num (a:=x2) (b:=v)
  rcases hw with rfl | rfl | rfl | rfl <;> rcases hh with rfl | rfl | rfl <;> simp -implicitDefEqProofs [zres,h1,h2,ways_ev,q1,q2,q3,q4,numP,strP,n1,n2,n3,n4,n5,n6,n7,n8,n9,s1,s2,s3]
end Go.Proofs.YtndfdnlbljhlgaaGreat
end
section
namespace Go.Proofs.YtndfdnlbljhlgaaGreat
open Go Go.AM Go.Proofs
set_option linter.unusedSimpArgs false
set_option linter.unusedVariables false
set_option linter.defProp false
def getK:List KV→Bs→Option KV
 | [],_=>none
 | y::l,k=>if y.key=k then some y else getK l k
def Srt (l:List KV):Prop:=l.Pairwise fun a b=>Op.bytesLess a.key b.key=true
theorem getK_some {k:Bs} {x:KV}:∀{l:List KV},getK l k=some x→x∈l∧x.key=k
 | [],h=>by simp [getK] at h
 | y::l,h=>by
  unfold getK at h
  split at h
  ·rename_i hk;cases h;exact ⟨List.mem_cons_self,hk⟩
  ·obtain ⟨h1,h2⟩:=getK_some h;exact ⟨List.mem_cons_of_mem _ h1,h2⟩
theorem getK_no {k:Bs}:∀{l:List KV},(∀x∈l,x.key ≠ k)→getK l k=none
 | [],_=>rfl
 | y::l,h=>by
  unfold getK
  rw [if_neg (h y List.mem_cons_self)]
  exact getK_no fun x hx=>h x (List.mem_cons_of_mem _ hx)
theorem findN_get (k:Bs):∀(l:List KV) i,match findN k i l with | some j=>i≤j∧∃x,l[j - i]? = some x∧getK l k=some x | none=>getK l k=none
 | [],i=>rfl
 | y::l,i=>by
  unfold findN getK
  by_cases h:y.key=k
  ·simp [h]
  ·simp only [if_neg h]
   have:=findN_get k l (i+1)
   split at this
   ·rename_i j hj
    obtain ⟨h1,x,h2,h3⟩:=this
    refine ⟨by omega,x,?_,h3⟩
    rw [show j - i=(j - (i+1))+1 by omega,List.getElem?_cons_succ];exact h2
   ·exact this
theorem findB_get (l:List KV) (k:Bs):findB l k=(getK l k).isSome:=by
 have:=findN_get k l 0
 unfold findB
 split at this
 ·rename_i j hj
  obtain ⟨-,x,-,h⟩:=this
  rw [hj,h];rfl
 ·rename_i hj
  rw [hj,this];rfl
theorem findX_get (l:List KV) (k:Bs):findX l k=(getK l k).getD kv0:=by
 have:=findN_get k l 0
 unfold findX
 split at this
 ·rename_i j hj
  obtain ⟨-,x,h1,h⟩:=this
  rw [Nat.sub_zero] at h1
  rw [hj,h];simp only [h1]
 ·rename_i hj
  rw [hj,this];rfl
theorem Srt.cons {y:KV} {l:List KV}:Srt (y::l)↔(∀x∈l,Op.bytesLess y.key x.key=true)∧Srt l:=List.pairwise_cons
theorem layP_lt {x:KV} {y:KV} {l:List KV} (h1:∀z∈l,Op.bytesLess y.key z.key=true) (h:Op.bytesLess y.key x.key=true):∀z∈layP l x,Op.bytesLess y.key z.key=true:=by
 intro z hz
 rcases mem_layP hz with hz | rfl
 ·exact h1 z hz
 ·exact h
theorem layP_srt (x:KV):∀{l:List KV},Srt l→Srt (layP l x)
 | [],_=>List.pairwise_singleton _ _
 | y::l,hs=>by
  obtain ⟨h1,h2⟩:=Srt.cons.1 hs
  unfold layP
  split
  ·rename_i h
   exact Srt.cons.2 ⟨layP_lt h1 h,layP_srt x h2⟩
  ·rename_i h
   split
   ·rename_i hk
    exact Srt.cons.2 ⟨fun z hz=>by rw [←hk];exact h1 z hz,h2⟩
   ·rename_i hk
    have hlt:Op.bytesLess x.key y.key=true:=by
     rcases bl_tri y.key x.key with h3 | h3 | h3
     ·exact absurd h3 h
     ·exact absurd h3 hk
     ·exact h3
    refine Srt.cons.2 ⟨fun z hz => ?_,hs⟩
    rcases List.mem_cons.1 hz with rfl | hz
    ·exact hlt
    ·exact bl_trans _ _ _ hlt (h1 z hz)
theorem layP_get (x:KV) (k:Bs):∀{l:List KV},Srt l→getK (layP l x) k=if k=x.key then some x else getK l k
 | [],_=>by
  unfold layP getK getK
  by_cases h:k=x.key
  ·rw [if_pos h,if_pos h.symm]
  ·rw [if_neg h,if_neg (fun e=>h e.symm)]
 | y::l,hs=>by
  obtain ⟨h1,h2⟩:=Srt.cons.1 hs
  unfold layP
  split
  ·rename_i h
   unfold getK
   rw [layP_get x k h2]
   by_cases hy:y.key=k
   ·rw [if_pos hy,if_pos hy,if_neg (fun e=>bl_ne h (hy.trans e))]
   ·rw [if_neg hy,if_neg hy]
  ·rename_i h
   split
   ·rename_i hk
    unfold getK
    by_cases hx:k=x.key
    ·rw [if_pos hx,if_pos hx.symm]
    ·rw [if_neg hx,if_neg (fun e=>hx e.symm),if_neg (fun e=>hx (e.symm.trans hk))]
   ·rename_i hk
    rw [show getK (x::y::l) k=if x.key=k then some x else getK (y::l) k from rfl]
    by_cases hx:k=x.key
    ·rw [if_pos hx,if_pos hx.symm]
    ·rw [if_neg hx,if_neg (fun e=>hx e.symm)]
theorem takeP_sub (k:Bs):∀(l:List KV),(takeP l k).Sublist l
 | []=>List.Sublist.slnil
 | y::l=>by
  unfold takeP
  split
  ·exact List.sublist_cons_self _ _
  ·exact (takeP_sub k l).cons_cons _
theorem takeP_srt (k:Bs) {l:List KV} (h:Srt l):Srt (takeP l k):=List.Pairwise.sublist (takeP_sub k l) h
theorem takeP_get (k' k:Bs):∀{l:List KV},Srt l→getK (takeP l k') k=if k=k' then none else getK l k
 | [],_=>by unfold takeP getK;split <;> rfl
 | y::l,hs=>by
  obtain ⟨h1,h2⟩:=Srt.cons.1 hs
  unfold takeP
  split
  ·rename_i hk
   by_cases h:k=k'
   ·rw [if_pos h,h,←hk]
    exact getK_no fun x hx=>(bl_ne (h1 x hx)).symm
   ·rw [if_neg h]
    rw [show getK (y::l) k=if y.key=k then some y else getK l k from rfl,if_neg (fun e=>h (e.symm.trans hk))]
  ·rename_i hk
   rw [show getK (y::takeP l k') k=if y.key=k then some y else getK (takeP l k') k from rfl,takeP_get k' k h2]
   rw [show getK (y::l) k=if y.key=k then some y else getK l k from rfl]
   by_cases h:k=k'
   ·rw [if_pos h,if_pos h,if_neg (fun e=>hk (e.trans h))]
   ·rw [if_neg h,if_neg h]
theorem oneOk_key {x:KV} (h:oneOk x=true):1≤x.key.length:=by
 simp only [oneOk,keyOk,Bool.and_eq_true,decide_eq_true_eq] at h
 exact h.1.1.1
theorem mayG_iff:∀(l:List KV) (last:Bs),mayG last l=true↔(∀x∈l,oneOk x=true∧Op.bytesLess last x.key=true)∧Srt l
 | [],last=>by simp [mayG,Srt]
 | x::l,last=>by
  unfold mayG
  rw [Bool.and_eq_true,Bool.and_eq_true,mayG_iff l x.key,Srt.cons]
  constructor
  ·rintro ⟨⟨h1,h2⟩,h3,h4⟩
   refine ⟨fun z hz => ?_,fun z hz=>(h3 z hz).2,h4⟩
   rcases List.mem_cons.1 hz with rfl | hz
   ·exact ⟨h1,h2⟩
   ·exact ⟨(h3 z hz).1,bl_trans _ _ _ h2 (h3 z hz).2⟩
  ·rintro ⟨h1,h2,h3⟩
   exact ⟨h1 x List.mem_cons_self,fun z hz=>⟨(h1 z (List.mem_cons_of_mem _ hz)).1,h2 z hz⟩,h3⟩
theorem mayL_iff (l:List KV):mayL l=true↔(∀x∈l,oneOk x=true)∧Srt l:=by
 unfold mayL
 rw [mayG_iff]
 constructor
 ·rintro ⟨h1,h2⟩;exact ⟨fun x hx=>(h1 x hx).1,h2⟩
 ·rintro ⟨h1,h2⟩
  refine ⟨fun x hx=>⟨h1 x hx,?_⟩,h2⟩
  have:=oneOk_key (h1 x hx)
  cases hq:x.key with
  | nil=>rw [hq] at this;simp at this
  | cons a b=>rfl
def actP (l:List KV) (e:Ev):List KV:=if e.gone=true then takeP l e.kv.key else layP l e.kv
theorem stepP_le {rev:Int} {l:List KV} {e:Ev} (h:e.rev≤rev):stepP rev l e=actP l e:=by unfold stepP actP;rw [if_neg (by omega)]
theorem stepP_gt {rev:Int} {l:List KV} {e:Ev} (h:rev<e.rev):stepP rev l e=l:=by unfold stepP;rw [if_pos h]
theorem foldP_le {rev:Int}:∀{a:List Ev} {l:List KV},(∀e∈a,e.rev≤rev)→foldP l a rev=a.foldl actP l
 | [],l,_=>rfl
 | e::a,l,h=>by
  have:=foldP_le (a:=a) (l:=actP l e) (rev:=rev) fun x hx=>h x (List.mem_cons_of_mem _ hx)
  unfold foldP at this ⊢
  rw [List.foldl_cons,List.foldl_cons,stepP_le (h e List.mem_cons_self)];exact this
theorem foldP_gt {rev:Int}:∀{a:List Ev} {l:List KV},(∀e∈a,rev<e.rev)→foldP l a rev=l
 | [],l,_=>rfl
 | e::a,l,h=>by
  have:=foldP_gt (a:=a) (l:=l) (rev:=rev) fun x hx=>h x (List.mem_cons_of_mem _ hx)
  unfold foldP at this ⊢
  rw [List.foldl_cons,stepP_gt (h e List.mem_cons_self)];exact this
theorem foldP_app (l:List KV) (a b:List Ev) (rev:Int):foldP l (a++b) rev=foldP (foldP l a rev) b rev:=List.foldl_append
theorem actP_srt (e:Ev) {l:List KV} (h:Srt l):Srt (actP l e):=by
 unfold actP;split
 ·exact takeP_srt _ h
 ·exact layP_srt _ h
theorem actP_get (e:Ev) (k:Bs) {l:List KV} (h:Srt l):getK (actP l e) k=if k=e.kv.key then (if e.gone=true then none else some e.kv) else getK l k:=by
 unfold actP;split
 ·rw [takeP_get _ _ h]
 ·rw [layP_get _ _ h]
theorem mem_actP {l:List KV} {e:Ev} {y:KV} (h:y∈actP l e):y∈l∨(e.gone=false∧y=e.kv):=by
 unfold actP at h
 split at h
 ·exact .inl (mem_takeP h)
 ·rename_i hg
  rcases mem_layP h with h | h
  ·exact .inl h
  ·exact .inr ⟨Bool.eq_false_iff.2 hg,h⟩
end Go.Proofs.YtndfdnlbljhlgaaGreat
end
section
namespace Go.Proofs.YtndfdnlbljhlgaaGreat
open Go Go.AM Go.Proofs
set_option linter.unusedSimpArgs false
set_option linter.unusedVariables false
set_option linter.defProp false
theorem oneOk_iff {x:KV}:oneOk x=true↔keyOk x.key=true∧x.value.length≤20∧(1≤x.create∧x.create≤1099511627775)∧(x.create≤x.mod∧x.mod≤1099511627775)∧1≤x.version∧x.version≤x.mod - x.create+1∧(0≤x.lease∧x.lease≤1099511627775):=by
 unfold oneOk numL
 simp only [Bool.and_eq_true,decide_eq_true_eq]
structure GoodK (l:List KV) (b:Int):Prop where
 one:∀x∈l,oneOk x=true∧x.mod≤b
 srt:Srt l
theorem logOk_cons {srev last:Int} {l:List KV} {e:Ev} {log:List Ev}:logOk srev l last (e::log)=true↔last≤e.rev∧e.rev≤srev∧rightP l e=true∧(actP l e).length≤30∧logOk srev (actP l e) e.rev log=true:=by
 rw [show logOk srev l last (e::log)=(okE srev l last e&&logOk srev (stepP e.rev l e) e.rev log) from rfl,stepP_le (Int.le_refl _)]
 unfold okE
 rw [stepP_le (Int.le_refl _)]
 simp only [Bool.and_eq_true,Bool.not_eq_true',Bool.or_eq_false_iff,decide_eq_false_iff_not,decide_eq_true_eq]
 constructor
 ·rintro ⟨⟨⟨⟨h1,h2⟩,h3⟩,h4⟩,h5⟩;exact ⟨by omega,by omega,h3,h4,h5⟩
 ·rintro ⟨h1,h2,h3,h4,h5⟩;exact ⟨⟨⟨⟨by omega,by omega⟩,h3⟩,h4⟩,h5⟩
theorem nextP_mod (l:List KV) (m:Mut) (rev:Int):(nextP l m rev).mod=rev:=by unfold nextP;split <;> rfl
theorem right_good {l:List KV} {b:Int} {e:Ev} (hg:GoodK l b) (hb:b≤e.rev) (hr:rightP l e=true):GoodK (actP l e) e.rev:=by
 refine ⟨fun y hy => ?_,actP_srt e hg.srt⟩
 rcases mem_actP hy with hy | ⟨hn,rfl⟩
 ·exact ⟨(hg.one y hy).1,by have:=(hg.one y hy).2;omega⟩
 ·unfold rightP at hr
  rw [if_neg (by rw [hn];exact Bool.false_ne_true)] at hr
  rw [Bool.and_eq_true,kvEq_iff] at hr
  refine ⟨hr.2,?_⟩
  have:=congrArg KV.mod hr.1
  rw [nextP_mod] at this
  omega
theorem logOk_good {srev:Int}:∀{log:List Ev} {l:List KV} {last b:Int},GoodK l b→b≤last→logOk srev l last log=true→∀B,b≤B→(∀e∈log,e.rev≤B)→GoodK (log.foldl actP l) B
 | [],l,last,b,hg,_,_,B,hB,_=>⟨fun x hx=>⟨(hg.one x hx).1,by have:=(hg.one x hx).2;omega⟩,hg.srt⟩
 | e::log,l,last,b,hg,hb,h,B,hB,hE=>by
  obtain ⟨h1,h2,h3,h4,h5⟩:=logOk_cons.1 h
  rw [List.foldl_cons]
  exact logOk_good (right_good hg (by omega) h3) (Int.le_refl _) h5 B (hE e List.mem_cons_self) fun x hx=>hE x (List.mem_cons_of_mem _ hx)
theorem logOk_all {srev:Int}:∀{log:List Ev} {l:List KV} {last:Int},logOk srev l last log=true→∀e∈log,last≤e.rev∧e.rev≤srev
 | [],_,_,_,e,he=>by cases he
 | e::log,l,last,h,x,hx=>by
  obtain ⟨h1,h2,h3,h4,h5⟩:=logOk_cons.1 h
  rcases List.mem_cons.1 hx with rfl | hx
  ·exact ⟨h1,h2⟩
  ·have:=logOk_all h5 x hx;exact ⟨by omega,this.2⟩
theorem logOk_len {srev:Int}:∀{log:List Ev} {l:List KV} {last:Int},l.length≤30→logOk srev l last log=true→(log.foldl actP l).length≤30
 | [],_,_,hl,_=>hl
 | e::log,l,last,hl,h=>by
  obtain ⟨h1,h2,h3,h4,h5⟩:=logOk_cons.1 h
  rw [List.foldl_cons];exact logOk_len h4 h5
theorem logOk_last {srev last last':Int} {l:List KV} {log:List Ev} (h:logOk srev l last log=true) (h':∀e∈log,last'≤e.rev):logOk srev l last' log=true:=by
 cases log with
 | nil=>rfl
 | cons e log =>
  obtain ⟨h1,h2⟩:=logOk_cons.1 h
  exact logOk_cons.2 ⟨h' e List.mem_cons_self,h2⟩
theorem logOk_srev {srev srev':Int} (hs:srev≤srev'):∀{log:List Ev} {l:List KV} {last:Int},logOk srev l last log=true→logOk srev' l last log=true
 | [],_,_,_=>rfl
 | e::log,l,last,h=>by
  obtain ⟨h1,h2,h3,h4,h5⟩:=logOk_cons.1 h
  exact logOk_cons.2 ⟨h1,by omega,h3,h4,logOk_srev hs h5⟩
theorem logOk_app {srev:Int}:∀{a b:List Ev} {l:List KV} {last:Int},logOk srev l last (a++b)=true→logOk srev l last a=true∧∃last',logOk srev (a.foldl actP l) last' b=true
 | [],b,l,last,h=>⟨rfl,last,h⟩
 | e::a,b,l,last,h=>by
  obtain ⟨h1,h2,h3,h4,h5⟩:=logOk_cons.1 h
  obtain ⟨k1,k2⟩:=logOk_app h5
  exact ⟨logOk_cons.2 ⟨h1,h2,h3,h4,k1⟩,k2⟩
theorem logOk_join {srev:Int} {b:List Ev}:∀{a:List Ev} {l:List KV} {last:Int},logOk srev l last a=true→(∀last':Int,(∀e∈a,e.rev≤srev)→last'≤srev→logOk srev (a.foldl actP l) last' b=true)→last≤srev→logOk srev l last (a++b)=true
 | [],l,last,_,hb,hl=>hb last (fun _ h=>by cases h) hl
 | e::a,l,last,h,hb,hl=>by
  obtain ⟨h1,h2,h3,h4,h5⟩:=logOk_cons.1 h
  exact logOk_cons.2 ⟨h1,h2,h3,h4,logOk_join h5 (fun last' ha hl'=>hb last' (fun x hx=>by rcases List.mem_cons.1 hx with rfl | hx;exact h2;exact ha x hx) hl') h2⟩
theorem logOk_split {srev:Int} (to:Int):∀{log:List Ev} {l:List KV} {last:Int},logOk srev l last log=true→∃a b,log=a++b∧(∀e∈a,e.rev≤to)∧(∀e∈b,to<e.rev)
 | [],_,_,_=>⟨[],[],rfl,(fun _ h=>nomatch h),(fun _ h=>nomatch h)⟩
 | e::log,l,last,h=>by
  obtain ⟨h1,h2,h3,h4,h5⟩:=logOk_cons.1 h
  by_cases ht:e.rev≤to
  ·obtain ⟨a,b,k1,k2,k3⟩:=logOk_split to h5
   exact ⟨e::a,b,by rw [k1];rfl,fun x hx=>by rcases List.mem_cons.1 hx with rfl | hx;exact ht;exact k2 x hx,k3⟩
  ·refine ⟨[],e::log,rfl,(fun _ h=>nomatch h),fun x hx => ?_⟩
   rcases List.mem_cons.1 hx with rfl | hx
   ·omega
   ·have:=(logOk_all h5 x hx).1;omega
structure SOk (s:Store):Prop where
 low0:0≤s.low
 lowr:s.low≤s.rev
 revM:s.rev≤1099511627774
 bl:s.base.l.length≤30
 ll:s.log.l.length≤60
 good:GoodK s.base.l s.low
 log:logOk s.rev s.base.l (s.low+1) s.log.l=true
theorem storeOk_iff {s:Store}:storeOk s=true↔SOk s:=by
 unfold storeOk headOk baseOk
 simp only [Bool.and_eq_true,Bool.not_eq_true',Bool.or_eq_false_iff,decide_eq_false_iff_not,Bool.not_eq_false',List.any_eq_false,decide_eq_true_eq,mayL_iff]
 constructor
 ·rintro ⟨⟨h1,h2,h3,h4,h5,h6,h7⟩,h8,h9⟩
  exact ⟨by omega,by omega,by omega,by omega,by omega,⟨fun x hx=>⟨h6 x hx,by have:=h8 x hx;omega⟩,h7⟩,h9⟩
 ·rintro ⟨h1,h2,h3,h4,h5,h6,h7⟩
  exact ⟨⟨by omega,by omega,by omega,by omega,by omega,fun x hx=>(h6.one x hx).1,h6.srt⟩,fun x hx=>by have:=(h6.one x hx).2;omega,h7⟩
theorem SOk.all {s:Store} (h:SOk s):∀e∈s.log.l,s.low<e.rev∧e.rev≤s.rev:=fun e he=>by
 have:=logOk_all h.log e he;exact ⟨by omega,this.2⟩
def nowP (s:Store):List KV:=foldP s.base.l s.log.l s.rev
theorem SOk.now {s:Store} (h:SOk s):nowP s=s.log.l.foldl actP s.base.l:=foldP_le fun e he=>(h.all e he).2
theorem SOk.nowGood {s:Store} (h:SOk s):GoodK (nowP s) s.rev:=by
 rw [h.now]
 exact logOk_good h.good (by omega) h.log s.rev (by have:=h.lowr;omega) fun e he=>(h.all e he).2
theorem SOk.nowLen {s:Store} (h:SOk s):(nowP s).length≤30:=by rw [h.now];exact logOk_len h.bl h.log
def nextK (o:Option KV) (m:Mut) (rev:Int):KV :=
 match o with
 | some x=>⟨m.key,m.value,x.create,rev,IntKind.i64.wrap (x.version+1),m.lease⟩
 | none=>⟨m.key,m.value,rev,rev,1,m.lease⟩
theorem nextP_K (l:List KV) (m:Mut) (rev:Int):nextP l m rev=nextK (getK l m.key) m rev:=by
 unfold nextP nextK
 rw [findB_get,findX_get]
 cases getK l m.key <;> rfl
def mutK:List Mut→Bs→Option Mut
 | [],_=>none
 | m::ms,k=>if m.key=k then some m else mutK ms k
def outK (rev:Int) (l:List KV) (ms:List Mut) (k:Bs):Option KV :=
 match mutK ms k with
 | none=>getK l k
 | some m=>if m.gone=true then none else some (nextK (getK l k) m rev)
def doesP (l:List KV) (m:Mut):Bool := !(m.gone&&(getK l m.key).isNone)
def actsN (l:List KV) (ms:List Mut):Nat:=(ms.filter (doesP l)).length
theorem mayMG_all:∀{ms:List Mut} {met:List Bs},mayMG met ms=true→∀x∈ms,met.contains x.key=false∧mutOkM x=true
 | [],_,_,x,hx=>by cases hx
 | m::ms,met,h,x,hx=>by
  unfold mayMG at h
  simp only [Bool.and_eq_true,Bool.not_eq_true'] at h
  rcases List.mem_cons.1 hx with rfl | hx
  ·exact h.1
  ·obtain ⟨k1,k2⟩:=mayMG_all h.2 x hx
   rw [List.contains_eq_any_beq,List.any_append,Bool.or_eq_false_iff] at k1
   rw [List.contains_eq_any_beq]
   exact ⟨k1.1,k2⟩
theorem mutK_none {k:Bs}:∀{ms:List Mut},(∀x∈ms,x.key ≠ k)→mutK ms k=none
 | [],_=>rfl
 | m::ms,h=>by unfold mutK;rw [if_neg (h m List.mem_cons_self)];exact mutK_none fun x hx=>h x (List.mem_cons_of_mem _ hx)
theorem mutOk_iff {m:Mut}:mutOkM m=true↔keyOk m.key=true∧m.value.length≤20∧0≤m.lease∧m.lease≤1099511627775:=by
 unfold mutOkM
 simp only [Bool.and_eq_true,Bool.not_eq_true',Bool.or_eq_false_iff,decide_eq_false_iff_not]
 constructor
 ·rintro ⟨h1,h2,h3,h4⟩;exact ⟨h1,by omega,by omega,by omega⟩
 ·rintro ⟨h1,h2,h3,h4⟩;exact ⟨h1,by omega,by omega,by omega⟩
structure InvM (l:List KV) (met:List Bs) (rev:Int):Prop where
 srt:Srt l
 one:∀x∈l,oneOk x=true∧x.mod≤rev∧(met.contains x.key=false→x.mod<rev)
theorem nextK_ok {l:List KV} {met:List Bs} {rev:Int} {m:Mut} (hi:InvM l met rev) (h1:1≤rev) (h2:rev≤1099511627775) (hm:met.contains m.key=false) (hok:mutOkM m=true):oneOk (nextK (getK l m.key) m rev)=true:=by
 obtain ⟨o1,o2,o3,o4⟩:=mutOk_iff.1 hok
 cases hg:getK l m.key with
 | none=>exact oneOk_iff.2 ⟨o1,o2,⟨h1,h2⟩,⟨Int.le_refl _,h2⟩,Int.le_refl _,by simp only [nextK];omega,o3,o4⟩
 | some x =>
  obtain ⟨hx,hk⟩:=getK_some hg
  obtain ⟨i1,i2,i3⟩:=hi.one x hx
  have i3:=i3 (by rw [hk];exact hm)
  obtain ⟨p1,p2,⟨p3,p4⟩,⟨p5,p6⟩,p7,p8,p9⟩:=oneOk_iff.1 i1
  have hw:IntKind.i64.wrap (x.version+1)=x.version+1:=wrap_i64 (by omega) (by omega)
  refine oneOk_iff.2 ⟨o1,o2,⟨p3,p4⟩,⟨?_,h2⟩,?_,?_,o3,o4⟩
  ·show x.create≤rev;omega
  ·show 1≤IntKind.i64.wrap (x.version+1);omega
  ·show IntKind.i64.wrap (x.version+1)≤rev - x.create+1;omega
theorem evOf_key {rev:Int} {l:List KV} {m:Mut} (h:¬(m.gone && !findB l m.key)=true):(evOf rev l m).kv.key=m.key:=by
 unfold evOf
 split
 ·rename_i hg
  rw [hg,Bool.true_and,Bool.not_eq_true',Bool.not_eq_false,findB_get] at h
  show (findX l m.key).key=m.key
  rw [findX_get]
  cases hq:getK l m.key with
  | none=>rw [hq] at h;cases h
  | some x=>exact (getK_some hq).2
 ·show (nextP l m rev).key=m.key
  unfold nextP;split <;> rfl
theorem evOf_right {rev:Int} {l:List KV} {m:Mut} (h:¬(m.gone && !findB l m.key)=true) (ho:m.gone=false→oneOk (nextP l m rev)=true):rightP l (evOf rev l m)=true:=by
 have hk:=evOf_key (rev:=rev) h
 unfold rightP
 rw [hk]
 by_cases hg:m.gone=true
 ·have e1:(evOf rev l m).gone=true:=hg
  have e2:(evOf rev l m).kv=findX l m.key:=by unfold evOf;rw [if_pos hg]
  rw [if_pos e1,e2]
  rw [hg,Bool.true_and,Bool.not_eq_true',Bool.not_eq_false] at h
  rw [h,Bool.true_and,kvEq_iff]
 ·have hg':=Bool.eq_false_iff.2 hg
  have e1:¬(evOf rev l m).gone=true:=hg
  have e2:(evOf rev l m).kv=nextP l m rev:=by unfold evOf;rw [if_neg hg]
  rw [if_neg e1,e2,ho hg',Bool.and_true,kvEq_iff]
  unfold nextP
  by_cases hb:findB l m.key=true
  ·simp only [if_pos hb];rfl
  ·simp only [if_neg hb];rfl
theorem apply_ind {rev:Int} (h1:1≤rev) (h2:rev≤1099511627775):∀(ms:List Mut) (met:List Bs) (es:List Ev) (l:List KV) (f:Bool),InvM l met rev→mayMG met ms=true →
  ∃E b,ms.foldl (evP rev) (es,l,f)=(es++E,E.foldl actP l,b)∧(∀e∈E,e.rev=rev)∧E.length=actsN l ms∧(∀k,getK (E.foldl actP l) k=outK rev l ms k)∧Srt (E.foldl actP l) ∧
   (b=false→f=false∧∀last,last≤rev→logOk rev l last E=true):=by
 intro ms
 induction ms with
 | nil=>intro met es l f hi hm;exact ⟨[],f,by simp,(fun _ h=>nomatch h),rfl,fun k=>rfl,hi.srt,fun h=>⟨h,fun _ _=>rfl⟩⟩
 | cons m ms ih =>
  intro met es l f hi hm
  have hall:=mayMG_all hm
  unfold mayMG at hm
  simp only [Bool.and_eq_true,Bool.not_eq_true'] at hm
  obtain ⟨⟨hnm,hok⟩,hrest⟩:=hm
  have hne:∀x∈ms,x.key ≠ m.key:=fun x hx e=>by
   have:=(mayMG_all hrest x hx).1
   rw [e] at this;simp at this
  have hmk:=mutK_none hne
  rw [List.foldl_cons]
  by_cases hs:(m.gone && !findB l m.key)=true
  ·have e1:evP rev (es,l,f) m=(es,l,f):=by unfold evP;rw [if_pos hs]
   obtain ⟨E,b,k1,k2,k3,k4,k5,k6⟩:=ih (met++[m.key]) es l f ⟨hi.srt,fun x hx=>⟨(hi.one x hx).1,(hi.one x hx).2.1,fun hc=>(hi.one x hx).2.2 (by
    rw [List.contains_eq_any_beq,List.any_append,Bool.or_eq_false_iff] at hc
    rw [List.contains_eq_any_beq];exact hc.1)⟩⟩ hrest
   rw [Bool.and_eq_true,Bool.not_eq_true',findB_get] at hs
   have hn:getK l m.key=none:=by cases hq:getK l m.key with
    | none=>rfl
    | some x=>rw [hq] at hs;cases hs.2
   refine ⟨E,b,by rw [e1,k1],k2,?_,fun k => ?_,k5,k6⟩
   ·rw [k3];unfold actsN
    rw [List.filter_cons,if_neg (by unfold doesP;rw [hs.1,hn];simp)]
   ·rw [k4]
    unfold outK
    rw [show mutK (m::ms) k=if m.key=k then some m else mutK ms k from rfl]
    by_cases hk:m.key=k
    ·subst hk;rw [if_pos rfl,hmk];simp only [hs.1,if_true,hn]
    ·rw [if_neg hk]
  ·have hk:=evOf_key (rev:=rev) hs
   have hrev:(evOf rev l m).rev=rev:=rfl
   have e1:evP rev (es,l,f) m=(es++[evOf rev l m],actP l (evOf rev l m),f||decide (30<(actP l (evOf rev l m)).length)):=by
    unfold evP;rw [if_neg hs];simp only [stepP_le (show (evOf rev l m).rev≤rev by rw [hrev];exact Int.le_refl _)]
   have hno:m.gone=false→(evOf rev l m).kv=nextK (getK l m.key) m rev:=fun hg=>by
    rw [←nextP_K];unfold evOf;rw [if_neg (by rw [hg];exact Bool.false_ne_true)]
   have hone:=nextK_ok hi h1 h2 hnm hok
   have hr:=evOf_right (rev:=rev) hs (fun _=>by rw [nextP_K];exact hone)
   have hget:=fun k=>actP_get (evOf rev l m) k hi.srt
   rw [hk] at hget
   have hgone:(evOf rev l m).gone=m.gone:=rfl
   rw [hgone] at hget
   generalize hev:evOf rev l m=e at e1 hk hrev hr hget hno hgone
   obtain ⟨E,b,k1,k2,k3,k4,k5,k6⟩:=ih (met++[m.key]) (es++[e]) (actP l e) (f||decide (30<(actP l e).length)) ⟨actP_srt e hi.srt,fun y hy=>by
    rcases mem_actP hy with hy | ⟨hg,rfl⟩
    ·refine ⟨(hi.one y hy).1,(hi.one y hy).2.1,fun hc=>(hi.one y hy).2.2 ?_⟩
     rw [List.contains_eq_any_beq,List.any_append,Bool.or_eq_false_iff] at hc
     rw [List.contains_eq_any_beq];exact hc.1
    ·rw [hgone] at hg
     rw [hno hg]
     refine ⟨hone,?_,fun hc => ?_⟩
     ·have:(nextK (getK l m.key) m rev).mod=rev:=by unfold nextK;split <;> rfl
      omega
     ·have:(nextK (getK l m.key) m rev).key=m.key:=by unfold nextK;split <;> rfl
      rw [this] at hc;simp at hc⟩ hrest
   refine ⟨e::E,b,by rw [e1,k1];simp,fun x hx => ?_,?_,fun k => ?_,k5,fun hb => ?_⟩
   ·rcases List.mem_cons.1 hx with rfl | hx
    ·exact hrev
    ·exact k2 x hx
   ·rw [List.length_cons,k3];unfold actsN
    rw [List.filter_cons,if_pos (by unfold doesP;rw [Bool.not_eq_true',Bool.eq_false_iff];intro hh;apply hs;rw [Bool.and_eq_true] at hh ⊢;refine ⟨hh.1,?_⟩;rw [findB_get];cases hq:getK l m.key <;> simp [hq] at hh ⊢)]
    rw [List.length_cons]
    congr 1
    congr 1
    refine List.filter_congr fun x hx => ?_
    unfold doesP
    rw [hget,if_neg (hne x hx)]
   ·rw [List.foldl_cons,k4]
    unfold outK
    rw [show mutK (m::ms) k=if m.key=k then some m else mutK ms k from rfl]
    by_cases hq:m.key=k
    ·subst hq
     rw [if_pos rfl,hmk]
     simp only [hget,if_true]
     by_cases hg:m.gone=true
     ·rw [if_pos hg,if_pos hg]
     ·rw [if_neg hg,if_neg hg,hno (Bool.eq_false_iff.2 hg)]
    ·rw [if_neg hq,hget,if_neg (fun e=>hq e.symm)]
   ·obtain ⟨j1,j2⟩:=k6 hb
    rw [Bool.or_eq_false_iff,decide_eq_false_iff_not] at j1
    refine ⟨j1.1,fun last hl=>logOk_cons.2 ⟨by rw [hrev];exact hl,by rw [hrev];exact Int.le_refl _,hr,by omega,?_⟩⟩
    rw [hrev];exact j2 rev (Int.le_refl _)
end Go.Proofs.YtndfdnlbljhlgaaGreat
end
section
namespace Go.Proofs.YtndfdnlbljhlgaaGreat
open Go Go.AM Go.Proofs
set_option linter.unusedSimpArgs false
set_option linter.unusedVariables false
set_option linter.defProp false
theorem more_facts {s:Store} (h:SOk s) {ms:List Mut} (hm:mayM ms=true):(∀e∈(moreP s ms).1,e.rev=s.rev+1)∧(moreP s ms).1.length=actsN (nowP s) ms∧(moreP s ms).2.1=(moreP s ms).1.foldl actP (nowP s) ∧
  (∀k,getK ((moreP s ms).1.foldl actP (nowP s)) k=outK (s.rev+1) (nowP s) ms k)∧Srt ((moreP s ms).1.foldl actP (nowP s))∧((moreP s ms).2.2=false→∀last,last≤s.rev+1→logOk (s.rev+1) (nowP s) last (moreP s ms).1=true):=by
 have hg:=h.nowGood
 have hr:=h.revM
 have h0:=h.low0
 have h1:=h.lowr
 unfold mayM at hm
 rw [Bool.and_eq_true] at hm
 obtain ⟨E,b,k1,k2,k3,k4,k5,k6⟩:=apply_ind (rev:=s.rev+1) (by omega) (by omega) ms [] [] (nowP s) false ⟨hg.srt,fun x hx=>⟨(hg.one x hx).1,by have:=(hg.one x hx).2;omega,fun _=>by have:=(hg.one x hx).2;omega⟩⟩ hm.1
 have e:moreP s ms=(E,E.foldl actP (nowP s),b):=by unfold moreP;rw [show foldP s.base.l s.log.l s.rev=nowP s from rfl,k1];rfl
 rw [e]
 exact ⟨k2,k3,rfl,k4,k5,fun hb=>(k6 hb).2⟩
theorem applyE_zero {s:Store} {ms:List Mut} (h:applyE s ms=0):mayM ms=true∧((moreP s ms).1=[]∨(moreP s ms).2.2=false∧s.rev ≠ 1099511627774∧s.log.l.length+(moreP s ms).1.length≤60):=by
 unfold applyE at h
 by_cases h1:mayM ms=true
 ·rw [if_pos h1] at h
  by_cases h2:(moreP s ms).1=[]
  ·exact ⟨h1,.inl h2⟩
  ·rw [if_neg h2] at h
   refine ⟨h1,.inr ?_⟩
   by_cases h3:(moreP s ms).2.2=true∨s.rev=1099511627774∨60<s.log.l.length+(moreP s ms).1.length
   ·rw [if_pos h3] at h;omega
   ·refine ⟨Bool.eq_false_iff.2 fun hh=>h3 (.inl hh),fun hh=>h3 (.inr (.inl hh)),?_⟩
    have:¬60<s.log.l.length+(moreP s ms).1.length:=fun hh=>h3 (.inr (.inr hh))
    omega
 ·rw [if_neg h1] at h;omega
theorem applyN_iff {s:Store} {ms:List Mut}:applyN s ms=true↔applyE s ms=0∧(moreP s ms).1 ≠ []:=by
 unfold applyN
 rw [Bool.and_eq_true,decide_eq_true_eq,Bool.not_eq_true',decide_eq_false_iff_not]
theorem applyN_false {s:Store} {ms:List Mut} (h:applyN s ms=false):applyS s ms=s∧applyV s ms = .nil:=by
 unfold applyS applyV
 rw [h];exact ⟨rfl,rfl⟩
theorem applyN_true {s:Store} {ms:List Mut} (h:applyN s ms=true):applyS s ms=⟨s.rev+1,s.low,s.base,.of (s.log.l++(moreP s ms).1)⟩∧applyV s ms = .of (moreP s ms).1:=by
 unfold applyS applyV
 rw [if_pos h,if_pos h];exact ⟨rfl,rfl⟩
theorem apply_SOk {s:Store} (h:SOk s) (ms:List Mut):SOk (applyS s ms):=by
 cases hN:applyN s ms
 ·rw [(applyN_false hN).1];exact h
 ·obtain ⟨h1,h2⟩:=applyN_iff.1 hN
  obtain ⟨hm,h3⟩:=applyE_zero h1
  have h3:=h3.resolve_left h2
  obtain ⟨f1,f2,f3,f4,f5,f6⟩:=more_facts h hm
  have f6:=f6 h3.1
  rw [(applyN_true hN).1]
  have r1:=h.low0
  have r2:=h.lowr
  have r3:=h.revM
  refine ⟨h.low0,by show s.low≤s.rev+1;omega,by show s.rev+1≤1099511627774;omega,h.bl,by simp only [Sl.l_of,List.length_append];omega,h.good,?_⟩
  show logOk (s.rev+1) s.base.l (s.low+1) (s.log.l++(moreP s ms).1)=true
  refine logOk_join (logOk_srev (by omega) h.log) (fun last' _ hl => ?_) (by omega)
  rw [←h.now];exact f6 last' hl
theorem keepL_all {to:Int} {l:List Ev} (h:∀e∈l,to<e.rev):keepL to l=l:=by
 unfold keepL
 rw [List.filter_eq_self]
 intro e he
 have:=h e he
 simp;omega
theorem keepL_no {to:Int} {l:List Ev} (h:∀e∈l,e.rev≤to):keepL to l=[]:=by
 unfold keepL
 rw [List.filter_eq_nil_iff]
 intro e he
 have:=h e he
 simp;omega
theorem keepL_app (to:Int) (a b:List Ev):keepL to (a++b)=keepL to a++keepL to b:=List.filter_append ..
theorem shr_split {s:Store} (h:SOk s) (to:Int):∃a b,s.log.l=a++b∧(∀e∈a,e.rev≤to)∧(∀e∈b,to<e.rev)∧keepL to s.log.l=b∧foldP s.base.l s.log.l to=a.foldl actP s.base.l:=by
 obtain ⟨a,b,h1,h2,h3⟩:=logOk_split to h.log
 refine ⟨a,b,h1,h2,h3,?_,?_⟩
 ·rw [h1,keepL_app,keepL_no h2,keepL_all h3];rfl
 ·rw [h1,foldP_app,foldP_le h2,foldP_gt h3]
theorem shrE_zero {s:Store} {to:Int}:shrE s to=0↔0≤to∧to≤s.rev∧s.low≤to:=by
 unfold shrE
 by_cases h1:to<0∨s.rev<to
 ·rw [if_pos h1];omega
 ·rw [if_neg h1]
  by_cases h2:to<s.low
  ·rw [if_pos h2];omega
  ·rw [if_neg h2];omega
theorem shr_SOk {s:Store} (h:SOk s) (to:Int):SOk (shrS s to):=by
 unfold shrS
 by_cases hz:shrE s to=0
 ·rw [if_pos hz]
  obtain ⟨z1,z2,z3⟩:=shrE_zero.1 hz
  obtain ⟨a,b,h1,h2,h3,h4,h5⟩:=shr_split h to
  have hlog:=h.log
  rw [h1] at hlog
  obtain ⟨l1,last',l2⟩:=logOk_app hlog
  refine ⟨z1,z2,h.revM,?_,?_,?_,?_⟩
  ·show (foldR s.base s.log.l to).l.length≤30
   rw [foldR_l,h5];exact logOk_len h.bl l1
  ·show (keepR to s.log).l.length≤60
   have:(keepR to s.log).l.length≤s.log.l.length:=by
    cases s.log with
    | nil=>exact Nat.le_refl _
    | of l=>exact List.length_filter_le _ _
   have:=h.ll;omega
  ·show GoodK (foldR s.base s.log.l to).l to
   rw [foldR_l,h5]
   exact logOk_good h.good (by omega) l1 to z3 h2
  ·show logOk s.rev (foldR s.base s.log.l to).l (to+1) (keepR to s.log).l=true
   have e:(keepR to s.log).l=keepL to s.log.l:=by cases s.log <;> rfl
   rw [foldR_l,h5,e,h4]
   exact logOk_last l2 fun x hx=>by have:=h3 x hx;omega
 ·rw [if_neg hz];exact h
end Go.Proofs.YtndfdnlbljhlgaaGreat
end
section
namespace Go.Proofs.YtndfdnlbljhlgaaGreat
open Go Go.AM Go.Proofs
set_option maxRecDepth 20000
set_option maxHeartbeats 4000000
set_option linter.unusedSimpArgs false
set_option linter.unusedVariables false
theorem holds_ask {l:List KV} {c:Cmp}:(askOk c&&holdsP l c)=holdsP l c:=by
 cases h:holdsP l c
 ·rw [Bool.and_false]
 ·rw [Bool.and_true]
  unfold holdsP numP strP at h
  unfold askOk
  obtain ⟨k,w,hw,n,v⟩:=c
  simp only at h ⊢
  by_cases w1:w=1
  ·subst w1
   simp only [if_true,Bool.or_eq_true,Bool.and_eq_true,decide_eq_true_eq] at h ⊢
   omega
  ·by_cases w2:w=2
   ·subst w2
    simp only [w1,if_false,if_true,Bool.or_eq_true,Bool.and_eq_true,decide_eq_true_eq] at h ⊢
    omega
   ·by_cases w3:w=3
    ·subst w3
     simp only [w1,w2,if_false,if_true,Bool.or_eq_true,Bool.and_eq_true,decide_eq_true_eq] at h ⊢
     omega
    ·by_cases w4:w=4
     ·subst w4
      simp only [w1,w2,w3,if_false,if_true,Bool.or_eq_true,Bool.and_eq_true,decide_eq_true_eq] at h ⊢
      omega
     ·simp only [w1,w2,w3,w4,if_false] at h;cases h
theorem HoldsK_ev (s:Sl KV) (c:Cmp) (hl:s.l.length≤9223372036854775807) (H:List Blk):EvF tab 203 [.g (KVs.g s),A c.c] H=some ⟨B (holdsP s.l c),[],[]⟩:=by
 rw [Holds_ev s c hl H,holds_ask]
theorem All_ev (s:Sl KV) (cs:Sl Cmp) (hl:s.l.length≤9223372036854775807) (hc:cs.l.length≤9223372036854775807) (H:List Blk):EvF tab 187 [.g (KVs.g s),.g (Cmps.g cs)] H=some ⟨B (allP (holdsP s.l) cs.l),[],[]⟩:=by
 have hq:=loop_runJ (E:=EvF tab) (h:=H) (c:=L187_0) (lv:=[0,7,8,9]) (l:=cs.l) (β:=Unit) (γ:=Unit) (fun _ _=>True) (fun _ c _=>if holdsP s.l c=true then .inl () else .inr ())
  (fun k _ o=>⟨[(0,.g (KVs.g s)),(7,.g (Cmps.g cs)),(8,I cs.l.length),(9,I k)],[],o⟩)
  (fun _ o=>(.exit 0,⟨[(0,.g (KVs.g s)),(7,.g (Cmps.g cs)),(8,I cs.l.length),(9,I cs.l.length),(10,B false)],[],o⟩))
  (fun _ o=>(.ret,⟨[(4,B false)],[],o⟩)) (by simp) (by simp) (fun k c o' o hk hx hy _ => ?_) (fun _ o _=>by delta L187_0;cases cs <;> simp -implicitDefEqProofs) () [] trivial
 ·obtain ⟨o',hq⟩:=hq
  have key:∀(l:List Cmp) k,runG (γ:=Unit) (fun _ (c:Cmp) (_:Unit)=>if holdsP s.l c=true then .inl () else .inr ()) k l ()=if allP (holdsP s.l) l=true then .inl () else .inr ():=by
   intro l
   induction l with
   | nil=>intro k;rfl
   | cons c l ih =>
    intro k
    rw [allP_cons]
    cases hh:holdsP s.l c
    ·simp [runG,hh]
    ·simp only [runG,hh,if_true,Bool.true_and];exact ih _
  rw [key] at hq
  have e0:((0:Nat):Int)=0:=rfl
  simp only [e0] at hq
  refine EvF_walk t187 (by simp) ?_
  cases ha:allP (holdsP s.l) cs.l <;> rw [ha] at hq <;> simp only [Bool.false_eq_true,if_true,if_false,endJ] at hq <;> cases cs <;> simp only [Cmps.g,Sl.g_nil,Sl.g_of,Sl.l_nil,Sl.l_of,List.length_nil,e0] at hq <;> simp -implicitDefEqProofs [hq]
 ·have e2:=wrap_succ hk (by omega)
  have h1:=fun H=>HoldsK_ev s c hl H
  delta L187_0
  cases cs with
  | nil=>simp at hk
  | of l =>
   simp only [Sl.l_of] at hk hx hy hc ⊢
   generalize holdsP s.l c=b at h1 ⊢
   obtain ⟨c1,c2,c3,c4,c5⟩:=c
   simp only [A,Cmp.c,List.map_cons,List.map_nil] at h1
   cases b
   ·simp only [Bool.false_eq_true,if_false]
    refine ⟨o++[.cells [T c1,I c2,I c3,I c4,T c5]],?_⟩
    simp -implicitDefEqProofs [hk,hy,Cmp.c,h1]
   ·simp only [if_true]
    refine ⟨trivial,o++[.cells [T c1,I c2,I c3,I c4,T c5]],?_⟩
    simp -implicitDefEqProofs [hk,hy,Cmp.c,h1,e2]
end Go.Proofs.YtndfdnlbljhlgaaGreat
end
section
namespace Go.Proofs.YtndfdnlbljhlgaaGreat
open Go Go.AM Go.Proofs
set_option maxRecDepth 20000
set_option maxHeartbeats 4000000
set_option linter.unusedSimpArgs false
set_option linter.unusedVariables false
def listOk (t:Txn):Bool:=decide (t.iff.l.length≤4)&&(decide (t.thn.l.length≤4)&&decide (t.els.l.length≤4))
def doOk (t:Txn):Bool:=listOk t&&allP askOk t.iff.l
def yesP (s:Store) (t:Txn):Bool:=allP (holdsP (nowP s)) t.iff.l
def doL (s:Store) (t:Txn):Sl Mut:=if yesP s t=true then t.thn else t.els
def doS (s:Store) (t:Txn):Store:=if doOk t=true then applyS s (doL s t).l else s
def doY (s:Store) (t:Txn):Bool:=doOk t&&(yesP s t&&decide (applyE s (doL s t).l=0))
def doV (s:Store) (t:Txn):Sl Ev:=if doOk t=true then applyV s (doL s t).l else .nil
def doE (s:Store) (t:Txn):Int:=if doOk t=true then applyE s (doL s t).l else 1
theorem runG_ask:∀(l:List Cmp) k,runG (γ:=Unit) (fun _ (c:Cmp) (_:Unit)=>if askOk c=true then .inl () else .inr ()) k l ()=if allP askOk l=true then .inl () else .inr ():=by
 intro l
 induction l with
 | nil=>intro k;rfl
 | cons c l ih =>
  intro k
  rw [allP_cons]
  cases hh:askOk c
  ·simp [runG,hh]
  ·simp only [runG,hh,if_true,Bool.true_and];exact ih _
theorem Do_loop (cs:Sl Cmp) (hc:cs.l.length≤9223372036854775807) (a1 a2 a3 a4:GV) (q1 q2 q3 q5:Blk) (b1 b2 b3 b4:AV) (H:List Blk) :
  ∃o,loopE (EvF tab) H L154_0 [2,3,4,28,29,30] ⟨[(2,.ptr H.length 0),(3,.ptr (H.length+1) 0),(4,.ptr (H.length+4) 0),(28,.g (Cmps.g cs)),(29,I cs.l.length),(30,I 0)],[],[.cells [.g a1,.g a2,.g a3,.g a4],q1,q2,q3,.cells [b1,b2,b3,b4],q5]⟩ =
   some (if allP askOk cs.l=true then (.exit 0,⟨[(2,.ptr H.length 0),(3,.ptr (H.length+1) 0),(4,.ptr (H.length+4) 0),(28,.g (Cmps.g cs)),(29,I cs.l.length),(30,I cs.l.length),(31,B false)],[],.cells [.g a1,.g a2,.g a3,.g a4]::q1::q2::q3 :: .cells [b1,b2,b3,b4]::q5::o⟩)
    else (.ret,⟨[(4,.ptr (H.length+4) 0),(5,B false),(6,.ms (H.length+(o.length+6)) 1 8 0 0),(7,I 1)],[],.cells [.g a1,.g a2,.g a3,.g a4]::q1::q2::q3 :: .cells [.g a1,.g a2,.g a3,.g a4]::q5::(o++[.rows 8 1 []])⟩)):=by
 have hq:=loop_runJ (E:=EvF tab) (h:=H) (c:=L154_0) (lv:=[2,3,4,28,29,30]) (l:=cs.l) (β:=Unit) (γ:=Unit) (fun _ _=>True) (fun _ c _=>if askOk c=true then .inl () else .inr ())
  (fun k _ o=>⟨[(2,.ptr H.length 0),(3,.ptr (H.length+1) 0),(4,.ptr (H.length+4) 0),(28,.g (Cmps.g cs)),(29,I cs.l.length),(30,I k)],[],.cells [.g a1,.g a2,.g a3,.g a4]::q1::q2::q3 :: .cells [b1,b2,b3,b4]::q5::o⟩)
  (fun _ o=>(.exit 0,⟨[(2,.ptr H.length 0),(3,.ptr (H.length+1) 0),(4,.ptr (H.length+4) 0),(28,.g (Cmps.g cs)),(29,I cs.l.length),(30,I cs.l.length),(31,B false)],[],.cells [.g a1,.g a2,.g a3,.g a4]::q1::q2::q3 :: .cells [b1,b2,b3,b4]::q5::o⟩))
  (fun _ o=>(.ret,⟨[(4,.ptr (H.length+4) 0),(5,B false),(6,.ms (H.length+(o.length+6)) 1 8 0 0),(7,I 1)],[],.cells [.g a1,.g a2,.g a3,.g a4]::q1::q2::q3 :: .cells [.g a1,.g a2,.g a3,.g a4]::q5::(o++[.rows 8 1 []])⟩))
  (by simp) (by simp) (fun k c _ o hk hx hy _ => ?_) (fun _ o _=>by delta L154_0;cases cs <;> simp -implicitDefEqProofs) () [] trivial
 ·obtain ⟨o',hq⟩:=hq
  refine ⟨o',?_⟩
  rw [runG_ask] at hq
  have e0:((0:Nat):Int)=0:=rfl
  simp only [e0] at hq
  rw [hq]
  cases allP askOk cs.l <;> rfl
 ·have e2:=wrap_succ hk (by omega)
  have h1:=fun H=>tmay_ev c H
  delta L154_0
  cases cs with
  | nil=>simp at hk
  | of l =>
   simp only [Sl.l_of] at hk hx hy hc ⊢
   generalize askOk c=b at h1 ⊢
   obtain ⟨c1,c2,c3,c4,c5⟩:=c
   simp only [A,Cmp.c,List.map_cons,List.map_nil] at h1
   cases b
   ·simp only [Bool.false_eq_true,if_false]
    refine ⟨o++[.cells [T c1,I c2,I c3,I c4,T c5]],?_⟩
    simp -implicitDefEqProofs [hk,hy,Cmp.c,h1]
   ·simp only [if_true]
    refine ⟨trivial,o++[.cells [T c1,I c2,I c3,I c4,T c5]],?_⟩
    simp -implicitDefEqProofs [hk,hy,Cmp.c,h1,e2]
theorem mx3_le {a b c:Nat} (h:a≤4∧b≤4∧c≤4):¬(4:Int)<(if (if a<b then (b:Int) else (a:Int))<(c:Int) then (c:Int) else if a<b then (b:Int) else (a:Int)):=by
 split <;> split <;> omega
theorem mx3_gt {a b c:Nat} (h:¬(a≤4∧b≤4∧c≤4)):(4:Int)<(if (if a<b then (b:Int) else (a:Int))<(c:Int) then (c:Int) else if a<b then (b:Int) else (a:Int)):=by
 by_cases h1:a<b
 ·simp only [if_pos h1];split <;> omega
 ·simp only [if_neg h1];split <;> omega
theorem Do_ev (s:Store) (t:Txn) (hs:smallS s) (hr : -1≤s.rev∧s.rev≤4611686018427387904) (w:t.wf) (H:List Blk) :
  EvF tab 154 [A s.c,A t.c] H=some ⟨.tup [A (doS s t).c,B (doY s t),.g (Evs.g (doV s t)),I (doE s t)],[],[]⟩:=by
 have hn:=foldP_len s.rev s.log.l s.base.l
 have hs2:=hs
 unfold smallS at hs2
 obtain ⟨⟨w1,w2⟩,⟨w3,w4⟩,⟨w5,w6⟩⟩:=w
 have hlp:=fun a1 a2 a3 a4 q1 q2 q3 q5 b1 b2 b3 b4=>Do_loop t.iff w2 a1 a2 a3 a4 q1 q2 q3 q5 b1 b2 b3 b4 H
 have m1:=fun H=>Now_ev s hs H
 have m2:=fun H=>All_ev (foldR s.base s.log.l s.rev) t.iff (by rw [foldR_l];omega) w2 H
 rw [show (foldR s.base s.log.l s.rev).l=nowP s from foldR_l ..,show allP (holdsP (nowP s)) t.iff.l=yesP s t from rfl] at m2
 generalize foldR s.base s.log.l s.rev=N at m1 m2
 have m3:=fun (hl:(doL s t).l.length≤4) H=>Apply_ev s (doL s t) hs hr (fun m hm=>by
  unfold doL at hm
  split at hm
  ·exact (w3 m hm).1
  ·exact (w5 m hm).1) (by omega) H
 refine EvF_walk t154 (by simp) ?_
 unfold doS doY doV doE doOk listOk
 obtain ⟨a1,a2,a3,a4,ha⟩:∃a1 a2 a3 a4,s.c=[a1,a2,a3,a4]:=⟨_,_,_,_,rfl⟩
 obtain ⟨b1,b2,b3,b4,hb⟩:∃a1 a2 a3 a4,(applyS s (doL s t).l).c=[a1,a2,a3,a4]:=⟨_,_,_,_,rfl⟩
 by_cases hl:t.iff.l.length≤4∧t.thn.l.length≤4∧t.els.l.length≤4
 ·obtain ⟨l1,l2,l3⟩:=hl
  have m3:=m3 (by unfold doL;split <;> assumption)
  have lp:=Do_loop t.iff w2 a1 a2 a3 a4 (.cells (t.c.map .g)) (.rows 6 1 []) (.rows 8 1 []) (.rows 8 1 []) (I 0) (I 0) (.ms (H.length+2) 1 6 0 0) (.ms (H.length+3) 1 8 0 0) H
  rw [ha] at m1 m3 ⊢
  rw [hb] at m3
  generalize applyE s (doL s t).l=e1 at m3 ⊢
  generalize hv:applyV s (doL s t).l=v at m3 ⊢
  generalize hgv:Evs.g v=gv at m3
  generalize hu:applyS s (doL s t).l=u at m3 hb ⊢
  obtain ⟨o,lp⟩:=lp
  clear hv hu
  unfold doL at m3
  generalize yesP s t=y at m2 m3 ⊢
  obtain ⟨tif,tth,tel⟩:=t
  simp only [Txn.c,List.map_cons,List.map_nil,A] at l1 l2 l3 m1 m2 m3 lp ⊢
  generalize hk:allP askOk tif.l=k at lp ⊢
  have mx:=mx3_le ⟨l1,l2,l3⟩
  have i1:¬(4:Int)<(tif.l.length:Int):=by omega
  have i2:¬(4:Int)<(tth.l.length:Int):=by omega
  have i3:¬(4:Int)<(tel.l.length:Int):=by omega
  cases k
  ·simp only [Bool.false_eq_true,if_false] at lp
   simp -implicitDefEqProofs [l1,l2,l3,mx,lp,ha]
  ·simp only [if_true] at lp
   cases y
   ·simp only [Bool.false_eq_true,if_false] at m3
    by_cases he:e1=0 <;> simp -implicitDefEqProofs [l1,l2,l3,mx,lp,ha,hb,hgv,m1,m2,m3,he]
   ·simp only [if_true] at m3
    by_cases he:e1=0 <;> simp -implicitDefEqProofs [l1,l2,l3,mx,lp,ha,hb,hgv,m1,m2,m3,he]
 ·rw [ha]
  obtain ⟨tif,tth,tel⟩:=t
  simp only [Txn.c,List.map_cons,List.map_nil,A] at hl ⊢
  have mx:=mx3_gt hl
  by_cases l1:tif.l.length≤4
  ·by_cases l2:tth.l.length≤4
   ·by_cases l3:tel.l.length≤4
    ·exact absurd ⟨l1,l2,l3⟩ hl
    ·simp -implicitDefEqProofs [l1,l2,l3,ha,mx]
   ·simp -implicitDefEqProofs [l1,l2,ha,mx]
  ·simp -implicitDefEqProofs [l1,ha,mx]
end Go.Proofs.YtndfdnlbljhlgaaGreat
end
section
namespace Go.Proofs.YtndfdnlbljhlgaaGreat
open Go Go.AM Go.Proofs
set_option maxRecDepth 20000
set_option maxHeartbeats 2000000
set_option linter.unusedSimpArgs false
set_option linter.unusedVariables false
structure Server where
 st:Store
 ls:Leases
 ms:Memos
 clock:Int
def Server.c (x:Server):List GV:=[.int .i64 x.st.rev,.int .i64 x.st.low,KVs.g x.st.base,Evs.g x.st.log,.int .i64 x.ls.next,LeaseL.g x.ls.l,MemoL.g x.ms.l,Floors.g x.ms.old,.int .i64 x.clock]
def Server.wf (x:Server):Prop:=x.st.wf∧x.ls.wf∧x.ms.wf∧I64 x.clock
def sweepD (s:Server) (id:Int):List Mut:=dropsS (nowP s.st) id
def sweepA (s:Store) (d:List Mut):Store:=if 60<s.log.l.length+d.length then shrS s s.rev else s
def sweepE (s:Server) (id:Int):Int:=if endE s.ls id=0 then applyE (sweepA s.st (sweepD s id)) (sweepD s id) else endE s.ls id
def sweepS (s:Server) (id:Int):Server:=if endE s.ls id=0∧applyE (sweepA s.st (sweepD s id)) (sweepD s id)=0 then ⟨applyS (sweepA s.st (sweepD s id)) (sweepD s id),endS s.ls id,s.ms,s.clock⟩ else s
structure Fit (s:Server):Prop where
 sz:s.st.base.l.length+s.st.log.l.length≤5000
 rev:0≤s.st.rev∧s.st.rev≤1099511627774
 key:∀x∈nowP s.st,x.key.length≤9223372036854775807
 ls:s.ls.l.l.length≤1099511627776
theorem dropsS_key {l:List KV} {id:Int} (h:∀x∈l,x.key.length≤9223372036854775807):∀m∈dropsS l id,m.key.length≤9223372036854775807:=by
 intro m hm
 unfold dropsS at hm
 split at hm
 ·cases hm
 ·obtain ⟨x,hx,rfl⟩:=List.mem_map.1 hm
  exact h x (List.mem_filter.1 hx).1
theorem dropsS_len (l:List KV) (id:Int):(dropsS l id).length≤l.length:=by
 unfold dropsS
 split
 ·simp
 ·rw [List.length_map];exact List.length_filter_le ..
theorem keepR_len (to:Int) (l:Sl Ev):(keepR to l).l.length≤l.l.length:=by
 cases l with
 | nil=>exact Nat.le_refl _
 | of l=>exact List.length_filter_le ..
theorem sweepA_fit {s:Server} (h:Fit s) (d:List Mut):smallS (sweepA s.st d)∧(sweepA s.st d).rev=s.st.rev:=by
 have h1:=h.sz
 have h2:=foldR_l s.st.rev s.st.log.l s.st.base
 have h3:=foldP_len s.st.rev s.st.log.l s.st.base.l
 have h4:=keepR_len s.st.rev s.st.log
 unfold sweepA shrS
 split
 ·split
  ·refine ⟨?_,rfl⟩
   unfold smallS
   simp only [h2]
   omega
  ·refine ⟨?_,rfl⟩;unfold smallS;omega
 ·refine ⟨?_,rfl⟩;unfold smallS;omega
theorem Sweep_ev (s:Server) (id:Int) (hf:Fit s) (H:List Blk):EvF tab 25 [A s.c,I id] H=some ⟨.tup [A (sweepS s id).c,I (sweepE s id)],[],[]⟩:=by
 have h1:=hf.sz
 have hs:smallS s.st:=by unfold smallS;omega
 have hnl:(foldR s.st.base s.st.log.l s.st.rev).l=nowP s.st:=foldR_l ..
 have hnn:(nowP s.st).length≤5000:=by have:=foldP_len s.st.rev s.st.log.l s.st.base.l;unfold nowP;omega
 have m1:=fun H=>End_ev s.ls id hf.ls H
 have m2:=fun H=>Now_ev s.st hs H
 have m3:=fun H=>Drops_ev (foldR s.st.base s.st.log.l s.st.rev) id (by rw [hnl];omega) H
 rw [hnl] at m3
 have m4:=fun H=>Shrink_ev s.st s.st.rev hs H
 obtain ⟨a1,a2⟩:=sweepA_fit hf (sweepD s id)
 have hD:(sweepD s id).length≤5000:=by have:=dropsS_len (nowP s.st) id;unfold sweepD;omega
 have m5:=fun H=>Apply_ev (sweepA s.st (sweepD s id)) (slOf (sweepD s id)) a1 (by rw [a2];have:=hf.rev;omega) (by rw [slOf_l];exact dropsS_key hf.key) (by rw [slOf_l];omega) H
 rw [slOf_l] at m5
 have hl60:sweepA s.st (sweepD s id)=if 60<s.st.log.l.length+(sweepD s id).length then shrS s.st s.st.rev else s.st:=rfl
 refine EvF_walk t25 (by simp) ?_
 unfold sweepS sweepE
 rw [show dropsS (nowP s.st) id=sweepD s id from rfl] at m3
 generalize sweepD s id=D at m3 m5 hD hl60 ⊢
 generalize foldR s.st.base s.st.log.l s.st.rev=N at m2 m3
 have w1:IntKind.i64.wrap ((s.st.log.l.length:Int)+(D.length:Int))=(s.st.log.l.length:Int)+(D.length:Int):=wrap_i64 (by omega) (by omega)
 have hv2:∀h st,lenV h st (.g (Muts.g (slOf D)))=some D.length:=fun h st=>by rw [lenV_Sl,slOf_l]
 generalize applyE (sweepA s.st D) D=ae at m5 ⊢
 generalize applyV (sweepA s.st D) D=av at m5
 obtain ⟨⟨srev,slow,sbase,slog⟩,⟨lnext,ll⟩,⟨ml,mo⟩,clock⟩:=s
 simp only at m1 m2 m3 m4 m5 w1 hl60 h1 ⊢
 have hv1:∀h st,lenV h st (.g (Evs.g slog))=some slog.l.length:=fun h st=>lenV_Sl ..
 generalize Muts.g (slOf D)=GD at m3 m5 hv2
 generalize applyS (sweepA ⟨srev,slow,sbase,slog⟩ D) D=P at m5 ⊢
 rw [hl60] at m5
 clear hl60 a1 a2 hf hs hnl hnn
 generalize shrS ⟨srev,slow,sbase,slog⟩ srev=Q at m4 m5
 generalize endE ⟨lnext,ll⟩ id=ee at m1 ⊢
 generalize endS ⟨lnext,ll⟩ id=L at m1 ⊢
 obtain ⟨prev,plow,pbase,plog⟩:=P
 obtain ⟨lnext',ll'⟩:=L
 by_cases h60:60<slog.l.length+D.length
 ·have h60I:(60:Int)<(slog.l.length:Int)+(D.length:Int):=by omega
  rw [if_pos h60] at m5
  obtain ⟨qrev,qlow,qbase,qlog⟩:=Q
  simp only [A,Store.c,Leases.c,Server.c,List.map_cons,List.map_nil] at m1 m2 m3 m4 m5 ⊢
  generalize hG1:KVs.g sbase=G1 at m2 m4 m5 ⊢
  generalize hG2:Evs.g slog=G2 at m2 m4 m5 hv1 ⊢
  generalize hG3:LeaseL.g ll=G3 at m1 ⊢
  generalize hG4:MemoL.g ml=G4
  generalize hG5:Floors.g mo=G5
  generalize KVs.g N=G6 at m2 m3
  generalize KVs.g qbase=G7 at m4 m5
  generalize Evs.g qlog=G8 at m4 m5
  generalize hG9:KVs.g pbase=G9 at m5 ⊢
  generalize hG10:Evs.g plog=G10 at m5 ⊢
  generalize hG11:LeaseL.g ll'=G11 at m1 ⊢
  generalize Evs.g av=G12 at m5
  by_cases he:ee=0
  ·subst he
   by_cases ha:ae=0
   ·subst ha
    simp -implicitDefEqProofs [m1,m2,m3,m4,m5,hv1,hv2,w1,pends,hG1,hG2,hG3,hG4,hG5,hG9,hG10,hG11,Server.c,h60I]
   ·simp -implicitDefEqProofs [m1,m2,m3,m4,m5,hv1,hv2,w1,pends,hG1,hG2,hG3,hG4,hG5,hG9,hG10,hG11,Server.c,h60I,ha]
  ·simp -implicitDefEqProofs [m1,he,hG1,hG2,hG3,hG4,hG5,Server.c]
 ·have h60I:¬(60:Int)<(slog.l.length:Int)+(D.length:Int):=by omega
  rw [if_neg h60] at m5
  obtain ⟨qrev,qlow,qbase,qlog⟩:=Q
  simp only [A,Store.c,Leases.c,Server.c,List.map_cons,List.map_nil] at m1 m2 m3 m4 m5 ⊢
  generalize hG1:KVs.g sbase=G1 at m2 m4 m5 ⊢
  generalize hG2:Evs.g slog=G2 at m2 m4 m5 hv1 ⊢
  generalize hG3:LeaseL.g ll=G3 at m1 ⊢
  generalize hG4:MemoL.g ml=G4
  generalize hG5:Floors.g mo=G5
  generalize KVs.g N=G6 at m2 m3
  generalize KVs.g qbase=G7 at m4 m5
  generalize Evs.g qlog=G8 at m4 m5
  generalize hG9:KVs.g pbase=G9 at m5 ⊢
  generalize hG10:Evs.g plog=G10 at m5 ⊢
  generalize hG11:LeaseL.g ll'=G11 at m1 ⊢
  generalize Evs.g av=G12 at m5
  by_cases he:ee=0
  ·subst he
   by_cases ha:ae=0
   ·subst ha
    simp -implicitDefEqProofs [m1,m2,m3,m4,m5,hv1,hv2,w1,pends,hG1,hG2,hG3,hG4,hG5,hG9,hG10,hG11,Server.c,h60I]
   ·simp -implicitDefEqProofs [m1,m2,m3,m4,m5,hv1,hv2,w1,pends,hG1,hG2,hG3,hG4,hG5,hG9,hG10,hG11,Server.c,h60I,ha]
  ·simp -implicitDefEqProofs [m1,he,hG1,hG2,hG3,hG4,hG5,Server.c]
end Go.Proofs.YtndfdnlbljhlgaaGreat
end
section
namespace Go.Proofs.YtndfdnlbljhlgaaGreat
open Go Go.AM Go.Proofs
set_option maxRecDepth 4000
set_option linter.unusedSimpArgs false
set_option linter.unusedVariables false
def ints (l:List Int):GV := .sl 1 (l.map fun x=>[.int .i64 x])
def numOk (n:Int):Bool:=decide (0≤n)&&decide (n≤1099511627775)
def txtOk (k v:Bs):Bool:=decide (k.length≤40)&&decide (v.length≤20)
def cmpOk (c:Cmp):Bool:=txtOk c.key c.value&&decide (1≤c.what)&&decide (c.what≤4)&&decide (1≤c.how)&&decide (c.how≤3)&&numOk c.n
def mutOk (m:Mut):Bool:=txtOk m.key m.value&&numOk m.lease
def cmpsOk (s:Sl Cmp):Bool:=decide (s.l.length≤4)&&s.l.all cmpOk
def mutsOk (s:Sl Mut):Bool:=decide (s.l.length≤4)&&s.l.all mutOk
def reqOk (r:Req):Bool:=(decide (1≤r.kind)&&decide (r.kind≤8))&&txtOk r.key r.value&&(numOk r.who&&(numOk r.seq&&(numOk r.lease&&(numOk r.rev&&(numOk r.ttl&&numOk r.token)))))&&cmpsOk r.iff&&mutsOk r.thn&&mutsOk r.els
theorem all_any {α:Type} (p:α→Bool) (l:List α):l.all p = !(l.any fun x => !p x):=by
 induction l with
 | nil=>rfl
 | cons x l ih=>simp only [List.all_cons,List.any_cons,ih];cases p x <;> rfl
theorem num1_ev (n:Int) (H:List Blk):EvF tab 144 [I n] H=some ⟨B (!numOk n),[],[]⟩:=by
 refine EvF_walk t144 (by simp) ?_
 unfold numOk
 by_cases h1:n<0
 ·simp -implicitDefEqProofs [h1,show ¬0≤n by omega]
 ·by_cases h2:n≤1099511627775
  ·simp -implicitDefEqProofs [h1,h2,show 0≤n by omega,show ¬1099511627775<n by omega]
  ·simp -implicitDefEqProofs [h1,h2,show 0≤n by omega,show 1099511627775<n by omega]
theorem wnum_ev (l:List Int) (hl:l.length≤9223372036854775807) (H:List Blk):EvF tab 89 [.g (ints l)] H=some ⟨B (l.all numOk),[],[]⟩:=by
 have hc:=contains_ev (Tb:=tab) (f:=143) (g:=179) (agg:=false) (n:=1) (c:=fun x:Int=>[GV.int .i64 x]) t143 t179 (fun x=>I x) (fun x => !numOk x) (.g (.fn 144)) (.of l) hl H (by simp) (fun x _ t=>by
  simp -implicitDefEqProofs [num1_ev])
 refine EvF_walk t89 (by simp) ?_
 simp only [Sl.g_of,Sl.l_of] at hc
 unfold ints
 rw [all_any]
 generalize (l.any fun x => !numOk x)=b at hc ⊢
 simp -implicitDefEqProofs [hc]
theorem texts_ev (k v:Bs) (H:List Blk):EvF tab 88 [T k,T v] H=some ⟨B (txtOk k v),[],[]⟩:=by
 refine EvF_walk t88 (by simp) ?_
 unfold txtOk
 by_cases h1:k.length≤40
 ·by_cases h2:v.length≤20
  ·simp -implicitDefEqProofs [h1,h2,show (k.length:Int)≤40 by omega,show (v.length:Int)≤20 by omega]
  ·simp -implicitDefEqProofs [h1,h2,show (k.length:Int)≤40 by omega,show ¬(v.length:Int)≤20 by omega]
 ·simp -implicitDefEqProofs [h1,show ¬(k.length:Int)≤40 by omega]
theorem num_one (n:Int) (H:List Blk):EvF tab 89 [.g (.sl 1 [[.int .i64 n]])] H=some ⟨B (numOk n),[],[]⟩:=by
 have:=wnum_ev [n] (by simp) H
 simp only [ints,List.map_cons,List.map_nil,List.all_cons,List.all_nil,Bool.and_true] at this
 exact this
theorem mayCmp_ev (c:Cmp) (H:List Blk):EvF tab 91 [A c.c] H=some ⟨B (cmpOk c),[],[]⟩:=by
 refine EvF_walk t91 (by simp) ?_
 unfold cmpOk
 have ht:=texts_ev c.key c.value
 have hn:=num_one c.n
 generalize txtOk c.key c.value=b1 at ht ⊢
 generalize numOk c.n=b2 at hn ⊢
 cases b1
 ·simp -implicitDefEqProofs [A,Cmp.c,ht]
 ·by_cases h1:1≤c.what
  ·by_cases h2:c.what≤4
   ·by_cases h3:1≤c.how
    ·by_cases h4:c.how≤3
     ·simp -implicitDefEqProofs [A,Cmp.c,ht,hn,h1,h2,h3,h4,chunk]
     ·simp -implicitDefEqProofs [A,Cmp.c,ht,hn,h1,h2,h3,h4,chunk]
    ·simp -implicitDefEqProofs [A,Cmp.c,ht,hn,h1,h2,h3,chunk]
   ·simp -implicitDefEqProofs [A,Cmp.c,ht,hn,h1,h2,chunk]
  ·simp -implicitDefEqProofs [A,Cmp.c,ht,hn,h1,chunk]
theorem mayMut_ev (m:Mut) (H:List Blk):EvF tab 93 [A m.c] H=some ⟨B (mutOk m),[],[]⟩:=by
 refine EvF_walk t93 (by simp) ?_
 unfold mutOk
 have ht:=texts_ev m.key m.value
 have hn:=num_one m.lease
 generalize txtOk m.key m.value=b1 at ht ⊢
 generalize numOk m.lease=b2 at hn ⊢
 cases b1 <;> simp -implicitDefEqProofs [A,Mut.c,ht,hn,chunk]
theorem allCmp1_ev (c:Cmp) {H:List Blk} {p:Nat} (hp:H[p]? = some (.cells [.g (.fn 91)])):EvF tab 146 [A c.c,.ptr p 0] H=some ⟨B (!cmpOk c),[],[]⟩:=by
 refine EvF_walk t146 (by simp) ?_
 have hpl:p<H.length:=(List.getElem?_eq_some_iff.1 hp).1
 have hp2:=(List.getElem?_eq_some_iff.1 hp).2
 have hm:=fun H=>mayCmp_ev c H
 obtain ⟨b,eb⟩:∃b,cmpOk c=b:=⟨_,rfl⟩
 rw [eb] at hm ⊢
 simp only [A,Cmp.c,List.map_cons,List.map_nil] at hm
 simp -implicitDefEqProofs [A,Cmp.c,hp2,hpl,getB_old,orB,hm]
theorem allMut1_ev (c:Mut) {H:List Blk} {p:Nat} (hp:H[p]? = some (.cells [.g (.fn 93)])):EvF tab 148 [A c.c,.ptr p 0] H=some ⟨B (!mutOk c),[],[]⟩:=by
 refine EvF_walk t148 (by simp) ?_
 have hpl:p<H.length:=(List.getElem?_eq_some_iff.1 hp).1
 have hp2:=(List.getElem?_eq_some_iff.1 hp).2
 have hm:=fun H=>mayMut_ev c H
 obtain ⟨b,eb⟩:∃b,mutOk c=b:=⟨_,rfl⟩
 rw [eb] at hm ⊢
 simp only [A,Mut.c,List.map_cons,List.map_nil] at hm
 simp -implicitDefEqProofs [A,Mut.c,hp2,hpl,getB_old,orB,hm]
theorem allCmp_ev (s:Sl Cmp) (hl:s.l.length≤9223372036854775807) (H:List Blk):EvF tab 90 [.g (Cmps.g s),I 4,.g (.fn 91)] H=some ⟨B (cmpsOk s),[],[]⟩:=by
 have hc:=contains_ev (Tb:=tab) (f:=145) (g:=180) (agg:=true) (n:=5) (c:=Cmp.c) t145 t180 (fun x=>A x.c) (fun x => !cmpOk x) (.fv 146 [.ptr H.length 0]) s hl (H++[.cells [.g (.fn 91)]]) (fun x=>by simp [A,Cmp.c]) (fun x _ t=>by
  have h1:=allCmp1_ev x (H:=H++[.cells [.g (.fn 91)]]) (p:=H.length) (by simp)
  simp -implicitDefEqProofs [h1])
 refine EvF_walk t90 (by simp) ?_
 unfold cmpsOk
 rw [all_any]
 generalize (s.l.any fun x => !cmpOk x)=b at hc ⊢
 by_cases h1:s.l.length≤4
 ·simp -implicitDefEqProofs [hc,h1,show (s.l.length:Int)≤4 by omega]
 ·simp -implicitDefEqProofs [hc,h1,show ¬(s.l.length:Int)≤4 by omega]
theorem allMut_ev (s:Sl Mut) (hl:s.l.length≤9223372036854775807) (H:List Blk):EvF tab 92 [.g (Muts.g s),I 4,.g (.fn 93)] H=some ⟨B (mutsOk s),[],[]⟩:=by
 have hc:=contains_ev (Tb:=tab) (f:=147) (g:=181) (agg:=true) (n:=4) (c:=Mut.c) t147 t181 (fun x=>A x.c) (fun x => !mutOk x) (.fv 148 [.ptr H.length 0]) s hl (H++[.cells [.g (.fn 93)]]) (fun x=>by simp [A,Mut.c]) (fun x _ t=>by
  have h1:=allMut1_ev x (H:=H++[.cells [.g (.fn 93)]]) (p:=H.length) (by simp)
  simp -implicitDefEqProofs [h1])
 refine EvF_walk t92 (by simp) ?_
 unfold mutsOk
 rw [all_any]
 generalize (s.l.any fun x => !mutOk x)=b at hc ⊢
 by_cases h1:s.l.length≤4
 ·simp -implicitDefEqProofs [hc,h1,show (s.l.length:Int)≤4 by omega]
 ·simp -implicitDefEqProofs [hc,h1,show ¬(s.l.length:Int)≤4 by omega]
def RL (r:Req):Prop:=r.iff.l.length≤9223372036854775807∧r.thn.l.length≤9223372036854775807∧r.els.l.length≤9223372036854775807
theorem rl {r:Req} (w:r.wf):RL r:=⟨w.2.2.2.2.2.2.2.2.2.1.2,w.2.2.2.2.2.2.2.2.2.2.1.2,w.2.2.2.2.2.2.2.2.2.2.2.2⟩
theorem MayAsk_ev (r:Req) (w:RL r) (H:List Blk):EvF tab 44 [A r.c] H=some ⟨B (reqOk r),[],[]⟩:=by
 have ht:=texts_ev r.key r.value
 have hn:=wnum_ev [r.who,r.seq,r.lease,r.rev,r.ttl,r.token] (by simp)
 have e:([r.who,r.seq,r.lease,r.rev,r.ttl,r.token].all numOk)=(numOk r.who&&(numOk r.seq&&(numOk r.lease&&(numOk r.rev&&(numOk r.ttl&&numOk r.token))))):=by simp only [List.all_cons,List.all_nil,Bool.and_true]
 rw [e] at hn
 simp only [ints,List.map_cons,List.map_nil] at hn
 have hc:=allCmp_ev r.iff w.1
 have hm1:=allMut_ev r.thn w.2.1
 have hm2:=allMut_ev r.els w.2.2
 refine EvF_walk t44 (by simp) ?_
 unfold reqOk
 generalize txtOk r.key r.value=b1 at ht ⊢
 generalize (numOk r.who&&(numOk r.seq&&(numOk r.lease&&(numOk r.rev&&(numOk r.ttl&&numOk r.token)))))=b2 at hn ⊢
 generalize cmpsOk r.iff=b3 at hc ⊢
 generalize mutsOk r.thn=b4 at hm1 ⊢
 generalize mutsOk r.els=b5 at hm2 ⊢
 generalize hG1:Cmps.g r.iff=G1 at hc
 generalize hG2:Muts.g r.thn=G2 at hm1
 generalize hG3:Muts.g r.els=G3 at hm2
 by_cases h1:1≤r.kind
 ·by_cases h2:r.kind≤8
  ·cases b1
   ·simp -implicitDefEqProofs [A,Req.c,hG1,hG2,hG3,ht,h1,h2,show ¬r.kind<1 by omega,show ¬8<r.kind by omega]
   ·cases b2
    ·simp -implicitDefEqProofs [A,Req.c,hG1,hG2,hG3,ht,hn,chunk,h1,h2,show ¬r.kind<1 by omega,show ¬8<r.kind by omega]
    ·cases b3
     ·simp -implicitDefEqProofs [A,Req.c,hG1,hG2,hG3,ht,hn,hc,chunk,h1,h2,show ¬r.kind<1 by omega,show ¬8<r.kind by omega]
     ·cases b4
      ·simp -implicitDefEqProofs [A,Req.c,hG1,hG2,hG3,ht,hn,hc,hm1,chunk,h1,h2,show ¬r.kind<1 by omega,show ¬8<r.kind by omega]
      ·simp -implicitDefEqProofs [A,Req.c,hG1,hG2,hG3,ht,hn,hc,hm1,hm2,chunk,h1,h2,show ¬r.kind<1 by omega,show ¬8<r.kind by omega]
  ·simp -implicitDefEqProofs [A,Req.c,hG1,hG2,hG3,h1,h2,show ¬r.kind<1 by omega,show 8<r.kind by omega]
 ·simp -implicitDefEqProofs [A,Req.c,hG1,hG2,hG3,h1,show r.kind<1 by omega]
end Go.Proofs.YtndfdnlbljhlgaaGreat
end
section
namespace Go.Proofs.YtndfdnlbljhlgaaGreat
open Go Go.AM Go.Proofs
set_option maxRecDepth 4000
set_option linter.unusedSimpArgs false
set_option linter.unusedVariables false
theorem number2_ev (n:Int) (H:List Blk):EvF tab 72 [I n] H=some ⟨B (numOk n),[],[]⟩:=by
 refine EvF_walk t72 (by simp) ?_
 unfold numOk
 by_cases h1:0≤n <;> simp -implicitDefEqProofs [h1]
theorem texts2_ev (k v:Bs) (H:List Blk):EvF tab 73 [T k,T v] H=some ⟨B (txtOk k v),[],[]⟩:=by
 refine EvF_walk t73 (by simp) ?_
 unfold txtOk
 by_cases h1:k.length≤40
 ·by_cases h2:v.length≤20
  ·simp -implicitDefEqProofs [h1,h2,show (k.length:Int)≤40 by omega,show (v.length:Int)≤20 by omega]
  ·simp -implicitDefEqProofs [h1,h2,show (k.length:Int)≤40 by omega,show ¬(v.length:Int)≤20 by omega]
 ·simp -implicitDefEqProofs [h1,show ¬(k.length:Int)≤40 by omega]
theorem muts2_loop (s:Sl Mut) (hl:s.l.length≤9223372036854775807) (H:List Blk) :
  loopE (EvF tab) H L74_0 [0,3] ⟨[(0,.g (Muts.g s)),(3,I 0)],[],[]⟩ =
   some (if allP mutOk s.l=true then (.exit 0,⟨[(0,.g (Muts.g s)),(3,I s.l.length),(10,B false)],[],[]⟩) else (.ret,⟨[(2,B false)],[],[]⟩)):=by
 refine loop_all0 (l:=s.l) mutOk (fun k=>⟨[(0,.g (Muts.g s)),(3,I k)],[],[]⟩) _ _ (by simp) (by simp) (fun k x hk hx hy => ?_) (by delta L74_0;cases s <;> simp -implicitDefEqProofs)
 delta L74_0
 have e2:=wrap_succ hk hl
 cases s with
 | nil=>simp at hk
 | of l =>
  simp only [Sl.l_of] at hk hy
  unfold mutOk
  have h1:=texts2_ev x.key x.value
  have h2:=number2_ev x.lease
  generalize txtOk x.key x.value=b1 at h1 ⊢
  generalize numOk x.lease=b2 at h2 ⊢
  cases b1 <;> cases b2 <;> simp -implicitDefEqProofs [hk,hy,Mut.c,h1,h2,e2]
theorem muts2_ev (s:Sl Mut) (hl:s.l.length≤9223372036854775807) (H:List Blk):EvF tab 74 [.g (Muts.g s)] H=some ⟨B (mutsOk s),[],[]⟩:=by
 refine EvF_walk t74 (by simp) ?_
 have hw:=muts2_loop s hl H
 unfold mutsOk
 rw [show s.l.all mutOk=allP mutOk s.l from rfl]
 by_cases h:s.l.length≤4
 ·cases hs:allP mutOk s.l <;> rw [hs] at hw <;> simp only [Bool.false_eq_true,if_true,if_false] at hw
  all_goals simp -implicitDefEqProofs [h,show ¬(4:Int)<(s.l.length:Int) by omega,hw]
 ·simp -implicitDefEqProofs [h,show (4:Int)<(s.l.length:Int) by omega]
theorem runG_all {α:Type} (p:α→Bool):∀(l:List α) k,runG (fun k (x:α) (_:Unit)=>if p x=true then .inl () else .inr ()) k l ()=if allP p l=true then .inl () else (.inr ():Unit⊕Unit):=by
 intro l
 induction l with
 | nil=>intro k;rfl
 | cons x l ih =>
  intro k
  simp only [runG,allP_cons]
  by_cases h:p x=true
  ·simp only [h,if_true,Bool.true_and];exact ih _
  ·simp [h]
theorem MayAsk2_loop (r:Req) (hl:r.iff.l.length≤9223372036854775807) (H:List Blk):∃o',loopE (EvF tab) H L28_0 [1,3] ⟨[(1,.ptr H.length 0),(3,I 0)],[],[.cells (r.c.map .g)]⟩ =
   some (if allP cmpOk r.iff.l=true then (.exit 0,⟨[(1,.ptr H.length 0),(3,I r.iff.l.length),(69,B false)],[],.cells (r.c.map .g)::o'⟩) else (.ret,⟨[(2,B false)],[],.cells (r.c.map .g)::o'⟩)):=by
 have hw:=loop_runJ (E:=EvF tab) (h:=H) (c:=L28_0) (lv:=[1,3]) (l:=r.iff.l) (β:=Unit) (γ:=Unit) (fun _ _=>True) (fun k x _=>if cmpOk x=true then .inl () else .inr ())
  (fun k _ o=>⟨[(1,.ptr H.length 0),(3,I k)],[],.cells (r.c.map .g)::o⟩) (fun _ o=>(.exit 0,⟨[(1,.ptr H.length 0),(3,I r.iff.l.length),(69,B false)],[],.cells (r.c.map .g)::o⟩)) (fun _ o=>(.ret,⟨[(2,B false)],[],.cells (r.c.map .g)::o⟩)) (by simp) (by simp) (fun k x _ o hk hx hy _ => ?_) (fun _ o _=>by delta L28_0;simp -implicitDefEqProofs [Req.c]) () [] trivial
 ·obtain ⟨o',hw⟩:=hw
  refine ⟨o',?_⟩
  rw [runG_all] at hw
  have e0:((0:Nat):Int)=0:=rfl
  simp only [e0] at hw
  rw [hw]
  cases allP cmpOk r.iff.l <;> rfl
 ·have e2:=wrap_succ hk hl
  delta L28_0
  obtain ⟨b1,b2,b3,b4,b5,b6,b7,b8,b9,b10,bi,bt,be⟩:=r
  simp only at hk hl hx hy e2 ⊢
  cases bi with
  | nil=>simp at hk
  | of l =>
   simp only [Sl.l_of] at hk hy e2 ⊢
   have h1:=texts2_ev x.key x.value
   have h2:=number2_ev x.n
   have hO:cmpOk x=(txtOk x.key x.value&&decide (1≤x.what)&&decide (x.what≤4)&&decide (1≤x.how)&&decide (x.how≤3)&&numOk x.n):=rfl
   generalize txtOk x.key x.value=b1 at h1 hO
   generalize numOk x.n=b2 at h2 hO
   cases hc:cmpOk x <;> rw [hc] at hO
   ·refine ⟨o++[.cells (x.c.map .g)],?_⟩
    cases b1
    ·simp -implicitDefEqProofs [hk,hy,Req.c,Cmp.c,h1,e2]
    ·by_cases k1:1≤x.what
     ·by_cases k2:x.what≤4
      ·by_cases k3:1≤x.how
       ·by_cases k4:x.how≤3
        ·cases b2
         ·simp -implicitDefEqProofs [hk,hy,Req.c,Cmp.c,h1,h2,e2,k1,k2,k3,k4,show ¬x.what<1 by omega,show ¬4<x.what by omega,show ¬x.how<1 by omega,show ¬3<x.how by omega]
         ·simp [k1,k2,k3,k4] at hO
        ·simp -implicitDefEqProofs [hk,hy,Req.c,Cmp.c,h1,h2,e2,k1,k2,k3,k4,show ¬x.what<1 by omega,show ¬4<x.what by omega,show ¬x.how<1 by omega,show 3<x.how by omega]
       ·simp -implicitDefEqProofs [hk,hy,Req.c,Cmp.c,h1,h2,e2,k1,k2,k3,show ¬x.what<1 by omega,show ¬4<x.what by omega,show x.how<1 by omega]
      ·simp -implicitDefEqProofs [hk,hy,Req.c,Cmp.c,h1,h2,e2,k1,k2,show ¬x.what<1 by omega,show 4<x.what by omega]
     ·simp -implicitDefEqProofs [hk,hy,Req.c,Cmp.c,h1,h2,e2,k1,show x.what<1 by omega]
   ·refine ⟨trivial,o++[.cells (x.c.map .g)],?_⟩
    symm at hO
    simp only [Bool.and_eq_true,decide_eq_true_eq] at hO
    obtain ⟨⟨⟨⟨⟨rfl,k1⟩,k2⟩,k3⟩,k4⟩,rfl⟩:=hO
    simp -implicitDefEqProofs [hk,hy,Req.c,Cmp.c,h1,h2,e2,k1,k2,k3,k4,show ¬x.what<1 by omega,show ¬4<x.what by omega,show ¬x.how<1 by omega,show ¬3<x.how by omega]
theorem MayAsk2_ev (r:Req) (w:RL r) (H:List Blk):EvF tab 28 [A r.c] H=some ⟨B (reqOk r),[],[]⟩:=by
 obtain ⟨o',hw⟩:=MayAsk2_loop r w.1 H
 have hm1:=muts2_ev r.thn w.2.1
 have hm2:=muts2_ev r.els w.2.2
 refine EvF_walk t28 (by simp) ?_
 obtain ⟨kind,who,seq,once,key,value,lease,rev,ttl,token,iff,thn,els⟩:=r
 unfold reqOk cmpsOk
 simp only at hw hm1 hm2 ⊢
 have ht:=texts2_ev key value
 have h1:=number2_ev who
 have h2:=number2_ev seq
 have h3:=number2_ev lease
 have h4:=number2_ev rev
 have h5:=number2_ev ttl
 have h6:=number2_ev token
 rw [show iff.l.all cmpOk=allP cmpOk iff.l from rfl]
 generalize txtOk key value=bt at ht ⊢
 generalize numOk who=n1 at h1 ⊢
 generalize numOk seq=n2 at h2 ⊢
 generalize numOk lease=n3 at h3 ⊢
 generalize numOk rev=n4 at h4 ⊢
 generalize numOk ttl=n5 at h5 ⊢
 generalize numOk token=n6 at h6 ⊢
 generalize mutsOk thn=m1 at hm1 ⊢
 generalize mutsOk els=m2 at hm2 ⊢
 simp only [Req.c,List.map_cons,List.map_nil] at hw
 by_cases k1:1≤kind
 ·by_cases k2:kind≤8
  ·cases n1
   ·simp -implicitDefEqProofs [A,Req.c,h1,k1,k2,show ¬kind<1 by omega,show ¬8<kind by omega]
   cases n2
   ·simp -implicitDefEqProofs [A,Req.c,h1,h2,k1,k2,show ¬kind<1 by omega,show ¬8<kind by omega]
   cases n3
   ·simp -implicitDefEqProofs [A,Req.c,h1,h2,h3,k1,k2,show ¬kind<1 by omega,show ¬8<kind by omega]
   cases n4
   ·simp -implicitDefEqProofs [A,Req.c,h1,h2,h3,h4,k1,k2,show ¬kind<1 by omega,show ¬8<kind by omega]
   cases n5
   ·simp -implicitDefEqProofs [A,Req.c,h1,h2,h3,h4,h5,k1,k2,show ¬kind<1 by omega,show ¬8<kind by omega]
   cases n6
   ·simp -implicitDefEqProofs [A,Req.c,h1,h2,h3,h4,h5,h6,k1,k2,show ¬kind<1 by omega,show ¬8<kind by omega]
   cases bt
   ·simp -implicitDefEqProofs [A,Req.c,h1,h2,h3,h4,h5,h6,ht,k1,k2,show ¬kind<1 by omega,show ¬8<kind by omega]
   by_cases k3:iff.l.length≤4
   ·cases hs:allP cmpOk iff.l <;> rw [hs] at hw <;> simp only [Bool.false_eq_true,if_true,if_false] at hw
    ·simp -implicitDefEqProofs [A,Req.c,h1,h2,h3,h4,h5,h6,ht,k1,k2,k3,hw,show ¬kind<1 by omega,show ¬8<kind by omega,show ¬(4:Int)<(iff.l.length:Int) by omega]
    ·cases m1 <;> simp -implicitDefEqProofs [A,Req.c,h1,h2,h3,h4,h5,h6,ht,hm1,hm2,k1,k2,k3,hw,show ¬kind<1 by omega,show ¬8<kind by omega,show ¬(4:Int)<(iff.l.length:Int) by omega]
   ·simp -implicitDefEqProofs [A,Req.c,h1,h2,h3,h4,h5,h6,ht,k1,k2,k3,show ¬kind<1 by omega,show ¬8<kind by omega,show (4:Int)<(iff.l.length:Int) by omega]
  ·simp -implicitDefEqProofs [A,Req.c,k1,k2,show ¬kind<1 by omega,show 8<kind by omega]
 ·simp -implicitDefEqProofs [A,Req.c,k1,show kind<1 by omega]
end Go.Proofs.YtndfdnlbljhlgaaGreat
end
