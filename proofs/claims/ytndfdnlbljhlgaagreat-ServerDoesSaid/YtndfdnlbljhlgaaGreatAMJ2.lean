/- Part of the proof: the abstract machine, part 2. No conditions. -/
import Derived.Test.YtndfdnlbljhlgaaGreatAMJ1
import Derived.Lib.Builder
import Derived.Lib.UnsafeStr
import Derived.MapKept
import Derived.Laws.BytesString
import Derived.RangeFuncLeaves
import Derived.OrdersIn
import Derived.LoopNIn
import Derived.Scope
set_option linter.unusedSimpArgs false
set_option linter.unusedVariables false
namespace Go.AM
open Go
def Vk (E:Env) (sz:Nat) (ys:List (List GV)) (news:List Value):Prop :=
 news.length=ys.length*sz∧∀(i:Nat) (el:List GV),ys[i]? = some el→el.length=sz∧∀(j:Nat) (g:GV),el[j]? = some g→∃u,news[i*sz+j]? = some u∧GR E g u
theorem Vk.one {E:Env} {sz:Nat} {ys:List (List GV)} {news:List Value} (h:Vk E sz ys news):∀u∈news,u.oneCell'=true:=by
 intro u hu
 obtain ⟨k,hk⟩:=List.getElem?_of_mem hu
 have hlt:k<ys.length*sz:=by rw [←h.1];exact (List.getElem?_eq_some_iff.1 hk).1
 have hsz:0<sz:=by
  rcases Nat.eq_zero_or_pos sz with e | e
  ·subst e;simp at hlt
  ·exact e
 have hi:k / sz<ys.length:=Nat.div_lt_of_lt_mul (by rw [Nat.mul_comm];exact hlt)
 obtain ⟨h1,h2⟩:=h.2 (k / sz) _ (List.getElem?_eq_getElem hi)
 have hj:k % sz<(ys[k / sz]).length:=by rw [h1];exact Nat.mod_lt _ hsz
 obtain ⟨u',e1,e2⟩:=h2 (k % sz) _ (List.getElem?_eq_getElem hj)
 rw [Nat.mul_comm,Nat.div_add_mod,hk] at e1
 cases e1
 exact e2.one
theorem Xm {i j i' sz:Nat} (h:i<i') (hj:j<sz):i*sz+j<i'*sz:=by
 have:=Nat.mul_le_mul_right sz (show i+1≤i' by omega)
 rw [Nat.add_mul] at this;omega
section
variable {P:Program} {h:List Blk} {s s':St} {a:Act} {w:World} {L:Nat→Lc} {v:AV} {ws:List Nat}
theorem Zu5 (hr:HR w (full h s) L) {t u ty e:TypeId} {sz bytes:Nat} {z:Value} (hzs:z.cells.size=sz) {x:AV} {cx y:Value} {ys:List (List GV)} {news:List Value} (hx:AR (Zc w (full h s) L) x cx) (hy:Vk (Zc w (full h s) L) sz ys news)
  (hroom:∀(A:Option Addr) (sLen sCap:Nat) (w2:World),sLen+ys.length≤sCap→(match A with | none=>w2=w | some a=>(storeCells (a.add (sLen*sz)) news).run P w = .ok () w2) →
   (Builtin.append_ #[t,u] ty #[.slice A sLen sCap,y]).run P w = .ok (.slice A (sLen+ys.length) sCap) w2)
  (hgrow:∀(A:Option Addr) (sLen sCap:Nat) (olds:List Value),¬sLen+ys.length≤sCap→sLen+ys.length≤9223372036854775807→(sLen+ys.length)*bytes≤140737488355328 →
   (∀w1:World,w1.heap=w.heap→(Builtin.firstCells sz sLen (.slice A sLen sCap)).run P w1 = .ok olds.toArray w1) →
   (Builtin.append_ #[t,u] ty #[.slice A sLen sCap,y]).run P w = .ok (.slice (some ⟨w.heap.size,0,none⟩) (sLen+ys.length) (grownCap w (sLen+ys.length) sCap e)) (W4 w (sLen+ys.length) sCap e z olds news))
  (he:Yh h s sz bytes x ys=some (v,s',ws)) :
  (∃cv w' L',(Builtin.append_ #[t,u] ty #[cx,y]).run P w = .ok cv w'∧AR (Zc w' (full h s') L') v cv∧HR w' (full h s') L'∧Ext (Zc w (full h s) L) (Zc w' (full h s') L')∧Same w w' (full h s) L L' ws)∧s'.t=s.t:=by
 have hgrows:∀(need old:Nat) (olds:List Value),Y1 w (W4 w need old e z olds news):=fun need old olds=>(Y1.drew w (w.drawn+1)).trans (Y1.push _ _)
 have fresh:∀(need old:Nat) (olds:List Value) (els:List (List GV)),Vk (Zc w (full h s) L) sz els olds→els.length+ys.length=need →
   RowsIn (Zc w (full h s) L) (olds.toArray++(news.toArray++Builtin.zeroCells z.cells (grownCap w need old e - need))) sz (grownCap w need old e) (els++ys):=by
  intro need old olds els hels hneed
  have hge:=grownCap_ge w need old e
  refine ⟨?_,by rw [List.length_append,hneed];exact hge,fun i el hi => ?_⟩
  ·simp only [Array.size_append,List.size_toArray,size_zeroCells,hzs,hels.1,hy.1]
   rw [←Nat.add_assoc,←Nat.add_mul,←Nat.add_mul,hneed,Nat.add_sub_of_le hge]
  ·by_cases hlt:i<els.length
   ·rw [List.getElem?_append_left hlt] at hi
    obtain ⟨h1,h2⟩:=hels.2 i el hi
    refine ⟨h1,fun j g hj => ?_⟩
    obtain ⟨q,q1,q2⟩:=h2 j g hj
    refine ⟨q,?_,q2⟩
    rw [Array.getElem?_append_left (by simpa using (List.getElem?_eq_some_iff.1 q1).1)]
    simpa using q1
   ·rw [List.getElem?_append_right (by omega)] at hi
    obtain ⟨h1,h2⟩:=hy.2 _ el hi
    refine ⟨h1,fun j g hj => ?_⟩
    obtain ⟨q,q1,q2⟩:=h2 j g hj
    refine ⟨q,?_,q2⟩
    have hle:els.length*sz≤i*sz+j:=Nat.le_trans (Nat.mul_le_mul_right sz (by omega:els.length≤i)) (Nat.le_add_right _ _)
    rw [Array.getElem?_append_right (by simp only [List.size_toArray,hels.1];exact hle),Array.getElem?_append_left]
    ·simp only [List.size_toArray,hels.1,List.getElem?_toArray]
     rw [←q1];congr 1
     rw [Nat.sub_mul]
     have:=Nat.mul_le_mul_right sz (by omega:els.length≤i)
     omega
    ·have:=(List.getElem?_eq_some_iff.1 q1).1
     simp only [List.size_toArray,hels.1]
     rw [Nat.sub_mul] at this
     have:=Nat.mul_le_mul_right sz (by omega:els.length≤i)
     omega
 have hempty:Vk (Zc w (full h s) L) sz [] []:=⟨by simp,by simp⟩
 unfold Yh at he
 split at he
 ·-- nothing is appended
  have hn0:news=[]:=List.eq_nil_of_length_eq_zero (by have:=hy.1;simpa using this)
  subst hn0
  have same:∀(A:Option Addr) (n cap:Nat),cx = .slice A n cap→n≤cap→(Builtin.append_ #[t,u] ty #[cx,y]).run P w = .ok cx w:=by
   intro A n cap e1 e2
   subst e1
   have:=hroom A n cap w (by simpa using e2) (by cases A <;> simp [storeCells])
   simpa using this
  split at he
  ·simp at he
   obtain ⟨rfl,rfl,rfl⟩:=he
   have hq:=hx.inv_g
   cases hq
   refine ⟨⟨_,w,L,same none 0 0 rfl (Nat.le_refl _),.g .nsl,hr,Ext.refl _,fun _ _ _=>⟨rfl,fun _ _ _=>rfl⟩⟩,rfl⟩
  ·split at he
   ·rename_i hc
    obtain ⟨rfl,hcur⟩:=hc
    simp at he
    obtain ⟨rfl,rfl,rfl⟩:=he
    obtain ⟨hid,hg0,hgen,hm⟩:=Qi hr hcur hx
    obtain ⟨A,cap,e1,e2⟩:=hm.slice
    exact ⟨⟨cx,w,L,same A _ cap e1 e2,hx,hr,Ext.refl _,fun _ _ _=>⟨rfl,fun _ _ _=>rfl⟩⟩,rfl⟩
   ·cases he
  ·cases he
 ·rename_i hne
  have hpos:0<ys.length:=by
   cases ys with
   | nil=>exact absurd rfl hne
   | cons=>simp
  split at he
  ·-- to nil
   split at he
   ·rename_i hrm
    simp at he
    obtain ⟨rfl,rfl,rfl⟩:=he
    have hrm':ys.length≤140737488355328∧ys.length*bytes≤140737488355328:=by simpa [room] using hrm
    have hq:=hx.inv_g
    cases hq
    have hrun:=hgrow none 0 0 [] (by omega) (by omega) (by simpa using hrm'.2) (fun w1 _=>by simp [Builtin.firstCells])
    obtain ⟨L',k1,k2,k3,k4⟩:=hr.newRows (hgrows (0+ys.length) 0 []) sz ys (grownCap w (0+ys.length) 0 e) _ e w.heap.size (Nat.le_refl _) (heap_alloc_new w.drew _) (by simpa using fresh (0+ys.length) 0 [] [] hempty (by simp)) []
    rw [Yw] at k4
    refine ⟨⟨_,_,L',hrun,?_,?_,?_,k3⟩,rfl⟩ <;> rw [Us]
    ·simpa using k4
    ·exact k1
    ·exact k2
   ·cases he
  ·-- to a row of the calls' own
   rename_i id g sz' off len
   cases hB:Yp h s id with
   | none=>simp [hB] at he
   | some k =>
    cases k <;> simp [hB] at he
    rename_i sz2 g' els
    obtain ⟨⟨rfl,rfl,rfl⟩,he⟩:=he
    have hcur:cur h s id g=true:=by simp [cur,hB]
    obtain ⟨hid,hg0,hgen,hm⟩:=Qi hr hcur hx
    have hget:(full h s)[id]? = some (.rows sz g els):=by rw [Z9];exact hB
    obtain ⟨hg1,⟨hg2,hg3⟩,hrow⟩:=hr.blk id _ hget
    have hg1':(L id).gen=g:=hg1
    have hg2':(L id).st=false:=hg2
    split at he
    ·-- there is room
     rename_i hfit
     simp at he
     obtain ⟨rfl,rfl,rfl⟩:=he
     cases hbk:(L id).blk with
     | none =>
      have:els=[]:=by
       have hb':(Zc w (full h s) L).L id=L id:=rfl
       rw [hb',hbk] at hrow;exact hrow.1
      subst this;simp only [List.length_nil] at hfit;omega
     | some b =>
      have hb':(Zc w (full h s) L).L id=L id:=rfl
      rw [hb',hbk] at hrow
      obtain ⟨T,C,hb2,hC1,hC2,hC3⟩:=hrow
      unfold Wb at hm
      rw [hbk] at hm
      obtain ⟨A,c,rfl,hoc,hlc,hA⟩:=hm
      have hA':A=⟨b,off*sz,none⟩:=hA.resolve_right (by omega)
      subst hA'
      have hC1':C.size=(L id).cap*sz:=hC1
      have hbound:(off*sz+len*sz)+news.length≤C.size:=by
       rw [hC1',hy.1,←Nat.add_mul,←Nat.add_mul];exact Nat.mul_le_mul_right _ (by omega)
      have hst:=V7 (P:=P) hb2 hbound hy.one
      have hrun:=hroom (some ⟨b,off*sz,none⟩) len c (w.setCells b (off*sz+len*sz) news) (by omega) (by simp only [Wq];exact hst)
      obtain ⟨e1,e2,e3⟩:=hr.storeInto (k' := .rows sz g (els.take (off+len)++(ys++els.drop (off+(len+ys.length))))) hget rfl hbk hb2 (o:=off*sz+len*sz) (vs:=news) hbound (fun C' z1 z2 hext z3=>by
       have hLid:(Zc (w.setCells b (off*sz+len*sz) news) ((full h s).set id (.rows sz g (els.take (off+len)++(ys++els.drop (off+(len+ys.length)))))) (Zw L id (L id))).L id=L id:=by show Zw L id (L id) id=_;rw [Zd]
       refine ⟨by rw [hLid];exact hg1,⟨by rw [hLid];exact hg2,hg3⟩,?_⟩
       rw [hLid,hbk]
       have hl1:(els.take (off+len)).length=off+len:=by simp;omega
       refine ⟨T,C',z3,by rw [z1];exact hC1,?_,fun i el hi => ?_⟩
       ·have:els.length≤(L id).cap:=hC2
        simp;omega
       ·by_cases hin:off+len≤i∧i<off+len+ys.length
        ·rw [List.getElem?_append_right (by omega),hl1,List.getElem?_append_left (by omega)] at hi
         obtain ⟨q1,q2⟩:=hy.2 _ el hi
         refine ⟨q1,fun j gv hj => ?_⟩
         obtain ⟨uu,u1,u2⟩:=q2 j gv hj
         have hjs:j<sz:=by rw [←q1];exact (List.getElem?_eq_some_iff.1 hj).1
         refine ⟨uu,?_,u2.mono hext⟩
         have hlow:(off+len)*sz≤i*sz:=Nat.mul_le_mul_right _ hin.1
         have hhigh:i*sz+j<(off+len+ys.length)*sz:=Xm hin.2 hjs
         rw [Nat.add_mul] at hlow
         rw [Nat.add_mul,Nat.add_mul] at hhigh
         rw [z2,if_pos (by rw [hy.1];omega),←u1]
         congr 1
         rw [Nat.sub_mul,Nat.add_mul];omega
        ·have hcs:els[i]? = some el:=by
          by_cases hlo:i<off+len
          ·rw [List.getElem?_append_left (by omega),List.getElem?_take_of_lt hlo] at hi;exact hi
          ·rw [List.getElem?_append_right (by omega),hl1,List.getElem?_append_right (by omega),List.getElem?_drop] at hi
           rw [←hi];congr 1;omega
         obtain ⟨q1,q2⟩:=hC3 i el hcs
         refine ⟨q1,fun j gv hj => ?_⟩
         obtain ⟨uu,u1,u2⟩:=q2 j gv hj
         have hjs:j<sz:=by rw [←q1];exact (List.getElem?_eq_some_iff.1 hj).1
         refine ⟨uu,?_,u2.mono hext⟩
         rw [z2,if_neg]
         ·exact u1
         ·rw [hy.1]
          rintro ⟨y1,y2⟩
          have hio:i<off+len∨off+len+ys.length≤i:=by omega
          rcases hio with hio | hio
          ·have:=Xm hio hjs
           rw [Nat.add_mul] at this;omega
          ·have:=Nat.mul_le_mul_right sz hio
           rw [Nat.add_mul,Nat.add_mul] at this;omega)
      refine ⟨⟨_,_,_,hrun,?_,?_,?_,e3⟩,Va _ _ _ _⟩ <;> rw [Yg]
      ·refine .ms (by simpa [Zc] using hid) ?_ ?_ rfl (fun _ => ?_) (fun _ => ?_)
       ·show 0<(Zw L id (L id) id).gen;rw [Zd];exact hg0
       ·show g≤(Zw L id (L id) id).gen;rw [Zd,hg1'];exact Nat.le_refl _
       ·show Wb (Zw L id (L id) id) _ _ _ _;rw [Zd]
        unfold Wb;rw [hbk]
        exact ⟨_,c,rfl,hoc,by omega,.inl rfl⟩
       ·show g=1↔(Zw L id (L id) id).blk=none;rw [Zd];exact K5 hr hcur hx
      ·exact e1
      ·exact e2
    ·-- it may go on in place,or elsewhere
     rename_i hfit
     simp at he
     obtain ⟨⟨rfl,hle,hrm⟩,rfl,rfl,rfl⟩:=he
     have hrm':len+ys.length≤140737488355328∧(len+ys.length)*bytes≤140737488355328:=by simpa [room] using hrm
     have hb':(Zc w (full h s) L).L id=L id:=rfl
     have stay:∀(k':Blk) (lc:Lc),k' = .rows sz (g+1) (els.take len++ys)→True:=fun _ _ _=>trivial
     cases hbk:(L id).blk with
     | none =>
      rw [hb',hbk] at hrow
      obtain ⟨rfl,hcap0⟩:=hrow
      unfold Wb at hm
      rw [hbk] at hm
      obtain ⟨rfl,_,rfl⟩:=hm
      have hrun:=hgrow none 0 0 [] (by omega) (by omega) hrm'.2 (fun w1 _=>by simp [Builtin.firstCells])
      have hfr:=fresh (0+ys.length) 0 [] [] hempty (by simp)
      obtain ⟨e1,e2⟩:=hr.turn (w':=W4 w (0+ys.length) 0 e z [] news) (k' := .rows sz (g+1) ([]++ys)) hget rfl ⟨some w.heap.size,g+1,grownCap w (0+ys.length) 0 e,false⟩ rfl rfl rfl (hgrows _ _ _).size (fun b hb _=>(hgrows _ _ _).old b hb)
       (.inr ⟨trivial,hg2',by simp only [hg1'];omega⟩) (by intro b hb;simp at hb;right;omega) (fun hext=>by
        have hLid:(Zc (W4 w (0+ys.length) 0 e z [] news) ((full h s).set id (.rows sz (g+1) ([]++ys))) (Zw L id ⟨some w.heap.size,g+1,grownCap w (0+ys.length) 0 e,false⟩)).L id=⟨some w.heap.size,g+1,grownCap w (0+ys.length) 0 e,false⟩:=Zd _ _ _
        refine ⟨by rw [hLid],⟨by rw [hLid],by omega⟩,?_⟩
        rw [hLid]
        exact ⟨e,_,(heap_alloc_new w.drew _),hfr.mono hext⟩)
      refine ⟨⟨_,_,Zw L id ⟨some w.heap.size,g+1,grownCap w (0+ys.length) 0 e,false⟩,hrun,?_,?_,?_,fun j hj hne=>⟨Yk _ _ _ (by simpa using hne),(Uu hr (hgrows _ _ _) [] j hj (by simp)).2⟩⟩,Va _ _ _ _⟩ <;> rw [Yg]
      ·simp only [List.take_nil,List.nil_append,Nat.zero_add] at *
       refine .ms (by simpa [Zc] using hid) ?_ ?_ rfl (fun _ => ?_) (fun _ => ?_)
       ·show 0<(Zw L id _ id).gen;rw [Zd];exact Nat.succ_pos _
       ·show g+1≤(Zw L id _ id).gen;rw [Zd];exact Nat.le_refl _
       ·show Wb (Zw L id _ id) _ _ _ _;rw [Zd]
        exact ⟨_,_,rfl,by simp,by have:=grownCap_ge w ys.length 0 e;omega,.inl (by simp)⟩
       ·show g+1=1↔(Zw L id _ id).blk=none;rw [Zd];constructor
        ·intro e;omega
        ·intro e;cases e
      ·simpa using e1
      ·simpa using e2
     | some b =>
      rw [hb',hbk] at hrow
      obtain ⟨T,C,hb2,hC1,hC2,hC3⟩:=hrow
      unfold Wb at hm
      rw [hbk] at hm
      obtain ⟨A,c,rfl,hoc,hlc,hA⟩:=hm
      simp only [Nat.zero_add,Nat.zero_mul] at hoc hA
      have hC1':C.size=(L id).cap*sz:=hC1
      have hC2':els.length≤(L id).cap:=hC2
      have hblt:b<w.heap.size:=(Array.getElem?_eq_some_iff.1 hb2).1
      by_cases hin:len+ys.length≤c
      ·-- in place
       have hA':A=⟨b,0,none⟩:=hA.resolve_right (by omega)
       subst hA'
       have hbound:(0+len*sz)+news.length≤C.size:=by
        rw [hC1',hy.1,Nat.zero_add,←Nat.add_mul];exact Nat.mul_le_mul_right _ (by omega)
       have hst:=V7 (P:=P) hb2 hbound hy.one
       have hrun:=hroom (some ⟨b,0,none⟩) len c (w.setCells b (0+len*sz) news) hin (by simp only [Wq];exact hst)
       obtain ⟨C',z3,z1,z2,z4,z5,z6,z7,z8⟩:=R8 b T (0,0) news (0+len*sz) w C hb2 hbound
       have hl1:(els.take len).length=len:=by simp;omega
       obtain ⟨e1,e2⟩:=hr.turn (w':=w.setCells b (0+len*sz) news) (k' := .rows sz (g+1) (els.take len++ys)) hget rfl ⟨some b,g+1,(L id).cap,false⟩ z5 z6 z7 (by rw [z8];exact Nat.le_refl _) (fun b' hb' hne=>z4 b' (fun e=>hne (by rw [e];exact hbk)))
        (.inr ⟨trivial,hg2',by simp only [hg1'];omega⟩) (by intro b' hb';simp at hb';left;rw [←hb'];exact hbk) (fun hext=>by
         have hLid:(Zc (w.setCells b (0+len*sz) news) ((full h s).set id (.rows sz (g+1) (els.take len++ys))) (Zw L id ⟨some b,g+1,(L id).cap,false⟩)).L id=⟨some b,g+1,(L id).cap,false⟩:=Zd _ _ _
         refine ⟨by rw [hLid],⟨by rw [hLid],by omega⟩,?_⟩
         rw [hLid]
         refine ⟨T,C',z3,by rw [z1];exact hC1,?_,fun i el hi => ?_⟩
         ·simp;omega
         ·by_cases hii:len≤i
          ·rw [List.getElem?_append_right (by omega),hl1] at hi
           obtain ⟨q1,q2⟩:=hy.2 _ el hi
           have hil:i - len<ys.length:=(List.getElem?_eq_some_iff.1 hi).1
           refine ⟨q1,fun j gv hj => ?_⟩
           obtain ⟨uu,u1,u2⟩:=q2 j gv hj
           have hjs:j<sz:=by rw [←q1];exact (List.getElem?_eq_some_iff.1 hj).1
           refine ⟨uu,?_,u2.mono hext⟩
           have hlow:len*sz≤i*sz:=Nat.mul_le_mul_right _ hii
           have hhigh:i*sz+j<(len+ys.length)*sz:=Xm (by omega) hjs
           rw [Nat.add_mul] at hhigh
           rw [z2,if_pos (by rw [hy.1];omega),←u1]
           congr 1
           rw [Nat.sub_mul];omega
          ·rw [List.getElem?_append_left (by omega),List.getElem?_take_of_lt (by omega)] at hi
           obtain ⟨q1,q2⟩:=hC3 i el hi
           refine ⟨q1,fun j gv hj => ?_⟩
           obtain ⟨uu,u1,u2⟩:=q2 j gv hj
           have hjs:j<sz:=by rw [←q1];exact (List.getElem?_eq_some_iff.1 hj).1
           refine ⟨uu,?_,u2.mono hext⟩
           rw [z2,if_neg]
           ·exact u1
           ·rintro ⟨y1,y2⟩
            have:=Xm (show i<len by omega) hjs
            omega)
       refine ⟨⟨_,_,Zw L id ⟨some b,g+1,(L id).cap,false⟩,hrun,?_,?_,?_,fun j hj hne=>⟨Yk _ _ _ (by simpa using hne),fun ⟨xx,hx',lx⟩ b' hb'=>z4 b' (fun e => ?_)⟩⟩,Va _ _ _ _⟩
       ·rw [Yg]
        refine .ms (by simpa [Zc] using hid) ?_ ?_ rfl (fun _ => ?_) (fun _ => ?_)
        ·show 0<(Zw L id _ id).gen;rw [Zd];exact Nat.succ_pos _
        ·show g+1≤(Zw L id _ id).gen;rw [Zd];exact Nat.le_refl _
        ·show Wb (Zw L id _ id) _ _ _ _;rw [Zd]
         exact ⟨_,c,rfl,by simp;omega,by omega,.inl (by simp)⟩
        ·show g+1=1↔(Zw L id _ id).blk=none;rw [Zd];constructor
         ·intro e;omega
         ·intro e;cases e
       ·rw [Yg];exact e1
       ·rw [Yg];exact e2
       ·subst e
        exact hne (by simp [hr.inj j id b' xx _ hx' hget lx rfl hb' hbk])
      ·-- elsewhere
       have holds:Vk (Zc w (full h s) L) sz (els.take len) ((C.toList.take (len*sz))):=by
        refine ⟨?_,fun i el hi => ?_⟩
        ·have:len*sz≤(L id).cap*sz:=Nat.mul_le_mul_right _ (by omega)
         simp only [List.length_take,Array.length_toList]
         rw [hC1',Nat.min_eq_left this,Nat.min_eq_left hle]
        ·rw [List.getElem?_take] at hi
         split at hi
         ·rename_i hilt
          obtain ⟨q1,q2⟩:=hC3 i el hi
          refine ⟨q1,fun j gv hj => ?_⟩
          obtain ⟨uu,u1,u2⟩:=q2 j gv hj
          have hjs:j<sz:=by rw [←q1];exact (List.getElem?_eq_some_iff.1 hj).1
          refine ⟨uu,?_,u2⟩
          rw [List.getElem?_take_of_lt (Xm hilt hjs)]
          simpa using u1
         ·cases hi
       have hrun:=hgrow (some A) len c (C.toList.take (len*sz)) hin (by omega) hrm'.2 (fun w1 hw1=>by
        by_cases hc0:c=0
        ·have hl0:len=0:=by omega
         subst hl0
         simp [Builtin.firstCells,loadCells,loadCellsFrom]
        ·have hA':A=⟨b,0,none⟩:=hA.resolve_right hc0
         subst hA'
         refine run_firstCells_some (P:=P) w1 sz len ⟨b,0,none⟩ len c _ ?_ (fun j q hj => ?_)
         ·have:len*sz≤(L id).cap*sz:=Nat.mul_le_mul_right _ (by omega)
          simp only [List.length_take,Array.length_toList]
          rw [hC1',Nat.min_eq_left this]
         ·rw [Wq]
          rw [List.getElem?_take] at hj
          split at hj
          ·have hb2':w.heap[b]? = some (.cells C T (0,0)):=hb2
           simp only [World.cell?,hw1,hb2',Nat.zero_add,Option.isSome_none,Bool.false_eq_true,if_false]
           simpa using hj
          ·cases hj)
       have hfr:=fresh (len+ys.length) c (C.toList.take (len*sz)) (els.take len) holds (by simp;omega)
       obtain ⟨e1,e2⟩:=hr.turn (w':=W4 w (len+ys.length) c e z (C.toList.take (len*sz)) news) (k' := .rows sz (g+1) (els.take len++ys)) hget rfl ⟨some w.heap.size,g+1,grownCap w (len+ys.length) c e,false⟩ rfl rfl rfl (hgrows _ _ _).size (fun b hb _=>(hgrows _ _ _).old b hb)
        (.inr ⟨trivial,hg2',by simp only [hg1'];omega⟩) (by intro b hb;simp at hb;right;omega) (fun hext=>by
         have hLid:(Zc (W4 w (len+ys.length) c e z (C.toList.take (len*sz)) news) ((full h s).set id (.rows sz (g+1) (els.take len++ys))) (Zw L id ⟨some w.heap.size,g+1,grownCap w (len+ys.length) c e,false⟩)).L id=⟨some w.heap.size,g+1,grownCap w (len+ys.length) c e,false⟩:=Zd _ _ _
         refine ⟨by rw [hLid],⟨by rw [hLid],by omega⟩,?_⟩
         rw [hLid]
         exact ⟨e,_,(heap_alloc_new w.drew _),hfr.mono hext⟩)
       refine ⟨⟨_,_,Zw L id ⟨some w.heap.size,g+1,grownCap w (len+ys.length) c e,false⟩,hrun,?_,?_,?_,fun j hj hne=>⟨Yk _ _ _ (by simpa using hne),(Uu hr (hgrows _ _ _) [] j hj (by simp)).2⟩⟩,Va _ _ _ _⟩ <;> rw [Yg]
       ·refine .ms (by simpa [Zc] using hid) ?_ ?_ rfl (fun _ => ?_) (fun _ => ?_)
        ·show 0<(Zw L id _ id).gen;rw [Zd];exact Nat.succ_pos _
        ·show g+1≤(Zw L id _ id).gen;rw [Zd];exact Nat.le_refl _
        ·show Wb (Zw L id _ id) _ _ _ _;rw [Zd]
         exact ⟨_,_,rfl,by simp,grownCap_ge _ _ _ _,.inl (by simp)⟩
        ·show g+1=1↔(Zw L id _ id).blk=none;rw [Zd];constructor
         ·intro e;omega
         ·intro e;cases e
       ·exact e1
       ·exact e2
  ·cases he
theorem Zpu (hr:HR w (full h s) L) {t u ty e:TypeId} {sz bytes:Nat} {z:Value} (hzs:z.cells.size=sz) {id g off len:Nat} {cx y:Value} {ys:List (List GV)} {news:List Value} (hx:AR (Zc w (full h s) L) (.ms id g sz off len) cx) (hy:Vk (Zc w (full h s) L) sz ys news)
  (hroom:∀(A:Option Addr) (sLen sCap:Nat) (w2:World),sLen+ys.length≤sCap→(match A with | none=>w2=w | some a=>(storeCells (a.add (sLen*sz)) news).run P w = .ok () w2) →
   (Builtin.append_ #[t,u] ty #[.slice A sLen sCap,y]).run P w = .ok (.slice A (sLen+ys.length) sCap) w2)
  (hgrow:∀(A:Option Addr) (sLen sCap:Nat) (olds:List Value),¬sLen+ys.length≤sCap→sLen+ys.length≤9223372036854775807→(sLen+ys.length)*bytes≤140737488355328 →
   (∀w1:World,w1.heap=w.heap→(Builtin.firstCells sz sLen (.slice A sLen sCap)).run P w1 = .ok olds.toArray w1) →
   (Builtin.append_ #[t,u] ty #[.slice A sLen sCap,y]).run P w = .ok (.slice (some ⟨w.heap.size,0,none⟩) (sLen+ys.length) (grownCap w (sLen+ys.length) sCap e)) (W4 w (sLen+ys.length) sCap e z olds news))
  (he:Hc e h s sz bytes id g off len ys=some (v,s',ws)) :
  (∃cv w' L',(Builtin.append_ #[t,u] ty #[cx,y]).run P w = .ok cv w'∧AR (Zc w' (full h s') L') v cv∧HR w' (full h s') L'∧Ext (Zc w (full h s) L) (Zc w' (full h s') L')∧Same w w' (full h s) L L' ws)∧s'.t=s.t:=by
 have hgrows:∀(need old:Nat) (olds:List Value),Y1 w (W4 w need old e z olds news):=fun need old olds=>(Y1.drew w (w.drawn+1)).trans (Y1.push _ _)
 have fresh:∀(need old:Nat) (olds:List Value) (els:List (List GV)),Vk (Zc w (full h s) L) sz els olds→els.length+ys.length=need →
   RowsIn (Zc w (full h s) L) (olds.toArray++(news.toArray++Builtin.zeroCells z.cells (grownCap w need old e - need))) sz (grownCap w need old e) (els++ys):=by
  intro need old olds els hels hneed
  have hge:=grownCap_ge w need old e
  refine ⟨?_,by rw [List.length_append,hneed];exact hge,fun i el hi => ?_⟩
  ·simp only [Array.size_append,List.size_toArray,size_zeroCells,hzs,hels.1,hy.1]
   rw [←Nat.add_assoc,←Nat.add_mul,←Nat.add_mul,hneed,Nat.add_sub_of_le hge]
  ·by_cases hlt:i<els.length
   ·rw [List.getElem?_append_left hlt] at hi
    obtain ⟨h1,h2⟩:=hels.2 i el hi
    refine ⟨h1,fun j g hj => ?_⟩
    obtain ⟨q,q1,q2⟩:=h2 j g hj
    refine ⟨q,?_,q2⟩
    rw [Array.getElem?_append_left (by simpa using (List.getElem?_eq_some_iff.1 q1).1)]
    simpa using q1
   ·rw [List.getElem?_append_right (by omega)] at hi
    obtain ⟨h1,h2⟩:=hy.2 _ el hi
    refine ⟨h1,fun j g hj => ?_⟩
    obtain ⟨q,q1,q2⟩:=h2 j g hj
    refine ⟨q,?_,q2⟩
    have hle:els.length*sz≤i*sz+j:=Nat.le_trans (Nat.mul_le_mul_right sz (by omega:els.length≤i)) (Nat.le_add_right _ _)
    rw [Array.getElem?_append_right (by simp only [List.size_toArray,hels.1];exact hle),Array.getElem?_append_left]
    ·simp only [List.size_toArray,hels.1,List.getElem?_toArray]
     rw [←q1];congr 1
     rw [Nat.sub_mul]
     have:=Nat.mul_le_mul_right sz (by omega:els.length≤i)
     omega
    ·have:=(List.getElem?_eq_some_iff.1 q1).1
     simp only [List.size_toArray,hels.1]
     rw [Nat.sub_mul] at this
     have:=Nat.mul_le_mul_right sz (by omega:els.length≤i)
     omega
 have hempty:Vk (Zc w (full h s) L) sz [] []:=⟨by simp,by simp⟩
 unfold Hc at he
 split at he
 ·-- nothing is appended
  have hn0:news=[]:=List.eq_nil_of_length_eq_zero (by have:=hy.1;simpa using this)
  subst hn0
  have same:∀(A:Option Addr) (n cap:Nat),cx = .slice A n cap→n≤cap→(Builtin.append_ #[t,u] ty #[cx,y]).run P w = .ok cx w:=by
   intro A n cap e1 e2
   subst e1
   have:=hroom A n cap w (by simpa using e2) (by cases A <;> simp [storeCells])
   simpa using this
  split at he
  ·rename_i hcur
   simp at he
   obtain ⟨rfl,rfl,rfl⟩:=he
   obtain ⟨hid,hg0,hgen,hm⟩:=Qi hr hcur hx
   obtain ⟨A,cap,e1,e2⟩:=hm.slice
   exact ⟨⟨cx,w,L,same A _ cap e1 e2,hx,hr,Ext.refl _,fun _ _ _=>⟨rfl,fun _ _ _=>rfl⟩⟩,rfl⟩
  ·cases he
 ·rename_i hne
  have hpos:0<ys.length:=by
   cases ys with
   | nil=>exact absurd rfl hne
   | cons=>simp
  cases hB:Yp h s id with
  | none=>simp [hB] at he
  | some k =>
   cases k <;> simp [hB] at he
   rename_i T sz2 g' els
   obtain ⟨⟨rfl,rfl,hTe⟩,he⟩:=he
   replace hTe:=hTe.symm
   subst hTe
   have hcur:cur h s id g=true:=by simp [cur,hB]
   obtain ⟨hid,hg0,hgen,hm⟩:=Qi hr hcur hx
   have hget:(full h s)[id]? = some (.trow e sz g els):=by rw [Z9];exact hB
   obtain ⟨hg1,⟨hg2,hg3⟩,hrow⟩:=hr.blk id _ hget
   have hg1':(L id).gen=g:=hg1
   have hg2':(L id).st=false:=hg2
   split at he
   ·-- there is room
    rename_i hfit
    simp at he
    obtain ⟨rfl,rfl,rfl⟩:=he
    cases hbk:(L id).blk with
    | none =>
     have:els=[]:=by
      have hb':(Zc w (full h s) L).L id=L id:=rfl
      rw [hb',hbk] at hrow;exact hrow.1
     subst this;simp only [List.length_nil] at hfit;omega
    | some b =>
     have hb':(Zc w (full h s) L).L id=L id:=rfl
     rw [hb',hbk] at hrow
     obtain ⟨C,hb2,hC1,hC2,hC3⟩:=hrow
     unfold Wb at hm
     rw [hbk] at hm
     obtain ⟨A,c,rfl,hoc,hlc,hA⟩:=hm
     have hA':A=⟨b,off*sz,none⟩:=hA.resolve_right (by omega)
     subst hA'
     have hC1':C.size=(L id).cap*sz:=hC1
     have hbound:(off*sz+len*sz)+news.length≤C.size:=by
      rw [hC1',hy.1,←Nat.add_mul,←Nat.add_mul];exact Nat.mul_le_mul_right _ (by omega)
     have hst:=V7 (P:=P) hb2 hbound hy.one
     have hrun:=hroom (some ⟨b,off*sz,none⟩) len c (w.setCells b (off*sz+len*sz) news) (by omega) (by simp only [Wq];exact hst)
     obtain ⟨e1,e2,e3⟩:=hr.storeInto (k' := .trow e sz g (els.take (off+len)++(ys++els.drop (off+(len+ys.length))))) hget rfl hbk hb2 (o:=off*sz+len*sz) (vs:=news) hbound (fun C' z1 z2 hext z3=>by
      have hLid:(Zc (w.setCells b (off*sz+len*sz) news) ((full h s).set id (.trow e sz g (els.take (off+len)++(ys++els.drop (off+(len+ys.length)))))) (Zw L id (L id))).L id=L id:=by show Zw L id (L id) id=_;rw [Zd]
      refine ⟨by rw [hLid];exact hg1,⟨by rw [hLid];exact hg2,hg3⟩,?_⟩
      rw [hLid,hbk]
      have hl1:(els.take (off+len)).length=off+len:=by simp;omega
      refine ⟨C',z3,by rw [z1];exact hC1,?_,fun i el hi => ?_⟩
      ·have:els.length≤(L id).cap:=hC2
       simp;omega
      ·by_cases hin:off+len≤i∧i<off+len+ys.length
       ·rw [List.getElem?_append_right (by omega),hl1,List.getElem?_append_left (by omega)] at hi
        obtain ⟨q1,q2⟩:=hy.2 _ el hi
        refine ⟨q1,fun j gv hj => ?_⟩
        obtain ⟨uu,u1,u2⟩:=q2 j gv hj
        have hjs:j<sz:=by rw [←q1];exact (List.getElem?_eq_some_iff.1 hj).1
        refine ⟨uu,?_,u2.mono hext⟩
        have hlow:(off+len)*sz≤i*sz:=Nat.mul_le_mul_right _ hin.1
        have hhigh:i*sz+j<(off+len+ys.length)*sz:=Xm hin.2 hjs
        rw [Nat.add_mul] at hlow
        rw [Nat.add_mul,Nat.add_mul] at hhigh
        rw [z2,if_pos (by rw [hy.1];omega),←u1]
        congr 1
        rw [Nat.sub_mul,Nat.add_mul];omega
       ·have hcs:els[i]? = some el:=by
         by_cases hlo:i<off+len
         ·rw [List.getElem?_append_left (by omega),List.getElem?_take_of_lt hlo] at hi;exact hi
         ·rw [List.getElem?_append_right (by omega),hl1,List.getElem?_append_right (by omega),List.getElem?_drop] at hi
          rw [←hi];congr 1;omega
        obtain ⟨q1,q2⟩:=hC3 i el hcs
        refine ⟨q1,fun j gv hj => ?_⟩
        obtain ⟨uu,u1,u2⟩:=q2 j gv hj
        have hjs:j<sz:=by rw [←q1];exact (List.getElem?_eq_some_iff.1 hj).1
        refine ⟨uu,?_,u2.mono hext⟩
        rw [z2,if_neg]
        ·exact u1
        ·rw [hy.1]
         rintro ⟨y1,y2⟩
         have hio:i<off+len∨off+len+ys.length≤i:=by omega
         rcases hio with hio | hio
         ·have:=Xm hio hjs
          rw [Nat.add_mul] at this;omega
         ·have:=Nat.mul_le_mul_right sz hio
          rw [Nat.add_mul,Nat.add_mul] at this;omega)
     refine ⟨⟨_,_,_,hrun,?_,?_,?_,e3⟩,Va _ _ _ _⟩ <;> rw [Yg]
     ·refine .ms (by simpa [Zc] using hid) ?_ ?_ rfl (fun _ => ?_) (fun _ => ?_)
      ·show 0<(Zw L id (L id) id).gen;rw [Zd];exact hg0
      ·show g≤(Zw L id (L id) id).gen;rw [Zd,hg1'];exact Nat.le_refl _
      ·show Wb (Zw L id (L id) id) _ _ _ _;rw [Zd]
       unfold Wb;rw [hbk]
       exact ⟨_,c,rfl,hoc,by omega,.inl rfl⟩
      ·show g=1↔(Zw L id (L id) id).blk=none;rw [Zd];exact K5 hr hcur hx
     ·exact e1
     ·exact e2
   ·-- it may go on in place,or elsewhere
    rename_i hfit
    simp at he
    obtain ⟨⟨rfl,hle,hrm⟩,rfl,rfl,rfl⟩:=he
    have hrm':len+ys.length≤140737488355328∧(len+ys.length)*bytes≤140737488355328:=by simpa [room] using hrm
    have hb':(Zc w (full h s) L).L id=L id:=rfl
    have stay:∀(k':Blk) (lc:Lc),k' = .trow e sz (g+1) (els.take len++ys)→True:=fun _ _ _=>trivial
    cases hbk:(L id).blk with
    | none =>
     rw [hb',hbk] at hrow
     obtain ⟨rfl,hcap0⟩:=hrow
     unfold Wb at hm
     rw [hbk] at hm
     obtain ⟨rfl,_,rfl⟩:=hm
     have hrun:=hgrow none 0 0 [] (by omega) (by omega) hrm'.2 (fun w1 _=>by simp [Builtin.firstCells])
     have hfr:=fresh (0+ys.length) 0 [] [] hempty (by simp)
     obtain ⟨e1,e2⟩:=hr.turn (w':=W4 w (0+ys.length) 0 e z [] news) (k' := .trow e sz (g+1) ([]++ys)) hget rfl ⟨some w.heap.size,g+1,grownCap w (0+ys.length) 0 e,false⟩ rfl rfl rfl (hgrows _ _ _).size (fun b hb _=>(hgrows _ _ _).old b hb)
      (.inr ⟨trivial,hg2',by simp only [hg1'];omega⟩) (by intro b hb;simp at hb;right;omega) (fun hext=>by
       have hLid:(Zc (W4 w (0+ys.length) 0 e z [] news) ((full h s).set id (.trow e sz (g+1) ([]++ys))) (Zw L id ⟨some w.heap.size,g+1,grownCap w (0+ys.length) 0 e,false⟩)).L id=⟨some w.heap.size,g+1,grownCap w (0+ys.length) 0 e,false⟩:=Zd _ _ _
       refine ⟨by rw [hLid],⟨by rw [hLid],by omega⟩,?_⟩
       rw [hLid]
       exact ⟨_,(heap_alloc_new w.drew _),hfr.mono hext⟩)
     refine ⟨⟨_,_,Zw L id ⟨some w.heap.size,g+1,grownCap w (0+ys.length) 0 e,false⟩,hrun,?_,?_,?_,fun j hj hne=>⟨Yk _ _ _ (by simpa using hne),(Uu hr (hgrows _ _ _) [] j hj (by simp)).2⟩⟩,Va _ _ _ _⟩ <;> rw [Yg]
     ·simp only [List.take_nil,List.nil_append,Nat.zero_add] at *
      refine .ms (by simpa [Zc] using hid) ?_ ?_ rfl (fun _ => ?_) (fun _ => ?_)
      ·show 0<(Zw L id _ id).gen;rw [Zd];exact Nat.succ_pos _
      ·show g+1≤(Zw L id _ id).gen;rw [Zd];exact Nat.le_refl _
      ·show Wb (Zw L id _ id) _ _ _ _;rw [Zd]
       exact ⟨_,_,rfl,by simp,by have:=grownCap_ge w ys.length 0 e;omega,.inl (by simp)⟩
      ·show g+1=1↔(Zw L id _ id).blk=none;rw [Zd];constructor
       ·intro e;omega
       ·intro e;cases e
     ·simpa using e1
     ·simpa using e2
    | some b =>
     rw [hb',hbk] at hrow
     obtain ⟨C,hb2,hC1,hC2,hC3⟩:=hrow
     unfold Wb at hm
     rw [hbk] at hm
     obtain ⟨A,c,rfl,hoc,hlc,hA⟩:=hm
     simp only [Nat.zero_add,Nat.zero_mul] at hoc hA
     have hC1':C.size=(L id).cap*sz:=hC1
     have hC2':els.length≤(L id).cap:=hC2
     have hblt:b<w.heap.size:=(Array.getElem?_eq_some_iff.1 hb2).1
     by_cases hin:len+ys.length≤c
     ·-- in place
      have hA':A=⟨b,0,none⟩:=hA.resolve_right (by omega)
      subst hA'
      have hbound:(0+len*sz)+news.length≤C.size:=by
       rw [hC1',hy.1,Nat.zero_add,←Nat.add_mul];exact Nat.mul_le_mul_right _ (by omega)
      have hst:=V7 (P:=P) hb2 hbound hy.one
      have hrun:=hroom (some ⟨b,0,none⟩) len c (w.setCells b (0+len*sz) news) hin (by simp only [Wq];exact hst)
      obtain ⟨C',z3,z1,z2,z4,z5,z6,z7,z8⟩:=R8 b e (0,0) news (0+len*sz) w C hb2 hbound
      have hl1:(els.take len).length=len:=by simp;omega
      obtain ⟨e1,e2⟩:=hr.turn (w':=w.setCells b (0+len*sz) news) (k' := .trow e sz (g+1) (els.take len++ys)) hget rfl ⟨some b,g+1,(L id).cap,false⟩ z5 z6 z7 (by rw [z8];exact Nat.le_refl _) (fun b' hb' hne=>z4 b' (fun e=>hne (by rw [e];exact hbk)))
       (.inr ⟨trivial,hg2',by simp only [hg1'];omega⟩) (by intro b' hb';simp at hb';left;rw [←hb'];exact hbk) (fun hext=>by
        have hLid:(Zc (w.setCells b (0+len*sz) news) ((full h s).set id (.trow e sz (g+1) (els.take len++ys))) (Zw L id ⟨some b,g+1,(L id).cap,false⟩)).L id=⟨some b,g+1,(L id).cap,false⟩:=Zd _ _ _
        refine ⟨by rw [hLid],⟨by rw [hLid],by omega⟩,?_⟩
        rw [hLid]
        refine ⟨C',z3,by rw [z1];exact hC1,?_,fun i el hi => ?_⟩
        ·simp;omega
        ·by_cases hii:len≤i
         ·rw [List.getElem?_append_right (by omega),hl1] at hi
          obtain ⟨q1,q2⟩:=hy.2 _ el hi
          have hil:i - len<ys.length:=(List.getElem?_eq_some_iff.1 hi).1
          refine ⟨q1,fun j gv hj => ?_⟩
          obtain ⟨uu,u1,u2⟩:=q2 j gv hj
          have hjs:j<sz:=by rw [←q1];exact (List.getElem?_eq_some_iff.1 hj).1
          refine ⟨uu,?_,u2.mono hext⟩
          have hlow:len*sz≤i*sz:=Nat.mul_le_mul_right _ hii
          have hhigh:i*sz+j<(len+ys.length)*sz:=Xm (by omega) hjs
          rw [Nat.add_mul] at hhigh
          rw [z2,if_pos (by rw [hy.1];omega),←u1]
          congr 1
          rw [Nat.sub_mul];omega
         ·rw [List.getElem?_append_left (by omega),List.getElem?_take_of_lt (by omega)] at hi
          obtain ⟨q1,q2⟩:=hC3 i el hi
          refine ⟨q1,fun j gv hj => ?_⟩
          obtain ⟨uu,u1,u2⟩:=q2 j gv hj
          have hjs:j<sz:=by rw [←q1];exact (List.getElem?_eq_some_iff.1 hj).1
          refine ⟨uu,?_,u2.mono hext⟩
          rw [z2,if_neg]
          ·exact u1
          ·rintro ⟨y1,y2⟩
           have:=Xm (show i<len by omega) hjs
           omega)
      refine ⟨⟨_,_,Zw L id ⟨some b,g+1,(L id).cap,false⟩,hrun,?_,?_,?_,fun j hj hne=>⟨Yk _ _ _ (by simpa using hne),fun ⟨xx,hx',lx⟩ b' hb'=>z4 b' (fun e => ?_)⟩⟩,Va _ _ _ _⟩
      ·rw [Yg]
       refine .ms (by simpa [Zc] using hid) ?_ ?_ rfl (fun _ => ?_) (fun _ => ?_)
       ·show 0<(Zw L id _ id).gen;rw [Zd];exact Nat.succ_pos _
       ·show g+1≤(Zw L id _ id).gen;rw [Zd];exact Nat.le_refl _
       ·show Wb (Zw L id _ id) _ _ _ _;rw [Zd]
        exact ⟨_,c,rfl,by simp;omega,by omega,.inl (by simp)⟩
       ·show g+1=1↔(Zw L id _ id).blk=none;rw [Zd];constructor
        ·intro e;omega
        ·intro e;cases e
      ·rw [Yg];exact e1
      ·rw [Yg];exact e2
      ·subst e
       exact hne (by simp [hr.inj j id b' xx _ hx' hget lx rfl hb' hbk])
     ·-- elsewhere
      have holds:Vk (Zc w (full h s) L) sz (els.take len) ((C.toList.take (len*sz))):=by
       refine ⟨?_,fun i el hi => ?_⟩
       ·have:len*sz≤(L id).cap*sz:=Nat.mul_le_mul_right _ (by omega)
        simp only [List.length_take,Array.length_toList]
        rw [hC1',Nat.min_eq_left this,Nat.min_eq_left hle]
       ·rw [List.getElem?_take] at hi
        split at hi
        ·rename_i hilt
         obtain ⟨q1,q2⟩:=hC3 i el hi
         refine ⟨q1,fun j gv hj => ?_⟩
         obtain ⟨uu,u1,u2⟩:=q2 j gv hj
         have hjs:j<sz:=by rw [←q1];exact (List.getElem?_eq_some_iff.1 hj).1
         refine ⟨uu,?_,u2⟩
         rw [List.getElem?_take_of_lt (Xm hilt hjs)]
         simpa using u1
        ·cases hi
      have hrun:=hgrow (some A) len c (C.toList.take (len*sz)) hin (by omega) hrm'.2 (fun w1 hw1=>by
       by_cases hc0:c=0
       ·have hl0:len=0:=by omega
        subst hl0
        simp [Builtin.firstCells,loadCells,loadCellsFrom]
       ·have hA':A=⟨b,0,none⟩:=hA.resolve_right hc0
        subst hA'
        refine run_firstCells_some (P:=P) w1 sz len ⟨b,0,none⟩ len c _ ?_ (fun j q hj => ?_)
        ·have:len*sz≤(L id).cap*sz:=Nat.mul_le_mul_right _ (by omega)
         simp only [List.length_take,Array.length_toList]
         rw [hC1',Nat.min_eq_left this]
        ·rw [Wq]
         rw [List.getElem?_take] at hj
         split at hj
         ·have hb2':w.heap[b]? = some (.cells C e (0,0)):=hb2
          simp only [World.cell?,hw1,hb2',Nat.zero_add,Option.isSome_none,Bool.false_eq_true,if_false]
          simpa using hj
         ·cases hj)
      have hfr:=fresh (len+ys.length) c (C.toList.take (len*sz)) (els.take len) holds (by simp;omega)
      obtain ⟨e1,e2⟩:=hr.turn (w':=W4 w (len+ys.length) c e z (C.toList.take (len*sz)) news) (k' := .trow e sz (g+1) (els.take len++ys)) hget rfl ⟨some w.heap.size,g+1,grownCap w (len+ys.length) c e,false⟩ rfl rfl rfl (hgrows _ _ _).size (fun b hb _=>(hgrows _ _ _).old b hb)
       (.inr ⟨trivial,hg2',by simp only [hg1'];omega⟩) (by intro b hb;simp at hb;right;omega) (fun hext=>by
        have hLid:(Zc (W4 w (len+ys.length) c e z (C.toList.take (len*sz)) news) ((full h s).set id (.trow e sz (g+1) (els.take len++ys))) (Zw L id ⟨some w.heap.size,g+1,grownCap w (len+ys.length) c e,false⟩)).L id=⟨some w.heap.size,g+1,grownCap w (len+ys.length) c e,false⟩:=Zd _ _ _
        refine ⟨by rw [hLid],⟨by rw [hLid],by omega⟩,?_⟩
        rw [hLid]
        exact ⟨_,(heap_alloc_new w.drew _),hfr.mono hext⟩)
      refine ⟨⟨_,_,Zw L id ⟨some w.heap.size,g+1,grownCap w (len+ys.length) c e,false⟩,hrun,?_,?_,?_,fun j hj hne=>⟨Yk _ _ _ (by simpa using hne),(Uu hr (hgrows _ _ _) [] j hj (by simp)).2⟩⟩,Va _ _ _ _⟩ <;> rw [Yg]
      ·refine .ms (by simpa [Zc] using hid) ?_ ?_ rfl (fun _ => ?_) (fun _ => ?_)
       ·show 0<(Zw L id _ id).gen;rw [Zd];exact Nat.succ_pos _
       ·show g+1≤(Zw L id _ id).gen;rw [Zd];exact Nat.le_refl _
       ·show Wb (Zw L id _ id) _ _ _ _;rw [Zd]
        exact ⟨_,_,rfl,by simp,grownCap_ge _ _ _ _,.inl (by simp)⟩
       ·show g+1=1↔(Zw L id _ id).blk=none;rw [Zd];constructor
        ·intro e;omega
        ·intro e;cases e
      ·exact e1
      ·exact e2
end
section
variable {P:Program} {h:List Blk} {s s':St} {a:Act} {w:World} {L:Nat→Lc} {v:AV} {ws:List Nat} {drw:Option Nat} {nb:Nat}
theorem Vk.of {E:Env} {sz:Nat} {ys:List (List GV)} (hsz:∀(i:Nat) (el:List GV),ys[i]? = some el→el.length=sz) (f:Nat→Value)
  (hf:∀(i:Nat) (el:List GV) (j:Nat) (g:GV),ys[i]? = some el→el[j]? = some g→GR E g (f (i*sz+j))):Vk E sz ys ((List.range (ys.length*sz)).map f):=by
 refine ⟨by simp,fun i el hi=>⟨hsz i el hi,fun j g hj=>⟨f (i*sz+j),?_,hf i el j g hi hj⟩⟩⟩
 have hil:i<ys.length:=(List.getElem?_eq_some_iff.1 hi).1
 have hjl:j<sz:=by rw [←hsz i el hi];exact (List.getElem?_eq_some_iff.1 hj).1
 rw [List.getElem?_map,List.getElem?_range (Xm hil hjl)];rfl
theorem Nv {sz n:Nat} {b o cap:Nat} {len:Nat} (f:Nat→Value) (w1:World) (hf:∀k,k<n*sz→w1.cell? ⟨b,o+k,none⟩=some (f k)) :
  (Builtin.firstCells sz n (.slice (some ⟨b,o,none⟩) len cap)).run P w1 = .ok ((List.range (n*sz)).map f).toArray w1:=by
 refine run_firstCells_some (P:=P) w1 sz n ⟨b,o,none⟩ len cap _ (by simp) (fun j q hj => ?_)
 rw [Wq]
 rw [List.getElem?_map] at hj
 by_cases hl:j<n*sz
 ·rw [List.getElem?_range hl] at hj
  simp at hj
  subst hj
  exact hf j hl
 ·rw [List.getElem?_eq_none (by simp;omega)] at hj;cases hj
theorem Mo {k n sz:Nat} (h:k<n*sz):0<sz∧k / sz<n∧k % sz<sz∧k / sz*sz+k % sz=k:=by
 have hsz:0<sz:=by
  rcases Nat.eq_zero_or_pos sz with e | e
  ·subst e;simp at h
  ·exact e
 exact ⟨hsz,Nat.div_lt_of_lt_mul (by rw [Nat.mul_comm];exact h),Nat.mod_lt _ hsz,by rw [Nat.mul_comm];exact Nat.div_add_mod _ _⟩
theorem Zbe (hr:HR w (full h s) L) {sz:Nat} {x:AV} {cx:Value} {ys:List (List GV)} (hv:Vs h s sz x=some ys) (hx:AR (Zc w (full h s) L) x cx) :
  ∃A cap news,cx = .slice A ys.length cap∧ys.length≤cap∧Vk (Zc w (full h s) L) sz ys news∧∀w1:World,w1.heap=w.heap→(Builtin.firstCells sz ys.length cx).run P w1 = .ok news.toArray w1:=by
 have hempty:Vk (Zc w (full h s) L) sz [] []:=⟨by simp,by simp⟩
 have hrows:∀(id b g sz' off len:Nat) (els:List (List GV)) (T:TypeId) (C:Array Value) (fr:Nat×Nat),sz=sz'→Wb (L id) sz' off len cx→(L id).blk=some b→w.heap[b]? = some (.cells C T fr)→RowsIn (Zc w (full h s) L) C sz (L id).cap els →
   ((els.drop off).take len).length=len→∃A cap news,cx = .slice A ((els.drop off).take len).length cap∧((els.drop off).take len).length≤cap∧Vk (Zc w (full h s) L) sz ((els.drop off).take len) news∧∀w1:World,w1.heap=w.heap→(Builtin.firstCells sz ((els.drop off).take len).length cx).run P w1 = .ok news.toArray w1:=by
  intro id b g sz' off len els T C fr e hm hbk hb hC hlen
  subst e
  obtain ⟨hC1,hC2,hC3⟩:=hC
  unfold Wb at hm
  rw [hbk] at hm
  obtain ⟨A,c,rfl,h1,h2,h3⟩:=hm
  have hC2':els.length≤(L id).cap:=hC2
  have hget:∀i el,((els.drop off).take len)[i]? = some el→els[off+i]? = some el∧i<len:=by
   intro i el hi
   rw [List.getElem?_take] at hi
   split at hi
   ·rw [List.getElem?_drop] at hi;exact ⟨hi,by assumption⟩
   ·cases hi
  by_cases hl0:len=0
  ·subst hl0
   refine ⟨some A,c,[],by simp,by simp,by simpa using hempty,fun w1 _ => ?_⟩
   simp [Builtin.firstCells,loadCells,loadCellsFrom]
  ·have hA:A=⟨b,off*sz,none⟩:=h3.resolve_right (by omega)
   subst hA
   let f:Nat→Value:=fun k=>C.getD (off*sz+k) Go.undef
   have hns:Vk (Zc w (full h s) L) sz ((els.drop off).take len) ((List.range (((els.drop off).take len).length*sz)).map f):=Vk.of (fun i el hi=>(hC3 _ el (hget i el hi).1).1) f (fun i el j g hi hj=>by
    obtain ⟨q1,q2⟩:=hC3 _ el (hget i el hi).1
    obtain ⟨u,u1,u2⟩:=q2 j g hj
    have:f (i*sz+j)=u:=by
     show C.getD (off*sz+(i*sz+j)) Go.undef=u
     rw [←Nat.add_assoc,←Nat.add_mul,Array.getD_eq_getD_getElem?,u1];rfl
    rw [this];exact u2)
   refine ⟨_,c,_,by rw [hlen],by rw [hlen];exact h2,hns,fun w1 hw1 => ?_⟩
   refine Nv f w1 (fun k hk => ?_)
   obtain ⟨d1,d2,d3,d4⟩:=Mo hk
   obtain ⟨q1,q2⟩:=hC3 (off+k / sz) _ (hget _ _ (List.getElem?_eq_getElem d2)).1
   obtain ⟨u,u1,u2⟩:=q2 (k % sz) _ (List.getElem?_eq_getElem (by rw [q1];exact d3))
   have e1:(off+k / sz)*sz+k % sz=off*sz+k:=by rw [Nat.add_mul];omega
   rw [e1] at u1
   have hb':w1.heap[b]? = some (.cells C T fr):=by rw [hw1];exact hb
   show w1.cell? _=some (C.getD (off*sz+k) Go.undef)
   simp [World.cell?,hb',Array.getD_eq_getD_getElem?,u1]
 unfold Vs at hv
 split at hv
 ·rename_i sz' els
  split at hv
  ·rename_i e
   subst e
   cases hv
   have hq:=hx.inv_g
   cases hq with
   | @sl _ b o cap _ c hcap hb hO hsz hc hg =>
    let f:Nat→Value:=fun k=>c (k / sz) (k % sz)
    have hmod:∀i j,j<sz→(i*sz+j) / sz=i∧(i*sz+j) % sz=j:=by
     intro i j hj
     have hpos:0<sz:=by omega
     exact ⟨by rw [Nat.mul_comm,Nat.mul_add_div hpos,Nat.div_eq_of_lt hj,Nat.add_zero],by rw [Nat.mul_comm,Nat.mul_add_mod,Nat.mod_eq_of_lt hj]⟩
    have hns:Vk (Zc w (full h s) L) sz ys ((List.range (ys.length*sz)).map f):=Vk.of hsz f (fun i el j g hi hj=>by
     have hjs:j<sz:=by rw [←hsz i el hi];exact (List.getElem?_eq_some_iff.1 hj).1
     obtain ⟨m1,m2⟩:=hmod i j hjs
     show GR _ g (c ((i*sz+j) / sz) ((i*sz+j) % sz))
     rw [m1,m2];exact hg i el j g hi hj)
    refine ⟨_,cap,_,rfl,hcap,hns,fun w1 hw1=>Nv f w1 (fun k hk => ?_)⟩
    obtain ⟨d1,d2,d3,d4⟩:=Mo hk
    have hel:=List.getElem?_eq_getElem d2
    have hlk:k % sz<(ys[k / sz]).length:=by rw [hsz _ _ hel];exact d3
    have hj:(ys[k / sz])[k % sz]? = some ((ys[k / sz])[k % sz]'hlk):=List.getElem?_eq_getElem hlk
    have:=hc _ _ _ _ hel hj
    rw [Nat.add_assoc,d4] at this
    have hcell:w1.cell? ⟨b,o+k,none⟩=w.cell? ⟨b,o+k,none⟩:=by simp [World.cell?,hw1]
    rw [hcell];exact this
   | sl0 _ A cap=>exact ⟨some A,cap,[],rfl,by simp,hempty,fun w1 _=>by simp [Builtin.firstCells,loadCells,loadCellsFrom]⟩
  ·cases hv
 ·cases hv
  have hq:=hx.inv_g
  cases hq
  exact ⟨none,0,[],rfl,by simp,hempty,fun w1 _=>by simp [Builtin.firstCells]⟩
 ·rename_i id g sz' off len
  split at hv
  ·rename_i e
   cases hB:Yp h s id with
   | none=>simp [hB] at hv
   | some k =>
    have hcur:∀(q1 q2:Nat) (q3:List (List GV)),(k = .rows q1 q2 q3∨k = .fro q1 q2 q3)→g=q2→cur h s id g=true:=by
     rintro q1 q2 q3 (rfl | rfl) rfl <;> simp [cur,hB]
    have hget:(full h s)[id]? = some k:=by rw [Z9];exact hB
    have hHB:=hr.blk id _ hget
    have fin:∀(sz2 g2:Nat) (els:List (List GV)),g=g2→(k = .rows sz2 g2 els∨k = .fro sz2 g2 els)→sz2=sz→off+len≤els.length→ys=(els.drop off).take len →
      ∃A cap news,cx = .slice A ys.length cap∧ys.length≤cap∧Vk (Zc w (full h s) L) sz ys news∧∀w1:World,w1.heap=w.heap→(Builtin.firstCells sz ys.length cx).run P w1 = .ok news.toArray w1:=by
     intro sz2 g2 els hg hk hs2 hlen hys
     subst hg hys hs2
     obtain ⟨hid,hg0,hgen,hm⟩:=Qi hr (hcur sz2 g els hk rfl) hx
     have hlen':((els.drop off).take len).length=len:=by simp;omega
     cases hbk:(L id).blk with
     | none =>
      have hels:els=[]:=by
       rcases hk with rfl | rfl
       ·obtain ⟨_,_,hrow⟩:=hHB;rw [show (Zc w (full h s) L).L id=L id from rfl,hbk] at hrow;exact hrow.1
       ·obtain ⟨_,_,hrow⟩:=hHB;rw [show (Zc w (full h s) L).L id=L id from rfl,hbk] at hrow;exact hrow.1
      subst hels
      unfold Wb at hm
      rw [hbk] at hm
      obtain ⟨rfl,_,rfl⟩:=hm
      exact ⟨none,0,[],by simp,by simp,by simpa using hempty,fun w1 _=>by simp [Builtin.firstCells]⟩
     | some b =>
      rcases hk with rfl | rfl
      ·obtain ⟨_,_,hrow⟩:=hHB
       rw [show (Zc w (full h s) L).L id=L id from rfl,hbk] at hrow
       obtain ⟨T,C,hb,hC⟩:=hrow
       exact hrows id b g sz' off len els T C (0,0) e hm hbk hb hC hlen'
      ·obtain ⟨_,_,hrow⟩:=hHB
       rw [show (Zc w (full h s) L).L id=L id from rfl,hbk] at hrow
       obtain ⟨_,_,T,C,fr,hb,hC⟩:=hrow
       exact hrows id b g sz' off len els T C fr e hm hbk hb hC hlen'
    cases k <;> simp [hB] at hv
    ·obtain ⟨⟨h1,h2,h3⟩,h4⟩:=hv;exact fin _ _ _ h1 (.inl rfl) h2 h3 h4.symm
    ·obtain ⟨⟨h1,h2,h3⟩,h4⟩:=hv;exact fin _ _ _ h1 (.inr rfl) h2 h3 h4.symm
  ·cases hv
 ·cases hv
end
theorem Mp {P:Program} (w:World):∀(l:List Int) (a:Addr) (acc:ByteArray),(∀j x,l[j]? = some x→w.cell? (a.add j)=some (.int .u8 x)) →
  (loadBytes a acc l.length).run P w = .ok ⟨acc.data++(l.map fun n=>UInt8.ofNat n.toNat).toArray⟩ w
 | [],a,acc,_=>by simp [loadBytes]
 | x::l,a,acc,h=>by
  have h0:w.cell? a=some (.int .u8 x):=by
   have:=h 0 x rfl
   simpa [Addr.add] using this
  have ih:=Mp (P:=P) w l (a.add 1) (acc.push (UInt8.ofNat x.toNat)) (fun j y hy=>by
   have:=h (j+1) y (by simpa using hy)
   have e:(a.add 1).add j=a.add (j+1):=by
    unfold Addr.add
    by_cases hj:j=0
    ·subst hj;simp
    ·simp [hj];omega
   rw [e];exact this)
  have hx:(x.toNat).toUInt8=UInt8.ofNat x.toNat:=rfl
  simp only [List.length_cons,loadBytes,Sem.run_bind,run_load,h0,Result.andThen,hx]
  rw [ih]
  congr 1
  apply ByteArray.ext
  simp [ByteArray.push]
theorem Zpv {P:Program} (w:World) (pt it ty e:TypeId) (hp:P.underlying pt=some (.pointer e)) (hc:P.cellsOf e=1) (g cells:Nat) (hsh:w.shape? g=some (e,cells)) (l:List Int) (h0:l.length ≠ 0) (hn:l.length≤cells) (h63:l.length≤9223372036854775807)
  (hcell:∀j x,l[j]? = some x→w.cell? ((⟨g,0,none⟩:Addr).add j)=some (.int .u8 x)) :
  (Builtin.unsafeString_ #[pt,it] ty #[.pointer (some ⟨g,0,none⟩),.int .i64 l.length]).run P w = .ok (.string ⟨(l.map fun n=>UInt8.ofNat n.toNat).toArray⟩) (w.freeze ⟨g,0,none⟩ l.length):=by
 have hlb:=Mp (P:=P) w l ⟨g,0,none⟩ .empty hcell
 have hlies:=Lib.liesAt_bytes (P:=P) hc (cells / P.cellsOf e) l.length (by rw [hc];simpa using hn)
 have h63':¬(9223372036854775807:Int)<(l.length:Int):=by omega
 obtain ⟨m1,hdef⟩:∃m1:String,Builtin.unsafeString_ #[pt,it] ty #[.pointer (some ⟨g,0,none⟩),.int .i64 l.length] =
   (do
    let n ←asInt (.int .i64 l.length)
    if n<0 then runtimePanic (.error m1)
    if n > IntKind.i64.max then unsupported (.unsafePointer "String: a length above the largest int")
    if n=0 then pure (.string .empty)
    else if ←variablesAt ⟨g,0,none⟩ (←elemOf pt) n.toNat then do
     let s ←loadBytes ⟨g,0,none⟩ .empty n.toNat
     freeze ⟨g,0,none⟩ n.toNat
     pure (.string s)
    else unsupported (.unsafePointer "String: not so many bytes at ptr")) := ⟨_, rfl⟩
 rw [hdef]
 have hmax:IntKind.i64.max=9223372036854775807:=rfl
 have hneg:¬(l.length:Int)<0:=by omega
 simp [asInt,asIntOf,hmax,h63',hneg,h0,variablesAt,hsh,elemOf,run_underlying hp,hlies,hlb]
theorem Zpw (w:World) (b:Nat) (C:Array Value) (T:TypeId) (o n:Nat) (hn:n ≠ 0) (hb:w.heap[b]? = some (.cells C T (0,0))) :
  (w.freeze ⟨b,o,none⟩ n).heap[b]? = some (.cells C T (o,o+n))∧(∀b',b' ≠ b→(w.freeze ⟨b,o,none⟩ n).heap[b']? = w.heap[b']?)∧(w.freeze ⟨b,o,none⟩ n).heap.size=w.heap.size:=by
 unfold World.freeze
 rw [if_neg hn]
 refine ⟨?_,fun b' hb' => ?_,by simp⟩
 ·simp only [Array.getElem?_modify,if_true,hb,Option.map_some]
  rfl
 ·simp only [Array.getElem?_modify]
  rw [if_neg (by omega)]
theorem Zix:∀{els:List (List GV)} {b:List UInt8},evI.bytesOfG els=some b→∃ns:List Int,els=ns.map (fun n=>[.int .u8 n])∧b=ns.map fun n=>UInt8.ofNat n.toNat
 | [],b,h=>by simp [evI.bytesOfG] at h;exact ⟨[],rfl,by simp [h]⟩
 | el::els,b,h=>by
  unfold evI.bytesOfG at h
  split at h
  ·rename_i heq;cases heq
  ·rename_i n r heq
   cases heq
   split at h
   ·rename_i bs hb
    cases h
    obtain ⟨ns,h1,h2⟩:=Zix hb
    exact ⟨n::ns,by rw [h1];rfl,by rw [h2];rfl⟩
   ·cases h
  ·cases h
section
variable {P:Program} {h:List Blk} {s s':St} {a:Act} {w:World} {L:Nat→Lc} {v:AV} {ws:List Nat} {drw:Option Nat} {nb:Nat}
theorem Im.same (hr:HR w (full h s) L) {r:Result Next} {cv:Value} (h1:r = .ok (.value cv) w) (h2:AR (Zc w (full h s) L) v cv):Im w (full h s) L r v (full h s) [] :=
 ⟨_,w,L,h1,.inl ⟨cv,rfl,h2⟩,hr,Ext.refl _,fun _ _ _=>⟨rfl,fun _ _ _=>rfl⟩⟩
theorem Zpx (hr:HR w (full h s) L) {id o T:Nat} {cs:List AV} {c:Value} (hB:Yp h s id=some (.bld T cs)) (hx:AR (Zc w (full h s) L) (.ptr id o) c) :
  ∃b,c = .pointer (some ⟨b,o,none⟩)∧w.shape? b=some (T,cs.length):=by
 have hk:=hr.blk id _ (by rw [Z9];exact hB)
 obtain ⟨_,b,C,h1,h2,h3,_⟩:=hk
 cases hx with
 | @ptr _ _ b' hid hgen hb =>
  have e:b=b':=by rw [hb] at h1;exact (Option.some.inj h1).symm
  subst e
  have h2':w.heap[b]? = some (Obj.cells C T (0,0)):=h2
  exact ⟨b,rfl,by simp [World.shape?,h2',h3]⟩
theorem Z4f (hr:HR w (full h s) L) (ht:TR (Zc w (full h s) L) a s.t) {o:Oper} {t1 t2 t:TypeId} {n:Nat} {x:Operand} {X:Opd} (ho:o.op = .convert t1 t2 x) (hu1:P.underlying t1=some (.pointer t)) (hu2:P.underlying t2=some .unsafePointer) (hs:szT P t=some n) (hn:n ≠ 0)
  (hx:Z6 x=some X) (he:evI h nb s (.toU X)=some (v,s',ws)):Im w (full h s) L ((execOp a.eval o).run P w) v (full h s') ws∧s'.t=s.t:=by
 simp only [evI] at he
 split at he
 ·rename_i id off hX
  split at he
  ·rename_i T cs hB
   split at he
   ·rename_i hlt
    cases he
    obtain ⟨b,e1,e2⟩:=Zpx hr hB (Zl ht hx hX)
    have hq:=Zl ht hx hX
    unfold szT at hs
    cases hi:P.info? t with
    | none=>simp [hi] at hs
    | some j =>
     simp [hi] at hs
     refine ⟨Im.same hr (cv:=a.eval x) ?_ hq,rfl⟩
     rw [e1]
     simp only [execOp,ho,e1]
     rw [Sem.run_bind,Lib.run_to_unsafe w ⟨b,off,none⟩ hu1 hu2 hi (by rw [hs];exact hn) e2 hlt]
     rfl
   ·cases he
  ·cases he
 ·cases he
theorem Zpy {u:TypeId} {p:TypeId×Nat} (h:(Zim P u).contains p=true):p.2=P.cellsOf p.1∧liesAt P P.depth p.1 (p.2 / P.cellsOf p.1) 0 u 1=true:=by
 have h':=List.contains_iff_mem.1 h
 unfold Zim at h'
 obtain ⟨t,h1,rfl⟩:=List.mem_map.1 h'
 have h2:=(List.mem_filter.1 h1).2
 simp only [Bool.and_eq_true] at h2
 exact ⟨rfl,h2.2⟩
theorem Zu6 (hr:HR w (full h s) L) (ht:TR (Zc w (full h s) L) a s.t) {o:Oper} {t1 t2 u:TypeId} {x:Operand} {X:Opd} (ho:o.op = .convert t1 t2 x) (hu1:P.underlying t1=some .unsafePointer) (hu2:P.underlying t2=some (.pointer u)) (hs:(P.info? u).isSome=true)
  (hx:Z6 x=some X) (he:evI h nb s (.fromU (Zim P u) X)=some (v,s',ws)):Im w (full h s) L ((execOp a.eval o).run P w) v (full h s') ws∧s'.t=s.t:=by
 simp only [evI] at he
 split at he
 ·rename_i id off hX
  split at he
  ·rename_i T cs hB
   split at he
   ·rename_i hc
    cases he
    obtain ⟨b,e1,e2⟩:=Zpx hr hB (Zl ht hx hX)
    have hq:=Zl ht hx hX
    obtain ⟨j,hi⟩:=Option.isSome_iff_exists.1 hs
    obtain ⟨c1,c2⟩:=Zpy hc.2
    refine ⟨Im.same hr (cv:=a.eval x) ?_ hq,rfl⟩
    rw [e1]
    simp only [execOp,ho,e1]
    rw [Sem.run_bind,Lib.run_from_unsafe w ⟨b,off,none⟩ hu1 hu2 hi e2 (by rw [hc.1];exact c2)]
    rfl
   ·cases he
  ·cases he
 ·cases he
theorem Z1s (hr:HR w (full h s) L) (ht:TR (Zc w (full h s) L) a s.t) {o:Oper} {t yt:TypeId} {x y:Operand} {X Y:Opd} (ho:o.op = .binOp .neq t x y yt) (hp:Zlj P t=true) (hx:Z6 x=some X) (hy:Z6 y=some Y)
  (he:evI h nb s (.neqp X Y)=some (v,s',ws)):Im w (full h s) L ((execOp a.eval o).run P w) v (full h s') ws∧s'.t=s.t:=by
 unfold Zlj at hp
 split at hp
 case h_2=>cases hp
 rename_i te hu
 obtain ⟨j,hi⟩:=Option.isSome_iff_exists.1 hp
 simp only [evI] at he
 split at he
 ·rename_i id off id' off' hX hY
  split at he
  ·rename_i hc
   obtain ⟨rfl,rfl⟩:=hc
   cases he
   have h1:=Zl ht hx hX
   have h2:=Zl ht hy hY
   refine ⟨Im.same hr (cv := .bool false) ?_ (.g (.bool _)),rfl⟩
   generalize hex:a.eval x=vx at h1
   generalize hey:a.eval y=vy at h2
   cases h1 with
   | @ptr _ _ b1 hid1 hg1 hb1 =>
    cases h2 with
    | @ptr _ _ b2 hid2 hg2 hb2 =>
     rw [hb1] at hb2;cases hb2
     simp only [execOp,ho,hex,hey]
     have hg:eqGuard .neq t x y (.pointer (some ⟨b1,off,none⟩)) (.pointer (some ⟨b1,off,none⟩))=pure ():=rfl
     rw [hg,pure_bind,Sem.run_bind,Lib.run_neq_ptr_same w ⟨b1,off,none⟩ hu hi]
     rfl
  ·cases he
 ·cases he
theorem Zlq (hr:HR w (full h s) L) {id g sz off len:Nat} {c:Value} (hx:AR (Zc w (full h s) L) (.ms id g sz off len) c) (hcur:cur h s id g=true) (cts:Array TypeId) (ty:TypeId) :
  (g=1→(Builtin.unsafeSliceData_ cts ty #[c]).run P w = .ok (.pointer none) w) ∧
  (0<len→∃cv,(Builtin.unsafeSliceData_ cts ty #[c]).run P w = .ok cv w∧AR (Zc w (full h s) L) (.rp id g sz off 0) cv):=by
 obtain ⟨hid,hg0,hgen,hm⟩:=Qi hr hcur hx
 have hnil:=K5 hr hcur hx
 constructor
 ·intro h1
  have hb:=hnil.1 h1
  unfold Wb at hm
  rw [hb] at hm
  obtain ⟨rfl,_,_⟩:=hm
  exact Lib.run_unsafeSliceData_nil w _ _ _ _
 ·intro hlen
  cases hb:(L id).blk with
  | none =>
   unfold Wb at hm
   rw [hb] at hm
   obtain ⟨_,_,rfl⟩:=hm
   omega
  | some b =>
   unfold Wb at hm
   rw [hb] at hm
   obtain ⟨A,cp,rfl,hoc,hlc,hA⟩:=hm
   have hA':A=⟨b,off*sz,none⟩:=hA.resolve_right (by omega)
   subst hA'
   exact ⟨_,Lib.run_unsafeSliceData_row w _ _ _ _ _ (by omega),.rp (by simpa [Zc] using hid) hg0 (Nat.le_of_eq hgen) rfl (fun _=>⟨b,hb,rfl⟩)⟩
theorem B4 (hr:HR w (full h s) L) {id g sz e n:Nat} {els:List (List GV)} {c:Value} {bs:List UInt8} (hx:AR (Zc w (full h s) L) (.rp id g sz 0 0) c) (hB:Yp h s id=some (.trow e 1 g els)) (hn:0<n) (hl:n≤els.length) (h63:n≤9223372036854775807)
  (hb:evI.bytesOfG (els.take n)=some bs) {pt it ty:TypeId} (hp:P.underlying pt=some (.pointer e)) (hc:P.cellsOf e=1) :
  ∃w' L',(Builtin.unsafeString_ #[pt,it] ty #[c,.int .i64 n]).run P w = .ok (.string ⟨bs.toArray⟩) w'∧HR w' ((full h s).set id (.fro 1 g els)) L'∧Ext (Zc w (full h s) L) (Zc w' ((full h s).set id (.fro 1 g els)) L')∧Same w w' (full h s) L L' [id]:=by
 have hget:(full h s)[id]? = some (.trow e 1 g els):=by rw [Z9];exact hB
 obtain ⟨hg1,⟨hg2,hg3⟩,hrow⟩:=hr.blk id _ hget
 have hg1':(L id).gen=g:=hg1
 cases hx with
 | rp hid h0 hle h1 hm =>
  obtain ⟨b,hbk,rfl⟩:=hm hg1.symm
  rw [hbk] at hrow
  obtain ⟨C,hb2,hC1,hC2,hC3⟩:=hrow
  have hb2':w.heap[b]? = some (.cells C e (0,0)):=hb2
  have hbk':(L id).blk=some b:=hbk
  obtain ⟨ns,hns,rfl⟩:=Zix hb
  have hnl:ns.length=n:=by
   have:=congrArg List.length hns
   simp at this;omega
  have hcs:els.length≤C.size:=by rw [hC1];simpa using hC2
  have hrun:=Zpv (P:=P) w pt it ty e hp hc b C.size (by simp [World.shape?,hb2']) ns (by omega) (by omega) (by omega) (fun j x hj=>by
   have hjl:j<ns.length:=(List.getElem?_eq_some_iff.1 hj).1
   have hel:els[j]? = some [.int .u8 x]:=by
    have:=congrArg (·[j]?) hns
    simp only [List.getElem?_map,hj,Option.map_some] at this
    rw [List.getElem?_take_of_lt (by omega)] at this
    exact this
   obtain ⟨_,h2⟩:=hC3 j _ hel
   obtain ⟨u,u1,u2⟩:=h2 0 (.int .u8 x) rfl
   have u3:=u2.inv_int
   rw [Nat.mul_one,Nat.add_zero,u3] at u1
   rw [Wq]
   simp only [World.cell?,hb2',Nat.zero_add]
   simpa using u1)
  obtain ⟨f1,f2,f3⟩:=Zpw w b C e 0 ns.length (by omega) hb2'
  have hfz:∀(w:World) (p:Addr) (n:Nat),(w.freeze p n).os=w.os∧(w.freeze p n).tape=w.tape∧(w.freeze p n).output=w.output:=by
   intro w p n;unfold World.freeze;split <;> exact ⟨rfl,rfl,rfl⟩
  obtain ⟨z1,z2,z3⟩:=hfz w ⟨b,0,none⟩ ns.length
  obtain ⟨e1,e2⟩:=hr.turn (w':=w.freeze ⟨b,0,none⟩ ns.length) (k' := .fro 1 g els) hget rfl (L id) z1 z2 z3 (by rw [f3];exact Nat.le_refl _) (fun b' _ hne=>f2 b' (fun e=>hne (by rw [e];exact hbk'))) (.refl _ _) (fun b' hb' => .inl hb') (fun hext=>by
   have hLid:(Zc (w.freeze ⟨b,0,none⟩ ns.length) ((full h s).set id (.fro 1 g els)) (Zw L id (L id))).L id=L id:=Zd _ _ _
   refine ⟨by rw [hLid];exact hg1,hg3,?_⟩
   rw [hLid,hbk']
   refine ⟨?_,?_,e,C,_,f1,?_⟩
   ·show b<(w.freeze ⟨b,0,none⟩ ns.length).heap.size
    rw [f3];exact (Array.getElem?_eq_some_iff.1 hb2').1
   ·rintro ⟨j,k,k1,k2,k3⟩
    by_cases hj:j=id
    ·subst hj
     rw [List.getElem?_set_self (by simpa [Zc] using hid)] at k1
     cases k1;cases k2
    ·rw [List.getElem?_set_ne (fun e=>hj e.symm)] at k1
     rw [Yk _ _ _ hj] at k3
     exact hj (hr.inj j id b k _ k1 hget k2 rfl k3 hbk')
   ·exact (show RowsIn (Zc w (full h s) L) C 1 (L id).cap els from ⟨hC1,hC2,hC3⟩).mono hext)
  refine ⟨_,_,?_,e1,e2,fun j hj hne=>⟨Yk _ _ _ (by simpa using hne),fun ⟨x,hx,lx⟩ b' hb'=>f2 b' (fun e => ?_)⟩⟩
  ·rw [←hnl];simpa using hrun
  ·subst e
   exact hne (by simp [hr.inj j id b' x _ hx hget lx rfl hb' hbk'])
end
def Hz:LK→TypeDesc→Prop
 | .b,.bool=>True
 | .i,.int _=>True
 | .s,.string=>True
 | _,_=>False
theorem Zu7 {P:Program} {t:TypeId} {kk:LK} (h:Z1m P t=some kk):∃d,P.underlying t=some d∧Hz kk d:=by
 unfold Z1m at h
 split at h
 ·rename_i hu;cases h;exact ⟨_,hu,trivial⟩
 ·rename_i hu;cases h;exact ⟨_,hu,trivial⟩
 ·rename_i hu;cases h;exact ⟨_,hu,trivial⟩
 ·cases h
theorem T6 {P:Program} {w:World} {kt:TypeId} {d:TypeDesc} {kk:LK} {k:Value} (hd:P.underlying kt=some d) (hk:Hz kk d) (e:Bool) (n:Nat):(Instr.checkKey e (n+1) kt k).run P w = .ok () w:=by
 unfold Instr.checkKey
 simp only [Sem.run_bind,run_underlying hd,Result.andThen]
 cases kk <;> cases d <;> simp [Hz] at hk <;> rfl
theorem Gi (x y:List UInt8):((⟨x.toArray⟩:ByteArray)==⟨y.toArray⟩)=(x==y):=by
 rw [Bool.eq_iff_iff,MapKept.bytes_beq]
 simp
theorem Zu8 {E:Env} {kk:LK} {d:TypeDesc} {k g:GV} {ck cg:Value} {b:Bool} (hd:Hz kk d) (hk:GR E k ck) (hg:GR E g cg) (h:eqG kk k g=some b):Instr.sameNow d ck cg=some b∧(b=true→ck=cg)∧(b=true→Instr.sameBits 10000 cg ck=true):=by
 cases kk <;> cases k <;> cases g <;> simp only [eqG] at h <;> try (cases h;done)
 ·cases d <;> simp [Hz] at hd
  cases hk;cases hg;cases h
  exact ⟨rfl,fun e=>by simp at e;rw [e],fun e=>by simp at e;rw [e];simp [Instr.sameBits]⟩
 ·cases d <;> simp [Hz] at hd
  cases hk;cases hg
  split at h
  ·rename_i hkk
   cases h
   subst hkk
   exact ⟨by simp [Instr.sameNow],fun e=>by simp at e;rw [e],fun e=>by simp at e;rw [e];simp [Instr.sameBits]⟩
  ·cases h
 ·cases d <;> simp [Hz] at hd
  cases hk;cases hg;cases h
  refine ⟨?_,fun e=>by simp at e;rw [e],fun e=>by simp at e;rw [e];simp [Instr.sameBits,MapKept.bytes_beq]⟩
  simp only [Instr.sameNow]
  rw [Gi]
theorem find_ok {E:Env} {kk:LK} {d:TypeDesc} {k:GV} {ck:Value} (hd:Hz kk d) (hk:GR E k ck):∀(es:List (GV×Option GV)) (en:List MapEntry) (i:Nat) (r:Option Nat),es.length=en.length →
  (∀(j:Nat) (p:GV×Option GV) (e:MapEntry),es[j]? = some p→en[j]? = some e→GR E p.1 e.key∧VR E p.2 e.val)→Ut kk k es=some r →
  (r=none∧Instr.findNow d ck en i=some none)∨∃j p e,r=some j∧es[j]? = some p∧en[j]? = some e∧Instr.findNow d ck en i=some (some (i+j,e.val))∧Instr.sameBits 10000 e.key ck=true:=by
 intro es
 induction es with
 | nil =>
  intro en i r hl he h
  cases en with
  | nil=>simp [Ut] at h;subst h;exact .inl ⟨rfl,rfl⟩
  | cons e en=>simp at hl
 | cons p es ih =>
  intro en i r hl he h
  obtain ⟨a,g⟩:=p
  cases en with
  | nil=>simp at hl
  | cons e en =>
   simp only [Ut] at h
   obtain ⟨h1,h2⟩:=he 0 (a,g) e rfl rfl
   cases hq:eqG kk k a with
   | none=>simp [hq] at h
   | some b =>
    obtain ⟨s1,s2,s3⟩:=Zu8 hd hk h1 hq
    cases b with
    | true =>
     simp [hq] at h;subst h
     exact .inr ⟨0,(a,g),e,rfl,rfl,rfl,by simp [Instr.findNow,s1],s3 rfl⟩
    | false =>
     simp only [hq] at h
     cases hf:Ut kk k es with
     | none=>simp [hf] at h
     | some r1 =>
      rcases ih en (i+1) r1 (by simpa using hl) (fun j p e h1 h2=>he (j+1) p e (by simpa using h1) (by simpa using h2)) hf with ⟨rfl,q1⟩ | ⟨j,p,e2,rfl,q1,q2,q3,q4⟩
      ·simp [hf] at h;subst h
       exact .inl ⟨rfl,by simp [Instr.findNow,s1,q1]⟩
      ·simp [hf] at h;subst h
       exact .inr ⟨j+1,p,e2,rfl,by simpa using q1,by simpa using q2,by simp [Instr.findNow,s1,q3];omega,q4⟩
theorem VR.av {E:Env} {g:Option GV} {c:Value} (h:VR E g c):AR E (mvV g) c:=by
 cases g with
 | some g=>exact .g h
 | none =>
  have h':c = .agg #[]:=h
  subst h'
  exact .agg rfl (fun j a v h1 _=>by simp at h1) (fun j v h1=>by simp at h1)
theorem Zpz {E:Env} {x:AV} {g:Option GV} {c:Value} (h:mvG x=some g) (hx:AR E x c):VR E g c:=by
 unfold mvG at h
 split at h
 ·cases h;exact hx.inv_g
 ·cases h
  cases hx with
  | @agg _ C hn _ _ =>
   have:C = #[]:=by apply Array.eq_empty_of_size_eq_zero;simpa using hn.symm
   rw [this];rfl
 ·cases h
theorem Zp0 {P:Program} {t:TypeId} {g:Option GV} (h:elZ P t=some g):∃i z,P.info? t=some i∧i.zero=some z∧∀E,VR E g z:=by
 unfold elZ at h
 cases hi:P.info? t with
 | none=>simp [hi] at h
 | some i =>
  cases hz:i.zero with
  | none=>simp [hi,hz] at h
  | some z =>
   simp only [hi,hz,Option.bind_some] at h
   refine ⟨i,z,rfl,hz,fun E => ?_⟩
   split at h
   ·rename_i cs heq
    cases heq
    split at h
    ·rename_i h0
     cases h
     have:cs = #[]:=Array.eq_empty_of_size_eq_zero h0
     rw [this];rfl
    ·cases h
   ·rename_i z' _ heq
    cases heq
    split at h
    ·rename_i g' hc
     cases h
     exact (O8 (E:=E) hc).inv_g
    ·cases h
   ·cases h
theorem Ziy {P:Program} {t:TypeId} {kk:LK} {z:Option GV} (h:Zfe P t=some (kk,z)):∃key elem d,P.underlying t=some (.map key elem)∧P.underlying key=some d∧Hz kk d∧∃i zv,P.info? elem=some i∧i.zero=some zv∧∀E,VR E z zv:=by
 unfold Zfe at h
 split at h
 ·rename_i key elem hu
  split at h
  ·rename_i kk' z' h1 h2
   cases h
   obtain ⟨d,hd,hk⟩:=Zu7 h1
   exact ⟨key,elem,d,hu,hd,hk,Zp0 h2⟩
  ·cases h
 ·cases h
section
variable {w w':World} {H:List Blk} {L:Nat→Lc}
theorem HR.newMap (hr:HR w H L) (hg:Y1 w w') (b:Nat) (hlt:w.heap.size≤b) (hb:w'.heap[b]? = some (.map #[] 0)) (ws:List Nat) :
  ∃L',HR w' (H++[.map []]) L'∧Ext (Zc w H L) (Zc w' (H++[.map []]) L')∧Same w w' H L L' ws∧AR (Zc w' (H++[.map []]) L') (.mp H.length) (.map (some b)):=by
 obtain ⟨k1,k2,k3⟩:=hr.add_same hg (.map []) ⟨some b,0,0,true⟩ (by simpa using hlt) (fun he=>by
  refine ⟨?_,b,#[],0,?_,hb,⟨rfl,fun j p e hj _=>by simp at hj⟩,Sm.empty 0⟩
  ·show ((Zw L H.length _) H.length).st=true;rw [Zd]
  ·show ((Zw L H.length _) H.length).blk=some b;rw [Zd]) ws
 refine ⟨_,k1,k2,k3,.mp (by simp [Zc]) ?_ ?_⟩
 ·show ((Zw L H.length _) H.length).st=true;rw [Zd]
 ·show ((Zw L H.length _) H.length).blk=some b;rw [Zd]
end
section
variable {P:Program} {h:List Blk} {s s':St} {a:Act} {w:World} {L:Nat→Lc} {v:AV} {ws:List Nat} {drw:Option Nat} {nb:Nat}
theorem Zu9 (hr:HR w (full h s) L) {o:Oper} {t:TypeId} (ho:o.op = .makeMap t none) (he:evI h nb s .mkmap=some (v,s',ws)) :
  Im w (full h s) L ((execOp a.eval o).run P w) v (full h s') ws∧s'.t=s.t:=by
 simp [evI] at he
 obtain ⟨rfl,rfl,rfl⟩:=he
 obtain ⟨L',h1,h2,h3,h4⟩:=hr.newMap (Y1.push w (.map #[] 0)) w.heap.size (Nat.le_refl _) (V6 _ _) []
 rw [Yw] at h4
 refine ⟨?_,rfl⟩
 rw [Us]
 refine X9 (cv := .map (some w.heap.size)) ?_ h4 h1 h2 h3
 simp only [execOp,ho,Instr.makeMap,Option.map_none]
 rfl
theorem Zp1 (hr:HR w (full h s) L) {id:Nat} {es:List (GV×Option GV)} {c:Value} (hB:Yp h s id=some (.map es)) (hx:AR (Zc w (full h s) L) (.mp id) c) :
  ∃b en ck,c = .map (some b)∧(L id).blk=some b∧(L id).st=true∧w.heap[b]? = some (.map en ck)∧S5 (Zc w (full h s) L) es en∧Sm en ck:=by
 have hk:=hr.blk id _ (by rw [Z9];exact hB)
 obtain ⟨h0,b,en,ck,h1,h2,h3,h4⟩:=hk
 cases hx with
 | @mp _ b' hid hgen hb =>
  have e:b=b':=by rw [hb] at h1;exact (Option.some.inj h1).symm
  subst e
  exact ⟨b,en,ck,rfl,hb,hgen,h2,h3,h4⟩
theorem Zfk {t key elem:TypeId} {d:TypeDesc} {kk:LK} {r:Nat} {en:Array MapEntry} {ck:Nat} {kv z:Value} {res:Option (Nat×Value)} {i:TypeInfo} (cm:Bool) (ht:P.underlying t=some (.map key elem)) (hd:P.underlying key=some d) (hk:Hz kk d)
  (hb:w.heap[r]? = some (.map en ck)) (hf:Instr.findNow d kv en.toList 0=some res) (hi:P.info? elem=some i) (hz:i.zero=some z) :
  (Instr.lookup t (.map (some r)) kv cm).run P w = .ok (if cm=true then .tuple #[(res.map (·.2)).getD z,.bool res.isSome] else (res.map (·.2)).getD z) w:=by
 unfold Instr.lookup
 simp only [Sem.run_bind,run_underlying ht,Result.andThen,MapKept.run_getObj_map hb,Sem.run_pure,T6 hd hk,MapKept.run_findKey hd hf]
 cases res with
 | none=>simp [zeroValue,typeInfo,hi,hz]
 | some p=>simp
theorem Z1t (hr:HR w (full h s) L) (ht:TR (Zc w (full h s) L) a s.t) {o:Oper} {t:TypeId} {x k:Operand} {X K:Opd} {cm:Bool} {kk:LK} {z:Option GV} (ho:o.op = .lookup t x k cm) (hm:Zfe P t=some (kk,z)) (hx:Z6 x=some X) (hk:Z6 k=some K)
  (he:evI h nb s (.mget cm kk z X K)=some (v,s',ws)):Im w (full h s) L ((execOp a.eval o).run P w) v (full h s') ws∧s'.t=s.t:=by
 obtain ⟨key,elem,d,u1,u2,hd,i,zv,hi,hz,hzr⟩:=Ziy hm
 simp only [evI] at he
 split at he
 ·rename_i id kv hX hK
  split at he
  ·rename_i es hB
   split at he
   ·rename_i r hg
    cases he
    obtain ⟨b,en,ck,e1,e2,e3,e4,e5,e6⟩:=Zp1 hr hB (Zl ht hx hX)
    have hkr:=(Zl ht hk hK).inv_g
    unfold Od at hg
    cases hf:Ut kk kv es with
    | none=>simp [hf] at hg
    | some fr =>
     simp only [hf] at hg
     have hfo:=find_ok hd hkr es en.toList 0 fr (by simpa using e5.1) (fun j p e h1 h2=>e5.2 j p e h1 (by simpa using h2)) hf
     have fin:∀(res:Option (Nat×Value)) (g:Option GV),Instr.findNow d (a.eval k) en.toList 0=some res→VR (Zc w (full h s) L) g ((res.map (·.2)).getD zv)→res.isSome=fr.isSome →
       v=(if cm=true then AV.tup [mvV g,.g (.bool fr.isSome)] else mvV g)→Im w (full h s) L ((execOp a.eval o).run P w) v (full h s) []∧s.t=s.t:=by
      intro res g q1 q2 q3 q4
      refine ⟨Im.same hr (cv:=if cm=true then .tuple #[(res.map (·.2)).getD zv,.bool res.isSome] else (res.map (·.2)).getD zv) ?_ ?_,rfl⟩
      ·simp only [execOp,ho,e1]
       rw [Sem.run_bind,Zfk cm u1 u2 hd e4 q1 hi hz]
       rfl
      ·rw [q4]
       cases cm
       ·simp only [Bool.false_eq_true,if_false];exact q2.av
       ·simp only [if_true]
        refine .tup rfl (fun j x y hx hy => ?_)
        match j with
        | 0=>simp at hx hy;subst hx hy;exact q2.av
        | 1=>simp at hx hy;subst hx hy;rw [q3];exact .g (.bool _)
        | j+2=>simp at hx
     rcases hfo with ⟨rfl,q1⟩ | ⟨j,p,e,rfl,q1,q2,q3,q4⟩
     ·simp only [Option.some.injEq] at hg
      exact fin none z q1 (hzr _) rfl hg.symm
     ·simp only [q1,Option.map_some,Option.some.injEq] at hg
      refine fin (some (0+j,e.val)) p.2 q3 ?_ rfl hg.symm
      exact (e5.2 j p e q1 (by simpa using q2)).2
   ·cases he
  ·cases he
 ·cases he
theorem Dn {t key elem:TypeId} {d:TypeDesc} {kk:LK} {r:Nat} {en:Array MapEntry} {ck:Nat} {kv val:Value} (ht:P.underlying t=some (.map key elem)) (hd:P.underlying key=some d) (hk:Hz kk d)
  (hb:w.heap[r]? = some (.map en ck)) :
  (Instr.findNow d kv en.toList 0=some none→(Instr.mapUpdate t (.map (some r)) kv val).run P w = .ok () { w with heap:=w.heap.setIfInBounds r (.map (en.push ⟨kv,val,ck⟩) (ck+1)) }) ∧
  (∀j e,Instr.findNow d kv en.toList 0=some (some (j,e.val))→en[j]? = some e→Instr.sameBits 10000 e.key kv=true→(Instr.mapUpdate t (.map (some r)) kv val).run P w = .ok () { w with heap:=w.heap.setIfInBounds r (.map (en.modify j fun e=>{ e with key:=kv,val:=val }) ck) }):=by
 refine ⟨fun hf => ?_,fun j e hf he hs => ?_⟩
 ·unfold Instr.mapUpdate
  simp only [Sem.run_bind,run_underlying ht,Result.andThen,MapKept.run_getObj_map hb,T6 hd hk,MapKept.run_findKey hd hf,MapKept.run_setObj_map _ hb]
 ·unfold Instr.mapUpdate
  simp only [Sem.run_bind,run_underlying ht,Result.andThen,MapKept.run_getObj_map hb,T6 hd hk,MapKept.run_findKey hd hf,he,Option.map_some,Option.getD_some,Instr.keyThatStays,hs,if_true,Sem.run_pure,MapKept.run_setObj_map _ hb]
theorem Zp2 (hr:HR w (full h s) L) (ht:TR (Zc w (full h s) L) a s.t) {o:Oper} {t:TypeId} {x k y:Operand} {X K Y:Opd} {kk:LK} {z:Option GV} (ho:o.op = .mapUpdate t x k y∨o.op = .insert t x k y) (hm:Zfe P t=some (kk,z)) (hx:Z6 x=some X) (hk:Z6 k=some K) (hy:Z6 y=some Y)
  (he:evI h nb s (.mset kk X K Y)=some (v,s',ws)):Im w (full h s) L ((execOp a.eval o).run P w) v (full h s') ws∧s'.t=s.t:=by
 obtain ⟨key,elem,d,u1,u2,hd,i,zv,hi,hz,hzr⟩:=Ziy hm
 simp only [evI] at he
 split at he
 ·rename_i id kv vv hX hK hY
  split at he
  ·rename_i es g hB hg
   split at he
   ·rename_i es' hs
    cases he
    have hxr:=Zl ht hx hX
    obtain ⟨b,en,ck,e1,e2,e3,e4,e5,e6⟩:=Zp1 hr hB hxr
    have hkr:=(Zl ht hk hK).inv_g
    have hvr:=Zpz hg (Zl ht hy hY)
    have hrun:∀{w':World},(Instr.mapUpdate t (.map (some b)) (a.eval k) (a.eval y)).run P w = .ok () w'→(execOp a.eval o).run P w = .ok .skip w':=by
     intro w' q
     rcases ho with ho | ho <;> (simp only [execOp,ho,e1];rw [Sem.run_bind,q];rfl)
    have hid:(full h s)[id]? = some (.map es):=by rw [Z9];exact hB
    obtain ⟨r1,r2⟩:=Dn (P:=P) (kv:=a.eval k) (val:=a.eval y) u1 u2 hd e4
    have turn:∀(en':Array MapEntry) (ck':Nat),(execOp a.eval o).run P w = .ok .skip { w with heap:=w.heap.setIfInBounds b (.map en' ck') }→S5 (Zc w (full h s) L) es' en'→Sm en' ck' →
      Im w (full h s) L ((execOp a.eval o).run P w) .undef (full h (setB h s id (.map es'))) [id]∧(setB h s id (.map es')).t=s.t:=by
     intro en' ck' hq hin hbo
     obtain ⟨hp1,hp2⟩:=MapKept.heap_set (o' := .map en' ck') e4
     have hblt:b<w.heap.size:=(Array.getElem?_eq_some_iff.1 e4).1
     obtain ⟨t1,t2⟩:=hr.turn (w':={ w with heap:=w.heap.setIfInBounds b (.map en' ck') }) (k' := .map es') hid rfl (L id) rfl rfl rfl (by simp) (fun b' _ hne=>hp2 b' (fun e=>hne (by rw [e];exact e2))) (.refl _ _) (fun b' hb' => .inl hb')
      (fun hext=>by
       refine ⟨?_,b,en',ck',?_,hp1,hin.mono hext,hbo⟩
       ·show ((Zw L id (L id)) id).st=true;rw [Zd];exact e3
       ·show ((Zw L id (L id)) id).blk=some b;rw [Zd];exact e2)
     rw [Yg,Va]
     refine ⟨⟨_,_,_,hq,.inr ⟨rfl,rfl⟩,t1,t2,fun j hj hne=>⟨Yk _ _ _ (by simpa using hne),fun ⟨x',hx',lx⟩ b' hb'=>hp2 b' (fun e => ?_)⟩⟩,rfl⟩
     subst e
     exact hne (by simp [hr.inj j id b' x' _ hx' hid lx rfl hb' e2])
    unfold Sa at hs
    cases hf:Ut kk kv es with
    | none=>simp [hf] at hs
    | some fr =>
     have hfo:=find_ok hd hkr es en.toList 0 fr (by simpa using e5.1) (fun j p e h1 h2=>e5.2 j p e h1 (by simpa using h2)) hf
     rcases hfo with ⟨rfl,q1⟩ | ⟨j,p,e,rfl,q1,q2,q3,q4⟩
     ·simp [hf] at hs
      subst hs
      refine turn _ _ (hrun (r1 q1)) ⟨by simp [e5.1],fun j p e h1 h2 => ?_⟩ (e6.push _ _)
      by_cases hj:j<es.length
      ·rw [List.getElem?_append_left hj] at h1
       rw [Array.getElem?_push,if_neg (by have:=e5.1;omega)] at h2
       exact e5.2 j p e h1 h2
      ·have hjl:j=es.length:=by
        have:=(List.getElem?_eq_some_iff.1 h1).1
        simp at this;omega
       subst hjl
       simp at h1
       rw [Array.getElem?_push,if_pos e5.1] at h2
       cases h2
       subst h1
       exact ⟨hkr,hvr⟩
     ·simp [hf] at hs
      subst hs
      have q3':Instr.findNow d (a.eval k) en.toList 0=some (some (j,e.val)):=by simpa using q3
      have q2':en[j]? = some e:=by simpa using q2
      refine turn _ _ (hrun (r2 j e q3' q2' q4)) ⟨by simp [e5.1],fun j' p' e' h1 h2 => ?_⟩ (e6.modify _ _ _)
      rw [Array.getElem?_modify] at h2
      by_cases hj:j=j'
      ·subst hj
       rw [List.getElem?_set_self (List.getElem?_eq_some_iff.1 q1).1] at h1
       rw [if_pos rfl,q2'] at h2
       cases h1;cases h2
       exact ⟨hkr,hvr⟩
      ·rw [List.getElem?_set_ne hj] at h1
       rw [if_neg hj] at h2
       exact e5.2 j' p' e' h1 h2
   ·cases he
  ·cases he
 ·cases he
end
def KdS (P:Program) (t:TypeId) (ks:List LK):Prop:=∃fs,P.underlying t=some (.struct fs)∧Q4 P fs.toList 0=true∧flatK P 20 t=some ks
theorem Zva {P:Program} {t:TypeId} {ks:List LK} (h:Z1n P t=some ks):KdS P t ks:=by
 unfold Z1n at h
 split at h
 ·rename_i fs hu
  split at h
  ·rename_i hs;exact ⟨fs,hu,hs,h⟩
  ·cases h
 ·cases h
theorem H0 {P:Program} {w:World} {cs:Array Value} (e:Bool) (n:Nat):∀(l:List Field) (i:Nat),Q4 P l i=true→i+l.length≤cs.size →
  (forIn l PUnit.unit (fun (f : Field) (_ : PUnit) => ((if f.name ≠ "_" then do
   let x ←part f.type cs f.offset
   Instr.checkKey e (n+1) f.type x
   pure (ForInStep.yield PUnit.unit)
   else pure (ForInStep.yield PUnit.unit)):Sem (ForInStep PUnit)))).run P w = .ok PUnit.unit w:=by
 intro l
 induction l with
 | nil=>intro i h hl;simp
 | cons f l ih =>
  intro i h hl
  simp only [Q4,Bool.and_eq_true,bne_iff_ne,beq_iff_eq] at h
  obtain ⟨⟨⟨⟨h1,h2⟩,h3⟩,h4⟩,h5⟩:=h
  simp only [List.length_cons] at hl
  have hlt:i<cs.size:=by omega
  have hk:∃d kk,P.underlying f.type=some d∧Hz kk d∧V5 P f.type=some false:=by
   split at h4
   ·rename_i hu;exact ⟨_,.b,hu,trivial,by simp [V5,hu]⟩
   ·rename_i hu;exact ⟨_,.i,hu,trivial,by simp [V5,hu]⟩
   ·rename_i hu;exact ⟨_,.s,hu,trivial,by simp [V5,hu]⟩
   ·cases h4
  obtain ⟨d,kk,hu,hkd,ha⟩:=hk
  have hp:=P9 ha h3 cs f.offset w
  rw [h2] at hp
  simp only [Bool.false_eq_true,if_false,Array.getElem?_eq_getElem hlt] at hp
  rw [List.forIn_cons]
  simp only [Sem.run_bind,ne_eq,h1,not_false_eq_true,if_true,h2,hp,Result.andThen_ok,T6 hu hkd,Sem.run_pure]
  exact ih (i+1) h5 (by omega)
theorem B5 {P:Program} {l:List Field}:∀{i:Nat},Q4 P l i=true→∀d ks,Pw (flatK P (d+1)) l i=some ks→ks.length=l.length:=by
 induction l with
 | nil=>intro i h d ks hf;simp [Pw] at hf;subst hf;rfl
 | cons f l ih =>
  intro i h d ks hf
  simp only [Q4,Bool.and_eq_true] at h
  obtain ⟨⟨⟨⟨h1,h2⟩,h3⟩,h4⟩,h5⟩:=h
  simp only [Pw] at hf
  split at hf
  ·cases hk1:flatK P (d+1) f.type with
   | none=>simp [hk1] at hf
   | some k1 =>
    cases hk2:Pw (flatK P (d+1)) l (i+k1.length) with
    | none=>simp [hk1,hk2] at hf
    | some k2 =>
     simp [hk1,hk2] at hf
     subst hf
     have hs:k1.length=1:=by
      cases hu:P.underlying f.type with
      | none=>rw [hu] at h4;cases h4
      | some u =>
       rw [hu] at h4
       cases u <;> first | (cases h4;done) | (simp [flatK,hu] at hk1;obtain ⟨_,rfl⟩:=hk1;rfl)
     rw [hs] at hk2
     have:=ih h5 d k2 hk2
     simp [hs,this];omega
  ·cases hf
theorem Dp {P:Program} {w:World} {kt:TypeId} {ks:List LK} {cs:Array Value} (hd:KdS P kt ks) (hl:cs.size=ks.length) (e:Bool) (n:Nat):(Instr.checkKey e (n+2) kt (.agg cs)).run P w = .ok () w:=by
 obtain ⟨fs,hu,hs,hf⟩:=hd
 have hlen:ks.length=fs.toList.length:=by
  rw [show (20:Nat)=18+1+1 from rfl] at hf
  unfold flatK at hf
  rw [hu] at hf
  simp only at hf
  split at hf
  ·cases hf
  ·split at hf
   ·rename_i ks' hk
    split at hf
    ·cases hf;exact B5 hs 18 _ hk
    ·cases hf
   ·cases hf
 unfold Instr.checkKey
 simp only [Sem.run_bind,run_underlying hu,Result.andThen_ok]
 have:=H0 (w:=w) (cs:=cs) e n fs.toList 0 hs (by omega)
 rw [←Array.forIn_toList,this]
 rfl
theorem Zp3 {P:Program} {E:Env} {kt:TypeId} {ks:List LK} {k:List GV} {ck:Value} {w:World} (hd:KdS P kt ks) (hk:KR2 E k ck):∀(es:List (List GV×Option GV)) (en:List MapEntry) (i:Nat) (r:Option Nat),es.length=en.length →
  (∀(j:Nat) (p:List GV×Option GV) (e:MapEntry),es[j]? = some p→en[j]? = some e→KR2 E p.1 e.key∧VR E p.2 e.val)→Sn ks k es=some r →
  (r=none∧(Instr.findAsking kt ck en i).run P w = .ok none w)∨∃j p e,r=some j∧es[j]? = some p∧en[j]? = some e∧(Instr.findAsking kt ck en i).run P w = .ok (some (i+j,e.val)) w∧p.1=k:=by
 obtain ⟨fs,hu,hs,hf⟩:=hd
 have hag:V5 P kt=some true:=by simp [V5,hu]
 intro es
 induction es with
 | nil =>
  intro en i r hl he h
  cases en with
  | nil=>simp [Sn] at h;subst h;exact .inl ⟨rfl,by simp [Instr.findAsking]⟩
  | cons e en=>simp at hl
 | cons p es ih =>
  intro en i r hl he h
  obtain ⟨a,g⟩:=p
  cases en with
  | nil=>simp at hl
  | cons e en =>
   simp only [Sn] at h
   obtain ⟨h1,h2⟩:=he 0 (a,g) e rfl rfl
   cases hq:eqL ks (k.map .g) (a.map .g) with
   | none=>simp [hq] at h
   | some b =>
    obtain ⟨xs,x1,x2,_⟩:=AR.crel hk
    obtain ⟨ys,y1,y2,_⟩:=AR.crel h1
    have hrun:(Op.equal kt ck e.key).run P w = .ok b w:=by
     have:=Bz (P:=P) (E:=E) 20 9980 kt true ks _ _ xs ys b w hf hag x2 y2 hq
     simp only [mkV,if_true] at this
     rw [x1,y1];exact this
    cases b with
    | true =>
     simp [hq] at h;subst h
     refine .inr ⟨0,(a,g),e,rfl,rfl,rfl,?_,?_⟩
     ·simp [Instr.findAsking,Sem.run_bind,hrun,Result.andThen]
     ·have key:∀(ks:List LK) (x y:List GV),eqL ks (x.map .g) (y.map .g)=some true→y=x:=by
       intro ks
       induction ks with
       | nil=>intro x y h;cases x <;> cases y <;> simp [eqL] at h ⊢
       | cons k ks ihk =>
        intro x y h
        cases x with
        | nil=>simp [eqL] at h
        | cons x xs =>
         cases y with
         | nil=>simp [eqL] at h
         | cons y ys =>
          simp only [List.map_cons,eqL] at h
          split at h
          ·rename_i p q hp hq2
           simp at h
           obtain ⟨rfl,rfl⟩:=h
           rw [ihk xs ys hq2]
           congr 1
           cases k <;> cases x <;> cases y <;> simp [eqG] at hp <;> first | (rw [hp];done) | (obtain ⟨rfl,rfl⟩:=hp;rfl)
          ·cases h
      exact key ks k a hq
    | false =>
     simp only [hq] at h
     cases hf2:Sn ks k es with
     | none=>simp [hf2] at h
     | some r1 =>
      rcases ih en (i+1) r1 (by simpa using hl) (fun j p e h1 h2=>he (j+1) p e (by simpa using h1) (by simpa using h2)) hf2 with ⟨rfl,q1⟩ | ⟨j,p,e2,rfl,q1,q2,q3,q4⟩
      ·simp [hf2] at h;subst h
       exact .inl ⟨rfl,by simp [Instr.findAsking,Sem.run_bind,hrun,Result.andThen,q1]⟩
      ·simp [hf2] at h;subst h
       refine .inr ⟨j+1,p,e2,rfl,by simpa using q1,by simpa using q2,?_,q4⟩
       simp [Instr.findAsking,Sem.run_bind,hrun,Result.andThen,q3];omega
theorem Hd {P:Program} {E:Env} {kt:TypeId} {ks:List LK} {k:List GV} {ck:Value} {w:World} (hd:KdS P kt ks) (hk:KR2 E k ck) (es:List (List GV×Option GV)) (en:List MapEntry) (r:Option Nat) (hl:es.length=en.length)
  (he:∀(j:Nat) (p:List GV×Option GV) (e:MapEntry),es[j]? = some p→en[j]? = some e→KR2 E p.1 e.key∧VR E p.2 e.val) (h:Sn ks k es=some r) :
  (r=none∧(Instr.findKey kt ck en).run P w = .ok none w)∨∃j p e,r=some j∧es[j]? = some p∧en[j]? = some e∧(Instr.findKey kt ck en).run P w = .ok (some (j,e.val)) w∧p.1=k:=by
 have hd':=hd
 obtain ⟨fs,hu,hs,hf⟩:=hd'
 have e0:(Instr.findKey kt ck en).run P w=(Instr.findAsking kt ck en 0).run P w:=by
  unfold Instr.findKey
  simp only [Sem.run_bind,run_underlying hu,Result.andThen_ok]
  cases en with
  | nil=>simp [Instr.findNow,Instr.findAsking]
  | cons e en=>simp [Instr.findNow,Instr.sameNow]
 rw [e0]
 rcases Zp3 (w:=w) hd hk es en 0 r hl he h with h | ⟨j,p,e,h1,h2,h3,h4,h5⟩
 ·exact .inl h
 ·exact .inr ⟨j,p,e,h1,h2,h3,by simpa using h4,h5⟩
theorem Zbf {P:Program} {t:TypeId} {ks:List LK} {z:Option GV} (h:Gf P t=some (ks,z)):∃key elem,P.underlying t=some (.map key elem)∧KdS P key ks∧∃i zv,P.info? elem=some i∧i.zero=some zv∧∀E,VR E z zv:=by
 unfold Gf at h
 split at h
 ·rename_i key elem hu
  split at h
  ·rename_i kk' z' h1 h2
   cases h
   exact ⟨key,elem,hu,Zva h1,Zp0 h2⟩
  ·cases h
 ·cases h
section
variable {w w':World} {H:List Blk} {L:Nat→Lc}
theorem HR.newMap2 (hr:HR w H L) (hg:Y1 w w') (b:Nat) (hlt:w.heap.size≤b) (hb:w'.heap[b]? = some (.map #[] 0)) (ws:List Nat) :
  ∃L',HR w' (H++[.map2 []]) L'∧Ext (Zc w H L) (Zc w' (H++[.map2 []]) L')∧Same w w' H L L' ws∧AR (Zc w' (H++[.map2 []]) L') (.mp H.length) (.map (some b)):=by
 obtain ⟨k1,k2,k3⟩:=hr.add_same hg (.map2 []) ⟨some b,0,0,true⟩ (by simpa using hlt) (fun he=>by
  refine ⟨?_,b,#[],0,?_,hb,rfl,fun j p e hj _=>by simp at hj⟩
  ·show ((Zw L H.length _) H.length).st=true;rw [Zd]
  ·show ((Zw L H.length _) H.length).blk=some b;rw [Zd]) ws
 refine ⟨_,k1,k2,k3,.mp (by simp [Zc]) ?_ ?_⟩
 ·show ((Zw L H.length _) H.length).st=true;rw [Zd]
 ·show ((Zw L H.length _) H.length).blk=some b;rw [Zd]
end
section
variable {P:Program} {h:List Blk} {s s':St} {a:Act} {w:World} {L:Nat→Lc} {v:AV} {ws:List Nat} {drw:Option Nat} {nb:Nat}
theorem Zp4 (hr:HR w (full h s) L) {o:Oper} {t:TypeId} (ho:o.op = .makeMap t none) (he:evI h nb s .mkmap2=some (v,s',ws)) :
  Im w (full h s) L ((execOp a.eval o).run P w) v (full h s') ws∧s'.t=s.t:=by
 simp [evI] at he
 obtain ⟨rfl,rfl,rfl⟩:=he
 obtain ⟨L',h1,h2,h3,h4⟩:=hr.newMap2 (Y1.push w (.map #[] 0)) w.heap.size (Nat.le_refl _) (V6 _ _) []
 rw [Yw] at h4
 refine ⟨?_,rfl⟩
 rw [Us]
 refine X9 (cv := .map (some w.heap.size)) ?_ h4 h1 h2 h3
 simp only [execOp,ho,Instr.makeMap,Option.map_none]
 rfl
theorem Ziz (hr:HR w (full h s) L) {id:Nat} {es:List (List GV×Option GV)} {c:Value} (hB:Yp h s id=some (.map2 es)) (hx:AR (Zc w (full h s) L) (.mp id) c) :
  ∃b en ck,c = .map (some b)∧(L id).blk=some b∧(L id).st=true∧w.heap[b]? = some (.map en ck)∧Ts (Zc w (full h s) L) es en:=by
 have hk:=hr.blk id _ (by rw [Z9];exact hB)
 obtain ⟨h0,b,en,ck,h1,h2,h3⟩:=hk
 cases hx with
 | @mp _ b' hid hgen hb =>
  have e:b=b':=by rw [hb] at h1;exact (Option.some.inj h1).symm
  subst e
  exact ⟨b,en,ck,rfl,hb,hgen,h2,h3⟩
theorem He:∀{cs:List AV} {gs:List GV},Xq cs=some gs→cs=gs.map .g
 | [],gs,h=>by simp [Xq] at h;subst h;rfl
 | c::cs,gs,h=>by
  cases c <;> simp only [Xq] at h <;> try (cases h;done)
  split at h
  ·rename_i g vs hv
   cases h
   rw [He hv];rfl
  ·cases h
theorem Zi0 (ht:TR (Zc w (full h s) L) a s.t) {k:Operand} {K:Opd} {kv:List GV} (hk:Z6 k=some K) (hv:(val s K).bind Zfi=some kv):KR2 (Zc w (full h s) L) kv (a.eval k):=by
 cases hq:val s K with
 | none=>simp [hq] at hv
 | some x =>
  simp only [hq,Option.bind_some] at hv
  cases x <;> simp only [Zfi] at hv <;> try (cases hv;done)
  rename_i cs
  have:=Zl ht hk hq
  unfold KR2
  rw [←He hv]
  exact this
theorem Zbg {t key elem:TypeId} {r:Nat} {en:Array MapEntry} {ck:Nat} {kv z:Value} {res:Option (Nat×Value)} {i:TypeInfo} (cm:Bool) (ht:P.underlying t=some (.map key elem)) (hc:∀e,(Instr.checkKey e 10000 key kv).run P w = .ok () w)
  (hb:w.heap[r]? = some (.map en ck)) (hf:(Instr.findKey key kv en.toList).run P w = .ok res w) (hi:P.info? elem=some i) (hz:i.zero=some z) :
  (Instr.lookup t (.map (some r)) kv cm).run P w = .ok (if cm=true then .tuple #[(res.map (·.2)).getD z,.bool res.isSome] else (res.map (·.2)).getD z) w:=by
 unfold Instr.lookup
 simp only [Sem.run_bind,run_underlying ht,Result.andThen,MapKept.run_getObj_map hb,Sem.run_pure,hc,hf]
 cases res with
 | none=>simp [zeroValue,typeInfo,hi,hz]
 | some p=>simp
theorem D8 {key:TypeId} {ks:List LK} {E:Env} {kv:List GV} {c:Value} (hd:KdS P key ks) (hk:KR2 E kv c) (hl:kv.length=ks.length) (e:Bool):(Instr.checkKey e 10000 key c).run P w = .ok () w:=by
 obtain ⟨xs,x1,x2,_⟩:=AR.crel hk
 rw [x1]
 exact Dp hd (by have:=x2.1;simp at this;omega) e 9998
theorem Zvb (hr:HR w (full h s) L) (ht:TR (Zc w (full h s) L) a s.t) {o:Oper} {t:TypeId} {x k:Operand} {X K:Opd} {cm:Bool} {ks:List LK} {z:Option GV} (ho:o.op = .lookup t x k cm) (hm:Gf P t=some (ks,z)) (hx:Z6 x=some X) (hk:Z6 k=some K)
  (he:evI h nb s (.mget2 cm ks z X K)=some (v,s',ws)):Im w (full h s) L ((execOp a.eval o).run P w) v (full h s') ws∧s'.t=s.t:=by
 obtain ⟨key,elem,u1,hd,i,zv,hi,hz,hzr⟩:=Zbf hm
 simp only [evI] at he
 split at he
 ·rename_i id kv hX hK
  split at he
  ·rename_i es hB
   split at he
   ·rename_i r hg
    cases he
    obtain ⟨b,en,ck,e1,e2,e3,e4,e5⟩:=Ziz hr hB (Zl ht hx hX)
    have hkr:=Zi0 ht hk hK
    unfold K6 at hg
    split at hg
    case isFalse=>cases hg
    rename_i hkl
    have hck:=fun e=>D8 (P:=P) (w:=w) hd hkr hkl e
    cases hf:Sn ks kv es with
    | none=>simp [hf] at hg
    | some fr =>
     simp only [hf] at hg
     have hfo:=Hd (w:=w) hd hkr es en.toList fr (by simpa using e5.1) (fun j p e h1 h2=>e5.2 j p e h1 (by simpa using h2)) hf
     have fin:∀(res:Option (Nat×Value)) (g:Option GV),(Instr.findKey key (a.eval k) en.toList).run P w = .ok res w→VR (Zc w (full h s) L) g ((res.map (·.2)).getD zv)→res.isSome=fr.isSome →
       v=(if cm=true then AV.tup [mvV g,.g (.bool fr.isSome)] else mvV g)→Im w (full h s) L ((execOp a.eval o).run P w) v (full h s) []∧s.t=s.t:=by
      intro res g q1 q2 q3 q4
      refine ⟨Im.same hr (cv:=if cm=true then .tuple #[(res.map (·.2)).getD zv,.bool res.isSome] else (res.map (·.2)).getD zv) ?_ ?_,rfl⟩
      ·simp only [execOp,ho,e1]
       rw [Sem.run_bind,Zbg cm u1 hck e4 q1 hi hz]
       rfl
      ·rw [q4]
       cases cm
       ·simp only [Bool.false_eq_true,if_false];exact q2.av
       ·simp only [if_true]
        refine .tup rfl (fun j x y hx hy => ?_)
        match j with
        | 0=>simp at hx hy;subst hx hy;exact q2.av
        | 1=>simp at hx hy;subst hx hy;rw [q3];exact .g (.bool _)
        | j+2=>simp at hx
     rcases hfo with ⟨rfl,q1⟩ | ⟨j,p,e,rfl,q1,q2,q3,q4⟩
     ·simp only [Option.some.injEq] at hg
      exact fin none z q1 (hzr _) rfl hg.symm
     ·simp only [q1,Option.map_some,Option.some.injEq] at hg
      refine fin (some (j,e.val)) p.2 q3 ?_ rfl hg.symm
      exact (e5.2 j p e q1 (by simpa using q2)).2
   ·cases he
  ·cases he
 ·cases he
theorem Gj {t key elem:TypeId} {r:Nat} {en:Array MapEntry} {ck:Nat} {kv val:Value} (ht:P.underlying t=some (.map key elem)) (hc:∀e,(Instr.checkKey e 10000 key kv).run P w = .ok () w)
  (hb:w.heap[r]? = some (.map en ck)) (hf:(Instr.findKey key kv en.toList).run P w = .ok none w) :
  (Instr.mapUpdate t (.map (some r)) kv val).run P w = .ok () { w with heap:=w.heap.setIfInBounds r (.map (en.push ⟨kv,val,ck⟩) (ck+1)) }:=by
 unfold Instr.mapUpdate
 simp only [Sem.run_bind,run_underlying ht,Result.andThen,MapKept.run_getObj_map hb,hc,hf,MapKept.run_setObj_map _ hb]
theorem Zvc (hr:HR w (full h s) L) (ht:TR (Zc w (full h s) L) a s.t) {o:Oper} {t:TypeId} {x k y:Operand} {X K Y:Opd} {ks:List LK} {z:Option GV} (ho:o.op = .mapUpdate t x k y) (hm:Gf P t=some (ks,z)) (hx:Z6 x=some X) (hk:Z6 k=some K) (hy:Z6 y=some Y)
  (he:evI h nb s (.mset2 ks X K Y)=some (v,s',ws)):Im w (full h s) L ((execOp a.eval o).run P w) v (full h s') ws∧s'.t=s.t:=by
 obtain ⟨key,elem,u1,hd,i,zv,hi,hz,hzr⟩:=Zbf hm
 simp only [evI] at he
 split at he
 ·rename_i id kv vv hX hK hY
  split at he
  ·rename_i es g hB hg
   split at he
   ·rename_i es' hs
    cases he
    have hxr:=Zl ht hx hX
    obtain ⟨b,en,ck,e1,e2,e3,e4,e5⟩:=Ziz hr hB hxr
    have hkr:=Zi0 ht hk hK
    have hvr:=Zpz hg (Zl ht hy hY)
    unfold K7 at hs
    split at hs
    case isFalse=>cases hs
    rename_i hkl
    have hck:=fun e=>D8 (P:=P) (w:=w) hd hkr hkl e
    have hid:(full h s)[id]? = some (.map2 es):=by rw [Z9];exact hB
    have turn:∀(en':Array MapEntry) (ck':Nat),(execOp a.eval o).run P w = .ok .skip { w with heap:=w.heap.setIfInBounds b (.map en' ck') }→Ts (Zc w (full h s) L) es' en' →
      Im w (full h s) L ((execOp a.eval o).run P w) .undef (full h (setB h s id (.map2 es'))) [id]∧(setB h s id (.map2 es')).t=s.t:=by
     intro en' ck' hq hin
     obtain ⟨hp1,hp2⟩:=MapKept.heap_set (o' := .map en' ck') e4
     have hblt:b<w.heap.size:=(Array.getElem?_eq_some_iff.1 e4).1
     obtain ⟨t1,t2⟩:=hr.turn (w':={ w with heap:=w.heap.setIfInBounds b (.map en' ck') }) (k' := .map2 es') hid rfl (L id) rfl rfl rfl (by simp) (fun b' _ hne=>hp2 b' (fun e=>hne (by rw [e];exact e2))) (.refl _ _) (fun b' hb' => .inl hb')
      (fun hext=>by
       refine ⟨?_,b,en',ck',?_,hp1,hin.mono hext⟩
       ·show ((Zw L id (L id)) id).st=true;rw [Zd];exact e3
       ·show ((Zw L id (L id)) id).blk=some b;rw [Zd];exact e2)
     rw [Yg,Va]
     refine ⟨⟨_,_,_,hq,.inr ⟨rfl,rfl⟩,t1,t2,fun j hj hne=>⟨Yk _ _ _ (by simpa using hne),fun ⟨x',hx',lx⟩ b' hb'=>hp2 b' (fun e => ?_)⟩⟩,rfl⟩
     subst e
     exact hne (by simp [hr.inj j id b' x' _ hx' hid lx rfl hb' e2])
    cases hf:Sn ks kv es with
    | none=>simp [hf] at hs
    | some fr =>
     have hfo:=Hd (w:=w) hd hkr es en.toList fr (by simpa using e5.1) (fun j p e h1 h2=>e5.2 j p e h1 (by simpa using h2)) hf
     rcases hfo with ⟨rfl,q1⟩ | ⟨j,p,e,rfl,q1,q2,q3,q4⟩
     ·simp [hf] at hs
      subst hs
      refine turn (en.push ⟨a.eval k,a.eval y,ck⟩) (ck+1) ?_ ⟨by simp [e5.1],fun j p e h1 h2 => ?_⟩
      ·simp only [execOp,ho,e1]
       rw [Sem.run_bind,Gj (P:=P) (kv:=a.eval k) (val:=a.eval y) u1 hck e4 q1]
       rfl
      by_cases hj:j<es.length
      ·rw [List.getElem?_append_left hj] at h1
       rw [Array.getElem?_push,if_neg (by have:=e5.1;omega)] at h2
       exact e5.2 j p e h1 h2
      ·have hjl:j=es.length:=by
        have:=(List.getElem?_eq_some_iff.1 h1).1
        simp at this;omega
       subst hjl
       simp at h1
       rw [Array.getElem?_push,if_pos e5.1] at h2
       cases h2
       subst h1
       exact ⟨hkr,hvr⟩
     ·simp [hf] at hs
   ·cases he
  ·cases he
 ·cases he
end
section
variable {P:Program} {h:List Blk} {s s':St} {a:Act} {w:World} {L:Nat→Lc} {v:AV} {ws:List Nat} {drw:Option Nat} {nb:Nat}
theorem Sv {e:TypeId} {r:Nat×Nat×List GV} (hr:P7 P e=some r):szT P e=some r.1∧Q2 P e=some r.2.1∧r.2.2.length=r.1 ∧
  ∃i z,P.info? e=some i∧i.zero=some z∧(P.info? e).bind (·.zero)=some z∧z.cells.size=r.1∧∀(E:Env) (j:Nat) (g:GV) (u:Value),r.2.2[j]? = some g→z.cells[j]? = some u→GR E g u:=by
 unfold P7 at hr
 cases h1:szT P e with
 | none=>simp [h1] at hr
 | some n =>
  cases h2:Q2 P e with
  | none=>simp [h1,h2] at hr
  | some b =>
   cases h3:Hb P e with
   | none=>simp [h1,h2,h3] at hr
   | some z =>
    cases h4:z.mapM gOf with
    | none=>simp [h1,h2,h3,h4] at hr
    | some g =>
     simp [h1,h2,h3,h4] at hr
     obtain ⟨hl,rfl⟩:=hr
     obtain ⟨i,zv,e1,e2,_,_⟩:=Ob (E:=⟨default,fun _=>False,fun _=>⟨none,0,0,false⟩,0,fun _=>False⟩) h3
     obtain ⟨m1,m2⟩:=Mm h4
     refine ⟨rfl,rfl,hl,i,zv,e1,e2,by simp [e1,e2],?_,fun E j gg u hg hu => ?_⟩
     ·obtain ⟨_,_,e1',e2',c1,_⟩:=Ob (E:=⟨default,fun _=>False,fun _=>⟨none,0,0,false⟩,0,fun _=>False⟩) h3
      rw [e1] at e1';cases e1';rw [e2] at e2';cases e2'
      rw [←c1.1,←m1];exact hl
     ·obtain ⟨_,_,e1',e2',c1,_⟩:=Ob (E:=E) h3
      rw [e1] at e1';cases e1';rw [e2] at e2';cases e2'
      have hlt:j<z.length:=by rw [c1.1];exact (Array.getElem?_eq_some_iff.1 hu).1
      have hz:=List.getElem?_eq_getElem hlt
      have:=m2 j _ gg hz hg
      have har:=c1.2 j _ u hz hu
      cases hq:z[j] with
      | g x=>rw [hq] at this har;simp [gOf] at this;subst this;exact har.inv_g
      | _=>rw [hq] at this;simp [gOf] at this
theorem Gk {E:Env} {z:Value} {g:List GV} {sz:Nat} (hz:z.cells.size=sz) (hg:g.length=sz) (hr:∀(j:Nat) (x:GV) (u:Value),g[j]? = some x→z.cells[j]? = some u→GR E x u) (n:Nat) :
  Vk E sz (List.replicate n g) (Builtin.zeroCells z.cells n).toList:=by
 refine ⟨by simp [size_zeroCells,hz],fun i el hi => ?_⟩
 have hel:el=g∧i<n:=by
  rw [List.getElem?_replicate] at hi
  split at hi
  ·cases hi;exact ⟨rfl,by assumption⟩
  ·cases hi
 obtain ⟨rfl,hin⟩:=hel
 refine ⟨hg,fun j x hj => ?_⟩
 have hjs:j<sz:=by rw [←hg];exact (List.getElem?_eq_some_iff.1 hj).1
 have hjz:j<z.cells.size:=by omega
 refine ⟨z.cells[j],?_,hr j x _ hj (Array.getElem?_eq_getElem hjz)⟩
 have hk:i*sz+j<n*z.cells.size:=by rw [hz];exact Xm hin hjs
 have hmod:(i*sz+j) % z.cells.size=j:=by rw [hz,Nat.mul_comm,Nat.mul_add_mod,Nat.mod_eq_of_lt hjs]
 unfold Builtin.zeroCells
 simp only [Array.toList_map,Array.toList_range,List.getElem?_map,List.getElem?_range hk,Option.map_some,hmod]
 congr 1
 exact getElem!_pos z.cells j hjz
theorem Zbh {α:Type} {l:List α} {i:Nat} {x:α} (h:l[i]? = some x):l.set i x=l:=by
 apply List.ext_getElem?
 intro j
 by_cases e:i=j
 ·subst e;rw [List.getElem?_set_self (List.getElem?_eq_some_iff.1 h).1,h]
 ·rw [List.getElem?_set_ne e]
theorem Mq {cargs:Array Operand} {X Y:Opd} (hxs:Ww cargs.toList=some [X,Y]):∃x y,cargs.map a.eval = #[a.eval x,a.eval y]∧Z6 x=some X∧Z6 y=some Y:=by
 obtain ⟨x,y,hl,hx,hy⟩:=Zlo hxs
 refine ⟨x,y,?_,hx,hy⟩
 have:cargs = #[x,y]:=by
  apply Array.ext';simpa using hl
 subst this;simp
theorem size_two {cts:Array TypeId} (h:cts.size=2):cts = #[cts.getD 0 0,cts.getD 1 0]:=by
 match cts,h with
 | ⟨[x,y]⟩,_=>rfl
theorem Zlr {E:Env} (b:List UInt8):Vk E 1 (Xb b) (b.map fun c=>Value.int .u8 c.toNat):=by
 refine ⟨by simp [Xb],fun i el hi => ?_⟩
 simp [Xb] at hi
 obtain ⟨c,hc,rfl⟩:=hi
 refine ⟨rfl,fun j g hj => ?_⟩
 match j with
 | 0=>simp at hj;subst hj;exact ⟨.int .u8 c.toNat,by simp [hc],.int _ _⟩
 | j+1=>simp at hj
theorem Zls (hr:HR w (full h s) L) (ht:TR (Zc w (full h s) L) a s.t) {dst:Option Tmp} {ty:TypeId} {pos:String} {after:Array Edge} {gd:Option (Nat×Bool)} {b:Builtin} {cargs:Array Operand} {cts:Array TypeId} {xs:List Opd} {ao:AOp} (hxs:Ww cargs.toList=some xs) (hc:Qh P b cts xs=some ao)
  (he:evI h nb s ao=some (v,s',ws)):Im w (full h s) L ((execOp a.eval ⟨dst,.call ⟨.builtin b,cargs,cts⟩,ty,pos,after,gd⟩).run P w) v (full h s') ws∧s'.t=s.t:=by
 have hrun:∀{cv:Value} {w':World},(builtin b cts ty (cargs.map fun | .const _=>true | _=>false) (cargs.map a.eval)).run P w = .ok (.value cv) w'→(execOp a.eval ⟨dst,.call ⟨.builtin b,cargs,cts⟩,ty,pos,after,gd⟩).run P w = .ok (.value cv) w':=by
  intro cv w' h1
  simp only [execOp,resolve,pure_bind,invoke]
  exact h1
 have app:∀{e t u:TypeId} {r:Nat×Nat×List GV} {X Y:Opd} {x y:Operand} {vx:AV} {ys:List (List GV)} {news:List Value},b = .append→cts = #[t,u]→cargs.map a.eval = #[a.eval x,a.eval y]→P7 P e=some r →
   AR (Zc w (full h s) L) vx (a.eval x)→Vk (Zc w (full h s) L) r.1 ys news →
   (∀(A:Option Addr) (sLen sCap:Nat) (w2:World),sLen+ys.length≤sCap→(match A with | none=>w2=w | some a=>(storeCells (a.add (sLen*r.1)) news).run P w = .ok () w2) →
    (Builtin.append_ #[t,u] ty #[.slice A sLen sCap,a.eval y]).run P w = .ok (.slice A (sLen+ys.length) sCap) w2) →
   (∀(z:Value),(P.info? e).bind (·.zero)=some z→z.cells.size=r.1→∀(A:Option Addr) (sLen sCap:Nat) (olds:List Value),¬sLen+ys.length≤sCap→sLen+ys.length≤9223372036854775807→(sLen+ys.length)*r.2.1≤140737488355328 →
    (∀w1:World,w1.heap=w.heap→(Builtin.firstCells r.1 sLen (.slice A sLen sCap)).run P w1 = .ok olds.toArray w1) →
    (Builtin.append_ #[t,u] ty #[.slice A sLen sCap,a.eval y]).run P w = .ok (.slice (some ⟨w.heap.size,0,none⟩) (sLen+ys.length) (grownCap w (sLen+ys.length) sCap e)) (W4 w (sLen+ys.length) sCap e z olds news)) →
   Yh h s r.1 r.2.1 vx ys=some (v,s',ws) →
   Im w (full h s) L ((execOp a.eval ⟨dst,.call ⟨.builtin b,cargs,cts⟩,ty,pos,after,gd⟩).run P w) v (full h s') ws∧s'.t=s.t:=by
  intro e t u r X Y x y vx ys news hb hct hca hrow hx hy h1 h2 hap
  subst hb
  obtain ⟨_,_,_,i,z,_,_,hz,hzs,_⟩:=Sv hrow
  obtain ⟨⟨cv,w',L',k1,k2,k3,k4,k5⟩,kt⟩:=Zu5 (P:=P) (t:=t) (u:=u) (ty:=ty) (e:=e) hr hzs hx hy h1 (h2 z hz hzs) hap
  refine ⟨⟨_,w',L',hrun (cv:=cv) (w':=w') ?_,.inl ⟨cv,rfl,k2⟩,k3,k4,k5⟩,kt⟩
  simp only [builtin]
  rw [Sem.run_bind,hct,hca,k1]
  rfl
 have appT:∀{e t u:TypeId} {r:Nat×Nat×List GV} {X Y:Opd} {x y:Operand} {id g off len:Nat} {ys:List (List GV)} {news:List Value},b = .append→cts = #[t,u]→cargs.map a.eval = #[a.eval x,a.eval y]→P7 P e=some r →
   AR (Zc w (full h s) L) (.ms id g r.1 off len) (a.eval x)→Vk (Zc w (full h s) L) r.1 ys news →
   (∀(A:Option Addr) (sLen sCap:Nat) (w2:World),sLen+ys.length≤sCap→(match A with | none=>w2=w | some a=>(storeCells (a.add (sLen*r.1)) news).run P w = .ok () w2) →
    (Builtin.append_ #[t,u] ty #[.slice A sLen sCap,a.eval y]).run P w = .ok (.slice A (sLen+ys.length) sCap) w2) →
   (∀(z:Value),(P.info? e).bind (·.zero)=some z→z.cells.size=r.1→∀(A:Option Addr) (sLen sCap:Nat) (olds:List Value),¬sLen+ys.length≤sCap→sLen+ys.length≤9223372036854775807→(sLen+ys.length)*r.2.1≤140737488355328 →
    (∀w1:World,w1.heap=w.heap→(Builtin.firstCells r.1 sLen (.slice A sLen sCap)).run P w1 = .ok olds.toArray w1) →
    (Builtin.append_ #[t,u] ty #[.slice A sLen sCap,a.eval y]).run P w = .ok (.slice (some ⟨w.heap.size,0,none⟩) (sLen+ys.length) (grownCap w (sLen+ys.length) sCap e)) (W4 w (sLen+ys.length) sCap e z olds news)) →
   Hc e h s r.1 r.2.1 id g off len ys=some (v,s',ws) →
   Im w (full h s) L ((execOp a.eval ⟨dst,.call ⟨.builtin b,cargs,cts⟩,ty,pos,after,gd⟩).run P w) v (full h s') ws∧s'.t=s.t:=by
  intro e t u r X Y x y id g off len ys news hb hct hca hrow hx hy h1 h2 hap
  subst hb
  obtain ⟨_,_,_,i,z,_,_,hz,hzs,_⟩:=Sv hrow
  obtain ⟨⟨cv,w',L',k1,k2,k3,k4,k5⟩,kt⟩:=Zpu (P:=P) (t:=t) (u:=u) (ty:=ty) (e:=e) hr hzs hx hy h1 (h2 z hz hzs) hap
  refine ⟨⟨_,w',L',hrun (cv:=cv) (w':=w') ?_,.inl ⟨cv,rfl,k2⟩,k3,k4,k5⟩,kt⟩
  simp only [builtin]
  rw [Sem.run_bind,hct,hca,k1]
  rfl
 unfold Qh at hc
 cases b <;> (try (cases hc;done)) <;> dsimp only at hc
 case len=>split at hc <;> (try (cases hc;done)) <;> (split at hc <;> (try (cases hc;done)) <;> (cases hc;simp [evI] at he))
 case cap=>split at hc <;> (try (cases hc;done)) <;> (split at hc <;> (try (cases hc;done)) <;> (cases hc;simp [evI] at he))
 case max=>split at hc <;> (try (cases hc;done)) <;> (cases hc;simp [evI] at he)
 case min=>split at hc <;> (try (cases hc;done)) <;> (cases hc;simp [evI] at he)
 case append =>
  split at hc
  ·rename_i X Y e e2 hu1 hu2
   split at hc
   ·rename_i hsz
    cases hrow:P7 P e with
    | none=>simp [hrow] at hc
    | some r =>
     simp [hrow] at hc
     subst hc
     obtain ⟨x,y,hca,hx,hy⟩:=Mq (a:=a) hxs
     simp only [evI] at he
     split at he
     ·rename_i vx vy hX hY
      cases hvw:Vs h s r.1 vy with
      | none=>simp [hvw] at he
      | some ys =>
       simp only [hvw] at he
       obtain ⟨q1,q2,_⟩:=Sv hrow
       obtain ⟨A,cap,news,e1,e2',hns,hf⟩:=Zbe (P:=P) hr hvw (Zl ht hy hY)
       have hsrc:Src P (cts.getD 1 0) (a.eval y) r.1 ys.length news w:=⟨⟨_,hu2,.inl ⟨_,rfl⟩⟩,fun w1=>by rw [e1];rfl,hf⟩
       exact app (X:=X) (Y:=Y) rfl (size_two hsz) hca hrow (Zl ht hx hX) hns (fun A sLen sCap w2 h1 h2=>Q8 hu1 q1 q2 A sLen sCap _ _ news hsrc h1 w2 h2)
        (fun z hz hzs A sLen sCap olds h1 h2 h3 h4=>Q9 hu1 q1 q2 hz A sLen sCap _ _ olds news hsrc h1 h2 h3 h4) he
     ·cases he
   ·cases hc
  ·rename_i X Y e hu1 hu2
   split at hc
   ·rename_i hsz
    cases hrow:P7 P e with
    | none=>simp [hrow] at hc
    | some r =>
     simp [hrow] at hc
     obtain ⟨⟨hr1,hr2⟩,rfl⟩:=hc
     obtain ⟨x,y,hca,hx,hy⟩:=Mq (a:=a) hxs
     simp only [evI] at he
     split at he
     ·rename_i vx bs hX hY
      obtain ⟨q1,q2,_⟩:=Sv hrow
      have hye:=(Zl ht hy hY).inv_g.inv_str
      have hlen:(Xb bs).length=bs.length:=by simp [Xb]
      have hsrc:Src P (cts.getD 1 0) (a.eval y) r.1 (Xb bs).length (bs.map fun c=>Value.int .u8 c.toNat) w:=by
       refine ⟨⟨_,hu2,.inr rfl⟩,fun w1=>by rw [hye,hlen];simp [Builtin.lenOf];rfl,fun w1 _ => ?_⟩
       rw [hye,hlen]
       simp only [Builtin.firstCells,Sem.run_pure]
       congr 1
       rw [ByteArray.extract_mk]
       simp
      have hns:Vk (Zc w (full h s) L) r.1 (Xb bs) (bs.map fun c=>Value.int .u8 c.toNat):=by rw [hr1];exact Zlr bs
      have old:∀vx,val s X=some vx→Yh h s 1 1 vx (Xb bs)=some (v,s',ws)→Im w (full h s) L ((execOp a.eval ⟨dst,.call ⟨.builtin .append,cargs,cts⟩,ty,pos,after,gd⟩).run P w) v (full h s') ws∧s'.t=s.t:=by
       intro vx hX he
       have he:Yh h s r.1 r.2.1 vx (Xb bs)=some (v,s',ws):=by rw [hr1,hr2];exact he
       exact app (X:=X) (Y:=Y) rfl (size_two hsz) hca hrow (Zl ht hx hX) hns (fun A sLen sCap w2 h1 h2=>Q8 hu1 q1 q2 A sLen sCap _ _ _ hsrc h1 w2 h2)
        (fun z hz hzs A sLen sCap olds h1 h2 h3 h4=>Q9 hu1 q1 q2 hz A sLen sCap _ _ olds _ hsrc h1 h2 h3 h4) he
      split at he
      ·rename_i id g sz off len
       split at he
       ·split at he
        ·rename_i hsz1
         have he:Hc e h s r.1 r.2.1 id g off len (Xb bs)=some (v,s',ws):=by rw [hr1,hr2];exact he
         exact appT (X:=X) (Y:=Y) rfl (size_two hsz) hca hrow (by rw [hr1,←hsz1];exact Zl ht hx hX) hns (fun A sLen sCap w2 h1 h2=>Q8 hu1 q1 q2 A sLen sCap _ _ _ hsrc h1 w2 h2)
          (fun z hz hzs A sLen sCap olds h1 h2 h3 h4=>Q9 hu1 q1 q2 hz A sLen sCap _ _ olds _ hsrc h1 h2 h3 h4) he
        ·cases he
       ·exact old _ hX he
      ·exact old _ hX he
     ·cases he
   ·cases hc
  ·rename_i X Y e k hu1 hu2
   split at hc
   ·rename_i hsz
    cases hrow:P7 P e with
    | none=>simp [hrow] at hc
    | some r =>
     simp [hrow] at hc
     subst hc
     obtain ⟨x,y,hca,hx,hy⟩:=Mq (a:=a) hxs
     simp only [evI] at he
     split at he
     ·rename_i vx n hX hY
      split at he
      ·rename_i hcond
       obtain ⟨n0,n1,n2⟩:=hcond
       obtain ⟨q1,q2,q3,i,z,_,_,hz,hzs,hzr⟩:=Sv hrow
       have hye:=(Zl ht hy hY).inv_g.inv_int
       have hn:((n.toNat:Nat):Int)=n:=Int.toNat_of_nonneg n0
       have hye':a.eval y = .int .i64 n.toNat:=by rw [hye,hn]
       have hl:(List.replicate n.toNat r.2.2).length=n.toNat:=by simp
       have b1:n.toNat≤281474976710656:=by omega
       have b2:n.toNat*r.2.1≤281474976710656:=by
        have:((n.toNat*r.2.1:Nat):Int)=n*r.2.1:=by rw [Int.natCast_mul,hn]
        omega
       refine app (X:=X) (Y:=Y) (news:=(Builtin.zeroCells z.cells n.toNat).toList) rfl (size_two hsz) hca hrow (Zl ht hx hX) (Gk hzs q3 (hzr _) n.toNat) (fun A sLen sCap w2 h1 h2 => ?_) (fun z' hz' hzs' A sLen sCap olds h1 h2 h3 h4 => ?_) he
       ·rw [hl] at h1 ⊢
        rw [hye']
        exact Dl hu1 q1 q2 A sLen sCap n.toNat (.int .i64 n.toNat) [] hz hzs hu2 b1 b2 h1 w2 h2
       ·rw [hz] at hz';cases hz'
        rw [hl] at h1 h2 h3 ⊢
        rw [hye']
        exact Dm hu1 q1 q2 hz hzs A sLen sCap n.toNat olds hu2 b1 b2 h1 h2 h3 h4
      ·cases he
     ·cases he
   ·cases hc
  ·cases hc
 case unsafeSliceData =>
  split at hc
  ·rename_i X
   cases hc
   obtain ⟨x,hl,hx⟩:=S6 hxs
   have hca:cargs.map a.eval = #[a.eval x]:=by
    have:cargs = #[x]:=by apply Array.ext';simpa using hl
    subst this;simp
   simp only [evI] at he
   split at he
   ·rename_i id g sz off len hX
    have hq:=Zl ht hx hX
    split at he
    ·rename_i hcur
     obtain ⟨k1,k2⟩:=Zlq (P:=P) hr hq hcur cts ty
     split at he
     ·rename_i hg
      cases he
      refine ⟨Im.same hr (cv := .pointer none) (hrun ?_) (.g .nptr),rfl⟩
      simp only [builtin]
      rw [Sem.run_bind,hca,k1 hg]
      rfl
     ·split at he
      ·rename_i hl
       cases he
       obtain ⟨cv,k3,k4⟩:=k2 hl
       refine ⟨Im.same hr (cv:=cv) (hrun ?_) k4,rfl⟩
       simp only [builtin]
       rw [Sem.run_bind,hca,k3]
       rfl
      ·cases he
    ·cases he
   ·cases he
  ·cases hc
 case unsafeString =>
  split at hc
  ·rename_i X Y e hu1
   split at hc
   ·rename_i hsz
    cases hc
    obtain ⟨x,y,hca,hx,hy⟩:=Mq (a:=a) hxs
    simp only [evI] at he
    split at he
    ·rename_i n hX hY
     split at he
     ·rename_i hn
      subst hn
      cases he
      have e1:=(Zl ht hx hX).inv_g
      have e2:=(Zl ht hy hY).inv_g.inv_int
      refine ⟨Im.same hr (cv := .string .empty) (hrun ?_) (.g (.str [])),rfl⟩
      simp only [builtin]
      rw [Sem.run_bind,hca,size_two hsz.1,e2]
      cases e1':a.eval x <;> rw [e1'] at e1 <;> cases e1
      rw [Lib.run_unsafeString_none]
      rfl
     ·cases he
    ·rename_i id g sz i off n hX hY
     split at he
     ·rename_i T sz2 g' els hB
      split at he
      ·rename_i hcnd
       obtain ⟨rfl,rfl,rfl,rfl,n0,n1,n2,hTe⟩:=hcnd
       replace hTe:=hTe.symm
       subst hTe
       split at he
       ·rename_i bs hbs
        cases he
        have hnn:((n.toNat:Nat):Int)=n:=Int.toNat_of_nonneg (by omega)
        have e2:=(Zl ht hy hY).inv_g.inv_int
        obtain ⟨w',L',k1,k2,k3,k4⟩:=B4 (P:=P) hr (Zl ht hx hX) hB (by omega) (by omega) (by omega) hbs (pt:=cts.getD 0 0) (it:=cts.getD 1 0) (ty:=ty) hu1 hsz.2
        refine ⟨?_,Va _ _ _ _⟩
        rw [Yg]
        refine ⟨_,w',L',hrun ?_,.inl ⟨_,rfl,.g (.str bs)⟩,k2,k3,k4⟩
        simp only [builtin]
        rw [Sem.run_bind,hca,size_two hsz.1,e2,←hnn,k1]
        rfl
       ·cases he
      ·cases he
     ·cases he
    ·cases he
   ·cases hc
  ·cases hc
 case clear =>
  split at hc
  ·rename_i X e hu1
   split at hc
   ·rename_i hsz
    cases hrow:P7 P e with
    | none=>simp [hrow] at hc
    | some r =>
     simp [hrow] at hc
     subst hc
     obtain ⟨x,hl,hx⟩:=S6 hxs
     have hca:cargs.map a.eval = #[a.eval x]:=by
      have:cargs = #[x]:=by apply Array.ext';simpa using hl
      subst this;simp
     have hct:cts = #[cts.getD 0 0]:=by
      match cts,hsz with
      | ⟨[y]⟩,_=>rfl
     obtain ⟨q1,q2,q3,i,z,hi,hz0,hz,hzs,hzr⟩:=Sv hrow
     simp only [evI] at he
     split at he
     ·rename_i hX
      simp at he
      obtain ⟨rfl,rfl,rfl⟩:=he
      have hq:=(Zl ht hx hX).inv_g
      generalize hcx:a.eval x=cx at hq
      cases hq
      refine ⟨X9 (cv := .tuple #[]) (w':=w) (L':=L) (hrun ?_) (.tup (by simp) (by simp)) hr (Ext.refl _) (fun _ _ _=>⟨rfl,fun _ _ _=>rfl⟩),rfl⟩
      simp only [builtin]
      rw [Sem.run_bind,hca,hcx]
      unfold Builtin.clear_
      rw [hct]
      generalize cts.getD 0 0=t0 at hu1 ⊢
      simp [run_underlying hu1]
     ·rename_i id g sz off len hX
      cases hB:Yp h s id with
      | none=>simp [hB] at he
      | some k =>
       cases k <;> simp [hB] at he
       rename_i sz' g' els
       obtain ⟨⟨rfl,rfl,hszr,hle⟩,rfl,rfl,rfl⟩:=he
       refine ⟨?_,Va _ _ _ _⟩
       have hcur:cur h s id g=true:=by simp [cur,hB]
       have hq:=Zl ht hx hX
       obtain ⟨hid,hg0,hgen,hm⟩:=Qi hr hcur hq
       have hget:(full h s)[id]? = some (.rows sz g els):=by rw [Z9];exact hB
       obtain ⟨hg1,⟨hg2,hg3⟩,hrw⟩:=hr.blk id _ hget
       rw [show (Zc w (full h s) L).L id=L id from rfl] at hrw
       have hnews:=Gk (E:=Zc w (full h s) L) (n:=len) hzs q3 (hzr _)
       have hnl:(Builtin.zeroCells z.cells len).toList.length=len*sz:=by rw [hnews.1];simp [←q3,hszr]
       cases hbk:(L id).blk with
       | none =>
        rw [hbk] at hrw
        obtain ⟨rfl,hcap0⟩:=hrw
        unfold Wb at hm
        rw [hbk] at hm
        obtain ⟨hcx,rfl,rfl⟩:=hm
        rw [Yg]
        have hset:(full h s).set id (Blk.rows sz g (List.take 0 []++(List.replicate 0 r.2.2++List.drop (0+0) [])))=full h s:=by
         simp
         exact Zbh hget
        rw [hset]
        refine X9 (cv := .tuple #[]) (w':=w) (L':=L) (hrun ?_) (.tup (by simp) (by simp)) hr (Ext.refl _) (fun _ _ _=>⟨rfl,fun _ _ _=>rfl⟩)
        simp only [builtin]
        rw [Sem.run_bind,hca,hcx]
        unfold Builtin.clear_
        rw [hct]
        generalize cts.getD 0 0=t0 at hu1 ⊢
        simp [run_underlying hu1]
       | some b =>
        rw [hbk] at hrw
        obtain ⟨T,C,hb2,hC1,hC2,hC3⟩:=hrw
        unfold Wb at hm
        rw [hbk] at hm
        obtain ⟨A,c,hcx,hoc,hlc,hA⟩:=hm
        have hC1':C.size=(L id).cap*sz:=hC1
        have hC2':els.length≤(L id).cap:=hC2
        by_cases hl0:len=0
        ·subst hl0
         rw [Yg]
         have hset:(full h s).set id (Blk.rows sz g (List.take off els++(List.replicate 0 r.2.2++List.drop (off+0) els)))=full h s:=by
          simp
          exact Zbh hget
         rw [hset]
         refine X9 (cv := .tuple #[]) (w':=w) (L':=L) (hrun ?_) (.tup (by simp) (by simp)) hr (Ext.refl _) (fun _ _ _=>⟨rfl,fun _ _ _=>rfl⟩)
         simp only [builtin]
         rw [Sem.run_bind,hca,hcx]
         unfold Builtin.clear_
         rw [hct]
         generalize cts.getD 0 0=t0 at hu1 ⊢
         simp [run_underlying hu1]
        ·have hA':A=⟨b,off*sz,none⟩:=hA.resolve_right (by omega)
         subst hA'
         have hbound:off*sz+(Builtin.zeroCells z.cells len).toList.length≤C.size:=by
          rw [hnl,hC1',←Nat.add_mul];exact Nat.mul_le_mul_right _ (by omega)
         have hst:=V7 (P:=P) (w:=w) hb2 hbound hnews.one
         obtain ⟨e1,e2,e3⟩:=hr.storeInto (k' := .rows sz g (els.take off++(List.replicate len r.2.2++els.drop (off+len)))) hget rfl hbk hb2 (o:=off*sz) (vs:=(Builtin.zeroCells z.cells len).toList) hbound (fun C' z1 z2 hext z3=>by
          have hLid:(Zc (w.setCells b (off*sz) (Builtin.zeroCells z.cells len).toList) ((full h s).set id (.rows sz g (els.take off++(List.replicate len r.2.2++els.drop (off+len))))) (Zw L id (L id))).L id=L id:=by show Zw L id (L id) id=_;rw [Zd]
          refine ⟨by rw [hLid];exact hg1,⟨by rw [hLid];exact hg2,hg3⟩,?_⟩
          rw [hLid,hbk]
          have hl1:(els.take off).length=off:=by simp;omega
          have hrl:(List.replicate len r.2.2).length=len:=by simp
          refine ⟨T,C',z3,by rw [z1];exact hC1,?_,fun i el hi => ?_⟩
          ·simp;omega
          ·by_cases hin:off≤i∧i<off+len
           ·rw [List.getElem?_append_right (by omega),hl1,List.getElem?_append_left (by omega)] at hi
            obtain ⟨p1,p2⟩:=hnews.2 _ el hi
            have p1':el.length=sz:=by rw [p1,←q3,hszr]
            refine ⟨p1',fun j gv hj => ?_⟩
            obtain ⟨uu,u1,u2⟩:=p2 j gv hj
            have hjs:j<sz:=by rw [←p1'];exact (List.getElem?_eq_some_iff.1 hj).1
            refine ⟨uu,?_,u2.mono hext⟩
            have hlow:off*sz≤i*sz:=Nat.mul_le_mul_right _ hin.1
            have hhigh:i*sz+j<(off+len)*sz:=Xm hin.2 hjs
            rw [Nat.add_mul] at hhigh
            rw [z2,if_pos (by rw [hnl];omega),←u1]
            congr 1
            rw [←q3,←hszr,Nat.sub_mul];omega
           ·have hcs:els[i]? = some el:=by
             by_cases hlo:i<off
             ·rw [List.getElem?_append_left (by omega),List.getElem?_take_of_lt hlo] at hi;exact hi
             ·rw [List.getElem?_append_right (by omega),hl1,List.getElem?_append_right (by omega),List.getElem?_drop] at hi
              rw [←hi];congr 1;omega
            obtain ⟨p1,p2⟩:=hC3 i el hcs
            refine ⟨p1,fun j gv hj => ?_⟩
            obtain ⟨uu,u1,u2⟩:=p2 j gv hj
            have hjs:j<sz:=by rw [←p1];exact (List.getElem?_eq_some_iff.1 hj).1
            refine ⟨uu,?_,u2.mono hext⟩
            rw [z2,if_neg]
            ·exact u1
            ·rw [hnl]
             rintro ⟨y1,y2⟩
             have hio:i<off∨off+len≤i:=by omega
             rcases hio with hio | hio
             ·have:=Xm hio hjs
              omega
             ·have:=Nat.mul_le_mul_right sz hio
              rw [Nat.add_mul] at this;omega)
         rw [Yg]
         refine X9 (cv := .tuple #[]) (hrun ?_) (.tup (by simp) (by simp)) e1 e2 e3
         simp only [builtin]
         rw [Sem.run_bind,hca,hcx]
         unfold Builtin.clear_
         rw [hct]
         generalize cts.getD 0 0=t0 at hu1 ⊢
         obtain ⟨l',rfl⟩:∃l',len=l'+1:=⟨len - 1,by omega⟩
         simp [run_underlying hu1,zeroValue,typeInfo,hi,hz0]
         rw [hst];rfl
     ·cases he
   ·cases hc
  ·cases hc
end
section
variable {P:Program} {h:List Blk} {s s':St} {a:Act} {w:World} {L:Nat→Lc} {v:AV} {ws:List Nat} {drw:Option Nat} {nb:Nat}
theorem Zvd {z:Array Value} {sz n k:Nat} (hz:z.size=sz) (hk:k<n*sz):((Array.range (n*sz)).map (fun i=>z[i % z.size]!))[k]? = some (z.getD (k % sz) Go.undef):=by
 obtain ⟨d1,_,d3,_⟩:=Mo hk
 rw [Array.getElem?_map]
 have:(Array.range (n*sz))[k]? = some k:=by simp [Array.getElem?_range,hk]
 rw [this]
 simp only [Option.map_some,hz]
 congr 1
 have hlt:k % sz<z.size:=by rw [hz];exact d3
 rw [getElem!_pos z _ hlt,Array.getD_eq_getD_getElem?,Array.getElem?_eq_getElem hlt];rfl
theorem Vx (f:Nat→Value):(Array.range 0).map f = #[]:=by simp
theorem Zlt {E:Env} {z:Value} {g:List GV} {sz:Nat} (hz:z.cells.size=sz) (hg:g.length=sz) (hr:∀(j:Nat) (x:GV) (u:Value),g[j]? = some x→z.cells[j]? = some u→GR E x u) (n:Nat) :
  R7 E (List.replicate n (g.map AV.g)).flatten ((Array.range (n*sz)).map (fun i=>z.cells[i % z.cells.size]!)) ∧
   ∀(j:Nat) (u:Value),((Array.range (n*sz)).map (fun i=>z.cells[i % z.cells.size]!))[j]? = some u→u.oneCell'=true:=by
 have hlen:(List.replicate n (g.map AV.g)).flatten.length=n*sz:=by simp [hg]
 have hget:∀(k:Nat) (x:AV),(List.replicate n (g.map AV.g)).flatten[k]? = some x→∃y,x = .g y∧g[k % sz]? = some y:=by
  induction n with
  | zero=>intro k x hx;simp at hx
  | succ n ih =>
   intro k x hx
   simp only [List.replicate_succ,List.flatten_cons] at hx
   by_cases hk:k<sz
   ·rw [List.getElem?_append_left (by simpa [hg] using hk),List.getElem?_map] at hx
    rw [Nat.mod_eq_of_lt hk]
    cases hq:g[k]? with
    | none=>simp [hq] at hx
    | some y=>simp [hq] at hx;exact ⟨y,hx.symm,rfl⟩
   ·rw [List.getElem?_append_right (by simpa [hg] using hk)] at hx
    obtain ⟨y,h1,h2⟩:=ih (by simp [hg]) _ x hx
    simp only [List.length_map,hg] at h2
    refine ⟨y,h1,?_⟩
    rw [←h2,←Nat.mod_eq_sub_mod (by omega)]
 have key:∀(k:Nat) (u:Value),((Array.range (n*sz)).map (fun i=>z.cells[i % z.cells.size]!))[k]? = some u→k<n*sz∧u=z.cells.getD (k % sz) Go.undef:=by
  intro k u hu
  have hk:k<n*sz:=by have:=(Array.getElem?_eq_some_iff.1 hu).1;simpa using this
  rw [Zvd hz hk] at hu
  cases hu
  exact ⟨hk,rfl⟩
 have rel:∀(k:Nat),k<n*sz→∀y,g[k % sz]? = some y→GR E y (z.cells.getD (k % sz) Go.undef):=by
  intro k hk y hy
  obtain ⟨_,_,d3,_⟩:=Mo hk
  have hlt:k % sz<z.cells.size:=by rw [hz];exact d3
  exact hr _ y _ hy (by rw [Array.getD_eq_getD_getElem?,Array.getElem?_eq_getElem hlt];rfl)
 refine ⟨⟨by rw [hlen];simp,fun k x u hx hu => ?_⟩,fun k u hu => ?_⟩
 ·obtain ⟨hk,rfl⟩:=key k u hu
  obtain ⟨y,rfl,hy⟩:=hget k x hx
  exact .g (rel k hk y hy)
 ·obtain ⟨hk,rfl⟩:=key k u hu
  obtain ⟨_,_,d3,_⟩:=Mo hk
  have hlt:k % sz<g.length:=by rw [hg];exact d3
  exact (rel k hk _ (List.getElem?_eq_getElem hlt)).one
theorem Zp5 (hr:HR w (full h s) L) (ht:TR (Zc w (full h s) L) a s.t) {o:Oper} {t e:TypeId} {n:Nat} {ps:Array (Nat×Operand)} {r:Nat×Nat×List GV} {l:List (Nat×Nat×Opd)} (ho:o.op = .buildSlice t n ps) (hu:P.underlying t=some (.slice e)) (hrow:P7 P e=some r)
  (hl:Q3 (fun i=>some (i*r.1,r.1)) ps.toList=some l) (hn:n*r.1≤16777216) (he:evI h nb s (.bslice r.1 n r.2.2 l)=some (v,s',ws)):Im w (full h s) L ((execOp a.eval o).run P w) v (full h s') ws∧s'.t=s.t:=by
 obtain ⟨q1,q2,q3,i,z,hi,hz0,hz,hzs,hzr⟩:=Sv hrow
 simp only [evI] at he
 cases hf:Ur s (List.replicate n (r.2.2.map AV.g)).flatten l with
 | none=>simp [hf] at he
 | some cs =>
  simp only [hf] at he
  cases hg:Xq cs with
  | none=>simp [hg] at he
  | some gs =>
   simp [hg] at he
   obtain ⟨rfl,rfl,rfl⟩:=he
   refine ⟨?_,rfl⟩
   obtain ⟨z1,z2⟩:=Zlt (E:=Zc w (full h s) L) hzs q3 (hzr _) n
   obtain ⟨C',hfill,hcr',h1'⟩:=Za8 ht (fun i=>some (i*r.1,r.1)) ps.toList l _ cs _ hl hf z1 z2
   have hcs:=Gh (E:=Zc w (full h s) L) hg
   have hsz:C'.size=n*r.1:=by
    rw [←hcr'.1]
    have:∀(ps:List (Nat×Nat×Opd)) (cs cs':List AV),Ur s cs ps=some cs'→cs'.length=cs.length:=by
     intro ps
     induction ps with
     | nil=>intro cs cs' h;simp [Ur] at h;rw [h]
     | cons p ps ih =>
      obtain ⟨o1,n1,x1⟩:=p
      intro cs cs' h
      simp only [Ur] at h
      cases hv:val s x1 with
      | none=>simp [hv] at h
      | some u =>
       simp only [hv] at h
       cases hco:u.cellsO with
       | none=>simp [hco] at h
       | some us =>
        simp only [hco] at h
        cases hfa:Ha cs o1 n1 us with
        | none=>simp [hfa] at h
        | some cs1 =>
         simp only [hfa] at h
         rw [ih _ _ h]
         unfold Ha at hfa
         split at hfa
         ·simp at hfa;rw [←hfa];simp;omega
         ·cases hfa
    rw [this l _ cs hf]
    simp [q3]
   have hgw:=Y1.push w (.cells C' e)
   obtain ⟨g1,g2⟩:=hr.grow hgw
   have hgl:gs.length=n*r.1:=by have:=hcr'.1;rw [hcs] at this;simp at this;omega
   refine X9 (cv := .slice (some ⟨w.heap.size,0,none⟩) n n) (w':={ w with heap:=w.heap.push (.cells C' e) }) (L':=L) ?_ (.g (GR.ofRow (T:=e) (fr:=(0,0)) (C:=C') (V6 _ _) ?_ (Nat.le_refl _) hgl (fun j g hj => ?_))) g1 g2 (Uu hr hgw [])
   ·simp only [execOp,ho]
    rw [Sem.run_bind]
    unfold Instr.buildSlice
    have hfill':Instr.fill (fun i=>some (i*r.1,r.1)) ((Array.range (n*r.1)).map fun x=>z.cells[x % z.cells.size]!) (ps.map fun (i,x)=>(i,a.eval x)).toList=some C':=by
     rw [←hfill];simp
    have hn':¬(n*r.1 > 2 ^ 24):=by omega
    by_cases hz':n*r.1=0
    ·have e0:((Array.range (n*r.1)).map fun x=>z.cells[x % z.cells.size]!)=(Array.range (n*r.1)).map fun x=>(#[]:Array Value)[x % (#[]:Array Value).size]!:=by rw [hz',Vx,Vx]
     rw [e0] at hfill'
     simp only [Sem.run_bind,run_underlying hu,Result.andThen_ok,run_sizeOf q1,hn',if_false,hz',if_true,Sem.run_pure,Sem.run_ite,pure_bind]
     rw [hz'] at hfill'
     simp only [hfill']
     simp [newRow]
    ·simp only [Sem.run_bind,run_underlying hu,Result.andThen_ok,run_sizeOf q1,hn',if_false,hz',Sem.run_pure,Sem.run_ite,zeroValue,typeInfo,run_program,hi,hz0,pure_bind,hfill']
     simp [newRow]
   ·rintro ⟨id,k,k1,k2,k3⟩
    have:=(hr.blk id k k1).lt k2 k3
    simp [Zc] at this
   ·have hlt:j<C'.size:=by rw [hsz,←hgl];exact (List.getElem?_eq_some_iff.1 hj).1
    refine ⟨C'[j],Array.getElem?_eq_getElem hlt,?_⟩
    have:=hcr'.2 j (.g g) _ (by rw [hcs];simp [hj]) (Array.getElem?_eq_getElem hlt)
    exact this.inv_g.mono g2
theorem Z4g (hr:HR w (full h s) L) {o:Oper} {t e:TypeId} {ps:Array (Nat×Operand)} {r:Nat×Nat×List GV} (ho:o.op = .buildSlice t 0 ps) (hps:ps.size=0) (hu:P.underlying t=some (.slice e)) (hrow:P7 P e=some r)
  (he:evI h nb s (.mk0 r.1)=some (v,s',ws)):Im w (full h s) L ((execOp a.eval o).run P w) v (full h s') ws∧s'.t=s.t:=by
 obtain ⟨q1,q2,q3,i,z,hi,hz0,hz,hzs,hzr⟩:=Sv hrow
 simp only [evI] at he
 simp at he
 obtain ⟨rfl,rfl,rfl⟩:=he
 have hps':ps = #[]:=Array.eq_empty_of_size_eq_zero hps
 subst hps'
 refine ⟨?_,rfl⟩
 obtain ⟨L',k1,k2,k3,k4⟩:=hr.newRows (Y1.push w (.cells #[] e)) r.1 [] 0 #[] e w.heap.size (Nat.le_refl _) (V6 _ _) ⟨by simp,by simp,fun i el hi'=>by simp at hi'⟩ []
 rw [Yw] at k4
 rw [Us]
 refine X9 (cv := .slice (some ⟨w.heap.size,0,none⟩) 0 0) ?_ (by simpa using k4) (by simpa using k1) (by simpa using k2) k3
 simp only [execOp,ho]
 rw [Sem.run_bind]
 unfold Instr.buildSlice
 simp [run_underlying hu,run_sizeOf q1,newRow,Instr.fill]
 rw [Vx]
theorem Z6q (hr:HR w (full h s) L) (ht:TR (Zc w (full h s) L) a s.t) {o:Oper} {t e:TypeId} {l c:Operand} {X Y:Opd} {r:Nat×Nat×List GV} (ho:o.op = .makeSlice t l c) (hu:P.underlying t=some (.slice e)) (hrow:P7 P e=some r)
  (hx:Z6 l=some X) (hy:Z6 c=some Y) (he:evI h nb s (.mk r.1 r.2.1 r.2.2 X Y)=some (v,s',ws)):Im w (full h s) L ((execOp a.eval o).run P w) v (full h s') ws∧s'.t=s.t:=by
 obtain ⟨q1,q2,q3,i,z,hi,hz0,hz,hzs,hzr⟩:=Sv hrow
 simp only [evI] at he
 split at he
 ·rename_i n m hX hY
  split at he
  ·rename_i hcond
   obtain ⟨rfl,n0,n1,n2⟩:=hcond
   simp at he
   obtain ⟨rfl,rfl,rfl⟩:=he
   refine ⟨?_,rfl⟩
   have e1:=(Zl ht hx hX).inv_g.inv_int
   have e2:=(Zl ht hy hY).inv_g.inv_int
   obtain ⟨k,rfl⟩:∃k:Nat,n=k:=⟨n.toNat,(Int.toNat_of_nonneg n0).symm⟩
   have hns:=Gk (E:=Zc w (full h s) L) hzs q3 (hzr _) k
   have hrows:RowsIn (Zc w (full h s) L) ((Array.range (k*r.1)).map fun x=>z.cells[x % z.cells.size]!) r.1 k (List.replicate k r.2.2):=by
    refine ⟨by simp,by simp,fun i el hi' => ?_⟩
    obtain ⟨p1,p2⟩:=hns.2 i el hi'
    refine ⟨p1,fun j g hj => ?_⟩
    obtain ⟨u,u1,u2⟩:=p2 j g hj
    refine ⟨u,?_,u2⟩
    rw [←hzs]
    have:(Builtin.zeroCells z.cells k).toList[i*r.1+j]? = (Builtin.zeroCells z.cells k)[i*r.1+j]?:=by simp
    rw [this] at u1
    rw [hzs]
    rw [←u1]
    unfold Builtin.zeroCells
    rw [hzs]
   obtain ⟨L',k1,k2,k3,k4⟩:=hr.newRows (Y1.push w (.cells ((Array.range (k*r.1)).map fun x=>z.cells[x % z.cells.size]!) e)) r.1 (List.replicate k r.2.2) k _ e w.heap.size (Nat.le_refl _) (V6 _ _) hrows []
   rw [Yw] at k4
   rw [Us]
   have hkk:(List.replicate k r.2.2).length=k:=by simp
   rw [hkk] at k4
   refine X9 (cv := .slice (some ⟨w.heap.size,0,none⟩) k k) ?_ (by simpa using k4) (by simpa using k1) (by simpa using k2) k3
   simp only [execOp,ho,e1,e2]
   rw [Sem.run_bind]
   unfold Instr.makeSlice
   have hw:IntKind.i64.wrap (k:Int)=k:=IntWalk.i64_in _ (by omega)
   obtain ⟨i',hi',hs',hb'⟩:=Mn q1 q2
   rw [hi] at hi';cases hi'
   have hl1:¬((k:Int)<0):=by omega
   have hl2:¬((i.bytes:Int)*(k:Int) > 2 ^ 48):=by rw [hb',Int.mul_comm];omega
   have ht1:IntKind.i64.wrap (k:Int)=k:=hw
   have hb1:(i.bytes:Int)*(k:Int)≤281474976710656:=by rw [hb',Int.mul_comm];exact n2
   have hb2:¬(281474976710656<(i.bytes:Int)*(k:Int)):=by omega
   by_cases hz':k*r.1=0
   ·have e0:((Array.range (k*r.1)).map fun x=>z.cells[x % z.cells.size]!) = #[]:=by rw [hz',Vx]
    rw [e0]
    simp [run_underlying hu,asInt,asIntOf,typeInfo,hi,hw,hl1,hb2,run_sizeOf q1,hz',newRow]
    rw [Vx]
   ·simp [run_underlying hu,asInt,asIntOf,typeInfo,zeroValue,hi,hz0,hw,hl1,hb2,run_sizeOf q1,hz',newRow]
  ·cases he
 ·cases he
theorem Zbi:∀{els:List (List GV)} {b:List UInt8},evI.bytesOfG els=some b→∃ns:List Int,els=ns.map (fun n=>[.int .u8 n])∧b=ns.map fun n=>UInt8.ofNat n.toNat:=by
 intro els
 induction els with
 | nil=>intro b h;simp [evI.bytesOfG] at h;subst h;exact ⟨[],rfl,rfl⟩
 | cons el els ih =>
  intro b h
  unfold evI.bytesOfG at h
  split at h
  ·rename_i heq;cases heq
  ·rename_i n r heq
   cases heq
   cases hr:evI.bytesOfG els with
   | none=>simp [hr] at h
   | some b' =>
    simp [hr] at h
    obtain ⟨ns,h1,h2⟩:=ih hr
    exact ⟨n::ns,by simp [h1],by rw [←h,h2];rfl⟩
  ·cases h
theorem Zfl (ns:List Int):∀(l:List UInt8),ns.foldl (fun r n=>r.push (UInt8.ofNat n.toNat)) (ByteArray.mk l.toArray)=ByteArray.mk (l++ns.map fun n=>UInt8.ofNat n.toNat).toArray:=by
 induction ns with
 | nil=>intro l;simp
 | cons n ns ih =>
  intro l
  have:(ByteArray.mk l.toArray).push (UInt8.ofNat n.toNat)=ByteArray.mk (l++[UInt8.ofNat n.toNat]).toArray:=by
   show ByteArray.mk (l.toArray.push _)=_
   simp
  simp only [List.foldl_cons,this,ih,List.map_cons,List.append_assoc,List.singleton_append]
theorem Zp6 (hr:HR w (full h s) L) (ht:TR (Zc w (full h s) L) a s.t) {o:Oper} {t1 t2 e:TypeId} {x:Operand} {X:Opd} (ho:o.op = .convert t1 t2 x) (hu1:P.underlying t1=some (.slice e)) (hu2:P.underlying t2=some .string) (hi:Zlk P e=some .u8)
  (hx:Z6 x=some X) (he:evI h nb s (.convBS X)=some (v,s',ws)):Im w (full h s) L ((execOp a.eval o).run P w) v (full h s') ws∧s'.t=s.t:=by
 simp only [evI] at he
 cases hX:val s X with
 | none=>simp [hX] at he
 | some vx =>
  simp only [hX] at he
  cases hv:Vs h s 1 vx with
  | none=>simp [hv] at he
  | some els =>
   simp only [hv] at he
   cases hb:evI.bytesOfG els with
   | none=>simp [hb] at he
   | some b =>
    simp [hb] at he
    obtain ⟨rfl,rfl,rfl⟩:=he
    refine ⟨?_,rfl⟩
    have hu3:P.underlying e=some (.int .u8):=by
     unfold Zlk at hi
     cases hq:P.underlying e with
     | none=>simp [hq] at hi
     | some d=>cases d <;> simp [hq] at hi;subst hi;rfl
    obtain ⟨A,cap,news,e1,_,hns,hf⟩:=Zbe (P:=P) hr hv (Zl ht hx hX)
    obtain ⟨ns,rfl,rfl⟩:=Zbi hb
    have hnews:news=ns.map (Value.int .u8):=by
     apply List.ext_getElem?
     intro i
     by_cases hi':i<ns.length
     ·obtain ⟨p1,p2⟩:=hns.2 i [.int .u8 ns[i]] (by simp [hi'])
      obtain ⟨u,u1,u2⟩:=p2 0 (.int .u8 ns[i]) rfl
      rw [Nat.mul_one,Nat.add_zero] at u1
      rw [u1,u2.inv_int];simp [hi']
     ·rw [List.getElem?_eq_none (by rw [hns.1];simp;omega),List.getElem?_eq_none (by simp;omega)]
    refine X9 (cv := .string ⟨(ns.map fun n=>UInt8.ofNat n.toNat).toArray⟩) (w':=w) (L':=L) ?_ (.g (.str _)) hr (Ext.refl _) (fun _ _ _=>⟨rfl,fun _ _ _=>rfl⟩)
    simp only [execOp,ho]
    have hf':=hf w rfl
    rw [e1] at hf' ⊢
    rw [Sem.run_bind,run_convert_bytes_string w t1 t2 e A _ cap hu1 hu3 hu2]
    have hlen:(List.map (fun n=>[GV.int IntKind.u8 n]) ns).length=ns.length:=by simp
    rw [hlen] at hf' ⊢
    cases A with
    | none =>
     have h0:ns=[]:=by
      simp [Builtin.firstCells] at hf'
      rw [hnews] at hf'
      simpa using hf'
     subst h0
     simp [Conv.bytesToString]
     rfl
    | some A =>
     have hl:(loadCells A ns.length).run P w = .ok (ns.map (Value.int .u8)).toArray w:=by
      simp only [Builtin.firstCells,Nat.mul_one] at hf'
      rw [hf',hnews]
     rw [run_bytesToString w A ns.length cap ns hl]
     have:=Zfl ns []
     simp only [List.nil_append] at this
     have e0:ByteArray.empty=ByteArray.mk ([]:List UInt8).toArray:=rfl
     rw [e0,this]
     rfl
theorem Zlu (hr:HR w (full h s) L) {o:Oper} {t:TypeId} {z:List Z} {k:Nat} (ho:o.op = .alloc t) (hz:cZ P t=some z) (he:evI h nb s (.allocAt k z)=some (v,s',ws)) :
  Im w (full h s) L ((execOp a.eval o).run P w) v (full h s') ws∧s'.t=s.t:=by
 simp only [evI] at he
 cases hB:Yp h s (nb+k) with
 | none=>simp [hB] at he
 | some kk =>
  cases kk <;> simp [hB] at he
  obtain ⟨_,rfl,rfl,rfl⟩:=he
  refine ⟨?_,Va _ _ _ _⟩
  have hget:(full h s)[nb+k]? = some .pend:=by rw [Z9];exact hB
  obtain ⟨p1,p2,p3⟩:=hr.blk _ _ hget
  obtain ⟨i,zv,hi,hzz,hzr,hone⟩:=Zps hz
  have hgw:=Y1.push w (.cells zv.cells t)
  have hlt:nb+k<(full h s).length:=(List.getElem?_eq_some_iff.1 hget).1
  have hzl:(Uk z).length=zv.cells.size:=by
   have:∀z:List Z,(Uk z).length=z.length:=by
    intro z
    induction z with
    | nil=>rfl
    | cons x z ih=>cases x <;> simp [Uk,ih]
   rw [this,hzr.1];simp
  have hzp:∀(E:Env) (z:List Z) (cs:List Value),Zfj z cs→∀(j:Nat) (x:AV) (c:Value),(Uk z)[j]? = some x→cs[j]? = some c→AR E x c:=by
   intro E z
   induction z with
   | nil=>intro cs hz j x c hx;simp [Uk] at hx
   | cons y z ih =>
    intro cs hz j x c hx hc
    cases cs with
    | nil=>simp at hc
    | cons d cs =>
     cases j with
     | zero =>
      rcases hz.2 0 y d rfl rfl with ⟨v,rfl,hv⟩ | ⟨n,rfl,rfl⟩
      ·simp [Uk] at hx hc;subst hx hc;exact O8 hv
      ·simp [Uk] at hx hc;subst hx hc;exact .g .nsl
     | succ j=>cases y <;> exact ih cs hz.tail j x c (by simpa [Uk] using hx) (by simpa using hc)
  obtain ⟨e1,e2⟩:=hr.turn (w':={ w with heap:=w.heap.push (.cells zv.cells t) }) (k' := .cells (Uk z)) hget rfl ⟨some w.heap.size,1,0,true⟩ rfl rfl rfl hgw.size (fun b hb _=>hgw.old b hb)
   (.inr ⟨trivial,p1,by show (L (nb+k)).gen<1;have:(L (nb+k)).gen=0:=p2;omega⟩) (by intro b hb;simp at hb;right;omega) (fun hext=>by
    have hLid:(Zc { w with heap:=w.heap.push (.cells zv.cells t) } ((full h s).set (nb+k) (.cells (Uk z))) (Zw L (nb+k) ⟨some w.heap.size,1,0,true⟩)).L (nb+k)=⟨some w.heap.size,1,0,true⟩:=Zd _ _ _
    refine ⟨by rw [hLid],w.heap.size,t,zv.cells,by rw [hLid],V6 _ _,hzl.symm,fun j x hj => ?_⟩
    have hjl:j<zv.cells.size:=by rw [←hzl];exact (List.getElem?_eq_some_iff.1 hj).1
    exact ⟨zv.cells[j],Array.getElem?_eq_getElem hjl,hzp _ z _ hzr j x _ hj (by simp [hjl]),hone j _ (Array.getElem?_eq_getElem hjl)⟩)
  rw [Yg]
  refine X9 (cv := .pointer (some ⟨w.heap.size,0,none⟩)) ?_ (.ptr (by simpa [Zc] using hlt) ?_ ?_) e1 e2 (fun j hj hne=>⟨Yk _ _ _ (by simpa using hne),(Uu hr hgw [] j hj (by simp)).2⟩)
  ·simp only [execOp,ho,Instr.alloc]
   simp [zeroValue,typeInfo,hi,hzz,Q7]
  ·show (Zw L (nb+k) _ (nb+k)).st=true;rw [Zd]
  ·show (Zw L (nb+k) _ (nb+k)).blk=_;rw [Zd]
theorem Zbj (w:World) (b:Nat) (C:Array Value) (T:TypeId) (o n:Nat) (hn:n ≠ 0) (hb:w.heap[b]? = some (.cells C T (0,0))) :
  (w.freeze ⟨b,o,none⟩ n).heap[b]? = some (.cells C T (o,o+n))∧(∀b',b' ≠ b→(w.freeze ⟨b,o,none⟩ n).heap[b']? = w.heap[b']?)∧(w.freeze ⟨b,o,none⟩ n).heap.size=w.heap.size:=by
 unfold World.freeze
 rw [if_neg hn]
 refine ⟨?_,fun b' hb' => ?_,by simp⟩
 ·simp only [Array.getElem?_modify,if_true,hb,Option.map_some]
  rfl
 ·simp only [Array.getElem?_modify]
  rw [if_neg (by omega)]
theorem Zp7 (hr:HR w (full h s) L) (ht:TR (Zc w (full h s) L) a s.t) {o:Oper} {t1 t2 e:TypeId} {x:Operand} {X:Opd} (ho:o.op = .convert t1 t2 x) (hu1:P.underlying t1=some .string) (hu2:P.underlying t2=some (.slice e)) (hi:Zlk P e=some .u8)
  (hx:Z6 x=some X) (he:evI h nb s (.convSB X)=some (v,s',ws)):Im w (full h s) L ((execOp a.eval o).run P w) v (full h s') ws∧s'.t=s.t:=by
 simp only [evI] at he
 split at he
 ·rename_i b hX
  simp at he
  obtain ⟨rfl,rfl,rfl⟩:=he
  refine ⟨?_,rfl⟩
  have hxe:=(Zl ht hx hX).inv_g.inv_str
  have hu3:P.underlying e=some (.int .u8):=by
   unfold Zlk at hi
   cases hq:P.underlying e with
   | none=>simp [hq] at hi
   | some d=>cases d <;> simp [hq] at hi;subst hi;rfl
  let cap:=grownCap w b.length 0 e
  have hge:b.length≤cap:=grownCap_ge w b.length 0 e
  let C:Array Value:=(b.toArray.map fun c=>Value.int .u8 c.toNat)++Array.replicate (cap - b.length) (.int .u8 0)
  have hCs:C.size=cap:=by simp [C];omega
  let w1:World:=w.drew.alloc (.cells C e)
  have hb1:w1.heap[w.heap.size]? = some (.cells C e (0,0)):=heap_alloc_new w.drew _
  obtain ⟨f1,f2,f3⟩:=Zbj w1 w.heap.size C e cap 1 (by decide) hb1
  have hgw:Y1 w (w1.freeze ⟨w.heap.size,cap,none⟩ 1):=by
   have g1:Y1 w w1:=(Y1.drew w (w.drawn+1)).trans (Y1.push _ _)
   refine ⟨?_,?_,?_,by rw [f3];exact g1.size,fun b' hb'=>by rw [f2 b' (by omega)];exact g1.old b' hb'⟩ <;> (unfold World.freeze;rw [if_neg (by decide)];rfl)
  obtain ⟨g1,g2⟩:=hr.grow hgw
  have hgs:Zx 1 b.length (b.map fun c=>GV.int .u8 c.toNat)=Xb b:=by
   apply List.ext_getElem?
   intro i
   by_cases hi':i<b.length
   ·have h1:i<(Zx 1 b.length (b.map fun c=>GV.int .u8 c.toNat)).length:=by rw [Su];exact hi'
    obtain ⟨_,e1⟩:=K8 1 b.length _ i _ (List.getElem?_eq_getElem h1)
    rw [List.getElem?_eq_getElem h1,e1]
    rw [Nat.mul_one,List.drop_eq_getElem_cons (by simpa using hi')]
    simp [Xb,List.getElem?_eq_getElem hi']
   ·rw [List.getElem?_eq_none (by rw [Su];omega),List.getElem?_eq_none (by simp [Xb];omega)]
  refine X9 (cv := .slice (some ⟨w.heap.size,0,none⟩) b.length cap) (w':=w1.freeze ⟨w.heap.size,cap,none⟩ 1) (L':=L) ?_ ?_ g1 g2 (Uu hr hgw [])
  ·simp only [execOp,ho,hxe]
   rw [Sem.run_bind]
   unfold convert
   simp only [Sem.run_bind,run_underlying hu1,run_underlying hu2,run_underlying hu3,Result.andThen_ok]
   unfold Conv.stringToBytes
   have hsz:(ByteArray.mk b.toArray).size=b.length:=List.size_toArray
   simp only [Sem.run_bind,run_choose,Question.forced,Bool.false_eq_true,if_false,Result.andThen_ok,hsz,newRow,run_newObj,Sem.run_pure]
   have hms:(markStringish ⟨w.heap.size,0,none⟩).run P w1 = .ok () (w1.freeze ⟨w.heap.size,cap,none⟩ 1):=by
    unfold markStringish
    have hsh:w1.shape? w.heap.size=some (e,C.size):=by simp [World.shape?,hb1]
    simp only [Sem.run_bind,run_shape,Result.andThen_ok,hsh,run_freeze,hCs]
   show (((Sem.run P (markStringish ⟨w.heap.size,0,none⟩) w1).andThen _).andThen _)=_
   rw [hms]
   rfl
  ·refine .g ?_
   rw [←hgs]
   refine GR.ofRow f1 ?_ hge (by simp) (fun j g hj => ?_)
   ·rintro ⟨id,k,k1,k2,k3⟩
    have:=(hr.blk id k k1).lt k2 k3
    simp [Zc] at this
   ·simp at hj
    obtain ⟨c,hc,rfl⟩:=hj
    have hjl:j<b.length:=(List.getElem?_eq_some_iff.1 hc).1
    refine ⟨.int .u8 c.toNat,?_,.int _ _⟩
    show C[j]? = _
    simp only [C]
    rw [Array.getElem?_append_left (by simpa using hjl)]
    simp [hc]
 ·cases he
theorem Z1u (hr:HR w (full h s) L) (ht:TR (Zc w (full h s) L) a s.t) {o:Oper} {ao:AOp} (hc:cOp P drw o=some ao) (he:evI h nb s ao=some (v,s',ws)) :
  Im w (full h s) L ((execOp a.eval o).run P w) v (full h s') ws∧s'.t=s.t:=by
 cases ho:o.op with
 | assign x =>
  simp only [cOp,ho] at hc
  split at hc
  ·cases hE:Zil P o.type with
   | none=>simp [hE] at hc
   | some e=>cases hs:szT P e with
    | none=>simp [hE,hs] at hc
    | some n=>simp [hE,hs] at hc;subst hc;exact Z1r hr ho he
  ·obtain ⟨X,hx,rfl⟩:=Y3 hc;simp [evI] at he
 | alloc t =>
  simp only [cOp,ho] at hc
  obtain ⟨z,hz,hc⟩:=Za hc
  split at hc
  ·split at hc
   ·cases hc;exact Zpt hr ho hz he
   ·cases hc;exact Zu3 hr ho hz he
  ·cases hc;exact Zlu hr ho hz he
 | box t x =>
  simp only [cOp,ho] at hc
  split at hc
  ·obtain ⟨X,hx,hc⟩:=Za hc;cases hc;exact Z4e hr ht ho hx he
  ·cases hc
 | store t p x =>
  simp only [cOp,ho] at hc
  obtain ⟨n,hn,hc⟩:=Za hc
  obtain ⟨Pp,hp,hc⟩:=Za hc
  obtain ⟨X,hx,hc⟩:=Za hc
  cases hc
  exact Zu4 hr ht ho hn hp hx he
 | buildSlice t n ps =>
  simp only [cOp,ho] at hc
  split at hc
  ·rename_i e hu
   split at hc
   ·rename_i r hrow
    split at hc
    ·rename_i h0;cases hc;obtain ⟨rfl,hps⟩:=h0;exact Z4g hr ho hps hu hrow he
    split at hc
    ·rename_i l hl
     split at hc
     ·rename_i hn;cases hc;exact Zp5 hr ht ho hu hrow hl hn he
     ·cases hc
    ·cases hc
   ·cases hc
  ·cases hc
 | makeSlice t l c =>
  simp only [cOp,ho] at hc
  split at hc
  ·rename_i e hu
   split at hc
   ·rename_i r x y hrow hx hy;cases hc;exact Z6q hr ht ho hu hrow hx hy he
   ·cases hc
  ·cases hc
 | convert t1 t2 x =>
  simp only [cOp,ho] at hc
  obtain ⟨X,hx,hc⟩:=Za hc
  split at hc
  ·cases hc;simp [evI] at he
  ·cases hc;simp [evI] at he
  ·rename_i e hu1 hu2
   split at hc
   ·rename_i hcond;cases hc;exact Zp7 hr ht ho hu1 hu2 hcond.1 hx he
   ·cases hc
  ·rename_i e hu1 hu2
   split at hc
   ·rename_i hcond;cases hc;exact Zp6 hr ht ho hu1 hu2 hcond.1 hx he
   ·cases hc
  ·rename_i t hu1 hu2
   split at hc
   ·rename_i n hs
    split at hc
    ·rename_i hn;cases hc;exact Z4f hr ht ho hu1 hu2 hs hn hx he
    ·cases hc
   ·cases hc
  ·rename_i u hu1 hu2
   split at hc
   ·rename_i hs;cases hc;exact Zu6 hr ht ho hu1 hu2 hs hx he
   ·cases hc
  ·cases hc
 | call c =>
  obtain ⟨dst,o',ty,pos,after,gd⟩:=o
  simp only at ho
  subst ho
  obtain ⟨callee,cargs,cts⟩:=c
  simp only [cOp,Zin] at hc
  cases callee with
  | value f =>
   dsimp only at hc
   split at hc
   ·cases hc;simp [evI] at he
   ·cases hc
  | invoke r m=>cases hc
  | builtin b =>
   dsimp only at hc
   split at hc
   ·rename_i xs hxs;exact Zls hr ht hxs hc he
   ·cases hc
 | move x=>simp only [cOp,ho] at hc;obtain ⟨X,hx,rfl⟩:=Y3 hc;simp [evI] at he
 | pick c x y =>
  simp only [cOp,ho] at hc
  obtain ⟨_,_,hc⟩:=Za hc
  obtain ⟨_,_,hc⟩:=Za hc
  obtain ⟨_,_,hc⟩:=Za hc
  cases hc;simp [evI] at he
 | binOp op t x y yt =>
  simp only [cOp,ho] at hc
  obtain ⟨X,hx,hc⟩:=Za hc
  obtain ⟨Y,hy,hc⟩:=Za hc
  have key:∀op,(if By P t then some (AOp.bin op X Y) else match Hy P t y with
     | some k=>some (.isnil (op == .neq) k X)
     | none=>match Hy P t x with
      | some k=>some (.isnil (op == .neq) k Y)
      | none=>if Nu P t y=true then some (.isnilS (op == .neq) X) else if Nu P t x=true then some (.isnilS (op == .neq) Y) else if (op == .neq&&Zlj P t)=true then some (.neqp X Y) else match flatK P 20 t with
       | some ks=>if P.eqGuardType P.depth t=false then (V5 P t).map fun ag => .eqs (op == .neq) ag ks X Y else none
       | none=>none)=some ao→(op = .neq∧Zlj P t=true∧ao = .neqp X Y):=by
   intro op hc
   split at hc
   ·cases hc;simp [evI] at he
   ·split at hc
    ·cases hc;simp [evI] at he
    ·split at hc
     ·cases hc;simp [evI] at he
     ·split at hc
      ·cases hc;simp [evI] at he
      split at hc
      ·cases hc;simp [evI] at he
      split at hc
      ·rename_i hpn
       cases hc
       simp only [Bool.and_eq_true] at hpn
       exact ⟨by cases op <;> first | rfl | (exact absurd hpn.1 (by decide)),hpn.2,rfl⟩
      split at hc
      ·split at hc
       ·obtain ⟨ag,_,rfl⟩:=Y3 hc;simp [evI] at he
       ·cases hc
      ·cases hc
  cases op <;> dsimp only at hc <;> first
   | (have k0:=key _ hc;have k1:=k0.1;cases k1;done)
   | (have k0:=key _ hc;rw [k0.2.2] at he;exact Z1s hr ht ho k0.2.1 hx hy he)
   | (cases hc;simp [evI] at he)
 | unOp op t x=>simp only [cOp,ho] at hc;obtain ⟨_,_,hc⟩:=Za hc;cases hc;simp [evI] at he
 | field t x f =>
  simp only [cOp,ho] at hc
  obtain ⟨_,_,hc⟩:=Za hc
  obtain ⟨_,_,hc⟩:=Za hc
  obtain ⟨_,_,hc⟩:=Za hc
  obtain ⟨_,_,hc⟩:=Za hc
  cases hc;simp [evI] at he
 | fieldAddr t x f =>
  simp only [cOp,ho] at hc
  obtain ⟨_,_,hc⟩:=Za hc
  obtain ⟨_,_,hc⟩:=Za hc
  split at hc
  ·obtain ⟨_,_,hc⟩:=Za hc;cases hc;simp [evI] at he
  ·cases hc
 | indexAddr t x i =>
  simp only [cOp,ho] at hc
  split at hc
  ·obtain ⟨_,_,hc⟩:=Za hc
   obtain ⟨_,_,hc⟩:=Za hc
   obtain ⟨_,_,hc⟩:=Za hc
   cases hc;simp [evI] at he
  ·obtain ⟨_,_,hc⟩:=Za hc
   obtain ⟨_,_,hc⟩:=Za hc
   obtain ⟨_,_,hc⟩:=Za hc
   cases hc;simp [evI] at he
  ·cases hc
 | index t x i =>
  simp only [cOp,ho] at hc
  split at hc
  ·obtain ⟨_,_,hc⟩:=Za hc
   obtain ⟨_,_,hc⟩:=Za hc
   cases hc;simp [evI] at he
  ·obtain ⟨_,_,hc⟩:=Za hc
   obtain ⟨_,_,hc⟩:=Za hc
   obtain ⟨_,_,hc⟩:=Za hc
   obtain ⟨_,_,hc⟩:=Za hc
   cases hc;simp [evI] at he
  ·cases hc
 | load t p =>
  simp only [cOp,ho] at hc
  obtain ⟨_,_,hc⟩:=Za hc
  obtain ⟨_,_,hc⟩:=Za hc
  split at hc
  ·obtain ⟨_,_,hc⟩:=Za hc;cases hc;simp [evI] at he
  ·cases hc
 | extract x j=>simp only [cOp,ho] at hc;obtain ⟨X,hx,rfl⟩:=Y3 hc;simp [evI] at he
 | build t ps =>
  simp only [cOp,ho] at hc
  obtain ⟨_,_,hc⟩:=Za hc
  obtain ⟨_,_,hc⟩:=Za hc
  obtain ⟨_,_,hc⟩:=Za hc
  cases hc;simp [evI] at he
 | slice t x lo hi mx =>
  simp only [cOp,ho] at hc
  split at hc
  ·split at hc
   ·obtain ⟨_,_,hc⟩:=Za hc
    obtain ⟨_,_,hc⟩:=Za hc
    obtain ⟨_,_,hc⟩:=Za hc
    cases hc;simp [evI] at he
   ·cases hc
  ·split at hc
   ·obtain ⟨_,_,hc⟩:=Za hc
    obtain ⟨_,_,hc⟩:=Za hc
    obtain ⟨_,_,hc⟩:=Za hc
    obtain ⟨_,_,hc⟩:=Za hc
    cases hc;simp [evI] at he
   ·obtain ⟨_,_,hc⟩:=Za hc
    obtain ⟨_,_,hc⟩:=Za hc
    obtain ⟨_,_,hc⟩:=Za hc
    obtain ⟨_,_,hc⟩:=Za hc
    obtain ⟨_,_,hc⟩:=Za hc
    cases hc;simp [evI] at he
  ·cases hc
 | makeInterface t x =>
  simp only [cOp,ho] at hc
  split at hc
  ·cases hc
  ·obtain ⟨X,hx,rfl⟩:=Y3 hc;simp [evI] at he
  ·cases hc
 | makeFunc fn first caps =>
  cases fn <;> simp only [cOp,ho] at hc <;> try (cases hc;done)
  ·split at hc
   ·obtain ⟨_,_,hc⟩:=Za hc;cases hc;simp [evI] at he
   ·split at hc
    ·obtain ⟨_,_,hc⟩:=Za hc;cases hc;simp [evI] at he
    ·cases hc
  ·split at hc
   ·cases hc;simp [evI] at he
   ·cases hc
 | nilCheck x=>simp only [cOp,ho] at hc;obtain ⟨X,hx,rfl⟩:=Y3 hc;simp [evI] at he
 | makeMap t r =>
  simp only [cOp,ho] at hc
  cases r with
  | none =>
   simp only [Option.isNone_none,if_true] at hc
   split at hc
   ·cases hc;exact Zp4 hr ho he
   ·cases hc;exact Zu9 hr ho he
  | some r=>simp at hc
 | lookup t x k cm =>
  simp only [cOp,ho] at hc
  split at hc
  ·rename_i kk z hm
   obtain ⟨X,hx,hc⟩:=Za hc
   obtain ⟨K,hk,hc⟩:=Za hc
   cases hc;exact Z1t hr ht ho hm hx hk he
  ·split at hc
   ·rename_i ks z hm
    obtain ⟨X,hx,hc⟩:=Za hc
    obtain ⟨K,hk,hc⟩:=Za hc
    cases hc;exact Zvb hr ht ho hm hx hk he
   ·cases hc
 | mapUpdate t x k y =>
  simp only [cOp,ho] at hc
  split at hc
  ·rename_i kk z hm
   obtain ⟨X,hx,hc⟩:=Za hc
   obtain ⟨K,hk,hc⟩:=Za hc
   obtain ⟨Y,hy,hc⟩:=Za hc
   cases hc;exact Zp2 hr ht (.inl ho) hm hx hk hy he
  ·split at hc
   ·rename_i ks z hm
    obtain ⟨X,hx,hc⟩:=Za hc
    obtain ⟨K,hk,hc⟩:=Za hc
    obtain ⟨Y,hy,hc⟩:=Za hc
    cases hc;exact Zvc hr ht ho hm hx hk hy he
   ·cases hc
 | insert t x k y =>
  simp only [cOp,ho] at hc
  split at hc
  ·rename_i kk z hm
   obtain ⟨X,hx,hc⟩:=Za hc
   obtain ⟨K,hk,hc⟩:=Za hc
   obtain ⟨Y,hy,hc⟩:=Za hc
   cases hc;exact Zp2 hr ht (.inr ho) hm hx hk hy he
  ·cases hc
 | _=>simp only [cOp,ho] at hc;cases hc
end
abbrev FnS:=FuncId→List AV→List Blk→Option Res
def AOp.acts:AOp→Bool
 | .nres _ | .mk0 _ | .alloc _ | .allocAt .. | .box _ | .bslice .. | .store .. | .mk .. | .app .. | .appS .. | .appZ .. | .clear .. | .convSB _ | .convBS _ | .allocT .. | .appT .. | .toU _ | .fromU .. | .sdata _ | .ustr .. | .neqp .. | .mkmap | .mget .. | .mset .. | .mkmap2 | .mget2 .. | .mset2 .. => true
 | _=>false
def Yi:List Nat→List Blk→List Blk
 | [],H=>H
 | i::r,H=>(Yi r H).set i .hid
def Wc (h:List Blk) (s:St):List (Nat×Blk)→St
 | []=>s
 | (i,b)::r=>setB h (Wc h s r) i b
def St.app (s:St) (o:List Blk):St:={ s with o:=s.o++o }
def Zq (H:List Blk) (i:Nat):Bool :=
 match H[i]? with
 | some b=>b.live
 | none=>false
def fin (h:List Blk) (hd:List Nat) (s:St):Option Res→Option (AV×St×List Nat)
 | some ⟨r,m,o⟩=>if (m.all fun p => !hd.contains p.1)=true then some (r,(Wc h s m).app o,m.map (·.1)) else none
 | none=>none
def X7 (E:FnS) (h:List Blk) (hd:List Nat) (s:St) (f:AV) (xs:List AV):Option (AV×St×List Nat) :=
 if (hd.all (Zq (full h s)))=true then
  match f with
  | .g (.fn f)=>fin h hd s (E f xs (Yi hd (full h s)))
  | .fv f caps=>fin h hd s (E f (xs++caps) (Yi hd (full h s)))
  | .bv f first=>fin h hd s (E f (first++xs) (Yi hd (full h s)))
  | _=>none
 else none
def ob {α β:Type} (x:Option α) (k:α→Option β):Option β :=
 match x with
 | some a=>k a
 | none=>none
def Ye (E:FnS) (h:List Blk) (nb:Nat) (hd:List Nat) (s:St) (op:AOp):Option (AV×St×List Nat) :=
 match op with
 | .call f xs=>match val s f,vals s xs with
  | some f,some xs=>X7 E h hd s f xs
  | _,_=>none
 | op=>if op.acts=true then evI h nb s op else ob (evP h s op) fun p=>some (p.1,s,[])
def gdo {α:Type} (s:St) (g:Option (Nat×Bool)) (yes no:St→Option α):Option α :=
 match g with
 | none=>yes s
 | some (g,b)=>match look s.t g with
  | some (.g (.bool x))=>if x=b then yes (s.put (some g) (.g (.bool b))) else no (s.put (some g) (.g (.bool (!b))))
  | some .undef=>no s
  | _=>none
def Wh (E:FnS) (h:List Blk) (nb:Nat) (hd:List Nat) (s:St) (o:Z0):Option (St×List Nat) :=
 gdo s o.gd (fun s=>ob (Ye E h nb hd s o.op) fun p=>some (p.2.1.put o.d p.1,p.2.2)) (fun s=>some (s.put o.d .undef,[]))
def Vy (E:FnS) (h:List Blk):List Z0→St→Option St
 | [],s=>some s
 | o::r,s=>ob (Wh E h 0 [] s o) fun p=>Vy E h r p.1
def St.kp (s:St) (lv:List Nat):St:={ s with t:=keep s.t lv }
def Ul (h:List Blk) (s:St) (o:Z0):Option (St×List Nat) :=
 gdo s o.gd (fun s=>ob (evP h s o.op) fun p=>some (s.put o.d p.1,p.2)) (fun s=>some (s.put o.d .undef,[]))
def Zbk (s:St):Option (Nat×Bool)→Bool
 | none=>false
 | some (g,b)=>match look s.t g with
  | some (.g (.bool x))=>x != b
  | some .undef=>true
  | _=>false
def Zlv (s:St) (hd:List Nat) (o:Z0):Bool :=
 match o.op with
 | .load _ _ p=>Zbk s o.gd||(match val s p with
  | some (.ptr id _)=>hd.contains id
  | _=>false)
 | _=>true
def T7 (s:St):List Nat→List Nat
 | []=>[]
 | t::r=>match look s.t t with
  | some (.ptr id _)=>id::T7 s r
  | _=>T7 s r
open Classical in
noncomputable def Z4 (E:FnS) (h:List Blk) (nb:Nat) (lv:List Nat):List Nat→Vv→St→Option St
 | _,.leaf,s=>some (s.kp lv)
 | _,.free t,s=>Z4 E h nb lv [] t s
 | hd,.hold _ t,s=>Z4 E h nb lv hd t s
 | hd,.take o t,s=>match (if Zlv s hd o=true then Ul h s o else none) with
  | some (s',_)=>Z4 E h nb lv hd t s'
  | none=>none
 | hd,.one o t,s=>match Wh E h nb hd s o with
  | some (s',ws)=>if (ws.all fun i => !hd.contains i)=true then Z4 E h nb lv hd t s' else none
  | none=>none
 | hd,.alt o t r,s=>match Wh E h nb hd s o with
  | some (s',ws)=>if (ws.all fun i => !hd.contains i)=true then
    (match Z4 E h nb lv hd t s',Z4 E h nb lv hd r s with
     | some x,some y=>if x=y then some x else none
     | _,_=>none) else none
  | none=>none
noncomputable def Yo (E:FnS) (h:List Blk) (nb:Nat) (lv:List Nat) (hd:List Nat):Vv→St→Option St
 | .hold ts t,s=>Yo E h nb lv (T7 s ts++hd) t s
 | .take o t,s=>match Ul h s o with
  | some (s',rs)=>Yo E h nb lv (rs++hd) t s'
  | none=>none
 | t,s=>if (hd.all (Zq (full h s)))=true then Z4 E h nb lv hd t s else none
def Yf (s:St) (n:Nat):St:={ s with o:=s.o++List.replicate n .pend }
abbrev Out:=Option (Ex×St)
def sk (r:Out) (k:St→Out):Out :=
 match r with
 | some (.normal,s)=>k s
 | r=>r
def kpN (lv:List Nat):Out→Out
 | some (.normal,s)=>some (.normal,s.kp lv)
 | r=>r
def bk (lv:List Nat) (id:Nat):Out→Out
 | some (.exit i,s)=>if i=id then some (.normal,s.kp lv) else some (.exit i,s)
 | some (.normal,s)=>some (.normal,s.kp lv)
 | r=>r
def nrm:Option St→Out
 | some s=>some (.normal,s)
 | none=>none
def Sp (step:St→Out) (lv:List Nat):Nat→St→Out
 | 0,_=>none
 | n+1,s=>sk (step s) fun s'=>Sp step lv n (s'.kp lv)
open Classical in
noncomputable def lim {α:Type} (f:Nat→Option α):Option α:=if h:∃n r,f n=some r then f h.choose else none
noncomputable def Gl (step:St→Out) (lv:List Nat) (s:St):Out:=lim fun n=>Sp step lv n s
def Mr (E:FnS) (h:List Blk) (s:St) (f:Opd) (xs:List Opd):Option (AV×St) :=
 match val s f,vals s xs with
 | some (.yv id),some vs=>match Yp h s id with
  | some (.lp rd _ none)=>match fin h [] s (E 0 (.yk rd.key::(vs++[.yv id])) (full h s)) with
   | some (v,s',_)=>some (v,s')
   | none=>none
  | _=>none
 | _,_=>none
def Ud (E:FnS) (h:List Blk) (s:St) (o:Z0):Option St :=
 match o.op with
 | .ycall f xs=>match o.gd with
  | none=>ob (Mr E h s f xs) fun p=>some (p.2.put o.d p.1)
  | some _=>none
 | _=>ob (Wh E h 0 [] s o) fun p=>some p.1
def Vb (E:FnS) (h:List Blk):List Z0→St→Option St
 | [],s=>some s
 | o::r,s=>ob (Ud E h s o) fun s=>Vb E h r s
def Gm (h:List Blk) (id:Nat) (lv:List Nat) (s:St):Out :=
 match Yp h s id with
 | some (.lp _ _ none)=>some (.normal,(setB h s id .hid).kp lv)
 | some (.lp _ _ (some none))=>some (.ret,setB h s id .hid)
 | some (.lp _ _ (some (some i)))=>some (.exit i,setB h s id .hid)
 | _=>none
def Zbl (E:FnS) (h:List Blk) (lv:List Nat) (rd:RD) (lt:List Nat) (f:Opd) (s:St):Out :=
 match val s f with
 | some (.fv f (c::caps))=>match fin h [] (s.push (.lp rd (keep s.t lt) none)) (E f (.yv (s.next h)::c::caps) (full h (s.push (.lp rd (keep s.t lt) none)))) with
  | some (_,s',_)=>Gm h (s.next h) lv s'
  | none=>none
 | _=>none
noncomputable def Zo (E:FnS) (h:List Blk):IC→St→Out
 | .skip,s=>some (.normal,s)
 | .reg lv ops,s=>kpN lv (nrm (Vy E h ops s))
 | .drw lv nb t,s=>nrm (Yo E h (h.length+s.o.length) lv [] t (Yf s nb))
 | .seq a b,s=>sk (Zo E h a s) fun s'=>Zo E h b s'
 | .cond lv c a b,s=>match val s c with
  | some (.g (.bool x))=>kpN lv (if x=true then Zo E h a s else Zo E h b s)
  | _=>none
 | .block lv id c,s=>bk lv id (Zo E h c s)
 | .loop lv _ c,s=>Gl (fun s=>Zo E h c s) lv (s.kp lv)
 | .regy lv ops,s=>kpN lv (nrm (Vb E h ops s))
 | .rfun lv rd lt f,s=>Zbl E h lv rd lt f s
 | .exit id,s=>some (.exit id,s)
 | .ret,s=>some (.ret,s)
def Sq:Nat→List AV→List (Nat×AV)
 | _,[]=>[]
 | k,a::r=>(k,a)::Sq (k+1) r
def rvV (h:List Blk) (s:St):RV→Option AV
 | .tmp t=>look s.t t
 | .cell t agg n=>match evP h s (.load agg n (.t t)) with
  | some (v,_)=>some v
  | none=>none
def K9 (h:List Blk) (s:St):List RV→Option (List AV)
 | []=>some []
 | x::xs=>match rvV h s x,K9 h s xs with
  | some v,some vs=>some (v::vs)
  | _,_=>none
def Zbm:List AV→AV
 | [v]=>v
 | vs => .tup vs
def Ja (h:List Blk) (s:St):AV→Option AV
 | .ms id g sz off len=>if id<h.length then some (.ms id g sz off len) else
  match Vs h s sz (.ms id g sz off len) with
  | some els=>some (.g (if g=1 then .nsl else .sl sz els))
  | none=>none
 | v=>if v.lt1 h.length=true then some v else none
def H2 (h:List Blk) (s:St):List AV→Option (List AV)
 | []=>some []
 | v::r=>match Ja h s v,H2 h s r with
  | some v,some r=>some (v::r)
  | _,_=>none
def H3 (h:List Blk) (s:St):AV→Option AV
 | .agg cs=>match H2 h s cs with
  | some cs=>some (.agg cs)
  | none=>none
 | v=>Ja h s v
def H4 (h:List Blk) (s:St):List AV→Option (List AV)
 | []=>some []
 | v::r=>match H3 h s v,H4 h s r with
  | some v,some r=>some (v::r)
  | _,_=>none
def Blk.lt1 (n:Nat):Blk→Bool
 | .cells cs=>cs.all (AV.lt1 n)
 | .bld _ cs=>cs.all (AV.lt1 n)
 | .lp _ t _=>t.all fun p=>p.2.lt1 n
 | _=>true
def finish (h:List Blk) (F:Zg) (s:St):Option Res :=
 match K9 h s F.rs with
 | some vs=>if F.esc=true then some ⟨Zbm vs,s.m,s.o⟩ else
  match H4 h s vs with
  | some vs=>if (s.m.all fun p=>p.2.lt1 h.length)=true then some ⟨Zbm vs,s.m,[]⟩ else none
  | none=>none
 | none=>none
noncomputable def R9 (E:FnS) (F:Zg) (args:List AV) (H:List Blk):Option Res :=
 if args.length≤F.nt then
  match Zo E H F.body ⟨Sq 0 args,[],[]⟩ with
  | some (.ret,s)=>finish H F s
  | some (.normal,s)=>finish H F s
  | _=>none
 else none
structure U7 where
 rd:RD
 ps:List Nat
 as:IC
 body:IC
 deriving Inhabited
def Hf:List Nat→List AV→List (Nat×AV)→List (Nat×AV)
 | p::ps,a::as,t=>Hf ps as ((p,a)::t)
 | _,_,t=>t
def Sw:Ex→Option (Option Nat)
 | .normal=>none
 | .ret=>some none
 | .exit i=>some (some i)
def Gn (id:Nat) (rd:RD) (t:List (Nat×AV)):Out→Option Res
 | some (e,s)=>if (s.m.all fun p=>p.1 != id)=true then some ⟨.g (.bool (Sw e).isNone),(id,.lp rd t (Sw e))::s.m,s.o⟩ else none
 | none=>none
def N5 (k:List (Nat×AV)→Option Res):Out→Option Res
 | some (.normal,⟨t1,[],[]⟩)=>k t1
 | _=>none
open Classical in
noncomputable def Vt (E:FnS) (R:U7) (vs:List AV) (id:Nat) (H:List Blk):Option Res :=
 match H[id]? with
 | some (.lp rd t none)=>if rd=R.rd∧vs.length=R.ps.length then
   N5 (fun t1=>Gn id rd t (Zo E (Yi [id] H) R.body ⟨t1,[],[]⟩)) (Zo E (Yi [id] H) R.as ⟨Hf R.ps vs t,[],[]⟩)
  else none
 | _=>none
noncomputable def Re (E:FnS) (R:Option U7) (as:List AV) (H:List Blk):Option Res :=
 match R,as.getLast? with
 | some R,some (.yv id)=>Vt E R as.dropLast id H
 | _,_=>none
structure Tab where
 T:FuncId→Option Zg
 X:FnS
 R:Nat→Option U7
noncomputable def evX (T:Tab) (E:FnS) (f:FuncId) (args:List AV) (H:List Blk):Option Res :=
 match args with
 | .yk key::as=>Re E (T.R key) as H
 | _=>T.X f args H
noncomputable def evF (T:Tab):Nat→FnS
 | 0=>fun _ _ _=>none
 | n+1=>fun f args H=>match T.T f with
  | some F=>R9 (evF T n) F args H
  | none=>evX T (evF T n) f args H
noncomputable def EvF (T:Tab):FnS:=fun f args H=>lim fun n=>evF T n f args H
def Y8 (m:List (Nat×Blk)):List Nat:=m.map (·.1)
theorem Jb (i id:Nat) (b:Blk):∀m:List (Nat×Blk),i∈Y8 (To m id b)↔i=id∨i∈Y8 m
 | []=>by simp [Y8,To]
 | (a,v)::t=>by
  have ih:=Jb i id b t
  simp only [To]
  split
  ·rename_i e;subst e;simp [Y8]
  ·simp only [Y8,List.map_cons,List.mem_cons] at ih ⊢
   rw [ih]
   constructor <;> (intro h;rcases h with h | h | h <;> simp [h])
theorem Oe (h:List Blk) (s:St):∀m,full h (Wc h s m)=Zv (full h s) m
 | []=>rfl
 | (i,b)::r=>by simp only [Wc,Zv,Yg,Oe h s r]
theorem Zbn (h:List Blk) (s:St) (o:List Blk):full h (s.app o)=full h s++o:=by simp [full,St.app]
structure Kp (h:List Blk) (s s':St) (ws:List Nat):Prop where
 old:∀i,i∈Y8 s.m→i∈Y8 s'.m
 new:∀i,i∈ws→i<h.length→i∈Y8 s'.m
 stay:∀i,i∉ws→i<(full h s).length→(full h s')[i]? = (full h s)[i]?
theorem Kp.refl (h:List Blk) (s:St):Kp h s s []:=⟨fun _ h=>h,fun _ h=>by (cases h),fun _ _ _=>rfl⟩
theorem Kp.setB (h:List Blk) (s:St) (id:Nat) (b:Blk):Kp h s (setB h s id b) [id]:=by
 have hst:∀i,i∉[id]→i<(full h s).length→(full h (Go.AM.setB h s id b))[i]? = (full h s)[i]?:=fun i hi _=>by
  rw [Yg,List.getElem?_set_ne (fun e=>hi (by simp [e]))]
 refine ⟨?_,?_,hst⟩ <;> unfold Go.AM.setB <;> split
 ·exact fun i hk=>(Jb i id b s.m).2 (.inr hk)
 ·exact fun i hk=>hk
 ·exact fun i hk _=>(Jb i id b s.m).2 (by simp at hk;exact .inl hk)
 ·rename_i hi
  exact fun i hk hl=>by simp at hk;subst hk;exact absurd hl hi
theorem Kp.o {h:List Blk} {s s':St} (hm:s'.m=s.m) (o:List Blk) (ho:s'.o=s.o++o):Kp h s s' []:=⟨fun _ hk=>by rw [hm];exact hk,fun _ hk=>by (cases hk),fun i _ hi=>by
 unfold full at hi ⊢
 rw [hm,ho,←List.append_assoc,List.getElem?_append_left hi]⟩
theorem Kp.put {h:List Blk} {s s':St} {ws:List Nat} (k:Kp h s s' ws) (d:Option Nat) (v:AV):Kp h s (s'.put d v) ws:=by
 cases d
 ·exact k
 ·exact ⟨k.old,k.new,k.stay⟩
theorem Sb (h:List Blk) (s:St):∀m,(∀i,i∈Y8 s.m→i∈Y8 (Wc h s m).m)∧(∀i,i∈Y8 m→i<h.length→i∈Y8 (Wc h s m).m)
 | []=>⟨fun _ h=>h,fun _ h=>by cases h⟩
 | (i,b)::r=>by
  obtain ⟨h1,h2⟩:=Sb h s r
  have k:=Kp.setB h (Wc h s r) i b
  refine ⟨fun j hj=>k.old j (h1 j hj),fun j hj hl => ?_⟩
  simp only [Y8,List.map_cons,List.mem_cons] at hj
  rcases hj with rfl | hj
  ·exact k.new j (by simp) hl
  ·exact k.old j (h2 j hj hl)
theorem Zbo {h:List Blk} {s s':St} {p:AV} {vs:List AV} {ws:List Nat} (he:Oc h s p vs=some (s',ws)):Kp h s s' ws:=by
 unfold Oc at he
 repeat' split at he
 all_goals first
  | (cases he;done)
  | (cases he;exact Kp.setB ..)
theorem Zlw {h:List Blk} {s s':St} {sz bytes:Nat} {x v:AV} {ys:List (List GV)} {ws:List Nat} (he:Yh h s sz bytes x ys=some (v,s',ws)):Kp h s s' ws:=by
 unfold Yh at he
 repeat' split at he
 all_goals first
  | (cases he;done)
  | (cases he;exact Kp.setB ..)
  | (cases he;exact Kp.refl ..)
  | (cases he;exact Kp.o rfl _ rfl)
  | (cases he;exact Kp.o rfl _ (List.append_assoc ..))
theorem Zfm {e:TypeId} {h:List Blk} {s s':St} {sz bytes id g off len:Nat} {v:AV} {ys:List (List GV)} {ws:List Nat} (he:Hc e h s sz bytes id g off len ys=some (v,s',ws)):Kp h s s' ws:=by
 unfold Hc at he
 repeat' split at he
 all_goals first
  | (cases he;done)
  | (cases he;exact Kp.setB ..)
  | (cases he;exact Kp.refl ..)
theorem Zbp {h:List Blk} {nb:Nat} {s s':St} {ao:AOp} {v:AV} {ws:List Nat} (he:evI h nb s ao=some (v,s',ws)):Kp h s s' ws:=by
 unfold evI at he
 repeat' split at he
 all_goals first
  | (cases he;done)
  | exact Zlw he
  | exact Zfm he
  | (cases he;exact Kp.setB ..)
  | (cases he;exact Kp.refl ..)
  | (cases he;exact Kp.o rfl _ rfl)
  | (cases he;exact Kp.o rfl _ (List.append_assoc ..))
  | (cases he;exact Zbo (by assumption))
theorem Xx:∀(hd:List Nat) (H:List Blk),(Yi hd H).length=H.length
 | [],_=>rfl
 | _::r,H=>by simp [Yi,Xx r H]
theorem Wn (hd:List Nat) (H:List Blk) (i:Nat):(Yi hd H)[i]? = if i∈hd then (H[i]?).map (fun _ => .hid) else H[i]?:=by
 induction hd with
 | nil=>simp [Yi]
 | cons a r ih =>
  simp only [Yi]
  by_cases e:a=i
  ·subst e
   simp only [List.mem_cons,true_or,if_true]
   by_cases hl:a<H.length
   ·rw [List.getElem?_set_self (by rw [Xx];exact hl),List.getElem?_eq_getElem hl];rfl
   ·rw [List.getElem?_eq_none (by simp [Xx];omega),List.getElem?_eq_none (by omega)];rfl
  ·rw [List.getElem?_set_ne e,ih]
   simp [Ne.symm e]
theorem Of {H:List Blk} {i:Nat}:Zq H i=true↔Live H i:=by
 unfold Zq Live
 split
 ·rename_i b hb;simp [hb]
 ·rename_i hb;simp [hb]
theorem Qj {w:World} {H:List Blk} {L:Nat→Lc} {hd:List Nat} (hl:∀i,i∈hd→Live H i):Zc w (Yi hd H) L=Zc w H L:=by
 have h1:∀i,Live (Yi hd H) i↔Live H i:=by
  intro i
  unfold Live
  rw [Wn]
  split
  ·rename_i hi
   obtain ⟨x,hx,lx⟩:=hl i hi
   exact ⟨fun _=>⟨x,hx,lx⟩,fun _=>⟨.hid,by simp [hx],rfl⟩⟩
  ·exact Iff.rfl
 have h2:∀b,Own (Yi hd H) L b↔Own H L b:=by
  intro b
  have e:∀H,Own H L b↔∃i,Live H i∧(L i).blk=some b:=fun H =>
   ⟨fun ⟨i,x,p,q,r⟩=>⟨i,⟨x,p,q⟩,r⟩,fun ⟨i,⟨x,p,q⟩,r⟩=>⟨i,x,p,q,r⟩⟩
  rw [e,e]
  simp only [h1]
 unfold Zc
 rw [Xx,show Own (Yi hd H) L=Own H L from funext fun b=>propext (h2 b),show Live (Yi hd H)=Live H from funext fun i=>propext (h1 i)]
theorem HR.hide {w:World} {H:List Blk} {L:Nat→Lc} (hr:HR w H L) {hd:List Nat} (hl:∀i,i∈hd→Live H i):HR w (Yi hd H) L:=by
 refine ⟨fun id k hk => ?_,fun i j b x y hx hy lx ly hi hj => ?_⟩
 ·rw [Qj hl]
  rw [Wn] at hk
  split at hk
  ·rename_i hid
   obtain ⟨x,hx,lx⟩:=hl id hid
   rw [hx] at hk
   cases hk
   exact fun b hb=>(hr.blk id x hx).lt lx hb
  ·exact hr.blk id k hk
 ·have e:∀(i:Nat) (x:Blk),(Yi hd H)[i]? = some x→x.live=true→∃y:Blk,H[i]? = some y∧y.live=true:=by
   intro i x hx lx
   rw [Wn] at hx
   split at hx
   ·rename_i hid;exact hl i hid
   ·exact ⟨x,hx,lx⟩
  obtain ⟨x',hx',lx'⟩:=e i x hx lx
  obtain ⟨y',hy',ly'⟩:=e j y hy ly
  exact hr.inj i j b x' y' hx' hy' lx' ly' hi hj
theorem Xy:∀(m:List (Nat×Blk)) (H:List Blk) (i:Nat),i∉Y8 m→(Zv H m)[i]? = H[i]?
 | [],_,_,_=>rfl
 | (a,v)::t,H,i,hi=>by
  simp only [Y8,List.map_cons,List.mem_cons,not_or] at hi
  simp only [Zv]
  rw [List.getElem?_set_ne (fun e=>hi.1 e.symm)]
  exact Xy t H i hi.2
theorem Qa:∀(m:List (Nat×Blk)) (H H':List Blk) (i:Nat),H.length=H'.length→(i∉Y8 m→H[i]? = H'[i]?)→(Zv H m)[i]? = (Zv H' m)[i]?
 | [],_,_,i,_,h=>h (by simp [Y8])
 | (a,v)::t,H,H',i,hl,h=>by
  simp only [Zv]
  by_cases e:a=i
  ·subst e
   by_cases hlt:a<H.length
   ·rw [List.getElem?_set_self (by rw [Zr];exact hlt),List.getElem?_set_self (by rw [Zr];omega)]
   ·rw [List.getElem?_eq_none (by simp [Zr];omega),List.getElem?_eq_none (by simp [Zr];omega)]
  ·rw [List.getElem?_set_ne e,List.getElem?_set_ne e]
   refine Qa t H H' i hl (fun hi=>h ?_)
   simp only [Y8,List.map_cons,List.mem_cons,not_or]
   exact ⟨fun e'=>e e'.symm,hi⟩
theorem Zlx (hd:List Nat) (H:List Blk) (m:List (Nat×Blk)) (o:List Blk) (hk:∀i,i∈hd→i∉Y8 m) (hlt:∀i,i∈hd→i<H.length) :
  Zv (Yi hd H) m++o=Yi hd (Zv H m++o):=by
 apply List.ext_getElem?
 intro i
 rw [Wn]
 by_cases hl:i<H.length
 ·rw [List.getElem?_append_left (by rw [Zr,Xx];exact hl),List.getElem?_append_left (by rw [Zr];exact hl)]
  split
  ·rename_i hi
   rw [Xy _ _ _ (hk i hi),Xy _ _ _ (hk i hi),Wn,if_pos hi]
  ·rename_i hi
   exact Qa m _ _ i (Xx ..) (fun _=>by rw [Wn,if_neg hi])
 ·rw [if_neg (fun hi=>hl (hlt i hi)),List.getElem?_append_right (by rw [Zr,Xx];omega),List.getElem?_append_right (by rw [Zr];omega),
   Zr,Zr,Xx]
def B6 (P:Program) (f:FuncId) (xs:Array Value) (w:World) (R:Value→World→Prop):Prop :=
 ((callFunc f xs).run P w = .ok (.enter f xs) w∧Calls P f xs w (fun e w'=>∃v,e = .returned v∧R v w')) ∨
 (xs.size=1∧∃v w',(callFunc f xs).run P w = .ok (.value v) w'∧R v w')
def Gp (E:Env) (args:List AV) (xs:Array Value):Prop :=
 args.length=xs.size∧∀(j:Nat) (a:AV) (v:Value),args[j]? = some a→xs[j]? = some v→AR E a v
def Zbq (P:Program) (f:FuncId) (args:List AV) (H:List Blk) (r:Res):Prop :=
 ∀(w:World) (L:Nat→Lc) (xs:Array Value),HR w H L→Gp (Zc w H L) args xs →
  B6 P f xs w fun v w'=>∃L',AR (Zc w' (Zv H r.m++r.o) L') r.r v∧HR w' (Zv H r.m++r.o) L' ∧
   Ext (Zc w H L) (Zc w' (Zv H r.m++r.o) L')∧Same w w' H L L' (Y8 r.m)
def Zve (P:Program) (b:Nat) (xs:Array Value) (w:World) (R:Value→World→Prop):Prop :=
 ∃fn tmps assign body,(Instr.yield b xs).run P w = .ok (.round b fn tmps assign body) w∧RoundIn Fence.wide 0 P b fn tmps assign body w (fun e w'=>∃v,e = .returned v∧R v w')
def Z1v (P:Program) (as:List AV) (H:List Blk) (r:Res):Prop :=
 ∀(vs:List AV) (id:Nat),as=vs++[.yv id]→∀(w:World) (L:Nat→Lc) (xs:Array Value) (b:Nat),HR w H L→Gp (Zc w H L) vs xs→(L id).blk=some b →
  Zve P b xs w fun v w'=>∃L',AR (Zc w' (Zv H r.m++r.o) L') r.r v∧HR w' (Zv H r.m++r.o) L' ∧
   Ext (Zc w H L) (Zc w' (Zv H r.m++r.o) L')∧Same w w' H L L' (Y8 r.m)
def Og (P:Program) (E:FnS):Prop:=∀f args H r,E f args H=some r→Zbq P f args H r∧∀key as,f=0→args = .yk key::as→Z1v P as H r
theorem Zvf {P:Program} {f:FuncId} {key:Nat} {as:List AV} {H:List Blk} {r:Res}:Zbq P f (.yk key::as) H r:=fun w L xs hr ha=>by
 have hlt:0<xs.size:=by rw [←ha.1];simp
 have:=ha.2 0 (.yk key) xs[0] rfl (Array.getElem?_eq_getElem hlt)
 cases this
theorem B6.mono {P:Program} {f:FuncId} {xs:Array Value} {w:World} {R R':Value→World→Prop} (h:B6 P f xs w R) (hr:∀v w',R v w'→R' v w'):B6 P f xs w R':=by
 rcases h with ⟨h1,h2⟩ | ⟨h0,v,w',h1,h2⟩
 ·exact .inl ⟨h1,Calls.mono h2 fun e w' ⟨v,he,hv⟩=>⟨v,he,hr v w' hv⟩⟩
 ·exact .inr ⟨h0,v,w',h1,hr v w' h2⟩
theorem Zbq.hide {P:Program} {f:FuncId} {args:List AV} {H:List Blk} {hd:List Nat} {r:Res} (hs:Zbq P f args (Yi hd H) r) (hl:∀i,i∈hd→Live H i)
  (hk:∀i,i∈hd→i∉Y8 r.m):Zbq P f args H r:=by
 intro w L xs hr ha
 have hlt:∀i,i∈hd→i<H.length:=fun i hi=>let ⟨x,hx,_⟩:=hl i hi;(List.getElem?_eq_some_iff.1 hx).1
 refine (hs w L xs (hr.hide hl) (by rw [Qj hl];exact ha)).mono fun v w' ⟨L',h1,h2,h3,h4⟩=>⟨L',?_⟩
 rw [Zlx hd H r.m r.o hk hlt] at h1 h2 h3
 rw [Qj hl] at h3
 have hl':∀i,i∈hd→Live (Zv H r.m++r.o) i:=fun i hi=>by
  obtain ⟨x,hx,lx⟩:=hl i hi
  exact ⟨x,by rw [List.getElem?_append_left (by rw [Zr];exact hlt i hi),Xy _ _ _ (hk i hi)];exact hx,lx⟩
 rw [Qj hl'] at h1 h3
 have hsame:Same w w' H L L' (Y8 r.m):=fun id hid hn=>by
  obtain ⟨k1,k2⟩:=h4 id (by rw [Xx];exact hid) hn
  refine ⟨k1,fun hv=>k2 ?_⟩
  obtain ⟨x,hx,lx⟩:=hv
  unfold Live
  rw [Wn]
  split
  ·exact ⟨.hid,by rw [hx];rfl,rfl⟩
  ·exact ⟨x,hx,lx⟩
 refine ⟨h1,⟨fun id k hk' => ?_,fun i j b x y hx hy lx ly hi hj => ?_⟩,h3,hsame⟩
 ·by_cases hid:id∈hd
  ·obtain ⟨x,hx,lx⟩:=hl id hid
   have e:k=x:=by
    rw [List.getElem?_append_left (by rw [Zr];exact hlt id hid),Xy _ _ _ (hk id hid),hx] at hk'
    exact (Option.some.inj hk').symm
   subst e
   obtain ⟨k1,k2⟩:=hsame id (hlt id hid) (hk id hid)
   exact (hr.blk id k hx).mono h3 k1 (fun _ b hb=>k2 ⟨k,hx,lx⟩ b hb)
  ·have:=h2.blk id k (by rw [Wn,if_neg hid];exact hk')
   rw [Qj hl'] at this
   exact this
 ·have e:∀(i:Nat) (x:Blk),(Zv H r.m++r.o)[i]? = some x→x.live=true→∃y:Blk,(Yi hd (Zv H r.m++r.o))[i]? = some y∧y.live=true:=by
   intro i x hx lx
   rw [Wn]
   split
   ·exact ⟨.hid,by rw [hx];rfl,rfl⟩
   ·exact ⟨x,hx,lx⟩
  obtain ⟨x',hx',lx'⟩:=e i x hx lx
  obtain ⟨y',hy',ly'⟩:=e j y hy ly
  exact h2.inj i j b x' y' hx' hy' lx' ly' hi hj
def Uv:Option Nat→Fence
 | none=>Fence.wide
 | some l=>Fence.wide.inRound l
theorem Ms (ro:Option Nat) (f:FuncId):(Uv ro).fn f:=by cases ro <;> exact trivial
theorem Oh (ro:Option Nat):(Uv ro).depth=none:=by cases ro <;> rfl
section
variable {P:Program} {ro:Option Nat} {n:Nat}
theorem Zly {f:FuncId} {args:Array Value} {w:World} {R:Ending→World→Prop} (h:Calls P f args w R):CallsIn (Uv ro) n P f args w R:=by
 cases ro with
 | none=>exact callsIn_wide.2 h
 | some l=>exact (callsIn_wide.2 h:CallsIn Fence.wide n P f args w R)
theorem Zp8 {row:String} {args:Array Value} {w:World} {R:Value→World→Prop} (h:Rows P row args w R):Go.RowsIn (Uv ro) n P row args w R:=by
 have h0:Go.RowsIn Fence.wide n P row args w R:=fun c cs _=>let ⟨v,w',r,s⟩:=h c cs;⟨v,w',r,stepsIn_wide.2 s⟩
 cases ro with
 | none=>exact h0
 | some l=>exact h0
theorem Zp9 {o:Oper} {a:Act} {next next':Act→World→Prop} {Q:Exit→Act→World→Prop} {r:Result Next} (hn:∀a w,next a w→next' a w) (h:o.upon P a next Q r):o.uponIn (Uv ro) n P a next' Q r:=by
 have hd:∀m,((Uv ro).depth.isSome=true→1≤m):=fun m hm=>by rw [Oh] at hm;cases hm
 cases r with
 | ok x w' =>
  cases x <;> simp only [Oper.upon] at h <;> simp only [Oper.uponIn]
  all_goals first
   | exact hn _ _ h
   | (refine ⟨hd _,Zly (Calls.mono h fun e w'' he => ?_)⟩;cases e <;> first | exact hn _ _ he | exact he)
   | (exact ⟨hd _,Zp8 (h.mono fun v w'' he=>hn _ _ he)⟩)
   | exact h
 | halt x w'=>cases x <;> simp only [Oper.upon] at h <;> simp only [Oper.uponIn] <;> exact h
def Sx (ops:Array Oper):Bool:=ops.all fun o=>match o.op with
 | .defer _=>false
 | _=>true
theorem Gq {ops:Array Oper} (h:Sx ops=true) {i:Nat} {o:Oper} (ho:ops[i]? = some o):∀c,o.op ≠ .defer c:=by
 intro c e
 unfold Sx at h
 rw [Array.all_eq_true] at h
 obtain ⟨hi,h1⟩:=Array.getElem?_eq_some_iff.1 ho
 have:=h i hi
 rw [h1,e] at this
 cases this
theorem Gr {ops:Array Oper} {Q:Exit→Act→World→Prop} (hnd:Sx ops=true) (hQ:∀a w,¬Q .outgrown a w) {i:Nat} {K K':Act→World→Prop} {a:Act} {w:World} (hK:∀a w,K a w→K' a w)
  (h:wpOp P ops Q i K a w):wpOpIn (Uv ro) n P ops Q i K' a w:=by
 unfold wpOp at h
 unfold wpOpIn
 split at h
 ·rename_i ho
  simp only [ho];exact hK _ _ h
 ·rename_i o ho
  simp only [ho]
  split at h
  ·rename_i hw
   rw [if_pos hw]
   refine ⟨fun f _=>Ms ro f,?_⟩
   rcases h with h | ⟨_,a',w',h⟩
   ·rw [Oper.semAt_eq _ _ _ (Gq hnd ho)]
    exact Zp9 hK h
   ·exact absurd h (hQ a' w')
  ·rename_i hw
   rw [if_neg hw]
   exact ⟨fun f _=>Ms ro f,hK _ _ h⟩
theorem D9 {ops:Array Oper} {Q:Exit→Act→World→Prop} (hnd:Sx ops=true) (hQ:∀a w,¬Q .outgrown a w):∀(l:List Nat) (a:Act) (w:World),wpOps P ops Q l a w→wpOpsIn (Uv ro) n P ops Q l a w
 | [],a,w,h=>h
 | i::l,a,w,h=>by
  rw [wpOps_cons] at h
  rw [wpOpsIn_cons]
  exact Gr hnd hQ (fun a w=>D9 hnd hQ l a w) h
theorem Ca {md:Region.Mode} {ops:Array Oper} {Q:Exit→Act→World→Prop} (hnd:Sx ops=true) (hQ:∀a w,¬Q .outgrown a w):∀(k:Nat) (listed:Array Bool) (a:Act) (w:World),wpAny P md ops Q k listed a w→wpAnyIn (Uv ro) n P md ops Q k listed a w
 | 0,listed,a,w,h=>h
 | k+1,listed,a,w,h=>⟨h.1,fun i hi=>Gr hnd hQ (fun a w=>Ca hnd hQ k _ a w) (h.2 i hi)⟩
theorem Uw {b:Frame} {a:Act} {k:List Item} {cs:List Frame} {w:World} {c:Code}:step P (lone (b.atR a (.code (.scope c)::k)) cs w) = .next (lone (b.atR a (.code c :: .inScope c::k)) cs w) :=
 step_lone_go (by simp [stepG,stepG.exec,Frame.atR])
theorem Dq {b:Frame} {a:Act} {k:List Item} {cs:List Frame} {w:World} {c:Code}:step P (lone (b.atR a (.inScope c::k)) cs w) = .next (lone (b.atR a k) cs w) :=
 step_lone_go (by simp [stepG,stepG.exec,Frame.atR])
theorem Ns {F:Fence} {c:Code} {Q:Exit→Act→World→Prop} {a:Act} {w:World} (h:c.wpIn F n P (Exit.noGoto Q) a w):(Code.scope c).wpIn F n P Q a w:=by
 intro b k cs hro hb hr
 have h0:(lone (b.atR a (.code (.scope c)::k)) cs w).fenced P F:=fenced_calm hb hr rfl
 obtain ⟨e,a₁,w₁,hq,harr⟩:=h b (.inScope c::k) cs hro hb hr
 have hx:∀id,exitTo id (.inScope c::k)=exitTo id k:=fun id=>by simp [exitTo]
 cases e with
 | normal=>exact ⟨.normal,a₁,w₁,hq,.head h0 Uw (StepsIn.trans harr (.one (fenced_calm hb hr rfl) Dq))⟩
 | exit id=>exact ⟨.exit id,a₁,w₁,hq,fun k' hk => .head h0 Uw (harr.1 k' (by rw [hx];exact hk)),
   fun hr' hk=>let ⟨k₁,h1,h2⟩:=harr.2 hr' (by rw [hx];exact hk);⟨k₁,h1,.head h0 Uw h2⟩⟩
 | goto l=>exact hq.elim
 | ret=>exact ⟨_,a₁,w₁,hq,.of_steps (.one h0 Uw) harr⟩
 | panic ch=>exact ⟨_,a₁,w₁,hq,.of_steps (.one h0 Uw) harr⟩
 | outgrown=>exact ⟨_,a₁,w₁,hq,.of_steps (.one h0 Uw) harr⟩
end
def Gs (ops:Array Oper):Option (Nat×Bool)→Option (Option (Nat×Bool))
 | none=>some none
 | some (j,b)=>match (ops[j]?).bind (·.dst) with
  | some d=>some (some (d,b))
  | none=>none
def Rx (P:Program) (nt:Nat) (ops:Array Oper) (drw:Option Nat) (o:Oper):Option Z0 :=
 match Gs ops o.guard with
 | some g=>if (o.dst.all fun d=>decide (d<nt))=true then some ⟨o.dst,g,(cOp P drw o).getD (.row 0 [])⟩ else none
 | none=>none
def B7 (n0:Nat) (E:Env) (ds:List Deferred):Prop :=
 ds.Nodup∧∀d∈ds,∃r,d={ target := .collected r,args := #[] }∧n0≤r∧E.w.heap[r]? = some (.deferred (some []))∧¬E.O r
theorem B7.mono {n0:Nat} {E E':Env} {ds:List Deferred} (h:B7 n0 E ds) (he:Ext E E'):B7 n0 E' ds :=
 ⟨h.1,fun d hd=>by
  obtain ⟨r,h1,h2,h3,h4⟩:=h.2 d hd
  obtain ⟨k1,k2⟩:=he.keep r (Array.getElem?_eq_some_iff.1 h3).1 h4
  exact ⟨r,h1,h2,k1.trans h3,k2⟩⟩
theorem B7.nil (n0:Nat) (E:Env):B7 n0 E []:=⟨List.nodup_nil,fun d hd=>by cases hd⟩
structure SR (n0:Nat) (w0:World) (L0:Nat→Lc) (h:List Blk) (nt:Nat) (s:St) (a:Act) (w:World) (L:Nat→Lc):Prop where
 hr:HR w (full h s) L
 tr:TR (Zc w (full h s) L) a s.t
 df:B7 n0 (Zc w (full h s) L) a.defers
 nle:n0≤w0.heap.size
 sz:a.tmps.size=nt
 ext:Ext (Zc w0 h L0) (Zc w (full h s) L)
 same:Same w0 w h L0 L (Y8 s.m)
theorem TR.put {E E':Env} {a:Act} {T:List (Nat×AV)} (ht:TR E a T) (he:Ext E E') {d:Nat} (hd:d<a.tmps.size) {v:AV} {cv:Value} (hv:AR E' v cv) :
  TR E' (a.put (some d) cv) ((d,v)::T):=by
 intro i x hx
 simp only [look] at hx
 by_cases e:d=i
 ·subst e
  rw [if_pos rfl] at hx
  cases hx
  simpa [Act.put,hd] using hv
 ·rw [if_neg e] at hx
  have:(a.put (some d) cv).tmps.getD i Go.undef=a.tmps.getD i Go.undef:=by
   simp [Act.put,Array.getD_eq_getD_getElem?,Array.getElem?_setIfInBounds,e]
  rw [this]
  exact (ht i x hx).mono he
theorem TR.mono {E E':Env} {a:Act} {T:List (Nat×AV)} (ht:TR E a T) (he:Ext E E'):TR E' a T:=fun i v hv=>(ht i v hv).mono he
theorem Jc (T:List (Nat×AV)) (i:Nat) (v:AV):∀lv,look (keep T lv) i=some v→look T i=some v
 | [],h=>by cases h
 | j::l,h=>by
  simp only [keep] at h
  split at h
  ·rename_i x hx
   simp only [look] at h
   split at h
   ·rename_i e;subst e;rw [hx];exact h
   ·exact Jc T i v l h
  ·exact Jc T i v l h
theorem TR.keep {E:Env} {a:Act} {T:List (Nat×AV)} (ht:TR E a T) (lv:List Nat):TR E a (keep T lv):=fun i v hv=>ht i v (Jc T i v lv hv)
section
variable {n0:Nat} {P:Program} {w0 w w':World} {L0 L L':Nat→Lc} {h:List Blk} {nt:Nat} {s s':St} {a:Act}
theorem SR.kp (hs:SR n0 w0 L0 h nt s a w L) (lv:List Nat):SR n0 w0 L0 h nt (s.kp lv) a w L :=
 ⟨hs.hr,hs.tr.keep lv,hs.df,hs.nle,hs.sz,hs.ext,hs.same⟩
theorem SR.go (hs:SR n0 w0 L0 h nt s a w L) {d:Option Nat} (hd:(d.all fun d=>decide (d<nt))=true) {v:AV} {cv:Value} {ws:List Nat}
  (hr:HR w' (full h s') L') (ht:s'.t=s.t) (hv:AR (Zc w' (full h s') L') v cv) (he:Ext (Zc w (full h s) L) (Zc w' (full h s') L'))
  (hsame:Same w w' (full h s) L L' ws) (hk:Kp h s s' ws) (hlive:∀i,i<h.length→i∉Y8 s.m→Live h i→Live (full h s) i) :
  SR n0 w0 L0 h nt (s'.put d v) (a.put d cv) w' L':=by
 have hS:Same w0 w' h L0 L' (Y8 s'.m):=fun id hid hn=>by
  have n1:id∉Y8 s.m:=fun hm=>hn (hk.old id hm)
  have n2:id∉ws:=fun hm=>hn (hk.new id hm hid)
  obtain ⟨h1,h2⟩:=hs.same id hid n1
  obtain ⟨k1,k2⟩:=hsame id (by rw [Yw];show id<h.length+s.o.length;omega) n2
  refine ⟨k1.trans h1,fun hl b hb => ?_⟩
  rw [←h2 hl b hb]
  exact k2 (hlive id hid n1 hl) b (by rw [h1];exact hb)
 cases d with
 | none=>exact ⟨hr,by rw [show (s'.put none v).t=s'.t from rfl,ht];exact hs.tr.mono he,hs.df.mono he,hs.nle,hs.sz,hs.ext.trans he,hS⟩
 | some d =>
  refine ⟨hr,?_,hs.df.mono he,hs.nle,?_,hs.ext.trans he,hS⟩
  ·show TR _ _ ((d,v)::s'.t)
   rw [ht]
   exact hs.tr.put he (by rw [hs.sz];simpa using hd) hv
  ·show (a.tmps.setIfInBounds d cv).size=nt
   simpa using hs.sz
theorem Zbr (h:List Blk) (s:St) {i:Nat} (hi:i<h.length) (hn:i∉Y8 s.m):(full h s)[i]? = h[i]?:=by
 unfold full
 rw [List.getElem?_append_left (by rw [Zr];exact hi),Xy _ _ _ hn]
theorem Wo (h:List Blk) (s:St):∀i,i<h.length→i∉Y8 s.m→Live h i→Live (full h s) i :=
 fun i hi hn ⟨x,hx,lx⟩=>⟨x,by rw [Zbr h s hi hn];exact hx,lx⟩
theorem V8 {α β:Type} {x:Option α} {k:α→Option β} {r:β} (h:ob x k=some r):∃a,x=some a∧k a=some r:=by
 cases x with
 | none=>cases h
 | some a=>exact ⟨a,rfl,h⟩
theorem TR.dup {E:Env} {a:Act} {T:List (Nat×AV)} (ht:TR E a T) {g:Nat} {v:AV} (hg:look T g=some v):TR E a ((g,v)::T):=by
 intro i x hx
 simp only [look] at hx
 split at hx
 ·rename_i e;subst e;cases hx;exact ht _ _ hg
 ·exact ht i x hx
theorem Zqa {α:Type} {ops:Array Oper} {o:Oper} {g:Option (Nat×Bool)} {yes no:St→Option α} {r:α} (hs:SR n0 w0 L0 h nt s a w L) (hg:Gs ops o.guard=some g) (hr:gdo s g yes no=some r) :
  ∃s1 c,SR n0 w0 L0 h nt s1 a w L∧s1.m=s.m∧s1.o=s.o∧Region.wanted o (yielded ops a.tmps)=c∧((c=true∧yes s1=some r)∨(c=false∧no s1=some r)):=by
 unfold Gs at hg
 split at hg
 ·rename_i e
  cases hg
  exact ⟨s,true,hs,rfl,rfl,by simp [Region.wanted,e],.inl ⟨rfl,hr⟩⟩
 ·rename_i j b e
  split at hg
  ·rename_i d hd
   cases hg
   simp only [gdo] at hr
   split at hr
   ·rename_i x hx
    have hval:=(hs.tr d _ hx).inv_g.inv_bool
    have hw:Region.wanted o (yielded ops a.tmps)=(x==b):=by
     simp only [Region.wanted,e,yielded,hd,Option.bind_some]
     rw [Array.getD_eq_getD_getElem?] at hval
     cases hq:a.tmps[d]? with
     | none=>rw [hq] at hval;cases hval
     | some y=>rw [hq] at hval;simp at hval;subst hval;simp
    split at hr
    ·rename_i hxb
     subst hxb
     exact ⟨s.put (some d) (.g (.bool x)),true,⟨hs.hr,hs.tr.dup hx,hs.df,hs.nle,hs.sz,hs.ext,hs.same⟩,rfl,rfl,by rw [hw];simp,.inl ⟨rfl,hr⟩⟩
    ·rename_i hxb
     have hx':x = !b:=by cases x <;> cases b <;> simp_all
     subst hx'
     exact ⟨s.put (some d) (.g (.bool (!b))),false,⟨hs.hr,hs.tr.dup hx,hs.df,hs.nle,hs.sz,hs.ext,hs.same⟩,rfl,rfl,by rw [hw];cases b <;> rfl,.inr ⟨rfl,hr⟩⟩
   ·rename_i hx
    refine ⟨s,false,hs,rfl,rfl,?_,.inr ⟨rfl,hr⟩⟩
    simp only [Region.wanted,e,yielded,hd,Option.bind_some]
    have hv:=hs.tr d _ hx
    have hu:a.tmps.getD d Go.undef=Go.undef:=by generalize a.tmps.getD d Go.undef=q at hv;cases hv;rfl
    rw [Array.getD_eq_getD_getElem?] at hu
    cases hq:a.tmps[d]? with
    | none=>simp
    | some y=>rw [hq] at hu;simp at hu;subst hu;simp [Go.undef]
   ·cases hr
  ·cases hg
theorem Zvg {α:Type} {ops:Array Oper} {o:Oper} {g:Option (Nat×Bool)} {yes no:St→Option α} {r:α} (hs:SR n0 w0 L0 h nt s a w L) (hg:Gs ops o.guard=some g) (hr:gdo s g yes no=some r) :
  ∃s1 c,SR n0 w0 L0 h nt s1 a w L∧s1.m=s.m∧s1.o=s.o∧Region.wanted o (yielded ops a.tmps)=c∧((c=true∧yes s1=some r∧Zbk s g=false∧∀i v,look s.t i=some v→(∀b,v ≠ .g (.bool b))→look s1.t i=some v)∨(c=false∧no s1=some r)):=by
 unfold Gs at hg
 split at hg
 ·rename_i e
  cases hg
  exact ⟨s,true,hs,rfl,rfl,by simp [Region.wanted,e],.inl ⟨rfl,hr,rfl,fun i v h1 _=>h1⟩⟩
 ·rename_i j b e
  split at hg
  ·rename_i d hd
   cases hg
   simp only [gdo] at hr
   split at hr
   ·rename_i x hx
    have hval:=(hs.tr d _ hx).inv_g.inv_bool
    have hw:Region.wanted o (yielded ops a.tmps)=(x==b):=by
     simp only [Region.wanted,e,yielded,hd,Option.bind_some]
     rw [Array.getD_eq_getD_getElem?] at hval
     cases hq:a.tmps[d]? with
     | none=>rw [hq] at hval;cases hval
     | some y=>rw [hq] at hval;simp at hval;subst hval;simp
    split at hr
    ·rename_i hxb
     subst hxb
     exact ⟨s.put (some d) (.g (.bool x)),true,⟨hs.hr,hs.tr.dup hx,hs.df,hs.nle,hs.sz,hs.ext,hs.same⟩,rfl,rfl,by rw [hw];simp,.inl ⟨rfl,hr,by simp [Zbk,hx],fun i v h1 h2=>by
      show (if d=i then some (AV.g (.bool x)) else look s.t i)=some v
      by_cases hdi:d=i
      ·subst hdi;rw [hx] at h1;cases h1;exact absurd rfl (h2 x)
      ·rw [if_neg hdi];exact h1⟩⟩
    ·rename_i hxb
     have hx':x = !b:=by cases x <;> cases b <;> simp_all
     subst hx'
     exact ⟨s.put (some d) (.g (.bool (!b))),false,⟨hs.hr,hs.tr.dup hx,hs.df,hs.nle,hs.sz,hs.ext,hs.same⟩,rfl,rfl,by rw [hw];cases b <;> rfl,.inr ⟨rfl,hr⟩⟩
   ·rename_i hx
    refine ⟨s,false,hs,rfl,rfl,?_,.inr ⟨rfl,hr⟩⟩
    simp only [Region.wanted,e,yielded,hd,Option.bind_some]
    have hv:=hs.tr d _ hx
    have hu:a.tmps.getD d Go.undef=Go.undef:=by generalize a.tmps.getD d Go.undef=q at hv;cases hv;rfl
    rw [Array.getD_eq_getD_getElem?] at hu
    cases hq:a.tmps[d]? with
    | none=>simp
    | some y=>rw [hq] at hu;simp at hu;subst hu;simp [Go.undef]
   ·cases hr
  ·cases hg
theorem Zqb {P:Program} {c:Call} {o:Oper} {x:Operand} (ho:o.op = .call c) (hx:c.callee = .value x) {f:FuncId} {first caps:Array Value} (hf:a.eval x = .func (.func f) first caps) (w:World) :
  (execOp a.eval o).run P w=(callFunc f (first++c.args.map a.eval++caps)).run P w:=by
 simp [execOp,ho,resolve,hx,hf,Deferred.ofValue,invoke]
theorem GR.inv_fn {E:Env} {f:FuncId} {v:Value} (h:GR E (.fn f) v):v = .func (.func f) #[] #[]:=by cases h;rfl
theorem Zi1 {E:Env} (ht:TR E a s.t) {xs:List Operand} {Xs:List Opd} {vs:List AV} (h1:Ww xs=some Xs) (h2:vals s Xs=some vs):Gp E vs (xs.toArray.map a.eval):=by
 obtain ⟨k1,k2⟩:=Rb ht h1 h2
 refine ⟨by simp [k1],fun j u y hu hy => ?_⟩
 simp at hy
 obtain ⟨x,hx,rfl⟩:=hy
 exact k2 j x u hx hu
theorem Zlz {E:FnS} (hE:Og P E) (hs:SR n0 w0 L0 h nt s a w L) {o:Oper} {c:Call} {x:Operand} {xs:List Opd} {fo:Opd} {fv v:AV} {vs:List AV} {ws:List Nat} {hd:List Nat}
  (ho:o.op = .call c) (hx:c.callee = .value x) (hfo:Z6 x=some fo) (hxs:Ww c.args.toList=some xs) (hfv:val s fo=some fv) (hvs:vals s xs=some vs)
  (he:X7 E h hd s fv vs=some (v,s',ws)) {K:Act→World→Prop} {Q:Exit→Act→World→Prop}
  (hK:∀cv w' L',HR w' (full h s') L'→s'.t=s.t→AR (Zc w' (full h s') L') v cv→Ext (Zc w (full h s) L) (Zc w' (full h s') L')→Same w w' (full h s) L L' ws →
   Kp h s s' ws→(∀i,i∈ws→i∉hd)→K (a.put o.dst cv) w'):o.wp P a w K Q:=by
 unfold X7 at he
 split at he
 case isFalse=>cases he
 rename_i hlb
 have hl:∀i,i∈hd→Live (full h s) i:=fun i hi=>Of.1 (List.all_eq_true.1 hlb i hi)
 have hargs:=Zi1 hs.tr hxs hvs
 rw [Array.toArray_toList] at hargs
 have key:∀(f:FuncId) (first caps:Array Value) (ys:List AV),a.eval x = .func (.func f) first caps→Gp (Zc w (full h s) L) ys (first++c.args.map a.eval++caps) →
   fin h hd s (E f ys (Yi hd (full h s)))=some (v,s',ws)→o.wp P a w K Q:=by
  intro f first caps ys hf hys hfin
  unfold fin at hfin
  split at hfin
  case h_2=>cases hfin
  rename_i r m oo hr
  split at hfin
  case isFalse=>cases hfin
  rename_i hall
  cases hfin
  have hk:∀i,i∈Y8 m→i∉hd:=fun i hi hh=>by
   obtain ⟨p,hp,e⟩:=List.mem_map.1 hi
   have:=List.all_eq_true.1 hall p hp
   rw [e] at this
   simp at this
   exact this hh
  have hF:=(hE f ys _ _ hr).1.hide hl (fun i hi hm=>hk i hm hi)
  have hfull:Zv (full h s) m++oo=full h ((Wc h s m).app oo):=by rw [Zbn,Oe]
  have hkp:Kp h s ((Wc h s m).app oo) (m.map (·.1)):=⟨(Sb h s m).1,(Sb h s m).2,fun i hi hl=>by
   rw [←hfull,List.getElem?_append_left (by rw [Zr];exact hl),Xy _ _ _ hi]⟩
  have ht:((Wc h s m).app oo).t=s.t:=by
   show (Wc h s m).t=s.t
   have:∀m,(Wc h s m).t=s.t:=fun m=>by
    induction m with
    | nil=>rfl
    | cons p r ih=>obtain ⟨i,b⟩:=p;simp only [Wc,Va,ih]
   exact this m
  have hrun:=Zqb (P:=P) ho hx hf w
  rcases hF w L _ hs.hr hys with ⟨c1,c2⟩ | ⟨_,cv,w',c1,c2⟩
  ·rw [c1] at hrun
   unfold Oper.wp
   rw [hrun,Oper.upon_enter]
   refine Calls.mono c2 fun e w' ⟨cv,he,L',h1,h2,h3,h4⟩ => ?_
   subst he
   simp only [hfull] at h1 h2 h3
   exact hK cv w' L' h2 ht h1 h3 h4 hkp hk
  ·rw [c1] at hrun
   obtain ⟨L',h1,h2,h3,h4⟩:=c2
   unfold Oper.wp
   rw [hrun,Oper.upon_value]
   simp only [hfull] at h1 h2 h3
   exact hK cv w' L' h2 ht h1 h3 h4 hkp hk
 split at he
 ·rename_i f
  have hf:=(Zl hs.tr hfo hfv).inv_g.inv_fn
  refine key f #[] #[] vs hf ?_ he
  simpa using hargs
 ·rename_i f caps
  have hf:=Zl hs.tr hfo hfv
  cases hq:a.eval x with
  | func g first C =>
   rw [hq] at hf
   cases hf with
   | fv hn hc =>
   refine key f _ _ (vs++caps) hq ?_ he
   rw [Array.empty_append]
   obtain ⟨h1,h2⟩:=hargs
   refine ⟨by simp [h1,hn],fun j u y hu hy => ?_⟩
   by_cases hlt:j<vs.length
   ·rw [List.getElem?_append_left hlt] at hu
    rw [Array.getElem?_append_left (by rw [←h1];exact hlt)] at hy
    exact h2 j u y hu hy
   ·rw [List.getElem?_append_right (by omega)] at hu
    rw [Array.getElem?_append_right (by rw [←h1];omega)] at hy
    exact hc _ u y hu (by rw [h1];exact hy)
  | _=>rw [hq] at hf;cases hf <;> (rename_i hg;cases hg)
 ·rename_i f first'
  have hf:=Zl hs.tr hfo hfv
  cases hq:a.eval x with
  | func g first C =>
   rw [hq] at hf
   cases hf with
   | bv hn hc =>
   refine key f _ _ (first'++vs) hq ?_ he
   rw [Array.append_empty]
   obtain ⟨h1,h2⟩:=hargs
   refine ⟨by simp [h1,hn],fun j u y hu hy => ?_⟩
   by_cases hlt:j<first'.length
   ·rw [List.getElem?_append_left hlt] at hu
    rw [Array.getElem?_append_left (by rw [←hn];exact hlt)] at hy
    exact hc j u y hu hy
   ·rw [List.getElem?_append_right (by omega)] at hu
    rw [Array.getElem?_append_right (by rw [←hn];omega)] at hy
    exact h2 _ u y hu (by rw [hn];exact hy)
  | _=>rw [hq] at hf;cases hf <;> (rename_i hg;cases hg)
 ·cases he
end
section
variable {n0:Nat} {P:Program} {w0 w w':World} {L0 L L':Nat→Lc} {h:List Blk} {nt:Nat} {s s':St} {a:Act}
theorem Zfn {P:Program} {drw:Option Nat} {o:Oper} {fo:Opd} {xs:List Opd} (hc:cOp P drw o=some (.call fo xs)) :
  ∃c x,o.op = .call c∧c.callee = .value x∧Z6 x=some fo∧Ww c.args.toList=some xs:=by
 cases ho:o.op with
 | call c =>
  simp only [cOp,ho,Zin] at hc
  split at hc
  ·rename_i f hf
   split at hc
   ·rename_i g ys h1 h2
    cases hc
    exact ⟨c,f,rfl,hf,h1,h2⟩
   ·cases hc
  ·cases hc
  ·rename_i b hb
   split at hc
   ·rename_i ys hy
    exfalso
    unfold Qh at hc
    repeat' split at hc
    all_goals (first | (cases hc;done) | skip)
   ·cases hc
 | assign x =>
  exfalso
  simp only [cOp,ho] at hc
  repeat' split at hc
  all_goals (first | (cases hc;done) | (simp [Option.map_eq_some_iff] at hc;done))
 | binOp op t x y p =>
  exfalso
  simp only [cOp,ho,Option.bind_eq_some_iff,bind] at hc
  obtain ⟨X,_,Y,_,hc⟩:=hc
  repeat' split at hc
  all_goals (first | (cases hc;done) | (simp [Option.map_eq_some_iff] at hc;done) | skip)
 | _ =>
  exfalso
  simp only [cOp,ho] at hc
  repeat' split at hc
  all_goals (first | (cases hc;done) | (simp [Option.map_eq_some_iff,Option.bind_eq_some_iff,bind] at hc;done) | (simp [Option.map_eq_some_iff,Option.bind_eq_some_iff,bind] at hc;repeat' split at hc;all_goals (first | (cases hc;done) | (simp at hc;done))) | contradiction | (simp_all;done))
theorem Gt {E:FnS} {nb:Nat} {hd:List Nat} {op:AOp} (hn:∀f xs,op ≠ .call f xs) :
  Ye E h nb hd s op=if op.acts=true then evI h nb s op else ob (evP h s op) fun p=>some (p.1,s,[]):=by
 cases op <;> first | rfl | exact absurd rfl (hn _ _)
theorem Zvh {E:FnS} (hE:Og P E) (hs:SR n0 w0 L0 h nt s a w L) {o:Oper} {ao:AOp} {drw:Option Nat} {nb:Nat} {hd:List Nat} {v:AV} {ws:List Nat}
  (hc:cOp P drw o=some ao) (he:Ye E h nb hd s ao=some (v,s',ws)) {K:Act→World→Prop} {Q:Exit→Act→World→Prop}
  (hK:∀cv w' L',HR w' (full h s') L'→s'.t=s.t→AR (Zc w' (full h s') L') v cv→Ext (Zc w (full h s) L) (Zc w' (full h s') L')→Same w w' (full h s) L L' ws →
   Kp h s s' ws→K (a.put o.dst cv) w'):o.wp P a w K Q:=by
 by_cases hcall:∃f xs,ao = .call f xs
 ·obtain ⟨f,xs,rfl⟩:=hcall
  obtain ⟨c,x,ho,hx,h1,h2⟩:=Zfn hc
  simp only [Ye] at he
  split at he
  ·rename_i fv vs hf hv
   exact Zlz hE hs ho hx h1 h2 hf hv he (fun cv w' L' k1 k2 k3 k4 k5 k6 _=>hK cv w' L' k1 k2 k3 k4 k5 k6)
  ·cases he
 ·rw [Gt (fun f xs e=>hcall ⟨f,xs,e⟩)] at he
  split at he
  ·obtain ⟨⟨nx,w',L',h1,h2,h3,h4,h5⟩,ht⟩:=Z1u hs.hr hs.tr hc he
   unfold Oper.wp
   rw [h1]
   rcases h2 with ⟨cv,rfl,hv⟩ | ⟨rfl,rfl⟩
   ·rw [Oper.upon_value]
    exact hK cv w' L' h3 ht hv h4 h5 (Zbp he)
   ·rw [Oper.upon_skip]
    exact hK _ w' L' h3 ht .undef h4 h5 (Zbp he)
  ·obtain ⟨⟨v',rs⟩,hv,he⟩:=V8 he
   cases he
   obtain ⟨cv,h1,h2⟩:=Zpq hs.hr hs.tr hc hv
   unfold Oper.wp
   rw [h2 w (fun _ => .self _ _),Oper.upon_value]
   exact hK cv w L hs.hr rfl h1 (.refl _) (fun _ _ _=>⟨rfl,fun _ _ _=>rfl⟩) (.refl _ _)
def Kept (w w':World) (h:List Blk) (s:St) (L L':Nat→Lc) (ws:List Nat):Prop :=
 Same w w' (full h s) L L' ws
theorem Mt {E:FnS} (hE:Og P E) (hs:SR n0 w0 L0 h nt s a w L) {ops:Array Oper} {o:Oper} {i:Nat} (hi:ops[i]? = some o) {ao:Z0} {drw:Option Nat} {nb:Nat} {hd:List Nat}
  {ws:List Nat} (hc:Rx P nt ops drw o=some ao) (he:Wh E h nb hd s ao=some (s',ws)) {K:Act→World→Prop} {Q:Exit→Act→World→Prop}
  (hK:∀a' w' L',SR n0 w0 L0 h nt s' a' w' L'→Same w w' (full h s) L L' ws→Ext (Zc w (full h s) L) (Zc w' (full h s') L')→(∀i,i∉ws→i<(full h s).length→(full h s')[i]? = (full h s)[i]?)→K a' w'):wpOp P ops Q i K a w:=by
 unfold Rx at hc
 split at hc
 case h_2=>cases hc
 rename_i g hg
 split at hc
 case isFalse=>cases hc
 rename_i hd'
 cases hc
 unfold Wh at he
 simp only at he
 obtain ⟨s1,c,hs1,hm1,ho1,hw,hcase⟩:=Zqa hs hg he
 have hf1:full h s1=full h s:=by unfold full;rw [hm1,ho1]
 rw [←hf1] at hK
 unfold wpOp
 simp only [hi,hw]
 rcases hcase with ⟨rfl,he⟩ | ⟨rfl,he⟩
 ·rw [if_pos rfl]
  obtain ⟨⟨v,s2,ws2⟩,hx,he⟩:=V8 he
  cases he
  obtain ⟨op,hop,hgd'⟩:∃op,cOp P drw o=some op∧(cOp P drw o).getD (.row 0 [])=op:=by
   cases hq:cOp P drw o with
   | none=>rw [hq] at hx;cases hx
   | some op=>exact ⟨op,rfl,rfl⟩
  rw [hgd'] at hx
  refine .inl (Zvh hE hs1 hop hx fun cv w' L' k1 k2 k3 k4 k5 k6=>hK _ _ L' (hs1.go hd' k1 k2 k3 k4 k5 k6 (Wo h s1)) k5 ?_ ?_)
  ·cases hdst:o.dst <;> exact k4
  ·cases hdst:o.dst <;> exact k6.stay
 ·cases he
  rw [if_neg (by simp)]
  refine hK _ _ L ?_ (fun _ _ _=>⟨rfl,fun _ _ _=>rfl⟩) ?_ ?_
  ·exact hs1.go hd' hs1.hr rfl .undef (.refl _) (ws:=[]) (fun _ _ _=>⟨rfl,fun _ _ _=>rfl⟩) (.refl _ _) (Wo h s1)
  ·cases hdst:o.dst <;> exact .refl _
  ·cases hdst:o.dst <;> exact fun _ _ _=>rfl
def Zqc (P:Program) (nt:Nat) (ops:Array Oper):List Oper→Option (List Z0)
 | []=>some []
 | o::r=>match Rx P nt ops none o,Zqc P nt ops r with
  | some x,some y=>some (x::y)
  | _,_=>none
theorem Zbs {E:FnS} (hE:Og P E) {ops:Array Oper} {Q:Exit→Act→World→Prop}:∀(l:List Oper) (k:Nat) (al:List Z0) (s:St) (a:Act) (w:World) (L:Nat→Lc),(∀(j:Nat),l[j]? = ops[k+j]?) →
  Zqc P nt ops l=some al→SR n0 w0 L0 h nt s a w L→Vy E h al s=some s'→(∀a' w' L',SR n0 w0 L0 h nt s' a' w' L'→Q .normal a' w')→wpOps P ops Q (List.range' k l.length) a w
 | [],k,al,s,a,w,L,hl,hc,hs,he,hQ=>by
  cases hc
  simp only [Vy] at he
  cases he
  exact hQ a w L hs
 | o::r,k,al,s,a,w,L,hl,hc,hs,he,hQ=>by
  simp only [Zqc] at hc
  split at hc
  case h_2=>cases hc
  rename_i x y hx hy
  cases hc
  simp only [Vy] at he
  obtain ⟨⟨s1,ws⟩,h1,he⟩:=V8 he
  simp only [List.length_cons,List.range'_succ]
  rw [wpOps_cons]
  refine Mt hE hs (by have:=hl 0;simpa using this.symm) hx h1 fun a' w' L' k1 _ _ _ => ?_
  exact Zbs hE r (k+1) y s1 a' w' L' (fun j=>by have:=hl (j+1);simp at this;rw [this];congr 1;omega) hy k1 he hQ
theorem Zqd {E:FnS} (hE:Og P E) {ops:Array Oper} {id:Nat} {Q:Exit→Act→World→Prop} {al:List Z0} (hc:Zqc P nt ops ops.toList=some al) (hs:SR n0 w0 L0 h nt s a w L)
  (he:Vy E h al s=some s') (hQ:∀a' w' L',SR n0 w0 L0 h nt s' a' w' L'→Q .normal a' w') {ro:Option Nat} {fn:Nat} (hnd:Sx ops=true) (hG:∀a w,¬Q .outgrown a w):(Code.region id ops false).wpIn (Uv ro) fn P Q a w:=by
 refine wpIn_region (D9 hnd hG _ _ _ ?_)
 have:=Zbs hE (Q:=Q) ops.toList 0 al s a w L (fun j=>by simp) hc hs he hQ
 simpa [List.range_eq_range'] using this
end
def B8 (ops:Array Oper) (i:Nat):Nat :=
 ((ops.toList.take i).filter fun o=>match o.op with | .alloc _=>true | _=>false).length
def H5 (P:Program) (nt:Nat) (ops:Array Oper) (i:Nat):Option Z0 :=
 match ops[i]? with
 | some o=>Rx P nt ops (some (B8 ops i)) o
 | none=>none
def Qk (ld:Bool) (o:Z0):Bool :=
 !o.op.acts&&(match o.op with
  | .call .. | .row .. => false
  | .load .. => ld
  | _=>true)
def takeB (P:Program) (nt:Nat) (ops:Array Oper) (ld:Bool) (listed:Array Bool) (i:Nat):Bool :=
 match H5 P nt ops i with
 | some o=>Qk ld o&&Region.free .any ops listed i
 | none=>false
def Jd (f:Nat→Option Vv) (c:Nat→Option Z0):List Nat→Option Vv
 | []=>none
 | i::[]=>match c i,f i with
  | some o,some t=>some (.one o t)
  | _,_=>none
 | i::r=>match c i,f i,Jd f c r with
  | some o,some t,some r=>some (.alt o t r)
  | _,_,_=>none
def Zi2 (ops:Array Oper) (j i:Nat):Bool :=
 match ops[j]? with
 | some oj=>oj.after.any fun e=>Region.binds .any e&&e.on==i
 | none=>false
def Zqe (ops:Array Oper) (i:Nat):Bool :=
 match ops[i]? with
 | some o=>P8 o.op
 | none=>false
def ndB (ops:Array Oper) (j:Nat):Bool:=(List.range ops.size).any fun i=>Zqe ops i && !Zi2 ops j i
def freed (ops:Array Oper) (listed:Array Bool):Bool:=(List.range ops.size).all fun j=>listed.getD j true || !ndB ops j
def Qb (P:Program) (nt:Nat) (ops:Array Oper):Nat→Array Bool→Option Vv
 | 0,listed=>if (Region.ready .any ops listed).isEmpty=true then some .leaf else none
 | n+1,listed =>
  if (Region.ready .any ops listed).isEmpty=true then some .leaf else
  match (Region.ready .any ops listed).find? (takeB P nt ops false listed) with
  | some i=>match H5 P nt ops i,Qb P nt ops n (listed.setIfInBounds i true) with
   | some o,some t=>some (.take o t)
   | _,_=>none
  | none=>Jd (fun i=>Qb P nt ops n (listed.setIfInBounds i true)) (H5 P nt ops) (Region.ready .any ops listed)
def Sc (P:Program) (nt:Nat) (ops:Array Oper) (hm:Bool):Nat→Bool→Array Bool→Option Vv
 | 0,_,listed=>if (Region.ready .any ops listed).isEmpty=true then some .leaf else none
 | n+1,ld,listed =>
  if (Region.ready .any ops listed).isEmpty=true then some .leaf else
  if freed ops listed=true then (Qb P nt ops (n+1) listed).map .free else
  match (Region.ready .any ops listed).find? (takeB P nt ops ld listed) with
  | some i=>match H5 P nt ops i,Sc P nt ops hm n ld (listed.setIfInBounds i true) with
   | some o,some t=>some (.take o t)
   | _,_=>none
  | none=>Jd (fun i=>Sc P nt ops hm n hm (listed.setIfInBounds i true)) (H5 P nt ops) (Region.ready .any ops listed)
def Vq (P:Program) (ops:Array Oper) (Q:Exit→Act→World→Prop) (S:World→Prop):Nat→Array Bool→Act→World→Prop
 | 0,listed,a,w=>Region.ready .any ops listed=[]∧Q .normal a w
 | fuel+1,listed,a,w =>
  (Region.ready .any ops listed=[]→Q .normal a w) ∧
  ∀i∈Region.ready .any ops listed,wpOp P ops Q i (fun a' w'=>(ndB ops i=true→S w→S w')∧Vq P ops Q S fuel (listed.setIfInBounds i true) a' w') a w
section
variable {P:Program} {ops:Array Oper} {Q:Exit→Act→World→Prop} {S:World→Prop}
theorem Gu:∀(fuel:Nat) (listed:Array Bool) (a:Act) (w:World),Vq P ops Q S fuel listed a w→wpAny P .any ops Q fuel listed a w
 | 0,_,_,_,h=>h
 | fuel+1,_,_,_,h=>⟨h.1,fun i hi=>wpOp_mono (fun a' w' h'=>Gu fuel _ a' w' h'.2) (h.2 i hi)⟩
theorem Zl0 {listed:Array Bool} {i:Nat} (h:freed ops listed=true):freed ops (listed.setIfInBounds i true)=true:=by
 simp only [freed,List.all_eq_true,List.mem_range,Bool.or_eq_true] at h ⊢
 intro j hj
 rcases h j hj with h | h
 ·by_cases e:i=j
  ·subst e
   left
   by_cases hlt:i<listed.size
   ·simp [Array.getD_eq_getD_getElem?,hlt]
   ·simp [Array.getD_eq_getD_getElem?,hlt]
  ·left;rw [getD_set_ne true e];exact h
 ·exact .inr h
theorem Zqf {listed:Array Bool} (h:freed ops listed=true) {i:Nat} (hi:i∈Region.ready .any ops listed):ndB ops i=false:=by
 simp only [freed,List.all_eq_true,List.mem_range,Bool.or_eq_true] at h
 obtain ⟨h1,o,h2,_⟩:=mem_ready.1 hi
 rcases h i (Array.getElem?_eq_some_iff.1 h2).1 with h3 | h3
 ·rw [h1] at h3;cases h3
 ·simpa using h3
theorem Nw:∀(fuel:Nat) (listed:Array Bool) (a:Act) (w:World),freed ops listed=true→wpAny P .any ops Q fuel listed a w→Vq P ops Q S fuel listed a w
 | 0,_,_,_,_,h=>h
 | fuel+1,_,_,_,hf,h=>⟨h.1,fun i hi=>wpOp_mono (fun a' w' h'=>⟨fun hn=>(by rw [Zqf hf hi] at hn;cases hn),Nw fuel _ a' w' (Zl0 hf) h'⟩) (h.2 i hi)⟩
theorem B9 {i:Nat} {oi:Oper} {v:Value} (hi:ops[i]? = some oi) (hsel:∀(j:Nat) (o:Oper) cs b,ops[j]? = some o→o.op ≠ .select cs b)
  (hQ:∀c a w,Q (.panic c) (a.put oi.dst v) w→Q (.panic c) a w) :
  ∀(fuel:Nat) (listed:Array Bool) (a:Act) (w:World),
   (∀j oj,ops[j]? = some oj→j ≠ i→listed.getD j true=false→(∀e∈oj.after,Region.binds .any e=true→e.on ≠ i)→oi.apart ops oj=true) →
   i∈Region.ready .any ops listed→YieldsIf P ops (fun w'=>P8 oi.op=true→S w') oi v a→S w →
   Vq P ops Q S fuel (listed.setIfInBounds i true) (a.put oi.dst v) w→Vq P ops Q S (fuel+1) listed a w:=by
 have main:∀(fuel:Nat) (listed:Array Bool) (a:Act) (w:World),
   (∀j oj,ops[j]? = some oj→j ≠ i→listed.getD j true=false→(∀e∈oj.after,Region.binds .any e=true→e.on ≠ i)→oi.apart ops oj=true) →
   i∈Region.ready .any ops listed→YieldsIf P ops (fun w'=>P8 oi.op=true→S w') oi v a→(P8 oi.op=true→S w) →
   Vq P ops Q S fuel (listed.setIfInBounds i true) (a.put oi.dst v) w→Vq P ops Q S (fuel+1) listed a w:=by
  intro fuel
  induction fuel with
  | zero =>
   intro listed a w _ hr hy hS H
   refine ⟨fun h=>(by rw [h] at hr;cases hr),fun j hj => ?_⟩
   by_cases hji:j=i
   ·subst hji;exact hy.wpOp hi hS ⟨fun _ h=>h,H⟩
   ·have:=ready_mono hj hji
    rw [H.1] at this
    cases this
  | succ fuel ih =>
   intro listed a w hfree hr hy hS H
   refine ⟨fun h=>(by rw [h] at hr;cases hr),fun j hj => ?_⟩
   by_cases hji:j=i
   ·subst hji;exact hy.wpOp hi hS ⟨fun _ h=>h,H⟩
   ·have hahead:=H.2 j (ready_mono hj hji)
    obtain ⟨hjun,oj,hoj,hall⟩:=mem_ready.1 hj
    have hnot:∀e∈oj.after,Region.binds .any e=true→e.on ≠ i:=by
     intro e he hb heq
     have hl:=hall e he hb
     have hu:=(mem_ready.1 hr).1
     rw [heq] at hl
     rcases Nat.lt_or_ge i listed.size with h' | h'
     ·simp [h'] at hu hl;rw [hu] at hl;cases hl
     ·simp [Array.getElem?_eq_none h'] at hl
    have hnd:P8 oi.op=true→ndB ops j=true:=fun hl=>by
     simp only [ndB,List.any_eq_true,List.mem_range,Bool.and_eq_true]
     refine ⟨i,(Array.getElem?_eq_some_iff.1 hi).1,by simp [Zqe,hi,hl],?_⟩
     simp only [Zi2,hoj,Bool.not_eq_true',Array.any_eq_false]
     intro k hk hb
     simp only [Bool.and_eq_true,beq_iff_eq] at hb
     exact hnot _ (Array.getElem_mem hk) hb.1 hb.2
    have hput:=wpOp_putIf hoj (hfree j oj hoj hji hjun hnot) (fun cs b=>hsel i oi cs b hi) (fun cs b=>hsel j oj cs b hoj) hQ hy hahead
    refine wpOp_mono (fun a' w' k=>⟨k.2.1,ih (listed.setIfInBounds j true) a' w' (fun m om hm hmi hun hno=>hfree m om hm hmi ?_ hno) (ready_mono hr (Ne.symm hji)) k.1
     (fun hl=>k.2.1 (hnd hl) (hS hl)) ?_⟩) hput
    ·by_cases hjm:j=m
     ·subst hjm;exact hjun
     ·rw [getD_set_ne true hjm] at hun;exact hun
    ·rw [Array.setIfInBounds_comm _ _ hji]
     exact k.2.2
 exact fun fuel listed a w h1 h2 h3 h4 h5=>main fuel listed a w h1 h2 h3 (fun _=>h4) h5
theorem Hg {i:Nat} {oi:Oper} {v:Value} {fuel:Nat} {listed:Array Bool} {a:Act} {w:World} (hi:ops[i]? = some oi)
  (hs:Region.noSelect ops=true) (hf:Region.free .any ops listed i=true) (hr:(Region.ready .any ops listed).contains i=true)
  (hQ:∀c a w,Q (.panic c) (a.put oi.dst v) w→Q (.panic c) a w) (hy:YieldsIf P ops (fun w'=>P8 oi.op=true→S w') oi v a) (hS:S w)
  (h:Vq P ops Q S fuel (listed.setIfInBounds i true) (a.put oi.dst v) w):Vq P ops Q S (fuel+1) listed a w :=
 B9 hi (Region.noSelect_spec hs) hQ fuel listed a w (Region.free_spec hi hf) (by simpa using hr) hy hS h
theorem Zfo {rs:List Nat} {fuel:Nat} {listed:Array Bool} {a:Act} {w:World} (hr:Region.ready .any ops listed=rs) (hne:rs ≠ [])
  (h:∀i∈rs,wpOp P ops Q i (fun a' w'=>S w'∧Vq P ops Q S fuel (listed.setIfInBounds i true) a' w') a w):Vq P ops Q S (fuel+1) listed a w :=
 ⟨fun h0=>absurd (hr▸h0) hne,hr▸fun i hi=>wpOp_mono (fun a' w' k=>⟨fun _ _=>k.1,k.2⟩) (h i hi)⟩
theorem Hh {listed:Array Bool} {a:Act} {w:World} (hr:Region.ready .any ops listed=[]) (h:Q .normal a w) :
  ∀fuel,Vq P ops Q S fuel listed a w
 | 0=>⟨hr,h⟩
 | _+1=>⟨fun _=>h,by rw [hr];simp⟩
end
section
variable {n0:Nat} {P:Program} {w0 w w':World} {L0 L L':Nat→Lc} {h:List Blk} {nt:Nat} {s s':St} {a:Act}
structure HS (E1:Env) (hd:List Nat) (w:World) (H:List Blk) (L:Nat→Lc):Prop where
 sees:U6 E1 hd w
 ext:Ext E1 (Zc w H L)
 live:∀i,i∈hd→Live H i∧L i=E1.L i
 low:∀i b,i∈hd→(E1.L i).blk=some b→b<E1.w.heap.size
theorem HS.lt {E1:Env} {hd:List Nat} {H:List Blk} (hh:HS E1 hd w H L) {i b:Nat} (hi:i∈hd) (hb:(E1.L i).blk=some b):b<E1.w.heap.size:=hh.low i b hi hb
theorem HS.step {E1:Env} {hd ws:List Nat} {H H':List Blk} (hh:HS E1 hd w H L) (hsame:Same w w' H L L' ws) (he:Ext (Zc w H L) (Zc w' H' L'))
  (hst:∀i,i∉ws→i<H.length→H'[i]? = H[i]?) (hws:(ws.all fun i => !hd.contains i)=true):HS E1 hd w' H' L':=by
 have hn:∀i,i∈hd→i∉ws:=fun i hi hm=>by
  have:=List.all_eq_true.1 hws i hm
  simp at this
  exact this hi
 refine ⟨fun b hb hor => ?_,hh.ext.trans he,fun i hi => ?_,?_⟩
 ·have h1:=hh.sees b hb hor
  rw [←h1]
  rcases hor with ho | ⟨id,hid,hL⟩
  ·exact (he.keep b (Nat.lt_of_lt_of_le hb hh.ext.size) (hh.ext.keep b hb ho).2).1
  ·obtain ⟨k1,k2⟩:=hh.live id hid
   have hlt:id<H.length:=let ⟨x,hx,_⟩:=k1;(List.getElem?_eq_some_iff.1 hx).1
   exact (hsame id hlt (hn id hid)).2 k1 b (by rw [k2];exact hL)
 ·obtain ⟨⟨x,hx,lx⟩,k2⟩:=hh.live i hi
  have hlt:i<H.length:=(List.getElem?_eq_some_iff.1 hx).1
  exact ⟨⟨x,by rw [hst i (hn i hi) hlt];exact hx,lx⟩,(hsame i hlt (hn i hi)).1.trans k2⟩
 ·exact hh.low
theorem Cb {P:Program} {drw:Option Nat} {o:Oper} {ao:AOp} (hc:cOp P drw o=some ao) (hl:P8 o.op=true):∃g n p,ao = .load g n p:=by
 cases ho:o.op with
 | load t p =>
  simp only [cOp,ho,bind,Option.bind_eq_some_iff] at hc
  obtain ⟨g,_,n,_,hc⟩:=hc
  split at hc
  ·simp only [Option.bind_eq_some_iff] at hc
   obtain ⟨p,_,hc⟩:=hc
   cases hc
   exact ⟨_,_,_,rfl⟩
  ·cases hc
 | _=>rw [ho] at hl;simp [P8] at hl
theorem takeB_spec {ops:Array Oper} {ld:Bool} {listed:Array Bool} {i:Nat} {ao:Z0} (hc:H5 P nt ops i=some ao) (hb:takeB P nt ops ld listed i=true) :
  Qk ld ao=true∧Region.free .any ops listed i=true:=by
 simpa [takeB,hc] using hb
theorem cDrw_spec {ops:Array Oper} {i:Nat} {ao:Z0} (hc:H5 P nt ops i=some ao):∃o,ops[i]? = some o∧Rx P nt ops (some (B8 ops i)) o=some ao:=by
 unfold H5 at hc
 split at hc
 ·rename_i o ho;exact ⟨o,ho,hc⟩
 ·cases hc
theorem Ql {E1:Env} {S:World→Prop} {rs:List Nat} (hs:SR n0 w0 L0 h nt s a w L) {ops:Array Oper} {o:Oper} {drw:Option Nat} {ao:Z0} (hc:Rx P nt ops drw o=some ao)
  (he:Ul h s ao=some (s',rs)) (hS:∀w',S w'→P8 o.op=true→U6 (Zc w (full h s) L) rs w') :
  ∃cv,YieldsIf P ops S o cv a∧SR n0 w0 L0 h nt s' (a.put o.dst cv) w L∧full h s'=full h s:=by
 unfold Rx at hc
 split at hc
 case h_2=>cases hc
 rename_i g hg
 split at hc
 case isFalse=>cases hc
 rename_i hd'
 cases hc
 unfold Ul at he
 simp only at he
 obtain ⟨s1,c,hs1,hm1,ho1,hw,hcase⟩:=Zqa hs hg he
 have hf1:full h s1=full h s:=by unfold full;rw [hm1,ho1]
 rcases hcase with ⟨rfl,he⟩ | ⟨rfl,he⟩
 ·obtain ⟨⟨v,rs'⟩,hv,he⟩:=V8 he
  cases he
  obtain ⟨op,hop,hgd'⟩:∃op,cOp P drw o=some op∧(cOp P drw o).getD (.row 0 [])=op:=by
   cases hq:cOp P drw o with
   | none=>rw [hq] at hv;cases hv
   | some op=>exact ⟨op,rfl,rfl⟩
  rw [hgd'] at hv
  rw [←hf1] at hS
  obtain ⟨cv,h1,h2⟩:=Zpq hs1.hr hs1.tr hop hv
  refine ⟨cv,.inl ⟨hw,fun w' hw'=>h2 w' (fun hl=>hS w' hw' hl)⟩,?_,?_⟩
  ·exact hs1.go hd' hs1.hr rfl h1 (.refl _) (ws:=[]) (fun _ _ _=>⟨rfl,fun _ _ _=>rfl⟩) (.refl _ _) (Wo h s1)
  ·rw [←hf1];cases o.dst <;> rfl
 ·cases he
  refine ⟨undef,.inr ⟨hw,rfl⟩,?_,?_⟩
  ·exact hs1.go hd' hs1.hr rfl .undef (.refl _) (ws:=[]) (fun _ _ _=>⟨rfl,fun _ _ _=>rfl⟩) (.refl _ _) (Wo h s1)
  ·rw [←hf1];cases o.dst <;> rfl
variable {E:FnS} {ops:Array Oper} {Q:Exit→Act→World→Prop}
theorem Zbt {ops:Array Oper} {o:Oper} {drw:Option Nat} {ao:Z0} (hc:Rx P nt ops drw o=some ao) (ht:Qk false ao=true):P8 o.op=false:=by
 cases hl:P8 o.op with
 | false=>rfl
 | true =>
  exfalso
  unfold Rx at hc
  split at hc
  case h_2=>cases hc
  split at hc
  case isFalse=>cases hc
  cases hc
  cases hq:cOp P drw o with
  | none=>rw [hq] at ht;simp [Qk,AOp.acts] at ht
  | some op =>
   obtain ⟨g,n,p,e⟩:=Cb hq hl
   subst e
   rw [hq] at ht
   simp [Qk,AOp.acts] at ht
theorem Zbu {α:Type} {c:Bool} {x:Option α} {r:α} (h:(if c=true then x else none)=some r):c=true∧x=some r:=by
 split at h
 ·exact ⟨by assumption,h⟩
 ·cases h
theorem Zfp {E1:Env} {hd rs:List Nat} (hs:SR n0 w0 L0 h nt s a w L) (hh:HS E1 hd w (full h s) L) {ops:Array Oper} {o:Oper} {drw:Option Nat} {ao:Z0} (hc:Rx P nt ops drw o=some ao)
  (hok:Zlv s hd ao=true) (he:Ul h s ao=some (s',rs)) :
  ∃cv,YieldsIf P ops (fun w'=>P8 o.op=true→U6 E1 hd w') o cv a∧SR n0 w0 L0 h nt s' (a.put o.dst cv) w L∧full h s'=full h s:=by
 cases hl:P8 o.op with
 | false =>
  obtain ⟨cv,h1,h2,h3⟩:=Ql (E1:=E1) (S:=fun _=>True) hs hc he (fun w' _ hl'=>by rw [hl] at hl';cases hl')
  refine ⟨cv,?_,h2,h3⟩
  rcases h1 with ⟨y1,y2⟩ | y
  ·exact .inl ⟨y1,fun w' _=>y2 w' trivial⟩
  ·exact .inr y
 | true =>
  unfold Rx at hc
  split at hc
  case h_2=>cases hc
  rename_i g hg
  split at hc
  case isFalse=>cases hc
  rename_i hd'
  cases hc
  unfold Ul at he
  simp only at he
  obtain ⟨s1,c,hs1,hm1,ho1,hw,hcase⟩:=Zvg hs hg he
  have hf1:full h s1=full h s:=by unfold full;rw [hm1,ho1]
  rcases hcase with ⟨rfl,he,hoff,hlk⟩ | ⟨rfl,he⟩
  ·obtain ⟨⟨v,rs'⟩,hv,he⟩:=V8 he
   cases he
   obtain ⟨op,hop,hgd'⟩:∃op,cOp P drw o=some op∧(cOp P drw o).getD (.row 0 [])=op:=by
    cases hq:cOp P drw o with
    | none=>rw [hq] at hv;cases hv
    | some op=>exact ⟨op,rfl,rfl⟩
   rw [hgd'] at hv hok
   obtain ⟨ag,n,p,e⟩:=Cb hop hl
   subst e
   simp only [Zlv,hoff,Bool.false_or] at hok
   have hptr:∃id off,val s p=some (.ptr id off)∧id∈hd:=by
    split at hok
    ·rename_i id off hp;exact ⟨id,off,hp,by simpa using hok⟩
    ·cases hok
   obtain ⟨id,off,hp,hmem⟩:=hptr
   have hp1:val s1 p=some (.ptr id off):=by
    cases p with
    | t n=>simp only [val] at hp ⊢;exact hlk n _ hp (fun b hb=>by cases hb)
    | c v=>simpa only [val] using hp
   cases hoo:o.op with
   | load t pp =>
    obtain ⟨dst,oop,ty,pos,after,gdd⟩:=o
    simp only at hoo
    subst hoo
    simp only [cOp] at hop
    obtain ⟨ag',ha,hop⟩:=Za hop
    obtain ⟨n',hn,hop⟩:=Za hop
    split at hop
    case isFalse=>cases hop
    rename_i hcond
    obtain ⟨X,hx,hop⟩:=Za hop
    cases hop
    obtain ⟨cv,h1,h2⟩:=Zuy hs1.hr hs1.tr (dst:=dst) (ty:=ty) (pos:=pos) (after:=after) (gd:=gdd) ha hn hcond hx hp1 hv
    refine ⟨cv,.inl ⟨hw,fun w' hw'=>h2 w' (fun b hb => ?_)⟩,?_,?_⟩
    ·obtain ⟨⟨x,hx1,hx2⟩,hLi⟩:=hh.live id hmem
     have e1:=hw' rfl b (by
      have hb1:(E1.L id).blk=some b:=by rw [←hLi];exact hb
      exact hh.lt hmem hb1) (.inr ⟨id,hmem,by rw [←hLi];exact hb⟩)
     have e2:=hh.sees b (by
      have hb1:(E1.L id).blk=some b:=by rw [←hLi];exact hb
      exact hh.lt hmem hb1) (.inr ⟨id,hmem,by rw [←hLi];exact hb⟩)
     rw [e1,e2]
    ·exact hs1.go hd' hs1.hr rfl h1 (.refl _) (ws:=[]) (fun _ _ _=>⟨rfl,fun _ _ _=>rfl⟩) (.refl _ _) (Wo h s1)
    ·rw [←hf1];cases dst <;> rfl
   | _=>rw [hoo] at hl;simp [P8] at hl
  ·cases he
   refine ⟨undef,.inr ⟨hw,rfl⟩,?_,?_⟩
   ·exact hs1.go hd' hs1.hr rfl .undef (.refl _) (ws:=[]) (fun _ _ _=>⟨rfl,fun _ _ _=>rfl⟩) (.refl _ _) (Wo h s1)
   ·rw [←hf1];cases o.dst <;> rfl
theorem Zfq (hE:Og P E) (hsel:Region.noSelect ops=true) (hP:∀c a w,¬Q (.panic c) a w) {E1:Env} {nb:Nat} {hd lv:List Nat} :
  ∀(n:Nat) (listed:Array Bool) (t:Vv) (s:St) (a:Act) (w:World) (L:Nat→Lc),Qb P nt ops n listed=some t→SR n0 w0 L0 h nt s a w L→HS E1 hd w (full h s) L →
   Z4 E h nb lv hd t s=some s'→(∀a' w' L',SR n0 w0 L0 h nt s' a' w' L'→Q .normal a' w')→wpAnyH P .any ops Q (U6 E1 hd) n listed a w:=by
 intro n
 induction n with
 | zero =>
  intro listed t s a w L hc hs hh he hQ
  simp only [Qb] at hc
  split at hc
  case isFalse=>cases hc
  rename_i hr
  cases hc
  simp only [Z4] at he
  cases he
  exact wpAnyH_done (by simpa using hr) (hQ a w L (hs.kp lv)) 0
 | succ n ih =>
  intro listed t s a w L hc hs hh he hQ
  simp only [Qb] at hc
  split at hc
  ·rename_i hr
   cases hc
   simp only [Z4] at he
   cases he
   exact wpAnyH_done (by simpa using hr) (hQ a w L (hs.kp lv)) _
  rename_i hne
  split at hc
  ·rename_i i hfi
   split at hc
   case h_2=>cases hc
   rename_i ao t' hco hct
   cases hc
   obtain ⟨o,ho,hcc⟩:=cDrw_spec hco
   obtain ⟨htk,hfree⟩:=takeB_spec hco (List.find?_some hfi)
   simp only [Z4] at he
   split at he
   case h_2=>cases he
   rename_i s1 rs h1
   obtain ⟨_,h1⟩:=Zbu h1
   obtain ⟨cv,hy,hs1,hf⟩:=Ql (E1:=E1) (S:=U6 E1 hd) hs hcc h1 (fun w' _ hl=>by rw [Zbt hcc htk] at hl;cases hl)
   refine wpAnyH_take ho hsel hfree (by simpa using List.mem_of_find?_eq_some hfi) (fun c a w hq=>absurd hq (hP _ _ _)) hy hh.sees ?_
   exact ih _ t' s1 _ w L hct hs1 (by rw [hf];exact hh) he hQ
  ·refine wpAnyH_all rfl (by simpa using hne) ?_
   generalize Region.ready .any ops listed=l at hc
   have key:∀(l:List Nat) (t:Vv),Jd (fun i=>Qb P nt ops n (listed.setIfInBounds i true)) (H5 P nt ops) l=some t→Z4 E h nb lv hd t s=some s' →
     ∀i∈l,wpOp P ops Q i (fun a' w'=>U6 E1 hd w'∧wpAnyH P .any ops Q (U6 E1 hd) n (listed.setIfInBounds i true) a' w') a w:=by
    intro l
    have one:∀(i:Nat) (ao:Z0) (t:Vv) (s1:St) (ws:List Nat),H5 P nt ops i=some ao→Qb P nt ops n (listed.setIfInBounds i true)=some t →
      Wh E h nb hd s ao=some (s1,ws)→(ws.all fun i => !hd.contains i)=true→Z4 E h nb lv hd t s1=some s' →
      wpOp P ops Q i (fun a' w'=>U6 E1 hd w'∧wpAnyH P .any ops Q (U6 E1 hd) n (listed.setIfInBounds i true) a' w') a w:=by
     intro i ao t s1 ws hco hct h1 hws h2
     obtain ⟨o,ho,hcc⟩:=cDrw_spec hco
     refine Mt hE hs ho hcc h1 fun a' w' L' k1 k2 k3 k4 => ?_
     have hh':=hh.step k2 k3 k4 hws
     exact ⟨hh'.sees,ih _ t s1 a' w' L' hct k1 hh' h2 hQ⟩
    induction l with
    | nil=>intro t hc;cases hc
    | cons i r ihl =>
     intro t hc he
     cases r with
     | nil =>
      simp only [Jd] at hc
      split at hc
      case h_2=>cases hc
      rename_i ao t' hco hct
      cases hc
      simp only [Z4] at he
      split at he
      case h_2=>cases he
      rename_i s1 ws h1
      split at he
      case isFalse=>cases he
      rename_i hws
      intro j hj
      simp at hj
      subst hj
      exact one j ao t' s1 ws hco hct h1 hws he
     | cons i2 r2 =>
      simp only [Jd] at hc
      split at hc
      case h_2=>cases hc
      rename_i ao t' r' hco hct hcr
      cases hc
      simp only [Z4] at he
      split at he
      case h_2=>cases he
      rename_i s1 ws h1
      split at he
      case isFalse=>cases he
      rename_i hws
      split at he
      case h_2=>cases he
      rename_i x y hx hy
      split at he
      case isFalse=>cases he
      rename_i hxy
      subst hxy
      cases he
      intro j hj
      rcases List.mem_cons.1 hj with rfl | hj
      ·exact one j ao t' s1 ws hco hct h1 hws hx
      ·exact ihl r' (by simpa only [Jd] using hcr) hy j hj
   exact key l t hc he
theorem Zl1 {hm:Bool} (hE:Og P E) (hsel:Region.noSelect ops=true) (hP:∀c a w,¬Q (.panic c) a w) {E1:Env} {nb:Nat} {hd lv:List Nat} :
  ∀(n:Nat) (listed:Array Bool) (t:Vv) (s:St) (a:Act) (w:World) (L:Nat→Lc),Sc P nt ops hm n hm listed=some t→SR n0 w0 L0 h nt s a w L→HS E1 hd w (full h s) L →
   Z4 E h nb lv hd t s=some s'→(∀a' w' L',SR n0 w0 L0 h nt s' a' w' L'→Q .normal a' w')→Vq P ops Q (U6 E1 hd) n listed a w:=by
 intro n
 induction n with
 | zero =>
  intro listed t s a w L hc hs hh he hQ
  simp only [Sc] at hc
  split at hc
  case isFalse=>cases hc
  rename_i hr
  cases hc
  simp only [Z4] at he
  cases he
  exact Hh (by simpa using hr) (hQ a w L (hs.kp lv)) 0
 | succ n ih =>
  intro listed t s a w L hc hs hh he hQ
  simp only [Sc] at hc
  split at hc
  ·rename_i hr
   cases hc
   simp only [Z4] at he
   cases he
   exact Hh (by simpa using hr) (hQ a w L (hs.kp lv)) _
  rename_i hne
  split at hc
  ·rename_i hfr
   cases hq:Qb P nt ops (n+1) listed with
   | none=>rw [hq] at hc;cases hc
   | some t' =>
    rw [hq] at hc
    cases hc
    simp only [Z4] at he
    refine Nw _ _ _ _ hfr (wpAny_of_held _ _ _ _ (Zfq hE hsel hP (E1:=Zc w (full h s) L) (hd:=[]) (n+1) listed t' s a w L hq hs ?_ he hQ))
    exact ⟨.self _ _,.refl _,(fun i hi=>by cases hi),fun i b hi=>by cases hi⟩
  split at hc
  ·rename_i i hfi
   split at hc
   case h_2=>cases hc
   rename_i ao t' hco hct
   cases hc
   obtain ⟨o,ho,hcc⟩:=cDrw_spec hco
   obtain ⟨htk,hfree⟩:=takeB_spec hco (List.find?_some hfi)
   simp only [Z4] at he
   split at he
   case h_2=>cases he
   rename_i s1 rs h1
   obtain ⟨hok,h1⟩:=Zbu h1
   obtain ⟨cv,hy,hs1,hf⟩:=Zfp (E1:=E1) hs hh hcc hok h1
   refine Hg ho hsel hfree (by simpa using List.mem_of_find?_eq_some hfi) (fun c a w hq=>absurd hq (hP _ _ _)) hy hh.sees ?_
   exact ih _ t' s1 _ w L hct hs1 (by rw [hf];exact hh) he hQ
  ·refine Zfo rfl (by simpa using hne) ?_
   generalize Region.ready .any ops listed=l at hc
   have key:∀(l:List Nat) (t:Vv),Jd (fun i=>Sc P nt ops hm n hm (listed.setIfInBounds i true)) (H5 P nt ops) l=some t→Z4 E h nb lv hd t s=some s' →
     ∀i∈l,wpOp P ops Q i (fun a' w'=>U6 E1 hd w'∧Vq P ops Q (U6 E1 hd) n (listed.setIfInBounds i true) a' w') a w:=by
    intro l
    have one:∀(i:Nat) (ao:Z0) (t:Vv) (s1:St) (ws:List Nat),H5 P nt ops i=some ao→Sc P nt ops hm n hm (listed.setIfInBounds i true)=some t →
      Wh E h nb hd s ao=some (s1,ws)→(ws.all fun i => !hd.contains i)=true→Z4 E h nb lv hd t s1=some s' →
      wpOp P ops Q i (fun a' w'=>U6 E1 hd w'∧Vq P ops Q (U6 E1 hd) n (listed.setIfInBounds i true) a' w') a w:=by
     intro i ao t s1 ws hco hct h1 hws h2
     obtain ⟨o,ho,hcc⟩:=cDrw_spec hco
     refine Mt hE hs ho hcc h1 fun a' w' L' k1 k2 k3 k4 => ?_
     have hh':=hh.step k2 k3 k4 hws
     exact ⟨hh'.sees,ih _ t s1 a' w' L' hct k1 hh' h2 hQ⟩
    induction l with
    | nil=>intro t hc;cases hc
    | cons i r ihl =>
     intro t hc he
     cases r with
     | nil =>
      simp only [Jd] at hc
      split at hc
      case h_2=>cases hc
      rename_i ao t' hco hct
      cases hc
      simp only [Z4] at he
      split at he
      case h_2=>cases he
      rename_i s1 ws h1
      split at he
      case isFalse=>cases he
      rename_i hws
      intro j hj
      simp at hj
      subst hj
      exact one j ao t' s1 ws hco hct h1 hws he
     | cons i2 r2 =>
      simp only [Jd] at hc
      split at hc
      case h_2=>cases hc
      rename_i ao t' r' hco hct hcr
      cases hc
      simp only [Z4] at he
      split at he
      case h_2=>cases he
      rename_i s1 ws h1
      split at he
      case isFalse=>cases he
      rename_i hws
      split at he
      case h_2=>cases he
      rename_i x y hx hy
      split at he
      case isFalse=>cases he
      rename_i hxy
      subst hxy
      cases he
      intro j hj
      rcases List.mem_cons.1 hj with rfl | hj
      ·exact one j ao t' s1 ws hco hct h1 hws hx
      ·exact ihl r' (by simpa only [Jd] using hcr) hy j hj
   exact key l t hc he
theorem Zl2 {E1:Env} {hd hd':List Nat} (hsub:∀i,i∈hd→i∈hd') {w:World} (hw:U6 E1 hd' w):U6 E1 hd w :=
 fun b hb ho=>hw b hb (ho.imp id fun ⟨i,hi,hL⟩=>⟨i,hsub i hi,hL⟩)
theorem Zl3 {hm:Bool} (hE:Og P E) (hsel:Region.noSelect ops=true) (hP:∀c a w,¬Q (.panic c) a w) {nb:Nat} {lv:List Nat} (hQ:∀a' w' L',SR n0 w0 L0 h nt s' a' w' L'→Q .normal a' w') :
  ∀(n:Nat) (listed:Array Bool) (t:Vv) (s:St) (hd:List Nat) (a:Act) (w:World) (L:Nat→Lc),Sc P nt ops hm n true listed=some t→SR n0 w0 L0 h nt s a w L →
   Yo E h nb lv hd t s=some s'→∃hdF,(∀i,i∈hd→i∈hdF)∧Vq P ops Q (U6 (Zc w (full h s) L) hdF) n listed a w:=by
 intro n
 have stop:∀(n:Nat) (listed:Array Bool) (t:Vv) (s:St) (hd:List Nat) (a:Act) (w:World) (L:Nat→Lc),Sc P nt ops hm n hm listed=some t→SR n0 w0 L0 h nt s a w L →
   (if (hd.all (Zq (full h s)))=true then Z4 E h nb lv hd t s else none)=some s'→∃hdF,(∀i,i∈hd→i∈hdF)∧Vq P ops Q (U6 (Zc w (full h s) L) hdF) n listed a w:=by
  intro n listed t s hd a w L hc hs he
  split at he
  case isFalse=>cases he
  rename_i hl
  exact ⟨hd,fun _ h=>h,Zl1 hE hsel hP n listed t s a w L hc hs ⟨.self _ _,.refl _,fun i hi=>⟨Of.1 (List.all_eq_true.1 hl i hi),rfl⟩,fun i b hi hb=>by
   obtain ⟨x,hx,lx⟩:=Of.1 (List.all_eq_true.1 hl i hi)
   exact (hs.hr.blk i x hx).lt lx hb⟩ he hQ⟩
 induction n with
 | zero =>
  intro listed t s hd a w L hc hs he
  simp only [Sc] at hc
  split at hc
  case isFalse=>cases hc
  rename_i hr
  cases hc
  exact stop 0 listed .leaf s hd a w L (by simp only [Sc];rw [if_pos hr]) hs (by simpa only [Yo] using he)
 | succ n ih =>
  intro listed t s hd a w L hc hs he
  simp only [Sc] at hc
  split at hc
  ·rename_i hr
   cases hc
   exact stop (n+1) listed .leaf s hd a w L (by simp only [Sc];rw [if_pos hr]) hs (by simpa only [Yo] using he)
  rename_i hne
  split at hc
  ·rename_i hfr
   cases hq:Qb P nt ops (n+1) listed with
   | none=>rw [hq] at hc;cases hc
   | some t' =>
    rw [hq] at hc
    cases hc
    refine stop (n+1) listed (.free t') s hd a w L (by simp only [Sc];rw [if_neg hne,if_pos hfr,hq];rfl) hs (by simpa only [Yo] using he)
  rename_i hnfr
  split at hc
  ·rename_i i hfi
   split at hc
   case h_2=>cases hc
   rename_i ao t' hco hct
   cases hc
   obtain ⟨o,ho,hcc⟩:=cDrw_spec hco
   obtain ⟨htk,hfree⟩:=takeB_spec hco (List.find?_some hfi)
   simp only [Yo] at he
   split at he
   case h_2=>cases he
   rename_i s1 rs h1
   have hf0:full h s1=full h s∧True:=⟨by
    obtain ⟨cv,hy,hs1,hf⟩:=Ql (E1:=Zc w (full h s) L) (S:=fun _=>False) hs hcc h1 (fun w' hw' _=>hw'.elim)
    exact hf,trivial⟩
   obtain ⟨cv0,_,hs0,hf⟩:=Ql (E1:=Zc w (full h s) L) (S:=fun _=>False) hs hcc h1 (fun w' hw' _=>hw'.elim)
   have h2:=ih (listed.setIfInBounds i true) t' s1 (rs++hd)
   have:∃hdF,(∀i,i∈rs++hd→i∈hdF)∧∃cv,YieldsIf P ops (fun w'=>P8 o.op=true→U6 (Zc w (full h s) L) hdF w') o cv a∧Vq P ops Q (U6 (Zc w (full h s) L) hdF) n (listed.setIfInBounds i true) (a.put o.dst cv) w:=by
    obtain ⟨cv,hy,hs1,_⟩:=Ql (E1:=Zc w (full h s) L) (S:=fun w'=>P8 o.op=true→U6 (Zc w (full h s) L) rs w') hs hcc h1 (fun w' hw' hl=>hw' hl)
    obtain ⟨hdF,k1,k2⟩:=h2 (a.put o.dst cv) w L hct hs1 he
    rw [hf] at k2
    refine ⟨hdF,k1,cv,?_,k2⟩
    rcases hy with ⟨y1,y2⟩ | y
    ·exact .inl ⟨y1,fun w' hw'=>y2 w' (fun hl=>Zl2 (fun i hi=>k1 i (List.mem_append.2 (.inl hi))) (hw' hl))⟩
    ·exact .inr y
   obtain ⟨hdF,k1,cv,hy,k2⟩:=this
   refine ⟨hdF,fun i hi=>k1 i (List.mem_append.2 (.inr hi)),?_⟩
   exact Hg ho hsel hfree (by simpa using List.mem_of_find?_eq_some hfi) (fun c a w hq=>absurd hq (hP _ _ _)) hy (.self _ _) k2
  ·rename_i hno
   have hno':(Region.ready .any ops listed).find? (takeB P nt ops hm listed)=none:=by
    cases hm with
    | true=>exact hno
    | false =>
    rw [List.find?_eq_none] at hno ⊢
    intro i hi hb
    refine hno i hi ?_
    unfold takeB at hb ⊢
    split at hb
    ·simp only [Bool.and_eq_true] at hb ⊢
     refine ⟨?_,hb.2⟩
     have:=hb.1
     unfold Qk at this ⊢
     simp only [Bool.and_eq_true] at this ⊢
     refine ⟨this.1,?_⟩
     have h2:=this.2
     split at h2 <;> first | (cases h2;done) | rfl | (split <;> simp_all)
    ·cases hb
   refine stop (n+1) listed t s hd a w L (by simp only [Sc];rw [if_neg hne,if_neg hnfr,hno'];exact hc) hs ?_
   generalize Region.ready .any ops listed=l at hc
   cases t with
   | take o t =>
    exfalso
    cases l with
    | nil=>cases hc
    | cons i r=>cases r <;> (simp only [Jd] at hc;split at hc <;> cases hc)
   | hold ts t =>
    exfalso
    cases l with
    | nil=>cases hc
    | cons i r=>cases r <;> (simp only [Jd] at hc;split at hc <;> cases hc)
   | _=>simpa only [Yo] using he
theorem Zbv {hh:Bool} (hE:Og P E) (hm:P.follows .mixedOrders=true) (hsel:Region.noSelect ops=true) (hP:∀c a w,¬Q (.panic c) a w) {id nb:Nat} {lv:List Nat} {t:Vv}
  (hc:Sc P nt ops hh ops.size true (Array.replicate ops.size false)=some t) (hs:SR n0 w0 L0 h nt s a w L) {hd0:List Nat}
  (he:Yo E h (h.length+s.o.length) lv hd0 t (Yf s nb)=some s') (hQ:∀a' w' L',SR n0 w0 L0 h nt s' a' w' L'→Q .normal a' w') {ro:Option Nat} {fn:Nat} (hnd:Sx ops=true) (hG:∀a w,¬Q .outgrown a w):(Code.region id ops true).wpIn (Uv ro) fn P Q a w:=by
 have hs1:SR n0 w0 L0 h nt s a { w with drawn:=w.drawn+1 } L:=by
  obtain ⟨h1,h2⟩:=hs.hr.grow (Y1.drew w (w.drawn+1))
  exact ⟨h1,hs.tr.mono h2,hs.df.mono h2,hs.nle,hs.sz,hs.ext.trans h2,fun id hid hn=>hs.same id hid hn⟩
 have hs2:∀(nb:Nat) ,∃L',SR n0 w0 L0 h nt (Yf s nb) a { w with drawn:=w.drawn+1 } L':=by
  intro nb
  induction nb with
  | zero=>exact ⟨L,by simpa [Yf] using hs1⟩
  | succ nb ih =>
   obtain ⟨L',hs'⟩:=ih
   have hf:full h (Yf s (nb+1))=full h (Yf s nb)++[.pend]:=by
    simp [full,Yf,List.replicate_succ']
   obtain ⟨k1,k2,k3⟩:=hs'.hr.add_same (Y1.refl _) .pend ⟨none,0,0,false⟩ (by simp) (fun _=>by
    refine ⟨?_,?_,?_⟩
    ·show ((Zw L' _ _) _).st=false;rw [Zd]
    ·show ((Zw L' _ _) _).gen=0;rw [Zd]
    ·show ((Zw L' _ _) _).blk=none;rw [Zd]) []
   rw [←hf] at k1 k2
   refine ⟨_,k1,hs'.tr.mono k2,hs'.df.mono k2,hs'.nle,hs'.sz,hs'.ext.trans k2,fun i hi hn => ?_⟩
   obtain ⟨j1,j2⟩:=hs'.same i hi hn
   have hi':i<(full h (Yf s nb)).length:=by rw [Yw];show i<h.length+(Yf s nb).o.length;omega
   exact ⟨by rw [Yk _ _ _ (by omega)];exact j1,j2⟩
 obtain ⟨L1,hs3⟩:=hs2 nb
 obtain ⟨hdF,_,k⟩:=Zl3 hE hsel hP hQ ops.size _ t _ hd0 a _ L1 hc hs3 he
 exact wpIn_region_any hm (Ca hnd hG _ _ _ _ (Gu _ _ _ _ k))
end
def Zvi:AOp→Bool
 | .ycall .. => true
 | _=>false
def Aa (P:Program) (nt:Nat) (ops:Array Oper) (o:Oper):Option Z0 :=
 match Rx P nt ops none o with
 | some x=>if Zvi x.op=true then none else some x
 | none=>none
theorem Cc {P:Program} {nt:Nat} {ops:Array Oper} {o:Oper} {x:Z0} (h:Aa P nt ops o=some x):Rx P nt ops none o=some x∧∀f xs,x.op ≠ .ycall f xs:=by
 unfold Aa at h
 split at h
 ·rename_i y hy
  split at h
  ·cases h
  ·rename_i hn
   cases h
   exact ⟨hy,fun f xs e=>hn (by rw [e];rfl)⟩
 ·cases h
def Zqg (P:Program) (nt:Nat) (ops:Array Oper) (o:Oper):Option Z0 :=
 match o.op,o.guard with
 | .call c,none=>match c.callee with
  | .value (.tmp t)=>if (o.dst.all fun d=>decide (d<nt))=true then match Ww c.args.toList with
    | some xs=>some ⟨o.dst,none,.ycall (.t t) xs⟩
    | none=>none
   else none
  | _=>Aa P nt ops o
 | _,_=>Aa P nt ops o
def Zi3 (P:Program) (nt:Nat) (ops:Array Oper):List Oper→Option (List Z0)
 | []=>some []
 | o::r=>match Zqg P nt ops o,Zi3 P nt ops r with
  | some x,some y=>some (x::y)
  | _,_=>none
section
variable {n0:Nat} {P:Program} {w0 w w':World} {L0 L L':Nat→Lc} {h:List Blk} {nt:Nat} {s s':St} {a:Act}
theorem Zl4 {ro:Option Nat} {n m:Nat} {l:Nat} {f:FuncId} {tmps:Array Value} {assign body:Code} {R:Ending→World→Prop} (hR:RoundIn Fence.wide m P l f tmps assign body w R) :
  RoundIn (Uv ro) n P l f tmps assign body w R:=by
 have h0:RoundIn Fence.wide n P l f tmps assign body w R:=⟨trivial,fun c cs _=>hR.2 c cs (room_wide _)⟩
 cases ro with
 | none=>exact h0
 | some l=>exact h0
theorem Gv {c:Call} {o:Oper} {x:Operand} (ho:o.op = .call c) (hx:c.callee = .value x) {b:Nat} (hf:a.eval x = .func (.yield b) #[] #[]) (w:World) :
  (execOp a.eval o).run P w=(Instr.yield b (c.args.map a.eval)).run P w:=by
 simp [execOp,ho,resolve,hx,hf,Deferred.ofValue,invoke]
theorem Zqh (h:List Blk) (s:St):∀m,(Wc h s m).t=s.t:=fun m=>by
 induction m with
 | nil=>rfl
 | cons p r ih=>obtain ⟨i,b⟩:=p;simp only [Wc,Va,ih]
theorem fin_inv {h:List Blk} {s:St} {r:Res} {v:AV} {ws:List Nat} (hf:fin h [] s (some r)=some (v,s',ws)) :
  v=r.r∧ws=Y8 r.m∧full h s'=Zv (full h s) r.m++r.o∧s'.t=s.t∧Kp h s s' ws:=by
 obtain ⟨r,m,oo⟩:=r
 simp only [fin] at hf
 split at hf
 case isFalse=>cases hf
 cases hf
 have hfull:Zv (full h s) m++oo=full h ((Wc h s m).app oo):=by rw [Zbn,Oe]
 exact ⟨rfl,rfl,hfull.symm,Zqh h s m,⟨(Sb h s m).1,(Sb h s m).2,fun i hi hl=>by
   rw [←hfull,List.getElem?_append_left (by rw [Zr];exact hl),Xy _ _ _ hi]⟩⟩
theorem AR.inv_yv {E:Env} {id:Nat} {c:Value} (h:AR E (.yv id) c):∃b,c = .func (.yield b) #[] #[]∧id<E.n∧(E.L id).st=true∧(E.L id).blk=some b:=by
 cases h with
 | yv h1 h2 h3=>exact ⟨_,rfl,h1,h2,h3⟩
theorem Cd {E:FnS} (hE:Og P E) {ops:Array Oper} {Q:Exit→Act→World→Prop} {ro:Option Nat} {fn:Nat} (hnd:Sx ops=true) (hG:∀a w,¬Q .outgrown a w):∀(l:List Oper) (k:Nat) (al:List Z0) (s:St) (a:Act) (w:World) (L:Nat→Lc),(∀(j:Nat),l[j]? = ops[k+j]?) →
  Zi3 P nt ops l=some al→SR n0 w0 L0 h nt s a w L→Vb E h al s=some s'→(∀a' w' L',SR n0 w0 L0 h nt s' a' w' L'→Q .normal a' w')→wpOpsIn (Uv ro) fn P ops Q (List.range' k l.length) a w
 | [],k,al,s,a,w,L,hl,hc,hs,he,hQ=>by
  cases hc
  simp only [Vb] at he
  cases he
  exact hQ a w L hs
 | o::r,k,al,s,a,w,L,hl,hc,hs,he,hQ=>by
  simp only [Zi3] at hc
  split at hc
  case h_2=>cases hc
  rename_i x y hx hy
  cases hc
  simp only [Vb] at he
  obtain ⟨s1,h1,he⟩:=V8 he
  simp only [List.length_cons,List.range'_succ]
  rw [wpOpsIn_cons]
  have hi:ops[k]? = some o:=by have:=hl 0;simpa using this.symm
  have rest:∀a' w' L',SR n0 w0 L0 h nt s1 a' w' L'→wpOpsIn (Uv ro) fn P ops Q (List.range' (k+1) r.length) a' w':=fun a' w' L' k1 =>
   Cd hE hnd hG r (k+1) y s1 a' w' L' (fun j=>by have:=hl (j+1);simp at this;rw [this];congr 1;omega) hy k1 he hQ
  have plain:Rx P nt ops none o=some x→(∀f xs,x.op ≠ .ycall f xs)→wpOpIn (Uv ro) fn P ops Q k (wpOpsIn (Uv ro) fn P ops Q (List.range' (k+1) r.length)) a w:=by
   intro hx hny
   have h1':ob (Wh E h 0 [] s x) (fun p=>some p.1)=some s1:=by
    unfold Ud at h1
    split at h1
    ·rename_i f xs hop;exact absurd hop (hny f xs)
    ·exact h1
   obtain ⟨⟨s2,ws⟩,h2,h3⟩:=V8 h1'
   cases h3
   refine Gr hnd hG (K:=fun a' w'=>∃L',SR n0 w0 L0 h nt s2 a' w' L') (fun a' w' ⟨L',k⟩=>rest a' w' L' k) (Mt hE hs hi hx h2 fun a' w' L' k1 _ _ _=>⟨L',k1⟩)
  unfold Zqg at hx
  split at hx
  ·rename_i c hop hgd
   split at hx
   ·rename_i t hcal
    split at hx
    case isFalse=>cases hx
    rename_i hd
    split at hx
    case h_2=>cases hx
    rename_i xs hxs
    cases hx
    simp only [Ud] at h1
    obtain ⟨⟨v,s2⟩,hy1,hy2⟩:=V8 h1
    cases hy2
    unfold Mr at hy1
    split at hy1
    case h_2=>cases hy1
    rename_i id vs hfv hvs
    split at hy1
    case h_2=>cases hy1
    rename_i rd tt hB
    split at hy1
    case h_2=>cases hy1
    rename_i v' s'' ws hfin
    cases hy1
    cases hq:E 0 (.yk rd.key::(vs++[.yv id])) (full h s) with
    | none=>rw [hq] at hfin;cases hfin
    | some res =>
     rw [hq] at hfin
     obtain ⟨rfl,rfl,e3,e4,e5⟩:=fin_inv hfin
     have hcf:=Zl hs.tr (x := .tmp t) (X := .t t) rfl hfv
     obtain ⟨b,hfb,hid,hst,hb⟩:=hcf.inv_yv
     have hargs:=Zi1 hs.tr hxs hvs
     rw [Array.toArray_toList] at hargs
     obtain ⟨fn',tmps,assign,body,hrun,hR⟩:=(hE _ _ _ _ hq).2 rd.key _ rfl rfl vs id rfl w L _ b hs.hr hargs hb
     unfold wpOpIn
     simp only [hi]
     have hw:Region.wanted o (yielded ops a.tmps)=true:=by simp [Region.wanted,hgd]
     rw [if_pos hw]
     refine ⟨fun f _=>Ms ro f,?_⟩
     rw [Oper.semAt_eq _ _ _ (Gq hnd hi),Gv hop hcal hfb w,hrun,Oper.uponIn_round]
     refine ⟨(fun hm=>by rw [Oh] at hm;cases hm),Zl4 (hR.mono fun e w' ⟨cv,hev,L',k1,k2,k3,k4⟩ => ?_)⟩
     subst hev
     rw [←e3] at k1 k2 k3
     exact rest _ w' L' (hs.go hd k2 e4 k1 k3 k4 e5 (Wo h s))
   ·obtain ⟨q1,q2⟩:=Cc hx;exact plain q1 q2
  ·obtain ⟨q1,q2⟩:=Cc hx;exact plain q1 q2
end
end Go.AM
