/- Part of the proof: what the functions answer, part 3. No conditions. -/
import Derived.Test.YtndfdnlbljhlgaaGreatSPJ2
import Derived.Test.YtndfdnlbljhlgaaGreatSPJ1
import Derived.Test.YtndfdnlbljhlgaaGreatTabA
import Derived.Test.YtndfdnlbljhlgaaGreatAMJ3
set_option linter.defProp false
set_option linter.unusedSimpArgs false
set_option linter.unusedVariables false
set_option maxHeartbeats 2000000
set_option maxRecDepth 20000
namespace Go.Proofs.YtndfdnlbljhlgaaGreat
open Go Go.AM Go.Proofs
def Z1i (m:Zi) (w q:Int) (r:Zj):Prop:=(Xo m.l.l w).length≤3∧(X6 m w q r).l.l=Z5 m.l.l w q r∧(X6 m w q r).old.l=m.old.l
def Z1j (m:Zi) (w q y:Int) (r:Zj):Prop:=4≤(Xo m.l.l w).length∧(X6 m w q r).l.l=(Z5 m.l.l w q r).filter (fun x => !isP w y x)∧(X6 m w q r).old.l=Yy m.old.l w y ∧
 (∃x∈Z5 m.l.l w q r,isP w y x=true)∧∀x∈Z5 m.l.l w q r,x.who=w→y≤x.seq
theorem Cx {m:Zi} {w q:Int} (r:Zj) (h1:(Yn m.l.l m.old.l w q).2.1=false) (h2:(Yn m.l.l m.old.l w q).2.2=0) (hn:(m.l.l.map Uh).Nodup):Z1i m w q r∨∃y,Z1j m w q y r:=by
 have hk:=Zal h1 h2
 have hlen:(Yj (Z5 m.l.l w q r) w).length=(Xo m.l.l w).length+1:=by
  unfold Yj
  rw [W5,Nf,if_pos rfl];simp
 have hkn:=Eo r hk hn
 unfold Z1i Z1j X6
 rw [if_neg (by rw [h1,h2];simp)]
 by_cases h4:(Yj (Z5 m.l.l w q r) w).length≤4
 ·rw [if_pos h4]
  exact .inl ⟨by omega,rfl,rfl⟩
 ·rw [if_neg h4]
  have hne:Yj (Z5 m.l.l w q r) w ≠ []:=fun e=>by rw [e] at h4;simp at h4
  have hm:=El _ w hne
  refine .inr ⟨Te (Yj (Z5 m.l.l w q r) w),by omega,?_,rfl,hm,fun x hx hw=>Zhk hx hw⟩
  exact Hr w _ hkn hm
theorem S9 (l:List Zm) (w q a b:Int) (r:Zj):Wx (Z5 l w q r) a b=match Wx l a b with | some x=>some x | none=>if (a,b)=(w,q) then some ⟨w,q,r⟩ else none:=by
 unfold Z5
 rw [Rj,Rj,List.find?_append]
 cases hl:l.find? (isP a b) with
 | some x=>rfl
 | none =>
  simp only [Option.none_or]
  by_cases h:(a,b)=(w,q)
  ·rw [if_pos h]
   have:isP a b ⟨w,q,r⟩=true:=Tf.2 h.symm
   simp [this]
  ·rw [if_neg h]
   have:¬isP a b ⟨w,q,r⟩=true:=fun hp=>h (Tf.1 hp).symm
   simp [this]
theorem Ph (l:List Zm) (w y a b:Int):Wx (l.filter fun x => !isP w y x) a b=if (a,b)=(w,y) then none else Wx l a b:=by
 rw [Rj,Rj]
 induction l with
 | nil=>simp
 | cons x l ih =>
  rw [List.filter_cons]
  by_cases hx:isP w y x=true
  ·simp only [hx,Bool.not_true,Bool.false_eq_true,if_false]
   rw [ih]
   by_cases h:(a,b)=(w,y)
   ·rw [if_pos h,if_pos h]
   ·rw [if_neg h,if_neg h]
    have:¬isP a b x=true:=fun hp=>h (by rw [Tf] at hp hx;rw [←hp,hx])
    rw [List.find?_cons_of_neg this]
  ·have hb:isP w y x=false:=Bool.eq_false_iff.2 hx
   simp only [hb,Bool.not_false,if_true]
   by_cases hp:isP a b x=true
   ·have h:¬(a,b)=(w,y):=fun e=>hx (by rw [Tf] at hp ⊢;rw [hp,e])
    rw [if_neg h,List.find?_cons_of_pos hp,List.find?_cons_of_pos hp]
   ·rw [List.find?_cons_of_neg hp,List.find?_cons_of_neg hp]
    exact ih
theorem Pi {l:List Zm} {old:List Zn} {a:Int}:a∈Yb l old↔a∈l.map Zm.who∨a∈old.map Zn.who:=by
 rw [Zns,List.mem_map,List.mem_map]
structure Z3a (m k:Zi) (w q:Int) (r:Zj):Prop where
 other:∀a b,a ≠ w→Wx k.l.l a b=Wx m.l.l a b
 found:∀b x,Wx k.l.l w b=some x→(b=q∧x.rep=r)∨Wx m.l.l w b=some x
 lost:∀b,Wx k.l.l w b=none→(Wx m.l.l w b=none∧b ≠ q)∨(X8 k.old.l w=true∧b≤Yd k.old.l w)
 fo:∀a,a ≠ w→Yd k.old.l a=Yd m.old.l a∧X8 k.old.l a=X8 m.old.l a
 fw:X8 m.old.l w=true→X8 k.old.l w=true∧Yd m.old.l w≤Yd k.old.l w
 who:∀a,a∈Yb k.l.l k.old.l↔a=w∨a∈Yb m.l.l m.old.l
theorem Zd3 {m:Zi} {w q:Int} (r:Zj) (h1:(Yn m.l.l m.old.l w q).2.1=false) (h2:(Yn m.l.l m.old.l w q).2.2=0) (hn:(m.l.l.map Uh).Nodup):Z3a m (X6 m w q r) w q r:=by
 have hk:=Zal h1 h2
 rcases Cx r h1 h2 hn with ⟨e0,e1,e2⟩ | ⟨y,e0,e1,e2,e3,e4⟩
 ·refine ⟨fun a b ha => ?_,fun b x hx => ?_,fun b hb => ?_,fun a ha=>by rw [e2];exact ⟨rfl,rfl⟩,fun h=>by rw [e2];exact ⟨h,Int.le_refl _⟩,fun a => ?_⟩
  ·rw [e1,S9]
   cases Wx m.l.l a b with
   | some x=>rfl
   | none=>simp only;rw [if_neg fun e=>ha (Prod.mk.inj e).1]
  ·rw [e1,S9] at hx
   cases hq:Wx m.l.l w b with
   | some z=>rw [hq] at hx;exact .inr hx
   | none =>
    rw [hq] at hx
    simp only at hx
    split at hx
    ·rename_i he
     cases hx
     exact .inl ⟨(Prod.mk.inj he).2,rfl⟩
    ·cases hx
  ·rw [e1,S9] at hb
   cases hq:Wx m.l.l w b with
   | some z=>rw [hq] at hb;cases hb
   | none =>
    rw [hq] at hb
    simp only at hb
    split at hb
    ·cases hb
    ·rename_i he;exact .inl ⟨rfl,fun e=>he (by rw [e])⟩
  ·rw [Pi,Pi,e1,e2]
   unfold Z5
   rw [List.map_append,List.mem_append]
   simp only [List.map_cons,List.map_nil,List.mem_singleton]
   constructor
   ·rintro ((h | h) | h)
    ·exact .inr (.inl h)
    ·exact .inl h
    ·exact .inr (.inr h)
   ·rintro (h | h | h)
    ·exact .inl (.inr h)
    ·exact .inl (.inl h)
    ·exact .inr h
 ·have hfl:=fun a=>Kf w a y m.old.l
  have hwho:=Pg w y m.old.l
  have hhas:X8 (X6 m w q r).old.l w=true:=by
   rw [Sg,e2,hwho]
   split
   ·rename_i h;exact Sg.1 h
   ·simp
  have hfw:y≤Yd (X6 m w q r).old.l w:=by
   rw [e2,hfl,if_pos rfl];split <;> omega
  refine ⟨fun a b ha => ?_,fun b x hx => ?_,fun b hb => ?_,fun a ha => ?_,fun h => ?_,fun a => ?_⟩
  ·rw [e1,Ph,if_neg fun e=>ha (Prod.mk.inj e).1,S9]
   cases Wx m.l.l a b with
   | some x=>rfl
   | none=>simp only;rw [if_neg fun e=>ha (Prod.mk.inj e).1]
  ·rw [e1,Ph] at hx
   split at hx
   ·cases hx
   ·rw [S9] at hx
    cases hq:Wx m.l.l w b with
    | some z=>rw [hq] at hx;exact .inr hx
    | none =>
     rw [hq] at hx
     simp only at hx
     split at hx
     ·rename_i he
      cases hx
      exact .inl ⟨(Prod.mk.inj he).2,rfl⟩
     ·cases hx
  ·rw [e1,Ph] at hb
   split at hb
   ·rename_i he
    refine .inr ⟨hhas,?_⟩
    rw [(Prod.mk.inj he).2];exact hfw
   ·rw [S9] at hb
    cases hq:Wx m.l.l w b with
    | some z=>rw [hq] at hb;cases hb
    | none =>
     rw [hq] at hb
     simp only at hb
     split at hb
     ·cases hb
     ·rename_i he;exact .inl ⟨rfl,fun e=>he (by rw [e])⟩
  ·refine ⟨by rw [e2,hfl,if_neg ha],?_⟩
   rw [Bool.eq_iff_iff,Sg,Sg,e2,hwho]
   split
   ·rfl
   ·rw [List.mem_append,List.mem_singleton]
    exact ⟨fun h=>h.elim id fun e=>absurd e ha,.inl⟩
  ·refine ⟨hhas,?_⟩
   rw [e2,hfl,if_pos rfl,if_pos h];omega
  ·have hwin:w∈(Yy m.old.l w y).map Zn.who:=by
    have:=Sg.1 hhas
    rw [e2] at this;exact this
   rw [Pi,Pi,e1,e2]
   by_cases ha:a=w
   ·subst ha;simp [hwin]
   ·have hm1:a∈((Z5 m.l.l w q r).filter fun x => !isP w y x).map Zm.who↔a∈m.l.l.map Zm.who:=by
     unfold Z5
     rw [List.mem_map,List.mem_map]
     constructor
     ·rintro ⟨x,hx,rfl⟩
      rw [List.mem_filter,List.mem_append] at hx
      rcases hx.1 with h | h
      ·exact ⟨x,h,rfl⟩
      ·rw [List.mem_singleton] at h;subst h;exact absurd rfl ha
     ·rintro ⟨x,hx,rfl⟩
      refine ⟨x,?_,rfl⟩
      rw [List.mem_filter,List.mem_append]
      refine ⟨.inl hx,?_⟩
      have:isP w y x=false:=by unfold isP;simp [ha]
      simp [this]
    have hm2:a∈(Yy m.old.l w y).map Zn.who↔a∈m.old.l.map Zn.who:=by
     rw [hwho]
     split
     ·rfl
     ·rw [List.mem_append,List.mem_singleton]
      exact ⟨fun h=>h.elim id fun e=>absurd e ha,.inl⟩
    rw [hm1,hm2]
    exact ⟨.inr,fun h=>h.elim (fun e=>absurd e ha) id⟩
theorem Zd4 (l:List Zm) (w y w':Int):Xo (l.filter fun x => !isP w y x) w'=if w'=w then (Xo l w').filter (fun s=>decide (s ≠ y)) else Xo l w':=by
 unfold Xo
 rw [List.filter_filter]
 by_cases h:w'=w
 ·subst h
  rw [if_pos rfl,List.filter_map,List.filter_filter]
  congr 1
  apply List.filter_congr
  intro x _
  unfold isP
  by_cases hx:x.who=w' <;> simp [hx]
 ·rw [if_neg h]
  congr 1
  apply List.filter_congr
  intro x _
  unfold isP
  by_cases hx:x.who=w'
  ·have:¬x.who=w:=fun e=>h (by rw [←hx,e])
   simp [hx,h]
  ·simp [hx]
theorem Zhl {m:Zi} {w q:Int} (r:Zj) (h1:(Yn m.l.l m.old.l w q).2.1=false) (h2:(Yn m.l.l m.old.l w q).2.2=0) (hm:Zd2 m.l.l m.old.l):Zd2 (X6 m w q r).l.l (X6 m w q r).old.l:=by
 have hk:=Zal h1 h2
 have hko:=Zd3 r h1 h2 hm.keys
 have hkn:=Eo r hk hm.keys
 have hwhos:(Yb (X6 m w q r).l.l (X6 m w q r).old.l).length≤8:=by
  by_cases hin:w∈Yb m.l.l m.old.l
  ·have:=Qe (Hq (X6 m w q r).l.l (X6 m w q r).old.l) (b:=Yb m.l.l m.old.l) (fun a ha=>((hko.who a).1 ha).elim (fun e=>e▸hin) id)
   have:=hm.whos;omega
  ·have:=Qe (Hq (X6 m w q r).l.l (X6 m w q r).old.l) (b:=w::Yb m.l.l m.old.l) (fun a ha=>((hko.who a).1 ha).elim (fun e=>by rw [e];simp) fun h=>List.mem_cons_of_mem _ h)
   rw [List.length_cons] at this
   have h8:¬8≤(Yb m.l.l m.old.l).length:=fun h=>hk.room ⟨h,hin⟩
   omega
 have hnew:∀f∈m.old.l,f.who=w→f.seq<q:=fun f hf hw=>by
  have:=Mc hm.fl hf
  rw [hw] at this
  have:=hk.fl;omega
 have habove:∀x∈Z5 m.l.l w q r,∀f∈m.old.l,f.who=x.who→f.seq<x.seq:=by
  intro x hx f hf hw
  unfold Z5 at hx
  rcases List.mem_append.1 hx with hx | hx
  ·exact hm.above x hx f hf hw
  ·rw [List.mem_singleton] at hx;subst hx;exact hnew f hf hw
 rcases Cx r h1 h2 hm.keys with ⟨e0,e1,e2⟩ | ⟨y,e0,e1,e2,e3,e4⟩
 ·refine ⟨by rw [e2];exact hm.fl,by rw [e1];exact hkn,by rw [e1,e2];exact habove,fun w' => ?_,hwhos⟩
  rw [e1,Nf]
  split
  ·rename_i h;subst h;simp;omega
  ·exact hm.cnt w'
 ·refine ⟨?_,?_,?_,fun w' => ?_,hwhos⟩
  ·rw [e2,Pg]
   split
   ·exact hm.fl
   ·rename_i h
    rw [List.nodup_append]
    refine ⟨hm.fl,by simp,fun a ha b hb => ?_⟩
    rw [List.mem_singleton] at hb
    subst hb
    intro e;subst e
    exact h (Sg.2 ha)
  ·rw [e1]
   exact (List.Sublist.map Uh List.filter_sublist).nodup hkn
  ·rw [e1,e2]
   intro x hx f hf hw
   rw [List.mem_filter] at hx
   obtain ⟨hx1,hx2⟩:=hx
   rcases En hf with hf | ⟨g1,g2,g3 | ⟨g,g4,g5,g6⟩⟩
   ·exact habove x hx1 f hf hw
   ·have hxy:x.seq ≠ y:=fun e=>by
     have:isP w y x=true:=Tf.2 (by unfold Uh;rw [←hw,g1,e])
     rw [this] at hx2;simp at hx2
    have:=e4 x hx1 (by rw [←hw,g1])
    omega
   ·have:=habove x hx1 g g4 (by rw [g5,←hw,g1])
    omega
  ·rw [e1,Zd4]
   split
   ·rename_i h
    subst h
    have hy:y∈Xo (Z5 m.l.l w' q r) w':=by
     obtain ⟨x,hx,hp⟩:=e3
     have:=Tf.1 hp
     unfold Uh at this
     unfold Xo
     refine List.mem_map.2 ⟨x,List.mem_filter.2 ⟨hx,by simpa using (Prod.mk.inj this).1⟩,(Prod.mk.inj this).2⟩
    have hl:((Xo (Z5 m.l.l w' q r) w').filter fun s=>decide (s ≠ y)).length<(Xo (Z5 m.l.l w' q r) w').length:=by
     rw [List.length_filter_lt_length_iff_exists]
     exact ⟨y,hy,by simp⟩
    have hl2:(Xo (Z5 m.l.l w' q r) w').length=(Xo m.l.l w').length+1:=by rw [Nf,if_pos rfl];simp
    have:=hm.cnt w'
    omega
   ·rename_i h
    rw [Nf,if_neg h];exact hm.cnt w'
theorem Uy {α β:Type} (f:β→α→β):∀(l:List α) (k:Nat) (b:β),Ym (γ:=Unit) (fun k (x:α) b => .inl (f b x)) k l b = .inl (l.foldl f b):=by
 intro l
 induction l with
 | nil=>intro k b;simp [Ym]
 | cons x l ih=>intro k b;simp only [Ym,ih];simp
theorem Z3b (s:Sl KV) (x:KV) (hl:s.l.length≤1000000) (H:List Blk):EvF tab 114 [.g (KVs.g s),A x.c] H=some ⟨.g (KVs.g (.of (Un s.l x))),[],[]⟩:=by
 have hw:=Zt (E:=EvF tab) (h:=H) (c:=Au) (lv:=[3,5,6,9,10,11]) (l:=s.l) (β:=List KV×Bool) (γ:=Unit) (fun k b=>b.1.length≤2*k) (fun k y b => .inl (Jo x b y))
  (fun k b o=>⟨[(3,.ptr H.length 0),(5,.ms (H.length+2) (k+1) 6 0 b.1.length),(6,B b.2),(9,.g (KVs.g s)),(10,I s.l.length),(11,I k)],[],.cells (x.c.map .g) :: .rows 6 1 [] :: .rows 6 (k+1) (b.1.map KV.c)::o⟩)
  (fun b o=>(.exit 0,⟨[(3,.ptr H.length 0),(5,.ms (H.length+2) (s.l.length+1) 6 0 b.1.length),(6,B b.2),(9,.g (KVs.g s)),(10,I s.l.length),(11,I s.l.length),(12,B false)],[],.cells (x.c.map .g) :: .rows 6 1 [] :: .rows 6 (s.l.length+1) (b.1.map KV.c)::o⟩))
  (fun _ o=>(.ret,⟨[],[],o⟩)) (by simp) (by simp) (fun k y b o hk hx hy hi => ?_) (fun b o _=>by delta Au;cases s <;> simp -implicitDefEqProofs) ([],false) [] (by simp)
 ·obtain ⟨o',hw⟩:=hw
  rw [Uy] at hw
  have e0:((0:Nat):Int)=0:=rfl
  simp only [e0,Wj,List.length_nil,List.map_nil,Nat.zero_add] at hw
  have hf:=Zdj x s.l []
  have hlen:=F9 x s.l
  have hne:=Zzc s.l x
  rw [List.nil_append] at hf
  refine Zb Yaj (by simp) ?_
  obtain ⟨rr,hr⟩:∃r,s.l.foldl (Jo x) ([],false)=r:=⟨_,rfl⟩
  rw [hr] at hw hf
  obtain ⟨r,b⟩:=rr
  simp only at hf hw
  have e3:List.take r.length (List.map KV.c r)=List.map KV.c r:=List.take_of_length_le (by simp)
  simp only [KV.c,List.map_cons,List.map_nil] at hw
  cases b
  ·simp only [Bool.false_eq_true,if_false] at hf
   rw [←hf] at hlen ⊢
   simp only [List.length_append,List.length_cons,List.length_nil] at hlen
   have e4:List.take (r.length+1) (List.map KV.c r++[KV.c x])=List.map KV.c r++[KV.c x]:=List.take_of_length_le (by simp)
   simp only [KV.c,List.map_append,List.map_cons,List.map_nil] at e3 e4 ⊢
   simp -implicitDefEqProofs [A,KV.c,hw,Zx,Yh,room,Nat.not_succ_le_self,show r.length+1≤140737488355328 by omega,show (r.length+1)*64≤140737488355328 by omega,e3,e4]
  ·simp only [if_true] at hf
   subst hf
   have hn:¬s.l=[]:=by
    intro h0
    rw [h0] at hr;simp at hr
   simp -implicitDefEqProofs [A,KV.c,hw,e3,hn]
 ·have e2:=Zh hk (by omega)
  delta Au
  cases s with
  | nil=>simp at hk
  | of l =>
   simp only [Sl.l_of] at hk hx hy hl ⊢
   obtain ⟨r,bb⟩:=b
   simp only at hi ⊢
   have e3:List.take r.length (List.map KV.c r)=List.map KV.c r:=List.take_of_length_le (by simp)
   unfold Jo
   simp only
   cases bb
   ·cases h1:Op.bytesLess y.key x.key
    ·by_cases h2:y.key=x.key
     ·refine ⟨by simp [h2,W7];omega,o++[.cells (y.c.map .g)],?_⟩
      simp -implicitDefEqProofs [hk,hy,KV.c,h1,h2,W7,e2,Yh,room,Nat.not_succ_le_self,Zx,show r.length+1≤140737488355328 by omega,show (r.length+1)*64≤140737488355328 by omega,e3]
     ·refine ⟨by simp [h2];omega,o++[.cells (y.c.map .g)],?_⟩
      simp -implicitDefEqProofs [hk,hy,KV.c,h1,h2,e2,Yh,room,Nat.not_succ_le_self,Zx,show r.length+2≤140737488355328 by omega,show (r.length+2)*64≤140737488355328 by omega,show ¬r.length+2≤r.length by omega,e3]
    ·refine ⟨by simp;omega,o++[.cells (y.c.map .g)],?_⟩
     simp -implicitDefEqProofs [hk,hy,KV.c,h1,e2,Yh,room,Nat.not_succ_le_self,Zx,show r.length+1≤140737488355328 by omega,show (r.length+1)*64≤140737488355328 by omega,e3]
   ·refine ⟨by simp;omega,o++[.cells (y.c.map .g)],?_⟩
    simp -implicitDefEqProofs [hk,hy,KV.c,e2,Yh,room,Nat.not_succ_le_self,Zx,show r.length+1≤140737488355328 by omega,show (r.length+1)*64≤140737488355328 by omega,e3]
theorem Zd5 (s:Sl KV) (hl:s.l.length≤1000000) (H:List Blk):EvF tab 112 [.g (KVs.g s)] H=some ⟨.g (KVs.g s),[],[]⟩:=by
 refine Zb Yah (by simp) ?_
 cases s with
 | nil=>simp -implicitDefEqProofs
 | of l =>
  simp only [Sl.l_of] at hl
  cases l with
  | nil=>simp -implicitDefEqProofs [Yh]
  | cons y l =>
   simp only [List.length_cons] at hl
   have e3:List.take (l.length+1) (KV.c y::List.map KV.c l)=KV.c y::List.map KV.c l:=List.take_of_length_le (by simp)
   simp -implicitDefEqProofs [Yh,room,show l.length+1≤140737488355328 by omega,show (l.length+1)*64≤140737488355328 by omega,e3]
theorem Zzn:∃m msg m' msg',tab.T 165=some (Sy 6 64 196 m msg)∧tab.T 196=some (M4 6 64 [.str [],.str [],.int .i64 0,.int .i64 0,.int .i64 0,.int .i64 0] m' msg') :=
 ⟨_,_,_,_,Ybs,Yci⟩
theorem Zhm (a b:Sl KV) (hn:a.l.length+b.l.length≤1000000) (H:List Blk) :
  EvF tab 165 [.g (.sl 1 [[KVs.g a],[KVs.g b]])] H=some ⟨.g (Fp 6 KV.c (a.l++b.l)),[],[]⟩:=by
 obtain ⟨m,msg,m',msg',h1,h2⟩:=Zzn
 exact Qo h1 h2 a b (by omega) (by omega) H
theorem Zzo (s:Sl KV) (k:Bs) (hl:s.l.length≤1000000) (H:List Blk):EvF tab 113 [.g (KVs.g s),T k] H=some ⟨.g (KVs.g (Zdk s k)),[],[]⟩:=by
 refine Zb Yai (by simp) ?_
 have hi:=fun H=>Z1g k H
 have hx:=fun (b:Blk)=>Zr2 s k (by omega) (H:=H++[b,.cells [T k]]) (p:=H.length+1) (by rw [List.getElem?_append_right (by omega)];simp)
 have hc:=fun H=>Zd5 s hl H
 unfold Zdk
 unfold Zr1 at hx
 rcases hq:Vl k 0 s.l with _ | i <;> simp only [hq] at hx ⊢
 ·simp -implicitDefEqProofs [hi,hx,hc]
 ·obtain ⟨h1,h2⟩:=Jm hq
  cases s with
  | nil=>simp at h1
  | of l =>
   simp only [Sl.l_of,KVs.g,Sl.g_of] at h1 hx hl ⊢
   have cc:=fun H=>Zhm (.of (l.take i)) (.of (l.drop (i+1))) (by simp;omega) H
   simp only [KVs.g,Sl.g_of,Sl.l_of,Na,List.map_take,List.map_drop] at cc
   have e1:IntKind.i64.wrap ((i:Int)+1)=(i:Int)+1:=wrap_i64 (by omega) (by omega)
   have e2:((i:Int)+1).toNat=i+1:=by omega
   have e3:List.take l.length (List.map KV.c l)=List.map KV.c l:=List.take_of_length_le (by simp)
   simp -implicitDefEqProofs [hi,hx,cc,Xd,bnd,Y2,e1,e2,e3,show i≤l.length by omega,show i+1≤l.length by omega,show (i:Int)≤l.length by omega,show (i:Int)+1≤l.length by omega,show (0:Int)≤(i:Int)+1 by omega,Zx]
def Oy (k:Bs) (b:List KV×Bool) (y:KV):List KV×Bool:=if b.2=false∧y.key=k then (b.1,true) else (b.1++[y],b.2)
theorem Ep (k:Bs):∀(l r:List KV),l.foldl (Oy k) (r,true)=(r++l,true)
 | [],r=>by simp
 | y::l,r=>by
  rw [List.foldl_cons,show Oy k (r,true) y=(r++[y],true) by simp [Oy],Ep k l]
  simp
theorem Cy (k:Bs):∀(l r:List KV),(l.foldl (Oy k) (r,false)).1=r++W8 l k
 | [],r=>by simp [W8]
 | y::l,r=>by
  rw [List.foldl_cons]
  by_cases h:y.key=k
  ·rw [show Oy k (r,false) y=(r,true) by simp [Oy,h],Ep]
   simp [W8,h]
  ·rw [show Oy k (r,false) y=(r++[y],false) by simp [Oy,h],Cy k l]
   simp [W8,h]
theorem Zss (s:Sl KV) (k:Bs) (hl:s.l.length≤1000000) (H:List Blk):EvF tab 86 [.g (KVs.g s),T k] H=some ⟨.g (KVs.g (.of (W8 s.l k))),[],[]⟩:=by
 have hw:=Zt (E:=EvF tab) (h:=H) (c:=Zki) (lv:=[0,1,5,6,7]) (l:=s.l) (β:=List KV×Bool) (γ:=Unit) (fun i b=>b.1.length≤i) (fun i y b => .inl (Oy k b y))
  (fun i b o=>⟨[(0,.g (KVs.g s)),(1,T k),(5,.ms (H.length+1) (b.1.length+2) 6 0 b.1.length),(6,B b.2),(7,I i)],[],.rows 6 1 [] :: .rows 6 (b.1.length+2) (b.1.map KV.c)::o⟩)
  (fun b o=>(.exit 0,⟨[(0,.g (KVs.g s)),(1,T k),(5,.ms (H.length+1) (b.1.length+2) 6 0 b.1.length),(6,B b.2),(7,I s.l.length),(12,B false)],[],.rows 6 1 [] :: .rows 6 (b.1.length+2) (b.1.map KV.c)::o⟩))
  (fun _ o=>(.ret,⟨[],[],o⟩)) (by simp) (by simp) (fun i y b o hk hx hy hi => ?_) (fun b o _=>by delta Zki;cases s <;> simp -implicitDefEqProofs) ([],false) [] (by simp)
 ·obtain ⟨o',hw⟩:=hw
  rw [Uy] at hw
  have e0:((0:Nat):Int)=0:=rfl
  simp only [e0,Wj,List.length_nil,List.map_nil,Nat.zero_add] at hw
  have hf:=Cy k s.l []
  rw [List.nil_append] at hf
  refine Zb t86 (by simp) ?_
  rw [←hf]
  generalize s.l.foldl (Oy k) ([],false)=rr at hw ⊢
  obtain ⟨r,b⟩:=rr
  have e3:List.take r.length (List.map KV.c r)=List.map KV.c r:=List.take_of_length_le (by simp)
  simp -implicitDefEqProofs [hw,e3]
 ·have e2:=Zh hk (by omega)
  delta Zki
  cases s with
  | nil=>simp at hk
  | of l =>
   simp only [Sl.l_of] at hk hx hy hl ⊢
   obtain ⟨r,bb⟩:=b
   simp only at hi ⊢
   have e3:List.take r.length (List.map KV.c r)=List.map KV.c r:=List.take_of_length_le (by simp)
   unfold Oy
   simp only
   cases bb
   ·by_cases h2:y.key=k
    ·refine ⟨by simp [h2];omega,o,?_⟩
     simp -implicitDefEqProofs [hk,hy,KV.c,h2,e2]
    ·refine ⟨by simp [h2];omega,o,?_⟩
     simp -implicitDefEqProofs [hk,hy,KV.c,h2,e2,Yh,room,Nat.not_succ_le_self,Zx,show r.length+1≤140737488355328 by omega,show (r.length+1)*64≤140737488355328 by omega,e3]
   ·refine ⟨by simp;omega,o,?_⟩
    simp -implicitDefEqProofs [hk,hy,KV.c,e2,Yh,room,Nat.not_succ_le_self,Zx,show r.length+1≤140737488355328 by omega,show (r.length+1)*64≤140737488355328 by omega,e3]
def Pj (x:KV):Nat→List KV→Nat
 | i,[]=>i
 | i,y::l=>if Op.bytesLess y.key x.key=true then Pj x (i+1) l else i
theorem Zam (x:KV):∀(l:List KV) i,i≤Pj x i l∧Pj x i l≤i+l.length
 | [],i=>by simp [Pj]
 | y::l,i=>by
  have:=Zam x l (i+1)
  unfold Pj
  split
  ·simp only [List.length_cons];omega
  ·simp
theorem Zd6 (x:KV):∀(l:List KV) i,Un l x=l.take (Pj x i l - i)++(x::(match l.drop (Pj x i l - i) with | []=>[] | y::r=>if y.key=x.key then r else y::r))
 | [],i=>by simp [Un,Pj]
 | y::l,i=>by
  unfold Un Pj
  by_cases h:Op.bytesLess y.key x.key=true
  ·simp only [if_pos h]
   have h1:=Zd6 x l (i+1)
   have h2:=Zam x l (i+1)
   have e:Pj x (i+1) l - i=(Pj x (i+1) l - (i+1))+1:=by omega
   rw [h1,e];rfl
  ·simp only [if_neg h,Nat.sub_self,List.take_zero,List.drop_zero,List.nil_append]
   split <;> rfl
theorem Zst (x:KV):∀(l:List KV) i,Ym (fun i (y:KV) (_:Unit)=>if Op.bytesLess y.key x.key=true then .inl () else .inr i) i l ()=if Pj x i l=i+l.length then .inl () else (.inr (Pj x i l):Unit⊕Nat):=by
 intro l
 induction l with
 | nil=>intro i;simp [Ym,Pj]
 | cons y l ih =>
  intro i
  unfold Ym Pj
  by_cases h:Op.bytesLess y.key x.key=true
  ·simp only [if_pos h]
   rw [ih]
   simp only [List.length_cons]
   rw [show i+1+l.length=i+(l.length+1) by omega]
  ·simp only [if_neg h]
   rw [if_neg (by simp only [List.length_cons];omega)]
theorem Znx (s:Sl KV) (x:KV) (hl:s.l.length≤1000000) (H:List Blk) :
  Ya (EvF tab) H Zdg [0,3,5] ⟨[(0,.g (KVs.g s)),(3,.ptr H.length 0),(5,I 0)],[],[.cells (x.c.map .g),.rows 6 1 []]⟩ =
   some (.exit 0,⟨[(0,.g (KVs.g s)),(3,.ptr H.length 0),(5,I (Pj x 0 s.l)),(20,B false)],[],[.cells (x.c.map .g),.rows 6 1 []]⟩):=by
 have hw:=Zt (E:=EvF tab) (h:=H) (c:=Zdg) (lv:=[0,3,5]) (l:=s.l) (β:=Unit) (γ:=Nat) (fun _ _=>True) (fun i (y:KV) _=>if Op.bytesLess y.key x.key=true then .inl () else .inr i)
  (fun i _ o=>⟨[(0,.g (KVs.g s)),(3,.ptr H.length 0),(5,I i)],[],[.cells (x.c.map .g),.rows 6 1 []]⟩) (fun _ o=>(.exit 0,⟨[(0,.g (KVs.g s)),(3,.ptr H.length 0),(5,I s.l.length),(20,B false)],[],[.cells (x.c.map .g),.rows 6 1 []]⟩))
  (fun i o=>(.exit 0,⟨[(0,.g (KVs.g s)),(3,.ptr H.length 0),(5,I i),(20,B false)],[],[.cells (x.c.map .g),.rows 6 1 []]⟩)) (by simp) (by simp) (fun i y b o hk hx hy _ => ?_) (fun _ o _=>by delta Zdg;cases s <;> simp -implicitDefEqProofs) () [] trivial
 ·obtain ⟨o',hw⟩:=hw
  rw [Zst] at hw
  have e0:((0:Nat):Int)=0:=rfl
  simp only [e0,Nat.zero_add] at hw
  rw [hw]
  by_cases h:Pj x 0 s.l=s.l.length
  ·rw [if_pos h,h];rfl
  ·rw [if_neg h];rfl
 ·have e2:=Zh hk (by omega)
  delta Zdg
  cases s with
  | nil=>simp at hk
  | of l =>
   simp only [Sl.l_of] at hk hx hy hl ⊢
   cases h:Op.bytesLess y.key x.key
   ·simp only [Bool.false_eq_true,if_false]
    refine ⟨o,?_⟩
    simp -implicitDefEqProofs [hk,hy,KV.c,h]
   ·simp only [if_true]
    refine ⟨trivial,o,?_⟩
    simp -implicitDefEqProofs [hk,hy,KV.c,h,e2]
theorem Er {sz bytes g:Nat} (xs ys:List (List GV)) (h1:xs.length+ys.length≤140737488355328) (h2:(xs.length+ys.length)*bytes≤140737488355328) (b0 b1:Blk) (H:List Blk) :
  ∃g' W,g≤g'∧∀t m,Yh H ⟨t,m,[b0,b1,.rows sz g xs]⟩ sz bytes (.ms (H.length+2) g sz 0 xs.length) ys=some (.ms (H.length+2) g' sz 0 (xs.length+ys.length),⟨t,m,[b0,b1,.rows sz g' (xs++ys)]⟩,W):=by
 by_cases hne:ys=[]
 ·subst hne
  exact ⟨g,[],Nat.le_refl _,fun t m=>by simp -implicitDefEqProofs [Yh]⟩
 ·exact ⟨g+1,[H.length+2],by omega,fun t m=>Or hne h1 h2 H t m [b0,b1]⟩
theorem Zzp (s:Sl KV) (x:KV) (hl:s.l.length≤1000000) (H:List Blk):EvF tab 87 [.g (KVs.g s),A x.c] H=some ⟨.g (KVs.g (.of (Un s.l x))),[],[]⟩:=by
 have hw:=Znx s x hl H
 have hq:=Zd6 x s.l 0
 have hle:=Zam x s.l 0
 rw [Nat.sub_zero] at hq
 refine Zb t87 (by simp) ?_
 cases s with
 | nil =>
  simp only [KVs.g,Sl.g_nil,Sl.l_nil,Pj,KV.c,List.map_cons,List.map_nil,show ((0:Nat):Int)=0 from rfl,Un] at hw hq ⊢
  simp -implicitDefEqProofs [A,KV.c,hw,Yh,room,Zx,Xd,bnd,Y2]
 | of l =>
  simp only [KVs.g,Sl.g_of,Sl.l_of,Nat.zero_add] at hw hq hl hle ⊢
  generalize Pj x 0 l=c at hw hq hle
  have hcl:c≤l.length:=hle.2
  obtain ⟨u,hu⟩:∃u,l.take c=u:=⟨_,rfl⟩
  obtain ⟨v,hv⟩:∃v,l.drop c=v:=⟨_,rfl⟩
  have hul:u.length=c:=by rw [←hu];simp;omega
  have hlen:l.length=c+v.length:=by rw [←hv,List.length_drop];omega
  rw [hv,hu] at hq
  have e1:IntKind.i64.wrap ((c:Int)+1)=(c:Int)+1:=wrap_i64 (by omega) (by omega)
  have e2:((c:Int)+1).toNat=c+1:=by omega
  have e3:List.take c (List.map KV.c l)=List.map KV.c u:=by rw [←List.map_take,hu]
  have e4:List.take l.length (List.map KV.c l)=List.map KV.c l:=List.take_of_length_le (by simp)
  have e5:List.drop c (List.map KV.c l)=List.map KV.c v:=by rw [←List.map_drop,hv]
  have e6:List.drop (c+1) (List.map KV.c l)=List.map KV.c (v.drop 1):=by rw [←List.map_drop,←List.drop_drop,hv]
  have c1:(c:Int)≤(l.length:Int):=by omega
  have c2:(0:Int)≤(c:Int):=by omega
  have c3:(0:Int)≤(c:Int)+1:=by omega
  obtain ⟨w,hwv⟩:∃w,(match v with | []=>[] | y::r=>if y.key=x.key then r else y::r)=w:=⟨_,rfl⟩
  have hwl:w.length≤v.length:=by rw [←hwv];split;exact Nat.le_refl _;split <;> simp
  rw [hwv] at hq
  rw [hq]
  obtain ⟨g1,W1,k1,ap1⟩:=Er (sz:=6) (bytes:=64) (g:=2) [] (u.map KV.c) (by simp;omega) (by simp;omega) (.cells (x.c.map .g)) (.rows 6 1 []) H
  obtain ⟨g2,W2,k2,ap2⟩:=Er (sz:=6) (bytes:=64) (g:=g1) (u.map KV.c) [x.c] (by simp;omega) (by simp;omega) (.cells (x.c.map .g)) (.rows 6 1 []) H
  obtain ⟨g3,W3,k3,ap3⟩:=Er (sz:=6) (bytes:=64) (g:=g2) (u.map KV.c++[x.c]) (w.map KV.c) (by simp;omega) (by simp;omega) (.cells (x.c.map .g)) (.rows 6 1 []) H
  simp only [List.length_nil,List.nil_append,Nat.zero_add,List.length_map,List.length_append,List.length_cons,List.append_assoc,List.cons_append,hul] at ap1 ap2 ap3
  have hz:List.take (c+1+w.length) (List.map KV.c u++KV.c x::List.map KV.c w)=List.map KV.c u++KV.c x::List.map KV.c w:=List.take_of_length_le (by simp;omega)
  have hg3:¬g3=1:=by omega
  simp only [KV.c,List.map_cons,List.map_nil] at hw
  cases v with
  | nil =>
   have hc:c=l.length:=by simpa using hlen.symm
   have hge:¬(c:Int)<(l.length:Int):=by omega
   simp only at hwv
   subst hwv
   simp only [List.map_nil,List.length_nil,Nat.add_zero,KV.c,List.map_cons] at ap1 ap2 ap3 hz e3 e5
   subst hc
   have e7:List.drop l.length (List.map KV.c u)=[]:=List.drop_eq_nil_of_le (by simp;omega)
   simp -implicitDefEqProofs [A,KV.c,hw,e7,ap1,ap2,ap3,hz,hg3,Zx,Xd,bnd,Y2,e1,e2,e3,e4,e5,c1,c2,hge]
   omega
  | cons y r =>
   have hlt:c<l.length:=by rw [hlen];simp
   have hgy:l[c]? = some y:=by
    have:=List.getElem?_drop (xs:=l) (i:=c) (j:=0)
    rw [hv] at this;simpa using this.symm
   have hgy2:l[c]=y:=by have:=List.getElem?_eq_getElem hlt;rw [hgy] at this;exact (Option.some.inj this).symm
   have hltI:(c:Int)<(l.length:Int):=by omega
   have hltJ:(c:Int)+1≤(l.length:Int):=by omega
   simp only [List.drop_succ_cons,List.drop_zero] at e6
   by_cases hk:y.key=x.key
   ·simp only [if_pos hk] at hwv
    subst hwv
    simp only [KV.c,List.map_cons,List.map_nil] at ap1 ap2 ap3 hz e3 e6
    simp -implicitDefEqProofs [A,KV.c,hw,ap1,ap2,ap3,hz,hg3,hk,hlt,hltI,hltJ,hgy,hgy2,Zx,Xd,bnd,Y2,e1,e2,e3,e4,e6,c1,c2,c3]
    omega
   ·simp only [if_neg hk] at hwv
    subst hwv
    simp only [KV.c,List.map_cons,List.map_nil,List.length_cons] at ap1 ap2 ap3 hz e3 e5
    simp -implicitDefEqProofs [A,KV.c,hw,ap1,ap2,ap3,hz,hg3,hk,hlt,hltI,hgy,hgy2,Zx,Xd,bnd,Y2,e1,e2,e3,e4,e5,c1,c2,c3]
    omega
theorem Kg (s:Sl KV) (log:Sl Ev) (rev:Int) (hl:s.l.length+log.l.length≤1000000) (H:List Blk):EvF tab 50 [.g (KVs.g s),.g (Evs.g log),I rev] H=some ⟨.g (KVs.g (Wr s log.l rev)),[],[]⟩:=by
 have hw:=Zt (E:=EvF tab) (h:=H) (c:=Zjz) (lv:=[0,2,11,12,13]) (l:=log.l) (β:=Sl KV) (γ:=Unit) (fun k b=>b.l.length≤s.l.length+k) (fun k e b => .inl (Ug rev b e))
  (fun k b o=>⟨[(0,.g (KVs.g b)),(2,I rev),(11,.g (Evs.g log)),(12,I log.l.length),(13,I k)],[],o⟩)
  (fun b o=>(.exit 0,⟨[(0,.g (KVs.g b)),(2,I rev),(11,.g (Evs.g log)),(12,I log.l.length),(13,I log.l.length),(14,B false)],[],o⟩))
  (fun _ o=>(.ret,⟨[],[],o⟩)) (by simp) (by simp) (fun k e b o hk hx hy hi => ?_) (fun b o _=>by delta Zjz;cases log <;> simp -implicitDefEqProofs) s [.rows 6 1 []] (by simp)
 ·obtain ⟨o',hw⟩:=hw
  rw [Uy] at hw
  have e0:((0:Nat):Int)=0:=rfl
  simp only [e0,Wj] at hw
  have hc:=fun H=>Zd5 s (by omega) H
  refine Zb t50 (by simp) ?_
  unfold Wr
  generalize List.foldl (Ug rev) s log.l=r at hw ⊢
  cases log <;> simp only [Evs.g,Sl.g_nil,Sl.g_of,Sl.l_nil,Sl.l_of,List.length_nil,e0] at hw hc <;> simp -implicitDefEqProofs [hc,hw]
 ·have e2:=Zh hk (by omega)
  have h1:=fun H=>Zzo b e.kv.key (by omega) H
  have h2:=fun H=>Z3b b e.kv (by omega) H
  have hlen:=Qq rev b.l e
  rw [←Nb] at hlen
  delta Zjz
  cases log with
  | nil=>simp at hk
  | of l =>
   simp only [Sl.l_of] at hk hx hy hl ⊢
   refine ⟨by omega,o++[.cells (e.c.map .g)],?_⟩
   unfold Ug
   obtain ⟨er,eg,ek⟩:=e
   simp only [A,KV.c,List.map_cons,List.map_nil] at h1 h2 ⊢
   by_cases h3:rev<er
   ·simp -implicitDefEqProofs [hk,hy,Ev.c,h3,e2]
   ·cases eg
    ·simp -implicitDefEqProofs [hk,hy,Ev.c,h3,e2,h2]
    ·simp -implicitDefEqProofs [hk,hy,Ev.c,h3,e2,h1]
theorem Oz (s:Sl KV) (log:Sl Ev) (rev:Int) (hl:s.l.length+log.l.length≤1000000) (H:List Blk):EvF tab 41 [.g (KVs.g s),.g (Evs.g log),I rev] H=some ⟨.g (KVs.g (X0 s log.l rev)),[],[]⟩:=by
 have hw:=Zt (E:=EvF tab) (h:=H) (c:=Zjx) (lv:=[0,1,2,7]) (l:=log.l) (β:=Sl KV) (γ:=Unit) (fun k b=>b.l.length≤s.l.length+k) (fun k e b => .inl (Xr rev b e))
  (fun k b o=>⟨[(0,.g (KVs.g b)),(1,.g (Evs.g log)),(2,I rev),(7,I k)],[],o⟩)
  (fun b o=>(.exit 0,⟨[(0,.g (KVs.g b)),(1,.g (Evs.g log)),(2,I rev),(7,I log.l.length),(11,B false)],[],o⟩))
  (fun _ o=>(.ret,⟨[],[],o⟩)) (by simp) (by simp) (fun k e b o hk hx hy hi => ?_) (fun b o _=>by delta Zjx;cases log <;> simp -implicitDefEqProofs) s [.rows 6 1 []] (by simp)
 ·obtain ⟨o',hw⟩:=hw
  rw [Uy] at hw
  have e0:((0:Nat):Int)=0:=rfl
  simp only [e0,Wj] at hw
  refine Zb t41 (by simp) ?_
  unfold X0
  generalize List.foldl (Xr rev) s log.l=r at hw ⊢
  cases log <;> simp only [Evs.g,Sl.g_nil,Sl.g_of,Sl.l_nil,Sl.l_of,List.length_nil,e0] at hw <;> simp -implicitDefEqProofs [hw]
 ·have e2:=Zh hk (by omega)
  have h1:=fun H=>Zss b e.kv.key (by omega) H
  have h2:=fun H=>Zzp b e.kv (by omega) H
  have hlen:=Qq rev b.l e
  rw [←Qp] at hlen
  delta Zjx
  cases log with
  | nil=>simp at hk
  | of l =>
   simp only [Sl.l_of] at hk hx hy hl ⊢
   refine ⟨by omega,o,?_⟩
   unfold Xr
   obtain ⟨er,eg,ek⟩:=e
   simp only [A,KV.c,List.map_cons,List.map_nil] at h1 h2 ⊢
   by_cases h3:rev<er
   ·simp -implicitDefEqProofs [hk,hy,Ev.c,h3,e2]
   ·cases eg
    ·simp -implicitDefEqProofs [hk,hy,Ev.c,h3,e2,h2]
    ·simp -implicitDefEqProofs [hk,hy,Ev.c,h3,e2,h1]
end Go.Proofs.YtndfdnlbljhlgaaGreat
namespace Go.AM
open Go
structure Ze where
 rev:Int
 low:Int
 base:KVs
 log:Evs
def Ze.c (x:Ze):List GV:=[.int .i64 x.rev,.int .i64 x.low,KVs.g x.base,Evs.g x.log]
def Ze.wf (x:Ze):Prop:=I64 x.rev∧I64 x.low∧((∀y∈x.base.l,y.wf)∧x.base.l.length≤9223372036854775807)∧((∀y∈x.log.l,y.wf)∧x.log.l.length≤9223372036854775807)
theorem Ze.inv {gs:List GV} (h:Wi (.p (.i .i64) (.p (.i .i64) (.p (.sl 6 tKV) (.p (.sl 8 tEv) .u)))) gs):∃x:Ze,x.wf∧gs=x.c:=by
 obtain ⟨_,_,rfl,⟨a,rfl,ha⟩,_,_,rfl,⟨b,rfl,hb⟩,_,_,rfl,hk,_,_,rfl,hv,rfl⟩:=h
 obtain ⟨k,k1,k2,rfl⟩:=hk.sl_inv (fun _=>KV.inv)
 obtain ⟨v,v1,v2,rfl⟩:=hv.sl_inv (fun _=>Ev.inv)
 exact ⟨⟨a,b,k,v⟩,⟨ha,hb,⟨k1,k2⟩,⟨v1,v2⟩⟩,rfl⟩
structure Txn where
 iff:Sl Cmp
 thn:Sl Mut
 els:Sl Mut
def Txn.c (x:Txn):List GV:=[Cmps.g x.iff,Muts.g x.thn,Muts.g x.els]
def Txn.wf (x:Txn):Prop:=((∀y∈x.iff.l,y.wf)∧x.iff.l.length≤9223372036854775807)∧((∀y∈x.thn.l,y.wf)∧x.thn.l.length≤9223372036854775807)∧((∀y∈x.els.l,y.wf)∧x.els.l.length≤9223372036854775807)
theorem Txn.inv {gs:List GV} (h:Wi Z5h gs):∃x:Txn,x.wf∧gs=x.c:=by
 obtain ⟨_,_,rfl,h1,_,_,rfl,h2,_,_,rfl,h3,rfl⟩:=h
 obtain ⟨p,p1,p2,rfl⟩:=h1.sl_inv (fun _=>Cmp.inv)
 obtain ⟨q,q1,q2,rfl⟩:=h2.sl_inv (fun _=>Mut.inv)
 obtain ⟨r,r1,r2,rfl⟩:=h3.sl_inv (fun _=>Mut.inv)
 exact ⟨⟨p,q,r⟩,⟨⟨p1,p2⟩,⟨q1,q2⟩,⟨r1,r2⟩⟩,rfl⟩
theorem Muts.inv {gs:List GV} (h:Wi (.sl 4 Zv1) gs):∃s:Sl Mut,((∀y∈s.l,y.wf)∧s.l.length≤9223372036854775807)∧gs=[Muts.g s]:=by
 obtain ⟨k,k1,k2,rfl⟩:=h.sl_inv (fun _=>Mut.inv)
 exact ⟨k,⟨k1,k2⟩,rfl⟩
theorem Cmps.inv {gs:List GV} (h:Wi (.sl 5 Z2h) gs):∃s:Sl Cmp,((∀y∈s.l,y.wf)∧s.l.length≤9223372036854775807)∧gs=[Cmps.g s]:=by
 obtain ⟨k,k1,k2,rfl⟩:=h.sl_inv (fun _=>Cmp.inv)
 exact ⟨k,⟨k1,k2⟩,rfl⟩
def S2.c (x:Bs×Bs):List GV:=[.str x.1,.str x.2]
end Go.AM
namespace Go.Proofs.YtndfdnlbljhlgaaGreat
open Go Go.AM Go.Proofs
def Z8 (s:Ze):Prop:=s.base.l.length+s.log.l.length≤100000
theorem Zan (s:Ze) (hs:Z8 s) (H:List Blk):EvF tab 20 [A s.c] H=some ⟨.g (KVs.g (Wr s.base s.log.l s.rev)),[],[]⟩:=by
 have h1:=fun H=>Kg s.base s.log s.rev (by unfold Z8 at hs;omega) H
 refine Zb t20 (by simp) ?_
 generalize Wr s.base s.log.l s.rev=r at h1 ⊢
 generalize hg1:KVs.g s.base=G1 at h1
 generalize hg2:Evs.g s.log=G2 at h1
 simp -implicitDefEqProofs [A,Ze.c,hg1,hg2,h1]
theorem Kh (s:Ze) (hs:Z8 s) (H:List Blk):EvF tab 15 [A s.c] H=some ⟨.g (KVs.g (X0 s.base s.log.l s.rev)),[],[]⟩:=by
 have h1:=fun H=>Oz s.base s.log s.rev (by unfold Z8 at hs;omega) H
 refine Zb t15 (by simp) ?_
 generalize X0 s.base s.log.l s.rev=r at h1 ⊢
 generalize hg1:KVs.g s.base=G1 at h1
 generalize hg2:Evs.g s.log=G2 at h1
 simp -implicitDefEqProofs [A,Ze.c,hg1,hg2,h1]
def atE (s:Ze) (rev:Int):Int:=if rev=0 then 0 else if rev<0∨s.rev<rev then 8 else if rev<s.low then 9 else 0
def atV (s:Ze) (rev:Int):Int:=if rev=0 then s.rev else rev
def atR (s:Ze) (rev:Int):Sl KV:=if atE s rev=0 then Wr s.base s.log.l (atV s rev) else .nil
def Dt (s:Ze) (rev:Int):Sl KV:=if atE s rev=0 then X0 s.base s.log.l (atV s rev) else .nil
theorem Z51 (s:Ze) (rev:Int) (hs:Z8 s) (H:List Blk):EvF tab 31 [A s.c,I rev] H=some ⟨.tup [.g (KVs.g (atR s rev)),I (atE s rev)],[],[]⟩:=by
 have h1:=fun v H=>Kg s.base s.log v (by unfold Z8 at hs;omega) H
 refine Zb t31 (by simp) ?_
 unfold atR atE atV
 generalize hg1:KVs.g s.base=G1 at h1
 generalize hg2:Evs.g s.log=G2 at h1
 by_cases c1:rev=0
 ·subst c1;simp -implicitDefEqProofs [A,Ze.c,hg1,hg2,h1]
 by_cases c2:rev<0
 ·simp -implicitDefEqProofs [A,Ze.c,hg1,hg2,c1,c2]
 by_cases c3:s.rev<rev
 ·simp -implicitDefEqProofs [A,Ze.c,hg1,hg2,c1,c2,c3]
 by_cases c4:rev<s.low
 ·simp -implicitDefEqProofs [A,Ze.c,hg1,hg2,c1,c2,c3,c4]
 simp -implicitDefEqProofs [A,Ze.c,hg1,hg2,c1,c2,c3,c4,h1]
theorem Z3c (s:Ze) (rev:Int) (hs:Z8 s) (H:List Blk):EvF tab 116 [A s.c,I rev] H=some ⟨.tup [.g (KVs.g (Dt s rev)),I (atE s rev)],[],[]⟩:=by
 have h1:=fun v H=>Oz s.base s.log v (by unfold Z8 at hs;omega) H
 have h2:=fun H=>Kh s hs H
 refine Zb Yak (by simp) ?_
 unfold Dt atE atV
 simp only [A,Ze.c,List.map_cons,List.map_nil] at h2
 generalize hg1:KVs.g s.base=G1 at h1 h2
 generalize hg2:Evs.g s.log=G2 at h1 h2
 by_cases c1:rev=0
 ·subst c1;simp -implicitDefEqProofs [A,Ze.c,hg1,hg2,h1,h2]
 by_cases c2:rev<0
 ·simp -implicitDefEqProofs [A,Ze.c,hg1,hg2,c1,c2]
 by_cases c3:s.rev<rev
 ·simp -implicitDefEqProofs [A,Ze.c,hg1,hg2,c1,c2,c3]
 by_cases c4:rev<s.low
 ·simp -implicitDefEqProofs [A,Ze.c,hg1,hg2,c1,c2,c3,c4]
 simp -implicitDefEqProofs [A,Ze.c,hg1,hg2,c1,c2,c3,c4,h1]
def Si (l:List KV) (m:Mut) (rev:Int):KV:=if Ua l m.key=true then ⟨m.key,m.value,(W6 l m.key).create,rev,IntKind.i64.wrap ((W6 l m.key).version+1),m.lease⟩ else ⟨m.key,m.value,rev,rev,1,m.lease⟩
theorem Zkw (s:Sl KV) (m:Mut) (rev:Int) (hl:s.l.length≤9223372036854775807) (H:List Blk):EvF tab 170 [.g (KVs.g s),A m.c,I rev] H=some ⟨A (Si s.l m rev).c,[],[]⟩:=by
 have h1:=fun H=>H9 s m.key hl H
 refine Zb Ybx (by simp) ?_
 unfold Si
 generalize W6 s.l m.key=x at h1 ⊢
 generalize Ua s.l m.key=b at h1 ⊢
 simp only [A,KV.c,List.map_cons,List.map_nil] at h1
 cases b <;> simp -implicitDefEqProofs [Yc,A,Mut.c,KV.c,h1]
def Zny (a b:KV):Bool:=(a.key==b.key)&&((a.value==b.value)&&((a.create==b.create)&&((a.mod==b.mod)&&((a.version==b.version)&&(a.lease==b.lease)))))
theorem Ki {a b:KV}:Zny a b=true↔a=b:=by
 obtain ⟨a1,a2,a3,a4,a5,a6⟩:=a
 obtain ⟨b1,b2,b3,b4,b5,b6⟩:=b
 simp [Zny]
def Tg (l:List KV) (e:Ev):Bool :=
 if e.gone=true then Ua l e.kv.key&&Zny (W6 l e.kv.key) e.kv else
  Zny e.kv (Si l ⟨false,e.kv.key,e.kv.value,e.kv.lease⟩ e.rev)&&Xe e.kv
theorem Zsu (x:KV):F8 [x]=Xe x:=by
 unfold F8 F7 F7
 cases h:Xe x
 ·rfl
 ·have h1:1≤x.key.length:=by
   simp only [Xe,Ux,Bool.and_eq_true,decide_eq_true_eq] at h;exact h.1.1.1
  cases hq:x.key with
  | nil=>rw [hq] at h1;simp at h1
  | cons a b=>rfl
theorem Zsv (s:Sl KV) (e:Ev) (hk:e.kv.key.length≤9223372036854775807) (hl:s.l.length≤9223372036854775807) (H:List Blk):EvF tab 125 [.g (KVs.g s),A e.c] H=some ⟨B (Tg s.l e),[],[]⟩:=by
 have h1:=fun H=>H9 s e.kv.key hl H
 have h2:=fun H=>Zkw s ⟨false,e.kv.key,e.kv.value,e.kv.lease⟩ e.rev hl H
 have h3:=fun H=>Zko (.of [e.kv]) (fun y hy=>by rw [List.mem_singleton.1 hy];exact hk) (by simp) H
 rw [Sl.l_of,Zsu] at h3
 refine Zb Yat (by simp) ?_
 unfold Tg
 generalize W6 s.l e.kv.key=x at h1 ⊢
 generalize Ua s.l e.kv.key=b at h1 ⊢
 generalize Si s.l ⟨false,e.kv.key,e.kv.value,e.kv.lease⟩ e.rev=y at h2 ⊢
 generalize Xe e.kv=b2 at h3 ⊢
 obtain ⟨er,eg,ek⟩:=e
 obtain ⟨k1,k2,k3,k4,k5,k6⟩:=ek
 obtain ⟨x1,x2,x3,x4,x5,x6⟩:=x
 obtain ⟨y1,y2,y3,y4,y5,y6⟩:=y
 simp only [A,Mut.c,KV.c,KVs.g,Sl.g_of,List.map_cons,List.map_nil] at h1 h2 h3
 unfold Zny
 cases eg
 ·simp -implicitDefEqProofs [Yc,A,Ev.c,KV.c,h2,h3,Zx]
  by_cases hh:k1=y1∧k2=y2∧k3=y3∧k4=y4∧k5=y5∧k6=y6
  ·rw [if_pos hh]
   obtain ⟨rfl,rfl,rfl,rfl,rfl,rfl⟩:=hh
   simp
  ·rw [if_neg hh]
   have hf:(k1==y1&&(k2==y2&&(k3==y3&&(k4==y4&&(k5==y5&&k6==y6)))))=false:=by
    cases hq:(k1==y1&&(k2==y2&&(k3==y3&&(k4==y4&&(k5==y5&&k6==y6)))))
    ·rfl
    ·exact absurd (by simpa using hq) hh
   rw [hf];rfl
 ·cases b
  ·simp -implicitDefEqProofs [Yc,A,Ev.c,KV.c,h1]
  ·simp -implicitDefEqProofs [Yc,A,Ev.c,KV.c,h1]
theorem Zzq {n v:Int} (h1:1≤n) (h2:n≤1099511627776) (hv:I64 v):IntKind.i64.wrap (n - 1)=v↔n=IntKind.i64.wrap (v+1):=by
 obtain ⟨v1,v2⟩:=hv
 rw [wrap_i64 (by omega) (by omega)]
 by_cases h:v≤9223372036854775806
 ·rw [wrap_i64 (by omega) (by omega)];omega
 ·have e:v=9223372036854775807:=by omega
  subst e
  have:IntKind.i64.wrap (9223372036854775807+1) = -9223372036854775808:=by decide
  rw [this];omega
theorem Znz (s:Sl KV) (e:Ev) (hk:e.kv.key.length≤9223372036854775807) (hv:I64 (W6 s.l e.kv.key).version) (hl:s.l.length≤9223372036854775807) (H:List Blk):EvF tab 80 [.g (KVs.g s),A e.c] H=some ⟨B (Tg s.l e),[],[]⟩:=by
 have h1:=fun H=>F6 s e.kv.key hl H
 have h3:=fun H=>Zkn e.kv hk H
 refine Zb t80 (by simp) ?_
 unfold Tg Si
 simp only
 generalize W6 s.l e.kv.key=x at h1 hv ⊢
 generalize Ua s.l e.kv.key=b at h1 ⊢
 have ho:Xe e.kv=true→1≤e.kv.version∧e.kv.version≤1099511627776:=fun h=>by
  simp only [Xe,F0,Bool.and_eq_true,decide_eq_true_eq] at h
  omega
 generalize Xe e.kv=b2 at h3 ho ⊢
 obtain ⟨er,eg,ek⟩:=e
 obtain ⟨k1,k2,k3,k4,k5,k6⟩:=ek
 obtain ⟨x1,x2,x3,x4,x5,x6⟩:=x
 simp only [A,KV.c,List.map_cons,List.map_nil] at h1 h3
 simp only at hv ho
 unfold Zny
 cases eg
 ·cases b2
  ·cases b <;> simp -implicitDefEqProofs [Yc,A,Ev.c,KV.c,h1,h3]
  ·obtain ⟨o1,o2⟩:=ho rfl
   have hver:=Zzq o1 o2 hv
   by_cases c1:k4=er
   ·subst c1
    cases b
    ·by_cases c2:k3=k4
     ·subst c2
      by_cases c3:k5=1
      ·subst c3
       simp -implicitDefEqProofs [Yc,A,Ev.c,KV.c,h1,h3]
      ·simp -implicitDefEqProofs [Yc,A,Ev.c,KV.c,h1,h3,c3]
     ·simp -implicitDefEqProofs [Yc,A,Ev.c,KV.c,h1,h3,c2]
    ·by_cases c2:k3=x3
     ·subst c2
      have hb:(IntKind.i64.wrap (k5 - 1)==x5)=(k5==IntKind.i64.wrap (x5+1)):=by
       rw [Bool.eq_iff_iff,beq_iff_eq,beq_iff_eq];exact hver
      simp -implicitDefEqProofs [Yc,A,Ev.c,KV.c,h1,h3,hb]
     ·simp -implicitDefEqProofs [Yc,A,Ev.c,KV.c,h1,h3,c2]
   ·cases b <;> simp -implicitDefEqProofs [Yc,A,Ev.c,KV.c,h1,h3,c1]
 ·cases b <;> simp -implicitDefEqProofs [Yc,A,Ev.c,KV.c,h1]
def okE (srev:Int) (l:List KV) (last:Int) (e:Ev):Bool:=(!(decide (e.rev<last)||decide (srev<e.rev))&&Tg l e)&&decide ((Uf e.rev l e).length≤30)
def Wa (srev:Int):List KV→Int→List Ev→Bool
 | _,_,[]=>true
 | l,last,e::log=>okE srev l last e&&Wa srev (Uf e.rev l e) e.rev log
def Zao (s:Ze):Bool := !(decide (s.low<0)||(decide (s.rev<s.low)||(decide (1099511627774<s.rev)||(decide (30<s.base.l.length)||(decide (60<s.log.l.length) || !F8 s.base.l)))))
def Md (s:Ze):Bool := !(s.base.l.any fun x=>decide (s.low<x.mod))
def T8 (s:Ze):Bool:=Zao s&&(Md s&&Wa s.rev s.base.l (s.low+1) s.log.l)
theorem Zd7 (srev:Int) (R:Sl KV→Ev→Sl KV) (hR:∀b e,(R b e).l=Uf e.rev b.l e):∀(log:List Ev) k (b:Sl KV×Int),
  (∃c,Ym (fun _ (e:Ev) (b:Sl KV×Int)=>(if okE srev b.1.l b.2 e=true then .inl (R b.1 e,e.rev) else .inr 0:(Sl KV×Int)⊕Nat)) k log b = .inl c∧Wa srev b.1.l b.2 log=true) ∨
  (Ym (fun _ (e:Ev) (b:Sl KV×Int)=>(if okE srev b.1.l b.2 e=true then .inl (R b.1 e,e.rev) else .inr 0:(Sl KV×Int)⊕Nat)) k log b = .inr 0∧Wa srev b.1.l b.2 log=false):=by
 intro log
 induction log with
 | nil=>intro k b;exact .inl ⟨b,rfl,rfl⟩
 | cons e log ih =>
  intro k b
  cases h:okE srev b.1.l b.2 e
  ·right;simp only [Ym,Wa,h,Bool.false_eq_true,if_false,Bool.false_and,and_self]
  ·simp only [Ym,Wa,h,if_true,Bool.true_and]
   have:=ih (k+1) (R b.1 e,e.rev)
   simp only [hR] at this
   exact this
theorem Kj {x y:KV}:∀{l:List KV},y∈Un l x→y∈l∨y=x
 | [],h=>by simp [Un] at h;exact .inr h
 | z::l,h=>by
  unfold Un at h
  split at h
  ·rcases List.mem_cons.1 h with h | h
   ·exact .inl (by simp [h])
   ·rcases Kj h with h | h
    ·exact .inl (by simp [h])
    ·exact .inr h
  ·split at h
   ·rcases List.mem_cons.1 h with h | h
    ·exact .inr h
    ·exact .inl (by simp [h])
   ·rcases List.mem_cons.1 h with h | h
    ·exact .inr h
    ·exact .inl h
theorem Ju {k:Bs} {y:KV}:∀{l:List KV},y∈W8 l k→y∈l
 | [],h=>by simp [W8] at h
 | z::l,h=>by
  unfold W8 at h
  split at h
  ·exact List.mem_cons_of_mem _ h
  ·rcases List.mem_cons.1 h with h | h
   ·simp [h]
   ·exact List.mem_cons_of_mem _ (Ju h)
theorem Zn0 {rev:Int} {l:List KV} {e:Ev} {y:KV} (h:y∈Uf rev l e):y∈l∨y=e.kv:=by
 unfold Uf at h
 split at h
 ·exact .inl h
 ·split at h
  ·exact .inl (Ju h)
  ·exact Kj h
theorem Zsw {l:List KV} (h:∀x∈l,x.wf) (k:Bs):(W6 l k).wf:=by
 unfold W6
 rcases hq:Vl k 0 l with _ | i
 ·exact ⟨by simp [kv0,S64],by simp [kv0,S64],⟨by simp [kv0],by simp [kv0]⟩,⟨by simp [kv0],by simp [kv0]⟩,⟨by simp [kv0],by simp [kv0]⟩,⟨by simp [kv0],by simp [kv0]⟩⟩
 ·obtain ⟨h1,_⟩:=Jm hq
  simp only [List.getElem?_eq_getElem h1,Option.getD_some]
  exact h _ (List.getElem_mem _)
theorem Zsx (x:KV) {H:List Blk} {p:Nat} {r lo:Int} {g1 g2:GV} (hp:H[p]? = some (.cells [I r,I lo,.g g1,.g g2])):EvF tab 124 [A x.c,.ptr p 0] H=some ⟨B (decide (lo<x.mod)),[],[]⟩:=by
 refine Zb Yas (by simp) ?_
 have hpl:p<H.length:=(List.getElem?_eq_some_iff.1 hp).1
 have hp2:=(List.getElem?_eq_some_iff.1 hp).2
 have hlv:Zq H p=true:=by unfold Zq;rw [hp];rfl
 simp -implicitDefEqProofs [A,KV.c,hp2,hpl,Zp,orB,hlv]
theorem Z3d (s:Ze) (w:s.wf) (H:List Blk):EvF tab 56 [A s.c] H=some ⟨B (T8 s),[],[]⟩:=by
 obtain ⟨_,_,⟨wb,lb⟩,wl,ll⟩:=w
 have m1:=fun H=>Zko s.base (fun x hx=>(wb x hx).1) lb H
 have m2:=V0 (Tb:=tab) (f:=60) (g:=131) (agg:=true) (n:=6) (c:=KV.c) t60 Zzb (fun x=>A x.c) (fun x=>decide (s.low<x.mod)) (.fv 124 [.ptr H.length 0]) s.base lb (H++[.cells (s.c.map .g)]) (fun x=>by simp [A,KV.c]) (fun x _ t=>by
  have h1:=Zsx x (H:=H++[.cells (s.c.map .g)]) (p:=H.length) (r:=s.rev) (lo:=s.low) (g1:=KVs.g s.base) (g2:=Evs.g s.log) (by simp [Ze.c])
  simp -implicitDefEqProofs [h1])
 have hq:=Zt (E:=EvF tab) (h:=H) (c:=Zj3) (lv:=[1,3,4,50,51,52]) (l:=s.log.l) (β:=Sl KV×Int) (γ:=Nat) (fun _ b=>b.1.l.length≤30∧s.log.l.length≤60) (fun _ e b=>if okE s.rev b.1.l b.2 e=true then .inl (Ug e.rev b.1 e,e.rev) else .inr 0)
  (fun k b o=>⟨[(1,.ptr H.length 0),(3,.g (KVs.g b.1)),(4,I b.2),(50,.g (Evs.g s.log)),(51,I s.log.l.length),(52,I k)],[],.cells (s.c.map .g)::o⟩)
  (fun b o=>(.exit 0,⟨[(1,.ptr H.length 0),(3,.g (KVs.g b.1)),(4,I b.2),(50,.g (Evs.g s.log)),(51,I s.log.l.length),(52,I s.log.l.length),(53,B false)],[],.cells (s.c.map .g)::o⟩))
  (fun _ o=>(.ret,⟨[(2,B false)],[],.cells (s.c.map .g)::o⟩)) (by simp) (by simp) (fun k e b o hk hx hy hi => ?_) (fun b o _=>by delta Zj3;cases s.log <;> simp -implicitDefEqProofs)
 ·refine Zb t56 (by simp) ?_
  unfold T8 Zao Md
  by_cases c1:s.low<0
  ·simp -implicitDefEqProofs [A,Ze.c,c1]
  by_cases c2:s.rev<s.low
  ·simp -implicitDefEqProofs [A,Ze.c,c1,c2]
  by_cases c3:1099511627774<s.rev
  ·simp -implicitDefEqProofs [A,Ze.c,c1,c2,c3]
  by_cases c4:30<s.base.l.length
  ·simp -implicitDefEqProofs [A,Ze.c,c1,c2,c3,c4,show (30:Int)<(s.base.l.length:Int) by omega]
  have c4':¬(30:Int)<(s.base.l.length:Int):=by omega
  by_cases c5:60<s.log.l.length
  ·simp -implicitDefEqProofs [A,Ze.c,c1,c2,c3,c4,c4',c5,show (60:Int)<(s.log.l.length:Int) by omega]
  have c5':¬(60:Int)<(s.log.l.length:Int):=by omega
  obtain ⟨o',hq⟩:=hq (s.base,s.low+1) [] ⟨by simp only;omega,by omega⟩
  have w1:IntKind.i64.wrap (s.low+1)=s.low+1:=wrap_i64 (by omega) (by omega)
  generalize F8 s.base.l=b1 at m1 ⊢
  cases b1
  ·simp -implicitDefEqProofs [A,Ze.c,c1,c2,c3,c4,c4',c5,c5',m1]
  generalize (s.base.l.any fun x=>decide (s.low<x.mod))=b2 at m2 ⊢
  simp only [Ze.c,List.map_cons,List.map_nil] at m2 hq
  cases b2
  ·rcases Zd7 s.rev (fun b e=>Ug e.rev b e) (fun b e=>Nb e.rev b e) s.log.l 0 (s.base,s.low+1) with ⟨c,k1,k2⟩ | ⟨k1,k2⟩ <;> rw [k1] at hq <;> simp only [Wj,show ((0:Nat):Int)=0 from rfl] at hq <;> simp only at k2 <;> simp -implicitDefEqProofs [A,Ze.c,c1,c2,c3,c4,c4',c5,c5',m1,m2,w1,hq,k2]
  ·simp -implicitDefEqProofs [A,Ze.c,c1,c2,c3,c4,c4',c5,c5',m1,m2]
 ·obtain ⟨hi1,hi2⟩:=hi
  have e2:=Zh hk ll
  have hmem:e∈s.log.l:=List.mem_of_getElem? hx
  have h1:=fun H=>Zsv b.1 e (wl e hmem).2.1 (by omega) H
  have h2:=fun H=>Kg b.1 (.of [e]) e.rev (by simp only [Sl.l_of,List.length_cons,List.length_nil];omega) H
  have h3:Wr b.1 (Sl.of [e]).l e.rev=Ug e.rev b.1 e:=rfl
  rw [h3] at h2
  have h4:=Nb e.rev b.1 e
  delta Zj3
  obtain ⟨srev,Y5,Zy,Z3⟩:=s
  obtain ⟨bl,last⟩:=b
  simp only at hi1 hi2 hk hx hy e2 h1 h2 h4 ll ⊢
  cases Z3 with
  | nil=>simp at hk
  | of l =>
   simp only [Sl.l_of] at hk hx hy ll hi2 ⊢
   unfold okE
   rw [←h4]
   generalize Tg bl.l e=b1 at h1 ⊢
   generalize Ug e.rev bl e=R at h2 ⊢
   obtain ⟨er,eg,ek⟩:=e
   obtain ⟨k1,k2,k3,k4,k5,k6⟩:=ek
   simp only [A,Ev.c,Evs.g,Sl.g_of,List.map_cons,List.map_nil] at h1 h2 ⊢
   by_cases d1:er<last
   ·simp only [d1,decide_true,Bool.true_or,Bool.not_true,Bool.false_and,Bool.false_eq_true,if_false]
    refine ⟨o++[.cells [I er,B eg,T k1,T k2,I k3,I k4,I k5,I k6]],?_⟩
    simp -implicitDefEqProofs [hk,hy,Ze.c,Ev.c,d1]
   ·by_cases d2:srev<er
    ·simp only [d1,d2,decide_true,decide_false,Bool.false_or,Bool.not_true,Bool.false_and,Bool.false_eq_true,if_false]
     refine ⟨o++[.cells [I er,B eg,T k1,T k2,I k3,I k4,I k5,I k6]],?_⟩
     simp -implicitDefEqProofs [hk,hy,Ze.c,Ev.c,d1,d2]
    ·cases b1
     ·simp only [d1,d2,decide_false,Bool.false_or,Bool.not_false,Bool.true_and,Bool.false_and,Bool.false_eq_true,if_false]
      refine ⟨o++[.cells [I er,B eg,T k1,T k2,I k3,I k4,I k5,I k6]],?_⟩
      simp -implicitDefEqProofs [hk,hy,Ze.c,Ev.c,d1,d2,h1]
     ·by_cases d3:R.l.length≤30
      ·simp only [d1,d2,d3,decide_false,decide_true,Bool.false_or,Bool.not_false,Bool.true_and,if_true]
       refine ⟨⟨trivial,hi2⟩,o++[.cells [I er,B eg,T k1,T k2,I k3,I k4,I k5,I k6]],?_⟩
       simp -implicitDefEqProofs [hk,hy,Ze.c,Ev.c,d1,d2,h1,h2,d3,Zx,e2,show ¬(30:Int)<(R.l.length:Int) by omega]
      ·simp only [d1,d2,d3,decide_false,Bool.false_or,Bool.not_false,Bool.true_and,Bool.false_eq_true,if_false]
       refine ⟨o++[.cells [I er,B eg,T k1,T k2,I k3,I k4,I k5,I k6]],?_⟩
       simp -implicitDefEqProofs [hk,hy,Ze.c,Ev.c,d1,d2,h1,h2,d3,Zx,show (30:Int)<(R.l.length:Int) by omega]
theorem Zhn (s:Ze) (lb:s.base.l.length≤9223372036854775807) (H:List Blk) :
  Ya (EvF tab) H Zjq [1,3] ⟨[(1,.ptr H.length 0),(3,I 0)],[],[.cells (s.c.map .g)]⟩ =
   some (if Md s=true then (.exit 0,⟨[(1,.ptr H.length 0),(3,I s.base.l.length),(45,B false)],[],[.cells (s.c.map .g)]⟩) else (.ret,⟨[(2,B false)],[],[.cells (s.c.map .g)]⟩)):=by
 have hb:Md s=Z7 (fun x:KV => !decide (s.low<x.mod)) s.base.l:=by
  unfold Md Z7
  induction s.base.l with
  | nil=>rfl
  | cons x l ih=>simp only [List.any_cons,List.all_cons,Bool.not_or,ih]
 rw [hb]
 refine Y4 (l:=s.base.l) (fun x:KV => !decide (s.low<x.mod)) (fun k=>⟨[(1,.ptr H.length 0),(3,I k)],[],[.cells (s.c.map .g)]⟩) _ _ (by simp) (by simp) (fun k x hk hx hy => ?_) (by delta Zjq;simp -implicitDefEqProofs [Ze.c])
 delta Zjq
 have e2:=Zh hk lb
 obtain ⟨srev,Y5,Zy,Z3⟩:=s
 simp only at hk hx hy e2 ⊢
 cases Zy with
 | nil=>simp at hk
 | of l =>
  simp only [Sl.l_of] at hk hy ⊢
  by_cases h:Y5<x.mod
  ·simp -implicitDefEqProofs [hk,hy,Ze.c,KV.c,h]
  ·simp -implicitDefEqProofs [hk,hy,Ze.c,KV.c,h,e2]
theorem Zn1 {α:Type} {l:List α} {k:Nat} {x:α} (h:l[k]? = some x):List.drop k (List.take (k+1) l)=[x]:=by
 have hk:k<l.length:=(List.getElem?_eq_some_iff.1 h).1
 have hx:l[k]=x:=(List.getElem?_eq_some_iff.1 h).2
 rw [List.take_succ_eq_append_getElem hk,List.drop_append_of_le_length (by simp;omega),List.drop_eq_nil_of_le (by simp;omega),hx];rfl
theorem Zzr (s:Ze) (w:s.wf) (H:List Blk):EvF tab 34 [A s.c] H=some ⟨B (T8 s),[],[]⟩:=by
 obtain ⟨_,_,⟨wb,lb⟩,wl,ll⟩:=w
 have m1:=fun H=>Zr3 s.base (fun x hx=>(wb x hx).1) lb H
 have m2:=Zhn s lb H
 have hq:=Zt (E:=EvF tab) (h:=H) (c:=Zjr) (lv:=[1,4,5,6]) (l:=s.log.l) (β:=Sl KV×Int) (γ:=Nat) (fun k b=>(b.1.l.length≤30∧(∀x∈b.1.l,x.wf))∧s.log.l.length≤60∧s.low+1≤b.2∧(k=0→b.2=s.low+1)) (fun _ e b=>if okE s.rev b.1.l b.2 e=true then .inl (Xr e.rev b.1 e,e.rev) else .inr 0)
  (fun k b o=>⟨[(1,.ptr H.length 0),(4,.g (KVs.g b.1)),(5,I (if k=0 then s.low else b.2)),(6,I k)],[],.cells (s.c.map .g)::o⟩)
  (fun b o=>(.exit 2,⟨[(1,.ptr H.length 0),(4,.g (KVs.g b.1)),(5,I (if s.log.l.length=0 then s.low else b.2)),(6,I s.log.l.length),(65,B false)],[],.cells (s.c.map .g)::o⟩))
  (fun _ o=>(.ret,⟨[(2,B false)],[],.cells (s.c.map .g)::o⟩)) (by simp) (by simp) (fun k e b o hk hx hy hi => ?_) (fun b o _=>by delta Zjr;simp -implicitDefEqProofs [Ze.c])
 ·refine Zb t34 (by simp) ?_
  unfold T8 Zao
  by_cases c1:s.low<0
  ·simp -implicitDefEqProofs [A,Ze.c,c1]
  by_cases c2:s.rev<s.low
  ·simp -implicitDefEqProofs [A,Ze.c,c1,c2]
  by_cases c3:1099511627774<s.rev
  ·simp -implicitDefEqProofs [A,Ze.c,c1,c2,c3]
  cases hm:F8 s.base.l
  ·rw [hm] at m1
   by_cases c4:30<s.base.l.length <;> by_cases c5:60<s.log.l.length <;> simp -implicitDefEqProofs [A,Ze.c,c1,c2,c3,c4,c5,m1]
  rw [hm] at m1
  by_cases c4:30<s.base.l.length
  ·simp -implicitDefEqProofs [A,Ze.c,c1,c2,c3,m1,c4,show (30:Int)<(s.base.l.length:Int) by omega]
  have c4':¬(30:Int)<(s.base.l.length:Int):=by omega
  by_cases c5:60<s.log.l.length
  ·simp -implicitDefEqProofs [A,Ze.c,c1,c2,c3,m1,c4,c4',c5,show (60:Int)<(s.log.l.length:Int) by omega]
  have c5':¬(60:Int)<(s.log.l.length:Int):=by omega
  obtain ⟨o',hq⟩:=hq (s.base,s.low+1) [] ⟨⟨by simp only;omega,wb⟩,by omega,by simp only;omega,fun _=>rfl⟩
  generalize Md s=b2 at m2 ⊢
  simp only [Ze.c,List.map_cons,List.map_nil] at m2 hq
  cases b2
  ·simp only [Bool.false_eq_true,if_false] at m2
   simp -implicitDefEqProofs [A,Ze.c,c1,c2,c3,c4,c4',c5,c5',m1,m2]
  ·simp only [if_true] at m2
   rcases Zd7 s.rev (fun b e=>Xr e.rev b e) (fun b e=>Qp e.rev b e) s.log.l 0 (s.base,s.low+1) with ⟨c,k1,k2⟩ | ⟨k1,k2⟩ <;> rw [k1] at hq <;> simp only [Wj,show ((0:Nat):Int)=0 from rfl,if_true] at hq <;> simp only at k2 <;> simp -implicitDefEqProofs [A,Ze.c,c1,c2,c3,c4,c4',c5,c5',m1,m2,hq,k2]
 ·obtain ⟨⟨hi1,hw⟩,hi2,hi3,hi4⟩:=hi
  have e2:=Zh hk ll
  have hmem:e∈s.log.l:=List.mem_of_getElem? hx
  have hxw:=Zsw hw e.kv.key
  have h1:=fun H=>Znz b.1 e (wl e hmem).2.1 hxw.2.2.2.2.1 (by omega) H
  have h2:=fun H=>Oz b.1 (.of [e]) e.rev (by simp only [Sl.l_of,List.length_cons,List.length_nil];omega) H
  have h3:X0 b.1 (Sl.of [e]).l e.rev=Xr e.rev b.1 e:=rfl
  rw [h3] at h2
  have h4:=Qp e.rev b.1 e
  have hwk:=(wl e hmem).2
  have hnw:∀x∈(Xr e.rev b.1 e).l,x.wf:=fun x hx=>by
   rw [h4] at hx
   rcases Zn0 hx with h | h
   ·exact hw x h
   ·rw [h];exact hwk
  delta Zjr
  obtain ⟨srev,Y5,Zy,Z3⟩:=s
  obtain ⟨bl,last⟩:=b
  simp only at hi1 hi2 hi3 hi4 hk hx hy e2 h1 h2 h4 ll hnw ⊢
  cases Z3 with
  | nil=>simp at hk
  | of l =>
   simp only [Sl.l_of] at hk hx hy ll hi2 ⊢
   have hsl:List.drop k (List.take (k+1) (List.map Ev.c l))=[Ev.c e]:=Zn1 (by rw [List.getElem?_map,hx];rfl)
   unfold okE
   rw [←h4]
   generalize Tg bl.l e=b1 at h1 ⊢
   generalize Xr e.rev bl e=R at h2 hnw ⊢
   obtain ⟨er,eg,ek⟩:=e
   obtain ⟨k1,k2,k3,k4,k5,k6⟩:=ek
   simp only [A,Ev.c,Evs.g,Sl.g_of,List.map_cons,List.map_nil] at h1 h2 hsl ⊢
   obtain ⟨q,hq⟩:∃q,(if k=0 then Y5 else last)=q:=⟨_,rfl⟩
   rw [hq]
   have hqd:(er≤Y5∨er<q)↔er<last:=by
    rw [←hq]
    by_cases h0:k=0
    ·have:=hi4 h0;rw [if_pos h0];omega
    ·rw [if_neg h0];omega
   have i1:(0:Int)≤(k:Int):=by omega
   have i2:(k:Int)+1≤(l.length:Int):=by omega
   have i3:((k:Int)+1).toNat=k+1:=by omega
   have i4:(k:Int)≤(k:Int)+1:=by omega
   have i5:(0:Int)≤(k:Int)+1:=by omega
   have i6:List.take l.length (List.map Ev.c l)=List.map Ev.c l:=List.take_of_length_le (by simp)
   by_cases d1:er<last
   ·simp only [d1,decide_true,Bool.true_or,Bool.not_true,Bool.false_and,Bool.false_eq_true,if_false]
    refine ⟨o++[.cells [I er,B eg,T k1,T k2,I k3,I k4,I k5,I k6]],?_⟩
    by_cases d0:er≤Y5
    ·simp -implicitDefEqProofs [hk,hy,Ze.c,Ev.c,d0]
    ·have d00:er<q:=(hqd.2 d1).resolve_left d0
     simp -implicitDefEqProofs [hk,hy,Ze.c,Ev.c,d0,d00]
   ·have d0:¬er≤Y5:=fun h=>d1 (hqd.1 (.inl h))
    have d00:¬er<q:=fun h=>d1 (hqd.1 (.inr h))
    by_cases d2:srev<er
    ·simp only [d1,d2,decide_true,decide_false,Bool.false_or,Bool.not_true,Bool.false_and,Bool.false_eq_true,if_false]
     refine ⟨o++[.cells [I er,B eg,T k1,T k2,I k3,I k4,I k5,I k6]],?_⟩
     simp -implicitDefEqProofs [hk,hy,Ze.c,Ev.c,d0,d00,d2]
    ·cases b1
     ·simp only [d1,d2,decide_false,Bool.false_or,Bool.not_false,Bool.true_and,Bool.false_and,Bool.false_eq_true,if_false]
      refine ⟨o++[.cells [I er,B eg,T k1,T k2,I k3,I k4,I k5,I k6]],?_⟩
      simp -implicitDefEqProofs [hk,hy,Ze.c,Ev.c,d0,d00,d2,h1]
     ·by_cases d3:R.l.length≤30
      ·simp only [d1,d2,d3,decide_false,decide_true,Bool.false_or,Bool.not_false,Bool.true_and,if_true]
       refine ⟨⟨⟨trivial,hnw⟩,hi2,by omega,fun h=>by omega⟩,o++[.cells [I er,B eg,T k1,T k2,I k3,I k4,I k5,I k6]],?_⟩
       simp -implicitDefEqProofs [hk,hy,Ze.c,Ev.c,d0,d00,d2,h1,h2,d3,hsl,Xd,bnd,Y2,i1,i2,i3,i4,i5,i6,e2,show k+1≤l.length by omega,show ¬(30:Int)<(R.l.length:Int) by omega]
      ·simp only [d1,d2,d3,decide_false,Bool.false_or,Bool.not_false,Bool.true_and,Bool.false_eq_true,if_false]
       refine ⟨o++[.cells [I er,B eg,T k1,T k2,I k3,I k4,I k5,I k6]],?_⟩
       simp -implicitDefEqProofs [hk,hy,Ze.c,Ev.c,d0,d00,d2,h1,h2,d3,hsl,Xd,bnd,Y2,i1,i2,i3,i4,i5,i6,e2,show k+1≤l.length by omega,show (30:Int)<(R.l.length:Int) by omega]
def Up (m:Mut):Bool:=Ux m.key && !(decide (20<m.value.length)||(decide (m.lease<0)||decide (1099511627775<m.lease)))
def Nz:List Bs→List Mut→Bool
 | _,[]=>true
 | met,m::l=>(!(met.contains m.key)&&Up m)&&Nz (met++[m.key]) l
def H6 (l:List Mut):Bool:=Nz [] l&&decide (l.length≤30)
def Rt (met:List Bs):List (GV×Option GV):=met.map fun k=>(GV.str k,none)
theorem Es (k:Bs):∀met:List Bs,(met.contains k=false∧Ut .s (.str k) (Rt met)=some none)∨∃j,met.contains k=true∧Ut .s (.str k) (Rt met)=some (some j)∧(Rt met)[j]?.map (·.2)=some none
 | [] => .inl ⟨rfl,rfl⟩
 | a::met=>by
  by_cases h:k=a
  ·subst h
   exact .inr ⟨0,by simp,by simp [Rt,Ut,eqG],by simp [Rt]⟩
  ·have hk:(k==a)=false:=by simpa using h
   rcases Es k met with ⟨h1,h2⟩ | ⟨j,h1,h2,h3⟩
   ·refine .inl ⟨by simp only [List.contains_cons,hk,h1,Bool.or_self],?_⟩
    simp only [Rt,List.map_cons,Ut,eqG,hk]
    rw [show met.map (fun k=>(GV.str k,(none:Option GV)))=Rt met from rfl,h2]
   ·refine .inr ⟨j+1,by simp only [List.contains_cons,hk,h1,Bool.or_true],?_,by simpa [Rt] using h3⟩
    simp only [Rt,List.map_cons,Ut,eqG,hk]
    rw [show met.map (fun k=>(GV.str k,(none:Option GV)))=Rt met from rfl,h2]
theorem Zzs (k:Bs) (met:List Bs):Od true .s none (.str k) (Rt met)=some (.tup [.agg [],B (met.contains k)]):=by
 unfold Od
 rcases Es k met with ⟨h1,h2⟩ | ⟨j,h1,h2,h3⟩
 ·rw [h1,h2];rfl
 ·rw [h1,h2];simp only [h3];rfl
theorem Zzt (k:Bs) (met:List Bs) (h:met.contains k=false):Sa .s (.str k) none (Rt met)=some (Rt (met++[k])):=by
 unfold Sa
 rcases Es k met with ⟨h1,h2⟩ | ⟨j,h1,h2,h3⟩
 ·rw [h2];simp [Rt]
 ·rw [h1] at h;cases h
theorem Jv:∀(l:List Mut) k (met:List Bs),(∃b,Ym (fun _ (m:Mut) (met:List Bs)=>(if (!(met.contains m.key)&&Up m)=true then .inl (met++[m.key]) else .inr 0:List Bs⊕Nat)) k l met = .inl b∧Nz met l=true) ∨
  (Ym (fun _ (m:Mut) (met:List Bs)=>(if (!(met.contains m.key)&&Up m)=true then .inl (met++[m.key]) else .inr 0:List Bs⊕Nat)) k l met = .inr 0∧Nz met l=false):=by
 intro l
 induction l with
 | nil=>intro k met;exact .inl ⟨met,rfl,rfl⟩
 | cons m l ih =>
  intro k met
  cases h:(!(met.contains m.key)&&Up m)
  ·right;simp only [Ym,Nz,h,Bool.false_eq_true,if_false,Bool.false_and,and_self]
  ·simp only [Ym,Nz,h,if_true,Bool.true_and]
   exact ih _ _
theorem Zzu (s:Sl Mut) (hk:∀m∈s.l,m.key.length≤9223372036854775807) (hl:s.l.length≤9223372036854775807) (H:List Blk):EvF tab 137 [.g (Muts.g s)] H=some ⟨B (H6 s.l),[],[]⟩:=by
 have hq:=Zt (E:=EvF tab) (h:=H) (c:=A0) (lv:=[0,3,9,10,11]) (l:=s.l) (β:=List Bs) (γ:=Nat) (fun _ _=>True) (fun _ m met=>if (!(met.contains m.key)&&Up m)=true then .inl (met++[m.key]) else .inr 0)
  (fun k met o=>⟨[(0,.g (Muts.g s)),(3,.mp H.length),(9,.g (Muts.g s)),(10,I s.l.length),(11,I k)],[],.map (Rt met)::o⟩)
  (fun met o=>(.exit 0,⟨[(0,.g (Muts.g s)),(3,.mp H.length),(9,.g (Muts.g s)),(10,I s.l.length),(11,I s.l.length),(12,B false)],[],.map (Rt met)::o⟩))
  (fun _ o=>(.ret,⟨[(2,B false)],[],o⟩)) (by simp) (by simp) (fun k m met o hk2 hx hy hi => ?_) (fun met o _=>by delta A0;cases s <;> simp -implicitDefEqProofs) [] [] trivial
 ·obtain ⟨o',hq⟩:=hq
  simp only [Int.ofNat_zero,Int.cast_ofNat_Int] at hq
  refine Zb Ya2 (by simp) ?_
  unfold H6
  have e0:Rt []=[]:=rfl
  rw [e0] at hq
  by_cases h30:s.l.length≤30
  ·rcases Jv s.l 0 [] with ⟨b,k1,k2⟩ | ⟨k1,k2⟩ <;> rw [k1] at hq <;> simp only [Wj] at hq <;> simp -implicitDefEqProofs [hq,k2,h30,show (s.l.length:Int)≤30 by omega]
  ·rcases Jv s.l 0 [] with ⟨b,k1,k2⟩ | ⟨k1,k2⟩ <;> rw [k1] at hq <;> simp only [Wj] at hq <;> simp -implicitDefEqProofs [hq,k2,h30,show ¬(s.l.length:Int)≤30 by omega]
 ·have e2:=Zh hk2 (by omega)
  have h1:=fun H=>Zdh m.key (hk m (List.mem_of_getElem? hx)) H
  have g1:=Zzs m.key met
  have s1:=Zzt m.key met
  delta A0
  cases s with
  | nil=>simp at hk2
  | of l =>
   simp only [Sl.l_of] at hk2 hx hy hl ⊢
   unfold Up
   obtain ⟨mg,mk,mv,ml⟩:=m
   simp only at h1 g1 s1 ⊢
   cases hc:met.contains mk
   ·have s1:=s1 hc
    rw [hc] at g1
    generalize Ux mk=b1 at h1 ⊢
    cases b1
    ·simp only [Bool.and_false,Bool.false_and,Bool.false_eq_true,if_false]
     refine ⟨.map (Rt met)::(o++[.cells [B mg,T mk,T mv,I ml],.cells []]),?_⟩
     simp -implicitDefEqProofs [hk2,hy,Mut.c,Yc,g1,h1]
    ·by_cases d1:20<mv.length
     ·simp only [d1,decide_true,Bool.true_or,Bool.not_true,Bool.and_false,Bool.false_eq_true,if_false]
      refine ⟨.map (Rt met)::(o++[.cells [B mg,T mk,T mv,I ml],.cells []]),?_⟩
      simp -implicitDefEqProofs [hk2,hy,Mut.c,Yc,g1,h1,show (20:Int)<(mv.length:Int) by omega]
     ·have d1':¬(20:Int)<(mv.length:Int):=by omega
      by_cases d2:ml<0
      ·simp only [d1,d2,decide_true,decide_false,Bool.true_or,Bool.false_or,Bool.not_true,Bool.and_false,Bool.false_eq_true,if_false]
       refine ⟨.map (Rt met)::(o++[.cells [B mg,T mk,T mv,I ml],.cells []]),?_⟩
       simp -implicitDefEqProofs [hk2,hy,Mut.c,Yc,g1,h1,d1',d2]
      ·by_cases d3:1099511627775<ml
       ·simp only [d1,d2,d3,decide_true,decide_false,Bool.true_or,Bool.false_or,Bool.not_true,Bool.and_false,Bool.false_eq_true,if_false]
        refine ⟨.map (Rt met)::(o++[.cells [B mg,T mk,T mv,I ml],.cells []]),?_⟩
        simp -implicitDefEqProofs [hk2,hy,Mut.c,Yc,g1,h1,d1',d2,d3]
       ·simp only [d1,d2,d3,decide_false,Bool.false_or,Bool.not_false,Bool.true_and,if_true]
        refine ⟨trivial,(o++[.cells [B mg,T mk,T mv,I ml],.cells []]),?_⟩
        simp -implicitDefEqProofs [hk2,hy,Mut.c,Yc,g1,s1,h1,d1',d2,d3,e2]
   ·rw [hc] at g1
    simp only [Bool.not_true,Bool.false_and,Bool.false_eq_true,if_false]
    refine ⟨.map (Rt met)::(o++[.cells [B mg,T mk,T mv,I ml],.cells []]),?_⟩
    simp -implicitDefEqProofs [hk2,hy,Mut.c,Yc,g1]
theorem Zsy (x:Bs):∀l:List Mut,Z7 (fun y:Mut => !(y.key==x)) l = !((l.map (·.key)).contains x):=by
 intro l
 induction l with
 | nil=>rfl
 | cons y l ih =>
  rw [S7,ih]
  have e:(y.key==x)=(x==y.key):=by rw [Bool.eq_iff_iff,beq_iff_eq,beq_iff_eq];exact eq_comm
  simp only [List.map_cons,List.contains_cons,Bool.not_or,e]
theorem Zd8 (l:List Mut) (i:Nat) (x:Mut) (hx:l[i]? = some x) (hl:l.length≤9223372036854775807) (H o:List Blk) :
  Ya (EvF tab) H Fy [0,3,4] ⟨[(0,.g (.sl 4 (l.map Mut.c))),(3,I i),(4,I 0)],[],o⟩ =
   some (if ((l.take i).map (·.key)).contains x.key=false then (.exit 2,⟨[(0,.g (.sl 4 (l.map Mut.c))),(3,I i),(4,I i),(48,B false)],[],o⟩) else (.ret,⟨[(2,B false)],[],o⟩)):=by
 have hi:i<l.length:=(List.getElem?_eq_some_iff.1 hx).1
 have hx2:l[i]=x:=(List.getElem?_eq_some_iff.1 hx).2
 have hlen:(l.take i).length=i:=by simp;omega
 have hw:=Y4 (E:=EvF tab) (h:=H) (c:=Fy) (lv:=[0,3,4]) (l:=l.take i) (fun y:Mut => !(y.key==x.key)) (fun k=>⟨[(0,.g (.sl 4 (l.map Mut.c))),(3,I i),(4,I k)],[],o⟩)
  (.exit 2,⟨[(0,.g (.sl 4 (l.map Mut.c))),(3,I i),(4,I i),(48,B false)],[],o⟩) (.ret,⟨[(2,B false)],[],o⟩) (by simp) (by simp) (fun k y hk hy hy2 => ?_) (by delta Fy;rw [hlen];simp -implicitDefEqProofs)
 ·rw [Zsy] at hw
  have e0:((0:Nat):Int)=0:=rfl
  simp only [e0] at hw
  rw [hw]
  cases ((l.take i).map (·.key)).contains x.key <;> rfl
 ·rw [hlen] at hk
  have hy3:l[k]? = some y:=by rw [List.getElem?_take_of_lt hk] at hy;exact hy
  have hk2:k<l.length:=by omega
  have hy4:l[k]=y:=(List.getElem?_eq_some_iff.1 hy3).2
  have e2:=Zh hk2 hl
  have hkI:(k:Int)<(i:Int):=by omega
  delta Fy
  by_cases hq:y.key=x.key
  ·simp -implicitDefEqProofs [hk2,hi,hx2,hy4,Mut.c,hkI,hk,hq]
  ·simp -implicitDefEqProofs [hk2,hi,hx2,hy4,Mut.c,hkI,hk,hq,e2]
theorem Zsz (s:Sl Mut) (hk:∀m∈s.l,m.key.length≤9223372036854775807) (hl:s.l.length≤9223372036854775807) (H:List Blk):EvF tab 140 [.g (Muts.g s)] H=some ⟨B (H6 s.l),[],[]⟩:=by
 have hq:=Zt (E:=EvF tab) (h:=H) (c:=A2) (lv:=[0,3]) (l:=s.l) (β:=List Bs) (γ:=Nat) (fun k met=>met=(s.l.take k).map (·.key)) (fun _ m met=>if (!(met.contains m.key)&&Up m)=true then .inl (met++[m.key]) else .inr 0)
  (fun k met o=>⟨[(0,.g (Muts.g s)),(3,I k)],[],o⟩)
  (fun met o=>(.exit 0,⟨[(0,.g (Muts.g s)),(3,I s.l.length),(11,B false)],[],o⟩))
  (fun _ o=>(.ret,⟨[(2,B false)],[],o⟩)) (by simp) (by simp) (fun k m met o hk2 hx hy hi => ?_) (fun met o _=>by delta A2;cases s <;> simp -implicitDefEqProofs) [] [] (by simp)
 ·obtain ⟨o',hq⟩:=hq
  simp only [Int.ofNat_zero,Int.cast_ofNat_Int] at hq
  refine Zb Ya5 (by simp) ?_
  unfold H6
  by_cases h30:s.l.length≤30
  ·rcases Jv s.l 0 [] with ⟨b,k1,k2⟩ | ⟨k1,k2⟩ <;> rw [k1] at hq <;> simp only [Wj] at hq <;> simp -implicitDefEqProofs [hq,k2,h30,show ¬(30:Int)<(s.l.length:Int) by omega]
  ·simp -implicitDefEqProofs [h30,show (30:Int)<(s.l.length:Int) by omega]
 ·have e2:=Zh hk2 (by omega)
  have h1:=fun H=>Cl m.key (hk m (List.mem_of_getElem? hx)) H
  have hnext:met++[m.key]=(s.l.take (k+1)).map (·.key):=by
   rw [List.take_succ_eq_append_getElem hk2,List.map_append,hi,hy];rfl
  delta A2
  cases s with
  | nil=>simp at hk2
  | of l =>
   simp only [Sl.l_of] at hk2 hx hy hl hi hnext ⊢
   have hin:=fun o=>Zd8 l k m hx hl H o
   rw [←hi] at hin
   unfold Up
   obtain ⟨mg,mk,mv,ml⟩:=m
   simp only at h1 hin hnext ⊢
   have fail:∀c:Bool,Up ⟨mg,mk,mv,ml⟩=false→(if (!c&&Up ⟨mg,mk,mv,ml⟩)=true then (.inl (met++[mk]):List Bs⊕Nat) else .inr 0) = .inr 0:=fun c h=>by rw [h,Bool.and_false];rfl
   unfold Up at fail
   generalize Ux mk=b1 at h1 fail ⊢
   cases b1
   ·rw [fail _ rfl]
    refine ⟨o,?_⟩
    simp -implicitDefEqProofs [hk2,hy,Mut.c,h1]
   ·by_cases d1:20<mv.length
    ·rw [fail _ (by simp [d1])]
     refine ⟨o,?_⟩
     simp -implicitDefEqProofs [hk2,hy,Mut.c,h1,show (20:Int)<(mv.length:Int) by omega]
    ·have d1':¬(20:Int)<(mv.length:Int):=by omega
     by_cases d2:ml<0
     ·rw [fail _ (by simp [d2])]
      refine ⟨o,?_⟩
      simp -implicitDefEqProofs [hk2,hy,Mut.c,h1,d1',d2]
     ·by_cases d3:1099511627775<ml
      ·rw [fail _ (by simp [d3])]
       refine ⟨o,?_⟩
       simp -implicitDefEqProofs [hk2,hy,Mut.c,h1,d1',d2,d3]
      ·simp only [d1,d2,d3,decide_false,Bool.false_or,Bool.not_false,Bool.true_and,Bool.and_true]
       cases hc:met.contains mk
       ·rw [hc] at hin
        simp only [if_true] at hin
        simp only [Bool.not_false,if_true]
        refine ⟨hnext,o,?_⟩
        simp -implicitDefEqProofs [hk2,hy,Mut.c,h1,d1',d2,d3,hin,e2]
       ·rw [hc] at hin
        simp only [Bool.true_eq_false,if_false] at hin
        simp only [Bool.not_true,Bool.false_eq_true,if_false]
        refine ⟨o,?_⟩
        simp -implicitDefEqProofs [hk2,hy,Mut.c,h1,d1',d2,d3,hin]
def Ti (rev:Int) (l:List KV) (m:Mut):Ev:=⟨rev,m.gone,if m.gone=true then W6 l m.key else Si l m rev⟩
def evF (R:Sl KV→Ev→Sl KV) (rev:Int) (b:List Ev×Sl KV×Bool) (m:Mut):List Ev×Sl KV×Bool :=
 if (m.gone && !Ua b.2.1.l m.key)=true then b else (b.1++[Ti rev b.2.1.l m],R b.2.1 (Ti rev b.2.1.l m),b.2.2||decide (30<(R b.2.1 (Ti rev b.2.1.l m)).l.length))
def evP (rev:Int) (b:List Ev×List KV×Bool) (m:Mut):List Ev×List KV×Bool :=
 if (m.gone && !Ua b.2.1 m.key)=true then b else (b.1++[Ti rev b.2.1 m],Uf rev b.2.1 (Ti rev b.2.1 m),b.2.2||decide (30<(Uf rev b.2.1 (Ti rev b.2.1 m)).length))
theorem Zs0 (R:Sl KV→Ev→Sl KV) (rev:Int) (hR:∀b e,(R b e).l=Uf rev b.l e):∀(ms:List Mut) (b:List Ev×Sl KV×Bool),
  (let c:=ms.foldl (evF R rev) b;(c.1,c.2.1.l,c.2.2))=ms.foldl (evP rev) (b.1,b.2.1.l,b.2.2)
 | [],b=>rfl
 | m::ms,b=>by
  rw [List.foldl_cons,List.foldl_cons,Zs0 R rev hR ms]
  congr 1
  unfold evF evP
  simp only
  split
  ·rfl
  ·simp only [hR]
theorem Zap (rev:Int):∀(ms:List Mut) (b:List Ev×List KV×Bool),(ms.foldl (evP rev) b).1.length≤b.1.length+ms.length
 | [],b=>by simp
 | m::ms,b=>by
  rw [List.foldl_cons]
  have h:=Zap rev ms (evP rev b m)
  have h2:(evP rev b m).1.length≤b.1.length+1:=by unfold evP;split <;> simp
  simp only [List.length_cons];omega
theorem Zn2 (s:Sl KV) (ms:Sl Mut) (rev:Int) (hl:s.l.length+ms.l.length≤200000) (H:List Blk) :
  EvF tab 138 [.g (KVs.g s),.g (Muts.g ms),I rev] H=some ⟨.tup [.g (Evs.g (Zz (ms.l.foldl (evF (Ug rev) rev) ([],s,false)).1)),B (ms.l.foldl (evF (Ug rev) rev) ([],s,false)).2.2],[],[]⟩:=by
 have hw:=Zt (E:=EvF tab) (h:=H) (c:=A1) (lv:=[0,2,8,9,15,16,17]) (l:=ms.l) (β:=List Ev×Sl KV×Bool) (γ:=Unit) (fun k b=>b.1.length≤k∧b.2.1.l.length≤s.l.length+k) (fun k m b => .inl (evF (Ug rev) rev b m))
  (fun k b o=>⟨[(0,.g (KVs.g b.2.1)),(2,I rev),(8,.ms (H.length+1) (b.1.length+1) 8 0 b.1.length),(9,B b.2.2),(15,.g (Muts.g ms)),(16,I ms.l.length),(17,I k)],[],.rows 8 1 [] :: .rows 8 (b.1.length+1) (b.1.map Ev.c)::o⟩)
  (fun b o=>(.exit 0,⟨[(0,.g (KVs.g b.2.1)),(2,I rev),(8,.ms (H.length+1) (b.1.length+1) 8 0 b.1.length),(9,B b.2.2),(15,.g (Muts.g ms)),(16,I ms.l.length),(17,I ms.l.length),(18,B false)],[],.rows 8 1 [] :: .rows 8 (b.1.length+1) (b.1.map Ev.c)::o⟩))
  (fun _ o=>(.ret,⟨[],[],o⟩)) (by simp) (by simp) (fun k m b o hk hx hy hi => ?_) (fun b o _=>by delta A1;cases ms <;> simp -implicitDefEqProofs) ([],s,false) [] (by simp)
 ·obtain ⟨o',hw⟩:=hw
  rw [Uy] at hw
  have e0:((0:Nat):Int)=0:=rfl
  simp only [e0,Wj,List.length_nil,List.map_nil,Nat.zero_add] at hw
  refine Zb Ya3 (by simp) ?_
  generalize ms.l.foldl (evF (Ug rev) rev) ([],s,false)=r at hw ⊢
  obtain ⟨r1,r2,r3⟩:=r
  have e3:List.take r1.length (List.map Ev.c r1)=List.map Ev.c r1:=List.take_of_length_le (by simp)
  unfold Zz
  cases r1 with
  | nil=>cases ms <;> simp only [Muts.g,Sl.g_nil,Sl.g_of,Sl.l_nil,Sl.l_of,List.length_nil,e0] at hw <;> simp -implicitDefEqProofs [hw]
  | cons x r1 =>
   have e4:List.take r1.length (List.map Ev.c r1)=List.map Ev.c r1:=List.take_of_length_le (by simp)
   cases ms <;> simp only [Muts.g,Sl.g_nil,Sl.g_of,Sl.l_nil,Sl.l_of,List.length_nil,e0] at hw <;> simp -implicitDefEqProofs [hw,e3,e4]
 ·obtain ⟨hi1,hi2⟩:=hi
  have e2:=Zh hk (by omega)
  obtain ⟨r,t,f⟩:=b
  simp only at hi1 hi2 ⊢
  have h1:=fun H=>H9 t m.key (by omega) H
  have h2:=fun H=>Zkw t m rev (by omega) H
  obtain ⟨e,he⟩:∃e,Ti rev t.l m=e:=⟨_,rfl⟩
  have h3:=fun H=>Kg t (.of [e]) rev (by simp only [Sl.l_of,List.length_cons,List.length_nil];omega) H
  have h4:Wr t (Sl.of [e]).l rev=Ug rev t e:=rfl
  rw [h4] at h3
  have h5:=Qq rev t.l e
  rw [←Nb] at h5
  delta A1
  cases ms with
  | nil=>simp at hk
  | of l =>
   simp only [Sl.l_of] at hk hx hy hl ⊢
   have e3:List.take r.length (List.map Ev.c r)=List.map Ev.c r:=List.take_of_length_le (by simp)
   unfold evF
   simp only
   rw [he]
   unfold Ti at he
   obtain ⟨mg,mk,mv,ml⟩:=m
   simp only at h1 h2 he ⊢
   have n1:r.length+1≤140737488355328:=by omega
   have n2:(r.length+1)*80≤140737488355328:=by omega
   cases mg
   ·simp only [Bool.false_eq_true,if_false,Bool.false_and] at he ⊢
    subst he
    generalize Si t.l ⟨false,mk,mv,ml⟩ rev=x at h2 h3 h5 ⊢
    generalize Ug rev t ⟨rev,false,x⟩=R at h3 h5 ⊢
    refine ⟨⟨by simp;omega,by omega⟩,o++[.cells [B false,T mk,T mv,I ml],.cells ((Ev.c ⟨rev,false,x⟩).map .g)],?_⟩
    obtain ⟨x1,x2,x3,x4,x5,x6⟩:=x
    simp only [A,Mut.c,KV.c,Ev.c,Evs.g,Sl.g_of,List.map_cons,List.map_nil] at h2 h3 ⊢
    cases f
    ·by_cases d:30<R.l.length
     ·simp -implicitDefEqProofs [hk,hy,Mut.c,Ev.c,Yc,h2,h3,Zx,Yh,room,Nat.not_succ_le_self,n1,n2,e3,e2,d,show (30:Int)<(R.l.length:Int) by omega]
     ·simp -implicitDefEqProofs [hk,hy,Mut.c,Ev.c,Yc,h2,h3,Zx,Yh,room,Nat.not_succ_le_self,n1,n2,e3,e2,d,show ¬(30:Int)<(R.l.length:Int) by omega]
    ·simp -implicitDefEqProofs [hk,hy,Mut.c,Ev.c,Yc,h2,h3,Zx,Yh,room,Nat.not_succ_le_self,n1,n2,e3,e2]
   ·simp only [if_true,Bool.true_and] at he ⊢
    subst he
    generalize W6 t.l mk=x at h1 h3 h5 ⊢
    generalize Ug rev t ⟨rev,true,x⟩=R at h3 h5 ⊢
    obtain ⟨x1,x2,x3,x4,x5,x6⟩:=x
    simp only [A,Mut.c,KV.c,Ev.c,Evs.g,Sl.g_of,List.map_cons,List.map_nil] at h1 h3 ⊢
    cases hb:Ua t.l mk
    ·rw [hb] at h1
     simp only [Bool.not_false,if_true]
     refine ⟨⟨by omega,by omega⟩,o++[.cells [B true,T mk,T mv,I ml],.cells [I rev,B true,T [],T [],I 0,I 0,I 0,I 0],.cells [T x1,T x2,I x3,I x4,I x5,I x6]],?_⟩
     simp -implicitDefEqProofs [hk,hy,Mut.c,Ev.c,Yc,h1,e2]
    ·rw [hb] at h1
     simp only [Bool.not_true,Bool.false_eq_true,if_false]
     refine ⟨⟨by simp;omega,by omega⟩,o++[.cells [B true,T mk,T mv,I ml],.cells [I rev,B true,T x1,T x2,I x3,I x4,I x5,I x6],.cells [T x1,T x2,I x3,I x4,I x5,I x6]],?_⟩
     cases f
     ·by_cases d:30<R.l.length
      ·simp -implicitDefEqProofs [hk,hy,Mut.c,Ev.c,Yc,h1,h3,Zx,Yh,room,Nat.not_succ_le_self,n1,n2,e3,e2,d,show (30:Int)<(R.l.length:Int) by omega]
      ·simp -implicitDefEqProofs [hk,hy,Mut.c,Ev.c,Yc,h1,h3,Zx,Yh,room,Nat.not_succ_le_self,n1,n2,e3,e2,d,show ¬(30:Int)<(R.l.length:Int) by omega]
     ·simp -implicitDefEqProofs [hk,hy,Mut.c,Ev.c,Yc,h1,h3,Zx,Yh,room,Nat.not_succ_le_self,n1,n2,e3,e2]
theorem Zs1:∃m msg m' msg',tab.T 139=some (Sy 8 80 177 m msg)∧tab.T 177=some (M4 8 80 [.int .i64 0,.bool false,.str [],.str [],.int .i64 0,.int .i64 0,.int .i64 0,.int .i64 0] m' msg') :=
 ⟨_,_,_,_,Ya4,Yb3⟩
theorem Zho (a b:Sl Ev) (hn:a.l.length+b.l.length≤1000000) (H:List Blk) :
  EvF tab 139 [.g (.sl 1 [[Evs.g a],[Evs.g b]])] H=some ⟨.g (Fp 8 Ev.c (a.l++b.l)),[],[]⟩:=by
 obtain ⟨m,msg,m',msg',h1,h2⟩:=Zs1
 exact Qo h1 h2 a b (by omega) (by omega) H
def Yt (s:Ze) (ms:List Mut):List Ev×List KV×Bool:=ms.foldl (evP (s.rev+1)) ([],Wy s.base.l s.log.l s.rev,false)
def Y9 (s:Ze) (ms:List Mut):Int :=
 if H6 ms=true then (if (Yt s ms).1=[] then 0 else if (Yt s ms).2.2=true∨s.rev=1099511627774∨60<s.log.l.length+(Yt s ms).1.length then 4 else 0) else 1
def Uq (s:Ze) (ms:List Mut):Bool:=decide (Y9 s ms=0) && !decide ((Yt s ms).1=[])
def Xj (s:Ze) (ms:List Mut):Ze:=if Uq s ms=true then ⟨s.rev+1,s.low,s.base,.of (s.log.l++(Yt s ms).1)⟩ else s
def Tj (s:Ze) (ms:List Mut):Sl Ev:=if Uq s ms=true then .of (Yt s ms).1 else .nil
theorem Zd9 (s:Ze) (ms:Sl Mut) (hs:Z8 s) (hr : -1≤s.rev∧s.rev≤4611686018427387904) (hk:∀m∈ms.l,m.key.length≤9223372036854775807) (hm:ms.l.length≤10000) (H:List Blk) :
  EvF tab 66 [A s.c,.g (Muts.g ms)] H=some ⟨.tup [A (Xj s ms.l).c,.g (Evs.g (Tj s ms.l)),I (Y9 s ms.l)],[],[]⟩:=by
 have hs':=hs
 unfold Z8 at hs'
 have m1:=fun H=>Zzu ms hk (by omega) H
 have m2:=fun H=>Zan s hs H
 have hnl:=Vp s.rev s.log.l s.base.l
 have hR:=W0 s.rev s.log.l s.base
 have m3:=fun H=>Zn2 (Wr s.base s.log.l s.rev) ms (s.rev+1) (by rw [hR];omega) H
 have hP:=Zs0 (Ug (s.rev+1)) (s.rev+1) (fun b e=>Nb _ b e) ms.l ([],Wr s.base s.log.l s.rev,false)
 simp only [hR] at hP
 have hel:=Zap (s.rev+1) ms.l ([],Wy s.base.l s.log.l s.rev,false)
 rw [show ms.l.foldl (evP (s.rev+1)) ([],Wy s.base.l s.log.l s.rev,false)=Yt s ms.l from rfl] at hP hel
 have hP1:(ms.l.foldl (evF (Ug (s.rev+1)) (s.rev+1)) ([],Wr s.base s.log.l s.rev,false)).1=(Yt s ms.l).1:=by rw [←hP]
 have hP2:(ms.l.foldl (evF (Ug (s.rev+1)) (s.rev+1)) ([],Wr s.base s.log.l s.rev,false)).2.2=(Yt s ms.l).2.2:=by rw [←hP]
 rw [hP1,hP2] at m3
 refine Zb t66 (by simp) ?_
 unfold Xj Tj Uq Y9
 generalize Wr s.base s.log.l s.rev=N at m2 m3
 generalize (Yt s ms.l).1=E1 at m3 hel ⊢
 generalize (Yt s ms.l).2.2=full at m3 ⊢
 generalize H6 ms.l=b0 at m1 ⊢
 simp only [List.length_nil,Nat.zero_add] at hel
 have w1:IntKind.i64.wrap (s.rev+1)=s.rev+1:=wrap_i64 (by omega) (by omega)
 obtain ⟨srev,Y5,Zy,Z3⟩:=s
 simp only at hr hs' hnl m2 m3 w1 ⊢
 have cc:=fun H=>Zho Z3 (.of E1) (by simp;omega) H
 simp only [Sl.l_of,Na] at cc
 have hll:X4=X4:=rfl
 generalize hg0:Muts.g ms=G0 at m1 m3
 generalize hg1:KVs.g Zy=G1 at m2
 simp only [A,Ze.c,hg1,List.map_cons,List.map_nil] at m2
 cases b0
 ·simp -implicitDefEqProofs [Yc,A,Ze.c,hg0,hg1,m1]
 ·cases E1 with
  | nil =>
   simp only [Zz,if_true] at m3
   simp -implicitDefEqProofs [Yc,A,Ze.c,hg0,hg1,m1,m2,m3,w1]
  | cons e E1 =>
   simp only [Zz,reduceCtorEq,if_false] at m3
   have hne:¬(E1.length:Int)+1=0:=by omega
   cases full
   ·by_cases c1:srev=1099511627774
    ·subst c1
     rw [show (1099511627774:Int)+1=1099511627775 from rfl] at m3 w1
     simp -implicitDefEqProofs [Yc,A,Ze.c,hg0,hg1,m1,m2,m3,w1,hne]
    ·have hq:IntKind.i64.wrap ((Z3.l.length:Int)+((E1.length:Int)+1))=(Z3.l.length:Int)+((E1.length:Int)+1):=wrap_i64 (by omega) (by simp only [List.length_cons] at hel;omega)
     by_cases c2:60<Z3.l.length+(E1.length+1)
     ·simp -implicitDefEqProofs [Yc,A,Ze.c,hg0,hg1,m1,m2,m3,w1,c1,hq,hne,c2,show (60:Int)<(Z3.l.length:Int)+((E1.length:Int)+1) by omega]
     ·have hso:Zz (Z3.l++e::E1) = .of (Z3.l++e::E1):=by cases Z3.l <;> rfl
      rw [hso] at cc
      simp only [Evs.g,Sl.g_of,List.map_cons,List.map_append] at cc m2 m3 ⊢
      have hb:¬(60:Int)<(Z3.l.length:Int)+((E1.length:Int)+1):=by omega
      cases Z3 with
      | nil =>
       simp only [Sl.l_nil,Sl.g_nil,List.nil_append,List.map_nil,List.length_nil,Int.natCast_zero,Int.ofNat_zero,Int.zero_add,Nat.zero_add] at cc m2 hq hb c2 ⊢
       have hq1:IntKind.i64.wrap ((E1.length:Int)+1)=(E1.length:Int)+1:=wrap_i64 (by omega) (by omega)
       simp -implicitDefEqProofs [Yc,A,Ze.c,hg0,hg1,m1,m2,m3,w1,c1,hq,hne,hb,c2,cc,Zx,show E1.length≤59 by omega,hq1]
      | of sl =>
       simp only [Sl.l_of,Sl.g_of] at cc m2 hq hb c2 ⊢
       simp -implicitDefEqProofs [Yc,A,Ze.c,hg0,hg1,m1,m2,m3,w1,c1,hq,hne,hb,c2,cc,Zx]
   ·simp -implicitDefEqProofs [Yc,A,Ze.c,hg0,hg1,m1,m2,m3,w1,hne]
end Go.Proofs.YtndfdnlbljhlgaaGreat
