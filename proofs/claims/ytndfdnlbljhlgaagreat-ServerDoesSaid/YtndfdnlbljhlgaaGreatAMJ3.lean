/- Part of the proof: the abstract machine, part 3. No conditions. -/
import Derived.Test.YtndfdnlbljhlgaaGreatAMJ2
import Derived.RangeFuncRecord
import Derived.ChangeArms
import Derived.OpenShut
import Derived.SizedLaws
import Derived.Carry
import Derived.Laws.Externs
import Derived.Sort.OwnSortedInts
import Derived.Lib.SlKeysI
set_option linter.constructorNameAsVariable false
set_option linter.unusedSimpArgs false
set_option linter.unusedVariables false
set_option maxRecDepth 4000
namespace Go.AM
open Go
def Ab (ops:Array Oper):Nat:=B8 ops ops.size
def dead:IC := .reg [] [⟨none,none,.row 0 []⟩]
def Z02:Nat:=999999
def U8 (P:Program) (nt:Nat) (top:Bool):Code→List (List Nat)→Option (IC×List (List Nat))
 | .skip,hs=>some (.skip,hs)
 | .region _ ops draw,hs=>match hs with
  | lv::hs=>if Sx ops=true then (if draw=true then match hs with
    | ts::hs=>(if Region.noSelect ops=true then match Sc P nt ops (!ts.isEmpty) ops.size true (Array.replicate ops.size false) with
     | some t=>some (.drw lv (Ab ops) (if ts.isEmpty=true then t else .hold ts t),hs)
     | none=>none else none)
    | []=>none
    else if lv.head? = some Z02 then match Zi3 P nt ops ops.toList with
     | some al=>some (.regy lv.tail al,hs)
     | none=>none
    else match Zqc P nt ops ops.toList with
     | some al=>some (.reg lv al,hs)
     | none=>none) else none
  | []=>none
 | .seq a b,hs=>match U8 P nt top a hs with
  | some (x,hs)=>match U8 P nt top b hs with
   | some (y,hs)=>some (.seq x y,hs)
   | none=>none
  | none=>none
 | .cond c a b,hs=>match hs with
  | lv::hs=>match Z6 c with
   | some c=>match U8 P nt top a hs with
    | some (x,hs)=>match U8 P nt top b hs with
     | some (y,hs)=>some (.cond lv c x y,hs)
     | none=>none
    | none=>none
   | none=>none
  | []=>none
 | .block id a,hs=>match hs with
  | lv::hs=>match U8 P nt top a hs with
   | some (x,hs)=>some (.block lv id x,hs)
   | none=>none
  | []=>none
 | .loop a,hs=>match hs with
  | lv::hs=>match U8 P nt top a hs with
   | some (x,hs)=>some (.loop lv [] x,hs)
   | none=>none
  | []=>none
 | .rangeFunc g ps a b,hs=>match hs with
  | [key]::lv::lt::hs=>if top=true then match Z6 g with
    | some f=>some (.rfun lv ⟨key,nt,ps,a,b⟩ lt f,hs)
    | none=>none
   else some (dead,lv::lt::hs)
  | hs=>some (dead,hs)
 | .exit id,hs=>some (.exit id,hs)
 | .label _,hs=>some (.skip,hs)
 | .scope a,hs=>U8 P nt top a hs
 | .ret,hs=>some (.ret,hs)
 | _,hs=>some (dead,hs)
theorem Je {E:FnS} {h:List Blk} {s:St}:Zo E h dead s=none:=by
 simp only [dead,Zo,Vy,Wh,gdo,Ye,AOp.acts,evP]
 rfl
def Z6r:Ex→Exit
 | .normal => .normal
 | .exit id => .exit id
 | .ret => .ret
theorem Qm {α:Type} {f:Nat→Option α} {r:α} (h:lim f=some r):∃n,f n=some r:=by
 unfold lim at h
 split at h
 ·rename_i hx;exact ⟨_,h⟩
 ·cases h
section
variable {n0:Nat} {P:Program} {w0:World} {L0:Nat→Lc} {h:List Blk} {nt:Nat} {E:FnS}
def Ends (n0:Nat) (w0:World) (L0:Nat→Lc) (h:List Blk) (nt:Nat) (e:Ex) (s:St):Exit→Act→World→Prop :=
 fun e' a' w'=>e'=Z6r e∧∃L',SR n0 w0 L0 h nt s a' w' L'
theorem Mu {lv:List Nat} {r:Out} {e:Ex} {s':St} (he:kpN lv r=some (e,s')):∃s1,r=some (e,s1)∧((e = .normal∧s'=s1.kp lv)∨(e ≠ .normal∧s'=s1)):=by
 unfold kpN at he
 split at he
 ·cases he;exact ⟨_,rfl,.inl ⟨rfl,rfl⟩⟩
 ·rename_i hn
  subst he
  exact ⟨s',rfl,.inr ⟨fun e'=>hn s' (by rw [e']),rfl⟩⟩
theorem Zi4 {lv:List Nat} {r:Out} {e:Ex} {s':St} {e':Exit} {a':Act} {w':World} (he:kpN lv r=some (e,s')) (hr:∀s1,r=some (e,s1)→Ends n0 w0 L0 h nt e s1 e' a' w') :
  Ends n0 w0 L0 h nt e s' e' a' w':=by
 obtain ⟨s1,h1,h2⟩:=Mu he
 obtain ⟨k1,L',k2⟩:=hr s1 h1
 rcases h2 with ⟨rfl,rfl⟩ | ⟨_,rfl⟩
 ·exact ⟨k1,L',k2.kp lv⟩
 ·exact ⟨k1,L',k2⟩
theorem Zvj (hE:Og P E) {s s':St} {a:Act} {w:World} {L:Nat→Lc} {e:Ex} (hs:SR n0 w0 L0 h nt s a w L) {g:Operand} {rd:RD} {fo:Opd} {lv lt:List Nat} {fn:Nat} (hg:Z6 g=some fo) (hnt:rd.nt=nt)
  (he:Zbl E h lv rd lt fo s=some (e,s')):(Code.rangeFunc g rd.ps rd.assign rd.body).wpIn (Uv none) fn P (Ends n0 w0 L0 h nt e s') a w:=by
 unfold Zbl at he
 split at he
 case h_2=>cases he
 rename_i f c caps hfv
 split at he
 case h_2=>cases he
 rename_i v s2 ws hfin
 obtain ⟨s1,hs1⟩:∃s1,s.push (.lp rd (keep s.t lt) none)=s1:=⟨_,rfl⟩
 rw [hs1] at hfin
 have hf1:full h s1=full h s++[.lp rd (keep s.t lt) none]:=by rw [←hs1,Us]
 refine wpIn_rangeFunc ?_
 intro fn' _
 obtain ⟨rec,hrec⟩:∃rec:Loop,rec={ state := .ready,pending:=none,fn:=fn',tmps:=a.tmps,params:=rd.ps,assign:=rd.assign,body:=rd.body,defers:=w.heap.size }:=⟨_,rfl⟩
 obtain ⟨W1,hW1⟩:∃W1,(w.alloc (.deferred (some []))).alloc (.loop rec)=W1:=⟨_,rfl⟩
 have hL1:W1.heap[w.heap.size+1]? = some (.loop rec):=by
  rw [←hW1];have:=World.alloc_heap_new (w.alloc (.deferred (some []))) (.loop rec);rwa [World.size_alloc] at this
 have hK1:W1.heap[w.heap.size]? = some (.deferred (some [])):=by
  rw [←hW1];exact (RowKit.Below.heap_alloc _ _ _ (by simp)).trans (World.alloc_heap_new w _)
 have hgr:Y1 w W1:=by
  rw [←hW1];exact (Y1.push w (.deferred (some []))).trans (Y1.push _ (.loop rec))
 have hT:TR (Zc w (full h s) L) a (keep s.t lt):=hs.tr.keep lt
 obtain ⟨k1,k2,k3⟩:=hs.hr.add_same hgr (.lp rd (keep s.t lt) none) ⟨some (w.heap.size+1),0,0,true⟩ (by simp) (fun he=>by
  refine ⟨?_,w.heap.size+1,rec,?_,hL1,?_⟩
  ·show ((Zw L (full h s).length _) (full h s).length).st=true;rw [Zd]
  ·show ((Zw L (full h s).length _) (full h s).length).blk=_;rw [Zd]
  ·rw [hrec]
   exact ⟨rfl,rfl,rfl,by rw [hnt];exact hs.sz,⟨rfl,rfl⟩,fun i v hi=>(hT i v hi).mono he⟩) []
 rw [←hf1] at k1 k2
 obtain ⟨L1,hLe⟩:∃L1,Zw L (full h s).length ⟨some (w.heap.size+1),0,0,true⟩=L1:=⟨_,rfl⟩
 have hid1:L1 (full h s).length=⟨some (w.heap.size+1),0,0,true⟩:=by rw [←hLe,Zd]
 rw [hLe] at k1 k2 k3
 have hid:s.next h=(full h s).length:=by rw [Yw]
 rw [hid] at hfin he
 have hidlt:(full h s).length<(full h s1).length:=by rw [hf1];simp
 have SR1:SR n0 w0 L0 h nt s1 a W1 L1:=by
  have:=hs.go (d:=none) rfl k1 (v := .undef) (cv:=Go.undef) (by rw [←hs1];simp [St.push]) .undef k2 k3 (by rw [←hs1];exact Kp.o rfl _ rfl) (Wo h s)
  exact this
 have hcf:=Zl hs.tr hg hfv
 obtain ⟨C,hC,hCn,hCa⟩:∃C,a.eval g = .func (.func f) #[] C∧(c::caps).length=C.size∧∀(j:Nat) (x:AV) (u:Value),(c::caps)[j]? = some x→C[j]? = some u→AR (Zc w (full h s) L) x u:=by
  generalize a.eval g=q at hcf
  cases hcf with
  | fv hn hc=>exact ⟨_,rfl,hn,hc⟩
 cases hq:E f (.yv (full h s).length::c::caps) (full h s1) with
 | none=>rw [hq] at hfin;cases hfin
 | some res =>
  rw [hq] at hfin
  obtain ⟨rfl,rfl,e3,e4,e5⟩:=fin_inv hfin
  have hargs:Gp (Zc W1 (full h s1) L1) (.yv (full h s).length::c::caps) (#[.func (.yield (w.heap.size+1)) #[] #[]]++C):=by
   refine ⟨by simp at hCn ⊢;omega,fun j x u hx hu => ?_⟩
   cases j with
   | zero =>
    rw [Array.getElem?_append_left (by simp)] at hu
    simp at hx hu
    subst hx hu
    exact .yv hidlt (by show (L1 _).st=true;rw [hid1]) (by show (L1 _).blk=_;rw [hid1])
   | succ j =>
    refine (hCa j x u (by simpa using hx) ?_).mono k2
    rw [Array.getElem?_append_right (by simp)] at hu
    simpa using hu
  rcases (hE _ _ _ _ hq).1 W1 L1 _ k1 hargs with ⟨c1,c2⟩ | ⟨c0,_⟩
  case inr =>
   rw [Array.size_append] at c0
   simp only [List.length_cons] at hCn
   have:(#[Value.func (.yield (w.heap.size+1)) #[] #[]]:Array Value).size=1:=rfl
   omega
  refine ⟨w.heap.size+1,[{ target := .collected w.heap.size,args := #[] }],W1,{ target := .fn (.func f) C,args := #[.func (.yield (w.heap.size+1)) #[] #[]] },W1,f,
   #[.func (.yield (w.heap.size+1)) #[] #[]]++C,W1,?_,?_,fun _ _=>Ms none _,?_,(fun hd=>by rw [Oh] at hd;cases hd),?_⟩
  ·rw [←hW1,hrec];exact run_enterLoop_outer _ _ _ _ _
  ·simp only [resolve,hC]
   simp [go_sem]
  ·simpa [invoke,go_sem] using c1
  ·refine callsIn_wide.2 (Calls.mono c2 fun e' w3 ⟨cv,he',L3,q1,q2,q3,q4⟩ => ?_)
   subst he'
   rw [←e3] at q1 q2 q3
   have SR2:SR n0 w0 L0 h nt s2 a w3 L3:=by
    have:=SR1.go (d:=none) rfl q2 (v := .undef) (cv:=Go.undef) e4 .undef q3 q4 e5 (Wo h s1)
    exact this
   have hl3:L3 (full h s).length=⟨some (w.heap.size+1),0,0,true⟩:=by
    have:=q3.loc (full h s).length hidlt
    have:=this.gen0 (by show (L1 _).st=true;rw [hid1])
    exact this.trans hid1
   have turn:∀(rd':RD) (t':List (Nat×AV)) (j:Option (Option Nat)),Yp h s2 (full h s).length=some (.lp rd' t' j)→∃w4 L4,(Instr.endLoop (w.heap.size+1)).run P w3 = .ok (j.map Pt) w4 ∧
     SR n0 w0 L0 h nt (setB h s2 (full h s).length .hid) { a with defers:=[{ target := .collected w.heap.size,args := #[] }]++a.defers } w4 L4:=by
    intro rd' t' j hB
    have hB':(full h s2)[(full h s).length]? = some (.lp rd' t' j):=by rw [Z9];exact hB
    obtain ⟨z1,b,r,z2,z3,z4⟩:=q2.blk _ _ hB'
    have hb:b=w.heap.size+1:=by
     have:(L3 (full h s).length).blk=some b:=z2
     rw [hl3] at this;exact (Option.some.inj this).symm
    subst hb
    have hz3:w3.heap[w.heap.size+1]? = some (.loop r):=z3
    obtain ⟨y1,y2,y3,y4,y5,y6⟩:=z4
    have hst:r.state ≠ .busy∧r.pending=j.map Pt:=by
     cases j with
     | none=>obtain ⟨u1,u2⟩:=y5;rw [u1,u2];exact ⟨by decide,rfl⟩
     | some j=>obtain ⟨u1,u2⟩:=y5;rw [u1,u2];exact ⟨by decide,rfl⟩
    have hend:=run_endLoop (P:=P) hz3 hst.1
    obtain ⟨w4,hw4⟩:∃w4,w3.putObj (w.heap.size+1) (.loop { r with state := .exhausted })=w4:=⟨_,rfl⟩
    rw [hw4,hst.2] at hend
    have hother:∀b',b' ≠ w.heap.size+1→w4.heap[b']? = w3.heap[b']?:=fun b' hb'=>by rw [←hw4];exact World.putObj_heap_other hb'
    have hsz4:w4.heap.size=w3.heap.size:=by rw [←hw4];simp
    obtain ⟨t1,t2⟩:=q2.turn (w':=w4) (k' := .hid) hB' rfl (L3 (full h s).length) (by rw [←hw4];rfl) (by rw [←hw4];rfl) (by rw [←hw4];rfl) (by omega)
     (fun b' _ hne=>hother b' (fun e=>hne (by rw [e];exact z2))) (.refl _ _) (fun b' hb' => .inl hb')
     (fun hext b' hb'=>by
      have h1:b' < w3.heap.size:=by
       have h2:(Zw L3 (full h s).length (L3 (full h s).length) (full h s).length).blk=some b':=hb'
       rw [Zd,hl3] at h2
       cases h2
       exact (Array.getElem?_eq_some_iff.1 hz3).1
      show b' < w4.heap.size
      omega)
    rw [←Yg] at t1 t2
    have SR3:=SR2.go (d:=none) rfl t1 (v := .undef) (cv:=Go.undef) (Va ..) .undef t2 (ws:=[(full h s).length]) (fun j' hj' hne=>⟨Yk _ _ _ (by simpa using hne),fun ⟨x',hx',lx⟩ b' hb'=>hother b' (fun e=>by
     subst e
     exact hne (by simp [q2.inj j' (full h s).length _ x' _ hx' hB' lx rfl hb' z2]))⟩) (Kp.setB ..) (Wo h s2)
    refine ⟨w4,_,hend,⟨SR3.hr,SR3.tr,?_,SR3.nle,SR3.sz,SR3.ext,SR3.same⟩⟩
    have hdf1:B7 n0 (Zc W1 (full h s1) L1) ([{ target := .collected w.heap.size,args := #[] }]++a.defers):=by
     refine ⟨?_,fun d hd => ?_⟩
     ·rw [List.singleton_append,List.nodup_cons]
      refine ⟨fun hm => ?_,hs.df.1⟩
      obtain ⟨r',u1,u2,u3,u4⟩:=hs.df.2 _ hm
      have:w.heap.size=r':=by simpa using u1
      subst this
      have:=(Array.getElem?_eq_some_iff.1 u3).1
      exact absurd this (Nat.lt_irrefl _)
     ·rw [List.singleton_append] at hd
      rcases List.mem_cons.1 hd with rfl | hd
      ·refine ⟨w.heap.size,rfl,Nat.le_trans hs.nle hs.ext.size,hK1,?_⟩
       rintro ⟨i,x,hx,lx,hb'⟩
       rw [hf1] at hx
       by_cases hi:i<(full h s).length
       ·rw [List.getElem?_append_left hi] at hx
        have h2:(L i).blk=some w.heap.size:=by rw [←hb',←hLe,Yk _ _ _ (by omega)]
        exact absurd ((hs.hr.blk i x hx).lt lx h2) (Nat.lt_irrefl _)
       ·have hi':i=(full h s).length:=by
         have:=(List.getElem?_eq_some_iff.1 hx).1
         simp at this;omega
        subst hi'
        rw [hid1] at hb'
        simp at hb'
      ·exact (hs.df.mono k2).2 d hd
    exact (hdf1.mono q3).mono t2
   unfold Gm at he
   simp only [rangePost]
   split at he
   ·rename_i rd' t' hB
    cases he
    obtain ⟨w4,L4,r1,r2⟩:=turn _ _ _ hB
    exact ⟨_,w4,r1,rfl,L4,r2.kp lv⟩
   ·rename_i rd' t' hB
    cases he
    obtain ⟨w4,L4,r1,r2⟩:=turn _ _ _ hB
    exact ⟨_,w4,r1,wpIn_ret ⟨rfl,L4,r2⟩⟩
   ·rename_i rd' t' i hB
    cases he
    obtain ⟨w4,L4,r1,r2⟩:=turn _ _ _ hB
    exact ⟨_,w4,r1,wpIn_exit ⟨rfl,L4,r2⟩⟩
   ·cases he
theorem Jf (hE:Og P E) (hm:P.follows .mixedOrders=true) {ro:Option Nat} {fn:Nat} {top:Bool} (htop:top=true→ro=none):∀(c:Code) (hs:List (List Nat)) (ic:IC) (hs':List (List Nat)),U8 P nt top c hs=some (ic,hs') →
  ∀(s:St) (a:Act) (w:World) (L:Nat→Lc) (e:Ex) (s':St),SR n0 w0 L0 h nt s a w L→Zo E h ic s=some (e,s')→c.wpIn (Uv ro) fn P (Ends n0 w0 L0 h nt e s') a w:=by
 intro c
 induction c with
 | skip =>
  intro hs ic hs' hc s a w L e s' hsr he
  cases hc
  simp only [Zo] at he
  cases he
  exact wpIn_skip ⟨rfl,L,hsr⟩
 | label l =>
  intro hs ic hs' hc s a w L e s' hsr he
  cases hc
  simp only [Zo] at he
  cases he
  exact wpIn_label ⟨rfl,L,hsr⟩
 | scope x ihx =>
  intro hs ic hs' hc s a w L e s' hsr he
  simp only [U8] at hc
  refine Ns (wpIn_mono (ihx hs ic hs' hc s a w L e s' hsr he) fun e' a' w' k => ?_)
  obtain ⟨k1,k2⟩:=k
  subst k1
  cases e <;> exact ⟨rfl,k2⟩
 | exit id =>
  intro hs ic hs' hc s a w L e s' hsr he
  cases hc
  simp only [Zo] at he
  cases he
  exact wpIn_exit ⟨rfl,L,hsr⟩
 | ret =>
  intro hs ic hs' hc s a w L e s' hsr he
  cases hc
  simp only [Zo] at he
  cases he
  exact wpIn_ret ⟨rfl,L,hsr⟩
 | region id ops draw =>
  intro hs ic hs' hc s a w L e s' hsr he
  simp only [U8] at hc
  split at hc
  case h_2=>cases hc
  rename_i lv hs1
  split at hc
  case isFalse=>cases hc
  rename_i hnd
  split at hc
  ·rename_i hd
   subst hd
   split at hc
   case h_2=>cases hc
   rename_i ts hs2
   split at hc
   case isFalse=>cases hc
   rename_i hsel
   split at hc
   case h_2=>cases hc
   rename_i t ht
   cases hc
   simp only [Zo] at he
   by_cases hts:ts.isEmpty=true
   ·rw [if_pos hts] at he
    cases hq:Yo E h (h.length+s.o.length) lv [] t (Yf s (Ab ops)) with
    | none=>rw [hq] at he;cases he
    | some s1 =>
     rw [hq] at he
     cases he
     exact Zbv hE hm hsel (fun c a w hq=>by cases hq.1) ht hsr hq (fun a' w' L' k=>⟨rfl,L',k⟩) hnd (fun a w hq=>by have:=hq.1;cases this)
   ·rw [if_neg hts] at he
    simp only [Yo] at he
    cases hq:Yo E h (h.length+s.o.length) lv (T7 (Yf s (Ab ops)) ts++[]) t (Yf s (Ab ops)) with
    | none=>rw [hq] at he;cases he
    | some s1 =>
     rw [hq] at he
     cases he
     exact Zbv hE hm hsel (fun c a w hq=>by cases hq.1) ht hsr hq (fun a' w' L' k=>⟨rfl,L',k⟩) hnd (fun a w hq=>by have:=hq.1;cases this)
  ·rename_i hd
   have:draw=false:=by simpa using hd
   subst this
   split at hc
   ·split at hc
    case h_2=>cases hc
    rename_i al hal
    cases hc
    simp only [Zo] at he
    have key:∃s1,Vb E h al s=some s1∧e = .normal∧s'=s1.kp lv.tail:=by
     obtain ⟨s1,h1,h2⟩:=Mu he
     cases hq:Vb E h al s with
     | none=>rw [hq] at h1;cases h1
     | some s2 =>
      rw [hq] at h1
      cases h1
      rcases h2 with ⟨_,rfl⟩ | ⟨h,_⟩
      ·exact ⟨_,rfl,rfl,rfl⟩
      ·exact absurd rfl h
    obtain ⟨s1,h1,rfl,rfl⟩:=key
    refine wpIn_region ?_
    have:=Cd hE (ro:=ro) (fn:=fn) (Q:=Ends n0 w0 L0 h nt .normal (s1.kp lv.tail)) hnd (fun a w hq=>by have:=hq.1;cases this) ops.toList 0 al s a w L (fun j=>by simp) hal hsr h1 fun a' w' L' k=>⟨rfl,L',k.kp _⟩
    simpa [List.range_eq_range'] using this
   split at hc
   case h_2=>cases hc
   rename_i al hal
   cases hc
   simp only [Zo] at he
   have key:∃s1,Vy E h al s=some s1∧e = .normal∧s'=s1.kp lv:=by
    obtain ⟨s1,h1,h2⟩:=Mu he
    cases hq:Vy E h al s with
    | none=>rw [hq] at h1;cases h1
    | some s2 =>
     rw [hq] at h1
     cases h1
     rcases h2 with ⟨_,rfl⟩ | ⟨h,_⟩
     ·exact ⟨_,rfl,rfl,rfl⟩
     ·exact absurd rfl h
   obtain ⟨s1,h1,rfl,rfl⟩:=key
   exact Zqd hE hal hsr h1 (fun a' w' L' k=>⟨rfl,L',k.kp lv⟩) hnd (fun a w hq=>by have:=hq.1;cases this)
 | seq x y ihx ihy =>
  intro hs ic hs' hc s a w L e s' hsr he
  simp only [U8] at hc
  split at hc
  case h_2=>cases hc
  rename_i cx hs1 h1
  split at hc
  case h_2=>cases hc
  rename_i cy hs2 h2
  cases hc
  simp only [Zo,sk] at he
  split at he
  ·rename_i s1 hx
   refine wpIn_seq (wpIn_mono (ihx hs cx hs1 h1 s a w L _ s1 hsr hx) fun e' a' w' ⟨k1,L',k2⟩ => ?_)
   subst k1
   exact ihy hs1 cy hs' h2 s1 a' w' L' e s' k2 he
  ·rename_i hn
   refine wpIn_seq (wpIn_mono (ihx hs cx hs1 h1 s a w L _ s' hsr he) fun e' a' w' ⟨k1,k2⟩ => ?_)
   subst k1
   cases e with
   | normal=>exact absurd he (fun hh=>hn s' hh)
   | exit id=>exact ⟨rfl,k2⟩
   | ret=>exact ⟨rfl,k2⟩
 | cond c x y ihx ihy =>
  intro hs ic hs' hc s a w L e s' hsr he
  simp only [U8] at hc
  split at hc
  case h_2=>cases hc
  rename_i lv hs0
  split at hc
  case h_2=>cases hc
  rename_i oc hoc
  split at hc
  case h_2=>cases hc
  rename_i cx hs1 h1
  split at hc
  case h_2=>cases hc
  rename_i cy hs2 h2
  cases hc
  simp only [Zo] at he
  split at he
  case h_2=>cases he
  rename_i b hb
  have hcv:=(Zl hsr.tr hoc hb).inv_g.inv_bool
  refine wpIn_cond hcv ?_
  cases b with
  | true =>
   simp only [if_true] at he ⊢
   obtain ⟨s1,k1,_⟩:=Mu he
   exact wpIn_mono (ihx hs0 cx hs1 h1 s a w L e s1 hsr k1) fun e' a' w' k=>Zi4 he fun s2 hs2=>by rw [k1] at hs2;cases hs2;exact k
  | false =>
   simp only [Bool.false_eq_true,if_false] at he ⊢
   obtain ⟨s1,k1,_⟩:=Mu he
   exact wpIn_mono (ihy hs1 cy hs' h2 s a w L e s1 hsr k1) fun e' a' w' k=>Zi4 he fun s2 hs2=>by rw [k1] at hs2;cases hs2;exact k
 | block id x ihx =>
  intro hs ic hs' hc s a w L e s' hsr he
  simp only [U8] at hc
  split at hc
  case h_2=>cases hc
  rename_i lv hs0
  split at hc
  case h_2=>cases hc
  rename_i cx hs1 h1
  cases hc
  simp only [Zo,bk] at he
  refine wpIn_block ?_
  split at he
  ·rename_i i s1 hx
   refine wpIn_mono (ihx hs0 cx hs' h1 s a w L _ s1 hsr hx) fun e' a' w' ⟨k1,L',k2⟩ => ?_
   subst k1
   show if i=id then _ else _
   split at he
   ·rename_i hi
    cases he
    rw [if_pos hi]
    exact ⟨rfl,L',k2.kp lv⟩
   ·rename_i hi
    cases he
    rw [if_neg hi]
    exact ⟨rfl,L',k2⟩
  ·rename_i s1 hx
   cases he
   refine wpIn_mono (ihx hs0 cx hs' h1 s a w L _ s1 hsr hx) fun e' a' w' ⟨k1,L',k2⟩ => ?_
   subst k1
   exact ⟨rfl,L',k2.kp lv⟩
  ·rename_i hn1 hn2
   refine wpIn_mono (ihx hs0 cx hs' h1 s a w L _ s' hsr he) fun e' a' w' ⟨k1,L',k2⟩ => ?_
   subst k1
   cases e with
   | normal=>exact absurd he (fun hh=>hn2 s' hh)
   | exit id=>exact absurd he (fun hh=>hn1 _ s' hh)
   | ret=>exact ⟨rfl,L',k2⟩
 | loop x ihx =>
  intro hs ic hs' hc s a w L e s' hsr he
  simp only [U8] at hc
  split at hc
  case h_2=>cases hc
  rename_i lv hs0
  split at hc
  case h_2=>cases hc
  rename_i cx hs1 h1
  cases hc
  simp only [Zo,Gl] at he
  obtain ⟨n,hn⟩:=Qm he
  refine wpIn_loop_rounds n ?_
  have key:∀(n:Nat) (s:St) (a:Act) (w:World) (L:Nat→Lc),SR n0 w0 L0 h nt s a w L→Sp (fun s=>Zo E h cx s) lv n s=some (e,s')→Code.roundsIn (Uv ro) fn P x (Ends n0 w0 L0 h nt e s') n a w:=by
   intro n
   induction n with
   | zero=>intro s a w L _ hh;cases hh
   | succ n ih =>
    intro s a w L hsr hh
    simp only [Sp,sk] at hh
    rw [roundsIn_succ]
    split at hh
    ·rename_i s1 hx
     refine wpIn_mono (ihx hs0 cx hs' h1 s a w L _ s1 hsr hx) fun e' a' w' ⟨k1,L',k2⟩ => ?_
     subst k1
     exact ih (s1.kp lv) a' w' L' (k2.kp lv) hh
    ·rename_i hnn
     refine wpIn_mono (ihx hs0 cx hs' h1 s a w L _ s' hsr hh) fun e' a' w' ⟨k1,L',k2⟩ => ?_
     subst k1
     cases e with
     | normal=>exact absurd hh (fun h=>hnn s' h)
     | exit id=>exact ⟨rfl,L',k2⟩
     | ret=>exact ⟨rfl,L',k2⟩
  exact key n (s.kp lv) a w L (hsr.kp lv) hn
 | rangeFunc g ps x y _ _ =>
  intro hs ic hs' hc s a w L e s' hsr he
  simp only [U8] at hc
  split at hc
  ·rename_i key lv lt hs1
   split at hc
   ·rename_i ht
    obtain rfl:=htop ht
    split at hc
    ·rename_i f hf
     cases hc
     simp only [Zo] at he
     exact Zvj (rd:=⟨key,nt,ps,x,y⟩) hE hsr hf rfl he
    ·cases hc
   ·cases hc
    rw [Je] at he
    cases he
  ·cases hc
   rw [Je] at he
   cases he
 | _ =>
  intro hs ic hs' hc s a w L e s' hsr he
  simp only [U8] at hc
  cases hc
  rw [Je] at he
  cases he
end
theorem GR.shrink {E E':Env} (hw:E'.w=E.w) (hO:∀b,E'.O b→E.O b) {v:GV} {cv:Value} (hv:GR E v cv):GR E' v cv:=by
 induction hv with
 | bool b=>exact .bool b
 | int k n=>exact .int k n
 | str s=>exact .str s
 | sl c hcap hb hO' hsz hc hg ih =>
  refine .sl c hcap (by rw [hw];exact hb) (fun h=>hO' (hO _ h)) hsz (fun i el j a h1 h2 => ?_) ih
  rw [hw];exact hc i el j a h1 h2
 | sl0 sz a cap=>exact .sl0 sz a cap
 | nsl=>exact .nsl
 | nptr=>exact .nptr
 | nmap=>exact .nmap
 | nfn=>exact .nfn
 | nif=>exact .nif
 | fn f=>exact .fn f
 | ifc t _ ih=>exact .ifc t ih
theorem AR.shrink0 {E E':Env} (hw:E'.w=E.w) (hO:∀b,E'.O b→E.O b) (hL:E'.L=E.L) {v:AV} {cv:Value} (hv:AR E v cv) (hl:v.lt0 E'.n=true):AR E' v cv:=by
 cases hv with
 | g h=>exact .g (h.shrink hw hO)
 | cp c hb hO' hc hg=>exact .cp c (by rw [hw];exact hb) (fun h=>hO' (hO _ h)) (fun j a h=>by rw [hw];exact hc j a h) fun j a h=>(hg j a h).shrink hw hO
 | ptr hid hgen hb=>exact .ptr (by simpa [AV.lt0] using hl) (by rw [hL];exact hgen) (by rw [hL];exact hb)
 | ms hid h0 hle h1 hm hz=>exact .ms (by simpa [AV.lt0] using hl) (by rw [hL];exact h0) (by rw [hL];exact hle) h1 (by rw [hL];exact hm) (by rw [hL];exact hz)
 | rp hid h0 hle h1 hm=>exact .rp (by simpa [AV.lt0] using hl) (by rw [hL];exact h0) (by rw [hL];exact hle) h1 (by rw [hL];exact hm)
 | via t p f q=>exact .via t p f q
 | mp hid hgen hb=>exact .mp (by simpa [AV.lt0] using hl) (by rw [hL];exact hgen) (by rw [hL];exact hb)
 | yv hid hgen hb=>exact .yv (by simpa [AV.lt0] using hl) (by rw [hL];exact hgen) (by rw [hL];exact hb)
 | any h1=>exact .any h1
 | undef=>exact .undef
 | agg _ _ _=>simp [AV.lt0] at hl
 | tup _ _=>simp [AV.lt0] at hl
 | fv _ _=>simp [AV.lt0] at hl
 | bv _ _=>simp [AV.lt0] at hl
 | ifa _ _=>simp [AV.lt0] at hl
theorem AR.shrink1 {E E':Env} (hw:E'.w=E.w) (hO:∀b,E'.O b→E.O b) (hL:E'.L=E.L) {v:AV} {cv:Value} (hv:AR E v cv) (hl:v.lt1 E'.n=true):AR E' v cv:=by
 cases v with
 | fv f caps =>
  cases hv with
  | fv hn hc =>
   refine .fv hn fun j a u ha hu=>(hc j a u ha hu).shrink0 hw hO hL ?_
   exact List.all_eq_true.1 hl a (List.mem_of_getElem? ha)
 | bv f caps =>
  cases hv with
  | bv hn hc =>
   refine .bv hn fun j a u ha hu=>(hc j a u ha hu).shrink0 hw hO hL ?_
   exact List.all_eq_true.1 hl a (List.mem_of_getElem? ha)
 | ifa t v =>
  cases hv with
  | ifa _ h=>exact .ifa t (h.shrink0 hw hO hL hl)
 | _=>exact hv.shrink0 hw hO hL hl
theorem HB.shrink {E E':Env} (hw:E'.w=E.w) (hO:∀b,E'.O b→E.O b) (hL:E'.L=E.L) {id:Nat} {k:Blk} (hk:HB E id k) (hl:k.lt1 E'.n=true):HB E' id k:=by
 have vr:∀{g:Option GV} {c:Value},VR E g c→VR E' g c:=fun {g c} k=>by
  cases g with
  | none=>exact k
  | some g=>exact GR.shrink hw hO k
 have rows:∀{C:Array Value} {sz cap:Nat} {els:List (List GV)},RowsIn E C sz cap els→RowsIn E' C sz cap els:=fun k =>
  ⟨k.1,k.2.1,fun i el hi=>⟨(k.2.2 i el hi).1,fun j a hj=>let ⟨v,h1,h2⟩:=(k.2.2 i el hi).2 j a hj;⟨v,h1,h2.shrink hw hO⟩⟩⟩
 cases k with
 | cells cs =>
  obtain ⟨h0,b,T,C,h1,h2,h3⟩:=hk
  refine ⟨by rw [hL];exact h0,b,T,C,by rw [hL];exact h1,by rw [hw];exact h2,h3.1,fun j a hj => ?_⟩
  obtain ⟨v,k1,k2,k3⟩:=h3.2 j a hj
  exact ⟨v,k1,k2.shrink1 hw hO hL (List.all_eq_true.1 hl a (List.mem_of_getElem? hj)),k3⟩
 | rows sz g els =>
  obtain ⟨h0,h1,h2⟩:=hk
  refine ⟨by rw [hL];exact h0,⟨by rw [hL];exact h1.1,h1.2⟩,?_⟩
  rw [hL,hw]
  cases hq:(E.L id).blk with
  | none=>rw [hq] at h2;exact h2
  | some b=>rw [hq] at h2;obtain ⟨T,C,h3,h4⟩:=h2;exact ⟨T,C,h3,rows h4⟩
 | bld T cs =>
  obtain ⟨h0,b,C,h1,h2,h3⟩:=hk
  refine ⟨by rw [hL];exact h0,b,C,by rw [hL];exact h1,by rw [hw];exact h2,h3.1,fun j a hj => ?_⟩
  obtain ⟨v,k1,k2,k3⟩:=h3.2 j a hj
  exact ⟨v,k1,k2.shrink1 hw hO hL (List.all_eq_true.1 hl a (List.mem_of_getElem? hj)),k3⟩
 | trow T sz g els =>
  obtain ⟨h0,h1,h2⟩:=hk
  refine ⟨by rw [hL];exact h0,⟨by rw [hL];exact h1.1,h1.2⟩,?_⟩
  rw [hL,hw]
  cases hq:(E.L id).blk with
  | none=>rw [hq] at h2;exact h2
  | some b=>rw [hq] at h2;obtain ⟨C,h3,h4⟩:=h2;exact ⟨C,h3,rows h4⟩
 | fro sz g els =>
  obtain ⟨h0,h1,h2⟩:=hk
  refine ⟨by rw [hL];exact h0,h1,?_⟩
  rw [hL,hw]
  cases hq:(E.L id).blk with
  | none=>rw [hq] at h2;exact h2
  | some b=>rw [hq] at h2;obtain ⟨h3,h4,T,C,fr,h5,h6⟩:=h2;exact ⟨h3,fun h=>h4 (hO _ h),T,C,fr,h5,rows h6⟩
 | map es =>
  obtain ⟨h0,b,en,ck,h1,h2,h3,h4⟩:=hk
  exact ⟨by rw [hL];exact h0,b,en,ck,by rw [hL];exact h1,by rw [hw];exact h2,⟨h3.1,fun j p e k1 k2=>⟨(h3.2 j p e k1 k2).1.shrink hw hO,vr (h3.2 j p e k1 k2).2⟩⟩,h4⟩
 | map2 es =>
  obtain ⟨h0,b,en,ck,h1,h2,h3⟩:=hk
  refine ⟨by rw [hL];exact h0,b,en,ck,by rw [hL];exact h1,by rw [hw];exact h2,h3.1,fun j p e k1 k2=>⟨?_,vr (h3.2 j p e k1 k2).2⟩⟩
  have hk2:AR E (.agg (p.1.map .g)) e.key:=(h3.2 j p e k1 k2).1
  show AR E' (.agg (p.1.map .g)) e.key
  generalize e.key=q at hk2
  cases hk2 with
  | agg hn hh h1' =>
   refine .agg hn (fun i a v ha hv => ?_) h1'
   have hav:=hh i a v ha hv
   simp only [List.getElem?_map,Option.map_eq_some_iff] at ha
   obtain ⟨g,_,rfl⟩:=ha
   exact .g (hav.inv_g.shrink hw hO)
 | lp rd t j =>
  obtain ⟨h0,b,r,h1,h2,h3⟩:=hk
  refine ⟨by rw [hL];exact h0,b,r,by rw [hL];exact h1,by rw [hw];exact h2,h3.1,h3.2.1,h3.2.2.1,h3.2.2.2.1,h3.2.2.2.2.1,fun i v hi => ?_⟩
  refine (h3.2.2.2.2.2 i v hi).shrink1 hw hO hL ?_
  have:∀(t:List (Nat×AV)),(t.all fun p=>p.2.lt1 E'.n)=true→look t i=some v→v.lt1 E'.n=true:=by
   intro t
   induction t with
   | nil=>intro _ h;cases h
   | cons p t ih =>
    intro ha h
    simp only [List.all_cons,Bool.and_eq_true] at ha
    simp only [look] at h
    split at h
    ·cases h;exact ha.1
    ·exact ih ha.2 h
  exact this t hl hi
 | pend=>rw [HB,hL];exact hk
 | hid=>intro b hb;rw [hL] at hb;rw [hw];exact hk b hb
section
variable {w:World} {A o:List Blk} {L:Nat→Lc}
theorem Gw {b:Nat} (hb:Own A L b):Own (A++o) L b:=by
 obtain ⟨id,k,h1,h2,h3⟩:=hb
 exact ⟨id,k,by rw [List.getElem?_append_left (List.getElem?_eq_some_iff.1 h1).1];exact h1,h2,h3⟩
theorem Zl5 {i:Nat} (hi:Live A i):Live (A++o) i:=by
 obtain ⟨k,h1,h2⟩:=hi
 exact ⟨k,by rw [List.getElem?_append_left (List.getElem?_eq_some_iff.1 h1).1];exact h1,h2⟩
theorem HR.drop (hr:HR w (A++o) L) (hl:∀(i:Nat) (k:Blk),A[i]? = some k→k.lt1 A.length=true∨HB (Zc w A L) i k):HR w A L:=by
 have hget:∀(i:Nat) (k:Blk),A[i]? = some k→(A++o)[i]? = some k:=fun i k hk=>by
  rw [List.getElem?_append_left (List.getElem?_eq_some_iff.1 hk).1];exact hk
 refine ⟨fun id k hk => ?_,fun i j b x y hx hy lx ly hi hj=>hr.inj i j b x y (hget i x hx) (hget j y hy) lx ly hi hj⟩
 rcases hl id k hk with hl | hl
 ·exact HB.shrink (E:=Zc w (A++o) L) (E':=Zc w A L) rfl (fun b=>Gw) rfl (hr.blk id k (hget id k hk)) hl
 ·exact hl
theorem Zbw {E0:Env} (he:Ext E0 (Zc w (A++o) L)) (hn:E0.n≤A.length):Ext E0 (Zc w A L) where
 os:=he.os
 tape:=he.tape
 output:=he.output
 size:=he.size
 keep b hb hO:=⟨(he.keep b hb hO).1,fun h=>(he.keep b hb hO).2 (Gw h)⟩
 le:=hn
 loc:=he.loc
 lv id hid hv:=he.lv id hid (Zl5 hv)
end
section
variable {n0:Nat} {w w0:World} {L L0:Nat→Lc} {h:List Blk} {nt:Nat} {s:St} {a:Act}
theorem Zi5 (hr:HR w (full h s) L) {v v':AV} {cv:Value} (he:Ja h s v=some v') (hv:AR (Zc w (full h s) L) v cv):AR (Zc w (Zv h s.m) L) v' cv:=by
 have hO:∀b,(Zc w (Zv h s.m) L).O b→(Zc w (full h s) L).O b:=fun b=>Gw
 have hn:(Zc w (Zv h s.m) L).n=h.length:=Zr ..
 have plain:∀v:AV,AR (Zc w (full h s) L) v cv→v.lt1 h.length=true→AR (Zc w (Zv h s.m) L) v cv:=fun v hv hl =>
  AR.shrink1 (E:=Zc w (full h s) L) (E':=Zc w (Zv h s.m) L) rfl hO rfl hv (by rw [hn];exact hl)
 unfold Ja at he
 split at he
 ·rename_i id g sz off len
  split at he
  ·rename_i hid
   cases he
   exact plain _ hv (by simpa [AV.lt1,AV.lt0] using hid)
  ·rename_i hid
   split at he
   case h_2=>cases he
   rename_i els hview
   cases he
   simp only [Vs,if_true] at hview
   cases hv with
   | ms hid' hg0 hle h1 hm hz =>
   have main:∀(els0:List (List GV)),g=((Zc w (full h s) L).L id).gen→off+len≤els0.length→els=(els0.drop off).take len →
     (match (L id).blk with
      | none=>els0=[]∧(L id).cap=0
      | some b=>b<w.heap.size∧¬(Zc w (Zv h s.m) L).O b∧∃T C fr,w.heap[b]? = some (.cells C T fr)∧RowsIn (Zc w (full h s) L) C sz (L id).cap els0)→AR (Zc w (Zv h s.m) L) (.g (if g=1 then .nsl else .sl sz els)) cv:=by
    intro els0 hg hlen hels hb
    have hm:=hm hg
    have hz:=hz hg
    unfold Wb at hm
    have hL:(Zc w (full h s) L).L id=L id:=rfl
    rw [hL] at hm hz
    cases hq:(L id).blk with
    | none =>
     rw [hq] at hm hb
     obtain ⟨rfl,rfl,rfl⟩:=hm
     obtain ⟨rfl,_⟩:=hb
     rw [if_pos (hz.2 hq)]
     exact .g .nsl
    | some b =>
     rw [hq] at hm hb
     rw [if_neg (fun e=>by rw [hz.1 e] at hq;cases hq)]
     obtain ⟨A,c,rfl,hc,hlc,hA⟩:=hm
     obtain ⟨hbs,hbO,T,C,fr,hheap,hrow⟩:=hb
     have hl:els.length=len:=by subst hels;simp;omega
     by_cases hc0:len=0
     ·subst hc0
      have:els=[]:=List.eq_nil_of_length_eq_zero hl
      rw [this]
      exact .g (.sl0 sz _ _)
     ·have hA':A=⟨b,off*sz,none⟩:=by
       rcases hA with h | h
       ·exact h
       ·omega
      subst hA'
      rw [←hl]
      have hget:∀(i:Nat) (el:List GV),els[i]? = some el→els0[off+i]? = some el:=by
       intro i el hi
       subst hels
       rw [List.getElem?_take] at hi
       split at hi
       ·rw [List.getElem?_drop] at hi;exact hi
       ·cases hi
      refine .g (.sl (fun i j=>(C[(off+i)*sz+j]?).getD Go.undef) (by omega) hbs hbO (fun i el hi=>(hrow.2.2 _ el (hget i el hi)).1) (fun i el j x hi hj => ?_) (fun i el j x hi hj => ?_))
      ·obtain ⟨v,k1,k2⟩:=(hrow.2.2 _ el (hget i el hi)).2 j x hj
       rw [show off*sz+i*sz+j=(off+i)*sz+j from by rw [Nat.add_mul]]
       show w.cell? _=_
       simp [World.cell?,hheap,k1]
      ·obtain ⟨v,k1,k2⟩:=(hrow.2.2 _ el (hget i el hi)).2 j x hj
       rw [k1]
       exact GR.shrink (E:=Zc w (full h s) L) (E':=Zc w (Zv h s.m) L) rfl hO k2
   split at hview
   ·rename_i sz2 g' els0 hB
    split at hview
    case isFalse=>cases hview
    rename_i hcond
    cases hview
    obtain ⟨rfl,rfl,hlen⟩:=hcond
    have hfull:(full h s)[id]? = some (.rows sz2 g els0):=by rw [Z9];exact hB
    obtain ⟨k0,k1,k2⟩:=hr.blk id _ hfull
    refine main els0 k0.symm hlen rfl ?_
    change (match (L id).blk with | none=>_ | some b=>_) at k2
    cases hq:(L id).blk with
    | none=>rw [hq] at k2;exact k2
    | some b =>
     rw [hq] at k2
     obtain ⟨T,C,k3,k4⟩:=k2
     refine ⟨(Array.getElem?_eq_some_iff.1 k3).1,?_,T,C,(0,0),k3,k4⟩
     rintro ⟨id',k,j1,j2,j3⟩
     have j1':(full h s)[id']? = some k:=by
      unfold full
      rw [List.getElem?_append_left (List.getElem?_eq_some_iff.1 j1).1];exact j1
     have:=hr.inj id' id b k _ j1' hfull j2 rfl j3 hq
     subst this
     have:=(List.getElem?_eq_some_iff.1 j1).1
     rw [Zr] at this
     exact hid this
   ·rename_i sz2 g' els0 hB
    split at hview
    case isFalse=>cases hview
    rename_i hcond
    cases hview
    obtain ⟨rfl,rfl,hlen⟩:=hcond
    have hfull:(full h s)[id]? = some (.fro sz2 g els0):=by rw [Z9];exact hB
    obtain ⟨k0,k1,k2⟩:=hr.blk id _ hfull
    refine main els0 k0.symm hlen rfl ?_
    change (match (L id).blk with | none=>_ | some b=>_) at k2
    cases hq:(L id).blk with
    | none=>rw [hq] at k2;exact k2
    | some b =>
     rw [hq] at k2
     obtain ⟨k3,k4,T,C,fr,k5,k6⟩:=k2
     exact ⟨k3,fun hh=>k4 (hO _ hh),T,C,fr,k5,k6⟩
   ·cases hview
 ·split at he
  ·rename_i hl
   cases he
   exact plain _ hv hl
  ·cases he
theorem Zi6:∀(vs vs':List AV),H2 h s vs=some vs'→vs'.length=vs.length∧∀(j:Nat) (x:AV),vs'[j]? = some x→∃y,vs[j]? = some y∧Ja h s y=some x
 | [],vs',he=>by cases he;exact ⟨rfl,fun j x hx=>by simp at hx⟩
 | v::r,vs',he=>by
  simp only [H2] at he
  split at he
  case h_2=>cases he
  rename_i v1 r1 h1 h2
  cases he
  obtain ⟨k1,k2⟩:=Zi6 r r1 h2
  refine ⟨by simp [k1],fun j x hx => ?_⟩
  cases j with
  | zero=>simp at hx;subst hx;exact ⟨v,rfl,h1⟩
  | succ j=>simp at hx;obtain ⟨y,hy,hz⟩:=k2 j x hx;exact ⟨y,by simpa using hy,hz⟩
theorem Zvk (hr:HR w (full h s) L) {v v':AV} {cv:Value} (he:H3 h s v=some v') (hv:AR (Zc w (full h s) L) v cv):AR (Zc w (Zv h s.m) L) v' cv:=by
 unfold H3 at he
 split at he
 ·rename_i cs
  split at he
  case h_2=>cases he
  rename_i cs' hc
  cases he
  obtain ⟨k1,k2⟩:=Zi6 cs cs' hc
  cases hv with
  | agg hn hx h1 =>
   refine .agg (by omega) (fun j x v hj hv' => ?_) h1
   obtain ⟨y,hy,hz⟩:=k2 j x hj
   exact Zi5 hr hz (hx j y v hy hv')
 ·exact Zi5 hr he hv
theorem Zi7:∀(vs vs':List AV),H4 h s vs=some vs'→vs'.length=vs.length∧∀(j:Nat) (x:AV),vs'[j]? = some x→∃y,vs[j]? = some y∧H3 h s y=some x
 | [],vs',he=>by cases he;exact ⟨rfl,fun j x hx=>by simp at hx⟩
 | v::r,vs',he=>by
  simp only [H4] at he
  split at he
  case h_2=>cases he
  rename_i v1 r1 h1 h2
  cases he
  obtain ⟨k1,k2⟩:=Zi7 r r1 h2
  refine ⟨by simp [k1],fun j x hx => ?_⟩
  cases j with
  | zero=>simp at hx;subst hx;exact ⟨v,rfl,h1⟩
  | succ j=>simp at hx;obtain ⟨y,hy,hz⟩:=k2 j x hx;exact ⟨y,by simpa using hy,hz⟩
end
structure Shut (E E':Env) (r:Nat):Prop where
 O:E'.O=E.O
 L:E'.L=E.L
 n:E'.n=E.n
 V:E'.V=E.V
 os:E'.w.os=E.w.os
 tape:E'.w.tape=E.w.tape
 output:E'.w.output=E.w.output
 size:E'.w.heap.size=E.w.heap.size
 keep:∀b,b ≠ r→E'.w.heap[b]? = E.w.heap[b]?
 old:∃x,E.w.heap[r]? = some (.deferred x)
 own:¬E.O r
section
variable {E E':Env} {r:Nat}
theorem Shut.cell (h:Shut E E' r) {b o:Nat} {v:Value} (hc:E.w.cell? ⟨b,o,none⟩=some v):E'.w.cell? ⟨b,o,none⟩=some v:=by
 by_cases e:b=r
 ·subst e
  obtain ⟨x,hx⟩:=h.old
  simp [World.cell?,hx] at hc
 ·rw [←hc]
  simp [World.cell?,h.keep b e]
theorem GR.shut (h:Shut E E' r) {v:GV} {cv:Value} (hv:GR E v cv):GR E' v cv:=by
 induction hv with
 | bool b=>exact .bool b
 | int k n=>exact .int k n
 | str s=>exact .str s
 | sl c hcap hb hO hsz hc hg ih=>exact .sl c hcap (by rw [h.size];exact hb) (by rw [h.O];exact hO) hsz (fun i el j a h1 h2=>h.cell (hc i el j a h1 h2)) ih
 | sl0 sz a cap=>exact .sl0 sz a cap
 | nsl=>exact .nsl
 | nptr=>exact .nptr
 | nmap=>exact .nmap
 | nfn=>exact .nfn
 | nif=>exact .nif
 | fn f=>exact .fn f
 | ifc t _ ih=>exact .ifc t ih
theorem AR.shut (h:Shut E E' r) {v:AV} {cv:Value} (hv:AR E v cv):AR E' v cv:=by
 induction hv with
 | g hg=>exact .g (hg.shut h)
 | agg hn _ h1 ih=>exact .agg hn ih h1
 | tup hn _ ih=>exact .tup hn ih
 | cp c hb hO hc hg=>exact .cp c (by rw [h.size];exact hb) (by rw [h.O];exact hO) (fun j a h1=>h.cell (hc j a h1)) fun j a h1=>(hg j a h1).shut h
 | ptr hid hgen hb=>exact .ptr (by rw [h.n];exact hid) (by rw [h.L];exact hgen) (by rw [h.L];exact hb)
 | ms hid h0 hle h1 hm hz=>exact .ms (by rw [h.n];exact hid) (by rw [h.L];exact h0) (by rw [h.L];exact hle) h1 (by rw [h.L];exact hm) (by rw [h.L];exact hz)
 | rp hid h0 hle h1 hm=>exact .rp (by rw [h.n];exact hid) (by rw [h.L];exact h0) (by rw [h.L];exact hle) h1 (by rw [h.L];exact hm)
 | fv hn _ ih=>exact .fv hn ih
 | bv hn _ ih=>exact .bv hn ih
 | via t p f q=>exact .via t p f q
 | ifa t _ ih=>exact .ifa t ih
 | mp hid hgen hb=>exact .mp (by rw [h.n];exact hid) (by rw [h.L];exact hgen) (by rw [h.L];exact hb)
 | yv hid hgen hb=>exact .yv (by rw [h.n];exact hid) (by rw [h.L];exact hgen) (by rw [h.L];exact hb)
 | any h1=>exact .any h1
 | undef=>exact .undef
theorem VR.shut (h:Shut E E' r) {g:Option GV} {c:Value} (k:VR E g c):VR E' g c:=by
 cases g with
 | none=>exact k
 | some g=>exact GR.shut h k
theorem RowsIn.shut (h:Shut E E' r) {C:Array Value} {sz cap:Nat} {els:List (List GV)} (k:RowsIn E C sz cap els):RowsIn E' C sz cap els :=
 ⟨k.1,k.2.1,fun i el hi=>⟨(k.2.2 i el hi).1,fun j a hj=>let ⟨v,h1,h2⟩:=(k.2.2 i el hi).2 j a hj;⟨v,h1,h2.shut h⟩⟩⟩
theorem Rv.shut (h:Shut E E' r) {C:Array Value} {cs:List AV} (k:Rv E C cs):Rv E' C cs :=
 ⟨k.1,fun j a hj=>let ⟨v,h1,h2,h3⟩:=k.2 j a hj;⟨v,h1,h2.shut h,h3⟩⟩
theorem HB.shut (h:Shut E E' r) {id:Nat} {k:Blk} (hl:k.live=true→∀b,(E.L id).blk=some b→b ≠ r) (hk:HB E id k):HB E' id k:=by
 cases k with
 | cells cs =>
  obtain ⟨h0,b,T,C,h1,h2,h3⟩:=hk
  exact ⟨by rw [h.L];exact h0,b,T,C,by rw [h.L];exact h1,by rw [h.keep b (hl rfl b h1)];exact h2,h3.shut h⟩
 | rows sz g els =>
  obtain ⟨h0,h1,h2⟩:=hk
  refine ⟨by rw [h.L];exact h0,⟨by rw [h.L];exact h1.1,h1.2⟩,?_⟩
  rw [h.L]
  cases hq:(E.L id).blk with
  | none=>rw [hq] at h2;exact h2
  | some b=>rw [hq] at h2;obtain ⟨T,C,h3,h4⟩:=h2;exact ⟨T,C,by rw [h.keep b (hl rfl b hq)];exact h3,h4.shut h⟩
 | bld T cs =>
  obtain ⟨h0,b,C,h1,h2,h3⟩:=hk
  exact ⟨by rw [h.L];exact h0,b,C,by rw [h.L];exact h1,by rw [h.keep b (hl rfl b h1)];exact h2,h3.shut h⟩
 | trow T sz g els =>
  obtain ⟨h0,h1,h2⟩:=hk
  refine ⟨by rw [h.L];exact h0,⟨by rw [h.L];exact h1.1,h1.2⟩,?_⟩
  rw [h.L]
  cases hq:(E.L id).blk with
  | none=>rw [hq] at h2;exact h2
  | some b=>rw [hq] at h2;obtain ⟨C,h3,h4⟩:=h2;exact ⟨C,by rw [h.keep b (hl rfl b hq)];exact h3,h4.shut h⟩
 | fro sz g els =>
  obtain ⟨h0,h1,h2⟩:=hk
  refine ⟨by rw [h.L];exact h0,h1,?_⟩
  rw [h.L]
  cases hq:(E.L id).blk with
  | none=>rw [hq] at h2;exact h2
  | some b =>
   rw [hq] at h2;obtain ⟨h3,h4,T,C,fr,h5,h6⟩:=h2
   have hne:b ≠ r:=fun e=>by
    subst e
    obtain ⟨x,hx⟩:=h.old
    rw [hx] at h5;cases h5
   exact ⟨by rw [h.size];exact h3,by rw [h.O];exact h4,T,C,fr,by rw [h.keep b hne];exact h5,h6.shut h⟩
 | map es =>
  obtain ⟨h0,b,en,ck,h1,h2,h3,h4⟩:=hk
  exact ⟨by rw [h.L];exact h0,b,en,ck,by rw [h.L];exact h1,by rw [h.keep b (hl rfl b h1)];exact h2,⟨h3.1,fun j p e k1 k2=>⟨(h3.2 j p e k1 k2).1.shut h,(h3.2 j p e k1 k2).2.shut h⟩⟩,h4⟩
 | map2 es =>
  obtain ⟨h0,b,en,ck,h1,h2,h3⟩:=hk
  exact ⟨by rw [h.L];exact h0,b,en,ck,by rw [h.L];exact h1,by rw [h.keep b (hl rfl b h1)];exact h2,h3.1,fun j p e k1 k2=>⟨AR.shut h (h3.2 j p e k1 k2).1,(h3.2 j p e k1 k2).2.shut h⟩⟩
 | lp rd t j =>
  obtain ⟨h0,b,q,h1,h2,h3⟩:=hk
  exact ⟨by rw [h.L];exact h0,b,q,by rw [h.L];exact h1,by rw [h.keep b (hl rfl b h1)];exact h2,h3.1,h3.2.1,h3.2.2.1,h3.2.2.2.1,h3.2.2.2.2.1,fun i v hi=>(h3.2.2.2.2.2 i v hi).shut h⟩
 | pend=>rw [HB,h.L];exact hk
 | hid=>intro b hb';rw [h.L] at hb';rw [h.size];exact hk b hb'
end
section
variable {n0:Nat} {P:Program} {w w0:World} {L L0:Nat→Lc} {h:List Blk} {nt:Nat} {s:St} {a:Act}
theorem SR.shut (hn:w0.heap.size≤n0) (hs:SR n0 w0 L0 h nt s a w L) {d:Deferred} {ds:List Deferred} (hd:a.defers=d::ds) :
  ∃r w',d.target = .collected r∧(Instr.takeDeferred r).run P w = .ok [] w'∧SR n0 w0 L0 h nt s { a with defers:=ds } w' L:=by
 obtain ⟨hnd,hall⟩:=hs.df
 rw [hd] at hnd hall
 obtain ⟨r,rfl,h1,h2,h3⟩:=hall d (by simp)
 have h2':w.heap[r]? = some (.deferred (some [])):=h2
 obtain ⟨w',hw'⟩:∃w',w.putObj r (.deferred none)=w':=⟨_,rfl⟩
 refine ⟨r,w',rfl,by rw [←hw'];exact run_takeDeferred h2',?_⟩
 have hother:∀b,b ≠ r→w'.heap[b]? = w.heap[b]?:=fun b hb=>by rw [←hw'];exact World.putObj_heap_other hb
 have hsz:w'.heap.size=w.heap.size:=by rw [←hw'];simp
 have hS:Shut (Zc w (full h s) L) (Zc w' (full h s) L) r :=
  ⟨rfl,rfl,rfl,rfl,by rw [←hw'];rfl,by rw [←hw'];rfl,by rw [←hw'];rfl,hsz,hother,⟨_,h2⟩,h3⟩
 refine ⟨⟨fun id k hk=>(hs.hr.blk id k hk).shut hS (fun hl b hb e=>h3 ⟨id,k,hk,hl,by rw [←e];exact hb⟩),hs.hr.inj⟩,fun i v hi=>(hs.tr i v hi).shut hS,⟨(List.nodup_cons.1 hnd).2,fun d hd' => ?_⟩,hs.nle,hs.sz,?_,fun id hid hn' => ?_⟩
 ·obtain ⟨r',e1,e2,e3,e4⟩:=hall d (List.mem_cons_of_mem _ hd')
  refine ⟨r',e1,e2,?_,e4⟩
  rw [←e3]
  refine hother r' (fun e => ?_)
  subst e
  rw [e1] at hd'
  exact (List.nodup_cons.1 hnd).1 hd'
 ·have he:=hs.ext
  exact ⟨by rw [←he.os];exact hS.os,by rw [←he.tape];exact hS.tape,by rw [←he.output];exact hS.output,by show w0.heap.size≤w'.heap.size;rw [hsz];exact he.size,
   fun b hb hO=>⟨(hother b (fun e=>by subst e;exact absurd hb (by show ¬b<w0.heap.size;omega))).trans (he.keep b hb hO).1,(he.keep b hb hO).2⟩,he.le,he.loc,he.lv⟩
 ·obtain ⟨k1,k2⟩:=hs.same id hid hn'
  refine ⟨k1,fun hl b hb=>(hother b (fun e => ?_)).trans (k2 hl b hb)⟩
  subst e
  obtain ⟨x,hx,lx⟩:=Wo h s id hid hn' hl
  exact h3 ⟨id,x,hx,lx,by rw [k1];exact hb⟩
theorem Jg {n:Nat} {fn:Func} {R:Ending→World→Prop} (hn:w0.heap.size≤n0):∀(ds:List Deferred) (a:Act) (w:World),a.defers=ds→SR n0 w0 L0 h nt s a w L →
  (∀w',SR n0 w0 L0 h nt s { a with defers:=[] } w' L→∃v,(results fn a.tmps).run P w' = .ok v w'∧R (.returned v) w')→LeavesInM Fence.wide n P fn a.tmps R ds .returning w
 | [],a,w,hd,hs,hf=>by
  have:{ a with defers:=[] }=a:=by cases a;simp at hd;subst hd;rfl
  rw [this] at hf
  exact hf w hs
 | d::ds,a,w,hd,hs,hf=>by
  obtain ⟨r,w',h1,h2,h3⟩:=hs.shut (P:=P) hn hd
  exact ⟨by simp,.inl ⟨r,w',h1,h2,Jg hn ds { a with defers:=ds } w' rfl h3 hf⟩⟩
end
def cRV (P:Program):ResultVar→Option RV
 | .tmp t=>some (.tmp t)
 | .cell a t=>match V5 P t,szT P t with
  | some g,some n=>if g=true∨n=1 then some (.cell a g n) else none
  | _,_=>none
def Zvl (P:Program):List ResultVar→Option (List RV)
 | []=>some []
 | x::xs=>match cRV P x,Zvl P xs with
  | some y,some ys=>some (y::ys)
  | _,_=>none
def Vz (P:Program) (f:FuncId) (esc:Bool) (hints:List (List Nat)):Option Zg :=
 match P.funcs[f]? with
 | some fn=>match fn.body with
  | some c => if (fn.name == "runtime.NumGoroutine") = false then
    match U8 P fn.ntmps true c hints,Zvl P fn.results.toList with
    | some (ic,[]),some rs=>some ⟨fn.params.size+fn.nfree,fn.ntmps,rs,esc,ic⟩
    | _,_=>none
   else none
  | none=>none
 | none=>none
section
variable {n0:Nat} {P:Program} {w w0:World} {L L0:Nat→Lc} {h:List Blk} {nt:Nat} {s:St} {a:Act}
def Hj (tmps:Array Value):ResultVar→Sem Value
 | .tmp t=>pure (tmps.getD t undef)
 | .cell a t=>do loadVar t (←asAddr (tmps.getD a undef))
theorem Nx (f:ResultVar→Sem Value) (P:Program) (w:World):∀(l:List ResultVar) (vs:List Value),l.length=vs.length→(∀(j:Nat) (x:ResultVar) (v:Value),l[j]? = some x→vs[j]? = some v→(f x).run P w = .ok v w) →
  (l.mapM f).run P w = .ok vs w
 | [],vs,hl,hh=>by
  have:vs=[]:=by cases vs <;> simp at hl;rfl
  subst this;simp
 | x::l,vs,hl,hh=>by
  cases vs with
  | nil=>simp at hl
  | cons v vs =>
   have h1:=hh 0 x v rfl rfl
   have h2:=Nx f P w l vs (by simpa using hl) (fun j y u hy hu=>hh (j+1) y u (by simpa using hy) (by simpa using hu))
   simp [List.mapM_cons,h1,h2]
theorem Zbx {fn:Func} {tmps:Array Value} {P:Program} {w:World} {vs:List Value} (hl:fn.results.toList.length=vs.length)
  (hh:∀(j:Nat) (x:ResultVar) (v:Value),fn.results.toList[j]? = some x→vs[j]? = some v→(Hj tmps x).run P w = .ok v w) :
  (results fn tmps).run P w = .ok (if hs:vs.toArray.size=1 then vs.toArray[0] else .tuple vs.toArray) w:=by
 have h1:=Nx (Hj tmps) P w fn.results.toList vs hl hh
 have h2:(fn.results.mapM (Hj tmps)).run P w = .ok vs.toArray w:=by
  rw [Array.mapM_eq_mapM_toList]
  simp [h1]
 unfold results
 have e:(fun x=>match x with
  | ResultVar.tmp t=>pure (tmps.getD t undef)
  | ResultVar.cell a t=>do loadVar t (←asAddr (tmps.getD a undef)):ResultVar→Sem Value)=Hj tmps:=by
   funext x;cases x <;> rfl
 rw [Sem.run_bind]
 refine Eq.trans (congrArg (fun q=>Result.andThen (Sem.run P q w) _) (congrArg (fun f=>Array.mapM f fn.results) e)) ?_
 rw [h2]
 rfl
theorem Z4h (hs:SR n0 w0 L0 h nt s a w L) {x:ResultVar} {y:RV} {v:AV} (hc:cRV P x=some y) (he:rvV h s y=some v) :
  ∃cv,AR (Zc w (full h s) L) v cv∧(Hj a.tmps x).run P w = .ok cv w:=by
 cases x with
 | tmp t =>
  cases hc
  exact ⟨_,hs.tr t v he,by simp [Hj]⟩
 | cell t ty =>
  simp only [cRV] at hc
  split at hc
  case h_2=>cases hc
  rename_i g n hg hn
  split at hc
  case isFalse=>cases hc
  rename_i hgn
  cases hc
  simp only [rvV] at he
  split at he
  case h_2=>cases he
  rename_i v' rs hv
  cases he
  obtain ⟨cv, h1, h2⟩ := Zpl (P := P) hs.hr hs.tr (dst := none) (ty := ty) (pos := "") (after := #[]) (gd := none) (p := .tmp t) hg hn hgn rfl hv
  refine ⟨cv,h1,?_⟩
  have h3:=h2 w (fun _ => .self _ _)
  simp only [execOp,Instr.loadAt,Sem.run_bind] at h3
  simp only [Hj,Sem.run_bind]
  have e:a.eval (.tmp t)=a.tmps.getD t undef:=rfl
  rw [e] at h3
  cases hq:a.tmps.getD t undef with
  | pointer A =>
   cases A with
   | none=>rw [hq] at h3;simp [Instr.sureAddr] at h3
   | some A =>
    rw [hq] at h3
    simp [Instr.sureAddr] at h3
    simp [asAddr]
    generalize (loadVar ty A).run P w=r at h3 ⊢
    cases r <;> simp at h3 ⊢
    exact h3
  | _=>rw [hq] at h3;simp [Instr.sureAddr] at h3
theorem Zqi (hs:SR n0 w0 L0 h nt s a w L):∀(l:List ResultVar) (rs:List RV) (vs:List AV),Zvl P l=some rs→K9 h s rs=some vs →
  ∃cs:List Value,l.length=cs.length∧vs.length=cs.length∧(∀(j:Nat) (x:ResultVar) (v:Value),l[j]? = some x→cs[j]? = some v→(Hj a.tmps x).run P w = .ok v w) ∧
   ∀(j:Nat) (x:AV) (v:Value),vs[j]? = some x→cs[j]? = some v→AR (Zc w (full h s) L) x v
 | [],rs,vs,hc,he=>by
  cases hc
  simp only [K9] at he
  cases he
  exact ⟨[],rfl,rfl,fun j x v hx=>by simp at hx,fun j x v hx=>by simp at hx⟩
 | x::l,rs,vs,hc,he=>by
  simp only [Zvl] at hc
  split at hc
  case h_2=>cases hc
  rename_i y ys hy hys
  cases hc
  simp only [K9] at he
  split at he
  case h_2=>cases he
  rename_i v vs' hv hvs
  cases he
  obtain ⟨cv,h1,h2⟩:=Z4h hs hy hv
  obtain ⟨cs,k1,k2,k3,k4⟩:=Zqi hs l ys vs' hys hvs
  refine ⟨cv::cs,by simp [k1],by simp [k2],fun j x v hx hv => ?_,fun j x v hx hv => ?_⟩
  ·cases j with
   | zero=>simp at hx hv;subst hx hv;exact h2
   | succ j=>exact k3 j x v (by simpa using hx) (by simpa using hv)
  ·cases j with
   | zero=>simp at hx hv;subst hx hv;exact h1
   | succ j=>exact k4 j x v (by simpa using hx) (by simpa using hv)
theorem Zi8 {E:Env} {vs:List AV} {cs:List Value} (hl:vs.length=cs.length) (hh:∀(j:Nat) (x:AV) (v:Value),vs[j]? = some x→cs[j]? = some v→AR E x v) :
  AR E (Zbm vs) (if hs:cs.toArray.size=1 then cs.toArray[0] else .tuple cs.toArray):=by
 match vs,cs,hl with
 | [],[],_=>exact .tup rfl (fun j x v hx=>by simp at hx)
 | [x],[v],_=>exact hh 0 x v rfl rfl
 | x::y::vs,v::u::cs,hl =>
  have:¬(v::u::cs).toArray.size=1:=by simp
  rw [dif_neg this]
  exact .tup (by simpa using hl) (fun j p q hp hq=>hh j p q hp (by simpa using hq))
theorem Gx {H:List Blk} {i:Nat} {k:Blk}:∀(m:List (Nat×Blk)),True→i∈Y8 m→(Zv H m)[i]? = some k→∃p∈m,p.2=k
 | [],_,hi,_=>by cases hi
 | (a,v)::t,_,hi,hk=>by
  simp only [Zv] at hk
  by_cases e:a=i
  ·subst e
   have hlt:a<(Zv H t).length:=by have:=(List.getElem?_eq_some_iff.1 hk).1;simpa using this
   rw [List.getElem?_set_self hlt] at hk
   exact ⟨(a,v),by simp,Option.some.inj hk⟩
  ·rw [List.getElem?_set_ne e] at hk
   simp only [Y8,List.map_cons,List.mem_cons] at hi
   obtain ⟨p,h1,h2⟩:=Gx t trivial (hi.resolve_left (fun h=>e h.symm)) hk
   exact ⟨p,by simp [h1],h2⟩
theorem Gy:∀(k:Nat) (args:List AV) (i:Nat) (v:AV),look (Sq k args) i=some v→∃j,i=k+j∧args[j]? = some v
 | _,[],_,_,h=>by cases h
 | k,x::r,i,v,h=>by
  simp only [Sq,look] at h
  split at h
  ·rename_i e;cases h;exact ⟨0,by omega,rfl⟩
  ·obtain ⟨j,h1,h2⟩:=Gy (k+1) r i v h
   exact ⟨j+1,by omega,by simpa using h2⟩
theorem Zl6 {E:FnS} (hE:Og P E) (hm:P.follows .mixedOrders=true) {f:FuncId} {esc:Bool} {hints:List (List Nat)} {F:Zg} (hF:Vz P f esc hints=some F)
  {args:List AV} {H:List Blk} {r:Res} (he:R9 E F args H=some r):Zbq P f args H r:=by
 unfold Vz at hF
 split at hF
 case h_2=>cases hF
 rename_i fn hfn
 split at hF
 case h_2=>cases hF
 rename_i c hbody
 split at hF
 case isFalse=>cases hF
 rename_i hname
 split at hF
 case h_2=>cases hF
 rename_i ic rs hic hrs
 cases hF
 intro w L xs hr ha
 refine .inl ⟨?_,?_⟩
 ·simp [callFunc,hfn,hname,hbody]
  simpa using hname
 refine callsIn_wide.1 (callsIn_of_wp_marks (n:=0) hfn hbody trivial ?_)
 unfold R9 at he
 simp only at he
 split at he
 case isFalse=>cases he
 rename_i hlen
 have hfull:full H ⟨Sq 0 args,[],[]⟩=H:=by simp [full,Zv]
 have hs0:SR w.heap.size w L H fn.ntmps ⟨Sq 0 args,[],[]⟩ { tmps:=xs++Array.replicate (fn.ntmps - xs.size) undef,defers:=[] } w L:=by
  refine ⟨by rw [hfull];exact hr,?_,B7.nil _ _,Nat.le_refl _,?_,by rw [hfull];exact .refl _,fun _ _ _=>⟨rfl,fun _ _ _=>rfl⟩⟩
  ·rw [hfull]
   intro i v hv
   obtain ⟨j,h1,h2⟩:=Gy 0 args i v hv
   have:i=j:=by omega
   subst this
   have hlt:i<xs.size:=by rw [←ha.1];exact (List.getElem?_eq_some_iff.1 h2).1
   refine ha.2 i v _ h2 ?_
   simp [Array.getD_eq_getD_getElem?,Array.getElem?_append_left hlt,hlt]
  ·have:=ha.1
   simp;omega
 have go:∀(e:Ex) (s:St),Zo E H ic ⟨Sq 0 args,[],[]⟩=some (e,s)→(e = .ret∨e = .normal)→finish H ⟨fn.params.size+fn.nfree,fn.ntmps,rs,esc,ic⟩ s=some r →
   c.wpIn Fence.wide 0 P (bodyPostM Fence.wide 0 P fn fun e w'=>∃v,e = .returned v∧∃L',AR (Zc w' (Zv H r.m++r.o) L') r.r v∧HR w' (Zv H r.m++r.o) L'∧Ext (Zc w H L) (Zc w' (Zv H r.m++r.o) L')∧Same w w' H L L' (Y8 r.m)) { tmps:=xs++Array.replicate (fn.ntmps - xs.size) undef,defers:=[] } w:=by
  intro e s hev hex hfin
  refine wpIn_mono (Jf hE hm (ro:=none) (fn:=0) (top:=true) (fun _=>rfl) c hints ic [] hic _ _ w L e s hs0 hev) fun e' a' w0' ⟨k1,L',k2⟩ => ?_
  have post:∀w',SR w.heap.size w L H fn.ntmps s { a' with defers:=[] } w' L'→∃v,(results fn a'.tmps).run P w' = .ok v w'∧∃v',Ending.returned v = .returned v'∧∃L',AR (Zc w' (Zv H r.m++r.o) L') r.r v'∧HR w' (Zv H r.m++r.o) L'∧Ext (Zc w H L) (Zc w' (Zv H r.m++r.o) L')∧Same w w' H L L' (Y8 r.m):=by
   intro w' k2
   unfold finish at hfin
   split at hfin
   case h_2=>cases hfin
   rename_i vs hvs
   obtain ⟨cs,j1,j2,j3,j4⟩:=Zqi k2 _ _ _ hrs hvs
   refine ⟨_,Zbx j1 j3,_,rfl,L',?_⟩
   simp only at hfin
   split at hfin
   ·cases hfin
    exact ⟨Zi8 j2 j4,k2.hr,k2.ext,k2.same⟩
   ·split at hfin
    case h_2=>cases hfin
    rename_i vs' hvs'
    split at hfin
    case isFalse=>cases hfin
    rename_i hall
    cases hfin
    simp only [List.append_nil]
    obtain ⟨i1,i2⟩:=Zi7 vs vs' hvs'
    refine ⟨Zi8 (by omega) (fun j x v hx hv => ?_),?_,?_,k2.same⟩
    ·obtain ⟨y,hy,hz⟩:=i2 j x hx
     exact Zvk k2.hr hz (j4 j y v hy hv)
    ·refine HR.drop (o:=s.o) k2.hr (fun i k hk => ?_)
     by_cases hi:i∈Y8 s.m
     ·obtain ⟨p,hp,rfl⟩:=Gx _ trivial hi hk
      exact .inl (by rw [Zr];exact List.all_eq_true.1 hall p hp)
     ·have hk':H[i]? = some k:=by rw [←Xy _ _ _ hi];exact hk
      obtain ⟨q1,q2⟩:=k2.same i (List.getElem?_eq_some_iff.1 hk').1 hi
      exact .inr ((hr.blk i k hk').mono (Zbw k2.ext (by rw [Zr];exact Nat.le_refl _)) q1 (fun hl b hb=>q2 ⟨k,hk',hl⟩ b hb))
    ·exact Zbw k2.ext (by rw [Zr];exact Nat.le_refl _)
  subst k1
  rcases hex with rfl | rfl
  ·exact Jg (Nat.le_refl _) _ a' w0' rfl k2 post
  ·exact Jg (Nat.le_refl _) _ a' w0' rfl k2 post
 split at he
 ·rename_i s hev;exact go _ s hev (.inl rfl) he
 ·rename_i s hev;exact go _ s hev (.inr rfl) he
 ·cases he
end
def Gz (P:Program) (R:U7):Prop :=
 R.rd.ps.toList=R.ps∧(R.ps.all fun p=>decide (p<R.rd.nt))=true∧(∃hs,U8 P R.rd.nt false R.rd.assign hs=some (R.as,[]))∧∃hs,U8 P R.rd.nt false R.rd.body hs=some (R.body,[])
theorem Zby {E:Env}:∀(ps:List Nat) (vs:List AV) (xs:List Value) (t:List (Nat×AV)) (tmps:Array Value) (nt:Nat),tmps.size=nt→(∀p∈ps,p<nt)→ps.length=vs.length→vs.length=xs.length →
  (∀(j:Nat) (a:AV) (v:Value),vs[j]? = some a→xs[j]? = some v→AR E a v)→(∀(i:Nat) (v:AV),look t i=some v→AR E v (tmps.getD i Go.undef)) →
  ((ps.zip xs).foldl (fun tmps (p:Nat×Value)=>tmps.setIfInBounds p.1 p.2) tmps).size=nt ∧
  ∀(i:Nat) (v:AV),look (Hf ps vs t) i=some v→AR E v (((ps.zip xs).foldl (fun tmps (p:Nat×Value)=>tmps.setIfInBounds p.1 p.2) tmps).getD i Go.undef)
 | [],vs,xs,t,tmps,nt,hsz,hp,h1,h2,ha,ht=>by
  cases vs with
  | nil=>exact ⟨hsz,ht⟩
  | cons v vs=>simp at h1
 | p::ps,vs,xs,t,tmps,nt,hsz,hp,h1,h2,ha,ht=>by
  cases vs with
  | nil=>simp at h1
  | cons v vs =>
   cases xs with
   | nil=>simp at h2
   | cons x xs =>
    simp only [Hf,List.zip_cons_cons,List.foldl_cons]
    refine Zby ps vs xs ((p,v)::t) (tmps.setIfInBounds p x) nt (by simpa using hsz) (fun q hq=>hp q (List.mem_cons_of_mem _ hq)) (by simpa using h1) (by simpa using h2)
     (fun j a u hj hu=>ha (j+1) a u (by simpa using hj) (by simpa using hu)) (fun i u hi => ?_)
    simp only [look] at hi
    have hpl:p<tmps.size:=by rw [hsz];exact hp p (by simp)
    split at hi
    ·rename_i e
     subst e
     cases hi
     have:=ha 0 v x rfl rfl
     simpa [hpl] using this
    ·rename_i e
     have:(tmps.setIfInBounds p x).getD i Go.undef=tmps.getD i Go.undef:=by
      simp [Array.getD_eq_getD_getElem?,Array.getElem?_setIfInBounds,e]
     rw [this]
     exact ht i u hi
theorem Fa (ps:Array Tmp) (xs:Array Value) (tmps:Array Value) :
  (ps.zip xs).foldl (fun tmps (t,a)=>tmps.setIfInBounds t a) tmps=(ps.toList.zip xs.toList).foldl (fun tmps (p:Nat×Value)=>tmps.setIfInBounds p.1 p.2) tmps:=by
 rw [←Array.foldl_toList,Array.toList_zip]
theorem Zbz {w w':World} {H:List Blk} {L:Nat→Lc} (hr:HR w H L) {id b:Nat} {k k':Blk} {o:Obj} (hid:H[id]? = some k) (hl:k.live=true) (hb:(L id).blk=some b) (hlt:b<w.heap.size)
  (hw:w.putObj b o=w') (hk:Ext (Zc w H L) (Zc w' (H.set id k') (Zw L id (L id)))→HB (Zc w' (H.set id k') (Zw L id (L id))) id k') :
  HR w' (H.set id k') (Zw L id (L id))∧Ext (Zc w H L) (Zc w' (H.set id k') (Zw L id (L id)))∧Same w w' H L (Zw L id (L id)) [id]:=by
 have hother:∀b',b' ≠ b→w'.heap[b']? = w.heap[b']?:=fun b' hb'=>by rw [←hw];exact World.putObj_heap_other hb'
 obtain ⟨t1,t2⟩:=hr.turn (w':=w') (k':=k') hid hl (L id) (by rw [←hw];rfl) (by rw [←hw];rfl) (by rw [←hw];rfl) (by rw [←hw];simp)
  (fun b' _ hne=>hother b' (fun e=>hne (by rw [e];exact hb))) (.refl _ _) (fun b' hb' => .inl hb') hk
 refine ⟨t1,t2,fun j hj hne=>⟨Yk _ _ _ (by simpa using hne),fun ⟨x',hx',lx⟩ b' hb'=>hother b' (fun e => ?_)⟩⟩
 subst e
 exact hne (by simp [hr.inj j id b' x' _ hx' hid lx hl hb' hb])
theorem Ac (L:Nat→Lc) (id:Nat):Zw L id (L id)=L:=by
 funext i
 by_cases e:i=id
 ·subst e;rw [Zd]
 ·rw [Yk _ _ _ e]
theorem Zfr {P : Program} {E : FnS} (hE : Og P E) (hm : P.follows .mixedOrders = true) {R : U7} (hR : Gz P R) {vs : List AV} {id : Nat} {H : List Blk} {r : Res} (he : Vt E R vs id H = some r) : Z1v P (vs ++ [.yv id]) H r := by
  intro vs' id' heq w L xs b hr ha hb
  obtain ⟨rfl, hid'⟩ := List.append_inj' heq rfl
  have : id = id' := by simpa using hid'
  subst this
  obtain ⟨rd0, rps, ras, rbody⟩ := R
  obtain ⟨hps, hpl, ⟨hs1, hc1⟩, hs2, hc2⟩ := hR
  simp only at hps hpl hc1 hc2
  unfold Vt at he
  split at he
  case h_2 => cases he
  rename_i rd t hH
  split at he
  case isFalse => cases he
  rename_i hcond
  obtain ⟨rfl, hlen⟩ := hcond
  simp only at he hlen
  have hidlt : id < H.length := (List.getElem?_eq_some_iff.1 hH).1
  obtain ⟨z1, b', rec, z2, z3, y1, y2, y3, y4, y5, y6⟩ := hr.blk id _ hH
  have hbb : b' = b := by have : (L id).blk = some b' := z2; rw [hb] at this; exact (Option.some.inj this).symm
  subst hbb
  have hz3 : w.heap[b']? = some (.loop rec) := z3
  have hst : (L id).st = true := z1
  have hblt : b' < w.heap.size := (Array.getElem?_eq_some_iff.1 hz3).1
  have hl : ∀ i, i ∈ [id] → Live H i := fun i hi => by simp at hi; subst hi; exact ⟨_, hH, rfl⟩
  have hr1 := hr.hide hl
  have henv : Zc w (Yi [id] H) L = Zc w H L := Qj hl
  have hget : (Yi [id] H)[id]? = some .hid := by rw [Wn]; simp [hH]
  have hlenH : (Yi [id] H).length = H.length := Xx _ _
  unfold N5 at he
  split at he
  case h_2 => cases he
  rename_i t1 hev1
  unfold Gn at he
  dsimp only at he
  split at he
  case h_2 => cases he
  rename_i e s hev2
  split at he
  case isFalse => cases he
  rename_i hall
  cases he
  have hnk : id ∉ Y8 s.m := fun hk => by
    obtain ⟨p, hp, e⟩ := List.mem_map.1 hk
    have := List.all_eq_true.1 hall p hp
    simp [e] at this
  have hput := Zby (E := Zc w H L) rps vs xs.toList t rec.tmps rd.nt y4 (fun p hp => by simpa using List.all_eq_true.1 hpl p hp) hlen.symm (by have := ha.1; simpa using this)
    (fun j a v hj hv => ha.2 j a v hj (by simpa using hv)) y6
  have hT : (rec.params.zip xs).foldl (fun tmps (t, a) => tmps.setIfInBounds t a) rec.tmps = (rps.zip xs.toList).foldl (fun tmps (p : Nat × Value) => tmps.setIfInBounds p.1 p.2) rec.tmps := by rw [Fa, y1, hps]
  refine ⟨rec.fn, _, rec.assign, rec.body, run_yield hz3 (by rw [y1]; have := ha.1; have h2 : rd.ps.size = rps.length := by rw [← hps]; simp
                                                             omega), ?_⟩
  rw [hT]
  generalize (rps.zip xs.toList).foldl (fun tmps (p : Nat × Value) => tmps.setIfInBounds p.1 p.2) rec.tmps = T0 at hput
  refine roundIn_of_wpIn trivial ?_
  rw [show Fence.wide.inRound b' = Uv (some b') from rfl]
  have hfull0 : ∀ t, full (Yi [id] H) ⟨t, [], []⟩ = Yi [id] H := fun t => by simp [full, Zv]
  have hS0 : SR 0 w L (Yi [id] H) rd.nt ⟨Hf rps vs t, [], []⟩ { tmps := T0, defers := [] } w L := by
    refine ⟨by rw [hfull0]; exact hr1, ?_, B7.nil _ _, Nat.zero_le _, hput.1, by rw [hfull0]; exact .refl _, fun _ _ _ => ⟨rfl, fun _ _ _ => rfl⟩⟩
    rw [hfull0, henv]
    exact hput.2
  rw [y2, y3]
  refine wpIn_mono (Jf hE hm (ro := some b') (fn := 0) (top := false) (fun h => by cases h) rd.assign hs1 ras [] hc1 _ _ w L .normal _ hS0 hev1) fun e' a1 w1 ⟨k1, L1, k2⟩ => ?_
  subst k1
  show ∃ w₂, _ ∧ _
  have hk2hr : HR w1 (Yi [id] H) L1 := by have := k2.hr; rwa [hfull0] at this
  have hext1 : Ext (Zc w (Yi [id] H) L) (Zc w1 (Yi [id] H) L1) := by have := k2.ext; rwa [hfull0] at this
  have hsame1 : Same w w1 (Yi [id] H) L L1 [] := k2.same
  obtain ⟨m1, m2⟩ := hsame1 id (by rw [hlenH]; exact hidlt) (by simp)
  have hliveid : Live (Yi [id] H) id := ⟨_, hget, rfl⟩
  have hw1 : w1.heap[b']? = some (.loop rec) := (m2 hliveid b' hb).trans hz3
  have hb1 : (L1 id).blk = some b' := by rw [m1]; exact hb
  obtain ⟨w2, hw2⟩ : ∃ w2, w1.putObj b' (.loop { rec with state := .busy }) = w2 := ⟨_, rfl⟩
  have hbegin : (Instr.beginRound b').run P w1 = .ok () w2 := by rw [← hw2]; exact run_beginRound hw1 y5.1
  have hblt1 : b' < w1.heap.size := (Array.getElem?_eq_some_iff.1 hw1).1
  have hset0 : (Yi [id] H).set id .hid = Yi [id] H := by
    apply List.ext_getElem?
    intro i
    by_cases e : i = id
    · subst e; rw [List.getElem?_set_self (by rw [hlenH]; exact hidlt), hget]
    · rw [List.getElem?_set_ne (fun h => e h.symm)]
  obtain ⟨t1r, t1e, t1s⟩ := Zbz hk2hr (k' := .hid) hget rfl hb1 hblt1 hw2 (fun _ b2 hb2 => by
    have h2 : (Zw L1 id (L1 id) id).blk = some b2 := hb2
    rw [Zd, hb1] at h2
    cases h2
    show b' < w2.heap.size
    rw [← hw2]; simpa using hblt1)
  rw [Ac, hset0] at t1r t1e
  rw [Ac] at t1s
  have hw2b : w2.heap[b']? = some (.loop { rec with state := .busy }) := by rw [← hw2]; exact World.putObj_heap_same hblt1
  refine ⟨w2, hbegin, ?_⟩
  have hS2 : SR 0 w2 L1 (Yi [id] H) rd.nt ⟨t1, [], []⟩ a1 w2 L1 := by
    refine ⟨by rw [hfull0]; exact t1r, ?_, ?_, Nat.zero_le _, k2.sz, by rw [hfull0]; exact .refl _, fun _ _ _ => ⟨rfl, fun _ _ _ => rfl⟩⟩
    · rw [hfull0]
      have := k2.tr
      rw [hfull0] at this
      exact this.mono t1e
    · rw [hfull0]
      have := k2.df
      rw [hfull0] at this
      exact this.mono t1e
  refine wpIn_mono (Jf hE hm (ro := some b') (fn := 0) (top := false) (fun h => by cases h) rd.body hs2 rbody [] hc2 _ _ w2 L1 e s hS2 hev2) fun e' a3 w3 ⟨q1, L3, q2⟩ => ?_
  subst q1
  obtain ⟨n1, n2⟩ := q2.same id (by rw [hlenH]; exact hidlt) hnk
  have hw3 : w3.heap[b']? = some (.loop { rec with state := .busy }) := (n2 hliveid b' hb1).trans hw2b
  have hb3 : (L3 id).blk = some b' := by rw [n1]; exact hb1
  have hblt3 : b' < w3.heap.size := (Array.getElem?_eq_some_iff.1 hw3).1
  have hfid : (full (Yi [id] H) s)[id]? = some .hid := by rw [Zbr _ s (by rw [hlenH]; exact hidlt) hnk]; exact hget
  obtain ⟨w4, hw4⟩ : ∃ w4, w3.putObj b' (.loop { rec with state := if (((Sw e).map Pt).isNone) then .ready else .done, pending := (Sw e).map Pt }) = w4 := ⟨_, rfl⟩
  have hend : (Instr.endRound b' ((Sw e).map Pt)).run P w3 = .ok (.bool ((Sw e).map Pt).isNone) w4 := by have := run_endRound (P := P) ((Sw e).map Pt) hw3; rw [← hw4]; exact this
  have hw4b : w4.heap[b']? = some (.loop { rec with state := if (((Sw e).map Pt).isNone) then .ready else .done, pending := (Sw e).map Pt }) := by rw [← hw4]; exact World.putObj_heap_same hblt3
  have hextA : Ext (Zc w H L) (Zc w3 (full (Yi [id] H) s) L3) := by
    rw [← henv]; exact (hext1.trans t1e).trans q2.ext
  obtain ⟨t4r, t4e, t4s⟩ := Zbz q2.hr (k' := .lp rd t (Sw e)) hfid rfl hb3 hblt3 hw4 (fun hx => by
    refine ⟨?_, b', _, ?_, hw4b, y1, y2, y3, y4, ?_, fun i v hi => ((y6 i v hi).mono hextA).mono hx⟩
    · show (Zw L3 id (L3 id) id).st = true; rw [Zd, n1, m1]; exact hst
    · show (Zw L3 id (L3 id) id).blk = _; rw [Zd]; exact hb3
    · cases e <;> exact ⟨rfl, rfl⟩)
  rw [Ac] at t4r t4e t4s
  have hfin : (full (Yi [id] H) s).set id (.lp rd t (Sw e)) = Zv H ((id, .lp rd t (Sw e)) :: s.m) ++ s.o := by
    unfold full
    simp only [Zv]
    rw [List.set_append_left _ _ (by rw [Zr, hlenH]; exact hidlt)]
    congr 1
    apply List.ext_getElem?
    intro i
    by_cases e : id = i
    · subst e
      rw [List.getElem?_set_self (by rw [Zr, hlenH]; exact hidlt), List.getElem?_set_self (by rw [Zr]; exact hidlt)]
    · rw [List.getElem?_set_ne e, List.getElem?_set_ne e]
      refine Qa _ _ _ _ hlenH (fun _ => ?_)
      rw [Wn]; simp [Ne.symm e]
  rw [hfin] at t4r t4e
  have hsame : Same w w4 H L L3 (Y8 ((id, .lp rd t (Sw e)) :: s.m)) := by
    intro j hj hn
    simp only [Y8, List.map_cons, List.mem_cons, not_or] at hn
    obtain ⟨hn1, hn2⟩ := hn
    have hj' : j < (Yi [id] H).length := by rw [hlenH]; exact hj
    have hlj : Live H j → Live (Yi [id] H) j := fun ⟨x, hx, lx⟩ => ⟨x, by rw [Wn]; simp [hn1]; exact hx, lx⟩
    obtain ⟨a1, a2⟩ := hsame1 j hj' (by simp)
    obtain ⟨b1, b2⟩ := t1s j hj' (by simpa using hn1)
    obtain ⟨c1, c2⟩ := q2.same j hj' hn2
    obtain ⟨d1, d2⟩ := t4s j (by rw [Yw]; show j < _ + _; omega) (by simpa using hn1)
    refine ⟨c1.trans a1, fun hlv bb hbb => ?_⟩
    have hl1 := hlj hlv
    rw [d2 (Wo _ s j hj' hn2 hl1) bb (by rw [c1, a1]; exact hbb), c2 hl1 bb (by rw [a1]; exact hbb), b2 hl1 bb (by rw [a1]; exact hbb), a2 hl1 bb hbb]
  have hres : ∃ v, (Ending.returned (Value.bool ((Sw e).map Pt).isNone)) = .returned v ∧ ∃ L', AR (Zc w4 (Zv H ((id, .lp rd t (Sw e)) :: s.m) ++ s.o) L') (.g (.bool (Sw e).isNone)) v ∧ HR w4 (Zv H ((id, .lp rd t (Sw e)) :: s.m) ++ s.o) L' ∧
      Ext (Zc w H L) (Zc w4 (Zv H ((id, .lp rd t (Sw e)) :: s.m) ++ s.o) L') ∧ Same w w4 H L L' (Y8 ((id, .lp rd t (Sw e)) :: s.m)) := by
    refine ⟨_, rfl, L3, ?_, t4r, hextA.trans t4e, hsame⟩
    have : ((Sw e).map Pt).isNone = (Sw e).isNone := by cases e <;> rfl
    rw [this]
    exact .g (.bool _)
  cases e <;> exact ⟨_, w4, hend, hres⟩
theorem Zqj {α:Type} {f:Nat→Option α} (hm:∀n m r,n≤m→f n=some r→f m=some r) {n:Nat} {r:α} (h:f n=some r):lim f=some r:=by
 unfold lim
 have hx:∃n r,f n=some r:=⟨n,r,h⟩
 rw [dif_pos hx]
 obtain ⟨r',hr'⟩:=hx.choose_spec
 rw [hr']
 rcases Nat.le_total n hx.choose with hle | hle
 ·rw [←hr'];exact hm _ _ _ hle h
 ·have:=hm _ _ _ hle hr';rw [h] at this;exact this.symm
theorem Fb (step:St→Out) (lv:List Nat):∀(n m:Nat) (s:St) (r:Ex×St),n≤m→Sp step lv n s=some r→Sp step lv m s=some r
 | 0,_,_,_,_,h=>by cases h
 | n+1,0,_,_,hle,_=>by omega
 | n+1,m+1,s,r,hle,h=>by
  simp only [Sp,sk] at h ⊢
  split at h
  ·exact Fb step lv n m _ r (by omega) h
  ·exact h
theorem Mv {step:St→Out} {lv:List Nat} {n:Nat} {s:St} {r:Ex×St} (h:Sp step lv n s=some r):Gl step lv s=some r :=
 Zqj (fun n m r hle=>Fb step lv n m s r hle) h
theorem Ad {x:Out} {k:St→Out} {r:Ex×St} (h:sk x k=some r):(∃s,x=some (.normal,s)∧k s=some r)∨(x=some r∧r.1 ≠ .normal):=by
 unfold sk at h
 split at h
 ·exact .inl ⟨_,rfl,h⟩
 ·rename_i hn
  subst h
  obtain ⟨e,s⟩:=r
  exact .inr ⟨rfl,fun e'=>hn s (by rw [←e'])⟩
theorem Zi9 {x:Out} {k:St→Out} {r:Ex×St} (h:x=some r) (hn:r.1 ≠ .normal):sk x k=some r:=by
 subst h
 obtain ⟨e,s⟩:=r
 cases e <;> first | exact absurd rfl hn | rfl
theorem Zqk (step:St→Out) (lv:List Nat) (s:St):Gl step lv s=sk (step s) fun s'=>Gl step lv (s'.kp lv):=by
 apply Option.ext
 intro r
 constructor
 ·intro h
  obtain ⟨n,hn⟩:=Qm h
  cases n with
  | zero=>cases hn
  | succ n =>
   simp only [Sp] at hn
   rcases Ad hn with ⟨s1,h1,h2⟩ | ⟨h1,h2⟩
   ·rw [h1];exact Mv h2
   ·exact Zi9 h1 h2
 ·intro h
  rcases Ad h with ⟨s1,h1,h2⟩ | ⟨h1,h2⟩
  ·obtain ⟨n,hn⟩:=Qm h2
   exact Mv (n:=n+1) (by simp only [Sp,sk,h1];exact hn)
  ·exact Mv (n:=1) (by simp only [Sp];exact Zi9 h1 h2)
abbrev Qs:=List ((FuncId×List AV×List Blk)×Res)
def QS (E:FnS) (l:Qs):Prop:=∀q,q∈l→E q.1.1 q.1.2.1 q.1.2.2=some q.2
theorem QS.left {E:FnS} {l l':Qs} (h:QS E (l++l')):QS E l:=fun q hq=>h q (List.mem_append.2 (.inl hq))
theorem QS.right {E:FnS} {l l':Qs} (h:QS E (l++l')):QS E l':=fun q hq=>h q (List.mem_append.2 (.inr hq))
theorem QS.app {E:FnS} {l l':Qs} (h:QS E l) (h':QS E l'):QS E (l++l'):=fun q hq=>(List.mem_append.1 hq).elim (h q) (h' q)
theorem QS.nil (E:FnS):QS E []:=fun _ h=>by cases h
def Xp {α:Type} (E:FnS) (g:FnS→Option α) (r:α):Prop:=∃l,QS E l∧∀E',QS E' l→g E'=some r
theorem Xp.const {α:Type} {E:FnS} {g:FnS→Option α} {r:α} (h:∀E',g E'=some r):Xp E g r:=⟨[],QS.nil _,fun E' _=>h E'⟩
theorem Xp.congr {α β:Type} {E:FnS} {g:FnS→Option α} {g':FnS→Option β} {x:α} {r:β} (h:Xp E g x) (hk:∀E',g E'=some x→g' E'=some r):Xp E g' r :=
 let ⟨l,h1,h2⟩:=h;⟨l,h1,fun E' h'=>hk E' (h2 E' h')⟩
theorem Xp.bind {α β γ:Type} {E:FnS} {g:FnS→Option α} {g2:FnS→Option β} {g':FnS→Option γ} {x:α} {y:β} {r:γ} (h:Xp E g x) (h2:Xp E g2 y)
  (hk:∀E',g E'=some x→g2 E'=some y→g' E'=some r):Xp E g' r :=
 let ⟨l,h1,h1'⟩:=h;let ⟨l',h3,h3'⟩:=h2;⟨l++l',h1.app h3,fun E' h'=>hk E' (h1' E' h'.left) (h3' E' h'.right)⟩
section
variable {E:FnS} {h:List Blk} {nb:Nat} {hd lv:List Nat} {s:St}
theorem Ae {f:AV} {xs:List AV} {r} (he:X7 E h hd s f xs=some r):Xp E (fun E=>X7 E h hd s f xs) r:=by
 unfold X7 at he
 split at he
 case isFalse=>cases he
 rename_i hl
 have key:∀(g:FuncId) (ys:List AV),fin h hd s (E g ys (Yi hd (full h s)))=some r→(∀E':FnS,X7 E' h hd s f xs=fin h hd s (E' g ys (Yi hd (full h s)))) →
   Xp E (fun E=>X7 E h hd s f xs) r:=by
  intro g ys hf hE'
  cases hq:E g ys (Yi hd (full h s)) with
  | none=>rw [hq] at hf;cases hf
  | some q =>
   rw [hq] at hf
   refine ⟨[((g,ys,Yi hd (full h s)),q)],fun p hp=>by simp at hp;subst hp;exact hq,fun E' h' => ?_⟩
   have:=h' _ (List.mem_singleton.2 rfl)
   simp only [hE']
   simp only at this
   rw [this]
   exact hf
 split at he
 ·exact key _ _ he fun E'=>by simp only [X7,if_pos hl]
 ·exact key _ _ he fun E'=>by simp only [X7,if_pos hl]
 ·exact key _ _ he fun E'=>by simp only [X7,if_pos hl]
 ·cases he
theorem Zfs {op:AOp} {r} (he:Ye E h nb hd s op=some r):Xp E (fun E=>Ye E h nb hd s op) r:=by
 by_cases hc:∃f xs,op = .call f xs
 ·obtain ⟨f,xs,rfl⟩:=hc
  simp only [Ye] at he
  split at he
  ·rename_i fv vs hf hv
   refine (Ae he).congr fun E' h' => ?_
   simp only [Ye,hf,hv];exact h'
  ·cases he
 ·refine Xp.const fun E' => ?_
  rw [Gt (fun f xs e=>hc ⟨f,xs,e⟩)] at he ⊢
  exact he
theorem Zl7 {α:Type} {g:Option (Nat×Bool)} {yes:FnS→St→Option α} {no:St→Option α} {r:α} (hy:∀s,yes E s=some r→Xp E (fun E=>yes E s) r) (he:gdo s g (yes E) no=some r) :
  Xp E (fun E=>gdo s g (yes E) no) r:=by
 unfold gdo at he
 split at he
 ·exact (hy _ he).congr fun E' k=>k
 ·rename_i g b
  split at he
  ·rename_i x hx
   split at he
   ·rename_i hxb
    refine (hy _ he).congr fun E' k => ?_
    simp only [gdo,hx,if_pos hxb];exact k
   ·rename_i hxb
    refine Xp.const fun E' => ?_
    simp only [gdo,hx,if_neg hxb];exact he
  ·rename_i hx
   refine Xp.const fun E' => ?_
   simp only [gdo,hx];exact he
  ·cases he
theorem Ry {o:Z0} {r} (he:Wh E h nb hd s o=some r):Xp E (fun E=>Wh E h nb hd s o) r:=by
 unfold Wh at he ⊢
 refine Zl7 (yes:=fun E s=>ob (Ye E h nb hd s o.op) fun p=>some (p.2.1.put o.d p.1,p.2.2)) (fun s hs => ?_) he
 obtain ⟨p,hp,hs⟩:=V8 hs
 refine (Zfs hp).congr fun E' k => ?_
 simp only [k,ob];exact hs
theorem Hk:∀(l:List Z0) (s:St) (r:St),Vy E h l s=some r→Xp E (fun E=>Vy E h l s) r
 | [],s,r,he=>Xp.const fun E'=>he
 | o::l,s,r,he=>by
  simp only [Vy] at he
  obtain ⟨p,h1,he⟩:=V8 he
  refine (Ry h1).bind (Hk l p.1 r he) fun E' k1 k2 => ?_
  simp only [Vy,k1,ob]
  exact k2
theorem Vd:∀(hd:List Nat) (t:Vv) (s:St) (r:St),Z4 E h nb lv hd t s=some r→Xp E (fun E=>Z4 E h nb lv hd t s) r
 | hd,.free t,s,r,he=>by
  simp only [Z4] at he
  refine (Vd [] t s r he).congr fun E' k => ?_
  simp only [Z4]
  exact k
 | hd,.hold ts t,s,r,he=>by
  simp only [Z4] at he
  refine (Vd hd t s r he).congr fun E' k => ?_
  simp only [Z4]
  exact k
 | hd,.leaf,s,r,he=>Xp.const fun E'=>by simpa only [Z4] using he
 | hd,.take o t,s,r,he=>by
  simp only [Z4] at he
  split at he
  case h_2=>cases he
  rename_i s' rs h1
  refine (Vd hd t s' r he).congr fun E' k => ?_
  simp only [Z4,h1]
  exact k
 | hd,.one o t,s,r,he=>by
  simp only [Z4] at he
  split at he
  case h_2=>cases he
  rename_i s' ws h1
  split at he
  case isFalse=>cases he
  rename_i hw
  refine (Ry h1).bind (Vd hd t s' r he) fun E' k1 k2 => ?_
  simp only [Z4,k1,if_pos hw]
  exact k2
 | hd,.alt o t t2,s,r,he=>by
  simp only [Z4] at he
  split at he
  case h_2=>cases he
  rename_i s' ws h1
  split at he
  case isFalse=>cases he
  rename_i hw
  split at he
  case h_2=>cases he
  rename_i x y hx hy
  split at he
  case isFalse=>cases he
  rename_i hxy
  subst hxy
  refine ((Ry h1).bind (Vd hd t s' x hx) (g':=fun E=>match Wh E h nb hd s o with
   | some (s',ws)=>if (ws.all fun i => !hd.contains i)=true then Z4 E h nb lv hd t s' else none
   | none=>none) (r:=x) fun E' k1 k2 => ?_).bind (Vd hd t2 s x hy) fun E' k1 k2 => ?_
  ·simp only [k1,if_pos hw];exact k2
  ·simp only [Z4]
   split at k1
   case h_2=>cases k1
   rename_i s2 ws2 h2
   split at k1
   case isFalse=>cases k1
   rename_i hw2
   simp only [h2,if_pos hw2,k1,k2]
   exact he
theorem Pa:∀(t:Vv) (hd:List Nat) (s:St) (r:St),Yo E h nb lv hd t s=some r→Xp E (fun E=>Yo E h nb lv hd t s) r
 | .take o t,hd,s,r,he=>by
  simp only [Yo] at he
  split at he
  case h_2=>cases he
  rename_i s' rs h1
  refine (Pa t _ s' r he).congr fun E' k => ?_
  simp only [Yo,h1]
  exact k
 | .hold ts t,hd,s,r,he=>by
  simp only [Yo] at he
  refine (Pa t _ s r he).congr fun E' k => ?_
  simp only [Yo]
  exact k
 | .leaf,hd,s,r,he | .free _,hd,s,r,he | .one _ _,hd,s,r,he | .alt _ _ _,hd,s,r,he=>by
  simp only [Yo] at he
  split at he
  case isFalse=>cases he
  rename_i hl
  refine (Vd _ _ s r he).congr fun E' k => ?_
  simp only [Yo,if_pos hl]
  exact k
theorem Ce {f:FuncId} {ys:List AV} {H:List Blk} {r} (he:fin h [] s (E f ys H)=some r):Xp E (fun E=>fin h [] s (E f ys H)) r:=by
 cases hq:E f ys H with
 | none=>rw [hq] at he;cases he
 | some q =>
  rw [hq] at he
  refine ⟨[((f,ys,H),q)],fun p hp=>by simp at hp;subst hp;exact hq,fun E' h' => ?_⟩
  have:=h' _ (List.mem_singleton.2 rfl)
  simp only at this
  simp only [this]
  exact he
theorem Af {o:Z0} {r} (he:Ud E h s o=some r):Xp E (fun E=>Ud E h s o) r:=by
 obtain ⟨d,gd,op⟩:=o
 by_cases hc:∃f xs,op = .ycall f xs
 ·obtain ⟨f,xs,rfl⟩:=hc
  simp only [Ud] at he
  split at he
  ·obtain ⟨p,hp,he⟩:=V8 he
   unfold Mr at hp
   split at hp
   case h_2=>cases hp
   rename_i id vs hf hv
   split at hp
   case h_2=>cases hp
   rename_i rd t hB
   split at hp
   case h_2=>cases hp
   rename_i v s' ws hfin
   cases hp
   refine (Ce hfin).congr fun E' k => ?_
   simp only [Ud,Mr,hf,hv,hB,k,ob]
   exact he
  ·cases he
 ·have e:∀E,Ud E h s ⟨d,gd,op⟩=ob (Wh E h 0 [] s ⟨d,gd,op⟩) fun p=>some p.1:=by
   intro E
   cases op <;> first | rfl | exact absurd ⟨_,_,rfl⟩ hc
  rw [e] at he
  obtain ⟨p,hp,he⟩:=V8 he
  refine (Ry hp).congr fun E' k => ?_
  simp only [e,k,ob]
  exact he
theorem Mw:∀(l:List Z0) (s:St) (r:St),Vb E h l s=some r→Xp E (fun E=>Vb E h l s) r
 | [],s,r,he=>Xp.const fun E'=>he
 | o::l,s,r,he=>by
  simp only [Vb] at he
  obtain ⟨p,h1,he⟩:=V8 he
  refine (Af h1).bind (Mw l p r he) fun E' k1 k2 => ?_
  simp only [Vb,k1,ob]
  exact k2
theorem Zft {rd:RD} {lt:List Nat} {f:Opd} {r} (he:Zbl E h lv rd lt f s=some r):Xp E (fun E=>Zbl E h lv rd lt f s) r:=by
 unfold Zbl at he
 split at he
 case h_2=>cases he
 rename_i g c caps hf
 split at he
 case h_2=>cases he
 rename_i v s' ws hfin
 refine (Ce hfin).congr fun E' k => ?_
 simp only [Zbl,hf,k]
 exact he
theorem Xn:∀(c:IC) (s:St) (r:Ex×St),Zo E h c s=some r→Xp E (fun E=>Zo E h c s) r
 | .skip,s,r,he=>Xp.const fun E'=>by simpa only [Zo] using he
 | .exit _,s,r,he=>Xp.const fun E'=>by simpa only [Zo] using he
 | .ret,s,r,he=>Xp.const fun E'=>by simpa only [Zo] using he
 | .regy lv ops,s,r,he=>by
  simp only [Zo] at he
  cases hq:Vb E h ops s with
  | none=>rw [hq] at he;cases he
  | some s' =>
   rw [hq] at he
   refine (Mw ops s s' hq).congr fun E' k => ?_
   simp only [Zo,k];exact he
 | .rfun lv rd lt f,s,r,he=>by
  simp only [Zo] at he
  refine (Zft he).congr fun E' k => ?_
  simp only [Zo];exact k
 | .reg lv ops,s,r,he=>by
  simp only [Zo] at he
  cases hq:Vy E h ops s with
  | none=>rw [hq] at he;cases he
  | some s' =>
   rw [hq] at he
   refine (Hk ops s s' hq).congr fun E' k => ?_
   simp only [Zo,k];exact he
 | .drw lv nb t,s,r,he=>by
  simp only [Zo] at he
  cases hq:Yo E h (h.length+s.o.length) lv [] t (Yf s nb) with
  | none=>rw [hq] at he;cases he
  | some s' =>
   rw [hq] at he
   refine (Pa t [] _ s' hq).congr fun E' k => ?_
   simp only [Zo,k];exact he
 | .seq a b,s,r,he=>by
  simp only [Zo] at he
  rcases Ad he with ⟨s1,h1,h2⟩ | ⟨h1,h2⟩
  ·refine (Xn a s _ h1).bind (Xn b s1 r h2) fun E' k1 k2 => ?_
   simp only [Zo,sk,k1];exact k2
  ·refine (Xn a s _ h1).congr fun E' k1 => ?_
   simp only [Zo];exact Zi9 k1 h2
 | .cond lv c a b,s,r,he=>by
  simp only [Zo] at he
  split at he
  case h_2=>cases he
  rename_i x hx
  cases x with
  | true =>
   simp only [if_true] at he
   cases hq:Zo E h a s with
   | none=>rw [hq] at he;cases he
   | some s' =>
    rw [hq] at he
    refine (Xn a s s' hq).congr fun E' k => ?_
    simp only [Zo,hx,if_true,k];exact he
  | false =>
   simp only [Bool.false_eq_true,if_false] at he
   cases hq:Zo E h b s with
   | none=>rw [hq] at he;cases he
   | some s' =>
    rw [hq] at he
    refine (Xn b s s' hq).congr fun E' k => ?_
    simp only [Zo,hx,Bool.false_eq_true,if_false,k];exact he
 | .block lv id c,s,r,he=>by
  simp only [Zo] at he
  cases hq:Zo E h c s with
  | none=>rw [hq] at he;cases he
  | some s' =>
   rw [hq] at he
   refine (Xn c s s' hq).congr fun E' k => ?_
   simp only [Zo,k];exact he
 | .loop lv _ c,s,r,he=>by
  simp only [Zo,Gl] at he
  obtain ⟨n,hn⟩:=Qm he
  have key:∀(n:Nat) (s:St),Sp (fun s=>Zo E h c s) lv n s=some r→Xp E (fun E=>Sp (fun s=>Zo E h c s) lv n s) r:=by
   intro n
   induction n with
   | zero=>intro s hh;cases hh
   | succ n ih =>
    intro s hh
    simp only [Sp] at hh
    rcases Ad hh with ⟨s1,h1,h2⟩ | ⟨h1,h2⟩
    ·refine (Xn c s _ h1).bind (ih _ h2) fun E' k1 k2 => ?_
     simp only [Sp,sk,k1];exact k2
    ·refine (Xn c s _ h1).congr fun E' k1 => ?_
     simp only [Sp];exact Zi9 k1 h2
  refine (key n _ hn).congr fun E' k => ?_
  simp only [Zo]
  exact Mv k
theorem My {F:Zg} {args:List AV} {H:List Blk} {r:Res} (he:R9 E F args H=some r):Xp E (fun E=>R9 E F args H) r:=by
 unfold R9 at he
 split at he
 case isFalse=>cases he
 rename_i hl
 cases hq:Zo E H F.body ⟨Sq 0 args,[],[]⟩ with
 | none=>rw [hq] at he;cases he
 | some x =>
  rw [hq] at he
  refine (Xn F.body _ x hq).congr fun E' k => ?_
  simp only [R9,if_pos hl,k]
  exact he
theorem Ny {R:U7} {vs:List AV} {id:Nat} {H:List Blk} {r:Res} (he:Vt E R vs id H=some r):Xp E (fun E=>Vt E R vs id H) r:=by
 unfold Vt at he
 split at he
 case h_2=>cases he
 rename_i rd t hH
 split at he
 case isFalse=>cases he
 rename_i hcond
 unfold N5 at he
 split at he
 case h_2=>cases he
 rename_i t1 hev1
 unfold Gn at he
 dsimp only at he
 split at he
 case h_2=>cases he
 rename_i e s hev2
 refine (Xn _ _ _ hev1).bind (Xn _ _ _ hev2) fun E' k1 k2 => ?_
 simp only [Vt,hH,if_pos hcond,N5,k1,Gn,k2]
 exact he
theorem Fc {R:Option U7} {as:List AV} {H:List Blk} {r:Res} (he:Re E R as H=some r):Xp E (fun E=>Re E R as H) r:=by
 unfold Re at he
 split at he
 ·rename_i R id hl
  refine (Ny he).congr fun E' k => ?_
  simp only [Re,hl];exact k
 ·cases he
theorem Zl8 {T:Tab} {f:FuncId} {args:List AV} {H:List Blk} {r:Res} (he:evX T E f args H=some r):Xp E (fun E=>evX T E f args H) r:=by
 by_cases hy:∃key as,args = .yk key::as
 ·obtain ⟨key,as,rfl⟩:=hy
  simp only [evX] at he
  refine (Fc he).congr fun E' k => ?_
  simp only [evX];exact k
 ·have e:∀E,evX T E f args H=T.X f args H:=by
   intro E
   unfold evX
   split
   ·exact absurd ⟨_,_,rfl⟩ hy
   ·rfl
  rw [e] at he
  exact Xp.const fun E'=>by rw [e];exact he
end
def Zfu (P:Program) (X:FnS):Prop:=∀f args H r,X f args H=some r→Zbq P f args H r
structure Zb0 (P:Program) (T:Tab):Prop where
 fn:∀f F,T.T f=some F→∃esc hints,Vz P f esc hints=some F
 ex:Zfu P T.X
 rd:∀key R,T.R key=some R→Gz P R
 y0:T.T 0=none
 mixed:P.follows .mixedOrders=true
theorem Z1w {P:Program} {T:Tab} (hT:Zb0 P T) {E:FnS} (hE:Og P E) {f:FuncId} {args:List AV} {H:List Blk} {r:Res} (h:evX T E f args H=some r) :
  Zbq P f args H r∧∀key as,args = .yk key::as→Z1v P as H r:=by
 by_cases hy:∃key as,args = .yk key::as
 ·obtain ⟨key,as,rfl⟩:=hy
  refine ⟨Zvf,fun key' as' e => ?_⟩
  cases e
  simp only [evX] at h
  unfold Re at h
  split at h
  ·rename_i R id hR hl
   have:=Zfr hE hT.mixed (hT.rd key R hR) h
   have e2:as.dropLast++[.yv id]=as:=by
    cases as with
    | nil=>simp at hl
    | cons a as =>
     rw [List.getLast?_eq_some_getLast (by simp)] at hl
     have:=Option.some.inj hl
     rw [←this]
     exact List.dropLast_concat_getLast (by simp)
   rwa [e2] at this
  ·cases h
 ·have e:evX T E f args H=T.X f args H:=by
   unfold evX
   split
   ·exact absurd ⟨_,_,rfl⟩ hy
   ·rfl
  rw [e] at h
  exact ⟨hT.ex f args H r h,fun key as e=>absurd ⟨key,as,e⟩ hy⟩
theorem Zfv {P:Program} {T:Tab} (hT:Zb0 P T):∀n,Og P (evF T n)
 | 0=>fun f args H r h=>by cases h
 | n+1=>fun f args H r h=>by
  simp only [evF] at h
  split at h
  ·rename_i F hF
   obtain ⟨esc,hints,hc⟩:=hT.fn f F hF
   exact ⟨Zl6 (Zfv hT n) hT.mixed hc h,fun key as e _=>by subst e;rw [hT.y0] at hF;cases hF⟩
  ·obtain ⟨k1,k2⟩:=Z1w hT (Zfv hT n) h
   exact ⟨k1,fun key as _ e=>k2 key as e⟩
theorem Fe (T:Tab):∀n f args H r,evF T n f args H=some r→evF T (n+1) f args H=some r
 | 0,_,_,_,_,h=>by cases h
 | n+1,f,args,H,r,h=>by
  simp only [evF] at h ⊢
  split at h
  ·rename_i F hF
   obtain ⟨l,h1,h2⟩:=My h
   exact h2 _ fun q hq=>Fe T n _ _ _ _ (h1 q hq)
  ·obtain ⟨l,h1,h2⟩:=Zl8 h
   exact h2 _ fun q hq=>Fe T n _ _ _ _ (h1 q hq)
theorem Ff (T:Tab) {n m:Nat} (hle:n≤m) {f args H r} (h:evF T n f args H=some r):evF T m f args H=some r:=by
 induction hle with
 | refl=>exact h
 | step _ ih=>exact Fe T _ _ _ _ _ ih
theorem Zfw {T:Tab} {n:Nat} {f args H r} (h:evF T n f args H=some r):EvF T f args H=some r:=Zqj (fun n m r hle h=>Ff T hle h) h
theorem Z1x {P:Program} {T:Tab} (hT:Zb0 P T):Og P (EvF T):=fun f args H r h=>by
 obtain ⟨n,hn⟩:=Qm h
 exact Zfv hT n f args H r hn
theorem Zb1 {T:Tab} {l:Qs} (h1:QS (EvF T) l):∃n,QS (evF T n) l:=by
 induction l with
 | nil=>exact ⟨0,QS.nil _⟩
 | cons q l ih =>
  obtain ⟨n,hn⟩:=ih fun q hq=>h1 q (List.mem_cons_of_mem _ hq)
  obtain ⟨m,hm⟩:=Qm (h1 q (List.mem_cons_self ..))
  refine ⟨max n m,fun p hp => ?_⟩
  rcases List.mem_cons.1 hp with rfl | hp
  ·exact Ff T (Nat.le_max_right ..) hm
  ·exact Ff T (Nat.le_max_left ..) (hn p hp)
theorem Zql {T:Tab} {f:FuncId} {F:Zg} (hF:T.T f=some F) {args:List AV} {H:List Blk} {r:Res} (h:R9 (EvF T) F args H=some r):EvF T f args H=some r:=by
 obtain ⟨l,h1,h2⟩:=My h
 obtain ⟨n,hn⟩:=Zb1 h1
 refine Zfw (n:=n+1) ?_
 simp only [evF,hF]
 exact h2 _ hn
theorem Zja {T:Tab} {f:FuncId} (hF:T.T f=none) {args:List AV} (hy:∀key as,args ≠ .yk key::as) {H:List Blk} {r:Res} (h:T.X f args H=some r):EvF T f args H=some r :=
 Zfw (n:=1) (by
  simp only [evF,hF]
  unfold evX
  split
  ·exact absurd rfl (hy _ _)
  ·exact h)
theorem Jh {T:Tab} (h0:T.T 0=none) {key:Nat} {R:U7} (hR:T.R key=some R) {vs:List AV} {id:Nat} {H:List Blk} {r:Res} (h:Vt (EvF T) R vs id H=some r) :
  EvF T 0 (.yk key::(vs++[.yv id])) H=some r:=by
 obtain ⟨l,h1,h2⟩:=Ny h
 obtain ⟨n,hn⟩:=Zb1 h1
 refine Zfw (n:=n+1) ?_
 have e1:(vs++[AV.yv id]).getLast? = some (.yv id):=by simp
 have e2:(vs++[AV.yv id]).dropLast=vs:=by simp
 simp only [evF,h0,evX,Re,hR,e1,e2]
 exact h2 _ hn
section
variable {E:FnS} {h:List Blk} {nb:Nat} {hd lv:List Nat}
end
end Go.AM
namespace Go.AM
open Go Go.RowKit Go.ChangeShapes
def Rz (P:Program):List (Nat×TypeId)→Nat→Nat→Bool
 | [],off,e=>decide (off=e)
 | (o,t)::r,off,e=>decide (o=off)&&Rz P r (off+P.cellsOf t) e
def Pb (fs:Array Field):List (Nat×TypeId):=fs.toList.map fun f=>(f.offset,f.type)
def Oi (P:Program) (n:Nat) (e:TypeId):List (Nat×TypeId):=(List.range n).map fun i=>(i*P.cellsOf e,e)
def Mz (P:Program):Nat→TypeId→Bool
 | 0,_=>false
 | d+1,t=>match P.underlying t with
  | some .bool | some (.int _) | some .string=>true
  | some (.slice e)=>decide (0<P.cellsOf e)&&Mz P d e
  | some (.struct fs)=>((Pb fs).all fun p=>Mz P d p.2)&&Rz P (Pb fs) 0 (P.cellsOf t)
  | some (.array n e)=>((Oi P n e).all fun p=>Mz P d p.2)&&Rz P (Oi P n e) 0 (P.cellsOf t)
  | _=>false
def Rs (P:Program):Nat→TypeId→List GV→Prop
 | 0,_,_=>False
 | d+1,t,gs=>match P.underlying t with
  | some .bool=>∃b,gs=[.bool b]
  | some (.int k)=>∃n,gs=[.int k n]∧(Lit.int k n).wf=true
  | some .string=>∃s,gs=[.str s]∧s.length≤9223372036854775807
  | some (.slice e)=>gs=[.nsl]∨∃els:List (List GV),gs=[.sl (P.cellsOf e) els]∧els.length≤9223372036854775807∧∀el∈els,el.length=P.cellsOf e∧Rs P d e el
  | some (.struct fs)=>gs.length=P.cellsOf t∧∀p∈Pb fs,Rs P d p.2 ((gs.drop p.1).take (P.cellsOf p.2))
  | some (.array n e)=>gs.length=P.cellsOf t∧∀p∈Oi P n e,Rs P d p.2 ((gs.drop p.1).take (P.cellsOf p.2))
  | _=>False
def GRs (E:Env) (gs:List GV) (cs:List Value):Prop:=gs.length=cs.length∧∀(j:Nat) (g:GV) (c:Value),gs[j]? = some g→cs[j]? = some c→GR E g c
theorem GRs.one {E:Env} {g:GV} {c:Value} (h:GR E g c):GRs E [g] [c]:=⟨rfl,fun j x y hx hy=>by
 cases j with
 | zero=>simp at hx hy;subst hx hy;exact h
 | succ j=>simp at hx⟩
theorem GRs.append {E:Env} {gs gs':List GV} {cs cs':List Value} (h:GRs E gs cs) (h':GRs E gs' cs'):GRs E (gs++gs') (cs++cs'):=by
 refine ⟨by simp [h.1,h'.1],fun j x y hx hy => ?_⟩
 by_cases hl:j<gs.length
 ·rw [List.getElem?_append_left hl] at hx
  rw [List.getElem?_append_left (by rw [←h.1];exact hl)] at hy
  exact h.2 j x y hx hy
 ·rw [List.getElem?_append_right (by omega)] at hx
  rw [List.getElem?_append_right (by rw [←h.1];omega)] at hy
  exact h'.2 _ x y hx (by rw [h.1];exact hy)
theorem Ag {P:Program} {E:Env} {d:Nat} {cs:List Value}:∀(ps:List (Nat×TypeId)) (off:Nat),Rz P ps off cs.length=true →
  (∀p∈ps,∃gs,Rs P d p.2 gs∧GRs E gs ((cs.drop p.1).take (P.cellsOf p.2))) →
  ∃gs,GRs E gs (cs.drop off)∧∀p∈ps,off≤p.1∧Rs P d p.2 ((gs.drop (p.1 - off)).take (P.cellsOf p.2))
 | [],off,ht,_=>by
  simp [Rz] at ht
  subst ht
  exact ⟨[],⟨by simp,fun j x y hx=>by simp at hx⟩,fun p hp=>by cases hp⟩
 | (o,t)::r,off,ht,hh=>by
  simp only [Rz,Bool.and_eq_true,decide_eq_true_eq] at ht
  obtain ⟨rfl,ht⟩:=ht
  obtain ⟨gs1,h1,h2⟩:=hh (o,t) (by simp)
  obtain ⟨gs2,h3,h4⟩:=Ag r _ ht (fun p hp=>hh p (by simp [hp]))
  simp only at h1 h2
  have hle:∀(ps:List (Nat×TypeId)) (off e:Nat),Rz P ps off e=true→off≤e:=by
   intro ps
   induction ps with
   | nil=>intro off e h;simp [Rz] at h;omega
   | cons p ps ih =>
    intro off e h
    simp only [Rz,Bool.and_eq_true] at h
    have:=ih _ _ h.2
    omega
  have hle:=hle r _ _ ht
  have hg1:gs1.length=P.cellsOf t:=by rw [h2.1];simp;omega
  refine ⟨gs1++gs2,?_,fun p hp => ?_⟩
  ·have e:cs.drop o=(cs.drop o).take (P.cellsOf t)++cs.drop (o+P.cellsOf t):=by
    rw [←List.drop_drop,List.take_append_drop]
   rw [e]
   exact h2.append h3
  ·rcases List.mem_cons.1 hp with rfl | hp
   ·refine ⟨Nat.le_refl _,?_⟩
    simp only [Nat.sub_self,List.drop_zero]
    rw [List.take_append_of_le_length (by omega),←hg1,List.take_length]
    exact h1
   ·obtain ⟨k1,k2⟩:=h4 p hp
    refine ⟨by omega,?_⟩
    rw [List.drop_append,List.drop_eq_nil_of_le (by omega),List.nil_append,hg1,show p.1 - o - P.cellsOf t=p.1 - (o+P.cellsOf t) from by omega]
    exact k2
theorem Cf:maxLen=9223372036854775807:=by decide
theorem Rf {w:World} {b:Nat} {a:Addr} {n:Nat} {l:List Value} (h:w.cells? b a n=some l):l.length=n∧∀j,j<n→w.cell? (a.add j)=l[j]?:=by
 unfold World.cells? at h
 split at h
 ·have h1:=mapM_some_length h
  refine ⟨by simpa using h1,fun j hj => ?_⟩
  have:=mapM_some_get h j j (by simp [hj])
  exact this
 ·cases h
section
variable {H:Type} {enc:TypeId×Value→H} {P:Program} {W:World} {L:Nat→Lc} {spare:Nat→Bool} {held:Bool}
theorem O9:∀(d:Nat) (t:TypeId) (cs:List Value) (fuel:Nat) (x:DataW H×List MemPlace),Mz P d t=true→DataW.trod enc P W 0 spare held fuel t cs=some x →
  ∃gs,GRs (Zc W [] L) gs cs∧Rs P d t gs
 | 0,_,_,_,_,hd,_=>by cases hd
 | d+1,t,cs,fuel,x,hd,hx=>by
  simp only [Mz] at hd
  split at hd
  ·rename_i hu
   obtain ⟨b,rfl,_⟩:=DataW.trod_bool hu hx
   exact ⟨_,.one (.bool b),by simp only [Rs,hu];exact ⟨b,rfl⟩⟩
  ·rename_i k hu
   obtain ⟨n,rfl,_,hw⟩:=DataW.trod_int hu hx
   exact ⟨_,.one (.int k n),by simp only [Rs,hu];exact ⟨n,rfl,hw⟩⟩
  ·rename_i hu
   obtain ⟨s,rfl,_,hs⟩:=DataW.trod_string hu hx
   refine ⟨[.str s.data.toList],.one ?_,by simp only [Rs,hu];exact ⟨_,rfl,by rw [Cf] at hs;rw [Array.length_toList];exact hs⟩⟩
   have:=GR.str (E:=Zc W [] L) s.data.toList
   simpa using this
  ·rename_i e hu
   simp only [Bool.and_eq_true,decide_eq_true_eq] at hd
   obtain ⟨hpos,hd⟩:=hd
   rcases DataW.trod_slice hu hx with ⟨rfl,_⟩ | ⟨a,len,cap,elems,rest,n,rfl,rfl,_,hb,hlc,hcm,hel,hget,hrest⟩
   ·exact ⟨_,.one .nsl,by simp only [Rs,hu];exact .inl trivial⟩
   ·-- the elements
    have hE:∀i,i<len→∃l gs,W.cells? 0 (a.add (i*P.cellsOf e)) (P.cellsOf e)=some l∧GRs (Zc W [] L) gs l∧Rs P d e gs:=by
     intro i hi
     have h1:=hget i hi
     have h2:i<elems.length:=by omega
     rw [List.getElem?_eq_getElem h2] at h1
     cases hq:W.cells? 0 (a.add (i*P.cellsOf e)) (P.cellsOf e) with
     | none=>rw [hq] at h1;cases h1
     | some l =>
      rw [hq] at h1
      obtain ⟨gs,k1,k2⟩:=O9 d e l n _ hd h1
      exact ⟨l,gs,rfl,k1,k2⟩
    have hF:∃els:List (List GV),els.length=len∧∀(i:Nat) (el:List GV),els[i]? = some el→∃l,W.cells? 0 (a.add (i*P.cellsOf e)) (P.cellsOf e)=some l∧GRs (Zc W [] L) el l∧Rs P d e el:=by
     clear hget hlc hel hx hrest
     induction len with
     | zero=>exact ⟨[],rfl,fun i el h=>by simp at h⟩
     | succ m ih =>
      obtain ⟨els,k1,k2⟩:=ih (fun i hi=>hE i (by omega))
      obtain ⟨l,gs,h1,h2,h3⟩:=hE m (by omega)
      refine ⟨els++[gs],by simp [k1],fun i el hi => ?_⟩
      by_cases hlt:i<els.length
      ·rw [List.getElem?_append_left hlt] at hi;exact k2 i el hi
      ·rw [List.getElem?_append_right (by omega)] at hi
       have:i - els.length=0:=by
        cases hq:i - els.length with
        | zero=>rfl
        | succ n=>rw [hq] at hi;simp at hi
       rw [this] at hi
       simp at hi
       subst hi
       have:i=m:=by omega
       subst this
       exact ⟨l,h1,h2,h3⟩
    obtain ⟨els,hl,hels⟩:=hF
    have hlenof:∀(i:Nat) (el:List GV),els[i]? = some el→el.length=P.cellsOf e:=fun i el hi=>by
     obtain ⟨l,k1,k2,_⟩:=hels i el hi
     rw [k2.1];exact (Rf k1).1
    refine ⟨[.sl (P.cellsOf e) els],.one ?_,?_⟩
    ·by_cases h0:els=[]
     ·have:len=0:=by rw [←hl,h0];rfl
      subst this
      rw [h0]
      exact .sl0 _ _ _
     ·have h1:0<els.length:=by cases els <;> simp at h0 ⊢
      have hspot:a.spot=none:=by
       obtain ⟨l,k1,k2,_⟩:=hels 0 _ (List.getElem?_eq_getElem h1)
       obtain ⟨j1,j2⟩:=Rf k1
       have:=j2 0 hpos
       rw [List.getElem?_eq_getElem (by omega)] at this
       have h3:=World.cell?_spot this
       obtain ⟨b,o,sp⟩:=a
       cases sp with
       | none=>rfl
       | some k=>simp [Addr.add] at h3
      obtain ⟨b,o,sp⟩:=a
      simp only at hspot
      subst hspot
      have hcell:∀(i:Nat) (el:List GV) (j:Nat) (g:GV),els[i]? = some el→el[j]? = some g →
        ∃c,W.cell? ⟨b,o+i*P.cellsOf e+j,none⟩=some c∧((W.cells? 0 ((⟨b,o,none⟩:Addr).add (i*P.cellsOf e)) (P.cellsOf e)).getD [])[j]? = some c∧GR (Zc W [] L) g c:=by
       intro i el j g hi hj
       obtain ⟨l,k1,k2,_⟩:=hels i el hi
       obtain ⟨j1,j2⟩:=Rf k1
       have hjl:j<el.length:=(List.getElem?_eq_some_iff.1 hj).1
       have hlj:j<l.length:=by rw [←k2.1];exact hjl
       have h3:=j2 j (by omega)
       rw [Wq,Wq,List.getElem?_eq_getElem hlj] at h3
       exact ⟨l[j],h3,by rw [k1];simp [hlj],k2.2 j g _ hj (List.getElem?_eq_getElem hlj)⟩
      have hbs:b<W.heap.size:=by
       obtain ⟨l,k1,k2,_⟩:=hels 0 _ (List.getElem?_eq_getElem h1)
       have h4:=hlenof 0 _ (List.getElem?_eq_getElem h1)
       obtain ⟨c,h5,_⟩:=hcell 0 _ 0 _ (List.getElem?_eq_getElem h1) (List.getElem?_eq_getElem (by omega))
       unfold World.cell? at h5
       split at h5
       ·rename_i hh;exact (Array.getElem?_eq_some_iff.1 hh).1
       ·cases h5
      rw [←hl]
      refine .sl (fun i j=>(((W.cells? 0 ((⟨b,o,none⟩:Addr).add (i*P.cellsOf e)) (P.cellsOf e)).getD [])[j]?).getD Go.undef) (by omega) hbs (fun ⟨id,k,hk,_⟩=>by simp at hk) hlenof ?_ ?_
      ·intro i el j g hi hj
       obtain ⟨c,k1,k2,_⟩:=hcell i el j g hi hj
       show W.cell? _=_
       rw [k1,k2];rfl
      ·intro i el j g hi hj
       obtain ⟨c,k1,k2,k3⟩:=hcell i el j g hi hj
       rw [k2];exact k3
    ·simp only [Rs,hu]
     refine .inr ⟨els,rfl,by rw [Cf] at hcm;omega,fun el hel' => ?_⟩
     obtain ⟨i,hi,hi'⟩:=List.mem_iff_getElem.1 hel'
     have hg:els[i]? = some el:=by rw [List.getElem?_eq_getElem hi,hi']
     obtain ⟨l,k1,k2,k3⟩:=hels i el hg
     exact ⟨hlenof i el hg,k3⟩
  ·rename_i fs hu
   obtain ⟨xs,n,rfl,_,hl,hxl,hf⟩:=DataW.trod_struct hu hx
   simp only [Bool.and_eq_true,List.all_eq_true] at hd
   obtain ⟨gs,k1,k2⟩:=Ag (d:=d) (E:=Zc W [] L) (cs:=cs) (Pb fs) 0 (by rw [hl];exact hd.2) (fun p hp=>by
    simp only [Pb,List.mem_map] at hp
    obtain ⟨f,hfm,rfl⟩:=hp
    obtain ⟨i,hi,hi'⟩:=List.mem_iff_getElem.1 hfm
    have h1:=hf i f (by rw [←Array.getElem?_toList,List.getElem?_eq_getElem hi,hi'])
    have h2:i<xs.length:=by rw [hxl];simpa using hi
    rw [List.getElem?_eq_getElem h2] at h1
    obtain ⟨gs,k1,k2⟩:=O9 d f.type _ n _ (hd.1 (f.offset,f.type) (by simp only [Pb,List.mem_map];exact ⟨f,hfm,rfl⟩)) h1
    exact ⟨gs,k2,k1⟩)
   refine ⟨gs,by simpa using k1,?_⟩
   simp only [Rs,hu]
   exact ⟨by rw [k1.1];simpa using hl,fun p hp=>by simpa using (k2 p hp).2⟩
  ·rename_i n e hu
   obtain ⟨xs,m,rfl,_,hl,hxl,hf⟩:=DataW.trod_array hu hx
   simp only [Bool.and_eq_true,List.all_eq_true] at hd
   obtain ⟨gs,k1,k2⟩:=Ag (d:=d) (E:=Zc W [] L) (cs:=cs) (Oi P n e) 0 (by rw [hl];exact hd.2) (fun p hp=>by
    have hp':=hp
    simp only [Oi,List.mem_map,List.mem_range] at hp
    obtain ⟨i,hi,rfl⟩:=hp
    have h1:=hf i hi
    rw [List.getElem?_eq_getElem (by omega)] at h1
    obtain ⟨gs,k1,k2⟩:=O9 d e _ m _ (hd.1 _ hp') h1
    exact ⟨gs,k2,k1⟩)
   refine ⟨gs,by simpa using k1,?_⟩
   simp only [Rs,hu]
   exact ⟨by rw [k1.1];simpa using hl,fun p hp=>by simpa using (k2 p hp).2⟩
  ·cases hd
end
end Go.AM
namespace Go.AM
open Go Go.RowKit Go.ChangeShapes Go.WideShapes
def oneG:List GV→AV
 | [g] => .g g
 | _ => .undef
def avT (P:Program) (t:TypeId) (gs:List GV):AV :=
 match P.underlying t with
 | some (.struct _) | some (.array _ _) => .agg (gs.map .g)
 | _=>oneG gs
def Rh (P:Program) (d:Nat):List TypeId→List (List GV)→Prop
 | [],[]=>True
 | t::ts,g::gs=>Rs P d t g∧Rh P d ts gs
 | _,_=>False
def avs (P:Program):List TypeId→List (List GV)→List AV
 | t::ts,g::gs=>avT P t g::avs P ts gs
 | _,_=>[]
theorem Rh.cons_inv {P:Program} {d:Nat} {t:TypeId} {ts:List TypeId} {gss:List (List GV)} (h:Rh P d (t::ts) gss):∃g gs,gss=g::gs∧Rs P d t g∧Rh P d ts gs:=by
 cases gss with
 | nil=>exact h.elim
 | cons g gs=>exact ⟨g,gs,rfl,h.1,h.2⟩
theorem Rh.nil_inv {P:Program} {d:Nat} {gss:List (List GV)} (h:Rh P d [] gss):gss=[]:=by
 cases gss with
 | nil=>rfl
 | cons g gs=>exact h.elim
section
variable {H:Type} {enc:TypeId×Value→H} {P:Program} {W:World} {L:Nat→Lc} {spare:Nat→Bool} {held:Bool}
theorem GRs.agg {E:Env} {gs:List GV} {C:Array Value} (h:GRs E gs C.toList):AR E (.agg (gs.map .g)) (.agg C):=by
 have key:∀(j:Nat) (v:Value),C[j]? = some v→∃g,gs[j]? = some g∧GR E g v:=fun j v hv=>by
  have hlt:j<gs.length:=by rw [h.1];simpa using (Array.getElem?_eq_some_iff.1 hv).1
  exact ⟨gs[j],List.getElem?_eq_getElem hlt,h.2 j _ v (List.getElem?_eq_getElem hlt) (by simpa using hv)⟩
 refine .agg (by simpa using h.1) (fun j a v ha hv => ?_) (fun j v hv => ?_)
 ·obtain ⟨g,h1,h2⟩:=key j v hv
  rw [List.getElem?_map,h1] at ha
  cases ha
  exact .g h2
 ·obtain ⟨g,h1,h2⟩:=key j v hv
  exact h2.one
theorem Zqm {d:Nat} {t:TypeId} {v:Value} {b0:Nat} {dd:DataW H} {ps:List MemPlace} (hd:Mz P d t=true) (hval:Value.okWide P W .any b0 t v) (h:DataW.Trod enc P W 0 spare held t v dd ps) :
  ∃gs,Rs P d t gs∧AR (Zc W [] L) (avT P t gs) v:=by
 obtain ⟨fuel,hf⟩:=h
 obtain ⟨gs,h1,h2⟩:=O9 (L:=L) d t _ fuel _ hd hf
 refine ⟨gs,h2,?_⟩
 have single:∀c,v=c→c.cells.toList=[c]→AR (Zc W [] L) (oneG gs) v:=by
  rintro c rfl hc
  rw [hc] at h1
  match gs,h1 with
  | [g],h1=>exact .g (h1.2 0 g v rfl rfl)
  | [],h1=>have:=h1.1;simp at this
  | _::_::_,h1=>have:=h1.1;simp at this
 cases d with
 | zero=>cases hd
 | succ d =>
  simp only [Mz] at hd
  unfold avT
  split at hd
  ·rename_i hu
   rw [hu]
   obtain ⟨b,rfl⟩:=okWide_bool hu hval
   exact single _ rfl rfl
  ·rename_i k hu
   rw [hu]
   obtain ⟨b,rfl⟩:=okWide_int hu hval
   exact single _ rfl rfl
  ·rename_i hu
   rw [hu]
   obtain ⟨b,rfl⟩:=okWide_string hu hval
   exact single _ rfl rfl
  ·rename_i e hu
   rw [hu]
   obtain ⟨a,l,c,rfl⟩:=okWide_slice hu hval
   exact single _ rfl rfl
  ·rename_i fs hu
   rw [hu]
   simp only [Value.okWide,hu] at hval
   obtain ⟨C,rfl,_,_⟩:=hval
   exact GRs.agg h1
  ·rename_i n e hu
   rw [hu]
   simp only [Value.okWide,hu] at hval
   obtain ⟨C,rfl,_,_⟩:=hval
   exact GRs.agg h1
  ·cases hd
theorem Cg {d b0:Nat}:∀(ts:List TypeId) (vs:List Value) (ds:List (DataW H)) (ps:List MemPlace),(ts.all (Mz P d))=true→DataW.TrodAll enc P W 0 spare held ts vs ds ps →
  (∀(j:Nat) t v,ts[j]? = some t→vs[j]? = some v→Value.okWide P W .any b0 t v) →
  ∃gss,Rh P d ts gss∧(avs P ts gss).length=vs.length∧∀(j:Nat) (a:AV) (v:Value),(avs P ts gss)[j]? = some a→vs[j]? = some v→AR (Zc W [] L) a v
 | [],vs,ds,ps,_,h,_=>by
  obtain ⟨rfl,_,_⟩:=trodAll_nil h
  exact ⟨[],trivial,rfl,fun j a v ha=>by simp [avs] at ha⟩
 | t::ts,vs,ds,ps,hd,h,hval=>by
  obtain ⟨v,vs',d',ds',p,q,rfl,rfl,rfl,h1,h2⟩:=trodAll_cons h
  simp only [List.all_cons,Bool.and_eq_true] at hd
  obtain ⟨gs,k1,k2⟩:=Zqm (L:=L) hd.1 (hval 0 t v rfl rfl) h1
  obtain ⟨gss,k3,k4,k5⟩:=Cg ts vs' ds' q hd.2 h2 (fun j t v ht hv=>hval (j+1) t v (by simpa using ht) (by simpa using hv))
  refine ⟨gs::gss,⟨k1,k3⟩,by simp [avs,k4],fun j a u ha hu => ?_⟩
  cases j with
  | zero=>simp [avs] at ha hu;subst ha hu;exact k2
  | succ j=>exact k5 j a u (by simpa [avs] using ha) (by simpa using hu)
theorem Fg {f:FuncId} {esc:Bool} {hints:List (List Nat)} {F:Zg} (hF:Vz P f esc hints=some F) (xs:Array Value) (w:World):(callFunc f xs).run P w = .ok (.enter f xs) w:=by
 unfold Vz at hF
 split at hF
 case h_2=>cases hF
 rename_i fn hfn
 split at hF
 case h_2=>cases hF
 rename_i c hbody
 split at hF
 case isFalse=>cases hF
 rename_i hname
 simp [callFunc,hfn,hname,hbody]
 simpa using hname
theorem law_calls {T:Tab} (hT:Zb0 P T) {f:FuncId} {F:Zg} (hF:T.T f=some F) {d b0:Nat} {ts:List TypeId} {args:Array Value} {ds:List (DataW H)} {ps:List MemPlace}
  (hd:(ts.all (Mz P d))=true) (hA:DataW.TrodAll enc P W 0 spare held ts args.toList ds ps) (hval:∀(j:Nat) t v,ts[j]? = some t→args[j]? = some v→Value.okWide P W .any b0 t v)
  (spec:∀gss,Rh P d ts gss→EvF T f (avs P ts gss) []=some ⟨.g (.bool true),[],[]⟩) :
  Calls P f args W fun e W'=>e = .returned (.bool true)∧Below W.heap.size W W':=by
 obtain ⟨gss,h1,h2,h3⟩:=Cg (L:=fun _=>⟨none,0,0,false⟩) ts args.toList ds ps hd hA (fun j t v ht hv=>hval j t v ht (by simpa using hv))
 have hr:HR W [] (fun _=>⟨none,0,0,false⟩):=⟨fun id k hk=>by simp at hk,fun i j b x y hx=>by simp at hx⟩
 have hs:=(Z1x hT f _ [] _ (spec gss h1)).1 W _ args hr ⟨by simpa using h2,fun j a v ha hv=>h3 j a v ha (by simpa using hv)⟩
 obtain ⟨esc,hints,hc⟩:=hT.fn f F hF
 rcases hs with ⟨_,hs⟩ | ⟨_,v,w',hs,_⟩
 ·refine hs.mono fun e w' ⟨v,he,L',k1,k2,k3,k4⟩ => ?_
  have:=k1.inv_g.inv_bool
  subst this
  refine ⟨he,k3.os,k3.tape,k3.output,k3.size,fun k hk=>(k3.keep k hk ?_).1⟩
  rintro ⟨id,x,hx,_⟩
  simp at hx
 ·rw [Fg hc] at hs
  cases hs
end
end Go.AM
namespace Go.AM
open Go
def Wx:List (Nat×Zg)→Nat→Option Zg
 | [],_=>none
 | (k,F)::r,f=>if k=f then some F else Wx r f
def Z1y (P:Program):List (Nat×Zg)→Prop
 | []=>True
 | p::r=>(∃esc hints,Vz P p.1 esc hints=some p.2)∧Z1y P r
theorem Zqn {P:Program} (hm:P.follows .mixedOrders=true):∀{l:List (Nat×Zg)},Z1y P l→∀f F,Wx l f=some F→∃esc hints,Vz P f esc hints=some F
 | [],_,f,F,h=>by cases h
 | (k,G)::r,⟨h1,h2⟩,f,F,h=>by
  simp only [Wx] at h
  split at h
  ·rename_i e
   subst e
   cases h
   exact h1
  ·exact Zqn hm h2 f F h
def idX (ks:List Nat):FnS:=fun f args _=>match args with
 | [v]=>if ks.contains f=true then some ⟨v,[],[]⟩ else none
 | _=>none
def IdX (P:Program) (k:Nat):Prop :=
 ∃ fn, P.funcs[k]? = some fn ∧ (fn.name == "runtime.NumGoroutine") = false ∧ fn.body.isNone = true ∧ Extern.findNext fn = none ∧ Extern.find fn = some Extern.AbiNoEscape.same
theorem Z1z {P:Program} {ks:List Nat} (h:∀k,ks.contains k=true→IdX P k):Zfu P (idX ks):=by
 intro f args H r hr
 unfold idX at hr
 split at hr
 ·rename_i v
  split at hr
  ·rename_i hk
   cases hr
   obtain ⟨fn,h1,h2,h3,h4,h5⟩:=h f hk
   intro w L xs hw ha
   right
   refine ⟨by rw [←ha.1];rfl,?_⟩
   have hx:xs = #[xs[0]'(by rw [←ha.1];exact Nat.one_pos)]:=by
    apply Array.ext
    ·simp [←ha.1]
    ·intro i h1 h2
     have:i=0:=by simp at h2;omega
     subst this;rfl
   have h0:=ha.2 0 v (xs[0]'(by rw [←ha.1];exact Nat.one_pos)) rfl (by simp)
   refine ⟨xs[0]'(by rw [←ha.1];exact Nat.one_pos),w,?_,L,?_,?_,?_,fun _ _ _=>⟨rfl,fun _ _ _=>rfl⟩⟩
   ·rw [run_callFunc_extern h1 h2 h3 h4 h5]
    generalize xs[0]'(by rw [←ha.1];exact Nat.one_pos)=x0 at hx
    subst hx
    rfl
   ·simpa [Zv] using h0
   ·simpa [Zv] using hw
   ·simpa [Zv] using Ext.refl _
  ·cases hr
 ·cases hr
def Zjb:List (Nat×U7)→Nat→Option U7
 | [],_=>none
 | (k,R)::r,f=>if k=f then some R else Zjb r f
def Z10 (P:Program):List (Nat×U7)→Prop
 | []=>True
 | p::r=>Gz P p.2∧Z10 P r
theorem Z03 {P:Program}:∀{l:List (Nat×U7)},Z10 P l→∀k R,Zjb l k=some R→Gz P R
 | [],_,k,R,h=>by cases h
 | (a,S)::r,⟨h1,h2⟩,k,R,h=>by
  simp only [Zjb] at h
  split at h
  ·cases h;exact h1
  ·exact Z03 h2 k R h
def Zvm:Code→Option (Array Tmp×Code×Code)
 | .rangeFunc _ ps a b=>some (ps,a,b)
 | .seq a b | .cond _ a b=>match Zvm a with
  | some r=>some r
  | none=>Zvm b
 | .block _ a | .loop a | .scope a=>Zvm a
 | _=>none
def Z6s (P:Program) (f key:Nat):RD :=
 match P.funcs[f]? with
 | some fn=>match fn.body.bind Zvm with
  | some (ps,a,b)=>⟨key,fn.ntmps,ps,a,b⟩
  | none=>⟨key,0,#[],.skip,.skip⟩
 | none=>⟨key,0,#[],.skip,.skip⟩
def orX (X Y:FnS):FnS:=fun f args H=>match X f args H with
 | some r=>some r
 | none=>Y f args H
theorem Zqo {P:Program} {X Y:FnS} (hX:Zfu P X) (hY:Zfu P Y):Zfu P (orX X Y):=fun f args H r h=>by
 unfold orX at h
 split at h
 ·rename_i r' hr;cases h;exact hX f args H _ hr
 ·exact hY f args H r h
theorem look_nil (i:Nat):look [] i=none:=rfl
theorem Zl9 (a i:Nat) (v:AV) (t:List (Nat×AV)):look ((a,v)::t) i=if a=i then some v else look t i:=rfl
theorem Zqp (T:List (Nat×AV)):keep T []=[]:=rfl
theorem Zma (T:List (Nat×AV)) (i:Nat) (l:List Nat):keep T (i::l)=match look T i with
  | some v=>(i,v)::keep T l
  | none=>keep T l:=rfl
theorem Ch (s:St) (k:St→Out):sk (some (.normal,s)) k=k s:=rfl
theorem Zjc (i:Nat) (s:St) (k:St→Out):sk (some (.exit i,s)) k=some (.exit i,s):=rfl
theorem Zqq (s:St) (k:St→Out):sk (some (.ret,s)) k=some (.ret,s):=rfl
theorem Zvn (k:St→Out):sk none k=none:=rfl
theorem Z11 (c:Prop) [Decidable c] (a b:Out) (k:St→Out):sk (if c then a else b) k=if c then sk a k else sk b k:=by split <;> rfl
theorem N6 (lv:List Nat) (s:St):kpN lv (some (.normal,s))=some (.normal,s.kp lv):=rfl
theorem Zb2 (lv:List Nat) (i:Nat) (s:St):kpN lv (some (.exit i,s))=some (.exit i,s):=rfl
theorem Zjd (lv:List Nat) (s:St):kpN lv (some (.ret,s))=some (.ret,s):=rfl
theorem Zvo (lv:List Nat) (c:Prop) [Decidable c] (a b:Out):kpN lv (if c then a else b)=if c then kpN lv a else kpN lv b:=by split <;> rfl
theorem Zmb (lv:List Nat) (id:Nat) (s:St):bk lv id (some (.normal,s))=some (.normal,s.kp lv):=rfl
theorem Zvp (lv:List Nat) (id i:Nat) (s:St):bk lv id (some (.exit i,s))=if i=id then some (.normal,s.kp lv) else some (.exit i,s):=rfl
theorem Z12 (lv:List Nat) (id:Nat) (s:St):bk lv id (some (.ret,s))=some (.ret,s):=rfl
theorem Z13 (lv:List Nat) (id:Nat) (c:Prop) [Decidable c] (a b:Out):bk lv id (if c then a else b)=if c then bk lv id a else bk lv id b:=by split <;> rfl
def Yx (zs:List Int):List Int:=zs.mergeSort fun x y=>decide (x≤y)
def U3 (z:Int):List GV:=[.int .i64 z]
def M0:List (List GV)→Option (List Int)
 | []=>some []
 | [.int .i64 n]::r=>match M0 r with
  | some l=>some (n::l)
  | none=>none
 | _=>none
theorem Ji:∀{els:List (List GV)} {zs:List Int},M0 els=some zs→els=zs.map U3
 | [],zs,h=>by simp [M0] at h;subst h;rfl
 | el::els,zs,h=>by
  unfold M0 at h
  split at h
  ·rename_i heq;cases heq
  ·rename_i n r heq
   split at h
   ·rename_i l hl
    cases h
    cases heq
    rw [Ji hl];rfl
   ·cases h
  ·cases h
theorem Jj:∀(zs:List Int),M0 (zs.map U3)=some zs
 | []=>rfl
 | z::zs=>by
  have:=Jj zs
  simp only [List.map_cons,U3,M0,this]
theorem W5 (zs:List Int):(Yx zs).length=zs.length:=by simp [Yx]
structure Z04 (P:Program) (f:FuncId):Prop where
 ent:∀args w,(callFunc f args).run P w = .ok (.enter f args) w
 run:∀(blk off cap:Nat) (zs:List Int) (w:World),Sort.Holds (Value.int .i64) w blk off zs.toArray→blk<w.heap.size→zs.length<4611686018427387904 →
  Calls P f #[.slice (some ⟨blk,off,none⟩) zs.length cap] w fun e w'=>e = .returned (.tuple #[])∧∃n os,w'=Sort.grow (Sort.putRow (Value.int .i64) (Sort.ahead w n) blk off (Yx zs).toArray) os
 nil:∀(p:Option Addr) (cap:Nat) (w:World),Calls P f #[.slice p 0 cap] w fun e w'=>e = .returned (.tuple #[])∧w'=w
def sortA (args:List AV) (H:List Blk):Option Res :=
 match args with
 | [.ms id gen 1 0 len]=>match H[id]? with
  | some (.rows 1 g' els)=>if g'=gen∧len=els.length∧len<4611686018427387904 then match M0 els with
    | some zs=>some ⟨.tup [],[(id,.rows 1 gen ((Yx zs).map U3))],[]⟩
    | none=>none else none
  | _=>none
 | [.g .nsl]=>some ⟨.tup [],[],[]⟩
 | _=>none
def Zje (f:FuncId):FnS:=fun g args H=>if g=f then sortA args H else none
theorem H8 {xs:Array Value} (h:1=xs.size):∃x,xs = #[x]:=by
 refine ⟨xs[0]'(by omega),?_⟩
 apply Array.ext
 ·simp [←h]
 ·intro i h1 h2
  have:i=0:=by simp at h2;omega
  subst this;rfl
theorem Zvq {P:Program} {f:FuncId} (hC:Z04 P f):Zfu P (Zje f):=by
 intro g args H r h
 unfold Zje at h
 split at h
 case isFalse=>cases h
 rename_i hg
 subst hg
 unfold sortA at h
 split at h
 ·rename_i id gen len
  split at h
  case h_2=>cases h
  rename_i g' els hH
  split at h
  case isFalse=>cases h
  rename_i hcond
  obtain ⟨rfl,rfl,hlt⟩:=hcond
  split at h
  case h_2=>cases h
  rename_i zs hzs
  cases h
  have hels:=Ji hzs
  subst hels
  intro w L xs hr ha
  obtain ⟨x,rfl⟩:=H8 ha.1
  refine .inl ⟨hC.ent _ _,?_⟩
  have hx:=ha.2 0 _ x rfl rfl
  obtain ⟨hg,⟨hst,hg0⟩,hb⟩:=hr.blk id _ hH
  have hg':(L id).gen=g':=hg
  have hms:Wb (L id) 1 0 (zs.map U3).length x:=by
   cases hx with
   | ms hid h0 hle h1 hm hz=>exact hm hg'.symm
  have hlen:(zs.map U3).length=zs.length:=by simp
  rw [hlen] at hms hlt
  have empty:∀(p:Option Addr) (cap:Nat),x = .slice p 0 cap→zs=[]→Calls P g #[x] w fun e w'=>∃v,e = .returned v∧∃L',AR (Zc w' (Zv H [(id,.rows 1 g' ((Yx zs).map U3))]++[]) L') (.tup []) v∧HR w' (Zv H [(id,.rows 1 g' ((Yx zs).map U3))]++[]) L' ∧
    Ext (Zc w H L) (Zc w' (Zv H [(id,.rows 1 g' ((Yx zs).map U3))]++[]) L')∧Same w w' H L L' (Y8 [(id,.rows 1 g' ((Yx zs).map U3))]):=by
   intro p cap hxe hz
   subst hz
   have e0:Zv H [(id,Blk.rows 1 g' ((Yx []).map U3))]++[]=H:=by
    simp only [Zv,List.append_nil]
    have:(Yx []).map U3=[]:=by simp [Yx]
    rw [this]
    apply List.ext_getElem?
    intro i
    by_cases e:id=i
    ·subst e
     rw [List.getElem?_set_self (List.getElem?_eq_some_iff.1 hH).1,hH];rfl
    ·rw [List.getElem?_set_ne e]
   rw [e0,hxe]
   exact Calls.mono (hC.nil p cap w) fun e w' ⟨h1,h2⟩=>⟨_,h1,L,.tup rfl (fun j a v hj=>by simp at hj),by rw [h2];exact hr,by rw [h2];exact .refl _,fun _ _ _=>by rw [h2];exact ⟨rfl,fun _ _ _=>rfl⟩⟩
  unfold Wb at hms
  cases hq:(L id).blk with
  | none =>
   rw [hq] at hms
   obtain ⟨h1,_,h3⟩:=hms
   exact empty none 0 h1 (List.eq_nil_of_length_eq_zero h3)
  | some b =>
   rw [hq] at hms
   obtain ⟨a,c,h1,h2,h3,h4⟩:=hms
   by_cases hz:zs=[]
   ·subst hz
    exact empty (some a) c h1 rfl
   have hne:zs.length ≠ 0:=fun e=>hz (List.eq_nil_of_length_eq_zero e)
   have ha':a=⟨b,0,none⟩:=by
    rcases h4 with h4 | h4
    ·simpa using h4
    ·omega
   subst ha'
   have hb':=hb
   rw [show (Zc w H L).L id=L id from rfl,hq] at hb'
   obtain ⟨T,C,hC1,hrow⟩:=hb'
   have hC1':w.heap[b]? = some (.cells C T (0,0)):=hC1
   have hcell:∀j,j<zs.length→C[j]? = some (.int .i64 zs[j]!):=by
    intro j hj
    obtain ⟨_,hrow3⟩:=hrow.2.2 j (U3 zs[j]) (by simp [hj])
    obtain ⟨v,k1,k2⟩:=hrow3 0 (.int .i64 zs[j]) rfl
    have:v = .int .i64 zs[j]:=by cases k2;rfl
    rw [this] at k1
    simp only [Nat.mul_one,Nat.add_zero] at k1
    rw [k1,getElem!_pos zs j hj]
   have hH0:Sort.Holds (Value.int .i64) w b 0 zs.toArray:=by
    intro j hj
    have hj':j<zs.length:=by simpa using hj
    refine ⟨?_,by simp [World.frozen?,hC1']⟩
    simp only [World.cell?,hC1',Nat.zero_add,Option.isSome_none,Bool.false_eq_true,if_false]
    rw [hcell j hj']
    simp [hj']
   have hbl:b<w.heap.size:=(Array.getElem?_eq_some_iff.1 hC1').1
   have hrun:=hC.run b 0 c zs w hH0 hbl hlt
   rw [h1]
   refine Calls.mono hrun fun e w' ⟨he,n,os,hw'⟩=>⟨_,he,?_⟩
   have hgr:w.grownBy w' (some b):=by rw [hw'];exact grownBy_sortedI _
   have hcells:w'.heap[b]? = some (.cells (Sort.putCells (Value.int .i64) 0 (Yx zs).toArray C) T (0,0)):=by rw [hw'];exact heap_sortedI _ hC1'
   obtain ⟨t1,t2⟩:=hr.turn (w':=w') (k' := .rows 1 g' ((Yx zs).map U3)) hH rfl (L id) hgr.os hgr.tape hgr.output hgr.size (fun b' hb2 hne=>hgr.block b' hb2 (fun e=>hne (by rw [hq];exact e.symm))) (.refl _ _) (fun b' hb2 => .inl hb2)
    (fun hext=>by
     refine ⟨?_,⟨?_,hg0⟩,?_⟩
     ·show ((Zw L id (L id)) id).gen=_;rw [Zd];exact hg'
     ·show ((Zw L id (L id)) id).st=false;rw [Zd];exact hst
     ·show (match ((Zw L id (L id)) id).blk with | none=>_ | some b=>_)
      rw [Zd,hq]
      refine ⟨T,_,hcells,?_,?_,fun i el hi => ?_⟩
      ·show (Sort.putCells _ 0 _ C).size=((Zw L id (L id)) id).cap*1
       rw [Zd]
       simp only [Sort.putCells,Array.size_mapIdx]
       exact hrow.1
      ·show ((Yx zs).map U3).length≤((Zw L id (L id)) id).cap
       rw [Zd,List.length_map,W5]
       have:=hrow.2.1
       rw [List.length_map] at this
       exact this
      ·simp only [List.getElem?_map,Option.map_eq_some_iff] at hi
       obtain ⟨z,hz1,rfl⟩:=hi
       refine ⟨rfl,fun j a hj => ?_⟩
       have hj0:j=0:=by
        cases j with
        | zero=>rfl
        | succ j=>simp [U3] at hj
       subst hj0
       have ha2:a = .int .i64 z:=by simpa [U3] using hj.symm
       subst ha2
       refine ⟨.int .i64 z,?_,.int _ _⟩
       have hil:i<(Yx zs).length:=(List.getElem?_eq_some_iff.1 hz1).1
       have hil2:i<C.size:=by
        have h5:zs.length≤(L id).cap:=by have:=hrow.2.1;rw [List.length_map] at this;exact this
        have h6:C.size=(L id).cap*1:=hrow.1
        rw [W5] at hil
        omega
       have hzi:(Yx zs)[i]=z:=(List.getElem?_eq_some_iff.1 hz1).2
       simp [Sort.putCells,hil,hil2,hzi])
   refine ⟨Zw L id (L id),?_,?_,?_,?_⟩
   ·exact .tup rfl (fun j a v hj=>by simp at hj)
   ·simpa [Zv] using t1
   ·simpa [Zv] using t2
   ·intro j hj hne
    refine ⟨Yk _ _ _ (by simpa [Y8] using hne),fun ⟨x',hx',lx⟩ b' hb2 => ?_⟩
    refine hgr.block b' ((hr.blk j x' hx').lt lx hb2) (fun e => ?_)
    have e':b'=b:=by simpa using e
    subst e'
    have:=hr.inj j id b' x' _ hx' hH lx rfl hb2 hq
    exact hne (by simp [Y8,this])
 ·cases h
  intro w L xs hr ha
  obtain ⟨x,rfl⟩:=H8 ha.1
  refine .inl ⟨hC.ent _ _,?_⟩
  have hx:=ha.2 0 _ x rfl rfl
  have:x = .slice none 0 0:=by cases hx with | g h=>cases h;rfl
  subst this
  exact Calls.mono (hC.nil none 0 w) fun e w' ⟨h1,h2⟩=>⟨_,h1,L,.tup rfl (fun j a v hj=>by simp at hj),by simpa [Zv,h2] using hr,by simpa [Zv,h2] using Ext.refl _,fun _ _ _=>by rw [h2];exact ⟨rfl,fun _ _ _=>rfl⟩⟩
 ·cases h
structure Z05 (P:Program) (f gK:FuncId) (kt:TypeId):Prop where
 ent:∀args w,(callFunc f args).run P w = .ok (.enter f args) w
 ku:P.underlying kt=some (.int .i64)
 run:∀(Bm b nn:Nat) (D0:DataW Unit) (R:Value→Option (DataW Unit×List MemPlace)) (w:World),w.cell? ⟨Bm,0,none⟩=some (.map (some b))→Bm<w.heap.size→w.ownsMap P kt R b nn D0→Maps.size D0≤maxLen→Maps.size D0*8≤140737488355328 →
  Calls P f #[.func (.func gK) #[] #[.pointer (some ⟨Bm,0,none⟩)]] w fun e w'=>∃(v:Value) (ss:List Int),e = .returned v∧ss.Perm (intKeys D0)∧(∃et,w'.ownsRow w.heap.size et 1 v ss.length ((Yx ss).map (Value.int .i64)))∧(v = .slice none 0 0↔ss=[])∧RowKit.Below w.heap.size w w'
def keysA (gK:FuncId) (args:List AV) (H:List Blk):Option Res :=
 match args with
 | [.fv g [.ptr p 0]]=>if g=gK then match H[p]? with
  | some (.cells [.mp id])=>match H[id]? with
   | some (.map es)=>match M0 (es.map fun e=>[e.1]) with
    | some ks=>if ks.Nodup∧(ks.all fun k=>(Lit.int .i64 k).wf)=true∧ks.length≤1000000 then some ⟨.g (if ks=[] then .nsl else .sl 1 ((Yx ks).map U3)),[],[]⟩ else none
    | none=>none
   | _=>none
  | _=>none else none
 | _=>none
def Zb3 (f gK:FuncId):FnS:=fun g args H=>if g=f then keysA gK args H else none
theorem Zvr {P:Program} {f gK:FuncId} {kt:TypeId} (hC:Z05 P f gK kt):Zfu P (Zb3 f gK):=by
 intro g args H r h
 unfold Zb3 at h
 split at h
 case isFalse=>cases h
 rename_i hg
 subst hg
 unfold keysA at h
 split at h
 case h_2=>cases h
 rename_i gg p
 split at h
 case isFalse=>cases h
 rename_i hgg
 subst hgg
 split at h
 case h_2=>cases h
 rename_i id hHp
 split at h
 case h_2=>cases h
 rename_i es hHm
 split at h
 case h_2=>cases h
 rename_i ks hks
 split at h
 case isFalse=>cases h
 rename_i hcond
 obtain ⟨hnd,hwf,hlen⟩:=hcond
 cases h
 intro w L xs hr ha
 obtain ⟨x,rfl⟩:=H8 ha.1
 refine .inl ⟨hC.ent _ _,?_⟩
 have hx:=ha.2 0 _ x rfl rfl
 obtain ⟨pv,rfl,hpv⟩:∃pv,x = .func (.func gg) #[] #[pv]∧AR (Zc w H L) (.ptr p 0) pv:=by
  cases hx with
  | @fv _ _ C hn hc =>
   obtain ⟨y,rfl⟩:=H8 (xs:=C) (by simpa using hn)
   exact ⟨y,rfl,hc 0 _ y rfl rfl⟩
 obtain ⟨bp,rfl,hbp⟩:∃bp,pv = .pointer (some ⟨bp,0,none⟩)∧(L p).blk=some bp:=by
  cases hpv with
  | ptr h1 h2 h3=>exact ⟨_,rfl,h3⟩
 obtain ⟨_,b1,T1,C1,q1,q2,q3⟩:=hr.blk p _ hHp
 have e1:b1=bp:=by have:(L p).blk=some b1:=q1;rw [hbp] at this;exact (Option.some.inj this).symm
 subst e1
 have q2':w.heap[b1]? = some (.cells C1 T1 (0,0)):=q2
 obtain ⟨mv,q4,q5,_⟩:=q3.2 0 (.mp id) rfl
 obtain ⟨bm,rfl,hbm⟩:∃bm,mv = .map (some bm)∧(L id).blk=some bm:=by
  cases q5 with
  | mp h1 h2 h3=>exact ⟨_,rfl,h3⟩
 obtain ⟨_,b2,en,ck,m1,m2,m3,m4⟩:=hr.blk id _ hHm
 have e2:b2=bm:=by have:(L id).blk=some b2:=m1;rw [hbm] at this;exact (Option.some.inj this).symm
 subst e2
 have m2':w.heap[b2]? = some (.map en ck):=m2
 have hes:=Ji hks
 have hkeys:en.toList.map (·.key)=ks.map (Value.int .i64):=by
  apply List.ext_getElem
  ·have h1:=m3.1
   have h2:=congrArg List.length hes
   simp at h2 ⊢
   omega
  ·intro i h1 h2
   simp only [List.length_map] at h1 h2
   have h3:i<es.length:=by have:=m3.1;simp at h1;omega
   obtain ⟨k1,_⟩:=m3.2 i es[i] (en[i]'(by simpa using h1)) (List.getElem?_eq_getElem h3) (Array.getElem?_eq_getElem _)
   have h4:[(es[i]).1]=U3 ks[i]:=by
    have:(es.map fun e=>[e.1])[i]? = (ks.map U3)[i]?:=by rw [hes]
    simpa [h3,h2] using this
   have h5:(es[i]).1 = .int .i64 ks[i]:=by simpa [U3] using h4
   rw [h5] at k1
   have h6:(en[i]'(by simpa using h1)).key = .int .i64 ks[i]:=by
    generalize (en[i]'(by simpa using h1)).key=q at k1
    cases k1;rfl
   simpa using h6
 have hsz:en.size=ks.length:=by have:=congrArg List.length hkeys;simpa using this
 have hcell:w.cell? ⟨b1,0,none⟩=some (.map (some b2)):=by
  simp only [World.cell?,q2',Option.isSome_none,Bool.false_eq_true,if_false]
  exact q4
 let R:Value→Option (DataW Unit×List MemPlace):=fun _=>some (.nil,[])
 have hmem:∀y∈en.toList,∃z∈ks,y.key = .int .i64 z:=fun y hy=>by
  have:y.key∈en.toList.map (·.key):=List.mem_map.2 ⟨y,hy,rfl⟩
  rw [hkeys] at this
  obtain ⟨z,hz,hz2⟩:=List.mem_map.1 this
  exact ⟨z,hz,hz2.symm⟩
 have hrd:∀y∈en.toList,∀z,y.key = .int .i64 z→z∈ks→WideElems.rd P kt R y=some (.int .i64 z,.nil):=fun y hy z hz hzk=>by
  have:=Maps.keyOf_int_mk hC.ku (a:=z) (List.all_eq_true.1 hwf z hzk)
  simp only [WideElems.rd,hz,this,Option.bind_some,R,Option.map_some]
 have hfit:WideElems.Fit P kt R en ck:=by
  refine ⟨by rw [hsz];exact Nat.le_trans hlen (by decide),⟨m4.1,m4.2,?_⟩,fun y hy => ?_⟩
  ·rw [hkeys]
   exact hnd.map _ (fun a b hab=>by simpa using hab)
  ·obtain ⟨z,hz,hz2⟩:=hmem y hy
   exact ⟨_,hrd y hy z hz2 hz⟩
 have hown:w.ownsMap P kt R b2 en.size (.map ((en.toList.map (WideElems.rg P kt R)).foldr DataW.insert [])):=⟨en,ck,m2',hfit,Nat.le_refl _,rfl⟩
 have hperm:(intKeys (.map ((en.toList.map (WideElems.rg P kt R)).foldr DataW.insert []):DataW Unit)).Perm ks:=by
  have h1:=(WideShapes.sorted_perm (H:=Unit) (en.toList.map (WideElems.rg P kt R))).map fun p=>intOf p.1
  have h2:(en.toList.map (WideElems.rg P kt R)).map (fun p=>intOf p.1)=ks:=by
   rw [List.map_map]
   have h3:en.toList.map ((fun p:Lit×DataW Unit=>intOf p.1) ∘ WideElems.rg P kt R)=(en.toList.map (·.key)).map fun v=>match v with | .int _ z=>z | _=>0:=by
    rw [List.map_map]
    refine List.map_congr_left fun y hy => ?_
    obtain ⟨z,hz,hz2⟩:=hmem y hy
    simp [WideElems.rg,hrd y hy z hz2 hz,intOf,hz2]
   rw [h3,hkeys,List.map_map]
   simp [Function.comp_def]
  rw [h2] at h1
  exact h1
 have hsize:Maps.size (.map ((en.toList.map (WideElems.rg P kt R)).foldr DataW.insert []):DataW Unit)=ks.length:=by
  rw [←hperm.length_eq]
  simp [Maps.size,intKeys]
 refine Calls.mono (hC.run b1 b2 en.size _ R w hcell (Array.getElem?_eq_some_iff.1 q2').1 hown (by rw [hsize];exact Nat.le_trans hlen (by decide)) (by rw [hsize];omega)) fun e w' ⟨v,ss,he,hp,⟨et,hrow⟩,hnil,hbel⟩=>⟨v,he,L,?_⟩
 have hg:Y1 w w':=⟨hbel.os,hbel.tape,hbel.output,hbel.size,hbel.block⟩
 obtain ⟨g1,g2⟩:=hr.grow hg
 have hpk:ss.Perm ks:=hp.trans hperm
 have hsort:Yx ss=Yx ks:=mergeSort_of_perm_i hpk
 refine ⟨?_,by simpa [Zv] using g1,by simpa [Zv] using g2,fun id' hid' _=>⟨rfl,fun ⟨x',hx',lx⟩ b' hb'=>hg.old b' ((hr.blk id' x' hx').lt lx hb')⟩⟩
 simp only [Zv,List.append_nil]
 by_cases hk0:ks=[]
 ·subst hk0
  have hs0:ss=[]:=hpk.eq_nil
  rw [if_pos rfl,hnil.2 hs0]
  exact .g .nsl
 ·rw [if_neg hk0]
  have hs0:ss ≠ []:=fun e=>hk0 (by subst e;exact hpk.symm.eq_nil)
  rcases hrow.2 with ⟨h0,_⟩ | ⟨g',cap,cur,rfl,hge,hcur,hle,hcap,hcs,htake⟩
  ·exact absurd (hnil.1 h0) hs0
  ·have hcellv:∀(i:Nat) (z:Int),(Yx ks)[i]? = some z→cur[i]? = some (Value.int .i64 z):=by
    intro i z hi
    have h1:(cur.toList.take (ss.length*1))[i]? = some (.int .i64 z):=by
     rw [htake,hsort,List.getElem?_map,hi];rfl
    have h2:i<ss.length*1:=by
     have:=(List.getElem?_eq_some_iff.1 hi).1
     rw [W5,←hpk.length_eq] at this;omega
    rw [List.getElem?_take_of_lt h2] at h1
    simpa using h1
   have hlen2:((Yx ks).map U3).length=ss.length:=by rw [List.length_map,W5,hpk.length_eq]
   have key:=GR.sl (E:=Zc w' H L) (sz:=1) (b:=g') (o:=0) (cap:=cap) (els:=(Yx ks).map U3) (fun i j=>Value.int .i64 ((Yx ks).getD i 0)) (by omega) (Array.getElem?_eq_some_iff.1 hcur).1
    (fun ⟨i,k,k1,k2,k3⟩=>by have:=(hr.blk i k k1).lt k2 k3;simp [Zc] at this;omega) (fun i el hi=>by
     simp only [List.getElem?_map,Option.map_eq_some_iff] at hi
     obtain ⟨z,_,rfl⟩:=hi;rfl) (fun i el j a hi hj=>by
     simp only [List.getElem?_map,Option.map_eq_some_iff] at hi
     obtain ⟨z,hz,rfl⟩:=hi
     have hj0:j=0:=by
      cases j with
      | zero=>rfl
      | succ j=>simp [U3] at hj
     subst hj0
     show w'.cell? ⟨g',0+i*1+0,none⟩=_
     simp only [World.cell?,hcur,Option.isSome_none,Bool.false_eq_true,if_false,Nat.zero_add,Nat.mul_one,Nat.add_zero]
     rw [hcellv i z hz]
     simp [List.getD,hz]) (fun i el j a hi hj=>by
     simp only [List.getElem?_map,Option.map_eq_some_iff] at hi
     obtain ⟨z,hz,rfl⟩:=hi
     have hj0:j=0:=by
      cases j with
      | zero=>rfl
      | succ j=>simp [U3] at hj
     subst hj0
     have ha2:a = .int .i64 z:=by simpa [U3] using hj.symm
     subst ha2
     simp only [List.getD,hz,Option.getD_some]
     exact GR.int _ _)
   rw [hlen2] at key
   exact .g key
@[simp ↓] theorem Zqr {α β:Type} (a:α) (k:α→Option β):ob (some a) k=k a:=rfl
@[simp ↓] theorem Z4i {α β:Type} (k:α→Option β):ob none k=none:=rfl
@[simp ↓] theorem Z6t {α β:Type} (c:Prop) [Decidable c] (x y:Option α) (k:α→Option β):ob (if c then x else y) k=if c then ob x k else ob y k:=by split <;> rfl
theorem Zqs {α β:Type} {x x':Option α} (hx:x=x') (k:α→Option β):ob x k=ob x' k:=by rw [hx]
attribute [congr] Zqs
def asB:AV→Option Bool
 | .g (.bool b)=>some b
 | _=>none
def asI:AV→Option (IntKind×Int)
 | .g (.int k n)=>some (k,n)
 | _=>none
def asS:AV→Option (List UInt8)
 | .g (.str b)=>some b
 | _=>none
def asAgg:AV→Option (List AV)
 | .agg cs=>some cs
 | _=>none
def Zjf:AV→Option (List AV)
 | .tup cs=>some cs
 | _=>none
def asCells:Option Blk→Option (List AV)
 | some (.cells cs)=>some cs
 | some (.bld _ cs)=>some cs
 | _=>none
def Z06:Option Blk→Option (TypeId×List AV)
 | some (.bld T cs)=>some (T,cs)
 | _=>none
def Z14:Option Blk→Option (TypeId×Nat×Nat×List (List GV))
 | some (.trow T sz g els)=>some (T,sz,g,els)
 | _=>none
def Fh:Option Blk→Option (Nat×Nat×List (List GV))
 | some (.rows sz g els)=>some (sz,g,els)
 | _=>none
@[simp] theorem Yda (b:Bool):asB (.g (.bool b))=some b:=by simp only [asB]
@[simp] theorem Ydb (k:IntKind) (n:Int):asI (.g (.int k n))=some (k,n):=by simp only [asI]
@[simp] theorem Ydc (b:List UInt8):asS (.g (.str b))=some b:=by simp only [asS]
@[simp] theorem Z6b (cs:List AV):asAgg (.agg cs)=some cs:=by simp only [asAgg]
@[simp] theorem Z6c (cs:List AV):Zjf (.tup cs)=some cs:=by simp only [Zjf]
@[simp] theorem Z3t (cs:List AV):asCells (some (.cells cs))=some cs:=by simp only [asCells]
@[simp] theorem Z4j (sz g:Nat) (els:List (List GV)):Fh (some (.rows sz g els))=some (sz,g,els):=by simp only [Fh]
def Zjg (c b:Bool):Bool:=if c then !b else b
@[simp] theorem Z15 (b:Bool):Zjg true b = !b:=rfl
@[simp] theorem Z07 (b:Bool):Zjg false b=b:=rfl
def Zqt (h:List Blk) (s:St) (off:Nat):AV→Option (AV×List Nat)
 | .ptr id o=>some (.ptr id (o+off),[])
 | .cp cs=>some (.cp (cs.drop off),[])
 | .rp id g sz i o=>if cur h s id g=true then some (.rp id g sz i (o+off),[]) else none
 | _=>none
def Zfx (h:List Blk) (s:St) (sz:Nat):AV→Int→Option (AV×List Nat)
 | .g (.sl sz' els),n=>if sz=sz'∧0≤n then ob (els[n.toNat]?) fun el=>some (.cp el,[]) else none
 | .ms id g sz' off len,n=>if sz=sz'∧0≤n∧n<len∧cur h s id g=true then some (.rp id g sz (off+n.toNat) 0,[]) else none
 | _,_=>none
def Zjh (len sz:Nat):AV→Int→Option (AV×List Nat)
 | .ptr id o,n=>if 0≤n∧n<len then some (.ptr id (o+n.toNat*sz),[]) else none
 | .cp cs,n=>if 0≤n∧n<len then some (.cp (cs.drop (n.toNat*sz)),[]) else none
 | _,_=>none
def Zb4 (h:List Blk) (s:St) (agg:Bool) (n:Nat):AV→Option (AV×List Nat)
 | .ptr id o=>ob (asCells (Yp h s id)) fun cs=>ob (sub agg n ((cs.drop o).take n)) fun x=>some (x,[id])
 | .cp cs=>ob (sub agg n ((cs.take n).map .g)) fun x=>some (x,[])
 | .rp id g sz i o=>ob (Fh (Yp h s id)) fun r=>if g=r.2.1∧sz=r.1 then ob (r.2.2[i]?) fun el=>ob (sub agg n (((el.drop o).take n).map .g)) fun x=>some (x,[id]) else none
 | _=>none
def ob2 {α β:Type} (x:Option α) (k:α→Option β) (n:Option β):Option β :=
 match x with
 | some a=>k a
 | none=>n
@[simp ↓] theorem Z4k {α β:Type} (a:α) (k:α→Option β) (n:Option β):ob2 (some a) k n=k a:=rfl
@[simp ↓] theorem Z4l {α β:Type} (k:α→Option β) (n:Option β):ob2 none k n=n:=rfl
@[simp ↓] theorem Z6d {α β:Type} (c:Prop) [Decidable c] (x y:Option α) (k:α→Option β) (n:Option β):ob2 (if c then x else y) k n=if c then ob2 x k n else ob2 y k n:=by split <;> rfl
theorem Zmc {α β:Type} {x x':Option α} (hx:x=x') (k:α→Option β) (n:Option β):ob2 x k n=ob2 x' k n:=by rw [hx]
attribute [congr] Zmc
@[simp] theorem Z3u (h:List Blk) (s:St) (id g sz off:Nat) (lo:Option Opd):Zfc h s id g sz off lo none=none:=by simp only [Zfc]
@[simp] theorem Z3v (h:List Blk) (s:St) (id g sz off:Nat) (lo:Option Opd) (hi:Opd):Zfc h s id g sz off lo (some hi)=ob (rowLen h s id g) fun n=>if off≤n then ob (Xd s (n - off) lo (some hi)) fun p=>some (.ms id g sz (off+p.1) (p.2 - p.1),[]) else none:=by
 simp only [Zfc]
 rcases rowLen h s id g with _ | n
 ·rfl
 ·simp only [ob]
  split
  ·rcases Xd s (n - off) lo (some hi) with _ | ⟨a,b⟩ <;> rfl
  ·rfl
theorem Zmd (h:List Blk) (s:St) (id g:Nat):rowLen h s id g=ob (Fh (Yp h s id)) fun r=>if g=r.2.1 then some r.2.2.length else none:=by
 unfold rowLen
 rcases Yp h s id with _ | b
 ·rfl
 ·cases b <;> rfl
attribute [simp] Zmd
@[simp] theorem Z4m (h:List Blk) (s:St) (k id g sz off len:Nat) (lo hi:Opd) (kd:IntKind) (m:Int):Za6 h s k lo hi (.ms id g sz off len) (.g (.int kd m)) =
  if k=sz∧cur h s id g=true∧0≤m∧m≤len then ob (Xd s m.toNat (some lo) (some hi)) fun _=>some (.any,[]) else none:=by
 simp only [Za6]
 split
 ·cases Xd s m.toNat (some lo) (some hi) <;> rfl
 ·rfl
def Zqu (h:List Blk) (s:St) (k:Nat) (lo hi:Option Opd):AV→Option (AV×List Nat)
 | .g (.sl sz els)=>if k=sz then ob (Xd s els.length lo hi) fun p=>some (.g (.sl sz ((els.take p.2).drop p.1)),[]) else none
 | .g .nsl=>ob (Xd s 0 lo hi) fun p=>some (.g .nsl,[])
 | .ms id g sz off len=>if k=sz then ob2 (Xd s len lo hi) (fun p=>if cur h s id g=true then some (.ms id g sz (off+p.1) (p.2 - p.1),[]) else none) (Zfc h s id g sz off lo hi) else none
 | _=>none
def Zji:AV→Option (AV×List Nat)
 | .ptr i o=>some (.ptr i o,[])
 | .cp cs=>some (.cp cs,[])
 | .fv f cs=>some (.fv f cs,[])
 | .g (.fn f)=>some (.g (.fn f),[])
 | .g (.ifc t v)=>some (.g (.ifc t v),[])
 | .ifa t v=>some (.ifa t v,[])
 | _=>none
def Z4n (t:TypeId):AV→Option (AV×List Nat)
 | .g v=>some (.g (.ifc t v),[])
 | .ptr i o=>some (.ifa t (.ptr i o),[])
 | _=>none
def Z4o:AV→Option (AV×List Nat)
 | .g .nsl=>some (.g (.int .i64 0),[])
 | _=>none
attribute [simp] Zqt Zfx Zjh Zb4 Zqu Zji Z4n Z4o
section
variable (h:List Blk) (s:St)
theorem Zqv (x:Opd):evP h s (.mov x)=ob (val s x) fun v=>some (v,[]):=by simp only [evP];cases val s x <;> rfl
theorem Zme (c a b:Opd):evP h s (.pick c a b)=ob (val s c) fun v=>ob (asB v) fun x=>if x=true then ob (val s a) (fun v=>some (v,[])) else ob (val s b) fun v=>some (v,[]):=by
 simp only [evP]
 rcases val s c with _ | v
 ·rfl
 ·cases v <;> try rfl
  rename_i g;cases g <;> rfl
theorem Zqw (op:BinOp) (x y:Opd):evP h s (.bin op x y)=ob (val s x) fun a=>ob (val s y) fun b=>ob (Uc op a b) fun v=>some (v,[]):=by
 simp only [evP]
 rcases val s x with _ | a
 ·rfl
 ·rcases val s y with _ | b
  ·rfl
  ·simp only [ob];cases Uc op a b <;> rfl
theorem Zqx (neq ag:Bool) (ks:List LK) (x y:Opd):evP h s (.eqs neq ag ks x y)=ob (val s x) fun a=>ob (val s y) fun b=>ob (eqV ag ks a b) fun r=>some (.g (.bool (Zjg neq r)),[]):=by
 simp only [evP]
 rcases val s x with _ | a
 ·rfl
 ·rcases val s y with _ | b
  ·rfl
  ·simp only [ob];cases eqV ag ks a b <;> rfl
theorem Zb5 (neq:Bool) (x:Opd):evP h s (.isnilS neq x)=ob (val s x) fun a=>ob (R6 h s a) fun r=>some (.g (.bool (Zjg neq r)),[]):=by
 simp only [evP]
 rcases val s x with _ | a
 ·rfl
 ·simp only [ob];cases R6 h s a <;> rfl
@[simp] theorem Z16:R6 h s (.g .nsl)=some true:=by simp only [R6]
@[simp] theorem Z3w (sz:Nat) (els:List (List GV)):R6 h s (.g (.sl sz els))=some false:=by simp only [R6]
theorem Zqy (x:Opd):evP h s (.un .not x)=ob (val s x) fun v=>ob (asB v) fun b=>some (.g (.bool (!b)),[]):=by
 simp only [evP]
 rcases val s x with _ | v
 ·rfl
 ·cases v <;> try rfl
  rename_i g;cases g <;> rfl
theorem Zfy (off:Nat) (x:Opd):evP h s (.faddr off x)=ob (val s x) fun v=>Zqt h s off v:=by
 simp only [evP]
 rcases val s x with _ | v
 ·rfl
 ·cases v <;> rfl
theorem Zfz (sz:Nat) (x i:Opd):evP h s (.iaddr sz x i)=ob (val s x) fun v=>ob (val s i) fun i=>ob (asI i) fun p=>Zfx h s sz v p.2:=by
 simp only [evP]
 rcases val s x with _ | v
 ·rfl
 ·rcases val s i with _ | i
  ·cases v <;> first | rfl | (rename_i g;cases g <;> rfl)
  ·cases i with
   | g gi=>cases gi with
    | int k n=>cases v with
     | g gv=>cases gv with
      | sl n els =>
       simp only [ob,asI,Zfx]
       split
       ·split <;> (rename_i hq;rw [hq])
       ·rfl
      | _=>rfl
     | _=>rfl
    | _=>cases v <;> first | rfl | (rename_i g;cases g <;> rfl)
   | _=>cases v <;> first | rfl | (rename_i g;cases g <;> rfl)
theorem Zb6 (len sz:Nat) (x i:Opd):evP h s (.iaddrA len sz x i)=ob (val s x) fun v=>ob (val s i) fun i=>ob (asI i) fun p=>Zjh len sz v p.2:=by
 simp only [evP]
 rcases val s x with _ | v
 ·rfl
 ·rcases val s i with _ | i
  ·cases v <;> rfl
  ·cases i with
   | g gi=>cases gi with
    | int k n=>cases v <;> rfl
    | _=>cases v <;> rfl
   | _=>cases v <;> rfl
theorem Zf0 (x i:Opd):evP h s (.index x i)=ob (val s x) fun v=>ob (asS v) fun b=>ob (val s i) fun i=>ob (asI i) fun p=>if 0≤p.2 then ob (b[p.2.toNat]?) fun c=>some (.g (.int .u8 c.toNat),[]) else none:=by
 simp only [evP]
 rcases val s x with _ | v
 ·rfl
 ·rcases val s i with _ | i
  ·cases v <;> first | rfl | (rename_i g;cases g <;> rfl)
  ·cases i with
   | g gi=>cases gi with
    | int k n=>cases v with
     | g gv=>cases gv with
      | str b =>
       simp only [ob,asI,asS]
       split
       ·split <;> (rename_i hq;rw [hq])
       ·rfl
      | _=>rfl
     | _=>rfl
    | _=>cases v <;> first | rfl | (rename_i g;cases g <;> rfl)
   | _=>cases v <;> first | rfl | (rename_i g;cases g <;> rfl)
theorem Zb7 (agg:Bool) (len sz:Nat) (x i:Opd):evP h s (.indexA agg len sz x i)=ob (val s x) fun v=>ob (asAgg v) fun cs=>ob (val s i) fun i=>ob (asI i) fun p=>if 0≤p.2∧p.2<len then ob (sub agg sz ((cs.drop (p.2.toNat*sz)).take sz)) fun v=>some (v,[]) else none:=by
 simp only [evP]
 rcases val s x with _ | v
 ·rfl
 ·rcases val s i with _ | i
  ·cases v <;> rfl
  ·cases i with
   | g gi=>cases gi with
    | int k n=>cases v with
     | agg cs =>
       simp only [ob,asI,asAgg]
       split
       ·cases sub agg sz ((cs.drop (n.toNat*sz)).take sz) <;> rfl
       ·rfl
     | _=>rfl
    | _=>cases v <;> rfl
   | _=>cases v <;> rfl
theorem Zmf (agg:Bool) (n:Nat) (x:Opd):evP h s (.load agg n x)=ob (val s x) fun v=>Zb4 h s agg n v:=by
 simp only [evP]
 rcases val s x with _ | v
 ·rfl
 ·cases v with
  | ptr id o =>
   simp only [ob,Zb4]
   rcases Yp h s id with _ | b
   ·rfl
   ·cases b with
    | cells cs=>simp only [asCells];cases sub agg n ((cs.drop o).take n) <;> rfl
    | bld T cs=>simp only [asCells];cases sub agg n ((cs.drop o).take n) <;> rfl
    | _=>rfl
  | cp cs=>simp only [ob,Zb4];cases sub agg n ((cs.take n).map .g) <;> rfl
  | rp id g sz i o =>
   simp only [ob,Zb4]
   rcases Yp h s id with _ | b
   ·rfl
   ·cases b with
    | rows sz2 g2 els =>
     simp only [Fh]
     split
     ·rcases els[i]? with _ | el
      ·rfl
      ·simp only;cases sub agg n (((el.drop o).take n).map .g) <;> rfl
     ·rfl
    | _=>rfl
  | _=>rfl
theorem Zqz (j:Nat) (x:Opd):evP h s (.ext j x)=ob (val s x) fun v=>ob (Zjf v) fun vs=>ob (vs[j]?) fun v=>some (v,[]):=by
 simp only [evP]
 rcases val s x with _ | v
 ·rfl
 ·cases v with
  | tup vs=>simp only [ob,Zjf];cases vs[j]? <;> rfl
  | _=>rfl
theorem Zq0 (x:Opd):evP h s (.len x)=ob (val s x) fun v=>ob (X4 h s v) fun n=>some (.g (.int .i64 n),[]):=by
 simp only [evP]
 rcases val s x with _ | v
 ·rfl
 ·simp only [ob];cases X4 h s v <;> rfl
theorem Zmg (x:Opd):evP h s (.lenS x)=ob (val s x) fun v=>ob (asS v) fun b=>some (.g (.int .i64 b.length),[]):=by
 simp only [evP]
 rcases val s x with _ | v
 ·rfl
 ·cases v <;> first | rfl | (rename_i g;cases g <;> rfl)
theorem Zq1 (x:Opd):evP h s (.cap x)=ob (val s x) fun v=>Z4o v:=by
 simp only [evP]
 rcases val s x with _ | v
 ·rfl
 ·cases v <;> first | rfl | (rename_i g;cases g <;> rfl)
theorem Zvs (x:Opd) (xs:List Opd):evP h s (.mx x xs)=ob (vals s xs) fun vs=>ob (Pv mx2 (val s x) vs) fun v=>some (v,[]):=by
 simp only [evP]
 rcases vals s xs with _ | v
 ·rfl
 ·simp only [ob];cases Pv mx2 (val s x) v <;> rfl
theorem Zf1 (z:List AV) (ps:List (Nat×Nat×Opd)):evP h s (.build z ps)=ob (Ur s z ps) fun cs=>some (.agg cs,[]):=by
 simp only [evP];cases Ur s z ps <;> rfl
theorem Zq2 (sz:Nat) (x:Opd) (lo hi:Option Opd):evP h s (.slc sz x lo hi)=ob (val s x) fun v=>Zqu h s sz lo hi v:=by
 simp only [evP]
 rcases val s x with _ | v
 ·rfl
 ·cases v with
  | g gv=>cases gv with
   | sl n els =>
    simp only [ob,Zqu]
    split
    ·rcases Xd s els.length lo hi with _ | ⟨a,b⟩ <;> rfl
    ·rfl
   | nsl=>simp only [ob,Zqu];cases Xd s 0 lo hi <;> rfl
   | _=>rfl
  | ms id g sz2 off len =>
   simp only [ob,Zqu]
   split
   ·rcases Xd s len lo hi with _ | ⟨a,b⟩ <;> rfl
   ·rfl
  | _=>rfl
theorem Zmh (sz:Nat) (x lo hi mx:Opd):evP h s (.slc3 sz x (some lo) (some hi) (some mx))=ob (val s x) fun v=>ob (val s mx) fun m=>Za6 h s sz lo hi v m:=by
 simp only [evP]
 rcases val s x with _ | v
 ·rfl
 ·rcases val s mx with _ | m <;> rfl
theorem Zmi (x:Opd) (lo hi:Option Opd):evP h s (.slcS x lo hi)=ob (val s x) fun v=>ob (asS v) fun b=>ob (Xd s b.length lo hi) fun p=>some (.g (.str ((b.take p.2).drop p.1)),[]):=by
 simp only [evP]
 rcases val s x with _ | v
 ·rfl
 ·cases v with
  | g gv=>cases gv with
   | str b =>
    simp only [ob,asS]
    rcases Xd s b.length lo hi with _ | ⟨a,b⟩ <;> rfl
   | _=>rfl
  | _=>rfl
theorem Zmj (f:FuncId) (x:Opd) (xs:List Opd):evP h s (.mkfn f (x::xs))=ob (vals s (x::xs)) fun vs=>some (.fv f vs,[]):=by
 simp only [evP];cases vals s (x::xs) <;> rfl
theorem Zb8 (x:Opd):evP h s (.nilchk x)=ob (val s x) fun v=>Zji v:=by
 simp only [evP]
 rcases val s x with _ | v
 ·rfl
 ·cases v <;> first | rfl | (rename_i g;cases g <;> rfl)
theorem Z4p (n:Nat):val s (.t n)=look s.t n:=by simp only [val]
theorem Z4q (v:AV):val s (.c v)=some v:=by simp only [val]
theorem Zq3:vals s []=some []:=by simp only [vals]
theorem Zmk (x:Opd) (xs:List Opd):vals s (x::xs)=ob (val s x) fun v=>ob (vals s xs) fun vs=>some (v::vs):=by
 simp only [vals];cases val s x <;> cases vals s xs <;> rfl
end
attribute [simp] Zmh Zqv Zme Zqw Zqx Zb5 Zqy Zfy Zfz Zb6 Zf0 Zb7 Zmf Zqz Zq0 Zmg Zq1 Zvs Zf1 Zq2 Zmi Zmj Zb8
attribute [simp] Z4p Z4q Zq3 Zmk
def Z4r (e:TypeId) (h:List Blk) (s:St) (b:List UInt8):AV→Option (AV×St×List Nat)
 | .ms id g sz off len=>if Zfh h s id=true then (if sz=1 then Hc e h s 1 1 id g off len (Xb b) else none) else Yh h s 1 1 (.ms id g sz off len) (Xb b)
 | x=>Yh h s 1 1 x (Xb b)
def Z6u (h:List Blk) (s:St):AV→Option (AV×St×List Nat)
 | .ptr id o=>ob (Z06 (Yp h s id)) fun p=>if o<p.2.length then some (.ptr id o,s,[]) else none
 | _=>none
def Z17 (ts:List (TypeId×Nat)) (h:List Blk) (s:St):AV→Option (AV×St×List Nat)
 | .ptr id o=>ob (Z06 (Yp h s id)) fun p=>if o=0∧ts.contains (p.1,p.2.length)=true then some (.ptr id o,s,[]) else none
 | _=>none
def Z18 (h:List Blk) (s:St):AV→Option (AV×St×List Nat)
 | .ms id g sz off len=>if cur h s id g=true then (if g=1 then some (.g .nptr,s,[]) else if 0<len then some (.rp id g sz off 0,s,[]) else none) else none
 | _=>none
def Zb9:Option Blk→Option (List (GV×Option GV))
 | some (.map es)=>some es
 | _=>none
def Zq4 (cm:Bool) (kk:LK) (z:Option GV) (h:List Blk) (s:St):AV→AV→Option (AV×St×List Nat)
 | .mp id,.g kv=>ob (Zb9 (Yp h s id)) fun es=>ob (Od cm kk z kv es) fun r=>some (r,s,[])
 | _,_=>none
def Zq5 (kk:LK) (h:List Blk) (s:St):AV→AV→AV→Option (AV×St×List Nat)
 | .mp id,.g kv,v=>ob (Zb9 (Yp h s id)) fun es=>ob (mvG v) fun g=>ob (Sa kk kv g es) fun es'=>some (.undef,setB h s id (.map es'),[id])
 | _,_,_=>none
attribute [simp] Zb9 Zq4 Zq5 mvG mvV
def Fi:Option Blk→Option (List (List GV×Option GV))
 | some (.map2 es)=>some es
 | _=>none
def Zf2 (cm:Bool) (ks:List LK) (z:Option GV) (h:List Blk) (s:St):AV→AV→Option (AV×St×List Nat)
 | .mp id,.agg cs=>ob (Xq cs) fun kv=>ob (Fi (Yp h s id)) fun es=>ob (K6 cm ks z kv es) fun r=>some (r,s,[])
 | _,_=>none
def Zf3 (ks:List LK) (h:List Blk) (s:St):AV→AV→AV→Option (AV×St×List Nat)
 | .mp id,.agg cs,v=>ob (Xq cs) fun kv=>ob (Fi (Yp h s id)) fun es=>ob (mvG v) fun g=>ob (K7 ks kv g es) fun es'=>some (.undef,setB h s id (.map2 es'),[id])
 | _,_,_=>none
attribute [simp] Fi Zf2 Zf3
def Z4s (s:St):AV→AV→Option (AV×St×List Nat)
 | .ptr id o,.ptr id' o'=>if id=id'∧o=o' then some (.g (.bool false),s,[]) else none
 | _,_=>none
def Z4t (e:TypeId) (h:List Blk) (s:St):AV→AV→Option (AV×St×List Nat)
 | .g .nptr,.g (.int .i64 n)=>if n=0 then some (.g (.str []),s,[]) else none
 | .rp id g _ i o,.g (.int .i64 n)=>ob (Z14 (Yp h s id)) fun r=>if g=r.2.2.1∧r.2.1=1∧i=0∧o=0∧0<n∧n≤r.2.2.2.length∧n≤9223372036854775807∧r.1=e then
   ob (evI.bytesOfG (r.2.2.2.take n.toNat)) fun b=>some (.g (.str b),setB h s id (.fro 1 g r.2.2.2),[id]) else none
 | _,_=>none
attribute [simp] Z4r Z6u Z17 Z18 Z4s Z4t Zfh
section
variable (h:List Blk) (nb:Nat) (s:St)
theorem Zml (sz:Nat):evI h nb s (.nres sz)=some (.ms (s.next h) 1 sz 0 0,s.push (.rows sz 1 []),[]):=by simp only [evI]
theorem Zq6 (sz:Nat):evI h nb s (.mk0 sz)=some (.ms (s.next h) 2 sz 0 0,s.push (.rows sz 2 []),[]):=by simp only [evI]
theorem Zf4 (z:List Z):evI h nb s (.alloc z)=some (.ptr (s.next h+(Yc (s.next h) z).2.length) 0,{ s with o:=s.o++(Yc (s.next h) z).2++[.cells (Yc (s.next h) z).1] },[]):=by simp only [evI]
theorem Zf5:evI h nb s .mkmap=some (.mp (s.next h),s.push (.map []),[]):=by simp only [evI]
theorem Zmm (cm:Bool) (kk:LK) (z:Option GV) (x k:Opd):evI h nb s (.mget cm kk z x k)=ob (val s x) fun a=>ob (val s k) fun b=>Zq4 cm kk z h s a b:=by
 simp only [evI]
 rcases val s x with _ | x
 ·rfl
 ·rcases val s k with _ | k
  ·cases x <;> rfl
  ·cases x <;> try rfl
   rename_i id
   cases k <;> try rfl
   rename_i kv
   simp only [ob,Zq4]
   rcases Yp h s id with _ | b
   ·rfl
   ·cases b <;> try rfl
    rename_i es
    simp only [Zb9]
    rcases Od cm kk z kv es with _ | r <;> rfl
theorem Zmn (kk:LK) (x k v:Opd):evI h nb s (.mset kk x k v)=ob (val s x) fun a=>ob (val s k) fun b=>ob (val s v) fun c=>Zq5 kk h s a b c:=by
 simp only [evI]
 rcases val s x with _ | x
 ·rfl
 ·rcases val s k with _ | k
  ·cases x <;> rfl
  ·rcases val s v with _ | v
   ·cases x <;> try rfl
    cases k <;> rfl
   ·cases x <;> try rfl
    rename_i id
    cases k <;> try rfl
    rename_i kv
    simp only [ob,Zq5]
    rcases Yp h s id with _ | b
    ·rfl
    ·cases b <;> try rfl
     rename_i es
     simp only [Zb9]
     rcases mvG v with _ | g
     ·rfl
     ·simp only
      rcases Sa kk kv g es with _ | es' <;> rfl
theorem Zca:evI h nb s .mkmap2=some (.mp (s.next h),s.push (.map2 []),[]):=by simp only [evI]
theorem Zf6 (cm:Bool) (ks:List LK) (z:Option GV) (x k:Opd):evI h nb s (.mget2 cm ks z x k)=ob (val s x) fun a=>ob (val s k) fun b=>Zf2 cm ks z h s a b:=by
 simp only [evI]
 rcases val s x with _ | x
 ·rfl
 ·rcases val s k with _ | k
  ·cases x <;> rfl
  ·cases x <;> try rfl
   rename_i id
   cases k <;> try rfl
   rename_i cs
   simp only [ob,Zf2,Option.bind_some,Zfi]
   rcases Xq cs with _ | kv
   ·rfl
   ·simp only
    rcases Yp h s id with _ | b
    ·rfl
    ·cases b <;> try rfl
     rename_i es
     simp only [Fi]
     rcases K6 cm ks z kv es with _ | r <;> rfl
theorem Zf7 (ks:List LK) (x k v:Opd):evI h nb s (.mset2 ks x k v)=ob (val s x) fun a=>ob (val s k) fun b=>ob (val s v) fun c=>Zf3 ks h s a b c:=by
 simp only [evI]
 rcases val s x with _ | x
 ·rfl
 ·rcases val s k with _ | k
  ·cases x <;> rfl
  ·rcases val s v with _ | v
   ·cases x <;> try rfl
    cases k <;> try rfl
    rename_i id cs
    simp only [ob,Option.bind_some,Zfi]
    cases Xq cs <;> rfl
   ·cases x <;> try rfl
    rename_i id
    cases k <;> try rfl
    rename_i cs
    simp only [ob,Zf3,Option.bind_some,Zfi]
    rcases Xq cs with _ | kv
    ·rfl
    ·simp only
     rcases Yp h s id with _ | b
     ·rfl
     ·cases b <;> try rfl
      rename_i es
      simp only [Fi]
      rcases mvG v with _ | g
      ·rfl
      ·simp only
       rcases K7 ks kv g es with _ | es' <;> rfl
theorem Ah (k:Nat) (z:List Z):evI h nb s (.allocAt k z)=match Yp h s (nb+k) with
  | some .pend=>if h.length≤nb then some (.ptr (nb+k) 0,setB h s (nb+k) (.cells (Uk z)),[nb+k]) else none
  | _=>none:=by simp only [evI];rfl
theorem Zq7 (x:Opd):evI h nb s (.box x)=ob (val s x) fun v=>ob v.cellsO fun cs=>some (.ptr (s.next h) 0,s.push (.cells cs),[]):=by
 simp only [evI]
 rcases val s x with _ | v
 ·rfl
 ·simp only [ob];cases v.cellsO <;> rfl
theorem Zcb (sz len:Nat) (z:List GV) (ps:List (Nat×Nat×Opd)):evI h nb s (.bslice sz len z ps)=ob (Ur s (List.replicate len (z.map AV.g)).flatten ps) fun cs=>ob (Xq cs) fun gs=>some (.g (.sl sz (Zx sz len gs)),s,[]):=by
 simp only [evI]
 rcases Ur s (List.replicate len (z.map AV.g)).flatten ps with _ | v
 ·rfl
 ·simp only [ob];cases Xq v <;> rfl
theorem Zf8 (n:Nat) (p x:Opd):evI h nb s (.store n p x)=ob (val s p) fun p=>ob (val s x) fun v=>ob v.cellsO fun vs=>if vs.length=n then ob (Oc h s p vs) fun r=>some (.undef,r.1,r.2) else none:=by
 simp only [evI]
 rcases val s p with _ | p
 ·rfl
 ·rcases val s x with _ | v
  ·rfl
  ·simp only [ob]
   rcases v.cellsO with _ | vs
   ·rfl
   ·simp only
    split
    ·cases Oc h s p vs <;> rfl
    ·rfl
theorem Zq8 (sz bytes:Nat) (x y:Opd):evI h nb s (.app sz bytes x y)=ob (val s x) fun x=>ob (val s y) fun y=>ob (Vs h s sz y) fun ys=>Yh h s sz bytes x ys:=by
 simp only [evI]
 rcases val s x with _ | x
 ·rfl
 ·rcases val s y with _ | y
  ·rfl
  ·simp only [ob];cases Vs h s sz y <;> rfl
theorem Zmo (sz bytes:Nat) (z:List GV) (x n:Opd):evI h nb s (.appZ sz bytes z x n)=match val s x,val s n with
  | some x,some (.g (.int .i64 n))=>if 0≤n∧n≤281474976710656∧n*bytes≤281474976710656 then Yh h s sz bytes x (List.replicate n.toNat z) else none
  | _,_=>none:=by simp only [evI];rfl
theorem Zf9 (z:List GV) (x:Opd):evI h nb s (.clear z x)=match val s x with
  | some (.g .nsl)=>some (.tup [],s,[])
  | some (.ms id g sz off len)=>match Yp h s id with
   | some (.rows sz' g' els)=>if g=g'∧sz=sz'∧sz=z.length∧off+len≤els.length then
     some (.tup [],setB h s id (.rows sz g (els.take off++(List.replicate len z++els.drop (off+len)))),[id]) else none
   | _=>none
  | _=>none:=by simp only [evI];rfl
theorem Zcc (x:Opd):evI h nb s (.convSB x)=ob (val s x) fun v=>ob (asS v) fun b=>some (.g (.sl 1 (Xb b)),s,[]):=by
 simp only [evI]
 rcases val s x with _ | v
 ·rfl
 ·cases v <;> first | rfl | (rename_i g;cases g <;> rfl)
end
attribute [simp] Zca Zf6 Zf7 Zf5 Zmm Zmn Zml Zq6 Zf4 Ah Zq7 Zcb Zf8 Zq8 Zmo Zf9 Zcc evI.bytesOfG
noncomputable def Ya (E:FnS) (h:List Blk) (c:IC) (lv:List Nat) (s:St):Out:=Gl (fun s=>Zo E h c s) lv s
theorem Fj (E:FnS) (h:List Blk) (c:IC) (lv:List Nat) (s:St):Ya E h c lv s=sk (Zo E h c s) fun s'=>Ya E h c lv (s'.kp lv):=Zqk _ lv s
theorem Ve {c c':IC} (hc:c=c') (E:FnS) (h:List Blk) (lv:List Nat) (s:St):Ya E h c lv s=sk (Zo E h c' s) fun s'=>Ya E h c lv (s'.kp lv):=by
 rw [←hc];exact Fj E h c lv s
section
variable (E:FnS) (h:List Blk) (s:St)
@[simp] theorem Z08:Zo E h .skip s=some (.normal,s):=by simp only [Zo]
@[simp] theorem Z09 (id:Nat):Zo E h (.exit id) s=some (.exit id,s):=by simp only [Zo]
@[simp] theorem Z19:Zo E h .ret s=some (.ret,s):=by simp only [Zo]
@[simp] theorem Z2a (lv:List Nat) (ops:List Z0):Zo E h (.reg lv ops) s=ob (Vy E h ops s) fun s=>some (.normal,s.kp lv):=by
 simp only [Zo];cases Vy E h ops s <;> rfl
@[simp] theorem Z2b (lv:List Nat) (nb:Nat) (t:Vv):Zo E h (.drw lv nb t) s=ob (Yo E h (h.length+s.o.length) lv [] t (Yf s nb)) fun s=>some (.normal,s):=by
 simp only [Zo];cases Yo E h (h.length+s.o.length) lv [] t (Yf s nb) <;> rfl
@[simp] theorem Z2c (a b:IC):Zo E h (.seq a b) s=sk (Zo E h a s) fun s=>Zo E h b s:=by simp only [Zo]
@[simp] theorem Z1a (lv:List Nat) (c:Opd) (a b:IC):Zo E h (.cond lv c a b) s=ob (val s c) fun v=>ob (asB v) fun x=>kpN lv (if x=true then Zo E h a s else Zo E h b s):=by
 simp only [Zo]
 rcases val s c with _ | v
 ·rfl
 ·cases v <;> first | rfl | (rename_i g;cases g <;> rfl)
@[simp] theorem Zvt (lv:List Nat) (id:Nat) (c:IC):Zo E h (.block lv id c) s=bk lv id (Zo E h c s):=by simp only [Zo]
@[simp] theorem Z1b (lv l2:List Nat) (c:IC):Zo E h (.loop lv l2 c) s=Ya E h c lv (s.kp lv):=by simp only [Zo,Ya]
end
def Zq9:Option Blk→Option (RD×List (Nat×AV))
 | some (.lp rd t none)=>some (rd,t)
 | _=>none
@[simp] theorem Z6v (rd:RD) (t:List (Nat×AV)):Zq9 (some (.lp rd t none))=some (rd,t):=by simp only [Zq9]
def Ai (E:FnS) (h:List Blk) (s:St) (vs:List AV):AV→Option (AV×St)
 | .yv id=>ob (Zq9 (Yp h s id)) fun p=>ob (fin h [] s (E 0 (.yk p.1.key::(vs++[.yv id])) (full h s))) fun q=>some (q.1,q.2.1)
 | _=>none
@[simp] theorem Z3x (E:FnS) (h:List Blk) (s:St) (vs:List AV) (id:Nat):Ai E h s vs (.yv id)=ob (Zq9 (Yp h s id)) fun p=>ob (fin h [] s (E 0 (.yk p.1.key::(vs++[.yv id])) (full h s))) fun q=>some (q.1,q.2.1):=by simp only [Ai]
def rfV (E:FnS) (h:List Blk) (lv:List Nat) (rd:RD) (lt:List Nat) (s:St):AV→Out
 | .fv f (c::caps)=>match fin h [] (s.push (.lp rd (keep s.t lt) none)) (E f (.yv (s.next h)::c::caps) (full h (s.push (.lp rd (keep s.t lt) none)))) with
  | some (_,s',_)=>Gm h (s.next h) lv s'
  | none=>none
 | _=>none
theorem Zga (E:FnS) (h:List Blk) (lv:List Nat) (rd:RD) (lt:List Nat) (s:St) (f:FuncId) (c:AV) (caps:List AV):rfV E h lv rd lt s (.fv f (c::caps)) =
  ob (fin h [] (s.push (.lp rd (keep s.t lt) none)) (E f (.yv (s.next h)::c::caps) (full h (s.push (.lp rd (keep s.t lt) none))))) fun p=>Gm h (s.next h) lv p.2.1:=by
 simp only [rfV]
 rcases fin h [] (s.push (.lp rd (keep s.t lt) none)) (E f (.yv (s.next h)::c::caps) (full h (s.push (.lp rd (keep s.t lt) none)))) with _ | ⟨a,b,c⟩ <;> rfl
section
variable (E:FnS) (h:List Blk) (s:St)
@[simp] theorem Z1c (lv:List Nat) (ops:List Z0):Zo E h (.regy lv ops) s=ob (Vb E h ops s) fun s=>some (.normal,s.kp lv):=by
 simp only [Zo];cases Vb E h ops s <;> rfl
@[simp] theorem Z1d (lv:List Nat) (rd:RD) (lt:List Nat) (f:Opd):Zo E h (.rfun lv rd lt f) s=ob (val s f) fun v=>rfV E h lv rd lt s v:=by
 simp only [Zo,Zbl]
 rcases val s f with _ | v
 ·rfl
 ·cases v <;> try rfl
  rename_i g caps
  cases caps <;> rfl
@[simp] theorem Z2d:Vb E h [] s=some s:=by simp only [Vb]
@[simp] theorem Z1e (o:Z0) (r:List Z0):Vb E h (o::r) s=ob (Ud E h s o) fun s=>Vb E h r s:=by simp only [Vb]
@[simp] theorem Z4u (d:Option Nat) (f:Opd) (xs:List Opd):Ud E h s ⟨d,none,.ycall f xs⟩=ob (val s f) fun v=>ob (vals s xs) fun vs=>ob (Ai E h s vs v) fun p=>some (p.2.put d p.1):=by
 simp only [Ud,Mr]
 rcases val s f with _ | v
 ·rfl
 ·rcases vals s xs with _ | vs
  ·cases v <;> rfl
  ·cases v <;> try rfl
   rename_i id
   simp only [ob,Ai]
   rcases Yp h s id with _ | b
   ·rfl
   ·cases b <;> try rfl
    rename_i rd t j
    cases j <;> try rfl
    simp only [Zq9]
    generalize fin h [] s (E 0 (AV.yk rd.key::(vs++[AV.yv id])) (full h s))=q
    rcases q with _ | ⟨a,b,c⟩ <;> rfl
theorem Oj (o:Z0) (hy:Zvi o.op=false):Ud E h s o=ob (Wh E h 0 [] s o) fun p=>some p.1:=by
 obtain ⟨d,gd,op⟩:=o
 cases op <;> first | rfl | (simp [Zvi] at hy)
end
attribute [simp] Oj Zvi
attribute [simp ↓] Ch Zjc Zqq Zvn Z11 N6 Zb2 Zjd Zvo Zmb Zvp Z12 Z13
def gdA {α:Type} (s:St) (g:Nat) (b:Bool) (yes no:St→Option α):AV→Option α
 | .g (.bool x)=>if x=b then yes (s.put (some g) (.g (.bool b))) else no (s.put (some g) (.g (.bool (!b))))
 | .undef=>no s
 | _=>none
@[simp ↓] theorem Z4v {α:Type} (s:St) (g:Nat) (b:Bool) (yes no:St→Option α) (x:Bool):gdA s g b yes no (.g (.bool x))=if x=b then yes (s.put (some g) (.g (.bool b))) else no (s.put (some g) (.g (.bool (!b)))):=rfl
@[simp ↓] theorem Z3y {α:Type} (s:St) (g:Nat) (b:Bool) (yes no:St→Option α):gdA s g b yes no .undef=no s:=rfl
theorem Zcd {α:Type} (s:St) (g:Nat) (b:Bool) (yes no:St→Option α):gdo s (some (g,b)) yes no=ob (look s.t g) fun v=>gdA s g b yes no v:=by
 unfold gdo
 simp only
 rcases look s.t g with _ | v
 ·rfl
 ·cases v <;> first | rfl | (rename_i g;cases g <;> rfl)
section
variable (E:FnS) (h:List Blk) (nb:Nat) (hd:List Nat) (s:St)
theorem Zmp:Vy E h [] s=some s:=by simp only [Vy]
theorem Zgb (o:Z0) (r:List Z0):Vy E h (o::r) s=ob (Wh E h 0 [] s o) fun p=>Vy E h r p.1:=by simp only [Vy]
theorem Zgc (d:Option Nat) (op:AOp):Wh E h nb hd s ⟨d,none,op⟩=ob (Ye E h nb hd s op) fun p=>some (p.2.1.put d p.1,p.2.2):=by simp only [Wh,gdo]
theorem Zgd (d:Option Nat) (g:Nat) (b:Bool) (op:AOp):Wh E h nb hd s ⟨d,some (g,b),op⟩ =
  ob (look s.t g) fun v=>gdA s g b (fun s=>ob (Ye E h nb hd s op) fun p=>some (p.2.1.put d p.1,p.2.2)) (fun s=>some (s.put d .undef,[])) v:=by simp only [Wh,Zcd]
theorem Zce (d:Option Nat) (op:AOp):Ul h s ⟨d,none,op⟩=ob (evP h s op) fun p=>some (s.put d p.1,p.2):=by simp only [Ul,gdo]
theorem Zcf (d:Option Nat) (g:Nat) (b:Bool) (op:AOp):Ul h s ⟨d,some (g,b),op⟩ =
  ob (look s.t g) fun v=>gdA s g b (fun s=>ob (evP h s op) fun p=>some (s.put d p.1,p.2)) (fun s=>some (s.put d .undef,[])) v:=by simp only [Ul,Zcd]
end
attribute [simp] Zmp Zgb Zgc Zgd Zce Zcf
theorem Zra (s:St) (d:Nat) (v:AV):s.put (some d) v=⟨(d,v)::s.t,s.m,s.o⟩:=rfl
theorem Zrb (s:St) (v:AV):s.put none v=s:=rfl
theorem Z4w (t:List (Nat×AV)) (m:List (Nat×Blk)) (o:List Blk) (lv:List Nat):St.kp ⟨t,m,o⟩ lv=⟨keep t lv,m,o⟩:=rfl
def Zrc:Option AV→Nat→List (Nat×AV)→List (Nat×AV)
 | some v,i,r=>(i,v)::r
 | none,_,r=>r
theorem Zge (v:AV) (i:Nat) (r:List (Nat×AV)):Zrc (some v) i r=(i,v)::r:=rfl
theorem Zgf (i:Nat) (r:List (Nat×AV)):Zrc none i r=r:=rfl
theorem Zgg (T:List (Nat×AV)) (i:Nat) (l:List Nat):keep T (i::l)=Zrc (look T i) i (keep T l):=by
 rw [Zma];cases look T i <;> rfl
theorem Zmq (k:Nat):Sq k []=[]:=by simp only [Sq]
theorem Zgh (k:Nat) (a:AV) (r:List AV):Sq k (a::r)=(k,a)::Sq (k+1) r:=by simp only [Sq]
attribute [simp] Zra Zrb Z4w Zge Zgf Zgg Zqp Zmq Zgh look_nil Zl9
section
variable (h:List Blk) (s:St)
theorem Zrd:K9 h s []=some []:=by simp only [K9]
theorem Zmr (x:RV) (xs:List RV):K9 h s (x::xs)=ob (rvV h s x) fun v=>ob (K9 h s xs) fun vs=>some (v::vs):=by
 simp only [K9];cases rvV h s x <;> cases K9 h s xs <;> rfl
theorem Zvu (t:Nat):rvV h s (.tmp t)=look s.t t:=by simp only [rvV]
theorem Zre (t:Nat) (agg:Bool) (n:Nat):rvV h s (.cell t agg n)=ob (evP h s (.load agg n (.t t))) fun p=>some p.1:=by
 simp only [rvV];rcases evP h s (.load agg n (.t t)) with _ | ⟨a,b⟩ <;> rfl
theorem Zrf:H2 h s []=some []:=by simp only [H2]
theorem Zms (v:AV) (r:List AV):H2 h s (v::r)=ob (Ja h s v) fun v=>ob (H2 h s r) fun r=>some (v::r):=by
 simp only [H2];cases Ja h s v <;> cases H2 h s r <;> rfl
theorem Zrg:H4 h s []=some []:=by simp only [H4]
theorem Zmt (v:AV) (r:List AV):H4 h s (v::r)=ob (H3 h s v) fun v=>ob (H4 h s r) fun r=>some (v::r):=by
 simp only [H4];cases H3 h s v <;> cases H4 h s r <;> rfl
end
attribute [simp] Zrd Zmr Zvu Zre Zrf Zms Zrg Zmt
@[simp ↓] theorem Z4x (lv:List Nat):kpN lv none=none:=rfl
@[simp ↓] theorem Z6e (lv:List Nat) (id:Nat):bk lv id none=none:=rfl
def Zgi (H:List Blk) (rs:List RV) (esc:Bool) (s:St):Option Res :=
 ob (K9 H s rs) fun vs=>if esc=true then some ⟨Zbm vs,s.m,s.o⟩ else
  ob (H4 H s vs) fun vs=>if (s.m.all fun p=>p.2.lt1 H.length)=true then some ⟨Zbm vs,s.m,[]⟩ else none
def Ol (H:List Blk) (rs:List RV) (esc:Bool) (r:Out):Option Res :=
 match r with
 | some (.ret,s)=>Zgi H rs esc s
 | some (.normal,s)=>Zgi H rs esc s
 | _=>none
@[simp ↓] theorem Z3z (H:List Blk) (rs:List RV) (esc:Bool) (s:St):Ol H rs esc (some (.ret,s))=Zgi H rs esc s:=rfl
@[simp ↓] theorem Zvv (H:List Blk) (rs:List RV) (esc:Bool) (s:St):Ol H rs esc (some (.normal,s))=Zgi H rs esc s:=rfl
@[simp ↓] theorem Z2e (H:List Blk) (rs:List RV) (esc:Bool):Ol H rs esc none=none:=rfl
@[simp ↓] theorem Z30 (H:List Blk) (rs:List RV) (esc:Bool) (c:Prop) [Decidable c] (a b:Out):Ol H rs esc (if c then a else b)=if c then Ol H rs esc a else Ol H rs esc b:=by split <;> rfl
attribute [simp] Zgi
theorem Hl (H:List Blk) (F:Zg) (s:St):finish H F s=Zgi H F.rs F.esc s:=by
 unfold finish Zgi
 cases K9 H s F.rs with
 | none=>rfl
 | some vs =>
  simp only [Zqr]
  split
  ·rfl
  ·cases H4 H s vs <;> rfl
theorem Zgj (E:FnS) (F:Zg) (args:List AV) (H:List Blk) (hl:args.length≤F.nt):R9 E F args H=Ol H F.rs F.esc (Zo E H F.body ⟨Sq 0 args,[],[]⟩):=by
 unfold R9 Ol
 rw [if_pos hl]
 rcases Zo E H F.body ⟨Sq 0 args,[],[]⟩ with _ | ⟨e,s⟩
 ·rfl
 ·cases e
  ·exact Hl H F s
  ·rfl
  ·exact Hl H F s
theorem Zb {T:Tab} {f:FuncId} {np nt:Nat} {rs:List RV} {esc:Bool} {c:IC} (hF:T.T f=some ⟨np,nt,rs,esc,c⟩) {args:List AV} {H:List Blk} {r:Res} (hl:args.length≤nt)
  (h:Ol H rs esc (Zo (EvF T) H c ⟨Sq 0 args,[],[]⟩)=some r):EvF T f args H=some r :=
 Zql hF (by rw [Zgj _ _ _ _ hl];exact h)
theorem Zrh {r r':Out} (hr:r=r') (k:St→Out):sk r k=sk r' k:=by rw [hr]
theorem Zcg {H:List Blk} {rs:List RV} {esc:Bool} {r r':Out} (hr:r=r'):Ol H rs esc r=Ol H rs esc r':=by rw [hr]
theorem Aj {E:FnS} {h:List Blk} {c:IC} {s s':St} (hs:s=s'):Zo E h c s=Zo E h c s':=by rw [hs]
theorem Zch {E:FnS} {h:List Blk} {ops:List Z0} {s s':St} (hs:s=s'):Vy E h ops s=Vy E h ops s':=by rw [hs]
theorem Zci {E:FnS} {h:List Blk} {nb:Nat} {hd:List Nat} {s s':St} {o:Z0} (hs:s=s'):Wh E h nb hd s o=Wh E h nb hd s' o:=by rw [hs]
theorem Zgk {E:FnS} {h:List Blk} {nb:Nat} {hd:List Nat} {s s':St} {o:AOp} (hs:s=s'):Ye E h nb hd s o=Ye E h nb hd s' o:=by rw [hs]
theorem Ak {h:List Blk} {s s':St} {o:Z0} (hs:s=s'):Ul h s o=Ul h s' o:=by rw [hs]
theorem Zmu {h:List Blk} {s s':St} {o:AOp} (hs:s=s'):evP h s o=evP h s' o:=by rw [hs]
theorem Zmv {h:List Blk} {nb:Nat} {s s':St} {o:AOp} (hs:s=s'):evI h nb s o=evI h nb s' o:=by rw [hs]
theorem Al {E:FnS} {h:List Blk} {nb:Nat} {lv hd hd':List Nat} {t:Vv} {s s':St} (hh:hd=hd') (hs:s=s'):Yo E h nb lv hd t s=Yo E h nb lv hd' t s':=by rw [hs,hh]
theorem Am {E:FnS} {h:List Blk} {nb:Nat} {lv hd hd':List Nat} {t:Vv} {s s':St} (hh:hd=hd') (hs:s=s'):Z4 E h nb lv hd t s=Z4 E h nb lv hd' t s':=by rw [hs,hh]
theorem Zmw {α:Type} {s s':St} {g:Option (Nat×Bool)} (hs:s=s') (yes no:St→Option α):gdo s g yes no=gdo s' g yes no:=by rw [hs]
theorem Zcj {E:FnS} {h:List Blk} {c:IC} {lv:List Nat} {s s':St} (hs:s=s'):Ya E h c lv s=Ya E h c lv s':=by rw [hs]
attribute [congr] Zrh Zcg Aj Zch Zci Zgk Ak Zmu Zmv Al Am Zmw Zcj
section
variable (E:FnS) (h:List Blk) (nb:Nat) (hd:List Nat) (s:St)
theorem Zmx (f:Opd) (xs:List Opd):Ye E h nb hd s (.call f xs)=ob (AM.val s f) fun f=>ob (AM.vals s xs) fun xs=>X7 E h hd s f xs:=by
 simp only [Ye];cases AM.val s f <;> cases AM.vals s xs <;> rfl
theorem Zri (x:Opd):Ye E h nb hd s (.mov x)=ob (evP h s (.mov x)) fun p=>some (p.1,s,[]):=by simp only [Ye,AOp.acts];rfl
theorem Zmy (c a b:Opd):Ye E h nb hd s (.pick c a b)=ob (evP h s (.pick c a b)) fun p=>some (p.1,s,[]):=by simp only [Ye,AOp.acts];rfl
theorem Zrj (op:BinOp) (x y:Opd):Ye E h nb hd s (.bin op x y)=ob (evP h s (.bin op x y)) fun p=>some (p.1,s,[]):=by simp only [Ye,AOp.acts];rfl
theorem Zrk (neq agg:Bool) (ks:List LK) (x y:Opd):Ye E h nb hd s (.eqs neq agg ks x y)=ob (evP h s (.eqs neq agg ks x y)) fun p=>some (p.1,s,[]):=by simp only [Ye,AOp.acts];rfl
theorem Zck (neq:Bool) (x:Opd):Ye E h nb hd s (.isnilS neq x)=ob (evP h s (.isnilS neq x)) fun p=>some (p.1,s,[]):=by simp only [Ye,AOp.acts];rfl
theorem Zrl (sz:Nat):Ye E h nb hd s (.mk0 sz)=evI h nb s (.mk0 sz):=by simp only [Ye,AOp.acts];rfl
theorem Zvw (op:UnOp) (x:Opd):Ye E h nb hd s (.un op x)=ob (evP h s (.un op x)) fun p=>some (p.1,s,[]):=by simp only [Ye,AOp.acts];rfl
theorem Zgl (off:Nat) (p:Opd):Ye E h nb hd s (.faddr off p)=ob (evP h s (.faddr off p)) fun p=>some (p.1,s,[]):=by simp only [Ye,AOp.acts];rfl
theorem Zgm (sz:Nat) (x i:Opd):Ye E h nb hd s (.iaddr sz x i)=ob (evP h s (.iaddr sz x i)) fun p=>some (p.1,s,[]):=by simp only [Ye,AOp.acts];rfl
theorem Zgn (x i:Opd):Ye E h nb hd s (.index x i)=ob (evP h s (.index x i)) fun p=>some (p.1,s,[]):=by simp only [Ye,AOp.acts];rfl
theorem Zmz (agg:Bool) (n:Nat) (p:Opd):Ye E h nb hd s (.load agg n p)=ob (evP h s (.load agg n p)) fun p=>some (p.1,s,[]):=by simp only [Ye,AOp.acts];rfl
theorem Zrm (j:Nat) (x:Opd):Ye E h nb hd s (.ext j x)=ob (evP h s (.ext j x)) fun p=>some (p.1,s,[]):=by simp only [Ye,AOp.acts];rfl
theorem Zrn (x:Opd):Ye E h nb hd s (.len x)=ob (evP h s (.len x)) fun p=>some (p.1,s,[]):=by simp only [Ye,AOp.acts];rfl
theorem Zm0 (x:Opd):Ye E h nb hd s (.lenS x)=ob (evP h s (.lenS x)) fun p=>some (p.1,s,[]):=by simp only [Ye,AOp.acts];rfl
theorem Zro (x:Opd):Ye E h nb hd s (.cap x)=ob (evP h s (.cap x)) fun p=>some (p.1,s,[]):=by simp only [Ye,AOp.acts];rfl
theorem Zvx (x:Opd) (xs:List Opd):Ye E h nb hd s (.mx x xs)=ob (evP h s (.mx x xs)) fun p=>some (p.1,s,[]):=by simp only [Ye,AOp.acts];rfl
theorem Zgo (z:List AV) (ps:List (Nat×Nat×Opd)):Ye E h nb hd s (.build z ps)=ob (evP h s (.build z ps)) fun p=>some (p.1,s,[]):=by simp only [Ye,AOp.acts];rfl
theorem Zrp (sz:Nat) (x:Opd) (lo hi:Option Opd):Ye E h nb hd s (.slc sz x lo hi)=ob (evP h s (.slc sz x lo hi)) fun p=>some (p.1,s,[]):=by simp only [Ye,AOp.acts];rfl
theorem Zm1 (sz:Nat) (x:Opd) (lo hi mx:Option Opd):Ye E h nb hd s (.slc3 sz x lo hi mx)=ob (evP h s (.slc3 sz x lo hi mx)) fun p=>some (p.1,s,[]):=by simp only [Ye,AOp.acts];rfl
theorem Zm2 (x:Opd) (lo hi:Option Opd):Ye E h nb hd s (.slcS x lo hi)=ob (evP h s (.slcS x lo hi)) fun p=>some (p.1,s,[]):=by simp only [Ye,AOp.acts];rfl
theorem Zm3 (f:FuncId) (caps:List Opd):Ye E h nb hd s (.mkfn f caps)=ob (evP h s (.mkfn f caps)) fun p=>some (p.1,s,[]):=by simp only [Ye,AOp.acts];rfl
theorem Zcl (x:Opd):Ye E h nb hd s (.nilchk x)=ob (evP h s (.nilchk x)) fun p=>some (p.1,s,[]):=by simp only [Ye,AOp.acts];rfl
theorem Zm4 (sz:Nat):Ye E h nb hd s (.nres sz)=evI h nb s (.nres sz):=by simp only [Ye,AOp.acts];rfl
theorem Zgp (z:List Z):Ye E h nb hd s (.alloc z)=evI h nb s (.alloc z):=by simp only [Ye,AOp.acts];rfl
theorem Ao (k:Nat) (z:List Z):Ye E h nb hd s (.allocAt k z)=evI h nb s (.allocAt k z):=by simp only [Ye,AOp.acts];rfl
theorem Zrq (x:Opd):Ye E h nb hd s (.box x)=evI h nb s (.box x):=by simp only [Ye,AOp.acts];rfl
theorem Zcm (sz len:Nat) (z:List GV) (ps:List (Nat×Nat×Opd)):Ye E h nb hd s (.bslice sz len z ps)=evI h nb s (.bslice sz len z ps):=by simp only [Ye,AOp.acts];rfl
theorem Zgq (n:Nat) (p x:Opd):Ye E h nb hd s (.store n p x)=evI h nb s (.store n p x):=by simp only [Ye,AOp.acts];rfl
theorem Zrr (sz bytes:Nat) (x y:Opd):Ye E h nb hd s (.app sz bytes x y)=evI h nb s (.app sz bytes x y):=by simp only [Ye,AOp.acts];rfl
theorem Zm5 (sz bytes:Nat) (z:List GV) (x n:Opd):Ye E h nb hd s (.appZ sz bytes z x n)=evI h nb s (.appZ sz bytes z x n):=by simp only [Ye,AOp.acts];rfl
theorem Zgr (z:List GV) (x:Opd):Ye E h nb hd s (.clear z x)=evI h nb s (.clear z x):=by simp only [Ye,AOp.acts];rfl
theorem Zcn (x:Opd):Ye E h nb hd s (.convSB x)=evI h nb s (.convSB x):=by simp only [Ye,AOp.acts];rfl
theorem Zgs:Ye E h nb hd s .mkmap=evI h nb s .mkmap:=by simp only [Ye,AOp.acts];rfl
theorem Zm6 (cm:Bool) (kk:LK) (z:Option GV) (x k:Opd):Ye E h nb hd s (.mget cm kk z x k)=evI h nb s (.mget cm kk z x k):=by simp only [Ye,AOp.acts];rfl
theorem Zm7 (kk:LK) (x k v:Opd):Ye E h nb hd s (.mset kk x k v)=evI h nb s (.mset kk x k v):=by simp only [Ye,AOp.acts];rfl
theorem Zco:Ye E h nb hd s .mkmap2=evI h nb s .mkmap2:=by simp only [Ye,AOp.acts];rfl
theorem Zgt (cm:Bool) (ks:List LK) (z:Option GV) (x k:Opd):Ye E h nb hd s (.mget2 cm ks z x k)=evI h nb s (.mget2 cm ks z x k):=by simp only [Ye,AOp.acts];rfl
theorem Zgu (ks:List LK) (x k v:Opd):Ye E h nb hd s (.mset2 ks x k v)=evI h nb s (.mset2 ks x k v):=by simp only [Ye,AOp.acts];rfl
attribute [simp] Zco Zgt Zgu Zgs Zm6 Zm7 Zmx Zri Zmy Zrj Zrk Zck Zrl Zvw Zgl Zgm Zgn Zmz Zrm Zrn Zm0 Zro Zvx Zgo Zrp Zm1 Zm2 Zm3 Zcl Zm4 Zgp Ao Zrq Zcm Zgq Zrr Zm5 Zgr Zcn
end
@[simp] theorem Z4y (v:GV):(AV.g v).cellsO=some [.g v]:=by simp only [AV.cellsO]
@[simp] theorem Z2f (cs:List AV):(AV.agg cs).cellsO=some cs:=by simp only [AV.cellsO]
@[simp] theorem Z31 (a b c d e:Nat):(AV.ms a b c d e).cellsO=some [.ms a b c d e]:=by simp only [AV.cellsO]
@[simp] theorem Z32 (i:Nat):(AV.mp i).cellsO=some [.mp i]:=by simp only [AV.cellsO]
@[simp] theorem Z6w (v:GV):(AV.g v).leaf=true:=by simp only [AV.leaf]
@[simp] theorem Z6f (a b c d e:Nat):(AV.ms a b c d e).leaf=true:=by simp only [AV.leaf]
@[simp] theorem Ydd (n:Nat) (v:GV):(AV.g v).lt1 n=true:=by simp only [AV.lt1,AV.lt0]
@[simp] theorem Z6g (n a b:Nat):(AV.ptr a b).lt1 n=decide (a<n):=by simp only [AV.lt1,AV.lt0]
@[simp] theorem Z6x (n a b c d e:Nat):(AV.ms a b c d e).lt1 n=decide (a<n):=by simp only [AV.lt1,AV.lt0]
@[simp] theorem Z6y (h:List Blk) (s:St) (v:GV):Ja h s (.g v)=some (.g v):=by simp only [Ja,AV.lt1,AV.lt0];rfl
@[simp] theorem Z6h (h:List Blk) (s:St) (id gen sz off len:Nat):Ja h s (.ms id gen sz off len)=if id<h.length then some (.ms id gen sz off len) else
  ob (Vs h s sz (.ms id gen sz off len)) fun els=>some (.g (if gen=1 then .nsl else .sl sz els)):=by
 simp only [Ja]
 split
 ·rfl
 ·cases Vs h s sz (.ms id gen sz off len) <;> rfl
@[simp] theorem Z6z (h:List Blk) (s:St) (v:GV):H3 h s (.g v)=some (.g v):=by simp only [H3,Ja,AV.lt1,AV.lt0];rfl
@[simp] theorem Z4z (h:List Blk) (s:St) (cs:List AV):H3 h s (.agg cs)=ob (H2 h s cs) fun cs=>some (.agg cs):=by simp only [H3];cases H2 h s cs <;> rfl
@[simp] theorem Z6i (h:List Blk) (s:St) (a b c d e:Nat):H3 h s (.ms a b c d e)=Ja h s (.ms a b c d e):=by simp only [H3]
@[simp] theorem Z40 (v:AV):Zbm [v]=v:=rfl
@[simp] theorem Z41:Zbm [] = .tup []:=rfl
@[simp] theorem Z42 (a b:AV) (r:List AV):Zbm (a::b::r) = .tup (a::b::r):=rfl
def orI (k:IntKind) (a b:Int):Int:=k.wrap (BitVec.ofInt k.bits a ||| BitVec.ofInt k.bits b).toNat
def Ydi (k:IntKind) (a b:Int):Int:=k.wrap (BitVec.ofInt k.bits a &&& BitVec.ofInt k.bits b).toNat
def Ydj (k:IntKind) (a b:Int):Int:=k.wrap (BitVec.ofInt k.bits a ^^^ BitVec.ofInt k.bits b).toNat
def Z6j (k:IntKind) (a b:Int):Int:=k.wrap (BitVec.ofInt k.bits a &&& ~~~ BitVec.ofInt k.bits b).toNat
section
variable (k:IntKind) (a b:Int)
@[simp] theorem Z43:Uc .add (.g (.int k a)) (.g (.int k b))=some (.g (.int k (k.wrap (a+b)))):=by simp [Uc,Pu]
@[simp] theorem Z44:Uc .sub (.g (.int k a)) (.g (.int k b))=some (.g (.int k (k.wrap (a - b)))):=by simp [Uc,Pu]
@[simp] theorem Z45:Uc .eql (.g (.int k a)) (.g (.int k b))=some (.g (.bool (a==b))):=by simp [Uc,Pu]
@[simp] theorem Z46:Uc .neq (.g (.int k a)) (.g (.int k b))=some (.g (.bool (a != b))):=by simp [Uc,Pu]
@[simp] theorem Z47:Uc .lss (.g (.int k a)) (.g (.int k b))=some (.g (.bool (decide (a<b)))):=by simp [Uc,Pu]
@[simp] theorem Z48:Uc .leq (.g (.int k a)) (.g (.int k b))=some (.g (.bool (decide (a≤b)))):=by simp [Uc,Pu]
@[simp] theorem Z49:Uc .gtr (.g (.int k a)) (.g (.int k b))=some (.g (.bool (decide (b<a)))):=by simp [Uc,Pu]
@[simp] theorem Z5a:Uc .geq (.g (.int k a)) (.g (.int k b))=some (.g (.bool (decide (b≤a)))):=by simp [Uc,Pu]
end
section
variable (a b:List UInt8)
@[simp] theorem Z33:Uc .eql (.g (.str a)) (.g (.str b))=some (.g (.bool (a==b))):=by simp [Uc,J9]
@[simp] theorem Z34:Uc .neq (.g (.str a)) (.g (.str b))=some (.g (.bool (!(a==b)))):=by simp [Uc,J9]
@[simp] theorem Z35:Uc .lss (.g (.str a)) (.g (.str b))=some (.g (.bool (Op.bytesLess a b))):=by simp [Uc,J9]
@[simp] theorem Z36:Uc .leq (.g (.str a)) (.g (.str b))=some (.g (.bool (Op.bytesLess a b||a==b))):=by simp [Uc,J9]
@[simp] theorem Z37:Uc .gtr (.g (.str a)) (.g (.str b))=some (.g (.bool (!(Op.bytesLess a b||a==b)))):=by simp [Uc,J9]
@[simp] theorem Z38:Uc .geq (.g (.str a)) (.g (.str b))=some (.g (.bool (!(Op.bytesLess a b)))):=by simp [Uc,J9]
end
@[simp ↓] theorem Z5b (h:List Blk) (hd:List Nat) (s:St):fin h hd s none=none:=rfl
@[simp] theorem Z39 (h:List Blk) (t:List (Nat×AV)) (m:List (Nat×Blk)) (o:List Blk):Yp h ⟨t,m,o⟩ h.length=o[0]?:=by simp [Yp]
@[simp] theorem Zrs (h:List Blk) (t:List (Nat×AV)) (m:List (Nat×Blk)) (o:List Blk) (k:Nat):Yp h ⟨t,m,o⟩ (h.length+k)=o[k]?:=by
 have:¬h.length+k<h.length:=by omega
 simp [Yp,this]
@[simp] theorem Z4a (h:List Blk) (t:List (Nat×AV)) (m:List (Nat×Blk)) (o:List Blk) (b:Blk):setB h ⟨t,m,o⟩ h.length b=⟨t,m,o.set 0 b⟩:=by simp [setB]
@[simp] theorem Zrt (h:List Blk) (t:List (Nat×AV)) (m:List (Nat×Blk)) (o:List Blk) (k:Nat) (b:Blk):setB h ⟨t,m,o⟩ (h.length+k) b=⟨t,m,o.set k b⟩:=by
 have:¬h.length+k<h.length:=by omega
 simp [setB,this]
section
variable (h:List Blk) (s:St)
@[simp] theorem Z6k (sz:Nat) (els:List (List GV)):X4 h s (.g (.sl sz els))=some els.length:=by simp only [X4]
@[simp] theorem Z5c:X4 h s (.g .nsl)=some 0:=by simp only [X4]
@[simp] theorem Z6l (id g a b n:Nat):X4 h s (.ms id g a b n)=if cur h s id g=true then some n else none:=by simp only [X4]
@[simp] theorem Z5d (sz sz':Nat) (els:List (List GV)):Vs h s sz (.g (.sl sz' els))=if sz=sz' then some els else none:=by simp only [Vs]
@[simp] theorem Z4b (sz:Nat):Vs h s sz (.g .nsl)=some []:=by simp only [Vs]
@[simp] theorem Z5e (sz id g sz' off len:Nat):Vs h s sz (.ms id g sz' off len)=if sz=sz' then match Yp h s id with
   | some (.rows sz2 g' els)=>if g=g'∧sz2=sz∧off+len≤els.length then some ((els.drop off).take len) else none
   | some (.fro sz2 g' els)=>if g=g'∧sz2=sz∧off+len≤els.length then some ((els.drop off).take len) else none
   | _=>none
  else none:=by simp only [Vs];rfl
end
attribute [simp] cur Oc St.push St.next Xq isNil eqV eqL eqG sub AM.one
theorem wrap_i64 {n:Int} (h1 : -9223372036854775808≤n) (h2:n≤9223372036854775807):IntKind.i64.wrap n=n:=by
 simp [IntKind.wrap,IntKind.signed,IntKind.bits]
 split <;> omega
@[simp] theorem Z5f:IntKind.u64.bits=64:=rfl
@[simp] theorem Z5g:IntKind.i64.bits=64:=rfl
@[simp] theorem Z6m:IntKind.u8.bits=8:=rfl
end Go.AM
namespace Go.AM
open Go Go.RowKit Go.ChangeShapes Go.WideShapes
inductive GTy where
 | b
 | i (k:IntKind)
 | s
 | sl (n:Nat) (e:GTy)
 | u
 | p (a b:GTy)
 deriving Inhabited,DecidableEq
def Wi:GTy→List GV→Prop
 | .b,gs=>∃x,gs=[.bool x]
 | .i k,gs=>∃n,gs=[.int k n]∧k.min≤n∧n≤k.max
 | .s,gs=>∃s,gs=[.str s]∧s.length≤9223372036854775807
 | .sl n e,gs=>gs=[.nsl]∨∃els:List (List GV),gs=[.sl n els]∧els.length≤9223372036854775807∧∀el∈els,Wi e el
 | .u,gs=>gs=[]
 | .p a b,gs=>∃x y,gs=x++y∧Wi a x∧Wi b y
def Jk (D:TypeId→Option GTy):List (Nat×TypeId)→Option GTy
 | []=>some .u
 | (_,t)::r=>match D t,Jk D r with
  | some a,some b=>some (.p a b)
  | _,_=>none
def Ci (P:Program):Nat→TypeId→Option GTy
 | 0,_=>none
 | d+1,t=>match P.underlying t with
  | some .bool=>some .b
  | some (.int k)=>some (.i k)
  | some .string=>some .s
  | some (.slice e)=>match Ci P d e with
   | some x=>some (.sl (P.cellsOf e) x)
   | none=>none
  | some (.struct fs)=>if Rz P (Pb fs) 0 (P.cellsOf t)=true then Jk (Ci P d) (Pb fs) else none
  | some (.array n e)=>if Rz P (Oi P n e) 0 (P.cellsOf t)=true then Jk (Ci P d) (Oi P n e) else none
  | _=>none
theorem Z2g {P:Program} {D:TypeId→Option GTy} {Q:TypeId→List GV→Prop} (hD:∀t ty gs,D t=some ty→Q t gs→Wi ty gs) {gs:List GV} :
  ∀(ps:List (Nat×TypeId)) (off:Nat) (ty:GTy),Rz P ps off gs.length=true→Jk D ps=some ty→(∀p∈ps,Q p.2 ((gs.drop p.1).take (P.cellsOf p.2)))→Wi ty (gs.drop off)
 | [],off,ty,ht,hd,hq=>by
  simp [Rz] at ht
  simp only [Jk] at hd
  cases hd
  subst ht
  simp [Wi]
 | (o,t)::r,off,ty,ht,hd,hq=>by
  simp only [Rz,Bool.and_eq_true,decide_eq_true_eq] at ht
  obtain ⟨rfl,ht⟩:=ht
  simp only [Jk] at hd
  split at hd
  ·rename_i a b ha hb
   cases hd
   have h1:=hD t a _ ha (hq (o,t) (by simp))
   have h2:=Z2g hD r _ b ht hb (fun p hp=>hq p (by simp [hp]))
   simp only [Wi]
   refine ⟨_,_,?_,h1,h2⟩
   rw [←List.drop_drop]
   exact (List.take_append_drop _ _).symm
  ·cases hd
theorem Zjj {P:Program}:∀(d:Nat) (t:TypeId) (ty:GTy) (gs:List GV),Ci P d t=some ty→Rs P d t gs→Wi ty gs
 | 0,_,_,_,h,_=>by cases h
 | d+1,t,ty,gs,h,hg=>by
  simp only [Ci] at h
  simp only [Rs] at hg
  split at h
  ·rename_i hu;rw [hu] at hg;cases h;exact hg
  ·rename_i k hu
   rw [hu] at hg
   cases h
   obtain ⟨n,rfl,hw⟩:=hg
   simp only [Lit.wf,Bool.and_eq_true,decide_eq_true_eq] at hw
   exact ⟨n,rfl,hw.1,hw.2⟩
  ·rename_i hu;rw [hu] at hg;cases h;exact hg
  ·rename_i e hu
   rw [hu] at hg
   split at h
   ·rename_i x hx
    cases h
    rcases hg with rfl | ⟨els,rfl,hl,he⟩
    ·exact .inl rfl
    ·exact .inr ⟨els,rfl,hl,fun el hel=>Zjj d e x el hx (he el hel).2⟩
   ·cases h
  ·rename_i fs hu
   rw [hu] at hg
   split at h
   ·rename_i ht
    have:=Z2g (P:=P) (gs:=gs) (Q:=Rs P d) (fun t ty gs h1 h2=>Zjj d t ty gs h1 h2) (Pb fs) 0 ty (by rw [hg.1];exact ht) h hg.2
    simpa using this
   ·cases h
  ·rename_i n e hu
   rw [hu] at hg
   split at h
   ·rename_i ht
    have:=Z2g (P:=P) (gs:=gs) (Q:=Rs P d) (fun t ty gs h1 h2=>Zjj d t ty gs h1 h2) (Oi P n e) 0 ty (by rw [hg.1];exact ht) h hg.2
    simpa using this
   ·cases h
  ·cases h
def Ap (P:Program) (t:TypeId):Bool :=
 match P.underlying t with
 | some (.struct _) | some (.array _ _)=>true
 | _=>false
def avG (agg:Bool) (gs:List GV):AV:=if agg=true then .agg (gs.map .g) else oneG gs
def Zvy:List (Bool×GTy)→List (List GV)→List AV
 | (a,_)::ts,g::gs=>avG a g::Zvy ts gs
 | _,_=>[]
def Om:List (Bool×GTy)→List (List GV)→Prop
 | [],[]=>True
 | t::ts,g::gs=>Wi t.2 g∧Om ts gs
 | _,_=>False
def Fl (P:Program) (d:Nat):List TypeId→Option (List (Bool×GTy))
 | []=>some []
 | t::ts=>match Ci P d t,Fl P d ts with
  | some a,some r=>some ((Ap P t,a)::r)
  | _,_=>none
theorem Zvz (P:Program) (t:TypeId) (gs:List GV):avT P t gs=avG (Ap P t) gs:=by
 cases hu:P.underlying t with
 | none=>simp [avT,avG,Ap,hu]
 | some d=>cases d <;> simp [avT,avG,Ap,hu]
theorem Zru {P:Program} {d:Nat}:∀(ts:List TypeId) (tys:List (Bool×GTy)) (gss:List (List GV)),Fl P d ts=some tys→Rh P d ts gss→Om tys gss∧avs P ts gss=Zvy tys gss
 | [],tys,gss,h,hg=>by
  simp only [Fl] at h
  cases h
  obtain rfl:=hg.nil_inv
  exact ⟨trivial,rfl⟩
 | t::ts,tys,gss,h,hg=>by
  obtain ⟨g,gs,rfl,h1,h2⟩:=hg.cons_inv
  simp only [Fl] at h
  split at h
  ·rename_i a r ha hr
   cases h
   obtain ⟨k1,k2⟩:=Zru ts r gs hr h2
   exact ⟨⟨Zjj d t a g ha h1,k1⟩,by simp only [avs,Zvy,k2,Zvz]⟩
  ·cases h
theorem Zv0 {T:Tab} {P:Program} {f:FuncId} {d:Nat} {ts:List TypeId} {tys:List (Bool×GTy)} (h:Fl P d ts=some tys)
  (spec:∀gss,Om tys gss→EvF T f (Zvy tys gss) []=some ⟨.g (.bool true),[],[]⟩) :
  ∀gss,Rh P d ts gss→EvF T f (avs P ts gss) []=some ⟨.g (.bool true),[],[]⟩:=fun gss hg=>by
 obtain ⟨k1,k2⟩:=Zru ts tys gss h hg
 rw [k2]
 exact spec gss k1
theorem Om.cons_inv {t:Bool×GTy} {ts:List (Bool×GTy)} {gss:List (List GV)} (h:Om (t::ts) gss):∃g gs,gss=g::gs∧Wi t.2 g∧Om ts gs:=by
 cases gss with
 | nil=>exact h.elim
 | cons g gs=>exact ⟨g,gs,rfl,h.1,h.2⟩
theorem Om.nil_inv {gss:List (List GV)} (h:Om [] gss):gss=[]:=by
 cases gss with
 | nil=>rfl
 | cons g gs=>exact h.elim
inductive Sl (α:Type) where
 | nil
 | of (l:List α)
def Sl.l {α:Type}:Sl α→List α
 | .nil=>[]
 | .of l=>l
def Sl.g {α:Type} (n:Nat) (c:α→List GV):Sl α→GV
 | .nil => .nsl
 | .of l => .sl n (l.map c)
@[simp] theorem Sl.g_nil {α:Type} (n:Nat) (c:α→List GV):(Sl.nil:Sl α).g n c = .nsl:=rfl
@[simp] theorem Sl.g_of {α:Type} (n:Nat) (c:α→List GV) (l:List α):(Sl.of l).g n c = .sl n (l.map c):=rfl
@[simp] theorem Xa {α:Type} (h:List Blk) (st:St) (n:Nat) (c:α→List GV) (s:Sl α):X4 h st (.g (s.g n c))=some s.l.length:=by cases s <;> simp [X4,Sl.g,Sl.l]
@[simp] theorem M3 {α:Type} (h:List Blk) (st:St) (n:Nat) (c:α→List GV) (s:Sl α):Vs h st n (.g (s.g n c))=some (s.l.map c):=by cases s <;> simp [Vs,Sl.g,Sl.l]
@[simp] theorem Sl.l_nil {α:Type}:(Sl.nil:Sl α).l=[]:=rfl
@[simp] theorem Sl.l_of {α:Type} (l:List α):(Sl.of l).l=l:=rfl
theorem Sl.both {α:Type} {a b:Sl α} (h:a.l=b.l):∃l,(a = .of l∧b = .of l)∨(a = .nil∧b = .nil∧l=[])∨(a = .nil∧b = .of []∧l=[])∨(a = .of []∧b = .nil∧l=[]):=by
 cases a with
 | nil=>cases b with
  | nil=>exact ⟨[],.inr (.inl ⟨rfl,rfl,rfl⟩)⟩
  | of l=>simp at h;subst h;exact ⟨[],.inr (.inr (.inl ⟨rfl,rfl,rfl⟩))⟩
 | of l=>cases b with
  | nil=>simp at h;subst h;exact ⟨[],.inr (.inr (.inr ⟨rfl,rfl,rfl⟩))⟩
  | of l'=>simp at h;subst h;exact ⟨l,.inl ⟨rfl,rfl⟩⟩
theorem Zcp {α:Type} {C:α→List GV} {W:α→Prop} {Q:List GV→Prop} (he:∀gs,Q gs→∃x,W x∧gs=C x):∀(els:List (List GV)),(∀el∈els,Q el)→∃l:List α,els=l.map C∧∀x∈l,W x
 | [],_=>⟨[],rfl,fun x hx=>by cases hx⟩
 | el::els,h=>by
  obtain ⟨x,k1,rfl⟩:=he el (h el (by simp))
  obtain ⟨l,rfl,k2⟩:=Zcp he els (fun el hel=>h el (by simp [hel]))
  exact ⟨x::l,rfl,fun y hy=>by rcases List.mem_cons.1 hy with rfl | hy;exact k1;exact k2 y hy⟩
theorem Wi.sl_inv {α:Type} {C:α→List GV} {W:α→Prop} {n:Nat} {e:GTy} (he:∀gs,Wi e gs→∃x,W x∧gs=C x) {gs:List GV} (h:Wi (.sl n e) gs) :
  ∃s:Sl α,(∀x∈s.l,W x)∧s.l.length≤9223372036854775807∧gs=[s.g n C]:=by
 rcases h with rfl | ⟨els,rfl,hl,hel⟩
 ·exact ⟨.nil,fun x hx=>(by simp at hx),by simp,rfl⟩
 ·obtain ⟨l,rfl,k⟩:=Zcp he els hel
  exact ⟨.of l,k,by simpa using hl,rfl⟩
def I64 (n:Int):Prop := -9223372036854775808≤n∧n≤9223372036854775807
end Go.AM
namespace Go.AM
open Go
abbrev Bs:=List UInt8
def S64 (s:Bs):Prop:=s.length≤9223372036854775807
structure KV where
 key:Bs
 value:Bs
 create:Int
 mod:Int
 version:Int
 lease:Int
 deriving DecidableEq,Inhabited
def KV.c (x:KV):List GV:=[.str x.key,.str x.value,.int .i64 x.create,.int .i64 x.mod,.int .i64 x.version,.int .i64 x.lease]
def KV.wf (x:KV):Prop:=S64 x.key∧S64 x.value∧I64 x.create∧I64 x.mod∧I64 x.version∧I64 x.lease
abbrev tKV:GTy := .p .s (.p .s (.p (.i .i64) (.p (.i .i64) (.p (.i .i64) (.p (.i .i64) .u)))))
theorem KV.inv {gs:List GV} (h:Wi tKV gs):∃x:KV,x.wf∧gs=x.c:=by
 obtain ⟨_,_,rfl,⟨a,rfl,ha⟩,_,_,rfl,⟨b,rfl,hb⟩,_,_,rfl,⟨c,rfl,hc⟩,_,_,rfl,⟨d,rfl,hd⟩,_,_,rfl,⟨e,rfl,he⟩,_,_,rfl,⟨f,rfl,hf⟩,rfl⟩:=h
 exact ⟨⟨a,b,c,d,e,f⟩,⟨ha,hb,hc,hd,he,hf⟩,rfl⟩
structure Ev where
 rev:Int
 gone:Bool
 kv:KV
 deriving DecidableEq,Inhabited
def Ev.c (x:Ev):List GV:=[.int .i64 x.rev,.bool x.gone,.str x.kv.key,.str x.kv.value,.int .i64 x.kv.create,.int .i64 x.kv.mod,.int .i64 x.kv.version,.int .i64 x.kv.lease]
def Ev.wf (x:Ev):Prop:=I64 x.rev∧x.kv.wf
abbrev tEv:GTy := .p (.i .i64) (.p .b (.p tKV .u))
theorem Ev.inv {gs:List GV} (h:Wi tEv gs):∃x:Ev,x.wf∧gs=x.c:=by
 obtain ⟨_,_,rfl,⟨a,rfl,ha⟩,_,_,rfl,⟨b,rfl⟩,_,_,rfl,hc,rfl⟩:=h
 obtain ⟨x,hx,rfl⟩:=KV.inv hc
 exact ⟨⟨a,b,x⟩,⟨ha,hx⟩,by simp [Ev.c,KV.c]⟩
structure Cmp where
 key:Bs
 what:Int
 how:Int
 n:Int
 value:Bs
 deriving DecidableEq,Inhabited
def Cmp.c (x:Cmp):List GV:=[.str x.key,.int .i64 x.what,.int .i64 x.how,.int .i64 x.n,.str x.value]
def Cmp.wf (x:Cmp):Prop:=S64 x.key∧I64 x.what∧I64 x.how∧I64 x.n∧S64 x.value
abbrev Z2h:GTy := .p .s (.p (.i .i64) (.p (.i .i64) (.p (.i .i64) (.p .s .u))))
theorem Cmp.inv {gs:List GV} (h:Wi Z2h gs):∃x:Cmp,x.wf∧gs=x.c:=by
 obtain ⟨_,_,rfl,⟨a,rfl,ha⟩,_,_,rfl,⟨b,rfl,hb⟩,_,_,rfl,⟨c,rfl,hc⟩,_,_,rfl,⟨d,rfl,hd⟩,_,_,rfl,⟨e,rfl,he⟩,rfl⟩:=h
 exact ⟨⟨a,b,c,d,e⟩,⟨ha,hb,hc,hd,he⟩,rfl⟩
structure Mut where
 gone:Bool
 key:Bs
 value:Bs
 lease:Int
 deriving DecidableEq,Inhabited
def Mut.c (x:Mut):List GV:=[.bool x.gone,.str x.key,.str x.value,.int .i64 x.lease]
def Mut.wf (x:Mut):Prop:=S64 x.key∧S64 x.value∧I64 x.lease
abbrev Zv1:GTy := .p .b (.p .s (.p .s (.p (.i .i64) .u)))
theorem Mut.inv {gs:List GV} (h:Wi Zv1 gs):∃x:Mut,x.wf∧gs=x.c:=by
 obtain ⟨_,_,rfl,⟨a,rfl⟩,_,_,rfl,⟨b,rfl,hb⟩,_,_,rfl,⟨c,rfl,hc⟩,_,_,rfl,⟨d,rfl,hd⟩,rfl⟩:=h
 exact ⟨⟨a,b,c,d⟩,⟨hb,hc,hd⟩,rfl⟩
abbrev KVs:=Sl KV
abbrev Evs:=Sl Ev
abbrev KVs.g (s:KVs):GV:=Sl.g 6 KV.c s
abbrev Evs.g (s:Evs):GV:=Sl.g 8 Ev.c s
abbrev Cmps.g (s:Sl Cmp):GV:=Sl.g 5 Cmp.c s
abbrev Muts.g (s:Sl Mut):GV:=Sl.g 4 Mut.c s
structure Zj where
 code:Int
 who:Int
 seq:Int
 rev:Int
 lease:Int
 ttl:Int
 yes:Bool
 kvs:KVs
 events:Evs
def Zj.c (x:Zj):List GV:=[.int .i64 x.code,.int .i64 x.who,.int .i64 x.seq,.int .i64 x.rev,.int .i64 x.lease,.int .i64 x.ttl,.bool x.yes,x.kvs.g,x.events.g]
def Zj.wf (x:Zj):Prop:=I64 x.code∧I64 x.who∧I64 x.seq∧I64 x.rev∧I64 x.lease∧I64 x.ttl∧((∀y∈x.kvs.l,y.wf)∧x.kvs.l.length≤9223372036854775807)∧((∀y∈x.events.l,y.wf)∧x.events.l.length≤9223372036854775807)
abbrev Zrv:GTy := .p (.i .i64) (.p (.i .i64) (.p (.i .i64) (.p (.i .i64) (.p (.i .i64) (.p (.i .i64) (.p .b (.p (.sl 6 tKV) (.p (.sl 8 tEv) .u))))))))
theorem Zj.inv {gs:List GV} (h:Wi Zrv gs):∃x:Zj,x.wf∧gs=x.c:=by
 obtain ⟨_,_,rfl,⟨a,rfl,ha⟩,_,_,rfl,⟨b,rfl,hb⟩,_,_,rfl,⟨c,rfl,hc⟩,_,_,rfl,⟨d,rfl,hd⟩,_,_,rfl,⟨e,rfl,he⟩,_,_,rfl,⟨f,rfl,hf⟩,_,_,rfl,⟨y,rfl⟩,_,_,rfl,hk,_,_,rfl,hv,rfl⟩:=h
 obtain ⟨k,k1,k2,rfl⟩:=hk.sl_inv (fun _=>KV.inv)
 obtain ⟨v,v1,v2,rfl⟩:=hv.sl_inv (fun _=>Ev.inv)
 exact ⟨⟨a,b,c,d,e,f,y,k,v⟩,⟨ha,hb,hc,hd,he,hf,⟨k1,k2⟩,⟨v1,v2⟩⟩,rfl⟩
structure Req where
 kind:Int
 who:Int
 seq:Int
 once:Bool
 key:Bs
 value:Bs
 lease:Int
 rev:Int
 ttl:Int
 token:Int
 iff:Sl Cmp
 thn:Sl Mut
 els:Sl Mut
def Req.c (x:Req):List GV:=[.int .i64 x.kind,.int .i64 x.who,.int .i64 x.seq,.bool x.once,.str x.key,.str x.value,.int .i64 x.lease,.int .i64 x.rev,.int .i64 x.ttl,.int .i64 x.token,Cmps.g x.iff,Muts.g x.thn,Muts.g x.els]
def Req.wf (x:Req):Prop:=I64 x.kind∧I64 x.who∧I64 x.seq∧S64 x.key∧S64 x.value∧I64 x.lease∧I64 x.rev∧I64 x.ttl∧I64 x.token∧((∀y∈x.iff.l,y.wf)∧x.iff.l.length≤9223372036854775807)∧((∀y∈x.thn.l,y.wf)∧x.thn.l.length≤9223372036854775807)∧((∀y∈x.els.l,y.wf)∧x.els.l.length≤9223372036854775807)
abbrev Z5h:GTy := .p (.sl 5 Z2h) (.p (.sl 4 Zv1) (.p (.sl 4 Zv1) .u))
abbrev Z5i:GTy := .p (.i .i64) (.p (.i .i64) (.p (.i .i64) (.p .b (.p .s (.p .s (.p (.i .i64) (.p (.i .i64) (.p (.i .i64) (.p (.i .i64) (.p Z5h .u))))))))))
theorem Req.inv {gs:List GV} (h:Wi Z5i gs):∃x:Req,x.wf∧gs=x.c:=by
 obtain ⟨_,_,rfl,⟨a,rfl,ha⟩,_,_,rfl,⟨b,rfl,hb⟩,_,_,rfl,⟨c,rfl,hc⟩,_,_,rfl,⟨d,rfl⟩,_,_,rfl,⟨e,rfl,he⟩,_,_,rfl,⟨f,rfl,hf⟩,_,_,rfl,⟨i,rfl,hi⟩,_,_,rfl,⟨j,rfl,hj⟩,_,_,rfl,⟨k,rfl,hk⟩,_,_,rfl,⟨l,rfl,hl⟩,_,_,rfl,⟨_,_,rfl,h1,_,_,rfl,h2,_,_,rfl,h3,rfl⟩,rfl⟩:=h
 obtain ⟨p,p1,p2,rfl⟩:=h1.sl_inv (fun _=>Cmp.inv)
 obtain ⟨q,q1,q2,rfl⟩:=h2.sl_inv (fun _=>Mut.inv)
 obtain ⟨r,r1,r2,rfl⟩:=h3.sl_inv (fun _=>Mut.inv)
 exact ⟨⟨a,b,c,d,e,f,i,j,k,l,p,q,r⟩,⟨ha,hb,hc,he,hf,hi,hj,hk,hl,⟨p1,p2⟩,⟨q1,q2⟩,⟨r1,r2⟩⟩,rfl⟩
structure Zm8 where
 lease:Int
 ttl:Int
 till:Int
 keep:Int
 deriving DecidableEq,Inhabited
def Zm8.c (x:Zm8):List GV:=[.int .i64 x.lease,.int .i64 x.ttl,.int .i64 x.till,.int .i64 x.keep]
def Zm8.wf (x:Zm8):Prop:=I64 x.lease∧I64 x.ttl∧I64 x.till∧I64 x.keep
abbrev Z5j:GTy := .p (.i .i64) (.p (.i .i64) (.p (.i .i64) (.p (.i .i64) .u)))
theorem Zm8.inv {gs:List GV} (h:Wi Z5j gs):∃x:Zm8,x.wf∧gs=x.c:=by
 obtain ⟨_,_,rfl,⟨a,rfl,ha⟩,_,_,rfl,⟨b,rfl,hb⟩,_,_,rfl,⟨c,rfl,hc⟩,_,_,rfl,⟨d,rfl,hd⟩,rfl⟩:=h
 exact ⟨⟨a,b,c,d⟩,⟨ha,hb,hc,hd⟩,rfl⟩
def Ints.c (n:Int):List GV:=[.int .i64 n]
abbrev Ints.g (s:Sl Int):GV:=Sl.g 1 Ints.c s
structure Zu where
 id:Int
 ttl:Int
 till:Int
 deriving DecidableEq,Inhabited
def Zu.c (x:Zu):List GV:=[.int .i64 x.id,.int .i64 x.ttl,.int .i64 x.till]
def Zu.wf (x:Zu):Prop:=I64 x.id∧I64 x.ttl∧I64 x.till
abbrev Zrw:GTy := .p (.i .i64) (.p (.i .i64) (.p (.i .i64) .u))
theorem Zu.inv {gs:List GV} (h:Wi Zrw gs):∃x:Zu,x.wf∧gs=x.c:=by
 obtain ⟨_,_,rfl,⟨a,rfl,ha⟩,_,_,rfl,⟨b,rfl,hb⟩,_,_,rfl,⟨c,rfl,hc⟩,rfl⟩:=h
 exact ⟨⟨a,b,c⟩,⟨ha,hb,hc⟩,rfl⟩
abbrev LeaseL.g (s:Sl Zu):GV:=Sl.g 3 Zu.c s
structure Zk where
 next:Int
 l:Sl Zu
def Zk.c (x:Zk):List GV:=[.int .i64 x.next,LeaseL.g x.l]
def Zk.wf (x:Zk):Prop:=I64 x.next∧(∀y∈x.l.l,y.wf)∧x.l.l.length≤9223372036854775807
abbrev Zjk:GTy := .p (.i .i64) (.p (.sl 3 Zrw) .u)
theorem Zk.inv {gs:List GV} (h:Wi Zjk gs):∃x:Zk,x.wf∧gs=x.c:=by
 obtain ⟨_,_,rfl,⟨a,rfl,ha⟩,_,_,rfl,hk,rfl⟩:=h
 obtain ⟨k,k1,k2,rfl⟩:=hk.sl_inv (fun _=>Zu.inv)
 exact ⟨⟨a,k⟩,⟨ha,k1,k2⟩,rfl⟩
theorem KVs.inv {gs:List GV} (h:Wi (.sl 6 tKV) gs):∃s:KVs,((∀y∈s.l,y.wf)∧s.l.length≤9223372036854775807)∧gs=[KVs.g s]:=by
 obtain ⟨k,k1,k2,rfl⟩:=h.sl_inv (fun _=>KV.inv)
 exact ⟨k,⟨k1,k2⟩,rfl⟩
def I2.c (x:Int×Int):List GV:=[.int .i64 x.1,.int .i64 x.2]
structure Call where
 on:Bool
 req:Req
 sent:Int
 next:Int
 tries:Int
def Call.c (x:Call):List GV := .bool x.on::(x.req.c++[.int .i64 x.sent,.int .i64 x.next,.int .i64 x.tries])
def Call.wf (x:Call):Prop:=x.req.wf∧I64 x.sent∧I64 x.next∧I64 x.tries
abbrev Z5k:GTy := .p .b (.p Z5i (.p (.i .i64) (.p (.i .i64) (.p (.i .i64) .u))))
theorem Call.inv {gs:List GV} (h:Wi Z5k gs):∃x:Call,x.wf∧gs=x.c:=by
 obtain ⟨_,_,rfl,⟨a,rfl⟩,_,_,rfl,hr,_,_,rfl,⟨b,rfl,hb⟩,_,_,rfl,⟨c,rfl,hc⟩,_,_,rfl,⟨d,rfl,hd⟩,rfl⟩:=h
 obtain ⟨r,hw,rfl⟩:=Req.inv hr
 exact ⟨⟨a,r,b,c,d⟩,⟨hw,hb,hc,hd⟩,by simp [Call.c]⟩
def A (gs:List GV):AV := .agg (gs.map .g)
abbrev I (n:Int):AV := .g (.int .i64 n)
abbrev U (n:Int):AV := .g (.int .u64 n)
abbrev B (b:Bool):AV := .g (.bool b)
abbrev T (s:Bs):AV := .g (.str s)
theorem On (E:FnS) (h:List Blk) (c:IC) (lv:List Nat) (s s':St) (hs:kpN lv (Zo E h c s)=some (.normal,s')):Ya E h c lv s=Ya E h c lv s':=by
 rw [Fj]
 rcases hq:Zo E h c s with _ | ⟨e,t⟩
 ·rw [hq] at hs;cases hs
 ·rw [hq] at hs
  cases e
  ·simp only [N6,Option.some.injEq,Prod.mk.injEq,true_and] at hs
   rw [Ch,hs]
  ·simp only [Zb2,Option.some.injEq,Prod.mk.injEq] at hs
   cases hs.1
  ·simp only [Zjd,Option.some.injEq,Prod.mk.injEq] at hs
   cases hs.1
theorem Wp (E:FnS) (h:List Blk) (c:IC) (lv:List Nat) (s:St) (r:Ex×St) (hr:r.1 ≠ .normal) (hs:kpN lv (Zo E h c s)=some r):Ya E h c lv s=some r:=by
 rw [Fj]
 rcases hq:Zo E h c s with _ | ⟨e,t⟩
 ·rw [hq] at hs;cases hs
 ·rw [hq] at hs
  cases e
  ·simp only [N6,Option.some.injEq] at hs
   subst hs
   exact absurd rfl hr
  ·rw [Zjc];exact hs
  ·rw [Zqq];exact hs
def Z7 {α:Type} (p:α→Bool) (l:List α):Bool:=l.all p
@[simp] theorem Z5l {α:Type} (p:α→Bool):Z7 p []=true:=rfl
theorem S7 {α:Type} (p:α→Bool) (x:α) (l:List α):Z7 p (x::l)=(p x&&Z7 p l):=rfl
theorem Fo {α:Type} {p:α→Bool} {l:List α}:Z7 p l=true↔∀x∈l,p x=true:=by simp [Z7]
section
variable {E:FnS} {h:List Blk} {c:IC} {lv:List Nat} {α:Type}
theorem Zrx {l:List α} (p:α→Bool) (S:Nat→St) (fin bad:Ex×St) (hfin:fin.1 ≠ .normal) (hbad:bad.1 ≠ .normal)
  (hstep:∀k x (hk:k<l.length),l[k]? = some x→l[k]=x→kpN lv (Zo E h c (S k))=if p x=true then some (.normal,S (k+1)) else some bad)
  (hend:kpN lv (Zo E h c (S l.length))=some fin) (d:Nat):∀k,l.length - k=d→k≤l.length→Ya E h c lv (S k)=some (if Z7 p (l.drop k)=true then fin else bad):=by
 induction d with
 | zero =>
  intro k hd hk
  have:k=l.length:=by omega
  subst this
  rw [Wp E h c lv _ fin hfin hend]
  simp
 | succ d ih =>
  intro k hd hk
  have hlt:k<l.length:=by omega
  have h1:=hstep k l[k] hlt (List.getElem?_eq_getElem hlt) rfl
  rw [List.drop_eq_getElem_cons hlt]
  by_cases hp:p l[k]=true
  ·rw [if_pos hp] at h1
   rw [On E h c lv _ _ h1,ih (k+1) (by omega) (by omega),S7,hp,Bool.true_and]
  ·rw [if_neg hp] at h1
   rw [Wp E h c lv _ bad hbad h1,S7,Bool.eq_false_iff.2 hp,Bool.false_and]
   simp
theorem Y4 {l:List α} (p:α→Bool) (S:Nat→St) (fin bad:Ex×St) (hfin:fin.1 ≠ .normal) (hbad:bad.1 ≠ .normal)
  (hstep:∀k x (hk:k<l.length),l[k]? = some x→l[k]=x→kpN lv (Zo E h c (S k))=if p x=true then some (.normal,S (k+1)) else some bad)
  (hend:kpN lv (Zo E h c (S l.length))=some fin):Ya E h c lv (S 0)=some (if Z7 p l=true then fin else bad):=by
 have:=Zrx p S fin bad hfin hbad hstep hend l.length 0 (by omega) (by omega)
 simpa using this
def P4 {β:Type} (step:Nat→α→β→β⊕(Ex×St)):Nat→List α→β→β⊕(Ex×St)
 | _,[],b => .inl b
 | k,x::l,b=>match step k x b with
  | .inl b'=>P4 step (k+1) l b'
  | .inr r => .inr r
def N7 {β:Type} (fin:β→Ex×St):β⊕(Ex×St)→Ex×St
 | .inl b=>fin b
 | .inr r=>r
theorem Oo {β:Type} {l:List α} (Inv:Nat→β→Prop) (step:Nat→α→β→β⊕(Ex×St)) (S:Nat→β→St) (fin:β→Ex×St) (hfin:∀b,(fin b).1 ≠ .normal)
  (hstep:∀k x b (hk:k<l.length),l[k]? = some x→l[k]=x→Inv k b→match step k x b with
   | .inl b'=>Inv (k+1) b'∧kpN lv (Zo E h c (S k b))=some (.normal,S (k+1) b')
   | .inr r=>r.1 ≠ .normal∧kpN lv (Zo E h c (S k b))=some r)
  (hend:∀b,Inv l.length b→kpN lv (Zo E h c (S l.length b))=some (fin b)) (d:Nat):∀k b,l.length - k=d→k≤l.length→Inv k b →
   Ya E h c lv (S k b)=some (N7 fin (P4 step k (l.drop k) b)):=by
 induction d with
 | zero =>
  intro k b hd hk hi
  have:k=l.length:=by omega
  subst this
  rw [Wp E h c lv _ _ (hfin b) (hend b hi)]
  simp [P4,N7]
 | succ d ih =>
  intro k b hd hk hi
  have hlt:k<l.length:=by omega
  have h1:=hstep k l[k] b hlt (List.getElem?_eq_getElem hlt) rfl hi
  rw [List.drop_eq_getElem_cons hlt]
  simp only [P4]
  split at h1
  ·rename_i b' hb
   rw [On E h c lv _ _ h1.2,ih (k+1) b' (by omega) (by omega) h1.1]
  ·rename_i r hb
   rw [Wp E h c lv _ r h1.1 h1.2];rfl
def Ym {β γ:Type} (step:Nat→α→β→β⊕γ):Nat→List α→β→β⊕γ
 | _,[],b => .inl b
 | k,x::l,b=>match step k x b with
  | .inl b'=>Ym step (k+1) l b'
  | .inr r => .inr r
def Wj {β γ:Type} (fin:β→List Blk→Ex×St) (out:γ→List Blk→Ex×St) (o:List Blk):β⊕γ→Ex×St
 | .inl b=>fin b o
 | .inr g=>out g o
theorem Zt {β γ:Type} {l:List α} (Inv:Nat→β→Prop) (step:Nat→α→β→β⊕γ) (S:Nat→β→List Blk→St) (fin:β→List Blk→Ex×St) (out:γ→List Blk→Ex×St)
  (hfin:∀b o,(fin b o).1 ≠ .normal) (hout:∀g o,(out g o).1 ≠ .normal)
  (hstep:∀k x b o (hk:k<l.length),l[k]? = some x→l[k]=x→Inv k b→match step k x b with
   | .inl b'=>Inv (k+1) b'∧∃o',kpN lv (Zo E h c (S k b o))=some (.normal,S (k+1) b' o')
   | .inr g=>∃o',kpN lv (Zo E h c (S k b o))=some (out g o'))
  (hend:∀b o,Inv l.length b→kpN lv (Zo E h c (S l.length b o))=some (fin b o)) (b:β) (o:List Blk) (hb:Inv 0 b) :
   ∃o',Ya E h c lv (S 0 b o)=some (Wj fin out o' (Ym step 0 l b)):=by
 have key:∀d k b o,l.length - k=d→k≤l.length→Inv k b→∃o',Ya E h c lv (S k b o)=some (Wj fin out o' (Ym step k (l.drop k) b)):=by
  intro d
  induction d with
  | zero =>
   intro k b o hd hk hi
   have:k=l.length:=by omega
   subst this
   refine ⟨o,?_⟩
   rw [Wp E h c lv _ _ (hfin b o) (hend b o hi)]
   simp [Ym,Wj]
  | succ d ih =>
   intro k b o hd hk hi
   have hlt:k<l.length:=by omega
   have h1:=hstep k l[k] b o hlt (List.getElem?_eq_getElem hlt) rfl hi
   rw [List.drop_eq_getElem_cons hlt]
   simp only [Ym]
   split at h1
   ·rename_i b' hb'
    obtain ⟨h2,o',h3⟩:=h1
    obtain ⟨o2,h4⟩:=ih (k+1) b' o' (by omega) (by omega) h2
    exact ⟨o2,by rw [On E h c lv _ _ h3,h4]⟩
   ·rename_i g hg
    obtain ⟨o',h3⟩:=h1
    exact ⟨o',by rw [Wp E h c lv _ _ (hout g o') h3];rfl⟩
 have:=key l.length 0 b o (by omega) (by omega) hb
 simpa using this
theorem Cj {β:Type} {l:List α} (Inv:Nat→β→Prop) (f:β→α→β) (S:Nat→β→St) (fin:β→Ex×St) (hfin:∀b,(fin b).1 ≠ .normal)
  (hstep:∀k x b (hk:k<l.length),l[k]? = some x→l[k]=x→Inv k b→Inv (k+1) (f b x)∧kpN lv (Zo E h c (S k b))=some (.normal,S (k+1) (f b x)))
  (hend:∀b,Inv l.length b→kpN lv (Zo E h c (S l.length b))=some (fin b)) (b:β) (hb:Inv 0 b) :
   Ya E h c lv (S 0 b)=some (fin (l.foldl f b)):=by
 have:=Oo (l:=l) (lv:=lv) (c:=c) (E:=E) (h:=h) Inv (fun k x b => .inl (f b x)) S fin hfin hstep hend l.length 0 b (by omega) (by omega) hb
 rw [this]
 have key:∀(l:List α) k b,P4 (fun k x b=>(.inl (f b x):β⊕(Ex×St))) k l b = .inl (l.foldl f b):=by
  intro l
  induction l with
  | nil=>intro k b;rfl
  | cons x l ih=>intro k b;simp only [P4,ih,List.foldl_cons]
 simp [key,N7]
theorem Oq (n:Nat) (S:Nat→St) (fin:Ex×St) (hfin:fin.1 ≠ .normal) (hstep:∀k,k<n→kpN lv (Zo E h c (S k))=some (.normal,S (k+1)))
  (hend:kpN lv (Zo E h c (S n))=some fin):Ya E h c lv (S 0)=some fin:=by
 have key:∀d k,n - k=d→k≤n→Ya E h c lv (S k)=some fin:=by
  intro d
  induction d with
  | zero =>
   intro k hd hk
   have:k=n:=by omega
   subst this
   exact Wp E h c lv _ fin hfin hend
  | succ d ih =>
   intro k hd hk
   rw [On E h c lv _ _ (hstep k (by omega)),ih (k+1) (by omega) (by omega)]
 exact key n 0 (by omega) (by omega)
end
theorem Zm9 (s:St) (cs:List AV):Ur s cs []=some cs:=by simp only [Ur]
theorem Zgv (s:St) (cs:List AV) (off n:Nat) (x:Opd) (r:List (Nat×Nat×Opd)):Ur s cs ((off,n,x)::r)=ob (val s x) fun v=>ob v.cellsO fun vs=>ob (Ha cs off n vs) fun cs'=>Ur s cs' r:=by
 simp only [Ur]
 rcases val s x with _ | v
 ·rfl
 ·simp only [ob]
  rcases v.cellsO with _ | vs
  ·rfl
  ·simp only;cases Ha cs off n vs <;> rfl
attribute [simp] Yc Uk Zm9 Zgv Ha AV.cells Pv mx2 mn2
theorem Zh {k n:Nat} (h:k<n) (hn:n≤9223372036854775807):IntKind.i64.wrap ((k:Int)+1)=(k:Int)+1:=by rw [wrap_i64 (by omega) (by omega)]
noncomputable def Zv2 (x y:Option St):Option St :=
 match x,y with
 | some a,some b=>open Classical in if a=b then some a else none
 | _,_=>none
theorem Zna (a:St):Zv2 (some a) (some a)=some a:=by unfold Zv2;simp
theorem Znb (x:Option St):Zv2 x x=x:=by
 cases x with
 | none=>rfl
 | some a=>exact Zna a
section
variable (E:FnS) (h:List Blk) (nb:Nat) (lv hd:List Nat) (s:St)
theorem Zcq (o:Z0) (t:Vv):Yo E h nb lv hd (.take o t) s=ob (Ul h s o) fun p=>Yo E h nb lv (p.2++hd) t p.1:=by
 simp only [Yo];rcases Ul h s o with _ | ⟨a,b⟩ <;> rfl
theorem Zcr:Yo E h nb lv hd .leaf s=if (hd.all (Zq (full h s)))=true then Z4 E h nb lv hd .leaf s else none:=by simp only [Yo]
theorem Zgw (o:Z0) (t:Vv):Yo E h nb lv hd (.one o t) s=if (hd.all (Zq (full h s)))=true then Z4 E h nb lv hd (.one o t) s else none:=by simp only [Yo]
theorem Zgx (o:Z0) (t r:Vv):Yo E h nb lv hd (.alt o t r) s=if (hd.all (Zq (full h s)))=true then Z4 E h nb lv hd (.alt o t r) s else none:=by simp only [Yo]
theorem Zcs (t:Vv):Yo E h nb lv hd (.free t) s=if (hd.all (Zq (full h s)))=true then Z4 E h nb lv [] t s else none:=by simp only [Yo,Z4]
theorem Zct:Z4 E h nb lv hd .leaf s=some (s.kp lv):=by simp only [Z4]
theorem Zcu (t:Vv):Z4 E h nb lv hd (.free t) s=Z4 E h nb lv [] t s:=by simp only [Z4]
theorem Zcv (o:Z0) (t:Vv):Z4 E h nb lv hd (.take o t) s=if Zlv s hd o=true then ob (Ul h s o) fun p=>Z4 E h nb lv hd t p.1 else none:=by
 simp only [Z4]
 split
 ·rename_i h1
  split at h1
  ·rename_i hl;rw [if_pos hl,h1];rfl
  ·cases h1
 ·rename_i h1
  split at h1
  ·rename_i hl;rw [if_pos hl,h1];rfl
  ·rename_i hl;rw [if_neg hl]
theorem Zcw (ts:List Nat) (t:Vv):Yo E h nb lv hd (.hold ts t) s=Yo E h nb lv (T7 s ts++hd) t s:=by simp only [Yo]
def X5:Option AV→List Nat→List Nat
 | some (.ptr id _),l=>id::l
 | _,l=>l
theorem Zcx (id o:Nat) (l:List Nat):X5 (some (.ptr id o)) l=id::l:=rfl
theorem Zcy:T7 s []=[]:=by simp only [T7]
theorem Aq (t:Nat) (r:List Nat):T7 s (t::r)=X5 (look s.t t) (T7 s r):=by
 simp only [T7]
 rcases look s.t t with _ | v
 ·rfl
 ·cases v <;> rfl
def ldP:Option AV→List Nat→Bool
 | some (.ptr id _),hd=>hd.contains id
 | _,_=>false
theorem Zv3 (id o:Nat) (hd:List Nat):ldP (some (.ptr id o)) hd=hd.contains id:=rfl
def ldQ (s:St) (hd:List Nat) (g:Option (Nat×Bool)):AOp→Bool
 | .load _ _ p=>Zbk s g||ldP (val s p) hd
 | _=>true
theorem Zv4 (d:Option Nat) (g:Option (Nat×Bool)) (op:AOp):Zlv s hd ⟨d,g,op⟩=ldQ s hd g op:=by
 cases op <;> first | rfl | (
  simp only [Zlv,ldQ]
  congr 1
  rename_i p
  rcases val s p with _ | v
  ·rfl
  ·cases v <;> rfl)
def Z60 (b:Bool):AV→Bool
 | .g (.bool x)=>x != b
 | .undef=>true
 | _=>false
def Z5m (b:Bool):Option AV→Bool
 | some v=>Z60 b v
 | none=>false
theorem Zgy:Zbk s none=false:=rfl
theorem Znc (b x:Bool):Z5m b (some (.g (.bool x)))=(x != b):=rfl
theorem Zgz (b:Bool):Z5m b (some .undef)=true:=rfl
theorem Zg0 (o:Z0) (t:Vv):Z4 E h nb lv hd (.one o t) s=ob (Wh E h nb hd s o) fun p=>if (p.2.all fun i => !hd.contains i)=true then Z4 E h nb lv hd t p.1 else none:=by
 simp only [Z4];rcases Wh E h nb hd s o with _ | ⟨a,b⟩ <;> rfl
theorem Zg1 (o:Z0) (t r:Vv):Z4 E h nb lv hd (.alt o t r) s=ob (Wh E h nb hd s o) fun p=>if (p.2.all fun i => !hd.contains i)=true then Zv2 (Z4 E h nb lv hd t p.1) (Z4 E h nb lv hd r s) else none:=by
 simp only [Z4];rcases Wh E h nb hd s o with _ | ⟨a,b⟩
 ·rfl
 ·rfl
theorem Zg2 (f:FuncId) (xs:List AV):X7 E h hd s (.g (.fn f)) xs=if (hd.all (Zq (full h s)))=true then fin h hd s (E f xs (Yi hd (full h s))) else none:=by simp [X7]
theorem Qn (f:FuncId) (caps xs:List AV):X7 E h hd s (.fv f caps) xs=if (hd.all (Zq (full h s)))=true then fin h hd s (E f (xs++caps) (Yi hd (full h s))) else none:=by simp [X7]
theorem Zg3:Yf s 0=s:=by simp [Yf]
end
attribute [simp ↓] Znb
attribute [simp] Zcw Zcx Zcy Aq Zv3 ldQ Zv4 Zgy Znc Zgz
attribute [simp] Zcq Zcr Zgw Zgx Zcs Zct Zcu Zcv Zg0 Zg1 Zg3
attribute [simp] Zg2 Qn
@[simp] theorem Z6n (h:List Blk) (a b:Nat):h.length+a+b=h.length+(a+b):=Nat.add_assoc _ _ _
@[simp] theorem Z5n (t:List (Nat×AV)) (m:List (Nat×Blk)) (o:List Blk) (k:Nat):Yp [] ⟨t,m,o⟩ k=o[k]?:=by simp [Yp]
@[simp] theorem Z5o (t:List (Nat×AV)) (m:List (Nat×Blk)) (o:List Blk) (k:Nat) (b:Blk):setB [] ⟨t,m,o⟩ k b=⟨t,m,o.set k b⟩:=by simp [setB]
@[simp ↓] theorem Zv5 (h:List Blk) (hd:List Nat) (s:St) (r:AV) (m:List (Nat×Blk)) (o:List Blk) :
  fin h hd s (some ⟨r,m,o⟩)=if (m.all fun p => !hd.contains p.1)=true then some (r,(Wc h s m).app o,m.map (·.1)) else none:=rfl
@[simp] theorem Zg4 (h:List Blk) (s:St):Wc h s []=s:=by simp only [Wc]
@[simp] theorem Zcz (h:List Blk) (s:St) (i:Nat) (b:Blk) (r:List (Nat×Blk)):Wc h s ((i,b)::r)=setB h (Wc h s r) i b:=by simp only [Wc]
@[simp] theorem Z61 (t:List (Nat×AV)) (m:List (Nat×Blk)) (o o':List Blk):St.app ⟨t,m,o⟩ o'=⟨t,m,o++o'⟩:=rfl
def orB:Option Blk→Option Blk→Option Blk
 | some b,_=>some b
 | none,x=>x
@[simp] theorem Z5p (b:Blk) (x:Option Blk):orB (some b) x=some b:=rfl
@[simp] theorem Z5q (x:Option Blk):orB none x=x:=rfl
theorem Zp {h:List Blk} {id:Nat} (hid:id<h.length) (t:List (Nat×AV)) (m:List (Nat×Blk)) (o:List Blk):Yp h ⟨t,m,o⟩ id=orB (Ps m id) h[id]?:=by
 unfold Yp
 rw [if_pos hid]
 simp only
 cases Ps m id <;> rfl
theorem Z2 {h:List Blk} {id:Nat} (hid:id<h.length) (t:List (Nat×AV)) (m:List (Nat×Blk)) (o:List Blk) (b:Blk):setB h ⟨t,m,o⟩ id b=⟨t,To m id b,o⟩:=by
 unfold setB
 rw [if_pos hid]
@[simp] theorem Z4c (i:Nat):Ps [] i=none:=by simp only [Ps]
@[simp] theorem Z2i (a i:Nat) (v:Blk) (t:List (Nat×Blk)):Ps ((a,v)::t) i=if a=i then some v else Ps t i:=by simp only [Ps]
@[simp] theorem Zry (i:Nat) (b:Blk):To [] i b=[(i,b)]:=by simp only [To]
@[simp] theorem Znd (a i:Nat) (v b:Blk) (t:List (Nat×Blk)):To ((a,v)::t) i b=if a=i then (a,b)::t else (a,v)::To t i b:=by simp only [To]
@[simp] theorem Zuv (n:Nat) (cs:List AV):(Blk.cells cs).lt1 n=cs.all (AV.lt1 n):=by simp only [Blk.lt1]
@[simp] theorem Zv6 (n a b:Nat) (els:List (List GV)):(Blk.rows a b els).lt1 n=true:=by simp only [Blk.lt1]
@[simp] theorem Zne (h:List Blk) (t:List (Nat×AV)) (m:List (Nat×Blk)) (o:List Blk) (b:Blk):Yp h ⟨t,m,o++[b]⟩ (h.length+o.length)=some b:=by simp
@[simp] theorem Znf (h:List Blk) (t:List (Nat×AV)) (m:List (Nat×Blk)) (o:List Blk) (b b':Blk):setB h ⟨t,m,o++[b]⟩ (h.length+o.length) b'=⟨t,m,o++[b']⟩:=by simp
@[simp] theorem Z6o (h:List Blk) (k:Nat):(h.length+k<h.length)=False:=by simp
theorem Zc0 (h o:List Blk):Zq (h++o) h.length=Zq o 0:=by unfold Zq;rw [List.getElem?_append_right (Nat.le_refl _),Nat.sub_self]
theorem Zg5 (h o:List Blk) (k:Nat):Zq (h++o) (h.length+k)=Zq o k:=by unfold Zq;rw [List.getElem?_append_right (by omega),Nat.add_sub_cancel_left]
theorem Zc1 (b:Blk) (o:List Blk):Zq (b::o) 0=b.live:=by unfold Zq;rw [List.getElem?_cons_zero]
theorem Zc2 (b:Blk) (o:List Blk) (k:Nat):Zq (b::o) (k+1)=Zq o k:=by unfold Zq;rw [List.getElem?_cons_succ]
attribute [simp] Zc0 Zg5 Zc1 Zc2 Blk.live
attribute [simp] full Zv Yi
@[simp] theorem Z1f (n:Nat):((n:Int)<0)=False:=by apply propext;constructor <;> intro h <;> first | omega | exact h.elim
@[simp] theorem Z2j:Xb []=[]:=rfl
theorem Zg6 (b:List UInt8):(Xb b).length=b.length:=by simp [Xb]
def M4 (sz bytes:Nat) (z:List GV) (m:TypeId) (msg:List UInt8):Zg:=⟨2,27,[.tmp 4],true,
 .seq (.reg [0,1] [⟨(some 4),none,.nres sz⟩]) <|
 .seq (.seq (.reg [0,1,6] [⟨(some 5),none,.mov (.t 1)⟩,
   ⟨(some 6),none,.bin .lss (.t 5) (.c (.g (.int .i64 0)))⟩]) <|
 .cond [0,1] (.t 6)
  (.reg [0,1] [⟨(some 7),none,.mkif m (.c (.g (.str msg)))⟩,
   ⟨none,none,.row 0 []⟩])
  (.skip)) <|
 .seq (.seq (.reg [0,1] [⟨(some 8),none,.mov (.t 1)⟩,
   ⟨(some 9),none,.mov (.t 0)⟩,
   ⟨(some 10),none,.cap (.t 9)⟩,
   ⟨(some 11),none,.mov (.t 0)⟩,
   ⟨(some 12),none,.len (.t 11)⟩,
   ⟨(some 13),none,.bin .sub (.t 10) (.t 12)⟩,
   ⟨(some 14),none,.bin .sub (.t 8) (.t 13)⟩,
   ⟨(some 1),none,.mov (.t 14)⟩]) <|
 .seq (.reg [0,1,16] [⟨(some 15),none,.mov (.t 1)⟩,
   ⟨(some 16),none,.bin .gtr (.t 15) (.c (.g (.int .i64 0)))⟩]) <|
 .cond [0] (.t 16)
  (.reg [0] [⟨(some 17),none,.mov (.t 0)⟩,
   ⟨(some 18),none,.mov (.t 0)⟩,
   ⟨(some 19),none,.cap (.t 18)⟩,
   ⟨(some 20),none,.slc sz (.t 17) none (some (.t 19))⟩,
   ⟨(some 21),none,.mov (.t 1)⟩,
   ⟨(some 22),none,.appZ sz bytes z (.t 20) (.t 21)⟩,
   ⟨(some 23),none,.mov (.t 0)⟩,
   ⟨(some 24),none,.len (.t 23)⟩,
   ⟨(some 25),none,.slc sz (.t 22) none (some (.t 24))⟩,
   ⟨(some 0),none,.mov (.t 25)⟩])
  (.skip)) <|
 .seq (.reg [4] [⟨(some 26),none,.mov (.t 0)⟩,
  ⟨(some 4),none,.mov (.t 26)⟩]) <|
 .ret⟩
theorem Zjl {Tb:Tab} {f:FuncId} {sz bytes:Nat} {z:List GV} {m:TypeId} {msg:List UInt8} (hF:Tb.T f=some (M4 sz bytes z m msg)) (n:Nat) (hn:n≤140737488355328) (hb:n*bytes≤140737488355328) (H:List Blk) :
  EvF Tb f [.g .nsl,I n] H=some (if n=0 then ⟨.g .nsl,[],[.rows sz 1 []]⟩ else ⟨.ms (H.length+1) 2 sz 0 0,[],[.rows sz 1 [],.rows sz 2 (List.replicate n z)]⟩):=by
 refine Zb hF (by simp) ?_
 have e1:IntKind.i64.wrap (n:Int)=n:=wrap_i64 (by omega) (by omega)
 have e0:IntKind.i64.wrap 0=0:=rfl
 by_cases h0:n=0
 ·subst h0
  simp -implicitDefEqProofs [e0]
 ·obtain ⟨k,rfl⟩:∃k,n=k+1:=⟨n - 1,by omega⟩
  have e3:((k+1:Nat):Int)≤281474976710656:=by omega
  have e4:((k+1:Nat):Int)*(bytes:Int)≤281474976710656:=by
   have:((k+1:Nat):Int)*(bytes:Int)=(((k+1)*bytes:Nat):Int):=by simp
   rw [this];omega
  obtain ⟨N,hN⟩:∃N:Nat,k+1=N:=⟨_,rfl⟩
  rw [hN] at e1 e3 e4 hn hb ⊢
  have hpos:0<N:=by omega
  have e2:List.replicate N z=z::List.replicate k z:=by rw [←hN];rfl
  simp -implicitDefEqProofs [e0,e1,hpos,show ¬N=0 by omega,Xd,bnd,Y2,e3,e4,e2,Yh,room,hN,hn,hb]
def Sd (m:TypeId) (msg:List UInt8):IC :=
 .seq (.reg [0,3,9,10,11,12] [⟨(some 12),none,.bin .lss (.t 11) (.t 10)⟩]) <|
 .seq (.cond [0,3,9,10,11] (.t 12)
  (.skip)
  (.exit 0)) <|
 .seq (.block [0,3,9,10,11] 1 <|
 .seq (.reg [0,3,5,9,10,11] [⟨(some 13),none,.iaddr 1 (.t 9) (.t 11)⟩,
   ⟨(some 14),none,.load false 1 (.t 13)⟩,
   ⟨(some 5),none,.mov (.t 14)⟩]) <|
 .seq (.reg [0,3,9,10,11] [⟨(some 15),none,.mov (.t 3)⟩,
   ⟨(some 16),none,.mov (.t 5)⟩,
   ⟨(some 17),none,.len (.t 16)⟩,
   ⟨(some 18),none,.bin .add (.t 15) (.t 17)⟩,
   ⟨(some 3),none,.mov (.t 18)⟩]) <|
 .seq (.reg [0,3,9,10,11,20] [⟨(some 19),none,.mov (.t 3)⟩,
   ⟨(some 20),none,.bin .lss (.t 19) (.c (.g (.int .i64 0)))⟩]) <|
 .cond [0,3,9,10,11] (.t 20)
  (.reg [0,3,9,10,11] [⟨(some 21),none,.mkif m (.c (.g (.str msg)))⟩,
   ⟨none,none,.row 0 []⟩])
  (.skip)) <|
 .reg [0,3,9,10,11] [⟨(some 22),none,.bin .add (.t 11) (.c (.g (.int .i64 1)))⟩,
  ⟨(some 11),none,.mov (.t 22)⟩]
def Wk (sz bytes:Nat):IC :=
 .seq (.reg [6,25,26,27,28] [⟨(some 28),none,.bin .lss (.t 27) (.t 26)⟩]) <|
 .seq (.cond [6,25,26,27] (.t 28)
  (.skip)
  (.exit 2)) <|
 .seq (.block [6,25,26,27] 3 <|
 .seq (.reg [6,8,25,26,27] [⟨(some 29),none,.iaddr 1 (.t 25) (.t 27)⟩,
   ⟨(some 30),none,.load false 1 (.t 29)⟩,
   ⟨(some 8),none,.mov (.t 30)⟩]) <|
 .reg [6,25,26,27] [⟨(some 31),none,.mov (.t 6)⟩,
  ⟨(some 32),none,.mov (.t 8)⟩,
  ⟨(some 33),none,.app sz bytes (.t 31) (.t 32)⟩,
  ⟨(some 6),none,.mov (.t 33)⟩]) <|
 .reg [6,25,26,27] [⟨(some 34),none,.bin .add (.t 27) (.c (.g (.int .i64 1)))⟩,
  ⟨(some 27),none,.mov (.t 34)⟩]
def Sy (sz bytes:Nat) (g:FuncId) (m:TypeId) (msg:List UInt8):Zg:=⟨1,36,[.tmp 2],false,
 .seq (.reg [0] [⟨(some 2),none,.nres sz⟩]) <|
 .seq (.reg [0,3] [⟨(some 3),none,.mov (.c (.g (.int .i64 0)))⟩]) <|
 .seq (.seq (.reg [0,3,9,10,11] [⟨(some 9),none,.mov (.t 0)⟩,
   ⟨(some 10),none,.len (.t 9)⟩,
   ⟨(some 11),none,.mov (.c (.g (.int .i64 0)))⟩]) <|
 .block [0,3] 0 <|
 .loop [0,3,9,10,11] [] (Sd m msg)) <|
 .seq (.reg [0,6] [⟨(some 23),none,.mov (.t 3)⟩,
  ⟨(some 24),none,.call (.c (.g (.fn g))) [(.c (.g (.nsl))),(.t 23)]⟩,
  ⟨(some 6),none,.mov (.t 24)⟩]) <|
 .seq (.seq (.reg [6,25,26,27] [⟨(some 25),none,.mov (.t 0)⟩,
   ⟨(some 26),none,.len (.t 25)⟩,
   ⟨(some 27),none,.mov (.c (.g (.int .i64 0)))⟩]) <|
 .block [6] 2 <|
 .loop [6,25,26,27] [] (Wk sz bytes)) <|
 .seq (.reg [2] [⟨(some 35),none,.mov (.t 6)⟩,
  ⟨(some 2),none,.mov (.t 35)⟩]) <|
 .ret⟩
def Fp {α:Type} (sz:Nat) (c:α→List GV) (l:List α):GV:=if l=[] then .nsl else .sl sz (l.map c)
theorem M5 {E:FnS} {m:TypeId} {msg:List UInt8} {α:Type} {sz:Nat} {c:α→List GV} (a b:Sl α) (hl:a.l.length+b.l.length≤140737488355328) (H o:List Blk) :
  Ya E H (Sd m msg) [0,3,9,10,11] ⟨[(0,.g (.sl 1 [[a.g sz c],[b.g sz c]])),(3,I 0),(9,.g (.sl 1 [[a.g sz c],[b.g sz c]])),(10,I 2),(11,I 0)],[],o⟩ =
   some (.exit 0,⟨[(0,.g (.sl 1 [[a.g sz c],[b.g sz c]])),(3,I (a.l.length+b.l.length:Nat)),(9,.g (.sl 1 [[a.g sz c],[b.g sz c]])),(10,I 2),(11,I 2),(12,B false)],[],o⟩):=by
 have e1:IntKind.i64.wrap (a.l.length:Int)=a.l.length:=wrap_i64 (by omega) (by omega)
 have e2:IntKind.i64.wrap ((a.l.length:Int)+b.l.length)=(a.l.length:Int)+b.l.length:=wrap_i64 (by omega) (by omega)
 have e3:IntKind.i64.wrap 1=1:=rfl
 have e4:IntKind.i64.wrap 2=2:=rfl
 have e5:¬(a.l.length:Int)+b.l.length<0:=by omega
 rw [Ve (c:=Sd m msg) (by delta Sd;rfl)]
 simp -implicitDefEqProofs [e1,e3]
 rw [Ve (c:=Sd m msg) (by delta Sd;rfl)]
 simp -implicitDefEqProofs [e2,e4,e5]
 rw [Ve (c:=Sd m msg) (by delta Sd;rfl)]
 simp -implicitDefEqProofs
theorem Zrz {h:List Blk} {t:List (Nat×AV)} {sz bytes n k:Nat} {xs ys:List (List GV)} {z:List GV} (hx:xs.length=n) (hk:n+ys.length≤k) (A B:Blk) :
  Yh h ⟨t,[],[A,B,.rows sz 2 (xs++List.replicate (k - n) z)]⟩ sz bytes (.ms (h.length+2) 2 sz 0 n) ys =
   some (.ms (h.length+2) 2 sz 0 (n+ys.length),⟨t,[],[A,B,.rows sz 2 ((xs++ys)++List.replicate (k - (n+ys.length)) z)]⟩,if ys=[] then [] else [h.length+2]):=by
 cases ys with
 | nil=>simp -implicitDefEqProofs [Yh,cur]
 | cons y ys =>
  have e1:(xs++List.replicate (k - n) z).take n=xs:=by rw [←hx];simp
  have e2:(xs++List.replicate (k - n) z).drop (n+(y::ys).length)=List.replicate (k - (n+(y::ys).length)) z:=by
   rw [List.drop_append,List.drop_eq_nil_of_le (by omega),List.drop_replicate]
   simp only [List.nil_append,hx]
   congr 1;omega
  have e3:0+n+(y::ys).length≤(xs++List.replicate (k - n) z).length:=by simp;simp at hk;omega
  simp only [Yh,Zrs,List.getElem?_cons_succ,List.getElem?_cons_zero,true_and,if_true,if_pos e3,Nat.zero_add,e1,e2,Zrt,List.set_cons_succ,List.set_cons_zero]
  simp
  simp at hk;omega
theorem M6 {E:FnS} {α:Type} {sz bytes:Nat} {z:List GV} {c:α→List GV} (a b:Sl α) (H:List Blk) (A B':Blk) :
  Ya E H (Wk sz bytes) [6,25,26,27] ⟨[(6,.ms (H.length+2) 2 sz 0 0),(25,.g (.sl 1 [[a.g sz c],[b.g sz c]])),(26,I 2),(27,I 0)],[],[A,B',.rows sz 2 (List.replicate (a.l.length+b.l.length) z)]⟩ =
   some (.exit 2,⟨[(6,.ms (H.length+2) 2 sz 0 (a.l.length+b.l.length)),(25,.g (.sl 1 [[a.g sz c],[b.g sz c]])),(26,I 2),(27,I 2),(28,B false)],[],[A,B',.rows sz 2 ((a.l++b.l).map c)]⟩):=by
 have e3:IntKind.i64.wrap 1=1:=rfl
 have e4:IntKind.i64.wrap 2=2:=rfl
 have a1:=fun t=>Zrz (h:=H) (t:=t) (sz:=sz) (bytes:=bytes) (n:=0) (k:=a.l.length+b.l.length) (xs:=[]) (ys:=a.l.map c) (z:=z) rfl (by simp) A B'
 have a2:=fun t=>Zrz (h:=H) (t:=t) (sz:=sz) (bytes:=bytes) (n:=a.l.length) (k:=a.l.length+b.l.length) (xs:=a.l.map c) (ys:=b.l.map c) (z:=z) (by simp) (by simp) A B'
 simp only [List.nil_append,Nat.sub_zero,Nat.zero_add,List.length_map,Nat.sub_self,List.replicate_zero,List.append_nil,Nat.add_sub_cancel_left] at a1 a2
 rw [Ve (c:=Wk sz bytes) (by delta Wk;rfl)]
 simp -implicitDefEqProofs [e3,a1]
 rw [Ve (c:=Wk sz bytes) (by delta Wk;rfl)]
 simp -implicitDefEqProofs [e4,a2]
 rw [Ve (c:=Wk sz bytes) (by delta Wk;rfl)]
 simp -implicitDefEqProofs
theorem Dr {E:FnS} {sz bytes:Nat} (ga gb:GV) (ha:∀h s,Vs h s sz (.g ga)=some []) (hb:∀h s,Vs h s sz (.g gb)=some []) (H o:List Blk) :
  Ya E H (Wk sz bytes) [6,25,26,27] ⟨[(6,.g .nsl),(25,.g (.sl 1 [[ga],[gb]])),(26,I 2),(27,I 0)],[],o⟩ =
   some (.exit 2,⟨[(6,.g .nsl),(25,.g (.sl 1 [[ga],[gb]])),(26,I 2),(27,I 2),(28,B false)],[],o⟩):=by
 have e3:IntKind.i64.wrap 1=1:=rfl
 have e4:IntKind.i64.wrap 2=2:=rfl
 rw [Ve (c:=Wk sz bytes) (by delta Wk;rfl)]
 simp -implicitDefEqProofs [e3,ha,Yh]
 rw [Ve (c:=Wk sz bytes) (by delta Wk;rfl)]
 simp -implicitDefEqProofs [e4,hb,Yh]
 rw [Ve (c:=Wk sz bytes) (by delta Wk;rfl)]
 simp -implicitDefEqProofs
theorem Qo {Tb:Tab} {f g:FuncId} {α:Type} {sz bytes:Nat} {z:List GV} {m m':TypeId} {msg msg':List UInt8} {c:α→List GV} (hF:Tb.T f=some (Sy sz bytes g m msg)) (hG:Tb.T g=some (M4 sz bytes z m' msg'))
  (a b:Sl α) (hn:a.l.length+b.l.length≤140737488355328) (hb:(a.l.length+b.l.length)*bytes≤140737488355328) (H:List Blk) :
  EvF Tb f [.g (.sl 1 [[a.g sz c],[b.g sz c]])] H=some ⟨.g (Fp sz c (a.l++b.l)),[],[]⟩:=by
 refine Zb hF (by simp) ?_
 have g1:=fun H=>Zjl hG (a.l.length+b.l.length) hn hb H
 have l0:=fun o=>M5 (E:=EvF Tb) (m:=m) (msg:=msg) (sz:=sz) (c:=c) a b hn H o
 simp only [Int.natCast_add] at l0 g1
 by_cases h0:a.l.length+b.l.length=0
 ·have ha0:a.l=[]:=List.eq_nil_of_length_eq_zero (by omega)
  have hb0:b.l=[]:=List.eq_nil_of_length_eq_zero (by omega)
  have l1:=fun o=>Dr (E:=EvF Tb) (sz:=sz) (bytes:=bytes) (a.g sz c) (b.g sz c) (fun h s=>by rw [M3,ha0];rfl) (fun h s=>by rw [M3,hb0];rfl) H o
  simp only [if_pos h0] at g1
  have g1:∀H,EvF Tb g [.g .nsl,I 0] H=some ⟨.g .nsl,[],[.rows sz 1 []]⟩:=fun H=>by have:=g1 H;rw [ha0,hb0] at this;exact this
  simp -implicitDefEqProofs [l0,g1,l1,Fp,ha0,hb0]
 ·have hne:¬a.l++b.l=[]:=fun e=>h0 (by rw [←List.length_append,e];rfl)
  have l1:=fun A B=>M6 (E:=EvF Tb) (sz:=sz) (bytes:=bytes) (z:=z) (c:=c) a b H A B
  simp only [if_neg h0] at g1
  have e5:List.take (a.l.length+b.l.length) (List.map c (a.l++b.l))=List.map c (a.l++b.l):=List.take_of_length_le (by simp)
  simp -implicitDefEqProofs only [List.map_append] at l1 e5
  simp -implicitDefEqProofs [l0,g1,l1,Fp,hne,e5]
theorem Ar {α:Type} {c:α→List GV} {sz bytes:Nat} {l:List α} (hne:l ≠ []) (h1:l.length≤140737488355328) (h2:l.length*bytes≤140737488355328) (H:List Blk) (t:List (Nat×AV)) (m:List (Nat×Blk)) (o:List Blk) :
  Yh H ⟨t,m,o⟩ sz bytes (.g .nsl) (l.map c)=some (.ms (H.length+o.length) 2 sz 0 l.length,⟨t,m,o++[.rows sz 2 (l.map c)]⟩,[]):=by
 cases l with
 | nil=>exact absurd rfl hne
 | cons x l=>simp only [List.length_cons] at h1 h2;simp [Yh,room,h1,h2]
theorem Or {sz bytes g:Nat} {xs ys:List (List GV)} (hne:ys ≠ []) (h1:xs.length+ys.length≤140737488355328) (h2:(xs.length+ys.length)*bytes≤140737488355328) (H:List Blk) (t:List (Nat×AV)) (m:List (Nat×Blk)) (o:List Blk) :
  Yh H ⟨t,m,o++[.rows sz g xs]⟩ sz bytes (.ms (H.length+o.length) g sz 0 xs.length) ys =
   some (.ms (H.length+o.length) (g+1) sz 0 (xs.length+ys.length),⟨t,m,o++[.rows sz (g+1) (xs++ys)]⟩,[H.length+o.length]):=by
 cases ys with
 | nil=>exact absurd rfl hne
 | cons y ys =>
  simp only [List.length_cons] at h1 h2
  have e:¬xs.length+(ys.length+1)≤xs.length:=by omega
  simp only [Yh,Zne,true_and,if_true,List.length_cons,Nat.zero_add,if_neg e,Nat.le_refl,room,h1,h2,decide_true,Bool.and_self,Znf,List.take_length]
def Zg7 (sz bytes:Nat) (esc:Bool):Zg:=⟨1,8,[.tmp 2],esc,
 .seq (.reg [0] [⟨(some 2),none,.nres sz⟩]) <|
 .seq (.seq (.reg [0,4] [⟨(some 3),none,.mov (.t 0)⟩,
   ⟨(some 4),none,.isnilS false (.t 3)⟩]) <|
 .cond [0] (.t 4)
  (.seq (.reg [2] [⟨(some 2),none,.nres sz⟩]) <|
  .ret)
  (.skip)) <|
 .seq (.reg [2] [⟨(some 5),none,.mk0 sz⟩,
  ⟨(some 6),none,.mov (.t 0)⟩,
  ⟨(some 7),none,.app sz bytes (.t 5) (.t 6)⟩,
  ⟨(some 2),none,.mov (.t 7)⟩]) <|
 .ret⟩
theorem Zc3 {Tb:Tab} {f:FuncId} {α:Type} {sz bytes:Nat} {c:α→List GV} (hF:Tb.T f=some (Zg7 sz bytes true)) (l:List α) (hne:l ≠ []) (hn:l.length≤140737488355328) (hb:l.length*bytes≤140737488355328) (H:List Blk) :
  EvF Tb f [.g (.sl sz (l.map c))] H=some ⟨.ms (H.length+1) 3 sz 0 l.length,[],[.rows sz 1 [],.rows sz 3 (l.map c)]⟩:=by
 refine Zb hF (by simp) ?_
 cases l with
 | nil=>exact absurd rfl hne
 | cons x l =>
  simp only [List.length_cons] at hn hb
  simp -implicitDefEqProofs [Yh,room,hn,hb]
def ixL (agg:Bool) (n:Nat):IC :=
 .seq (.reg [0,1,7,8,9] [⟨(some 9),none,.bin .lss (.t 8) (.t 7)⟩]) <|
 .seq (.cond [0,1,7,8] (.t 9)
  (.skip)
  (.exit 0)) <|
 .seq (.block [0,1,7,8] 1 <|
 .seq (.reg [0,1,5,7,8] [⟨(some 10),none,.mov (.t 8)⟩,
   ⟨(some 5),none,.mov (.t 10)⟩]) <|
 .seq (.reg [0,1,5,7,8,16] [⟨(some 11),none,.mov (.t 1)⟩,
   ⟨(some 12),none,.mov (.t 0)⟩,
   ⟨(some 13),none,.mov (.t 5)⟩,
   ⟨(some 14),none,.iaddr n (.t 12) (.t 13)⟩,
   ⟨(some 15),none,.load agg n (.t 14)⟩,
   ⟨(some 16),none,.call (.t 11) [(.t 15)]⟩]) <|
 .cond [0,1,7,8] (.t 16)
  (.seq (.reg [4] [⟨(some 17),none,.mov (.t 5)⟩,
    ⟨(some 4),none,.mov (.t 17)⟩]) <|
  .ret)
  (.skip)) <|
 .reg [0,1,7,8] [⟨(some 18),none,.bin .add (.t 8) (.c (.g (.int .i64 1)))⟩,
  ⟨(some 8),none,.mov (.t 18)⟩]
def ixF (agg:Bool) (n:Nat):Zg:=⟨2,19,[.tmp 4],false,
 .seq (.reg [0,1] [⟨(some 4),none,.mov (.c (.g (.int .i64 0)))⟩]) <|
 .seq (.seq (.reg [0,1,7,8] [⟨(some 6),none,.mov (.t 0)⟩,
   ⟨(some 7),none,.len (.t 6)⟩,
   ⟨(some 8),none,.mov (.c (.g (.int .i64 0)))⟩]) <|
 .block [] 0 <|
 .loop [0,1,7,8] [] (ixL agg n)) <|
 .seq (.reg [4] [⟨(some 4),none,.mov (.c (.g (.int .i64 (-1))))⟩]) <|
 .ret⟩
def cfF (g:FuncId):Zg:=⟨2,9,[.tmp 4],false,
 .seq (.reg [0,1] [⟨(some 4),none,.mov (.c (.g (.bool false)))⟩]) <|
 .seq (.reg [4] [⟨(some 5),none,.mov (.t 0)⟩,
  ⟨(some 6),none,.mov (.t 1)⟩,
  ⟨(some 7),none,.call (.c (.g (.fn g))) [(.t 5),(.t 6)]⟩,
  ⟨(some 8),none,.bin .geq (.t 7) (.c (.g (.int .i64 0)))⟩,
  ⟨(some 4),none,.mov (.t 8)⟩]) <|
 .ret⟩
def Xh {α:Type} (p:α→Bool):Nat→List α→Int
 | _,[] => -1
 | k,x::l=>if p x=true then k else Xh p (k+1) l
theorem Se {α:Type} (p:α→Bool):∀(l:List α) (k:Nat),0≤Xh p k l↔l.any p=true
 | [],k=>by simp [Xh]
 | x::l,k=>by
  unfold Xh
  by_cases h:p x=true
  ·rw [if_pos h];simp [h]
  ·rw [if_neg h,Se p l (k+1)];simp [h]
theorem Fq {α:Type} (p:α→Bool) (l:List α) (k:Nat):decide (0≤Xh p k l)=l.any p:=by
 by_cases h:l.any p=true
 ·rw [h];simpa using (Se p l k).2 h
 ·rw [Bool.eq_false_iff.2 h];simpa using fun hh=>h ((Se p l k).1 hh)
theorem Zv7 {Tb:Tab} {α:Type} {agg:Bool} {n:Nat} {c:α→List GV} (e:α→AV) (p:α→Bool) (fv:AV) (l:List α) (hl:l.length≤9223372036854775807) (H:List Blk)
  (hel:∀x,AM.sub agg n (((c x).map AV.g).take n)=some (e x)) (hcall:∀x∈l,∀t,X7 (EvF Tb) H [] ⟨t,[],[]⟩ fv [e x]=some (.g (.bool (p x)),⟨t,[],[]⟩,[])) :
  Ya (EvF Tb) H (ixL agg n) [0,1,7,8] ⟨[(0,.g (.sl n (l.map c))),(1,fv),(7,.g (.int .i64 l.length)),(8,.g (.int .i64 0))],[],[]⟩ =
   some (if l.any p=true then (.ret,⟨[(4,.g (.int .i64 (Xh p 0 l)))],[],[]⟩) else (.exit 0,⟨[(0,.g (.sl n (l.map c))),(1,fv),(7,.g (.int .i64 l.length)),(8,.g (.int .i64 l.length)),(9,.g (.bool false))],[],[]⟩)):=by
 have hw:=Oo (E:=EvF Tb) (h:=H) (c:=ixL agg n) (lv:=[0,1,7,8]) (l:=l) (fun _ (_:Unit)=>True) (fun k x _=>if p x=true then .inr (.ret,⟨[(4,.g (.int .i64 k))],[],[]⟩) else .inl ())
  (fun k _=>⟨[(0,.g (.sl n (l.map c))),(1,fv),(7,.g (.int .i64 l.length)),(8,.g (.int .i64 k))],[],[]⟩) (fun _=>(.exit 0,⟨[(0,.g (.sl n (l.map c))),(1,fv),(7,.g (.int .i64 l.length)),(8,.g (.int .i64 l.length)),(9,.g (.bool false))],[],[]⟩)) (by simp)
  (fun k x _ hk hx hx' _ => ?_) (fun _ _ => ?_) l.length 0 () rfl (Nat.zero_le _) trivial
 ·simp only [Int.natCast_zero] at hw
  rw [hw,List.drop_zero]
  congr 1
  have key:∀(l:List α) (k:Nat) (fin:Ex×St),N7 (fun _=>fin) (P4 (β:=Unit) (fun k x _=>if p x=true then .inr (.ret,⟨[(4,.g (.int .i64 k))],[],[]⟩) else .inl ()) k l ())=if l.any p=true then (.ret,⟨[(4,.g (.int .i64 (Xh p k l)))],[],[]⟩) else fin:=by
   intro l
   induction l with
   | nil=>intro k fin;simp [P4,N7]
   | cons x l ih =>
    intro k fin
    simp only [P4,List.any_cons,Xh]
    by_cases hp:p x=true
    ·simp [hp,N7]
    ·simp only [hp,Bool.false_eq_true,if_false]
     rw [ih];simp
  exact key l 0 _
 ·subst hx'
  have hc:=hcall l[k] (List.getElem_mem hk)
  delta ixL
  by_cases hp:p l[k]=true
  ·simp -implicitDefEqProofs [-AM.sub,hk,hp,hel,hc,Zh hk hl,show (k:Int)<(l.length:Int) by omega]
  ·simp -implicitDefEqProofs [-AM.sub,hk,hp,hel,hc,Zh hk hl,show (k:Int)<(l.length:Int) by omega]
 ·delta ixL
  simp -implicitDefEqProofs
theorem Ot {Tb:Tab} {f:FuncId} {α:Type} {agg:Bool} {n:Nat} {c:α→List GV} (hF:Tb.T f=some (ixF agg n)) (e:α→AV) (p:α→Bool) (fv:AV) (s:Sl α) (hl:s.l.length≤9223372036854775807) (H:List Blk)
  (hel:∀x,AM.sub agg n (((c x).map AV.g).take n)=some (e x)) (hcall:∀x∈s.l,∀t,X7 (EvF Tb) H [] ⟨t,[],[]⟩ fv [e x]=some (.g (.bool (p x)),⟨t,[],[]⟩,[])) :
  EvF Tb f [.g (s.g n c),fv] H=some ⟨.g (.int .i64 (Xh p 0 s.l)),[],[]⟩:=by
 refine Zb hF (by simp [ixF]) ?_
 cases s with
 | nil =>
  have hw:=Wp (EvF Tb) H (ixL agg n) [0,1,7,8] ⟨[(0,.g .nsl),(1,fv),(7,.g (.int .i64 0)),(8,.g (.int .i64 0))],[],[]⟩ (.exit 0,⟨[(0,.g .nsl),(1,fv),(7,.g (.int .i64 0)),(8,.g (.int .i64 0)),(9,.g (.bool false))],[],[]⟩) (by simp) (by delta ixL;simp -implicitDefEqProofs)
  simp -implicitDefEqProofs [X4,Xh,hw]
 | of l =>
  have hw:=Zv7 e p fv l hl H hel hcall
  by_cases ha:l.any p=true
  ·rw [if_pos ha] at hw
   simp -implicitDefEqProofs [X4,hw]
  ·rw [if_neg ha] at hw
   have h1:=Fq p l 0
   have h2:Xh p 0 l = -1:=by
    have:∀(l:List α) (k:Nat),¬l.any p=true→Xh p k l = -1:=by
     intro l
     induction l with
     | nil=>intro k _;rfl
     | cons x l ih =>
      intro k h
      simp only [List.any_cons,Bool.or_eq_true,not_or] at h
      simp only [Xh,if_neg h.1]
      exact ih _ h.2
    exact this l 0 ha
   simp -implicitDefEqProofs [X4,hw,h2]
theorem V0 {Tb:Tab} {f g:FuncId} {α:Type} {agg:Bool} {n:Nat} {c:α→List GV} (hF:Tb.T f=some (cfF g)) (hG:Tb.T g=some (ixF agg n)) (e:α→AV) (p:α→Bool) (fv:AV) (s:Sl α) (hl:s.l.length≤9223372036854775807) (H:List Blk)
  (hel:∀x,AM.sub agg n (((c x).map AV.g).take n)=some (e x)) (hcall:∀x∈s.l,∀t,X7 (EvF Tb) H [] ⟨t,[],[]⟩ fv [e x]=some (.g (.bool (p x)),⟨t,[],[]⟩,[])) :
  EvF Tb f [.g (s.g n c),fv] H=some ⟨.g (.bool (s.l.any p)),[],[]⟩:=by
 have h1:=Ot hG e p fv s hl H hel hcall
 refine Zb hF (by simp [cfF]) ?_
 rw [←Fq p s.l 0]
 simp -implicitDefEqProofs [h1]
end Go.AM
namespace Go.IR
open Go Go.AM
abbrev m (d a:Nat):Z0:=⟨some d,none,.mov (.t a)⟩
abbrev mi (d:Nat) (n:Int):Z0:=⟨some d,none,.mov (.c (.g (.int .i64 n)))⟩
abbrev mb (d:Nat) (b:Bool):Z0:=⟨some d,none,.mov (.c (.g (.bool b)))⟩
abbrev fa (d o a:Nat):Z0:=⟨some d,none,.faddr o (.t a)⟩
abbrev l1 (d a:Nat):Z0:=⟨some d,none,.load false 1 (.t a)⟩
abbrev la (d n a:Nat):Z0:=⟨some d,none,.load true n (.t a)⟩
abbrev st (n p x:Nat):Z0:=⟨none,none,.store n (.t p) (.t x)⟩
abbrev oR (d c y:Nat):Z0:=⟨some d,none,.pick (.t c) (.c (.g (.bool true))) (.t y)⟩
abbrev aN (d c y:Nat):Z0:=⟨some d,none,.pick (.t c) (.t y) (.c (.g (.bool false)))⟩
abbrev ex (d j a:Nat):Z0:=⟨some d,none,.ext j (.t a)⟩
abbrev ia (d n x i:Nat):Z0:=⟨some d,none,.iaddr n (.t x) (.t i)⟩
abbrev ln (d a:Nat):Z0:=⟨some d,none,.len (.t a)⟩
abbrev bx (d a:Nat):Z0:=⟨some d,none,.box (.t a)⟩
abbrev nr (d n:Nat):Z0:=⟨some d,none,.nres n⟩
abbrev nt (d a:Nat):Z0:=⟨some d,none,.un .not (.t a)⟩
abbrev nc (d a:Nat):Z0:=⟨some d,none,.nilchk (.t a)⟩
abbrev bt (d:Nat) (o:BinOp) (x y:Nat):Z0:=⟨some d,none,.bin o (.t x) (.t y)⟩
abbrev bc (d:Nat) (o:BinOp) (x:Nat) (n:Int):Z0:=⟨some d,none,.bin o (.t x) (.c (.g (.int .i64 n)))⟩
abbrev ap (d n b x y:Nat):Z0:=⟨some d,none,.app n b (.t x) (.t y)⟩
abbrev k0 (d f:Nat):Z0:=⟨some d,none,.call (.c (.g (.fn f))) []⟩
abbrev k1 (d f x:Nat):Z0:=⟨some d,none,.call (.c (.g (.fn f))) [.t x]⟩
abbrev k2 (d f x y:Nat):Z0:=⟨some d,none,.call (.c (.g (.fn f))) [.t x,.t y]⟩
abbrev k3 (d f x y z:Nat):Z0:=⟨some d,none,.call (.c (.g (.fn f))) [.t x,.t y,.t z]⟩
abbrev mG (d g:Nat) (q:Bool) (a:Nat):Z0:=⟨some d,some (g,q),.mov (.t a)⟩
abbrev fG (d g:Nat) (q:Bool) (o a:Nat):Z0:=⟨some d,some (g,q),.faddr o (.t a)⟩
abbrev lG (d g:Nat) (q:Bool) (a:Nat):Z0:=⟨some d,some (g,q),.load false 1 (.t a)⟩
abbrev laG (d g:Nat) (q:Bool) (n a:Nat):Z0:=⟨some d,some (g,q),.load true n (.t a)⟩
abbrev iG (d g:Nat) (q:Bool) (n x i:Nat):Z0:=⟨some d,some (g,q),.iaddr n (.t x) (.t i)⟩
abbrev nG (d g:Nat) (q:Bool) (a:Nat):Z0:=⟨some d,some (g,q),.un .not (.t a)⟩
abbrev lnG (d g:Nat) (q:Bool) (a:Nat):Z0:=⟨some d,some (g,q),.len (.t a)⟩
abbrev btG (d g:Nat) (q:Bool) (o:BinOp) (x y:Nat):Z0:=⟨some d,some (g,q),.bin o (.t x) (.t y)⟩
abbrev bcG (d g:Nat) (q:Bool) (o:BinOp) (x:Nat) (n:Int):Z0:=⟨some d,some (g,q),.bin o (.t x) (.c (.g (.int .i64 n)))⟩
abbrev k1G (d g:Nat) (q:Bool) (f x:Nat):Z0:=⟨some d,some (g,q),.call (.c (.g (.fn f))) [.t x]⟩
abbrev k2G (d g:Nat) (q:Bool) (f x y:Nat):Z0:=⟨some d,some (g,q),.call (.c (.g (.fn f))) [.t x,.t y]⟩
abbrev tk:=Vv.take
abbrev rg:=IC.reg
abbrev zi:Z := .z (.int .i64 0)
abbrev zb:Z := .z (.bool false)
abbrev zs:Z := .z (.str [])
abbrev gi:AV := .g (.int .i64 0)
abbrev gb:AV := .g (.bool false)
abbrev gs:AV := .g (.str [])
abbrev gn:AV := .g .nsl
abbrev i0:GV := .int .i64 0
abbrev b0:GV := .bool false
abbrev s0:GV := .str []
def V9:IC→List (List Nat)
 | .reg lv _=>[lv]
 | .regy lv _=>[Z02::lv]
 | .drw lv _ (.hold ts _)=>[lv,ts]
 | .drw lv _ _=>[lv,[]]
 | .seq a b=>V9 a++V9 b
 | .cond lv _ a b=>lv::(V9 a++V9 b)
 | .block lv _ c=>lv::V9 c
 | .loop lv _ c=>lv::V9 c
 | .rfun lv rd lt _=>[[rd.key],lv,lt]
 | _=>[]
abbrev sr (lv:List Nat) (o:List Z0) (r:IC):IC:=.seq (.reg lv o) r
abbrev no:IC:=.skip
abbrev cd (lv:List Nat) (t:Nat):IC→IC→IC:=IC.cond lv (.t t)
abbrev al (d:Nat) (z:List Z):Z0:=⟨some d,none,.alloc z⟩
abbrev aa (d k:Nat) (z:List Z):Z0:=⟨some d,none,.allocAt k z⟩
abbrev cF (P:Program) (k:Nat) (F:Zg):=Vz P k false (V9 F.body)
abbrev zS:List Z:=[zi,zi,.s 6,.s 8,zi,.s 3,.s 11,.s 2,zi]
abbrev zR:List Z:=[zi,zi,zi,zi,zi,zi,zb,.s 6,.s 8]
abbrev gQ:List AV:=[gi,gi,gi,gb,gs,gs,gi,gi,gi,gi,gn,gn,gn]
abbrev gR:List AV:=[gi,gi,gi,gi,gi,gi,gb,gn,gn]
end Go.IR
