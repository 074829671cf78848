/- The law ServerGrants holds of the given program, for every input: the row's statement, out of what its function answers. No conditions. -/
import Derived.Test.YtndfdnlbljhlgaaGreatSPJ7
import Derived.Test.YtndfdnlbljhlgaaGreatRows
import Derived.WalkKit
import Derived.ProofKit
import Derived.OpenShut
import Derived.ShutString
import Derived.ChangeOld
import Derived.Below
import Derived.SizedLaws
namespace Go.Proofs.YtndfdnlbljhlgaaGreat
open Go Go.AM Go.Proofs
set_option maxRecDepth 100000
theorem ServerGrants_spec:∀gss,TypAll Tryz.prog 9 [3,46,47] gss→EvF tab 4 (avs Tryz.prog [3,46,47] gss) []=some ⟨.g (.bool true),[],[]⟩:=by
 refine spec_of (tys:=[(false,(.i .i64)),(false,(.sl 1 (.i .i64))),(false,(.sl 1 .b))]) (by kernel_rfl) fun gss h => ?_
 obtain ⟨g0,gs,rfl,h0,h⟩:=h.cons_inv
 obtain ⟨g1,gs,rfl,h1,h⟩:=h.cons_inv
 obtain ⟨g2,gs,rfl,h2,h⟩:=h.cons_inv
 obtain rfl:=h.nil_inv
 obtain ⟨x0,w0,rfl⟩:=ti_inv h0
 obtain ⟨x1,w1,rfl⟩:=tis_inv h1
 obtain ⟨x2,w2,rfl⟩:=tbs_inv h2
 exact ServerGrants_law x0 x1 x2 w0 w1 w2
end Go.Proofs.YtndfdnlbljhlgaaGreat
namespace Go.Proofs.YtndfdnlbljhlgaaGreat.serverGrants
open Go.ChangeShapes Go.WideShapes Go.ChangeAt Go.RowKit
set_option linter.unusedVariables false
theorem own:ownKnob Tryz.prog.godebug=none:=by kernel_rfl
theorem laidOut:laidOutB Tryz.prog=true:=by kernel_rfl
set_option maxRecDepth 100000 in
theorem lifted (os:Os) (started:os.Started) (H:Type) (enc:TypeId×Value→H) :
  ReturnsInHanded {} Tryz.checked os 4 .any (Rows.serverGrantsSpec.pre6 enc Tryz.prog Tryz.f4 Rows.serverGrantsRow.domain false) (Rows.serverGrantsSpec.post enc Tryz.prog Tryz.f4 false true false false):=by
 refine returnsInHanded_of_change_sized (C:=Tryz.checked) own started (by kernel_rfl) Tryz.func4
  (ChangeSpec.witness6 (enc:=enc) (C:=Tryz.checked) false ⟨#[],#[.int .i64 0,.slice none 0 0,.slice none 0 0],[]⟩ 8 (by kernel_rfl) (by kernel_rfl) (by kernel_rfl) (by kernel_rfl)) ?_
 intro W base args ds gs before hval0 hW hcnd hsz0 _
 have hval:∀(j:Nat) t v,Tryz.f4.params[j]? = some t→args[j]? = some v→Value.okWide Tryz.prog W .any base t v:=hval0
 have hW':=hW
 obtain ⟨p,q,hA0,hV,rfl,hfz,hnd⟩:=hW
 have hA:DataW.TrodAll enc Tryz.prog W 0 (fun _=>true) true Tryz.f4.params.toList args.toList ds p:=hA0
 rw [Tryz.params4] at hA hval
 have calls:=Go.AM.law_calls (f:=4) tabOk t4 (d:=9) (ts:=[3,46,47]) (by kernel_rfl) hA (fun j t v ht hv=>hval j t v (by simpa using ht) hv) ServerGrants_spec
 obtain ⟨v0,vs0,d0,ds0,p0,q0,hargs,rfl,rfl,h0,r0⟩:=trodAll_cons hA
 obtain ⟨v1,vs1,d1,ds1,p1,q1,rfl,rfl,rfl,h1,r1⟩:=trodAll_cons r0
 obtain ⟨v2,vs2,d2,ds2,p2,q2,rfl,rfl,rfl,h2,r2⟩:=trodAll_cons r1
 obtain ⟨rfl,rfl,rfl⟩:=trodAll_nil r2
 obtain rfl:args = #[v0,v1,v2]:=by cases args;simp_all
 obtain ⟨rfl,rfl⟩:=trodVars_none hV
 have lt0:∀x∈p0,x.block<W.heap.size:=by obtain ⟨m,hm⟩:=h0;exact DataW.trod_lt m _ _ _ hm
 have lt1:∀x∈p1,x.block<W.heap.size:=by obtain ⟨m,hm⟩:=h1;exact DataW.trod_lt m _ _ _ hm
 have lt2:∀x∈p2,x.block<W.heap.size:=by obtain ⟨m,hm⟩:=h2;exact DataW.trod_lt m _ _ _ hm
 refine calls.mono fun e W' ⟨he,bel⟩ => ?_
 subst he
 exact ⟨_,rfl,_,_,_,[],_,[],hW',trodAll_mk1 (shut_bool (t:=4) (by kernel_rfl) _),(trodAll_cons_mk (Below.trod laidOut (by kernel_rfl) (of_decide_eq_true (by kernel_rfl)) h0 bel lt0) (trodAll_cons_mk (Below.trod laidOut (by kernel_rfl) (of_decide_eq_true (by kernel_rfl)) h1 bel lt1) (trodAll_cons_mk (Below.trod laidOut (by kernel_rfl) (of_decide_eq_true (by kernel_rfl)) h2 bel lt2) trodAll_mk0))),rfl,bel.frame _,fun h=>by cases h⟩
theorem over:Rows.serverGrantsRow.holds Tryz.pinned (OpenSpec.ofChange Rows.serverGrantsSpec) :=
 OpenClaim.holds_of_wide 4 Tryz.f4 rfl rfl rfl rfl rfl rfl rfl ⟨rfl,rfl,rfl,rfl,rfl⟩ rfl rfl rfl rfl rfl (by kernel_rfl) Tryz.func4 (by kernel_rfl)
  (of_decide_eq_true (by kernel_rfl)) (by unfold Func.isWrapper;first | (rw [if_pos (by decide +kernel)];kernel_rfl) | (rw [if_neg (by decide +kernel)];exact ⟨rfl,rfl⟩))
  (fun os started H enc _=>lifted os started H enc)
theorem proved:Rows.ServerGrantsSaid:=over
#print axioms proved
end Go.Proofs.YtndfdnlbljhlgaaGreat.serverGrants
namespace Go.Proofs.YtndfdnlbljhlgaaGreat
theorem serverGrants_holds:Rows.ServerGrantsSaid:=serverGrants.proved
end Go.Proofs.YtndfdnlbljhlgaaGreat
