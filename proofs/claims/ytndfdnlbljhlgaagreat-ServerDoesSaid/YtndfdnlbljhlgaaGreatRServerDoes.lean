/- The law ServerDoes holds of the given program, for every input: the row's statement, out of what its function answers. No conditions. -/
import Derived.Test.YtndfdnlbljhlgaaGreatSPJ8
import Derived.Test.YtndfdnlbljhlgaaGreatRows
import Derived.WalkKit
import Derived.ProofKit
import Derived.OpenShut
import Derived.ShutString
import Derived.ChangeOld
import Derived.Below
import Derived.SizedLaws
namespace Go.Proofs.YtndfdnlbljhlgaaGreat
open Go Go.AM Go.Proofs
set_option maxRecDepth 100000
theorem ServerDoes_spec:∀gss,Rh Tryz.prog 9 [34,59] gss→EvF tab 5 (avs Tryz.prog [34,59] gss) []=some ⟨.g (.bool true),[],[]⟩:=by
 refine Zv0 (tys:=[(true,(.p (.p (.i .i64) (.p (.i .i64) (.p (.sl 6 (.p .s (.p .s (.p (.i .i64) (.p (.i .i64) (.p (.i .i64) (.p (.i .i64) .u))))))) (.p (.sl 8 (.p (.i .i64) (.p .b (.p (.p .s (.p .s (.p (.i .i64) (.p (.i .i64) (.p (.i .i64) (.p (.i .i64) .u)))))) .u)))) .u)))) (.p (.p (.i .i64) (.p (.sl 3 (.p (.i .i64) (.p (.i .i64) (.p (.i .i64) .u)))) .u)) (.p (.p (.sl 11 (.p (.i .i64) (.p (.i .i64) (.p (.p (.i .i64) (.p (.i .i64) (.p (.i .i64) (.p (.i .i64) (.p (.i .i64) (.p (.i .i64) (.p .b (.p (.sl 6 (.p .s (.p .s (.p (.i .i64) (.p (.i .i64) (.p (.i .i64) (.p (.i .i64) .u))))))) (.p (.sl 8 (.p (.i .i64) (.p .b (.p (.p .s (.p .s (.p (.i .i64) (.p (.i .i64) (.p (.i .i64) (.p (.i .i64) .u)))))) .u)))) .u))))))))) .u)))) (.p (.sl 2 (.p (.i .i64) (.p (.i .i64) .u))) .u)) (.p (.i .i64) .u))))),(true,(.p (.i .i64) (.p (.i .i64) (.p (.i .i64) (.p .b (.p .s (.p .s (.p (.i .i64) (.p (.i .i64) (.p (.i .i64) (.p (.i .i64) (.p (.p (.sl 5 (.p .s (.p (.i .i64) (.p (.i .i64) (.p (.i .i64) (.p .s .u)))))) (.p (.sl 4 (.p .b (.p .s (.p .s (.p (.i .i64) .u))))) (.p (.sl 4 (.p .b (.p .s (.p .s (.p (.i .i64) .u))))) .u))) .u))))))))))))]) (by kernel_rfl) fun gss h => ?_
 obtain ⟨g0,gs,rfl,h0,h⟩:=h.cons_inv
 obtain ⟨g1,gs,rfl,h1,h⟩:=h.cons_inv
 obtain rfl:=h.nil_inv
 obtain ⟨x0,w0,rfl⟩:=Zf.inv h0
 obtain ⟨x1,w1,rfl⟩:=Req.inv h1
 exact Dj x0 x1 w0 w1
end Go.Proofs.YtndfdnlbljhlgaaGreat
namespace Go.Proofs.YtndfdnlbljhlgaaGreat.serverDoes
open Go.ChangeShapes Go.WideShapes Go.ChangeAt Go.RowKit
set_option linter.unusedVariables false
theorem own:ownKnob Tryz.prog.godebug=none:=by kernel_rfl
theorem laidOut:laidOutB Tryz.prog=true:=by kernel_rfl
set_option maxRecDepth 100000 in
theorem lifted (os:Os) (started:os.Started) (H:Type) (enc:TypeId×Value→H) :
  ReturnsInHanded {} Tryz.checked os 5 .any (Rows.serverDoesSpec.pre6 enc Tryz.prog Tryz.f5 Rows.serverDoesRow.domain false) (Rows.serverDoesSpec.post enc Tryz.prog Tryz.f5 false true false false):=by
 refine returnsInHanded_of_change_sized (C:=Tryz.checked) own started (by kernel_rfl) Tryz.func5
  (ChangeSpec.witness6 (enc:=enc) (C:=Tryz.checked) false ⟨#[],#[.agg #[.int .i64 0,.int .i64 0,.slice none 0 0,.slice none 0 0,.int .i64 0,.slice none 0 0,.slice none 0 0,.slice none 0 0,.int .i64 0],.agg #[.int .i64 0,.int .i64 0,.int .i64 0,.bool false,.string ⟨#[]⟩,.string ⟨#[]⟩,.int .i64 0,.int .i64 0,.int .i64 0,.int .i64 0,.slice none 0 0,.slice none 0 0,.slice none 0 0]],[]⟩ 8 (by kernel_rfl) (by kernel_rfl) (by kernel_rfl) (by kernel_rfl)) ?_
 intro W base args ds gs before hval0 hW hcnd hsz0 _
 have hval:∀(j:Nat) t v,Tryz.f5.params[j]? = some t→args[j]? = some v→Value.okWide Tryz.prog W .any base t v:=hval0
 have hW':=hW
 obtain ⟨p,q,hA0,hV,rfl,hfz,hnd⟩:=hW
 have hA:DataW.TrodAll enc Tryz.prog W 0 (fun _=>true) true Tryz.f5.params.toList args.toList ds p:=hA0
 rw [Tryz.params5] at hA hval
 have calls:=Go.AM.law_calls (f:=5) Z5y t5 (d:=9) (ts:=[34,59]) (by kernel_rfl) hA (fun j t v ht hv=>hval j t v (by simpa using ht) hv) ServerDoes_spec
 obtain ⟨v0,vs0,d0,ds0,p0,q0,hargs,rfl,rfl,h0,r0⟩:=trodAll_cons hA
 obtain ⟨v1,vs1,d1,ds1,p1,q1,rfl,rfl,rfl,h1,r1⟩:=trodAll_cons r0
 obtain ⟨rfl,rfl,rfl⟩:=trodAll_nil r1
 obtain rfl:args = #[v0,v1]:=by cases args;simp_all
 obtain ⟨rfl,rfl⟩:=trodVars_none hV
 have lt0:∀x∈p0,x.block<W.heap.size:=by obtain ⟨m,hm⟩:=h0;exact DataW.trod_lt m _ _ _ hm
 have lt1:∀x∈p1,x.block<W.heap.size:=by obtain ⟨m,hm⟩:=h1;exact DataW.trod_lt m _ _ _ hm
 refine calls.mono fun e W' ⟨he,bel⟩ => ?_
 subst he
 exact ⟨_,rfl,_,_,_,[],_,[],hW',trodAll_mk1 (shut_bool (t:=4) (by kernel_rfl) _),(trodAll_cons_mk (Below.trod laidOut (by kernel_rfl) (of_decide_eq_true (by kernel_rfl)) h0 bel lt0) (trodAll_cons_mk (Below.trod laidOut (by kernel_rfl) (of_decide_eq_true (by kernel_rfl)) h1 bel lt1) trodAll_mk0)),rfl,bel.frame _,fun h=>by cases h⟩
theorem over:Rows.serverDoesRow.holds Tryz.pinned (OpenSpec.ofChange Rows.serverDoesSpec) :=
 OpenClaim.holds_of_wide 5 Tryz.f5 rfl rfl rfl rfl rfl rfl rfl ⟨rfl,rfl,rfl,rfl,rfl⟩ rfl rfl rfl rfl rfl (by kernel_rfl) Tryz.func5 (by kernel_rfl)
  (of_decide_eq_true (by kernel_rfl)) (by unfold Func.isWrapper;first | (rw [if_pos (by decide +kernel)];kernel_rfl) | (rw [if_neg (by decide +kernel)];exact ⟨rfl,rfl⟩))
  (fun os started H enc _=>lifted os started H enc)
theorem proved:Rows.ServerDoesSaid:=over
#print axioms proved
end Go.Proofs.YtndfdnlbljhlgaaGreat.serverDoes
namespace Go.Proofs.YtndfdnlbljhlgaaGreat
theorem serverDoes_holds:Rows.ServerDoesSaid:=serverDoes.proved
end Go.Proofs.YtndfdnlbljhlgaaGreat
