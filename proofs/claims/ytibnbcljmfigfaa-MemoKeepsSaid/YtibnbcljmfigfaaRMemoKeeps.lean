/- The law MemoKeeps holds of the given program, for every input: the row's statement, out of what its function answers. No conditions. -/
import Derived.Test.YtibnbcljmfigfaaLMemo5
import Derived.Test.YtibnbcljmfigfaaRows
import Derived.WalkKit
import Derived.ProofKit
import Derived.OpenShut
import Derived.ShutString
import Derived.ChangeOld
import Derived.Below
import Derived.SizedLaws
namespace Go.Proofs.Ytibnbcljmfigfaa
open Go Go.AM Go.Proofs
set_option maxRecDepth 100000
theorem MemoKeeps_spec : ∀ gss, TypAll Try.prog 9 [60, 26, 62] gss → EvF tab 9 (avs Try.prog [60, 26, 62] gss) [] = some ⟨.g (.bool true), [], []⟩ := by
  refine spec_of (tys := [(true, (.p (.sl 11 (.p (.i .i64) (.p (.i .i64) (.p (.p (.i .i64) (.p (.i .i64) (.p (.i .i64) (.p (.i .i64) (.p (.i .i64) (.p (.i .i64) (.p .b (.p (.sl 6 (.p .s (.p .s (.p (.i .i64) (.p (.i .i64) (.p (.i .i64) (.p (.i .i64) .u))))))) (.p (.sl 8 (.p (.i .i64) (.p .b (.p (.p .s (.p .s (.p (.i .i64) (.p (.i .i64) (.p (.i .i64) (.p (.i .i64) .u)))))) .u)))) .u))))))))) .u)))) (.p (.sl 2 (.p (.i .i64) (.p (.i .i64) .u))) .u))), (true, (.p (.i .i64) (.p (.i .i64) .u))), (true, (.p (.i .i64) (.p (.i .i64) (.p (.i .i64) (.p (.i .i64) (.p (.i .i64) (.p (.i .i64) (.p .b (.p (.sl 6 (.p .s (.p .s (.p (.i .i64) (.p (.i .i64) (.p (.i .i64) (.p (.i .i64) .u))))))) (.p (.sl 8 (.p (.i .i64) (.p .b (.p (.p .s (.p .s (.p (.i .i64) (.p (.i .i64) (.p (.i .i64) (.p (.i .i64) .u)))))) .u)))) .u))))))))))]) (by kernel_rfl) fun gss h => ?_
  obtain ⟨g0, gs, rfl, h0, h⟩ := h.cons_inv
  obtain ⟨g1, gs, rfl, h1, h⟩ := h.cons_inv
  obtain ⟨g2, gs, rfl, h2, h⟩ := h.cons_inv
  obtain rfl := h.nil_inv
  obtain ⟨x0, w0, rfl⟩ := Memos.inv h0
  obtain ⟨x1, w1, rfl⟩ := ti2_inv h1
  obtain ⟨x2, w2, rfl⟩ := Reply.inv h2
  exact MemoKeeps_law x0 x1 x2 w0 w1 w2
end Go.Proofs.Ytibnbcljmfigfaa
namespace Go.Proofs.Ytibnbcljmfigfaa.memoKeeps
open Go.ChangeShapes Go.WideShapes Go.ChangeAt Go.RowKit
set_option linter.unusedVariables false
theorem own : ownKnob Try.prog.godebug = none := by kernel_rfl
theorem laidOut : laidOutB Try.prog = true := by kernel_rfl
set_option maxRecDepth 100000 in
theorem lifted (os : Os) (started : os.Started) (H : Type) (enc : TypeId × Value → H) :
    ReturnsInHanded {} Try.checked os 9 .any (Rows.memoKeepsSpec.pre6 enc Try.prog Try.f9 Rows.memoKeepsRow.domain false) (Rows.memoKeepsSpec.post enc Try.prog Try.f9 false true false false) := by
  refine returnsInHanded_of_change_sized (C := Try.checked) own started (by kernel_rfl) Try.func9
    (ChangeSpec.witness6 (enc := enc) (C := Try.checked) false ⟨#[], #[.agg #[.slice none 0 0, .slice none 0 0], .agg #[.int .i64 0, .int .i64 0], .agg #[.int .i64 0, .int .i64 0, .int .i64 0, .int .i64 0, .int .i64 0, .int .i64 0, .bool false, .slice none 0 0, .slice none 0 0]], []⟩ 8 (by kernel_rfl) (by kernel_rfl) (by kernel_rfl) (by kernel_rfl)) ?_
  intro W base args ds gs before hval0 hW hcnd hsz0 _
  have hval : ∀ (j : Nat) t v, Try.f9.params[j]? = some t → args[j]? = some v → Value.okWide Try.prog W .any base t v := hval0
  have hW' := hW
  obtain ⟨p, q, hA0, hV, rfl, hfz, hnd⟩ := hW
  have hA : DataW.TrodAll enc Try.prog W 0 (fun _ => true) true Try.f9.params.toList args.toList ds p := hA0
  rw [Try.params9] at hA hval
  have calls := Go.AM.law_calls (f := 9) tabOk t9 (d := 9) (ts := [60, 26, 62]) (by kernel_rfl) hA (fun j t v ht hv => hval j t v (by simpa using ht) hv) MemoKeeps_spec
  obtain ⟨v0, vs0, d0, ds0, p0, q0, hargs, rfl, rfl, h0, r0⟩ := trodAll_cons hA
  obtain ⟨v1, vs1, d1, ds1, p1, q1, rfl, rfl, rfl, h1, r1⟩ := trodAll_cons r0
  obtain ⟨v2, vs2, d2, ds2, p2, q2, rfl, rfl, rfl, h2, r2⟩ := trodAll_cons r1
  obtain ⟨rfl, rfl, rfl⟩ := trodAll_nil r2
  obtain rfl : args = #[v0, v1, v2] := by cases args; simp_all
  obtain ⟨rfl, rfl⟩ := trodVars_none hV
  have lt0 : ∀ x ∈ p0, x.block < W.heap.size := by obtain ⟨m, hm⟩ := h0; exact DataW.trod_lt m _ _ _ hm
  have lt1 : ∀ x ∈ p1, x.block < W.heap.size := by obtain ⟨m, hm⟩ := h1; exact DataW.trod_lt m _ _ _ hm
  have lt2 : ∀ x ∈ p2, x.block < W.heap.size := by obtain ⟨m, hm⟩ := h2; exact DataW.trod_lt m _ _ _ hm
  refine calls.mono fun e W' ⟨he, bel⟩ => ?_
  subst he
  exact ⟨_, rfl, _, _, _, [], _, [], hW', trodAll_mk1 (shut_bool (t := 4) (by kernel_rfl) _), (trodAll_cons_mk (Below.trod laidOut (by kernel_rfl) (of_decide_eq_true (by kernel_rfl)) h0 bel lt0) (trodAll_cons_mk (Below.trod laidOut (by kernel_rfl) (of_decide_eq_true (by kernel_rfl)) h1 bel lt1) (trodAll_cons_mk (Below.trod laidOut (by kernel_rfl) (of_decide_eq_true (by kernel_rfl)) h2 bel lt2) trodAll_mk0))), rfl, bel.frame _, fun h => by cases h⟩
theorem over : Rows.memoKeepsRow.holds Try.pinned (OpenSpec.ofChange Rows.memoKeepsSpec) :=
  OpenClaim.holds_of_wide 9 Try.f9 rfl rfl rfl rfl rfl rfl rfl ⟨rfl, rfl, rfl, rfl, rfl⟩ rfl rfl rfl rfl rfl (by kernel_rfl) Try.func9 (by kernel_rfl)
    (of_decide_eq_true (by kernel_rfl)) (by unfold Func.isWrapper; first | (rw [if_pos (by decide +kernel)]; kernel_rfl) | (rw [if_neg (by decide +kernel)]; exact ⟨rfl, rfl⟩))
    (fun os started H enc _ => lifted os started H enc)
theorem proved : Rows.MemoKeepsSaid := over
#print axioms proved
end Go.Proofs.Ytibnbcljmfigfaa.memoKeeps
namespace Go.Proofs.Ytibnbcljmfigfaa
/-- The row, under a short name, for the claim. -/
theorem memoKeeps_holds : Rows.MemoKeepsSaid := memoKeeps.proved
end Go.Proofs.Ytibnbcljmfigfaa

