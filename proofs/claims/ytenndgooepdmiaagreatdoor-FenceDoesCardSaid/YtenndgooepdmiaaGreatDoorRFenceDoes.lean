/- The law FenceDoes holds of the given program, for every input: the row's statement, out of what its function answers. No conditions. -/
import Derived.Test.YtenndgooepdmiaaGreatDoorSPJ4
import Derived.Test.YtenndgooepdmiaaGreatDoorAMJ4
import Derived.Test.YtenndgooepdmiaaGreatDoorRows
import Derived.Test.YtenndgooepdmiaaGreatDoorCards
import Derived.Test.YtenndgooepdmiaaGreatDoorTie
import Derived.WalkKit
import Derived.ProofKit
import Derived.OpenShut
import Derived.ShutString
import Derived.ChangeOld
import Derived.Below
import Derived.SizedLaws
import Derived.LaidMore
import Derived.SevenTiedAt
import Derived.Stop.LaidTwo
namespace Go.Proofs.YtenndgooepdmiaaGreatDoor
open Go Go.AM Go.Proofs
set_option maxRecDepth 100000
theorem FenceDoes_spec : ∀ gss, TypAll Tryz.prog 9 [24, 9, 3] gss → EvF tab 3 (avs Tryz.prog [24, 9, 3] gss) H0 = some ⟨.g (.bool true), [], []⟩ := by
  refine spec_ofH (tys := [(true, (.p (.i .i64) (.p .s (.p (.sl 3 (.p (.i .i64) (.p (.i .i64) (.p .s .u)))) .u)))), (false, .s), (false, (.i .i64))]) (by kernel_rfl) fun gss h => ?_
  obtain ⟨g0, gs, rfl, h0, h⟩ := h.cons_inv
  obtain ⟨g1, gs, rfl, h1, h⟩ := h.cons_inv
  obtain ⟨g2, gs, rfl, h2, h⟩ := h.cons_inv
  obtain rfl := h.nil_inv
  obtain ⟨x0, w0, rfl⟩ := Rsc.inv h0
  obtain ⟨x1, w1, rfl⟩ := ts_inv h1
  obtain ⟨x2, w2, rfl⟩ := ti_inv h2
  exact FenceDoes_law x0 x1 x2 w0 w1 w2
end Go.Proofs.YtenndgooepdmiaaGreatDoor
namespace Go.Proofs.YtenndgooepdmiaaGreatDoor.fenceDoes
open Go.ChangeShapes Go.WideShapes Go.ChangeAt Go.RowKit
set_option linter.unusedVariables false
theorem own : ownKnob Tryz.prog.godebug = none := by kernel_rfl
theorem laidOut : laidOutB Tryz.prog = true := by kernel_rfl
def laidX : List (String × DataW Unit) := [("baton/fence.errArg", Rows.laid_baton_fence_errArg), ("baton/fence.errStale", Rows.laid_baton_fence_errStale), ("baton/fence.errFull", Rows.laid_baton_fence_errFull)]
theorem gn0 : Tryz.prog.globalNamed "baton/fence.errArg" = some 0 := by kernel_rfl
theorem gt0 : (Tryz.prog.globals[0]?).map (·.type) = some 52 := by kernel_rfl
theorem gn1 : Tryz.prog.globalNamed "baton/fence.errStale" = some 1 := by kernel_rfl
theorem gt1 : (Tryz.prog.globals[1]?).map (·.type) = some 52 := by kernel_rfl
theorem gn2 : Tryz.prog.globalNamed "baton/fence.errFull" = some 2 := by kernel_rfl
theorem gt2 : (Tryz.prog.globals[2]?).map (·.type) = some 52 := by kernel_rfl
theorem cellsE : Tryz.prog.cellsOf 183 = 1 := by kernel_rfl
theorem cellsS : Tryz.prog.cellsOf 9 = 1 := by kernel_rfl
theorem star : "*" ++ "errors.errorString" = "*errors.errorString" := by decide
theorem rowE (u : TypeId) (h : Tryz.prog.typeName? 3 u = some "*errors.errorString") : u = 161 :=
  typeName_ptr_named (nm := "errors.errorString") (by rw [star]; kernel_rfl) (by kernel_rfl) (by decide) u (by rw [star]; exact h)
theorem front {W : World} (h : laidMetH Tryz.prog laidX W) : Go.AM.HR W H0 Go.AM.L00 := by
  rw [MakeChecks.laidMetH_plain _ _ _ (by kernel_rfl)] at h
  obtain ⟨a0, a1, s0, s1, c0, c1, t0, t1, hv0, hv1, hc0, hs0, hz0, hc1, hs1, hz1, hne, hb0, hb1⟩ := laid_sentinels2 h gn0 gt0 gn1 gt1 Tryz.underlying52 rowE Tryz.underlying161 Tryz.underlying183 rfl rfl Tryz.underlying9 cellsE cellsS
  obtain ⟨_, a2, _, s2, _, c2, _, t2, _, hv2, _, _, _, hc2, hs2, hz2, _, _, hb2⟩ := laid_sentinels2 h.tail gn1 gt1 gn2 gt2 Tryz.underlying52 rowE Tryz.underlying161 Tryz.underlying183 rfl rfl Tryz.underlying9 cellsE cellsS
  have k0 : W.cell? ⟨0, 0, none⟩ = some (.iface 161 (.pointer (some a0))) := by simpa using World.var?_cell gn0 hv0 0
  have k1 : W.cell? ⟨1, 0, none⟩ = some (.iface 161 (.pointer (some a1))) := by simpa using World.var?_cell gn1 hv1 0
  have k2 : W.cell? ⟨2, 0, none⟩ = some (.iface 161 (.pointer (some a2))) := by simpa using World.var?_cell gn2 hv2 0
  refine Go.AM.front_hr rfl fun id t s hid => ?_
  match id, hid with
  | 0, hid => cases hid; exact ⟨_, Go.AM.front_sen rfl 0 _ _ k0 hb0 hc0 hs0⟩
  | 1, hid => cases hid; exact ⟨_, Go.AM.front_sen rfl 1 _ _ k1 hb1 hc1 hs1⟩
  | 2, hid => cases hid; exact ⟨_, Go.AM.front_sen rfl 2 _ _ k2 hb2 hc2 hs2⟩
  | n + 3, hid => simp [H0] at hid
set_option maxRecDepth 100000 in
theorem door_met (os : Os) (args : Array Value) : laidMetH Tryz.prog laidX ((World.doorLaid Tryz.prog 66 os).forCall (fun _ _ => 0) ⟨#[], args, []⟩).memory :=
  laidMetH_of_parts3 (fuel := 8) (laidMet_of_run' 8 (by kernel_rfl) (by kernel_rfl)) (by kernel_rfl) (by kernel_rfl)
set_option maxRecDepth 100000 in
theorem lifted (os : Os) (started : os.Started) (H : Type) (enc : TypeId × Value → H) :
    ReturnsInHanded {} Tryz.checked os 3 .any (fun w args => (Rows.fenceDoesSpec.pre enc Tryz.prog Tryz.f3 [] false w args ∧ laidMetH Tryz.prog laidX w) ∧ sizedMet enc Tryz.prog Tryz.f3 (OpenSpec.ofChange Rows.fenceDoesSpec) false w args) (Rows.fenceDoesSpec.post enc Tryz.prog Tryz.f3 false true false false) := by
  refine returnsInHanded_of_change_and (C := Tryz.checked) (X := fun w _ => laidMetH Tryz.prog laidX w) (fun _ _ _ hh h => h.of_heap hh) own started (by kernel_rfl) Tryz.func3
    (ChangeSpec.witness_shaped (enc := enc) (C := Tryz.checked) (os := os) (X := fun w _ => laidMetH Tryz.prog laidX w) false (World.doorLaid Tryz.prog 66 os) #[.agg #[.int .i64 0, .string ⟨#[]⟩, .slice none 0 0], .string ⟨#[]⟩, .int .i64 0] 8 rfl (World.shaped_of_RefB (by kernel_rfl) (by kernel_rfl)) (by kernel_rfl) (by kernel_rfl) (by kernel_rfl) (door_met os _)) ?_
  intro W base args ds gs before hval0 hW _ _ hL _
  have hval : ∀ (j : Nat) t v, Tryz.f3.params[j]? = some t → args[j]? = some v → Value.okWide Tryz.prog W .any base t v := hval0
  have hW' := hW
  obtain ⟨p, q, hA0, hV, rfl, hfz, hnd⟩ := hW
  have hA : DataW.TrodAll enc Tryz.prog W 0 (fun _ => true) true Tryz.f3.params.toList args.toList ds p := hA0
  rw [Tryz.params3] at hA hval
  have calls := Go.AM.law_callsH (f := 3) tabOk t3 (d := 9) (ts := [24, 9, 3]) (H0 := H0) rfl (front hL) (by kernel_rfl) hA (fun j t v ht hv => hval j t v (by simpa using ht) hv) FenceDoes_spec
  obtain ⟨v0, vs0, d0, ds0, p0, q0, hargs, rfl, rfl, h0, r0⟩ := trodAll_cons hA
  obtain ⟨v1, vs1, d1, ds1, p1, q1, rfl, rfl, rfl, h1, r1⟩ := trodAll_cons r0
  obtain ⟨v2, vs2, d2, ds2, p2, q2, rfl, rfl, rfl, h2, r2⟩ := trodAll_cons r1
  obtain ⟨rfl, rfl, rfl⟩ := trodAll_nil r2
  obtain rfl : args = #[v0, v1, v2] := by cases args; simp_all
  obtain ⟨rfl, rfl⟩ := trodVars_none hV
  have lt0 : ∀ x ∈ p0, x.block < W.heap.size := by obtain ⟨m, hm⟩ := h0; exact DataW.trod_lt m _ _ _ hm
  have lt1 : ∀ x ∈ p1, x.block < W.heap.size := by obtain ⟨m, hm⟩ := h1; exact DataW.trod_lt m _ _ _ hm
  have lt2 : ∀ x ∈ p2, x.block < W.heap.size := by obtain ⟨m, hm⟩ := h2; exact DataW.trod_lt m _ _ _ hm
  refine calls.mono fun e W' ⟨he, bel⟩ => ?_
  subst he
  exact ⟨_, rfl, _, _, _, [], _, [], hW', trodAll_mk1 (shut_bool (t := 4) (by kernel_rfl) _), (trodAll_cons_mk (Below.trod laidOut (by kernel_rfl) (of_decide_eq_true (by kernel_rfl)) h0 bel lt0) (trodAll_cons_mk (Below.trod laidOut (by kernel_rfl) (of_decide_eq_true (by kernel_rfl)) h1 bel lt1) (trodAll_cons_mk (Below.trod laidOut (by kernel_rfl) (of_decide_eq_true (by kernel_rfl)) h2 bel lt2) trodAll_mk0))), rfl, bel.frame _, fun h => by cases h⟩
theorem over : Rows.fenceDoesRow.holds Tryz.pinned (OpenSpec.ofChange Rows.fenceDoesSpec) :=
  OpenClaim.holds_of_wide 3 Tryz.f3 rfl rfl rfl rfl rfl rfl rfl ⟨rfl, rfl, rfl, rfl, rfl⟩ rfl rfl rfl rfl rfl (by kernel_rfl) Tryz.func3 (by kernel_rfl)
    (of_decide_eq_true (by kernel_rfl)) (by unfold Func.isWrapper; first | (rw [if_pos (by decide +kernel)]; kernel_rfl) | (rw [if_neg (by decide +kernel)]; exact ⟨rfl, rfl⟩))
    (fun os started H enc _ => lifted os started H enc)
theorem proved : Rows.FenceDoesCardSaid :=
  Claim7.holds_tied_plain_at .later [] [.sentinel, .sentinel, .sentinel] true (true, "43cc5679d7efd2ce97624d0b3e449128b9cad3ff9479f14fa7805b1771c5628e") true over (fun _ h => by cases h) (by kernel_rfl) (fun _ h => by cases h) fenceDoes_row_tie rfl ⟨rfl, rfl⟩ (by kernel_rfl) rfl
    (fun f fn hf hfn => by
      obtain rfl : f = 3 := Option.some.inj ((show Tryz.prog.funcNamed "baton/batonlaw20.FenceDoes" = some 3 by kernel_rfl).symm.trans hf) |>.symm
      obtain rfl : fn = Tryz.f3 := (Option.some.inj (Tryz.func3.symm.trans hfn)).symm
      exact ⟨by kernel_rfl, fun j t ht => by
        rw [Tryz.params3] at ht
        have hm : t ∈ [24, 9, 3] := by simpa using Array.mem_of_getElem? ht
        have hall : ([24, 9, 3].all fun u => !Tryz.prog.wantsStandIn u) = true := by kernel_rfl
        exact (show Tryz.prog.wantsStandIn t = false by simpa using List.all_eq_true.1 hall t hm)⟩)
    (by kernel_rfl)
#print axioms proved
end Go.Proofs.YtenndgooepdmiaaGreatDoor.fenceDoes
namespace Go.Proofs.YtenndgooepdmiaaGreatDoor
/-- The card, under a short name, for the claim. -/
theorem fenceDoes_holds : Rows.FenceDoesCardSaid := fenceDoes.proved
end Go.Proofs.YtenndgooepdmiaaGreatDoor

