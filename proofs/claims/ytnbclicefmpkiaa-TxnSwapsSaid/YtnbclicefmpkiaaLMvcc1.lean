/- The laws MvccTells and MvccApplies. -/
import Derived.Test.YtnbclicefmpkiaaLLive05
namespace Go.Proofs.Ytnbclicefmpkiaa
open Go Go.AM Go.Proofs
set_option maxRecDepth 20000
set_option maxHeartbeats 4000000
set_option linter.unusedSimpArgs false
set_option linter.unusedVariables false
theorem atR_l (s : Store) (rev : Int) : (atR s rev).l = (atR2 s rev).l := by
  unfold atR atR2; split
  · rw [foldR_l, foldR2_l]
  · rfl
theorem atR2_len (s : Store) (rev : Int) : (atR2 s rev).l.length ≤ s.base.l.length + s.log.l.length := by
  unfold atR2; split
  · rw [foldR2_l]; exact foldP_len _ _ _
  · simp
theorem MvccTells_law (x0 : Store) (x1 : Int) (w0 : x0.wf) (w1 : I64 x1) : EvF tab 6 [A x0.c, I x1] [] = some ⟨.g (.bool true), [], []⟩ := by
  have m0 := fun H => FewS_ev x0 w0 H
  refine EvF_walk t6 (by simp) ?_
  cases hf : fewS x0
  · rw [hf] at m0
    generalize hc : x0.c = c at m0
    have hcl : ∃ a1 a2 a3 a4, c = [a1, a2, a3, a4] := by subst hc; exact ⟨_, _, _, _, rfl⟩
    obtain ⟨a1, a2, a3, a4, rfl⟩ := hcl
    simp only [A, List.map_cons, List.map_nil] at m0 ⊢
    simp -implicitDefEqProofs [live05, m0]
  · rw [hf] at m0
    have hsm := fewS_smallS hf
    have hsm2 := fewS_small hf
    have hl := atR2_len x0 x1
    have hn := foldP_len x0.rev x0.log.l x0.base.l
    have m1 := fun H => At_ev x0 x1 hsm H
    have m2 := fun H => At2_ev x0 x1 hsm H
    have m3 := fun H => May_ev x0 w0 H
    have m4 := fun H => May2_ev x0 w0 H
    have m5 := fun H => Now_ev x0 hsm H
    have m6 := fun H => Now2_ev x0 hsm H
    have m7 := fun H => KVs_ev (foldR x0.base x0.log.l x0.rev) (foldR2 x0.base x0.log.l x0.rev) (by rw [foldR_l, foldR2_l]) (by rw [foldR2_l]; omega) H
    have m8 := fun H => KVs_ev (atR x0 x1) (atR2 x0 x1) (atR_l x0 x1) (by omega) H
    generalize foldR x0.base x0.log.l x0.rev = n1 at m5 m7
    generalize foldR2 x0.base x0.log.l x0.rev = n2 at m6 m7
    generalize atR x0 x1 = r1 at m1 m8
    generalize atR2 x0 x1 = r2 at m2 m8
    generalize storeOk x0 = b at m3 m4
    generalize atE x0 x1 = e at m1 m2
    generalize hc : x0.c = c at m0 m1 m2 m3 m4 m5 m6
    have hcl : ∃ a1 a2 a3 a4, c = [a1, a2, a3, a4] := by subst hc; exact ⟨_, _, _, _, rfl⟩
    obtain ⟨a1, a2, a3, a4, rfl⟩ := hcl
    simp only [A, List.map_cons, List.map_nil] at m0 m1 m2 m3 m4 m5 m6 ⊢
    cases b <;> simp -implicitDefEqProofs [live05, m0, m1, m2, m3, m4, m5, m6, m7, m8]
end Go.Proofs.Ytnbclicefmpkiaa
