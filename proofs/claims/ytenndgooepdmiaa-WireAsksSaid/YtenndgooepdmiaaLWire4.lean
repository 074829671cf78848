/- The law WireAsks. -/
import Derived.Test.YtenndgooepdmiaaLWire1
import Derived.Test.YtenndgooepdmiaaSRef5
namespace Go.Proofs.Ytenndgooepdmiaa
open Go Go.AM Go.Proofs
set_option maxRecDepth 20000
set_option maxHeartbeats 2000000
set_option linter.unusedSimpArgs false
set_option linter.unusedVariables false
theorem WireAsks_law (x0 : Req) (x1 : Bs) (w0 : x0.wf) (w1 : S64 x1) : EvF tab 3 [A x0.c, T x1] [] = some ⟨.g (.bool true), [], []⟩ := by
  have m1 := fun H => Short_ev x0 w0 H
  have m2 := fun H => Ask_ev x0 (rl w0) H
  have m3 := fun H => Ask2_ev x0 (rl w0) H
  have m4 := fun H => Asked_ev x1 w1 H
  have m5 := fun H => Asked2_ev x1 w1 H
  have m6 := fun H => MayAsk_ev x0 (rl w0) H
  have m7 := fun H => MayAsk2_ev x0 (rl w0) H
  have hrl := askedQ_rl x1
  have m8 := fun H => Same_ev (askedQ x1) (askedQ x1) ⟨rfl, rfl, rfl, rfl, rfl, rfl, rfl, rfl, rfl, rfl, rfl, rfl, rfl⟩ (by omega) (by omega) (by omega) H
  refine EvF_walk t3 (by simp) ?_
  generalize shortReq x0 = b1 at m1
  generalize reqOk x0 = b2 at m2 m3 m6 m7
  generalize encReq x0 = t at m2 m3
  generalize askedQ x1 = p at m4 m5 m8
  generalize askedOk x1 = b3 at m4 m5
  obtain ⟨p1, p2, p3, p4, p5, p6, p7, p8, p9, p10, p11, p12, p13⟩ := p
  obtain ⟨y1, y2, y3, y4, y5, y6, y7, y8, y9, y10, y11, y12, y13⟩ := x0
  simp only [A, Req.c, List.map_cons, List.map_nil] at m1 m2 m3 m4 m5 m6 m7 m8
  cases b1
  · simp -implicitDefEqProofs [A, Req.c, m1, live03]
  · by_cases h6 : x1.length ≤ 600
    · have h6' : ¬ (600 : Int) < (x1.length : Int) := by omega
      cases b2 <;> simp -implicitDefEqProofs [A, Req.c, m1, m2, m3, m4, m5, m6, m7, m8, h6', live03, zres]
    · simp -implicitDefEqProofs [A, Req.c, m1, show (600 : Int) < (x1.length : Int) by omega, live03]
end Go.Proofs.Ytenndgooepdmiaa
