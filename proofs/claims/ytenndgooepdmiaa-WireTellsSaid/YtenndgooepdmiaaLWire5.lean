/- The law WireTells. -/
import Derived.Test.YtenndgooepdmiaaLWire1
import Derived.Test.YtenndgooepdmiaaSRefT4
namespace Go.Proofs.Ytenndgooepdmiaa
open Go Go.AM Go.Proofs
set_option maxRecDepth 20000
set_option maxHeartbeats 2000000
set_option linter.unusedSimpArgs false
set_option linter.unusedVariables false
theorem WireTells_law (x0 : Reply) (x1 : Bs) (w0 : x0.wf) (w1 : S64 x1) : EvF tab 4 [A x0.c, T x1] [] = some ⟨.g (.bool true), [], []⟩ := by
  have k1 := fun H => Few_ev x0.kvs (rp w0).1 40 H
  have k2 := fun H => FewEvents_ev x0.events (rp w0).2 40 H
  have m2 := fun H => Tell_ev x0 (rp w0) H
  have m3 := fun H => Tell2_ev x0 (rp w0) (H := H) (v1 := .g (KVs.g x0.kvs)) (v2 := .g (Evs.g x0.events)) (Rp.of x0.kvs) (Rp.of x0.events)
  have m4 := fun H => Told_ev x1 w1 H
  have m5 := fun H => Told2_ev x1 w1 H
  have m6 := fun H => MayTell_ev x0 (rp w0) H
  have m7 := fun H => MayTell2_ev x0 (rp w0) (H := H) (v1 := .g (KVs.g x0.kvs)) (v2 := .g (Evs.g x0.events)) (Rp.of x0.kvs) (Rp.of x0.events)
  have hrl := toldQ_rl x1
  have m8 := fun H => Alike_ev (toldQ x1) (toldQ x1) ⟨rfl, rfl, rfl, rfl, rfl, rfl, rfl, rfl, rfl⟩ (by omega) (by omega) H
  refine EvF_walk t4 (by simp) ?_
  generalize repOk x0 = b3 at m2 m3 m6 m7
  generalize encTell x0 = t at m2 m3
  generalize toldQ x1 = p at m4 m5 m8
  generalize toldOk x1 = b4 at m4 m5
  obtain ⟨p1, p2, p3, p4, p5, p6, p7, p8, p9⟩ := p
  obtain ⟨y1, y2, y3, y4, y5, y6, y7, y8, y9⟩ := x0
  simp only at k1 k2
  generalize (decide ((y8.l.length : Int) ≤ 40) && allP shortKV y8.l) = b1 at k1
  generalize (decide ((y9.l.length : Int) ≤ 40) && allP shortEv y9.l) = b2 at k2
  generalize hg1 : KVs.g y8 = G1 at k1
  generalize hg2 : Evs.g y9 = G2 at k2
  simp only [A, rc, Reply.c, List.map_cons, List.map_nil, hg1, hg2] at m2 m3 m4 m5 m6 m7 m8
  cases b1
  · simp -implicitDefEqProofs [A, Reply.c, hg1, hg2, k1, live03]
  · cases b2
    · simp -implicitDefEqProofs [A, Reply.c, hg1, hg2, k1, k2, live03]
    · by_cases h6 : x1.length ≤ 3000
      · have h6' : ¬ (3000 : Int) < (x1.length : Int) := by omega
        cases b3 <;> simp -implicitDefEqProofs [A, Reply.c, hg1, hg2, k1, k2, m2, m3, m4, m5, m6, m7, m8, h6', live03, zres]
      · simp -implicitDefEqProofs [A, Reply.c, hg1, hg2, k1, k2, show (3000 : Int) < (x1.length : Int) by omega, live03]
end Go.Proofs.Ytenndgooepdmiaa
