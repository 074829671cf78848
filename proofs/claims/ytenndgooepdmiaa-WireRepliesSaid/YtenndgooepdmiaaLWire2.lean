/- The law WireReplies. -/
import Derived.Test.YtenndgooepdmiaaLWire1
namespace Go.Proofs.Ytenndgooepdmiaa
open Go Go.AM Go.Proofs
set_option maxRecDepth 20000
set_option maxHeartbeats 2000000
set_option linter.unusedSimpArgs false
set_option linter.unusedVariables false
theorem WireReplies_law (x0 : Reply) (x1 : Bs) (w0 : x0.wf) (w1 : S64 x1) : EvF tab 6 [A x0.c, T x1] [] = some ⟨.g (.bool true), [], []⟩ := by
  have k1 := fun H => Few_ev x0.kvs (rp w0).1 40 H
  have k2 := fun H => FewEvents_ev x0.events (rp w0).2 40 H
  have m2 := fun H => Tell_ev x0 (rp w0) H
  have m3 := fun H => Told_ev (if repOk x0 = true then encTell x0 else []) (by split; · rename_i h; have := encTell_len h; omega
                                                                               · simp) H
  have m4 := fun H => MayTell_ev x0 (rp w0) H
  have m5 := fun H => Told_ev x1 w1 H
  have hrl := toldQ_rl x1
  have m6 := fun H => Tell_ev (toldQ x1) ⟨by omega, by omega⟩ H
  have hs : repOk x0 = true → sameRep (toldQ (encTell x0)) x0 := fun h => by rw [toldQ_enc h]; exact sameRep_un x0
  have m7 := fun (h : repOk x0 = true) H => Alike_ev (toldQ (encTell x0)) x0 (hs h) (rp w0).1 (rp w0).2 H
  have hq := @toldQ_ok x1
  refine EvF_walk t6 (by simp) ?_
  generalize toldQ x1 = p at m5 m6 hq
  obtain ⟨p1, p2, p3, p4, p5, p6, p7, p8, p9⟩ := p
  obtain ⟨y1, y2, y3, y4, y5, y6, y7, y8, y9⟩ := x0
  simp only at k1 k2
  generalize (decide ((y8.l.length : Int) ≤ 40) && allP shortKV y8.l) = b1 at k1
  generalize (decide ((y9.l.length : Int) ≤ 40) && allP shortEv y9.l) = b2 at k2
  generalize hg1 : KVs.g y8 = G1 at k1
  generalize hg2 : Evs.g y9 = G2 at k2
  simp only [A, Reply.c, List.map_cons, List.map_nil, hg1, hg2] at m2 m4 m5 m6
  cases b1
  · simp -implicitDefEqProofs [A, Reply.c, hg1, hg2, k1, live03]
  · cases b2
    · simp -implicitDefEqProofs [A, Reply.c, hg1, hg2, k1, k2, live03]
    · by_cases h6 : x1.length ≤ 3000
      · have h6' : ¬ (3000 : Int) < (x1.length : Int) := by omega
        have fin : toldOk x1 = true → repOk ⟨p1, p2, p3, p4, p5, p6, p7, p8, p9⟩ = true ∧ encTell ⟨p1, p2, p3, p4, p5, p6, p7, p8, p9⟩ = x1 := hq
        generalize repOk ⟨p1, p2, p3, p4, p5, p6, p7, p8, p9⟩ = b3 at m6 fin
        generalize encTell ⟨p1, p2, p3, p4, p5, p6, p7, p8, p9⟩ = t3 at m6 fin
        generalize toldOk x1 = b4 at m5 fin
        cases hok : repOk ⟨y1, y2, y3, y4, y5, y6, y7, y8, y9⟩
        · rw [hok] at m2 m3 m4
          simp only [Bool.false_eq_true, if_false] at m2 m3
          generalize toldOk [] = b5 at m3
          generalize toldQ [] = q at m3
          obtain ⟨q1, q2, q3, q4, q5, q6, q7, q8, q9⟩ := q
          simp only [A, Reply.c, List.map_cons, List.map_nil] at m3
          cases b4
          · simp -implicitDefEqProofs [A, Reply.c, hg1, hg2, k1, k2, h6', m2, m3, m4, m5, m6, live03, zres]
            cases b3 <;> simp -implicitDefEqProofs [live03, zres]
          · obtain ⟨rfl, rfl⟩ := fin rfl
            simp -implicitDefEqProofs [A, Reply.c, hg1, hg2, k1, k2, h6', m2, m3, m4, m5, m6, live03, zres]
        · have m7 := m7 hok
          have hb := (told_enc hok).1
          rw [hok] at m2 m3 m4
          simp only [if_true] at m2 m3
          rw [hb] at m3
          generalize encTell ⟨y1, y2, y3, y4, y5, y6, y7, y8, y9⟩ = t at m2 m3 m7
          generalize toldQ t = q at m3 m7
          obtain ⟨q1, q2, q3, q4, q5, q6, q7, q8, q9⟩ := q
          simp only [A, Reply.c, List.map_cons, List.map_nil, hg1, hg2] at m3 m7
          cases b4
          · simp -implicitDefEqProofs [A, Reply.c, hg1, hg2, k1, k2, h6', m2, m3, m4, m5, m6, m7, live03, zres]
            cases b3 <;> simp -implicitDefEqProofs [live03, zres]
          · obtain ⟨rfl, rfl⟩ := fin rfl
            simp -implicitDefEqProofs [A, Reply.c, hg1, hg2, k1, k2, h6', m2, m3, m4, m5, m6, m7, live03, zres]
      · simp -implicitDefEqProofs [A, Reply.c, hg1, hg2, k1, k2, show (3000 : Int) < (x1.length : Int) by omega, live03]
end Go.Proofs.Ytenndgooepdmiaa
