/- The law WireApart. -/
import Derived.Test.YtenndgooepdmiaaLWire1
namespace Go.Proofs.Ytenndgooepdmiaa
open Go Go.AM Go.Proofs
set_option maxRecDepth 20000
set_option maxHeartbeats 2000000
set_option linter.unusedSimpArgs false
set_option linter.unusedVariables false
theorem WireApart_law (x0 : Req) (x1 : Int) (x2 : Bs) (w0 : x0.wf) (w1 : I64 x1) (w2 : S64 x2) : EvF tab 7 [A x0.c, I x1, T x2] [] = some ⟨.g (.bool true), [], []⟩ := by
  have m1 := fun H => Short_ev x0 w0 H
  have m2 := fun H => Ask_ev x0 (rl w0) H
  by_cases hsh : shortReq x0 = true ∧ x2.length ≤ 100 ∧ reqOk x0 = true
  · obtain ⟨h1, h2, hok⟩ := hsh
    have h2' : ¬ (100 : Int) < (x2.length : Int) := by omega
    have hlen := encReq_len hok
    have m3 := fun H => Told_ev (encReq x0) (by omega) H
    have m4 := fun H => Asked_ev (encReq x0 ++ x2) (by simp; omega) H
    have e3 : toldOk (encReq x0) = false := by
      have := told_ask x0 (encReq x0).length
      rwa [List.take_length] at this
    have e4 := asked_more hok x2
    rw [e3] at m3
    rw [e4] at m4
    have hcat := cat (a := encReq x0) (b := x2) (by omega)
    have hcut := @asked_cut x0 hok
    have htold := told_ask x0
    rw [h1] at m1
    rw [hok] at m2
    simp only [if_true] at m2
    refine EvF_walk t7 (by simp) ?_
    have m5 := fun n H => Asked_ev ((encReq x0).take n) (by rw [List.length_take]; omega) H
    have m6 := fun n H => Told_ev ((encReq x0).take n) (by rw [List.length_take]; omega) H
    obtain ⟨y1, y2, y3, y4, y5, y6, y7, y8, y9, y10, y11, y12, y13⟩ := x0
    generalize encReq ⟨y1, y2, y3, y4, y5, y6, y7, y8, y9, y10, y11, y12, y13⟩ = t at m2 m3 m4 m5 m6 hcat hcut htold hlen
    have hl1 : t.length ≤ 9223372036854775807 := by omega
    have hl2 : t.length + x2.length ≤ 9223372036854775807 := by omega
    generalize toldQ t = p3 at m3
    generalize askedQ (t ++ x2) = p4 at m4
    obtain ⟨a1, a2, a3, a4, a5, a6, a7, a8, a9⟩ := p3
    obtain ⟨q1, q2, q3, q4, q5, q6, q7, q8, q9, q10, q11, q12, q13⟩ := p4
    simp only [A, Req.c, Reply.c, List.map_cons, List.map_nil] at m1 m2 m3 m4
    by_cases hc0 : x1 < 0
    · by_cases hx : x2 = []
      · subst hx
        simp only [List.append_nil] at m4
        simp -implicitDefEqProofs [A, Req.c, hl1, m1, m2, m3, m4, h2', hc0, live03, zres]
      · simp -implicitDefEqProofs [A, Req.c, hl2, m1, m2, m3, m4, h2', hc0, live03, zres, hx]
    · by_cases hc1 : (t.length : Int) ≤ x1
      · by_cases hx : x2 = []
        · subst hx
          simp only [List.append_nil] at m4
          simp -implicitDefEqProofs [A, Req.c, hl1, m1, m2, m3, m4, h2', hc0, hc1, live03, zres]
        · simp -implicitDefEqProofs [A, Req.c, hl2, m1, m2, m3, m4, h2', hc0, hc1, live03, zres, hx]
      · obtain ⟨n, rfl⟩ : ∃ n : Nat, x1 = n := ⟨x1.toNat, by omega⟩
        have hn : n < t.length := by omega
        have m5 := m5 n
        have m6 := m6 n
        rw [hcut n hn] at m5
        rw [htold n] at m6
        generalize toldQ (t.take n) = p3 at m6
        generalize askedQ (t.take n) = p4 at m5
        obtain ⟨u1, u2, u3, u4, u5, u6, u7, u8, u9⟩ := p3
        obtain ⟨v1, v2, v3, v4, v5, v6, v7, v8, v9, v10, v11, v12, v13⟩ := p4
        simp only [A, Req.c, Reply.c, List.map_cons, List.map_nil] at m5 m6
        by_cases hx : x2 = []
        · subst hx
          simp only [List.append_nil] at m4
          simp -implicitDefEqProofs [A, Req.c, hl1, m1, m2, m3, m4, m5, m6, h2', hc0, hc1, live03, zres, cutB, bnd, intOfA, hn, Nat.le_of_lt hn, Int.toNat_natCast]
        · simp -implicitDefEqProofs [A, Req.c, hl2, m1, m2, m3, m4, m5, m6, h2', hc0, hc1, live03, zres, cutB, bnd, intOfA, hx, hn, Nat.le_of_lt hn]
  · refine EvF_walk t7 (by simp) ?_
    generalize shortReq x0 = b1 at m1 hsh
    generalize reqOk x0 = b2 at m2 hsh
    obtain ⟨y1, y2, y3, y4, y5, y6, y7, y8, y9, y10, y11, y12, y13⟩ := x0
    simp only [A, Req.c, List.map_cons, List.map_nil] at m1 m2
    cases b1
    · simp -implicitDefEqProofs [A, Req.c, m1, live03]
    · by_cases h6 : x2.length ≤ 100
      · have h6' : ¬ (100 : Int) < (x2.length : Int) := by omega
        cases b2
        · simp -implicitDefEqProofs [A, Req.c, m1, m2, h6', live03, zres]
        · simp [h6] at hsh
      · simp -implicitDefEqProofs [A, Req.c, m1, show (100 : Int) < (x2.length : Int) by omega, live03]
end Go.Proofs.Ytenndgooepdmiaa
