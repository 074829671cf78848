/- The laws WireBack and WireReplies. -/
import Derived.Test.YtenndgooepdmiaaLLive03
namespace Go.Proofs.Ytenndgooepdmiaa
open Go Go.AM Go.Proofs
set_option maxRecDepth 20000
set_option maxHeartbeats 2000000
set_option linter.unusedSimpArgs false
set_option linter.unusedVariables false
theorem encReq_len {r : Req} (h : reqOk r = true) : (encReq r).length ≤ 2000 := by
  have hk := reqOk_iff h
  obtain ⟨j1, j2⟩ := mutsOk_iff.1 hk.m1
  obtain ⟨j3, j4⟩ := mutsOk_iff.1 hk.m2
  have a1 := encHead_len hk
  have a2 := encCmps_len hk.i1 hk.i2
  have a3 := encMuts_len j1 j2
  have a4 := encMuts_len j3 j4
  simp only [encReq, List.length_append]; omega
theorem encTell_len {r : Reply} (h : repOk r = true) : (encTell r).length ≤ 9000 := by
  have hk := repOk_iff h
  have a1 := encTHead_len hk
  have c1 := flat_len (f := encKV) r.kvs.l (fun x hx => encKV_len (hk.i2 x hx))
  have c2 := flat_len (f := encEv) r.events.l (fun x hx => encEv_len (hk.j2 x hx))
  have hle := encN_len r.events.l.length (by have := hk.j1; omega)
  have i1 := hk.i1
  have j1 := hk.j1
  simp only [encTell, List.length_append]; omega
theorem askedQ_ok {s : Bs} (h : askedOk s = true) : reqOk (askedQ s) = true ∧ encReq (askedQ s) = s := by
  unfold askedQ; rw [if_pos h]; exact asked_inv h
theorem toldQ_ok {s : Bs} (h : toldOk s = true) : repOk (toldQ s) = true ∧ encTell (toldQ s) = s := by
  unfold toldQ; rw [if_pos h]; exact told_inv h
theorem WireBack_law (x0 : Req) (x1 : Bs) (w0 : x0.wf) (w1 : S64 x1) : EvF tab 5 [A x0.c, T x1] [] = some ⟨.g (.bool true), [], []⟩ := by
  have m1 := fun H => Short_ev x0 w0 H
  have m2 := fun H => Ask_ev x0 (rl w0) H
  have m3 := fun H => Asked_ev (if reqOk x0 = true then encReq x0 else []) (by split; · rename_i h; have := encReq_len h; omega
                                                                               · simp) H
  have m4 := fun H => MayAsk_ev x0 (rl w0) H
  have m5 := fun H => Asked_ev x1 w1 H
  have hrl := askedQ_rl x1
  have m6 := fun H => Ask_ev (askedQ x1) ⟨by omega, by omega, by omega⟩ H
  have hs : reqOk x0 = true → sameReq (askedQ (encReq x0)) x0 := fun h => by rw [askedQ_enc h]; exact sameReq_un x0
  have m7 := fun (h : reqOk x0 = true) H => Same_ev (askedQ (encReq x0)) x0 (hs h) (rl w0).1 (rl w0).2.1 (rl w0).2.2 H
  have hq := @askedQ_ok x1
  refine EvF_walk t5 (by simp) ?_
  generalize shortReq x0 = b1 at m1
  generalize askedQ x1 = p at m5 m6 hq
  obtain ⟨p1, p2, p3, p4, p5, p6, p7, p8, p9, p10, p11, p12, p13⟩ := p
  obtain ⟨y1, y2, y3, y4, y5, y6, y7, y8, y9, y10, y11, y12, y13⟩ := x0
  simp only [A, Req.c, List.map_cons, List.map_nil] at m1 m2 m4 m5 m6
  cases b1
  · simp -implicitDefEqProofs [A, Req.c, m1, live03]
  · by_cases h6 : x1.length ≤ 600
    · have h6' : ¬ (600 : Int) < (x1.length : Int) := by omega
      have fin : askedOk x1 = true → reqOk ⟨p1, p2, p3, p4, p5, p6, p7, p8, p9, p10, p11, p12, p13⟩ = true ∧ encReq ⟨p1, p2, p3, p4, p5, p6, p7, p8, p9, p10, p11, p12, p13⟩ = x1 := hq
      generalize reqOk ⟨p1, p2, p3, p4, p5, p6, p7, p8, p9, p10, p11, p12, p13⟩ = b3 at m6 fin
      generalize encReq ⟨p1, p2, p3, p4, p5, p6, p7, p8, p9, p10, p11, p12, p13⟩ = t3 at m6 fin
      generalize askedOk x1 = b4 at m5 fin
      cases hok : reqOk ⟨y1, y2, y3, y4, y5, y6, y7, y8, y9, y10, y11, y12, y13⟩
      · rw [hok] at m2 m3 m4
        simp only [Bool.false_eq_true, if_false] at m2 m3
        generalize askedOk [] = b5 at m3
        generalize askedQ [] = q at m3
        obtain ⟨q1, q2, q3, q4, q5, q6, q7, q8, q9, q10, q11, q12, q13⟩ := q
        simp only [A, Req.c, List.map_cons, List.map_nil] at m3
        cases b4
        · simp -implicitDefEqProofs [A, Req.c, m1, h6', m2, m3, m4, m5, m6, live03, zres]
          cases b3 <;> simp -implicitDefEqProofs [live03, zres]
        · obtain ⟨rfl, rfl⟩ := fin rfl
          simp -implicitDefEqProofs [A, Req.c, m1, h6', m2, m3, m4, m5, m6, live03, zres]
      · have m7 := m7 hok
        have hb := (asked_enc hok).1
        rw [hok] at m2 m3 m4
        simp only [if_true] at m2 m3
        rw [hb] at m3
        generalize encReq ⟨y1, y2, y3, y4, y5, y6, y7, y8, y9, y10, y11, y12, y13⟩ = t at m2 m3 m7
        generalize askedQ t = q at m3 m7
        obtain ⟨q1, q2, q3, q4, q5, q6, q7, q8, q9, q10, q11, q12, q13⟩ := q
        simp only [A, Req.c, List.map_cons, List.map_nil] at m3 m7
        cases b4
        · simp -implicitDefEqProofs [A, Req.c, m1, h6', m2, m3, m4, m5, m6, m7, live03, zres]
          cases b3 <;> simp -implicitDefEqProofs [live03, zres]
        · obtain ⟨rfl, rfl⟩ := fin rfl
          simp -implicitDefEqProofs [A, Req.c, m1, h6', m2, m3, m4, m5, m6, m7, live03, zres]
    · simp -implicitDefEqProofs [A, Req.c, m1, show (600 : Int) < (x1.length : Int) by omega, live03]
end Go.Proofs.Ytenndgooepdmiaa
