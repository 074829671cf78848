/- The laws CallSends and CallTold. -/
import Derived.Test.YtlcjocciianphaaLLive13
namespace Go.Proofs.Ytlcjocciianphaa
open Go Go.AM Go.Proofs
set_option maxRecDepth 20000
set_option maxHeartbeats 2000000
set_option linter.unusedSimpArgs false
set_option linter.unusedVariables false
theorem Same13r_ev (c : AM.Call) (w : c.req.wf) (H : List Blk) : EvF tab 39 [A c.c, A c.c] H = some ⟨B true, [], []⟩ := by
  have hs := fun H => Same_ev c.req c.req ⟨rfl, rfl, rfl, rfl, rfl, rfl, rfl, rfl, rfl, rfl, rfl, rfl, rfl⟩ w.2.2.2.2.2.2.2.2.2.1.2 w.2.2.2.2.2.2.2.2.2.2.1.2 w.2.2.2.2.2.2.2.2.2.2.2.2 H
  refine EvF_walk t39 (by simp) ?_
  obtain ⟨on, r, sent, next, tries⟩ := c
  obtain ⟨kind, who, seq, once, key, value, lease, rev, ttl, token, iff, thn, els⟩ := r
  simp only [A, Req.c, List.map_cons, List.map_nil] at hs
  simp -implicitDefEqProofs [A, Call.c, Req.c, hs]
theorem req0_wf : req0.wf := by
  refine ⟨I64_of ?_ ?_, I64_of ?_ ?_, I64_of ?_ ?_, ?_, ?_, I64_of ?_ ?_, I64_of ?_ ?_, I64_of ?_ ?_, I64_of ?_ ?_, ⟨?_, ?_⟩, ⟨?_, ?_⟩, ⟨?_, ?_⟩⟩ <;> simp [req0, S64]
theorem sendsC_req (c : AM.Call) (now : Int) : (sendsC c now).req = c.req := by unfold sendsC; split <;> rfl
theorem getsC_wf (c : AM.Call) (p : Reply) (w : c.req.wf) : (getsC c p).req.wf := by unfold getsC; split; exact req0_wf; exact w
theorem CallSends_law (x0 : AM.Call) (x1 : Int) (x2 : Reply) (w0 : x0.wf) (w1 : I64 x1) (w2 : x2.wf) : EvF tab 10 [A x0.c, I x1, A x2.c] [] = some ⟨.g (.bool true), [], []⟩ := by
  have m1 := fun H => Short_ev x0.req w0.1 H
  have m2 := fun H => Few_ev x2.kvs w2.2.2.2.2.2.2.1.2 40 H
  have m3 := fun H => FewEvents_ev x2.events w2.2.2.2.2.2.2.2.2 40 H
  have m4 := fun H => Sends_ev x0 w0 x1 H
  have m5 := fun H => Sends2_ev x0 w0 x1 H
  have m6 := fun H => Gets_ev x0 x2 H
  have m7 := fun H => Gets2_ev x0 x2 H
  have m8 := fun H => Due_ev x0 x1 H
  have m9 := fun H => Due2_ev x0 x1 H
  have m10 := fun H => Same13r_ev (sendsC x0 x1) (by rw [sendsC_req]; exact w0.1) H
  have m11 := fun H => Same13r_ev (getsC x0 x2) (getsC_wf x0 x2 w0.1) H
  refine EvF_walk t10 (by simp) ?_
  generalize shortReq x0.req = b1 at m1
  generalize (decide ((x2.kvs.l.length : Int) ≤ 40) && allP shortKV x2.kvs.l) = b2 at m2
  generalize (decide ((x2.events.l.length : Int) ≤ 40) && allP shortEv x2.events.l) = b3 at m3
  generalize sendsC x0 x1 = d at m4 m5 m10
  generalize sendsT x0 x1 = st at m4 m5
  generalize sendsOk x0 x1 = b4 at m4 m5
  generalize getsC x0 x2 = e at m6 m7 m11
  generalize getsOk x0 x2 = b5 at m6 m7
  generalize (x0.on && decide (x0.next ≤ x1)) = b6 at m8 m9
  generalize hg1 : KVs.g x2.kvs = G1 at m2
  generalize hg2 : Evs.g x2.events = G2 at m3
  simp only [A, Call.c, Req.c, Reply.c, List.map_cons, List.map_nil, List.cons_append, List.nil_append, hg1, hg2] at m1 m4 m5 m6 m7 m8 m9 m10 m11
  cases b1
  · simp -implicitDefEqProofs [A, Call.c, Req.c, Reply.c, hg1, hg2, m1, live13]
  · by_cases h : 1099511627775 < x0.tries
    · simp -implicitDefEqProofs [A, Call.c, Req.c, Reply.c, hg1, hg2, m1, h, live13]
    · cases b2
      · simp -implicitDefEqProofs [A, Call.c, Req.c, Reply.c, hg1, hg2, m1, h, m2, live13]
      · cases b3
        · simp -implicitDefEqProofs [A, Call.c, Req.c, Reply.c, hg1, hg2, m1, h, m2, m3, live13]
        · simp -implicitDefEqProofs [A, Call.c, Req.c, Reply.c, hg1, hg2, zres, m1, h, m2, m3, m4, m5, m6, m7, m8, m9, m10, m11, live13]
theorem CallTold_law (x0 : AM.Call) (x1 : Int) (x2 : Reply) (w0 : x0.wf) (w1 : I64 x1) (w2 : x2.wf) : EvF tab 12 [A x0.c, I x1, A x2.c] [] = some ⟨.g (.bool true), [], []⟩ := by
  have m1 := fun H => Short_ev x0.req w0.1 H
  have m2 := fun H => Gets_ev x0 x2 H
  obtain ⟨mine, hmine⟩ : ∃ m : Reply, m = ⟨x2.code, x0.req.who, x0.req.seq, x2.rev, x2.lease, x2.ttl, x2.yes, x2.kvs, x2.events⟩ := ⟨_, rfl⟩
  have m3 := fun H => Gets_ev x0 mine H
  have hown : getsOk x0 mine = x0.on := by simp [getsOk, hmine]
  obtain ⟨e, he⟩ : ∃ e, getsC x0 mine = e := ⟨_, rfl⟩
  have hon : e.on = false := by
    rw [← he]; unfold getsC; rw [hown]
    cases h : x0.on <;> simp [h, call0]
  have ewf : e.wf := by
    rw [← he]; unfold getsC
    split
    · exact ⟨req0_wf, I64_of (by simp [call0]) (by simp [call0]), I64_of (by simp [call0]) (by simp [call0]), I64_of (by simp [call0]) (by simp [call0])⟩
    · exact w0
  have m4 := fun H => Sends_ev e ewf x1 H
  have hs : sendsOk e x1 = false := by simp [sendsOk, hon]
  have m5 := fun H => Gets_ev e mine H
  have hg : getsOk e mine = false := by simp [getsOk, hon]
  have m6 := fun H => Same13r_ev x0 w0.1 H
  rw [he, hown] at m3
  simp only [sendsC, sendsT, hs, Bool.false_eq_true, if_false] at m4
  simp only [getsC, hg, Bool.false_eq_true, if_false] at m5
  have hex : x0.on = false → e = x0 := fun h => by rw [← he]; unfold getsC; rw [hown, h]; rfl
  refine EvF_walk t12 (by simp) ?_
  generalize shortReq x0.req = b1 at m1
  obtain ⟨d, hd⟩ : ∃ d, getsC x0 x2 = d := ⟨_, rfl⟩
  have hdx : getsOk x0 x2 = false → d = x0 := fun h => by rw [← hd]; unfold getsC; rw [h]; rfl
  have hO : getsOk x0 x2 = (x0.on && (decide (x0.req.who = x2.who) && decide (x0.req.seq = x2.seq))) := rfl
  rw [hd] at m2
  generalize hg1 : KVs.g x2.kvs = G1
  generalize hg2 : Evs.g x2.events = G2
  subst hmine
  simp only [A, Call.c, Req.c, Reply.c, List.map_cons, List.map_nil, List.cons_append, List.nil_append, hg1, hg2] at m1 m2 m3 m4 m5 m6
  cases b1
  · simp -implicitDefEqProofs [A, Call.c, Req.c, Reply.c, hg1, hg2, m1, live13]
  · by_cases h : 1099511627775 < x0.tries
    · simp -implicitDefEqProofs [A, Call.c, Req.c, Reply.c, hg1, hg2, m1, h, live13]
    · cases hon0 : x0.on
      · have e1 := hex hon0
        subst e1
        have hgo : getsOk e x2 = false := by rw [hO, hon0]; rfl
        have e2 := hdx hgo
        subst e2
        rw [hgo] at m2
        simp only [hon0] at m1 m2 m3 m4 m5 m6
        simp -implicitDefEqProofs [A, Call.c, Req.c, Reply.c, hg1, hg2, zres, m1, h, hon0, m2, m3, m4, m5, m6, live13]
      · simp only [hon0] at m1 m2 m3 m6 hO
        simp only [hon] at m3 m4 m5
        by_cases h1 : x0.req.who = x2.who
        · have k1 : (x2.who == x0.req.who) = true := by simp [h1]
          by_cases h2 : x0.req.seq = x2.seq
          · have k2 : (x2.seq == x0.req.seq) = true := by simp [h2]
            have hgo : getsOk x0 x2 = true := by rw [hO, h1, h2]; simp
            rw [hgo] at m2
            simp -implicitDefEqProofs [A, Call.c, Req.c, Reply.c, hg1, hg2, zres, m1, h, hon0, hon, m2, m3, m4, m5, m6, k1, k2, live13]
          · have hgo : getsOk x0 x2 = false := by rw [hO]; simp [h2]
            have e2 := hdx hgo
            simp only [e2, hgo, hon0] at m2
            simp -implicitDefEqProofs [A, Call.c, Req.c, Reply.c, hg1, hg2, zres, m1, h, hon0, hon, m2, m3, m4, m5, m6, k1, h2, Ne.symm h2, live13]
        · have hgo : getsOk x0 x2 = false := by rw [hO]; simp [h1]
          have e2 := hdx hgo
          simp only [e2, hgo, hon0] at m2
          simp -implicitDefEqProofs [A, Call.c, Req.c, Reply.c, hg1, hg2, zres, m1, h, hon0, hon, m2, m3, m4, m5, m6, h1, Ne.symm h1, live13]
end Go.Proofs.Ytlcjocciianphaa
