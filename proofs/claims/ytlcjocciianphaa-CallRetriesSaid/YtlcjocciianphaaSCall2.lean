/- Calls: sent, told, compared. -/
import Derived.Test.YtlcjocciianphaaSCall
import Derived.Test.YtlcjocciianphaaSSame
namespace Go.Proofs.Ytlcjocciianphaa
open Go Go.AM Go.Proofs
set_option maxRecDepth 20000
set_option maxHeartbeats 1000000
set_option linter.unusedSimpArgs false
set_option linter.unusedVariables false
def req0 : Req := ⟨0, 0, 0, false, [], [], 0, 0, 0, 0, .nil, .nil, .nil⟩
def call0 : AM.Call := ⟨false, req0, 0, 0, 0⟩
def timOk (now : Int) : Bool := decide (0 ≤ now) && decide (now ≤ 1099511627775)
def sendsOk (c : AM.Call) (now : Int) : Bool := reqOk c.req && (c.on && decide (c.next ≤ now)) && timOk now
def sendsC (c : AM.Call) (now : Int) : AM.Call := if sendsOk c now = true then ⟨c.on, c.req, c.sent, now + pauseN c.tries, IntKind.i64.wrap (c.tries + 1)⟩ else c
def sendsT (c : AM.Call) (now : Int) : Bs := if sendsOk c now = true then encReq c.req else []
theorem Sends_ev (c : AM.Call) (w : c.wf) (now : Int) (H : List Blk) : EvF tab 48 [A c.c, I now] H = some ⟨.tup [A (sendsC c now).c, T (sendsT c now), B (sendsOk c now)], [], []⟩ := by
  have ha := fun H => Ask_ev c.req w.1 H
  have hd := fun H => Due_ev c now H
  have hp := fun H => Pause_ev c.tries H
  have hb := pauseN_bd c.tries
  refine EvF_walk t48 (by simp) ?_
  have hO : sendsOk c now = (reqOk c.req && (c.on && decide (c.next ≤ now)) && timOk now) := rfl
  unfold sendsC sendsT
  obtain ⟨on, r, sent, next, tries⟩ := c
  obtain ⟨kind, who, seq, once, key, value, lease, rev, ttl, token, iff, thn, els⟩ := r
  simp only at ha hd hp hb hO ⊢
  generalize encReq _ = er at ha ⊢
  generalize reqOk _ = b1 at ha hO
  simp only [A, Call.c, Req.c, List.map_cons, List.map_nil, List.cons_append, List.nil_append] at ha hd
  generalize (on && decide (next ≤ now)) = b2 at hd hO
  cases hs : sendsOk _ now <;> rw [hs] at hO
  · simp only [timOk] at hO
    cases b1
    · simp -implicitDefEqProofs [A, Call.c, Req.c, zres, ha, hd]
    · cases b2
      · simp -implicitDefEqProofs [A, Call.c, Req.c, zres, ha, hd]
      · by_cases h1 : now < 0
        · simp -implicitDefEqProofs [A, Call.c, Req.c, zres, ha, hd, h1]
        · have h2 : 1099511627775 < now := by
            rcases Int.lt_or_le 1099511627775 now with h | h
            · exact h
            · simp [show 0 ≤ now by omega, h] at hO
          simp -implicitDefEqProofs [A, Call.c, Req.c, zres, ha, hd, h1, h2]
  · symm at hO
    simp only [Bool.and_eq_true, timOk, decide_eq_true_eq] at hO
    obtain ⟨⟨rfl, rfl⟩, h1, h2⟩ := hO
    have e1 : IntKind.i64.wrap (now + pauseN tries) = now + pauseN tries := wrap_i64 (by omega) (by omega)
    simp -implicitDefEqProofs [A, Call.c, Req.c, zres, ha, hd, hp, e1, show ¬ now < 0 by omega, show ¬ 1099511627775 < now by omega]
theorem Sends2_ev (c : AM.Call) (w : c.wf) (now : Int) (H : List Blk) : EvF tab 49 [A c.c, I now] H = some ⟨.tup [A (sendsC c now).c, T (sendsT c now), B (sendsOk c now)], [], []⟩ := by
  have ha := fun H => Ask2_ev c.req w.1 H
  have hd := fun H => Due2_ev c now H
  have hp := fun H => Pause2_ev c.tries H
  have hb := pauseN_bd c.tries
  refine EvF_walk t49 (by simp) ?_
  have hO : sendsOk c now = (reqOk c.req && (c.on && decide (c.next ≤ now)) && timOk now) := rfl
  unfold sendsC sendsT
  obtain ⟨on, r, sent, next, tries⟩ := c
  obtain ⟨kind, who, seq, once, key, value, lease, rev, ttl, token, iff, thn, els⟩ := r
  simp only at ha hd hp hb hO ⊢
  generalize encReq _ = er at ha ⊢
  generalize reqOk _ = b1 at ha hO
  simp only [A, Call.c, Req.c, List.map_cons, List.map_nil, List.cons_append, List.nil_append] at ha hd
  generalize (on && decide (next ≤ now)) = b2 at hd hO
  cases hs : sendsOk _ now <;> rw [hs] at hO
  · simp only [timOk] at hO
    cases b2
    · cases b1 <;> simp -implicitDefEqProofs [A, Call.c, Req.c, zres, ha, hd]
    · cases b1
      · simp -implicitDefEqProofs [A, Call.c, Req.c, zres, ha, hd]
      · by_cases h1 : now < 0
        · simp -implicitDefEqProofs [A, Call.c, Req.c, zres, ha, hd, h1]
        · have h2 : 1099511627775 < now := by
            rcases Int.lt_or_le 1099511627775 now with h | h
            · exact h
            · simp [show 0 ≤ now by omega, h] at hO
          simp -implicitDefEqProofs [A, Call.c, Req.c, zres, ha, hd, h1, h2]
  · symm at hO
    simp only [Bool.and_eq_true, timOk, decide_eq_true_eq] at hO
    obtain ⟨⟨rfl, rfl⟩, h1, h2⟩ := hO
    have e1 : IntKind.i64.wrap (now + pauseN tries) = now + pauseN tries := wrap_i64 (by omega) (by omega)
    simp -implicitDefEqProofs [A, Call.c, Req.c, zres, ha, hd, hp, e1, show ¬ now < 0 by omega, show ¬ 1099511627775 < now by omega]
theorem is_ev (a b : Int) (p : Reply) (H : List Blk) : EvF tab 69 [.agg [I a, I b], A p.c] H = some ⟨B (decide (a = p.who) && decide (b = p.seq)), [], []⟩ := by
  refine EvF_walk t69 (by simp) ?_
  by_cases h1 : a = p.who <;> by_cases h2 : b = p.seq <;> simp -implicitDefEqProofs [A, Reply.c, h1, h2]
def getsOk (c : AM.Call) (p : Reply) : Bool := c.on && (decide (c.req.who = p.who) && decide (c.req.seq = p.seq))
def getsC (c : AM.Call) (p : Reply) : AM.Call := if getsOk c p = true then call0 else c
theorem Gets_ev (c : AM.Call) (p : Reply) (H : List Blk) : EvF tab 50 [A c.c, A p.c] H = some ⟨.tup [A (getsC c p).c, B (getsOk c p)], [], []⟩ := by
  have hi := fun H => is_ev c.req.who c.req.seq p H
  refine EvF_walk t50 (by simp) ?_
  have hO : getsOk c p = (c.on && (decide (c.req.who = p.who) && decide (c.req.seq = p.seq))) := rfl
  unfold getsC
  obtain ⟨on, r, sent, next, tries⟩ := c
  obtain ⟨kind, who, seq, once, key, value, lease, rev, ttl, token, iff, thn, els⟩ := r
  simp only at hi hO ⊢
  generalize (decide (who = p.who) && decide (seq = p.seq)) = b at hi hO
  simp only [A, Reply.c, List.map_cons, List.map_nil] at hi
  cases on <;> cases b <;> simp only [Bool.and_true, Bool.and_false, Bool.false_and, Bool.true_and] at hO <;> simp -implicitDefEqProofs [hO, A, Call.c, Req.c, Reply.c, zres, hi, call0, req0]
theorem Gets2_ev (c : AM.Call) (p : Reply) (H : List Blk) : EvF tab 51 [A c.c, A p.c] H = some ⟨.tup [A (getsC c p).c, B (getsOk c p)], [], []⟩ := by
  refine EvF_walk t51 (by simp) ?_
  have hO : getsOk c p = (c.on && (decide (c.req.who = p.who) && decide (c.req.seq = p.seq))) := rfl
  unfold getsC
  obtain ⟨on, r, sent, next, tries⟩ := c
  obtain ⟨kind, who, seq, once, key, value, lease, rev, ttl, token, iff, thn, els⟩ := r
  simp only at hO ⊢
  cases on
  · simp only [Bool.false_and] at hO
    simp -implicitDefEqProofs [hO, A, Call.c, Req.c, Reply.c, zres]
  · by_cases h1 : who = p.who
    · by_cases h2 : seq = p.seq
      · simp only [h1, h2, decide_true, Bool.and_true] at hO
        simp -implicitDefEqProofs [hO, h1, h2, A, Call.c, Req.c, Reply.c, zres, call0, req0]
      · simp only [h1, h2, decide_true, decide_false, Bool.and_true, Bool.and_false, Bool.true_and] at hO
        simp -implicitDefEqProofs [hO, h1, h2, Ne.symm h2, A, Call.c, Req.c, Reply.c, zres, call0, req0]
    · simp only [h1, decide_false, Bool.and_false, Bool.false_and] at hO
      simp -implicitDefEqProofs [hO, h1, Ne.symm h1, A, Call.c, Req.c, Reply.c, zres, call0, req0]
end Go.Proofs.Ytlcjocciianphaa
