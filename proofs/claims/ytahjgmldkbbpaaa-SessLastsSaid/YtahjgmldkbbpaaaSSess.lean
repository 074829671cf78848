/- A client's session: what its functions answer, the program's and the reference's. -/
import Derived.Test.YtahjgmldkbbpaaaTabA
import Derived.Test.YtahjgmldkbbpaaaAMJ3
import Derived.KernelRfl
namespace Go.Proofs.Ytahjgmldkbbpaaa
open Go Go.AM Go.Proofs
set_option maxRecDepth 4000
set_option linter.unusedSimpArgs false
set_option linter.unusedVariables false
def safeN (ttl : Int) : Int := if 1 ≤ ttl ∧ ttl ≤ 1000 then 15 * ttl / 17 else 0
theorem safeN_bd (ttl : Int) : 0 ≤ safeN ttl ∧ safeN ttl ≤ 882 := by unfold safeN; split <;> omega
theorem Safe_ev (n : Int) (H : List Blk) : EvF tab 59 [I n] H = some ⟨I (safeN n), [], []⟩ := by
  refine EvF_walk t59 (by simp) ?_
  unfold safeN
  by_cases h1 : 1 ≤ n
  · by_cases h2 : n ≤ 1000
    · have e1 : IntKind.i64.wrap (n * 15) = n * 15 := wrap_i64 (by omega) (by omega)
      have e2 : IntKind.i64.wrap (n * 15 / 17) = 15 * n / 17 := by rw [wrap_i64 (by omega) (by omega)]; omega
      simp -implicitDefEqProofs [h1, h2, show ¬ n < 1 by omega, show ¬ 1000 < n by omega, e1, Int.tdiv_eq_ediv_of_nonneg, show 0 ≤ n * 15 by omega, e2]
    · simp -implicitDefEqProofs [h1, h2, show ¬ n < 1 by omega, show 1000 < n by omega]
  · simp -implicitDefEqProofs [h1, show n < 1 by omega]
theorem Safe2_ev (n : Int) (H : List Blk) : EvF tab 30 [I n] H = some ⟨I (safeN n), [], []⟩ := by
  refine EvF_walk t30 (by simp) ?_
  unfold safeN
  by_cases h1 : 1 ≤ n
  · by_cases h2 : n ≤ 1000
    · have e1 : IntKind.i64.wrap (15 * n) = 15 * n := wrap_i64 (by omega) (by omega)
      have e2 : IntKind.i64.wrap (15 * n / 17) = 15 * n / 17 := by rw [wrap_i64 (by omega) (by omega)]
      simp -implicitDefEqProofs [h1, h2, show ¬ n < 1 by omega, show ¬ 1000 < n by omega, e1, Int.tdiv_eq_ediv_of_nonneg, show 0 ≤ 15 * n by omega, e2]
    · simp -implicitDefEqProofs [h1, h2, show ¬ n < 1 by omega, show 1000 < n by omega]
  · simp -implicitDefEqProofs [h1, show n < 1 by omega]
theorem of_ev (n m : Int) (H : List Blk) : EvF tab 52 [I n, I m] H = some ⟨.agg [I (safeN n), I m], [], []⟩ := by
  refine EvF_walk t52 (by simp) ?_
  simp -implicitDefEqProofs [Safe_ev]
def timeOk (n : Int) : Bool := decide (0 ≤ n) && decide (n ≤ 1099511627775)
theorem may_ev (n m : Int) (H : List Blk) : EvF tab 53 [.agg [I n, I m]] H = some ⟨B (decide (0 < n) && timeOk m), [], []⟩ := by
  refine EvF_walk t53 (by simp) ?_
  by_cases h1 : 0 < n <;> by_cases h2 : 0 ≤ m <;> simp -implicitDefEqProofs [h1, h2, timeOk]
theorem end_ev (n m : Int) (H : List Blk) : EvF tab 54 [I n, I m] H = some ⟨I (IntKind.i64.wrap (m + n)), [], []⟩ := by
  refine EvF_walk t54 (by simp) ?_
  simp -implicitDefEqProofs
theorem half_ev (n m : Int) (H : List Blk) : EvF tab 55 [I n, I m] H = some ⟨I (IntKind.i64.wrap (m + n / 2)), [], []⟩ := by
  refine EvF_walk t55 (by simp) ?_
  simp -implicitDefEqProofs [Int.fdiv_eq_ediv_of_nonneg]
theorem time_ev (m : Int) (H : List Blk) : EvF tab 56 [I m] H = some ⟨B (timeOk m), [], []⟩ := by
  refine EvF_walk t56 (by simp) ?_
  by_cases h2 : 0 ≤ m <;> simp -implicitDefEqProofs [h2, timeOk]
def beginOk (sent : Int) (p : Reply) : Bool := decide (p.code = 0) && decide (1 ≤ p.lease) && (decide (0 < safeN p.ttl) && timeOk sent)
def beginS (sent : Int) (p : Reply) : Sess := if beginOk sent p = true then ⟨p.lease, p.ttl, sent + safeN p.ttl, sent + safeN p.ttl / 2⟩ else ⟨0, 0, 0, 0⟩
theorem timeOk_iff {n : Int} : timeOk n = true ↔ 0 ≤ n ∧ n ≤ 1099511627775 := by simp [timeOk]
theorem Begin_ev (sent : Int) (p : Reply) (H : List Blk) : EvF tab 17 [I sent, A p.c] H = some ⟨.tup [A (beginS sent p).c, B (beginOk sent p)], [], []⟩ := by
  refine EvF_walk t17 (by simp) ?_
  have hs := safeN_bd p.ttl
  unfold beginS
  by_cases h1 : p.code = 0
  · by_cases h2 : 1 ≤ p.lease
    · cases h3 : (decide (0 < safeN p.ttl) && timeOk sent)
      · simp -implicitDefEqProofs [A, Reply.c, Sess.c, of_ev, may_ev, end_ev, half_ev, beginOk, h1, h2, show ¬ p.lease < 1 by omega, h3]
      · have h4 := h3
        simp only [Bool.and_eq_true, decide_eq_true_eq, timeOk_iff] at h4
        have e1 : IntKind.i64.wrap (sent + safeN p.ttl) = sent + safeN p.ttl := wrap_i64 (by omega) (by omega)
        have e2 : IntKind.i64.wrap (sent + safeN p.ttl / 2) = sent + safeN p.ttl / 2 := wrap_i64 (by omega) (by omega)
        simp -implicitDefEqProofs [A, Reply.c, Sess.c, of_ev, may_ev, end_ev, half_ev, beginOk, h1, h2, show ¬ p.lease < 1 by omega, h3, e1, e2]
    · simp -implicitDefEqProofs [A, Reply.c, Sess.c, of_ev, may_ev, end_ev, half_ev, beginOk, h1, h2, show p.lease < 1 by omega]
  · simp -implicitDefEqProofs [A, Reply.c, Sess.c, of_ev, may_ev, end_ev, half_ev, beginOk, h1]
theorem Begin2_ev (sent : Int) (p : Reply) (H : List Blk) : EvF tab 18 [I sent, A p.c] H = some ⟨.tup [A (beginS sent p).c, B (beginOk sent p)], [], []⟩ := by
  refine EvF_walk t18 (by simp) ?_
  have hs := safeN_bd p.ttl
  unfold beginS
  by_cases h1 : p.code = 0
  · by_cases h2 : 1 ≤ p.lease
    · by_cases h3 : safeN p.ttl = 0
      · simp -implicitDefEqProofs [A, Reply.c, Sess.c, Safe2_ev, time_ev, beginOk, h1, h2, show ¬ p.lease < 1 by omega, h3]
      · cases h4 : timeOk sent
        · simp -implicitDefEqProofs [A, Reply.c, Sess.c, Safe2_ev, time_ev, beginOk, h1, h2, show ¬ p.lease < 1 by omega, h3, h4]
        · have h5 := timeOk_iff.1 h4
          have e1 : IntKind.i64.wrap (sent + safeN p.ttl) = sent + safeN p.ttl := wrap_i64 (by omega) (by omega)
          have e3 : IntKind.i64.wrap (safeN p.ttl / 2) = safeN p.ttl / 2 := wrap_i64 (by omega) (by omega)
          have e2 : IntKind.i64.wrap (sent + safeN p.ttl / 2) = sent + safeN p.ttl / 2 := wrap_i64 (by omega) (by omega)
          simp -implicitDefEqProofs [A, Reply.c, Sess.c, Safe2_ev, time_ev, beginOk, h1, h2, show ¬ p.lease < 1 by omega, h3, h4, e1, Int.tdiv_eq_ediv_of_nonneg, hs.1, e2, e3, show 0 < safeN p.ttl by omega]
    · simp -implicitDefEqProofs [A, Reply.c, Sess.c, Safe2_ev, time_ev, beginOk, h1, h2, show p.lease < 1 by omega]
  · simp -implicitDefEqProofs [A, Reply.c, Sess.c, Safe2_ev, time_ev, beginOk, h1]
def keptS (s : Sess) (sent : Int) (p : Reply) : Sess :=
  if p.code = 6 then ⟨0, 0, 0, 0⟩ else if p.code = 0 ∧ p.lease = s.lease ∧ timeOk sent = true then
    ⟨s.lease, s.ttl, if s.till < sent + safeN s.ttl then sent + safeN s.ttl else s.till, if s.keep < sent + safeN s.ttl / 2 then sent + safeN s.ttl / 2 else s.keep⟩ else s
theorem Kept_ev (s : Sess) (sent : Int) (p : Reply) (H : List Blk) : EvF tab 28 [A s.c, I sent, A p.c] H = some ⟨A (keptS s sent p).c, [], []⟩ := by
  refine EvF_walk t28 (by simp) ?_
  have hs := safeN_bd s.ttl
  unfold keptS
  by_cases h0 : p.code = 6
  · simp -implicitDefEqProofs [A, Reply.c, Sess.c, h0]
  · by_cases h1 : p.code = 0
    · by_cases h2 : p.lease = s.lease
      · by_cases h3 : 0 ≤ sent
        · by_cases h4 : sent ≤ 1099511627775
          · have e1 : IntKind.i64.wrap (sent + safeN s.ttl) = sent + safeN s.ttl := wrap_i64 (by omega) (by omega)
            have e2 : IntKind.i64.wrap (sent + safeN s.ttl / 2) = sent + safeN s.ttl / 2 := wrap_i64 (by omega) (by omega)
            by_cases h5 : s.till < sent + safeN s.ttl <;> by_cases h6 : s.keep < sent + safeN s.ttl / 2 <;>
            simp -implicitDefEqProofs [A, Reply.c, Sess.c, h1, h2, h3, show ¬ sent < 0 by omega, h4, show ¬ 1099511627775 < sent by omega, of_ev, end_ev, half_ev, e1, e2, timeOk, h5, h6]
          · simp -implicitDefEqProofs [A, Reply.c, Sess.c, h1, h2, h3, show ¬ sent < 0 by omega, h4, show 1099511627775 < sent by omega, timeOk]
        · simp -implicitDefEqProofs [A, Reply.c, Sess.c, h1, h2, h3, show sent < 0 by omega, timeOk]
      · simp -implicitDefEqProofs [A, Reply.c, Sess.c, h1, h2]
    · simp -implicitDefEqProofs [A, Reply.c, Sess.c, h0, h1]
theorem Kept2_ev (s : Sess) (sent : Int) (p : Reply) (H : List Blk) : EvF tab 29 [A s.c, I sent, A p.c] H = some ⟨A (keptS s sent p).c, [], []⟩ := by
  refine EvF_walk t29 (by simp) ?_
  have hs := safeN_bd s.ttl
  unfold keptS
  by_cases h0 : p.code = 6
  · simp -implicitDefEqProofs [A, Reply.c, Sess.c, h0]
  · by_cases h1 : p.code = 0
    · by_cases h2 : p.lease = s.lease
      · cases h4 : timeOk sent
        · simp -implicitDefEqProofs [A, Reply.c, Sess.c, h1, h2, time_ev, h4]
        · have h5 := timeOk_iff.1 h4
          have e1 : IntKind.i64.wrap (sent + safeN s.ttl) = sent + safeN s.ttl := wrap_i64 (by omega) (by omega)
          have e3 : IntKind.i64.wrap (safeN s.ttl / 2) = safeN s.ttl / 2 := wrap_i64 (by omega) (by omega)
          have e2 : IntKind.i64.wrap (sent + safeN s.ttl / 2) = sent + safeN s.ttl / 2 := wrap_i64 (by omega) (by omega)
          by_cases h5 : s.till < sent + safeN s.ttl <;> by_cases h6 : s.keep < sent + safeN s.ttl / 2 <;>
          simp -implicitDefEqProofs [A, Reply.c, Sess.c, h1, h2, time_ev, h4, Safe2_ev, e1, e2, e3, h5, h6, Int.tdiv_eq_ediv_of_nonneg, hs.1]
      · simp -implicitDefEqProofs [A, Reply.c, Sess.c, h1, h2]
    · simp -implicitDefEqProofs [A, Reply.c, Sess.c, h0, h1]
def aliveS (s : Sess) (now : Int) : Bool := !decide (s.lease = 0) && decide (now < s.till)
def dueS (s : Sess) (now : Int) : Bool := aliveS s now && decide (s.keep ≤ now)
theorem Alive_ev (s : Sess) (now : Int) (H : List Blk) : EvF tab 19 [A s.c, I now] H = some ⟨B (aliveS s now), [], []⟩ := by
  refine EvF_walk t19 (by simp) ?_
  by_cases h1 : s.lease = 0 <;> simp -implicitDefEqProofs [A, Sess.c, aliveS, h1]
theorem Alive2_ev (s : Sess) (now : Int) (H : List Blk) : EvF tab 20 [A s.c, I now] H = some ⟨B (aliveS s now), [], []⟩ := by
  refine EvF_walk t20 (by simp) ?_
  by_cases h1 : s.lease = 0 <;> simp -implicitDefEqProofs [A, Sess.c, aliveS, h1]
theorem Due_ev (s : Sess) (now : Int) (H : List Blk) : EvF tab 21 [A s.c, I now] H = some ⟨B (dueS s now), [], []⟩ := by
  refine EvF_walk t21 (by simp) ?_
  have a1 := fun H => Alive_ev s now H
  simp only [A, Sess.c, List.map_cons, List.map_nil] at a1
  cases h1 : aliveS s now <;> simp -implicitDefEqProofs [A, Sess.c, a1, dueS, h1]
theorem Due2_ev (s : Sess) (now : Int) (H : List Blk) : EvF tab 22 [A s.c, I now] H = some ⟨B (dueS s now), [], []⟩ := by
  refine EvF_walk t22 (by simp) ?_
  have a1 := fun H => Alive2_ev s now H
  simp only [A, Sess.c, List.map_cons, List.map_nil] at a1
  cases h1 : aliveS s now <;> simp -implicitDefEqProofs [A, Sess.c, a1, dueS, h1]
def asksS (ttl : Int) : Req := ⟨4, 0, 0, true, [], [], 0, 0, ttl, 0, .nil, .nil, .nil⟩
def keepsS (s : Sess) : Req := ⟨5, 0, 0, false, [], [], s.lease, 0, 0, 0, .nil, .nil, .nil⟩
theorem Asks_ev (n : Int) (H : List Blk) : EvF tab 24 [I n] H = some ⟨A (asksS n).c, [], []⟩ := by
  refine EvF_walk t24 (by simp) ?_
  simp -implicitDefEqProofs [A, Req.c, asksS]
theorem Asks2_ev (n : Int) (H : List Blk) : EvF tab 25 [I n] H = some ⟨A (asksS n).c, [], []⟩ := by
  refine EvF_walk t25 (by simp) ?_
  simp -implicitDefEqProofs [A, Req.c, asksS]
theorem Keeps_ev (s : Sess) (H : List Blk) : EvF tab 26 [A s.c] H = some ⟨A (keepsS s).c, [], []⟩ := by
  refine EvF_walk t26 (by simp) ?_
  simp -implicitDefEqProofs [A, Req.c, Sess.c, keepsS]
theorem Keeps2_ev (s : Sess) (H : List Blk) : EvF tab 27 [A s.c] H = some ⟨A (keepsS s).c, [], []⟩ := by
  refine EvF_walk t27 (by simp) ?_
  simp -implicitDefEqProofs [A, Req.c, Sess.c, keepsS]
end Go.Proofs.Ytahjgmldkbbpaaa
