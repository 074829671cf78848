/- Sessions, for the law SessSafe. -/
import Derived.Test.YtlcjocciianphaaLLive08
namespace Go.Proofs.Ytlcjocciianphaa
open Go Go.AM Go.Proofs
set_option maxRecDepth 4000
set_option linter.unusedSimpArgs false
set_option linter.unusedVariables false
def safeN (ttl : Int) : Int := if 1 ≤ ttl ∧ ttl ≤ 1000 then 15 * ttl / 17 else 0
theorem safeN_bd (ttl : Int) : 0 ≤ safeN ttl ∧ safeN ttl ≤ 882 := by unfold safeN; split <;> omega
theorem Safe_ev (n : Int) (H : List Blk) : EvF tab 102 [I n] H = some ⟨I (safeN n), [], []⟩ := by
  refine EvF_walk t102 (by simp) ?_
  unfold safeN
  by_cases h1 : 1 ≤ n
  · by_cases h2 : n ≤ 1000
    · have e1 : IntKind.i64.wrap (n * 15) = n * 15 := wrap_i64 (by omega) (by omega)
      have e2 : IntKind.i64.wrap (n * 15 / 17) = 15 * n / 17 := by rw [wrap_i64 (by omega) (by omega)]; omega
      simp -implicitDefEqProofs [h1, h2, show ¬ n < 1 by omega, show ¬ 1000 < n by omega, e1, Int.tdiv_eq_ediv_of_nonneg, show 0 ≤ n * 15 by omega, e2]
    · simp -implicitDefEqProofs [h1, h2, show ¬ n < 1 by omega, show 1000 < n by omega]
  · simp -implicitDefEqProofs [h1, show n < 1 by omega]
theorem of_ev (n m : Int) (H : List Blk) : EvF tab 84 [I n, I m] H = some ⟨.agg [I (safeN n), I m], [], []⟩ := by
  refine EvF_walk t84 (by simp) ?_
  simp -implicitDefEqProofs [Safe_ev]
theorem smay_ev (n m : Int) (H : List Blk) : EvF tab 85 [.agg [I n, I m]] H = some ⟨B (decide (0 < n) && timeOk m), [], []⟩ := by
  refine EvF_walk t85 (by simp) ?_
  by_cases h1 : 0 < n <;> by_cases h2 : 0 ≤ m <;> simp -implicitDefEqProofs [h1, h2, timeOk]
theorem end_ev (n m : Int) (H : List Blk) : EvF tab 86 [I n, I m] H = some ⟨I (IntKind.i64.wrap (m + n)), [], []⟩ := by
  refine EvF_walk t86 (by simp) ?_
  simp -implicitDefEqProofs
theorem half_ev (n m : Int) (H : List Blk) : EvF tab 87 [I n, I m] H = some ⟨I (IntKind.i64.wrap (m + n / 2)), [], []⟩ := by
  refine EvF_walk t87 (by simp) ?_
  simp -implicitDefEqProofs [Int.fdiv_eq_ediv_of_nonneg]
def beginOk (sent : Int) (p : Reply) : Bool := decide (p.code = 0) && decide (1 ≤ p.lease) && (decide (0 < safeN p.ttl) && timeOk sent)
def beginS (sent : Int) (p : Reply) : Sess := if beginOk sent p = true then ⟨p.lease, p.ttl, sent + safeN p.ttl, sent + safeN p.ttl / 2⟩ else ⟨0, 0, 0, 0⟩
theorem Begin_ev (sent : Int) (p : Reply) (H : List Blk) : EvF tab 56 [I sent, A p.c] H = some ⟨.tup [A (beginS sent p).c, B (beginOk sent p)], [], []⟩ := by
  refine EvF_walk t56 (by simp) ?_
  have hs := safeN_bd p.ttl
  unfold beginS
  by_cases h1 : p.code = 0
  · by_cases h2 : 1 ≤ p.lease
    · cases h3 : (decide (0 < safeN p.ttl) && timeOk sent)
      · simp -implicitDefEqProofs [A, Reply.c, Sess.c, of_ev, smay_ev, end_ev, half_ev, beginOk, h1, h2, show ¬ p.lease < 1 by omega, h3]
      · have h4 := h3
        simp only [Bool.and_eq_true, decide_eq_true_eq, timeOk_iff] at h4
        have e1 : IntKind.i64.wrap (sent + safeN p.ttl) = sent + safeN p.ttl := wrap_i64 (by omega) (by omega)
        have e2 : IntKind.i64.wrap (sent + safeN p.ttl / 2) = sent + safeN p.ttl / 2 := wrap_i64 (by omega) (by omega)
        simp -implicitDefEqProofs [A, Reply.c, Sess.c, of_ev, smay_ev, end_ev, half_ev, beginOk, h1, h2, show ¬ p.lease < 1 by omega, h3, e1, e2]
    · simp -implicitDefEqProofs [A, Reply.c, Sess.c, of_ev, smay_ev, end_ev, half_ev, beginOk, h1, h2, show p.lease < 1 by omega]
  · simp -implicitDefEqProofs [A, Reply.c, Sess.c, of_ev, smay_ev, end_ev, half_ev, beginOk, h1]
def keptS (s : Sess) (sent : Int) (p : Reply) : Sess :=
  if p.code = 6 then ⟨0, 0, 0, 0⟩ else if p.code = 0 ∧ p.lease = s.lease ∧ timeOk sent = true then
    ⟨s.lease, s.ttl, if s.till < sent + safeN s.ttl then sent + safeN s.ttl else s.till, if s.keep < sent + safeN s.ttl / 2 then sent + safeN s.ttl / 2 else s.keep⟩ else s
theorem Kept_ev (s : Sess) (sent : Int) (p : Reply) (H : List Blk) : EvF tab 58 [A s.c, I sent, A p.c] H = some ⟨A (keptS s sent p).c, [], []⟩ := by
  refine EvF_walk t58 (by simp) ?_
  have hs := safeN_bd s.ttl
  unfold keptS
  by_cases h0 : p.code = 6
  · simp -implicitDefEqProofs [A, Reply.c, Sess.c, h0]
  · by_cases h1 : p.code = 0
    · by_cases h2 : p.lease = s.lease
      · by_cases h3 : 0 ≤ sent
        · by_cases h4 : sent ≤ 1099511627775
          · have e1 : IntKind.i64.wrap (sent + safeN s.ttl) = sent + safeN s.ttl := wrap_i64 (by omega) (by omega)
            have e2 : IntKind.i64.wrap (sent + safeN s.ttl / 2) = sent + safeN s.ttl / 2 := wrap_i64 (by omega) (by omega)
            by_cases h5 : s.till < sent + safeN s.ttl <;> by_cases h6 : s.keep < sent + safeN s.ttl / 2 <;>
            simp -implicitDefEqProofs [A, Reply.c, Sess.c, h1, h2, h3, show ¬ sent < 0 by omega, h4, show ¬ 1099511627775 < sent by omega, of_ev, end_ev, half_ev, e1, e2, timeOk, h5, h6]
          · simp -implicitDefEqProofs [A, Reply.c, Sess.c, h1, h2, h3, show ¬ sent < 0 by omega, h4, show 1099511627775 < sent by omega, timeOk]
        · simp -implicitDefEqProofs [A, Reply.c, Sess.c, h1, h2, h3, show sent < 0 by omega, timeOk]
      · simp -implicitDefEqProofs [A, Reply.c, Sess.c, h1, h2]
    · simp -implicitDefEqProofs [A, Reply.c, Sess.c, h0, h1]
def aliveS (s : Sess) (now : Int) : Bool := !decide (s.lease = 0) && decide (now < s.till)
def sdueS (s : Sess) (now : Int) : Bool := aliveS s now && decide (s.keep ≤ now)
theorem Alive_ev (s : Sess) (now : Int) (H : List Blk) : EvF tab 59 [A s.c, I now] H = some ⟨B (aliveS s now), [], []⟩ := by
  refine EvF_walk t59 (by simp) ?_
  by_cases h1 : s.lease = 0 <;> simp -implicitDefEqProofs [A, Sess.c, aliveS, h1]
theorem sDue_ev (s : Sess) (now : Int) (H : List Blk) : EvF tab 81 [A s.c, I now] H = some ⟨B (sdueS s now), [], []⟩ := by
  refine EvF_walk t81 (by simp) ?_
  have a1 := fun H => Alive_ev s now H
  simp only [A, Sess.c, List.map_cons, List.map_nil] at a1
  cases h1 : aliveS s now <;> simp -implicitDefEqProofs [A, Sess.c, a1, sdueS, h1]
def asksS (ttl : Int) : Req := ⟨4, 0, 0, true, [], [], 0, 0, ttl, 0, .nil, .nil, .nil⟩
def keepsS (s : Sess) : Req := ⟨5, 0, 0, false, [], [], s.lease, 0, 0, 0, .nil, .nil, .nil⟩
theorem Asks_ev (n : Int) (H : List Blk) : EvF tab 82 [I n] H = some ⟨A (asksS n).c, [], []⟩ := by
  refine EvF_walk t82 (by simp) ?_
  simp -implicitDefEqProofs [A, Req.c, asksS]
theorem Keeps_ev (s : Sess) (H : List Blk) : EvF tab 83 [A s.c] H = some ⟨A (keepsS s).c, [], []⟩ := by
  refine EvF_walk t83 (by simp) ?_
  simp -implicitDefEqProofs [A, Req.c, Sess.c, keepsS]
def rateS (n : Int) : Int := if n < 15 then 15 else if 17 < n then 17 else n
theorem rateS_bd (n : Int) : 15 ≤ rateS n ∧ rateS n ≤ 17 := by
  unfold rateS
  split
  · omega
  · split <;> omega
theorem Rate_ev (n : Int) (H : List Blk) : EvF tab 57 [I n, B true] H = some ⟨I (rateS n), [], []⟩ := by
  refine EvF_walk t57 (by simp) ?_
  unfold rateS
  by_cases h1 : n < 15
  · simp -implicitDefEqProofs [h1]
  · by_cases h2 : 17 < n <;> simp -implicitDefEqProofs [h1, h2]
theorem live14 (H : List Blk) : EvF tab 55 [] H = some ⟨.g (.bool true), [], []⟩ := by
  refine EvF_walk t55 (by simp) ?_
  have m1 := fun H => Begin_ev 100 ⟨0, 0, 0, 0, 7, 34, false, .nil, .nil⟩ H
  have m2 := fun H => Begin_ev 100 ⟨0, 0, 0, 0, 7, 1, false, .nil, .nil⟩ H
  have m3 := fun H => Kept_ev ⟨7, 34, 130, 115⟩ 120 ⟨0, 0, 0, 0, 7, 34, false, .nil, .nil⟩ H
  have m4 := fun H => Kept_ev ⟨7, 34, 150, 135⟩ 90 ⟨0, 0, 0, 0, 7, 34, false, .nil, .nil⟩ H
  have m5 := fun H => Kept_ev ⟨7, 34, 150, 135⟩ 130 ⟨6, 0, 0, 0, 0, 0, false, .nil, .nil⟩ H
  have m6 := fun H => Kept_ev ⟨7, 34, 150, 135⟩ 130 ⟨0, 0, 0, 0, 8, 0, false, .nil, .nil⟩ H
  have a1 := fun H => Alive_ev ⟨7, 34, 130, 115⟩ 129 H
  have a2 := fun H => Alive_ev ⟨7, 34, 130, 115⟩ 130 H
  have d1 := fun H => sDue_ev ⟨7, 34, 130, 115⟩ 115 H
  have d2 := fun H => sDue_ev ⟨7, 34, 130, 115⟩ 114 H
  have d3 := fun H => sDue_ev ⟨7, 34, 130, 115⟩ 130 H
  have q1 := fun H => Asks_ev 9 H
  have q2 := fun H => Keeps_ev ⟨7, 34, 130, 115⟩ H
  rw [show beginS 100 ⟨0, 0, 0, 0, 7, 34, false, .nil, .nil⟩ = ⟨7, 34, 130, 115⟩ from rfl, show beginOk 100 ⟨0, 0, 0, 0, 7, 34, false, .nil, .nil⟩ = true from rfl] at m1
  rw [show beginS 100 ⟨0, 0, 0, 0, 7, 1, false, .nil, .nil⟩ = ⟨0, 0, 0, 0⟩ from rfl, show beginOk 100 ⟨0, 0, 0, 0, 7, 1, false, .nil, .nil⟩ = false from rfl] at m2
  rw [show keptS ⟨7, 34, 130, 115⟩ 120 ⟨0, 0, 0, 0, 7, 34, false, .nil, .nil⟩ = ⟨7, 34, 150, 135⟩ from rfl] at m3
  rw [show keptS ⟨7, 34, 150, 135⟩ 90 ⟨0, 0, 0, 0, 7, 34, false, .nil, .nil⟩ = ⟨7, 34, 150, 135⟩ from rfl] at m4
  rw [show keptS ⟨7, 34, 150, 135⟩ 130 ⟨6, 0, 0, 0, 0, 0, false, .nil, .nil⟩ = ⟨0, 0, 0, 0⟩ from rfl] at m5
  rw [show keptS ⟨7, 34, 150, 135⟩ 130 ⟨0, 0, 0, 0, 8, 0, false, .nil, .nil⟩ = ⟨7, 34, 150, 135⟩ from rfl] at m6
  rw [show aliveS ⟨7, 34, 130, 115⟩ 129 = true from rfl] at a1
  rw [show aliveS ⟨7, 34, 130, 115⟩ 130 = false from rfl] at a2
  rw [show sdueS ⟨7, 34, 130, 115⟩ 115 = true from rfl] at d1
  rw [show sdueS ⟨7, 34, 130, 115⟩ 114 = false from rfl] at d2
  rw [show sdueS ⟨7, 34, 130, 115⟩ 130 = false from rfl] at d3
  simp [A, Sess.c, Reply.c, Req.c, asksS, keepsS] at m1 m2 m3 m4 m5 m6 a1 a2 d1 d2 d3 q1 q2
  simp -implicitDefEqProofs [A, Sess.c, Reply.c, Req.c, m1, m2, m3, m4, m5, m6, a1, a2, d1, d2, d3, q1, q2]
end Go.Proofs.Ytlcjocciianphaa
