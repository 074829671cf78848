/- The law SessSafe: its loops. -/
import Derived.Test.YtlcjocciianphaaSSess2
namespace Go.Proofs.Ytlcjocciianphaa
open Go Go.AM Go.Proofs
set_option maxRecDepth 4000
set_option linter.unusedSimpArgs false
set_option linter.unusedVariables false
structure S14 where
  mine : Int
  theirs : Int
  p : Bool
  T : Int
  s : Sess
  sent : Int
  dn : Bool
  rp : Option (Int × Int)
def lsl (p : Bool) (ttl T : Int) : Sl Lease := if p = true then .of [⟨1, ttl, T⟩] else .nil
def repC (rp : Option (Int × Int)) : List AV := match rp with
  | none => [I 0, I 0, I 0, I 0, I 0, I 0, B false, .ms 4 1 6 0 0, .ms 5 1 8 0 0]
  | some (c, k) => [I c, I 0, I 0, I 0, I 1, I k, B false, .g .nsl, .g .nsl]
theorem repC_none : repC none = [I 0, I 0, I 0, I 0, I 0, I 0, B false, .ms 4 1 6 0 0, .ms 5 1 8 0 0] := rfl
theorem repC_some (c k : Int) : repC (some (c, k)) = [I c, I 0, I 0, I 0, I 1, I k, B false, .g .nsl, .g .nsl] := rfl
theorem End1_ev (ttl T : Int) (H : List Blk) : EvF tab 27 [.agg [I 1, .g (.sl 3 [[.int .i64 1, .int .i64 ttl, .int .i64 T]])], I 1] H = some ⟨.tup [.agg [I 1, .g .nsl], I 0], [], []⟩ := by
  have := End_ev ⟨1, .of [⟨1, ttl, T⟩]⟩ 1 (by simp) H
  rw [show endS ⟨1, .of [⟨1, ttl, T⟩]⟩ 1 = ⟨1, .nil⟩ from rfl, show endE ⟨1, .of [⟨1, ttl, T⟩]⟩ 1 = 0 from rfl] at this
  exact this
theorem Keep1_ev (ttl T now : Int) (ht : 1 ≤ ttl ∧ ttl ≤ 1000) (hn : timeOk now = true) (H : List Blk) :
    EvF tab 19 [.agg [I 1, .g (.sl 3 [[.int .i64 1, .int .i64 ttl, .int .i64 T]])], I 1, I now] H = some ⟨.tup [.agg [I 1, .g (.sl 3 [[.int .i64 1, .int .i64 ttl, .int .i64 (if T < now + ttl then now + ttl else T)]])], I ttl, I 0], [], []⟩ := by
  have := Keep_ev ⟨1, .of [⟨1, ttl, T⟩]⟩ 1 now ⟨by simp, by simp; omega⟩ H
  simp only [keepS, keepT, keepE, hn, if_true, show placeN 1 0 (Sl.of [(⟨1, ttl, T⟩ : Lease)]).l = some 0 from rfl, show hasS 1 (Sl.of [(⟨1, ttl, T⟩ : Lease)]).l = true from rfl] at this
  exact this
theorem Keep0_ev (now : Int) (hn : timeOk now = true) (H : List Blk) :
    EvF tab 19 [.agg [I 1, .g .nsl], I 1, I now] H = some ⟨.tup [.agg [I 1, .g .nsl], I 0, I 6], [], []⟩ := by
  have := Keep_ev ⟨1, .nil⟩ 1 now ⟨by simp, by simp⟩ H
  simp only [keepS, keepT, keepE, hn, if_true, show placeN 1 0 (Sl.nil : Sl Lease).l = none from rfl, show hasS 1 (Sl.nil : Sl Lease).l = false from rfl, Bool.false_eq_true, if_false] at this
  exact this
theorem Due1_ev (ttl T now : Int) (H : List Blk) :
    EvF tab 30 [.agg [I 1, .g (.sl 3 [[.int .i64 1, .int .i64 ttl, .int .i64 T]])], I now] H = some ⟨.g (if T ≤ now then .sl 1 [[.int .i64 1]] else .nsl), [], []⟩ := by
  have := Due_ev ⟨1, .of [⟨1, ttl, T⟩]⟩ now (by simp) H
  by_cases h : T ≤ now
  · rw [show dueS (⟨1, .of [⟨1, ttl, T⟩]⟩ : Leases).l.l now = [1] by simp [dueS, dueP, h, List.filter_cons]] at this
    rw [if_pos h]; exact this
  · rw [show dueS (⟨1, .of [⟨1, ttl, T⟩]⟩ : Leases).l.l now = [] by simp [dueS, dueP, h, List.filter_cons]] at this
    rw [if_neg h]; exact this
theorem Due0_ev (now : Int) (H : List Blk) : EvF tab 30 [.agg [I 1, .g .nsl], I now] H = some ⟨.g .nsl, [], []⟩ := by
  have := Due_ev ⟨1, .nil⟩ now (by simp) H
  exact this
theorem Alive_at (a b c d n : Int) (H : List Blk) : EvF tab 59 [.agg [I a, I b, I c, I d], I n] H = some ⟨B (!decide (a = 0) && decide (n < c)), [], []⟩ := Alive_ev ⟨a, b, c, d⟩ n H
theorem inner1 (steps : Sl Lease) (mine theirs : Int) (is : Bool) (sent : Int) (dn : Bool) (k ttl T : Int) (b0 b1 b3 b4 b5 b6 : Blk) (o : List Blk) :
    loopE (EvF tab) [] L14_0 [2, 7, 8, 9, 10, 12, 13, 14, 15, 16, 17, 21, 22] ⟨[(2, .g (LeaseL.g steps)), (7, I mine), (8, I theirs), (9, .ptr 2 0), (10, I 1), (12, .ptr 3 0), (13, B is), (14, I sent), (15, B dn), (16, .ptr 6 0), (17, I k), (21, .g (.sl 1 [[.int .i64 1]])), (22, I 0)], [],
      b0 :: b1 :: .cells [I 1, .g (.sl 3 [[.int .i64 1, .int .i64 ttl, .int .i64 T]])] :: b3 :: b4 :: b5 :: b6 :: o⟩ =
    some (.exit 3, ⟨[(2, .g (LeaseL.g steps)), (7, I mine), (8, I theirs), (9, .ptr 2 0), (10, I 1), (12, .ptr 3 0), (13, B is), (14, I sent), (15, B dn), (16, .ptr 6 0), (17, I k), (21, .g (.sl 1 [[.int .i64 1]])), (22, I 1), (156, B false)], [],
      b0 :: b1 :: .cells [I 1, .g .nsl] :: b3 :: b4 :: b5 :: b6 :: (o ++ [.cells [I 1, .g .nsl]])⟩) := by
  have w1 : IntKind.i64.wrap 1 = 1 := by decide +kernel
  rw [loopE_step (c := L14_0) (by delta L14_0; rfl)]
  simp -implicitDefEqProofs [pends, End1_ev, w1]
  rw [loopE_step (c := L14_0) (by delta L14_0; rfl)]
  simp -implicitDefEqProofs [w1]
theorem inner0 (steps : Sl Lease) (mine theirs : Int) (is : Bool) (sent : Int) (dn : Bool) (k : Int) (o : List Blk) :
    loopE (EvF tab) [] L14_0 [2, 7, 8, 9, 10, 12, 13, 14, 15, 16, 17, 21, 22] ⟨[(2, .g (LeaseL.g steps)), (7, I mine), (8, I theirs), (9, .ptr 2 0), (10, I 1), (12, .ptr 3 0), (13, B is), (14, I sent), (15, B dn), (16, .ptr 6 0), (17, I k), (21, .g .nsl), (22, I 0)], [], o⟩ =
    some (.exit 3, ⟨[(2, .g (LeaseL.g steps)), (7, I mine), (8, I theirs), (9, .ptr 2 0), (10, I 1), (12, .ptr 3 0), (13, B is), (14, I sent), (15, B dn), (16, .ptr 6 0), (17, I k), (21, .g .nsl), (22, I 0), (156, B false)], [], o⟩) := by
  rw [loopE_step (c := L14_0) (by delta L14_0; rfl)]
  simp -implicitDefEqProofs
def stA (ttl : Int) (x : Lease) (b : S14) : S14 :=
  if x.id = 0 ∨ x.id = 1 ∨ x.id = 2 ∨ x.id = 3 then { b with mine := b.mine + rateS x.ttl, theirs := b.theirs + rateS x.till }
  else if x.id = 4 then (if b.sent < 0 then { b with sent := b.mine, dn := false } else b)
  else if x.id = 5 then (if 0 ≤ b.sent then (if b.p = true then { b with T := (if b.T < b.theirs + ttl then b.theirs + ttl else b.T), rp := some (0, ttl), dn := true } else { b with rp := some (6, 0), dn := true }) else b)
  else if x.id = 6 then (if b.dn = true then (match b.rp with
    | some (c, k) => { b with s := keptS b.s b.sent ⟨c, 0, 0, 0, 1, k, false, .nil, .nil⟩, sent := -1, dn := false }
    | none => b) else b)
  else if x.id = 7 then { b with sent := -1, dn := false } else b
def stB (b : S14) : S14 := if b.T ≤ b.theirs then { b with p := false } else b
structure Ok14 (ttl : Int) (k : Int) (b : S14) : Prop where
  m0 : 0 ≤ b.mine
  m1 : b.mine ≤ 274877906944 + 17 * k
  t0 : 0 ≤ b.theirs
  t1 : b.theirs ≤ 274877906944 + 17 * k
  T0 : 0 ≤ b.T
  T1 : b.T ≤ 274877906944 + 17 * k + 1000
  s0 : -1 ≤ b.sent
  s1 : b.sent ≤ b.mine
  sl : b.s.lease = 0 ∨ (b.s.lease = 1 ∧ b.s.ttl = ttl ∧ 15 * (b.theirs + ttl - b.T) ≤ 17 * (b.mine - b.s.till + safeN ttl))
  d : b.dn = true → 0 ≤ b.sent ∧ ((b.rp = some (0, ttl) ∧ 15 * (b.theirs + ttl - b.T) ≤ 17 * (b.mine - b.sent)) ∨ b.rp = some (6, 0))
theorem okA {ttl k : Int} {b : S14} (h1 : 1 ≤ ttl) (h2 : ttl ≤ 1000) (h : Ok14 ttl k b) (hk : 0 ≤ k ∧ k ≤ 200) (x : Lease) : Ok14 ttl (k + 1) (stA ttl x b) := by
  obtain ⟨m0, m1, t0, t1, T0, T1, s0, s1, sl, d⟩ := h
  have r1 := rateS_bd x.ttl
  have r2 := rateS_bd x.till
  unfold stA
  by_cases c1 : x.id = 0 ∨ x.id = 1 ∨ x.id = 2 ∨ x.id = 3
  · rw [if_pos c1]
    exact ⟨by simp only; omega, by simp only; omega, by simp only; omega, by simp only; omega, by simp only; omega, by simp only; omega, by simp only; omega, by simp only; omega,
      by simp only; omega, fun h => by
        obtain ⟨d1, d2⟩ := d h
        refine ⟨d1, ?_⟩
        rcases d2 with ⟨d2, d3⟩ | d2
        · exact .inl ⟨d2, by simp only; omega⟩
        · exact .inr d2⟩
  rw [if_neg c1]
  have same : Ok14 ttl (k + 1) b := ⟨m0, by omega, t0, by omega, T0, by omega, s0, s1, sl, d⟩
  by_cases c2 : x.id = 4
  · rw [if_pos c2]
    by_cases c3 : b.sent < 0
    · rw [if_pos c3]
      exact ⟨m0, by simp only; omega, t0, by simp only; omega, T0, by simp only; omega, by simp only; omega, by simp only; omega, sl, fun h => by simp at h⟩
    · rw [if_neg c3]; exact same
  rw [if_neg c2]
  by_cases c3 : x.id = 5
  · rw [if_pos c3]
    by_cases c4 : 0 ≤ b.sent
    · rw [if_pos c4]
      by_cases c5 : b.p = true
      · rw [if_pos c5]
        by_cases c6 : b.T < b.theirs + ttl
        · simp only [if_pos c6]
          exact ⟨m0, by simp only; omega, t0, by simp only; omega, by simp only; omega, by simp only; omega, s0, s1, by simp only; omega, fun _ => ⟨c4, .inl ⟨rfl, by simp only; omega⟩⟩⟩
        · simp only [if_neg c6]
          exact ⟨m0, by simp only; omega, t0, by simp only; omega, by simp only; omega, by simp only; omega, s0, s1, by simp only; omega, fun _ => ⟨c4, .inl ⟨rfl, by simp only; omega⟩⟩⟩
      · rw [if_neg c5]
        exact ⟨m0, by simp only; omega, t0, by simp only; omega, by simp only; omega, by simp only; omega, s0, s1, by simp only; omega, fun _ => ⟨c4, .inr rfl⟩⟩
    · rw [if_neg c4]; exact same
  rw [if_neg c3]
  by_cases c4 : x.id = 6
  · rw [if_pos c4]
    by_cases c5 : b.dn = true
    · rw [if_pos c5]
      obtain ⟨d1, d2⟩ := d c5
      have ht : timeOk b.sent = true := timeOk_iff.2 ⟨d1, by omega⟩
      rcases d2 with ⟨d2, d3⟩ | d2
      · rw [d2]
        refine ⟨m0, by simp only; omega, t0, by simp only; omega, T0, by simp only; omega, by simp only; omega, by simp only; omega, ?_, fun h => by simp at h⟩
        simp only [keptS, show ¬ (0 : Int) = 6 by decide, if_false, true_and, ht, and_true]
        rcases sl with sl | ⟨l1, l2, l3⟩
        · rw [if_neg (by omega)]; exact .inl sl
        · rw [if_pos l1.symm]
          refine .inr ⟨l1, l2, ?_⟩
          rw [l2]
          by_cases c6 : b.s.till < b.sent + safeN ttl
          · simp only [if_pos c6]; omega
          · simp only [if_neg c6]; omega
      · rw [d2]
        refine ⟨m0, by simp only; omega, t0, by simp only; omega, T0, by simp only; omega, by simp only; omega, by simp only; omega, .inl ?_, fun h => by simp at h⟩
        simp [keptS]
    · rw [if_neg c5]; exact same
  rw [if_neg c4]
  by_cases c5 : x.id = 7
  · rw [if_pos c5]
    exact ⟨m0, by simp only; omega, t0, by simp only; omega, T0, by simp only; omega, by simp only; omega, by simp only; omega, sl, fun h => by simp at h⟩
  · rw [if_neg c5]; exact same
theorem okB {ttl k : Int} {b : S14} (h : Ok14 ttl k b) : Ok14 ttl k (stB b) := by
  unfold stB; split
  · exact ⟨h.m0, h.m1, h.t0, h.t1, h.T0, h.T1, h.s0, h.s1, h.sl, h.d⟩
  · exact h
/-- As long as a session is alive, its lease is not due. -/
theorem ok_safe {ttl k : Int} {b : S14} (h1 : 1 ≤ ttl) (h2 : ttl ≤ 1000) (h : Ok14 ttl k b) (hd : b.T ≤ b.theirs) : (!decide (b.s.lease = 0) && decide (b.mine < b.s.till)) = false := by
  rcases h.sl with sl | ⟨l1, l2, l3⟩
  · simp [sl]
  · have hs : safeN ttl = 15 * ttl / 17 := by unfold safeN; rw [if_pos ⟨h1, h2⟩]
    have : ¬ b.mine < b.s.till := by omega
    simp [this]
end Go.Proofs.Ytlcjocciianphaa
