/- The law SessSafe: a step of its loop. -/
import Derived.Test.YtlcjocciianphaaLSafe
namespace Go.Proofs.Ytlcjocciianphaa
open Go Go.AM Go.Proofs
set_option maxRecDepth 4000
set_option linter.unusedSimpArgs false
set_option linter.unusedVariables false
def pSW : IC → IC
  | .seq _ (.seq (.block _ _ (.seq s _)) _) => s
  | c => c
def pTL : IC → IC
  | .seq _ (.seq (.block _ _ (.seq _ s)) _) => s
  | c => c
def pC : IC → IC
  | .seq s _ => s
  | c => c
def pI : IC → IC
  | .seq _ (.seq _ s) => s
  | c => c
def tmps (st : Sl Lease) (is : Bool) (b : S14) (k : Nat) : List (Nat × AV) := [(2, .g (LeaseL.g st)), (7, I b.mine), (8, I b.theirs), (9, .ptr 2 0), (10, I 1), (12, .ptr 3 0), (13, B is), (14, I b.sent), (15, B b.dn), (16, .ptr 6 0), (17, I k)]
def blkS (c0 c1 ttl : Int) (b : S14) (o : List Blk) : List Blk := .cells [I c0, I c1] :: .rows 3 1 [] :: .cells [I 1, .g (LeaseL.g (lsl b.p ttl b.T))] :: .cells [I b.s.lease, I b.s.ttl, I b.s.till, I b.s.keep] :: .rows 6 1 [] :: .rows 8 1 [] :: .cells (repC b.rp) :: o
theorem lsl_true (ttl T : Int) : lsl true ttl T = .of [⟨1, ttl, T⟩] := rfl
theorem lsl_false (ttl T : Int) : lsl false ttl T = .nil := rfl
theorem Kept_at (a b c d : Int) (sent : Int) (x k : Int) (H : List Blk) : EvF tab 58 [.agg [I a, I b, I c, I d], I sent, .agg [I x, I 0, I 0, I 0, I 1, I k, B false, .g .nsl, .g .nsl]] H =
    some ⟨.agg [I (keptS ⟨a, b, c, d⟩ sent ⟨x, 0, 0, 0, 1, k, false, .nil, .nil⟩).lease, I (keptS ⟨a, b, c, d⟩ sent ⟨x, 0, 0, 0, 1, k, false, .nil, .nil⟩).ttl, I (keptS ⟨a, b, c, d⟩ sent ⟨x, 0, 0, 0, 1, k, false, .nil, .nil⟩).till, I (keptS ⟨a, b, c, d⟩ sent ⟨x, 0, 0, 0, 1, k, false, .nil, .nil⟩).keep], [], []⟩ :=
  Kept_ev ⟨a, b, c, d⟩ sent ⟨x, 0, 0, 0, 1, k, false, .nil, .nil⟩ H
theorem sw_ev (c0 c1 ttl : Int) (l : List Lease) (is : Bool) (k : Nat) (x : Lease) (b : S14) (o : List Blk) (hk : k < l.length) (hy : l[k] = x) (hl : (k : Int) ≤ 200) (h1 : 1 ≤ ttl ∧ ttl ≤ 1000) (hb : Ok14 ttl k b) :
    ∃ o', evCode (EvF tab) [] (pSW L14_1) ⟨tmps (.of l) is b k, [], blkS c0 c1 ttl b o⟩ = some (.normal, ⟨tmps (.of l) is (stA ttl x b) k, [], blkS c0 c1 ttl (stA ttl x b) o'⟩) := by
  obtain ⟨m0, m1, t0, t1, T0, T1, s0, s1, sl, d⟩ := hb
  have ht : timeOk b.theirs = true := timeOk_iff.2 ⟨t0, by omega⟩
  obtain ⟨mine, theirs, p, T, ⟨sa, sb, sc, sd⟩, sent, dn, rp⟩ := b
  simp only at m0 m1 t0 t1 T0 T1 s0 s1 sl d ht
  have r1 := rateS_bd x.ttl
  have r2 := rateS_bd x.till
  have w1 : IntKind.i64.wrap (mine + rateS x.ttl) = mine + rateS x.ttl := wrap_i64 (by omega) (by omega)
  have w2 : IntKind.i64.wrap (theirs + rateS x.till) = theirs + rateS x.till := wrap_i64 (by omega) (by omega)
  have g1 := fun H => Keep1_ev ttl T theirs h1 ht H
  have g0 := fun H => Keep0_ev theirs ht H
  delta L14_1
  simp only [pSW, tmps, blkS]
  by_cases c0' : x.id = 0
  · exact ⟨o, by simp -implicitDefEqProofs [hk, hy, Lease.c, c0', Rate_ev, w1, w2, stA]⟩
  by_cases c1' : x.id = 1
  · exact ⟨o, by simp -implicitDefEqProofs [hk, hy, Lease.c, c1', Rate_ev, w1, w2, stA]⟩
  by_cases c2' : x.id = 2
  · exact ⟨o, by simp -implicitDefEqProofs [hk, hy, Lease.c, c2', Rate_ev, w1, w2, stA]⟩
  by_cases c3' : x.id = 3
  · exact ⟨o, by simp -implicitDefEqProofs [hk, hy, Lease.c, c3', Rate_ev, w1, w2, stA]⟩
  by_cases c4' : x.id = 4
  · by_cases q : sent < 0
    · exact ⟨o, by simp -implicitDefEqProofs [hk, hy, Lease.c, c4', q, stA]⟩
    · exact ⟨o, by simp -implicitDefEqProofs [hk, hy, Lease.c, c4', q, stA]⟩
  by_cases c5' : x.id = 5
  · by_cases q : 0 ≤ sent
    · cases p
      · refine ⟨o ++ [.rows 3 1 [], .cells [I 1, .g .nsl]], ?_⟩
        rcases rp with _ | ⟨ca, cb⟩ <;> simp -implicitDefEqProofs [hk, hy, Lease.c, c5', q, stA, lsl_false, repC_none, repC_some, g0]
      · refine ⟨o ++ [.rows 3 1 [], .cells [I 1, .g (.sl 3 [[.int .i64 1, .int .i64 ttl, .int .i64 (if T < theirs + ttl then theirs + ttl else T)]])]], ?_⟩
        rcases rp with _ | ⟨ca, cb⟩ <;> by_cases c6 : T < theirs + ttl <;> simp only [c6, if_true, if_false] at g1 ⊢ <;> simp -implicitDefEqProofs [hk, hy, Lease.c, c5', q, stA, lsl_true, repC_none, repC_some, g1, c6]
    · exact ⟨o, by simp -implicitDefEqProofs [hk, hy, Lease.c, c5', q, stA]⟩
  by_cases c6' : x.id = 6
  · cases dn
    · exact ⟨o, by simp -implicitDefEqProofs [hk, hy, Lease.c, c6', stA]⟩
    · refine ⟨o, ?_⟩
      obtain ⟨d1, d2⟩ := d rfl
      rcases d2 with ⟨rfl, _⟩ | rfl <;> simp -implicitDefEqProofs [hk, hy, Lease.c, c6', stA, repC_some, Kept_at]
  by_cases c7' : x.id = 7
  · exact ⟨o, by simp -implicitDefEqProofs [hk, hy, Lease.c, c7', stA]⟩
  · exact ⟨o, by simp -implicitDefEqProofs [hk, hy, Lease.c, c0', c1', c2', c3', c4', c5', c6', c7', stA]⟩
end Go.Proofs.Ytlcjocciianphaa
