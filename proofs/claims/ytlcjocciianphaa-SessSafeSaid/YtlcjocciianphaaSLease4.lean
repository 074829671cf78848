/- What the laws on leases use: what is the same, guards. -/
import Derived.Test.YtlcjocciianphaaSLease3
import Derived.Test.YtlcjocciianphaaAMJ3
namespace Go.Proofs.Ytlcjocciianphaa
open Go Go.AM Go.Proofs
set_option maxRecDepth 4000
set_option linter.unusedSimpArgs false
set_option linter.unusedVariables false
theorem Same_ev (a b : Leases) (hn : a.next = b.next) (hab : a.l.l = b.l.l) (hl : b.l.l.length ≤ 9223372036854775807) (H : List Blk) : EvF tab 21 [A a.c, A b.c] H = some ⟨B true, [], []⟩ := by
  obtain ⟨n, a⟩ := a
  obtain ⟨n', b⟩ := b
  simp only at hn hab hl
  subst hn
  have hw : loopE (EvF tab) H L21_0 [2, 3, 5] ⟨[(2, .ptr H.length 0), (3, .ptr (H.length + 1) 0), (5, I 0)], [], [.cells [I n, .g (LeaseL.g a)], .cells [I n, .g (LeaseL.g b)]]⟩ =
      some (.exit 0, ⟨[(2, .ptr H.length 0), (3, .ptr (H.length + 1) 0), (5, I b.l.length), (24, B false)], [], [.cells [I n, .g (LeaseL.g a)], .cells [I n, .g (LeaseL.g b)]]⟩) := by
    refine loop_cnt b.l.length (fun k => ⟨[(2, .ptr H.length 0), (3, .ptr (H.length + 1) 0), (5, I k)], [], [.cells [I n, .g (LeaseL.g a)], .cells [I n, .g (LeaseL.g b)]]⟩) _ (by simp) (fun k hk => ?_) ?_
    · delta L21_0
      have e2 := wrap_succ hk hl
      rcases Sl.both hab with ⟨l, ⟨rfl, rfl⟩ | ⟨rfl, rfl, rfl⟩ | ⟨rfl, rfl, rfl⟩ | ⟨rfl, rfl, rfl⟩⟩
      · simp only [Sl.l_of] at hk
        obtain ⟨x, hx⟩ : ∃ x, l[k] = x := ⟨_, rfl⟩
        simp -implicitDefEqProofs [hk, hx, Lease.c, e2]
      all_goals simp at hk
    · delta L21_0
      rcases Sl.both hab with ⟨l, ⟨rfl, rfl⟩ | ⟨rfl, rfl, rfl⟩ | ⟨rfl, rfl, rfl⟩ | ⟨rfl, rfl, rfl⟩⟩ <;> simp -implicitDefEqProofs
  refine EvF_walk t21 (by simp) ?_
  rcases Sl.both hab with ⟨l, ⟨rfl, rfl⟩ | ⟨rfl, rfl, rfl⟩ | ⟨rfl, rfl, rfl⟩ | ⟨rfl, rfl, rfl⟩⟩ <;> simp at hw <;> simp -implicitDefEqProofs [A, Leases.c, hw]
theorem Ints_ev (a b : Sl Int) (hab : a.l = b.l) (hl : b.l.length ≤ 9223372036854775807) (H : List Blk) : EvF tab 29 [.g (Ints.g a), .g (Ints.g b)] H = some ⟨B true, [], []⟩ := by
  have hw : loopE (EvF tab) H L29_0 [0, 1, 5] ⟨[(0, .g (Ints.g a)), (1, .g (Ints.g b)), (5, I 0)], [], []⟩ = some (.exit 0, ⟨[(0, .g (Ints.g a)), (1, .g (Ints.g b)), (5, I b.l.length), (14, B false)], [], []⟩) := by
    refine loop_cnt b.l.length (fun k => ⟨[(0, .g (Ints.g a)), (1, .g (Ints.g b)), (5, I k)], [], []⟩) _ (by simp) (fun k hk => ?_) ?_
    · delta L29_0
      have e2 := wrap_succ hk hl
      rcases Sl.both hab with ⟨l, ⟨rfl, rfl⟩ | ⟨rfl, rfl, rfl⟩ | ⟨rfl, rfl, rfl⟩ | ⟨rfl, rfl, rfl⟩⟩
      · simp only [Sl.l_of] at hk
        obtain ⟨x, hx⟩ : ∃ x, l[k] = x := ⟨_, rfl⟩
        simp -implicitDefEqProofs [hk, hx, Ints.c, e2]
      all_goals simp at hk
    · delta L29_0
      rcases Sl.both hab with ⟨l, ⟨rfl, rfl⟩ | ⟨rfl, rfl, rfl⟩ | ⟨rfl, rfl, rfl⟩ | ⟨rfl, rfl, rfl⟩⟩ <;> simp -implicitDefEqProofs
  refine EvF_walk t29 (by simp) ?_
  rcases Sl.both hab with ⟨l, ⟨rfl, rfl⟩ | ⟨rfl, rfl, rfl⟩ | ⟨rfl, rfl, rfl⟩ | ⟨rfl, rfl, rfl⟩⟩ <;> simp at hw <;> simp -implicitDefEqProofs [hw]
theorem Muts_ev (a b : Sl Mut) (hab : a.l = b.l) (hl : b.l.length ≤ 9223372036854775807) (H : List Blk) : EvF tab 32 [.g (Muts.g a), .g (Muts.g b)] H = some ⟨B true, [], []⟩ := by
  have hw : loopE (EvF tab) H L32_0 [0, 1, 5] ⟨[(0, .g (Muts.g a)), (1, .g (Muts.g b)), (5, I 0)], [], []⟩ = some (.exit 0, ⟨[(0, .g (Muts.g a)), (1, .g (Muts.g b)), (5, I b.l.length), (14, B false)], [], []⟩) := by
    refine loop_cnt b.l.length (fun k => ⟨[(0, .g (Muts.g a)), (1, .g (Muts.g b)), (5, I k)], [], []⟩) _ (by simp) (fun k hk => ?_) ?_
    · delta L32_0
      have e2 := wrap_succ hk hl
      rcases Sl.both hab with ⟨l, ⟨rfl, rfl⟩ | ⟨rfl, rfl, rfl⟩ | ⟨rfl, rfl, rfl⟩ | ⟨rfl, rfl, rfl⟩⟩
      · simp only [Sl.l_of] at hk
        obtain ⟨x, hx⟩ : ∃ x, l[k] = x := ⟨_, rfl⟩
        simp -implicitDefEqProofs [hk, hx, Mut.c, e2]
      all_goals simp at hk
    · delta L32_0
      rcases Sl.both hab with ⟨l, ⟨rfl, rfl⟩ | ⟨rfl, rfl, rfl⟩ | ⟨rfl, rfl, rfl⟩ | ⟨rfl, rfl, rfl⟩⟩ <;> simp -implicitDefEqProofs
  refine EvF_walk t32 (by simp) ?_
  rcases Sl.both hab with ⟨l, ⟨rfl, rfl⟩ | ⟨rfl, rfl, rfl⟩ | ⟨rfl, rfl, rfl⟩ | ⟨rfl, rfl, rfl⟩⟩ <;> simp at hw <;> simp -implicitDefEqProofs [hw]
def shortKV (x : KV) : Bool := !(decide (60 < (x.key.length : Int)) || decide (60 < (x.value.length : Int)))
theorem Few_loop (s : KVs) (hl : s.l.length ≤ 9223372036854775807) (H : List Blk) :
    loopE (EvF tab) H L26_0 [0, 5] ⟨[(0, .g (KVs.g s)), (5, I 0)], [], []⟩ =
      some (if allP shortKV s.l = true then (.exit 0, ⟨[(0, .g (KVs.g s)), (5, I s.l.length), (13, B false)], [], []⟩) else (.ret, ⟨[(4, B false)], [], []⟩)) := by
  refine loop_all0 (l := s.l) shortKV (fun k => ⟨[(0, .g (KVs.g s)), (5, I k)], [], []⟩) _ _ (by simp) (by simp) (fun k x hk hx hy => ?_) (by delta L26_0; cases s <;> simp -implicitDefEqProofs)
  delta L26_0
  have e2 := wrap_succ hk hl
  cases s with
  | nil => simp at hk
  | of l =>
    simp only [Sl.l_of] at hk hy
    by_cases h1 : 60 < (x.key.length : Int)
    · simp -implicitDefEqProofs [hk, hy, KV.c, shortKV, h1]
    · by_cases h2 : 60 < (x.value.length : Int)
      · simp -implicitDefEqProofs [hk, hy, KV.c, shortKV, h1, h2]
      · simp -implicitDefEqProofs [hk, hy, KV.c, shortKV, h1, h2, e2]
theorem Few_ev (s : KVs) (hl : s.l.length ≤ 9223372036854775807) (n : Int) (H : List Blk) : EvF tab 26 [.g (KVs.g s), I n] H = some ⟨B (decide ((s.l.length : Int) ≤ n) && allP shortKV s.l), [], []⟩ := by
  refine EvF_walk t26 (by simp) ?_
  have hw := Few_loop s hl H
  rcases Int.lt_or_le n s.l.length with h | h
  · have e : decide ((s.l.length : Int) ≤ n) = false := by simp; omega
    rw [e]
    cases s <;> simp at h <;> simp -implicitDefEqProofs [h]
  · have e : decide ((s.l.length : Int) ≤ n) = true := by simp; omega
    rw [e]
    cases hs : allP shortKV s.l <;> rw [hs] at hw <;> simp only [Bool.false_eq_true, if_true, if_false] at hw
    all_goals cases s <;> simp at h hw hs <;> simp -implicitDefEqProofs [show ¬ n < 0 by omega, Int.not_lt.2 h, hw]
def bndL (x : Lease) : Bool := decide (-1125899906842624 ≤ x.ttl) && decide (x.ttl ≤ 1125899906842624)
theorem Bounded_ev (L : Leases) (hL : L.wf) (H : List Blk) : EvF tab 15 [A L.c] H = some ⟨B (allP bndL L.l.l && decide (L.l.l.length ≤ 20)), [], []⟩ := by
  refine EvF_walk t15 (by simp) ?_
  obtain ⟨nx, s⟩ := L
  obtain ⟨_, hw, hl⟩ := hL
  simp only at hl hw
  have hq : loopE (EvF tab) H L15_0 [1, 3] ⟨[(1, .ptr H.length 0), (3, I 0)], [], [.cells [I nx, .g (LeaseL.g s)]]⟩ =
      some (if allP bndL s.l = true then (.exit 0, ⟨[(1, .ptr H.length 0), (3, I s.l.length), (8, B false)], [], [.cells [I nx, .g (LeaseL.g s)]]⟩) else (.ret, ⟨[(2, B false)], [], [.cells [I nx, .g (LeaseL.g s)]]⟩)) := by
    refine loop_all0 (l := s.l) bndL (fun k => ⟨[(1, .ptr H.length 0), (3, I k)], [], [.cells [I nx, .g (LeaseL.g s)]]⟩) _ _ (by simp) (by simp) (fun k x hk hx hy => ?_) (by delta L15_0; cases s <;> simp -implicitDefEqProofs)
    delta L15_0
    have e2 := wrap_succ hk hl
    cases s with
    | nil => simp at hk
    | of l =>
      simp only [Sl.l_of] at hk hy
      by_cases h1 : 1125899906842624 < x.ttl
      · simp -implicitDefEqProofs [hk, hy, Lease.c, bndL, h1, show ¬ x.ttl ≤ 1125899906842624 by omega]
      · by_cases h2 : x.ttl < -1125899906842624
        · simp -implicitDefEqProofs [hk, hy, Lease.c, bndL, h1, h2, show ¬ -1125899906842624 ≤ x.ttl by omega]
        · simp -implicitDefEqProofs [hk, hy, Lease.c, bndL, h1, h2, e2, show -1125899906842624 ≤ x.ttl by omega, show x.ttl ≤ 1125899906842624 by omega]
  cases hs : allP bndL s.l <;> rw [hs] at hq <;> simp only [Bool.false_eq_true, if_true, if_false] at hq
  · cases s <;> simp at hq hs <;> simp -implicitDefEqProofs [A, Leases.c, hq, hs]
  · by_cases h2 : s.l.length ≤ 20
    · cases s <;> simp at hq hs h2 <;> simp -implicitDefEqProofs [A, Leases.c, hq, hs, h2, show ∀ n : Nat, n ≤ 20 → (n : Int) ≤ 20 from fun n h => by omega]
    · cases s <;> simp at hq hs h2 <;> simp -implicitDefEqProofs [A, Leases.c, hq, hs, h2, show ∀ n : Nat, 20 < n → ¬ (n : Int) ≤ 20 from fun n h => by omega]
theorem in_ev (s : Sl Int) (n : Int) (hl : s.l.length ≤ 9223372036854775807) (H : List Blk) : EvF tab 35 [.g (Ints.g s), I n] H = some ⟨B (!allP (fun x => decide (x ≠ n)) s.l), [], []⟩ := by
  refine EvF_walk t35 (by simp) ?_
  have hq : loopE (EvF tab) H L35_0 [0, 1, 5] ⟨[(0, .g (Ints.g s)), (1, I n), (5, I 0)], [], []⟩ =
      some (if allP (fun x => decide (x ≠ n)) s.l = true then (.exit 0, ⟨[(0, .g (Ints.g s)), (1, I n), (5, I s.l.length), (9, B false)], [], []⟩) else (.ret, ⟨[(4, B true)], [], []⟩)) := by
    refine loop_all0 (l := s.l) (fun x => decide (x ≠ n)) (fun k => ⟨[(0, .g (Ints.g s)), (1, I n), (5, I k)], [], []⟩) _ _ (by simp) (by simp) (fun k x hk hx hy => ?_) (by delta L35_0; cases s <;> simp -implicitDefEqProofs)
    delta L35_0
    have e2 := wrap_succ hk hl
    cases s with
    | nil => simp at hk
    | of l =>
      simp only [Sl.l_of] at hk hy
      by_cases h1 : x = n
      · simp -implicitDefEqProofs [hk, hy, Ints.c, h1]
      · simp -implicitDefEqProofs [hk, hy, Ints.c, h1, e2]
  cases hs : allP (fun x => decide (x ≠ n)) s.l <;> rw [hs] at hq <;> simp only [Bool.false_eq_true, if_true, if_false] at hq
  all_goals cases s <;> simp at hq hs <;> simp -implicitDefEqProofs [hq, hs]
end Go.Proofs.Ytlcjocciianphaa
