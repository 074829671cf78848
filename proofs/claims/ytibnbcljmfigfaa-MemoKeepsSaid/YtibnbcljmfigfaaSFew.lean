/- Few keys and events, with short texts: what the guards of the laws answer. -/
import Derived.Test.YtibnbcljmfigfaaTabA
import Derived.Test.YtibnbcljmfigfaaAMJ4
import Derived.KernelRfl
namespace Go.Proofs.Ytibnbcljmfigfaa
open Go Go.AM Go.Proofs
set_option maxRecDepth 4000
set_option linter.unusedSimpArgs false
def shortKV (x : KV) : Bool := !(decide (60 < (x.key.length : Int)) || decide (60 < (x.value.length : Int)))
def shortEv (x : Ev) : Bool := shortKV x.kv
theorem Few_loop (s : KVs) (hl : s.l.length ≤ 9223372036854775807) (H : List Blk) :
    loopE (EvF tab) H L19_0 [0, 5] ⟨[(0, .g (KVs.g s)), (5, I 0)], [], []⟩ =
      some (if allP shortKV s.l = true then (.exit 0, ⟨[(0, .g (KVs.g s)), (5, I s.l.length), (13, B false)], [], []⟩) else (.ret, ⟨[(4, B false)], [], []⟩)) := by
  refine loop_all0 (l := s.l) shortKV (fun k => ⟨[(0, .g (KVs.g s)), (5, I k)], [], []⟩) _ _ (by simp) (by simp) (fun k x hk hx hy => ?_) (by delta L19_0; cases s <;> simp -implicitDefEqProofs)
  delta L19_0
  have e2 := wrap_succ hk hl
  cases s with
  | nil => simp at hk
  | of l =>
    simp only [Sl.l_of] at hk hy
    by_cases h1 : 60 < (x.key.length : Int)
    · simp -implicitDefEqProofs [hk, hy, KV.c, shortKV, h1]
    · by_cases h2 : 60 < (x.value.length : Int)
      · simp -implicitDefEqProofs [hk, hy, KV.c, shortKV, h1, h2]
      · simp -implicitDefEqProofs [hk, hy, KV.c, shortKV, h1, h2, e2]
theorem Few_ev (s : KVs) (hl : s.l.length ≤ 9223372036854775807) (n : Int) (H : List Blk) : EvF tab 19 [.g (KVs.g s), I n] H = some ⟨B (decide ((s.l.length : Int) ≤ n) && allP shortKV s.l), [], []⟩ := by
  refine EvF_walk t19 (by simp) ?_
  have hw := Few_loop s hl H
  rcases Int.lt_or_le n s.l.length with h | h
  · have e : decide ((s.l.length : Int) ≤ n) = false := by simp; omega
    rw [e]
    cases s <;> simp at h <;> simp -implicitDefEqProofs [h]
  · have e : decide ((s.l.length : Int) ≤ n) = true := by simp; omega
    rw [e]
    cases hs : allP shortKV s.l <;> rw [hs] at hw <;> simp only [Bool.false_eq_true, if_true, if_false] at hw
    all_goals cases s <;> simp at h hw hs <;> simp -implicitDefEqProofs [show ¬ n < 0 by omega, Int.not_lt.2 h, hw]
theorem FewEvents_loop (s : Evs) (hl : s.l.length ≤ 9223372036854775807) (H : List Blk) :
    loopE (EvF tab) H L31_0 [0, 5] ⟨[(0, .g (Evs.g s)), (5, I 0)], [], []⟩ =
      some (if allP shortEv s.l = true then (.exit 0, ⟨[(0, .g (Evs.g s)), (5, I s.l.length), (13, B false)], [], []⟩) else (.ret, ⟨[(4, B false)], [], []⟩)) := by
  refine loop_all0 (l := s.l) shortEv (fun k => ⟨[(0, .g (Evs.g s)), (5, I k)], [], []⟩) _ _ (by simp) (by simp) (fun k x hk hx hy => ?_) (by delta L31_0; cases s <;> simp -implicitDefEqProofs)
  delta L31_0
  have e2 := wrap_succ hk hl
  cases s with
  | nil => simp at hk
  | of l =>
    simp only [Sl.l_of] at hk hy
    by_cases h1 : 60 < (x.kv.key.length : Int)
    · simp -implicitDefEqProofs [hk, hy, Ev.c, shortKV, shortEv, h1]
    · by_cases h2 : 60 < (x.kv.value.length : Int)
      · simp -implicitDefEqProofs [hk, hy, Ev.c, shortKV, shortEv, h1, h2]
      · simp -implicitDefEqProofs [hk, hy, Ev.c, shortKV, shortEv, h1, h2, e2]
theorem FewEvents_ev (s : Evs) (hl : s.l.length ≤ 9223372036854775807) (n : Int) (H : List Blk) : EvF tab 31 [.g (Evs.g s), I n] H = some ⟨B (decide ((s.l.length : Int) ≤ n) && allP shortEv s.l), [], []⟩ := by
  refine EvF_walk t31 (by simp) ?_
  have hw := FewEvents_loop s hl H
  rcases Int.lt_or_le n s.l.length with h | h
  · have e : decide ((s.l.length : Int) ≤ n) = false := by simp; omega
    rw [e]
    cases s <;> simp at h <;> simp -implicitDefEqProofs [h]
  · have e : decide ((s.l.length : Int) ≤ n) = true := by simp; omega
    rw [e]
    cases hs : allP shortEv s.l <;> rw [hs] at hw <;> simp only [Bool.false_eq_true, if_true, if_false] at hw
    all_goals cases s <;> simp at h hw hs <;> simp -implicitDefEqProofs [show ¬ n < 0 by omega, Int.not_lt.2 h, hw]
end Go.Proofs.Ytibnbcljmfigfaa
