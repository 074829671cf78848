/- Short requests: what the reference says. -/
import Derived.Test.YtnbclicefmpkiaaTabA
import Derived.Test.YtnbclicefmpkiaaAMJ4
import Derived.KernelRfl
namespace Go.Proofs.Ytnbclicefmpkiaa
open Go Go.AM Go.Proofs
set_option maxRecDepth 20000
set_option maxHeartbeats 1000000
set_option linter.unusedSimpArgs false
set_option linter.unusedVariables false
def shortT (k v : Bs) : Bool := !(decide (60 < (k.length : Int)) || decide (60 < (v.length : Int)))
def shortM (m : Mut) : Bool := shortT m.key m.value
def shortC (m : Cmp) : Bool := shortT m.key m.value
theorem ShortMuts_loop (s : Sl Mut) (hl : s.l.length ≤ 9223372036854775807) (H : List Blk) :
    loopE (EvF tab) H L60_0 [0, 3] ⟨[(0, .g (Muts.g s)), (3, I 0)], [], []⟩ =
      some (if allP shortM s.l = true then (.exit 0, ⟨[(0, .g (Muts.g s)), (3, I s.l.length), (10, B false)], [], []⟩) else (.ret, ⟨[(2, B false)], [], []⟩)) := by
  refine loop_all0 (l := s.l) shortM (fun k => ⟨[(0, .g (Muts.g s)), (3, I k)], [], []⟩) _ _ (by simp) (by simp) (fun k x hk hx hy => ?_) (by delta L60_0; cases s <;> simp -implicitDefEqProofs)
  delta L60_0
  have e2 := wrap_succ hk hl
  cases s with
  | nil => simp at hk
  | of l =>
    simp only [Sl.l_of] at hk hy
    by_cases h1 : 60 < (x.key.length : Int)
    · simp -implicitDefEqProofs [hk, hy, Mut.c, shortM, shortT, h1]
    · by_cases h2 : 60 < (x.value.length : Int)
      · simp -implicitDefEqProofs [hk, hy, Mut.c, shortM, shortT, h1, h2]
      · simp -implicitDefEqProofs [hk, hy, Mut.c, shortM, shortT, h1, h2, e2]
def shortMs (s : Sl Mut) : Bool := decide (s.l.length ≤ 8) && allP shortM s.l
theorem ShortMuts_ev (s : Sl Mut) (hl : s.l.length ≤ 9223372036854775807) (H : List Blk) : EvF tab 60 [.g (Muts.g s)] H = some ⟨B (shortMs s), [], []⟩ := by
  refine EvF_walk t60 (by simp) ?_
  have hw := ShortMuts_loop s hl H
  unfold shortMs
  by_cases h : s.l.length ≤ 8
  · cases hs : allP shortM s.l <;> rw [hs] at hw <;> simp only [Bool.false_eq_true, if_true, if_false] at hw
    all_goals simp -implicitDefEqProofs [h, show ¬ (8 : Int) < (s.l.length : Int) by omega, hw]
  · simp -implicitDefEqProofs [h, show (8 : Int) < (s.l.length : Int) by omega]
theorem Short_loop (r : Req) (hl : r.iff.l.length ≤ 9223372036854775807) (H : List Blk) :
    loopE (EvF tab) H L23_0 [1, 3] ⟨[(1, .ptr H.length 0), (3, I 0)], [], [.cells (r.c.map .g)]⟩ =
      some (if allP shortC r.iff.l = true then (.exit 0, ⟨[(1, .ptr H.length 0), (3, I r.iff.l.length), (40, B false)], [], [.cells (r.c.map .g)]⟩) else (.ret, ⟨[(2, B false)], [], [.cells (r.c.map .g)]⟩)) := by
  refine loop_all0 (l := r.iff.l) shortC (fun k => ⟨[(1, .ptr H.length 0), (3, I k)], [], [.cells (r.c.map .g)]⟩) _ _ (by simp) (by simp) (fun k x hk hx hy => ?_) (by delta L23_0; simp -implicitDefEqProofs [Req.c])
  delta L23_0
  have e2 := wrap_succ hk hl
  obtain ⟨b1, b2, b3, b4, b5, b6, b7, b8, b9, b10, bi, bt, be⟩ := r
  simp only at hk hl hx hy e2 ⊢
  cases bi with
  | nil => simp at hk
  | of l =>
    simp only [Sl.l_of] at hk hy e2 ⊢
    by_cases h1 : 60 < (x.key.length : Int)
    · simp -implicitDefEqProofs [hk, hy, Req.c, Cmp.c, shortC, shortT, h1]
    · by_cases h2 : 60 < (x.value.length : Int)
      · simp -implicitDefEqProofs [hk, hy, Req.c, Cmp.c, shortC, shortT, h1, h2]
      · simp -implicitDefEqProofs [hk, hy, Req.c, Cmp.c, shortC, shortT, h1, h2, e2]
def shortReq (r : Req) : Bool := decide (r.key.length ≤ 60) && decide (r.value.length ≤ 60) && decide (r.iff.l.length ≤ 8) && decide (r.thn.l.length ≤ 8) && decide (r.els.l.length ≤ 8) && allP shortC r.iff.l && shortMs r.thn && shortMs r.els
theorem Short_ev (r : Req) (w : r.wf) (H : List Blk) : EvF tab 23 [A r.c] H = some ⟨B (shortReq r), [], []⟩ := by
  have hw := Short_loop r w.2.2.2.2.2.2.2.2.2.1.2 H
  have hm1 := ShortMuts_ev r.thn w.2.2.2.2.2.2.2.2.2.2.1.2
  have hm2 := ShortMuts_ev r.els w.2.2.2.2.2.2.2.2.2.2.2.2
  refine EvF_walk t23 (by simp) ?_
  obtain ⟨kind, who, seq, once, key, value, lease, rev, ttl, token, iff, thn, els⟩ := r
  unfold shortReq
  simp only at hw hm1 hm2 ⊢
  generalize shortMs thn = m1 at hm1 ⊢
  generalize shortMs els = m2 at hm2 ⊢
  simp only [Req.c, List.map_cons, List.map_nil] at hw
  by_cases k1 : key.length ≤ 60
  · by_cases k2 : value.length ≤ 60
    · by_cases k3 : iff.l.length ≤ 8
      · by_cases k4 : thn.l.length ≤ 8
        · by_cases k5 : els.l.length ≤ 8
          · cases hs : allP shortC iff.l <;> rw [hs] at hw <;> simp only [Bool.false_eq_true, if_true, if_false] at hw
            · simp -implicitDefEqProofs [A, Req.c, hw, k1, k2, k3, k4, k5, show ¬ (60 : Int) < (key.length : Int) by omega, show ¬ (60 : Int) < (value.length : Int) by omega, show ¬ (8 : Int) < (iff.l.length : Int) by omega, show ¬ (8 : Int) < (thn.l.length : Int) by omega, show ¬ (8 : Int) < (els.l.length : Int) by omega]
            · cases m1 <;> simp -implicitDefEqProofs [A, Req.c, hw, hm1, hm2, k1, k2, k3, k4, k5, show ¬ (60 : Int) < (key.length : Int) by omega, show ¬ (60 : Int) < (value.length : Int) by omega, show ¬ (8 : Int) < (iff.l.length : Int) by omega, show ¬ (8 : Int) < (thn.l.length : Int) by omega, show ¬ (8 : Int) < (els.l.length : Int) by omega]
          · simp -implicitDefEqProofs [A, Req.c, k1, k2, k3, k4, k5, show ¬ (60 : Int) < (key.length : Int) by omega, show ¬ (60 : Int) < (value.length : Int) by omega, show ¬ (8 : Int) < (iff.l.length : Int) by omega, show ¬ (8 : Int) < (thn.l.length : Int) by omega, show (8 : Int) < (els.l.length : Int) by omega]
        · simp -implicitDefEqProofs [A, Req.c, k1, k2, k3, k4, show ¬ (60 : Int) < (key.length : Int) by omega, show ¬ (60 : Int) < (value.length : Int) by omega, show ¬ (8 : Int) < (iff.l.length : Int) by omega, show (8 : Int) < (thn.l.length : Int) by omega]
      · simp -implicitDefEqProofs [A, Req.c, k1, k2, k3, show ¬ (60 : Int) < (key.length : Int) by omega, show ¬ (60 : Int) < (value.length : Int) by omega, show (8 : Int) < (iff.l.length : Int) by omega]
    · simp -implicitDefEqProofs [A, Req.c, k1, k2, show ¬ (60 : Int) < (key.length : Int) by omega, show (60 : Int) < (value.length : Int) by omega]
  · simp -implicitDefEqProofs [A, Req.c, k1, show (60 : Int) < (key.length : Int) by omega]
end Go.Proofs.Ytnbclicefmpkiaa
