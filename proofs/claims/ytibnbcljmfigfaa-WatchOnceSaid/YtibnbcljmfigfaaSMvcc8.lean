/- Stores that are the same; few things; the guards of the laws on stores. -/
import Derived.Test.YtibnbcljmfigfaaSMvcc7
import Derived.Test.YtibnbcljmfigfaaSFew
import Derived.Test.YtibnbcljmfigfaaSShort
import Derived.Test.YtibnbcljmfigfaaSSame
namespace Go.Proofs.Ytibnbcljmfigfaa
open Go Go.AM Go.Proofs
set_option maxRecDepth 20000
set_option maxHeartbeats 2000000
set_option linter.unusedSimpArgs false
set_option linter.unusedVariables false
theorem KVs_ev (a b : Sl KV) (hab : a.l = b.l) (hl : b.l.length ≤ 9223372036854775807) (H : List Blk) : EvF tab 22 [.g (KVs.g a), .g (KVs.g b)] H = some ⟨B true, [], []⟩ := by
  have hw : loopE (EvF tab) H L22_0 [0, 1, 5] ⟨[(0, .g (KVs.g a)), (1, .g (KVs.g b)), (5, I 0)], [], []⟩ = some (.exit 0, ⟨[(0, .g (KVs.g a)), (1, .g (KVs.g b)), (5, I b.l.length), (14, B false)], [], []⟩) := by
    refine loop_cnt b.l.length (fun k => ⟨[(0, .g (KVs.g a)), (1, .g (KVs.g b)), (5, I k)], [], []⟩) _ (by simp) (fun k hk => ?_) ?_
    · delta L22_0
      have e2 := wrap_succ hk hl
      rcases Sl.both hab with ⟨l, ⟨rfl, rfl⟩ | ⟨rfl, rfl, rfl⟩ | ⟨rfl, rfl, rfl⟩ | ⟨rfl, rfl, rfl⟩⟩
      · simp only [Sl.l_of] at hk
        obtain ⟨x, hx⟩ : ∃ x, l[k] = x := ⟨_, rfl⟩
        simp -implicitDefEqProofs [hk, hx, KV.c, e2]
      all_goals simp at hk
    · delta L22_0
      rcases Sl.both hab with ⟨l, ⟨rfl, rfl⟩ | ⟨rfl, rfl, rfl⟩ | ⟨rfl, rfl, rfl⟩ | ⟨rfl, rfl, rfl⟩⟩ <;> simp -implicitDefEqProofs
  refine EvF_walk t22 (by simp) ?_
  rcases Sl.both hab with ⟨l, ⟨rfl, rfl⟩ | ⟨rfl, rfl, rfl⟩ | ⟨rfl, rfl, rfl⟩ | ⟨rfl, rfl, rfl⟩⟩ <;> simp at hw <;> simp -implicitDefEqProofs [hw]
theorem Events_ev (a b : Sl Ev) (hab : a.l = b.l) (hl : b.l.length ≤ 9223372036854775807) (H : List Blk) : EvF tab 18 [.g (Evs.g a), .g (Evs.g b)] H = some ⟨B true, [], []⟩ := by
  have hw : loopE (EvF tab) H L18_0 [0, 1, 5] ⟨[(0, .g (Evs.g a)), (1, .g (Evs.g b)), (5, I 0)], [], []⟩ = some (.exit 0, ⟨[(0, .g (Evs.g a)), (1, .g (Evs.g b)), (5, I b.l.length), (14, B false)], [], []⟩) := by
    refine loop_cnt b.l.length (fun k => ⟨[(0, .g (Evs.g a)), (1, .g (Evs.g b)), (5, I k)], [], []⟩) _ (by simp) (fun k hk => ?_) ?_
    · delta L18_0
      have e2 := wrap_succ hk hl
      rcases Sl.both hab with ⟨l, ⟨rfl, rfl⟩ | ⟨rfl, rfl, rfl⟩ | ⟨rfl, rfl, rfl⟩ | ⟨rfl, rfl, rfl⟩⟩
      · simp only [Sl.l_of] at hk
        obtain ⟨x, hx⟩ : ∃ x, l[k] = x := ⟨_, rfl⟩
        simp -implicitDefEqProofs [hk, hx, Ev.c, e2]
      all_goals simp at hk
    · delta L18_0
      rcases Sl.both hab with ⟨l, ⟨rfl, rfl⟩ | ⟨rfl, rfl, rfl⟩ | ⟨rfl, rfl, rfl⟩ | ⟨rfl, rfl, rfl⟩⟩ <;> simp -implicitDefEqProofs
  refine EvF_walk t18 (by simp) ?_
  rcases Sl.both hab with ⟨l, ⟨rfl, rfl⟩ | ⟨rfl, rfl, rfl⟩ | ⟨rfl, rfl, rfl⟩ | ⟨rfl, rfl, rfl⟩⟩ <;> simp at hw <;> simp -implicitDefEqProofs [hw]
def sameS (a b : Store) : Prop := a.rev = b.rev ∧ a.low = b.low ∧ a.base.l = b.base.l ∧ a.log.l = b.log.l
def fewS (s : Store) : Bool := (decide ((s.base.l.length : Int) ≤ 40) && allP shortKV s.base.l) && (decide ((s.log.l.length : Int) ≤ 70) && allP shortEv s.log.l)
theorem FewS_ev (s : Store) (w : s.wf) (H : List Blk) : EvF tab 43 [A s.c] H = some ⟨B (fewS s), [], []⟩ := by
  obtain ⟨w1, w2, w3, w4⟩ := w
  have m1 := fun H => Few_ev s.base w3.2 40 H
  have m2 := fun H => FewEvents_ev s.log w4.2 70 H
  refine EvF_walk t43 (by simp) ?_
  unfold fewS
  generalize (decide ((s.base.l.length : Int) ≤ 40) && allP shortKV s.base.l) = b1 at m1 ⊢
  generalize (decide ((s.log.l.length : Int) ≤ 70) && allP shortEv s.log.l) = b2 at m2 ⊢
  obtain ⟨a1, a2, a3, a4⟩ := s
  simp only at m1 m2 ⊢
  generalize hg1 : KVs.g a3 = g1 at m1
  generalize hg3 : Evs.g a4 = g3 at m2
  cases b1 <;> simp -implicitDefEqProofs [A, Store.c, hg1, hg3, m1, m2]
theorem fewS_small {s : Store} (h : fewS s = true) : s.base.l.length ≤ 40 ∧ s.log.l.length ≤ 70 := by
  unfold fewS at h
  simp only [Bool.and_eq_true, decide_eq_true_eq] at h
  omega
theorem fewS_smallS {s : Store} (h : fewS s = true) : smallS s := by have := fewS_small h; unfold smallS; omega
end Go.Proofs.Ytibnbcljmfigfaa
