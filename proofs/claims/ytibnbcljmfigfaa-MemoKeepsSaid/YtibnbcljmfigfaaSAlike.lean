/- Replies that are the same are told to be the same. -/
import Derived.Test.YtibnbcljmfigfaaSSame
namespace Go.Proofs.Ytibnbcljmfigfaa
open Go Go.AM Go.Proofs
set_option maxRecDepth 20000
set_option maxHeartbeats 1000000
set_option linter.unusedSimpArgs false
set_option linter.unusedVariables false
theorem KVs_ev (a b : Sl KV) (hab : a.l = b.l) (hl : b.l.length ≤ 9223372036854775807) (H : List Blk) : EvF tab 22 [.g (KVs.g a), .g (KVs.g b)] H = some ⟨B true, [], []⟩ := by
  have hw : loopE (EvF tab) H L22_0 [0, 1, 5] ⟨[(0, .g (KVs.g a)), (1, .g (KVs.g b)), (5, I 0)], [], []⟩ = some (.exit 0, ⟨[(0, .g (KVs.g a)), (1, .g (KVs.g b)), (5, I b.l.length), (14, B false)], [], []⟩) := by
    refine loop_cnt b.l.length (fun k => ⟨[(0, .g (KVs.g a)), (1, .g (KVs.g b)), (5, I k)], [], []⟩) _ (by simp) (fun k hk => ?_) ?_
    · delta L22_0
      have e2 := wrap_succ hk hl
      rcases Sl.both hab with ⟨l, ⟨rfl, rfl⟩ | ⟨rfl, rfl, rfl⟩ | ⟨rfl, rfl, rfl⟩ | ⟨rfl, rfl, rfl⟩⟩
      · simp only [Sl.l_of] at hk
        obtain ⟨x, hx⟩ : ∃ x, l[k] = x := ⟨_, rfl⟩
        simp -implicitDefEqProofs [hk, hx, KV.c, e2]
      all_goals simp at hk
    · delta L22_0
      rcases Sl.both hab with ⟨l, ⟨rfl, rfl⟩ | ⟨rfl, rfl, rfl⟩ | ⟨rfl, rfl, rfl⟩ | ⟨rfl, rfl, rfl⟩⟩ <;> simp -implicitDefEqProofs
  refine EvF_walk t22 (by simp) ?_
  rcases Sl.both hab with ⟨l, ⟨rfl, rfl⟩ | ⟨rfl, rfl, rfl⟩ | ⟨rfl, rfl, rfl⟩ | ⟨rfl, rfl, rfl⟩⟩ <;> simp at hw <;> simp -implicitDefEqProofs [hw]
theorem Events_ev (a b : Sl Ev) (hab : a.l = b.l) (hl : b.l.length ≤ 9223372036854775807) (H : List Blk) : EvF tab 18 [.g (Evs.g a), .g (Evs.g b)] H = some ⟨B true, [], []⟩ := by
  have hw : loopE (EvF tab) H L18_0 [0, 1, 5] ⟨[(0, .g (Evs.g a)), (1, .g (Evs.g b)), (5, I 0)], [], []⟩ = some (.exit 0, ⟨[(0, .g (Evs.g a)), (1, .g (Evs.g b)), (5, I b.l.length), (14, B false)], [], []⟩) := by
    refine loop_cnt b.l.length (fun k => ⟨[(0, .g (Evs.g a)), (1, .g (Evs.g b)), (5, I k)], [], []⟩) _ (by simp) (fun k hk => ?_) ?_
    · delta L18_0
      have e2 := wrap_succ hk hl
      rcases Sl.both hab with ⟨l, ⟨rfl, rfl⟩ | ⟨rfl, rfl, rfl⟩ | ⟨rfl, rfl, rfl⟩ | ⟨rfl, rfl, rfl⟩⟩
      · simp only [Sl.l_of] at hk
        obtain ⟨x, hx⟩ : ∃ x, l[k] = x := ⟨_, rfl⟩
        simp -implicitDefEqProofs [hk, hx, Ev.c, e2]
      all_goals simp at hk
    · delta L18_0
      rcases Sl.both hab with ⟨l, ⟨rfl, rfl⟩ | ⟨rfl, rfl, rfl⟩ | ⟨rfl, rfl, rfl⟩ | ⟨rfl, rfl, rfl⟩⟩ <;> simp -implicitDefEqProofs
  refine EvF_walk t18 (by simp) ?_
  rcases Sl.both hab with ⟨l, ⟨rfl, rfl⟩ | ⟨rfl, rfl, rfl⟩ | ⟨rfl, rfl, rfl⟩ | ⟨rfl, rfl, rfl⟩⟩ <;> simp at hw <;> simp -implicitDefEqProofs [hw]
def sameRep (a b : Reply) : Prop := a.code = b.code ∧ a.who = b.who ∧ a.seq = b.seq ∧ a.rev = b.rev ∧ a.lease = b.lease ∧ a.ttl = b.ttl ∧ a.yes = b.yes ∧ a.kvs.l = b.kvs.l ∧ a.events.l = b.events.l
theorem Alike_ev (a b : Reply) (hs : sameRep a b) (h1 : b.kvs.l.length ≤ 9223372036854775807) (h2 : b.events.l.length ≤ 9223372036854775807) (H : List Blk) :
    EvF tab 37 [A a.c, A b.c] H = some ⟨B true, [], []⟩ := by
  refine EvF_walk t37 (by simp) ?_
  obtain ⟨a1, a2, a3, a4, a5, a6, a7, a8, a9⟩ := a
  obtain ⟨b1, b2, b3, b4, b5, b6, b7, b8, b9⟩ := b
  obtain ⟨s1, s2, s3, s4, s5, s6, s7, s8, s9⟩ := hs
  simp only at s1 s2 s3 s4 s5 s6 s7 s8 s9
  subst s1 s2 s3 s4 s5 s6 s7
  have m1 := fun H => KVs_ev a8 b8 s8 h1 H
  have m2 := fun H => Events_ev a9 b9 s9 h2 H
  generalize hg1 : KVs.g a8 = g1 at m1
  generalize hg2 : KVs.g b8 = g2 at m1
  generalize hg3 : Evs.g a9 = g3 at m2
  generalize hg4 : Evs.g b9 = g4 at m2
  simp -implicitDefEqProofs [A, Reply.c, hg1, hg2, hg3, hg4, m1, m2]
end Go.Proofs.Ytibnbcljmfigfaa
