/- Stores that are the same; few things; the guards of the laws on stores. -/
import Derived.Test.YtnbclicefmpkiaaSMvcc7
import Derived.Test.YtnbclicefmpkiaaSFew
import Derived.Test.YtnbclicefmpkiaaSShort
import Derived.Test.YtnbclicefmpkiaaSSame
namespace Go.Proofs.Ytnbclicefmpkiaa
open Go Go.AM Go.Proofs
set_option maxRecDepth 20000
set_option maxHeartbeats 2000000
set_option linter.unusedSimpArgs false
set_option linter.unusedVariables false
theorem KVs_ev (a b : Sl KV) (hab : a.l = b.l) (hl : b.l.length ≤ 9223372036854775807) (H : List Blk) : EvF tab 41 [.g (KVs.g a), .g (KVs.g b)] H = some ⟨B true, [], []⟩ := by
  have hw : loopE (EvF tab) H L41_0 [0, 1, 5] ⟨[(0, .g (KVs.g a)), (1, .g (KVs.g b)), (5, I 0)], [], []⟩ = some (.exit 0, ⟨[(0, .g (KVs.g a)), (1, .g (KVs.g b)), (5, I b.l.length), (14, B false)], [], []⟩) := by
    refine loop_cnt b.l.length (fun k => ⟨[(0, .g (KVs.g a)), (1, .g (KVs.g b)), (5, I k)], [], []⟩) _ (by simp) (fun k hk => ?_) ?_
    · delta L41_0
      have e2 := wrap_succ hk hl
      rcases Sl.both hab with ⟨l, ⟨rfl, rfl⟩ | ⟨rfl, rfl, rfl⟩ | ⟨rfl, rfl, rfl⟩ | ⟨rfl, rfl, rfl⟩⟩
      · simp only [Sl.l_of] at hk
        obtain ⟨x, hx⟩ : ∃ x, l[k] = x := ⟨_, rfl⟩
        simp -implicitDefEqProofs [hk, hx, KV.c, e2]
      all_goals simp at hk
    · delta L41_0
      rcases Sl.both hab with ⟨l, ⟨rfl, rfl⟩ | ⟨rfl, rfl, rfl⟩ | ⟨rfl, rfl, rfl⟩ | ⟨rfl, rfl, rfl⟩⟩ <;> simp -implicitDefEqProofs
  refine EvF_walk t41 (by simp) ?_
  rcases Sl.both hab with ⟨l, ⟨rfl, rfl⟩ | ⟨rfl, rfl, rfl⟩ | ⟨rfl, rfl, rfl⟩ | ⟨rfl, rfl, rfl⟩⟩ <;> simp at hw <;> simp -implicitDefEqProofs [hw]
theorem Events_ev (a b : Sl Ev) (hab : a.l = b.l) (hl : b.l.length ≤ 9223372036854775807) (H : List Blk) : EvF tab 27 [.g (Evs.g a), .g (Evs.g b)] H = some ⟨B true, [], []⟩ := by
  have hw : loopE (EvF tab) H L27_0 [0, 1, 5] ⟨[(0, .g (Evs.g a)), (1, .g (Evs.g b)), (5, I 0)], [], []⟩ = some (.exit 0, ⟨[(0, .g (Evs.g a)), (1, .g (Evs.g b)), (5, I b.l.length), (14, B false)], [], []⟩) := by
    refine loop_cnt b.l.length (fun k => ⟨[(0, .g (Evs.g a)), (1, .g (Evs.g b)), (5, I k)], [], []⟩) _ (by simp) (fun k hk => ?_) ?_
    · delta L27_0
      have e2 := wrap_succ hk hl
      rcases Sl.both hab with ⟨l, ⟨rfl, rfl⟩ | ⟨rfl, rfl, rfl⟩ | ⟨rfl, rfl, rfl⟩ | ⟨rfl, rfl, rfl⟩⟩
      · simp only [Sl.l_of] at hk
        obtain ⟨x, hx⟩ : ∃ x, l[k] = x := ⟨_, rfl⟩
        simp -implicitDefEqProofs [hk, hx, Ev.c, e2]
      all_goals simp at hk
    · delta L27_0
      rcases Sl.both hab with ⟨l, ⟨rfl, rfl⟩ | ⟨rfl, rfl, rfl⟩ | ⟨rfl, rfl, rfl⟩ | ⟨rfl, rfl, rfl⟩⟩ <;> simp -implicitDefEqProofs
  refine EvF_walk t27 (by simp) ?_
  rcases Sl.both hab with ⟨l, ⟨rfl, rfl⟩ | ⟨rfl, rfl, rfl⟩ | ⟨rfl, rfl, rfl⟩ | ⟨rfl, rfl, rfl⟩⟩ <;> simp at hw <;> simp -implicitDefEqProofs [hw]
def sameS (a b : Store) : Prop := a.rev = b.rev ∧ a.low = b.low ∧ a.base.l = b.base.l ∧ a.log.l = b.log.l
theorem SameS_ev (a b : Store) (h : sameS a b) (hb : smallS b) (H : List Blk) : EvF tab 26 [A a.c, A b.c] H = some ⟨B true, [], []⟩ := by
  unfold smallS at hb
  obtain ⟨h1, h2, h3, h4⟩ := h
  have m1 := fun H => KVs_ev a.base b.base h3 (by omega) H
  have m2 := fun H => Events_ev a.log b.log h4 (by omega) H
  refine EvF_walk t26 (by simp) ?_
  obtain ⟨a1, a2, a3, a4⟩ := a
  obtain ⟨b1, b2, b3, b4⟩ := b
  simp only at h1 h2 m1 m2 ⊢
  subst h1 h2
  generalize hg1 : KVs.g a3 = g1 at m1
  generalize hg2 : KVs.g b3 = g2 at m1
  generalize hg3 : Evs.g a4 = g3 at m2
  generalize hg4 : Evs.g b4 = g4 at m2
  simp -implicitDefEqProofs [A, Store.c, hg1, hg2, hg3, hg4, m1, m2]
def fewS (s : Store) : Bool := (decide ((s.base.l.length : Int) ≤ 40) && allP shortKV s.base.l) && (decide ((s.log.l.length : Int) ≤ 70) && allP shortEv s.log.l)
theorem FewS_ev (s : Store) (w : s.wf) (H : List Blk) : EvF tab 21 [A s.c] H = some ⟨B (fewS s), [], []⟩ := by
  obtain ⟨w1, w2, w3, w4⟩ := w
  have m1 := fun H => Few_ev s.base w3.2 40 H
  have m2 := fun H => FewEvents_ev s.log w4.2 70 H
  refine EvF_walk t21 (by simp) ?_
  unfold fewS
  generalize (decide ((s.base.l.length : Int) ≤ 40) && allP shortKV s.base.l) = b1 at m1 ⊢
  generalize (decide ((s.log.l.length : Int) ≤ 70) && allP shortEv s.log.l) = b2 at m2 ⊢
  obtain ⟨a1, a2, a3, a4⟩ := s
  simp only at m1 m2 ⊢
  generalize hg1 : KVs.g a3 = g1 at m1
  generalize hg3 : Evs.g a4 = g3 at m2
  cases b1 <;> simp -implicitDefEqProofs [A, Store.c, hg1, hg3, m1, m2]
theorem fewS_small {s : Store} (h : fewS s = true) : s.base.l.length ≤ 40 ∧ s.log.l.length ≤ 70 := by
  unfold fewS at h
  simp only [Bool.and_eq_true, decide_eq_true_eq] at h
  omega
theorem fewS_smallS {s : Store} (h : fewS s = true) : smallS s := by have := fewS_small h; unfold smallS; omega
theorem short5_ev (s : Sl Mut) (hl : s.l.length ≤ 9223372036854775807) (H : List Blk) : EvF tab 44 [.g (Muts.g s)] H = some ⟨B (allP shortM s.l), [], []⟩ := by
  have hw : loopE (EvF tab) H L44_0 [0, 3] ⟨[(0, .g (Muts.g s)), (3, I 0)], [], []⟩ =
      some (if allP shortM s.l = true then (.exit 0, ⟨[(0, .g (Muts.g s)), (3, I s.l.length), (7, B false)], [], []⟩) else (.ret, ⟨[(2, B false)], [], []⟩)) := by
    refine loop_all0 (l := s.l) shortM (fun k => ⟨[(0, .g (Muts.g s)), (3, I k)], [], []⟩) _ _ (by simp) (by simp) (fun k x hk hx hy => ?_) (by delta L44_0; cases s <;> simp -implicitDefEqProofs)
    delta L44_0
    have e2 := wrap_succ hk hl
    cases s with
    | nil => simp at hk
    | of l =>
      simp only [Sl.l_of] at hk hy
      by_cases h1 : 60 < (x.key.length : Int)
      · simp -implicitDefEqProofs [hk, hy, Mut.c, shortM, shortT, h1]
      · by_cases h2 : 60 < (x.value.length : Int)
        · simp -implicitDefEqProofs [hk, hy, Mut.c, shortM, shortT, h1, h2]
        · simp -implicitDefEqProofs [hk, hy, Mut.c, shortM, shortT, h1, h2, e2]
  refine EvF_walk t44 (by simp) ?_
  cases hs : allP shortM s.l <;> rw [hs] at hw <;> simp only [Bool.false_eq_true, if_true, if_false] at hw
  all_goals cases s <;> simp at hw hs <;> simp -implicitDefEqProofs [hw]
end Go.Proofs.Ytnbclicefmpkiaa
