/- Things that are the same are told to be the same. -/
import Derived.Test.YtnbclicefmpkiaaTabA
import Derived.Test.YtnbclicefmpkiaaAMJ4
import Derived.KernelRfl
namespace Go.Proofs.Ytnbclicefmpkiaa
open Go Go.AM Go.Proofs
set_option maxRecDepth 4000
set_option linter.unusedSimpArgs false
set_option linter.unusedVariables false
theorem Muts_ev (a b : Sl Mut) (hab : a.l = b.l) (hl : b.l.length ≤ 9223372036854775807) (H : List Blk) : EvF tab 61 [.g (Muts.g a), .g (Muts.g b)] H = some ⟨B true, [], []⟩ := by
  have hw : loopE (EvF tab) H L61_0 [0, 1, 5] ⟨[(0, .g (Muts.g a)), (1, .g (Muts.g b)), (5, I 0)], [], []⟩ = some (.exit 0, ⟨[(0, .g (Muts.g a)), (1, .g (Muts.g b)), (5, I b.l.length), (14, B false)], [], []⟩) := by
    refine loop_cnt b.l.length (fun k => ⟨[(0, .g (Muts.g a)), (1, .g (Muts.g b)), (5, I k)], [], []⟩) _ (by simp) (fun k hk => ?_) ?_
    · delta L61_0
      have e2 := wrap_succ hk hl
      rcases Sl.both hab with ⟨l, ⟨rfl, rfl⟩ | ⟨rfl, rfl, rfl⟩ | ⟨rfl, rfl, rfl⟩ | ⟨rfl, rfl, rfl⟩⟩
      · simp only [Sl.l_of] at hk
        obtain ⟨x, hx⟩ : ∃ x, l[k] = x := ⟨_, rfl⟩
        simp -implicitDefEqProofs [hk, hx, Mut.c, e2]
      all_goals simp at hk
    · delta L61_0
      rcases Sl.both hab with ⟨l, ⟨rfl, rfl⟩ | ⟨rfl, rfl, rfl⟩ | ⟨rfl, rfl, rfl⟩ | ⟨rfl, rfl, rfl⟩⟩ <;> simp -implicitDefEqProofs
  refine EvF_walk t61 (by simp) ?_
  rcases Sl.both hab with ⟨l, ⟨rfl, rfl⟩ | ⟨rfl, rfl, rfl⟩ | ⟨rfl, rfl, rfl⟩ | ⟨rfl, rfl, rfl⟩⟩ <;> simp at hw <;> simp -implicitDefEqProofs [hw]
def sameReq (a b : Req) : Prop := a.kind = b.kind ∧ a.who = b.who ∧ a.seq = b.seq ∧ a.once = b.once ∧ a.key = b.key ∧ a.value = b.value ∧ a.lease = b.lease ∧ a.rev = b.rev ∧ a.ttl = b.ttl ∧ a.token = b.token ∧ a.iff.l = b.iff.l ∧ a.thn.l = b.thn.l ∧ a.els.l = b.els.l
theorem Same_loop (a b : Req) (hab : a.iff.l = b.iff.l) (hl : b.iff.l.length ≤ 9223372036854775807) (H : List Blk) :
    loopE (EvF tab) H L36_0 [2, 3, 5] ⟨[(2, .ptr H.length 0), (3, .ptr (H.length + 1) 0), (5, I 0)], [], [.cells (a.c.map .g), .cells (b.c.map .g)]⟩ =
      some (.exit 0, ⟨[(2, .ptr H.length 0), (3, .ptr (H.length + 1) 0), (5, I b.iff.l.length), (90, B false)], [], [.cells (a.c.map .g), .cells (b.c.map .g)]⟩) := by
  obtain ⟨a1, a2, a3, a4, a5, a6, a7, a8, a9, a10, ai, at_, ae⟩ := a
  obtain ⟨b1, b2, b3, b4, b5, b6, b7, b8, b9, b10, bi, bt, be⟩ := b
  simp only at hab hl
  refine loop_cnt bi.l.length (fun k => ⟨[(2, .ptr H.length 0), (3, .ptr (H.length + 1) 0), (5, I k)], [], _⟩) _ (by simp) (fun k hk => ?_) ?_
  · delta L36_0
    have e2 := wrap_succ hk hl
    rcases Sl.both hab with ⟨l, ⟨rfl, rfl⟩ | ⟨rfl, rfl, rfl⟩ | ⟨rfl, rfl, rfl⟩ | ⟨rfl, rfl, rfl⟩⟩
    · simp only [Sl.l_of] at hk
      obtain ⟨x, hx⟩ : ∃ x, l[k] = x := ⟨_, rfl⟩
      simp -implicitDefEqProofs [hk, hx, Req.c, Cmp.c, e2]
    all_goals simp at hk
  · delta L36_0
    rcases Sl.both hab with ⟨l, ⟨rfl, rfl⟩ | ⟨rfl, rfl, rfl⟩ | ⟨rfl, rfl, rfl⟩ | ⟨rfl, rfl, rfl⟩⟩ <;> simp -implicitDefEqProofs [Req.c]
theorem Same_ev (a b : Req) (hs : sameReq a b) (h1 : b.iff.l.length ≤ 9223372036854775807) (h2 : b.thn.l.length ≤ 9223372036854775807) (h3 : b.els.l.length ≤ 9223372036854775807) (H : List Blk) :
    EvF tab 36 [A a.c, A b.c] H = some ⟨B true, [], []⟩ := by
  refine EvF_walk t36 (by simp) ?_
  have hw := Same_loop a b hs.2.2.2.2.2.2.2.2.2.2.1 h1 H
  obtain ⟨a1, a2, a3, a4, a5, a6, a7, a8, a9, a10, ai, at_, ae⟩ := a
  obtain ⟨b1, b2, b3, b4, b5, b6, b7, b8, b9, b10, bi, bt, be⟩ := b
  obtain ⟨s1, s2, s3, s4, s5, s6, s7, s8, s9, s10, s11, s12, s13⟩ := hs
  simp only at s1 s2 s3 s4 s5 s6 s7 s8 s9 s10 s11 s12 s13
  subst s1 s2 s3 s4 s5 s6 s7 s8 s9 s10
  have m1 := fun H => Muts_ev at_ bt s12 h2 H
  have m2 := fun H => Muts_ev ae be s13 h3 H
  simp only [Req.c, List.map_cons, List.map_nil] at hw
  rcases Sl.both s11 with ⟨l, ⟨rfl, rfl⟩ | ⟨rfl, rfl, rfl⟩ | ⟨rfl, rfl, rfl⟩ | ⟨rfl, rfl, rfl⟩⟩ <;> simp only [Sl.g_nil, Sl.g_of, Sl.l_nil, Sl.l_of, List.length_nil, List.map_nil] at hw <;> simp -implicitDefEqProofs [A, Req.c, hw, m1, m2]
end Go.Proofs.Ytnbclicefmpkiaa
