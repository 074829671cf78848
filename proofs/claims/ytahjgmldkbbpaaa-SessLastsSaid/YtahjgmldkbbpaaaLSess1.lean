/- The laws SessTells and SessKeeps. -/
import Derived.Test.YtahjgmldkbbpaaaSFew
import Derived.Test.YtahjgmldkbbpaaaSSess
import Derived.Test.YtahjgmldkbbpaaaSSame
namespace Go.Proofs.Ytahjgmldkbbpaaa
open Go Go.AM Go.Proofs
set_option maxRecDepth 4000
set_option linter.unusedSimpArgs false
set_option linter.unusedVariables false
theorem live14_r0 : rF tab 200 20 16 [] [] = some ⟨.g (.bool true), [], []⟩ := by kernel_rfl
theorem live14_0 : EvF tab 16 [] [] = some ⟨.g (.bool true), [], []⟩ := EvF_run (live14_r0)
theorem live14_r1 (b0 : Blk) : rF tab 200 20 16 [] [b0] = some ⟨.g (.bool true), [], []⟩ := by kernel_rfl
theorem live14_1 (b0 : Blk) : EvF tab 16 [] [b0] = some ⟨.g (.bool true), [], []⟩ := EvF_run (live14_r1 b0)
theorem live14_r2 (b0 b1 : Blk) : rF tab 200 20 16 [] [b0, b1] = some ⟨.g (.bool true), [], []⟩ := by kernel_rfl
theorem live14_2 (b0 b1 : Blk) : EvF tab 16 [] [b0, b1] = some ⟨.g (.bool true), [], []⟩ := EvF_run (live14_r2 b0 b1)
theorem live14_r3 (b0 b1 b2 : Blk) : rF tab 200 20 16 [] [b0, b1, b2] = some ⟨.g (.bool true), [], []⟩ := by kernel_rfl
theorem live14_3 (b0 b1 b2 : Blk) : EvF tab 16 [] [b0, b1, b2] = some ⟨.g (.bool true), [], []⟩ := EvF_run (live14_r3 b0 b1 b2)
theorem live14_r4 (b0 b1 b2 b3 : Blk) : rF tab 200 20 16 [] [b0, b1, b2, b3] = some ⟨.g (.bool true), [], []⟩ := by kernel_rfl
theorem live14_4 (b0 b1 b2 b3 : Blk) : EvF tab 16 [] [b0, b1, b2, b3] = some ⟨.g (.bool true), [], []⟩ := EvF_run (live14_r4 b0 b1 b2 b3)
theorem live14_r5 (b0 b1 b2 b3 b4 : Blk) : rF tab 200 20 16 [] [b0, b1, b2, b3, b4] = some ⟨.g (.bool true), [], []⟩ := by kernel_rfl
theorem live14_5 (b0 b1 b2 b3 b4 : Blk) : EvF tab 16 [] [b0, b1, b2, b3, b4] = some ⟨.g (.bool true), [], []⟩ := EvF_run (live14_r5 b0 b1 b2 b3 b4)

theorem SessKeeps_law (s : Sess) (now : Int) (p : Reply) (_ : s.wf) (_ : I64 now) (hp : p.wf) : EvF tab 4 [A s.c, I now, A p.c] [] = some ⟨.g (.bool true), [], []⟩ := by
  refine EvF_walk t4 (by simp) ?_
  have f1 := fun H => Few_ev p.kvs hp.2.2.2.2.2.2.1.2 40 H
  have f2 := fun H => FewEvents_ev p.events hp.2.2.2.2.2.2.2.2 40 H
  have k1 := fun H => Kept_ev s now p H
  have k2 := fun H => Kept2_ev s now p H
  simp only [A, Sess.c, Reply.c, List.map_cons, List.map_nil] at k1 k2
  cases h1 : (decide ((p.kvs.l.length : Int) ≤ 40) && allP shortKV p.kvs.l) <;> cases h2 : (decide ((p.events.l.length : Int) ≤ 40) && allP shortEv p.events.l) <;> rw [h1] at f1 <;> rw [h2] at f2 <;>
  simp -implicitDefEqProofs [A, Sess.c, Reply.c, f1, f2, k1, k2, live14_0, live14_1, live14_2, live14_3]
theorem SessTells_law (s : Sess) (now : Int) (p : Reply) (_ : s.wf) (_ : I64 now) (hp : p.wf) : EvF tab 3 [A s.c, I now, A p.c] [] = some ⟨.g (.bool true), [], []⟩ := by
  refine EvF_walk t3 (by simp) ?_
  have f1 := fun H => Few_ev p.kvs hp.2.2.2.2.2.2.1.2 40 H
  have f2 := fun H => FewEvents_ev p.events hp.2.2.2.2.2.2.2.2 40 H
  have k1 := fun H => Begin_ev now p H
  have k2 := fun H => Begin2_ev now p H
  have a1 := fun H => Alive_ev s now H
  have a2 := fun H => Alive2_ev s now H
  have d1 := fun H => Due_ev s now H
  have d2 := fun H => Due2_ev s now H
  have q1 := fun H => Asks_ev now H
  have q2 := fun H => Asks2_ev now H
  have r1 := fun H => Keeps_ev s H
  have r2 := fun H => Keeps2_ev s H
  have s1 := fun H => Same_ev (asksS now) (asksS now) (by simp [sameReq]) (by simp [asksS]) (by simp [asksS]) (by simp [asksS]) H
  have s2 := fun H => Same_ev (keepsS s) (keepsS s) (by simp [sameReq]) (by simp [keepsS]) (by simp [keepsS]) (by simp [keepsS]) H
  have u : AV.agg ((beginS now p).c.map .g) = .agg [I (beginS now p).lease, I (beginS now p).ttl, I (beginS now p).till, I (beginS now p).keep] := rfl
  simp only [A, Sess.c, Reply.c, List.map_cons, List.map_nil] at k1 k2 a1 a2 d1 d2 r1 r2 q1 q2 s1 s2
  cases h1 : (decide ((p.kvs.l.length : Int) ≤ 40) && allP shortKV p.kvs.l) <;> cases h2 : (decide ((p.events.l.length : Int) ≤ 40) && allP shortEv p.events.l) <;> rw [h1] at f1 <;> rw [h2] at f2 <;>
  simp -implicitDefEqProofs [A, Sess.c, Reply.c, f1, f2, k1, k2, a1, a2, d1, d2, q1, q2, r1, r2, s1, s2, live14_0, live14_1, live14_2, live14_3, live14_4]
end Go.Proofs.Ytahjgmldkbbpaaa
