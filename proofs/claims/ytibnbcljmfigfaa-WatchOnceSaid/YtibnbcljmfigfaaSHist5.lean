/- What events come to, by the program and by the reference. -/
import Derived.Test.YtibnbcljmfigfaaSHist4
namespace Go.Proofs.Ytibnbcljmfigfaa
open Go Go.AM Go.Proofs
set_option maxRecDepth 20000
set_option maxHeartbeats 1000000
set_option linter.unusedSimpArgs false
set_option linter.unusedVariables false
theorem Fold_ev (s : Sl KV) (log : Sl Ev) (rev : Int) (hl : s.l.length + log.l.length ≤ 1000000) (H : List Blk) : EvF tab 49 [.g (KVs.g s), .g (Evs.g log), I rev] H = some ⟨.g (KVs.g (foldR s log.l rev)), [], []⟩ := by
  have hw := loop_runJ (E := EvF tab) (h := H) (c := L49_0) (lv := [0, 2, 11, 12, 13]) (l := log.l) (β := Sl KV) (γ := Unit) (fun k b => b.l.length ≤ s.l.length + k) (fun k e b => .inl (stepR rev b e))
    (fun k b o => ⟨[(0, .g (KVs.g b)), (2, I rev), (11, .g (Evs.g log)), (12, I log.l.length), (13, I k)], [], o⟩)
    (fun b o => (.exit 0, ⟨[(0, .g (KVs.g b)), (2, I rev), (11, .g (Evs.g log)), (12, I log.l.length), (13, I log.l.length), (14, B false)], [], o⟩))
    (fun _ o => (.ret, ⟨[], [], o⟩)) (by simp) (by simp) (fun k e b o hk hx hy hi => ?_) (fun b o _ => by delta L49_0; cases log <;> simp -implicitDefEqProofs) s [.rows 6 1 []] (by simp)
  · obtain ⟨o', hw⟩ := hw
    rw [runG_fold] at hw
    have e0 : ((0 : Nat) : Int) = 0 := rfl
    simp only [e0, endJ] at hw
    have hc := fun H => Clone_ev s (by omega) H
    refine EvF_walk t49 (by simp) ?_
    unfold foldR
    generalize List.foldl (stepR rev) s log.l = r at hw ⊢
    cases log <;> simp only [Evs.g, Sl.g_nil, Sl.g_of, Sl.l_nil, Sl.l_of, List.length_nil, e0] at hw hc <;> simp -implicitDefEqProofs [hc, hw]
  · have e2 := wrap_succ hk (by omega)
    have h1 := fun H => Take_ev b e.kv.key (by omega) H
    have h2 := fun H => Lay_ev b e.kv (by omega) H
    have hlen := stepP_len rev b.l e
    rw [← stepR_l] at hlen
    delta L49_0
    cases log with
    | nil => simp at hk
    | of l =>
      simp only [Sl.l_of] at hk hx hy hl ⊢
      refine ⟨by omega, o ++ [.cells (e.c.map .g)], ?_⟩
      unfold stepR
      obtain ⟨er, eg, ek⟩ := e
      simp only [A, KV.c, List.map_cons, List.map_nil] at h1 h2 ⊢
      by_cases h3 : rev < er
      · simp -implicitDefEqProofs [hk, hy, Ev.c, h3, e2]
      · cases eg
        · simp -implicitDefEqProofs [hk, hy, Ev.c, h3, e2, h2]
        · simp -implicitDefEqProofs [hk, hy, Ev.c, h3, e2, h1]
theorem Fold2_ev (s : Sl KV) (log : Sl Ev) (rev : Int) (hl : s.l.length + log.l.length ≤ 1000000) (H : List Blk) : EvF tab 76 [.g (KVs.g s), .g (Evs.g log), I rev] H = some ⟨.g (KVs.g (foldR2 s log.l rev)), [], []⟩ := by
  have hw := loop_runJ (E := EvF tab) (h := H) (c := L76_0) (lv := [0, 1, 2, 7]) (l := log.l) (β := Sl KV) (γ := Unit) (fun k b => b.l.length ≤ s.l.length + k) (fun k e b => .inl (stepR2 rev b e))
    (fun k b o => ⟨[(0, .g (KVs.g b)), (1, .g (Evs.g log)), (2, I rev), (7, I k)], [], o⟩)
    (fun b o => (.exit 0, ⟨[(0, .g (KVs.g b)), (1, .g (Evs.g log)), (2, I rev), (7, I log.l.length), (11, B false)], [], o⟩))
    (fun _ o => (.ret, ⟨[], [], o⟩)) (by simp) (by simp) (fun k e b o hk hx hy hi => ?_) (fun b o _ => by delta L76_0; cases log <;> simp -implicitDefEqProofs) s [.rows 6 1 []] (by simp)
  · obtain ⟨o', hw⟩ := hw
    rw [runG_fold] at hw
    have e0 : ((0 : Nat) : Int) = 0 := rfl
    simp only [e0, endJ] at hw
    refine EvF_walk t76 (by simp) ?_
    unfold foldR2
    generalize List.foldl (stepR2 rev) s log.l = r at hw ⊢
    cases log <;> simp only [Evs.g, Sl.g_nil, Sl.g_of, Sl.l_nil, Sl.l_of, List.length_nil, e0] at hw <;> simp -implicitDefEqProofs [hw]
  · have e2 := wrap_succ hk (by omega)
    have h1 := fun H => Take2_ev b e.kv.key (by omega) H
    have h2 := fun H => Lay2_ev b e.kv (by omega) H
    have hlen := stepP_len rev b.l e
    rw [← stepR2_l] at hlen
    delta L76_0
    cases log with
    | nil => simp at hk
    | of l =>
      simp only [Sl.l_of] at hk hx hy hl ⊢
      refine ⟨by omega, o, ?_⟩
      unfold stepR2
      obtain ⟨er, eg, ek⟩ := e
      simp only [A, KV.c, List.map_cons, List.map_nil] at h1 h2 ⊢
      by_cases h3 : rev < er
      · simp -implicitDefEqProofs [hk, hy, Ev.c, h3, e2]
      · cases eg
        · simp -implicitDefEqProofs [hk, hy, Ev.c, h3, e2, h2]
        · simp -implicitDefEqProofs [hk, hy, Ev.c, h3, e2, h1]
end Go.Proofs.Ytibnbcljmfigfaa
