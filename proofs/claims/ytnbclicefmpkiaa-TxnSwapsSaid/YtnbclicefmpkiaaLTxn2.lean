/- The law TxnOne. -/
import Derived.Test.YtnbclicefmpkiaaLTxn1
import Derived.Test.YtnbclicefmpkiaaLMvcc3
namespace Go.Proofs.Ytnbclicefmpkiaa
open Go Go.AM Go.Proofs
set_option maxRecDepth 20000
set_option maxHeartbeats 4000000
set_option linter.unusedSimpArgs false
set_option linter.unusedVariables false
theorem do_bad {s : Store} {t : Txn} (h : doE s t ≠ 0) : doS s t = s ∧ doY s t = false ∧ doV s t = .nil := by
  unfold doE at h
  unfold doS doY doV
  by_cases ho : doOk t = true
  · rw [if_pos ho] at h
    rw [if_pos ho, if_pos ho, decide_eq_false h, Bool.and_false, Bool.and_false]
    have := applyN_false (s := s) (ms := (doL s t).l) (by unfold applyN; rw [decide_eq_false h]; rfl)
    exact ⟨this.1, rfl, this.2⟩
  · rw [if_neg ho, if_neg ho, Bool.eq_false_iff.2 ho, Bool.false_and]; exact ⟨rfl, rfl, rfl⟩
theorem do_good {s : Store} {t : Txn} (h : doE s t = 0) : doOk t = true ∧ applyE s (doL s t).l = 0 ∧ doS s t = applyS s (doL s t).l ∧ doY s t = yesP s t ∧ doV s t = applyV s (doL s t).l := by
  unfold doE at h
  by_cases ho : doOk t = true
  · rw [if_pos ho] at h
    refine ⟨ho, h, ?_, ?_, ?_⟩
    · unfold doS; rw [if_pos ho]
    · unfold doY; rw [ho, h]; simp
    · unfold doV; rw [if_pos ho]
  · rw [if_neg ho] at h; omega
theorem do_SOk {s : Store} (h : SOk s) (t : Txn) : SOk (doS s t) := by
  unfold doS; split
  · exact apply_SOk h _
  · exact h
theorem txn_wf_L {s : Store} {t : Txn} (w : t.wf) : ∀ m ∈ (doL s t).l, m.key.length ≤ 9223372036854775807 := fun m hm => by
  unfold doL at hm
  split at hm
  · exact (w.2.1.1 m hm).1
  · exact (w.2.2.1 m hm).1
theorem TxnOne_law (x0 : Store) (x1 : Txn) (w0 : x0.wf) (w1 : x1.wf) : EvF tab 12 [A x0.c, A x1.c] [] = some ⟨.g (.bool true), [], []⟩ := by
  have m0 := fun H => FewS_ev x0 w0 H
  have m1 := fun H => May_ev x0 w0 H
  have m2 := fun H => Short_ev ⟨0, 0, 0, false, [], [], 0, 0, 0, 0, x1.iff, x1.thn, x1.els⟩ (by
    unfold Req.wf
    refine ⟨?_, ?_, ?_, ?_, ?_, ?_, ?_, ?_, ?_, w1⟩ <;> simp [I64, S64]) H
  refine EvF_walk t12 (by simp) ?_
  generalize shortReq ⟨0, 0, 0, false, [], [], 0, 0, 0, 0, x1.iff, x1.thn, x1.els⟩ = b2 at m2
  obtain ⟨a1, a2, a3, a4, ha⟩ := store4 x0
  obtain ⟨c1, c2, c3, hc⟩ : ∃ c1 c2 c3, x1.c = [c1, c2, c3] := ⟨_, _, _, rfl⟩
  have hc' := hc
  simp only [Txn.c, List.cons.injEq, and_true] at hc'
  obtain ⟨hc1, hc2, hc3⟩ := hc'
  simp only [A, Req.c, hc1, hc2, hc3, List.map_cons, List.map_nil] at m2
  cases g1 : fewS x0
  · rw [g1] at m0
    rw [ha, hc]
    rw [ha] at m0
    simp only [A, List.map_cons, List.map_nil] at m0 ⊢
    simp -implicitDefEqProofs [live06, m0]
  · cases g2 : storeOk x0
    · rw [g1] at m0
      rw [g2] at m1
      rw [ha, hc]
      rw [ha] at m0 m1
      simp only [A, List.map_cons, List.map_nil] at m0 m1 ⊢
      simp -implicitDefEqProofs [live06, m0, m1]
    · have hr := storeOk_rev g2
      have hsm := fewS_smallS g1
      have hs := storeOk_iff.1 g2
      cases b2
      · rw [g1] at m0
        rw [g2] at m1
        rw [ha, hc]
        rw [ha] at m0 m1
        simp only [A, List.map_cons, List.map_nil] at m0 m1 ⊢
        simp -implicitDefEqProofs [live06, m0, m1, m2]
      · have m3 := fun H => Do_ev x0 x1 hsm (by omega) w1 H
        by_cases he : doE x0 x1 = 0
        · obtain ⟨k1, k2, k3, k4, k5⟩ := do_good he
          have hlen := doL_len (s := x0) k1
          have hsu := do_SOk hs x1
          have m4 := fun H => Apply_ev x0 (doL x0 x1) hsm (by omega) (txn_wf_L w1) (by omega) H
          rw [k2, ← k3, ← k5] at m4
          have m5 := fun H => SameS_ev (doS x0 x1) (doS x0 x1) ⟨rfl, rfl, rfl, rfl⟩ hsu.small H
          have hvl := (doS_len x0 x1).2
          have m6 := fun H => Events_ev (doV x0 x1) (doV x0 x1) rfl (by omega) H
          have m7 := fun H => Now_ev x0 hsm H
          have nl := hs.nowLen
          have m8 := fun H => All_ev (foldR x0.base x0.log.l x0.rev) x1.iff (by rw [now_l]; omega) w1.1.2 H
          rw [now_l, show allP (holdsP (nowP x0)) x1.iff.l = yesP x0 x1 from rfl] at m8
          have m9 := fun H => May_ev (doS x0 x1) hsu.wf H
          rw [storeOk_iff.2 hsu] at m9
          have hdl : Muts.g (doL x0 x1) = if yesP x0 x1 = true then c2 else c3 := by
            unfold doL; split <;> assumption
          rw [he, k4] at m3
          rw [hdl] at m4
          rw [hc1] at m8
          generalize foldR x0.base x0.log.l x0.rev = nw at m7 m8
          generalize yesP x0 x1 = y at m3 m4 m8
          obtain ⟨b1, b2, b3, b4, hb⟩ := store4 (doS x0 x1)
          generalize Evs.g (doV x0 x1) = v at m3 m4 m6
          rw [g1] at m0
          rw [g2] at m1
          rw [ha, hc]
          rw [ha] at m0 m1 m7
          rw [ha, hb, hc] at m3
          rw [ha, hb] at m4
          rw [hb] at m5 m9
          simp only [A, List.map_cons, List.map_nil] at m0 m1 m3 m4 m5 m7 m9 ⊢
          cases y
          · simp only [Bool.false_eq_true, if_false] at m4
            simp -implicitDefEqProofs [live06, m0, m1, m2, m3, m4, m5, m6, m7, m8, m9]
          · simp only [if_true] at m4
            simp -implicitDefEqProofs [live06, m0, m1, m2, m3, m4, m5, m6, m7, m8, m9]
        · obtain ⟨k1, k2, k3⟩ := do_bad he
          rw [k1, k2, k3] at m3
          have m5 := fun H => SameS_ev x0 x0 ⟨rfl, rfl, rfl, rfl⟩ hsm H
          generalize doE x0 x1 = e at m3 he
          rw [g1] at m0
          rw [g2] at m1
          rw [ha, hc]
          rw [ha] at m0 m1 m5
          rw [ha, hc] at m3
          simp only [A, List.map_cons, List.map_nil, Evs.g, Sl.g_nil] at m0 m1 m3 m5 ⊢
          simp -implicitDefEqProofs [live06, m0, m1, m2, m3, m5, he]
end Go.Proofs.Ytnbclicefmpkiaa
