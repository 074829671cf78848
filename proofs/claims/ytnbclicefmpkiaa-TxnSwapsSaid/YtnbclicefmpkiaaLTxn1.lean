/- The laws TxnAsks, TxnDoes and TxnMakes. -/
import Derived.Test.YtnbclicefmpkiaaLLive06
import Derived.Test.YtnbclicefmpkiaaLMvcc2
namespace Go.Proofs.Ytnbclicefmpkiaa
open Go Go.AM Go.Proofs
set_option maxRecDepth 20000
set_option maxHeartbeats 4000000
set_option linter.unusedSimpArgs false
set_option linter.unusedVariables false
theorem asks0 (l : AV) (cs : Sl Cmp) (hl : cs.l.length ≤ 9223372036854775807) :
    loopE (EvF tab) [] L3_0 [0, 1, 5] ⟨[(0, l), (1, .g (Cmps.g cs)), (5, I 0)], [], []⟩ =
      some (if allP shortC cs.l = true then (.exit 0, ⟨[(0, l), (1, .g (Cmps.g cs)), (5, I cs.l.length), (19, B false)], [], []⟩) else (.ret, ⟨[(4, B true)], [], []⟩)) := by
  refine loop_all0 (l := cs.l) shortC (fun k => ⟨[(0, l), (1, .g (Cmps.g cs)), (5, I k)], [], []⟩) _ _ (by simp) (by simp) (fun k x hk hx hy => ?_) (by delta L3_0; cases cs <;> simp -implicitDefEqProofs)
  have e2 := wrap_succ hk (by omega)
  delta L3_0
  cases cs with
  | nil => simp at hk
  | of l =>
    simp only [Sl.l_of] at hk hy
    by_cases h1 : 60 < (x.key.length : Int)
    · simp -implicitDefEqProofs [hk, hy, Cmp.c, shortC, shortT, h1, live06]
    · by_cases h2 : 60 < (x.value.length : Int)
      · simp -implicitDefEqProofs [hk, hy, Cmp.c, shortC, shortT, h1, h2, live06]
      · simp -implicitDefEqProofs [hk, hy, Cmp.c, shortC, shortT, h1, h2, e2]
theorem asks1 (s : Sl KV) (cs : Sl Cmp) (hs : s.l.length ≤ 9223372036854775807) (hl : cs.l.length ≤ 9223372036854775807) :
    loopE (EvF tab) [] L3_1 [0, 1, 6] ⟨[(0, .g (KVs.g s)), (1, .g (Cmps.g cs)), (6, I 0)], [], []⟩ =
      some (.exit 2, ⟨[(0, .g (KVs.g s)), (1, .g (Cmps.g cs)), (6, I cs.l.length), (42, B false)], [], []⟩) := by
  refine loop_cnt cs.l.length (fun k => ⟨[(0, .g (KVs.g s)), (1, .g (Cmps.g cs)), (6, I k)], [], []⟩) _ (by simp) (fun k hk => ?_) (by delta L3_1; cases cs <;> simp -implicitDefEqProofs)
  have e2 := wrap_succ hk (by omega)
  obtain ⟨c, hc⟩ : ∃ c, cs.l[k] = c := ⟨_, rfl⟩
  have h1 := fun H => HoldsK_ev s c hs H
  have h2 := fun H => Holds2_ev s c hs H
  generalize holdsP s.l c = b at h1 h2
  cases cs with
  | nil => simp at hk
  | of l =>
    simp only [Sl.l_of] at hk hc
    obtain ⟨c1, c2, c3, c4, c5⟩ := c
    simp only [A, Cmp.c, List.map_cons, List.map_nil] at h1 h2
    delta L3_1
    simp -implicitDefEqProofs [hk, hc, Cmp.c, h1, h2, e2]
theorem TxnAsks_law (x0 : Sl KV) (x1 : Sl Cmp) (w0 : (∀ y ∈ x0.l, y.wf) ∧ x0.l.length ≤ 9223372036854775807) (w1 : (∀ y ∈ x1.l, y.wf) ∧ x1.l.length ≤ 9223372036854775807) : EvF tab 3 [.g (KVs.g x0), .g (Cmps.g x1)] [] = some ⟨.g (.bool true), [], []⟩ := by
  have m0 := fun H => Few_ev x0 w0.2 40 H
  have m1 := asks0 (.g (KVs.g x0)) x1 w1.2
  have m2 := asks1 x0 x1 w0.2 w1.2
  have m3 := fun H => All_ev x0 x1 w0.2 w1.2 H
  have m4 := fun H => All2_ev x0 x1 w0.2 w1.2 H
  refine EvF_walk t3 (by simp) ?_
  generalize (decide ((x0.l.length : Int) ≤ 40) && allP shortKV x0.l) = b0 at m0
  generalize allP (holdsP x0.l) x1.l = b1 at m3 m4
  generalize allP shortC x1.l = b2 at m1
  generalize hg : KVs.g x0 = G0 at m0 m1 m2 m3 m4 ⊢
  cases b0
  · simp -implicitDefEqProofs [m0, live06]
  · by_cases n1 : (20 : Int) < (x1.l.length : Int)
    · simp -implicitDefEqProofs [m0, n1, live06]
    · cases b2
      · simp only [Bool.false_eq_true, if_false] at m1
        simp -implicitDefEqProofs [m0, n1, m1, live06]
      · simp only [if_true] at m1
        simp -implicitDefEqProofs [m0, n1, m1, m2, m3, m4, live06]
theorem doL_len {s : Store} {t : Txn} (h : doOk t = true) : (doL s t).l.length ≤ 4 := by
  unfold doOk listOk at h
  simp only [Bool.and_eq_true, decide_eq_true_eq] at h
  unfold doL
  split <;> omega
theorem doS_len (s : Store) (t : Txn) : (doS s t).base.l.length + (doS s t).log.l.length ≤ s.base.l.length + s.log.l.length + 4 ∧ (doV s t).l.length ≤ 4 := by
  unfold doS doV
  by_cases h : doOk t = true
  · rw [if_pos h, if_pos h]
    have h1 := applyS_small s (doL s t).l
    have h2 := applyV_len s (doL s t).l
    have h3 := doL_len (s := s) h
    omega
  · rw [if_neg h, if_neg h]; simp
theorem TxnDoes_law (x0 : Store) (x1 : Txn) (w0 : x0.wf) (w1 : x1.wf) : EvF tab 4 [A x0.c, A x1.c] [] = some ⟨.g (.bool true), [], []⟩ := by
  have m0 := fun H => FewS_ev x0 w0 H
  have m1 := fun H => May2_ev x0 w0 H
  have m2 := fun H => Short_ev ⟨0, 0, 0, false, [], [], 0, 0, 0, 0, x1.iff, x1.thn, x1.els⟩ (by
    unfold Req.wf
    refine ⟨?_, ?_, ?_, ?_, ?_, ?_, ?_, ?_, ?_, w1⟩ <;> simp [I64, S64]) H
  refine EvF_walk t4 (by simp) ?_
  generalize shortReq ⟨0, 0, 0, false, [], [], 0, 0, 0, 0, x1.iff, x1.thn, x1.els⟩ = b2 at m2
  obtain ⟨a1, a2, a3, a4, ha⟩ := store4 x0
  obtain ⟨c1, c2, c3, hc⟩ : ∃ c1 c2 c3, x1.c = [c1, c2, c3] := ⟨_, _, _, rfl⟩
  have hc' := hc
  simp only [Txn.c, List.cons.injEq, and_true] at hc'
  obtain ⟨hc1, hc2, hc3⟩ := hc'
  simp only [A, Req.c, hc1, hc2, hc3, List.map_cons, List.map_nil] at m2
  cases g1 : fewS x0
  · rw [g1] at m0
    rw [ha, hc]
    rw [ha] at m0
    simp only [A, List.map_cons, List.map_nil] at m0 ⊢
    simp -implicitDefEqProofs [live06, m0]
  · cases g2 : storeOk x0
    · rw [g1] at m0
      rw [g2] at m1
      rw [ha, hc]
      rw [ha] at m0 m1
      simp only [A, List.map_cons, List.map_nil] at m0 m1 ⊢
      simp -implicitDefEqProofs [live06, m0, m1]
    · have hr := storeOk_rev g2
      have hsm := fewS_smallS g1
      have m3 := fun H => Do_ev x0 x1 hsm (by omega) w1 H
      have m4 := fun H => Do2_ev x0 x1 hsm (by omega) w1 H
      cases b2
      · rw [g1] at m0
        rw [g2] at m1
        rw [ha, hc]
        rw [ha] at m0 m1
        simp only [A, List.map_cons, List.map_nil] at m0 m1 ⊢
        simp -implicitDefEqProofs [live06, m0, m1, m2]
      · have hlen := doS_len x0 x1
        have hsm2 := hsm
        unfold smallS at hsm2
        have m5 := fun H => SameS_ev (doS x0 x1) (doS x0 x1) ⟨rfl, rfl, rfl, rfl⟩ (by unfold smallS; have := hr.2.2.2; omega) H
        have m6 := fun H => Events_ev (doV x0 x1) (doV x0 x1) rfl (by omega) H
        obtain ⟨b1, b2, b3, b4, hb⟩ := store4 (doS x0 x1)
        generalize doY x0 x1 = y at m3 m4
        generalize doE x0 x1 = e at m3 m4
        generalize Evs.g (doV x0 x1) = v at m3 m4 m6
        rw [g1] at m0
        rw [g2] at m1
        rw [ha, hc]
        rw [ha] at m0 m1
        rw [ha, hb, hc] at m3 m4
        rw [hb] at m5
        simp only [A, List.map_cons, List.map_nil] at m0 m1 m3 m4 m5 ⊢
        cases y <;> simp -implicitDefEqProofs [live06, m0, m1, m2, m3, m4, m5, m6]
theorem TxnMakes_law (x0 x1 : Bs) (x2 : Int × Int) (w0 : S64 x0) (w1 : S64 x1) (w2 : I64 x2.1 ∧ I64 x2.2) : EvF tab 5 [T x0, T x1, A (I2.c x2)] [] = some ⟨.g (.bool true), [], []⟩ := by
  have m1 := fun H => Put_ev x0 x1 x2.1 H
  have m2 := fun H => Put2_ev x0 x1 x2.1 H
  have m3 := fun H => Drop_ev x0 x2.2 H
  have m4 := fun H => Drop2_ev x0 x2.2 H
  have m5 := fun H => Absent_ev x0 H
  have m6 := fun H => Absent2_ev x0 H
  have m7 := fun H => Made_ev x0 x2.2 H
  have m8 := fun H => Made2_ev x0 x2.2 H
  have m9 := fun H => Same_ev ⟨0, 0, 0, false, [], [], 0, 0, 0, 0, (txnPut x0 x1 x2.1).iff, (txnPut x0 x1 x2.1).thn, (txnPut x0 x1 x2.1).els⟩ ⟨0, 0, 0, false, [], [], 0, 0, 0, 0, (txnPut x0 x1 x2.1).iff, (txnPut x0 x1 x2.1).thn, (txnPut x0 x1 x2.1).els⟩ ⟨rfl, rfl, rfl, rfl, rfl, rfl, rfl, rfl, rfl, rfl, rfl, rfl, rfl⟩ (by simp [txnPut]) (by simp [txnPut]) (by simp [txnPut]) H
  have m10 := fun H => Same_ev ⟨0, 0, 0, false, [], [], 0, 0, 0, 0, (txnDrop x0 x2.2).iff, (txnDrop x0 x2.2).thn, (txnDrop x0 x2.2).els⟩ ⟨0, 0, 0, false, [], [], 0, 0, 0, 0, (txnDrop x0 x2.2).iff, (txnDrop x0 x2.2).thn, (txnDrop x0 x2.2).els⟩ ⟨rfl, rfl, rfl, rfl, rfl, rfl, rfl, rfl, rfl, rfl, rfl, rfl, rfl⟩ (by simp [txnDrop]) (by simp [txnDrop]) (by simp [txnDrop]) H
  refine EvF_walk t5 (by simp) ?_
  obtain ⟨n1, n2⟩ := x2
  simp only [A, I2.c, Req.c, Txn.c, txnPut, txnDrop, cmpMade, Cmp.c, Mut.c, Cmps.g, Muts.g, Sl.g_of, Sl.g_nil, List.map_cons, List.map_nil] at m1 m2 m3 m4 m5 m6 m7 m8 m9 m10 ⊢
  by_cases h1 : (100 : Int) < (x0.length : Int)
  · simp -implicitDefEqProofs [live06, h1]
  · by_cases h2 : (100 : Int) < (x1.length : Int)
    · simp -implicitDefEqProofs [live06, h1, h2]
    · simp -implicitDefEqProofs [live06, h1, h2, m1, m2, m3, m4, m5, m6, m7, m8, m9, m10, pends]
end Go.Proofs.Ytnbclicefmpkiaa
