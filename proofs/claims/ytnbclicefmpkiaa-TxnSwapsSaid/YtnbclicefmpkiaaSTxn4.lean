/- What is asked and done, by the reference; questions and deeds that are made. -/
import Derived.Test.YtnbclicefmpkiaaSTxn3
namespace Go.Proofs.Ytnbclicefmpkiaa
open Go Go.AM Go.Proofs
set_option maxRecDepth 20000
set_option maxHeartbeats 4000000
set_option linter.unusedSimpArgs false
set_option linter.unusedVariables false
theorem Do2_loop (cs : Sl Cmp) (hc : cs.l.length ≤ 9223372036854775807) (a1 a2 a3 a4 : GV) (g2 g3 : AV) (q2 q3 q5 : Blk) (b1 b2 b3 b4 : AV) (H : List Blk) :
    loopE (EvF tab) H L25_0 [2, 3, 4, 8] ⟨[(2, .ptr H.length 0), (3, .ptr (H.length + 1) 0), (4, .ptr (H.length + 4) 0), (8, I 0)], [], [.cells [.g a1, .g a2, .g a3, .g a4], .cells [.g (Cmps.g cs), g2, g3], q2, q3, .cells [b1, b2, b3, b4], q5]⟩ =
      some (if allP askOk cs.l = true then (.exit 0, ⟨[(2, .ptr H.length 0), (3, .ptr (H.length + 1) 0), (4, .ptr (H.length + 4) 0), (8, I cs.l.length), (35, B false)], [], [.cells [.g a1, .g a2, .g a3, .g a4], .cells [.g (Cmps.g cs), g2, g3], q2, q3, .cells [b1, b2, b3, b4], q5]⟩)
        else (.ret, ⟨[(4, .ptr (H.length + 4) 0), (5, B false), (6, .ms (H.length + 6) 1 8 0 0), (7, I 1)], [], [.cells [.g a1, .g a2, .g a3, .g a4], .cells [.g (Cmps.g cs), g2, g3], q2, q3, .cells [.g a1, .g a2, .g a3, .g a4], q5, .rows 8 1 []]⟩)) := by
  refine loop_all0 (l := cs.l) askOk (fun k => ⟨[(2, .ptr H.length 0), (3, .ptr (H.length + 1) 0), (4, .ptr (H.length + 4) 0), (8, I k)], [], [.cells [.g a1, .g a2, .g a3, .g a4], .cells [.g (Cmps.g cs), g2, g3], q2, q3, .cells [b1, b2, b3, b4], q5]⟩) _ _ (by simp) (by simp) (fun k c hk hx hy => ?_) (by delta L25_0; cases cs <;> simp -implicitDefEqProofs)
  have e2 := wrap_succ hk (by omega)
  delta L25_0
  cases cs with
  | nil => simp at hk
  | of l =>
    simp only [Sl.l_of] at hk hy
    unfold askOk
    obtain ⟨c1, w, h, c4, c5⟩ := c
    simp only
    by_cases h1 : 1 ≤ w
    · by_cases h2 : w ≤ 4
      · by_cases h3 : 1 ≤ h
        · by_cases h4 : h ≤ 3
          · simp -implicitDefEqProofs [hk, hy, Cmp.c, h1, h2, h3, h4, e2, show ¬ w < 1 by omega, show ¬ 4 < w by omega, show ¬ h < 1 by omega, show ¬ 3 < h by omega]
          · simp -implicitDefEqProofs [hk, hy, Cmp.c, h1, h2, h3, h4, show ¬ w < 1 by omega, show ¬ 4 < w by omega, show ¬ h < 1 by omega, show 3 < h by omega]
        · simp -implicitDefEqProofs [hk, hy, Cmp.c, h1, h2, h3, show ¬ w < 1 by omega, show ¬ 4 < w by omega, show h < 1 by omega]
      · simp -implicitDefEqProofs [hk, hy, Cmp.c, h1, h2, show ¬ w < 1 by omega, show 4 < w by omega]
    · simp -implicitDefEqProofs [hk, hy, Cmp.c, h1, show w < 1 by omega]
theorem Do2_ev (s : Store) (t : Txn) (hs : smallS s) (hr : -1 ≤ s.rev ∧ s.rev ≤ 1099511627774) (w : t.wf) (H : List Blk) :
    EvF tab 25 [A s.c, A t.c] H = some ⟨.tup [A (doS s t).c, B (doY s t), .g (Evs.g (doV s t)), I (doE s t)], [], []⟩ := by
  have hn := foldP_len s.rev s.log.l s.base.l
  have hs2 := hs
  unfold smallS at hs2
  obtain ⟨⟨w1, w2⟩, ⟨w3, w4⟩, ⟨w5, w6⟩⟩ := w
  have m1 := fun H => Now2_ev s hs H
  have m2 := fun H => All2_ev (foldR2 s.base s.log.l s.rev) t.iff (by rw [foldR2_l]; omega) w2 H
  rw [show (foldR2 s.base s.log.l s.rev).l = nowP s from foldR2_l .., show allP (holdsP (nowP s)) t.iff.l = yesP s t from rfl] at m2
  generalize foldR2 s.base s.log.l s.rev = N at m1 m2
  have m3 := fun (hl : (doL s t).l.length ≤ 4) H => Apply2_ev s (doL s t) hs hr (fun m hm => by
    unfold doL at hm
    split at hm
    · exact (w3 m hm).1
    · exact (w5 m hm).1) (by omega) H
  have hbad : applyE s (doL s t).l ≠ 0 → applyS s (doL s t).l = s ∧ applyV s (doL s t).l = .nil := fun he => applyN_false (by unfold applyN; rw [decide_eq_false he]; rfl)
  refine EvF_walk t25 (by simp) ?_
  unfold doS doY doV doE doOk listOk
  obtain ⟨a1, a2, a3, a4, ha⟩ : ∃ a1 a2 a3 a4, s.c = [a1, a2, a3, a4] := ⟨_, _, _, _, rfl⟩
  obtain ⟨b1, b2, b3, b4, hb⟩ : ∃ a1 a2 a3 a4, (applyS s (doL s t).l).c = [a1, a2, a3, a4] := ⟨_, _, _, _, rfl⟩
  by_cases hl : t.iff.l.length ≤ 4 ∧ t.thn.l.length ≤ 4 ∧ t.els.l.length ≤ 4
  · obtain ⟨l1, l2, l3⟩ := hl
    have m3 := m3 (by unfold doL; split <;> assumption)
    have lp := Do2_loop t.iff w2 a1 a2 a3 a4 (.g (Muts.g t.thn)) (.g (Muts.g t.els)) (.rows 6 1 []) (.rows 8 1 []) (.rows 8 1 []) (I 0) (I 0) (.ms (H.length + 2) 1 6 0 0) (.ms (H.length + 3) 1 8 0 0) H
    rw [ha] at m1 m3 ⊢
    rw [hb] at m3
    generalize applyE s (doL s t).l = e1 at m3 hbad ⊢
    generalize hv : applyV s (doL s t).l = v at m3 hbad ⊢
    generalize hgv : Evs.g v = gv at m3
    generalize hu : applyS s (doL s t).l = u at m3 hb hbad ⊢
    clear hv hu
    unfold doL at m3
    generalize yesP s t = y at m2 m3 ⊢
    obtain ⟨tif, tth, tel⟩ := t
    simp only [Txn.c, List.map_cons, List.map_nil, A] at l1 l2 l3 m1 m2 m3 lp ⊢
    generalize hk : allP askOk tif.l = k at lp ⊢
    have i1 : ¬ (4 : Int) < (tif.l.length : Int) := by omega
    have i2 : ¬ (4 : Int) < (tth.l.length : Int) := by omega
    have i3 : ¬ (4 : Int) < (tel.l.length : Int) := by omega
    cases k
    · simp only [Bool.false_eq_true, if_false] at lp
      simp -implicitDefEqProofs [l1, l2, l3, i1, i2, i3, lp, ha]
    · simp only [if_true] at lp
      by_cases he : e1 = 0
      · cases y
        · simp only [Bool.false_eq_true, if_false] at m3
          simp -implicitDefEqProofs [l1, l2, l3, i1, i2, i3, lp, ha, hb, hgv, m1, m2, m3, he]
        · simp only [if_true] at m3
          simp -implicitDefEqProofs [l1, l2, l3, i1, i2, i3, lp, ha, hb, hgv, m1, m2, m3, he]
      · obtain ⟨u1, u2⟩ := hbad he
        subst u1 u2
        rw [ha] at hb
        simp only [Evs.g, Sl.g_nil] at hgv
        cases y
        · simp only [Bool.false_eq_true, if_false] at m3
          simp -implicitDefEqProofs [l1, l2, l3, i1, i2, i3, lp, ha, m1, m2, m3, he]
        · simp only [if_true] at m3
          simp -implicitDefEqProofs [l1, l2, l3, i1, i2, i3, lp, ha, m1, m2, m3, he]
  · rw [ha]
    obtain ⟨tif, tth, tel⟩ := t
    simp only [Txn.c, List.map_cons, List.map_nil, A] at hl ⊢
    by_cases l1 : tif.l.length ≤ 4
    · have i1 : ¬ (4 : Int) < (tif.l.length : Int) := by omega
      by_cases l2 : tth.l.length ≤ 4
      · have i2 : ¬ (4 : Int) < (tth.l.length : Int) := by omega
        by_cases l3 : tel.l.length ≤ 4
        · exact absurd ⟨l1, l2, l3⟩ hl
        · have i3 : (4 : Int) < (tel.l.length : Int) := by omega
          simp -implicitDefEqProofs [l1, l2, l3, i1, i2, i3, ha]
      · have i2 : (4 : Int) < (tth.l.length : Int) := by omega
        simp -implicitDefEqProofs [l1, l2, i1, i2, ha]
    · have i1 : (4 : Int) < (tif.l.length : Int) := by omega
      simp -implicitDefEqProofs [l1, i1, ha]
/-! ### What is made -/
def cmpMade (k : Bs) (rev : Int) : Cmp := ⟨k, 1, 1, rev, []⟩
def txnPut (k v : Bs) (lease : Int) : Txn := ⟨.of [cmpMade k 0], .of [⟨false, k, v, lease⟩], .nil⟩
def txnDrop (k : Bs) (rev : Int) : Txn := ⟨.of [cmpMade k rev], .of [⟨true, k, [], 0⟩], .nil⟩
theorem Made_ev (k : Bs) (rev : Int) (H : List Blk) : EvF tab 34 [T k, I rev] H = some ⟨A (cmpMade k rev).c, [], []⟩ := by
  refine EvF_walk t34 (by simp) ?_
  simp -implicitDefEqProofs [A, cmpMade, Cmp.c]
theorem Absent_ev (k : Bs) (H : List Blk) : EvF tab 32 [T k] H = some ⟨A (cmpMade k 0).c, [], []⟩ := by
  have h1 := fun H => Made_ev k 0 H
  refine EvF_walk t32 (by simp) ?_
  simp only [A, cmpMade, Cmp.c, List.map_cons, List.map_nil] at h1
  simp -implicitDefEqProofs [A, cmpMade, Cmp.c, h1]
theorem Made2_ev (k : Bs) (rev : Int) (H : List Blk) : EvF tab 35 [T k, I rev] H = some ⟨A (cmpMade k rev).c, [], []⟩ := by
  refine EvF_walk t35 (by simp) ?_
  simp -implicitDefEqProofs [A, cmpMade, Cmp.c]
theorem Absent2_ev (k : Bs) (H : List Blk) : EvF tab 33 [T k] H = some ⟨A (cmpMade k 0).c, [], []⟩ := by
  refine EvF_walk t33 (by simp) ?_
  simp -implicitDefEqProofs [A, cmpMade, Cmp.c]
theorem Put_ev (k v : Bs) (n : Int) (H : List Blk) : EvF tab 28 [T k, T v, I n] H = some ⟨A (txnPut k v n).c, [], []⟩ := by
  have h1 := fun H => Absent_ev k H
  refine EvF_walk t28 (by simp) ?_
  simp only [A, cmpMade, Cmp.c, List.map_cons, List.map_nil] at h1
  simp -implicitDefEqProofs [A, cmpMade, Cmp.c, Mut.c, txnPut, Txn.c, h1, chunk]
theorem Put2_ev (k v : Bs) (n : Int) (H : List Blk) : EvF tab 29 [T k, T v, I n] H = some ⟨A (txnPut k v n).c, [], []⟩ := by
  have h1 := fun H => Absent2_ev k H
  refine EvF_walk t29 (by simp) ?_
  simp only [A, cmpMade, Cmp.c, List.map_cons, List.map_nil] at h1
  simp -implicitDefEqProofs [A, cmpMade, Cmp.c, Mut.c, txnPut, Txn.c, h1, chunk]
theorem Drop_ev (k : Bs) (n : Int) (H : List Blk) : EvF tab 30 [T k, I n] H = some ⟨A (txnDrop k n).c, [], []⟩ := by
  have h1 := fun H => Made_ev k n H
  refine EvF_walk t30 (by simp) ?_
  simp only [A, cmpMade, Cmp.c, List.map_cons, List.map_nil] at h1
  simp -implicitDefEqProofs [A, cmpMade, Cmp.c, Mut.c, txnDrop, Txn.c, h1, chunk]
theorem Drop2_ev (k : Bs) (n : Int) (H : List Blk) : EvF tab 31 [T k, I n] H = some ⟨A (txnDrop k n).c, [], []⟩ := by
  have h1 := fun H => Made2_ev k n H
  refine EvF_walk t31 (by simp) ?_
  simp only [A, cmpMade, Cmp.c, List.map_cons, List.map_nil] at h1
  simp -implicitDefEqProofs [A, cmpMade, Cmp.c, Mut.c, txnDrop, Txn.c, h1, chunk]
end Go.Proofs.Ytnbclicefmpkiaa
