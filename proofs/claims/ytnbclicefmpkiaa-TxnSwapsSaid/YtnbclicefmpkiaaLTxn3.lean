/- The law TxnPuts. -/
import Derived.Test.YtnbclicefmpkiaaLTxn2
namespace Go.Proofs.Ytnbclicefmpkiaa
open Go Go.AM Go.Proofs
set_option maxRecDepth 20000
set_option maxHeartbeats 8000000
set_option linter.unusedSimpArgs false
set_option linter.unusedVariables false
theorem do_else {s : Store} {t : Txn} (ho : doOk t = true) (hy : yesP s t = false) (he : t.els = .nil) : doS s t = s ∧ doY s t = false ∧ doE s t = 0 ∧ doV s t = .nil := by
  have hL : (doL s t).l = [] := by unfold doL; rw [hy, he]; rfl
  have h0 : applyE s [] = 0 := rfl
  have hN : applyN s [] = false := rfl
  unfold doS doY doE doV
  rw [ho, hy, hL, if_pos rfl, if_pos rfl, if_pos rfl]
  exact ⟨(applyN_false hN).1, rfl, h0, (applyN_false hN).2⟩
theorem yes_made (s : Store) (k : Bs) (n : Int) (th el : Sl Mut) : yesP s ⟨.of [cmpMade k n], th, el⟩ = decide ((findX (nowP s) k).create = n) := by
  unfold yesP allP holdsP cmpMade numP
  simp
theorem ok_made (k : Bs) (n : Int) (m : Mut) : doOk ⟨.of [cmpMade k n], .of [m], .nil⟩ = true := by
  unfold doOk listOk allP askOk cmpMade
  simp
theorem find_no {s : Store} (k : Bs) (h : findB (nowP s) k = false) : getK (nowP s) k = none ∧ findX (nowP s) k = kv0 := by
  rw [findB_get] at h
  have : getK (nowP s) k = none := by cases hq : getK (nowP s) k with
    | none => rfl
    | some x => rw [hq] at h; cases h
  refine ⟨this, ?_⟩
  rw [findX_get, this]; rfl
theorem find_yes {s : Store} (hs : SOk s) (k : Bs) (h : findB (nowP s) k = true) : 1 ≤ (findX (nowP s) k).create ∧ (findX (nowP s) k).mod ≤ s.rev := by
  rw [findB_get] at h
  rw [findX_get]
  cases hq : getK (nowP s) k with
  | none => rw [hq] at h; cases h
  | some x =>
    have hx := hs.nowGood.one x (getK_some hq).1
    exact ⟨(oneOk_iff.1 hx.1).2.2.1.1, hx.2⟩
theorem yes_put {s : Store} (hs : SOk s) (k v : Bs) (n : Int) : yesP s (txnPut k v n) = !(findB (nowP s) k) := by
  unfold txnPut
  rw [yes_made]
  cases h : findB (nowP s) k
  · rw [(find_no k h).2]; rfl
  · have := (find_yes hs k h).1
    simp; omega
/-- The first Put goes: what there is then. -/
theorem put_goes {s : Store} (hs : SOk s) {m : Mut} (hg : m.gone = false) (he : applyE s [m] = 0) : SOk (applyS s [m]) ∧ (applyS s [m]).rev = s.rev + 1 ∧ getK (nowP (applyS s [m])) m.key = some (nextK (getK (nowP s) m.key) m (s.rev + 1)) ∧ keyOk m.key = true := by
  obtain ⟨hm, -⟩ := applyE_zero he
  have h1 := apply_now hs he m.key
  have h2 := (apply_rev hs he).1
  unfold outK mutK at h1
  rw [if_pos rfl] at h1
  simp only [hg, Bool.false_eq_true, if_false] at h1
  have ha : actsN (nowP s) [m] = 1 := by unfold actsN doesP; simp [hg]
  rw [ha] at h2
  refine ⟨apply_SOk hs _, h2, h1, ?_⟩
  unfold mayM mayMG mutOkM at hm
  simp only [Bool.and_eq_true] at hm
  exact hm.1.1.2.1
theorem drop_goes {t : Store} (ht : SOk t) {k : Bs} (hk : keyOk k = true) (hf : findB (nowP t) k = true) : applyE t [⟨true, k, [], 0⟩] = 0 ∨ applyE t [⟨true, k, [], 0⟩] = 4 := by
  have hm : mayM [⟨true, k, [], 0⟩] = true := by
    unfold mayM mayMG mayMG mutOkM
    simp [hk]
  have hl := (more_facts ht hm).2.1
  have hne : (moreP t [⟨true, k, [], 0⟩]).1 ≠ [] := by
    intro h
    rw [h] at hl
    rw [findB_get] at hf
    unfold actsN doesP at hl
    cases hq : getK (nowP t) k with
    | none => rw [hq] at hf; cases hf
    | some x => simp [hq] at hl
  unfold applyE
  rw [if_pos hm, if_neg hne]
  split
  · exact .inr rfl
  · exact .inl rfl
theorem drop_gone {t : Store} (ht : SOk t) {k : Bs} (he : applyE t [⟨true, k, [], 0⟩] = 0) : findB (nowP (applyS t [⟨true, k, [], 0⟩])) k = false := by
  have h1 := apply_now ht he k
  unfold outK mutK at h1
  rw [if_pos rfl] at h1
  rw [findB_get, h1]; rfl
theorem TxnPuts_law (x0 : Store) (x1 : Bs) (x2 : Bs × Bs) (w0 : x0.wf) (w1 : S64 x1) (w2 : S64 x2.1 ∧ S64 x2.2) : EvF tab 13 [A x0.c, T x1, A (S2.c x2)] [] = some ⟨.g (.bool true), [], []⟩ := by
  have m0 := fun H => FewS_ev x0 w0 H
  have m1 := fun H => May_ev x0 w0 H
  refine EvF_walk t13 (by simp) ?_
  obtain ⟨v1, v2⟩ := x2
  simp only at w2
  obtain ⟨a1, a2, a3, a4, ha⟩ := store4 x0
  cases g1 : fewS x0
  · rw [g1] at m0
    rw [ha]
    rw [ha] at m0
    simp only [A, S2.c, List.map_cons, List.map_nil] at m0 ⊢
    simp -implicitDefEqProofs [live06, m0]
  · cases g2 : storeOk x0
    · rw [g1] at m0
      rw [g2] at m1
      rw [ha]
      rw [ha] at m0 m1
      simp only [A, S2.c, List.map_cons, List.map_nil] at m0 m1 ⊢
      simp -implicitDefEqProofs [live06, m0, m1]
    · have hr := storeOk_rev g2
      have hsm := fewS_smallS g1
      have hs := storeOk_iff.1 g2
      rw [g1] at m0
      rw [g2] at m1
      by_cases n1 : (60 : Int) < (x1.length : Int)
      · rw [ha]
        rw [ha] at m0 m1
        simp only [A, S2.c, List.map_cons, List.map_nil] at m0 m1 ⊢
        simp -implicitDefEqProofs [live06, m0, m1, n1]
      · by_cases n2 : (60 : Int) < (v1.length : Int)
        · rw [ha]
          rw [ha] at m0 m1
          simp only [A, S2.c, List.map_cons, List.map_nil] at m0 m1 ⊢
          simp -implicitDefEqProofs [live06, m0, m1, n1, n2]
        · by_cases n3 : (60 : Int) < (v2.length : Int)
          · rw [ha]
            rw [ha] at m0 m1
            simp only [A, S2.c, List.map_cons, List.map_nil] at m0 m1 ⊢
            simp -implicitDefEqProofs [live06, m0, m1, n1, n2, n3]
          · have p1 := fun H => Put_ev x1 v1 1 H
            have p2 := fun H => Put_ev x1 v2 2 H
            have wp1 : (txnPut x1 v1 1).wf := wfPut _ _ _ w1 w2.1 (by simp [I64])
            have wp2 : (txnPut x1 v2 2).wf := wfPut _ _ _ w1 w2.2 (by simp [I64])
            have d1 := fun H => Do_ev x0 (txnPut x1 v1 1) hsm (by omega) wp1 H
            obtain ⟨pa1, pa2, pa3, hpa⟩ : ∃ c1 c2 c3, (txnPut x1 v1 1).c = [c1, c2, c3] := ⟨_, _, _, rfl⟩
            obtain ⟨pb1, pb2, pb3, hpb⟩ : ∃ c1 c2 c3, (txnPut x1 v2 2).c = [c1, c2, c3] := ⟨_, _, _, rfl⟩
            by_cases he : doE x0 (txnPut x1 v1 1) = 0
            · obtain ⟨k1, k2, k3, k4, k5⟩ := do_good he
              have q1 := fun H => Now_ev x0 hsm H
              have nl := hs.nowLen
              have q2 := fun H => Find2_ev (foldR x0.base x0.log.l x0.rev) x1 (by rw [now_l]; omega) H
              rw [now_l] at q2
              generalize foldR x0.base x0.log.l x0.rev = nw at q1 q2
              have hy := yes_put hs x1 v1 1
              rw [hy] at k4
              cases hb : findB (nowP x0) x1
              · have hL : (doL x0 (txnPut x1 v1 1)).l = [⟨false, x1, v1, 1⟩] := by unfold doL; rw [hy, hb]; rfl
                rw [hL] at k2 k3
                obtain ⟨ht, trv, tg, tk⟩ := put_goes hs (m := ⟨false, x1, v1, 1⟩) rfl k2
                rw [he, k3, k4, hb] at d1
                rw [hb] at q2
                generalize doV x0 (txnPut x1 v1 1) = ev1 at d1
                generalize findX (nowP x0) x1 = fx at q2
                obtain ⟨f1, f2, f3, f4, f5, f6⟩ := fx
                clear k3
                generalize applyS x0 [⟨false, x1, v1, 1⟩] = t at d1 ht trv tg
                have hr1 := ht.low0
                have hr2 := ht.lowr
                have hr3 := ht.revM
                have tb : findB (nowP t) x1 = true := by rw [findB_get]; simp only at tg; rw [tg]; rfl
                have tx : (findX (nowP t) x1).create = t.rev := by
                  rw [findX_get]; simp only at tg; rw [tg, (find_no x1 hb).1, trv]; rfl
                have d2 := fun H => Do_ev t (txnPut x1 v2 2) ht.small (by omega) wp2 H
                obtain ⟨i1, i2, i3, i4⟩ := do_else (s := t) (t := txnPut x1 v2 2) (ok_made _ _ _) (by rw [yes_put ht, tb]; rfl) rfl
                rw [i1, i2, i3, i4] at d2
                have s1 := fun H => SameS_ev t t ⟨rfl, rfl, rfl, rfl⟩ ht.small H
                have wd : (txnDrop x1 t.rev).wf := wfDrop _ _ w1 (by unfold I64; omega)
                have p3 := fun H => Drop_ev x1 t.rev H
                have d3 := fun H => Do_ev t (txnDrop x1 t.rev) ht.small (by omega) wd H
                have y3 : yesP t (txnDrop x1 t.rev) = true := by unfold txnDrop; rw [yes_made, tx]; simp
                have hL3 : (doL t (txnDrop x1 t.rev)).l = [⟨true, x1, [], 0⟩] := by unfold doL; rw [y3]; rfl
                have ok3 : doOk (txnDrop x1 t.rev) = true := ok_made _ _ _
                have dE : doE t (txnDrop x1 t.rev) = applyE t [⟨true, x1, [], 0⟩] := by unfold doE; rw [if_pos ok3, hL3]
                obtain ⟨pc1, pc2, pc3, hpc⟩ : ∃ c1 c2 c3, (txnDrop x1 t.rev).c = [c1, c2, c3] := ⟨_, _, _, rfl⟩
                rcases drop_goes ht tk tb with hz | hz
                · obtain ⟨u1, u2, u3, u4, u5⟩ := do_good (dE.trans hz)
                  have hv := drop_gone ht hz
                  have hvs := apply_SOk ht [⟨true, x1, [], 0⟩]
                  rw [dE, hz, u3, u4, y3, hL3] at d3
                  generalize doV t (txnDrop x1 t.rev) = ev3 at d3
                  clear u3
                  generalize applyS t [⟨true, x1, [], 0⟩] = v at d3 hv hvs
                  have vr1 := hvs.low0
                  have vr2 := hvs.lowr
                  have vr3 := hvs.revM
                  have d4 := fun H => Do_ev v (txnDrop x1 t.rev) hvs.small (by omega) wd H
                  obtain ⟨e1, e2, e3, e4⟩ := do_else (s := v) (t := txnDrop x1 t.rev) (ok_made _ _ _) (by
                    unfold txnDrop
                    rw [yes_made, (find_no x1 hv).2]
                    exact decide_eq_false (by show ¬ (0 : Int) = t.rev; omega)) rfl
                  rw [e1, e2, e3, e4] at d4
                  have s2 := fun H => SameS_ev v v ⟨rfl, rfl, rfl, rfl⟩ hvs.small H
                  have q3 := fun H => Now_ev v hvs.small H
                  have vl := hvs.nowLen
                  have q4 := fun H => Find2_ev (foldR v.base v.log.l v.rev) x1 (by rw [now_l]; omega) H
                  rw [now_l, hv] at q4
                  generalize foldR v.base v.log.l v.rev = nv at q3 q4
                  generalize findX (nowP v) x1 = fv at q4
                  obtain ⟨h1, h2, h3, h4, h5, h6⟩ := fv
                  obtain ⟨vc1, vc2, vc3, vc4, hvc⟩ := store4 v
                  obtain ⟨trev, tlow, tbase, tlog⟩ := t
                  simp only at hpc p3 d3 d4
                  rw [ha]
                  rw [ha] at m0 m1 q1
                  rw [ha, hpa] at d1
                  rw [hpb] at d2
                  rw [hpa] at p1
                  rw [hpb] at p2
                  rw [hpc] at p3
                  rw [hpc, hvc] at d3
                  rw [hpc, hvc] at d4
                  rw [hvc] at q3 s2
                  simp only [A, S2.c, KV.c, Store.c, List.map_cons, List.map_nil, Evs.g, Sl.g_nil] at m0 m1 p1 p2 p3 d1 d2 d3 d4 q1 q2 q3 q4 s1 s2 ⊢
                  simp -implicitDefEqProofs [live06, m0, m1, n1, n2, n3, p1, p2, p3, d1, d2, d3, d4, q1, q2, q3, q4, s1, s2, pends]
                · obtain ⟨u1, u2, u3⟩ := do_bad (s := t) (t := txnDrop x1 t.rev) (by rw [dE, hz]; decide)
                  rw [dE, hz, u1, u2, u3] at d3
                  obtain ⟨trev, tlow, tbase, tlog⟩ := t
                  simp only at hpc p3 d3
                  rw [ha]
                  rw [ha] at m0 m1 q1
                  rw [ha, hpa] at d1
                  rw [hpb] at d2
                  rw [hpa] at p1
                  rw [hpb] at p2
                  rw [hpc] at p3
                  rw [hpc] at d3
                  simp only [A, S2.c, KV.c, Store.c, List.map_cons, List.map_nil, Evs.g, Sl.g_nil] at m0 m1 p1 p2 p3 d1 d2 d3 q1 q2 s1 ⊢
                  simp -implicitDefEqProofs [live06, m0, m1, n1, n2, n3, p1, p2, p3, d1, d2, d3, q1, q2, s1, pends]
              · obtain ⟨j1, j2, j3, j4⟩ := do_else (s := x0) (t := txnPut x1 v1 1) (ok_made _ _ _) (by rw [hy, hb]; rfl) rfl
                have d2 := fun H => Do_ev x0 (txnPut x1 v2 2) hsm (by omega) wp2 H
                obtain ⟨i1, i2, i3, i4⟩ := do_else (s := x0) (t := txnPut x1 v2 2) (ok_made _ _ _) (by rw [yes_put hs, hb]; rfl) rfl
                rw [j1, j2, j3, j4] at d1
                rw [i1, i2, i3, i4] at d2
                rw [hb] at q2
                have s1 := fun H => SameS_ev x0 x0 ⟨rfl, rfl, rfl, rfl⟩ hsm H
                generalize findX (nowP x0) x1 = fx at q2
                obtain ⟨f1, f2, f3, f4, f5, f6⟩ := fx
                rw [ha]
                rw [ha] at m0 m1 q1 s1
                rw [ha, hpa] at d1
                rw [ha, hpb] at d2
                rw [hpa] at p1
                rw [hpb] at p2
                simp only [A, S2.c, KV.c, List.map_cons, List.map_nil, Evs.g, Sl.g_nil] at m0 m1 p1 p2 d1 d2 q1 q2 s1 ⊢
                simp -implicitDefEqProofs [live06, m0, m1, n1, n2, n3, p1, p2, d1, d2, q1, q2, s1, pends]
            · obtain ⟨k1, k2, k3⟩ := do_bad he
              rw [k1, k2, k3] at d1
              have s1 := fun H => SameS_ev x0 x0 ⟨rfl, rfl, rfl, rfl⟩ hsm H
              generalize doE x0 (txnPut x1 v1 1) = e at d1 he
              rw [ha]
              rw [ha] at m0 m1 s1
              rw [ha, hpa] at d1
              rw [hpa] at p1
              simp only [A, S2.c, List.map_cons, List.map_nil, Evs.g, Sl.g_nil] at m0 m1 p1 d1 s1 ⊢
              simp -implicitDefEqProofs [live06, m0, m1, n1, n2, n3, p1, d1, s1, he, pends]
end Go.Proofs.Ytnbclicefmpkiaa
