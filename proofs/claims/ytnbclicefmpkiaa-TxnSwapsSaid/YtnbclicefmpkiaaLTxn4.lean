/- The law TxnSwaps. -/
import Derived.Test.YtnbclicefmpkiaaLTxn3
namespace Go.Proofs.Ytnbclicefmpkiaa
open Go Go.AM Go.Proofs
set_option maxRecDepth 20000
set_option maxHeartbeats 8000000
set_option linter.unusedSimpArgs false
set_option linter.unusedVariables false
def txnSwap (k v : Bs) (n : Int) : Txn := ⟨.of [⟨k, 2, 1, n, []⟩], .of [⟨false, k, v, 0⟩], .nil⟩
theorem wfSwap (k v : Bs) (n : Int) (h1 : S64 k) (h2 : S64 v) (h3 : I64 n) : (txnSwap k v n).wf := by
  unfold S64 I64 at *
  refine ⟨⟨fun y hy => ?_, by simp [txnSwap]⟩, ⟨fun y hy => ?_, by simp [txnSwap]⟩, ⟨fun y hy => by simp [txnSwap] at hy, by simp [txnSwap]⟩⟩
  · have : y = ⟨k, 2, 1, n, []⟩ := by simpa [txnSwap] using hy
    subst this; simp [Cmp.wf, S64, I64]; omega
  · have : y = ⟨false, k, v, 0⟩ := by simpa [txnSwap] using hy
    subst this; simp [Mut.wf, S64, I64]; omega
theorem nextK_parts4 (o : Option KV) (m : Mut) (rev : Int) : (nextK o m rev).key = m.key ∧ (nextK o m rev).value = m.value ∧ (nextK o m rev).lease = m.lease ∧ (nextK o m rev).mod = rev := by unfold nextK; split <;> exact ⟨rfl, rfl, rfl, rfl⟩
theorem swap_gen (v k x1 x2 : Bs) (x3 x4 x5 x6 : Int) {H : List Blk} {p q : Nat} (hp : H[p]? = some (.cells [T k])) (hq : H[q]? = some (.cells [T x1, T x2, I x3, I x4, I x5, I x6])) :
    EvF tab 50 [T v, .ptr p 0, .ptr q 0] H = some ⟨A (txnSwap k v x4).c, [], []⟩ := by
  have lp : p < H.length := (List.getElem?_eq_some_iff.1 hp).1
  have lq : q < H.length := (List.getElem?_eq_some_iff.1 hq).1
  refine EvF_walk t50 (by simp) ?_
  simp -implicitDefEqProofs [A, txnSwap, Txn.c, Cmp.c, Mut.c, chunk, getB_old lp, getB_old lq, orB, hp, hq]
theorem swap_ev (v k x1 x2 : Bs) (x3 x4 x5 x6 : Int) (p0 p2 : Blk) (r : List Blk) :
    EvF tab 50 [T v, .ptr 1 0, .ptr 3 0] (p0 :: .cells [T k] :: p2 :: .cells [T x1, T x2, I x3, I x4, I x5, I x6] :: r) = some ⟨A (txnSwap k v x4).c, [], []⟩ :=
  swap_gen v k x1 x2 x3 x4 x5 x6 rfl rfl
theorem yes_swap (s : Store) (k v : Bs) (n : Int) : yesP s (txnSwap k v n) = decide ((findX (nowP s) k).mod = n) := by
  unfold yesP allP holdsP txnSwap numP
  simp
theorem ok_swap (k v : Bs) (n : Int) : doOk (txnSwap k v n) = true := by
  unfold doOk listOk allP askOk txnSwap
  simp
theorem mod_le {s : Store} (hs : SOk s) (k : Bs) : 0 ≤ (findX (nowP s) k).mod ∧ (findX (nowP s) k).mod ≤ s.rev := by
  cases h : findB (nowP s) k
  · rw [(find_no k h).2]
    have h1 := hs.low0
    have h2 := hs.lowr
    exact ⟨by decide, by show (0 : Int) ≤ s.rev; omega⟩
  · rw [findB_get] at h
    rw [findX_get]
    cases hq : getK (nowP s) k with
    | none => rw [hq] at h; cases h
    | some x =>
      have hx := hs.nowGood.one x (getK_some hq).1
      obtain ⟨_, _, ⟨h1, _⟩, ⟨h2, _⟩, _⟩ := oneOk_iff.1 hx.1
      exact ⟨by show 0 ≤ x.mod; omega, hx.2⟩
theorem TxnSwaps_law (x0 : Store) (x1 : Bs) (x2 : Bs × Bs) (w0 : x0.wf) (w1 : S64 x1) (w2 : S64 x2.1 ∧ S64 x2.2) : EvF tab 14 [A x0.c, T x1, A (S2.c x2)] [] = some ⟨.g (.bool true), [], []⟩ := by
  have m0 := fun H => FewS_ev x0 w0 H
  have m1 := fun H => May_ev x0 w0 H
  refine EvF_walk t14 (by simp) ?_
  obtain ⟨v1, v2⟩ := x2
  simp only at w2
  obtain ⟨a1, a2, a3, a4, ha⟩ := store4 x0
  cases g1 : fewS x0
  · rw [g1] at m0
    rw [ha]
    rw [ha] at m0
    simp only [A, S2.c, List.map_cons, List.map_nil] at m0 ⊢
    simp -implicitDefEqProofs [live06, m0]
  · cases g2 : storeOk x0
    · rw [g1] at m0
      rw [g2] at m1
      rw [ha]
      rw [ha] at m0 m1
      simp only [A, S2.c, List.map_cons, List.map_nil] at m0 m1 ⊢
      simp -implicitDefEqProofs [live06, m0, m1]
    · have hr := storeOk_rev g2
      have hsm := fewS_smallS g1
      have hs := storeOk_iff.1 g2
      rw [g1] at m0
      rw [g2] at m1
      by_cases n1 : (60 : Int) < (x1.length : Int)
      · rw [ha]
        rw [ha] at m0 m1
        simp only [A, S2.c, List.map_cons, List.map_nil] at m0 m1 ⊢
        simp -implicitDefEqProofs [live06, m0, m1, n1]
      · by_cases n2 : (60 : Int) < (v1.length : Int)
        · rw [ha]
          rw [ha] at m0 m1
          simp only [A, S2.c, List.map_cons, List.map_nil] at m0 m1 ⊢
          simp -implicitDefEqProofs [live06, m0, m1, n1, n2]
        · by_cases n3 : (60 : Int) < (v2.length : Int)
          · rw [ha]
            rw [ha] at m0 m1
            simp only [A, S2.c, List.map_cons, List.map_nil] at m0 m1 ⊢
            simp -implicitDefEqProofs [live06, m0, m1, n1, n2, n3]
          · have q1 := fun H => Now_ev x0 hsm H
            have nl := hs.nowLen
            have q2 := fun H => Find2_ev (foldR x0.base x0.log.l x0.rev) x1 (by rw [now_l]; omega) H
            rw [now_l] at q2
            generalize foldR x0.base x0.log.l x0.rev = nw at q1 q2
            have hmod := mod_le hs x1
            have hy1 := yes_swap x0 x1 v1 (findX (nowP x0) x1).mod
            rw [decide_eq_true rfl] at hy1
            generalize findB (nowP x0) x1 = fb at q2
            generalize findX (nowP x0) x1 = fx at q2 hmod hy1
            obtain ⟨f1, f2, f3, f4, f5, f6⟩ := fx
            simp only at hmod hy1
            have wp1 : (txnSwap x1 v1 f4).wf := wfSwap _ _ _ w1 w2.1 (by unfold I64; omega)
            have wp2 : (txnSwap x1 v2 f4).wf := wfSwap _ _ _ w1 w2.2 (by unfold I64; omega)
            have d1 := fun H => Do_ev x0 (txnSwap x1 v1 f4) hsm (by omega) wp1 H
            have p1 := fun p0 p2 r => swap_ev v1 x1 f1 f2 f3 f4 f5 f6 p0 p2 r
            have p2 := fun p0 p2 r => swap_ev v2 x1 f1 f2 f3 f4 f5 f6 p0 p2 r
            obtain ⟨pa1, pa2, pa3, hpa⟩ : ∃ c1 c2 c3, (txnSwap x1 v1 f4).c = [c1, c2, c3] := ⟨_, _, _, rfl⟩
            obtain ⟨pb1, pb2, pb3, hpb⟩ : ∃ c1 c2 c3, (txnSwap x1 v2 f4).c = [c1, c2, c3] := ⟨_, _, _, rfl⟩
            by_cases he : doE x0 (txnSwap x1 v1 f4) = 0
            · obtain ⟨k1, k2, k3, k4, k5⟩ := do_good he
              have hL : (doL x0 (txnSwap x1 v1 f4)).l = [⟨false, x1, v1, 0⟩] := by unfold doL; rw [hy1]; rfl
              rw [hL] at k2 k3
              obtain ⟨ht, trv, tg, tk⟩ := put_goes hs (m := ⟨false, x1, v1, 0⟩) rfl k2
              rw [he, k3, k4, hy1] at d1
              generalize doV x0 (txnSwap x1 v1 f4) = ev1 at d1
              clear k3
              generalize applyS x0 [⟨false, x1, v1, 0⟩] = t at d1 ht trv tg
              have hr1 := ht.low0
              have hr2 := ht.lowr
              have hr3 := ht.revM
              simp only at tg
              obtain ⟨z1, z2, z3, z4⟩ := nextK_parts4 (getK (nowP x0) x1) ⟨false, x1, v1, 0⟩ (x0.rev + 1)
              have tb : findB (nowP t) x1 = true := by rw [findB_get, tg]; rfl
              have tx : findX (nowP t) x1 = nextK (getK (nowP x0) x1) ⟨false, x1, v1, 0⟩ (x0.rev + 1) := by rw [findX_get, tg]; rfl
              have d2 := fun H => Do_ev t (txnSwap x1 v2 f4) ht.small (by omega) wp2 H
              obtain ⟨i1, i2, i3, i4⟩ := do_else (s := t) (t := txnSwap x1 v2 f4) (ok_swap _ _ _) (by
                rw [yes_swap, tx, z4]
                exact decide_eq_false (by omega)) rfl
              rw [i1, i2, i3, i4] at d2
              have s1 := fun H => SameS_ev t t ⟨rfl, rfl, rfl, rfl⟩ ht.small H
              have q3 := fun H => Now_ev t ht.small H
              have tl := ht.nowLen
              have q4 := fun H => Find2_ev (foldR t.base t.log.l t.rev) x1 (by rw [now_l]; omega) H
              rw [now_l, tb, tx] at q4
              generalize foldR t.base t.log.l t.rev = nt at q3 q4
              generalize nextK (getK (nowP x0) x1) ⟨false, x1, v1, 0⟩ (x0.rev + 1) = y at q4 z2 z4
              obtain ⟨y1, y2, y3, y4, y5, y6⟩ := y
              simp only at z2 z4
              subst z2
              obtain ⟨tc1, tc2, tc3, tc4, htc⟩ := store4 t
              obtain ⟨srev, slow, sbase, slog⟩ := x0
              simp only at z4 hr
              have hwr : IntKind.i64.wrap (srev + 1) = srev + 1 := wrap_i64 (by omega) (by omega)
              clear ha
              rw [hpa, htc] at d1
              rw [hpb, htc] at d2
              rw [hpa] at p1
              rw [hpb] at p2
              rw [htc] at q3 s1
              subst z4
              simp only [A, S2.c, KV.c, Store.c, List.map_cons, List.map_nil, Evs.g, Sl.g_nil] at m0 m1 p1 p2 d1 d2 q1 q2 q3 q4 s1 ⊢
              simp -implicitDefEqProofs [live06, m0, m1, n1, n2, n3, p1, p2, d1, d2, q1, q2, q3, q4, s1, pends, hwr]
            · obtain ⟨k1, k2, k3⟩ := do_bad he
              rw [k1, k2, k3] at d1
              have s1 := fun H => SameS_ev x0 x0 ⟨rfl, rfl, rfl, rfl⟩ hsm H
              generalize doE x0 (txnSwap x1 v1 f4) = e at d1 he
              rw [ha]
              rw [ha] at m0 m1 s1 q1
              rw [ha, hpa] at d1
              rw [hpa] at p1
              simp only [A, S2.c, KV.c, List.map_cons, List.map_nil, Evs.g, Sl.g_nil] at m0 m1 p1 d1 s1 q1 q2 ⊢
              simp -implicitDefEqProofs [live06, m0, m1, n1, n2, n3, p1, d1, q1, q2, s1, he, pends]
end Go.Proofs.Ytnbclicefmpkiaa
