/- What is done to a store, by the reference. -/
import Derived.Test.YtnbclicefmpkiaaSMvcc4
namespace Go.Proofs.Ytnbclicefmpkiaa
open Go Go.AM Go.Proofs
set_option maxRecDepth 20000
set_option maxHeartbeats 4000000
set_option linter.unusedSimpArgs false
set_option linter.unusedVariables false
theorem app_ownP {sz bytes g : Nat} (n : Nat) (xs ys : List (List GV)) (h1 : xs.length + ys.length ≤ 140737488355328) (h2 : (xs.length + ys.length) * bytes ≤ 140737488355328) (H : List Blk) :
    ∃ g' W, g ≤ g' ∧ ∀ t m P, P.length = n → appV H ⟨t, m, P ++ [.rows sz g xs]⟩ sz bytes (.ms (H.length + n) g sz 0 xs.length) ys = some (.ms (H.length + n) g' sz 0 (xs.length + ys.length), ⟨t, m, P ++ [.rows sz g' (xs ++ ys)]⟩, W) := by
  by_cases hne : ys = []
  · subst hne
    exact ⟨g, [], Nat.le_refl _, fun t m P hP => by subst hP; simp -implicitDefEqProofs [appV]⟩
  · exact ⟨g + 1, [H.length + n], by omega, fun t m P hP => by subst hP; exact app_grow hne h1 h2 H t m P⟩
theorem Apply2_loop (s : Sl KV) (ms : Sl Mut) (rev : Int) (p1 p2 p3 p4 p5 : Blk) (hl : s.l.length + ms.l.length ≤ 200000) (H : List Blk) :
    ∃ o, loopE (EvF tab) H L46_0 [1, 2, 4, 7, 8, 9, 10, 11] ⟨[(1, .g (Muts.g ms)), (2, .ptr H.length 0), (4, .ptr (H.length + 3) 0), (7, .g (KVs.g s)), (8, I rev), (9, .ms (H.length + 5) 1 8 0 0), (10, B false), (11, I 0)], [], [p1, p2, p3, p4, p5, .rows 8 1 []]⟩ =
      some (.exit 0, ⟨[(1, .g (Muts.g ms)), (2, .ptr H.length 0), (4, .ptr (H.length + 3) 0), (7, .g (KVs.g (ms.l.foldl (evF (stepR2 rev) rev) ([], s, false)).2.1)), (8, I rev), (9, .ms (H.length + 5) ((ms.l.foldl (evF (stepR2 rev) rev) ([], s, false)).1.length + 1) 8 0 (ms.l.foldl (evF (stepR2 rev) rev) ([], s, false)).1.length), (10, B (ms.l.foldl (evF (stepR2 rev) rev) ([], s, false)).2.2), (11, I ms.l.length), (28, B false)], [],
        p1 :: p2 :: p3 :: p4 :: p5 :: .rows 8 ((ms.l.foldl (evF (stepR2 rev) rev) ([], s, false)).1.length + 1) ((ms.l.foldl (evF (stepR2 rev) rev) ([], s, false)).1.map Ev.c) :: o⟩) := by
  have hw := loop_runJ (E := EvF tab) (h := H) (c := L46_0) (lv := [1, 2, 4, 7, 8, 9, 10, 11]) (l := ms.l) (β := List Ev × Sl KV × Bool) (γ := Unit) (fun k b => b.1.length ≤ k ∧ b.2.1.l.length ≤ s.l.length + k) (fun k m b => .inl (evF (stepR2 rev) rev b m))
    (fun k b o => ⟨[(1, .g (Muts.g ms)), (2, .ptr H.length 0), (4, .ptr (H.length + 3) 0), (7, .g (KVs.g b.2.1)), (8, I rev), (9, .ms (H.length + 5) (b.1.length + 1) 8 0 b.1.length), (10, B b.2.2), (11, I k)], [], p1 :: p2 :: p3 :: p4 :: p5 :: .rows 8 (b.1.length + 1) (b.1.map Ev.c) :: o⟩)
    (fun b o => (.exit 0, ⟨[(1, .g (Muts.g ms)), (2, .ptr H.length 0), (4, .ptr (H.length + 3) 0), (7, .g (KVs.g b.2.1)), (8, I rev), (9, .ms (H.length + 5) (b.1.length + 1) 8 0 b.1.length), (10, B b.2.2), (11, I ms.l.length), (28, B false)], [], p1 :: p2 :: p3 :: p4 :: p5 :: .rows 8 (b.1.length + 1) (b.1.map Ev.c) :: o⟩))
    (fun _ o => (.ret, ⟨[], [], o⟩)) (by simp) (by simp) (fun k m b o hk hx hy hi => ?_) (fun b o _ => by delta L46_0; cases ms <;> simp -implicitDefEqProofs) ([], s, false) [] (by simp)
  · obtain ⟨o', hw⟩ := hw
    rw [runG_fold] at hw
    exact ⟨o', hw⟩
  · obtain ⟨hi1, hi2⟩ := hi
    have e2 := wrap_succ hk (by omega)
    obtain ⟨r, t, f⟩ := b
    simp only at hi1 hi2 ⊢
    have h1 := fun H => Find2_ev t m.key (by omega) H
    obtain ⟨e, he⟩ : ∃ e, evOf rev t.l m = e := ⟨_, rfl⟩
    have h3 := fun H => Fold2_ev t (.of [e]) rev (by simp only [Sl.l_of, List.length_cons, List.length_nil]; omega) H
    have h4 : foldR2 t (Sl.of [e]).l rev = stepR2 rev t e := rfl
    rw [h4] at h3
    have h5 := stepP_len rev t.l e
    rw [← stepR2_l] at h5
    delta L46_0
    cases ms with
    | nil => simp at hk
    | of l =>
      simp only [Sl.l_of] at hk hx hy hl ⊢
      have e3 : List.take r.length (List.map Ev.c r) = List.map Ev.c r := List.take_of_length_le (by simp)
      unfold evF
      simp only
      rw [he]
      unfold evOf at he
      obtain ⟨mg, mk, mv, ml⟩ := m
      simp only at h1 he ⊢
      have n1 : r.length + 1 ≤ 140737488355328 := by omega
      have n2 : (r.length + 1) * 80 ≤ 140737488355328 := by omega
      cases mg
      · simp only [Bool.false_eq_true, if_false, Bool.false_and] at he ⊢
        unfold nextP at he
        simp only at he
        generalize findX t.l mk = x at h1 he
        obtain ⟨x1, x2, x3, x4, x5, x6⟩ := x
        cases hb : findB t.l mk
        · rw [hb] at h1 he
          simp only [Bool.false_eq_true, if_false] at he
          subst he
          generalize stepR2 rev t ⟨rev, false, ⟨mk, mv, rev, rev, 1, ml⟩⟩ = R at h3 h5 ⊢
          refine ⟨⟨by simp; omega, by omega⟩, o ++ [.cells [T x1, T x2, I x3, I x4, I x5, I x6], .cells [I rev, B false, T mk, T mv, I rev, I rev, I 1, I ml]], ?_⟩
          simp only [A, Mut.c, KV.c, Ev.c, Evs.g, Sl.g_of, List.map_cons, List.map_nil] at h1 h3 ⊢
          cases f
          · by_cases d : 30 < R.l.length
            · simp -implicitDefEqProofs [hk, hy, pends, List.append_assoc, List.cons_append, List.nil_append, Mut.c, Ev.c, zres, h1, h3, chunk, appV, room, Nat.not_succ_le_self, n1, n2, e3, e2, d, show (30 : Int) < (R.l.length : Int) by omega]
            · simp -implicitDefEqProofs [hk, hy, pends, List.append_assoc, List.cons_append, List.nil_append, Mut.c, Ev.c, zres, h1, h3, chunk, appV, room, Nat.not_succ_le_self, n1, n2, e3, e2, d, show ¬ (30 : Int) < (R.l.length : Int) by omega]
          · simp -implicitDefEqProofs [hk, hy, pends, List.append_assoc, List.cons_append, List.nil_append, Mut.c, Ev.c, zres, h1, h3, chunk, appV, room, Nat.not_succ_le_self, n1, n2, e3, e2]
        · rw [hb] at h1 he
          simp only [if_true] at he
          subst he
          obtain ⟨x7, h7⟩ : ∃ n, IntKind.i64.wrap (x5 + 1) = n := ⟨_, rfl⟩
          rw [h7] at h3 h5 ⊢
          generalize stepR2 rev t ⟨rev, false, ⟨mk, mv, x3, rev, x7, ml⟩⟩ = R at h3 h5 ⊢
          refine ⟨⟨by simp; omega, by omega⟩, o ++ [.cells [T x1, T x2, I x3, I x4, I x5, I x6], .cells [I rev, B false, T mk, T mv, I x3, I rev, I x7, I ml]], ?_⟩
          simp only [A, Mut.c, KV.c, Ev.c, Evs.g, Sl.g_of, List.map_cons, List.map_nil] at h1 h3 ⊢
          cases f
          · by_cases d : 30 < R.l.length
            · simp -implicitDefEqProofs [hk, hy, pends, List.append_assoc, List.cons_append, List.nil_append, Mut.c, Ev.c, zres, h1, h3, chunk, appV, room, Nat.not_succ_le_self, n1, n2, e3, e2, h7, d, show (30 : Int) < (R.l.length : Int) by omega]
            · simp -implicitDefEqProofs [hk, hy, pends, List.append_assoc, List.cons_append, List.nil_append, Mut.c, Ev.c, zres, h1, h3, chunk, appV, room, Nat.not_succ_le_self, n1, n2, e3, e2, h7, d, show ¬ (30 : Int) < (R.l.length : Int) by omega]
          · simp -implicitDefEqProofs [hk, hy, pends, List.append_assoc, List.cons_append, List.nil_append, Mut.c, Ev.c, zres, h1, h3, chunk, appV, room, Nat.not_succ_le_self, n1, n2, e3, e2, h7]
      · simp only [if_true, Bool.true_and] at he ⊢
        subst he
        generalize findX t.l mk = x at h1 h3 h5 ⊢
        generalize stepR2 rev t ⟨rev, true, x⟩ = R at h3 h5 ⊢
        obtain ⟨x1, x2, x3, x4, x5, x6⟩ := x
        cases hb : findB t.l mk
        · rw [hb] at h1
          simp only [A, Mut.c, KV.c, Ev.c, Evs.g, Sl.g_of, List.map_cons, List.map_nil] at h1 h3 ⊢
          simp only [Bool.not_false, if_true]
          refine ⟨⟨by omega, by omega⟩, o ++ [.cells [T x1, T x2, I x3, I x4, I x5, I x6], .cells [I rev, B true, T x1, T x2, I x3, I x4, I x5, I x6]], ?_⟩
          simp -implicitDefEqProofs [hk, hy, pends, List.append_assoc, List.cons_append, List.nil_append, Mut.c, Ev.c, zres, h1, e2]
        · rw [hb] at h1
          simp only [Bool.not_true, Bool.false_eq_true, if_false]
          refine ⟨⟨by simp; omega, by omega⟩, o ++ [.cells [T x1, T x2, I x3, I x4, I x5, I x6], .cells [I rev, B true, T x1, T x2, I x3, I x4, I x5, I x6]], ?_⟩
          simp only [A, Mut.c, KV.c, Ev.c, Evs.g, Sl.g_of, List.map_cons, List.map_nil] at h1 h3 ⊢
          cases f
          · by_cases d : 30 < R.l.length
            · simp -implicitDefEqProofs [hk, hy, pends, List.append_assoc, List.cons_append, List.nil_append, Mut.c, Ev.c, zres, h1, h3, chunk, appV, room, Nat.not_succ_le_self, n1, n2, e3, e2, d, show (30 : Int) < (R.l.length : Int) by omega]
            · simp -implicitDefEqProofs [hk, hy, pends, List.append_assoc, List.cons_append, List.nil_append, Mut.c, Ev.c, zres, h1, h3, chunk, appV, room, Nat.not_succ_le_self, n1, n2, e3, e2, d, show ¬ (30 : Int) < (R.l.length : Int) by omega]
          · simp -implicitDefEqProofs [hk, hy, pends, List.append_assoc, List.cons_append, List.nil_append, Mut.c, Ev.c, zres, h1, h3, chunk, appV, room, Nat.not_succ_le_self, n1, n2, e3, e2]
theorem applyE_eq (s : Store) (ms : List Mut) (h : s.rev ≤ 1099511627774) : applyE s ms = if mayM ms = true then (if (moreP s ms).1 = [] then 0 else if (moreP s ms).2.2 = true ∨ 1099511627774 ≤ s.rev ∨ 60 < s.log.l.length + (moreP s ms).1.length then 4 else 0) else 1 := by
  unfold applyE
  have e : s.rev = 1099511627774 ↔ 1099511627774 ≤ s.rev := ⟨fun h => by omega, fun h' => by omega⟩
  simp only [e]
theorem Apply2_ev (s : Store) (ms : Sl Mut) (hs : smallS s) (hr : -1 ≤ s.rev ∧ s.rev ≤ 1099511627774) (hk : ∀ m ∈ ms.l, m.key.length ≤ 9223372036854775807) (hm : ms.l.length ≤ 10000) (H : List Blk) :
    EvF tab 46 [A s.c, .g (Muts.g ms)] H = some ⟨.tup [A (applyS s ms.l).c, .g (Evs.g (applyV s ms.l)), I (applyE s ms.l)], [], []⟩ := by
  have hs' := hs
  unfold smallS at hs'
  have m1 := fun H => muts5_ev ms hk (by omega) H
  have m2 := fun H => Now2_ev s hs H
  have hnl := foldP_len s.rev s.log.l s.base.l
  have hR := foldR2_l s.rev s.log.l s.base
  have m3 := fun p1 p2 p3 p4 p5 H => Apply2_loop (foldR2 s.base s.log.l s.rev) ms (s.rev + 1) p1 p2 p3 p4 p5 (by rw [hR]; omega) H
  have hP := evF_P (stepR2 (s.rev + 1)) (s.rev + 1) (fun b e => stepR2_l _ b e) ms.l ([], foldR2 s.base s.log.l s.rev, false)
  simp only [hR] at hP
  have hel := evP_len (s.rev + 1) ms.l ([], foldP s.base.l s.log.l s.rev, false)
  rw [show ms.l.foldl (evP (s.rev + 1)) ([], foldP s.base.l s.log.l s.rev, false) = moreP s ms.l from rfl] at hP hel
  have hP1 : (ms.l.foldl (evF (stepR2 (s.rev + 1)) (s.rev + 1)) ([], foldR2 s.base s.log.l s.rev, false)).1 = (moreP s ms.l).1 := by rw [← hP]
  have hP2 : (ms.l.foldl (evF (stepR2 (s.rev + 1)) (s.rev + 1)) ([], foldR2 s.base s.log.l s.rev, false)).2.2 = (moreP s ms.l).2.2 := by rw [← hP]
  rw [hP1, hP2] at m3
  refine EvF_walk t46 (by simp) ?_
  unfold applyS applyV applyN
  rw [applyE_eq s ms.l hr.2]
  generalize (ms.l.foldl (evF (stepR2 (s.rev + 1)) (s.rev + 1)) ([], foldR2 s.base s.log.l s.rev, false)).2.1 = N2 at m3
  generalize foldR2 s.base s.log.l s.rev = N at m2 m3
  generalize (moreP s ms.l).1 = E1 at m3 hel ⊢
  generalize (moreP s ms.l).2.2 = full at m3 ⊢
  generalize mayM ms.l = b0 at m1 ⊢
  simp only [List.length_nil, Nat.zero_add] at hel
  have w1 : IntKind.i64.wrap (s.rev + 1) = s.rev + 1 := wrap_i64 (by omega) (by omega)
  obtain ⟨srev, slow, sbase, slog⟩ := s
  simp only at hr hs' hnl m2 m3 w1 ⊢
  generalize hg0 : Muts.g ms = G0 at m1 m3
  generalize hg1 : KVs.g sbase = G1 at m2
  simp only [A, Store.c, hg1, List.map_cons, List.map_nil] at m2
  cases b0
  · simp -implicitDefEqProofs [zres, A, Store.c, hg0, hg1, m1]
  · obtain ⟨o, m3⟩ := m3 (.cells (Store.c ⟨srev, slow, sbase, slog⟩ |>.map .g)) (.rows 6 1 []) (.rows 8 1 []) (.cells [I 0, I 0, .ms (H.length + 1) 1 6 0 0, .ms (H.length + 2) 1 8 0 0]) (.rows 8 1 []) H
    simp only [Store.c, hg1, List.map_cons, List.map_nil] at m3
    cases E1 with
    | nil =>
      simp only [if_true, List.length_nil] at m3
      simp -implicitDefEqProofs [zres, A, Store.c, hg0, hg1, m1, m2, m3, w1]
    | cons e E1 =>
      simp only [reduceCtorEq, if_false, List.length_cons] at m3 hel
      have hne : ¬ (E1.length : Int) + 1 = 0 := by omega
      cases full
      · by_cases c1 : 1099511627774 ≤ srev
        · simp -implicitDefEqProofs [zres, A, Store.c, hg0, hg1, m1, m2, m3, w1, hne, c1]
        · have hq : IntKind.i64.wrap ((slog.l.length : Int) + ((E1.length : Int) + 1)) = (slog.l.length : Int) + ((E1.length : Int) + 1) := wrap_i64 (by omega) (by omega)
          by_cases c2 : 60 < slog.l.length + (E1.length + 1)
          · simp -implicitDefEqProofs [zres, A, Store.c, hg0, hg1, m1, m2, m3, w1, c1, hq, hne, c2, show (60 : Int) < (slog.l.length : Int) + ((E1.length : Int) + 1) by omega]
          · have hb : ¬ (60 : Int) < (slog.l.length : Int) + ((E1.length : Int) + 1) := by omega
            obtain ⟨g1, W1, k1, ap1⟩ := app_ownP (sz := 8) (bytes := 80) (g := 2) (o.length + 9) [] (slog.l.map Ev.c) (by simp; omega) (by simp; omega) H
            obtain ⟨g2, W2, k2, ap2⟩ := app_ownP (sz := 8) (bytes := 80) (g := g1) (o.length + 9) (slog.l.map Ev.c) ((e :: E1).map Ev.c) (by simp; omega) (by simp; omega) H
            have ap1 := fun t m (c : List AV) => ap1 t m ([.cells [I srev, I slow, .g G1, .g (Evs.g slog)], .rows 6 1 [], .rows 8 1 [], .cells [I 0, I 0, .ms (H.length + 1) 1 6 0 0, .ms (H.length + 2) 1 8 0 0], .rows 8 1 [], .rows 8 (E1.length + 1 + 1) ((e :: E1).map Ev.c)] ++ o ++ [.rows 6 1 [], .rows 8 1 [], .cells c]) (by simp)
            have ap2 := fun t m (c : List AV) => ap2 t m ([.cells [I srev, I slow, .g G1, .g (Evs.g slog)], .rows 6 1 [], .rows 8 1 [], .cells [I 0, I 0, .ms (H.length + 1) 1 6 0 0, .ms (H.length + 2) 1 8 0 0], .rows 8 1 [], .rows 8 (E1.length + 1 + 1) ((e :: E1).map Ev.c)] ++ o ++ [.rows 6 1 [], .rows 8 1 [], .cells c]) (by simp)
            simp only [List.length_nil, List.nil_append, Nat.zero_add, List.length_map, List.length_append, List.length_cons, List.append_assoc, List.cons_append, List.map_cons, List.map_nil] at ap1 ap2
            have e3 : List.take (E1.length + 1) (e.c :: List.map Ev.c E1) = e.c :: List.map Ev.c E1 := List.take_of_length_le (by simp)
            have hg2 : ¬ g2 = 1 := by omega
            simp -implicitDefEqProofs [zres, A, Store.c, hg0, hg1, m1, m2, m3, w1, c1, hq, hne, hb, c2, ap1, ap2, e3, hg2, List.append_assoc, List.cons_append, List.nil_append]
            exact List.take_of_length_le (by simp)
      · simp -implicitDefEqProofs [zres, A, Store.c, hg0, hg1, m1, m2, m3, w1, hne]
end Go.Proofs.Ytnbclicefmpkiaa
