/- What is done to a store, by the program. -/
import Derived.Test.YtibnbcljmfigfaaSMvcc3
namespace Go.Proofs.Ytibnbcljmfigfaa
open Go Go.AM Go.Proofs
set_option maxRecDepth 20000
set_option maxHeartbeats 2000000
set_option linter.unusedSimpArgs false
set_option linter.unusedVariables false
def evOf (rev : Int) (l : List KV) (m : Mut) : Ev := ⟨rev, m.gone, if m.gone = true then findX l m.key else nextP l m rev⟩
def evF (R : Sl KV → Ev → Sl KV) (rev : Int) (b : List Ev × Sl KV × Bool) (m : Mut) : List Ev × Sl KV × Bool :=
  if (m.gone && !findB b.2.1.l m.key) = true then b else (b.1 ++ [evOf rev b.2.1.l m], R b.2.1 (evOf rev b.2.1.l m), b.2.2 || decide (30 < (R b.2.1 (evOf rev b.2.1.l m)).l.length))
/-- The same, of lists alone. -/
def evP (rev : Int) (b : List Ev × List KV × Bool) (m : Mut) : List Ev × List KV × Bool :=
  if (m.gone && !findB b.2.1 m.key) = true then b else (b.1 ++ [evOf rev b.2.1 m], stepP rev b.2.1 (evOf rev b.2.1 m), b.2.2 || decide (30 < (stepP rev b.2.1 (evOf rev b.2.1 m)).length))
theorem evF_P (R : Sl KV → Ev → Sl KV) (rev : Int) (hR : ∀ b e, (R b e).l = stepP rev b.l e) : ∀ (ms : List Mut) (b : List Ev × Sl KV × Bool),
    (let c := ms.foldl (evF R rev) b; (c.1, c.2.1.l, c.2.2)) = ms.foldl (evP rev) (b.1, b.2.1.l, b.2.2)
  | [], b => rfl
  | m :: ms, b => by
    rw [List.foldl_cons, List.foldl_cons, evF_P R rev hR ms]
    congr 1
    unfold evF evP
    simp only
    split
    · rfl
    · simp only [hR]
theorem evP_len (rev : Int) : ∀ (ms : List Mut) (b : List Ev × List KV × Bool), (ms.foldl (evP rev) b).1.length ≤ b.1.length + ms.length
  | [], b => by simp
  | m :: ms, b => by
    rw [List.foldl_cons]
    have h := evP_len rev ms (evP rev b m)
    have h2 : (evP rev b m).1.length ≤ b.1.length + 1 := by unfold evP; split <;> simp
    simp only [List.length_cons]; omega
theorem events_ev (s : Sl KV) (ms : Sl Mut) (rev : Int) (hl : s.l.length + ms.l.length ≤ 200000) (H : List Blk) :
    EvF tab 54 [.g (KVs.g s), .g (Muts.g ms), I rev] H = some ⟨.tup [.g (Evs.g (slOf (ms.l.foldl (evF (stepR rev) rev) ([], s, false)).1)), B (ms.l.foldl (evF (stepR rev) rev) ([], s, false)).2.2], [], []⟩ := by
  have hw := loop_runJ (E := EvF tab) (h := H) (c := L54_0) (lv := [0, 2, 8, 9, 15, 16, 17]) (l := ms.l) (β := List Ev × Sl KV × Bool) (γ := Unit) (fun k b => b.1.length ≤ k ∧ b.2.1.l.length ≤ s.l.length + k) (fun k m b => .inl (evF (stepR rev) rev b m))
    (fun k b o => ⟨[(0, .g (KVs.g b.2.1)), (2, I rev), (8, .ms (H.length + 1) (b.1.length + 1) 8 0 b.1.length), (9, B b.2.2), (15, .g (Muts.g ms)), (16, I ms.l.length), (17, I k)], [], .rows 8 1 [] :: .rows 8 (b.1.length + 1) (b.1.map Ev.c) :: o⟩)
    (fun b o => (.exit 0, ⟨[(0, .g (KVs.g b.2.1)), (2, I rev), (8, .ms (H.length + 1) (b.1.length + 1) 8 0 b.1.length), (9, B b.2.2), (15, .g (Muts.g ms)), (16, I ms.l.length), (17, I ms.l.length), (18, B false)], [], .rows 8 1 [] :: .rows 8 (b.1.length + 1) (b.1.map Ev.c) :: o⟩))
    (fun _ o => (.ret, ⟨[], [], o⟩)) (by simp) (by simp) (fun k m b o hk hx hy hi => ?_) (fun b o _ => by delta L54_0; cases ms <;> simp -implicitDefEqProofs) ([], s, false) [] (by simp)
  · obtain ⟨o', hw⟩ := hw
    rw [runG_fold] at hw
    have e0 : ((0 : Nat) : Int) = 0 := rfl
    simp only [e0, endJ, List.length_nil, List.map_nil, Nat.zero_add] at hw
    refine EvF_walk t54 (by simp) ?_
    generalize ms.l.foldl (evF (stepR rev) rev) ([], s, false) = r at hw ⊢
    obtain ⟨r1, r2, r3⟩ := r
    have e3 : List.take r1.length (List.map Ev.c r1) = List.map Ev.c r1 := List.take_of_length_le (by simp)
    unfold slOf
    cases r1 with
    | nil => cases ms <;> simp only [Muts.g, Sl.g_nil, Sl.g_of, Sl.l_nil, Sl.l_of, List.length_nil, e0] at hw <;> simp -implicitDefEqProofs [hw]
    | cons x r1 =>
      have e4 : List.take r1.length (List.map Ev.c r1) = List.map Ev.c r1 := List.take_of_length_le (by simp)
      cases ms <;> simp only [Muts.g, Sl.g_nil, Sl.g_of, Sl.l_nil, Sl.l_of, List.length_nil, e0] at hw <;> simp -implicitDefEqProofs [hw, e3, e4]
  · obtain ⟨hi1, hi2⟩ := hi
    have e2 := wrap_succ hk (by omega)
    obtain ⟨r, t, f⟩ := b
    simp only at hi1 hi2 ⊢
    have h1 := fun H => Find_ev t m.key (by omega) H
    have h2 := fun H => next_ev t m rev (by omega) H
    obtain ⟨e, he⟩ : ∃ e, evOf rev t.l m = e := ⟨_, rfl⟩
    have h3 := fun H => Fold_ev t (.of [e]) rev (by simp only [Sl.l_of, List.length_cons, List.length_nil]; omega) H
    have h4 : foldR t (Sl.of [e]).l rev = stepR rev t e := rfl
    rw [h4] at h3
    have h5 := stepP_len rev t.l e
    rw [← stepR_l] at h5
    delta L54_0
    cases ms with
    | nil => simp at hk
    | of l =>
      simp only [Sl.l_of] at hk hx hy hl ⊢
      have e3 : List.take r.length (List.map Ev.c r) = List.map Ev.c r := List.take_of_length_le (by simp)
      unfold evF
      simp only
      rw [he]
      unfold evOf at he
      obtain ⟨mg, mk, mv, ml⟩ := m
      simp only at h1 h2 he ⊢
      have n1 : r.length + 1 ≤ 140737488355328 := by omega
      have n2 : (r.length + 1) * 80 ≤ 140737488355328 := by omega
      cases mg
      · simp only [Bool.false_eq_true, if_false, Bool.false_and] at he ⊢
        subst he
        generalize nextP t.l ⟨false, mk, mv, ml⟩ rev = x at h2 h3 h5 ⊢
        generalize stepR rev t ⟨rev, false, x⟩ = R at h3 h5 ⊢
        refine ⟨⟨by simp; omega, by omega⟩, o ++ [.cells [B false, T mk, T mv, I ml], .cells ((Ev.c ⟨rev, false, x⟩).map .g)], ?_⟩
        obtain ⟨x1, x2, x3, x4, x5, x6⟩ := x
        simp only [A, Mut.c, KV.c, Ev.c, Evs.g, Sl.g_of, List.map_cons, List.map_nil] at h2 h3 ⊢
        cases f
        · by_cases d : 30 < R.l.length
          · simp -implicitDefEqProofs [hk, hy, Mut.c, Ev.c, zres, h2, h3, chunk, appV, room, Nat.not_succ_le_self, n1, n2, e3, e2, d, show (30 : Int) < (R.l.length : Int) by omega]
          · simp -implicitDefEqProofs [hk, hy, Mut.c, Ev.c, zres, h2, h3, chunk, appV, room, Nat.not_succ_le_self, n1, n2, e3, e2, d, show ¬ (30 : Int) < (R.l.length : Int) by omega]
        · simp -implicitDefEqProofs [hk, hy, Mut.c, Ev.c, zres, h2, h3, chunk, appV, room, Nat.not_succ_le_self, n1, n2, e3, e2]
      · simp only [if_true, Bool.true_and] at he ⊢
        subst he
        generalize findX t.l mk = x at h1 h3 h5 ⊢
        generalize stepR rev t ⟨rev, true, x⟩ = R at h3 h5 ⊢
        obtain ⟨x1, x2, x3, x4, x5, x6⟩ := x
        simp only [A, Mut.c, KV.c, Ev.c, Evs.g, Sl.g_of, List.map_cons, List.map_nil] at h1 h3 ⊢
        cases hb : findB t.l mk
        · rw [hb] at h1
          simp only [Bool.not_false, if_true]
          refine ⟨⟨by omega, by omega⟩, o ++ [.cells [B true, T mk, T mv, I ml], .cells [I rev, B true, T [], T [], I 0, I 0, I 0, I 0], .cells [T x1, T x2, I x3, I x4, I x5, I x6]], ?_⟩
          simp -implicitDefEqProofs [hk, hy, Mut.c, Ev.c, zres, h1, e2]
        · rw [hb] at h1
          simp only [Bool.not_true, Bool.false_eq_true, if_false]
          refine ⟨⟨by simp; omega, by omega⟩, o ++ [.cells [B true, T mk, T mv, I ml], .cells [I rev, B true, T x1, T x2, I x3, I x4, I x5, I x6], .cells [T x1, T x2, I x3, I x4, I x5, I x6]], ?_⟩
          cases f
          · by_cases d : 30 < R.l.length
            · simp -implicitDefEqProofs [hk, hy, Mut.c, Ev.c, zres, h1, h3, chunk, appV, room, Nat.not_succ_le_self, n1, n2, e3, e2, d, show (30 : Int) < (R.l.length : Int) by omega]
            · simp -implicitDefEqProofs [hk, hy, Mut.c, Ev.c, zres, h1, h3, chunk, appV, room, Nat.not_succ_le_self, n1, n2, e3, e2, d, show ¬ (30 : Int) < (R.l.length : Int) by omega]
          · simp -implicitDefEqProofs [hk, hy, Mut.c, Ev.c, zres, h1, h3, chunk, appV, room, Nat.not_succ_le_self, n1, n2, e3, e2]
theorem concatTE : ∃ m msg m' msg', tab.T 55 = some (concatF 8 80 86 m msg) ∧ tab.T 86 = some (growF 8 80 [.int .i64 0, .bool false, .str [], .str [], .int .i64 0, .int .i64 0, .int .i64 0, .int .i64 0] m' msg') :=
  ⟨_, _, _, _, t55, t86⟩
theorem concatE_ev (a b : Sl Ev) (hn : a.l.length + b.l.length ≤ 1000000) (H : List Blk) :
    EvF tab 55 [.g (.sl 1 [[Evs.g a], [Evs.g b]])] H = some ⟨.g (nslG 8 Ev.c (a.l ++ b.l)), [], []⟩ := by
  obtain ⟨m, msg, m', msg', h1, h2⟩ := concatTE
  exact concat_ev h1 h2 a b (by omega) (by omega) H
/-- The events of what is asked of a store, and whether there are too many things. -/
def moreP (s : Store) (ms : List Mut) : List Ev × List KV × Bool := ms.foldl (evP (s.rev + 1)) ([], foldP s.base.l s.log.l s.rev, false)
def applyE (s : Store) (ms : List Mut) : Int :=
  if mayM ms = true then (if (moreP s ms).1 = [] then 0 else if (moreP s ms).2.2 = true ∨ s.rev = 1099511627774 ∨ 60 < s.log.l.length + (moreP s ms).1.length then 4 else 0) else 1
def applyN (s : Store) (ms : List Mut) : Bool := decide (applyE s ms = 0) && !decide ((moreP s ms).1 = [])
def applyS (s : Store) (ms : List Mut) : Store := if applyN s ms = true then ⟨s.rev + 1, s.low, s.base, .of (s.log.l ++ (moreP s ms).1)⟩ else s
def applyV (s : Store) (ms : List Mut) : Sl Ev := if applyN s ms = true then .of (moreP s ms).1 else .nil
theorem Apply_ev (s : Store) (ms : Sl Mut) (hs : smallS s) (hr : -1 ≤ s.rev ∧ s.rev ≤ 4611686018427387904) (hk : ∀ m ∈ ms.l, m.key.length ≤ 9223372036854775807) (hm : ms.l.length ≤ 10000) (H : List Blk) :
    EvF tab 25 [A s.c, .g (Muts.g ms)] H = some ⟨.tup [A (applyS s ms.l).c, .g (Evs.g (applyV s ms.l)), I (applyE s ms.l)], [], []⟩ := by
  have hs' := hs
  unfold smallS at hs'
  have m1 := fun H => mayM_ev ms hk (by omega) H
  have m2 := fun H => Now_ev s hs H
  have hnl := foldP_len s.rev s.log.l s.base.l
  have hR := foldR_l s.rev s.log.l s.base
  have m3 := fun H => events_ev (foldR s.base s.log.l s.rev) ms (s.rev + 1) (by rw [hR]; omega) H
  have hP := evF_P (stepR (s.rev + 1)) (s.rev + 1) (fun b e => stepR_l _ b e) ms.l ([], foldR s.base s.log.l s.rev, false)
  simp only [hR] at hP
  have hel := evP_len (s.rev + 1) ms.l ([], foldP s.base.l s.log.l s.rev, false)
  rw [show ms.l.foldl (evP (s.rev + 1)) ([], foldP s.base.l s.log.l s.rev, false) = moreP s ms.l from rfl] at hP hel
  have hP1 : (ms.l.foldl (evF (stepR (s.rev + 1)) (s.rev + 1)) ([], foldR s.base s.log.l s.rev, false)).1 = (moreP s ms.l).1 := by rw [← hP]
  have hP2 : (ms.l.foldl (evF (stepR (s.rev + 1)) (s.rev + 1)) ([], foldR s.base s.log.l s.rev, false)).2.2 = (moreP s ms.l).2.2 := by rw [← hP]
  rw [hP1, hP2] at m3
  refine EvF_walk t25 (by simp) ?_
  unfold applyS applyV applyN applyE
  generalize foldR s.base s.log.l s.rev = N at m2 m3
  generalize (moreP s ms.l).1 = E1 at m3 hel ⊢
  generalize (moreP s ms.l).2.2 = full at m3 ⊢
  generalize mayM ms.l = b0 at m1 ⊢
  simp only [List.length_nil, Nat.zero_add] at hel
  have w1 : IntKind.i64.wrap (s.rev + 1) = s.rev + 1 := wrap_i64 (by omega) (by omega)
  obtain ⟨srev, slow, sbase, slog⟩ := s
  simp only at hr hs' hnl m2 m3 w1 ⊢
  have cc := fun H => concatE_ev slog (.of E1) (by simp; omega) H
  simp only [Sl.l_of, nslG_slOf] at cc
  have hll : lenV = lenV := rfl
  generalize hg0 : Muts.g ms = G0 at m1 m3
  generalize hg1 : KVs.g sbase = G1 at m2
  simp only [A, Store.c, hg1, List.map_cons, List.map_nil] at m2
  cases b0
  · simp -implicitDefEqProofs [zres, A, Store.c, hg0, hg1, m1]
  · cases E1 with
    | nil =>
      simp only [slOf, if_true] at m3
      simp -implicitDefEqProofs [zres, A, Store.c, hg0, hg1, m1, m2, m3, w1]
    | cons e E1 =>
      simp only [slOf, reduceCtorEq, if_false] at m3
      have hne : ¬ (E1.length : Int) + 1 = 0 := by omega
      cases full
      · by_cases c1 : srev = 1099511627774
        · subst c1
          rw [show (1099511627774 : Int) + 1 = 1099511627775 from rfl] at m3 w1
          simp -implicitDefEqProofs [zres, A, Store.c, hg0, hg1, m1, m2, m3, w1, hne]
        · have hq : IntKind.i64.wrap ((slog.l.length : Int) + ((E1.length : Int) + 1)) = (slog.l.length : Int) + ((E1.length : Int) + 1) := wrap_i64 (by omega) (by simp only [List.length_cons] at hel; omega)
          by_cases c2 : 60 < slog.l.length + (E1.length + 1)
          · simp -implicitDefEqProofs [zres, A, Store.c, hg0, hg1, m1, m2, m3, w1, c1, hq, hne, c2, show (60 : Int) < (slog.l.length : Int) + ((E1.length : Int) + 1) by omega]
          · have hso : slOf (slog.l ++ e :: E1) = .of (slog.l ++ e :: E1) := by cases slog.l <;> rfl
            rw [hso] at cc
            simp only [Evs.g, Sl.g_of, List.map_cons, List.map_append] at cc m2 m3 ⊢
            have hb : ¬ (60 : Int) < (slog.l.length : Int) + ((E1.length : Int) + 1) := by omega
            cases slog with
            | nil =>
              simp only [Sl.l_nil, Sl.g_nil, List.nil_append, List.map_nil, List.length_nil, Int.natCast_zero, Int.ofNat_zero, Int.zero_add, Nat.zero_add] at cc m2 hq hb c2 ⊢
              have hq1 : IntKind.i64.wrap ((E1.length : Int) + 1) = (E1.length : Int) + 1 := wrap_i64 (by omega) (by omega)
              simp -implicitDefEqProofs [zres, A, Store.c, hg0, hg1, m1, m2, m3, w1, c1, hq, hne, hb, c2, cc, chunk, show E1.length ≤ 59 by omega, hq1]
            | of sl =>
              simp only [Sl.l_of, Sl.g_of] at cc m2 hq hb c2 ⊢
              simp -implicitDefEqProofs [zres, A, Store.c, hg0, hg1, m1, m2, m3, w1, c1, hq, hne, hb, c2, cc, chunk]
      · simp -implicitDefEqProofs [zres, A, Store.c, hg0, hg1, m1, m2, m3, w1, hne]
end Go.Proofs.Ytibnbcljmfigfaa
