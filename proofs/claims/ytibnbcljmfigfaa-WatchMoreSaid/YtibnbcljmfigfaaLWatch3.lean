/- The law WatchMore. -/
import Derived.Test.YtibnbcljmfigfaaLWatch2
namespace Go.Proofs.Ytibnbcljmfigfaa
open Go Go.AM Go.Proofs
set_option maxRecDepth 20000
set_option maxHeartbeats 4000000
set_option linter.unusedSimpArgs false
set_option linter.unusedVariables false
def preE (l : List Ev) (p : Bs) : List Ev := l.filter fun e => preP p e.kv.key
theorem ofP_more {s : Store} (h : SOk s) {ms : List Mut} (hz : applyE s ms = 0) (p : Bs) : ofP (applyS s ms).log.l p (s.rev + 1) = preE (applyV s ms).l p ∧ (applyV s ms).l.length ≤ ms.length ∧ (applyS s ms).low = s.low ∧ s.rev ≤ (applyS s ms).rev := by
  cases hN : applyN s ms
  · obtain ⟨h1, h2⟩ := applyN_false hN
    rw [h1, h2]
    refine ⟨?_, by simp, rfl, Int.le_refl _⟩
    rw [ofP_end h]; rfl
  · obtain ⟨h1, h2⟩ := applyN_true hN
    obtain ⟨hm, _⟩ := applyE_zero hz
    obtain ⟨f1, f2, _⟩ := more_facts h hm
    rw [h1, h2]
    simp only [Sl.l_of]
    refine ⟨?_, by rw [f2]; exact List.length_filter_le _ _, trivial, by omega⟩
    have e1 : ofP (s.log.l ++ (moreP s ms).1) p (s.rev + 1) = ofP s.log.l p (s.rev + 1) ++ ofP (moreP s ms).1 p (s.rev + 1) := List.filter_append ..
    rw [e1, ofP_end h, List.nil_append]
    unfold ofP preE
    apply List.filter_congr
    intro e he
    have := f1 e he
    simp [inP, this]
theorem more_loop (S P1 P2 T0 : Blk) (p : Bs) (es : Sl Ev) (hl : es.l.length ≤ 1000) (g10 i11 i12 : AV) :
    loopE (EvF tab) [] L6_0 [2, 7, 8, 10, 11, 12, 13, 14] ⟨[(2, T p), (7, .ptr 3 0), (8, .g (Evs.g es)), (10, g10), (11, i11), (12, i12), (13, .ms 4 1 8 0 0), (14, I 0)], [], [S, P1, P2, T0, .rows 8 1 []]⟩ =
      some (.exit 0, ⟨[(2, T p), (7, .ptr 3 0), (8, .g (Evs.g es)), (10, g10), (11, i11), (12, i12), (13, .ms 4 ((preE es.l p).length + 1) 8 0 (preE es.l p).length), (14, I es.l.length), (49, B false)], [], [S, P1, P2, T0, .rows 8 ((preE es.l p).length + 1) ((preE es.l p).map Ev.c)]⟩) := by
  have hw := loop_runJ (E := EvF tab) (h := []) (c := L6_0) (lv := [2, 7, 8, 10, 11, 12, 13, 14]) (l := es.l) (β := List Ev) (γ := Nat) (fun k r => r.length ≤ k) (fun _ x r => if (fun e : Ev => preP p e.kv.key) x = true then .inl (r ++ [x]) else .inl r)
    (fun k r o => ⟨[(2, T p), (7, .ptr 3 0), (8, .g (Evs.g es)), (10, g10), (11, i11), (12, i12), (13, .ms 4 (r.length + 1) 8 0 r.length), (14, I k)], [], [S, P1, P2, T0, .rows 8 (r.length + 1) (r.map Ev.c)]⟩)
    (fun r o => (.exit 0, ⟨[(2, T p), (7, .ptr 3 0), (8, .g (Evs.g es)), (10, g10), (11, i11), (12, i12), (13, .ms 4 (r.length + 1) 8 0 r.length), (14, I es.l.length), (49, B false)], [], [S, P1, P2, T0, .rows 8 (r.length + 1) (r.map Ev.c)]⟩))
    (fun _ o => (.ret, ⟨[], [], o⟩)) (by simp) (by simp) (fun k x r o hk hx hy hi => ?_) (fun r o _ => by delta L6_0; simp -implicitDefEqProofs) [] [] (by simp)
  · obtain ⟨o', hw⟩ := hw
    rw [runG_filterI] at hw
    simp only [endJ, List.nil_append, List.map_nil, List.length_nil, Int.ofNat_zero, Int.cast_ofNat_Int, Nat.zero_add] at hw
    exact hw
  · have e2 := wrap_succ hk (by omega)
    delta L6_0
    cases es with
    | nil => simp at hk
    | of l =>
      simp only [Sl.l_of] at hk hy hl
      have e3 : List.take r.length (List.map Ev.c r) = List.map Ev.c r := List.take_of_length_le (by simp)
      obtain ⟨xr, xg, k1, k2, k3, k4, k5, k6⟩ := x
      simp only
      unfold preP
      by_cases h1 : p.length ≤ k1.length
      · by_cases h2 : List.take p.length k1 = p
        · simp only [h1, h2, decide_true, beq_self_eq_true, Bool.and_self, if_true]
          refine ⟨by simp; omega, o, ?_⟩
          simp -implicitDefEqProofs [hk, hy, Ev.c, h1, h2, e2, appV, room, Nat.not_succ_le_self, chunk, cutB, bnd, intOfA, show r.length + 1 ≤ 140737488355328 by omega, show (r.length + 1) * 80 ≤ 140737488355328 by omega, e3]
        · have hb : (List.take p.length k1 == p) = false := by simpa using h2
          simp only [h1, hb, decide_true, Bool.and_false, Bool.false_eq_true, if_false]
          refine ⟨by omega, o, ?_⟩
          simp -implicitDefEqProofs [hk, hy, Ev.c, h1, h2, e2, cutB, bnd, intOfA]
      · simp only [h1, decide_false, Bool.false_and, Bool.false_eq_true, if_false]
        refine ⟨by omega, o, ?_⟩
        simp -implicitDefEqProofs [hk, hy, Ev.c, h1, e2]
theorem WatchMore_law (x0 : Store) (x1 : Sl Mut) (x2 : Bs) (w0 : x0.wf) (w1 : (∀ y ∈ x1.l, y.wf) ∧ x1.l.length ≤ 9223372036854775807) (w2 : S64 x2) : EvF tab 6 [A x0.c, .g (Muts.g x1), T x2] [] = some ⟨.g (.bool true), [], []⟩ := by
  have m0 := fun H => few7_ev x0 x2 w0 H
  refine EvF_walk t6 (by simp) ?_
  cases hf : few7 x0 x2
  · rw [hf] at m0
    generalize hc : x0.c = c at m0
    have hcl : ∃ a1 a2 a3 a4, c = [a1, a2, a3, a4] := by subst hc; exact ⟨_, _, _, _, rfl⟩
    obtain ⟨a1, a2, a3, a4, rfl⟩ := hcl
    generalize Muts.g x1 = G1
    simp only [A, List.map_cons, List.map_nil] at m0 ⊢
    simp -implicitDefEqProofs [live07, m0]
  · rw [hf] at m0
    obtain ⟨hok, hsm, hl1, hl2⟩ := few7_ok hf
    have hb1 : 0 ≤ x0.rev := by have := hok.low0; have := hok.lowr; omega
    have hb2 := hok.revM
    by_cases hm : x1.l.length ≤ 30
    · have hmI : ¬ (30 : Int) < (x1.l.length : Int) := by omega
      have m1 := fun H => Apply_ev x0 x1 hsm (by omega) (fun m hm => (w1.1 m hm).1) (by omega) H
      have hkk := apply_SOk hok x1.l
      have hksm : smallS (applyS x0 x1.l) := by have := hkk.bl; have := hkk.ll; unfold smallS; omega
      have hk1 : 0 ≤ (applyS x0 x1.l).rev := by have := hkk.low0; have := hkk.lowr; omega
      have hk2 := hkk.revM
      by_cases hz : applyE x0 x1.l = 0
      · obtain ⟨q1, q2, q3, q4⟩ := ofP_more hok hz x2
        have m2 := fun H => Since_ev (applyS x0 x1.l) x2 (x0.rev + 1) 30 hksm hk1 (by omega) hkk.srt H
        have hs : sinP (applyS x0 x1.l) x2 (x0.rev + 1) 30 = (preE (applyV x0 x1.l).l x2, (applyS x0 x1.l).rev + 1, 0) := by
          unfold sinP
          rw [if_pos (sinE_zero.2 ⟨by omega, by omega, by have := hok.lowr; omega⟩), q1, cut_fits]
          have : (preE (applyV x0 x1.l).l x2).length ≤ (applyV x0 x1.l).l.length := List.length_filter_le ..
          omega
        rw [hs] at m2
        simp only at m2
        have m3 := fun S P1 P2 T0 a b c => more_loop S P1 P2 T0 x2 (applyV x0 x1.l) (by omega) a b c
        have hpl : (preE (applyV x0 x1.l).l x2).length ≤ 1000 := by
          have : (preE (applyV x0 x1.l).l x2).length ≤ (applyV x0 x1.l).l.length := List.length_filter_le ..
          omega
        obtain ⟨r, hr⟩ : ∃ r, preE (applyV x0 x1.l).l x2 = r := ⟨_, rfl⟩
        rw [hr] at m2 m3 hpl
        have m4 := fun S P1 P2 T0 => EventsM_ev (slOf r) r (slOf_l r) (by omega) (H := [S, P1, P2, T0, .rows 8 (r.length + 1) (r.map Ev.c)]) (id := 4) (g := r.length + 1) rfl
        have e1 : IntKind.i64.wrap (x0.rev + 1) = x0.rev + 1 := wrap_i64 (by omega) (by omega)
        have e2 : IntKind.i64.wrap ((applyS x0 x1.l).rev + 1) = (applyS x0 x1.l).rev + 1 := wrap_i64 (by omega) (by omega)
        rw [hz] at m1
        generalize hgg : Evs.g (slOf r) = GG at m2 m4
        obtain ⟨n, hn⟩ : ∃ n, (applyV x0 x1.l).l.length = n := ⟨_, rfl⟩
        rw [hn] at m3
        generalize hge : Evs.g (applyV x0 x1.l) = GE at m1 m3
        generalize applyS x0 x1.l = t at m1 m2 e2
        generalize hgm : Muts.g x1 = GM at m1 ⊢
        have hlen : ∀ h s, lenV h s (.g GM) = some x1.l.length := fun h s => by rw [← hgm]; exact lenV_Sl ..
        obtain ⟨a1, a2, a3, a4⟩ := x0
        obtain ⟨b1, b2, b3, b4⟩ := t
        simp only at e1 e2 m2
        simp only [A, Store.c, List.map_cons, List.map_nil] at m0 m1 m2 ⊢
        generalize KVs.g a3 = H3 at m0 m1 m2 ⊢
        generalize Evs.g a4 = H4 at m0 m1 m2 ⊢
        generalize KVs.g b3 = K3 at m1 m2
        generalize Evs.g b4 = K4 at m1 m2
        simp -implicitDefEqProofs [live07, m0, m1, m2, m3, m4, e1, e2, hlen, hmI]
      · generalize applyE x0 x1.l = e at m1 hz
        generalize Evs.g (applyV x0 x1.l) = GE at m1
        generalize hgm : Muts.g x1 = GM at m1 ⊢
        have hlen : ∀ h s, lenV h s (.g GM) = some x1.l.length := fun h s => by rw [← hgm]; exact lenV_Sl ..
        generalize hc2 : (applyS x0 x1.l).c = c2 at m1
        have hcl2 : ∃ a1 a2 a3 a4, c2 = [a1, a2, a3, a4] := by subst hc2; exact ⟨_, _, _, _, rfl⟩
        obtain ⟨b1, b2, b3, b4, rfl⟩ := hcl2
        generalize hc : x0.c = c at m0 m1
        have hcl : ∃ a1 a2 a3 a4, c = [a1, a2, a3, a4] := by subst hc; exact ⟨_, _, _, _, rfl⟩
        obtain ⟨a1, a2, a3, a4, rfl⟩ := hcl
        simp only [A, List.map_cons, List.map_nil] at m0 m1 ⊢
        simp -implicitDefEqProofs [live07, m0, m1, hz, hlen, hmI]
    · have hmI : (30 : Int) < (x1.l.length : Int) := by omega
      generalize hc : x0.c = c at m0
      have hcl : ∃ a1 a2 a3 a4, c = [a1, a2, a3, a4] := by subst hc; exact ⟨_, _, _, _, rfl⟩
      obtain ⟨a1, a2, a3, a4, rfl⟩ := hcl
      simp only [A, List.map_cons, List.map_nil] at m0 ⊢
      simp -implicitDefEqProofs [live07, m0, hmI]
end Go.Proofs.Ytibnbcljmfigfaa
