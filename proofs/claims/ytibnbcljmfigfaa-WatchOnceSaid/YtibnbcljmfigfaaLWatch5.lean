/- The law WatchOnce. -/
import Derived.Test.YtibnbcljmfigfaaLWatch2
namespace Go.Proofs.Ytibnbcljmfigfaa
open Go Go.AM Go.Proofs
set_option maxRecDepth 20000
set_option maxHeartbeats 4000000
set_option linter.unusedSimpArgs false
set_option linter.unusedVariables false
def wantB (p : Bs) (n0 nx : Int) (x : Ev) : Bool := decide (n0 ≤ x.rev) && (decide (x.rev < nx) && preP p x.kv.key)
theorem want_eq {s : Store} {p : Bs} {n0 most : Int} {r : List Ev × Int × Int} (h : CutOk s p n0 most r) : r.1 = s.log.l.filter (wantB p n0 r.2.1) := by
  have h1 : (ofP s.log.l p n0).filter (fun x => decide (x.rev < r.2.1)) = r.1 := by
    rw [h.split, List.filter_append]
    have e1 : r.1.filter (fun x => decide (x.rev < r.2.1)) = r.1 := by
      rw [List.filter_eq_self]
      intro x hx
      rw [h.pre] at hx
      exact tw_mem (p := fun e : Ev => decide (e.rev < r.2.1)) hx
    have e2 : (ofP s.log.l p r.2.1).filter (fun x => decide (x.rev < r.2.1)) = [] := by
      rw [List.filter_eq_nil_iff]
      intro x hx
      have := (ofP_mem.1 hx).2.1
      simp; omega
    rw [e1, e2, List.append_nil]
  rw [← h1]
  unfold ofP
  rw [List.filter_filter]
  apply List.filter_congr
  intro x _
  unfold inP wantB
  cases decide (x.rev < r.2.1) <;> cases decide (n0 ≤ x.rev) <;> simp
theorem once_loop (s : Store) (p : Bs) (n0 n1 nx : Int) (hl : s.log.l.length ≤ 1000) (G7 : GV) : ∃ o,
    loopE (EvF tab) [] L5_0 [1, 3, 5, 7, 8, 10, 11] ⟨[(1, T p), (3, .ptr 0 0), (5, .ptr 1 0), (7, .g G7), (8, I nx), (10, .ms 2 1 8 0 0), (11, I 0)], [], [.cells (s.c.map .g), .cells [I n0, I n1], .rows 8 1 []]⟩ =
      some (.exit 0, ⟨[(1, T p), (3, .ptr 0 0), (5, .ptr 1 0), (7, .g G7), (8, I nx), (10, .ms 2 ((s.log.l.filter (wantB p n0 nx)).length + 1) 8 0 (s.log.l.filter (wantB p n0 nx)).length), (11, I s.log.l.length), (68, B false)], [], .cells (s.c.map .g) :: .cells [I n0, I n1] :: .rows 8 ((s.log.l.filter (wantB p n0 nx)).length + 1) ((s.log.l.filter (wantB p n0 nx)).map Ev.c) :: o⟩) := by
  have hw := loop_runJ (E := EvF tab) (h := []) (c := L5_0) (lv := [1, 3, 5, 7, 8, 10, 11]) (l := s.log.l) (β := List Ev) (γ := Nat) (fun k r => r.length ≤ k) (fun _ x r => if wantB p n0 nx x = true then .inl (r ++ [x]) else .inl r)
    (fun k r o => ⟨[(1, T p), (3, .ptr 0 0), (5, .ptr 1 0), (7, .g G7), (8, I nx), (10, .ms 2 (r.length + 1) 8 0 r.length), (11, I k)], [], .cells (s.c.map .g) :: .cells [I n0, I n1] :: .rows 8 (r.length + 1) (r.map Ev.c) :: o⟩)
    (fun r o => (.exit 0, ⟨[(1, T p), (3, .ptr 0 0), (5, .ptr 1 0), (7, .g G7), (8, I nx), (10, .ms 2 (r.length + 1) 8 0 r.length), (11, I s.log.l.length), (68, B false)], [], .cells (s.c.map .g) :: .cells [I n0, I n1] :: .rows 8 (r.length + 1) (r.map Ev.c) :: o⟩))
    (fun _ o => (.ret, ⟨[], [], o⟩)) (by simp) (by simp) (fun k x r o hk hx hy hi => ?_) (fun r o _ => by delta L5_0; simp -implicitDefEqProofs [Store.c]) [] [] (by simp)
  · obtain ⟨o', hw⟩ := hw
    rw [runG_filterI] at hw
    simp only [endJ, List.nil_append, List.map_nil, List.length_nil, Int.ofNat_zero, Int.cast_ofNat_Int, Nat.zero_add] at hw
    exact ⟨o', hw⟩
  · have e2 := wrap_succ hk (by omega)
    obtain ⟨a1, a2, a3, a4⟩ := s
    simp only at hk hl hx hy e2 ⊢
    delta L5_0
    cases a4 with
    | nil => simp at hk
    | of l =>
      simp only [Sl.l_of] at hk hy hl
      have e3 : List.take r.length (List.map Ev.c r) = List.map Ev.c r := List.take_of_length_le (by simp)
      obtain ⟨xr, xg, k1, k2, k3, k4, k5, k6⟩ := x
      unfold wantB preP
      simp only
      generalize KVs.g a3 = G3
      by_cases c1 : n0 ≤ xr
      · by_cases c2 : xr < nx
        · by_cases h1 : p.length ≤ k1.length
          · by_cases h2 : List.take p.length k1 = p
            · simp only [c1, c2, h1, h2, decide_true, beq_self_eq_true, Bool.and_self, if_true]
              refine ⟨by simp; omega, o ++ [.cells [I xr, B xg, T k1, T k2, I k3, I k4, I k5, I k6]], ?_⟩
              simp -implicitDefEqProofs [hk, hy, Store.c, Ev.c, c1, c2, h1, h2, e2, appV, room, Nat.not_succ_le_self, chunk, cutB, bnd, intOfA, show r.length + 1 ≤ 140737488355328 by omega, show (r.length + 1) * 80 ≤ 140737488355328 by omega, e3]
            · have hb : (List.take p.length k1 == p) = false := by simpa using h2
              simp only [c1, c2, h1, hb, decide_true, Bool.and_false, Bool.false_eq_true, if_false]
              refine ⟨by omega, o ++ [.cells [I xr, B xg, T k1, T k2, I k3, I k4, I k5, I k6]], ?_⟩
              simp -implicitDefEqProofs [hk, hy, Store.c, Ev.c, c1, c2, h1, h2, e2, cutB, bnd, intOfA]
          · simp only [c1, c2, h1, decide_false, decide_true, Bool.false_and, Bool.and_false, Bool.false_eq_true, if_false]
            refine ⟨by omega, o ++ [.cells [I xr, B xg, T k1, T k2, I k3, I k4, I k5, I k6]], ?_⟩
            simp -implicitDefEqProofs [hk, hy, Store.c, Ev.c, c1, c2, h1, e2]
        · simp only [c1, c2, decide_false, decide_true, Bool.false_and, Bool.and_false, Bool.false_eq_true, if_false]
          refine ⟨by omega, o ++ [.cells [I xr, B xg, T k1, T k2, I k3, I k4, I k5, I k6]], ?_⟩
          simp -implicitDefEqProofs [hk, hy, Store.c, Ev.c, c1, c2, e2]
      · simp only [c1, decide_false, Bool.false_and, Bool.false_eq_true, if_false]
        refine ⟨by omega, o ++ [.cells [I xr, B xg, T k1, T k2, I k3, I k4, I k5, I k6]], ?_⟩
        simp -implicitDefEqProofs [hk, hy, Store.c, Ev.c, c1, e2]

theorem app_end (g : Nat) (xs ys : List Ev) (hl : xs.length + ys.length ≤ 1000) :
    ∃ (g' : Nat) (W : List Blk → List Nat), ∀ (P : List Blk) (t : List (Nat × AV)), appV [] ⟨t, [], P ++ [.rows 8 g (xs.map Ev.c)]⟩ 8 80 (.ms P.length g 8 0 xs.length) (ys.map Ev.c) =
      some (.ms P.length g' 8 0 (xs ++ ys).length, ⟨t, [], P ++ [.rows 8 g' ((xs ++ ys).map Ev.c)]⟩, W P) := by
  by_cases hy : ys = []
  · subst hy
    refine ⟨g, fun _ => [], fun P t => ?_⟩
    simp -implicitDefEqProofs [appV]
  · refine ⟨g + 1, fun P => [P.length], fun P t => ?_⟩
    have := app_grow (sz := 8) (bytes := 80) (g := g) (xs := xs.map Ev.c) (ys := ys.map Ev.c) (by simpa using hy) (by simp; omega) (by simp; omega) [] t [] P
    simp only [List.length_map, List.length_nil, Nat.zero_add] at this
    rw [List.map_append, List.length_append]; exact this
theorem WatchOnce_law (x0 : Store) (x1 : Bs) (x2 : Int × Int) (w0 : x0.wf) (w1 : S64 x1) (w2 : I64 x2.1 ∧ I64 x2.2) : EvF tab 5 [A x0.c, T x1, A (I2.c x2)] [] = some ⟨.g (.bool true), [], []⟩ := by
  have m0 := fun H => few7_ev x0 x1 w0 H
  refine EvF_walk t5 (by simp) ?_
  obtain ⟨n0, n1⟩ := x2
  cases hf : few7 x0 x1
  · rw [hf] at m0
    generalize hc : x0.c = c at m0
    have hcl : ∃ a1 a2 a3 a4, c = [a1, a2, a3, a4] := by subst hc; exact ⟨_, _, _, _, rfl⟩
    obtain ⟨a1, a2, a3, a4, rfl⟩ := hcl
    simp only [A, List.map_cons, List.map_nil] at m0 ⊢
    simp -implicitDefEqProofs [live07, m0, I2.c]
  rw [hf] at m0
  obtain ⟨hok, hsm, hl1, hl2⟩ := few7_ok hf
  have hb1 : 0 ≤ x0.rev := by have := hok.low0; have := hok.lowr; omega
  have hb2 := hok.revM
  have m1 := fun H => Since_ev x0 x1 n0 n1 hsm hb1 (by omega) hok.srt H
  by_cases hz : (sinP x0 x1 n0 n1).2.2 = 0
  · obtain ⟨q1, q2, q3⟩ := sinP_ok hok hz
    obtain ⟨⟨z1, z2⟩, ⟨z3, z4⟩, z5⟩ := sinE_zero.1 q1
    have hlo := q2.lo
    have hhi := q2.hi
    have hln := q2.len
    have hw := want_eq q2
    have hst := allW_step hok hz
    have m2 := fun H => All_ev hok x1 n0 n1 H
    have hal := allW_len x0 x1 n0 n1
    have hsl := sinP_len x0 x1 n0 n1
    obtain ⟨r, hr⟩ : ∃ r, sinP x0 x1 n0 n1 = r := ⟨_, rfl⟩
    rw [hr] at m1 hz hlo hhi hln hw hst hsl
    obtain ⟨l, nx, e⟩ := r
    simp only at m1 hz hlo hhi hln hw hst hsl
    subst hz
    have m3 := fun H => All_ev hok x1 nx n1 H
    have hal2 := allW_len x0 x1 nx n1
    obtain ⟨o, m4⟩ := once_loop x0 x1 n0 n1 nx (by omega) (Evs.g (slOf l))
    rw [← hw] at m4
    have m5 := fun (S I2 : Blk) (o : List Blk) => EventsM_ev (slOf l) l (slOf_l l) (by omega) (H := S :: I2 :: .rows 8 (l.length + 1) (l.map Ev.c) :: o) (id := 2) (g := l.length + 1) rfl
    have e1 : IntKind.i64.wrap (x0.rev + 1) = x0.rev + 1 := wrap_i64 (by omega) (by omega)
    have e2 : IntKind.i64.wrap (n0 - 1) = n0 - 1 := wrap_i64 (by omega) (by omega)
    have e3 : ¬ nx ≤ n0 - 1 := by omega
    have e4 : ¬ x0.rev + 1 < nx := by omega
    have e5 : ¬ n1 < (l.length : Int) := by omega
    obtain ⟨rest, f2⟩ : ∃ v, allW x0 x1 nx n1 = v := ⟨_, rfl⟩
    obtain ⟨rl, f⟩ := rest
    rw [f2] at m3 hst hal2
    simp only at hst hal2
    rw [hst] at m2 hal
    have hlen : ∀ h s, lenV h s (.g (Evs.g (slOf l))) = some l.length := fun h s => by rw [lenV_Sl, slOf_l]
    have hvw : ∀ h s, viewN h s 8 (.g (Evs.g (slOf l))) = some (l.map Ev.c) := fun h s => by rw [viewN_Sl, slOf_l]
    have hvw2 : ∀ h s, viewN h s 8 (.g (Evs.g (slOf rl))) = some (rl.map Ev.c) := fun h s => by rw [viewN_Sl, slOf_l]
    by_cases hff : f = 0
    · subst hff
      rw [if_pos rfl] at m2 hal
      simp only at m2 hal m3
      simp only [List.length_append] at hal
      obtain ⟨g1, W1, hap1⟩ := app_end 2 [] l (by simp; omega)
      obtain ⟨g2, W2, hap2⟩ := app_end g1 l rl (by omega)
      have hap1' : ∀ S I2 R t, appV [] ⟨t, [], S :: I2 :: R :: (o ++ [.rows 8 2 []])⟩ 8 80 (.ms (o.length + 3) 2 8 0 0) (l.map Ev.c) = some (.ms (o.length + 3) g1 8 0 l.length, ⟨t, [], S :: I2 :: R :: (o ++ [.rows 8 g1 (l.map Ev.c)])⟩, W1 (S :: I2 :: R :: o)) := fun S I2 R t => hap1 (S :: I2 :: R :: o) t
      have hap2' : ∀ S I2 R t, appV [] ⟨t, [], S :: I2 :: R :: (o ++ [.rows 8 g1 (l.map Ev.c)])⟩ 8 80 (.ms (o.length + 3) g1 8 0 l.length) (rl.map Ev.c) = some (.ms (o.length + 3) g2 8 0 (l ++ rl).length, ⟨t, [], S :: I2 :: R :: (o ++ [.rows 8 g2 ((l ++ rl).map Ev.c)])⟩, W2 (S :: I2 :: R :: o)) := fun S I2 R t => hap2 (S :: I2 :: R :: o) t
      have m6 := fun (S I2 R : Blk) => EventsM_ev (slOf (l ++ rl)) (l ++ rl) (slOf_l _) (by simp only [List.length_append]; omega) (H := S :: I2 :: R :: (o ++ [.rows 8 g2 ((l ++ rl).map Ev.c)])) (id := o.length + 3) (g := g2) (by
        rw [show S :: I2 :: R :: (o ++ [Blk.rows 8 g2 ((l ++ rl).map Ev.c)]) = (S :: I2 :: R :: o) ++ [Blk.rows 8 g2 ((l ++ rl).map Ev.c)] from rfl, List.getElem?_append_right (by simp)]
        simp)
      simp only [List.length_append, List.map_append] at hap2' m6
      generalize Evs.g (slOf (l ++ rl)) = G2 at m2 m6
      generalize Evs.g (slOf rl) = G3 at m3 hvw2
      generalize Evs.g (slOf l) = G1 at m1 m4 m5 hlen hvw
      obtain ⟨a1, a2, a3, a4⟩ := x0
      simp only at e1 e4
      simp only [A, Store.c, List.map_cons, List.map_nil] at m0 m1 m2 m3 m4 ⊢
      generalize KVs.g a3 = H3 at m0 m1 m2 m3 m4 ⊢
      generalize Evs.g a4 = H4 at m0 m1 m2 m3 m4 ⊢
      simp -implicitDefEqProofs [live07, m0, m1, m2, m3, m4, m5, m6, I2.c, e1, e2, e3, e4, e5, hlen, hvw, hvw2, hap1', hap2']
    · rw [if_neg hff] at m2 hal
      simp only at m2 m3
      generalize Evs.g (slOf ([] : List Ev)) = G2 at m2
      generalize Evs.g (slOf rl) = G3 at m3 hvw2
      generalize Evs.g (slOf l) = G1 at m1 m4 m5 hlen hvw
      obtain ⟨a1, a2, a3, a4⟩ := x0
      simp only at e1 e4
      simp only [A, Store.c, List.map_cons, List.map_nil] at m0 m1 m2 m3 m4 ⊢
      generalize KVs.g a3 = H3 at m0 m1 m2 m3 m4 ⊢
      generalize Evs.g a4 = H4 at m0 m1 m2 m3 m4 ⊢
      simp -implicitDefEqProofs [live07, m0, m1, m2, m3, m4, m5, I2.c, e1, e2, e3, e4, e5, hlen, hvw, hvw2, hff]
  · have h1 := (allW_err hz).1
    obtain ⟨e, he⟩ : ∃ e, (sinP x0 x1 n0 n1).2.2 = e := ⟨_, rfl⟩
    rw [he] at h1 hz
    rw [h1] at m1
    simp only [slOf, if_true, Sl.g_nil, Evs.g] at m1
    generalize hc : x0.c = c at m0 m1
    have hcl : ∃ a1 a2 a3 a4, c = [a1, a2, a3, a4] := by subst hc; exact ⟨_, _, _, _, rfl⟩
    obtain ⟨a1, a2, a3, a4, rfl⟩ := hcl
    simp only [A, List.map_cons, List.map_nil] at m0 m1 ⊢
    simp -implicitDefEqProofs [live07, m0, m1, I2.c, hz]
end Go.Proofs.Ytibnbcljmfigfaa
