/- What there is of a prefix, from a revision on: by the program and by the reference. -/
import Derived.Test.YtibnbcljmfigfaaPWatch
import Derived.Test.YtibnbcljmfigfaaSMvcc8
namespace Go.Proofs.Ytibnbcljmfigfaa
open Go Go.AM Go.Proofs
set_option maxRecDepth 20000
set_option maxHeartbeats 1000000
set_option linter.unusedSimpArgs false
set_option linter.unusedVariables false
theorem begins_ev (k p : Bs) (H : List Blk) : EvF tab 48 [T k, T p] H = some ⟨B (preP p k), [], []⟩ := by
  refine EvF_walk t48 (by simp) ?_
  unfold preP
  by_cases h : p.length ≤ k.length
  · simp -implicitDefEqProofs [h, cutB, bnd, intOfA]
  · simp -implicitDefEqProofs [h]
theorem HasPrefix0_ev (k p : Bs) (H : List Blk) : EvF tab 99 [T k, T p] H = some ⟨B (preP p k), [], []⟩ := by
  refine EvF_walk t99 (by simp) ?_
  unfold preP
  by_cases h : p.length ≤ k.length
  · simp -implicitDefEqProofs [h, cutB, bnd, intOfA]
  · simp -implicitDefEqProofs [h]
theorem HasPrefix_ev (k p : Bs) (H : List Blk) : EvF tab 80 [T k, T p] H = some ⟨B (preP p k), [], []⟩ := by
  refine EvF_walk t80 (by simp) ?_
  simp -implicitDefEqProofs [HasPrefix0_ev]
theorem runG_filterI {α : Type} (p : α → Bool) : ∀ (l : List α) k r, runG (fun _ (x : α) (r : List α) => (if p x = true then .inl (r ++ [x]) else .inl r : List α ⊕ Nat)) k l r = .inl (r ++ l.filter p) := by
  intro l
  induction l with
  | nil => intro k r; simp [runG]
  | cons x l ih =>
    intro k r
    cases h : p x
    · simp only [runG, h, Bool.false_eq_true, if_false, List.filter_cons]
      rw [ih]
    · simp only [runG, h, if_true, List.filter_cons]
      rw [ih]; simp
theorem of_ev (s : Sl Ev) (p : Bs) (rev : Int) (hl : s.l.length ≤ 1000000) (H : List Blk) : EvF tab 47 [.g (Evs.g s), T p, I rev] H = some ⟨.g (Evs.g (slOf (ofP s.l p rev))), [], []⟩ := by
  refine EvF_walk t47 (by simp) ?_
  have hw := loop_runJ (E := EvF tab) (h := H) (c := L47_0) (lv := [1, 2, 7, 10, 11, 12]) (l := s.l) (β := List Ev) (γ := Nat) (fun k r => r.length ≤ k) (fun _ x r => if inP p rev x = true then .inl (r ++ [x]) else .inl r)
    (fun k r o => ⟨[(1, T p), (2, I rev), (7, .ms (H.length + 1) (r.length + 1) 8 0 r.length), (10, .g (Evs.g s)), (11, I s.l.length), (12, I k)], [], .rows 8 1 [] :: .rows 8 (r.length + 1) (r.map Ev.c) :: o⟩)
    (fun r o => (.exit 0, ⟨[(1, T p), (2, I rev), (7, .ms (H.length + 1) (r.length + 1) 8 0 r.length), (10, .g (Evs.g s)), (11, I s.l.length), (12, I s.l.length), (13, B false)], [], .rows 8 1 [] :: .rows 8 (r.length + 1) (r.map Ev.c) :: o⟩))
    (fun _ o => (.ret, ⟨[], [], o⟩)) (by simp) (by simp) (fun k x r o hk hx hy hi => ?_) (fun r o _ => by delta L47_0; simp -implicitDefEqProofs) [] [] (by simp)
  · obtain ⟨o', hw⟩ := hw
    rw [runG_filterI] at hw
    simp only [endJ, List.nil_append, List.map_nil, List.length_nil, Int.ofNat_zero, Int.cast_ofNat_Int, Nat.zero_add] at hw
    rw [show s.l.filter (inP p rev) = ofP s.l p rev from rfl] at hw
    obtain ⟨r, hr⟩ : ∃ r, ofP s.l p rev = r := ⟨_, rfl⟩
    rw [hr] at hw ⊢
    cases r with
    | nil => simp -implicitDefEqProofs [hw, slOf]
    | cons y r =>
      have e1 : List.take r.length (List.map Ev.c r) = List.map Ev.c r := List.take_of_length_le (by simp)
      simp -implicitDefEqProofs [hw, slOf, e1]
  · have e2 := wrap_succ hk (by omega)
    have h1 := fun H => HasPrefix_ev x.kv.key p H
    delta L47_0
    cases s with
    | nil => simp at hk
    | of l =>
      simp only [Sl.l_of] at hk hy hl
      have e3 : List.take r.length (List.map Ev.c r) = List.map Ev.c r := List.take_of_length_le (by simp)
      by_cases hd : rev ≤ x.rev
      · cases hp0 : preP p x.kv.key
        · have hp : inP p rev x = false := by simp [inP, hp0]
          rw [hp0] at h1
          simp only [hp, Bool.false_eq_true, if_false]
          refine ⟨by omega, o ++ [.cells (x.c.map .g)], ?_⟩
          simp -implicitDefEqProofs [hk, hy, Ev.c, hd, e2, h1]
        · have hp : inP p rev x = true := by simp [inP, hp0, hd]
          rw [hp0] at h1
          simp only [hp, if_true]
          refine ⟨by simp; omega, o ++ [.cells (x.c.map .g)], ?_⟩
          simp -implicitDefEqProofs [hk, hy, Ev.c, hd, e2, h1, appV, room, Nat.not_succ_le_self, chunk, show r.length + 1 ≤ 140737488355328 by omega, show (r.length + 1) * 80 ≤ 140737488355328 by omega, e3]
      · have hp : inP p rev x = false := by simp [inP, hd]
        simp only [hp, Bool.false_eq_true, if_false]
        refine ⟨by omega, o ++ [.cells (x.c.map .g)], ?_⟩
        simp -implicitDefEqProofs [hk, hy, Ev.c, hd, e2]
/-! ### By the reference -/
theorem since2_loop (s : Store) (p : Bs) (rev most : Int) (hl : s.log.l.length ≤ 1000000) (p1 p2 p3 : Blk) (H : List Blk) :
    loopE (EvF tab) H L17_0 [1, 2, 3, 4, 11, 12] ⟨[(1, T p), (2, I rev), (3, I most), (4, .ptr H.length 0), (11, .ms (H.length + 2) 1 8 0 0), (12, I 0)], [], [.cells (s.c.map .g), p1, .rows 8 1 []]⟩ =
      some (.exit 0, ⟨[(1, T p), (2, I rev), (3, I most), (4, .ptr H.length 0), (11, .ms (H.length + 2) ((ofP s.log.l p rev).length + 1) 8 0 (ofP s.log.l p rev).length), (12, I s.log.l.length), (39, B false)], [], [.cells (s.c.map .g), p1, .rows 8 ((ofP s.log.l p rev).length + 1) ((ofP s.log.l p rev).map Ev.c)]⟩) := by
  have hw := loop_runJ (E := EvF tab) (h := H) (c := L17_0) (lv := [1, 2, 3, 4, 11, 12]) (l := s.log.l) (β := List Ev) (γ := Nat) (fun k r => r.length ≤ k) (fun _ x r => if inP p rev x = true then .inl (r ++ [x]) else .inl r)
    (fun k r o => ⟨[(1, T p), (2, I rev), (3, I most), (4, .ptr H.length 0), (11, .ms (H.length + 2) (r.length + 1) 8 0 r.length), (12, I k)], [], [.cells (s.c.map .g), p1, .rows 8 (r.length + 1) (r.map Ev.c)]⟩)
    (fun r o => (.exit 0, ⟨[(1, T p), (2, I rev), (3, I most), (4, .ptr H.length 0), (11, .ms (H.length + 2) (r.length + 1) 8 0 r.length), (12, I s.log.l.length), (39, B false)], [], [.cells (s.c.map .g), p1, .rows 8 (r.length + 1) (r.map Ev.c)]⟩))
    (fun _ o => (.ret, ⟨[], [], o⟩)) (by simp) (by simp) (fun k x r o hk hx hy hi => ?_) (fun r o _ => by delta L17_0; simp -implicitDefEqProofs [Store.c]) [] [] (by simp)
  · obtain ⟨o', hw⟩ := hw
    rw [runG_filterI] at hw
    simp only [endJ, List.nil_append, List.map_nil, List.length_nil, Int.ofNat_zero, Int.cast_ofNat_Int, Nat.zero_add] at hw
    exact hw
  · have e2 := wrap_succ hk (by omega)
    have h1 := fun H => begins_ev x.kv.key p H
    obtain ⟨a1, a2, a3, a4⟩ := s
    simp only at hk hl hx hy e2 ⊢
    delta L17_0
    cases a4 with
    | nil => simp at hk
    | of l =>
      simp only [Sl.l_of] at hk hy hl
      have e3 : List.take r.length (List.map Ev.c r) = List.map Ev.c r := List.take_of_length_le (by simp)
      by_cases hd : rev ≤ x.rev
      · cases hp0 : preP p x.kv.key
        · have hp : inP p rev x = false := by simp [inP, hp0]
          rw [hp0] at h1
          simp only [hp, Bool.false_eq_true, if_false]
          refine ⟨by omega, o, ?_⟩
          simp -implicitDefEqProofs [hk, hy, Store.c, Ev.c, hd, e2, h1]
        · have hp : inP p rev x = true := by simp [inP, hp0, hd]
          rw [hp0] at h1
          simp only [hp, if_true]
          refine ⟨by simp; omega, o, ?_⟩
          simp -implicitDefEqProofs [hk, hy, Store.c, Ev.c, hd, e2, h1, appV, room, Nat.not_succ_le_self, chunk, show r.length + 1 ≤ 140737488355328 by omega, show (r.length + 1) * 80 ≤ 140737488355328 by omega, e3]
      · have hp : inP p rev x = false := by simp [inP, hd]
        simp only [hp, Bool.false_eq_true, if_false]
        refine ⟨by omega, o, ?_⟩
        simp -implicitDefEqProofs [hk, hy, Store.c, Ev.c, hd, e2]

theorem runG_tw {α : Type} (p : α → Bool) (F : List α → List Blk → Ex × St) (o : List Blk) : ∀ (l : List α) k r, endJ F F o (runG (fun _ (x : α) (r : List α) => (if p x = true then .inl (r ++ [x]) else .inr r : List α ⊕ List α)) k l r) = F (r ++ l.takeWhile p) o := by
  intro l
  induction l with
  | nil => intro k r; simp [runG, endJ]
  | cons x l ih =>
    intro k r
    cases h : p x
    · simp only [runG, h, Bool.false_eq_true, if_false, List.takeWhile_cons]
      simp [endJ]
    · simp only [runG, h, if_true, List.takeWhile_cons]
      rw [ih]; simp
theorem since2_tw (all : List Ev) (nx : Int) (g : Nat) (hl : all.length ≤ 1000000) (p1 p2 : Blk) (H : List Blk) :
    loopE (EvF tab) H L17_1 [11, 13, 14, 15] ⟨[(11, .ms (H.length + 2) g 8 0 all.length), (13, I nx), (14, .ms (H.length + 3) 1 8 0 0), (15, I 0)], [], [p1, p2, .rows 8 g (all.map Ev.c), .rows 8 1 []]⟩ =
      some (.exit 2, ⟨[(11, .ms (H.length + 2) g 8 0 all.length), (13, I nx), (14, .ms (H.length + 3) ((all.takeWhile fun e => decide (e.rev < nx)).length + 1) 8 0 (all.takeWhile fun e => decide (e.rev < nx)).length), (15, I (all.takeWhile fun e => decide (e.rev < nx)).length), (100, B false)], [], [p1, p2, .rows 8 g (all.map Ev.c), .rows 8 ((all.takeWhile fun e => decide (e.rev < nx)).length + 1) ((all.takeWhile fun e => decide (e.rev < nx)).map Ev.c)]⟩) := by
  have hw := loop_runJ (E := EvF tab) (h := H) (c := L17_1) (lv := [11, 13, 14, 15]) (l := all) (β := List Ev) (γ := List Ev) (fun k r => r.length = k) (fun _ x r => if (fun e : Ev => decide (e.rev < nx)) x = true then .inl (r ++ [x]) else .inr r)
    (fun k r o => ⟨[(11, .ms (H.length + 2) g 8 0 all.length), (13, I nx), (14, .ms (H.length + 3) (r.length + 1) 8 0 r.length), (15, I r.length)], [], [p1, p2, .rows 8 g (all.map Ev.c), .rows 8 (r.length + 1) (r.map Ev.c)]⟩)
    (fun r o => (.exit 2, ⟨[(11, .ms (H.length + 2) g 8 0 all.length), (13, I nx), (14, .ms (H.length + 3) (r.length + 1) 8 0 r.length), (15, I r.length), (100, B false)], [], [p1, p2, .rows 8 g (all.map Ev.c), .rows 8 (r.length + 1) (r.map Ev.c)]⟩))
    (fun r o => (.exit 2, ⟨[(11, .ms (H.length + 2) g 8 0 all.length), (13, I nx), (14, .ms (H.length + 3) (r.length + 1) 8 0 r.length), (15, I r.length), (100, B false)], [], [p1, p2, .rows 8 g (all.map Ev.c), .rows 8 (r.length + 1) (r.map Ev.c)]⟩)) (by simp) (by simp) (fun k x r o hk hx hy hi => ?_) (fun r o hi => by delta L17_1; simp -implicitDefEqProofs [hi]) [] [] (by simp)
  · obtain ⟨o', hw⟩ := hw
    rw [runG_tw] at hw
    simpa only [List.nil_append, List.map_nil, List.length_nil, Int.ofNat_zero, Int.cast_ofNat_Int, Nat.zero_add] using hw
  · have e2 := wrap_succ hk (by omega)
    have e3 : List.take r.length (List.map Ev.c r) = List.map Ev.c r := List.take_of_length_le (by simp)
    subst hi
    delta L17_1
    by_cases hd : x.rev < nx
    · simp only [hd, decide_true, if_true]
      refine ⟨by simp, o, ?_⟩
      simp -implicitDefEqProofs [hk, hy, hx, Ev.c, hd, e2, appV, room, Nat.not_succ_le_self, chunk, show r.length + 1 ≤ 140737488355328 by omega, show (r.length + 1) * 80 ≤ 140737488355328 by omega, e3]
    · simp only [hd, decide_false, Bool.false_eq_true, if_false]
      refine ⟨o, ?_⟩
      simp -implicitDefEqProofs [hk, hy, hx, Ev.c, hd, e2]
end Go.Proofs.Ytibnbcljmfigfaa
