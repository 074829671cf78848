/- The law WatchViews. -/
import Derived.Test.YtibnbcljmfigfaaLWatch2
namespace Go.Proofs.Ytibnbcljmfigfaa
open Go Go.AM Go.Proofs
set_option maxRecDepth 20000
set_option maxHeartbeats 4000000
set_option linter.unusedSimpArgs false
set_option linter.unusedVariables false
theorem views_eq {s : Store} (h : SOk s) {p : Bs} {rev : Int} (hr : rev ≤ s.rev) : (ofP s.log.l p (rev + 1)).foldl actP (fromP (foldP s.base.l s.log.l rev) p) = fromP (foldP s.base.l s.log.l s.rev) p := by
  obtain ⟨a, b, h1, h2, h3, h4, h5⟩ := shr_split h rev
  have hlo := h.log
  rw [h1] at hlo
  obtain ⟨l1, last', l2⟩ := logOk_app hlo
  have e1 : ofP s.log.l p (rev + 1) = b.filter fun e => preP p e.kv.key := by
    rw [h1]
    have : ofP (a ++ b) p (rev + 1) = ofP a p (rev + 1) ++ ofP b p (rev + 1) := List.filter_append ..
    rw [this]
    have e2 : ofP a p (rev + 1) = [] := by
      unfold ofP
      rw [List.filter_eq_nil_iff]
      intro e he
      have := h2 e he
      simp [inP]; omega
    rw [e2, List.nil_append]
    unfold ofP
    apply List.filter_congr
    intro e he
    have := h3 e he
    simp [inP]; omega
  have hsa : Srt (a.foldl actP s.base.l) := by
    have : ∀ (a : List Ev) (l : List KV), Srt l → Srt (a.foldl actP l) := by
      intro a
      induction a with
      | nil => intro l h; exact h
      | cons e a ih => intro l h; exact ih _ (actP_srt e h)
    exact this a _ h.good.srt
  rw [e1, h5, fromP_fold p b _ hsa]
  rw [show foldP s.base.l s.log.l s.rev = nowP s from rfl, h.now, h1, List.foldl_append]
theorem WatchViews_law (x0 : Store) (x1 : Bs) (x2 : Int) (w0 : x0.wf) (w1 : S64 x1) (w2 : I64 x2) : EvF tab 8 [A x0.c, T x1, I x2] [] = some ⟨.g (.bool true), [], []⟩ := by
  have m0 := fun H => few7_ev x0 x1 w0 H
  refine EvF_walk t8 (by simp) ?_
  cases hf : few7 x0 x1
  · rw [hf] at m0
    generalize hc : x0.c = c at m0
    have hcl : ∃ a1 a2 a3 a4, c = [a1, a2, a3, a4] := by subst hc; exact ⟨_, _, _, _, rfl⟩
    obtain ⟨a1, a2, a3, a4, rfl⟩ := hcl
    simp only [A, List.map_cons, List.map_nil] at m0 ⊢
    simp -implicitDefEqProofs [live07, m0]
  rw [hf] at m0
  obtain ⟨hok, hsm, hl1, hl2⟩ := few7_ok hf
  have hb1 : 0 ≤ x0.rev := by have := hok.low0; have := hok.lowr; omega
  have hb2 := hok.revM
  by_cases c1 : x2 < 1
  · obtain ⟨a1, a2, a3, a4⟩ := x0
    simp only [A, Store.c, List.map_cons, List.map_nil] at m0 ⊢
    generalize KVs.g a3 = H3 at m0 ⊢
    generalize Evs.g a4 = H4 at m0 ⊢
    simp -implicitDefEqProofs [live07, m0, c1]
  by_cases c2 : x0.rev < x2
  · obtain ⟨a1, a2, a3, a4⟩ := x0
    simp only at c2
    simp only [A, Store.c, List.map_cons, List.map_nil] at m0 ⊢
    generalize KVs.g a3 = H3 at m0 ⊢
    generalize Evs.g a4 = H4 at m0 ⊢
    simp -implicitDefEqProofs [live07, m0, c1, c2]
  have e1 : IntKind.i64.wrap (x2 + 1) = x2 + 1 := wrap_i64 (by omega) (by omega)
  have m1 := fun H => At_ev x0 x2 hsm H
  have m2 := fun H => All_ev hok x1 (x2 + 1) 30 H
  by_cases c3 : x2 < x0.low
  · have hE : atE x0 x2 = 9 := by unfold atE; rw [if_neg (by omega), if_neg (by omega), if_pos c3]
    have hA : allW x0 x1 (x2 + 1) 30 = ([], 9) := by
      have : sinE x0 (x2 + 1) 30 = 9 := by unfold sinE; rw [if_neg (by omega), if_neg (by omega), if_pos (by omega)]
      unfold allW; rw [this, if_neg (by omega)]
    rw [hE] at m1
    rw [hA] at m2
    generalize KVs.g (atR x0 x2) = R at m1
    generalize Evs.g (slOf ([], (9 : Int)).1) = R2 at m2
    obtain ⟨a1, a2, a3, a4⟩ := x0
    simp only at c2 c3
    simp only [A, Store.c, List.map_cons, List.map_nil] at m0 m1 m2 ⊢
    generalize KVs.g a3 = H3 at m0 m1 m2 ⊢
    generalize Evs.g a4 = H4 at m0 m1 m2 ⊢
    simp -implicitDefEqProofs [live07, m0, m1, m2, c1, c2, e1]
  have hE : atE x0 x2 = 0 := by unfold atE; rw [if_neg (by omega), if_neg (by omega), if_neg c3]
  have hA0 : sinE x0 (x2 + 1) 30 = 0 := sinE_zero.2 ⟨by omega, by omega, by omega⟩
  have hR : (atR x0 x2).l = foldP x0.base.l x0.log.l x2 := by unfold atR atV; rw [if_pos hE, if_neg (by omega), foldR_l]
  rw [hE] at m1
  cases hb : bigP (ofP x0.log.l x1 (x2 + 1)) 30
  · have hA : allW x0 x1 (x2 + 1) 30 = (ofP x0.log.l x1 (x2 + 1), 0) := by unfold allW; rw [if_pos hA0, hb]; rfl
    rw [hA] at m2
    have hlf := foldP_len x2 x0.log.l x0.base.l
    have hln := foldP_len x0.rev x0.log.l x0.base.l
    have hof := ofP_len x0.log.l x1 (x2 + 1)
    have hRl := congrArg List.length hR
    have hfl : (fromP (atR x0 x2).l x1).length ≤ (atR x0 x2).l.length := List.length_filter_le ..
    have m3 := fun H => From_ev (atR x0 x2) x1 (by rw [hR]; omega) H
    have m4 := fun H => View_ev (slOf (fromP (atR x0 x2).l x1)) (slOf (ofP x0.log.l x1 (x2 + 1))) (by rw [slOf_l, slOf_l]; omega) H
    have m5 := fun H => Now_ev x0 hsm H
    have m6 := fun H => From_ev (foldR x0.base x0.log.l x0.rev) x1 (by rw [foldR_l]; omega) H
    have hfl2 : (fromP (foldR x0.base x0.log.l x0.rev).l x1).length ≤ (foldR x0.base x0.log.l x0.rev).l.length := List.length_filter_le ..
    have m7 := fun H => KVs_ev (viewR (slOf (fromP (atR x0 x2).l x1)) (slOf (ofP x0.log.l x1 (x2 + 1))).l) (slOf (fromP (foldR x0.base x0.log.l x0.rev).l x1)) (by
      rw [viewR_l, slOf_l, slOf_l, slOf_l, hR, foldR_l]
      exact views_eq hok (by omega)) (by rw [slOf_l]; rw [foldR_l] at hfl2 ⊢; omega) H
    simp only at m2
    generalize KVs.g (viewR (slOf (fromP (atR x0 x2).l x1)) (slOf (ofP x0.log.l x1 (x2 + 1))).l) = V1 at m4 m7
    generalize KVs.g (slOf (fromP (foldR x0.base x0.log.l x0.rev).l x1)) = V2 at m6 m7
    generalize KVs.g (slOf (fromP (atR x0 x2).l x1)) = V3 at m3 m4
    generalize KVs.g (foldR x0.base x0.log.l x0.rev) = V4 at m5 m6
    generalize KVs.g (atR x0 x2) = V5 at m1 m3
    generalize Evs.g (slOf (ofP x0.log.l x1 (x2 + 1))) = V6 at m2 m4
    obtain ⟨a1, a2, a3, a4⟩ := x0
    simp only at c2
    simp only [A, Store.c, List.map_cons, List.map_nil] at m0 m1 m2 m5 ⊢
    generalize KVs.g a3 = H3 at m0 m1 m2 m5 ⊢
    generalize Evs.g a4 = H4 at m0 m1 m2 m5 ⊢
    simp -implicitDefEqProofs [live07, m0, m1, m2, m3, m4, m5, m6, m7, c1, c2, e1]
  · have hA : allW x0 x1 (x2 + 1) 30 = ([], 4) := by unfold allW; rw [if_pos hA0, hb]; rfl
    rw [hA] at m2
    generalize KVs.g (atR x0 x2) = R at m1
    generalize Evs.g (slOf ([], (4 : Int)).1) = R2 at m2
    obtain ⟨a1, a2, a3, a4⟩ := x0
    simp only at c2 c3
    simp only [A, Store.c, List.map_cons, List.map_nil] at m0 m1 m2 ⊢
    generalize KVs.g a3 = H3 at m0 m1 m2 ⊢
    generalize Evs.g a4 = H4 at m0 m1 m2 ⊢
    simp -implicitDefEqProofs [live07, m0, m1, m2, c1, c2, e1]
end Go.Proofs.Ytibnbcljmfigfaa
