/- What becomes of a list by events. -/
import Derived.Test.YtibnbcljmfigfaaSWatch6
namespace Go.Proofs.Ytibnbcljmfigfaa
open Go Go.AM Go.Proofs
set_option maxRecDepth 20000
set_option maxHeartbeats 2000000
set_option linter.unusedSimpArgs false
set_option linter.unusedVariables false
def viewR (s : Sl KV) (es : List Ev) : Sl KV := es.foldl (fun s e => stepR e.rev s e) s
def viewR2 (s : Sl KV) (es : List Ev) : Sl KV := es.foldl (fun s e => stepR2 e.rev s e) s
theorem viewR_l : ∀ (es : List Ev) (s : Sl KV), (viewR s es).l = es.foldl actP s.l
  | [], s => rfl
  | e :: es, s => by
    have := viewR_l es (stepR e.rev s e)
    rw [stepR_l, stepP_le (Int.le_refl _)] at this
    exact this
theorem viewR2_l : ∀ (es : List Ev) (s : Sl KV), (viewR2 s es).l = es.foldl actP s.l
  | [], s => rfl
  | e :: es, s => by
    have := viewR2_l es (stepR2 e.rev s e)
    rw [stepR2_l, stepP_le (Int.le_refl _)] at this
    exact this
theorem View_ev (s : Sl KV) (es : Sl Ev) (hl : s.l.length + es.l.length ≤ 100000) (H : List Blk) : EvF tab 23 [.g (KVs.g s), .g (Evs.g es)] H = some ⟨.g (KVs.g (viewR s es.l)), [], []⟩ := by
  refine EvF_walk t23 (by simp) ?_
  have hw := loop_runJ (E := EvF tab) (h := H) (c := L23_0) (lv := [0, 7, 8, 9]) (l := es.l) (β := Sl KV) (γ := Unit) (fun k b => b.l.length ≤ s.l.length + k) (fun k x b => .inl ((fun s e => stepR e.rev s e) b x))
    (fun k b o => ⟨[(0, .g (KVs.g b)), (7, .g (Evs.g es)), (8, I es.l.length), (9, I k)], [], .rows 6 1 [] :: o⟩)
    (fun b o => (.exit 0, ⟨[(0, .g (KVs.g b)), (7, .g (Evs.g es)), (8, I es.l.length), (9, I es.l.length), (10, B false)], [], .rows 6 1 [] :: o⟩))
    (fun _ o => (.ret, ⟨[], [], o⟩)) (by simp) (by simp) (fun k x b o hk hx hy hi => ?_) (fun r o _ => by delta L23_0; simp -implicitDefEqProofs) s [] (by simp)
  · obtain ⟨o', hw⟩ := hw
    rw [runG_fold] at hw
    rw [show es.l.foldl (fun s e => stepR e.rev s e) s = viewR s es.l from rfl] at hw
    have hlen : (viewR s es.l).l.length ≤ s.l.length + es.l.length := by
      rw [viewR_l]
      generalize s.l = l
      clear hw hl
      generalize es.l = e
      induction e generalizing l with
      | nil => simp
      | cons x e ih =>
        rw [List.foldl_cons]
        have h1 := ih (actP l x)
        have h2 := stepP_len x.rev l x
        rw [stepP_le (Int.le_refl _)] at h2
        simp only [List.length_cons]; omega
    have hc := fun H => Clone_ev (viewR s es.l) (by omega) H
    simp only [endJ, Int.ofNat_zero, Int.cast_ofNat_Int] at hw
    generalize KVs.g (viewR s es.l) = R at hw hc ⊢
    simp -implicitDefEqProofs [hw, hc]
  · have e2 := wrap_succ hk (by omega)
    have h1 := fun H => Fold_ev b (.of [x]) x.rev (by simp only [Sl.l_of, List.length_cons, List.length_nil]; omega) H
    rw [show foldR b (Sl.of [x]).l x.rev = stepR x.rev b x from rfl] at h1
    have h2 : (stepR x.rev b x).l.length ≤ b.l.length + 1 := by rw [stepR_l]; exact stepP_len _ _ _
    refine ⟨by simp only; omega, o ++ [.cells (x.c.map .g)], ?_⟩
    simp only
    generalize hg1 : stepR x.rev b x = b2 at h1
    simp only [Sl.g_of, List.map_cons, List.map_nil, Evs.g] at h1
    generalize KVs.g b = g1 at h1 ⊢
    generalize KVs.g b2 = g2 at h1 ⊢
    delta L23_0
    cases es with
    | nil => simp at hk
    | of l =>
      simp only [Sl.l_of] at hk hy hl
      simp only [Ev.c] at h1
      simp -implicitDefEqProofs [hk, hy, Ev.c, e2, h1, chunk]
theorem View2_ev (s : Sl KV) (es : Sl Ev) (hl : s.l.length + es.l.length ≤ 100000) (H : List Blk) : EvF tab 24 [.g (KVs.g s), .g (Evs.g es)] H = some ⟨.g (KVs.g (viewR2 s es.l)), [], []⟩ := by
  refine EvF_walk t24 (by simp) ?_
  have hw := loop_runJ (E := EvF tab) (h := H) (c := L24_0) (lv := [0, 1, 5]) (l := es.l) (β := Sl KV) (γ := Unit) (fun k b => b.l.length ≤ s.l.length + k) (fun k x b => .inl ((fun s e => stepR2 e.rev s e) b x))
    (fun k b o => ⟨[(0, .g (KVs.g b)), (1, .g (Evs.g es)), (5, I k)], [], [.rows 6 1 []]⟩)
    (fun b o => (.exit 0, ⟨[(0, .g (KVs.g b)), (1, .g (Evs.g es)), (5, I es.l.length), (9, B false)], [], [.rows 6 1 []]⟩))
    (fun _ o => (.ret, ⟨[], [], o⟩)) (by simp) (by simp) (fun k x b o hk hx hy hi => ?_) (fun r o _ => by delta L24_0; simp -implicitDefEqProofs) s [] (by simp)
  · obtain ⟨o', hw⟩ := hw
    rw [runG_fold] at hw
    rw [show es.l.foldl (fun s e => stepR2 e.rev s e) s = viewR2 s es.l from rfl] at hw
    simp only [endJ, Int.ofNat_zero, Int.cast_ofNat_Int] at hw
    generalize KVs.g (viewR2 s es.l) = R at hw ⊢
    simp -implicitDefEqProofs [hw]
  · have e2 := wrap_succ hk (by omega)
    have h1 := fun H => Take2_ev b x.kv.key (by omega) H
    have h3 := fun H => Lay2_ev b x.kv (by omega) H
    have h2 : (stepR2 x.rev b x).l.length ≤ b.l.length + 1 := by rw [stepR2_l]; exact stepP_len _ _ _
    refine ⟨by simp only; omega, o, ?_⟩
    unfold stepR2
    simp only
    rw [if_neg (Int.lt_irrefl x.rev)]
    delta L24_0
    obtain ⟨xr, xg, xk⟩ := x
    obtain ⟨k1, k2, k3, k4, k5, k6⟩ := xk
    simp only [A, KV.c, List.map_cons, List.map_nil] at h1 h3 ⊢
    generalize KVs.g b = g1 at h1 h3 ⊢
    cases es with
    | nil => simp at hk
    | of l =>
      simp only [Sl.l_of] at hk hy hl
      cases xg
      · simp only [Bool.false_eq_true, if_false]
        generalize KVs.g (.of (layP b.l ⟨k1, k2, k3, k4, k5, k6⟩)) = g2 at h3 ⊢
        simp -implicitDefEqProofs [hk, hy, Ev.c, e2, h3]
      · simp only [if_true]
        generalize KVs.g (.of (takeP b.l k1)) = g2 at h1 ⊢
        simp -implicitDefEqProofs [hk, hy, Ev.c, e2, h1]
end Go.Proofs.Ytibnbcljmfigfaa
