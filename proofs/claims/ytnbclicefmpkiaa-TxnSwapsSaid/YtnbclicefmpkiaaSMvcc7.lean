/- A store that is shrunk, by the reference. -/
import Derived.Test.YtnbclicefmpkiaaSMvcc6
namespace Go.Proofs.Ytnbclicefmpkiaa
open Go Go.AM Go.Proofs
set_option maxRecDepth 20000
set_option maxHeartbeats 4000000
set_option linter.unusedSimpArgs false
set_option linter.unusedVariables false
def slotV (H : List Blk) (r : List Ev) : AV := if r = [] then .g .nsl else .ms (H.length + 5) (r.length + 1) 8 0 r.length
def rowV (r : List Ev) : List Blk := if r = [] then [] else [.rows 8 (r.length + 1) (r.map Ev.c)]
def keepF (to : Int) (r : List Ev) (x : Ev) : List Ev := if x.rev ≤ to then r else r ++ [x]
theorem keepF_fin (to : Int) : ∀ (l r : List Ev), l.foldl (keepF to) r = r ++ keepL to l
  | [], r => by simp [keepL]
  | x :: l, r => by
    rw [List.foldl_cons, keepF_fin to l]
    unfold keepF keepL
    by_cases h : x.rev ≤ to <;> simp [h]
theorem shr2_loop (srev slow to : Int) (G1 G2 : GV) (log : Sl Ev) (c3 : Blk) (hl : log.l.length ≤ 1000000) (H : List Blk) :
    loopE (EvF tab) H L48_0 [1, 2, 4, 6, 7] ⟨[(1, I to), (2, .ptr H.length 0), (4, .ptr (H.length + 3) 0), (6, .ptr (H.length + 4) 0), (7, I 0)], [], [.cells [I srev, I slow, .g G1, .g (Evs.g log)], .rows 6 1 [], .rows 8 1 [], c3, .cells [I srev, I to, .g G2, .g .nsl]]⟩ =
      some (.exit 0, ⟨[(1, I to), (2, .ptr H.length 0), (4, .ptr (H.length + 3) 0), (6, .ptr (H.length + 4) 0), (7, I log.l.length), (36, B false)], [], [.cells [I srev, I slow, .g G1, .g (Evs.g log)], .rows 6 1 [], .rows 8 1 [], c3, .cells [I srev, I to, .g G2, slotV H (keepL to log.l)]] ++ rowV (keepL to log.l)⟩) := by
  have hw := loop_runJ (E := EvF tab) (h := H) (c := L48_0) (lv := [1, 2, 4, 6, 7]) (l := log.l) (β := List Ev) (γ := Unit) (fun k r => r.length ≤ k) (fun k x r => .inl (keepF to r x))
    (fun k r o => ⟨[(1, I to), (2, .ptr H.length 0), (4, .ptr (H.length + 3) 0), (6, .ptr (H.length + 4) 0), (7, I k)], [], [.cells [I srev, I slow, .g G1, .g (Evs.g log)], .rows 6 1 [], .rows 8 1 [], c3, .cells [I srev, I to, .g G2, slotV H r]] ++ rowV r⟩)
    (fun r o => (.exit 0, ⟨[(1, I to), (2, .ptr H.length 0), (4, .ptr (H.length + 3) 0), (6, .ptr (H.length + 4) 0), (7, I log.l.length), (36, B false)], [], [.cells [I srev, I slow, .g G1, .g (Evs.g log)], .rows 6 1 [], .rows 8 1 [], c3, .cells [I srev, I to, .g G2, slotV H r]] ++ rowV r⟩))
    (fun _ o => (.ret, ⟨[], [], o⟩)) (by simp) (by simp) (fun k x r o hk hx hy hi => ?_) (fun r o _ => by delta L48_0; cases log <;> simp -implicitDefEqProofs) [] [] (by simp)
  · obtain ⟨o', hw⟩ := hw
    rw [runG_fold, keepF_fin, List.nil_append] at hw
    exact hw
  · have e2 := wrap_succ hk (by omega)
    delta L48_0
    cases log with
    | nil => simp at hk
    | of l =>
      simp only [Sl.l_of] at hk hx hy hl ⊢
      obtain ⟨er, eg, ek⟩ := x
      unfold keepF
      simp only
      by_cases c1 : er ≤ to
      · refine ⟨by simp [c1]; omega, o, ?_⟩
        simp -implicitDefEqProofs [hk, hy, Ev.c, c1, e2, show ¬ to < er by omega]
      · have c2 : to < er := by omega
        refine ⟨by simp [c1]; omega, o, ?_⟩
        cases r with
        | nil => simp -implicitDefEqProofs [hk, hy, Ev.c, c1, c2, e2, slotV, rowV, chunk, appV, room]
        | cons y r =>
          simp only [List.length_cons] at hi
          simp -implicitDefEqProofs [hk, hy, Ev.c, c1, c2, e2, slotV, rowV, chunk, appV, room, Nat.not_succ_le_self, show r.length + 1 + 1 ≤ 140737488355328 by omega, show (r.length + 1 + 1) * 80 ≤ 140737488355328 by omega]
          exact List.take_of_length_le (by simp)
def shrS2 (s : Store) (to : Int) : Store := if shrE s to = 0 then ⟨s.rev, to, foldR2 s.base s.log.l to, slOf (keepL to s.log.l)⟩ else s
theorem Shrink2_ev (s : Store) (to : Int) (hs : smallS s) (H : List Blk) :
    EvF tab 48 [A s.c, I to] H = some ⟨.tup [A (shrS2 s to).c, I (shrE s to)], [], []⟩ := by
  have hs' := hs
  unfold smallS at hs'
  have m1 := fun H => Fold2_ev s.base s.log to (by omega) H
  refine EvF_walk t48 (by simp) ?_
  unfold shrS2 shrE
  obtain ⟨srev, slow, sbase, slog⟩ := s
  simp only at hs' m1 ⊢
  generalize hF : foldR2 sbase slog.l to = F at m1 ⊢
  generalize hg1 : KVs.g sbase = G1 at m1
  generalize hg2 : KVs.g F = G2 at m1
  by_cases c1 : to < 0
  · simp -implicitDefEqProofs [A, Store.c, hg1, c1]
  · by_cases c2 : srev < to
    · simp -implicitDefEqProofs [A, Store.c, hg1, c1, c2]
    · by_cases c3 : to < slow
      · simp -implicitDefEqProofs [A, Store.c, hg1, c1, c2, c3]
      · have hw := fun p => shr2_loop srev slow to G1 G2 slog p (by omega) H
        generalize keepL to slog.l = r at hw ⊢
        unfold slotV rowV at hw
        unfold slOf
        cases r with
        | nil =>
          simp only [if_true, List.append_nil] at hw
          simp -implicitDefEqProofs [A, Store.c, hg1, hg2, c1, c2, c3, m1, pends, List.append_assoc, List.cons_append, List.nil_append, hw]
        | cons x r =>
          simp only [reduceCtorEq, if_false, List.cons_append, List.nil_append] at hw
          have e5 : List.take (r.length + 1) (x.c :: List.map Ev.c r) = x.c :: List.map Ev.c r := List.take_of_length_le (by simp)
          simp -implicitDefEqProofs [A, Store.c, hg1, hg2, c1, c2, c3, m1, pends, List.append_assoc, List.cons_append, List.nil_append, hw, e5]
end Go.Proofs.Ytnbclicefmpkiaa
