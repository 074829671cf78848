/- What is asked and done, by the program and by the reference. -/
import Derived.Test.YtnbclicefmpkiaaSTxn1
import Derived.Test.YtnbclicefmpkiaaPMvcc3
namespace Go.Proofs.Ytnbclicefmpkiaa
open Go Go.AM Go.Proofs
set_option maxRecDepth 20000
set_option maxHeartbeats 4000000
set_option linter.unusedSimpArgs false
set_option linter.unusedVariables false
theorem holds_ask {l : List KV} {c : Cmp} : (askOk c && holdsP l c) = holdsP l c := by
  cases h : holdsP l c
  · rw [Bool.and_false]
  · rw [Bool.and_true]
    unfold holdsP numP strP at h
    unfold askOk
    obtain ⟨k, w, hw, n, v⟩ := c
    simp only at h ⊢
    by_cases w1 : w = 1
    · subst w1
      simp only [if_true, Bool.or_eq_true, Bool.and_eq_true, decide_eq_true_eq] at h ⊢
      omega
    · by_cases w2 : w = 2
      · subst w2
        simp only [w1, if_false, if_true, Bool.or_eq_true, Bool.and_eq_true, decide_eq_true_eq] at h ⊢
        omega
      · by_cases w3 : w = 3
        · subst w3
          simp only [w1, w2, if_false, if_true, Bool.or_eq_true, Bool.and_eq_true, decide_eq_true_eq] at h ⊢
          omega
        · by_cases w4 : w = 4
          · subst w4
            simp only [w1, w2, w3, if_false, if_true, Bool.or_eq_true, Bool.and_eq_true, decide_eq_true_eq] at h ⊢
            omega
          · simp only [w1, w2, w3, w4, if_false] at h; cases h
theorem HoldsK_ev (s : Sl KV) (c : Cmp) (hl : s.l.length ≤ 9223372036854775807) (H : List Blk) : EvF tab 17 [.g (KVs.g s), A c.c] H = some ⟨B (holdsP s.l c), [], []⟩ := by
  rw [Holds_ev s c hl H, holds_ask]
theorem All_ev (s : Sl KV) (cs : Sl Cmp) (hl : s.l.length ≤ 9223372036854775807) (hc : cs.l.length ≤ 9223372036854775807) (H : List Blk) : EvF tab 19 [.g (KVs.g s), .g (Cmps.g cs)] H = some ⟨B (allP (holdsP s.l) cs.l), [], []⟩ := by
  have hq := loop_runJ (E := EvF tab) (h := H) (c := L19_0) (lv := [0, 7, 8, 9]) (l := cs.l) (β := Unit) (γ := Unit) (fun _ _ => True) (fun _ c _ => if holdsP s.l c = true then .inl () else .inr ())
    (fun k _ o => ⟨[(0, .g (KVs.g s)), (7, .g (Cmps.g cs)), (8, I cs.l.length), (9, I k)], [], o⟩)
    (fun _ o => (.exit 0, ⟨[(0, .g (KVs.g s)), (7, .g (Cmps.g cs)), (8, I cs.l.length), (9, I cs.l.length), (10, B false)], [], o⟩))
    (fun _ o => (.ret, ⟨[(4, B false)], [], o⟩)) (by simp) (by simp) (fun k c o' o hk hx hy _ => ?_) (fun _ o _ => by delta L19_0; cases cs <;> simp -implicitDefEqProofs) () [] trivial
  · obtain ⟨o', hq⟩ := hq
    have key : ∀ (l : List Cmp) k, runG (γ := Unit) (fun _ (c : Cmp) (_ : Unit) => if holdsP s.l c = true then .inl () else .inr ()) k l () = if allP (holdsP s.l) l = true then .inl () else .inr () := by
      intro l
      induction l with
      | nil => intro k; rfl
      | cons c l ih =>
        intro k
        rw [allP_cons]
        cases hh : holdsP s.l c
        · simp [runG, hh]
        · simp only [runG, hh, if_true, Bool.true_and]; exact ih _
    rw [key] at hq
    have e0 : ((0 : Nat) : Int) = 0 := rfl
    simp only [e0] at hq
    refine EvF_walk t19 (by simp) ?_
    cases ha : allP (holdsP s.l) cs.l <;> rw [ha] at hq <;> simp only [Bool.false_eq_true, if_true, if_false, endJ] at hq <;> cases cs <;> simp only [Cmps.g, Sl.g_nil, Sl.g_of, Sl.l_nil, Sl.l_of, List.length_nil, e0] at hq <;> simp -implicitDefEqProofs [hq]
  · have e2 := wrap_succ hk (by omega)
    have h1 := fun H => HoldsK_ev s c hl H
    delta L19_0
    cases cs with
    | nil => simp at hk
    | of l =>
      simp only [Sl.l_of] at hk hx hy hc ⊢
      generalize holdsP s.l c = b at h1 ⊢
      obtain ⟨c1, c2, c3, c4, c5⟩ := c
      simp only [A, Cmp.c, List.map_cons, List.map_nil] at h1
      cases b
      · simp only [Bool.false_eq_true, if_false]
        refine ⟨o ++ [.cells [T c1, I c2, I c3, I c4, T c5]], ?_⟩
        simp -implicitDefEqProofs [hk, hy, Cmp.c, h1]
      · simp only [if_true]
        refine ⟨trivial, o ++ [.cells [T c1, I c2, I c3, I c4, T c5]], ?_⟩
        simp -implicitDefEqProofs [hk, hy, Cmp.c, h1, e2]
theorem All2_ev (s : Sl KV) (cs : Sl Cmp) (hl : s.l.length ≤ 9223372036854775807) (hc : cs.l.length ≤ 9223372036854775807) (H : List Blk) : EvF tab 20 [.g (KVs.g s), .g (Cmps.g cs)] H = some ⟨B (allP (holdsP s.l) cs.l), [], []⟩ := by
  have hq : loopE (EvF tab) H L20_0 [0, 1, 5] ⟨[(0, .g (KVs.g s)), (1, .g (Cmps.g cs)), (5, I 0)], [], []⟩ = some (if allP (holdsP s.l) cs.l = true then (.exit 0, ⟨[(0, .g (KVs.g s)), (1, .g (Cmps.g cs)), (5, I cs.l.length), (9, B false)], [], []⟩) else (.ret, ⟨[(4, B false)], [], []⟩)) := by
    refine loop_all0 (l := cs.l) (holdsP s.l) (fun k => ⟨[(0, .g (KVs.g s)), (1, .g (Cmps.g cs)), (5, I k)], [], []⟩) _ _ (by simp) (by simp) (fun k c hk hx hy => ?_) (by delta L20_0; cases cs <;> simp -implicitDefEqProofs)
    have e2 := wrap_succ hk (by omega)
    have h1 := fun H => Holds2_ev s c hl H
    delta L20_0
    cases cs with
    | nil => simp at hk
    | of l =>
      simp only [Sl.l_of] at hk hy
      generalize holdsP s.l c = b at h1 ⊢
      obtain ⟨c1, c2, c3, c4, c5⟩ := c
      simp only [A, Cmp.c, List.map_cons, List.map_nil] at h1
      cases b <;> simp -implicitDefEqProofs [hk, hy, Cmp.c, h1, e2]
  refine EvF_walk t20 (by simp) ?_
  cases ha : allP (holdsP s.l) cs.l <;> rw [ha] at hq <;> simp only [Bool.false_eq_true, if_true, if_false] at hq <;> cases cs <;> simp only [Cmps.g, Sl.g_nil, Sl.g_of, Sl.l_nil, Sl.l_of, List.length_nil] at hq <;> simp -implicitDefEqProofs [hq]
end Go.Proofs.Ytnbclicefmpkiaa
