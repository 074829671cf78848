/- Which things may be done: each key once. -/
import Derived.Test.YtibnbcljmfigfaaSMvcc2
namespace Go.Proofs.Ytibnbcljmfigfaa
open Go Go.AM Go.Proofs
set_option maxRecDepth 20000
set_option maxHeartbeats 2000000
set_option linter.unusedSimpArgs false
set_option linter.unusedVariables false
def mutOkM (m : Mut) : Bool := keyOk m.key && !(decide (20 < m.value.length) || (decide (m.lease < 0) || decide (1099511627775 < m.lease)))
def mayMG : List Bs → List Mut → Bool
  | _, [] => true
  | met, m :: l => (!(met.contains m.key) && mutOkM m) && mayMG (met ++ [m.key]) l
def mayM (l : List Mut) : Bool := mayMG [] l && decide (l.length ≤ 30)
def metE (met : List Bs) : List (GV × Option GV) := met.map fun k => (GV.str k, none)
theorem find_met (k : Bs) : ∀ met : List Bs, (met.contains k = false ∧ findM .s (.str k) (metE met) = some none) ∨ ∃ j, met.contains k = true ∧ findM .s (.str k) (metE met) = some (some j) ∧ (metE met)[j]?.map (·.2) = some none
  | [] => .inl ⟨rfl, rfl⟩
  | a :: met => by
    by_cases h : k = a
    · subst h
      exact .inr ⟨0, by simp, by simp [metE, findM, eqG], by simp [metE]⟩
    · have hk : (k == a) = false := by simpa using h
      rcases find_met k met with ⟨h1, h2⟩ | ⟨j, h1, h2, h3⟩
      · refine .inl ⟨by simp only [List.contains_cons, hk, h1, Bool.or_self], ?_⟩
        simp only [metE, List.map_cons, findM, eqG, hk]
        rw [show met.map (fun k => (GV.str k, (none : Option GV))) = metE met from rfl, h2]
      · refine .inr ⟨j + 1, by simp only [List.contains_cons, hk, h1, Bool.or_true], ?_, by simpa [metE] using h3⟩
        simp only [metE, List.map_cons, findM, eqG, hk]
        rw [show met.map (fun k => (GV.str k, (none : Option GV))) = metE met from rfl, h2]
theorem get_met (k : Bs) (met : List Bs) : mgetV true .s none (.str k) (metE met) = some (.tup [.agg [], B (met.contains k)]) := by
  unfold mgetV
  rcases find_met k met with ⟨h1, h2⟩ | ⟨j, h1, h2, h3⟩
  · rw [h1, h2]; rfl
  · rw [h1, h2]; simp only [h3]; rfl
theorem set_met (k : Bs) (met : List Bs) (h : met.contains k = false) : msetV .s (.str k) none (metE met) = some (metE (met ++ [k])) := by
  unfold msetV
  rcases find_met k met with ⟨h1, h2⟩ | ⟨j, h1, h2, h3⟩
  · rw [h2]; simp [metE]
  · rw [h1] at h; cases h
theorem runG_mayM : ∀ (l : List Mut) k (met : List Bs), (∃ b, runG (fun _ (m : Mut) (met : List Bs) => (if (!(met.contains m.key) && mutOkM m) = true then .inl (met ++ [m.key]) else .inr 0 : List Bs ⊕ Nat)) k l met = .inl b ∧ mayMG met l = true) ∨
    (runG (fun _ (m : Mut) (met : List Bs) => (if (!(met.contains m.key) && mutOkM m) = true then .inl (met ++ [m.key]) else .inr 0 : List Bs ⊕ Nat)) k l met = .inr 0 ∧ mayMG met l = false) := by
  intro l
  induction l with
  | nil => intro k met; exact .inl ⟨met, rfl, rfl⟩
  | cons m l ih =>
    intro k met
    cases h : (!(met.contains m.key) && mutOkM m)
    · right; simp only [runG, mayMG, h, Bool.false_eq_true, if_false, Bool.false_and, and_self]
    · simp only [runG, mayMG, h, if_true, Bool.true_and]
      exact ih _ _
theorem mayM_ev (s : Sl Mut) (hk : ∀ m ∈ s.l, m.key.length ≤ 9223372036854775807) (hl : s.l.length ≤ 9223372036854775807) (H : List Blk) : EvF tab 53 [.g (Muts.g s)] H = some ⟨B (mayM s.l), [], []⟩ := by
  have hq := loop_runJ (E := EvF tab) (h := H) (c := L53_0) (lv := [0, 3, 9, 10, 11]) (l := s.l) (β := List Bs) (γ := Nat) (fun _ _ => True) (fun _ m met => if (!(met.contains m.key) && mutOkM m) = true then .inl (met ++ [m.key]) else .inr 0)
    (fun k met o => ⟨[(0, .g (Muts.g s)), (3, .mp H.length), (9, .g (Muts.g s)), (10, I s.l.length), (11, I k)], [], .map (metE met) :: o⟩)
    (fun met o => (.exit 0, ⟨[(0, .g (Muts.g s)), (3, .mp H.length), (9, .g (Muts.g s)), (10, I s.l.length), (11, I s.l.length), (12, B false)], [], .map (metE met) :: o⟩))
    (fun _ o => (.ret, ⟨[(2, B false)], [], o⟩)) (by simp) (by simp) (fun k m met o hk2 hx hy hi => ?_) (fun met o _ => by delta L53_0; cases s <;> simp -implicitDefEqProofs) [] [] trivial
  · obtain ⟨o', hq⟩ := hq
    simp only [Int.ofNat_zero, Int.cast_ofNat_Int] at hq
    refine EvF_walk t53 (by simp) ?_
    unfold mayM
    have e0 : metE [] = [] := rfl
    rw [e0] at hq
    by_cases h30 : s.l.length ≤ 30
    · rcases runG_mayM s.l 0 [] with ⟨b, k1, k2⟩ | ⟨k1, k2⟩ <;> rw [k1] at hq <;> simp only [endJ] at hq <;> simp -implicitDefEqProofs [hq, k2, h30, show (s.l.length : Int) ≤ 30 by omega]
    · rcases runG_mayM s.l 0 [] with ⟨b, k1, k2⟩ | ⟨k1, k2⟩ <;> rw [k1] at hq <;> simp only [endJ] at hq <;> simp -implicitDefEqProofs [hq, k2, h30, show ¬ (s.l.length : Int) ≤ 30 by omega]
  · have e2 := wrap_succ hk2 (by omega)
    have h1 := fun H => Check_ev m.key (hk m (List.mem_of_getElem? hx)) H
    have g1 := get_met m.key met
    have s1 := set_met m.key met
    delta L53_0
    cases s with
    | nil => simp at hk2
    | of l =>
      simp only [Sl.l_of] at hk2 hx hy hl ⊢
      unfold mutOkM
      obtain ⟨mg, mk, mv, ml⟩ := m
      simp only at h1 g1 s1 ⊢
      cases hc : met.contains mk
      · have s1 := s1 hc
        rw [hc] at g1
        generalize keyOk mk = b1 at h1 ⊢
        cases b1
        · simp only [Bool.and_false, Bool.false_and, Bool.false_eq_true, if_false]
          refine ⟨.map (metE met) :: (o ++ [.cells [B mg, T mk, T mv, I ml], .cells []]), ?_⟩
          simp -implicitDefEqProofs [hk2, hy, Mut.c, zres, g1, h1]
        · by_cases d1 : 20 < mv.length
          · simp only [d1, decide_true, Bool.true_or, Bool.not_true, Bool.and_false, Bool.false_eq_true, if_false]
            refine ⟨.map (metE met) :: (o ++ [.cells [B mg, T mk, T mv, I ml], .cells []]), ?_⟩
            simp -implicitDefEqProofs [hk2, hy, Mut.c, zres, g1, h1, show (20 : Int) < (mv.length : Int) by omega]
          · have d1' : ¬ (20 : Int) < (mv.length : Int) := by omega
            by_cases d2 : ml < 0
            · simp only [d1, d2, decide_true, decide_false, Bool.true_or, Bool.false_or, Bool.not_true, Bool.and_false, Bool.false_eq_true, if_false]
              refine ⟨.map (metE met) :: (o ++ [.cells [B mg, T mk, T mv, I ml], .cells []]), ?_⟩
              simp -implicitDefEqProofs [hk2, hy, Mut.c, zres, g1, h1, d1', d2]
            · by_cases d3 : 1099511627775 < ml
              · simp only [d1, d2, d3, decide_true, decide_false, Bool.true_or, Bool.false_or, Bool.not_true, Bool.and_false, Bool.false_eq_true, if_false]
                refine ⟨.map (metE met) :: (o ++ [.cells [B mg, T mk, T mv, I ml], .cells []]), ?_⟩
                simp -implicitDefEqProofs [hk2, hy, Mut.c, zres, g1, h1, d1', d2, d3]
              · simp only [d1, d2, d3, decide_false, Bool.false_or, Bool.not_false, Bool.true_and, if_true]
                refine ⟨trivial, (o ++ [.cells [B mg, T mk, T mv, I ml], .cells []]), ?_⟩
                simp -implicitDefEqProofs [hk2, hy, Mut.c, zres, g1, s1, h1, d1', d2, d3, e2]
      · rw [hc] at g1
        simp only [Bool.not_true, Bool.false_and, Bool.false_eq_true, if_false]
        refine ⟨.map (metE met) :: (o ++ [.cells [B mg, T mk, T mv, I ml], .cells []]), ?_⟩
        simp -implicitDefEqProofs [hk2, hy, Mut.c, zres, g1]
theorem allP_met (x : Bs) : ∀ l : List Mut, allP (fun y : Mut => !(y.key == x)) l = !((l.map (·.key)).contains x) := by
  intro l
  induction l with
  | nil => rfl
  | cons y l ih =>
    rw [allP_cons, ih]
    have e : (y.key == x) = (x == y.key) := by rw [Bool.eq_iff_iff, beq_iff_eq, beq_iff_eq]; exact eq_comm
    simp only [List.map_cons, List.contains_cons, Bool.not_or, e]
end Go.Proofs.Ytibnbcljmfigfaa
