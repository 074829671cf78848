/- Which things may be done: each key once. -/
import Derived.Test.YtnbclicefmpkiaaSMvcc2
namespace Go.Proofs.Ytnbclicefmpkiaa
open Go Go.AM Go.Proofs
set_option maxRecDepth 20000
set_option maxHeartbeats 2000000
set_option linter.unusedSimpArgs false
set_option linter.unusedVariables false
def mutOkM (m : Mut) : Bool := keyOk m.key && !(decide (20 < m.value.length) || (decide (m.lease < 0) || decide (1099511627775 < m.lease)))
def mayMG : List Bs → List Mut → Bool
  | _, [] => true
  | met, m :: l => (!(met.contains m.key) && mutOkM m) && mayMG (met ++ [m.key]) l
def mayM (l : List Mut) : Bool := mayMG [] l && decide (l.length ≤ 30)
def metE (met : List Bs) : List (GV × Option GV) := met.map fun k => (GV.str k, none)
theorem find_met (k : Bs) : ∀ met : List Bs, (met.contains k = false ∧ findM .s (.str k) (metE met) = some none) ∨ ∃ j, met.contains k = true ∧ findM .s (.str k) (metE met) = some (some j) ∧ (metE met)[j]?.map (·.2) = some none
  | [] => .inl ⟨rfl, rfl⟩
  | a :: met => by
    by_cases h : k = a
    · subst h
      exact .inr ⟨0, by simp, by simp [metE, findM, eqG], by simp [metE]⟩
    · have hk : (k == a) = false := by simpa using h
      rcases find_met k met with ⟨h1, h2⟩ | ⟨j, h1, h2, h3⟩
      · refine .inl ⟨by simp only [List.contains_cons, hk, h1, Bool.or_self], ?_⟩
        simp only [metE, List.map_cons, findM, eqG, hk]
        rw [show met.map (fun k => (GV.str k, (none : Option GV))) = metE met from rfl, h2]
      · refine .inr ⟨j + 1, by simp only [List.contains_cons, hk, h1, Bool.or_true], ?_, by simpa [metE] using h3⟩
        simp only [metE, List.map_cons, findM, eqG, hk]
        rw [show met.map (fun k => (GV.str k, (none : Option GV))) = metE met from rfl, h2]
theorem get_met (k : Bs) (met : List Bs) : mgetV true .s none (.str k) (metE met) = some (.tup [.agg [], B (met.contains k)]) := by
  unfold mgetV
  rcases find_met k met with ⟨h1, h2⟩ | ⟨j, h1, h2, h3⟩
  · rw [h1, h2]; rfl
  · rw [h1, h2]; simp only [h3]; rfl
theorem set_met (k : Bs) (met : List Bs) (h : met.contains k = false) : msetV .s (.str k) none (metE met) = some (metE (met ++ [k])) := by
  unfold msetV
  rcases find_met k met with ⟨h1, h2⟩ | ⟨j, h1, h2, h3⟩
  · rw [h2]; simp [metE]
  · rw [h1] at h; cases h
theorem runG_mayM : ∀ (l : List Mut) k (met : List Bs), (∃ b, runG (fun _ (m : Mut) (met : List Bs) => (if (!(met.contains m.key) && mutOkM m) = true then .inl (met ++ [m.key]) else .inr 0 : List Bs ⊕ Nat)) k l met = .inl b ∧ mayMG met l = true) ∨
    (runG (fun _ (m : Mut) (met : List Bs) => (if (!(met.contains m.key) && mutOkM m) = true then .inl (met ++ [m.key]) else .inr 0 : List Bs ⊕ Nat)) k l met = .inr 0 ∧ mayMG met l = false) := by
  intro l
  induction l with
  | nil => intro k met; exact .inl ⟨met, rfl, rfl⟩
  | cons m l ih =>
    intro k met
    cases h : (!(met.contains m.key) && mutOkM m)
    · right; simp only [runG, mayMG, h, Bool.false_eq_true, if_false, Bool.false_and, and_self]
    · simp only [runG, mayMG, h, if_true, Bool.true_and]
      exact ih _ _
theorem mayM_ev (s : Sl Mut) (hk : ∀ m ∈ s.l, m.key.length ≤ 9223372036854775807) (hl : s.l.length ≤ 9223372036854775807) (H : List Blk) : EvF tab 67 [.g (Muts.g s)] H = some ⟨B (mayM s.l), [], []⟩ := by
  have hq := loop_runJ (E := EvF tab) (h := H) (c := L67_0) (lv := [0, 3, 9, 10, 11]) (l := s.l) (β := List Bs) (γ := Nat) (fun _ _ => True) (fun _ m met => if (!(met.contains m.key) && mutOkM m) = true then .inl (met ++ [m.key]) else .inr 0)
    (fun k met o => ⟨[(0, .g (Muts.g s)), (3, .mp H.length), (9, .g (Muts.g s)), (10, I s.l.length), (11, I k)], [], .map (metE met) :: o⟩)
    (fun met o => (.exit 0, ⟨[(0, .g (Muts.g s)), (3, .mp H.length), (9, .g (Muts.g s)), (10, I s.l.length), (11, I s.l.length), (12, B false)], [], .map (metE met) :: o⟩))
    (fun _ o => (.ret, ⟨[(2, B false)], [], o⟩)) (by simp) (by simp) (fun k m met o hk2 hx hy hi => ?_) (fun met o _ => by delta L67_0; cases s <;> simp -implicitDefEqProofs) [] [] trivial
  · obtain ⟨o', hq⟩ := hq
    simp only [Int.ofNat_zero, Int.cast_ofNat_Int] at hq
    refine EvF_walk t67 (by simp) ?_
    unfold mayM
    have e0 : metE [] = [] := rfl
    rw [e0] at hq
    by_cases h30 : s.l.length ≤ 30
    · rcases runG_mayM s.l 0 [] with ⟨b, k1, k2⟩ | ⟨k1, k2⟩ <;> rw [k1] at hq <;> simp only [endJ] at hq <;> simp -implicitDefEqProofs [hq, k2, h30, show (s.l.length : Int) ≤ 30 by omega]
    · rcases runG_mayM s.l 0 [] with ⟨b, k1, k2⟩ | ⟨k1, k2⟩ <;> rw [k1] at hq <;> simp only [endJ] at hq <;> simp -implicitDefEqProofs [hq, k2, h30, show ¬ (s.l.length : Int) ≤ 30 by omega]
  · have e2 := wrap_succ hk2 (by omega)
    have h1 := fun H => Check_ev m.key (hk m (List.mem_of_getElem? hx)) H
    have g1 := get_met m.key met
    have s1 := set_met m.key met
    delta L67_0
    cases s with
    | nil => simp at hk2
    | of l =>
      simp only [Sl.l_of] at hk2 hx hy hl ⊢
      unfold mutOkM
      obtain ⟨mg, mk, mv, ml⟩ := m
      simp only at h1 g1 s1 ⊢
      cases hc : met.contains mk
      · have s1 := s1 hc
        rw [hc] at g1
        generalize keyOk mk = b1 at h1 ⊢
        cases b1
        · simp only [Bool.and_false, Bool.false_and, Bool.false_eq_true, if_false]
          refine ⟨.map (metE met) :: (o ++ [.cells [B mg, T mk, T mv, I ml], .cells []]), ?_⟩
          simp -implicitDefEqProofs [hk2, hy, Mut.c, zres, g1, h1]
        · by_cases d1 : 20 < mv.length
          · simp only [d1, decide_true, Bool.true_or, Bool.not_true, Bool.and_false, Bool.false_eq_true, if_false]
            refine ⟨.map (metE met) :: (o ++ [.cells [B mg, T mk, T mv, I ml], .cells []]), ?_⟩
            simp -implicitDefEqProofs [hk2, hy, Mut.c, zres, g1, h1, show (20 : Int) < (mv.length : Int) by omega]
          · have d1' : ¬ (20 : Int) < (mv.length : Int) := by omega
            by_cases d2 : ml < 0
            · simp only [d1, d2, decide_true, decide_false, Bool.true_or, Bool.false_or, Bool.not_true, Bool.and_false, Bool.false_eq_true, if_false]
              refine ⟨.map (metE met) :: (o ++ [.cells [B mg, T mk, T mv, I ml], .cells []]), ?_⟩
              simp -implicitDefEqProofs [hk2, hy, Mut.c, zres, g1, h1, d1', d2]
            · by_cases d3 : 1099511627775 < ml
              · simp only [d1, d2, d3, decide_true, decide_false, Bool.true_or, Bool.false_or, Bool.not_true, Bool.and_false, Bool.false_eq_true, if_false]
                refine ⟨.map (metE met) :: (o ++ [.cells [B mg, T mk, T mv, I ml], .cells []]), ?_⟩
                simp -implicitDefEqProofs [hk2, hy, Mut.c, zres, g1, h1, d1', d2, d3]
              · simp only [d1, d2, d3, decide_false, Bool.false_or, Bool.not_false, Bool.true_and, if_true]
                refine ⟨trivial, (o ++ [.cells [B mg, T mk, T mv, I ml], .cells []]), ?_⟩
                simp -implicitDefEqProofs [hk2, hy, Mut.c, zres, g1, s1, h1, d1', d2, d3, e2]
      · rw [hc] at g1
        simp only [Bool.not_true, Bool.false_and, Bool.false_eq_true, if_false]
        refine ⟨.map (metE met) :: (o ++ [.cells [B mg, T mk, T mv, I ml], .cells []]), ?_⟩
        simp -implicitDefEqProofs [hk2, hy, Mut.c, zres, g1]
theorem allP_met (x : Bs) : ∀ l : List Mut, allP (fun y : Mut => !(y.key == x)) l = !((l.map (·.key)).contains x) := by
  intro l
  induction l with
  | nil => rfl
  | cons y l ih =>
    rw [allP_cons, ih]
    have e : (y.key == x) = (x == y.key) := by rw [Bool.eq_iff_iff, beq_iff_eq, beq_iff_eq]; exact eq_comm
    simp only [List.map_cons, List.contains_cons, Bool.not_or, e]
theorem muts2_inner (l : List Mut) (i : Nat) (x : Mut) (hx : l[i]? = some x) (hl : l.length ≤ 9223372036854775807) (H o : List Blk) :
    loopE (EvF tab) H L70_0 [0, 3, 4] ⟨[(0, .g (.sl 4 (l.map Mut.c))), (3, I i), (4, I 0)], [], o⟩ =
      some (if ((l.take i).map (·.key)).contains x.key = false then (.exit 2, ⟨[(0, .g (.sl 4 (l.map Mut.c))), (3, I i), (4, I i), (48, B false)], [], o⟩) else (.ret, ⟨[(2, B false)], [], o⟩)) := by
  have hi : i < l.length := (List.getElem?_eq_some_iff.1 hx).1
  have hx2 : l[i] = x := (List.getElem?_eq_some_iff.1 hx).2
  have hlen : (l.take i).length = i := by simp; omega
  have hw := loop_all0 (E := EvF tab) (h := H) (c := L70_0) (lv := [0, 3, 4]) (l := l.take i) (fun y : Mut => !(y.key == x.key)) (fun k => ⟨[(0, .g (.sl 4 (l.map Mut.c))), (3, I i), (4, I k)], [], o⟩)
    (.exit 2, ⟨[(0, .g (.sl 4 (l.map Mut.c))), (3, I i), (4, I i), (48, B false)], [], o⟩) (.ret, ⟨[(2, B false)], [], o⟩) (by simp) (by simp) (fun k y hk hy hy2 => ?_) (by delta L70_0; rw [hlen]; simp -implicitDefEqProofs)
  · rw [allP_met] at hw
    have e0 : ((0 : Nat) : Int) = 0 := rfl
    simp only [e0] at hw
    rw [hw]
    cases ((l.take i).map (·.key)).contains x.key <;> rfl
  · rw [hlen] at hk
    have hy3 : l[k]? = some y := by rw [List.getElem?_take_of_lt hk] at hy; exact hy
    have hk2 : k < l.length := by omega
    have hy4 : l[k] = y := (List.getElem?_eq_some_iff.1 hy3).2
    have e2 := wrap_succ hk2 hl
    have hkI : (k : Int) < (i : Int) := by omega
    delta L70_0
    by_cases hq : y.key = x.key
    · simp -implicitDefEqProofs [hk2, hi, hx2, hy4, Mut.c, hkI, hk, hq]
    · simp -implicitDefEqProofs [hk2, hi, hx2, hy4, Mut.c, hkI, hk, hq, e2]
theorem muts5_ev (s : Sl Mut) (hk : ∀ m ∈ s.l, m.key.length ≤ 9223372036854775807) (hl : s.l.length ≤ 9223372036854775807) (H : List Blk) : EvF tab 70 [.g (Muts.g s)] H = some ⟨B (mayM s.l), [], []⟩ := by
  have hq := loop_runJ (E := EvF tab) (h := H) (c := L70_1) (lv := [0, 3]) (l := s.l) (β := List Bs) (γ := Nat) (fun k met => met = (s.l.take k).map (·.key)) (fun _ m met => if (!(met.contains m.key) && mutOkM m) = true then .inl (met ++ [m.key]) else .inr 0)
    (fun k met o => ⟨[(0, .g (Muts.g s)), (3, I k)], [], o⟩)
    (fun met o => (.exit 0, ⟨[(0, .g (Muts.g s)), (3, I s.l.length), (11, B false)], [], o⟩))
    (fun _ o => (.ret, ⟨[(2, B false)], [], o⟩)) (by simp) (by simp) (fun k m met o hk2 hx hy hi => ?_) (fun met o _ => by delta L70_1; cases s <;> simp -implicitDefEqProofs) [] [] (by simp)
  · obtain ⟨o', hq⟩ := hq
    simp only [Int.ofNat_zero, Int.cast_ofNat_Int] at hq
    refine EvF_walk t70 (by simp) ?_
    unfold mayM
    by_cases h30 : s.l.length ≤ 30
    · rcases runG_mayM s.l 0 [] with ⟨b, k1, k2⟩ | ⟨k1, k2⟩ <;> rw [k1] at hq <;> simp only [endJ] at hq <;> simp -implicitDefEqProofs [hq, k2, h30, show ¬ (30 : Int) < (s.l.length : Int) by omega]
    · simp -implicitDefEqProofs [h30, show (30 : Int) < (s.l.length : Int) by omega]
  · have e2 := wrap_succ hk2 (by omega)
    have h1 := fun H => Check2_ev m.key (hk m (List.mem_of_getElem? hx)) H
    have hnext : met ++ [m.key] = (s.l.take (k + 1)).map (·.key) := by
      rw [List.take_succ_eq_append_getElem hk2, List.map_append, hi, hy]; rfl
    delta L70_1
    cases s with
    | nil => simp at hk2
    | of l =>
      simp only [Sl.l_of] at hk2 hx hy hl hi hnext ⊢
      have hin := fun o => muts2_inner l k m hx hl H o
      rw [← hi] at hin
      unfold mutOkM
      obtain ⟨mg, mk, mv, ml⟩ := m
      simp only at h1 hin hnext ⊢
      have fail : ∀ c : Bool, mutOkM ⟨mg, mk, mv, ml⟩ = false → (if (!c && mutOkM ⟨mg, mk, mv, ml⟩) = true then (.inl (met ++ [mk]) : List Bs ⊕ Nat) else .inr 0) = .inr 0 := fun c h => by rw [h, Bool.and_false]; rfl
      unfold mutOkM at fail
      generalize keyOk mk = b1 at h1 fail ⊢
      cases b1
      · rw [fail _ rfl]
        refine ⟨o, ?_⟩
        simp -implicitDefEqProofs [hk2, hy, Mut.c, h1]
      · by_cases d1 : 20 < mv.length
        · rw [fail _ (by simp [d1])]
          refine ⟨o, ?_⟩
          simp -implicitDefEqProofs [hk2, hy, Mut.c, h1, show (20 : Int) < (mv.length : Int) by omega]
        · have d1' : ¬ (20 : Int) < (mv.length : Int) := by omega
          by_cases d2 : ml < 0
          · rw [fail _ (by simp [d2])]
            refine ⟨o, ?_⟩
            simp -implicitDefEqProofs [hk2, hy, Mut.c, h1, d1', d2]
          · by_cases d3 : 1099511627775 < ml
            · rw [fail _ (by simp [d3])]
              refine ⟨o, ?_⟩
              simp -implicitDefEqProofs [hk2, hy, Mut.c, h1, d1', d2, d3]
            · simp only [d1, d2, d3, decide_false, Bool.false_or, Bool.not_false, Bool.true_and, Bool.and_true]
              cases hc : met.contains mk
              · rw [hc] at hin
                simp only [if_true] at hin
                simp only [Bool.not_false, if_true]
                refine ⟨hnext, o, ?_⟩
                simp -implicitDefEqProofs [hk2, hy, Mut.c, h1, d1', d2, d3, hin, e2]
              · rw [hc] at hin
                simp only [Bool.true_eq_false, if_false] at hin
                simp only [Bool.not_true, Bool.false_eq_true, if_false]
                refine ⟨o, ?_⟩
                simp -implicitDefEqProofs [hk2, hy, Mut.c, h1, d1', d2, d3, hin]
end Go.Proofs.Ytnbclicefmpkiaa
