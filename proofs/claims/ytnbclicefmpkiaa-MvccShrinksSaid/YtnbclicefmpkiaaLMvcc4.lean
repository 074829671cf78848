/- The law MvccShrinks. -/
import Derived.Test.YtnbclicefmpkiaaLMvcc3
namespace Go.Proofs.Ytnbclicefmpkiaa
open Go Go.AM Go.Proofs
set_option maxRecDepth 20000
set_option maxHeartbeats 4000000
set_option linter.unusedSimpArgs false
set_option linter.unusedVariables false
theorem shr_eq {s : Store} {to : Int} (hz : shrE s to = 0) : shrS s to = ⟨s.rev, to, foldR s.base s.log.l to, keepR to s.log⟩ := by unfold shrS; rw [if_pos hz]
theorem shr_again {s : Store} (h : SOk s) {to : Int} (hz : shrE s to = 0) : shrE (shrS s to) to = 0 ∧ sameS (shrS s to) (shrS (shrS s to) to) := by
  obtain ⟨z1, z2, z3⟩ := shrE_zero.1 hz
  have hz2 : shrE (shrS s to) to = 0 := by rw [shr_eq hz]; exact shrE_zero.2 ⟨z1, z2, Int.le_refl _⟩
  refine ⟨hz2, ?_⟩
  obtain ⟨a, b, h1, h2, h3, h4, h5⟩ := shr_split h to
  rw [shr_eq hz2, shr_eq hz]
  refine ⟨rfl, rfl, ?_, ?_⟩
  · simp only [foldR_l, keepR_l]
    rw [shr_fold h (Int.le_refl _)]
  · simp only [keepR_l]
    rw [h4, keepL_all h3]
theorem shr_now {s : Store} (h : SOk s) {to : Int} (hz : shrE s to = 0) : nowP (shrS s to) = nowP s := by
  obtain ⟨z1, z2, z3⟩ := shrE_zero.1 hz
  rw [shr_eq hz]
  unfold nowP
  simp only [foldR_l, keepR_l]
  exact shr_fold h z2
theorem shr_at {s : Store} (h : SOk s) {to rev : Int} (hz : shrE s to = 0) (hr : ¬ (rev ≠ 0 ∧ rev < to ∧ 0 < rev)) : atE (shrS s to) rev = atE s rev ∧ (atR (shrS s to) rev).l = (atR s rev).l := by
  obtain ⟨z1, z2, z3⟩ := shrE_zero.1 hz
  have hrev : (shrS s to).rev = s.rev := by rw [shr_eq hz]
  have hlow : (shrS s to).low = to := by rw [shr_eq hz]
  have e : atE (shrS s to) rev = atE s rev := by
    unfold atE
    rw [hrev, hlow]
    by_cases h0 : rev = 0
    · rw [if_pos h0, if_pos h0]
    · rw [if_neg h0, if_neg h0]
      by_cases h1 : rev < 0 ∨ s.rev < rev
      · rw [if_pos h1, if_pos h1]
      · rw [if_neg h1, if_neg h1, if_neg (by omega), if_neg (by omega)]
  refine ⟨e, ?_⟩
  rw [at_l, at_l, e]
  split
  · rename_i hz0
    have hv : atV (shrS s to) rev = atV s rev := by unfold atV; rw [hrev]
    rw [hv]
    have hle : to ≤ atV s rev := by
      unfold atV
      split
      · exact z2
      · rename_i h0
        unfold atE at hz0
        rw [if_neg h0] at hz0
        by_cases h1 : rev < 0 ∨ s.rev < rev
        · rw [if_pos h1] at hz0; omega
        · omega
    rw [shr_eq hz]
    simp only [foldR_l, keepR_l]
    exact shr_fold h hle
  · rfl
theorem MvccShrinks_law (x0 : Store) (x1 : Int) (x2 : Int) (w0 : x0.wf) (w1 : I64 x1) (w2 : I64 x2) : EvF tab 9 [A x0.c, I x1, I x2] [] = some ⟨.g (.bool true), [], []⟩ := by
  have m0 := fun H => FewS_ev x0 w0 H
  have m1 := fun H => May_ev x0 w0 H
  refine EvF_walk t9 (by simp) ?_
  by_cases hg : fewS x0 = true ∧ storeOk x0 = true
  · obtain ⟨g1, g2⟩ := hg
    rw [g1] at m0
    rw [g2] at m1
    have hs := storeOk_iff.1 g2
    have hsm := fewS_smallS g1
    have m3 := fun H => Shrink_ev x0 x1 hsm H
    obtain ⟨a1, a2, a3, a4, ha⟩ := store4 x0
    by_cases hz : shrE x0 x1 = 0
    · have ht := shr_SOk hs x1
      have hrev : (shrS x0 x1).rev = x0.rev := by rw [shr_eq hz]
      have hlow : (shrS x0 x1).low = x1 := by rw [shr_eq hz]
      obtain ⟨k1, k2⟩ := shr_again hs hz
      have ht2 := shr_SOk ht x1
      have m4 := fun H => Shrink_ev (shrS x0 x1) x1 ht.small H
      have m5 := fun H => At_ev x0 x2 hsm H
      have m6 := fun H => At_ev (shrS x0 x1) x2 ht.small H
      have m7 := fun H => May_ev (shrS x0 x1) ht.wf H
      rw [storeOk_iff.2 ht] at m7
      have m8 := fun H => SameS_ev (shrS x0 x1) (shrS (shrS x0 x1) x1) k2 ht2.small H
      have m9 := fun H => Now_ev x0 hsm H
      have m10 := fun H => Now_ev (shrS x0 x1) ht.small H
      have nl := ht.nowLen
      have m11 := fun H => KVs_ev (foldR x0.base x0.log.l x0.rev) (foldR (shrS x0 x1).base (shrS x0 x1).log.l (shrS x0 x1).rev) (by rw [now_l, now_l, shr_now hs hz]) (by rw [now_l]; omega) H
      rw [hz] at m3
      rw [k1] at m4
      have kb := fun hr => shr_at hs (rev := x2) hz hr
      have al := at_len (shrS x0 x1) x2
      have hb4 := ht.bl
      have hl4 := ht.ll
      have m12 := fun hr H => KVs_ev (atR x0 x2) (atR (shrS x0 x1) x2) (kb hr).2.symm (by omega) H
      have kc := fun hr => (kb hr).1
      have hlt : x2 ≠ 0 ∧ x2 < x1 ∧ 0 < x2 → atE (shrS x0 x1) x2 = 9 := fun hh => by
        obtain ⟨z1, z2, z3⟩ := shrE_zero.1 hz
        unfold atE
        rw [if_neg hh.1, hrev, hlow, if_neg (by omega), if_pos hh.2.1]
      generalize atE (shrS x0 x1) x2 = e6 at m6 kc hlt
      generalize atE x0 x2 = e5 at m5 kc
      generalize atR (shrS x0 x1) x2 = r6 at m6 m12
      generalize atR x0 x2 = r5 at m5 m12
      generalize foldR x0.base x0.log.l x0.rev = n9 at m9 m11
      generalize foldR (shrS x0 x1).base (shrS x0 x1).log.l (shrS x0 x1).rev = n10 at m10 m11
      obtain ⟨c1, c2, c3, c4, hc⟩ := store4 (shrS (shrS x0 x1) x1)
      rw [hc] at m4 m8
      generalize shrS x0 x1 = t at *
      obtain ⟨trev, tlow, tbase, tlog⟩ := t
      obtain ⟨srev, slow, sbase, slog⟩ := x0
      simp only at hrev hlow
      subst hrev hlow
      simp only [A, Store.c, List.map_cons, List.map_nil] at m0 m1 m3 m4 m5 m6 m7 m8 m9 m10 ⊢
      by_cases h0 : x2 ≠ 0 ∧ x2 < tlow ∧ 0 < x2
      · have hlt := hlt h0
        subst hlt
        obtain ⟨i1, i2, i3⟩ := h0
        simp -implicitDefEqProofs [live05, m0, m1, m3, m4, m5, m6, m7, m8, m9, m10, m11, i1, i2, i3]
      · have kc := kc h0
        have m12 := m12 h0
        subst kc
        by_cases i1 : x2 = 0
        · subst i1
          simp -implicitDefEqProofs [live05, m0, m1, m3, m4, m5, m6, m7, m8, m9, m10, m11, m12]
        · by_cases i2 : x2 < tlow
          · have i3 : ¬ 0 < x2 := fun hh => h0 ⟨i1, i2, hh⟩
            simp -implicitDefEqProofs [live05, m0, m1, m3, m4, m5, m6, m7, m8, m9, m10, m11, m12, i1, i2, i3]
          · simp -implicitDefEqProofs [live05, m0, m1, m3, m4, m5, m6, m7, m8, m9, m10, m11, m12, i1, i2]
    · have hsh : shrS x0 x1 = x0 := by unfold shrS; rw [if_neg hz]
      have m8 := fun H => SameS_ev x0 x0 ⟨rfl, rfl, rfl, rfl⟩ hsm H
      rw [hsh] at m3
      have hcond : x1 < x0.low ∨ x0.rev < x1 := by
        have h1 := hs.low0
        by_cases hh : x1 < x0.low ∨ x0.rev < x1
        · exact hh
        · exact absurd (shrE_zero.2 ⟨by omega, by omega, by omega⟩) hz
      generalize shrE x0 x1 = e1 at m3 hz
      obtain ⟨srev, slow, sbase, slog⟩ := x0
      simp only [A, Store.c, List.map_cons, List.map_nil] at m0 m1 m3 m8 hcond ⊢
      by_cases i1 : x1 < slow
      · simp -implicitDefEqProofs [live05, m0, m1, m3, m8, hz, i1]
      · have i2 := hcond.resolve_left i1
        simp -implicitDefEqProofs [live05, m0, m1, m3, m8, hz, i1, i2]
  · obtain ⟨a1, a2, a3, a4, ha⟩ := store4 x0
    rw [ha] at m0 m1 ⊢
    simp only [A, List.map_cons, List.map_nil] at m0 m1 ⊢
    cases g1 : fewS x0
    · rw [g1] at m0
      simp -implicitDefEqProofs [live05, m0]
    · rw [g1] at m0
      cases g2 : storeOk x0
      · rw [g2] at m1
        simp -implicitDefEqProofs [live05, m0, m1]
      · exact absurd ⟨g1, g2⟩ hg
end Go.Proofs.Ytnbclicefmpkiaa
