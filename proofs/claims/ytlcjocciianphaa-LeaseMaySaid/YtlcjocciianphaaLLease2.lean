/- The law LeaseMay. -/
import Derived.Test.YtlcjocciianphaaLLease1
namespace Go.Proofs.Ytlcjocciianphaa
open Go Go.AM Go.Proofs
set_option maxRecDepth 4000
set_option linter.unusedSimpArgs false
set_option linter.unusedVariables false
theorem LeaseMay_law (L : Leases) (n : Int × Int) (now : Int) (hL : L.wf) (hn : I64 n.1 ∧ I64 n.2) (_ : I64 now) : EvF tab 5 [A L.c, A (I2.c n), I now] [] = some ⟨.g (.bool true), [], []⟩ := by
  refine EvF_walk t5 (by simp) ?_
  have m1 := fun H => May_ev L hL H
  have m2 := fun H => May2_ev L hL H
  cases hm : mayS L <;> rw [hm] at m1 m2
  · obtain ⟨nx, s⟩ := L
    simp only [A, Leases.c, List.map_cons, List.map_nil] at m1 m2
    simp -implicitDefEqProofs [A, Leases.c, I2.c, m1, m2, live08]
  · obtain ⟨a1, a2⟩ := n
    have hs := may_small hm
    have m3 := fun H => Grant_ev L a1 now hL H
    have m4 := fun H => Keep_ev L a2 now hs H
    have m5 := fun H => End_ev L a2 hs.1 H
    have p1 := may_grant hm a1 now
    have p2 := may_keep hm a2 now
    have p3 := may_end hm a2
    have q3 := end_has hm a2
    have hl := hs.1
    have m6 := fun H => Has_ev L a2 (by omega) H
    have same := fun H => Same_ev L L rfl rfl (by omega) H
    have hg := @grant_yes L a1 now hm
    have hg' := @grant_no L a1 now
    have hk := @keepE_0 L a2 now
    have hk' := @keep_no L a2 now
    have he := @endE_0 L a2
    have he' := @end_no L a2
    have w1 : IntKind.i64.wrap (L.next + 1) = L.next + 1 := by
      have := (mayS_iff.1 hm).1
      exact wrap_i64 (by omega) (by omega)
    have w2 : IntKind.i64.wrap ((L.l.l.length : Int) + 1) = (L.l.l.length : Int) + 1 := wrap_i64 (by omega) (by omega)
    have m7 := fun H => Has_ev L (L.next + 1) (by omega) H
    have m8 := fun H => Has_ev (grantS L a1 now) (L.next + 1) (by have := grantS_len L a1 now; omega) H
    have m9 := fun H => Has_ev (endS L a2) a2 (by have := (mayS_iff.1 p3).2.1; omega) H
    rw [q3] at m9
    have r1 := fun H => May_ev (grantS L a1 now) (may_wf p1) H
    have r2 := fun H => May_ev (keepS L a2 now) (may_wf p2) H
    have r3 := fun H => May_ev (endS L a2) (may_wf p3) H
    rw [p1] at r1
    rw [p2] at r2
    rw [p3] at r3
    obtain ⟨go, ego⟩ : ∃ x, grantOk L a1 now = x := ⟨_, rfl⟩
    obtain ⟨ke, eke⟩ : ∃ x, keepE L a2 now = x := ⟨_, rfl⟩
    obtain ⟨ee, eee⟩ : ∃ x, endE L a2 = x := ⟨_, rfl⟩
    obtain ⟨gi, egi⟩ : ∃ x, grantI L a1 now = x := ⟨_, rfl⟩
    obtain ⟨kt, ekt⟩ : ∃ x, keepT L a2 now = x := ⟨_, rfl⟩
    obtain ⟨hh, ehh⟩ : ∃ x, hasS a2 L.l.l = x := ⟨_, rfl⟩
    obtain ⟨tt, ett⟩ : ∃ x, timeOk now = x := ⟨_, rfl⟩
    obtain ⟨G, eG⟩ : ∃ x, grantS L a1 now = x := ⟨_, rfl⟩
    obtain ⟨K, eK⟩ : ∃ x, keepS L a2 now = x := ⟨_, rfl⟩
    obtain ⟨E, eE⟩ : ∃ x, endS L a2 = x := ⟨_, rfl⟩
    rw [ego, egi, eG] at m3 hg hg'
    rw [eke, eK, ekt] at m4 hk'
    rw [eke, ehh, ett] at hk
    rw [eee, eE] at m5 he'
    rw [eee, ehh] at he
    rw [ehh] at m6
    rw [eG] at m8 r1
    rw [eE] at m9 r3
    rw [eK] at r2
    have go_cases : (go = 0 ∧ gi = L.next + 1 ∧ hasS (L.next + 1) G.l.l = true ∧ hasS (L.next + 1) L.l.l = false ∧ G.l.l.length = L.l.l.length + 1) ∨ (go ≠ 0 ∧ G = L ∧ gi = 0) := by
      by_cases h : go = 0
      · exact .inl ⟨h, hg h⟩
      · exact .inr ⟨h, hg' h⟩
    have ke_cases : (ke = 0 ∧ ee = 0 ∧ hh = true ∧ 0 ≤ now ∧ now ≤ 1099511627775) ∨ (ke ≠ 0 ∧ ee = 0 ∧ hh = true ∧ K = L ∧ kt = 0 ∧ now < 0) ∨ (ke ≠ 0 ∧ ee = 0 ∧ hh = true ∧ K = L ∧ kt = 0 ∧ 0 ≤ now ∧ 1099511627775 < now) ∨
        (ke ≠ 0 ∧ ee ≠ 0 ∧ hh = false ∧ K = L ∧ kt = 0 ∧ E = L) := by
      by_cases h : ke = 0
      · obtain ⟨h1, h2⟩ := hk.1 h
        rw [h1, timeOk_iff] at ett
        exact .inl ⟨h, he.2 h2, h2, ett.1, ett.2⟩
      · obtain ⟨k1, k2⟩ := hk' h
        by_cases h2 : ee = 0
        · have h3 := he.1 h2
          have h4 : tt ≠ true := fun hc => h (hk.2 ⟨hc, h3⟩)
          rw [← ett, ne_eq, timeOk_iff] at h4
          by_cases h5 : now < 0
          · exact .inr (.inl ⟨h, h2, h3, k1, k2, h5⟩)
          · exact .inr (.inr (.inl ⟨h, h2, h3, k1, k2, by omega, by omega⟩))
        · exact .inr (.inr (.inr ⟨h, h2, Bool.eq_false_iff.2 (fun hc => h2 (he.2 hc)), k1, k2, he' h2⟩))
    clear hg hg' hk hk' he he' ego eke eee egi ekt ehh ett eG eK eE hm hL hs hl q3
    obtain ⟨nx, s⟩ := L
    obtain ⟨gn, gl⟩ := G
    obtain ⟨kn, kl⟩ := K
    obtain ⟨en, el⟩ := E
    simp only [Leases.mk.injEq] at go_cases ke_cases w1 w2
    simp only [A, Leases.c, List.map_cons, List.map_nil] at m1 m2 m3 m4 m5 m6 m7 m8 m9 r1 r2 r3 same
    rcases go_cases with ⟨rfl, rfl, g1, g2, g3⟩ | ⟨g1, ⟨rfl, rfl⟩, rfl⟩
    all_goals rcases ke_cases with ⟨rfl, rfl, rfl, n1, n2⟩ | ⟨k1, rfl, rfl, ⟨rfl, rfl⟩, rfl, n1⟩ | ⟨k1, rfl, rfl, ⟨rfl, rfl⟩, rfl, n1, n2⟩ | ⟨k1, e1, rfl, ⟨rfl, rfl⟩, rfl, ⟨rfl, rfl⟩⟩
    · rw [g1] at m8
      rw [g2] at m7
      simp -implicitDefEqProofs [A, Leases.c, I2.c, m1, m2, m3, m4, m5, m6, m7, m8, m9, r1, r2, r3, same, w1, w2, g3, n1, n2, live08]
    · rw [g1] at m8
      rw [g2] at m7
      simp -implicitDefEqProofs [A, Leases.c, I2.c, m1, m2, m3, m4, m5, m6, m7, m8, m9, r1, r2, r3, same, w1, w2, g3, k1, n1, show ¬ 0 ≤ now by omega, live08]
    · rw [g1] at m8
      rw [g2] at m7
      simp -implicitDefEqProofs [A, Leases.c, I2.c, m1, m2, m3, m4, m5, m6, m7, m8, m9, r1, r2, r3, same, w1, w2, g3, k1, n1, n2, show ¬ now ≤ 1099511627775 by omega, live08]
    · rw [g1] at m8
      rw [g2] at m7
      simp -implicitDefEqProofs [A, Leases.c, I2.c, m1, m2, m3, m4, m5, m6, m7, m8, m9, r1, r2, r3, same, w1, w2, g3, k1, e1, live08]
    · simp -implicitDefEqProofs [A, Leases.c, I2.c, m1, m2, m3, m4, m5, m6, m7, m8, m9, r1, r2, r3, same, w1, w2, g1, n1, n2, live08]
    · simp -implicitDefEqProofs [A, Leases.c, I2.c, m1, m2, m3, m4, m5, m6, m7, m8, m9, r1, r2, r3, same, w1, w2, g1, k1, n1, show ¬ 0 ≤ now by omega, live08]
    · simp -implicitDefEqProofs [A, Leases.c, I2.c, m1, m2, m3, m4, m5, m6, m7, m8, m9, r1, r2, r3, same, w1, w2, g1, k1, n1, n2, show ¬ now ≤ 1099511627775 by omega, live08]
    · simp -implicitDefEqProofs [A, Leases.c, I2.c, m1, m2, m3, m4, m5, m6, m7, m8, m9, r1, r2, r3, same, w1, w2, g1, k1, e1, live08]
end Go.Proofs.Ytlcjocciianphaa
