/- The laws LeaseGrants and LeaseEnds. -/
import Derived.Test.YtlcjocciianphaaLLive08
namespace Go.Proofs.Ytlcjocciianphaa
open Go Go.AM Go.Proofs
set_option maxRecDepth 4000
set_option linter.unusedSimpArgs false
set_option linter.unusedVariables false
theorem LeaseGrants_law (L : Leases) (n : Int × Int) (now : Int) (hL : L.wf) (hn : I64 n.1 ∧ I64 n.2) (_ : I64 now) : EvF tab 3 [A L.c, A (I2.c n), I now] [] = some ⟨.g (.bool true), [], []⟩ := by
  refine EvF_walk t3 (by simp) ?_
  have b1 := fun H => Bounded_ev L hL H
  cases hb : (allP bndL L.l.l && decide (L.l.l.length ≤ 20)) <;> rw [hb] at b1
  · obtain ⟨nx, s⟩ := L
    simp only [A, Leases.c, List.map_cons, List.map_nil] at b1
    simp -implicitDefEqProofs [A, Leases.c, I2.c, b1, live08]
  · simp only [Bool.and_eq_true, decide_eq_true_eq] at hb
    obtain ⟨hb1, hb2⟩ := hb
    have hs : smallT L := ⟨by omega, fun x hx => by
      have := (allP_iff.1 hb1) x hx
      simp [bndL] at this
      omega⟩
    have m1 := fun H => Grant_ev L n.1 now hL H
    have m2 := fun H => Grant2_ev L n.1 now hL H
    have m3 := fun H => Keep_ev L n.2 now hs H
    have m4 := fun H => Keep2_ev L n.2 now hs H
    have m5 := fun H => May_ev L hL H
    have m6 := fun H => May2_ev L hL H
    have m7 := fun H => Has_ev L n.2 (by omega) H
    have m8 := fun H => Has2_ev L n.2 (by omega) H
    have l1 := grantS_len L n.1 now
    have l2 := keepS_len L n.2 now
    obtain ⟨⟨gn, gl⟩, hG⟩ : ∃ G, grantS L n.1 now = G := ⟨_, rfl⟩
    obtain ⟨⟨kn, kl⟩, hK⟩ : ∃ G, keepS L n.2 now = G := ⟨_, rfl⟩
    rw [hG] at m1 m2 l1
    rw [hK] at m3 m4 l2
    simp only at l1 l2
    have m9 := fun H => Same_ev ⟨gn, gl⟩ ⟨gn, gl⟩ rfl rfl (by simp only; omega) H
    have m0 := fun H => Same_ev ⟨kn, kl⟩ ⟨kn, kl⟩ rfl rfl (by simp only; omega) H
    obtain ⟨a1, a2⟩ := n
    obtain ⟨nx, s⟩ := L
    simp only [A, Leases.c, List.map_cons, List.map_nil] at b1 m1 m2 m3 m4 m5 m6 m7 m8 m9 m0
    simp -implicitDefEqProofs [A, Leases.c, I2.c, b1, m1, m2, m3, m4, m5, m6, m7, m8, m9, m0, live08]
theorem LeaseEnds_law (L : Leases) (kvs : KVs) (n : Int × Int) (hL : L.wf) (hk : (∀ y ∈ kvs.l, y.wf) ∧ kvs.l.length ≤ 9223372036854775807) (hn : I64 n.1 ∧ I64 n.2) : EvF tab 4 [A L.c, .g (KVs.g kvs), A (I2.c n)] [] = some ⟨.g (.bool true), [], []⟩ := by
  refine EvF_walk t4 (by simp) ?_
  obtain ⟨nx, s⟩ := L
  by_cases h1 : s.l.length ≤ 20
  case neg => simp -implicitDefEqProofs [A, Leases.c, I2.c, h1, show (20 : Int) < s.l.length by omega, live08]
  have b1 := fun H => Few_ev kvs hk.2 40 H
  cases hb : (decide ((kvs.l.length : Int) ≤ 40) && allP shortKV kvs.l) <;> rw [hb] at b1
  · simp -implicitDefEqProofs [A, Leases.c, I2.c, h1, show ¬ (20 : Int) < s.l.length by omega, b1, live08]
  · simp only [Bool.and_eq_true, decide_eq_true_eq] at hb
    have m1 := fun H => End_ev ⟨nx, s⟩ n.1 (by simp only; omega) H
    have m2 := fun H => End2_ev ⟨nx, s⟩ n.1 (by simp only; omega) H
    have m3 := fun H => Due_ev ⟨nx, s⟩ n.2 (by simp only; omega) H
    have m4 := fun H => Due2_ev ⟨nx, s⟩ n.2 (by simp only; omega) H
    have m5 := fun H => Drops_ev kvs n.1 (by omega) H
    have m6 := fun H => Drops2_ev kvs n.1 (by omega) H
    have l1 : (endS ⟨nx, s⟩ n.1).l.l.length ≤ 9223372036854775807 := by
      unfold endS
      cases placeN n.1 0 s.l with
      | none => simp only; omega
      | some i => simp only [slOf_l, endL', List.length_append, List.length_take, List.length_drop]; omega
    obtain ⟨⟨gn, gl⟩, hG⟩ : ∃ G, endS ⟨nx, s⟩ n.1 = G := ⟨_, rfl⟩
    rw [hG] at m1 m2 l1
    have l2 : (dueS s.l n.2).length ≤ 9223372036854775807 := by
      have := List.length_filter_le (dueP n.2) s.l
      simp only [dueS, List.length_map]; omega
    have l3 : (dropsS kvs.l n.1).length ≤ 9223372036854775807 := by
      have := List.length_filter_le (dropP n.1) kvs.l
      unfold dropsS
      split
      · simp
      · simp only [List.length_map]; omega
    have m7 := fun H => Same_ev ⟨gn, gl⟩ ⟨gn, gl⟩ rfl rfl l1 H
    have m8 := fun H => Ints_ev (slOf (dueS s.l n.2)) (slOf (dueS s.l n.2)) rfl (by rw [slOf_l]; exact l2) H
    have m9 := fun H => Muts_ev (slOf (dropsS kvs.l n.1)) (slOf (dropsS kvs.l n.1)) rfl (by rw [slOf_l]; exact l3) H
    obtain ⟨a1, a2⟩ := n
    obtain ⟨d1, hd1⟩ : ∃ d, slOf (dueS s.l a2) = d := ⟨_, rfl⟩
    obtain ⟨d2, hd2⟩ : ∃ d, slOf (dropsS kvs.l a1) = d := ⟨_, rfl⟩
    simp only [A, Leases.c, List.map_cons, List.map_nil, hd1, hd2] at m1 m2 m3 m4 m5 m6 m7 m8 m9
    simp -implicitDefEqProofs [A, Leases.c, I2.c, h1, show ¬ (20 : Int) < s.l.length by omega, b1, m1, m2, m3, m4, m5, m6, m7, m8, m9, live08]
end Go.Proofs.Ytlcjocciianphaa
