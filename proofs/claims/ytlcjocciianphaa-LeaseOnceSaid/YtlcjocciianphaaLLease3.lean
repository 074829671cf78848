/- The law LeaseOnce. -/
import Derived.Test.YtlcjocciianphaaLLive08
namespace Go.Proofs.Ytlcjocciianphaa
open Go Go.AM Go.Proofs
set_option maxRecDepth 4000
set_option linter.unusedSimpArgs false
set_option linter.unusedVariables false
theorem endS_next (L : Leases) (id : Int) : (endS L id).next = L.next := by
  unfold endS; cases placeN id 0 L.l.l <;> rfl
theorem runG_inl {α β γ : Type} (f : Nat → α → β → β) : ∀ (l : List α) k b, ∃ b', runG (fun k x b => (.inl (f k x b) : β ⊕ γ)) k l b = .inl b' := by
  intro l
  induction l with
  | nil => intro k b; exact ⟨b, rfl⟩
  | cons x l ih => intro k b; simp only [runG]; exact ih _ _
theorem LeaseOnce_law (L : Leases) (ttl : Int) (ends : Sl Int) (hL : L.wf) (ht : I64 ttl) (he : (∀ x ∈ ends.l, I64 x) ∧ ends.l.length ≤ 9223372036854775807) : EvF tab 7 [A L.c, I ttl, .g (Ints.g ends)] [] = some ⟨.g (.bool true), [], []⟩ := by
  refine EvF_walk t7 (by simp) ?_
  have m1 := fun H => May2_ev L hL H
  cases hm : mayS L <;> rw [hm] at m1
  · obtain ⟨nx, s⟩ := L
    simp only [A, Leases.c, List.map_cons, List.map_nil] at m1
    simp -implicitDefEqProofs [A, Leases.c, m1, live08]
  by_cases h2 : ends.l.length ≤ 20
  case neg =>
    obtain ⟨nx, s⟩ := L
    simp only [A, Leases.c, List.map_cons, List.map_nil] at m1
    cases ends <;> simp at h2 <;> simp -implicitDefEqProofs [A, Leases.c, m1, h2, show ∀ n : Nat, 20 < n → (20 : Int) < n from fun n h => by omega, live08]
  have hw := loop_runJ (E := EvF tab) (h := []) (c := L7_0) (lv := [1, 2, 3, 7, 8]) (l := ends.l) (β := Leases) (γ := Unit) (fun k (L : Leases) => mayS L = true) (fun k x L => .inl (endS (grantS L ttl k) x))
    (fun k L o => ⟨[(1, I ttl), (2, .g (Ints.g ends)), (3, .ptr 0 0), (7, I L.next), (8, I k)], [], .cells [I L.next, .g (LeaseL.g L.l)] :: o⟩)
    (fun L o => (.exit 0, ⟨[(1, I ttl), (2, .g (Ints.g ends)), (3, .ptr 0 0), (7, I L.next), (8, I ends.l.length), (28, B false)], [], .cells [I L.next, .g (LeaseL.g L.l)] :: o⟩))
    (fun _ o => (.ret, ⟨[], [], o⟩)) (by simp) (by simp) (fun k x L o hk hx hy hi => ?_) (fun L o hi => by delta L7_0; cases ends <;> simp -implicitDefEqProofs) L [] hm
  · obtain ⟨o', hw⟩ := hw
    obtain ⟨L', hL'⟩ := runG_inl (γ := Unit) (fun k (x : Int) (L : Leases) => endS (grantS L ttl k) x) ends.l 0 L
    rw [hL'] at hw
    simp only [endJ, Int.ofNat_zero, Int.cast_ofNat_Int] at hw
    obtain ⟨nx, s⟩ := L
    obtain ⟨nx', s'⟩ := L'
    simp only [A, Leases.c, List.map_cons, List.map_nil] at m1
    cases ends <;> simp at h2 hw <;> simp -implicitDefEqProofs [A, Leases.c, m1, h2, show ∀ n : Nat, n ≤ 20 → ¬ (20 : Int) < n from fun n h => by omega, hw, live08]
  · have e2 := wrap_succ hk he.2
    have n1 := fun H => Grant_ev L ttl k (may_wf hi) H
    have p1 := may_grant hi ttl k
    have p2 := may_end p1 x
    have n2 := fun H => End_ev (grantS L ttl k) x (may_small p1).1 H
    have q2 := endS_next (grantS L ttl k) x
    have hg := @grant_no L ttl k
    have hg0 : grantOk L ttl k = 0 → grantI L ttl k = L.next + 1 ∧ (grantS L ttl k).next = L.next + 1 := fun h => by simp [grantI, grantS, h]
    refine ⟨p2, o ++ [.rows 3 1 [], .cells [I (grantS L ttl k).next, .g (LeaseL.g (grantS L ttl k).l)], .cells [I (endS (grantS L ttl k) x).next, .g (LeaseL.g (endS (grantS L ttl k) x).l)]], ?_⟩
    obtain ⟨E, eE⟩ : ∃ E, endS (grantS L ttl k) x = E := ⟨_, rfl⟩
    rw [eE] at n2 q2
    simp only [eE]
    obtain ⟨G, eG⟩ : ∃ G, grantS L ttl k = G := ⟨_, rfl⟩
    obtain ⟨go, ego⟩ : ∃ G, grantOk L ttl k = G := ⟨_, rfl⟩
    obtain ⟨gi, egi⟩ : ∃ G, grantI L ttl k = G := ⟨_, rfl⟩
    obtain ⟨ee, eee⟩ : ∃ G, endE (grantS L ttl k) x = G := ⟨_, rfl⟩
    rw [eee] at n2
    rw [eG] at n1 n2 hg hg0 q2
    rw [ego] at n1 hg hg0
    rw [egi] at n1 hg hg0
    simp only [eG]
    clear p1 p2 eE eG ego egi eee hi hm hL m1
    obtain ⟨nx, s⟩ := L
    obtain ⟨gn, gl⟩ := G
    obtain ⟨en, el⟩ := E
    simp only at q2 hg0
    simp only [Leases.mk.injEq] at hg
    simp only [A, Leases.c, List.map_cons, List.map_nil] at n1 n2
    delta L7_0
    subst q2
    cases ends with
    | nil => simp at hk
    | of l =>
      simp only [Sl.l_of] at hk hy
      by_cases hz : go = 0
      · obtain ⟨rfl, rfl⟩ := hg0 hz
        simp -implicitDefEqProofs [hk, hy, Ints.c, n1, n2, hz, e2, pends, List.append_assoc, List.cons_append, List.nil_append, show ¬ nx + 1 ≤ nx by omega]
      · obtain ⟨⟨rfl, rfl⟩, rfl⟩ := hg hz
        simp -implicitDefEqProofs [hk, hy, Ints.c, n1, n2, hz, e2, pends, List.append_assoc, List.cons_append, List.nil_append]
end Go.Proofs.Ytlcjocciianphaa
