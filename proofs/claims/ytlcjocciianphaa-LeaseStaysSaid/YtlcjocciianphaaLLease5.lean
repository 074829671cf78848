/- The law LeaseStays. -/
import Derived.Test.YtlcjocciianphaaLLive08
namespace Go.Proofs.Ytlcjocciianphaa
open Go Go.AM Go.Proofs
set_option maxRecDepth 4000
set_option linter.unusedSimpArgs false
set_option linter.unusedVariables false
theorem may_uniq {M : Leases} (h : mayS M = true) {x y : Lease} (hx : x ∈ M.l.l) (hy : y ∈ M.l.l) (he : x.id = y.id) : x = y := by
  have h4 := (mayS_iff.1 h).2.2.2
  obtain ⟨i, hi, rfl⟩ := List.getElem_of_mem hx
  obtain ⟨j, hj, rfl⟩ := List.getElem_of_mem hy
  rw [List.pairwise_iff_getElem] at h4
  rcases Nat.lt_trichotomy i j with hij | rfl | hij
  · have := h4 i j hi hj hij; omega
  · rfl
  · have := h4 j i hj hi hij; omega
theorem place_of_mem {M : Leases} (h : mayS M = true) {x : Lease} (hx : x ∈ M.l.l) : ∃ i, placeN x.id 0 M.l.l = some i ∧ ∃ hi : i < M.l.l.length, M.l.l[i] = x := by
  rcases hp : placeN x.id 0 M.l.l with _ | i
  · have : hasS x.id M.l.l = true := hasS_iff.2 ⟨x, hx, rfl⟩
    simp [hasS, hp] at this
  · obtain ⟨hi, hid⟩ := place_some hp
    exact ⟨i, rfl, hi, may_uniq h (List.getElem_mem hi) hx hid⟩
def maxI (x y : Int) : Int := if x < y then y else x
theorem keep_step {M : Leases} (h : mayS M = true) {id ttl last x : Int} (hm : (⟨id, ttl, last + ttl⟩ : Lease) ∈ M.l.l) (ht : timeOk x = true) :
    keepE M id x = 0 ∧ keepT M id x = ttl ∧ (⟨id, ttl, maxI last x + ttl⟩ : Lease) ∈ (keepS M id x).l.l := by
  obtain ⟨i, hp, hi, he⟩ := place_of_mem h hm
  simp only at hp
  refine ⟨keepE_0.2 ⟨ht, by simp [hasS, hp]⟩, ?_, ?_⟩
  · unfold keepT; rw [if_pos ht, hp]; simp [hi, he]
  · unfold keepS; rw [if_pos ht, hp]
    simp only [Sl.l_of, List.getElem?_eq_getElem hi, Option.getD_some, he]
    have : keptL ⟨id, ttl, last + ttl⟩ x = ⟨id, ttl, maxI last x + ttl⟩ := by
      unfold keptL maxI
      by_cases c : last < x
      · simp only [if_pos c, if_pos (show last + ttl < x + ttl by omega)]
      · simp only [if_neg c, if_neg (show ¬ last + ttl < x + ttl by omega)]
    rw [this]
    exact List.mem_set hi _
theorem due_in {M : Leases} (h : mayS M = true) {id ttl last : Int} (hm : (⟨id, ttl, last + ttl⟩ : Lease) ∈ M.l.l) :
    allP (fun x => decide (x ≠ id)) (dueS M.l.l (last + ttl)) = false ∧ allP (fun x => decide (x ≠ id)) (dueS M.l.l (last + ttl - 1)) = true := by
  constructor
  · rw [Bool.eq_false_iff, ne_eq, allP_iff]
    intro hc
    have := hc id (List.mem_map.2 ⟨_, List.mem_filter.2 ⟨hm, by simp [dueP]⟩, rfl⟩)
    simp at this
  · rw [allP_iff]
    intro n hn
    obtain ⟨y, hy, rfl⟩ := List.mem_map.1 hn
    obtain ⟨hy, hd⟩ := List.mem_filter.1 hy
    simp only [decide_eq_true_eq]
    intro hc
    have := may_uniq h hy hm hc
    rw [this] at hd
    simp only [dueP, decide_eq_true_eq] at hd
    omega
theorem runG_pres {α β γ : Type} (P : β → Prop) (f : Nat → α → β → β ⊕ γ) (hf : ∀ k x b b', P b → f k x b = .inl b' → P b') : ∀ (l : List α) k b, P b → (∃ b', runG f k l b = .inl b' ∧ P b') ∨ ∃ c, runG f k l b = .inr c := by
  intro l
  induction l with
  | nil => intro k b h; exact .inl ⟨b, rfl, h⟩
  | cons x l ih =>
    intro k b h
    simp only [runG]
    rcases hx : f k x b with b' | c
    · exact ih _ _ (hf _ _ _ _ h hx)
    · exact .inr ⟨c, rfl⟩
theorem LeaseStays_law (L : Leases) (ttl : Int) (times : Sl Int) (hL : L.wf) (ht : I64 ttl) (he : (∀ x ∈ times.l, I64 x) ∧ times.l.length ≤ 9223372036854775807) : EvF tab 6 [A L.c, I ttl, .g (Ints.g times)] [] = some ⟨.g (.bool true), [], []⟩ := by
  refine EvF_walk t6 (by simp) ?_
  have m1 := fun H => May2_ev L hL H
  cases hm : mayS L <;> rw [hm] at m1
  · obtain ⟨nx, s⟩ := L
    simp only [A, Leases.c, List.map_cons, List.map_nil] at m1
    simp -implicitDefEqProofs [A, Leases.c, m1, live08]
  by_cases h2 : times.l.length ≤ 20
  case neg =>
    obtain ⟨nx, s⟩ := L
    simp only [A, Leases.c, List.map_cons, List.map_nil] at m1
    cases times <;> simp at h2 <;> simp -implicitDefEqProofs [A, Leases.c, m1, h2, show ∀ n : Nat, 20 < n → (20 : Int) < n from fun n h => by omega, live08]
  have small : ∀ n : Nat, n ≤ 20 → ¬ (20 : Int) < n := fun n h => by omega
  cases times with
  | nil =>
    obtain ⟨nx, s⟩ := L
    simp only [A, Leases.c, List.map_cons, List.map_nil] at m1
    simp -implicitDefEqProofs [A, Leases.c, m1, live08]
  | of ts =>
  cases ts with
  | nil =>
    obtain ⟨nx, s⟩ := L
    simp only [A, Leases.c, List.map_cons, List.map_nil] at m1
    simp -implicitDefEqProofs [A, Leases.c, m1, live08]
  | cons t0 r =>
  simp only [Sl.l_of, List.length_cons] at h2 he
  have sm := small _ h2
  have n1 := fun H => Grant_ev L ttl t0 hL H
  have hg := @grant_no L ttl t0
  have hg0 := @grant_yes L ttl t0 hm
  have p1 := may_grant hm ttl t0
  have sameL := fun H => Same_ev L L rfl rfl (by have := (mayS_iff.1 hm).2.1; omega) H
  by_cases hz : grantOk L ttl t0 = 0
  case neg =>
    obtain ⟨h3, h4⟩ := hg hz
    rw [h3, h4] at n1
    obtain ⟨go, ego⟩ : ∃ G, grantOk L ttl t0 = G := ⟨_, rfl⟩
    rw [ego] at n1 hz
    obtain ⟨nx, s⟩ := L
    simp only [A, Leases.c, List.map_cons, List.map_nil] at m1 n1 sameL
    simp -implicitDefEqProofs [A, Leases.c, Ints.c, m1, n1, hz, sameL, live08, sm, pends]
  obtain ⟨h3, _, _, _⟩ := hg0 hz
  rw [h3, hz] at n1
  obtain ⟨⟨z1, z2, z3⟩, z4⟩ := grantOk_0.1 hz
  have z5 := timeOk_iff.1 z3
  have z6 := (mayS_iff.1 hm).1
  have hmem : (⟨L.next + 1, ttl, t0 + ttl⟩ : Lease) ∈ (grantS L ttl t0).l.l := by
    simp [grantS, hz]
  obtain ⟨G, eG⟩ : ∃ G, grantS L ttl t0 = G := ⟨_, rfl⟩
  rw [eG] at n1 p1 hmem
  have hw := loop_runJ (E := EvF tab) (h := []) (c := L6_0) (lv := [1, 2, 7, 8, 10, 11]) (l := r) (β := Leases × Int) (γ := Unit)
    (fun k q => mayS q.1 = true ∧ timeOk q.2 = true ∧ (⟨L.next + 1, ttl, q.2 + ttl⟩ : Lease) ∈ q.1.l.l)
    (fun k x q => if timeOk x = true then .inl (keepS q.1 (L.next + 1) x, maxI q.2 x) else .inr ())
    (fun k q o => ⟨[(1, I ttl), (2, .g (Ints.g (.of (t0 :: r)))), (7, .ptr 1 0), (8, I (L.next + 1)), (10, I q.2), (11, I (k + 1 : Nat))], [], .cells [I L.next, .g (LeaseL.g L.l)] :: .cells [I q.1.next, .g (LeaseL.g q.1.l)] :: o⟩)
    (fun q o => (.exit 0, ⟨[(1, I ttl), (2, .g (Ints.g (.of (t0 :: r)))), (7, .ptr 1 0), (8, I (L.next + 1)), (10, I q.2), (11, I (r.length + 1 : Nat)), (53, B false)], [], .cells [I L.next, .g (LeaseL.g L.l)] :: .cells [I q.1.next, .g (LeaseL.g q.1.l)] :: o⟩))
    (fun _ o => (.ret, ⟨[(6, B true)], [], .cells [I L.next, .g (LeaseL.g L.l)] :: o⟩)) (by simp) (by simp) (fun k x q o hk hx hy hi => ?_) (fun q o hi => by delta L6_0; simp -implicitDefEqProofs) (G, t0) [] ⟨p1, z3, hmem⟩
  · obtain ⟨o', hw⟩ := hw
    have wf0 : IntKind.i64.wrap 1 = 1 := by decide +kernel
    rcases runG_pres (fun q : Leases × Int => mayS q.1 = true ∧ timeOk q.2 = true ∧ (⟨L.next + 1, ttl, q.2 + ttl⟩ : Lease) ∈ q.1.l.l) (fun k (x : Int) (q : Leases × Int) => if timeOk x = true then (.inl (keepS q.1 (L.next + 1) x, maxI q.2 x) : (Leases × Int) ⊕ Unit) else .inr ())
      (fun k x q q' hq hf => by
        by_cases hx : timeOk x = true
        · rw [if_pos hx] at hf
          cases hf
          refine ⟨may_keep hq.1 _ _, ?_, (keep_step hq.1 hq.2.2 hx).2.2⟩
          simp only [maxI]; split
          · exact hx
          · exact hq.2.1
        · rw [if_neg hx] at hf; cases hf) r 0 (G, t0) ⟨p1, z3, hmem⟩ with ⟨⟨M, last⟩, k1, k2, k3, k4⟩ | ⟨_, k1⟩
    · rw [k1] at hw
      simp only [endJ, Int.ofNat_zero, Int.cast_ofNat_Int, Nat.zero_add] at hw k2 k3 k4
      have k5 := timeOk_iff.1 k3
      obtain ⟨d1, d2⟩ := due_in k2 k4
      have hM := (mayS_iff.1 k2).2.1
      have m2 := fun H => Due_ev M (last + ttl) (by omega) H
      have m3 := fun H => Due_ev M (last + ttl - 1) (by omega) H
      have lf1 := List.length_filter_le (dueP (last + ttl)) M.l.l
      have lf2 := List.length_filter_le (dueP (last + ttl - 1)) M.l.l
      have m4 := fun H => in_ev (slOf (dueS M.l.l (last + ttl))) (L.next + 1) (by rw [slOf_l]; simp only [dueS, List.length_map]; omega) H
      have m5 := fun H => in_ev (slOf (dueS M.l.l (last + ttl - 1))) (L.next + 1) (by rw [slOf_l]; simp only [dueS, List.length_map]; omega) H
      rw [slOf_l, d1] at m4
      rw [slOf_l, d2] at m5
      have w1 : IntKind.i64.wrap (last + ttl) = last + ttl := wrap_i64 (by omega) (by omega)
      have w2 : IntKind.i64.wrap (last + ttl - 1) = last + ttl - 1 := wrap_i64 (by omega) (by omega)
      obtain ⟨d3, hd3⟩ : ∃ d, slOf (dueS M.l.l (last + ttl)) = d := ⟨_, rfl⟩
      obtain ⟨d4, hd4⟩ : ∃ d, slOf (dueS M.l.l (last + ttl - 1)) = d := ⟨_, rfl⟩
      rw [hd3] at m2 m4
      rw [hd4] at m3 m5
      clear hd3 hd4 d1 d2 hM lf1 lf2 eG hg hg0 hm
      obtain ⟨nx, s⟩ := L
      obtain ⟨gn, gl⟩ := G
      obtain ⟨mn, ml⟩ := M
      simp only [A, Leases.c, List.map_cons, List.map_nil] at m1 n1 m2 m3 m4 m5 hw
      simp [Ints.c] at hw
      simp -implicitDefEqProofs [A, Leases.c, Ints.c, m1, n1, sm, pends, hw, m2, m3, m4, m5, w1, w2, live08]
    · rw [k1] at hw
      simp only [endJ, Int.ofNat_zero, Int.cast_ofNat_Int, Nat.zero_add] at hw
      clear eG hg hg0 hm
      obtain ⟨nx, s⟩ := L
      obtain ⟨gn, gl⟩ := G
      simp only [A, Leases.c, List.map_cons, List.map_nil] at m1 n1 hw
      simp [Ints.c] at hw
      simp -implicitDefEqProofs [A, Leases.c, Ints.c, m1, n1, sm, pends, hw, live08]
  · obtain ⟨M, last⟩ := q
    obtain ⟨k2, k3, k4⟩ := hi
    simp only at k2 k3 k4
    have e2 : IntKind.i64.wrap ((k : Int) + 1 + 1) = (k : Int) + 1 + 1 := wrap_i64 (by omega) (by omega)
    have m2 := fun H => Keep_ev M (L.next + 1) x (may_small k2) H
    have hM := (mayS_iff.1 k2).2.1
    have u1 : ((k : Int) + 1).toNat = k + 1 := by omega
    have u2 : (0 : Int) ≤ (k : Int) + 1 := by omega
    by_cases hx2 : timeOk x = true
    · obtain ⟨q1, q2, q3⟩ := keep_step k2 k4 hx2
      rw [q1, q2] at m2
      have q4 := may_keep k2 (L.next + 1) x
      have q5 : timeOk (maxI last x) = true := by
        unfold maxI; split
        · exact hx2
        · exact k3
      simp only [if_pos hx2]
      obtain ⟨K, eK⟩ : ∃ K, keepS M (L.next + 1) x = K := ⟨_, rfl⟩
      rw [eK] at q3 q4 m2
      simp only [eK]
      refine ⟨⟨q4, q5, q3⟩, o ++ [.cells [I K.next, .g (LeaseL.g K.l)]], ?_⟩
      clear q3 q4 q5 k4 k2 eK eG hg hg0 hm hmem n1 m1 sameL
      obtain ⟨nx, s⟩ := L
      obtain ⟨mn, ml⟩ := M
      obtain ⟨kn, kl⟩ := K
      simp only [A, Leases.c, List.map_cons, List.map_nil] at m2
      delta L6_0
      simp only [maxI]
      by_cases c : last < x <;> simp -implicitDefEqProofs [hk, hy, Ints.c, m2, e2, u1, u2, pends, c]
    · have q1 : keepE M (L.next + 1) x = 1 := by unfold keepE; rw [if_neg hx2]
      obtain ⟨q2, q3⟩ := @keep_no M (L.next + 1) x (by rw [q1]; decide)
      rw [q1, q2, q3] at m2
      simp only [if_neg hx2]
      refine ⟨.cells [I M.next, .g (LeaseL.g M.l)] :: (o ++ [.cells [I M.next, .g (LeaseL.g M.l)]]), ?_⟩
      clear k4 k2 eG hg hg0 hm hmem n1 m1 sameL q1 q2 q3
      obtain ⟨nx, s⟩ := L
      obtain ⟨mn, ml⟩ := M
      simp only [A, Leases.c, List.map_cons, List.map_nil] at m2
      delta L6_0
      simp -implicitDefEqProofs [hk, hy, Ints.c, m2, e2, u1, u2, pends, live08]
end Go.Proofs.Ytlcjocciianphaa
