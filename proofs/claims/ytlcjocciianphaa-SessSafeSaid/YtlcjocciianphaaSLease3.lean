/- Leases that may be, and what is the same: the program's functions and the reference's. -/
import Derived.Test.YtlcjocciianphaaSLease2
namespace Go.Proofs.Ytlcjocciianphaa
open Go Go.AM Go.Proofs
set_option maxRecDepth 4000
set_option linter.unusedSimpArgs false
set_option linter.unusedVariables false
def okL (next last : Int) (x : Lease) : Bool := decide (last < x.id) && decide (x.id ≤ next) && decide (1 ≤ x.ttl) && decide (x.ttl ≤ 1000) && decide (0 ≤ x.till) && decide (x.till ≤ 1099511627775 + x.ttl)
theorem okL_iff {next last : Int} {x : Lease} : okL next last x = true ↔ last < x.id ∧ x.id ≤ next ∧ 1 ≤ x.ttl ∧ x.ttl ≤ 1000 ∧ 0 ≤ x.till ∧ x.till ≤ 1099511627775 + x.ttl := by
  simp [okL, Bool.and_eq_true, and_assoc]
def mayG (next : Int) : Int → List Lease → Bool
  | _, [] => true
  | last, x :: r => okL next last x && mayG next x.id r
def mayS (L : Leases) : Bool := timeOk L.next && decide (L.l.l.length ≤ 8) && mayG L.next 0 L.l.l
theorem runG_may (next : Int) : ∀ (l : List Lease) k last, (∃ b, runG (fun _ (x : Lease) (last : Int) => (if okL next last x = true then .inl x.id else .inr 0 : Int ⊕ Nat)) k l last = .inl b ∧ mayG next last l = true) ∨
    (runG (fun _ (x : Lease) (last : Int) => (if okL next last x = true then .inl x.id else .inr 0 : Int ⊕ Nat)) k l last = .inr 0 ∧ mayG next last l = false) := by
  intro l
  induction l with
  | nil => intro k last; exact .inl ⟨last, rfl, rfl⟩
  | cons x l ih =>
    intro k last
    cases h : okL next last x
    · right; simp only [runG, mayG, h, Bool.false_eq_true, if_false, Bool.false_and, and_self]
    · simp only [runG, mayG, h, if_true, Bool.true_and]
      exact ih _ _
theorem May_ev (L : Leases) (hL : L.wf) (H : List Blk) : EvF tab 22 [A L.c] H = some ⟨B (mayS L), [], []⟩ := by
  refine EvF_walk t22 (by simp) ?_
  have m1 := fun n H => moment_ev n H
  obtain ⟨nx, s⟩ := L
  obtain ⟨⟨hn1, hn2⟩, hw, hl⟩ := hL
  simp only at hn1 hn2 hl hw
  unfold mayS
  simp only
  cases h1 : timeOk nx
  · simp -implicitDefEqProofs [A, Leases.c, m1, h1]
  by_cases h2 : s.l.length ≤ 8
  case neg => simp -implicitDefEqProofs [A, Leases.c, m1, h1, h2, show (8 : Int) < s.l.length by omega]
  have hq := loop_runJ (E := EvF tab) (h := H) (c := L22_0) (lv := [1, 3, 17, 18, 19]) (l := s.l) (β := Int) (γ := Nat) (fun _ _ => True) (fun _ x last => if okL nx last x = true then .inl x.id else .inr 0)
    (fun k r o => ⟨[(1, .ptr H.length 0), (3, I r), (17, .g (LeaseL.g s)), (18, I s.l.length), (19, I k)], [], .cells [I nx, .g (LeaseL.g s)] :: o⟩)
    (fun r o => (.exit 0, ⟨[(1, .ptr H.length 0), (3, I r), (17, .g (LeaseL.g s)), (18, I s.l.length), (19, I s.l.length), (20, B false)], [], .cells [I nx, .g (LeaseL.g s)] :: o⟩))
    (fun _ o => (.ret, ⟨[(2, B false)], [], .cells [I nx, .g (LeaseL.g s)] :: o⟩)) (by simp) (by simp) (fun k x r o hk hx hy hi => ?_) (fun r o _ => by delta L22_0; simp -implicitDefEqProofs) 0 [] trivial
  · obtain ⟨o', hq⟩ := hq
    simp only [Int.ofNat_zero, Int.cast_ofNat_Int] at hq
    rcases runG_may nx s.l 0 0 with ⟨b, k1, k2⟩ | ⟨k1, k2⟩ <;> rw [k1] at hq <;> simp only [endJ] at hq <;> simp -implicitDefEqProofs [A, Leases.c, m1, h1, h2, show ¬ (8 : Int) < s.l.length by omega, hq, k2]
  · have e2 := wrap_succ hk (by omega)
    have hx2 : x ∈ s.l := by rw [← hy]; exact List.getElem_mem _
    obtain ⟨⟨i1, i2⟩, ⟨i3, i4⟩, ⟨i5, i6⟩⟩ := hw x hx2
    delta L22_0
    cases s with
    | nil => simp at hk
    | of l =>
      simp only [Sl.l_of] at hk hy hl
      have fail : okL nx r x = false → (if okL nx r x = true then (Sum.inl x.id : Int ⊕ Nat) else .inr 0) = .inr 0 := fun h => by simp [h]
      by_cases c1 : r < x.id
      case neg =>
        rw [fail (by simp [okL, c1])]
        exact ⟨o ++ [.cells (x.c.map .g)], by simp -implicitDefEqProofs [hk, hy, Lease.c, show x.id ≤ r by omega]⟩
      by_cases c2 : x.id ≤ nx
      case neg =>
        rw [fail (by simp [okL, c2])]
        exact ⟨o ++ [.cells (x.c.map .g)], by simp -implicitDefEqProofs [hk, hy, Lease.c, show ¬ x.id ≤ r by omega, show nx < x.id by omega]⟩
      by_cases c3 : 1 ≤ x.ttl
      case neg =>
        rw [fail (by simp [okL, c3])]
        exact ⟨o ++ [.cells (x.c.map .g)], by simp -implicitDefEqProofs [hk, hy, Lease.c, show ¬ x.id ≤ r by omega, show ¬ nx < x.id by omega, show x.ttl < 1 by omega]⟩
      by_cases c4 : x.ttl ≤ 1000
      case neg =>
        rw [fail (by simp [okL, c4])]
        exact ⟨o ++ [.cells (x.c.map .g)], by simp -implicitDefEqProofs [hk, hy, Lease.c, show ¬ x.id ≤ r by omega, show ¬ nx < x.id by omega, show ¬ x.ttl < 1 by omega, show 1000 < x.ttl by omega]⟩
      by_cases c5 : 0 ≤ x.till
      case neg =>
        rw [fail (by simp [okL, c5])]
        exact ⟨o ++ [.cells (x.c.map .g)], by simp -implicitDefEqProofs [hk, hy, Lease.c, show ¬ x.id ≤ r by omega, show ¬ nx < x.id by omega, show ¬ x.ttl < 1 by omega, show ¬ 1000 < x.ttl by omega, show x.till < 0 by omega]⟩
      have e3 : IntKind.i64.wrap (x.till - x.ttl) = x.till - x.ttl := wrap_i64 (by omega) (by omega)
      have e4 : timeOk (if x.ttl < x.till then x.till - x.ttl else 0) = decide (x.till ≤ 1099511627775 + x.ttl) := by
        unfold timeOk
        rw [Bool.eq_iff_iff]
        simp only [Bool.and_eq_true, decide_eq_true_eq]
        split <;> constructor <;> intro h <;> omega
      have e5 := fun H => m1 (if x.ttl < x.till then x.till - x.ttl else 0) H
      rw [e4] at e5
      by_cases c6 : x.till ≤ 1099511627775 + x.ttl
      case neg =>
        rw [fail (by simp [okL, c6])]
        rw [decide_eq_false c6] at e5
        exact ⟨o ++ [.cells (x.c.map .g)], by simp -implicitDefEqProofs [hk, hy, Lease.c, show ¬ x.id ≤ r by omega, show ¬ nx < x.id by omega, show ¬ x.ttl < 1 by omega, show ¬ 1000 < x.ttl by omega, show ¬ x.till < 0 by omega, e3, e5]⟩
      rw [decide_eq_true c6] at e5
      rw [if_pos (okL_iff.2 ⟨c1, c2, c3, c4, c5, c6⟩)]
      exact ⟨trivial, o ++ [.cells (x.c.map .g)], by simp -implicitDefEqProofs [hk, hy, Lease.c, show ¬ x.id ≤ r by omega, show ¬ nx < x.id by omega, show ¬ x.ttl < 1 by omega, show ¬ 1000 < x.ttl by omega, show ¬ x.till < 0 by omega, e3, e5, e2]⟩
theorem May2_ev (L : Leases) (hL : L.wf) (H : List Blk) : EvF tab 23 [A L.c] H = some ⟨B (mayS L), [], []⟩ := by
  refine EvF_walk t23 (by simp) ?_
  have m1 := fun n H => timeR_ev n H
  obtain ⟨nx, s⟩ := L
  obtain ⟨⟨hn1, hn2⟩, hw, hl⟩ := hL
  simp only at hn1 hn2 hl hw
  unfold mayS
  simp only
  cases h1 : timeOk nx
  · simp -implicitDefEqProofs [A, Leases.c, m1, h1]
  by_cases h2 : s.l.length ≤ 8
  case neg => simp -implicitDefEqProofs [A, Leases.c, m1, h1, h2, show (8 : Int) < s.l.length by omega]
  have hq := loop_runJ (E := EvF tab) (h := H) (c := L23_0) (lv := [1, 3]) (l := s.l) (β := Int) (γ := Nat) (fun k r => (k = 0 → r = 0) ∧ (0 < k → 1 ≤ r ∧ ∃ y, s.l[k - 1]? = some y ∧ y.id = r)) (fun _ x last => if okL nx last x = true then .inl x.id else .inr 0)
    (fun k r o => ⟨[(1, .ptr H.length 0), (3, I k)], [], .cells [I nx, .g (LeaseL.g s)] :: o⟩)
    (fun r o => (.exit 0, ⟨[(1, .ptr H.length 0), (3, I s.l.length), (19, B false)], [], .cells [I nx, .g (LeaseL.g s)] :: o⟩))
    (fun _ o => (.ret, ⟨[(2, B false)], [], .cells [I nx, .g (LeaseL.g s)] :: o⟩)) (by simp) (by simp) (fun k x r o hk hx hy hi => ?_) (fun r o _ => by delta L23_0; simp -implicitDefEqProofs) 0 [] ⟨fun _ => rfl, fun h => by omega⟩
  · obtain ⟨o', hq⟩ := hq
    simp only [Int.ofNat_zero, Int.cast_ofNat_Int] at hq
    rcases runG_may nx s.l 0 0 with ⟨b, k1, k2⟩ | ⟨k1, k2⟩ <;> rw [k1] at hq <;> simp only [endJ] at hq <;> simp -implicitDefEqProofs [A, Leases.c, m1, h1, h2, show ¬ (8 : Int) < s.l.length by omega, hq, k2]
  · have e2 := wrap_succ hk (by omega)
    have hx2 : x ∈ s.l := by rw [← hy]; exact List.getElem_mem _
    obtain ⟨⟨i1, i2⟩, ⟨i3, i4⟩, ⟨i5, i6⟩⟩ := hw x hx2
    obtain ⟨hi0, hi1⟩ := hi
    delta L23_0
    cases s with
    | nil => simp at hk
    | of l =>
      simp only [Sl.l_of] at hk hy hl hi1
      have fail : okL nx r x = false → (if okL nx r x = true then (Sum.inl x.id : Int ⊕ Nat) else .inr 0) = .inr 0 := fun h => by simp [h]
      have hr0 : 0 ≤ r := by
        rcases Nat.eq_zero_or_pos k with h | h
        · rw [hi0 h]; omega
        · have := (hi1 h).1; omega
      by_cases c0 : 1 ≤ x.id
      case neg =>
        rw [fail (by simp [okL]; omega)]
        exact ⟨o ++ [.cells (x.c.map .g)], by simp -implicitDefEqProofs [hk, hy, Lease.c, show x.id < 1 by omega]⟩
      by_cases c2 : x.id ≤ nx
      case neg =>
        rw [fail (by simp [okL, c2])]
        exact ⟨o ++ [.cells (x.c.map .g)], by simp -implicitDefEqProofs [hk, hy, Lease.c, show ¬ x.id < 1 by omega, show nx < x.id by omega]⟩
      have e6 : IntKind.i64.wrap (1099511627775 + x.ttl) = 1099511627775 + x.ttl ∨ 1000 < x.ttl ∨ x.ttl < 1 := by
        by_cases h : 1000 < x.ttl ∨ x.ttl < 1
        · exact .inr h
        · exact .inl (wrap_i64 (by omega) (by omega))
      cases k with
      | zero =>
        have hr := hi0 rfl
        subst hr
        have c1 : 0 < x.id := by omega
        by_cases c3 : 1 ≤ x.ttl
        case neg =>
          rw [fail (by simp [okL, c3])]
          exact ⟨o ++ [.cells (x.c.map .g)], by simp -implicitDefEqProofs [hk, hy, Lease.c, show ¬ x.id < 1 by omega, show ¬ nx < x.id by omega, show x.ttl < 1 by omega]⟩
        by_cases c4 : x.ttl ≤ 1000
        case neg =>
          rw [fail (by simp [okL, c4])]
          exact ⟨o ++ [.cells (x.c.map .g)], by simp -implicitDefEqProofs [hk, hy, Lease.c, show ¬ x.id < 1 by omega, show ¬ nx < x.id by omega, show ¬ x.ttl < 1 by omega, show 1000 < x.ttl by omega]⟩
        by_cases c5 : 0 ≤ x.till
        case neg =>
          rw [fail (by simp [okL, c5])]
          exact ⟨o ++ [.cells (x.c.map .g)], by simp -implicitDefEqProofs [hk, hy, Lease.c, show ¬ x.id < 1 by omega, show ¬ nx < x.id by omega, show ¬ x.ttl < 1 by omega, show ¬ 1000 < x.ttl by omega, show x.till < 0 by omega]⟩
        have e7 : IntKind.i64.wrap (1099511627775 + x.ttl) = 1099511627775 + x.ttl := e6.elim id (fun h => by omega)
        by_cases c6 : x.till ≤ 1099511627775 + x.ttl
        case neg =>
          rw [fail (by simp [okL, c6])]
          exact ⟨o ++ [.cells (x.c.map .g)], by simp -implicitDefEqProofs [hk, hy, Lease.c, show ¬ x.id < 1 by omega, show ¬ nx < x.id by omega, show ¬ x.ttl < 1 by omega, show ¬ 1000 < x.ttl by omega, show ¬ x.till < 0 by omega, e7, show 1099511627775 + x.ttl < x.till by omega]⟩
        rw [if_pos (okL_iff.2 ⟨c1, c2, c3, c4, c5, c6⟩)]
        exact ⟨⟨fun h => by omega, fun _ => ⟨by omega, x, by simp [hk, hy], rfl⟩⟩, o ++ [.cells (x.c.map .g)], by simp -implicitDefEqProofs [hk, hy, Lease.c, show ¬ x.id < 1 by omega, show ¬ nx < x.id by omega, show ¬ x.ttl < 1 by omega, show ¬ 1000 < x.ttl by omega, show ¬ x.till < 0 by omega, e7, show ¬ 1099511627775 + x.ttl < x.till by omega, e2, show IntKind.i64.wrap 1 = 1 by decide +kernel]⟩
      | succ k =>
        obtain ⟨hr1, z, hz, hzr⟩ := hi1 (by omega)
        simp only [Nat.add_sub_cancel] at hz
        obtain ⟨hkz, hz2⟩ := List.getElem?_eq_some_iff.1 hz
        have w1 : IntKind.i64.wrap (k : Int) = k := wrap_i64 (by omega) (by omega)
        have w2 : IntKind.i64.wrap ((k : Int) + 1) = (k : Int) + 1 := wrap_i64 (by omega) (by omega)
        have w3 : IntKind.i64.wrap ((k : Int) + 1 - 1) = k := by rw [show (k : Int) + 1 - 1 = k by omega]; exact w1
        have w4 : (k : Int) + 1 < l.length := by omega
        have w5 : (0 : Int) ≤ (k : Int) + 1 := by omega
        have w6 : ((k : Int) + 1).toNat = k + 1 := by omega
        have w7 : IntKind.i64.wrap ((k : Int) + 1 + 1) = (k : Int) + 1 + 1 := wrap_i64 (by omega) (by omega)
        by_cases c1 : r < x.id
        case neg =>
          rw [fail (by simp [okL, c1])]
          exact ⟨o ++ [.cells (x.c.map .g)], by simp -implicitDefEqProofs [hk, hy, Lease.c, show ¬ x.id < 1 by omega, show ¬ nx < x.id by omega, w1, w3, w4, w5, w6, hkz, hz2, hzr, show x.id ≤ r by omega]⟩
        by_cases c3 : 1 ≤ x.ttl
        case neg =>
          rw [fail (by simp [okL, c3])]
          exact ⟨o ++ [.cells (x.c.map .g)], by simp -implicitDefEqProofs [hk, hy, Lease.c, show ¬ x.id < 1 by omega, show ¬ nx < x.id by omega, w1, w3, w4, w5, w6, hkz, hz2, hzr, show ¬ x.id ≤ r by omega, show x.ttl < 1 by omega]⟩
        by_cases c4 : x.ttl ≤ 1000
        case neg =>
          rw [fail (by simp [okL, c4])]
          exact ⟨o ++ [.cells (x.c.map .g)], by simp -implicitDefEqProofs [hk, hy, Lease.c, show ¬ x.id < 1 by omega, show ¬ nx < x.id by omega, w1, w3, w4, w5, w6, hkz, hz2, hzr, show ¬ x.id ≤ r by omega, show ¬ x.ttl < 1 by omega, show 1000 < x.ttl by omega]⟩
        by_cases c5 : 0 ≤ x.till
        case neg =>
          rw [fail (by simp [okL, c5])]
          exact ⟨o ++ [.cells (x.c.map .g)], by simp -implicitDefEqProofs [hk, hy, Lease.c, show ¬ x.id < 1 by omega, show ¬ nx < x.id by omega, w1, w3, w4, w5, w6, hkz, hz2, hzr, show ¬ x.id ≤ r by omega, show ¬ x.ttl < 1 by omega, show ¬ 1000 < x.ttl by omega, show x.till < 0 by omega]⟩
        have e7 : IntKind.i64.wrap (1099511627775 + x.ttl) = 1099511627775 + x.ttl := e6.elim id (fun h => by omega)
        by_cases c6 : x.till ≤ 1099511627775 + x.ttl
        case neg =>
          rw [fail (by simp [okL, c6])]
          exact ⟨o ++ [.cells (x.c.map .g)], by simp -implicitDefEqProofs [hk, hy, Lease.c, show ¬ x.id < 1 by omega, show ¬ nx < x.id by omega, w1, w3, w4, w5, w6, hkz, hz2, hzr, show ¬ x.id ≤ r by omega, show ¬ x.ttl < 1 by omega, show ¬ 1000 < x.ttl by omega, show ¬ x.till < 0 by omega, e7, show 1099511627775 + x.ttl < x.till by omega]⟩
        rw [if_pos (okL_iff.2 ⟨c1, c2, c3, c4, c5, c6⟩)]
        exact ⟨⟨fun h => by omega, fun _ => ⟨by omega, x, by simp [hk, hy], rfl⟩⟩, o ++ [.cells (x.c.map .g)], by simp -implicitDefEqProofs [hk, hy, Lease.c, show ¬ x.id < 1 by omega, show ¬ nx < x.id by omega, w1, w3, w4, w5, w6, hkz, hz2, hzr, show ¬ x.id ≤ r by omega, show ¬ x.ttl < 1 by omega, show ¬ 1000 < x.ttl by omega, show ¬ x.till < 0 by omega, e7, show ¬ 1099511627775 + x.ttl < x.till by omega, e2, w7]⟩
end Go.Proofs.Ytlcjocciianphaa
