/- Leases that are due, and what leases hold: the program's functions and the reference's. -/
import Derived.Test.YtlcjocciianphaaSLease
namespace Go.Proofs.Ytlcjocciianphaa
open Go Go.AM Go.Proofs
set_option maxRecDepth 4000
set_option linter.unusedSimpArgs false
set_option linter.unusedVariables false
theorem runG_filter {α β : Type} (p : α → Bool) (f : α → β) : ∀ (l : List α) k r, runG (fun _ (x : α) (r : List β) => (if p x = true then .inl (r ++ [f x]) else .inl r : List β ⊕ Nat)) k l r = .inl (r ++ (l.filter p).map f) := by
  intro l
  induction l with
  | nil => intro k r; simp [runG]
  | cons x l ih =>
    intro k r
    cases h : p x
    · simp only [runG, h, Bool.false_eq_true, if_false, List.filter_cons]
      exact ih _ _
    · simp only [runG, h, if_true, List.filter_cons]
      rw [ih]; simp
def dueP (now : Int) (x : Lease) : Bool := decide (x.till ≤ now)
def dueS (l : List Lease) (now : Int) : List Int := (l.filter (dueP now)).map Lease.id
theorem Due_ev (L : Leases) (now : Int) (hl : L.l.l.length ≤ 1099511627776) (H : List Blk) : EvF tab 30 [A L.c, I now] H = some ⟨.g (Ints.g (slOf (dueS L.l.l now))), [], []⟩ := by
  refine EvF_walk t30 (by simp) ?_
  obtain ⟨nx, s⟩ := L
  simp only at hl ⊢
  have hw := loop_runJ (E := EvF tab) (h := H) (c := L30_0) (lv := [1, 5, 9, 10, 11]) (l := s.l) (β := List Int) (γ := Nat) (fun k r => r.length ≤ k) (fun _ x r => if dueP now x = true then .inl (r ++ [x.id]) else .inl r)
    (fun k r o => ⟨[(1, I now), (5, .ms (H.length + 2) (r.length + 1) 1 0 r.length), (9, .g (LeaseL.g s)), (10, I s.l.length), (11, I k)], [], .cells [I nx, .g (LeaseL.g s)] :: .rows 1 1 [] :: .rows 1 (r.length + 1) (r.map Ints.c) :: o⟩)
    (fun r o => (.exit 0, ⟨[(1, I now), (5, .ms (H.length + 2) (r.length + 1) 1 0 r.length), (9, .g (LeaseL.g s)), (10, I s.l.length), (11, I s.l.length), (12, B false)], [], .cells [I nx, .g (LeaseL.g s)] :: .rows 1 1 [] :: .rows 1 (r.length + 1) (r.map Ints.c) :: o⟩))
    (fun _ o => (.ret, ⟨[], [], o⟩)) (by simp) (by simp) (fun k x r o hk hx hy hi => ?_) (fun r o _ => by delta L30_0; simp -implicitDefEqProofs) [] [] (by simp)
  · obtain ⟨o', hw⟩ := hw
    rw [runG_filter] at hw
    simp only [endJ, List.nil_append, List.map_nil, List.length_nil, Int.ofNat_zero, Int.cast_ofNat_Int, Nat.zero_add] at hw
    rw [show (s.l.filter (dueP now)).map Lease.id = dueS s.l now from rfl] at hw
    obtain ⟨r, hr⟩ : ∃ r, dueS s.l now = r := ⟨_, rfl⟩
    rw [hr] at hw ⊢
    have e1 : List.take r.length (List.map Ints.c r) = List.map Ints.c r := List.take_of_length_le (by simp)
    cases r with
    | nil => simp -implicitDefEqProofs [A, Leases.c, hw, slOf]
    | cons y r =>
      have e1 : List.take r.length (List.map Ints.c r) = List.map Ints.c r := List.take_of_length_le (by simp)
      simp -implicitDefEqProofs [A, Leases.c, hw, slOf, e1]
  · have e2 := wrap_succ hk (by omega)
    delta L30_0
    cases s with
    | nil => simp at hk
    | of l =>
      simp only [Sl.l_of] at hk hy hl
      have e3 : List.take r.length (List.map Ints.c r) = List.map Ints.c r := List.take_of_length_le (by simp)
      by_cases hd : x.till ≤ now
      · have hp : dueP now x = true := by simp [dueP, hd]
        simp only [hp, if_true]
        refine ⟨by simp; omega, o ++ [.cells (x.c.map .g)], ?_⟩
        simp -implicitDefEqProofs [hk, hy, Lease.c, hd, e2, appV, room, Nat.not_succ_le_self, chunk, Ints.c, show r.length + 1 ≤ 140737488355328 by omega, show (r.length + 1) * 8 ≤ 140737488355328 by omega, e3]
      · have hp : dueP now x = false := by simp [dueP]; omega
        simp only [hp, Bool.false_eq_true, if_false]
        refine ⟨by omega, o ++ [.cells (x.c.map .g)], ?_⟩
        simp -implicitDefEqProofs [hk, hy, Lease.c, hd, e2]
theorem Due2_ev (L : Leases) (now : Int) (hl : L.l.l.length ≤ 1099511627776) (H : List Blk) : EvF tab 31 [A L.c, I now] H = some ⟨.g (Ints.g (slOf (dueS L.l.l now))), [], []⟩ := by
  refine EvF_walk t31 (by simp) ?_
  obtain ⟨nx, s⟩ := L
  simp only at hl ⊢
  have hw := loop_runJ (E := EvF tab) (h := H) (c := L31_0) (lv := [1, 2, 5, 6]) (l := s.l) (β := List Int) (γ := Nat) (fun k r => r.length ≤ k) (fun _ x r => if dueP now x = true then .inl (r ++ [x.id]) else .inl r)
    (fun k r o => ⟨[(1, I now), (2, .ptr H.length 0), (5, .ms (H.length + 2) (r.length + 1) 1 0 r.length), (6, I k)], [], [.cells [I nx, .g (LeaseL.g s)], .rows 1 1 [], .rows 1 (r.length + 1) (r.map Ints.c)]⟩)
    (fun r o => (.exit 0, ⟨[(1, I now), (2, .ptr H.length 0), (5, .ms (H.length + 2) (r.length + 1) 1 0 r.length), (6, I s.l.length), (11, B false)], [], [.cells [I nx, .g (LeaseL.g s)], .rows 1 1 [], .rows 1 (r.length + 1) (r.map Ints.c)]⟩))
    (fun _ o => (.ret, ⟨[], [], o⟩)) (by simp) (by simp) (fun k x r o hk hx hy hi => ?_) (fun r o _ => by delta L31_0; simp -implicitDefEqProofs) [] [] (by simp)
  · obtain ⟨o', hw⟩ := hw
    rw [runG_filter] at hw
    simp only [endJ, List.nil_append, List.map_nil, List.length_nil, Int.ofNat_zero, Int.cast_ofNat_Int, Nat.zero_add] at hw
    rw [show (s.l.filter (dueP now)).map Lease.id = dueS s.l now from rfl] at hw
    obtain ⟨r, hr⟩ : ∃ r, dueS s.l now = r := ⟨_, rfl⟩
    rw [hr] at hw ⊢
    cases r with
    | nil => simp -implicitDefEqProofs [A, Leases.c, hw, slOf]
    | cons y r =>
      have e1 : List.take r.length (List.map Ints.c r) = List.map Ints.c r := List.take_of_length_le (by simp)
      simp -implicitDefEqProofs [A, Leases.c, hw, slOf, e1]
  · have e2 := wrap_succ hk (by omega)
    delta L31_0
    cases s with
    | nil => simp at hk
    | of l =>
      simp only [Sl.l_of] at hk hy hl
      have e3 : List.take r.length (List.map Ints.c r) = List.map Ints.c r := List.take_of_length_le (by simp)
      by_cases hd : x.till ≤ now
      · have hp : dueP now x = true := by simp [dueP, hd]
        simp only [hp, if_true]
        refine ⟨by simp; omega, o, ?_⟩
        simp -implicitDefEqProofs [hk, hy, Lease.c, hd, e2, appV, room, Nat.not_succ_le_self, chunk, Ints.c, show r.length + 1 ≤ 140737488355328 by omega, show (r.length + 1) * 8 ≤ 140737488355328 by omega, e3]
      · have hp : dueP now x = false := by simp [dueP]; omega
        simp only [hp, Bool.false_eq_true, if_false]
        refine ⟨by omega, o, ?_⟩
        simp -implicitDefEqProofs [hk, hy, Lease.c, hd, e2]
def dropM (x : KV) : Mut := ⟨true, x.key, [], 0⟩
def dropP (id : Int) (x : KV) : Bool := decide (x.lease = id)
def dropsS (l : List KV) (id : Int) : List Mut := if id = 0 then [] else (l.filter (dropP id)).map dropM
theorem Drops_ev (s : KVs) (id : Int) (hl : s.l.length ≤ 1099511627776) (H : List Blk) : EvF tab 33 [.g (KVs.g s), I id] H = some ⟨.g (Muts.g (slOf (dropsS s.l id))), [], []⟩ := by
  refine EvF_walk t33 (by simp) ?_
  unfold dropsS
  by_cases h0 : id = 0
  · simp -implicitDefEqProofs [h0, slOf]
  simp only [if_neg h0]
  have hw := loop_runJ (E := EvF tab) (h := H) (c := L33_0) (lv := [1, 5, 10, 11, 12]) (l := s.l) (β := List Mut) (γ := Nat) (fun k r => r.length ≤ k) (fun _ x r => if dropP id x = true then .inl (r ++ [dropM x]) else .inl r)
    (fun k r o => ⟨[(1, I id), (5, .ms (H.length + 1) (r.length + 1) 4 0 r.length), (10, .g (KVs.g s)), (11, I s.l.length), (12, I k)], [], .rows 4 1 [] :: .rows 4 (r.length + 1) (r.map Mut.c) :: o⟩)
    (fun r o => (.exit 0, ⟨[(1, I id), (5, .ms (H.length + 1) (r.length + 1) 4 0 r.length), (10, .g (KVs.g s)), (11, I s.l.length), (12, I s.l.length), (13, B false)], [], .rows 4 1 [] :: .rows 4 (r.length + 1) (r.map Mut.c) :: o⟩))
    (fun _ o => (.ret, ⟨[], [], o⟩)) (by simp) (by simp) (fun k x r o hk hx hy hi => ?_) (fun r o _ => by delta L33_0; simp -implicitDefEqProofs) [] [] (by simp)
  · obtain ⟨o', hw⟩ := hw
    rw [runG_filter] at hw
    simp only [endJ, List.nil_append, List.map_nil, List.length_nil, Int.ofNat_zero, Int.cast_ofNat_Int, Nat.zero_add] at hw
    obtain ⟨r, hr⟩ : ∃ r, (s.l.filter (dropP id)).map dropM = r := ⟨_, rfl⟩
    rw [hr] at hw ⊢
    cases r with
    | nil => simp -implicitDefEqProofs [h0, hw, slOf]
    | cons y r =>
      have e1 : List.take r.length (List.map Mut.c r) = List.map Mut.c r := List.take_of_length_le (by simp)
      simp -implicitDefEqProofs [h0, hw, slOf, e1]
  · have e2 := wrap_succ hk (by omega)
    delta L33_0
    cases s with
    | nil => simp at hk
    | of l =>
      simp only [Sl.l_of] at hk hy hl
      have e3 : List.take r.length (List.map Mut.c r) = List.map Mut.c r := List.take_of_length_le (by simp)
      by_cases hd : x.lease = id
      · have hp : dropP id x = true := by simp [dropP, hd]
        simp only [hp, if_true]
        refine ⟨by simp; omega, o ++ [.cells (x.c.map .g)], ?_⟩
        simp -implicitDefEqProofs [hk, hy, KV.c, hd, e2, appV, room, Nat.not_succ_le_self, chunk, Mut.c, dropM, show r.length + 1 ≤ 140737488355328 by omega, show (r.length + 1) * 48 ≤ 140737488355328 by omega, e3]
      · have hp : dropP id x = false := by simp [dropP, hd]
        simp only [hp, Bool.false_eq_true, if_false]
        refine ⟨by omega, o ++ [.cells (x.c.map .g)], ?_⟩
        simp -implicitDefEqProofs [hk, hy, KV.c, hd, e2]
theorem Drops2_ev (s : KVs) (id : Int) (hl : s.l.length ≤ 1099511627776) (H : List Blk) : EvF tab 34 [.g (KVs.g s), I id] H = some ⟨.g (Muts.g (slOf (dropsS s.l id))), [], []⟩ := by
  refine EvF_walk t34 (by simp) ?_
  have hw := loop_runJ (E := EvF tab) (h := H) (c := L34_0) (lv := [0, 1, 5, 6]) (l := s.l) (β := List Mut) (γ := Nat) (fun k r => r.length ≤ k) (fun _ x r => if (!decide (id = 0) && dropP id x) = true then .inl (r ++ [dropM x]) else .inl r)
    (fun k r o => ⟨[(0, .g (KVs.g s)), (1, I id), (5, .ms (H.length + 1) (r.length + 1) 4 0 r.length), (6, I k)], [], [.rows 4 1 [], .rows 4 (r.length + 1) (r.map Mut.c)]⟩)
    (fun r o => (.exit 0, ⟨[(0, .g (KVs.g s)), (1, I id), (5, .ms (H.length + 1) (r.length + 1) 4 0 r.length), (6, I s.l.length), (10, B false)], [], [.rows 4 1 [], .rows 4 (r.length + 1) (r.map Mut.c)]⟩))
    (fun _ o => (.ret, ⟨[], [], o⟩)) (by simp) (by simp) (fun k x r o hk hx hy hi => ?_) (fun r o _ => by delta L34_0; simp -implicitDefEqProofs) [] [] (by simp)
  · obtain ⟨o', hw⟩ := hw
    rw [runG_filter (fun x => !decide (id = 0) && dropP id x) dropM] at hw
    simp only [endJ, List.nil_append, List.map_nil, List.length_nil, Int.ofNat_zero, Int.cast_ofNat_Int, Nat.zero_add] at hw
    have hd : (s.l.filter (fun x => !decide (id = 0) && dropP id x)).map dropM = dropsS s.l id := by
      unfold dropsS
      by_cases h0 : id = 0
      · simp [h0]
      · simp [h0]
    rw [hd] at hw
    obtain ⟨r, hr⟩ : ∃ r, dropsS s.l id = r := ⟨_, rfl⟩
    rw [hr] at hw ⊢
    cases r with
    | nil => simp -implicitDefEqProofs [hw, slOf]
    | cons y r =>
      have e1 : List.take r.length (List.map Mut.c r) = List.map Mut.c r := List.take_of_length_le (by simp)
      simp -implicitDefEqProofs [hw, slOf, e1]
  · have e2 := wrap_succ hk (by omega)
    delta L34_0
    cases s with
    | nil => simp at hk
    | of l =>
      simp only [Sl.l_of] at hk hy hl
      have e3 : List.take r.length (List.map Mut.c r) = List.map Mut.c r := List.take_of_length_le (by simp)
      by_cases h0 : id = 0
      · have hp : (!decide (id = 0) && dropP id x) = false := by simp [h0]
        simp only [hp, Bool.false_eq_true, if_false]
        refine ⟨by omega, o, ?_⟩
        simp -implicitDefEqProofs [hk, hy, KV.c, h0, e2]
      · by_cases hd : x.lease = id
        · have hp : (!decide (id = 0) && dropP id x) = true := by simp [dropP, hd, h0]
          simp only [hp, if_true]
          refine ⟨by simp; omega, o, ?_⟩
          simp -implicitDefEqProofs [hk, hy, KV.c, hd, h0, e2, appV, room, Nat.not_succ_le_self, chunk, Mut.c, dropM, show r.length + 1 ≤ 140737488355328 by omega, show (r.length + 1) * 48 ≤ 140737488355328 by omega, e3]
        · have hp : (!decide (id = 0) && dropP id x) = false := by simp [dropP, hd]
          simp only [hp, Bool.false_eq_true, if_false]
          refine ⟨by omega, o, ?_⟩
          simp -implicitDefEqProofs [hk, hy, KV.c, hd, h0, e2]
end Go.Proofs.Ytlcjocciianphaa
