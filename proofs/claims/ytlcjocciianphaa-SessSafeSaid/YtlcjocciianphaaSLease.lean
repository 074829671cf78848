/- Leases: what the functions answer, the program's and the reference's. -/
import Derived.Test.YtlcjocciianphaaTabA
import Derived.Test.YtlcjocciianphaaAMJ3
import Derived.KernelRfl
namespace Go.Proofs.Ytlcjocciianphaa
open Go Go.AM Go.Proofs
set_option maxRecDepth 4000
set_option linter.unusedSimpArgs false
set_option linter.unusedVariables false
def placeN (id : Int) : Nat → List Lease → Option Nat
  | _, [] => none
  | k, x :: r => if x.id = id then some k else placeN id (k + 1) r
def placeI (id : Int) (l : List Lease) : Int := match placeN id 0 l with
  | some i => i
  | none => -1
theorem place_ev (L : Leases) (id : Int) (hl : L.l.l.length ≤ 9223372036854775807) (H : List Blk) : EvF tab 64 [A L.c, I id] H = some ⟨I (placeI id L.l.l), [], []⟩ := by
  refine EvF_walk t64 (by simp) ?_
  obtain ⟨nx, s⟩ := L
  simp only at hl
  have hw := fun o => loop_runJ (E := EvF tab) (h := H) (c := L64_0) (lv := [1, 5, 9, 10, 11]) (l := s.l) (β := Unit) (γ := Nat) (fun _ _ => True) (fun k x _ => if x.id = id then .inr k else .inl ())
    (fun k _ o => ⟨[(1, I id), (5, I (-1)), (9, .g (LeaseL.g s)), (10, I s.l.length), (11, I k)], [], o⟩)
    (fun _ o => (.exit 0, ⟨[(1, I id), (5, I (-1)), (9, .g (LeaseL.g s)), (10, I s.l.length), (11, I s.l.length), (12, B false)], [], o⟩))
    (fun i o => (.exit 0, ⟨[(5, I i)], [], o⟩)) (by simp) (by simp) (fun k x b o hk hx hy _ => ?_) (fun b o _ => by delta L64_0; simp -implicitDefEqProofs) () o trivial
  · obtain ⟨o', hw⟩ := hw [.cells [I nx, .g (LeaseL.g s)]]
    have key : ∀ (l : List Lease) k, runG (fun k (x : Lease) (_ : Unit) => if x.id = id then .inr k else .inl ()) k l () = match placeN id k l with | some i => .inr i | none => (.inl () : Unit ⊕ Nat) := by
      intro l
      induction l with
      | nil => intro k; rfl
      | cons x l ih =>
        intro k
        simp only [runG, placeN]
        by_cases h : x.id = id <;> simp only [h, if_true, if_false]
        exact ih _
    rw [key] at hw
    simp only [Int.ofNat_zero, Int.cast_ofNat_Int] at hw
    unfold placeI
    rcases hq : placeN id 0 s.l with _ | i <;> rw [hq] at hw <;> simp only [endJ] at hw <;> simp -implicitDefEqProofs [A, Leases.c, hw]
  · have e2 := wrap_succ hk hl
    delta L64_0
    cases s with
    | nil => simp at hk
    | of l =>
      simp only [Sl.l_of] at hk hy
      by_cases hi : x.id = id
      · simp only [if_pos hi]
        exact ⟨o ++ [.cells (x.c.map .g)], by simp -implicitDefEqProofs [hk, hy, Lease.c, hi]⟩
      · simp only [if_neg hi]
        exact ⟨trivial, o ++ [.cells (x.c.map .g)], by simp -implicitDefEqProofs [hk, hy, Lease.c, hi, e2]⟩
theorem runG_place (id : Int) : ∀ (l : List Lease) k, runG (fun k (x : Lease) (_ : Unit) => if x.id = id then .inr k else .inl ()) k l () = match placeN id k l with | some i => .inr i | none => (.inl () : Unit ⊕ Nat) := by
  intro l
  induction l with
  | nil => intro k; rfl
  | cons x l ih =>
    intro k
    simp only [runG, placeN]
    by_cases h : x.id = id <;> simp only [h, if_true, if_false]
    exact ih _
theorem place2_ev (L : Leases) (id : Int) (hl : L.l.l.length ≤ 9223372036854775807) (H : List Blk) : EvF tab 66 [A L.c, I id] H = some ⟨I (placeI id L.l.l), [], []⟩ := by
  refine EvF_walk t66 (by simp) ?_
  obtain ⟨nx, s⟩ := L
  simp only at hl
  have hw := loop_runJ (E := EvF tab) (h := H) (c := L66_0) (lv := [1, 2, 5]) (l := s.l) (β := Unit) (γ := Nat) (fun _ _ => True) (fun k x _ => if x.id = id then .inr k else .inl ())
    (fun k _ o => ⟨[(1, I id), (2, .ptr H.length 0), (5, I k)], [], [.cells [I nx, .g (LeaseL.g s)]]⟩)
    (fun _ o => (.exit 0, ⟨[(1, I id), (2, .ptr H.length 0), (5, I s.l.length), (10, B false)], [], [.cells [I nx, .g (LeaseL.g s)]]⟩))
    (fun i o => (.ret, ⟨[(4, I i)], [], [.cells [I nx, .g (LeaseL.g s)]]⟩)) (by simp) (by simp) (fun k x b o hk hx hy _ => ?_) (fun b o _ => by delta L66_0; simp -implicitDefEqProofs) () [] trivial
  · obtain ⟨o', hw⟩ := hw
    rw [runG_place] at hw
    simp only [Int.ofNat_zero, Int.cast_ofNat_Int] at hw
    unfold placeI
    rcases hq : placeN id 0 s.l with _ | i <;> rw [hq] at hw <;> simp only [endJ] at hw <;> simp -implicitDefEqProofs [A, Leases.c, hw]
  · have e2 := wrap_succ hk hl
    delta L66_0
    cases s with
    | nil => simp at hk
    | of l =>
      simp only [Sl.l_of] at hk hy
      by_cases hi : x.id = id
      · simp only [if_pos hi]
        exact ⟨o, by simp -implicitDefEqProofs [hk, hy, Lease.c, hi]⟩
      · simp only [if_neg hi]
        exact ⟨trivial, o, by simp -implicitDefEqProofs [hk, hy, Lease.c, hi, e2]⟩
def timeOk (n : Int) : Bool := decide (0 ≤ n) && decide (n ≤ 1099511627775)
theorem timeOk_iff {n : Int} : timeOk n = true ↔ 0 ≤ n ∧ n ≤ 1099511627775 := by simp [timeOk]
theorem moment_ev (n : Int) (H : List Blk) : EvF tab 60 [I n] H = some ⟨B (timeOk n), [], []⟩ := by
  refine EvF_walk t60 (by simp) ?_
  by_cases h2 : 0 ≤ n <;> simp -implicitDefEqProofs [h2, timeOk]
theorem timeR_ev (n : Int) (H : List Blk) : EvF tab 63 [I n] H = some ⟨B (timeOk n), [], []⟩ := by
  refine EvF_walk t63 (by simp) ?_
  by_cases h2 : 0 ≤ n <;> simp -implicitDefEqProofs [h2, timeOk]
theorem isLive_of {H : List Blk} {id : Nat} {b : Blk} (h : H[id]? = some b) : isLiveB H id = b.live := by unfold isLiveB; rw [h]
theorem stretch_ev {H : List Blk} {id : Nat} {a b c : Int} (hH : H[id]? = some (.cells [I a, I b, I c])) (now : Int) :
    EvF tab 61 [.ptr id 0, I now] H = some ⟨.tup [], [(id, .cells [I a, I b, I (if c < IntKind.i64.wrap (now + b) then IntKind.i64.wrap (now + b) else c)])], []⟩ := by
  refine EvF_walk t61 (by simp) ?_
  have hlt : id < H.length := (List.getElem?_eq_some_iff.1 hH).1
  have hlive := isLive_of hH
  by_cases h : c < IntKind.i64.wrap (now + b) <;> simp -implicitDefEqProofs [getB_old hlt, setB_old hlt, hH, hlive, h]
theorem stretch3 (H : List Blk) (x y z : Blk) (a b c now : Int) : EvF tab 61 [.ptr (H.length + 3) 0, I now] (H ++ [x, y, z, .cells [I a, I b, I c]]) =
    some ⟨.tup [], [(H.length + 3, .cells [I a, I b, I (if c < IntKind.i64.wrap (now + b) then IntKind.i64.wrap (now + b) else c)])], []⟩ :=
  stretch_ev (by simp) now
theorem concatT : ∃ m msg m' msg', tab.T 62 = some (concatF 3 24 88 m msg) ∧ tab.T 88 = some (growF 3 24 [.int .i64 0, .int .i64 0, .int .i64 0] m' msg') :=
  ⟨_, _, _, _, t62, t88⟩
theorem concatL_ev (a b : Sl Lease) (hn : a.l.length + b.l.length ≤ 1099511627776) (H : List Blk) :
    EvF tab 62 [.g (.sl 1 [[LeaseL.g a], [LeaseL.g b]])] H = some ⟨.g (nslG 3 Lease.c (a.l ++ b.l)), [], []⟩ := by
  obtain ⟨m, msg, m', msg', h1, h2⟩ := concatT
  exact concat_ev h1 h2 a b (by omega) (by omega) H
def grantOk (L : Leases) (ttl now : Int) : Int := if 1 ≤ ttl ∧ ttl ≤ 1000 ∧ timeOk now = true then (if 8 ≤ L.l.l.length ∨ 1099511627775 ≤ L.next then 4 else 0) else 1
def grantS (L : Leases) (ttl now : Int) : Leases := if grantOk L ttl now = 0 then ⟨L.next + 1, .of (L.l.l ++ [⟨L.next + 1, ttl, now + ttl⟩])⟩ else L
def grantI (L : Leases) (ttl now : Int) : Int := if grantOk L ttl now = 0 then L.next + 1 else 0
theorem Grant_ev (L : Leases) (ttl now : Int) (hL : L.wf) (H : List Blk) : EvF tab 17 [A L.c, I ttl, I now] H = some ⟨.tup [A (grantS L ttl now).c, I (grantI L ttl now), I (grantOk L ttl now)], [], []⟩ := by
  refine EvF_walk t17 (by simp) ?_
  obtain ⟨nx, s⟩ := L
  obtain ⟨⟨hn1, hn2⟩, _, hl⟩ := hL
  simp only at hn1 hn2 hl
  have m1 := fun H => moment_ev now H
  unfold grantS grantI grantOk
  simp only
  by_cases h1 : 1 ≤ ttl
  case neg => simp -implicitDefEqProofs [A, Leases.c, h1, show ttl < 1 by omega]
  by_cases h2 : ttl ≤ 1000
  case neg => simp -implicitDefEqProofs [A, Leases.c, h1, h2, show ¬ ttl < 1 by omega, show 1000 < ttl by omega]
  cases h3 : timeOk now
  case false => rw [h3] at m1; simp -implicitDefEqProofs [A, Leases.c, h1, h2, show ¬ ttl < 1 by omega, show ¬ 1000 < ttl by omega, m1]
  rw [h3] at m1
  have h3' := timeOk_iff.1 h3
  by_cases h4 : 8 ≤ s.l.length
  case pos => simp -implicitDefEqProofs [A, Leases.c, h1, h2, show ¬ ttl < 1 by omega, show ¬ 1000 < ttl by omega, m1, h4, show (8 : Int) ≤ s.l.length by omega]
  by_cases h5 : 1099511627775 ≤ nx
  case pos => simp -implicitDefEqProofs [A, Leases.c, h1, h2, show ¬ ttl < 1 by omega, show ¬ 1000 < ttl by omega, m1, h4, show ¬ (8 : Int) ≤ s.l.length by omega, h5]
  have e1 : IntKind.i64.wrap (nx + 1) = nx + 1 := wrap_i64 (by omega) (by omega)
  have e2 : IntKind.i64.wrap (now + ttl) = now + ttl := wrap_i64 (by omega) (by omega)
  have cc := fun H => concatL_ev s (.of [⟨nx + 1, ttl, now + ttl⟩]) (by simp; omega) H
  simp only [LeaseL.g, Sl.g_of, Sl.l_of, Lease.c, List.map_cons, List.map_nil] at cc
  simp -implicitDefEqProofs [A, Leases.c, h1, h2, show ¬ ttl < 1 by omega, show ¬ 1000 < ttl by omega, m1, h4, show ¬ (8 : Int) ≤ s.l.length by omega, h5, e1, stretch3, chunk, e2, show 0 < now + ttl by omega, cc, nslG]
theorem Grant2_ev (L : Leases) (ttl now : Int) (hL : L.wf) (H : List Blk) : EvF tab 18 [A L.c, I ttl, I now] H = some ⟨.tup [A (grantS L ttl now).c, I (grantI L ttl now), I (grantOk L ttl now)], [], []⟩ := by
  refine EvF_walk t18 (by simp) ?_
  obtain ⟨nx, s⟩ := L
  obtain ⟨⟨hn1, hn2⟩, _, hl⟩ := hL
  simp only at hn1 hn2 hl
  have m1 := fun H => timeR_ev now H
  unfold grantS grantI grantOk
  simp only
  by_cases h1 : 1 ≤ ttl
  case neg => simp -implicitDefEqProofs [A, Leases.c, h1, show ttl < 1 by omega]
  by_cases h2 : ttl ≤ 1000
  case neg => simp -implicitDefEqProofs [A, Leases.c, h1, h2, show ¬ ttl < 1 by omega, show 1000 < ttl by omega]
  cases h3 : timeOk now
  case false => rw [h3] at m1; simp -implicitDefEqProofs [A, Leases.c, h1, h2, show ¬ ttl < 1 by omega, show ¬ 1000 < ttl by omega, m1]
  rw [h3] at m1
  have h3' := timeOk_iff.1 h3
  by_cases h4 : 8 ≤ s.l.length
  case pos => simp -implicitDefEqProofs [A, Leases.c, h1, h2, show ¬ ttl < 1 by omega, show ¬ 1000 < ttl by omega, m1, h4, show (8 : Int) ≤ s.l.length by omega]
  by_cases h5 : 1099511627775 ≤ nx
  case pos => simp -implicitDefEqProofs [A, Leases.c, h1, h2, show ¬ ttl < 1 by omega, show ¬ 1000 < ttl by omega, m1, h4, show ¬ (8 : Int) ≤ s.l.length by omega, h5]
  have e1 : IntKind.i64.wrap (nx + 1) = nx + 1 := wrap_i64 (by omega) (by omega)
  have e2 : IntKind.i64.wrap (now + ttl) = now + ttl := wrap_i64 (by omega) (by omega)
  cases s with
  | nil =>
    simp -implicitDefEqProofs [A, Leases.c, h1, h2, show ¬ ttl < 1 by omega, show ¬ 1000 < ttl by omega, m1, h5, e1, e2, appV, room, chunk, Lease.c]
  | of l =>
    simp only [Sl.l_of] at h4
    cases l with
    | nil => simp -implicitDefEqProofs [A, Leases.c, h1, h2, show ¬ ttl < 1 by omega, show ¬ 1000 < ttl by omega, m1, h5, e1, e2, appV, room, chunk, Lease.c]
    | cons x l =>
      simp only [List.length_cons] at h4
      have e7 : List.take l.length (List.map Lease.c l) = List.map Lease.c l := List.take_of_length_le (by simp)
      have e6 : List.take (l.length + 1) (List.map Lease.c l ++ [[GV.int .i64 (nx + 1), .int .i64 ttl, .int .i64 (now + ttl)]]) = List.map Lease.c l ++ [[GV.int .i64 (nx + 1), .int .i64 ttl, .int .i64 (now + ttl)]] := List.take_of_length_le (by simp)
      simp -implicitDefEqProofs [A, Leases.c, h1, h2, show ¬ ttl < 1 by omega, show ¬ 1000 < ttl by omega, m1, show ¬ 8 ≤ l.length + 1 by omega, show ¬ (8 : Int) ≤ (l.length : Int) + 1 by omega, h5, e1, e2, appV, room, chunk, e6, e7, Nat.not_succ_le_self, show l.length + 1 ≤ 140737488355328 by omega, show (l.length + 1) * 24 ≤ 140737488355328 by omega, show l.length + 1 + 1 ≤ 140737488355328 by omega, show (l.length + 1 + 1) * 24 ≤ 140737488355328 by omega]
      simp [Lease.c]
theorem placeN_spec (id : Int) : ∀ (l : List Lease) k i, placeN id k l = some i → k ≤ i ∧ ∃ (h : i - k < l.length), l[i - k].id = id
  | [], k, i, h => by cases h
  | x :: l, k, i, h => by
    simp only [placeN] at h
    split at h
    · rename_i hx
      cases h
      exact ⟨Nat.le_refl _, by simp, by simpa using hx⟩
    · obtain ⟨h1, h2, h3⟩ := placeN_spec id l (k + 1) i h
      refine ⟨by omega, by simp; omega, ?_⟩
      have : i - k = (i - (k + 1)) + 1 := by omega
      simp only [this, List.getElem_cons_succ]
      exact h3
theorem place_some {id : Int} {l : List Lease} {i : Nat} (h : placeN id 0 l = some i) : ∃ h : i < l.length, l[i].id = id := by
  obtain ⟨_, h2, h3⟩ := placeN_spec id l 0 i h
  exact ⟨by simpa using h2, by simpa using h3⟩
def hasS (id : Int) (l : List Lease) : Bool := (placeN id 0 l).isSome
theorem Has_ev (L : Leases) (id : Int) (hl : L.l.l.length ≤ 9223372036854775807) (H : List Blk) : EvF tab 24 [A L.c, I id] H = some ⟨B (hasS id L.l.l), [], []⟩ := by
  refine EvF_walk t24 (by simp) ?_
  have p := fun H => place_ev L id hl H
  unfold hasS
  simp only [A, Leases.c, List.map_cons, List.map_nil] at p ⊢
  rcases hq : placeN id 0 L.l.l with _ | i <;> simp only [placeI, hq] at p <;> simp -implicitDefEqProofs [p]
theorem Has2_ev (L : Leases) (id : Int) (hl : L.l.l.length ≤ 9223372036854775807) (H : List Blk) : EvF tab 25 [A L.c, I id] H = some ⟨B (hasS id L.l.l), [], []⟩ := by
  refine EvF_walk t25 (by simp) ?_
  have p := fun H => place2_ev L id hl H
  unfold hasS
  simp only [A, Leases.c, List.map_cons, List.map_nil] at p ⊢
  rcases hq : placeN id 0 L.l.l with _ | i <;> simp only [placeI, hq] at p <;> simp -implicitDefEqProofs [p]
def keptL (x : Lease) (now : Int) : Lease := ⟨x.id, x.ttl, if x.till < now + x.ttl then now + x.ttl else x.till⟩
def keepE (L : Leases) (id now : Int) : Int := if timeOk now = true then (if hasS id L.l.l = true then 0 else 6) else 1
def keepS (L : Leases) (id now : Int) : Leases := if timeOk now = true then (match placeN id 0 L.l.l with | some i => ⟨L.next, .of (L.l.l.set i (keptL (L.l.l[i]?.getD default) now))⟩ | none => L) else L
def keepT (L : Leases) (id now : Int) : Int := if timeOk now = true then (match placeN id 0 L.l.l with | some i => (L.l.l[i]?.getD default).ttl | none => 0) else 0
def slOf {α : Type} (l : List α) : Sl α := if l = [] then .nil else .of l
def smallT (L : Leases) : Prop := L.l.l.length ≤ 1099511627776 ∧ ∀ x ∈ L.l.l, -1125899906842624 ≤ x.ttl ∧ x.ttl ≤ 1125899906842624
theorem cloneT : tab.T 65 = some (cloneF 3 24 true) := t65
theorem Keep_ev (L : Leases) (id now : Int) (hs : smallT L) (H : List Blk) : EvF tab 19 [A L.c, I id, I now] H = some ⟨.tup [A (keepS L id now).c, I (keepT L id now), I (keepE L id now)], [], []⟩ := by
  refine EvF_walk t19 (by simp) ?_
  have m1 := fun H => moment_ev now H
  have p := fun H => place_ev L id (by have := hs.1; omega) H
  obtain ⟨nx, s⟩ := L
  obtain ⟨hl, ht⟩ := hs
  simp only at hl ht
  unfold keepS keepT keepE hasS
  simp only [A, Leases.c, List.map_cons, List.map_nil] at p ⊢
  cases h3 : timeOk now
  case false => rw [h3] at m1; simp -implicitDefEqProofs [m1]
  rw [h3] at m1
  have h3' := timeOk_iff.1 h3
  rcases hq : placeN id 0 s.l with _ | i <;> simp only [placeI, hq] at p
  case none => simp -implicitDefEqProofs [m1, p]
  obtain ⟨hi, hid⟩ := place_some hq
  cases s with
  | nil => simp at hi
  | of l =>
    simp only [Sl.l_of] at hi hid ht hl
    obtain ⟨x, hx⟩ : ∃ x, l[i] = x := ⟨_, rfl⟩
    have htx := ht x (by rw [← hx]; exact List.getElem_mem _)
    have e2 : IntKind.i64.wrap (now + x.ttl) = now + x.ttl := wrap_i64 (by omega) (by omega)
    have cl := fun H => clone_ev (c := Lease.c) cloneT l (fun e => by rw [e] at hi; simp at hi) (by omega) (by omega) H
    simp only [LeaseL.g, Sl.g_of, Sl.l_of] at p
    simp -implicitDefEqProofs [m1, p, hi, hx, Lease.c, stretch3, cl, e2]
    rw [List.take_of_length_le (by simp)]; rfl
theorem Keep2_ev (L : Leases) (id now : Int) (hs : smallT L) (H : List Blk) : EvF tab 20 [A L.c, I id, I now] H = some ⟨.tup [A (keepS L id now).c, I (keepT L id now), I (keepE L id now)], [], []⟩ := by
  refine EvF_walk t20 (by simp) ?_
  have m1 := fun H => timeR_ev now H
  have p := fun H => place2_ev L id (by have := hs.1; omega) H
  obtain ⟨nx, s⟩ := L
  obtain ⟨hl, ht⟩ := hs
  simp only at hl ht
  unfold keepS keepT keepE hasS
  simp only [A, Leases.c, List.map_cons, List.map_nil] at p ⊢
  cases h3 : timeOk now
  case false => rw [h3] at m1; simp -implicitDefEqProofs [m1]
  rw [h3] at m1
  have h3' := timeOk_iff.1 h3
  rcases hq : placeN id 0 s.l with _ | i <;> simp only [placeI, hq] at p
  case none => simp -implicitDefEqProofs [m1, p]
  obtain ⟨hi, hid⟩ := place_some hq
  cases s with
  | nil => simp at hi
  | of l =>
    simp only [Sl.l_of] at hi hid ht hl
    obtain ⟨x, hx⟩ : ∃ x, l[i] = x := ⟨_, rfl⟩
    have htx := ht x (by rw [← hx]; exact List.getElem_mem _)
    have e2 : IntKind.i64.wrap (now + x.ttl) = now + x.ttl := wrap_i64 (by omega) (by omega)
    simp only [LeaseL.g, Sl.g_of, Sl.l_of] at p
    have ap := fun t m o => app_nil (c := Lease.c) (sz := 3) (bytes := 24) (l := l) (fun e => by rw [e] at hi; simp at hi) (by omega) (by omega) H t m o
    by_cases hc : x.till < now + x.ttl
    · simp -implicitDefEqProofs [m1, p, hi, hx, Lease.c, e2, ap, hc]
      rw [List.take_of_length_le (by simp)]; simp [keptL, hc]
    · have e : keptL x now = x := by simp [keptL, hc]
      have e9 : (List.map Lease.c l).set i x.c = List.map Lease.c l := by
        have := @List.set_getElem_self _ (List.map Lease.c l) i (by simpa using hi)
        simpa [hx] using this
      simp -implicitDefEqProofs [m1, p, hi, hx, Lease.c, e2, ap, hc]
      rw [List.take_of_length_le (by simp), e]; exact e9.symm
def endE (L : Leases) (id : Int) : Int := if hasS id L.l.l = true then 0 else 6
def endL' (l : List Lease) (i : Nat) : List Lease := l.take i ++ l.drop (i + 1)
def endS (L : Leases) (id : Int) : Leases := match placeN id 0 L.l.l with | some i => ⟨L.next, slOf (endL' L.l.l i)⟩ | none => L
theorem nslG_slOf {α : Type} (sz : Nat) (c : α → List GV) (l : List α) : nslG sz c l = (slOf l).g sz c := by
  unfold nslG slOf; split <;> rfl
theorem End_ev (L : Leases) (id : Int) (hl : L.l.l.length ≤ 1099511627776) (H : List Blk) : EvF tab 27 [A L.c, I id] H = some ⟨.tup [A (endS L id).c, I (endE L id)], [], []⟩ := by
  refine EvF_walk t27 (by simp) ?_
  have p := fun H => place_ev L id (by omega) H
  obtain ⟨nx, s⟩ := L
  simp only at hl
  unfold endS endE hasS
  simp only [A, Leases.c, List.map_cons, List.map_nil] at p ⊢
  rcases hq : placeN id 0 s.l with _ | i <;> simp only [placeI, hq] at p
  case none => simp -implicitDefEqProofs [p]
  obtain ⟨hi, hid⟩ := place_some hq
  cases s with
  | nil => simp at hi
  | of l =>
    simp only [Sl.l_of] at hi hid hl
    simp only [LeaseL.g, Sl.g_of, Sl.l_of] at p
    have cc := fun H => concatL_ev (.of (l.take i)) (.of (l.drop (i + 1))) (by simp; omega) H
    simp only [LeaseL.g, Sl.g_of, Sl.l_of, nslG_slOf, List.map_take, List.map_drop] at cc
    have e1 : IntKind.i64.wrap ((i : Int) + 1) = (i : Int) + 1 := wrap_i64 (by omega) (by omega)
    have e2 : ((i : Int) + 1).toNat = i + 1 := by omega
    have e3 : List.take l.length (List.map Lease.c l) = List.map Lease.c l := List.take_of_length_le (by simp)
    simp -implicitDefEqProofs [p, cc, cutB, bnd, intOfA, e1, e2, e3, show i ≤ l.length by omega, show i + 1 ≤ l.length by omega, show (i : Int) ≤ l.length by omega, show (i : Int) + 1 ≤ l.length by omega, show (0 : Int) ≤ (i : Int) + 1 by omega, chunk, endL']
theorem End2_ev (L : Leases) (id : Int) (hl : L.l.l.length ≤ 1099511627776) (H : List Blk) : EvF tab 28 [A L.c, I id] H = some ⟨.tup [A (endS L id).c, I (endE L id)], [], []⟩ := by
  refine EvF_walk t28 (by simp) ?_
  have p := fun H => place2_ev L id (by omega) H
  obtain ⟨nx, s⟩ := L
  simp only at hl
  unfold endS endE hasS
  simp only [A, Leases.c, List.map_cons, List.map_nil] at p ⊢
  rcases hq : placeN id 0 s.l with _ | i <;> simp only [placeI, hq] at p
  case none => simp -implicitDefEqProofs [p]
  obtain ⟨hi, hid⟩ := place_some hq
  cases s with
  | nil => simp at hi
  | of l =>
    simp only [Sl.l_of] at hi hid hl
    simp only [LeaseL.g, Sl.g_of, Sl.l_of] at p
    have e1 : IntKind.i64.wrap ((i : Int) + 1) = (i : Int) + 1 := wrap_i64 (by omega) (by omega)
    have e2 : ((i : Int) + 1).toNat = i + 1 := by omega
    have e3 : List.take l.length (List.map Lease.c l) = List.map Lease.c l := List.take_of_length_le (by simp)
    obtain ⟨xs, hxs⟩ : ∃ xs, l.take i = xs := ⟨_, rfl⟩
    obtain ⟨ys, hys⟩ : ∃ ys, l.drop (i + 1) = ys := ⟨_, rfl⟩
    have hlx : xs.length + ys.length ≤ 1099511627776 := by rw [← hxs, ← hys]; simp; omega
    have e4 : List.take i (List.map Lease.c l) = List.map Lease.c xs := by rw [← hxs, List.map_take]
    have e5 : List.drop (i + 1) (List.map Lease.c l) = List.map Lease.c ys := by rw [← hys, List.map_drop]
    have ee : endL' l i = xs ++ ys := by rw [← hxs, ← hys]; rfl
    have e6 : List.take xs.length (List.map Lease.c xs) = List.map Lease.c xs := List.take_of_length_le (by simp)
    have e7 : List.take ys.length (List.map Lease.c ys) = List.map Lease.c ys := List.take_of_length_le (by simp)
    have e8 : List.take (xs.length + ys.length) (List.map Lease.c xs ++ List.map Lease.c ys) = List.map Lease.c xs ++ List.map Lease.c ys := List.take_of_length_le (by simp)
    have ax := fun (hx : xs ≠ []) t m o => app_nil (c := Lease.c) (sz := 3) (bytes := 24) (l := xs) hx (by omega) (by omega) H t m o
    have ay := fun (hx : ys ≠ []) t m o => app_nil (c := Lease.c) (sz := 3) (bytes := 24) (l := ys) hx (by omega) (by omega) H t m o
    have ag := fun (hx : ys.map Lease.c ≠ []) t m A B C D E => app_grow (sz := 3) (bytes := 24) (g := 2) (xs := xs.map Lease.c) (ys := ys.map Lease.c) hx (by simp; omega) (by simp; omega) H t m [A, B, C, D, E]
    simp only [List.length_cons, List.length_nil, List.cons_append, List.nil_append, List.length_map, Nat.zero_add, Nat.reduceAdd] at ag
    have a0 : ∀ t m o, appV H ⟨t, m, o⟩ 3 24 (.g .nsl) [] = some (.g .nsl, ⟨t, m, o⟩, []) := fun t m o => rfl
    have am : ∀ t m A B C D E, appV H ⟨t, m, [A, B, C, D, E, .rows 3 2 (xs.map Lease.c)]⟩ 3 24 (.ms (H.length + 5) 2 3 0 xs.length) [] = some (.ms (H.length + 5) 2 3 0 xs.length, ⟨t, m, [A, B, C, D, E, .rows 3 2 (xs.map Lease.c)]⟩, []) := fun t m A B C D E => by simp [appV]
    have F1 : i ≤ l.length := by omega
    have F2 : i + 1 ≤ l.length := by omega
    have F3 : (i : Int) ≤ l.length := by omega
    have F4 : (i : Int) + 1 ≤ l.length := by omega
    have F5 : (0 : Int) ≤ (i : Int) + 1 := by omega
    by_cases hx : xs = []
    · by_cases hy : ys = []
      · rw [hx] at e4; rw [hy] at e5
        rw [hx, hy] at ee
        simp -implicitDefEqProofs [p, cutB, bnd, intOfA, e1, e2, e3, e4, e5, a0, ee, F1, F2, F3, F4, F5, slOf]
      · rw [hx] at e4
        rw [hx] at ee
        simp -implicitDefEqProofs [p, cutB, bnd, intOfA, e1, e2, e3, e4, e5, a0, ay hy, e7, ee, F1, F2, F3, F4, F5, slOf, hy]
    · by_cases hy : ys = []
      · rw [hy] at e5
        rw [hy] at ee
        simp -implicitDefEqProofs [p, cutB, bnd, intOfA, e1, e2, e3, e4, e5, ax hx, am, e6, ee, F1, F2, F3, F4, F5, slOf, hx]
      · simp -implicitDefEqProofs [p, cutB, bnd, intOfA, e1, e2, e3, e4, e5, ax hx, ag (by simpa using hy), e8, ee, F1, F2, F3, F4, F5, slOf, hx]
end Go.Proofs.Ytlcjocciianphaa
