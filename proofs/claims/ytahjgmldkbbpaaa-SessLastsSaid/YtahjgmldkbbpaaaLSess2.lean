/- The laws SessBegins and SessLasts. -/
import Derived.Test.YtahjgmldkbbpaaaLSess1
namespace Go.Proofs.Ytahjgmldkbbpaaa
open Go Go.AM Go.Proofs
set_option maxRecDepth 4000
set_option linter.unusedSimpArgs false
set_option linter.unusedVariables false
def sessAt (lease ttl x : Int) : Sess := ⟨lease, ttl, x + safeN ttl, x + safeN ttl / 2⟩
theorem Begin_ok (sent lease ttl : Int) (h0 : timeOk sent = true) (h1 : 1 ≤ lease) (h2 : 0 < safeN ttl) (H : List Blk) :
    EvF tab 17 [I sent, .agg [I 0, I 0, I 0, I 0, I lease, I ttl, B false, .g .nsl, .g .nsl]] H = some ⟨.tup [.agg [I lease, I ttl, I (sent + safeN ttl), I (sent + safeN ttl / 2)], B true], [], []⟩ := by
  have := Begin_ev sent ⟨0, 0, 0, 0, lease, ttl, false, .nil, .nil⟩ H
  have e : beginOk sent ⟨0, 0, 0, 0, lease, ttl, false, .nil, .nil⟩ = true := by simp [beginOk, h0, h1, h2]
  simp only [beginS, e, if_true] at this
  exact this
theorem Begin_no (sent lease ttl : Int) (h0 : (timeOk sent && decide (0 < safeN ttl)) = false) (H : List Blk) :
    EvF tab 17 [I sent, .agg [I 0, I 0, I 0, I 0, I lease, I ttl, B false, .g .nsl, .g .nsl]] H = some ⟨.tup [.agg [I 0, I 0, I 0, I 0], B false], [], []⟩ := by
  have := Begin_ev sent ⟨0, 0, 0, 0, lease, ttl, false, .nil, .nil⟩ H
  have e : beginOk sent ⟨0, 0, 0, 0, lease, ttl, false, .nil, .nil⟩ = false := by
    simp only [beginOk]; rw [Bool.and_comm (decide _) (timeOk sent), h0]; simp
  simp only [beginS, e, Bool.false_eq_true, if_false] at this
  exact this
theorem Alive_at (a b c d n : Int) (H : List Blk) : EvF tab 19 [.agg [I a, I b, I c, I d], I n] H = some ⟨B (!decide (a = 0) && decide (n < c)), [], []⟩ := Alive_ev ⟨a, b, c, d⟩ n H
theorem Due_at (a b c d n : Int) (H : List Blk) : EvF tab 21 [.agg [I a, I b, I c, I d], I n] H = some ⟨B ((!decide (a = 0) && decide (n < c)) && decide (d ≤ n)), [], []⟩ := Due_ev ⟨a, b, c, d⟩ n H
theorem safeN_mid {ttl : Int} (h1 : 2 ≤ ttl) (h2 : ttl < 1000) : safeN ttl = 15 * ttl / 17 ∧ safeN (ttl + 1) = 15 * (ttl + 1) / 17 := by
  unfold safeN; constructor <;> rw [if_pos (by omega)]
theorem SessBegins_law (sent ttl by' : Int) (_ : I64 sent) (_ : I64 ttl) (_ : I64 by') : EvF tab 6 [I sent, I ttl, I by'] [] = some ⟨.g (.bool true), [], []⟩ := by
  refine EvF_walk t6 (by simp) ?_
  by_cases h1 : 0 ≤ sent
  case neg => simp -implicitDefEqProofs [show sent < 0 by omega, live14_0]
  by_cases h2 : sent ≤ 549755813888
  case neg => simp -implicitDefEqProofs [show ¬ sent < 0 by omega, show 549755813888 < sent by omega, live14_0]
  by_cases h3 : 2 ≤ ttl
  case neg => simp -implicitDefEqProofs [show ¬ sent < 0 by omega, show ¬ 549755813888 < sent by omega, show ttl < 2 by omega, live14_0]
  by_cases h4 : ttl < 1000
  case neg => simp -implicitDefEqProofs [show ¬ sent < 0 by omega, show ¬ 549755813888 < sent by omega, show ¬ ttl < 2 by omega, show 1000 ≤ ttl by omega, live14_0]
  by_cases h5 : 0 ≤ by'
  case neg => simp -implicitDefEqProofs [show ¬ sent < 0 by omega, show ¬ 549755813888 < sent by omega, show ¬ ttl < 2 by omega, show ¬ 1000 ≤ ttl by omega, show by' < 0 by omega, live14_0]
  by_cases h6 : by' ≤ 2000
  case neg => simp -implicitDefEqProofs [show ¬ sent < 0 by omega, show ¬ 549755813888 < sent by omega, show ¬ ttl < 2 by omega, show ¬ 1000 ≤ ttl by omega, show ¬ by' < 0 by omega, show 2000 < by' by omega, live14_0]
  obtain ⟨s1, s2⟩ := safeN_mid h3 h4
  have b1 := fun H => Begin_ok sent 1 ttl (by simp [timeOk]; omega) (by omega) (by omega) H
  have b2 := fun H => Begin_ok sent 1 (ttl + 1) (by simp [timeOk]; omega) (by omega) (by omega) H
  have e1 : IntKind.i64.wrap (ttl + 1) = ttl + 1 := wrap_i64 (by omega) (by omega)
  have e2 : IntKind.i64.wrap (sent + by') = sent + by' := wrap_i64 (by omega) (by omega)
  obtain ⟨S, hS⟩ : ∃ S, safeN ttl = S := ⟨_, rfl⟩
  obtain ⟨R, hR⟩ : ∃ R, safeN (ttl + 1) = R := ⟨_, rfl⟩
  rw [hS] at b1 s1
  rw [hR] at b2 s2
  have e3 : IntKind.i64.wrap (sent + S - sent) = S := by rw [wrap_i64 (by omega) (by omega)]; omega
  have e4 : IntKind.i64.wrap (sent + S / 2 - sent) = S / 2 := by rw [wrap_i64 (by omega) (by omega)]; omega
  have e5 : IntKind.i64.wrap (2 * (S / 2)) = 2 * (S / 2) := wrap_i64 (by omega) (by omega)
  have e6 : IntKind.i64.wrap (2 * (S / 2) + 1) = 2 * (S / 2) + 1 := wrap_i64 (by omega) (by omega)
  have e7 : IntKind.i64.wrap (sent + S / 2 - 1) = sent + S / 2 - 1 := wrap_i64 (by omega) (by omega)
  have c1 : ¬ sent + R < sent + S := by omega
  have c2 : ¬ ttl ≤ S := by omega
  have c3 : ¬ sent + S ≤ sent := by omega
  have c4 : 2 * (S / 2) ≤ S := by omega
  have c5 : S ≤ 2 * (S / 2) + 1 := by omega
  have c6 : sent + S / 2 < sent + S := by omega
  have c7 : ¬ sent + S / 2 ≤ sent + S / 2 - 1 := by omega
  by_cases g1 : sent + by' < sent + S
  · have g2 : sent + by' < sent + R := by omega
    by_cases g3 : sent + S / 2 ≤ sent + by' <;>
    simp -implicitDefEqProofs [show ¬ sent < 0 by omega, show ¬ 549755813888 < sent by omega, show ¬ ttl < 2 by omega, show ¬ 1000 ≤ ttl by omega, show ¬ by' < 0 by omega, show ¬ 2000 < by' by omega, b1, b2, e1, e2, e3, e4, e5, e6, e7, c1, c2, c3, c4, c5, c6, c7, Alive_at, Due_at, g1, g2, g3, live14_2]
  · simp -implicitDefEqProofs [show ¬ sent < 0 by omega, show ¬ 549755813888 < sent by omega, show ¬ ttl < 2 by omega, show ¬ 1000 ≤ ttl by omega, show ¬ by' < 0 by omega, show ¬ 2000 < by' by omega, b1, b2, e1, e2, e3, e4, e5, e6, e7, c1, c2, c3, c4, c5, c6, c7, Alive_at, Due_at, g1, live14_2]
theorem Kept_at (ttl x y : Int) (hy : timeOk y = true) (H : List Blk) :
    EvF tab 28 [.agg [I 5, I ttl, I (x + safeN ttl), I (x + safeN ttl / 2)], I y, .agg [I 0, I 0, I 0, I 0, I 5, I ttl, B false, .g .nsl, .g .nsl]] H =
      some ⟨.agg [I 5, I ttl, I ((if x < y then y else x) + safeN ttl), I ((if x < y then y else x) + safeN ttl / 2)], [], []⟩ := by
  have := Kept_ev ⟨5, ttl, x + safeN ttl, x + safeN ttl / 2⟩ y ⟨0, 0, 0, 0, 5, ttl, false, .nil, .nil⟩ H
  simp only [keptS, hy, true_and, if_true, show ¬ (0 : Int) = 6 by decide, if_false] at this
  refine this.trans ?_
  by_cases h : x < y
  · rw [if_pos (by omega), if_pos (by omega), if_pos h]; rfl
  · rw [if_neg (by omega), if_neg (by omega), if_neg h]; rfl
def mxI (x y : Int) : Int := if x < y then y else x
theorem mxI_ok {x y : Int} (hx : timeOk x = true) (hy : timeOk y = true) : timeOk (mxI x y) = true := by unfold mxI; split <;> assumption
theorem foldl_mx (l : List Int) : ∀ a, l.foldl mxI a = l.foldr (fun y x => mxI x y) a := by
  have key : ∀ (l : List Int) a b, l.foldl mxI (mxI a b) = mxI (l.foldl mxI a) b := by
    intro l
    induction l with
    | nil => intro a b; rfl
    | cons c l ih =>
      intro a b
      simp only [List.foldl_cons]
      rw [show mxI (mxI a b) c = mxI (mxI a c) b by unfold mxI; (repeat' split) <;> omega, ih]
  induction l with
  | nil => intro a; rfl
  | cons c l ih => intro a; simp only [List.foldl_cons, List.foldr_cons, key, ih]
theorem Lasts_loop0 (sl : Sl Int) (hl : sl.l.length ≤ 20) (sent ttl : Int) (hs : timeOk sent = true) :
    ∃ o, loopE (EvF tab) [] L5_0 [0, 1, 2, 7, 9, 10] ⟨[(0, I sent), (1, I ttl), (2, .g (Ints.g sl)), (7, .ptr 0 0), (9, I sent), (10, I 0)], [], [.cells [I 5, I ttl, I (sent + safeN ttl), I (sent + safeN ttl / 2)]]⟩ =
      some (if allP timeOk sl.l = true then (.exit 0, ⟨[(0, I sent), (1, I ttl), (2, .g (Ints.g sl)), (7, .ptr 0 0), (9, I (sl.l.foldl mxI sent)), (10, I sl.l.length), (37, B false)], [], [.cells [I 5, I ttl, I (sl.l.foldl mxI sent + safeN ttl), I (sl.l.foldl mxI sent + safeN ttl / 2)]]⟩) else (.ret, ⟨[(6, B true)], [], o⟩)) := by
  have hw := loop_run (E := EvF tab) (h := []) (c := L5_0) (lv := [0, 1, 2, 7, 9, 10]) (l := sl.l) (fun _ x => timeOk x = true) (fun _ y x => if timeOk y = true then Sum.inl (mxI x y) else .inr (.ret, ⟨[(6, B true)], [], [.cells [I 5, I ttl, I (x + safeN ttl), I (x + safeN ttl / 2)]]⟩))
    (fun k x => ⟨[(0, I sent), (1, I ttl), (2, .g (Ints.g sl)), (7, .ptr 0 0), (9, I x), (10, I k)], [], [.cells [I 5, I ttl, I (x + safeN ttl), I (x + safeN ttl / 2)]]⟩)
    (fun x => (.exit 0, ⟨[(0, I sent), (1, I ttl), (2, .g (Ints.g sl)), (7, .ptr 0 0), (9, I x), (10, I sl.l.length), (37, B false)], [], [.cells [I 5, I ttl, I (x + safeN ttl), I (x + safeN ttl / 2)]]⟩)) (by simp)
    (fun k y x hk hx hy hi => ?_) (fun x hi => by delta L5_0; cases sl <;> simp -implicitDefEqProofs) sl.l.length 0 sent (by omega) (by omega) hs
  · simp only [List.drop_zero] at hw
    rw [show (0 : Int) = ((0 : Nat) : Int) from rfl, hw]
    have key : ∀ (l : List Int) k x, ∃ o, (runL (fun _ y x => if timeOk y = true then Sum.inl (mxI x y) else .inr (Ex.ret, (⟨[(6, B true)], [], [.cells [I 5, I ttl, I (x + safeN ttl), I (x + safeN ttl / 2)]]⟩ : St))) k l x) = if allP timeOk l = true then .inl (l.foldl mxI x) else .inr (.ret, ⟨[(6, B true)], [], o⟩) := by
      intro l
      induction l with
      | nil => intro k x; exact ⟨[], rfl⟩
      | cons y l ih =>
        intro k x
        cases hy : timeOk y
        · exact ⟨_, by simp only [runL, hy, Bool.false_eq_true, if_false, allP_cons, Bool.false_and]; rfl⟩
        · obtain ⟨o, ho⟩ := ih (k + 1) (mxI x y)
          exact ⟨o, by simp only [runL, hy, if_true, allP_cons, Bool.true_and, ho, List.foldl_cons]⟩
    obtain ⟨o, ho⟩ := key sl.l 0 sent
    refine ⟨o, ?_⟩
    rw [ho]
    cases allP timeOk sl.l <;> rfl
  · delta L5_0
    have e2 := wrap_succ hk (by omega)
    cases sl with
    | nil => simp at hk
    | of l =>
      simp only [Sl.l_of] at hk hy
      cases ht : timeOk y
      · simp only [Bool.false_eq_true, if_false]
        refine ⟨by simp, ?_⟩
        by_cases h1 : y < 0
        · simp -implicitDefEqProofs [hk, hy, Ints.c, h1, live14_1]
        · have h2 : 1099511627775 < y := by simp [timeOk] at ht; omega
          simp -implicitDefEqProofs [hk, hy, Ints.c, h1, h2, live14_1]
      · simp only [if_true]
        have ht' := timeOk_iff.1 ht
        refine ⟨mxI_ok hi ht, ?_⟩
        have a1 := fun H => Kept_at ttl x y ht H
        simp -implicitDefEqProofs [hk, hy, Ints.c, show ¬ y < 0 by omega, show ¬ 1099511627775 < y by omega, a1, e2, mxI]
theorem Lasts_loop1 (sl : Sl Int) (hl : sl.l.length ≤ 20) (sent ttl x : Int) (ok : allP timeOk sl.l = true) (b0 : Blk) :
    loopE (EvF tab) [] L5_1 [1, 2, 7, 9, 11, 13] ⟨[(1, I ttl), (2, .g (Ints.g sl)), (7, .ptr 0 0), (9, I x), (11, .ptr 1 0), (13, I ((sl.l.length : Int) - 1))], [], [b0, .cells [I 5, I ttl, I (sent + safeN ttl), I (sent + safeN ttl / 2)]]⟩ =
      some (.exit 2, ⟨[(1, I ttl), (2, .g (Ints.g sl)), (7, .ptr 0 0), (9, I x), (11, .ptr 1 0), (13, I (-1)), (78, B false)], [], [b0, .cells [I 5, I ttl, I (sl.l.foldr (fun y x => mxI x y) sent + safeN ttl), I (sl.l.foldr (fun y x => mxI x y) sent + safeN ttl / 2)]]⟩) := by
  have hw := loop_cnt (E := EvF tab) (h := []) (c := L5_1) (lv := [1, 2, 7, 9, 11, 13]) sl.l.length (fun r => ⟨[(1, I ttl), (2, .g (Ints.g sl)), (7, .ptr 0 0), (9, I x), (11, .ptr 1 0), (13, I ((sl.l.length : Int) - 1 - r))], [], [b0, .cells [I 5, I ttl, I ((sl.l.drop (sl.l.length - r)).foldr (fun y x => mxI x y) sent + safeN ttl), I ((sl.l.drop (sl.l.length - r)).foldr (fun y x => mxI x y) sent + safeN ttl / 2)]]⟩)
    (.exit 2, ⟨[(1, I ttl), (2, .g (Ints.g sl)), (7, .ptr 0 0), (9, I x), (11, .ptr 1 0), (13, I (-1)), (78, B false)], [], [b0, .cells [I 5, I ttl, I (sl.l.foldr (fun y x => mxI x y) sent + safeN ttl), I (sl.l.foldr (fun y x => mxI x y) sent + safeN ttl / 2)]]⟩) (by simp) (fun r hr => ?_) ?_
  · simp only [Nat.sub_zero, List.drop_length, List.foldr_nil, Int.ofNat_zero, Int.sub_zero, Int.cast_ofNat_Int] at hw
    exact hw
  · delta L5_1
    cases sl with
    | nil => simp at hr
    | of l =>
      simp only [Sl.l_of] at hr ok hl
      have hk : l.length - (r + 1) < l.length := by omega
      have hd : l.drop (l.length - (r + 1)) = l[l.length - (r + 1)] :: l.drop (l.length - r) := by
        rw [List.drop_eq_getElem_cons hk]; congr 2; omega
      obtain ⟨y, hy⟩ : ∃ y, l[l.length - (r + 1)] = y := ⟨_, rfl⟩
      have ht : timeOk y = true := allP_iff.1 ok y (by rw [← hy]; exact List.getElem_mem _)
      have h0 : ((l.length : Int) - 1 - r) = ((l.length - (r + 1) : Nat) : Int) := by omega
      have e2 : IntKind.i64.wrap (((l.length - (r + 1) : Nat) : Int) - 1) = (l.length : Int) - 1 - ((r + 1 : Nat) : Int) := by rw [wrap_i64 (by omega) (by omega)]; omega
      have hg : l[l.length - (r + 1)]? = some y := by rw [List.getElem?_eq_getElem hk, hy]
      simp only [Sl.l_of]
      rw [h0, hd, hy, List.foldr_cons]
      obtain ⟨z, hz⟩ : ∃ z, List.foldr (fun y x => mxI x y) sent (List.drop (l.length - r) l) = z := ⟨_, rfl⟩
      obtain ⟨n, hn⟩ : ∃ n, l.length - (r + 1) = n := ⟨_, rfl⟩
      rw [hz]
      rw [hn] at e2 hg ⊢
      have a1 := fun H => Kept_at ttl z y ht H
      simp -implicitDefEqProofs [hg, Ints.c, a1, e2, mxI]
  · delta L5_1
    simp only [Nat.sub_self, List.drop_zero]
    simp -implicitDefEqProofs [show (sl.l.length : Int) - 1 - sl.l.length = -1 by omega]
set_option maxHeartbeats 1000000 in
theorem SessLasts_law (sent ttl : Int) (sl : Sl Int) (_ : I64 sent) (_ : I64 ttl) (hsl : (∀ x ∈ sl.l, I64 x) ∧ sl.l.length ≤ 9223372036854775807) : EvF tab 5 [I sent, I ttl, .g (Ints.g sl)] [] = some ⟨.g (.bool true), [], []⟩ := by
  refine EvF_walk t5 (by simp) ?_
  by_cases h20 : 20 < sl.l.length
  · simp -implicitDefEqProofs [show (20 : Int) < sl.l.length by omega, live14_0]
  cases hb : (timeOk sent && decide (0 < safeN ttl))
  · have b := fun H => Begin_no sent 5 ttl hb H
    simp -implicitDefEqProofs [show ¬ (20 : Int) < sl.l.length by omega, live14_1, b]
  simp only [Bool.and_eq_true, decide_eq_true_eq] at hb
  have b := fun H => Begin_ok sent 5 ttl hb.1 (by omega) hb.2 H
  obtain ⟨o, hw0⟩ := Lasts_loop0 sl (by omega) sent ttl hb.1
  cases hok : allP timeOk sl.l
  · simp only [hok, Bool.false_eq_true, if_false] at hw0
    simp -implicitDefEqProofs [show ¬ (20 : Int) < sl.l.length by omega, b, hw0]
  · simp only [hok, if_true] at hw0
    have hfold : ∀ (l : List Int) a, allP timeOk l = true → timeOk a = true → timeOk (l.foldl mxI a) = true := by
      intro l
      induction l with
      | nil => intro a _ h; exact h
      | cons y l ih =>
        intro a h1 h2
        simp only [allP_cons, Bool.and_eq_true] at h1
        exact ih _ h1.2 (mxI_ok h2 h1.1)
    have hm := timeOk_iff.1 (hfold _ _ hok hb.1)
    have hb3 := safeN_bd ttl
    have e0 : IntKind.i64.wrap ((sl.l.length : Int) - 1) = (sl.l.length : Int) - 1 := wrap_i64 (by omega) (by omega)
    have hw1 := fun b0 => Lasts_loop1 sl (by omega) sent ttl (sl.l.foldl mxI sent) hok b0
    rw [← foldl_mx] at hw1
    obtain ⟨m, hmm⟩ : ∃ m, sl.l.foldl mxI sent = m := ⟨_, rfl⟩
    obtain ⟨S, hS⟩ : ∃ S, safeN ttl = S := ⟨_, rfl⟩
    rw [hmm] at hw0 hm
    simp only [hmm] at hw1
    have sf := fun H => Safe2_ev ttl H
    rw [hS] at hw0 hb hb3 sf
    simp only [hS] at b hw1
    have e1 : IntKind.i64.wrap (m + S) = m + S := wrap_i64 (by omega) (by omega)
    have e2 : IntKind.i64.wrap (m + S - 1) = m + S - 1 := wrap_i64 (by omega) (by omega)
    simp -implicitDefEqProofs [show ¬ (20 : Int) < sl.l.length by omega, b, hw0, hw1, e0, sf, e1, e2, Alive_at, show m + S - 1 < m + S by omega, show m + S / 2 ≤ m + S by omega, live14_2]
end Go.Proofs.Ytahjgmldkbbpaaa
