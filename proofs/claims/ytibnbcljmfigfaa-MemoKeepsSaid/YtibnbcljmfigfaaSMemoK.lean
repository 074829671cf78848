/- What is kept, by the reference. -/
import Derived.Test.YtibnbcljmfigfaaSMemo8
namespace Go.Proofs.Ytibnbcljmfigfaa
open Go Go.AM Go.Proofs
set_option maxRecDepth 20000
set_option maxHeartbeats 8000000
set_option linter.unusedSimpArgs false
set_option linter.unusedVariables false
theorem Seqs2M_ev (l : List Memo) (a2 : AV) (w : Int) (hl : l.length ≤ 10000) (ha2 : AV.leaf a2 = true) {H : List Blk} {id g : Nat} (hid : H[id]? = some (.rows 11 g (l.map Memo.c))) :
    EvF tab 70 [.agg [.ms id g 11 0 l.length, a2], I w] H = some ⟨.g (Ints.g (slOf (seqsP l w))), [], []⟩ := by
  have hlt : id < H.length := (List.getElem?_eq_some_iff.1 hid).1
  have hidg : H[id] = .rows 11 g (l.map Memo.c) := (List.getElem?_eq_some_iff.1 hid).2
  have hlv : ∀ o, isLiveB (H ++ o) id = true := fun o => by unfold isLiveB; rw [List.getElem?_append_left hlt, hid]; rfl
  have hw := loop_runJ (E := EvF tab) (h := H) (c := L70_0) (lv := [1, 2, 5, 6]) (l := l) (β := List Int) (γ := Unit) (fun k r => r.length ≤ k) (fun _ x r => .inl ((fun r (x : Memo) => if x.who = w then insL x.seq r else r) r x))
    (fun k r o => ⟨[(1, I w), (2, .ptr H.length 0), (5, startV (H.length + 2) r), (6, I k)], [], [.cells [.ms id g 11 0 l.length, a2], .rows 1 1 [], .rows 1 1 []]⟩)
    (fun r o => (.exit 0, ⟨[(1, I w), (2, .ptr H.length 0), (5, startV (H.length + 2) r), (6, I l.length), (11, B false)], [], [.cells [.ms id g 11 0 l.length, a2], .rows 1 1 [], .rows 1 1 []]⟩))
    (fun n o => (.ret, ⟨[], [], o⟩)) (by simp) (by simp) (fun k x r o hk hx hy hi => ?_) (fun _ o _ => by delta L70_0; simp -implicitDefEqProofs [getB_old hlt, orB, hid, hidg, hlv]) [] [] (by simp)
  · obtain ⟨o', hw⟩ := hw
    rw [runG_foldM] at hw
    have hf : ∀ (l : List Memo) (r : List Int), l.foldl (fun r (x : Memo) => if x.who = w then insL x.seq r else r) r = (seqL l w).foldl (fun s n => insL n s) r := by
      intro l
      induction l with
      | nil => intro r; rfl
      | cons x l ih =>
        intro r
        unfold seqL at ih ⊢
        rw [List.foldl_cons, ih, List.filter_cons]
        by_cases h : x.who = w
        · simp [h]
        · simp [h]
    have hs := insL_fold (seqL l w) []
    rw [sortL_nil, List.nil_append] at hs
    rw [hf, hs] at hw
    rw [show sortL (seqL l w) = seqsP l w from rfl] at hw
    simp only [endJ, Int.ofNat_zero, Int.cast_ofNat_Int] at hw
    refine EvF_walk t70 (by simp) ?_
    obtain ⟨r, hr⟩ : ∃ r, seqsP l w = r := ⟨_, rfl⟩
    rw [hr] at hw ⊢
    cases r with
    | nil => simp only [startV, if_true] at hw; simp -implicitDefEqProofs [hw, slOf]
    | cons y r => simp only [startV, reduceCtorEq, if_false, if_true] at hw; simp -implicitDefEqProofs [hw, slOf]
  · have e2 := wrap_succ hk (by omega)
    have hp := fun H id (hid : H[id]? = some (Blk.rows 1 1 [])) => putS_ev r x.seq false (by omega) hid
    have hp2 := fun (b c : Blk) => hp (H ++ [b, c, .rows 1 1 []]) (H.length + 2) (by rw [List.getElem?_append_right (by omega), Nat.add_sub_cancel_left]; rfl)
    have hpl := putB_len false x.seq r
    have hpb : putB false x.seq r = insL x.seq r := rfl
    rw [hpb] at hp2 hpl
    delta L70_0
    obtain ⟨xw, xs, x1, x2, x3, x4, x5, x6, x7, x8, x9⟩ := x
    simp only at hp2 hpl ⊢
    by_cases h : xw = w
    · simp only [h, if_true]
      refine ⟨by omega, o, ?_⟩
      generalize startV (H.length + 2) r = S1 at hp2 ⊢
      generalize startV (H.length + 2) (insL xs r) = S2 at hp2 ⊢
      simp -implicitDefEqProofs [getB_old hlt, orB, hid, hidg, hlv, hk, hy, Memo.c, h, e2, hp2]
    · simp only [h, if_false]
      refine ⟨by omega, o, ?_⟩
      simp -implicitDefEqProofs [getB_old hlt, orB, hid, hidg, hlv, hk, hy, Memo.c, h, e2]

def keptF (w y : Int) (b : List Memo × Bool) (x : Memo) : List Memo × Bool := if b.2 = false ∧ isP w y x = true then (b.1, true) else (b.1 ++ [x], b.2)
theorem keptF_true (w y : Int) : ∀ (l r : List Memo), l.foldl (keptF w y) (r, true) = (r ++ l, true)
  | [], r => by simp
  | x :: l, r => by
    rw [List.foldl_cons, show keptF w y (r, true) x = (r ++ [x], true) by simp [keptF], keptF_true w y l]; simp
theorem keptF_fin (w y : Int) : ∀ (l r : List Memo), (l.foldl (keptF w y) (r, false)).1 = r ++ delP l w y
  | [], r => by simp [delP]
  | x :: l, r => by
    rw [List.foldl_cons]
    unfold delP findJ
    by_cases h : isP w y x = true
    · rw [show keptF w y (r, false) x = (r, true) by simp [keptF, h], keptF_true, if_pos h]; simp
    · rw [show keptF w y (r, false) x = (r ++ [x], false) by simp [keptF, h], keptF_fin w y l, if_neg h]
      simp [delP]
theorem kept_loop (L : List Memo) (w y : Int) (ys : List Int) (gL : Nat) (a2 p8 : AV) (hl : L.length ≤ 10000) {H P : List Blk} (h10 : P[10]? = some (.cells [.ms (H.length + 11) gL 11 0 L.length, a2])) (h11 : P[11]? = some (.rows 11 gL (L.map Memo.c))) :
    loopE (EvF tab) H L36_0 [1, 8, 13, 14, 15, 16, 17] ⟨[(1, I w), (8, p8), (13, .ptr (H.length + 10) 0), (14, .g (.sl 1 ((y :: ys).map Ints.c))), (15, .ms (H.length + P.length) 1 11 0 0), (16, B false), (17, I 0)], [], P ++ [.rows 11 1 []]⟩ =
      some (.exit 0, ⟨[(1, I w), (8, p8), (13, .ptr (H.length + 10) 0), (14, .g (.sl 1 ((y :: ys).map Ints.c))), (15, .ms (H.length + P.length) ((delP L w y).length + 1) 11 0 (delP L w y).length), (16, B (L.foldl (keptF w y) ([], false)).2), (17, I L.length), (66, B false)], [], P ++ [.rows 11 ((delP L w y).length + 1) ((delP L w y).map Memo.c)]⟩) := by
  have hp10 : 10 < P.length := (List.getElem?_eq_some_iff.1 h10).1
  have hp11 : 11 < P.length := (List.getElem?_eq_some_iff.1 h11).1
  have hg10 : ∀ t x, getB H ⟨t, [], P ++ [x]⟩ (H.length + 10) = some (.cells [.ms (H.length + 11) gL 11 0 L.length, a2]) := fun t x => by
    unfold getB; rw [if_neg (by omega), Nat.add_sub_cancel_left]; simp only; rw [List.getElem?_append_left hp10, h10]
  have hg11 : ∀ t x, getB H ⟨t, [], P ++ [x]⟩ (H.length + 11) = some (.rows 11 gL (L.map Memo.c)) := fun t x => by
    unfold getB; rw [if_neg (by omega), Nat.add_sub_cancel_left]; simp only; rw [List.getElem?_append_left hp11, h11]
  have hlv10 : ∀ x, isLiveB (P ++ [x]) 10 = true := fun x => by unfold isLiveB; rw [List.getElem?_append_left hp10, h10]; rfl
  have hlv11 : ∀ x, isLiveB (P ++ [x]) 11 = true := fun x => by unfold isLiveB; rw [List.getElem?_append_left hp11, h11]; rfl
  have hw := loop_fold (E := EvF tab) (h := H) (c := L36_0) (lv := [1, 8, 13, 14, 15, 16, 17]) (l := L) (β := List Memo × Bool) (fun k b => b.1.length ≤ k) (keptF w y)
    (fun k b => ⟨[(1, I w), (8, p8), (13, .ptr (H.length + 10) 0), (14, .g (.sl 1 ((y :: ys).map Ints.c))), (15, .ms (H.length + P.length) (b.1.length + 1) 11 0 b.1.length), (16, B b.2), (17, I k)], [], P ++ [.rows 11 (b.1.length + 1) (b.1.map Memo.c)]⟩)
    (fun b => (.exit 0, ⟨[(1, I w), (8, p8), (13, .ptr (H.length + 10) 0), (14, .g (.sl 1 ((y :: ys).map Ints.c))), (15, .ms (H.length + P.length) (b.1.length + 1) 11 0 b.1.length), (16, B b.2), (17, I L.length), (66, B false)], [], P ++ [.rows 11 (b.1.length + 1) (b.1.map Memo.c)]⟩)) (by simp) (fun k x b hk hx hy hi => ?_) (fun b _ => by delta L36_0; simp -implicitDefEqProofs [hg10, hg11, hlv10, hlv11]) ([], false) (by simp)
  · have hf := keptF_fin w y L []
    rw [List.nil_append] at hf
    rw [hf] at hw
    simpa only [List.map_nil, List.length_nil, Int.ofNat_zero, Int.cast_ofNat_Int, Nat.zero_add] using hw
  · have e2 := wrap_succ hk (by omega)
    obtain ⟨r, gone⟩ := b
    simp only at hi ⊢
    have hap := fun (x : Memo) t => app_grow (sz := 11) (bytes := 120) (g := r.length + 1) (xs := r.map Memo.c) (ys := [x.c]) (by simp) (by simp; omega) (by simp; omega) H t [] P
    simp only [List.length_map, List.length_cons, List.length_nil, Nat.zero_add] at hap
    delta L36_0
    obtain ⟨xw, xs, x1, x2, x3, x4, x5, x6, x7, x8, x9⟩ := x
    have hap := hap ⟨xw, xs, x1, x2, x3, x4, x5, x6, x7, x8, x9⟩
    simp only [Memo.c] at hap
    unfold keptF isP
    cases gone
    · by_cases c1 : xw = w
      · subst c1
        by_cases c2 : xs = y
        · simp only [c2, decide_true, Bool.and_self, and_self, if_true]
          refine ⟨by omega, ?_⟩
          simp -implicitDefEqProofs [hg10, hg11, hlv10, hlv11, hk, hy, Memo.c, Ints.c, c2, e2]
        · simp only [c2, decide_true, decide_false, Bool.and_false, Bool.false_eq_true, and_false, if_false]
          refine ⟨by simp; omega, ?_⟩
          simp -implicitDefEqProofs [hg10, hg11, hlv10, hlv11, hk, hy, Memo.c, Ints.c, c2, e2, chunk, hap]
      · simp only [c1, decide_false, Bool.false_and, Bool.false_eq_true, and_false, if_false]
        refine ⟨by simp; omega, ?_⟩
        simp -implicitDefEqProofs [hg10, hg11, hlv10, hlv11, hk, hy, Memo.c, Ints.c, c1, e2, chunk, hap]
    · simp only [Bool.true_eq_false, false_and, if_false]
      refine ⟨by simp; omega, ?_⟩
      simp -implicitDefEqProofs [hg10, hg11, hlv10, hlv11, hk, hy, Memo.c, Ints.c, e2, chunk, hap]

theorem floor_walk (w y : Int) : ∀ (l : List Floor) (k : Nat), (∃ (x : Floor) (j : Nat), l[j]? = some x ∧ x.who = w ∧ runG (β := Unit) (fun k (x : Floor) _ => if x.who = w then .inr k else .inl ()) k l () = .inr (k + j) ∧ raiseP l w y = l.set j ⟨w, max x.seq y⟩) ∨
    (runG (β := Unit) (fun k (x : Floor) _ => if x.who = w then (.inr k : Unit ⊕ Nat) else .inl ()) k l () = .inl () ∧ raiseP l w y = l ++ [⟨w, y⟩])
  | [], k => .inr ⟨rfl, rfl⟩
  | f :: l, k => by
    unfold runG raiseP
    by_cases h : f.who = w
    · exact .inl ⟨f, 0, rfl, h, by simp [h], by simp [h]⟩
    · simp only [h, if_false]
      rcases floor_walk w y l (k + 1) with ⟨x, j, h1, h2, h3, h4⟩ | ⟨h1, h2⟩
      · exact .inl ⟨x, j + 1, by simpa using h1, h2, by rw [h3]; congr 1; omega, by rw [h4]; rfl⟩
      · exact .inr ⟨h1, by rw [h2]; rfl⟩
theorem hasP_walk (w : Int) : ∀ (l : List Floor) (k : Nat), runG (β := Unit) (fun k (x : Floor) _ => if x.who = w then (.inr k : Unit ⊕ Nat) else .inl ()) k l () = .inl () → hasP l w = false
  | [], _, _ => rfl
  | f :: l, k, h => by
    unfold runG at h
    by_cases hf : f.who = w
    · simp [hf] at h
    · simp only [hf, if_false] at h
      have := hasP_walk w l (k + 1) h
      unfold hasP at this ⊢
      rw [List.any_cons, this]; simp [hf]
theorem fl_loop (old : List Floor) (w y : Int) (ys : List Int) (gK nK : Nat) (hl : old.length ≤ 10000) (hne : old ≠ []) (H : List Blk) (b0 b1 b2 b3 b4 b5 b6 b7 b8 b9 b11 b13 : Blk) :
    loopE (EvF tab) H L36_1 [1, 8, 13, 14, 18] ⟨[(1, I w), (8, .ptr (H.length + 4) 0), (13, .ptr (H.length + 10) 0), (14, .g (.sl 1 ((y :: ys).map Ints.c))), (18, I 0)], [], [b0, b1, b2, b3, .cells [.ms (H.length + 2) 1 11 0 0, .ms (H.length + 3) 1 2 0 0], b5, b6, b7, b8, b9, .cells [.ms (H.length + 13) gK 11 0 nK, .ms (H.length + 12) 2 2 0 old.length], b11, .rows 2 2 (old.map Floor.c), b13]⟩ =
      some (if hasP old w = true then (.ret, ⟨[(8, .ptr (H.length + 4) 0), (9, I 0)], [], [b0, b1, b2, b3, .cells [.ms (H.length + 13) gK 11 0 nK, .ms (H.length + 12) 2 2 0 old.length], b5, b6, b7, b8, b9, .cells [.ms (H.length + 13) gK 11 0 nK, .ms (H.length + 12) 2 2 0 old.length], b11, .rows 2 2 ((raiseP old w y).map Floor.c), b13]⟩)
        else (.exit 2, ⟨[(1, I w), (8, .ptr (H.length + 4) 0), (13, .ptr (H.length + 10) 0), (14, .g (.sl 1 ((y :: ys).map Ints.c))), (18, I old.length), (107, B false)], [], [b0, b1, b2, b3, .cells [.ms (H.length + 2) 1 11 0 0, .ms (H.length + 3) 1 2 0 0], b5, b6, b7, b8, b9, .cells [.ms (H.length + 13) gK 11 0 nK, .ms (H.length + 12) 2 2 0 old.length], b11, .rows 2 2 (old.map Floor.c), b13]⟩)) := by
  have hw := loop_runJ (E := EvF tab) (h := H) (c := L36_1) (lv := [1, 8, 13, 14, 18]) (l := old) (β := Unit) (γ := Nat) (fun _ _ => True) (fun k x _ => if x.who = w then .inr k else .inl ())
    (fun k _ _ => ⟨[(1, I w), (8, .ptr (H.length + 4) 0), (13, .ptr (H.length + 10) 0), (14, .g (.sl 1 ((y :: ys).map Ints.c))), (18, I k)], [], [b0, b1, b2, b3, .cells [.ms (H.length + 2) 1 11 0 0, .ms (H.length + 3) 1 2 0 0], b5, b6, b7, b8, b9, .cells [.ms (H.length + 13) gK 11 0 nK, .ms (H.length + 12) 2 2 0 old.length], b11, .rows 2 2 (old.map Floor.c), b13]⟩)
    (fun _ _ => (.exit 2, ⟨[(1, I w), (8, .ptr (H.length + 4) 0), (13, .ptr (H.length + 10) 0), (14, .g (.sl 1 ((y :: ys).map Ints.c))), (18, I old.length), (107, B false)], [], [b0, b1, b2, b3, .cells [.ms (H.length + 2) 1 11 0 0, .ms (H.length + 3) 1 2 0 0], b5, b6, b7, b8, b9, .cells [.ms (H.length + 13) gK 11 0 nK, .ms (H.length + 12) 2 2 0 old.length], b11, .rows 2 2 (old.map Floor.c), b13]⟩))
    (fun j _ => (.ret, ⟨[(8, .ptr (H.length + 4) 0), (9, I 0)], [], [b0, b1, b2, b3, .cells [.ms (H.length + 13) gK 11 0 nK, .ms (H.length + 12) 2 2 0 old.length], b5, b6, b7, b8, b9, .cells [.ms (H.length + 13) gK 11 0 nK, .ms (H.length + 12) 2 2 0 old.length], b11, .rows 2 2 ((old.set j ⟨w, max ((old[j]?.getD ⟨0, 0⟩).seq) y⟩).map Floor.c), b13]⟩)) (by simp) (by simp) (fun k x b o hk hx hy _ => ?_) (fun _ o _ => by delta L36_1; simp -implicitDefEqProofs) () [] trivial
  · obtain ⟨o', hw⟩ := hw
    simp only [Int.ofNat_zero, Int.cast_ofNat_Int] at hw
    rw [hw]
    rcases floor_walk w y old 0 with ⟨x, j, h1, h2, h3, h4⟩ | ⟨h1, h2⟩
    · have hh : hasP old w = true := by unfold hasP; rw [List.any_eq_true]; exact ⟨x, List.mem_of_getElem? h1, by simpa using h2⟩
      rw [h3, if_pos hh, Nat.zero_add, h4]
      simp only [endJ, h1, Option.getD_some]
    · have hh : hasP old w = false := hasP_walk w old 0 h1
      rw [h1, if_neg (by rw [hh]; simp)]; rfl
  · have e2 := wrap_succ hk (by omega)
    delta L36_1
    obtain ⟨xw, xs⟩ := x
    by_cases h : xw = w
    · subst h
      simp only [if_true]
      refine ⟨o, ?_⟩
      simp -implicitDefEqProofs [hk, hx, hy, Floor.c, Ints.c, e2, max_ite, List.map_set]
    · simp only [h, if_false]
      refine ⟨trivial, o, ?_⟩
      simp -implicitDefEqProofs [hk, hx, hy, Floor.c, Ints.c, h, e2]

def keepM2 (m : Memos) (w q : Int) (r : Reply) : Memos :=
  if (lookP m.l.l m.old.l w q).2.1 = true ∨ (lookP m.l.l m.old.l w q).2.2 ≠ 0 then m else
  if (seqsP (keepL1 m.l.l w q r) w).length ≤ 4 then ⟨.of (keepL1 m.l.l w q r), slOf m.old.l⟩ else
    ⟨.of (delP (keepL1 m.l.l w q r) w (headI (seqsP (keepL1 m.l.l w q r) w))), .of (raiseP m.old.l w (headI (seqsP (keepL1 m.l.l w q r) w)))⟩
theorem keepM2_l (m : Memos) (w q : Int) (r : Reply) : (keepM m w q r).l.l = (keepM2 m w q r).l.l ∧ (keepM m w q r).old.l = (keepM2 m w q r).old.l := by
  unfold keepM keepM2
  split
  · exact ⟨rfl, rfl⟩
  · split
    · exact ⟨rfl, (slOf_l _).symm⟩
    · exact ⟨rfl, rfl⟩
end Go.Proofs.Ytibnbcljmfigfaa
