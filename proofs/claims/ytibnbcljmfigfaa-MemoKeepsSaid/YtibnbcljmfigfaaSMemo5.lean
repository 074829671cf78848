/- What is looked for, by the reference. -/
import Derived.Test.YtibnbcljmfigfaaSMemo4
namespace Go.Proofs.Ytibnbcljmfigfaa
open Go Go.AM Go.Proofs
set_option maxRecDepth 20000
set_option maxHeartbeats 4000000
set_option linter.unusedSimpArgs false
set_option linter.unusedVariables false
theorem floor_runG (w : Int) : ∀ (l : List Floor) k, runG (fun _ (x : Floor) (_ : Unit) => if x.who = w then (.inr x.seq : Unit ⊕ Int) else .inl ()) k l () = if hasP l w = true then .inr (floorP l w) else .inl () := by
  intro l
  induction l with
  | nil => intro k; rfl
  | cons x l ih =>
    intro k
    unfold runG floorP hasP
    by_cases h : x.who = w
    · simp [h]
    · simp only [if_neg h]
      rw [ih]
      unfold hasP
      simp [h]
theorem floorP_no (w : Int) : ∀ (l : List Floor), hasP l w = false → floorP l w = -1 := by
  intro l
  induction l with
  | nil => intro _; rfl
  | cons x l ih =>
    intro h
    unfold hasP at h ih
    rw [List.any_cons, Bool.or_eq_false_iff] at h
    unfold floorP
    rw [if_neg (by simpa using h.1)]
    exact ih h.2
theorem Floor2_ev (m : Memos) (w : Int) (hl : m.old.l.length ≤ 9223372036854775807) (H : List Blk) : EvF tab 63 [A m.c, I w] H = some ⟨I (floorP m.old.l w), [], []⟩ := by
  obtain ⟨ml, mo⟩ := m
  simp only at hl ⊢
  have hw := loop_runJ (E := EvF tab) (h := H) (c := L63_0) (lv := [1, 2, 5]) (l := mo.l) (β := Unit) (γ := Int) (fun _ _ => True) (fun _ x _ => if x.who = w then .inr x.seq else .inl ())
    (fun k _ o => ⟨[(1, I w), (2, .ptr H.length 0), (5, I k)], [], [.cells ((Memos.c ⟨ml, mo⟩).map .g)]⟩)
    (fun _ o => (.exit 0, ⟨[(1, I w), (2, .ptr H.length 0), (5, I mo.l.length), (10, B false)], [], [.cells ((Memos.c ⟨ml, mo⟩).map .g)]⟩))
    (fun n o => (.ret, ⟨[(4, I n)], [], [.cells ((Memos.c ⟨ml, mo⟩).map .g)]⟩)) (by simp) (by simp) (fun k x b o hk hx hy _ => ?_) (fun _ o _ => by delta L63_0; simp -implicitDefEqProofs [Memos.c]) () [] trivial
  · obtain ⟨o', hw⟩ := hw
    rw [floor_runG] at hw
    simp only [Int.ofNat_zero, Int.cast_ofNat_Int] at hw
    refine EvF_walk t63 (by simp) ?_
    simp only [Memos.c, List.map_cons, List.map_nil] at hw
    generalize hg1 : MemoL.g ml = G1 at hw
    generalize hg2 : Floors.g mo = G2 at hw
    cases hh : hasP mo.l w
    · rw [hh] at hw
      simp only [Bool.false_eq_true, if_false, endJ] at hw
      simp -implicitDefEqProofs [A, Memos.c, hg1, hg2, hw, floorP_no w mo.l hh]
    · rw [hh] at hw
      simp only [if_true, endJ] at hw
      simp -implicitDefEqProofs [A, Memos.c, hg1, hg2, hw]
  · have e2 := wrap_succ hk hl
    delta L63_0
    cases mo with
    | nil => simp at hk
    | of l =>
      simp only [Sl.l_of] at hk hy hl
      by_cases h : x.who = w
      · simp only [if_pos h]
        refine ⟨o, ?_⟩
        simp -implicitDefEqProofs [hk, hy, Memos.c, Floor.c, h, e2]
      · simp only [if_neg h]
        refine ⟨trivial, o, ?_⟩
        simp -implicitDefEqProofs [hk, hy, Memos.c, Floor.c, h, e2]
theorem look2_runG (w q : Int) : ∀ (l : List Memo) k, runG (fun _ (x : Memo) (_ : Unit) => if isP w q x = true then (.inr x : Unit ⊕ Memo) else .inl ()) k l () = match l.find? (isP w q) with | some x => .inr x | none => .inl () := by
  intro l
  induction l with
  | nil => intro k; rfl
  | cons x l ih =>
    intro k
    unfold runG
    by_cases h : isP w q x = true
    · simp [h]
    · simp only [if_neg h]
      rw [ih, List.find?_cons_of_neg h]
theorem Look2_ev (m : Memos) (w q : Int) (hl : m.l.l.length + m.old.l.length ≤ 10000) (H : List Blk) :
    EvF tab 34 [A m.c, I w, I q] H = some ⟨.tup [A (lookP m.l.l m.old.l w q).1.c, B (lookP m.l.l m.old.l w q).2.1, I (lookP m.l.l m.old.l w q).2.2], [], []⟩ := by
  have h1 := fun H => Floor2_ev m w (by omega) H
  have h2 := fun H => Whos2_ev m hl H
  have hwl := whosP_len m.l.l m.old.l
  have h4 := fun H => put_ev (whosP m.l.l m.old.l) w true (by omega) H
  have hlen : ∀ h st, lenV h st (.g (Ints.g (slOf (whosP m.l.l m.old.l)))) = some (whosP m.l.l m.old.l).length := fun h st => by rw [lenV_Sl, slOf_l]
  obtain ⟨ml, mo⟩ := m
  simp only at h1 h2 h4 hlen hwl hl ⊢
  have hw := loop_runJ (E := EvF tab) (h := H) (c := L34_0) (lv := [1, 2, 3, 6, 9]) (l := ml.l) (β := Unit) (γ := Memo) (fun _ _ => True) (fun _ x _ => if isP w q x = true then .inr x else .inl ())
    (fun k _ o => ⟨[(1, I w), (2, I q), (3, .ptr H.length 0), (6, .ptr (H.length + 3) 0), (9, I k)], [], [.cells ((Memos.c ⟨ml, mo⟩).map .g), .rows 6 1 [], .rows 8 1 [], .cells [I 0, I 0, I 0, I 0, I 0, I 0, B false, .ms (H.length + 1) 1 6 0 0, .ms (H.length + 2) 1 8 0 0]]⟩)
    (fun _ o => (.exit 0, ⟨[(1, I w), (2, I q), (3, .ptr H.length 0), (6, .ptr (H.length + 3) 0), (9, I ml.l.length), (15, B false)], [], [.cells ((Memos.c ⟨ml, mo⟩).map .g), .rows 6 1 [], .rows 8 1 [], .cells [I 0, I 0, I 0, I 0, I 0, I 0, B false, .ms (H.length + 1) 1 6 0 0, .ms (H.length + 2) 1 8 0 0]]⟩))
    (fun x o => (.ret, ⟨[(6, .ptr (H.length + 3) 0), (7, B true), (8, I 0)], [], [.cells ((Memos.c ⟨ml, mo⟩).map .g), .rows 6 1 [], .rows 8 1 [], .cells (x.rep.c.map .g)]⟩)) (by simp) (by simp) (fun k x b o hk hx hy _ => ?_) (fun _ o _ => by delta L34_0; simp -implicitDefEqProofs [Memos.c]) () [] trivial
  · obtain ⟨o', hw⟩ := hw
    rw [look2_runG] at hw
    simp only [Int.ofNat_zero, Int.cast_ofNat_Int] at hw
    refine EvF_walk t34 (by simp) ?_
    simp only [A, Memos.c, List.map_cons, List.map_nil] at hw h1 h2 ⊢
    generalize MemoL.g ml = G1 at hw h1 h2 ⊢
    generalize Floors.g mo = G2 at hw h1 h2 ⊢
    unfold lookP
    rw [lookF_eq]
    cases hf : ml.l.find? (isP w q) with
    | some x =>
      rw [hf] at hw
      simp only [endJ] at hw
      obtain ⟨xw, xs, x1, x2, x3, x4, x5, x6, x7, x8, x9⟩ := x
      simp only [Reply.c, List.map_cons, List.map_nil] at hw
      simp -implicitDefEqProofs [hw, Reply.c, A]
    | none =>
      rw [hf] at hw
      simp only [endJ] at hw
      by_cases c1 : q ≤ floorP mo.l w
      · simp -implicitDefEqProofs [hw, h1, c1, rep0, Reply.c, A]
      · by_cases c2 : 8 ≤ (whosP ml.l mo.l).length
        · have c2I : (8 : Int) ≤ ((whosP ml.l mo.l).length : Int) := by omega
          have hne : ¬ whosP ml.l mo.l = [] := fun e => by rw [e] at c2; simp at c2
          have hgg : Ints.g (slOf (whosP ml.l mo.l)) = .sl 1 ((whosP ml.l mo.l).map Ints.c) := by unfold slOf; rw [if_neg hne]; rfl
          rw [← hgg] at h4
          have hpb : putB true w (whosP ml.l mo.l) = putO w (whosP ml.l mo.l) := rfl
          rw [hpb] at h4
          have hsrt : SrtI (whosP ml.l mo.l) := sortL_srt _
          generalize Ints.g (slOf (whosP ml.l mo.l)) = GW at h2 h4 hlen
          have hpl : ∀ h st, lenV h st (.g (.sl 1 ((putO w (whosP ml.l mo.l)).map Ints.c))) = some (putO w (whosP ml.l mo.l)).length := fun h st => by simp [lenV]
          generalize GV.sl 1 ((putO w (whosP ml.l mo.l)).map Ints.c) = GP at h4 hpl
          by_cases c3 : w ∈ whosP ml.l mo.l
          · rw [putO_in w hsrt c3] at hpl
            simp -implicitDefEqProofs [hw, h1, h2, h4, hlen, hpl, c1, c2, c2I, c3, rep0, Reply.c, A]
          · rw [putO_out w c3, (insL_perm w _).length_eq, List.length_cons] at hpl
            simp -implicitDefEqProofs [hw, h1, h2, h4, hlen, hpl, c1, c2, c2I, c3, rep0, Reply.c, A]
            omega
        · have c2I : ¬ (8 : Int) ≤ ((whosP ml.l mo.l).length : Int) := by omega
          generalize Ints.g (slOf (whosP ml.l mo.l)) = GW at h2 hlen
          simp -implicitDefEqProofs [hw, h1, h2, hlen, c1, c2, c2I, rep0, Reply.c, A]
  · have e2 := wrap_succ hk (by omega)
    delta L34_0
    cases ml with
    | nil => simp at hk
    | of l =>
      simp only [Sl.l_of] at hk hy hl
      obtain ⟨xw, xs, x1, x2, x3, x4, x5, x6, x7, x8, x9⟩ := x
      unfold isP
      by_cases c1 : xw = w
      · subst c1
        by_cases c2 : xs = q
        · subst c2
          simp only [decide_true, Bool.and_self, if_true]
          refine ⟨o, ?_⟩
          simp -implicitDefEqProofs [hk, hy, Memos.c, Memo.c, Reply.c, e2]
        · simp only [c2, decide_true, decide_false, Bool.and_false, Bool.false_eq_true, if_false]
          refine ⟨trivial, o, ?_⟩
          simp -implicitDefEqProofs [hk, hy, Memos.c, Memo.c, c2, e2]
      · simp only [c1, decide_false, Bool.false_and, Bool.false_eq_true, if_false]
        refine ⟨trivial, o, ?_⟩
        simp -implicitDefEqProofs [hk, hy, Memos.c, Memo.c, c1, e2]
end Go.Proofs.Ytibnbcljmfigfaa
