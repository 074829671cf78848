/- The floor and the numbers of anybody. -/
import Derived.Test.YtibnbcljmfigfaaPMemo
import Derived.Test.YtibnbcljmfigfaaSFew
namespace Go.Proofs.Ytibnbcljmfigfaa
open Go Go.AM Go.Proofs
set_option maxRecDepth 20000
set_option maxHeartbeats 2000000
set_option linter.unusedSimpArgs false
set_option linter.unusedVariables false
theorem Memo.inv {gs : List GV} (h : HasTy (.p (.i .i64) (.p (.i .i64) (.p (.p (.i .i64) (.p (.i .i64) (.p (.i .i64) (.p (.i .i64) (.p (.i .i64) (.p (.i .i64) (.p .b (.p (.sl 6 tKV) (.p (.sl 8 tEv) .u))))))))) .u))) gs) : ∃ x : Memo, x.wf ∧ gs = x.c := by
  obtain ⟨_, _, rfl, ⟨a, rfl, ha⟩, _, _, rfl, ⟨b, rfl, hb⟩, _, _, rfl, hr, rfl⟩ := h
  obtain ⟨r, wr, rfl⟩ := Reply.inv hr
  exact ⟨⟨a, b, r⟩, ⟨ha, hb, wr⟩, by simp [Memo.c, Reply.c]⟩
theorem Floor.inv {gs : List GV} (h : HasTy (.p (.i .i64) (.p (.i .i64) .u)) gs) : ∃ x : Floor, x.wf ∧ gs = x.c := by
  obtain ⟨_, _, rfl, ⟨a, rfl, ha⟩, _, _, rfl, ⟨b, rfl, hb⟩, rfl⟩ := h
  exact ⟨⟨a, b⟩, ⟨ha, hb⟩, by simp [Floor.c]⟩
theorem Floor_ev (m : Memos) (w : Int) (hl : m.old.l.length ≤ 9223372036854775807) (H : List Blk) : EvF tab 40 [A m.c, I w] H = some ⟨I (floorP m.old.l w), [], []⟩ := by
  obtain ⟨ml, mo⟩ := m
  simp only at hl ⊢
  have hw := loop_runJ (E := EvF tab) (h := H) (c := L40_0) (lv := [1, 8, 9, 10]) (l := mo.l) (β := Unit) (γ := Int) (fun _ _ => True) (fun _ x _ => if x.who = w then .inr x.seq else .inl ())
    (fun k _ o => ⟨[(1, I w), (8, .g (Floors.g mo)), (9, I mo.l.length), (10, I k)], [], o⟩)
    (fun _ o => (.exit 0, ⟨[(1, I w), (8, .g (Floors.g mo)), (9, I mo.l.length), (10, I mo.l.length), (11, B false)], [], o⟩))
    (fun n o => (.ret, ⟨[(4, I n)], [], o⟩)) (by simp) (by simp) (fun k x b o hk hx hy _ => ?_) (fun _ o _ => by delta L40_0; simp -implicitDefEqProofs) () [.cells ((Memos.c ⟨ml, mo⟩).map .g)] trivial
  · obtain ⟨o', hw⟩ := hw
    have hr : ∀ (l : List Floor) k, runG (fun _ (x : Floor) (_ : Unit) => if x.who = w then (.inr x.seq : Unit ⊕ Int) else .inl ()) k l () = if hasP l w = true then .inr (floorP l w) else .inl () := by
      intro l
      induction l with
      | nil => intro k; rfl
      | cons x l ih =>
        intro k
        unfold runG floorP hasP
        by_cases h : x.who = w
        · simp [h]
        · simp only [if_neg h]
          rw [ih]
          unfold hasP
          simp [h]
    have hn : ∀ (l : List Floor), hasP l w = false → floorP l w = -1 := by
      intro l
      induction l with
      | nil => intro _; rfl
      | cons x l ih =>
        intro h
        unfold hasP at h ih
        rw [List.any_cons, Bool.or_eq_false_iff] at h
        unfold floorP
        rw [if_neg (by simpa using h.1)]
        exact ih h.2
    rw [hr] at hw
    simp only [Int.ofNat_zero, Int.cast_ofNat_Int] at hw
    refine EvF_walk t40 (by simp) ?_
    simp only [Memos.c, List.map_cons, List.map_nil] at hw
    have hlen : ∀ h s, lenV h s (.g (Floors.g mo)) = some mo.l.length := fun h s => lenV_Sl ..
    generalize hg1 : MemoL.g ml = G1 at hw
    generalize hg2 : Floors.g mo = G2 at hw hlen
    cases hh : hasP mo.l w
    · rw [hh] at hw
      simp only [Bool.false_eq_true, if_false, endJ] at hw
      simp -implicitDefEqProofs [A, Memos.c, hg1, hg2, hlen, hw, hn mo.l hh]
    · rw [hh] at hw
      simp only [if_true, endJ] at hw
      simp -implicitDefEqProofs [A, Memos.c, hg1, hg2, hlen, hw]
  · have e2 := wrap_succ hk hl
    delta L40_0
    cases mo with
    | nil => simp at hk
    | of l =>
      simp only [Sl.l_of] at hk hy hl
      by_cases h : x.who = w
      · simp only [if_pos h]
        refine ⟨o ++ [.cells (x.c.map .g)], ?_⟩
        simp -implicitDefEqProofs [hk, hy, Floor.c, h, e2]
      · simp only [if_neg h]
        refine ⟨trivial, o ++ [.cells (x.c.map .g)], ?_⟩
        simp -implicitDefEqProofs [hk, hy, Floor.c, h, e2]
theorem runG_filterM {α β : Type} (p : α → Bool) (f : α → β) : ∀ (l : List α) k r, runG (fun _ (x : α) (r : List β) => (if p x = true then .inl (r ++ [f x]) else .inl r : List β ⊕ Nat)) k l r = .inl (r ++ (l.filter p).map f) := by
  intro l
  induction l with
  | nil => intro k r; simp [runG]
  | cons x l ih =>
    intro k r
    cases h : p x
    · simp only [runG, h, Bool.false_eq_true, if_false, List.filter_cons]
      rw [ih]
    · simp only [runG, h, if_true, List.filter_cons]
      rw [ih]; simp
theorem intG_eq : intG = Ints.c := rfl
theorem sort_ev {H : List Blk} {id g : Nat} {zs : List Int} (h : H[id]? = some (.rows 1 g (zs.map Ints.c))) (hl : zs.length ≤ 1000000) : EvF tab 71 [.ms id g 1 0 zs.length] H = some ⟨.tup [], [(id, .rows 1 g ((sortL zs).map Ints.c))], []⟩ := by
  refine EvF_ext rfl (fun _ _ h => by cases h) ?_
  have e1 := intsG_map zs
  rw [intG_eq] at e1
  show orX _ _ _ _ _ = _
  have e2 : zs.length < 4611686018427387904 := by omega
  simp [orX, keysX, sortX, Go.AM.sortA, h, e1, intG_eq, e2]
theorem Seqs_ev (m : Memos) (w : Int) (hl : m.l.l.length ≤ 1000000) (H : List Blk) : EvF tab 41 [A m.c, I w] H = some ⟨.g (Ints.g (slOf (seqsP m.l.l w))), [], []⟩ := by
  obtain ⟨ml, mo⟩ := m
  simp only at hl ⊢
  have hw := loop_runJ (E := EvF tab) (h := H) (c := L41_0) (lv := [1, 5, 9, 10, 11]) (l := ml.l) (β := List Int) (γ := Nat) (fun k r => r.length ≤ k) (fun _ x r => if (fun x : Memo => decide (x.who = w)) x = true then .inl (r ++ [Memo.seq x]) else .inl r)
    (fun k r o => ⟨[(1, I w), (5, .ms (H.length + 2) (r.length + 1) 1 0 r.length), (9, .g (MemoL.g ml)), (10, I ml.l.length), (11, I k)], [], .cells ((Memos.c ⟨ml, mo⟩).map .g) :: .rows 1 1 [] :: .rows 1 (r.length + 1) (r.map Ints.c) :: o⟩)
    (fun r o => (.exit 0, ⟨[(1, I w), (5, .ms (H.length + 2) (r.length + 1) 1 0 r.length), (9, .g (MemoL.g ml)), (10, I ml.l.length), (11, I ml.l.length), (12, B false)], [], .cells ((Memos.c ⟨ml, mo⟩).map .g) :: .rows 1 1 [] :: .rows 1 (r.length + 1) (r.map Ints.c) :: o⟩))
    (fun n o => (.ret, ⟨[], [], o⟩)) (by simp) (by simp) (fun k x r o hk hx hy hi => ?_) (fun _ o _ => by delta L41_0; simp -implicitDefEqProofs) [] [] (by simp)
  · obtain ⟨o', hw⟩ := hw
    rw [runG_filterM] at hw
    simp only [endJ, List.nil_append, List.map_nil, List.length_nil, Int.ofNat_zero, Int.cast_ofNat_Int, Nat.zero_add] at hw
    rw [show (ml.l.filter fun x => decide (x.who = w)).map Memo.seq = seqL ml.l w from rfl] at hw
    have hsl : (seqL ml.l w).length ≤ ml.l.length := by unfold seqL; rw [List.length_map]; exact List.length_filter_le ..
    unfold seqsP
    obtain ⟨r, hr⟩ : ∃ r, seqL ml.l w = r := ⟨_, rfl⟩
    rw [hr] at hw hsl ⊢
    have hs := fun (P : Blk) (Q : Blk) => sort_ev (H := H ++ (P :: Q :: .rows 1 (r.length + 1) (r.map Ints.c) :: o')) (id := H.length + 2) (g := r.length + 1) (zs := r) (by rw [List.getElem?_append_right (by omega), Nat.add_sub_cancel_left]; rfl) (by omega)
    have hsn := sortL_len r
    refine EvF_walk t41 (by simp) ?_
    simp only [Memos.c, List.map_cons, List.map_nil] at hw
    have hlen : ∀ h s, lenV h s (.g (MemoL.g ml)) = some ml.l.length := fun h s => lenV_Sl ..
    generalize hg1 : MemoL.g ml = G1 at hw hlen
    generalize hg2 : Floors.g mo = G2 at hw
    cases r with
    | nil =>
      rw [sortL_nil] at hs ⊢
      simp only [List.length_nil, List.map_nil, Nat.zero_add] at hs
      simp -implicitDefEqProofs [A, Memos.c, hg1, hg2, hlen, hw, hs, slOf]
    | cons y r =>
      obtain ⟨q, hq⟩ : ∃ q, sortL (y :: r) = q := ⟨_, rfl⟩
      rw [hq] at hs hsn ⊢
      cases q with
      | nil => simp at hsn
      | cons z q =>
        simp only [List.length_cons, Nat.add_right_cancel_iff] at hsn
        simp only [List.length_cons, List.map_cons] at hs
        have e1 : List.take r.length (List.map Ints.c q) = List.map Ints.c q := List.take_of_length_le (by simp [hsn])
        simp -implicitDefEqProofs [A, Memos.c, hg1, hg2, hlen, hw, hs, slOf, e1, show r.length ≤ q.length by omega]
  · have e2 := wrap_succ hk (by omega)
    delta L41_0
    cases ml with
    | nil => simp at hk
    | of l =>
      simp only [Sl.l_of] at hk hy hl
      have e3 : List.take r.length (List.map Ints.c r) = List.map Ints.c r := List.take_of_length_le (by simp)
      obtain ⟨xw, xs, x1, x2, x3, x4, x5, x6, x7, x8, x9⟩ := x
      by_cases h : xw = w
      · simp only [h, decide_true, if_true]
        refine ⟨by simp; omega, o ++ [.rows 6 1 [], .rows 8 1 [], .cells ((Memo.c ⟨xw, xs, x1, x2, x3, x4, x5, x6, x7, x8, x9⟩).map .g)], ?_⟩
        simp -implicitDefEqProofs [hk, hy, Memo.c, h, e2, Ints.c, appV, room, Nat.not_succ_le_self, chunk, show r.length + 1 ≤ 140737488355328 by omega, show (r.length + 1) * 8 ≤ 140737488355328 by omega, e3]
      · simp only [h, decide_false, Bool.false_eq_true, if_false]
        refine ⟨by omega, o ++ [.rows 6 1 [], .rows 8 1 [], .cells ((Memo.c ⟨xw, xs, x1, x2, x3, x4, x5, x6, x7, x8, x9⟩).map .g)], ?_⟩
        simp -implicitDefEqProofs [hk, hy, Memo.c, h, e2]
end Go.Proofs.Ytibnbcljmfigfaa
