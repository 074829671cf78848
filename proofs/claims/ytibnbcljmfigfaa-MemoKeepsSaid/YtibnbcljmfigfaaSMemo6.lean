/- What is kept: the parts. -/
import Derived.Test.YtibnbcljmfigfaaSMemo5
namespace Go.Proofs.Ytibnbcljmfigfaa
open Go Go.AM Go.Proofs
set_option maxRecDepth 20000
set_option maxHeartbeats 4000000
set_option linter.unusedSimpArgs false
set_option linter.unusedVariables false
/-! ### A floor that is raised -/
def isF (w : Int) (x : Floor) : Bool := decide (x.who = w)
theorem raise1_ev (x : Floor) (w : Int) {H : List Blk} {p : Nat} (hp : H[p]? = some (.cells [I w])) : EvF tab 90 [A x.c, .ptr p 0] H = some ⟨B (isF w x), [], []⟩ := by
  have hlt : p < H.length := (List.getElem?_eq_some_iff.1 hp).1
  have hg : H[p] = .cells [I w] := (List.getElem?_eq_some_iff.1 hp).2
  have hlv : ∀ o, isLiveB (H ++ o) p = true := fun o => by unfold isLiveB; rw [List.getElem?_append_left hlt, hp]; rfl
  refine EvF_walk t90 (by simp) ?_
  unfold isF
  obtain ⟨xw, xs⟩ := x
  by_cases c1 : xw = w
  · simp -implicitDefEqProofs [A, Floor.c, getB_old hlt, orB, hg, hp, hlv, c1]
  · simp -implicitDefEqProofs [A, Floor.c, getB_old hlt, orB, hg, hp, hlv, c1]
theorem idxFl_ev (s : Sl Floor) (w : Int) (hl : s.l.length ≤ 1000000) {H : List Blk} {p : Nat} (hp : H[p]? = some (.cells [I w])) :
    EvF tab 89 [.g (Floors.g s), .fv 90 [.ptr p 0]] H = some ⟨I (idxG (isF w) 0 s.l), [], []⟩ := by
  have := index_ev (Tb := tab) (f := 89) (agg := true) (n := 2) (c := Floor.c) t89 (fun e => A e.c) (isF w) (.fv 90 [.ptr p 0]) s (by omega) H (fun e => by simp [Floor.c, A]) (fun e _ t => by
    have := raise1_ev e w (H := full H ⟨t, [], []⟩) (p := p) (by simpa using hp)
    rw [evCall_fv]
    simp only [List.all_nil, if_true]
    show fin H [] ⟨t, [], []⟩ (EvF tab _ [A e.c, .ptr p 0] _) = _
    simp only [hideB]
    rw [this]
    simp -implicitDefEqProofs)
  exact this
theorem concatTF : ∃ m msg m' msg', tab.T 91 = some (concatF 2 16 105 m msg) ∧ tab.T 105 = some (growF 2 16 [.int .i64 0, .int .i64 0] m' msg') :=
  ⟨_, _, _, _, t91, t105⟩
theorem concatFl_ev (a b : Sl Floor) (hn : a.l.length + b.l.length ≤ 1000000) (H : List Blk) :
    EvF tab 91 [.g (.sl 1 [[Floors.g a], [Floors.g b]])] H = some ⟨.g (nslG 2 Floor.c (a.l ++ b.l)), [], []⟩ := by
  obtain ⟨m, msg, m', msg', h1, h2⟩ := concatTF
  exact concat_ev h1 h2 a b (by omega) (by omega) H
theorem cloneTF : tab.T 92 = some (cloneF 2 16 true) := t92
def raiseP : List Floor → Int → Int → List Floor
  | [], w, q => [⟨w, q⟩]
  | f :: l, w, q => if f.who = w then ⟨w, max f.seq q⟩ :: l else f :: raiseP l w q
theorem raiseP_ne (l : List Floor) (w q : Int) : raiseP l w q ≠ [] := by cases l <;> (unfold raiseP; try split) <;> simp
theorem raiseP_idx (w q : Int) : ∀ (l : List Floor), (∃ (x : Floor) (j : Nat), l.find? (isF w) = some x ∧ l[j]? = some x ∧ idxG (isF w) 0 l = (j : Int) ∧ raiseP l w q = l.set j ⟨w, max x.seq q⟩) ∨ (l.find? (isF w) = none ∧ idxG (isF w) 0 l = -1 ∧ raiseP l w q = l ++ [⟨w, q⟩]) := by
  have key : ∀ (l : List Floor) (k : Nat), (∃ (x : Floor) (j : Nat), l.find? (isF w) = some x ∧ l[j]? = some x ∧ idxG (isF w) k l = ((k + j : Nat) : Int) ∧ raiseP l w q = l.set j ⟨w, max x.seq q⟩) ∨ (l.find? (isF w) = none ∧ idxG (isF w) k l = -1 ∧ raiseP l w q = l ++ [⟨w, q⟩]) := by
    intro l
    induction l with
    | nil => intro k; exact .inr ⟨rfl, rfl, rfl⟩
    | cons y l ih =>
      intro k
      by_cases h : y.who = w
      · have hp : isF w y = true := by simp [isF, h]
        exact .inl ⟨y, 0, by simp [hp], rfl, by simp [idxG, hp], by unfold raiseP; rw [if_pos h]; rfl⟩
      · have hp : ¬ isF w y = true := by simp [isF, h]
        rcases ih (k + 1) with ⟨x, j, h1, h2, h3, h4⟩ | ⟨h1, h2, h3⟩
        · exact .inl ⟨x, j + 1, by rw [List.find?_cons_of_neg hp, h1], by simpa using h2, by unfold idxG; rw [if_neg hp, h3]; omega, by unfold raiseP; rw [if_neg h, h4]; rfl⟩
        · exact .inr ⟨by rw [List.find?_cons_of_neg hp, h1], by unfold idxG; rw [if_neg hp, h2], by unfold raiseP; rw [if_neg h, h3]; rfl⟩
  intro l
  rcases key l 0 with ⟨x, j, h1, h2, h3, h4⟩ | h
  · exact .inl ⟨x, j, h1, h2, by rw [h3]; simp, h4⟩
  · exact .inr h
theorem max_ite (a b : Int) : (if a < b then b else a) = max a b := by omega
theorem raise_ev (s : Sl Floor) (w q : Int) (hl : s.l.length ≤ 10000) (H : List Blk) : EvF tab 69 [.g (Floors.g s), I w, I q] H = some ⟨.g (Floors.g (.of (raiseP s.l w q))), [], []⟩ := by
  have h1 := idxFl_ev s w (by omega) (H := H ++ [.cells [I w], .rows 2 1 []]) (p := H.length) (by rw [List.getElem?_append_right (by omega), Nat.sub_self]; rfl)
  have h2 := fun H => concatFl_ev s (.of [⟨w, q⟩]) (by simp only [Sl.l_of, List.length_cons, List.length_nil]; omega) H
  refine EvF_walk t69 (by simp) ?_
  rcases raiseP_idx w q s.l with ⟨x, j, f1, f2, f3, f4⟩ | ⟨f1, f2, f3⟩
  · rw [f3] at h1
    rw [f4]
    cases s with
    | nil => simp at f2
    | of l =>
      simp only [Sl.l_of] at f2 hl ⊢
      obtain ⟨hj, hx⟩ := List.getElem?_eq_some_iff.1 f2
      have hne : l ≠ [] := fun e => by rw [e] at f2; simp at f2
      have h3 := fun H => clone_ev (c := Floor.c) cloneTF l hne (by omega) (by omega) H
      have hjn : ¬ ((j : Int) < 0) := by omega
      obtain ⟨xw, xs⟩ := x
      simp only [Floors.g, Sl.g_of] at h1
      have e1 : List.take l.length ((List.map Floor.c l).set j [.int .i64 xw, .int .i64 (max xs q)]) = (List.map Floor.c l).set j [.int .i64 xw, .int .i64 (max xs q)] := List.take_of_length_le (by simp)
      simp -implicitDefEqProofs [h1, h3, hj, hx, hjn, Floor.c, e1, List.map_set]
      have hxw : xw = w := by have := List.find?_some f1; simpa [isF] using this
      rw [max_ite, List.take_of_length_le (by simp), hxw]
  · rw [f2] at h1
    rw [f3]
    simp only [Sl.l_of, nslG, List.append_eq_nil_iff, reduceCtorEq, and_false, if_false] at h2
    generalize Floors.g s = G1 at h1 h2 ⊢
    simp only [Sl.g_of, Floors.g] at h2
    simp only [Floor.c, List.map_cons, List.map_nil] at h2
    simp -implicitDefEqProofs [h1, h2, Floor.c, chunk]

/-! ### Memos in a row of the caller's own -/
theorem SeqsM_ev (l : List Memo) (G2 : GV) (w : Int) (hl : l.length ≤ 10000) {H : List Blk} {id g : Nat} (hid : H[id]? = some (.rows 11 g (l.map Memo.c))) :
    EvF tab 41 [.agg [.ms id g 11 0 l.length, .g G2], I w] H = some ⟨.g (Ints.g (slOf (seqsP l w))), [], []⟩ := by
  have hlt : id < H.length := (List.getElem?_eq_some_iff.1 hid).1
  have hidg : H[id] = .rows 11 g (l.map Memo.c) := (List.getElem?_eq_some_iff.1 hid).2
  have hlv : ∀ o, isLiveB (H ++ o) id = true := fun o => by unfold isLiveB; rw [List.getElem?_append_left hlt, hid]; rfl
  have hw := loop_runJ (E := EvF tab) (h := H) (c := L41_0) (lv := [1, 5, 9, 10, 11]) (l := l) (β := List Int) (γ := Nat) (fun k r => r.length ≤ k) (fun _ x r => if (fun x : Memo => decide (x.who = w)) x = true then .inl (r ++ [Memo.seq x]) else .inl r)
    (fun k r o => ⟨[(1, I w), (5, .ms (H.length + 2) (r.length + 1) 1 0 r.length), (9, .ms id g 11 0 l.length), (10, I l.length), (11, I k)], [], .cells [.ms id g 11 0 l.length, .g G2] :: .rows 1 1 [] :: .rows 1 (r.length + 1) (r.map Ints.c) :: o⟩)
    (fun r o => (.exit 0, ⟨[(1, I w), (5, .ms (H.length + 2) (r.length + 1) 1 0 r.length), (9, .ms id g 11 0 l.length), (10, I l.length), (11, I l.length), (12, B false)], [], .cells [.ms id g 11 0 l.length, .g G2] :: .rows 1 1 [] :: .rows 1 (r.length + 1) (r.map Ints.c) :: o⟩))
    (fun n o => (.ret, ⟨[], [], o⟩)) (by simp) (by simp) (fun k x r o hk hx hy hi => ?_) (fun _ o _ => by delta L41_0; simp -implicitDefEqProofs) [] [] (by simp)
  · obtain ⟨o', hw⟩ := hw
    rw [runG_filterM] at hw
    simp only [endJ, List.nil_append, List.map_nil, List.length_nil, Int.ofNat_zero, Int.cast_ofNat_Int, Nat.zero_add] at hw
    rw [show (l.filter fun x => decide (x.who = w)).map Memo.seq = seqL l w from rfl] at hw
    have hsl : (seqL l w).length ≤ l.length := by unfold seqL; rw [List.length_map]; exact List.length_filter_le ..
    unfold seqsP
    obtain ⟨r, hr⟩ : ∃ r, seqL l w = r := ⟨_, rfl⟩
    rw [hr] at hw hsl ⊢
    have hs := fun (P : Blk) (Q : Blk) => sort_ev (H := H ++ (P :: Q :: .rows 1 (r.length + 1) (r.map Ints.c) :: o')) (id := H.length + 2) (g := r.length + 1) (zs := r) (by rw [List.getElem?_append_right (by omega), Nat.add_sub_cancel_left]; rfl) (by omega)
    have hsn := sortL_len r
    refine EvF_walk t41 (by simp) ?_
    cases r with
    | nil =>
      rw [sortL_nil] at hs ⊢
      simp only [List.length_nil, List.map_nil, Nat.zero_add] at hs
      simp -implicitDefEqProofs [getB_old hlt, orB, hid, hidg, hlv, hw, hs, slOf]
    | cons y r =>
      obtain ⟨q, hq⟩ : ∃ q, sortL (y :: r) = q := ⟨_, rfl⟩
      rw [hq] at hs hsn ⊢
      cases q with
      | nil => simp at hsn
      | cons z q =>
        simp only [List.length_cons, Nat.add_right_cancel_iff] at hsn
        simp only [List.length_cons, List.map_cons] at hs
        have e1 : List.take r.length (List.map Ints.c q) = List.map Ints.c q := List.take_of_length_le (by simp [hsn])
        simp -implicitDefEqProofs [getB_old hlt, orB, hid, hidg, hlv, hw, hs, slOf, e1, show r.length ≤ q.length by omega]
  · have e2 := wrap_succ hk (by omega)
    delta L41_0
    have e3 : List.take r.length (List.map Ints.c r) = List.map Ints.c r := List.take_of_length_le (by simp)
    obtain ⟨xw, xs, x1, x2, x3, x4, x5, x6, x7, x8, x9⟩ := x
    by_cases h : xw = w
    · simp only [h, decide_true, if_true]
      refine ⟨by simp; omega, o ++ [.rows 6 1 [], .rows 8 1 [], .cells ((Memo.c ⟨xw, xs, x1, x2, x3, x4, x5, x6, x7, x8, x9⟩).map .g)], ?_⟩
      simp -implicitDefEqProofs [getB_old hlt, orB, hid, hidg, hlv, hk, hy, Memo.c, h, e2, Ints.c, appV, room, Nat.not_succ_le_self, chunk, show r.length + 1 ≤ 140737488355328 by omega, show (r.length + 1) * 8 ≤ 140737488355328 by omega, e3]
    · simp only [h, decide_false, Bool.false_eq_true, if_false]
      refine ⟨by omega, o ++ [.rows 6 1 [], .rows 8 1 [], .cells ((Memo.c ⟨xw, xs, x1, x2, x3, x4, x5, x6, x7, x8, x9⟩).map .g)], ?_⟩
      simp -implicitDefEqProofs [getB_old hlt, orB, hid, hidg, hlv, hk, hy, Memo.c, h, e2]
theorem keep1_ev (x : Memo) (w : Int) (y : Int) (ys : List Int) {H : List Blk} {p q : Nat} (hp : H[p]? = some (.cells [I w])) (hq : H[q]? = some (.cells [.g (.sl 1 ((y :: ys).map Ints.c))])) :
    EvF tab 67 [A x.c, .ptr p 0, .ptr q 0] H = some ⟨B (isP w y x), [], []⟩ := by
  have hlt : p < H.length := (List.getElem?_eq_some_iff.1 hp).1
  have hg : H[p] = .cells [I w] := (List.getElem?_eq_some_iff.1 hp).2
  have hlv : ∀ o, isLiveB (H ++ o) p = true := fun o => by unfold isLiveB; rw [List.getElem?_append_left hlt, hp]; rfl
  have hlt2 : q < H.length := (List.getElem?_eq_some_iff.1 hq).1
  have hg2 : H[q] = .cells [.g (.sl 1 ((y :: ys).map Ints.c))] := (List.getElem?_eq_some_iff.1 hq).2
  have hlv2 : ∀ o, isLiveB (H ++ o) q = true := fun o => by unfold isLiveB; rw [List.getElem?_append_left hlt2, hq]; rfl
  have h1 := fun H => mof_ev x H
  refine EvF_walk t67 (by simp) ?_
  unfold isP
  obtain ⟨xw, xs, x1, x2, x3, x4, x5, x6, x7, x8, x9⟩ := x
  simp only [Memo.c, A, List.map_cons, List.map_nil] at h1 ⊢
  by_cases c1 : xw = w
  · subst c1
    by_cases c2 : xs = y
    · subst c2
      simp -implicitDefEqProofs [A, getB_old hlt, getB_old hlt2, orB, hg, hp, hg2, hq, h1, hlv, hlv2, Ints.c]
    · simp -implicitDefEqProofs [A, getB_old hlt, getB_old hlt2, orB, hg, hp, hg2, hq, h1, hlv, hlv2, c2, Ints.c]
  · simp -implicitDefEqProofs [A, getB_old hlt, getB_old hlt2, orB, hg, hp, hg2, hq, h1, hlv, hlv2, c1, Ints.c]
end Go.Proofs.Ytibnbcljmfigfaa
