/- What is looked for: by the program and by the reference. -/
import Derived.Test.YtibnbcljmfigfaaSMemo3
namespace Go.Proofs.Ytibnbcljmfigfaa
open Go Go.AM Go.Proofs
set_option maxRecDepth 20000
set_option maxHeartbeats 4000000
set_option linter.unusedSimpArgs false
set_option linter.unusedVariables false
theorem idxG_findM {α : Type} (p : α → Bool) : ∀ (l : List α) (k : Nat), (∃ x j, l.find? p = some x ∧ l[j]? = some x ∧ idxG p k l = ((k + j : Nat) : Int)) ∨ (l.find? p = none ∧ idxG p k l = -1)
  | [], k => .inr ⟨rfl, rfl⟩
  | y :: l, k => by
    by_cases h : p y = true
    · exact .inl ⟨y, 0, by simp [h], rfl, by simp [idxG, h]⟩
    · rcases idxG_findM p l (k + 1) with ⟨x, j, h1, h2, h3⟩ | ⟨h1, h2⟩
      · exact .inl ⟨x, j + 1, by simp [h, h1], by simpa using h2, by unfold idxG; rw [if_neg h, h3]; omega⟩
      · exact .inr ⟨by simp [h, h1], by unfold idxG; rw [if_neg h, h2]⟩
theorem Contains_ev (s : Sl Int) (n : Int) (hl : s.l.length ≤ 1000000) (H : List Blk) : EvF tab 62 [.g (Ints.g s), I n] H = some ⟨B (decide (n ∈ s.l)), [], []⟩ := by
  have hi : EvF tab 87 [.g (Ints.g s), I n] H = some ⟨I (idxG (fun y => decide (y = n)) 0 s.l), [], []⟩ := by
    have hw := loop_run (E := EvF tab) (h := H) (c := L87_0) (lv := [0, 1, 7, 8]) (l := s.l) (fun _ (_ : Unit) => True) (fun k x _ => if (fun y => decide (y = n)) x = true then .inr (.ret, ⟨[(4, I k)], [], []⟩) else .inl ())
      (fun k _ => ⟨[(0, .g (Ints.g s)), (1, I n), (7, I s.l.length), (8, I k)], [], []⟩) (fun _ => (.exit 0, ⟨[(0, .g (Ints.g s)), (1, I n), (7, I s.l.length), (8, I s.l.length), (9, B false)], [], []⟩)) (by simp)
      (fun k x _ hk hx hx' _ => ?_) (fun _ _ => by delta L87_0; simp -implicitDefEqProofs) s.l.length 0 () rfl (Nat.zero_le _) trivial
    · have key : ∀ (l : List Int) (k : Nat) (fin : Ex × St), endL (fun _ => fin) (runL (β := Unit) (fun k x _ => if (fun y => decide (y = n)) x = true then .inr (.ret, ⟨[(4, I k)], [], []⟩) else .inl ()) k l ()) = if l.any (fun y => decide (y = n)) = true then (.ret, ⟨[(4, I (idxG (fun y => decide (y = n)) k l))], [], []⟩) else fin := by
        intro l
        induction l with
        | nil => intro k fin; simp [runL, endL]
        | cons x l ih =>
          intro k fin
          simp only [runL, List.any_cons, idxG]
          by_cases hp : x = n
          · simp [hp, endL]
          · simp only [hp, decide_false, Bool.false_eq_true, if_false]
            rw [ih]; simp
      rw [List.drop_zero, key] at hw
      refine EvF_walk t87 (by simp) ?_
      have e0 : ((0 : Nat) : Int) = 0 := rfl
      rw [e0] at hw
      have hlen : ∀ h st, lenV h st (.g (Ints.g s)) = some s.l.length := fun h st => lenV_Sl ..
      generalize Ints.g s = G at hw hlen ⊢
      rcases idxG_findM (fun y => decide (y = n)) s.l 0 with ⟨x, j, h1, h2, h3⟩ | ⟨h1, h2⟩
      · have ha : s.l.any (fun y => decide (y = n)) = true := (idxG_iff _ s.l 0).1 (by rw [h3]; omega)
        rw [if_pos ha] at hw
        simp -implicitDefEqProofs [hlen, hw]
      · have ha : ¬ s.l.any (fun y => decide (y = n)) = true := fun h => by
          have := (idxG_iff _ s.l 0).2 h; rw [h2] at this; omega
        rw [if_neg ha] at hw
        rw [h2]
        simp -implicitDefEqProofs [hlen, hw]
    · have e2 := wrap_succ hk (by omega)
      delta L87_0
      cases s with
      | nil => simp at hk
      | of l =>
        simp only [Sl.l_of] at hk hx' hl
        by_cases h : x = n
        · simp -implicitDefEqProofs [hk, hx', Ints.c, h, e2]
        · simp -implicitDefEqProofs [hk, hx', Ints.c, h, e2, show ¬ n = x from fun e => h e.symm]
  refine EvF_walk t62 (by simp) ?_
  have hd : decide (0 ≤ idxG (fun y => decide (y = n)) 0 s.l) = decide (n ∈ s.l) := by
    rw [idxG_any]
    rw [Bool.eq_iff_iff, List.any_eq_true, decide_eq_true_eq]
    constructor
    · rintro ⟨x, h1, h2⟩; rw [← of_decide_eq_true h2]; exact h1
    · intro h; exact ⟨n, h, by simp⟩
  rw [← hd]
  generalize Ints.g s = G at hi ⊢
  simp -implicitDefEqProofs [hi]
theorem mof_ev (x : Memo) (H : List Blk) : EvF tab 61 [A x.c] H = some ⟨A [.int .i64 x.who, .int .i64 x.seq], [], []⟩ := by
  refine EvF_walk t61 (by simp) ?_
  simp -implicitDefEqProofs [A, Memo.c]
def isP (w s : Int) (x : Memo) : Bool := decide (x.who = w) && decide (x.seq = s)
theorem lookF_eq (l : List Memo) (w s : Int) : lookF l w s = l.find? (isP w s) := rfl
theorem look1_ev (x : Memo) (w s : Int) {H : List Blk} {p : Nat} (hp : H[p]? = some (.cells [I w, I s])) : EvF tab 60 [A x.c, .ptr p 0] H = some ⟨B (isP w s x), [], []⟩ := by
  have hlt : p < H.length := (List.getElem?_eq_some_iff.1 hp).1
  have hg : H[p] = .cells [I w, I s] := (List.getElem?_eq_some_iff.1 hp).2
  have hlv : ∀ o, isLiveB (H ++ o) p = true := fun o => by unfold isLiveB; rw [List.getElem?_append_left hlt, hp]; rfl
  have h1 := fun H => mof_ev x H
  refine EvF_walk t60 (by simp) ?_
  unfold isP
  obtain ⟨xw, xs, x1, x2, x3, x4, x5, x6, x7, x8, x9⟩ := x
  simp only [Memo.c, A, List.map_cons, List.map_nil] at h1 ⊢
  by_cases c1 : xw = w
  · subst c1
    by_cases c2 : xs = s
    · subst c2
      simp -implicitDefEqProofs [A, getB_old hlt, orB, hg, hp, h1, hlv]
    · simp -implicitDefEqProofs [A, getB_old hlt, orB, hg, hp, h1, hlv, c2]
  · simp -implicitDefEqProofs [A, getB_old hlt, orB, hg, hp, h1, hlv, c1]
theorem idxMo_ev (s : Sl Memo) (w q : Int) (hl : s.l.length ≤ 1000000) {H : List Blk} {p : Nat} (hp : H[p]? = some (.cells [I w, I q])) :
    EvF tab 59 [.g (MemoL.g s), .fv 60 [.ptr p 0]] H = some ⟨I (idxG (isP w q) 0 s.l), [], []⟩ := by
  have := index_ev (Tb := tab) (f := 59) (agg := true) (n := 11) (c := Memo.c) t59 (fun e => A e.c) (isP w q) (.fv 60 [.ptr p 0]) s (by omega) H (fun e => by simp [Memo.c, A]) (fun e _ t => by
    have := look1_ev e w q (H := full H ⟨t, [], []⟩) (p := p) (by simpa using hp)
    rw [evCall_fv]
    simp only [List.all_nil, if_true]
    show fin H [] ⟨t, [], []⟩ (EvF tab _ [A e.c, .ptr p 0] _) = _
    simp only [hideB]
    rw [this]
    simp -implicitDefEqProofs)
  exact this
theorem Look_ev (m : Memos) (w q : Int) (wf : m.wf) (hl : m.l.l.length + m.old.l.length ≤ 10000) (H : List Blk) :
    EvF tab 33 [A m.c, I w, I q] H = some ⟨.tup [A (lookP m.l.l m.old.l w q).1.c, B (lookP m.l.l m.old.l w q).2.1, I (lookP m.l.l m.old.l w q).2.2], [], []⟩ := by
  have h1 := fun H => Floor_ev m w (by omega) H
  have h2 := fun H => Whos_ev m wf hl H
  have h4 := fun H => Contains_ev (slOf (whosP m.l.l m.old.l)) w (by rw [slOf_l]; have := whosP_len m.l.l m.old.l; omega) H
  have hwl := whosP_len m.l.l m.old.l
  have hlen : ∀ h st, lenV h st (.g (Ints.g (slOf (whosP m.l.l m.old.l)))) = some (whosP m.l.l m.old.l).length := fun h st => by rw [lenV_Sl, slOf_l]
  rw [slOf_l] at h4
  obtain ⟨ml, mo⟩ := m
  simp only at h1 h2 h4 hlen hwl hl ⊢
  have h3 := fun (a b c d : Blk) => idxMo_ev ml w q (by omega) (H := H ++ [a, b, c, d, .cells [I w, I q]]) (p := H.length + 4) (by rw [List.getElem?_append_right (by omega), Nat.add_sub_cancel_left]; rfl)
  refine EvF_walk t33 (by simp) ?_
  unfold lookP
  rw [lookF_eq]
  simp only [A, Memos.c, List.map_cons, List.map_nil] at h1 h2 ⊢
  rcases idxG_findM (isP w q) ml.l 0 with ⟨x, j, f1, f2, f3⟩ | ⟨f1, f2⟩
  · rw [f1]
    rw [f3] at h3
    simp only [Nat.zero_add] at h3 ⊢
    cases ml with
    | nil => simp at f2
    | of l =>
      simp only [Sl.l_of] at f2
      obtain ⟨hj, hx⟩ := List.getElem?_eq_some_iff.1 f2
      obtain ⟨xw, xs, x1, x2, x3, x4, x5, x6, x7, x8, x9⟩ := x
      simp only [Sl.g_of, MemoL.g] at h3
      generalize Floors.g mo = G2 at h1 h2 ⊢
      simp -implicitDefEqProofs [h3, hj, hx, Memo.c, Reply.c, A]
  · rw [f1]
    rw [f2] at h3
    generalize MemoL.g ml = G1 at h1 h2 h3 ⊢
    generalize Floors.g mo = G2 at h1 h2 ⊢
    by_cases c1 : q ≤ floorP mo.l w
    · simp -implicitDefEqProofs [h3, h1, c1, rep0, Reply.c, A]
    · by_cases c2 : 8 ≤ (whosP ml.l mo.l).length
      · have c2I : (8 : Int) ≤ ((whosP ml.l mo.l).length : Int) := by omega
        generalize Ints.g (slOf (whosP ml.l mo.l)) = GW at h2 h4 hlen
        by_cases c3 : w ∈ whosP ml.l mo.l
        · simp only [c3, decide_true] at h4
          simp -implicitDefEqProofs [h3, h1, h2, h4, hlen, c1, c2, c2I, c3, rep0, Reply.c, A]
        · simp only [c3, decide_false] at h4
          simp -implicitDefEqProofs [h3, h1, h2, h4, hlen, c1, c2, c2I, c3, rep0, Reply.c, A]
      · have c2I : ¬ (8 : Int) ≤ ((whosP ml.l mo.l).length : Int) := by omega
        generalize Ints.g (slOf (whosP ml.l mo.l)) = GW at h2 h4 hlen
        simp -implicitDefEqProofs [h3, h1, h2, hlen, c1, c2, c2I, rep0, Reply.c, A]
end Go.Proofs.Ytibnbcljmfigfaa
