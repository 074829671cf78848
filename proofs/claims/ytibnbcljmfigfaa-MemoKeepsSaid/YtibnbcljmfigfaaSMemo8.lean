/- What is kept, by the program. -/
import Derived.Test.YtibnbcljmfigfaaSMemo7
namespace Go.Proofs.Ytibnbcljmfigfaa
open Go Go.AM Go.Proofs
set_option maxRecDepth 20000
set_option maxHeartbeats 8000000
set_option linter.unusedSimpArgs false
set_option linter.unusedVariables false
def findJ (w q : Int) : List Memo → Nat
  | [] => 0
  | x :: l => if isP w q x = true then 0 else findJ w q l + 1
def delP (l : List Memo) (w q : Int) : List Memo := l.eraseIdx (findJ w q l)
def headI (l : List Int) : Int := match l with | y :: _ => y | [] => 0
def keepL1 (l : List Memo) (w q : Int) (r : Reply) : List Memo := l ++ [⟨w, q, r⟩]
/-- What is kept: the memos behind it, and the error. -/
def keepM (m : Memos) (w q : Int) (r : Reply) : Memos :=
  if (lookP m.l.l m.old.l w q).2.1 = true ∨ (lookP m.l.l m.old.l w q).2.2 ≠ 0 then m else
  if (seqsP (keepL1 m.l.l w q r) w).length ≤ 4 then ⟨.of (keepL1 m.l.l w q r), m.old⟩ else
    ⟨.of (delP (keepL1 m.l.l w q r) w (headI (seqsP (keepL1 m.l.l w q r) w))), .of (raiseP m.old.l w (headI (seqsP (keepL1 m.l.l w q r) w)))⟩
def keepE (m : Memos) (w q : Int) : Int := if (lookP m.l.l m.old.l w q).2.1 = true then 11 else (lookP m.l.l m.old.l w q).2.2
theorem lookP_z (l : List Memo) (old : List Floor) (w q : Int) : (lookP l old w q).2.1 = true → (lookP l old w q).2.2 = 0 := by
  unfold lookP
  split
  · intro _; rfl
  · split
    · intro h; cases h
    · split
      · intro h; cases h
      · intro _; rfl
theorem findJ_idx (w q : Int) : ∀ (l : List Memo), (∃ x ∈ l, isP w q x = true) → findJ w q l < l.length ∧ idxG (isP w q) 0 l = (findJ w q l : Int) := by
  have key : ∀ (l : List Memo) (k : Nat), (∃ x ∈ l, isP w q x = true) → findJ w q l < l.length ∧ idxG (isP w q) k l = ((k + findJ w q l : Nat) : Int) := by
    intro l
    induction l with
    | nil => rintro k ⟨x, hx, _⟩; simp at hx
    | cons y l ih =>
      rintro k ⟨x, hx, hp⟩
      unfold findJ idxG
      by_cases h : isP w q y = true
      · rw [if_pos h, if_pos h]; simp
      · rw [if_neg h, if_neg h]
        rcases List.mem_cons.1 hx with rfl | hx
        · exact absurd hp h
        · obtain ⟨h1, h2⟩ := ih (k + 1) ⟨x, hx, hp⟩
          rw [h2, List.length_cons]
          exact ⟨by omega, by omega⟩
  intro l h
  obtain ⟨h1, h2⟩ := key l 0 h
  exact ⟨h1, by rw [h2]; simp⟩
theorem head_mem (l : List Memo) (w : Int) (h : seqsP l w ≠ []) : ∃ x ∈ l, isP w (headI (seqsP l w)) x = true := by
  have hm : headI (seqsP l w) ∈ seqsP l w := by
    cases hq : seqsP l w with
    | nil => exact absurd hq h
    | cons y ys => simp [headI]
  generalize headI (seqsP l w) = y at hm ⊢
  unfold seqsP at hm
  rw [(sortL_perm _).mem_iff] at hm
  unfold seqL at hm
  rw [List.mem_map] at hm
  obtain ⟨x, hx, rfl⟩ := hm
  rw [List.mem_filter] at hx
  exact ⟨x, hx.1, by unfold isP; rw [hx.2]; simp⟩
theorem Keep_ev (m : Memos) (w q : Int) (r : Reply) (wf : m.wf) (hl : m.l.l.length + m.old.l.length ≤ 5000) (H : List Blk) :
    EvF tab 35 [A m.c, I w, I q, A r.c] H = some ⟨.tup [A (keepM m w q r).c, I (keepE m w q)], [], []⟩ := by
  have h1 := fun H => Look_ev m w q wf (by omega) H
  refine EvF_walk t35 (by simp) ?_
  obtain ⟨ml, mo⟩ := m
  unfold keepM keepE
  simp only at hl h1 ⊢
  obtain ⟨lk, hlk⟩ : ∃ lk, lookP ml.l mo.l w q = lk := ⟨_, rfl⟩
  have hz := lookP_z ml.l mo.l w q
  rw [hlk] at h1 hz ⊢
  obtain ⟨lr, li, le⟩ := lk
  simp only at h1 hz ⊢
  obtain ⟨p1, p2, p3, p4, p5, p6, p7, p8, p9⟩ := lr
  obtain ⟨r1, r2, r3, r4, r5, r6, r7, r8, r9⟩ := r
  simp only [A, Memos.c, Reply.c, List.map_cons, List.map_nil] at h1 ⊢
  cases li
  · simp only [Bool.false_eq_true, false_or, if_false]
    by_cases he : le = 0
    · subst he
      simp only [ne_eq, not_true_eq_false, if_false]
      have h2 := fun H => concatM_ev ml ⟨w, q, ⟨r1, r2, r3, r4, r5, r6, r7, r8, r9⟩⟩ (by omega) H
      rw [show ml.l ++ [⟨w, q, ⟨r1, r2, r3, r4, r5, r6, r7, r8, r9⟩⟩] = keepL1 ml.l w q ⟨r1, r2, r3, r4, r5, r6, r7, r8, r9⟩ from rfl] at h2
      obtain ⟨L, hL⟩ : ∃ L, keepL1 ml.l w q ⟨r1, r2, r3, r4, r5, r6, r7, r8, r9⟩ = L := ⟨_, rfl⟩
      have hLl : L.length = ml.l.length + 1 := by rw [← hL]; simp [keepL1]
      rw [hL] at h2 ⊢
      simp only [Memo.c] at h2
      generalize MemoL.g ml = G1 at h1 h2 ⊢
      generalize hG2 : Floors.g mo = G2 at h1 ⊢
      have h3 := fun (b0 b1 b2 b3 b4 b5 b6 b7 b8 b9 b10 : Blk) => SeqsM_ev L G2 w (by omega) (H := H ++ [b0, b1, b2, b3, b4, b5, b6, b7, b8, b9, b10, .rows 11 2 (L.map Memo.c)]) (id := H.length + 11) (g := 2) (by rw [List.getElem?_append_right (by omega), Nat.add_sub_cancel_left]; rfl)
      have hne : seqsP L w ≠ [] := by
        intro e
        have : q ∈ seqsP L w := by
          unfold seqsP
          rw [(sortL_perm _).mem_iff]
          unfold seqL
          rw [List.mem_map]
          exact ⟨⟨w, q, ⟨r1, r2, r3, r4, r5, r6, r7, r8, r9⟩⟩, by rw [List.mem_filter, ← hL]; simp [keepL1], rfl⟩
        rw [e] at this; simp at this
      have hhm := head_mem L w hne
      obtain ⟨y, ys, hys⟩ : ∃ y ys, seqsP L w = y :: ys := by
        cases h : seqsP L w with
        | nil => exact absurd h hne
        | cons y ys => exact ⟨y, ys, rfl⟩
      rw [hys] at h3 hhm ⊢
      simp only [headI] at hhm ⊢
      have hgs : Ints.g (slOf (y :: ys)) = .sl 1 ((y :: ys).map Ints.c) := rfl
      rw [hgs] at h3
      have eL : List.take L.length (List.map Memo.c L) = List.map Memo.c L := List.take_of_length_le (by simp)
      by_cases h4 : (y :: ys).length ≤ 4
      · rw [if_pos h4]
        have h4I : ((ys.length : Int) + 1) ≤ 4 := by simp only [List.length_cons] at h4; omega
        simp -implicitDefEqProofs [h1, h2, h3, h4I, eL, A, Memos.c, Reply.c, hG2, chunk]
      · rw [if_neg h4]
        have h4I : ¬ ((ys.length : Int) + 1) ≤ 4 := by simp only [List.length_cons] at h4; omega
        obtain ⟨j1, j2⟩ := findJ_idx w y L hhm
        have h5 := fun (b0 b2 b3 b4 b5 b6 b7 b8 b9 b10 b12 : Blk) => idxKeep_ev L w y ys (by omega) (H := H ++ [b0, .cells [I w], b2, b3, b4, b5, b6, b7, b8, b9, b10, .rows 11 2 (L.map Memo.c), b12, .cells [.g (.sl 1 ((y :: ys).map Ints.c))]]) (id := H.length + 11) (g := 2) (p := H.length + 1) (q := H.length + 13) (by rw [List.getElem?_append_right (by omega), Nat.add_sub_cancel_left]; rfl) (by rw [List.getElem?_append_right (by omega), Nat.add_sub_cancel_left]; rfl) (by rw [List.getElem?_append_right (by omega), Nat.add_sub_cancel_left]; rfl)
        rw [j2] at h5
        have h6 := fun (b0 b1 b2 b3 b4 b5 b6 b7 b8 b9 b10 b12 b13 : Blk) => delM_ev L (findJ w y L) j1 (by omega) (H := H ++ [b0, b1, b2, b3, b4, b5, b6, b7, b8, b9, b10, .rows 11 2 (L.map Memo.c), b12, b13]) (id := H.length + 11) (by rw [List.getElem?_append_right (by omega), Nat.add_sub_cancel_left]; rfl)
        have h7 := fun H => raise_ev mo w y (by omega) H
        rw [hG2] at h7
        have hdl : (delP L w y).length = L.length - 1 := by unfold delP; rw [List.length_eraseIdx, if_pos j1]
        rw [show L.eraseIdx (findJ w y L) = delP L w y from rfl] at h6
        rw [← hdl] at h6
        have e8 : IntKind.i64.wrap ((findJ w y L : Int) + 1) = ((findJ w y L + 1 : Nat) : Int) := by rw [wrap_i64 (by omega) (by omega)]; omega
        have eD : List.take (delP L w y).length (List.map Memo.c (delP L w y) ++ [memo0G]) = List.map Memo.c (delP L w y) := List.take_left' (by simp)
        generalize delP L w y = D at h6 hdl eD ⊢
        generalize findJ w y L = J at h5 h6 e8
        simp only [Int.natCast_add, Int.cast_ofNat_Int] at h6 e8
        simp only [List.map_cons, Ints.c] at h3 h5
        simp -implicitDefEqProofs [h1, h2, h3, h4I, h5, h6, h7, e8, eD, A, Memos.c, Reply.c, Ints.c, hG2, chunk]
    · simp only [ne_eq, he, not_false_eq_true, if_true]
      generalize MemoL.g ml = G1 at h1 ⊢
      generalize Floors.g mo = G2 at h1 ⊢
      simp -implicitDefEqProofs [h1, he, A, Memos.c, Reply.c]
  · have := hz rfl
    subst this
    simp only [true_or, if_true]
    generalize MemoL.g ml = G1 at h1 ⊢
    generalize Floors.g mo = G2 at h1 ⊢
    simp -implicitDefEqProofs [h1, A, Memos.c, Reply.c]
end Go.Proofs.Ytibnbcljmfigfaa
