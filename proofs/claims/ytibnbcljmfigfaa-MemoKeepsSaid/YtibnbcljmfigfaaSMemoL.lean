/- What is kept, by the reference. -/
import Derived.Test.YtibnbcljmfigfaaSMemoK
import Derived.Test.YtibnbcljmfigfaaPMemo3
namespace Go.Proofs.Ytibnbcljmfigfaa
open Go Go.AM Go.Proofs
set_option maxRecDepth 20000
set_option maxHeartbeats 2000000
set_option linter.unusedSimpArgs false
set_option linter.unusedVariables false
theorem le_120 {n : Nat} (h : n ≤ 5000) : n + 1 ≤ 140737488355328 ∧ (n + 1) * 120 ≤ 140737488355328 ∧ n + 1 + 1 ≤ 140737488355328 ∧ (n + 1 + 1) * 120 ≤ 140737488355328 := by omega
theorem le_16 {n : Nat} (h : n ≤ 5000) : n + 1 ≤ 140737488355328 ∧ (n + 1) * 16 ≤ 140737488355328 ∧ n + 1 + 1 ≤ 140737488355328 ∧ (n + 1 + 1) * 16 ≤ 140737488355328 := by omega
theorem fl_nil (w y : Int) (ys : List Int) (X : AV) (H : List Blk) (b0 b1 b2 b3 b4 b5 b6 b7 b8 b9 b11 b12 : Blk) :
    loopE (EvF tab) H L36_1 [1, 8, 13, 14, 18] ⟨[(1, I w), (8, .ptr (H.length + 4) 0), (13, .ptr (H.length + 10) 0), (14, .g (.sl 1 ((y :: ys).map Ints.c))), (18, I 0)], [], [b0, b1, b2, b3, b4, b5, b6, b7, b8, b9, .cells [X, .g .nsl], b11, b12]⟩ =
      some (.exit 2, ⟨[(1, I w), (8, .ptr (H.length + 4) 0), (13, .ptr (H.length + 10) 0), (14, .g (.sl 1 ((y :: ys).map Ints.c))), (18, I 0), (107, B false)], [], [b0, b1, b2, b3, b4, b5, b6, b7, b8, b9, .cells [X, .g .nsl], b11, b12]⟩) := by
  refine loopE_out _ _ _ _ _ _ (by simp) ?_
  delta L36_1; simp -implicitDefEqProofs
theorem raiseP_no (w y : Int) : ∀ l : List Floor, hasP l w = false → raiseP l w y = l ++ [⟨w, y⟩]
  | [], _ => rfl
  | f :: l, h => by
    unfold hasP at h
    rw [List.any_cons, Bool.or_eq_false_iff, decide_eq_false_iff_not] at h
    unfold raiseP
    rw [if_neg h.1, raiseP_no w y l h.2]; rfl
theorem Keep2_ev (m : Memos) (w q : Int) (r : Reply) (hl : m.l.l.length + m.old.l.length ≤ 5000) (H : List Blk) :
    EvF tab 36 [A m.c, I w, I q, A r.c] H = some ⟨.tup [A (keepM2 m w q r).c, I (keepE m w q)], [], []⟩ := by
  have h1 := fun H => Look2_ev m w q (by omega) H
  refine EvF_walk t36 (by simp) ?_
  obtain ⟨ml, mo⟩ := m
  unfold keepM2 keepE
  simp only at hl h1 ⊢
  obtain ⟨lk, hlk⟩ : ∃ lk, lookP ml.l mo.l w q = lk := ⟨_, rfl⟩
  have hz := lookP_z ml.l mo.l w q
  rw [hlk] at h1 hz ⊢
  obtain ⟨lr, li, le⟩ := lk
  simp only at h1 hz ⊢
  obtain ⟨p1, p2, p3, p4, p5, p6, p7, p8, p9⟩ := lr
  have hvl : ∀ h s, viewN h s 11 (.g (MemoL.g ml)) = some (ml.l.map Memo.c) := fun h s => viewN_Sl ..
  have hvo : ∀ h s, viewN h s 2 (.g (Floors.g mo)) = some (mo.l.map Floor.c) := fun h s => viewN_Sl ..
  cases li
  · simp only [Bool.false_eq_true, false_or, if_false]
    by_cases he : le = 0
    · subst he
      simp only [ne_eq, not_true_eq_false, if_false]
      obtain ⟨L, hL⟩ : ∃ L, keepL1 ml.l w q r = L := ⟨_, rfl⟩
      have hLl : L.length = ml.l.length + 1 := by rw [← hL]; simp [keepL1]
      have hLm : L.map Memo.c = ml.l.map Memo.c ++ [Memo.c ⟨w, q, r⟩] := by rw [← hL]; simp [keepL1]
      have hne : seqsP L w ≠ [] := by
        intro e
        have : q ∈ seqsP L w := by
          unfold seqsP
          rw [(sortL_perm _).mem_iff]
          unfold seqL
          rw [List.mem_map]
          exact ⟨⟨w, q, r⟩, by rw [List.mem_filter, ← hL]; simp [keepL1], rfl⟩
        rw [e] at this; simp at this
      rw [hL]
      obtain ⟨y, ys, hys⟩ : ∃ y ys, seqsP L w = y :: ys := by
        cases h : seqsP L w with
        | nil => exact absurd h hne
        | cons y ys => exact ⟨y, ys, rfl⟩
      have h3 := fun a2 (ha2 : AV.leaf a2 = true) g H id (hid : H[id]? = some (Blk.rows 11 g (L.map Memo.c))) => Seqs2M_ev L a2 w (by omega) ha2 (g := g) hid
      rw [hys] at h3 ⊢
      have hgs : Ints.g (slOf (y :: ys)) = .sl 1 ((y :: ys).map Ints.c) := rfl
      rw [hgs] at h3
      simp only [headI]
      obtain ⟨r1, r2, r3, r4, r5, r6, r7, r8, r9⟩ := r
      simp only [A, Memos.c, Reply.c, List.map_cons, List.map_nil, Memo.c] at h1 hLm ⊢
      have h30 := fun a2 (ha2 : AV.leaf a2 = true) g (b0 b1 b2 b3 b4 b5 b6 b7 b8 b9 b10 : Blk) => h3 a2 ha2 g (H ++ [b0, b1, b2, b3, b4, b5, b6, b7, b8, b9, b10, .rows 11 g (L.map Memo.c)]) (H.length + 11) (by rw [List.getElem?_append_right (by omega), Nat.add_sub_cancel_left]; rfl)
      have h31 := fun a2 (ha2 : AV.leaf a2 = true) g (b0 b1 b2 b3 b4 b5 b6 b7 b8 b9 b10 b12 : Blk) => h3 a2 ha2 g (H ++ [b0, b1, b2, b3, b4, b5, b6, b7, b8, b9, b10, .rows 11 g (L.map Memo.c), b12]) (H.length + 11) (by rw [List.getElem?_append_right (by omega), Nat.add_sub_cancel_left]; rfl)
      clear h3
      generalize hG1 : MemoL.g ml = G1 at h1 hvl ⊢
      generalize hG2 : Floors.g mo = G2 at h1 hvo ⊢
      have eL : List.take L.length (List.map Memo.c L) = List.map Memo.c L := List.take_of_length_le (by simp)
      have hk := fun a2 g b0 b1 b2 b3 b4 b5 b6 b7 b8 b9 => kept_loop L w y ys g a2 (.ptr (H.length + 4) 0) (by omega) (H := H) (P := [b0, b1, b2, b3, b4, b5, b6, b7, b8, b9, .cells [.ms (H.length + 11) g 11 0 L.length, a2], .rows 11 g (L.map Memo.c)]) rfl rfl
      have hk2 := fun a2 g b0 b1 b2 b3 b4 b5 b6 b7 b8 b9 b12 => kept_loop L w y ys g a2 (.ptr (H.length + 4) 0) (by omega) (H := H) (P := [b0, b1, b2, b3, b4, b5, b6, b7, b8, b9, .cells [.ms (H.length + 11) g 11 0 L.length, a2], .rows 11 g (L.map Memo.c), b12]) rfl rfl
      simp only [List.length_cons, List.length_nil, List.cons_append, List.nil_append, Nat.reduceAdd, List.map_cons, Ints.c] at hk hk2
      obtain ⟨gone, hgone⟩ : ∃ b, (L.foldl (keptF w y) ([], false)).2 = b := ⟨_, rfl⟩
      rw [hgone] at hk hk2
      obtain ⟨KL, hKL⟩ : ∃ KL, delP L w y = KL := ⟨_, rfl⟩
      rw [hKL] at hk hk2 ⊢
      have hKn : KL.length ≤ 10000 := by rw [← hKL]; unfold delP; have := List.length_eraseIdx_le L (findJ w y L); omega
      have hKn2 : L.length ≤ KL.length + 1 := by rw [← hKL]; unfold delP; rw [List.length_eraseIdx]; split <;> omega
      have eK : List.take KL.length (List.map Memo.c KL) = List.map Memo.c KL := List.take_of_length_le (by simp)
      by_cases hml : ml.l = []
      · have h4 : (y :: ys).length ≤ 4 := by
          have hsl : (seqsP L w).length ≤ L.length := by unfold seqsP seqL; rw [sortL_len, List.length_map]; exact List.length_filter_le ..
          have : ml.l.length = 0 := by rw [hml]; rfl
          rw [hys] at hsl; omega
        have h4I : ((ys.length : Int) + 1) ≤ 4 := by simp only [List.length_cons] at h4; omega
        rw [if_pos h4]
        rw [hml] at hvl hLm hLl
        simp only [List.map_nil, List.length_nil, Nat.zero_add, List.nil_append] at hvl hLm hLl
        by_cases hmo : mo.l = []
        · rw [hmo] at hvo
          simp only [List.map_nil] at hvo
          have h3n := fun b0 b1 b2 b3 b4 b5 b6 b7 b8 b9 b10 => h30 (.g .nsl) rfl 2 b0 b1 b2 b3 b4 b5 b6 b7 b8 b9 b10
          clear h30 h31 hk hk2
          rw [hLm, hLl] at h3n
          simp -implicitDefEqProofs [h1, hvl, hvo, h3n, h4I, appV, room, chunk, A, Memos.c, Reply.c, AV.leaf]
          exact ⟨hLm.symm, by rw [hmo]; rfl⟩
        · obtain ⟨z, zs, hz2⟩ : ∃ z zs, mo.l.map Floor.c = z :: zs := by
            cases h : mo.l with
            | nil => exact absurd h hmo
            | cons a b => exact ⟨_, _, rfl⟩
          have hzl : zs.length + 1 = mo.l.length := by have := congrArg List.length hz2; simp at this; omega
          rw [hz2] at hvo
          have n1 : zs.length + 1 ≤ 140737488355328 := by omega
          have n2 : (zs.length + 1) * 16 ≤ 140737488355328 := by omega
          have h3n := fun b0 b1 b2 b3 b4 b5 b6 b7 b8 b9 b10 b12 => h31 (.ms (H.length + 12) 2 2 0 (zs.length + 1)) rfl 2 b0 b1 b2 b3 b4 b5 b6 b7 b8 b9 b10 b12
          clear h30 h31 hk hk2
          rw [hLm, hLl] at h3n
          have eZ : List.take (zs.length + 1) (z :: zs) = z :: zs := List.take_of_length_le (by simp)
          simp -implicitDefEqProofs [h1, hvl, hvo, h3n, h4I, appV, room, chunk, n1, n2, eZ, A, Memos.c, Reply.c, AV.leaf]
          exact ⟨hLm.symm, by rw [slOf, if_neg hmo, ← hz2]; rfl⟩
      · obtain ⟨x, xs, hx2⟩ : ∃ x xs, ml.l.map Memo.c = x :: xs := by
          cases h : ml.l with
          | nil => exact absurd h hml
          | cons a b => exact ⟨_, _, rfl⟩
        have hxl : xs.length + 1 = ml.l.length := by have := congrArg List.length hx2; simp at this; omega
        rw [hx2] at hvl hLm
        have hLl2 : L.length = xs.length + 1 + 1 := by omega
        have n0 : xs.length ≤ 5000 := by omega
        obtain ⟨n1, n2, n3, n4⟩ := le_120 n0
        rw [List.cons_append] at hLm
        have hdel : (delP L w y).length = KL.length := by rw [hKL]
        by_cases hmo : mo.l = []
        · rw [hmo] at hvo
          simp only [List.map_nil] at hvo
          have h3n := fun b0 b1 b2 b3 b4 b5 b6 b7 b8 b9 b10 => h30 (.g .nsl) rfl 3 b0 b1 b2 b3 b4 b5 b6 b7 b8 b9 b10
          have hkn := fun b0 b1 b2 b3 b4 b5 b6 b7 b8 b9 => hk (.g .nsl) 3 b0 b1 b2 b3 b4 b5 b6 b7 b8 b9
          clear h30 h31 hk hk2
          rw [hLm, hLl2] at h3n hkn
          by_cases h4 : (y :: ys).length ≤ 4
          · have h4I : ((ys.length : Int) + 1) ≤ 4 := by simp only [List.length_cons] at h4; omega
            rw [if_pos h4]
            simp -implicitDefEqProofs [h1, hvl, hvo, h3n, h4I, appV, room, chunk, n1, n2, n3, n4, Nat.not_succ_le_self, A, Memos.c, Reply.c, Ints.c, AV.leaf]
            exact ⟨by rw [hLm]; congr 1; exact List.take_of_length_le (by simp), by rw [hmo]; rfl⟩
          · have hKn2 : 0 < KL.length := by omega
            have h4I : ¬ ((ys.length : Int) + 1) ≤ 4 := by simp only [List.length_cons] at h4; omega
            rw [if_neg h4]
            have hf := fun X b0 b1 b2 b3 b4 b5 b6 b7 b8 b9 b11 b12 => fl_nil w y ys X H b0 b1 b2 b3 b4 b5 b6 b7 b8 b9 b11 b12
            simp only [List.map_cons, Ints.c] at hf
            simp -implicitDefEqProofs [h1, hvl, hvo, h3n, hkn, hf, h4I, appV, room, chunk, n1, n2, n3, n4, Nat.not_succ_le_self, A, Memos.c, Reply.c, Ints.c, AV.leaf]
            have hK0 : KL ≠ [] := by intro e; rw [e] at hKn2; simp at hKn2
            exact ⟨by rw [if_neg hK0, eK], by rw [hmo]; rfl⟩
        · obtain ⟨z, zs, hz2⟩ : ∃ z zs, mo.l.map Floor.c = z :: zs := by
            cases h : mo.l with
            | nil => exact absurd h hmo
            | cons a b => exact ⟨_, _, rfl⟩
          have hzl : zs.length + 1 = mo.l.length := by have := congrArg List.length hz2; simp at this; omega
          rw [hz2] at hvo
          have k0 : zs.length ≤ 5000 := by omega
          obtain ⟨k1, k2, k3, k4⟩ := le_16 k0
          have h3n := fun b0 b1 b2 b3 b4 b5 b6 b7 b8 b9 b10 b12 => h31 (.ms (H.length + 12) 2 2 0 (zs.length + 1)) rfl 3 b0 b1 b2 b3 b4 b5 b6 b7 b8 b9 b10 b12
          have hkn := fun b0 b1 b2 b3 b4 b5 b6 b7 b8 b9 b12 => hk2 (.ms (H.length + 12) 2 2 0 (zs.length + 1)) 3 b0 b1 b2 b3 b4 b5 b6 b7 b8 b9 b12
          clear h30 h31 hk hk2
          rw [hLm, hLl2] at h3n hkn
          have eZ : List.take (zs.length + 1) (z :: zs) = z :: zs := List.take_of_length_le (by simp)
          by_cases h4 : (y :: ys).length ≤ 4
          · have h4I : ((ys.length : Int) + 1) ≤ 4 := by simp only [List.length_cons] at h4; omega
            rw [if_pos h4]
            simp -implicitDefEqProofs [h1, hvl, hvo, h3n, h4I, appV, room, chunk, n1, n2, n3, n4, k1, k2, eZ, Nat.not_succ_le_self, A, Memos.c, Reply.c, Ints.c, AV.leaf]
            exact ⟨by rw [hLm]; congr 1; exact List.take_of_length_le (by simp), by rw [slOf, if_neg hmo, ← hz2]; rfl⟩
          · have hKn2 : 0 < KL.length := by omega
            have h4I : ¬ ((ys.length : Int) + 1) ≤ 4 := by simp only [List.length_cons] at h4; omega
            rw [if_neg h4]
            have hf := fun gK nK b0 b1 b2 b3 b5 b6 b7 b8 b9 b11 b13 => fl_loop mo.l w y ys gK nK (by omega) hmo H b0 b1 b2 b3 .pend b5 b6 b7 b8 b9 b11 b13
            rw [hz2, ← hzl] at hf
            simp only [List.map_cons, Ints.c] at hf
            by_cases hp : hasP mo.l w = true
            · simp only [if_pos hp] at hf
              simp -implicitDefEqProofs [h1, hvl, hvo, h3n, hkn, hf, h4I, appV, room, chunk, n1, n2, n3, n4, k1, k2, eZ, Nat.not_succ_le_self, A, Memos.c, Reply.c, Ints.c, AV.leaf]
              have hrl : (raiseP mo.l w y).length = zs.length + 1 := by have h := congrArg List.length (raiseP_who w y mo.l); rw [if_pos hp, List.length_map, List.length_map] at h; omega
              have hK0 : KL ≠ [] := by intro e; rw [e] at hKn2; simp at hKn2
              exact ⟨by omega, by rw [if_neg hK0, eK], List.take_of_length_le (by rw [List.length_map]; omega)⟩
            · simp only [if_neg hp] at hf
              simp -implicitDefEqProofs [h1, hvl, hvo, h3n, hkn, hf, h4I, appV, room, chunk, n1, n2, n3, n4, k1, k2, k3, k4, eZ, Nat.not_succ_le_self, A, Memos.c, Reply.c, Ints.c, AV.leaf]
              have hK0 : KL ≠ [] := by intro e; rw [e] at hKn2; simp at hKn2
              exact ⟨by rw [if_neg hK0, eK], by rw [raiseP_no w y mo.l (by simpa using hp), List.map_append, hz2]; simp [Floor.c, List.take_of_length_le]⟩
    · simp only [ne_eq, he, not_false_eq_true, if_true]
      obtain ⟨r1, r2, r3, r4, r5, r6, r7, r8, r9⟩ := r
      simp only [A, Memos.c, Reply.c, List.map_cons, List.map_nil] at h1 ⊢
      generalize MemoL.g ml = G1 at h1 ⊢
      generalize Floors.g mo = G2 at h1 ⊢
      simp -implicitDefEqProofs [h1, he, A, Memos.c, Reply.c]
  · have := hz rfl
    subst this
    simp only [true_or, if_true]
    obtain ⟨r1, r2, r3, r4, r5, r6, r7, r8, r9⟩ := r
    simp only [A, Memos.c, Reply.c, List.map_cons, List.map_nil] at h1 ⊢
    generalize MemoL.g ml = G1 at h1 ⊢
    generalize Floors.g mo = G2 at h1 ⊢
    simp -implicitDefEqProofs [h1, A, Memos.c, Reply.c]
end Go.Proofs.Ytibnbcljmfigfaa
