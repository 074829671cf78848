/- Bytes as requests by the reference: the questions. -/
import Derived.Test.YtenndgooepdmiaaSRef3
namespace Go.Proofs.Ytenndgooepdmiaa
open Go Go.AM Go.Proofs
set_option maxRecDepth 20000
set_option maxHeartbeats 4000000
set_option linter.unusedSimpArgs false
set_option linter.unusedVariables false
theorem r2C_own (H : List Blk) (a b c d : Blk) (s : Bs) (st : R2) (o : List Blk) : (H ++ a :: b :: c :: d :: r2C s st :: o)[H.length + 4]? = some (r2C s st) := by
  rw [List.getElem?_append_right (by omega)]; simp
section
variable (H : List Blk) (b0 b1 b2 b3 b5 b6 b7 : Blk) (q1 q2 q3 q4 q5 q6 q7 q8 q9 q10 : AV) (s : Bs) (k : Int)
def stK (v : AV) (i : Nat) (st : R2) (o : List Blk) : St := ⟨[(0, T s), (2, .ptr (H.length + 3) 0), (4, .ptr (H.length + 4) 0), (5, .ptr (H.length + 8) 0), (6, I k), (7, I i)], [], b0 :: b1 :: b2 :: b3 :: r2C s st :: b5 :: b6 :: b7 :: .cells [q1, q2, q3, q4, q5, q6, q7, q8, q9, q10, v, .g .nsl, .g .nsl] :: o⟩
def exK (v : AV) (i : Nat) (st : R2) (o : List Blk) : Ex × St := (.exit 0, ⟨[(0, T s), (2, .ptr (H.length + 3) 0), (4, .ptr (H.length + 4) 0), (5, .ptr (H.length + 8) 0), (6, I k), (7, I i), (63, B false)], [], b0 :: b1 :: b2 :: b3 :: r2C s st :: b5 :: b6 :: b7 :: .cells [q1, q2, q3, q4, q5, q6, q7, q8, q9, q10, v, .g .nsl, .g .nsl] :: o⟩)
theorem q_exit (v : AV) (i : Nat) (st : R2) (o : List Blk) (hc : ¬ ((i : Int) < k ∧ st.2 = false) ∨ 4 < i) :
    loopE (EvF tab) H L13_0 [0, 2, 4, 5, 6, 7] (stK H b0 b1 b2 b3 b5 b6 b7 q1 q2 q3 q4 q5 q6 q7 q8 q9 q10 s k v i st o) = some (exK H b0 b1 b2 b3 b5 b6 b7 q1 q2 q3 q4 q5 q6 q7 q8 q9 q10 s k v i st o) := by
  refine loopE_out _ _ _ _ _ _ (by simp [exK]) ?_
  unfold stK exK
  delta L13_0
  obtain ⟨a, w⟩ := st
  simp only at hc
  by_cases hk : (i : Int) < k
  · cases w
    · have h5 : ¬ (i : Int) ≤ 4 := by rcases hc with h | h; exact absurd ⟨hk, rfl⟩ h; omega
      have h5' : ¬ i ≤ 4 := by omega
      simp -implicitDefEqProofs [r2C, hk, h5, h5']
    · simp -implicitDefEqProofs [r2C, hk]
  · simp -implicitDefEqProofs [r2C, hk]
theorem q_stepA (hl : s.length ≤ 9223372036854775807) (st : R2) (hi : Iv s st) (hk : 0 < k) (hw : st.2 = false) :
    kpN [0, 2, 4, 5, 6, 7] (evCode (EvF tab) H L13_0 (stK H b0 b1 b2 b3 b5 b6 b7 q1 q2 q3 q4 q5 q6 q7 q8 q9 q10 s k (.g .nsl) 0 st [])) =
      some (.normal, stK H b0 b1 b2 b3 b5 b6 b7 q1 q2 q3 q4 q5 q6 q7 q8 q9 q10 s k (.ms (H.length + 10) 2 5 0 1) 1 (r2Cmp s st).2 [.cells ((r2Cmp s st).1.c.map .g), .rows 5 2 [(r2Cmp s st).1.c]]) := by
  have i1 := r2T_iv hi
  have i2 := (r2N_iv i1).1
  have i3 := (r2N_iv i2).1
  have i4 := (r2N_iv i3).1
  have hst : st = (st.1, false) := by rw [← hw]
  have hrC : r2C s st = .cells [T s, I st.1, B false] := by rw [← hw]; rfl
  have a1 := r2t_ev (r2C_own H b0 b1 b2 b3 s st (b5 :: b6 :: b7 :: .cells [q1, q2, q3, q4, q5, q6, q7, q8, q9, q10, .g .nsl, .g .nsl, .g .nsl] :: [])) hl hi
  have a2 := r2n_ev (r2C_own H b0 b1 b2 b3 s (r2T s st).2 (b5 :: b6 :: b7 :: .cells [q1, q2, q3, q4, q5, q6, q7, q8, q9, q10, .g .nsl, .g .nsl, .g .nsl] :: [.cells [T (r2T s st).1, I 0, I 0, I 0, T []]])) hl
  have a3 := r2n_ev (r2C_own H b0 b1 b2 b3 s (r2N s (r2T s st).2).2 (b5 :: b6 :: b7 :: .cells [q1, q2, q3, q4, q5, q6, q7, q8, q9, q10, .g .nsl, .g .nsl, .g .nsl] :: [.cells [T (r2T s st).1, I (r2N s (r2T s st).2).1, I 0, I 0, T []]])) hl
  have a4 := r2n_ev (r2C_own H b0 b1 b2 b3 s (r2N s (r2N s (r2T s st).2).2).2 (b5 :: b6 :: b7 :: .cells [q1, q2, q3, q4, q5, q6, q7, q8, q9, q10, .g .nsl, .g .nsl, .g .nsl] :: [.cells [T (r2T s st).1, I (r2N s (r2T s st).2).1, I (r2N s (r2N s (r2T s st).2).2).1, I 0, T []]])) hl
  have a5 := r2t_ev (r2C_own H b0 b1 b2 b3 s (r2N s (r2N s (r2N s (r2T s st).2).2).2).2 (b5 :: b6 :: b7 :: .cells [q1, q2, q3, q4, q5, q6, q7, q8, q9, q10, .g .nsl, .g .nsl, .g .nsl] :: [.cells [T (r2T s st).1, I (r2N s (r2T s st).2).1, I (r2N s (r2N s (r2T s st).2).2).1, I (r2N s (r2N s (r2N s (r2T s st).2).2).2).1, T []]])) hl i4
  have u1 : IntKind.i64.wrap 1 = 1 := rfl
  unfold stK
  delta L13_0
  simp only [r2Cmp, seq2]
  rw [hrC] at a1 ⊢
  generalize r2T s st = x1 at a1 a2 a3 a4 a5 ⊢; obtain ⟨v1, s1⟩ := x1; simp only at a1 a2 a3 a4 a5 ⊢
  generalize r2N s s1 = x2 at a2 a3 a4 a5 ⊢; obtain ⟨v2, s2⟩ := x2; simp only at a2 a3 a4 a5 ⊢
  generalize r2N s s2 = x3 at a3 a4 a5 ⊢; obtain ⟨v3, s3⟩ := x3; simp only at a3 a4 a5 ⊢
  generalize r2N s s3 = x4 at a4 a5 ⊢; obtain ⟨v4, s4⟩ := x4; simp only at a4 a5 ⊢
  generalize r2T s s4 = x5 at a5 ⊢; obtain ⟨v5, s5⟩ := x5; simp only at a5 ⊢
  simp -implicitDefEqProofs [zres, hk, u1, a1, a2, a3, a4, a5, Cmp.c, chunk, appV, room]
theorem q_stepB (hl : s.length ≤ 9223372036854775807) (out : List Cmp) (ho : out.length ≤ 4) (st : R2) (hi : Iv s st) (hk : (out.length : Int) < k) (hw : st.2 = false) (jc : Blk) (o : List Blk) :
    kpN [0, 2, 4, 5, 6, 7] (evCode (EvF tab) H L13_0 (stK H b0 b1 b2 b3 b5 b6 b7 q1 q2 q3 q4 q5 q6 q7 q8 q9 q10 s k (.ms (H.length + 10) (out.length + 1) 5 0 out.length) out.length st (jc :: .rows 5 (out.length + 1) (out.map Cmp.c) :: o))) =
      some (.normal, stK H b0 b1 b2 b3 b5 b6 b7 q1 q2 q3 q4 q5 q6 q7 q8 q9 q10 s k (.ms (H.length + 10) ((out ++ [(r2Cmp s st).1]).length + 1) 5 0 (out ++ [(r2Cmp s st).1]).length) (out ++ [(r2Cmp s st).1]).length (r2Cmp s st).2 (jc :: .rows 5 ((out ++ [(r2Cmp s st).1]).length + 1) ((out ++ [(r2Cmp s st).1]).map Cmp.c) :: (o ++ [.cells ((r2Cmp s st).1.c.map .g)]))) := by
  have i1 := r2T_iv hi
  have i2 := (r2N_iv i1).1
  have i3 := (r2N_iv i2).1
  have i4 := (r2N_iv i3).1
  have hst : st = (st.1, false) := by rw [← hw]
  have hrC : r2C s st = .cells [T s, I st.1, B false] := by rw [← hw]; rfl
  obtain ⟨QB, eQ⟩ : ∃ b : Blk, b = .cells [q1, q2, q3, q4, q5, q6, q7, q8, q9, q10, .ms (H.length + 10) (out.length + 1) 5 0 out.length, .g .nsl, .g .nsl] := ⟨_, rfl⟩
  obtain ⟨RB, eR⟩ : ∃ b : Blk, b = .rows 5 (out.length + 1) (out.map Cmp.c) := ⟨_, rfl⟩
  have a1 := r2t_ev (r2C_own H b0 b1 b2 b3 s st (b5 :: b6 :: b7 :: QB :: jc :: RB :: o)) hl hi
  have a2 := r2n_ev (r2C_own H b0 b1 b2 b3 s (r2T s st).2 (b5 :: b6 :: b7 :: QB :: jc :: RB :: (o ++ [.cells [T (r2T s st).1, I 0, I 0, I 0, T []]]))) hl
  have a3 := r2n_ev (r2C_own H b0 b1 b2 b3 s (r2N s (r2T s st).2).2 (b5 :: b6 :: b7 :: QB :: jc :: RB :: (o ++ [.cells [T (r2T s st).1, I (r2N s (r2T s st).2).1, I 0, I 0, T []]]))) hl
  have a4 := r2n_ev (r2C_own H b0 b1 b2 b3 s (r2N s (r2N s (r2T s st).2).2).2 (b5 :: b6 :: b7 :: QB :: jc :: RB :: (o ++ [.cells [T (r2T s st).1, I (r2N s (r2T s st).2).1, I (r2N s (r2N s (r2T s st).2).2).1, I 0, T []]]))) hl
  have a5 := r2t_ev (r2C_own H b0 b1 b2 b3 s (r2N s (r2N s (r2N s (r2T s st).2).2).2).2 (b5 :: b6 :: b7 :: QB :: jc :: RB :: (o ++ [.cells [T (r2T s st).1, I (r2N s (r2T s st).2).1, I (r2N s (r2N s (r2T s st).2).2).1, I (r2N s (r2N s (r2N s (r2T s st).2).2).2).1, T []]]))) hl i4
  have e1 : IntKind.i64.wrap ((out.length : Int) + 1) = (out.length : Int) + 1 := wrap_i64 (by omega) (by omega)
  have htk : List.take out.length (List.map Cmp.c out) = List.map Cmp.c out := List.take_of_length_le (by simp)
  have hr1 : out.length + 1 ≤ 140737488355328 := by omega
  have hr2 : (out.length + 1) * 56 ≤ 140737488355328 := by omega
  have h4 : (out.length : Int) ≤ 4 := by omega
  unfold stK
  delta L13_0
  simp only [r2Cmp, seq2]
  subst eQ eR
  rw [hrC] at a1 ⊢
  generalize r2T s st = x1 at a1 a2 a3 a4 a5 ⊢; obtain ⟨v1, s1⟩ := x1; simp only at a1 a2 a3 a4 a5 ⊢
  generalize r2N s s1 = x2 at a2 a3 a4 a5 ⊢; obtain ⟨v2, s2⟩ := x2; simp only at a2 a3 a4 a5 ⊢
  generalize r2N s s2 = x3 at a3 a4 a5 ⊢; obtain ⟨v3, s3⟩ := x3; simp only at a3 a4 a5 ⊢
  generalize r2N s s3 = x4 at a4 a5 ⊢; obtain ⟨v4, s4⟩ := x4; simp only at a4 a5 ⊢
  generalize r2T s s4 = x5 at a5 ⊢; obtain ⟨v5, s5⟩ := x5; simp only at a5 ⊢
  simp -implicitDefEqProofs [zres, hk, h4, ho, e1, a1, a2, a3, a4, a5, Cmp.c, chunk, appV, room, hr1, hr2, htk, Nat.not_succ_le_self]
end
end Go.Proofs.Ytenndgooepdmiaa
