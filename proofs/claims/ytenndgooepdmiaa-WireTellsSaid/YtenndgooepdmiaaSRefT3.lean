/- Bytes as replies by the reference: its loops over keys and events (printed by wip/tools/gen_reft.py). -/
import Derived.Test.YtenndgooepdmiaaSRefT2
import Derived.Test.YtenndgooepdmiaaSRef4
namespace Go.Proofs.Ytenndgooepdmiaa
open Go Go.AM Go.Proofs
set_option maxRecDepth 20000
set_option maxHeartbeats 4000000
set_option linter.unusedSimpArgs false
set_option linter.unusedVariables false
theorem r2kv_ev {H : List Blk} {p : Nat} {s : Bs} {st : R2} (hp : H[p]? = some (r2C s st)) (hl : s.length ≤ 9223372036854775807) (hi : Iv s st) :
    EvF tab 64 [.ptr p 0] H = some ⟨A (r2KV s st).1.c, [(p, r2C s (r2KV s st).2)], []⟩ := by
  have hpl : p < H.length := (List.getElem?_eq_some_iff.1 hp).1
  have i1 := r2T_iv hi
  have i2 := r2T_iv i1
  have i3 := (r2N_iv i2).1
  have i4 := (r2N_iv i3).1
  have i5 := (r2N_iv i4).1
  have z : Blk := .cells [T [], T [], I 0, I 0, I 0, I 0]
  have a1 := r2t_ev (r2C_app hp [.cells [T [], T [], I 0, I 0, I 0, I 0]]) hl hi
  have a2 := r2t_ev (r2C_set2 hpl s (r2T s st).2 [.cells [T [], T [], I 0, I 0, I 0, I 0], .cells [T (r2T s st).1, T [], I 0, I 0, I 0, I 0]]) hl i1
  have a3 := r2n_ev (r2C_set2 hpl s (r2T s (r2T s st).2).2 [.cells [T [], T [], I 0, I 0, I 0, I 0], .cells [T (r2T s st).1, T (r2T s (r2T s st).2).1, I 0, I 0, I 0, I 0]]) hl
  have a4 := r2n_ev (r2C_set2 hpl s (r2N s (r2T s (r2T s st).2).2).2 [.cells [T [], T [], I 0, I 0, I 0, I 0], .cells [T (r2T s st).1, T (r2T s (r2T s st).2).1, I (r2N s (r2T s (r2T s st).2).2).1, I 0, I 0, I 0]]) hl
  have a5 := r2n_ev (r2C_set2 hpl s (r2N s (r2N s (r2T s (r2T s st).2).2).2).2 [.cells [T [], T [], I 0, I 0, I 0, I 0], .cells [T (r2T s st).1, T (r2T s (r2T s st).2).1, I (r2N s (r2T s (r2T s st).2).2).1, I (r2N s (r2N s (r2T s (r2T s st).2).2).2).1, I 0, I 0]]) hl
  have a6 := r2n_ev (r2C_set2 hpl s (r2N s (r2N s (r2N s (r2T s (r2T s st).2).2).2).2).2 [.cells [T [], T [], I 0, I 0, I 0, I 0], .cells [T (r2T s st).1, T (r2T s (r2T s st).2).1, I (r2N s (r2T s (r2T s st).2).2).1, I (r2N s (r2N s (r2T s (r2T s st).2).2).2).1, I (r2N s (r2N s (r2N s (r2T s (r2T s st).2).2).2).2).1, I 0]]) hl
  refine EvF_walk t64 (by simp) ?_
  simp only [r2KV, seq2]
  generalize r2T s st = x1 at a1 a2 a3 a4 a5 a6 ⊢; obtain ⟨v1, s1⟩ := x1; simp only at a1 a2 a3 a4 a5 a6 ⊢
  generalize r2T s s1 = x2 at a2 a3 a4 a5 a6 ⊢; obtain ⟨v2, s2⟩ := x2; simp only at a2 a3 a4 a5 a6 ⊢
  generalize r2N s s2 = x3 at a3 a4 a5 a6 ⊢; obtain ⟨v3, s3⟩ := x3; simp only at a3 a4 a5 a6 ⊢
  generalize r2N s s3 = x4 at a4 a5 a6 ⊢; obtain ⟨v4, s4⟩ := x4; simp only at a4 a5 a6 ⊢
  generalize r2N s s4 = x5 at a5 a6 ⊢; obtain ⟨v5, s5⟩ := x5; simp only at a5 a6 ⊢
  generalize r2N s s5 = x6 at a6 ⊢; obtain ⟨v6, s6⟩ := x6; simp only at a6 ⊢
  simp -implicitDefEqProofs [zres, A, KV.c, a1, a2, a3, a4, a5, a6, hpl, getB_old, setB_old, orB, updM]
theorem r2L_ge {α : Type} (it : R2 → α × R2) (k : Int) : ∀ (d : Nat) (out : List α) (st : R2), out.length ≤ (r2L it k d out st).1.length := by
  intro d
  induction d with
  | zero => intro out st; simp [r2L]
  | succ d ih =>
    intro out st
    unfold r2L
    split
    · have := ih (out ++ [(it st).1]) (it st).2
      simp only [List.length_append, List.length_cons, List.length_nil] at this
      omega
    · simp
theorem r2C_ownT (H : List Blk) (a b d : Blk) (s : Bs) (st : R2) (o : List Blk) : (H ++ a :: b :: d :: r2C s st :: o)[H.length + 3]? = some (r2C s st) := by
  rw [List.getElem?_append_right (by omega)]; simp

section
variable (H : List Blk) (b0 b1 b2 b4 b5 : Blk) (q1 q2 q3 q4 q5 q6 q7 : AV) (s : Bs) (k : Int)
def stkvL (v : AV) (i : Nat) (st : R2) (o : List Blk) : St := ⟨[(0, T s), (2, .ptr (H.length + 2) 0), (4, .ptr (H.length + 3) 0), (5, .ptr (H.length + 6) 0), (6, I k), (7, I i)], [], b0 :: b1 :: b2 :: r2C s st :: b4 :: b5 :: .cells [q1, q2, q3, q4, q5, q6, q7, v, .g .nsl] :: o⟩
def exkvL (v : AV) (i : Nat) (st : R2) (o : List Blk) : Ex × St := (.exit 0, ⟨[(0, T s), (2, .ptr (H.length + 2) 0), (4, .ptr (H.length + 3) 0), (5, .ptr (H.length + 6) 0), (6, I k), (7, I i), (55, B false)], [], b0 :: b1 :: b2 :: r2C s st :: b4 :: b5 :: .cells [q1, q2, q3, q4, q5, q6, q7, v, .g .nsl] :: o⟩)
theorem kvL_exit (v : AV) (i : Nat) (st : R2) (o : List Blk) (hc : ¬ ((i : Int) < k ∧ st.2 = false) ∨ 30 < i) :
    loopE (EvF tab) H L22_0 [0, 2, 4, 5, 6, 7] (stkvL H b0 b1 b2 b4 b5 q1 q2 q3 q4 q5 q6 q7 s k v i st o) = some (exkvL H b0 b1 b2 b4 b5 q1 q2 q3 q4 q5 q6 q7 s k v i st o) := by
  refine loopE_out _ _ _ _ _ _ (by simp [exkvL]) ?_
  unfold stkvL exkvL
  delta L22_0
  obtain ⟨a, w⟩ := st
  simp only at hc
  by_cases hk : (i : Int) < k
  · cases w
    · have h5 : ¬ (i : Int) ≤ 30 := by rcases hc with h | h; exact absurd ⟨hk, rfl⟩ h; omega
      have h5' : ¬ i ≤ 30 := by omega
      simp -implicitDefEqProofs [r2C, hk, h5, h5']
    · simp -implicitDefEqProofs [r2C, hk]
  · simp -implicitDefEqProofs [r2C, hk]
theorem kvL_stepA (hl : s.length ≤ 9223372036854775807) (st : R2) (hi : Iv s st) (hk : 0 < k) (hw : st.2 = false) :
    kpN [0, 2, 4, 5, 6, 7] (evCode (EvF tab) H L22_0 (stkvL H b0 b1 b2 b4 b5 q1 q2 q3 q4 q5 q6 q7 s k (.g .nsl) 0 st [])) =
      some (.normal, stkvL H b0 b1 b2 b4 b5 q1 q2 q3 q4 q5 q6 q7 s k (.ms (H.length + 7) 2 6 0 1) 1 (r2KV s st).2 [.rows 6 2 [(r2KV s st).1.c]]) := by
  have hrC : r2C s st = .cells [T s, I st.1, B false] := by rw [← hw]; rfl
  have u1 : IntKind.i64.wrap 1 = 1 := rfl
  have a1 := r2kv_ev (r2C_ownT H b0 b1 b2 s st (b4 :: b5 :: .hid :: [])) hl hi
  unfold stkvL
  delta L22_0
  rw [hrC] at a1 ⊢
  generalize r2KV s st = x1 at a1 ⊢; obtain ⟨v1, s1⟩ := x1; simp only at a1 ⊢
  simp only [A, KV.c, List.map_cons, List.map_nil] at a1
  simp -implicitDefEqProofs [zres, hk, a1, KV.c, chunk, appV, room, u1]
theorem kvL_stepB (hl : s.length ≤ 9223372036854775807) (out : List KV) (ho : out.length ≤ 30) (st : R2) (hi : Iv s st) (hk : (out.length : Int) < k) (hw : st.2 = false) (o : List Blk) :
    kpN [0, 2, 4, 5, 6, 7] (evCode (EvF tab) H L22_0 (stkvL H b0 b1 b2 b4 b5 q1 q2 q3 q4 q5 q6 q7 s k (.ms (H.length + 7) (out.length + 1) 6 0 out.length) out.length st (.rows 6 (out.length + 1) (out.map KV.c) :: o))) =
      some (.normal, stkvL H b0 b1 b2 b4 b5 q1 q2 q3 q4 q5 q6 q7 s k (.ms (H.length + 7) ((out ++ [(r2KV s st).1]).length + 1) 6 0 (out ++ [(r2KV s st).1]).length) (out ++ [(r2KV s st).1]).length (r2KV s st).2 (.rows 6 ((out ++ [(r2KV s st).1]).length + 1) ((out ++ [(r2KV s st).1]).map KV.c) :: o)) := by
  have hrC : r2C s st = .cells [T s, I st.1, B false] := by rw [← hw]; rfl
  have e1 : IntKind.i64.wrap ((out.length : Int) + 1) = (out.length : Int) + 1 := wrap_i64 (by omega) (by omega)
  have htk : List.take out.length (List.map KV.c out) = List.map KV.c out := List.take_of_length_le (by simp)
  have hr1 : out.length + 1 ≤ 140737488355328 := by omega
  have hr2 : (out.length + 1) * 64 ≤ 140737488355328 := by omega
  have h4 : (out.length : Int) ≤ 30 := by omega
  have a1 := r2kv_ev (r2C_ownT H b0 b1 b2 s st (b4 :: b5 :: .hid :: .rows 6 (out.length + 1) (out.map KV.c) :: o)) hl hi
  unfold stkvL
  delta L22_0
  rw [hrC] at a1 ⊢
  generalize r2KV s st = x1 at a1 ⊢; obtain ⟨v1, s1⟩ := x1; simp only at a1 ⊢
  simp only [A, KV.c, List.map_cons, List.map_nil] at a1
  simp -implicitDefEqProofs [zres, hk, a1, KV.c, chunk, appV, room, h4, ho, e1, hr1, hr2, htk, Nat.not_succ_le_self]
theorem kvL_loopB (hl : s.length ≤ 9223372036854775807) : ∀ (d : Nat) (out : List KV) (st : R2) (o : List Blk), out.length + d = 31 → Iv s st →
    ∃ o', loopE (EvF tab) H L22_0 [0, 2, 4, 5, 6, 7] (stkvL H b0 b1 b2 b4 b5 q1 q2 q3 q4 q5 q6 q7 s k (.ms (H.length + 7) (out.length + 1) 6 0 out.length) out.length st (.rows 6 (out.length + 1) (out.map KV.c) :: o)) =
      some (exkvL H b0 b1 b2 b4 b5 q1 q2 q3 q4 q5 q6 q7 s k (.ms (H.length + 7) ((r2L (r2KV s) k d out st).1.length + 1) 6 0 (r2L (r2KV s) k d out st).1.length) (r2L (r2KV s) k d out st).1.length (r2L (r2KV s) k d out st).2 (.rows 6 ((r2L (r2KV s) k d out st).1.length + 1) ((r2L (r2KV s) k d out st).1.map KV.c) :: o')) ∧ o' = o := by
  intro d
  induction d with
  | zero =>
    intro out st o h1 hi
    refine ⟨o, ?_, rfl⟩
    simp only [r2L]
    exact kvL_exit H b0 b1 b2 b4 b5 q1 q2 q3 q4 q5 q6 q7 s k _ _ _ _ (.inr (by omega))
  | succ d ih =>
    intro out st o h1 hi
    by_cases hc : (out.length : Int) < k ∧ st.2 = false
    · simp only [r2L, if_pos hc]
      obtain ⟨o', ho', e2⟩ := ih (out ++ [(r2KV s st).1]) (r2KV s st).2 o (by simp; omega) (r2KV_iv hi)
      refine ⟨o', ?_, e2⟩
      rw [loopE_kp _ _ _ _ _ _ (kvL_stepB H b0 b1 b2 b4 b5 q1 q2 q3 q4 q5 q6 q7 s k hl out (by omega) st hi hc.1 hc.2 o), ho']
    · simp only [r2L, if_neg hc]
      exact ⟨o, kvL_exit H b0 b1 b2 b4 b5 q1 q2 q3 q4 q5 q6 q7 s k _ _ _ _ (.inl hc), rfl⟩
theorem kvL_loop (hl : s.length ≤ 9223372036854775807) (st : R2) (hi : Iv s st) :
    ∃ v o', loopE (EvF tab) H L22_0 [0, 2, 4, 5, 6, 7] (stkvL H b0 b1 b2 b4 b5 q1 q2 q3 q4 q5 q6 q7 s k (.g .nsl) 0 st []) =
      some (exkvL H b0 b1 b2 b4 b5 q1 q2 q3 q4 q5 q6 q7 s k v (r2L (r2KV s) k 31 [] st).1.length (r2L (r2KV s) k 31 [] st).2 o') ∧
      (((r2L (r2KV s) k 31 [] st).1 = [] ∧ v = .g .nsl ∧ o' = []) ∨ ((r2L (r2KV s) k 31 [] st).1 ≠ [] ∧ v = .ms (H.length + 7) ((r2L (r2KV s) k 31 [] st).1.length + 1) 6 0 (r2L (r2KV s) k 31 [] st).1.length ∧ o' = [.rows 6 ((r2L (r2KV s) k 31 [] st).1.length + 1) ((r2L (r2KV s) k 31 [] st).1.map KV.c)])) := by
  by_cases hc : (([] : List KV).length : Int) < k ∧ st.2 = false
  · have e : r2L (r2KV s) k 31 [] st = r2L (r2KV s) k 30 [(r2KV s st).1] (r2KV s st).2 := by
      rw [r2L, if_pos hc]; rfl
    obtain ⟨o', ho', e9⟩ := kvL_loopB H b0 b1 b2 b4 b5 q1 q2 q3 q4 q5 q6 q7 s k hl 30 [(r2KV s st).1] (r2KV s st).2 [] rfl (r2KV_iv hi)
    have hge := r2L_ge (r2KV s) k 30 [(r2KV s st).1] (r2KV s st).2
    have hs := kvL_stepA H b0 b1 b2 b4 b5 q1 q2 q3 q4 q5 q6 q7 s k hl st hi (by simpa using hc.1) hc.2
    rw [e]
    have hne : (r2L (r2KV s) k 30 [(r2KV s st).1] (r2KV s st).2).1 ≠ [] := fun h0 => by rw [h0] at hge; simp at hge
    have hh := (loopE_kp (EvF tab) H L22_0 [0, 2, 4, 5, 6, 7] _ _ hs).trans ho'
    exact ⟨_, _, hh, .inr ⟨hne, rfl, by rw [e9]⟩⟩
  · have e : r2L (r2KV s) k 31 [] st = ([], st) := by rw [r2L, if_neg hc]
    rw [e]
    exact ⟨.g .nsl, [], kvL_exit H b0 b1 b2 b4 b5 q1 q2 q3 q4 q5 q6 q7 s k _ 0 st [] (.inl hc), .inl ⟨rfl, rfl, rfl⟩⟩
end
section
variable (H : List Blk) (b0 b1 b2 b4 b5 : Blk) (q1 q2 q3 q4 q5 q6 q7 q8 : AV) (s : Bs) (k : Int)
def stevA (v : AV) (i : Nat) (st : R2) (o : List Blk) : St := ⟨[(0, T s), (2, .ptr (H.length + 2) 0), (4, .ptr (H.length + 3) 0), (5, .ptr (H.length + 6) 0), (6, I k), (8, I i)], [], b0 :: b1 :: b2 :: r2C s st :: b4 :: b5 :: .cells [q1, q2, q3, q4, q5, q6, q7, q8, v] :: o⟩
def exevA (v : AV) (i : Nat) (st : R2) (o : List Blk) : Ex × St := (.exit 2, ⟨[(0, T s), (2, .ptr (H.length + 2) 0), (4, .ptr (H.length + 3) 0), (5, .ptr (H.length + 6) 0), (6, I k), (8, I i), (80, B false)], [], b0 :: b1 :: b2 :: r2C s st :: b4 :: b5 :: .cells [q1, q2, q3, q4, q5, q6, q7, q8, v] :: o⟩)
theorem evA_exit (v : AV) (i : Nat) (st : R2) (o : List Blk) (hc : ¬ ((i : Int) < k ∧ st.2 = false) ∨ 30 < i) :
    loopE (EvF tab) H L22_1 [0, 2, 4, 5, 6, 8] (stevA H b0 b1 b2 b4 b5 q1 q2 q3 q4 q5 q6 q7 q8 s k v i st o) = some (exevA H b0 b1 b2 b4 b5 q1 q2 q3 q4 q5 q6 q7 q8 s k v i st o) := by
  refine loopE_out _ _ _ _ _ _ (by simp [exevA]) ?_
  unfold stevA exevA
  delta L22_1
  obtain ⟨a, w⟩ := st
  simp only at hc
  by_cases hk : (i : Int) < k
  · cases w
    · have h5 : ¬ (i : Int) ≤ 30 := by rcases hc with h | h; exact absurd ⟨hk, rfl⟩ h; omega
      have h5' : ¬ i ≤ 30 := by omega
      simp -implicitDefEqProofs [r2C, hk, h5, h5']
    · simp -implicitDefEqProofs [r2C, hk]
  · simp -implicitDefEqProofs [r2C, hk]
theorem evA_stepA (hl : s.length ≤ 9223372036854775807) (st : R2) (hi : Iv s st) (hk : 0 < k) (hw : st.2 = false) :
    kpN [0, 2, 4, 5, 6, 8] (evCode (EvF tab) H L22_1 (stevA H b0 b1 b2 b4 b5 q1 q2 q3 q4 q5 q6 q7 q8 s k (.g .nsl) 0 st [])) =
      some (.normal, stevA H b0 b1 b2 b4 b5 q1 q2 q3 q4 q5 q6 q7 q8 s k (.ms (H.length + 8) 2 8 0 1) 1 (r2Ev s st).2 [.cells ((r2Ev s st).1.c.map .g), .rows 8 2 [(r2Ev s st).1.c]]) := by
  have hrC : r2C s st = .cells [T s, I st.1, B false] := by rw [← hw]; rfl
  have u1 : IntKind.i64.wrap 1 = 1 := rfl
  have i1 := (r2N_iv hi).1
  have i2 := r2B_iv i1
  have a1 := r2n_ev (r2C_ownT H b0 b1 b2 s st (b4 :: b5 :: .cells [q1, q2, q3, q4, q5, q6, q7, q8, .g .nsl] :: [])) hl
  have a2 := r2b_ev (r2C_ownT H b0 b1 b2 s (r2N s st).2 (b4 :: b5 :: .cells [q1, q2, q3, q4, q5, q6, q7, q8, .g .nsl] :: [.cells [I (r2N s st).1, B false, T [], T [], I 0, I 0, I 0, I 0]])) hl
  have a3 := r2kv_ev (r2C_ownT H b0 b1 b2 s (r2B s (r2N s st).2).2 (b4 :: b5 :: .cells [q1, q2, q3, q4, q5, q6, q7, q8, .g .nsl] :: [.cells [I (r2N s st).1, B (r2B s (r2N s st).2).1, T [], T [], I 0, I 0, I 0, I 0]])) hl i2
  unfold stevA
  delta L22_1
  simp only [r2Ev, seq2]
  rw [hrC] at a1 ⊢
  generalize r2N s st = x1 at a1 a2 a3 ⊢; obtain ⟨v1, s1⟩ := x1; simp only at a1 a2 a3 ⊢
  generalize r2B s s1 = x2 at a2 a3 ⊢; obtain ⟨v2, s2⟩ := x2; simp only at a2 a3 ⊢
  generalize r2KV s s2 = x3 at a3 ⊢; obtain ⟨v3, s3⟩ := x3; simp only at a3 ⊢
  simp only [A, KV.c, List.map_cons, List.map_nil] at a3
  simp -implicitDefEqProofs [zres, hk, a1, a2, a3, Ev.c, chunk, appV, room, u1]
theorem evA_stepB (hl : s.length ≤ 9223372036854775807) (out : List Ev) (ho : out.length ≤ 30) (st : R2) (hi : Iv s st) (hk : (out.length : Int) < k) (hw : st.2 = false) (jc : Blk) (o : List Blk) :
    kpN [0, 2, 4, 5, 6, 8] (evCode (EvF tab) H L22_1 (stevA H b0 b1 b2 b4 b5 q1 q2 q3 q4 q5 q6 q7 q8 s k (.ms (H.length + 8) (out.length + 1) 8 0 out.length) out.length st (jc :: .rows 8 (out.length + 1) (out.map Ev.c) :: o))) =
      some (.normal, stevA H b0 b1 b2 b4 b5 q1 q2 q3 q4 q5 q6 q7 q8 s k (.ms (H.length + 8) ((out ++ [(r2Ev s st).1]).length + 1) 8 0 (out ++ [(r2Ev s st).1]).length) (out ++ [(r2Ev s st).1]).length (r2Ev s st).2 (jc :: .rows 8 ((out ++ [(r2Ev s st).1]).length + 1) ((out ++ [(r2Ev s st).1]).map Ev.c) :: (o ++ [.cells ((r2Ev s st).1.c.map .g)]))) := by
  have hrC : r2C s st = .cells [T s, I st.1, B false] := by rw [← hw]; rfl
  have e1 : IntKind.i64.wrap ((out.length : Int) + 1) = (out.length : Int) + 1 := wrap_i64 (by omega) (by omega)
  have htk : List.take out.length (List.map Ev.c out) = List.map Ev.c out := List.take_of_length_le (by simp)
  have hr1 : out.length + 1 ≤ 140737488355328 := by omega
  have hr2 : (out.length + 1) * 80 ≤ 140737488355328 := by omega
  have h4 : (out.length : Int) ≤ 30 := by omega
  have i1 := (r2N_iv hi).1
  have i2 := r2B_iv i1
  have a1 := r2n_ev (r2C_ownT H b0 b1 b2 s st (b4 :: b5 :: .cells [q1, q2, q3, q4, q5, q6, q7, q8, .ms (H.length + 8) (out.length + 1) 8 0 out.length] :: jc :: .rows 8 (out.length + 1) (out.map Ev.c) :: o)) hl
  have a2 := r2b_ev (r2C_ownT H b0 b1 b2 s (r2N s st).2 (b4 :: b5 :: .cells [q1, q2, q3, q4, q5, q6, q7, q8, .ms (H.length + 8) (out.length + 1) 8 0 out.length] :: jc :: .rows 8 (out.length + 1) (out.map Ev.c) :: (o ++ [.cells [I (r2N s st).1, B false, T [], T [], I 0, I 0, I 0, I 0]]))) hl
  have a3 := r2kv_ev (r2C_ownT H b0 b1 b2 s (r2B s (r2N s st).2).2 (b4 :: b5 :: .cells [q1, q2, q3, q4, q5, q6, q7, q8, .ms (H.length + 8) (out.length + 1) 8 0 out.length] :: jc :: .rows 8 (out.length + 1) (out.map Ev.c) :: (o ++ [.cells [I (r2N s st).1, B (r2B s (r2N s st).2).1, T [], T [], I 0, I 0, I 0, I 0]]))) hl i2
  unfold stevA
  delta L22_1
  simp only [r2Ev, seq2]
  rw [hrC] at a1 ⊢
  generalize r2N s st = x1 at a1 a2 a3 ⊢; obtain ⟨v1, s1⟩ := x1; simp only at a1 a2 a3 ⊢
  generalize r2B s s1 = x2 at a2 a3 ⊢; obtain ⟨v2, s2⟩ := x2; simp only at a2 a3 ⊢
  generalize r2KV s s2 = x3 at a3 ⊢; obtain ⟨v3, s3⟩ := x3; simp only at a3 ⊢
  simp only [A, KV.c, List.map_cons, List.map_nil] at a3
  simp -implicitDefEqProofs [zres, hk, a1, a2, a3, Ev.c, chunk, appV, room, h4, ho, e1, hr1, hr2, htk, Nat.not_succ_le_self]
theorem evA_loopB (hl : s.length ≤ 9223372036854775807) : ∀ (d : Nat) (out : List Ev) (st : R2) (jc : Blk) (o : List Blk), out.length + d = 31 → Iv s st →
    ∃ o', loopE (EvF tab) H L22_1 [0, 2, 4, 5, 6, 8] (stevA H b0 b1 b2 b4 b5 q1 q2 q3 q4 q5 q6 q7 q8 s k (.ms (H.length + 8) (out.length + 1) 8 0 out.length) out.length st (jc :: .rows 8 (out.length + 1) (out.map Ev.c) :: o)) =
      some (exevA H b0 b1 b2 b4 b5 q1 q2 q3 q4 q5 q6 q7 q8 s k (.ms (H.length + 8) ((r2L (r2Ev s) k d out st).1.length + 1) 8 0 (r2L (r2Ev s) k d out st).1.length) (r2L (r2Ev s) k d out st).1.length (r2L (r2Ev s) k d out st).2 (jc :: .rows 8 ((r2L (r2Ev s) k d out st).1.length + 1) ((r2L (r2Ev s) k d out st).1.map Ev.c) :: o')) := by
  intro d
  induction d with
  | zero =>
    intro out st jc o h1 hi
    refine ⟨o, ?_⟩
    simp only [r2L]
    exact evA_exit H b0 b1 b2 b4 b5 q1 q2 q3 q4 q5 q6 q7 q8 s k _ _ _ _ (.inr (by omega))
  | succ d ih =>
    intro out st jc o h1 hi
    by_cases hc : (out.length : Int) < k ∧ st.2 = false
    · simp only [r2L, if_pos hc]
      obtain ⟨o', ho'⟩ := ih (out ++ [(r2Ev s st).1]) (r2Ev s st).2 jc (o ++ [.cells ((r2Ev s st).1.c.map .g)]) (by simp; omega) (r2Ev_iv hi)
      refine ⟨o', ?_⟩
      rw [loopE_kp _ _ _ _ _ _ (evA_stepB H b0 b1 b2 b4 b5 q1 q2 q3 q4 q5 q6 q7 q8 s k hl out (by omega) st hi hc.1 hc.2 jc o), ho']
    · simp only [r2L, if_neg hc]
      exact ⟨o, evA_exit H b0 b1 b2 b4 b5 q1 q2 q3 q4 q5 q6 q7 q8 s k _ _ _ _ (.inl hc)⟩
theorem evA_loop (hl : s.length ≤ 9223372036854775807) (st : R2) (hi : Iv s st) :
    ∃ v o', loopE (EvF tab) H L22_1 [0, 2, 4, 5, 6, 8] (stevA H b0 b1 b2 b4 b5 q1 q2 q3 q4 q5 q6 q7 q8 s k (.g .nsl) 0 st []) =
      some (exevA H b0 b1 b2 b4 b5 q1 q2 q3 q4 q5 q6 q7 q8 s k v (r2L (r2Ev s) k 31 [] st).1.length (r2L (r2Ev s) k 31 [] st).2 o') ∧
      (((r2L (r2Ev s) k 31 [] st).1 = [] ∧ v = .g .nsl ∧ o' = []) ∨ ((r2L (r2Ev s) k 31 [] st).1 ≠ [] ∧ v = .ms (H.length + 8) ((r2L (r2Ev s) k 31 [] st).1.length + 1) 8 0 (r2L (r2Ev s) k 31 [] st).1.length ∧ ∃ jc o2, o' = jc :: .rows 8 ((r2L (r2Ev s) k 31 [] st).1.length + 1) ((r2L (r2Ev s) k 31 [] st).1.map Ev.c) :: o2)) := by
  by_cases hc : (([] : List Ev).length : Int) < k ∧ st.2 = false
  · have e : r2L (r2Ev s) k 31 [] st = r2L (r2Ev s) k 30 [(r2Ev s st).1] (r2Ev s st).2 := by
      rw [r2L, if_pos hc]; rfl
    obtain ⟨o', ho'⟩ := evA_loopB H b0 b1 b2 b4 b5 q1 q2 q3 q4 q5 q6 q7 q8 s k hl 30 [(r2Ev s st).1] (r2Ev s st).2 (.cells ((r2Ev s st).1.c.map .g)) [] rfl (r2Ev_iv hi)
    have hge := r2L_ge (r2Ev s) k 30 [(r2Ev s st).1] (r2Ev s st).2
    have hs := evA_stepA H b0 b1 b2 b4 b5 q1 q2 q3 q4 q5 q6 q7 q8 s k hl st hi (by simpa using hc.1) hc.2
    rw [e]
    have hne : (r2L (r2Ev s) k 30 [(r2Ev s st).1] (r2Ev s st).2).1 ≠ [] := fun h0 => by rw [h0] at hge; simp at hge
    have hh := (loopE_kp (EvF tab) H L22_1 [0, 2, 4, 5, 6, 8] _ _ hs).trans ho'
    exact ⟨_, _, hh, .inr ⟨hne, rfl, _, _, rfl⟩⟩
  · have e : r2L (r2Ev s) k 31 [] st = ([], st) := by rw [r2L, if_neg hc]
    rw [e]
    exact ⟨.g .nsl, [], evA_exit H b0 b1 b2 b4 b5 q1 q2 q3 q4 q5 q6 q7 q8 s k _ 0 st [] (.inl hc), .inl ⟨rfl, rfl, rfl⟩⟩
end
section
variable (H : List Blk) (b0 b1 b2 b4 b5 b7 : Blk) (q1 q2 q3 q4 q5 q6 q7 q8 : AV) (s : Bs) (k : Int)
def stevB (v : AV) (i : Nat) (st : R2) (o : List Blk) : St := ⟨[(0, T s), (2, .ptr (H.length + 2) 0), (4, .ptr (H.length + 3) 0), (5, .ptr (H.length + 6) 0), (6, I k), (8, I i)], [], b0 :: b1 :: b2 :: r2C s st :: b4 :: b5 :: .cells [q1, q2, q3, q4, q5, q6, q7, q8, v] :: b7 :: o⟩
def exevB (v : AV) (i : Nat) (st : R2) (o : List Blk) : Ex × St := (.exit 2, ⟨[(0, T s), (2, .ptr (H.length + 2) 0), (4, .ptr (H.length + 3) 0), (5, .ptr (H.length + 6) 0), (6, I k), (8, I i), (80, B false)], [], b0 :: b1 :: b2 :: r2C s st :: b4 :: b5 :: .cells [q1, q2, q3, q4, q5, q6, q7, q8, v] :: b7 :: o⟩)
theorem evB_exit (v : AV) (i : Nat) (st : R2) (o : List Blk) (hc : ¬ ((i : Int) < k ∧ st.2 = false) ∨ 30 < i) :
    loopE (EvF tab) H L22_1 [0, 2, 4, 5, 6, 8] (stevB H b0 b1 b2 b4 b5 b7 q1 q2 q3 q4 q5 q6 q7 q8 s k v i st o) = some (exevB H b0 b1 b2 b4 b5 b7 q1 q2 q3 q4 q5 q6 q7 q8 s k v i st o) := by
  refine loopE_out _ _ _ _ _ _ (by simp [exevB]) ?_
  unfold stevB exevB
  delta L22_1
  obtain ⟨a, w⟩ := st
  simp only at hc
  by_cases hk : (i : Int) < k
  · cases w
    · have h5 : ¬ (i : Int) ≤ 30 := by rcases hc with h | h; exact absurd ⟨hk, rfl⟩ h; omega
      have h5' : ¬ i ≤ 30 := by omega
      simp -implicitDefEqProofs [r2C, hk, h5, h5']
    · simp -implicitDefEqProofs [r2C, hk]
  · simp -implicitDefEqProofs [r2C, hk]
theorem evB_stepA (hl : s.length ≤ 9223372036854775807) (st : R2) (hi : Iv s st) (hk : 0 < k) (hw : st.2 = false) :
    kpN [0, 2, 4, 5, 6, 8] (evCode (EvF tab) H L22_1 (stevB H b0 b1 b2 b4 b5 b7 q1 q2 q3 q4 q5 q6 q7 q8 s k (.g .nsl) 0 st [])) =
      some (.normal, stevB H b0 b1 b2 b4 b5 b7 q1 q2 q3 q4 q5 q6 q7 q8 s k (.ms (H.length + 9) 2 8 0 1) 1 (r2Ev s st).2 [.cells ((r2Ev s st).1.c.map .g), .rows 8 2 [(r2Ev s st).1.c]]) := by
  have hrC : r2C s st = .cells [T s, I st.1, B false] := by rw [← hw]; rfl
  have u1 : IntKind.i64.wrap 1 = 1 := rfl
  have i1 := (r2N_iv hi).1
  have i2 := r2B_iv i1
  have a1 := r2n_ev (r2C_ownT H b0 b1 b2 s st (b4 :: b5 :: .cells [q1, q2, q3, q4, q5, q6, q7, q8, .g .nsl] :: b7 :: [])) hl
  have a2 := r2b_ev (r2C_ownT H b0 b1 b2 s (r2N s st).2 (b4 :: b5 :: .cells [q1, q2, q3, q4, q5, q6, q7, q8, .g .nsl] :: b7 :: [.cells [I (r2N s st).1, B false, T [], T [], I 0, I 0, I 0, I 0]])) hl
  have a3 := r2kv_ev (r2C_ownT H b0 b1 b2 s (r2B s (r2N s st).2).2 (b4 :: b5 :: .cells [q1, q2, q3, q4, q5, q6, q7, q8, .g .nsl] :: b7 :: [.cells [I (r2N s st).1, B (r2B s (r2N s st).2).1, T [], T [], I 0, I 0, I 0, I 0]])) hl i2
  unfold stevB
  delta L22_1
  simp only [r2Ev, seq2]
  rw [hrC] at a1 ⊢
  generalize r2N s st = x1 at a1 a2 a3 ⊢; obtain ⟨v1, s1⟩ := x1; simp only at a1 a2 a3 ⊢
  generalize r2B s s1 = x2 at a2 a3 ⊢; obtain ⟨v2, s2⟩ := x2; simp only at a2 a3 ⊢
  generalize r2KV s s2 = x3 at a3 ⊢; obtain ⟨v3, s3⟩ := x3; simp only at a3 ⊢
  simp only [A, KV.c, List.map_cons, List.map_nil] at a3
  simp -implicitDefEqProofs [zres, hk, a1, a2, a3, Ev.c, chunk, appV, room, u1]
theorem evB_stepB (hl : s.length ≤ 9223372036854775807) (out : List Ev) (ho : out.length ≤ 30) (st : R2) (hi : Iv s st) (hk : (out.length : Int) < k) (hw : st.2 = false) (jc : Blk) (o : List Blk) :
    kpN [0, 2, 4, 5, 6, 8] (evCode (EvF tab) H L22_1 (stevB H b0 b1 b2 b4 b5 b7 q1 q2 q3 q4 q5 q6 q7 q8 s k (.ms (H.length + 9) (out.length + 1) 8 0 out.length) out.length st (jc :: .rows 8 (out.length + 1) (out.map Ev.c) :: o))) =
      some (.normal, stevB H b0 b1 b2 b4 b5 b7 q1 q2 q3 q4 q5 q6 q7 q8 s k (.ms (H.length + 9) ((out ++ [(r2Ev s st).1]).length + 1) 8 0 (out ++ [(r2Ev s st).1]).length) (out ++ [(r2Ev s st).1]).length (r2Ev s st).2 (jc :: .rows 8 ((out ++ [(r2Ev s st).1]).length + 1) ((out ++ [(r2Ev s st).1]).map Ev.c) :: (o ++ [.cells ((r2Ev s st).1.c.map .g)]))) := by
  have hrC : r2C s st = .cells [T s, I st.1, B false] := by rw [← hw]; rfl
  have e1 : IntKind.i64.wrap ((out.length : Int) + 1) = (out.length : Int) + 1 := wrap_i64 (by omega) (by omega)
  have htk : List.take out.length (List.map Ev.c out) = List.map Ev.c out := List.take_of_length_le (by simp)
  have hr1 : out.length + 1 ≤ 140737488355328 := by omega
  have hr2 : (out.length + 1) * 80 ≤ 140737488355328 := by omega
  have h4 : (out.length : Int) ≤ 30 := by omega
  have i1 := (r2N_iv hi).1
  have i2 := r2B_iv i1
  have a1 := r2n_ev (r2C_ownT H b0 b1 b2 s st (b4 :: b5 :: .cells [q1, q2, q3, q4, q5, q6, q7, q8, .ms (H.length + 9) (out.length + 1) 8 0 out.length] :: b7 :: jc :: .rows 8 (out.length + 1) (out.map Ev.c) :: o)) hl
  have a2 := r2b_ev (r2C_ownT H b0 b1 b2 s (r2N s st).2 (b4 :: b5 :: .cells [q1, q2, q3, q4, q5, q6, q7, q8, .ms (H.length + 9) (out.length + 1) 8 0 out.length] :: b7 :: jc :: .rows 8 (out.length + 1) (out.map Ev.c) :: (o ++ [.cells [I (r2N s st).1, B false, T [], T [], I 0, I 0, I 0, I 0]]))) hl
  have a3 := r2kv_ev (r2C_ownT H b0 b1 b2 s (r2B s (r2N s st).2).2 (b4 :: b5 :: .cells [q1, q2, q3, q4, q5, q6, q7, q8, .ms (H.length + 9) (out.length + 1) 8 0 out.length] :: b7 :: jc :: .rows 8 (out.length + 1) (out.map Ev.c) :: (o ++ [.cells [I (r2N s st).1, B (r2B s (r2N s st).2).1, T [], T [], I 0, I 0, I 0, I 0]]))) hl i2
  unfold stevB
  delta L22_1
  simp only [r2Ev, seq2]
  rw [hrC] at a1 ⊢
  generalize r2N s st = x1 at a1 a2 a3 ⊢; obtain ⟨v1, s1⟩ := x1; simp only at a1 a2 a3 ⊢
  generalize r2B s s1 = x2 at a2 a3 ⊢; obtain ⟨v2, s2⟩ := x2; simp only at a2 a3 ⊢
  generalize r2KV s s2 = x3 at a3 ⊢; obtain ⟨v3, s3⟩ := x3; simp only at a3 ⊢
  simp only [A, KV.c, List.map_cons, List.map_nil] at a3
  simp -implicitDefEqProofs [zres, hk, a1, a2, a3, Ev.c, chunk, appV, room, h4, ho, e1, hr1, hr2, htk, Nat.not_succ_le_self]
theorem evB_loopB (hl : s.length ≤ 9223372036854775807) : ∀ (d : Nat) (out : List Ev) (st : R2) (jc : Blk) (o : List Blk), out.length + d = 31 → Iv s st →
    ∃ o', loopE (EvF tab) H L22_1 [0, 2, 4, 5, 6, 8] (stevB H b0 b1 b2 b4 b5 b7 q1 q2 q3 q4 q5 q6 q7 q8 s k (.ms (H.length + 9) (out.length + 1) 8 0 out.length) out.length st (jc :: .rows 8 (out.length + 1) (out.map Ev.c) :: o)) =
      some (exevB H b0 b1 b2 b4 b5 b7 q1 q2 q3 q4 q5 q6 q7 q8 s k (.ms (H.length + 9) ((r2L (r2Ev s) k d out st).1.length + 1) 8 0 (r2L (r2Ev s) k d out st).1.length) (r2L (r2Ev s) k d out st).1.length (r2L (r2Ev s) k d out st).2 (jc :: .rows 8 ((r2L (r2Ev s) k d out st).1.length + 1) ((r2L (r2Ev s) k d out st).1.map Ev.c) :: o')) := by
  intro d
  induction d with
  | zero =>
    intro out st jc o h1 hi
    refine ⟨o, ?_⟩
    simp only [r2L]
    exact evB_exit H b0 b1 b2 b4 b5 b7 q1 q2 q3 q4 q5 q6 q7 q8 s k _ _ _ _ (.inr (by omega))
  | succ d ih =>
    intro out st jc o h1 hi
    by_cases hc : (out.length : Int) < k ∧ st.2 = false
    · simp only [r2L, if_pos hc]
      obtain ⟨o', ho'⟩ := ih (out ++ [(r2Ev s st).1]) (r2Ev s st).2 jc (o ++ [.cells ((r2Ev s st).1.c.map .g)]) (by simp; omega) (r2Ev_iv hi)
      refine ⟨o', ?_⟩
      rw [loopE_kp _ _ _ _ _ _ (evB_stepB H b0 b1 b2 b4 b5 b7 q1 q2 q3 q4 q5 q6 q7 q8 s k hl out (by omega) st hi hc.1 hc.2 jc o), ho']
    · simp only [r2L, if_neg hc]
      exact ⟨o, evB_exit H b0 b1 b2 b4 b5 b7 q1 q2 q3 q4 q5 q6 q7 q8 s k _ _ _ _ (.inl hc)⟩
theorem evB_loop (hl : s.length ≤ 9223372036854775807) (st : R2) (hi : Iv s st) :
    ∃ v o', loopE (EvF tab) H L22_1 [0, 2, 4, 5, 6, 8] (stevB H b0 b1 b2 b4 b5 b7 q1 q2 q3 q4 q5 q6 q7 q8 s k (.g .nsl) 0 st []) =
      some (exevB H b0 b1 b2 b4 b5 b7 q1 q2 q3 q4 q5 q6 q7 q8 s k v (r2L (r2Ev s) k 31 [] st).1.length (r2L (r2Ev s) k 31 [] st).2 o') ∧
      (((r2L (r2Ev s) k 31 [] st).1 = [] ∧ v = .g .nsl ∧ o' = []) ∨ ((r2L (r2Ev s) k 31 [] st).1 ≠ [] ∧ v = .ms (H.length + 9) ((r2L (r2Ev s) k 31 [] st).1.length + 1) 8 0 (r2L (r2Ev s) k 31 [] st).1.length ∧ ∃ jc o2, o' = jc :: .rows 8 ((r2L (r2Ev s) k 31 [] st).1.length + 1) ((r2L (r2Ev s) k 31 [] st).1.map Ev.c) :: o2)) := by
  by_cases hc : (([] : List Ev).length : Int) < k ∧ st.2 = false
  · have e : r2L (r2Ev s) k 31 [] st = r2L (r2Ev s) k 30 [(r2Ev s st).1] (r2Ev s st).2 := by
      rw [r2L, if_pos hc]; rfl
    obtain ⟨o', ho'⟩ := evB_loopB H b0 b1 b2 b4 b5 b7 q1 q2 q3 q4 q5 q6 q7 q8 s k hl 30 [(r2Ev s st).1] (r2Ev s st).2 (.cells ((r2Ev s st).1.c.map .g)) [] rfl (r2Ev_iv hi)
    have hge := r2L_ge (r2Ev s) k 30 [(r2Ev s st).1] (r2Ev s st).2
    have hs := evB_stepA H b0 b1 b2 b4 b5 b7 q1 q2 q3 q4 q5 q6 q7 q8 s k hl st hi (by simpa using hc.1) hc.2
    rw [e]
    have hne : (r2L (r2Ev s) k 30 [(r2Ev s st).1] (r2Ev s st).2).1 ≠ [] := fun h0 => by rw [h0] at hge; simp at hge
    have hh := (loopE_kp (EvF tab) H L22_1 [0, 2, 4, 5, 6, 8] _ _ hs).trans ho'
    exact ⟨_, _, hh, .inr ⟨hne, rfl, _, _, rfl⟩⟩
  · have e : r2L (r2Ev s) k 31 [] st = ([], st) := by rw [r2L, if_neg hc]
    rw [e]
    exact ⟨.g .nsl, [], evB_exit H b0 b1 b2 b4 b5 b7 q1 q2 q3 q4 q5 q6 q7 q8 s k _ 0 st [] (.inl hc), .inl ⟨rfl, rfl, rfl⟩⟩
end
end Go.Proofs.Ytenndgooepdmiaa
