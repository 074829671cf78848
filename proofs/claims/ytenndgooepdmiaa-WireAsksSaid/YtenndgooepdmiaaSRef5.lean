/- Bytes as requests by the reference. -/
import Derived.Test.YtenndgooepdmiaaPRef
namespace Go.Proofs.Ytenndgooepdmiaa
open Go Go.AM Go.Proofs
set_option maxRecDepth 20000
set_option maxHeartbeats 4000000
set_option linter.unusedSimpArgs false
set_option linter.unusedVariables false
set_option linter.defProp false
section
variable (H : List Blk) (b0 b1 b2 b3 b5 b6 b7 : Blk) (q1 q2 q3 q4 q5 q6 q7 q8 q9 q10 : AV) (s : Bs) (k : Int)
theorem q_loopB (hl : s.length ≤ 9223372036854775807) : ∀ (d : Nat) (out : List Cmp) (st : R2) (jc : Blk) (o : List Blk), out.length + d = 5 → Iv s st →
    ∃ o', loopE (EvF tab) H L13_0 [0, 2, 4, 5, 6, 7] (stK H b0 b1 b2 b3 b5 b6 b7 q1 q2 q3 q4 q5 q6 q7 q8 q9 q10 s k (.ms (H.length + 10) (out.length + 1) 5 0 out.length) out.length st (jc :: .rows 5 (out.length + 1) (out.map Cmp.c) :: o)) =
      some (exK H b0 b1 b2 b3 b5 b6 b7 q1 q2 q3 q4 q5 q6 q7 q8 q9 q10 s k (.ms (H.length + 10) ((r2L (r2Cmp s) k d out st).1.length + 1) 5 0 (r2L (r2Cmp s) k d out st).1.length) (r2L (r2Cmp s) k d out st).1.length (r2L (r2Cmp s) k d out st).2 (jc :: .rows 5 ((r2L (r2Cmp s) k d out st).1.length + 1) ((r2L (r2Cmp s) k d out st).1.map Cmp.c) :: o')) := by
  intro d
  induction d with
  | zero =>
    intro out st jc o h1 hi
    refine ⟨o, ?_⟩
    simp only [r2L]
    exact q_exit H b0 b1 b2 b3 b5 b6 b7 q1 q2 q3 q4 q5 q6 q7 q8 q9 q10 s k _ _ _ _ (.inr (by omega))
  | succ d ih =>
    intro out st jc o h1 hi
    by_cases hc : (out.length : Int) < k ∧ st.2 = false
    · simp only [r2L, if_pos hc]
      obtain ⟨o', ho'⟩ := ih (out ++ [(r2Cmp s st).1]) (r2Cmp s st).2 jc (o ++ [.cells ((r2Cmp s st).1.c.map .g)]) (by simp; omega) (r2Cmp_iv hi)
      refine ⟨o', ?_⟩
      rw [loopE_kp _ _ _ _ _ _ (q_stepB H b0 b1 b2 b3 b5 b6 b7 q1 q2 q3 q4 q5 q6 q7 q8 q9 q10 s k hl out (by omega) st hi hc.1 hc.2 jc o), ho']
    · simp only [r2L, if_neg hc]
      exact ⟨o, q_exit H b0 b1 b2 b3 b5 b6 b7 q1 q2 q3 q4 q5 q6 q7 q8 q9 q10 s k _ _ _ _ (.inl hc)⟩
theorem r2L_ge {α : Type} (it : R2 → α × R2) (k : Int) : ∀ (d : Nat) (out : List α) (st : R2), out.length ≤ (r2L it k d out st).1.length := by
  intro d
  induction d with
  | zero => intro out st; simp [r2L]
  | succ d ih =>
    intro out st
    unfold r2L
    split
    · have := ih (out ++ [(it st).1]) (it st).2
      simp only [List.length_append, List.length_cons, List.length_nil] at this
      omega
    · simp
theorem q_loop (hl : s.length ≤ 9223372036854775807) (st : R2) (hi : Iv s st) :
    ∃ v o', loopE (EvF tab) H L13_0 [0, 2, 4, 5, 6, 7] (stK H b0 b1 b2 b3 b5 b6 b7 q1 q2 q3 q4 q5 q6 q7 q8 q9 q10 s k (.g .nsl) 0 st []) =
      some (exK H b0 b1 b2 b3 b5 b6 b7 q1 q2 q3 q4 q5 q6 q7 q8 q9 q10 s k v (r2L (r2Cmp s) k 5 [] st).1.length (r2L (r2Cmp s) k 5 [] st).2 o') ∧
      (((r2L (r2Cmp s) k 5 [] st).1 = [] ∧ v = .g .nsl ∧ o' = []) ∨ ((r2L (r2Cmp s) k 5 [] st).1 ≠ [] ∧ v = .ms (H.length + 10) ((r2L (r2Cmp s) k 5 [] st).1.length + 1) 5 0 (r2L (r2Cmp s) k 5 [] st).1.length ∧ ∃ jc o2, o' = jc :: .rows 5 ((r2L (r2Cmp s) k 5 [] st).1.length + 1) ((r2L (r2Cmp s) k 5 [] st).1.map Cmp.c) :: o2)) := by
  by_cases hc : (([] : List Cmp).length : Int) < k ∧ st.2 = false
  · have e : r2L (r2Cmp s) k 5 [] st = r2L (r2Cmp s) k 4 [(r2Cmp s st).1] (r2Cmp s st).2 := by
      rw [r2L, if_pos hc]; rfl
    obtain ⟨o', ho'⟩ := q_loopB H b0 b1 b2 b3 b5 b6 b7 q1 q2 q3 q4 q5 q6 q7 q8 q9 q10 s k hl 4 [(r2Cmp s st).1] (r2Cmp s st).2 (.cells ((r2Cmp s st).1.c.map .g)) [] rfl (r2Cmp_iv hi)
    have hge := r2L_ge (r2Cmp s) k 4 [(r2Cmp s st).1] (r2Cmp s st).2
    have hs := q_stepA H b0 b1 b2 b3 b5 b6 b7 q1 q2 q3 q4 q5 q6 q7 q8 q9 q10 s k hl st hi (by simpa using hc.1) hc.2
    rw [e]
    have hne : (r2L (r2Cmp s) k 4 [(r2Cmp s st).1] (r2Cmp s st).2).1 ≠ [] := fun h0 => by rw [h0] at hge; simp at hge
    have hh := (loopE_kp (EvF tab) H L13_0 [0, 2, 4, 5, 6, 7] _ _ hs).trans ho'
    exact ⟨_, _, hh, .inr ⟨hne, rfl, _, _, rfl⟩⟩
  · have e : r2L (r2Cmp s) k 5 [] st = ([], st) := by rw [r2L, if_neg hc]
    rw [e]
    exact ⟨.g .nsl, [], q_exit H b0 b1 b2 b3 b5 b6 b7 q1 q2 q3 q4 q5 q6 q7 q8 q9 q10 s k _ 0 st [] (.inl hc), .inl ⟨rfl, rfl, rfl⟩⟩
end
def r2Req (s : Bs) : R2 → RawQ × R2 := seq2 (r2N s) (seq2 (r2N s) (seq2 (r2N s) (seq2 (r2N s) (seq2 (r2B s) (seq2 (r2T s) (seq2 (r2T s) (seq2 (r2N s) (seq2 (r2N s) (seq2 (r2N s) (seq2 (r2N s) (seq2 (r2Li r2Cmp 5 s) (seq2 (r2Li r2Mut 5 s) (r2Li r2Mut 5 s)))))))))))))
def good2Req := good2N.seq (good2N.seq (good2N.seq (good2N.seq (good2B.seq (good2T.seq (good2T.seq (good2N.seq (good2N.seq (good2N.seq (good2N.seq ((good2L good2Cmp 5 (by omega)).seq ((good2L good2Mut 5 (by omega)).seq (good2L good2Mut 5 (by omega))))))))))))))
theorem ref_enc {q : Req} (h : reqOk q = true) : (r2Req (encReq q) (0, false)).1 = unReq q ∧ (r2Req (encReq q) (0, false)).2.2 = false := by
  have hk := reqOk_iff h
  obtain ⟨kk1, kk2, ht, n1, n2, n3, n4, n5, n6, i1, i2, m1, m2⟩ := hk
  obtain ⟨j1, j2⟩ := mutsOk_iff.1 m1
  obtain ⟨j3, j4⟩ := mutsOk_iff.1 m2
  have hr := good2Req (unReq q) ⟨⟨by simp [unReq], by simp [unReq]⟩, ⟨by simp only [unReq]; omega, by simp only [unReq]; omega⟩, n1, n2, trivial, by simp only [unReq]; omega, by simp only [unReq]; omega, n3, n4, n5, n6, ⟨by simp only [unReq]; omega, i2⟩, ⟨by simp only [unReq]; omega, j2⟩, ⟨by simp only [unReq]; omega, j4⟩⟩ [] []
  simp only [unReq, encN1, List.append_nil, List.nil_append] at hr
  have e : encReq q = [1] ++ (encN q.kind ++ (encN q.who ++ (encN q.seq ++ (encB q.once ++ (encS q.key ++ (encS q.value ++ (encN q.lease ++ (encN q.rev ++ (encN q.ttl ++ (encN q.token ++ ((encN q.iff.l.length ++ (q.iff.l.map encCmp).flatten) ++ ((encN q.thn.l.length ++ (q.thn.l.map encMut).flatten) ++ (encN q.els.l.length ++ (q.els.l.map encMut).flatten))))))))))))) := by
    simp only [encReq, encHead, encMuts, List.append_assoc]
  rw [← e] at hr
  have hr2 : r2Req (encReq q) (0, false) = (unReq q, ((((encReq q).length : Nat) : Int), false)) := hr
  rw [hr2]
  exact ⟨rfl, rfl⟩
def asked2Ok (s : Bs) : Bool := decide ((r2Req s (0, false)).1.1 = 1) && (!(r2Req s (0, false)).2.2 && (reqOk (mkReq (r2Req s (0, false)).1) && decide (encReq (mkReq (r2Req s (0, false)).1) = s)))
theorem asked2_eq (s : Bs) : asked2Ok s = askedOk s ∧ (askedOk s = true → mkReq (r2Req s (0, false)).1 = mkReq (rdReq (s, false)).1) := by
  cases h : askedOk s
  · refine ⟨?_, fun h => by cases h⟩
    cases h2 : asked2Ok s
    · rfl
    · unfold asked2Ok at h2
      simp only [Bool.and_eq_true, decide_eq_true_eq] at h2
      have := (asked_enc h2.2.2.1).1
      rw [h2.2.2.2, h] at this
      cases this
  · obtain ⟨h1, h2⟩ := asked_inv h
    obtain ⟨k1, k2⟩ := ref_enc h1
    rw [h2] at k1 k2
    have k3 : (r2Req s (0, false)).1.1 = 1 := by rw [k1]; rfl
    have k4 : mkReq (r2Req s (0, false)).1 = mkReq (rdReq (s, false)).1 := by
      rw [k1]
      simp only [mkReq, unReq, slN_l]
    refine ⟨?_, fun _ => k4⟩
    unfold asked2Ok
    rw [k4, k3, k2, h1, h2]
    simp
theorem Asked2_ev (s : Bs) (hl : s.length ≤ 9223372036854775807) (H : List Blk) : EvF tab 13 [T s] H = some ⟨.tup [A (askedQ s).c, B (askedOk s)], [], []⟩ := by
  obtain ⟨ZC, eZ⟩ : ∃ b : Blk, b = .cells [I 0, I 0, I 0, B false, T [], T [], I 0, I 0, I 0, I 0, .ms H.length 1 5 0 0, .ms (H.length + 1) 1 4 0 0, .ms (H.length + 2) 1 4 0 0] := ⟨_, rfl⟩
  have i0 : Iv s (0, false) := ⟨by simp, by simp⟩
  obtain ⟨v1, s1, e1⟩ : ∃ v' t', r2N s (0, false) = (v', t') := ⟨(r2N s (0, false)).1, (r2N s (0, false)).2, rfl⟩
  have i1 := (r2N_iv i0).1; rw [e1] at i1; try simp only at i1
  have a1 := r2n_ev (r2C_own H (.rows 5 1 []) (.rows 4 1 []) (.rows 4 1 []) ZC s (0, false) []) hl; rw [e1] at a1; try simp only at a1
  obtain ⟨v2, s2, e2⟩ : ∃ v' t', r2N s s1 = (v', t') := ⟨(r2N s s1).1, (r2N s s1).2, rfl⟩
  have i2 := (r2N_iv i1).1; rw [e2] at i2; try simp only at i2
  have a2 := r2n_ev (r2C_own H (.rows 5 1 []) (.rows 4 1 []) (.rows 4 1 []) ZC s s1 []) hl; rw [e2] at a2; try simp only at a2
  obtain ⟨v3, s3, e3⟩ : ∃ v' t', r2N s s2 = (v', t') := ⟨(r2N s s2).1, (r2N s s2).2, rfl⟩
  have i3 := (r2N_iv i2).1; rw [e3] at i3; try simp only at i3
  have a3 := r2n_ev (r2C_own H (.rows 5 1 []) (.rows 4 1 []) (.rows 4 1 []) ZC s s2 [.rows 5 1 [], .rows 4 1 [], .rows 4 1 [], .cells [I v2, I 0, I 0, B false, T [], T [], I 0, I 0, I 0, I 0, .g .nsl, .g .nsl, .g .nsl]]) hl; rw [e3] at a3; try simp only at a3
  obtain ⟨v4, s4, e4⟩ : ∃ v' t', r2N s s3 = (v', t') := ⟨(r2N s s3).1, (r2N s s3).2, rfl⟩
  have i4 := (r2N_iv i3).1; rw [e4] at i4; try simp only at i4
  have a4 := r2n_ev (r2C_own H (.rows 5 1 []) (.rows 4 1 []) (.rows 4 1 []) ZC s s3 [.rows 5 1 [], .rows 4 1 [], .rows 4 1 [], .cells [I v2, I v3, I 0, B false, T [], T [], I 0, I 0, I 0, I 0, .g .nsl, .g .nsl, .g .nsl]]) hl; rw [e4] at a4; try simp only at a4
  obtain ⟨v5, s5, e5⟩ : ∃ v' t', r2B s s4 = (v', t') := ⟨(r2B s s4).1, (r2B s s4).2, rfl⟩
  have i5 := r2B_iv i4; rw [e5] at i5; try simp only at i5
  have a5 := r2b_ev (r2C_own H (.rows 5 1 []) (.rows 4 1 []) (.rows 4 1 []) ZC s s4 [.rows 5 1 [], .rows 4 1 [], .rows 4 1 [], .cells [I v2, I v3, I v4, B false, T [], T [], I 0, I 0, I 0, I 0, .g .nsl, .g .nsl, .g .nsl]]) hl; rw [e5] at a5; try simp only at a5
  obtain ⟨v6, s6, e6⟩ : ∃ v' t', r2T s s5 = (v', t') := ⟨(r2T s s5).1, (r2T s s5).2, rfl⟩
  have i6 := r2T_iv i5; rw [e6] at i6; try simp only at i6
  have a6 := r2t_ev (r2C_own H (.rows 5 1 []) (.rows 4 1 []) (.rows 4 1 []) ZC s s5 [.rows 5 1 [], .rows 4 1 [], .rows 4 1 [], .cells [I v2, I v3, I v4, B v5, T [], T [], I 0, I 0, I 0, I 0, .g .nsl, .g .nsl, .g .nsl]]) hl i5; rw [e6] at a6; try simp only at a6
  obtain ⟨v7, s7, e7⟩ : ∃ v' t', r2T s s6 = (v', t') := ⟨(r2T s s6).1, (r2T s s6).2, rfl⟩
  have i7 := r2T_iv i6; rw [e7] at i7; try simp only at i7
  have a7 := r2t_ev (r2C_own H (.rows 5 1 []) (.rows 4 1 []) (.rows 4 1 []) ZC s s6 [.rows 5 1 [], .rows 4 1 [], .rows 4 1 [], .cells [I v2, I v3, I v4, B v5, T v6, T [], I 0, I 0, I 0, I 0, .g .nsl, .g .nsl, .g .nsl]]) hl i6; rw [e7] at a7; try simp only at a7
  obtain ⟨v8, s8, e8⟩ : ∃ v' t', r2N s s7 = (v', t') := ⟨(r2N s s7).1, (r2N s s7).2, rfl⟩
  have i8 := (r2N_iv i7).1; rw [e8] at i8; try simp only at i8
  have a8 := r2n_ev (r2C_own H (.rows 5 1 []) (.rows 4 1 []) (.rows 4 1 []) ZC s s7 [.rows 5 1 [], .rows 4 1 [], .rows 4 1 [], .cells [I v2, I v3, I v4, B v5, T v6, T v7, I 0, I 0, I 0, I 0, .g .nsl, .g .nsl, .g .nsl]]) hl; rw [e8] at a8; try simp only at a8
  obtain ⟨v9, s9, e9⟩ : ∃ v' t', r2N s s8 = (v', t') := ⟨(r2N s s8).1, (r2N s s8).2, rfl⟩
  have i9 := (r2N_iv i8).1; rw [e9] at i9; try simp only at i9
  have a9 := r2n_ev (r2C_own H (.rows 5 1 []) (.rows 4 1 []) (.rows 4 1 []) ZC s s8 [.rows 5 1 [], .rows 4 1 [], .rows 4 1 [], .cells [I v2, I v3, I v4, B v5, T v6, T v7, I v8, I 0, I 0, I 0, .g .nsl, .g .nsl, .g .nsl]]) hl; rw [e9] at a9; try simp only at a9
  obtain ⟨v10, s10, e10⟩ : ∃ v' t', r2N s s9 = (v', t') := ⟨(r2N s s9).1, (r2N s s9).2, rfl⟩
  have i10 := (r2N_iv i9).1; rw [e10] at i10; try simp only at i10
  have a10 := r2n_ev (r2C_own H (.rows 5 1 []) (.rows 4 1 []) (.rows 4 1 []) ZC s s9 [.rows 5 1 [], .rows 4 1 [], .rows 4 1 [], .cells [I v2, I v3, I v4, B v5, T v6, T v7, I v8, I v9, I 0, I 0, .g .nsl, .g .nsl, .g .nsl]]) hl; rw [e10] at a10; try simp only at a10
  obtain ⟨v11, s11, e11⟩ : ∃ v' t', r2N s s10 = (v', t') := ⟨(r2N s s10).1, (r2N s s10).2, rfl⟩
  have i11 := (r2N_iv i10).1; rw [e11] at i11; try simp only at i11
  have a11 := r2n_ev (r2C_own H (.rows 5 1 []) (.rows 4 1 []) (.rows 4 1 []) ZC s s10 [.rows 5 1 [], .rows 4 1 [], .rows 4 1 [], .cells [I v2, I v3, I v4, B v5, T v6, T v7, I v8, I v9, I v10, I 0, .g .nsl, .g .nsl, .g .nsl]]) hl; rw [e11] at a11; try simp only at a11
  obtain ⟨v12, s12, e12⟩ : ∃ v' t', r2N s s11 = (v', t') := ⟨(r2N s s11).1, (r2N s s11).2, rfl⟩
  have i12 := (r2N_iv i11).1; rw [e12] at i12; try simp only at i12
  have a12 := r2n_ev (r2C_own H (.rows 5 1 []) (.rows 4 1 []) (.rows 4 1 []) ZC s s11 [.rows 5 1 [], .rows 4 1 [], .rows 4 1 [], .cells [I v2, I v3, I v4, B v5, T v6, T v7, I v8, I v9, I v10, I v11, .g .nsl, .g .nsl, .g .nsl]]) hl; rw [e12] at a12; try simp only at a12
  obtain ⟨v, o1, hw, hv⟩ := q_loop H (.rows 5 1 []) (.rows 4 1 []) (.rows 4 1 []) ZC (.rows 5 1 []) (.rows 4 1 []) (.rows 4 1 []) (I v2) (I v3) (I v4) (B v5) (T v6) (T v7) (I v8) (I v9) (I v10) (I v11) s v12 hl s12 i12
  have i13 := r2L_iv (fun st h => r2Cmp_iv h) v12 5 [] s12 i12
  have le13 := r2L_le (r2Cmp s) v12 5 [] s12
  obtain ⟨L, s13, e13⟩ : ∃ v' t', r2L (r2Cmp s) v12 5 [] s12 = (v', t') := ⟨(r2L (r2Cmp s) v12 5 [] s12).1, (r2L (r2Cmp s) v12 5 [] s12).2, rfl⟩
  rw [e13] at hw hv i13 le13
  simp only at hw hv i13 le13
  obtain ⟨M1, s14, e14⟩ : ∃ v' t', r2Li r2Mut 5 s s13 = (v', t') := ⟨(r2Li r2Mut 5 s s13).1, (r2Li r2Mut 5 s s13).2, rfl⟩
  have i14 := r2L_iv (fun st h => r2Mut_iv h) (r2N s s13).1 5 [] (r2N s s13).2 (r2N_iv i13).1
  have le14 := r2L_le (r2Mut s) (r2N s s13).1 5 [] (r2N s s13).2
  rw [show r2L (r2Mut s) (r2N s s13).1 5 [] (r2N s s13).2 = (M1, s14) from e14] at i14 le14
  obtain ⟨M2, s15, e15⟩ : ∃ v' t', r2Li r2Mut 5 s s14 = (v', t') := ⟨(r2Li r2Mut 5 s s14).1, (r2Li r2Mut 5 s s14).2, rfl⟩
  have le15 := r2L_le (r2Mut s) (r2N s s14).1 5 [] (r2N s s14).2
  rw [show r2L (r2Mut s) (r2N s s14).1 5 [] (r2N s s14).2 = (M2, s15) from e15] at le15
  have a14 := r2muts_ev (r2C_own H (.rows 5 1 []) (.rows 4 1 []) (.rows 4 1 []) ZC s s13 (.rows 5 1 [] :: .rows 4 1 [] :: .rows 4 1 [] :: .cells [I v2, I v3, I v4, B v5, T v6, T v7, I v8, I v9, I v10, I v11, v, .g .nsl, .g .nsl] :: o1)) hl i13
  rw [show r2L (r2Mut s) (r2N s s13).1 5 [] (r2N s s13).2 = (M1, s14) from e14] at a14
  have a15 := r2muts_ev (r2C_own H (.rows 5 1 []) (.rows 4 1 []) (.rows 4 1 []) ZC s s14 (.rows 5 1 [] :: .rows 4 1 [] :: .rows 4 1 [] :: .cells [I v2, I v3, I v4, B v5, T v6, T v7, I v8, I v9, I v10, I v11, v, .g (Sl.g 4 Mut.c (slN M1)), .g .nsl] :: o1)) hl i14
  rw [show r2L (r2Mut s) (r2N s s14).1 5 [] (r2N s s14).2 = (M2, s15) from e15] at a15
  simp only [List.length_nil, Nat.zero_add] at le13 le14 le15 a14 a15 i14
  have eR : r2Req s (0, false) = ((v1, v2, v3, v4, v5, v6, v7, v8, v9, v10, v11, L, M1, M2), s15) := by
    have e13' : r2Li r2Cmp 5 s s11 = (L, s13) := by unfold r2Li; rw [e12]; exact e13
    simp only [r2Req, seq2, e1, e2, e3, e4, e5, e6, e7, e8, e9, e10, e11, e13', e14, e15]
  obtain ⟨hE1, hE2⟩ := asked2_eq s
  obtain ⟨qq, hqq⟩ : ∃ q, q = mkReq (v1, v2, v3, v4, v5, v6, v7, v8, v9, v10, v11, L, M1, M2) := ⟨_, rfl⟩
  have hO : askedOk s = (decide (v1 = 1) && (!s15.2 && (reqOk qq && decide (encReq qq = s)))) := by rw [← hE1]; unfold asked2Ok; rw [eR, hqq]
  rw [eR] at hE2
  simp only [← hqq] at hE2
  have hRL : RL qq := by rw [hqq]; exact ⟨by simp only [mkReq, slN_l]; omega, by simp only [mkReq, slN_l]; omega, by simp only [mkReq, slN_l]; omega⟩
  have hqc : A qq.c = .agg [I v2, I v3, I v4, B v5, T v6, T v7, I v8, I v9, I v10, I v11, .g (Sl.g 5 Cmp.c (slN L)), .g (Sl.g 4 Mut.c (slN M1)), .g (Sl.g 4 Mut.c (slN M2))] := by rw [hqq]; rfl
  unfold askedQ
  refine EvF_walk t13 (by simp) ?_
  unfold r2C at a1 a2 a3 a4 a5 a6 a7 a8 a9 a10 a11 a12 a14 a15
  unfold exK stK r2C at hw
  subst eZ
  by_cases h1 : v1 = 1
  · subst h1
    simp only [decide_true, Bool.true_and] at hO
    have a16 : ∀ o2 : List Blk, ∀ jc, (L = [] → EvF tab 11 [.agg [I v2, I v3, I v4, B v5, T v6, T v7, I v8, I v9, I v10, I v11, .g .nsl, .g (Sl.g 4 Mut.c (slN M1)), .g (Sl.g 4 Mut.c (slN M2))]] (H ++ [.rows 5 1 [], .rows 4 1 [], .rows 4 1 [], .cells [I 0, I 0, I 0, B false, T [], T [], I 0, I 0, I 0, I 0, .ms H.length 1 5 0 0, .ms (H.length + 1) 1 4 0 0, .ms (H.length + 2) 1 4 0 0], .cells [T s, I s15.1, B s15.2], .rows 5 1 [], .rows 4 1 [], .rows 4 1 [], .cells [I v2, I v3, I v4, B v5, T v6, T v7, I v8, I v9, I v10, I v11, .g .nsl, .g (Sl.g 4 Mut.c (slN M1)), .g (Sl.g 4 Mut.c (slN M2))]]) = some ⟨.tup (if reqOk qq = true then [T (encReq qq), B true] else [T [], B false]), [], []⟩) ∧
        (L ≠ [] → EvF tab 11 [.agg [I v2, I v3, I v4, B v5, T v6, T v7, I v8, I v9, I v10, I v11, .ms (H.length + 10) (L.length + 1) 5 0 L.length, .g (Sl.g 4 Mut.c (slN M1)), .g (Sl.g 4 Mut.c (slN M2))]] (H ++ .rows 5 1 [] :: .rows 4 1 [] :: .rows 4 1 [] :: .cells [I 0, I 0, I 0, B false, T [], T [], I 0, I 0, I 0, I 0, .ms H.length 1 5 0 0, .ms (H.length + 1) 1 4 0 0, .ms (H.length + 2) 1 4 0 0] :: .cells [T s, I s15.1, B s15.2] :: .rows 5 1 [] :: .rows 4 1 [] :: .rows 4 1 [] :: .cells [I v2, I v3, I v4, B v5, T v6, T v7, I v8, I v9, I v10, I v11, .ms (H.length + 10) (L.length + 1) 5 0 L.length, .g (Sl.g 4 Mut.c (slN M1)), .g (Sl.g 4 Mut.c (slN M2))] :: jc :: .rows 5 (L.length + 1) (L.map Cmp.c) :: o2) = some ⟨.tup (if reqOk qq = true then [T (encReq qq), B true] else [T [], B false]), [], []⟩) := by
      intro o2 jc
      constructor
      · intro hL
        rw [← Ask2_ev qq hRL, hqc, hL]
        rfl
      · intro hL
        have hiff : qq.iff = .of L := by
          rw [hqq]
          cases L with
          | nil => exact absurd rfl hL
          | cons x l => rfl
        rw [← Ask2m_ev qq L hRL hiff (rid := H.length + 10) (g := L.length + 1) (H := H ++ .rows 5 1 [] :: .rows 4 1 [] :: .rows 4 1 [] :: .cells [I 0, I 0, I 0, B false, T [], T [], I 0, I 0, I 0, I 0, .ms H.length 1 5 0 0, .ms (H.length + 1) 1 4 0 0, .ms (H.length + 2) 1 4 0 0] :: .cells [T s, I s15.1, B s15.2] :: .rows 5 1 [] :: .rows 4 1 [] :: .rows 4 1 [] :: .cells [I v2, I v3, I v4, B v5, T v6, T v7, I v8, I v9, I v10, I v11, .ms (H.length + 10) (L.length + 1) 5 0 L.length, .g (Sl.g 4 Mut.c (slN M1)), .g (Sl.g 4 Mut.c (slN M2))] :: jc :: .rows 5 (L.length + 1) (L.map Cmp.c) :: o2) (by rw [List.getElem?_append_right (by omega)]; simp)]
        rw [hqq]
        rfl
    generalize encReq qq = er at a16 hO
    generalize reqOk qq = b1 at a16 hO
    obtain ⟨a15', w15⟩ := s15
    rcases hv with ⟨hL, rfl, rfl⟩ | ⟨hne, rfl, jc, o2, rfl⟩
    · have a17 := (a16 [] (.hid)).1 hL
      have hz : Sl.g 5 Cmp.c (slN L) = .nsl := by rw [hL]; rfl
      rw [hz] at hqc
      clear a16
      subst hL
      simp only [List.length_nil, List.map_nil, show ((0 : Nat) : Int) = 0 from rfl] at hw
      cases w15
      · cases b1
        · simp only [Bool.false_and, Bool.and_false] at hO
          simp -implicitDefEqProofs [zres, hO, reqZ, A, Req.c, a1, a2, a3, a4, a5, a6, a7, a8, a9, a10, a11, a12, hw, a14, a15, a17]
        · by_cases he : er = s
          · subst he
            simp only [Bool.not_false, Bool.true_and, decide_true] at hO
            rw [if_pos hO, ← hE2 hO, hqc]
            simp -implicitDefEqProofs [zres, hO, a1, a2, a3, a4, a5, a6, a7, a8, a9, a10, a11, a12, hw, a14, a15, a17]
          · simp only [he, decide_false, Bool.and_false] at hO
            simp -implicitDefEqProofs [zres, hO, reqZ, A, Req.c, a1, a2, a3, a4, a5, a6, a7, a8, a9, a10, a11, a12, hw, a14, a15, a17, he]
      · simp only [Bool.not_true, Bool.false_and] at hO
        cases b1 <;> simp -implicitDefEqProofs [zres, hO, reqZ, A, Req.c, a1, a2, a3, a4, a5, a6, a7, a8, a9, a10, a11, a12, hw, a14, a15, a17]
    · have a17 := (a16 o2 jc).2 hne
      simp only [show ((0 : Nat) : Int) = 0 from rfl] at hw
      have hz : Sl.g 5 Cmp.c (slN L) = .sl 5 (L.map Cmp.c) := by
        cases L with
        | nil => exact absurd rfl hne
        | cons x l => rfl
      have htk : List.take L.length (List.map Cmp.c L) = List.map Cmp.c L := List.take_of_length_le (by simp)
      have hl0 : ¬ L.length = 0 := fun e => hne (List.eq_nil_of_length_eq_zero e)
      rw [hz] at hqc
      clear a16
      cases w15
      · cases b1
        · simp only [Bool.false_and, Bool.and_false] at hO
          simp -implicitDefEqProofs [zres, hO, reqZ, A, Req.c, a1, a2, a3, a4, a5, a6, a7, a8, a9, a10, a11, a12, hw, a14, a15, a17]
        · by_cases he : er = s
          · subst he
            simp only [Bool.not_false, Bool.true_and, decide_true] at hO
            rw [if_pos hO, ← hE2 hO, hqc]
            simp -implicitDefEqProofs [zres, hO, a1, a2, a3, a4, a5, a6, a7, a8, a9, a10, a11, a12, hw, a14, a15, a17, htk, hl0, hne]
          · simp only [he, decide_false, Bool.and_false] at hO
            simp -implicitDefEqProofs [zres, hO, reqZ, A, Req.c, a1, a2, a3, a4, a5, a6, a7, a8, a9, a10, a11, a12, hw, a14, a15, a17, he]
      · simp only [Bool.not_true, Bool.false_and] at hO
        cases b1 <;> simp -implicitDefEqProofs [zres, hO, reqZ, A, Req.c, a1, a2, a3, a4, a5, a6, a7, a8, a9, a10, a11, a12, hw, a14, a15, a17]
  · simp only [h1, decide_false, Bool.false_and] at hO
    simp -implicitDefEqProofs [zres, hO, reqZ, A, Req.c, a1, h1]
end Go.Proofs.Ytenndgooepdmiaa
