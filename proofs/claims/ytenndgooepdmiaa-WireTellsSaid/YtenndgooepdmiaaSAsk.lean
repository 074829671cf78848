/- Bytes as requests: Asked. -/
import Derived.Test.YtenndgooepdmiaaSRead3
namespace Go.Proofs.Ytenndgooepdmiaa
open Go Go.AM Go.Proofs
set_option maxRecDepth 20000
set_option maxHeartbeats 2000000
set_option linter.unusedSimpArgs false
set_option linter.unusedVariables false
theorem rdL_le {α : Type} (it : RS → α × RS) : ∀ (k : Nat) (out : List α) (st : RS), (rdL it k out st).1.length ≤ out.length + k := by
  intro k
  induction k with
  | zero => intro out st; simp [rdL]
  | succ k ih =>
    intro out st
    unfold rdL
    split
    · simp
    · have := ih (out ++ [(it st).1]) (it st).2
      simp only [List.length_append, List.length_cons, List.length_nil] at this
      omega
theorem rdList_le {α : Type} (it : RS → α × RS) (most : Nat) (st : RS) : (rdList most it st).1.length ≤ most := by
  unfold rdList
  have hb := rdN_bd st
  by_cases h : (most : Int) < (rdN st).1
  · obtain ⟨k, hk⟩ : ∃ k : Nat, (rdN st).1.toNat = k + 1 := ⟨(rdN st).1.toNat - 1, by omega⟩
    rw [hk]; simp [rdL, h]
  · have := rdL_le it (rdN st).1.toNat [] ((rdN st).2.1, (rdN st).2.2 || decide ((most : Int) < (rdN st).1))
    simp only [List.length_nil] at this
    omega
theorem rdL_len {α : Type} {it : RS → α × RS} (hlen : ∀ st, (it st).2.1.length ≤ st.1.length) : ∀ (k : Nat) (out : List α) (st : RS), (rdL it k out st).2.1.length ≤ st.1.length := by
  intro k
  induction k with
  | zero => intro out st; simp [rdL]
  | succ k ih =>
    intro out st
    unfold rdL
    split
    · simp
    · exact Nat.le_trans (ih _ _) (hlen st)
theorem rdList_len {α : Type} {it : RS → α × RS} (hlen : ∀ st, (it st).2.1.length ≤ st.1.length) (most : Int) (st : RS) : (rdList most it st).2.1.length ≤ st.1.length := by
  unfold rdList
  exact Nat.le_trans (rdL_len hlen _ _ _) (rdN_len st)
theorem rdCmp_len (st : RS) : (rdCmp st).2.1.length ≤ st.1.length := by
  simp only [rdCmp, seqP]
  have l1 := rdT_len st
  have l2 := rdN_len (rdT st).2
  have l3 := rdN_len (rdN (rdT st).2).2
  have l4 := rdN_len (rdN (rdN (rdT st).2).2).2
  have l5 := rdT_len (rdN (rdN (rdN (rdT st).2).2).2).2
  omega
theorem rdMut_len (st : RS) : (rdMut st).2.1.length ≤ st.1.length := by
  simp only [rdMut, seqP]
  have l1 := rdB_len st
  have l2 := rdT_len (rdB st).2
  have l3 := rdT_len (rdT (rdB st).2).2
  have l4 := rdN_len (rdT (rdT (rdB st).2).2).2
  omega
theorem rdKV_len (st : RS) : (rdKV st).2.1.length ≤ st.1.length := by
  simp only [rdKV, seqP]
  have l1 := rdT_len st
  have l2 := rdT_len (rdT st).2
  have l3 := rdN_len (rdT (rdT st).2).2
  have l4 := rdN_len (rdN (rdT (rdT st).2).2).2
  have l5 := rdN_len (rdN (rdN (rdT (rdT st).2).2).2).2
  have l6 := rdN_len (rdN (rdN (rdN (rdT (rdT st).2).2).2).2).2
  omega
theorem rdEv_len (st : RS) : (rdEv st).2.1.length ≤ st.1.length := by
  simp only [rdEv, seqP]
  have l1 := rdN_len st
  have l2 := rdB_len (rdN st).2
  have l3 := rdKV_len (rdB (rdN st).2).2
  omega
def reqZ : Req := ⟨0, 0, 0, false, [], [], 0, 0, 0, 0, .nil, .nil, .nil⟩
def askedQ (s : Bs) : Req := if askedOk s = true then mkReq (rdReq (s, false)).1 else reqZ
theorem rC_own (H : List Blk) (a b c d : Blk) (st : RS) (o : List Blk) : (H ++ a :: b :: c :: d :: rC st :: o)[H.length + 4]? = some (rC st) := by
  rw [List.getElem?_append_right (by omega)]; simp
theorem Asked_ev (s : Bs) (hl : s.length ≤ 9223372036854775807) (H : List Blk) : EvF tab 12 [T s] H = some ⟨.tup [A (askedQ s).c, B (askedOk s)], [], []⟩ := by
  obtain ⟨ZC, eZ⟩ : ∃ b : Blk, b = .cells [I 0, I 0, I 0, B false, T [], T [], I 0, I 0, I 0, I 0, .ms H.length 1 5 0 0, .ms (H.length + 1) 1 4 0 0, .ms (H.length + 2) 1 4 0 0] := ⟨_, rfl⟩
  obtain ⟨v1, s1, e1⟩ : ∃ v' t', rdN (s, false) = (v', t') := ⟨(rdN (s, false)).1, (rdN (s, false)).2, rfl⟩
  have l1 := rdN_len (s, false); rw [e1] at l1; try simp only at l1
  have a1 := rn_ev (rC_own H (.rows 5 1 []) (.rows 4 1 []) (.rows 4 1 []) ZC (s, false) []) (by first | omega | (simp only; omega)); rw [e1] at a1; try simp only at a1
  obtain ⟨v2, s2, e2⟩ : ∃ v' t', rdN s1 = (v', t') := ⟨(rdN s1).1, (rdN s1).2, rfl⟩
  have l2 := rdN_len s1; rw [e2] at l2; try simp only at l2
  have a2 := rn_ev (rC_own H (.rows 5 1 []) (.rows 4 1 []) (.rows 4 1 []) ZC s1 []) (by first | omega | (simp only; omega)); rw [e2] at a2; try simp only at a2
  obtain ⟨v3, s3, e3⟩ : ∃ v' t', rdN s2 = (v', t') := ⟨(rdN s2).1, (rdN s2).2, rfl⟩
  have l3 := rdN_len s2; rw [e3] at l3; try simp only at l3
  have a3 := rn_ev (rC_own H (.rows 5 1 []) (.rows 4 1 []) (.rows 4 1 []) ZC s2 []) (by first | omega | (simp only; omega)); rw [e3] at a3; try simp only at a3
  obtain ⟨v4, s4, e4⟩ : ∃ v' t', rdN s3 = (v', t') := ⟨(rdN s3).1, (rdN s3).2, rfl⟩
  have l4 := rdN_len s3; rw [e4] at l4; try simp only at l4
  have a4 := rn_ev (rC_own H (.rows 5 1 []) (.rows 4 1 []) (.rows 4 1 []) ZC s3 []) (by first | omega | (simp only; omega)); rw [e4] at a4; try simp only at a4
  obtain ⟨v5, s5, e5⟩ : ∃ v' t', rdB s4 = (v', t') := ⟨(rdB s4).1, (rdB s4).2, rfl⟩
  have l5 := rdB_len s4; rw [e5] at l5; try simp only at l5
  have a5 := rb_ev (rC_own H (.rows 5 1 []) (.rows 4 1 []) (.rows 4 1 []) ZC s4 []) (by first | omega | (simp only; omega)); rw [e5] at a5; try simp only at a5
  obtain ⟨v6, s6, e6⟩ : ∃ v' t', rdT s5 = (v', t') := ⟨(rdT s5).1, (rdT s5).2, rfl⟩
  have l6 := rdT_len s5; rw [e6] at l6; try simp only at l6
  have a6 := rt_ev (rC_own H (.rows 5 1 []) (.rows 4 1 []) (.rows 4 1 []) ZC s5 []) (by first | omega | (simp only; omega)); rw [e6] at a6; try simp only at a6
  obtain ⟨v7, s7, e7⟩ : ∃ v' t', rdT s6 = (v', t') := ⟨(rdT s6).1, (rdT s6).2, rfl⟩
  have l7 := rdT_len s6; rw [e7] at l7; try simp only at l7
  have a7 := rt_ev (rC_own H (.rows 5 1 []) (.rows 4 1 []) (.rows 4 1 []) ZC s6 []) (by first | omega | (simp only; omega)); rw [e7] at a7; try simp only at a7
  obtain ⟨v8, s8, e8⟩ : ∃ v' t', rdN s7 = (v', t') := ⟨(rdN s7).1, (rdN s7).2, rfl⟩
  have l8 := rdN_len s7; rw [e8] at l8; try simp only at l8
  have a8 := rn_ev (rC_own H (.rows 5 1 []) (.rows 4 1 []) (.rows 4 1 []) ZC s7 []) (by first | omega | (simp only; omega)); rw [e8] at a8; try simp only at a8
  obtain ⟨v9, s9, e9⟩ : ∃ v' t', rdN s8 = (v', t') := ⟨(rdN s8).1, (rdN s8).2, rfl⟩
  have l9 := rdN_len s8; rw [e9] at l9; try simp only at l9
  have a9 := rn_ev (rC_own H (.rows 5 1 []) (.rows 4 1 []) (.rows 4 1 []) ZC s8 []) (by first | omega | (simp only; omega)); rw [e9] at a9; try simp only at a9
  obtain ⟨v10, s10, e10⟩ : ∃ v' t', rdN s9 = (v', t') := ⟨(rdN s9).1, (rdN s9).2, rfl⟩
  have l10 := rdN_len s9; rw [e10] at l10; try simp only at l10
  have a10 := rn_ev (rC_own H (.rows 5 1 []) (.rows 4 1 []) (.rows 4 1 []) ZC s9 []) (by first | omega | (simp only; omega)); rw [e10] at a10; try simp only at a10
  obtain ⟨v11, s11, e11⟩ : ∃ v' t', rdN s10 = (v', t') := ⟨(rdN s10).1, (rdN s10).2, rfl⟩
  have l11 := rdN_len s10; rw [e11] at l11; try simp only at l11
  have a11 := rn_ev (rC_own H (.rows 5 1 []) (.rows 4 1 []) (.rows 4 1 []) ZC s10 []) (by first | omega | (simp only; omega)); rw [e11] at a11; try simp only at a11
  obtain ⟨v12, s12, e12⟩ : ∃ v' t', rdList 4 rdCmp s11 = (v', t') := ⟨(rdList 4 rdCmp s11).1, (rdList 4 rdCmp s11).2, rfl⟩
  have l12 := rdList_len rdCmp_len 4 s11; rw [e12] at l12; try simp only at l12
  have k12 := rdList_le rdCmp 4 s11; rw [show ((4 : Nat) : Int) = 4 from rfl, e12] at k12; simp only at k12
  obtain ⟨v13, s13, e13⟩ : ∃ v' t', rdList 4 rdMut s12 = (v', t') := ⟨(rdList 4 rdMut s12).1, (rdList 4 rdMut s12).2, rfl⟩
  have l13 := rdList_len rdMut_len 4 s12; rw [e13] at l13; try simp only at l13
  have k13 := rdList_le rdMut 4 s12; rw [show ((4 : Nat) : Int) = 4 from rfl, e13] at k13; simp only at k13
  obtain ⟨v14, s14, e14⟩ : ∃ v' t', rdList 4 rdMut s13 = (v', t') := ⟨(rdList 4 rdMut s13).1, (rdList 4 rdMut s13).2, rfl⟩
  have l14 := rdList_len rdMut_len 4 s13; rw [e14] at l14; try simp only at l14
  have k14 := rdList_le rdMut 4 s13; rw [show ((4 : Nat) : Int) = 4 from rfl, e14] at k14; simp only at k14
  have a12 := list_ev (z := [.str [], .int .i64 0, .int .i64 0, .int .i64 0, .str []]) (g := 40) t39 (rC_own H (.rows 5 1 []) (.rows 4 1 []) (.rows 4 1 []) ZC s11 [.rows 5 1 [], .rows 4 1 [], .rows 4 1 [], .cells [I v2, I v3, I v4, B v5, T v6, T v7, I v8, I v9, I v10, I v11, .g .nsl, .g .nsl, .g .nsl]]) (by omega) (fun x => rfl) rfl (by omega) (fun H st h1 h2 => rcmp_ev h1 h2) rdCmp_len 4 (by omega)
  have a13 := list_ev (z := [.bool false, .str [], .str [], .int .i64 0]) (g := 42) t41 (rC_own H (.rows 5 1 []) (.rows 4 1 []) (.rows 4 1 []) ZC s12 [.rows 5 1 [], .rows 4 1 [], .rows 4 1 [], .cells [I v2, I v3, I v4, B v5, T v6, T v7, I v8, I v9, I v10, I v11, .g (Sl.g 5 Cmp.c (slN v12)), .g .nsl, .g .nsl]]) (by omega) (fun x => rfl) rfl (by omega) (fun H st h1 h2 => rmut_ev h1 h2) rdMut_len 4 (by omega)
  have a14 := list_ev (z := [.bool false, .str [], .str [], .int .i64 0]) (g := 42) t41 (rC_own H (.rows 5 1 []) (.rows 4 1 []) (.rows 4 1 []) ZC s13 [.rows 5 1 [], .rows 4 1 [], .rows 4 1 [], .cells [I v2, I v3, I v4, B v5, T v6, T v7, I v8, I v9, I v10, I v11, .g (Sl.g 5 Cmp.c (slN v12)), .g (Sl.g 4 Mut.c (slN v13)), .g .nsl]]) (by omega) (fun x => rfl) rfl (by omega) (fun H st h1 h2 => rmut_ev h1 h2) rdMut_len 4 (by omega)
  have a15 := rend_ev (rC_own H (.rows 5 1 []) (.rows 4 1 []) (.rows 4 1 []) ZC s14 [.rows 5 1 [], .rows 4 1 [], .rows 4 1 [], .cells [I v2, I v3, I v4, B v5, T v6, T v7, I v8, I v9, I v10, I v11, .g (Sl.g 5 Cmp.c (slN v12)), .g (Sl.g 4 Mut.c (slN v13)), .g (Sl.g 4 Mut.c (slN v14))]])
  rw [e12] at a12
  rw [e13] at a13
  rw [e14] at a14
  simp only at a12 a13 a14
  have eR : rdReq (s, false) = ((v1, v2, v3, v4, v5, v6, v7, v8, v9, v10, v11, v12, v13, v14), s14) := by simp only [rdReq, seqP, e1, e2, e3, e4, e5, e6, e7, e8, e9, e10, e11, e12, e13, e14]
  have a16 := fun H => MayAsk_ev (mkReq (v1, v2, v3, v4, v5, v6, v7, v8, v9, v10, v11, v12, v13, v14)) ⟨by simp only [mkReq, slN_l]; omega, by simp only [mkReq, slN_l]; omega, by simp only [mkReq, slN_l]; omega⟩ H
  have hO : askedOk s = (!s14.2 && (decide (s14.1 = []) && (decide (v1 = 1) && reqOk (mkReq (v1, v2, v3, v4, v5, v6, v7, v8, v9, v10, v11, v12, v13, v14))))) := by unfold askedOk; rw [eR]
  unfold askedQ
  rw [eR]
  simp only
  generalize reqOk (mkReq (v1, v2, v3, v4, v5, v6, v7, v8, v9, v10, v11, v12, v13, v14)) = bm at a16 hO
  subst eZ
  generalize hg1 : Sl.g 5 Cmp.c (slN v12) = G1 at a12 a13 a14 a15
  generalize hg2 : Sl.g 4 Mut.c (slN v13) = G2 at a13 a14 a15
  generalize hg3 : Sl.g 4 Mut.c (slN v14) = G3 at a14 a15
  simp only [A, mkReq, Req.c, Cmps.g, Muts.g, List.map_cons, List.map_nil, hg1, hg2, hg3] at a16
  refine EvF_walk t12 (by simp) ?_
  have hO2 : askedOk s = ((!s14.2 && decide (s14.1 = [])) && (decide (v1 = 1) && bm)) := by rw [hO, Bool.and_assoc]
  generalize (!s14.2 && decide (s14.1 = [])) = be at a15 hO2
  unfold rC at a1 a2 a3 a4 a5 a6 a7 a8 a9 a10 a11 a12 a13 a14 a15
  cases be
  · simp only [Bool.false_and] at hO2
    simp -implicitDefEqProofs [zres, hO2, reqZ, A, Req.c, a1, a2, a3, a4, a5, a6, a7, a8, a9, a10, a11, a12, a13, a14, a15]
  · by_cases h1 : v1 = 1
    · cases bm
      · simp only [Bool.true_and, Bool.and_false] at hO2
        simp -implicitDefEqProofs [zres, hO2, reqZ, A, Req.c, a1, a2, a3, a4, a5, a6, a7, a8, a9, a10, a11, a12, a13, a14, a15, a16, h1]
      · simp only [h1, decide_true, Bool.true_and] at hO2
        simp -implicitDefEqProofs [zres, hO2, A, Req.c, mkReq, Cmps.g, Muts.g, hg1, hg2, hg3, a1, a2, a3, a4, a5, a6, a7, a8, a9, a10, a11, a12, a13, a14, a15, a16, h1]
    · simp only [h1, decide_false, Bool.true_and, Bool.false_and] at hO2
      simp -implicitDefEqProofs [zres, hO2, reqZ, A, Req.c, a1, a2, a3, a4, a5, a6, a7, a8, a9, a10, a11, a12, a13, a14, a15, h1]
end Go.Proofs.Ytenndgooepdmiaa
