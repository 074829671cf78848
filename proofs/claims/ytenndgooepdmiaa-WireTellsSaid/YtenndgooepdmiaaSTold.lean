/- Bytes as replies: Told. -/
import Derived.Test.YtenndgooepdmiaaPTell
namespace Go.Proofs.Ytenndgooepdmiaa
open Go Go.AM Go.Proofs
set_option maxRecDepth 20000
set_option maxHeartbeats 2000000
set_option linter.unusedSimpArgs false
set_option linter.unusedVariables false
theorem rC_ownT (H : List Blk) (a b d : Blk) (st : RS) (o : List Blk) : (H ++ a :: b :: d :: rC st :: o)[H.length + 3]? = some (rC st) := by
  rw [List.getElem?_append_right (by omega)]; simp
theorem Told_ev (s : Bs) (hl : s.length ≤ 9223372036854775807) (H : List Blk) : EvF tab 21 [T s] H = some ⟨.tup [A (toldQ s).c, B (toldOk s)], [], []⟩ := by
  obtain ⟨ZC, eZ⟩ : ∃ b : Blk, b = .cells [I 0, I 0, I 0, I 0, I 0, I 0, B false, .ms H.length 1 6 0 0, .ms (H.length + 1) 1 8 0 0] := ⟨_, rfl⟩
  obtain ⟨v1, s1, e1⟩ : ∃ v' t', rdN (s, false) = (v', t') := ⟨(rdN (s, false)).1, (rdN (s, false)).2, rfl⟩
  have l1 := rdN_len (s, false); rw [e1] at l1; try simp only at l1
  have a1 := rn_ev (rC_ownT H (.rows 6 1 []) (.rows 8 1 []) ZC (s, false) []) (by first | omega | (simp only; omega)); rw [e1] at a1; try simp only at a1
  obtain ⟨v2, s2, e2⟩ : ∃ v' t', rdN s1 = (v', t') := ⟨(rdN s1).1, (rdN s1).2, rfl⟩
  have l2 := rdN_len s1; rw [e2] at l2; try simp only at l2
  have a2 := rn_ev (rC_ownT H (.rows 6 1 []) (.rows 8 1 []) ZC s1 []) (by first | omega | (simp only; omega)); rw [e2] at a2; try simp only at a2
  obtain ⟨v3, s3, e3⟩ : ∃ v' t', rdN s2 = (v', t') := ⟨(rdN s2).1, (rdN s2).2, rfl⟩
  have l3 := rdN_len s2; rw [e3] at l3; try simp only at l3
  have a3 := rn_ev (rC_ownT H (.rows 6 1 []) (.rows 8 1 []) ZC s2 []) (by first | omega | (simp only; omega)); rw [e3] at a3; try simp only at a3
  obtain ⟨v4, s4, e4⟩ : ∃ v' t', rdN s3 = (v', t') := ⟨(rdN s3).1, (rdN s3).2, rfl⟩
  have l4 := rdN_len s3; rw [e4] at l4; try simp only at l4
  have a4 := rn_ev (rC_ownT H (.rows 6 1 []) (.rows 8 1 []) ZC s3 []) (by first | omega | (simp only; omega)); rw [e4] at a4; try simp only at a4
  obtain ⟨v5, s5, e5⟩ : ∃ v' t', rdN s4 = (v', t') := ⟨(rdN s4).1, (rdN s4).2, rfl⟩
  have l5 := rdN_len s4; rw [e5] at l5; try simp only at l5
  have a5 := rn_ev (rC_ownT H (.rows 6 1 []) (.rows 8 1 []) ZC s4 []) (by first | omega | (simp only; omega)); rw [e5] at a5; try simp only at a5
  obtain ⟨v6, s6, e6⟩ : ∃ v' t', rdN s5 = (v', t') := ⟨(rdN s5).1, (rdN s5).2, rfl⟩
  have l6 := rdN_len s5; rw [e6] at l6; try simp only at l6
  have a6 := rn_ev (rC_ownT H (.rows 6 1 []) (.rows 8 1 []) ZC s5 []) (by first | omega | (simp only; omega)); rw [e6] at a6; try simp only at a6
  obtain ⟨v7, s7, e7⟩ : ∃ v' t', rdN s6 = (v', t') := ⟨(rdN s6).1, (rdN s6).2, rfl⟩
  have l7 := rdN_len s6; rw [e7] at l7; try simp only at l7
  have a7 := rn_ev (rC_ownT H (.rows 6 1 []) (.rows 8 1 []) ZC s6 []) (by first | omega | (simp only; omega)); rw [e7] at a7; try simp only at a7
  obtain ⟨v8, s8, e8⟩ : ∃ v' t', rdB s7 = (v', t') := ⟨(rdB s7).1, (rdB s7).2, rfl⟩
  have l8 := rdB_len s7; rw [e8] at l8; try simp only at l8
  have a8 := rb_ev (rC_ownT H (.rows 6 1 []) (.rows 8 1 []) ZC s7 []) (by first | omega | (simp only; omega)); rw [e8] at a8; try simp only at a8
  obtain ⟨v9, s9, e9⟩ : ∃ v' t', rdList 30 rdKV s8 = (v', t') := ⟨(rdList 30 rdKV s8).1, (rdList 30 rdKV s8).2, rfl⟩
  have l9 := rdList_len rdKV_len 30 s8; rw [e9] at l9; try simp only at l9
  have k9 := rdList_le rdKV 30 s8; rw [show ((30 : Nat) : Int) = 30 from rfl, e9] at k9; simp only at k9
  obtain ⟨v10, s10, e10⟩ : ∃ v' t', rdList 30 rdEv s9 = (v', t') := ⟨(rdList 30 rdEv s9).1, (rdList 30 rdEv s9).2, rfl⟩
  have l10 := rdList_len rdEv_len 30 s9; rw [e10] at l10; try simp only at l10
  have k10 := rdList_le rdEv 30 s9; rw [show ((30 : Nat) : Int) = 30 from rfl, e10] at k10; simp only at k10
  have a9 := list_ev (z := [.str [], .str [], .int .i64 0, .int .i64 0, .int .i64 0, .int .i64 0]) (g := 61) t60 (rC_ownT H (.rows 6 1 []) (.rows 8 1 []) ZC s8 [.rows 6 1 [], .rows 8 1 [], .cells [I v2, I v3, I v4, I v5, I v6, I v7, B v8, .g .nsl, .g .nsl]]) (by omega) (fun x => rfl) rfl (by omega) (fun H st h1 h2 => rkv_ev h1 h2) rdKV_len 30 (by omega)
  have a10 := list_ev (z := [.int .i64 0, .bool false, .str [], .str [], .int .i64 0, .int .i64 0, .int .i64 0, .int .i64 0]) (g := 63) t62 (rC_ownT H (.rows 6 1 []) (.rows 8 1 []) ZC s9 [.rows 6 1 [], .rows 8 1 [], .cells [I v2, I v3, I v4, I v5, I v6, I v7, B v8, .g (Sl.g 6 KV.c (slN v9)), .g .nsl]]) (by omega) (fun x => rfl) rfl (by omega) (fun H st h1 h2 => rev_ev h1 h2) rdEv_len 30 (by omega)
  have a11 := rend_ev (rC_ownT H (.rows 6 1 []) (.rows 8 1 []) ZC s10 [.rows 6 1 [], .rows 8 1 [], .cells [I v2, I v3, I v4, I v5, I v6, I v7, B v8, .g (Sl.g 6 KV.c (slN v9)), .g (Sl.g 8 Ev.c (slN v10))]])
  rw [e9] at a9
  rw [e10] at a10
  simp only at a9 a10
  have eR : rdRep (s, false) = ((v1, v2, v3, v4, v5, v6, v7, v8, v9, v10), s10) := by simp only [rdRep, seqP, e1, e2, e3, e4, e5, e6, e7, e8, e9, e10]
  have a16 := fun H => MayTell_ev (mkRep (v1, v2, v3, v4, v5, v6, v7, v8, v9, v10)) ⟨by simp only [mkRep, slN_l]; omega, by simp only [mkRep, slN_l]; omega⟩ H
  have hO : toldOk s = (!s10.2 && (decide (s10.1 = []) && (decide (v1 = 2) && repOk (mkRep (v1, v2, v3, v4, v5, v6, v7, v8, v9, v10))))) := by unfold toldOk; rw [eR]
  unfold toldQ
  rw [eR]
  simp only
  generalize repOk (mkRep (v1, v2, v3, v4, v5, v6, v7, v8, v9, v10)) = bm at a16 hO
  subst eZ
  generalize hg1 : Sl.g 6 KV.c (slN v9) = G1 at a9 a10 a11
  generalize hg2 : Sl.g 8 Ev.c (slN v10) = G2 at a10 a11
  simp only [A, mkRep, Reply.c, KVs.g, Evs.g, List.map_cons, List.map_nil, hg1, hg2] at a16
  refine EvF_walk t21 (by simp) ?_
  have hO2 : toldOk s = ((!s10.2 && decide (s10.1 = [])) && (decide (v1 = 2) && bm)) := by rw [hO, Bool.and_assoc]
  generalize (!s10.2 && decide (s10.1 = [])) = be at a11 hO2
  unfold rC at a1 a2 a3 a4 a5 a6 a7 a8 a9 a10 a11
  cases be
  · simp only [Bool.false_and] at hO2
    simp -implicitDefEqProofs [zres, hO2, repZ, A, Reply.c, a1, a2, a3, a4, a5, a6, a7, a8, a9, a10, a11]
  · by_cases h1 : v1 = 2
    · cases bm
      · simp only [Bool.true_and, Bool.and_false] at hO2
        simp -implicitDefEqProofs [zres, hO2, repZ, A, Reply.c, a1, a2, a3, a4, a5, a6, a7, a8, a9, a10, a11, a16, h1]
      · simp only [h1, decide_true, Bool.true_and] at hO2
        simp -implicitDefEqProofs [zres, hO2, A, Reply.c, mkRep, KVs.g, Evs.g, hg1, hg2, a1, a2, a3, a4, a5, a6, a7, a8, a9, a10, a11, a16, h1]
    · simp only [h1, decide_false, Bool.true_and, Bool.false_and] at hO2
      simp -implicitDefEqProofs [zres, hO2, repZ, A, Reply.c, a1, a2, a3, a4, a5, a6, a7, a8, a9, a10, a11, h1]
end Go.Proofs.Ytenndgooepdmiaa
