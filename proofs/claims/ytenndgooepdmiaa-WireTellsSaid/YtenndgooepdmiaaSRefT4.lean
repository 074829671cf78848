/- Bytes as replies by the reference (printed by wip/tools/gen_reft4.py). -/
import Derived.Test.YtenndgooepdmiaaSRefT3
import Derived.Test.YtenndgooepdmiaaPRef
import Derived.Test.YtenndgooepdmiaaPTell
namespace Go.Proofs.Ytenndgooepdmiaa
open Go Go.AM Go.Proofs
set_option maxRecDepth 20000
set_option maxHeartbeats 8000000
set_option linter.unusedSimpArgs false
set_option linter.unusedVariables false
set_option linter.defProp false
def r2Rep (s : Bs) : R2 → RawR × R2 := seq2 (r2N s) (seq2 (r2N s) (seq2 (r2N s) (seq2 (r2N s) (seq2 (r2N s) (seq2 (r2N s) (seq2 (r2N s) (seq2 (r2B s) (seq2 (r2Li r2KV 31 s) (r2Li r2Ev 31 s)))))))))
def good2Rep := good2N.seq (good2N.seq (good2N.seq (good2N.seq (good2N.seq (good2N.seq (good2N.seq (good2B.seq ((good2L good2KV 31 (by omega)).seq (good2L good2Ev 31 (by omega))))))))))
theorem refT_enc {q : Reply} (h : repOk q = true) : (r2Rep (encTell q) (0, false)).1 = unRep q ∧ (r2Rep (encTell q) (0, false)).2.2 = false := by
  obtain ⟨kk1, kk2, n1, n2, n3, n4, n5, i1, i2, j1, j2⟩ := repOk_iff h
  have hr := good2Rep (unRep q) ⟨⟨by simp [unRep], by simp [unRep]⟩, ⟨by simp only [unRep]; omega, by simp only [unRep]; omega⟩, n1, n2, n3, n4, n5, trivial, ⟨by simp only [unRep]; omega, i2⟩, ⟨by simp only [unRep]; omega, j2⟩⟩ [] []
  simp only [unRep, encN2, List.append_nil, List.nil_append, List.length_nil] at hr
  have e : encTell q = [2] ++ (encN q.code ++ (encN q.who ++ (encN q.seq ++ (encN q.rev ++ (encN q.lease ++ (encN q.ttl ++ (encB q.yes ++ ((encN q.kvs.l.length ++ (q.kvs.l.map encKV).flatten) ++ (encN q.events.l.length ++ (q.events.l.map encEv).flatten))))))))) := by
    simp only [encTell, encTHead, List.append_assoc]
  rw [← e] at hr
  unfold r2Rep unRep
  rw [show ((0 : Nat) : Int) = 0 from rfl] at hr
  exact ⟨congrArg Prod.fst hr, congrArg (fun x => x.2.2) hr⟩
def told2Ok (s : Bs) : Bool := decide ((r2Rep s (0, false)).1.1 = 2) && (!(r2Rep s (0, false)).2.2 && (repOk (mkRep (r2Rep s (0, false)).1) && decide (encTell (mkRep (r2Rep s (0, false)).1) = s)))
theorem told2_eq (s : Bs) : told2Ok s = toldOk s ∧ (toldOk s = true → mkRep (r2Rep s (0, false)).1 = mkRep (rdRep (s, false)).1) := by
  cases h : toldOk s
  · refine ⟨?_, fun h => by simp at h⟩
    cases h2 : told2Ok s
    · rfl
    · unfold told2Ok at h2
      simp only [Bool.and_eq_true, decide_eq_true_eq, Bool.not_eq_true'] at h2
      obtain ⟨h3, h4, h5, h6⟩ := h2
      have k := (told_enc h5).1
      rw [h6, h] at k
      simp at k
  · obtain ⟨h1, h2⟩ := told_inv h
    obtain ⟨k1, k2⟩ := refT_enc h1
    rw [h2] at k1 k2
    have k3 : (r2Rep s (0, false)).1.1 = 2 := by rw [k1]; rfl
    have k4 : mkRep (r2Rep s (0, false)).1 = mkRep (rdRep (s, false)).1 := by
      rw [k1]
      simp only [mkRep, unRep, slN_l]
    refine ⟨?_, fun _ => k4⟩
    unfold told2Ok
    rw [k4, k3, k2, h1, h2]
    simp
theorem slN_g {α : Type} {n : Nat} {c : α → List GV} {L : List α} (h : L ≠ []) : Sl.g n c (slN L) = .sl n (L.map c) := by
  cases L with
  | nil => exact absurd rfl h
  | cons x l => rfl
theorem Told2_ev (s : Bs) (hl : s.length ≤ 9223372036854775807) (H : List Blk) : EvF tab 22 [T s] H = some ⟨.tup [A (toldQ s).c, B (toldOk s)], [], []⟩ := by
  obtain ⟨ZC, eZ⟩ : ∃ b : Blk, b = .cells [I 0, I 0, I 0, I 0, I 0, I 0, B false, .ms H.length 1 6 0 0, .ms (H.length + 1) 1 8 0 0] := ⟨_, rfl⟩
  have i0 : Iv s (0, false) := ⟨by simp, by simp⟩
  obtain ⟨v1, s1, e1⟩ : ∃ v' t', r2N s (0, false) = (v', t') := ⟨(r2N s (0, false)).1, (r2N s (0, false)).2, rfl⟩
  have i1 := (r2N_iv i0).1; rw [e1] at i1; try simp only at i1
  have a1 := r2n_ev (r2C_ownT H (.rows 6 1 []) (.rows 8 1 []) ZC s (0, false) []) hl; rw [e1] at a1; try simp only at a1
  obtain ⟨v2, s2, e2⟩ : ∃ v' t', r2N s s1 = (v', t') := ⟨(r2N s s1).1, (r2N s s1).2, rfl⟩
  have i2 := (r2N_iv i1).1; rw [e2] at i2; try simp only at i2
  have a2 := r2n_ev (r2C_ownT H (.rows 6 1 []) (.rows 8 1 []) ZC s s1 []) hl; rw [e2] at a2; try simp only at a2
  obtain ⟨v3, s3, e3⟩ : ∃ v' t', r2N s s2 = (v', t') := ⟨(r2N s s2).1, (r2N s s2).2, rfl⟩
  have i3 := (r2N_iv i2).1; rw [e3] at i3; try simp only at i3
  have a3 := r2n_ev (r2C_ownT H (.rows 6 1 []) (.rows 8 1 []) ZC s s2 [.rows 6 1 [], .rows 8 1 [], .cells [I v2, I 0, I 0, I 0, I 0, I 0, B false, .g .nsl, .g .nsl]]) hl; rw [e3] at a3; try simp only at a3
  obtain ⟨v4, s4, e4⟩ : ∃ v' t', r2N s s3 = (v', t') := ⟨(r2N s s3).1, (r2N s s3).2, rfl⟩
  have i4 := (r2N_iv i3).1; rw [e4] at i4; try simp only at i4
  have a4 := r2n_ev (r2C_ownT H (.rows 6 1 []) (.rows 8 1 []) ZC s s3 [.rows 6 1 [], .rows 8 1 [], .cells [I v2, I v3, I 0, I 0, I 0, I 0, B false, .g .nsl, .g .nsl]]) hl; rw [e4] at a4; try simp only at a4
  obtain ⟨v5, s5, e5⟩ : ∃ v' t', r2N s s4 = (v', t') := ⟨(r2N s s4).1, (r2N s s4).2, rfl⟩
  have i5 := (r2N_iv i4).1; rw [e5] at i5; try simp only at i5
  have a5 := r2n_ev (r2C_ownT H (.rows 6 1 []) (.rows 8 1 []) ZC s s4 [.rows 6 1 [], .rows 8 1 [], .cells [I v2, I v3, I v4, I 0, I 0, I 0, B false, .g .nsl, .g .nsl]]) hl; rw [e5] at a5; try simp only at a5
  obtain ⟨v6, s6, e6⟩ : ∃ v' t', r2N s s5 = (v', t') := ⟨(r2N s s5).1, (r2N s s5).2, rfl⟩
  have i6 := (r2N_iv i5).1; rw [e6] at i6; try simp only at i6
  have a6 := r2n_ev (r2C_ownT H (.rows 6 1 []) (.rows 8 1 []) ZC s s5 [.rows 6 1 [], .rows 8 1 [], .cells [I v2, I v3, I v4, I v5, I 0, I 0, B false, .g .nsl, .g .nsl]]) hl; rw [e6] at a6; try simp only at a6
  obtain ⟨v7, s7, e7⟩ : ∃ v' t', r2N s s6 = (v', t') := ⟨(r2N s s6).1, (r2N s s6).2, rfl⟩
  have i7 := (r2N_iv i6).1; rw [e7] at i7; try simp only at i7
  have a7 := r2n_ev (r2C_ownT H (.rows 6 1 []) (.rows 8 1 []) ZC s s6 [.rows 6 1 [], .rows 8 1 [], .cells [I v2, I v3, I v4, I v5, I v6, I 0, B false, .g .nsl, .g .nsl]]) hl; rw [e7] at a7; try simp only at a7
  obtain ⟨v8, s8, e8⟩ : ∃ v' t', r2B s s7 = (v', t') := ⟨(r2B s s7).1, (r2B s s7).2, rfl⟩
  have i8 := r2B_iv i7; rw [e8] at i8; try simp only at i8
  have a8 := r2b_ev (r2C_ownT H (.rows 6 1 []) (.rows 8 1 []) ZC s s7 [.rows 6 1 [], .rows 8 1 [], .cells [I v2, I v3, I v4, I v5, I v6, I v7, B false, .g .nsl, .g .nsl]]) hl; rw [e8] at a8; try simp only at a8
  obtain ⟨n9, s9, e9⟩ : ∃ v' t', r2N s s8 = (v', t') := ⟨(r2N s s8).1, (r2N s s8).2, rfl⟩
  have i9 := (r2N_iv i8).1; rw [e9] at i9; try simp only at i9
  have a9 := r2n_ev (r2C_ownT H (.rows 6 1 []) (.rows 8 1 []) ZC s s8 [.rows 6 1 [], .rows 8 1 [], .cells [I v2, I v3, I v4, I v5, I v6, I v7, B v8, .g .nsl, .g .nsl]]) hl; rw [e9] at a9; try simp only at a9
  obtain ⟨va, oa, hw, hv⟩ := kvL_loop H (.rows 6 1 []) (.rows 8 1 []) ZC (.rows 6 1 []) (.rows 8 1 []) (I v2) (I v3) (I v4) (I v5) (I v6) (I v7) (B v8) s n9 hl s9 i9
  have i10 := r2L_iv (fun st h => r2KV_iv h) n9 31 [] s9 i9
  have le10 := r2L_le (r2KV s) n9 31 [] s9
  obtain ⟨L, s10, e10⟩ : ∃ v' t', r2L (r2KV s) n9 31 [] s9 = (v', t') := ⟨(r2L (r2KV s) n9 31 [] s9).1, (r2L (r2KV s) n9 31 [] s9).2, rfl⟩
  rw [e10] at hw hv i10 le10
  simp only at hw hv i10 le10
  obtain ⟨n11, s11, e11⟩ : ∃ v' t', r2N s s10 = (v', t') := ⟨(r2N s s10).1, (r2N s s10).2, rfl⟩
  have i11 := (r2N_iv i10).1; rw [e11] at i11; try simp only at i11
  have a11 := r2n_ev (r2C_ownT H (.rows 6 1 []) (.rows 8 1 []) ZC s s10 (.rows 6 1 [] :: .rows 8 1 [] :: .cells [I v2, I v3, I v4, I v5, I v6, I v7, B v8, va, .g .nsl] :: oa)) hl; rw [e11] at a11; try simp only at a11
  have le12 := r2L_le (r2Ev s) n11 31 [] s11
  obtain ⟨M, s12, e12⟩ : ∃ v' t', r2L (r2Ev s) n11 31 [] s11 = (v', t') := ⟨(r2L (r2Ev s) n11 31 [] s11).1, (r2L (r2Ev s) n11 31 [] s11).2, rfl⟩
  rw [e12] at le12
  simp only [List.length_nil, Nat.zero_add] at le10 le12
  have eR : r2Rep s (0, false) = ((v1, v2, v3, v4, v5, v6, v7, v8, L, M), s12) := by
    have e10' : r2Li r2KV 31 s s8 = (L, s10) := by unfold r2Li; rw [e9]; exact e10
    have e12' : r2Li r2Ev 31 s s10 = (M, s12) := by unfold r2Li; rw [e11]; exact e12
    simp only [r2Rep, seq2, e1, e2, e3, e4, e5, e6, e7, e8, e10', e12']
  obtain ⟨hE1, hE2⟩ := told2_eq s
  obtain ⟨qq, hqq⟩ : ∃ q, q = mkRep (v1, v2, v3, v4, v5, v6, v7, v8, L, M) := ⟨_, rfl⟩
  have hO : toldOk s = (decide (v1 = 2) && (!s12.2 && (repOk qq && decide (encTell qq = s)))) := by rw [← hE1]; unfold told2Ok; rw [eR, hqq]
  rw [eR] at hE2
  simp only [← hqq] at hE2
  have hL1 : qq.kvs.l = L := by rw [hqq]; simp only [mkRep, slN_l]
  have hM1 : qq.events.l = M := by rw [hqq]; simp only [mkRep, slN_l]
  have hRP : RP qq := by unfold RP; rw [hL1, hM1]; exact ⟨by omega, by omega⟩
  have hqc : A qq.c = .agg [I v2, I v3, I v4, I v5, I v6, I v7, B v8, .g (Sl.g 6 KV.c (slN L)), .g (Sl.g 8 Ev.c (slN M))] := by rw [hqq]; rfl
  have hT := fun (v1 v2 : AV) (H : List Blk) (h1 : Rp 6 KV.c H v1 L) (h2 : Rp 8 Ev.c H v2 M) => Tell2_ev qq hRP (H := H) (v1 := v1) (v2 := v2) (by rw [hL1]; exact h1) (by rw [hM1]; exact h2)
  have hrc : ∀ va vb, rc qq va vb = [I v2, I v3, I v4, I v5, I v6, I v7, B v8, va, vb] := fun va vb => by rw [hqq]; rfl
  simp only [hrc] at hT
  unfold toldQ
  refine EvF_walk t22 (by simp) ?_
  unfold r2C at a1 a2 a3 a4 a5 a6 a7 a8 a9 a11
  by_cases h1 : v1 = 2
  · subst h1
    simp only [decide_true, Bool.true_and] at hO
    generalize encTell qq = er at hT hO
    generalize repOk qq = b1 at hT hO
    obtain ⟨a12', w12⟩ := s12
    rcases hv with ⟨hL0, rfl, rfl⟩ | ⟨hL0, rfl, rfl⟩
    · obtain ⟨vb, ob, hw2, hv2⟩ := evA_loop H (.rows 6 1 []) (.rows 8 1 []) ZC (.rows 6 1 []) (.rows 8 1 []) (I v2) (I v3) (I v4) (I v5) (I v6) (I v7) (B v8) (.g .nsl) s n11 hl s11 i11
      rw [e12] at hw2 hv2
      simp only at hw2 hv2
      unfold exkvL stkvL r2C at hw
      unfold exevA stevA r2C at hw2
      rcases hv2 with ⟨hM0, rfl, rfl⟩ | ⟨hM0, rfl, jc, o2, rfl⟩
      · clear hE1
        have a17 := hT (.g .nsl) (.g .nsl) (H ++ .rows 6 1 [] :: .rows 8 1 [] :: ZC :: .cells [T s, I a12', B w12] :: .rows 6 1 [] :: .rows 8 1 [] :: .cells [I v2, I v3, I v4, I v5, I v6, I v7, B v8, .g .nsl, .g .nsl] :: []) (.inl ⟨hL0, rfl⟩) (.inl ⟨hM0, rfl⟩)
        clear hT
        have hz1 : Sl.g 6 KV.c (slN L) = .nsl := by rw [hL0]; rfl
        have hz2 : Sl.g 8 Ev.c (slN M) = .nsl := by rw [hM0]; rfl
        rw [hz1, hz2] at hqc
        subst hL0
        subst hM0
        subst eZ
        simp only [List.length_nil, List.map_nil, show ((0 : Nat) : Int) = 0 from rfl] at hw hw2
        cases w12
        · cases b1
          · simp only [Bool.false_and, Bool.and_false] at hO
            simp -implicitDefEqProofs [zres, hO, repZ, A, Reply.c, a1, a2, a3, a4, a5, a6, a7, a8, a9, hw, a11, hw2, a17]
          · by_cases he : er = s
            · subst he
              simp only [Bool.not_false, Bool.true_and, decide_true] at hO
              rw [if_pos hO, ← hE2 hO, hqc]
              simp -implicitDefEqProofs [zres, hO, a1, a2, a3, a4, a5, a6, a7, a8, a9, hw, a11, hw2, a17]
            · simp only [he, decide_false, Bool.and_false] at hO
              simp -implicitDefEqProofs [zres, hO, repZ, A, Reply.c, a1, a2, a3, a4, a5, a6, a7, a8, a9, hw, a11, hw2, a17, he]
        · simp only [Bool.not_true, Bool.false_and] at hO
          cases b1 <;> simp -implicitDefEqProofs [zres, hO, repZ, A, Reply.c, a1, a2, a3, a4, a5, a6, a7, a8, a9, hw, a11, hw2, a17]
      · clear hE1
        have a17 := hT (.g .nsl) (.ms (H.length + 8) (M.length + 1) 8 0 M.length) (H ++ .rows 6 1 [] :: .rows 8 1 [] :: ZC :: .cells [T s, I a12', B w12] :: .rows 6 1 [] :: .rows 8 1 [] :: .cells [I v2, I v3, I v4, I v5, I v6, I v7, B v8, .g .nsl, .ms (H.length + 8) (M.length + 1) 8 0 M.length] :: jc :: .rows 8 (M.length + 1) (M.map Ev.c) :: o2) (.inl ⟨hL0, rfl⟩) (.inr (.inr ⟨_, _, rfl, by simp only [List.length_append, List.length_cons]; omega, by rw [List.getElem_append_right (by omega)]; simp⟩))
        clear hT
        have hz1 : Sl.g 6 KV.c (slN L) = .nsl := by rw [hL0]; rfl
        have hz2 : Sl.g 8 Ev.c (slN M) = .sl 8 (M.map Ev.c) := slN_g hM0
        have htk2 : List.take M.length (List.map Ev.c M) = List.map Ev.c M := List.take_of_length_le (by simp)
        have hl2 : ¬ M.length = 0 := fun e => hM0 (List.eq_nil_of_length_eq_zero e)
        rw [hz1, hz2] at hqc
        subst hL0
        subst eZ
        simp only [List.length_nil, List.map_nil, show ((0 : Nat) : Int) = 0 from rfl] at hw hw2
        cases w12
        · cases b1
          · simp only [Bool.false_and, Bool.and_false] at hO
            simp -implicitDefEqProofs [zres, hO, repZ, A, Reply.c, a1, a2, a3, a4, a5, a6, a7, a8, a9, hw, a11, hw2, a17]
          · by_cases he : er = s
            · subst he
              simp only [Bool.not_false, Bool.true_and, decide_true] at hO
              rw [if_pos hO, ← hE2 hO, hqc]
              simp -implicitDefEqProofs [zres, hO, a1, a2, a3, a4, a5, a6, a7, a8, a9, hw, a11, hw2, a17, htk2, hl2, hM0]
            · simp only [he, decide_false, Bool.and_false] at hO
              simp -implicitDefEqProofs [zres, hO, repZ, A, Reply.c, a1, a2, a3, a4, a5, a6, a7, a8, a9, hw, a11, hw2, a17, he]
        · simp only [Bool.not_true, Bool.false_and] at hO
          cases b1 <;> simp -implicitDefEqProofs [zres, hO, repZ, A, Reply.c, a1, a2, a3, a4, a5, a6, a7, a8, a9, hw, a11, hw2, a17]
    · obtain ⟨vb, ob, hw2, hv2⟩ := evB_loop H (.rows 6 1 []) (.rows 8 1 []) ZC (.rows 6 1 []) (.rows 8 1 []) (.rows 6 (L.length + 1) (L.map KV.c)) (I v2) (I v3) (I v4) (I v5) (I v6) (I v7) (B v8) (.ms (H.length + 7) (L.length + 1) 6 0 L.length) s n11 hl s11 i11
      rw [e12] at hw2 hv2
      simp only at hw2 hv2
      unfold exkvL stkvL r2C at hw
      unfold exevB stevB r2C at hw2
      rcases hv2 with ⟨hM0, rfl, rfl⟩ | ⟨hM0, rfl, jc, o2, rfl⟩
      · clear hE1
        have a17 := hT (.ms (H.length + 7) (L.length + 1) 6 0 L.length) (.g .nsl) (H ++ .rows 6 1 [] :: .rows 8 1 [] :: ZC :: .cells [T s, I a12', B w12] :: .rows 6 1 [] :: .rows 8 1 [] :: .cells [I v2, I v3, I v4, I v5, I v6, I v7, B v8, .ms (H.length + 7) (L.length + 1) 6 0 L.length, .g .nsl] :: .rows 6 (L.length + 1) (L.map KV.c) :: []) (.inr (.inr ⟨_, _, rfl, by simp only [List.length_append, List.length_cons]; omega, by rw [List.getElem_append_right (by omega)]; simp⟩)) (.inl ⟨hM0, rfl⟩)
        clear hT
        have hz1 : Sl.g 6 KV.c (slN L) = .sl 6 (L.map KV.c) := slN_g hL0
        have htk1 : List.take L.length (List.map KV.c L) = List.map KV.c L := List.take_of_length_le (by simp)
        have hl1 : ¬ L.length = 0 := fun e => hL0 (List.eq_nil_of_length_eq_zero e)
        have hz2 : Sl.g 8 Ev.c (slN M) = .nsl := by rw [hM0]; rfl
        rw [hz1, hz2] at hqc
        subst hM0
        subst eZ
        simp only [List.length_nil, List.map_nil, show ((0 : Nat) : Int) = 0 from rfl] at hw hw2
        cases w12
        · cases b1
          · simp only [Bool.false_and, Bool.and_false] at hO
            simp -implicitDefEqProofs [zres, hO, repZ, A, Reply.c, a1, a2, a3, a4, a5, a6, a7, a8, a9, hw, a11, hw2, a17]
          · by_cases he : er = s
            · subst he
              simp only [Bool.not_false, Bool.true_and, decide_true] at hO
              rw [if_pos hO, ← hE2 hO, hqc]
              simp -implicitDefEqProofs [zres, hO, a1, a2, a3, a4, a5, a6, a7, a8, a9, hw, a11, hw2, a17, htk1, hl1, hL0]
            · simp only [he, decide_false, Bool.and_false] at hO
              simp -implicitDefEqProofs [zres, hO, repZ, A, Reply.c, a1, a2, a3, a4, a5, a6, a7, a8, a9, hw, a11, hw2, a17, he]
        · simp only [Bool.not_true, Bool.false_and] at hO
          cases b1 <;> simp -implicitDefEqProofs [zres, hO, repZ, A, Reply.c, a1, a2, a3, a4, a5, a6, a7, a8, a9, hw, a11, hw2, a17]
      · clear hE1
        have a17 := hT (.ms (H.length + 7) (L.length + 1) 6 0 L.length) (.ms (H.length + 9) (M.length + 1) 8 0 M.length) (H ++ .rows 6 1 [] :: .rows 8 1 [] :: ZC :: .cells [T s, I a12', B w12] :: .rows 6 1 [] :: .rows 8 1 [] :: .cells [I v2, I v3, I v4, I v5, I v6, I v7, B v8, .ms (H.length + 7) (L.length + 1) 6 0 L.length, .ms (H.length + 9) (M.length + 1) 8 0 M.length] :: .rows 6 (L.length + 1) (L.map KV.c) :: jc :: .rows 8 (M.length + 1) (M.map Ev.c) :: o2) (.inr (.inr ⟨_, _, rfl, by simp only [List.length_append, List.length_cons]; omega, by rw [List.getElem_append_right (by omega)]; simp⟩)) (.inr (.inr ⟨_, _, rfl, by simp only [List.length_append, List.length_cons]; omega, by rw [List.getElem_append_right (by omega)]; simp⟩))
        clear hT
        have hz1 : Sl.g 6 KV.c (slN L) = .sl 6 (L.map KV.c) := slN_g hL0
        have htk1 : List.take L.length (List.map KV.c L) = List.map KV.c L := List.take_of_length_le (by simp)
        have hl1 : ¬ L.length = 0 := fun e => hL0 (List.eq_nil_of_length_eq_zero e)
        have hz2 : Sl.g 8 Ev.c (slN M) = .sl 8 (M.map Ev.c) := slN_g hM0
        have htk2 : List.take M.length (List.map Ev.c M) = List.map Ev.c M := List.take_of_length_le (by simp)
        have hl2 : ¬ M.length = 0 := fun e => hM0 (List.eq_nil_of_length_eq_zero e)
        rw [hz1, hz2] at hqc
        subst eZ
        simp only [List.length_nil, List.map_nil, show ((0 : Nat) : Int) = 0 from rfl] at hw hw2
        cases w12
        · cases b1
          · simp only [Bool.false_and, Bool.and_false] at hO
            simp -implicitDefEqProofs [zres, hO, repZ, A, Reply.c, a1, a2, a3, a4, a5, a6, a7, a8, a9, hw, a11, hw2, a17]
          · by_cases he : er = s
            · subst he
              simp only [Bool.not_false, Bool.true_and, decide_true] at hO
              rw [if_pos hO, ← hE2 hO, hqc]
              simp -implicitDefEqProofs [zres, hO, a1, a2, a3, a4, a5, a6, a7, a8, a9, hw, a11, hw2, a17, htk1, hl1, hL0, htk2, hl2, hM0]
            · simp only [he, decide_false, Bool.and_false] at hO
              simp -implicitDefEqProofs [zres, hO, repZ, A, Reply.c, a1, a2, a3, a4, a5, a6, a7, a8, a9, hw, a11, hw2, a17, he]
        · simp only [Bool.not_true, Bool.false_and] at hO
          cases b1 <;> simp -implicitDefEqProofs [zres, hO, repZ, A, Reply.c, a1, a2, a3, a4, a5, a6, a7, a8, a9, hw, a11, hw2, a17]
  · simp only [h1, decide_false, Bool.false_and] at hO
    subst eZ
    simp -implicitDefEqProofs [zres, hO, repZ, A, Reply.c, a1, h1]
end Go.Proofs.Ytenndgooepdmiaa
