/- Bytes of requests and of replies are apart; cut short, or with more behind them, they are nobody's. -/
import Derived.Test.YtenndgooepdmiaaPTell
import Derived.Test.YtenndgooepdmiaaSAlike
namespace Go.Proofs.Ytenndgooepdmiaa
open Go Go.AM Go.Proofs
set_option maxRecDepth 20000
set_option maxHeartbeats 1000000
set_option linter.unusedSimpArgs false
set_option linter.unusedVariables false
theorem asked_more {q : Req} (h : reqOk q = true) (t : Bs) : askedOk (encReq q ++ t) = decide (t = []) := by
  by_cases ht : t = []
  · subst ht; rw [List.append_nil, (asked_enc h).1]; rfl
  · have hk := reqOk_iff h
    obtain ⟨kk1, kk2, hx, n1, n2, n3, n4, n5, n6, i1, i2, m1, m2⟩ := hk
    obtain ⟨j1, j2⟩ := mutsOk_iff.1 m1
    obtain ⟨j3, j4⟩ := mutsOk_iff.1 m2
    have hr := goodReq.r (unReq q) ⟨⟨by simp [unReq], by simp [unReq]⟩, ⟨by simp only [unReq]; omega, by simp only [unReq]; omega⟩, n1, n2, trivial, by simp only [unReq]; omega, by simp only [unReq]; omega, n3, n4, n5, n6, ⟨by simp only [unReq]; omega, i2⟩, ⟨by simp only [unReq]; omega, j2⟩, ⟨by simp only [unReq]; omega, j4⟩⟩ t
    rw [show seqP rdN _ = rdReq from rfl] at hr
    simp only [unReq, encN1] at hr
    have e : encReq q ++ t = ([1] ++ (encN q.kind ++ (encN q.who ++ (encN q.seq ++ (encB q.once ++ (encS q.key ++ (encS q.value ++ (encN q.lease ++ (encN q.rev ++ (encN q.ttl ++ (encN q.token ++ ((encN q.iff.l.length ++ (q.iff.l.map encCmp).flatten) ++ ((encN q.thn.l.length ++ (q.thn.l.map encMut).flatten) ++ (encN q.els.l.length ++ (q.els.l.map encMut).flatten)))))))))))))) ++ t := by
      simp only [encReq, encHead, encMuts, List.append_assoc]
    rw [← e] at hr
    unfold askedOk
    rw [hr]
    simp [ht]
theorem asked_cut {q : Req} (h : reqOk q = true) (n : Nat) (hn : n < (encReq q).length) : askedOk ((encReq q).take n) = false := by
  cases hc : askedOk ((encReq q).take n)
  · rfl
  · exfalso
    obtain ⟨k1, k2⟩ := asked_inv hc
    have hm := asked_more k1 ((encReq q).drop n)
    rw [k2, List.take_append_drop, (asked_enc h).1] at hm
    have : (encReq q).drop n = [] := by simpa using hm.symm
    rw [List.drop_eq_nil_iff] at this
    omega
theorem told_head {s : Bs} (h : toldOk s = true) : ∃ t, s = 2 :: t := by
  obtain ⟨_, k⟩ := told_inv h
  generalize mkRep (rdRep (s, false)).1 = q at k
  rw [← k]
  simp only [encTell, encTHead, List.append_assoc, List.cons_append, List.nil_append]
  exact ⟨_, rfl⟩
theorem ask_head (q : Req) : ∃ t, encReq q = 1 :: t := by
  simp only [encReq, encHead, List.append_assoc, List.cons_append, List.nil_append]
  exact ⟨_, rfl⟩
theorem told_ask (q : Req) (n : Nat) : toldOk ((encReq q).take n) = false := by
  cases hc : toldOk ((encReq q).take n)
  · rfl
  · exfalso
    obtain ⟨t, ht⟩ := told_head hc
    obtain ⟨u, hu⟩ := ask_head q
    rw [hu] at ht
    cases n with
    | zero => simp at ht
    | succ n => simp at ht
theorem askedQ_enc {q : Req} (h : reqOk q = true) : askedQ (encReq q) = mkReq (unReq q) := by
  unfold askedQ
  rw [(asked_enc h).1, (asked_enc h).2]; rfl
theorem toldQ_enc {q : Reply} (h : repOk q = true) : toldQ (encTell q) = mkRep (unRep q) := by
  unfold toldQ
  rw [(told_enc h).1, (told_enc h).2]; rfl
theorem askedQ_rl (s : Bs) : (askedQ s).iff.l.length ≤ 4 ∧ (askedQ s).thn.l.length ≤ 4 ∧ (askedQ s).els.l.length ≤ 4 := by
  unfold askedQ
  split
  · rename_i h
    have hk := reqOk_iff (asked_inv h).1
    exact ⟨hk.i1, (mutsOk_iff.1 hk.m1).1, (mutsOk_iff.1 hk.m2).1⟩
  · exact ⟨by simp [reqZ], by simp [reqZ], by simp [reqZ]⟩
theorem toldQ_rl (s : Bs) : (toldQ s).kvs.l.length ≤ 30 ∧ (toldQ s).events.l.length ≤ 30 := by
  unfold toldQ
  split
  · rename_i h
    have hk := repOk_iff (told_inv h).1
    exact ⟨hk.i1, hk.j1⟩
  · exact ⟨by simp [repZ], by simp [repZ]⟩
theorem sameReq_un (q : Req) : sameReq (mkReq (unReq q)) q := ⟨rfl, rfl, rfl, rfl, rfl, rfl, rfl, rfl, rfl, rfl, by simp only [mkReq, unReq, slN_l], by simp only [mkReq, unReq, slN_l], by simp only [mkReq, unReq, slN_l]⟩
theorem sameRep_un (q : Reply) : sameRep (mkRep (unRep q)) q := ⟨rfl, rfl, rfl, rfl, rfl, rfl, rfl, by simp only [mkRep, unRep, slN_l], by simp only [mkRep, unRep, slN_l]⟩
end Go.Proofs.Ytenndgooepdmiaa
