/- Replies out of bytes. -/
import Derived.Test.YtenndgooepdmiaaSTell2
namespace Go.Proofs.Ytenndgooepdmiaa
open Go Go.AM Go.Proofs
set_option maxRecDepth 20000
set_option maxHeartbeats 1000000
set_option linter.unusedSimpArgs false
set_option linter.unusedVariables false
set_option linter.defProp false
abbrev RawR := Int × Int × Int × Int × Int × Int × Int × Bool × List KV × List Ev
def rdRep : RS → RawR × RS := seqP rdN (seqP rdN (seqP rdN (seqP rdN (seqP rdN (seqP rdN (seqP rdN (seqP rdB (seqP (rdList 30 rdKV) (rdList 30 rdEv)))))))))
def mkRep (x : RawR) : Reply := ⟨x.2.1, x.2.2.1, x.2.2.2.1, x.2.2.2.2.1, x.2.2.2.2.2.1, x.2.2.2.2.2.2.1, x.2.2.2.2.2.2.2.1, slN x.2.2.2.2.2.2.2.2.1, slN x.2.2.2.2.2.2.2.2.2⟩
def unRep (q : Reply) : RawR := (2, q.code, q.who, q.seq, q.rev, q.lease, q.ttl, q.yes, q.kvs.l, q.events.l)
def goodRep := goodN.seq (goodN.seq (goodN.seq (goodN.seq (goodN.seq (goodN.seq (goodN.seq (goodB.seq ((goodL goodKV 30 (by omega)).seq (goodL goodEv 30 (by omega))))))))))
/-- The reply that some bytes are. -/
def toldOk (s : Bs) : Bool := !(rdRep (s, false)).2.2 && (decide ((rdRep (s, false)).2.1 = []) && (decide ((rdRep (s, false)).1.1 = 2) && repOk (mkRep (rdRep (s, false)).1)))
theorem told_inv {s : Bs} (h : toldOk s = true) : repOk (mkRep (rdRep (s, false)).1) = true ∧ encTell (mkRep (rdRep (s, false)).1) = s := by
  unfold toldOk at h
  simp only [Bool.and_eq_true, Bool.not_eq_true', decide_eq_true_eq] at h
  obtain ⟨h1, h2, h3, h4⟩ := h
  refine ⟨h4, ?_⟩
  obtain ⟨_, k⟩ := goodRep.c s false h1
  rw [show seqP rdN _ = rdRep from rfl] at k
  rw [h2, List.append_nil] at k
  simp only [h3, encN2] at k
  simp only [encTell, encTHead, mkRep, slN_l]
  refine Eq.trans ?_ k.symm
  simp only [List.append_assoc]
theorem told_enc {q : Reply} (h : repOk q = true) : toldOk (encTell q) = true ∧ (rdRep (encTell q, false)).1 = unRep q := by
  have hk := repOk_iff h
  obtain ⟨kk1, kk2, n1, n2, n3, n4, n5, i1, i2, j1, j2⟩ := hk
  have hr := goodRep.r (unRep q) ⟨⟨by simp [unRep], by simp [unRep]⟩, ⟨by simp only [unRep]; omega, by simp only [unRep]; omega⟩, n1, n2, n3, n4, n5, trivial, ⟨by simp only [unRep]; omega, i2⟩, ⟨by simp only [unRep]; omega, j2⟩⟩ []
  rw [show seqP rdN _ = rdRep from rfl] at hr
  simp only [unRep, encN2, List.append_nil] at hr
  have e : encTell q = [2] ++ (encN q.code ++ (encN q.who ++ (encN q.seq ++ (encN q.rev ++ (encN q.lease ++ (encN q.ttl ++ (encB q.yes ++ ((encN q.kvs.l.length ++ (q.kvs.l.map encKV).flatten) ++ (encN q.events.l.length ++ (q.events.l.map encEv).flatten))))))))) := by
    simp only [encTell, encTHead, List.append_assoc]
  rw [← e] at hr
  unfold toldOk
  rw [hr]
  refine ⟨?_, rfl⟩
  have : repOk (mkRep (unRep q)) = repOk q := by
    simp only [repOk, kvsOk, evsOk, mkRep, unRep, slN_l]
    rfl
  simp only [unRep] at this
  simp [this, h]
def repZ : Reply := ⟨0, 0, 0, 0, 0, 0, false, .nil, .nil⟩
def toldQ (s : Bs) : Reply := if toldOk s = true then mkRep (rdRep (s, false)).1 else repZ
end Go.Proofs.Ytenndgooepdmiaa
