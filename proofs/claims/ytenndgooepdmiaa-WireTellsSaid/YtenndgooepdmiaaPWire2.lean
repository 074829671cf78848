/- Requests and replies out of bytes. -/
import Derived.Test.YtenndgooepdmiaaPWire
namespace Go.Proofs.Ytenndgooepdmiaa
open Go Go.AM Go.Proofs
set_option maxRecDepth 20000
set_option maxHeartbeats 1000000
set_option linter.unusedSimpArgs false
set_option linter.unusedVariables false
set_option linter.defProp false
def rdCmp (st : RS) : Cmp × RS :=
  let x := seqP rdT (seqP rdN (seqP rdN (seqP rdN rdT))) st
  (⟨x.1.1, x.1.2.1, x.1.2.2.1, x.1.2.2.2.1, x.1.2.2.2.2⟩, x.2)
def rdMut (st : RS) : Mut × RS :=
  let x := seqP rdB (seqP rdT (seqP rdT rdN)) st
  (⟨x.1.1, x.1.2.1, x.1.2.2.1, x.1.2.2.2⟩, x.2)
def rdKV (st : RS) : KV × RS :=
  let x := seqP rdT (seqP rdT (seqP rdN (seqP rdN (seqP rdN rdN)))) st
  (⟨x.1.1, x.1.2.1, x.1.2.2.1, x.1.2.2.2.1, x.1.2.2.2.2.1, x.1.2.2.2.2.2⟩, x.2)
def rdEv (st : RS) : Ev × RS :=
  let x := seqP rdN (seqP rdB rdKV) st
  (⟨x.1.1, x.1.2.1, x.1.2.2⟩, x.2)
def encKV (x : KV) : Bs := encS x.key ++ encS x.value ++ encN x.create ++ encN x.mod ++ encN x.version ++ encN x.lease
def encEv (x : Ev) : Bs := encN x.rev ++ encB x.gone ++ encKV x.kv
def kvOk (x : KV) : Bool := txtOk x.key x.value && (numOk x.create && (numOk x.mod && (numOk x.version && numOk x.lease)))
def evOk (x : Ev) : Bool := kvOk x.kv && numOk x.rev
theorem kvOk_iff {x : KV} : kvOk x = true ↔ (x.key.length ≤ 40 ∧ x.value.length ≤ 20) ∧ (0 ≤ x.create ∧ x.create ≤ 1099511627775) ∧ (0 ≤ x.mod ∧ x.mod ≤ 1099511627775) ∧ (0 ≤ x.version ∧ x.version ≤ 1099511627775) ∧ (0 ≤ x.lease ∧ x.lease ≤ 1099511627775) := by
  simp only [kvOk, Bool.and_eq_true, txtOk_iff, numOk_iff]
theorem evOk_iff {x : Ev} : evOk x = true ↔ kvOk x.kv = true ∧ 0 ≤ x.rev ∧ x.rev ≤ 1099511627775 := by simp only [evOk, Bool.and_eq_true, numOk_iff]
theorem goodCmp : GoodP rdCmp encCmp (fun c => cmpOk c = true) := by
  have h := goodT.seq (goodN.seq (goodN.seq (goodN.seq goodT)))
  exact h.map (fun x => (⟨x.1, x.2.1, x.2.2.1, x.2.2.2.1, x.2.2.2.2⟩ : Cmp)) (fun c => (c.key, c.what, c.how, c.n, c.value)) encCmp _ (fun _ => rfl) (fun x => by simp [encCmp]) (fun c hc => by
    obtain ⟨⟨h1, h2⟩, h3, h4, h5, h6, h7, h8⟩ := cmpOk_iff.1 hc
    exact ⟨by simp only; omega, ⟨by simp only; omega, by simp only; omega⟩, ⟨by simp only; omega, by simp only; omega⟩, ⟨h7, h8⟩, by simp only; omega⟩)
theorem goodMut : GoodP rdMut encMut (fun c => mutOk c = true) := by
  have h := goodB.seq (goodT.seq (goodT.seq goodN))
  exact h.map (fun x => (⟨x.1, x.2.1, x.2.2.1, x.2.2.2⟩ : Mut)) (fun c => (c.gone, c.key, c.value, c.lease)) encMut _ (fun _ => rfl) (fun x => by simp [encMut]) (fun c hc => by
    obtain ⟨⟨h1, h2⟩, h3, h4⟩ := mutOk_iff.1 hc
    exact ⟨trivial, by simp only; omega, by simp only; omega, h3, h4⟩)
theorem goodKV : GoodP rdKV encKV (fun c => kvOk c = true) := by
  have h := goodT.seq (goodT.seq (goodN.seq (goodN.seq (goodN.seq goodN))))
  exact h.map (fun x => (⟨x.1, x.2.1, x.2.2.1, x.2.2.2.1, x.2.2.2.2.1, x.2.2.2.2.2⟩ : KV)) (fun c => (c.key, c.value, c.create, c.mod, c.version, c.lease)) encKV _ (fun _ => rfl) (fun x => by simp [encKV]) (fun c hc => by
    obtain ⟨⟨h1, h2⟩, h3, h4, h5, h6⟩ := kvOk_iff.1 hc
    exact ⟨by simp only; omega, by simp only; omega, h3, h4, h5, h6⟩)
theorem goodEv : GoodP rdEv encEv (fun c => evOk c = true) := by
  have h := goodN.seq (goodB.seq goodKV)
  exact h.map (fun x => (⟨x.1, x.2.1, x.2.2⟩ : Ev)) (fun c => (c.rev, c.gone, c.kv)) encEv _ (fun _ => rfl) (fun x => by simp [encEv]) (fun c hc => by
    obtain ⟨h1, h2, h3⟩ := evOk_iff.1 hc
    exact ⟨⟨h2, h3⟩, trivial, h1⟩)
def slN {α : Type} (l : List α) : Sl α := match l with
  | [] => .nil
  | x :: l => .of (x :: l)
@[simp] theorem slN_l {α : Type} (l : List α) : (slN l).l = l := by cases l <;> rfl
abbrev RawQ := Int × Int × Int × Int × Bool × Bs × Bs × Int × Int × Int × Int × List Cmp × List Mut × List Mut
def rdReq : RS → RawQ × RS := seqP rdN (seqP rdN (seqP rdN (seqP rdN (seqP rdB (seqP rdT (seqP rdT (seqP rdN (seqP rdN (seqP rdN (seqP rdN (seqP (rdList 4 rdCmp) (seqP (rdList 4 rdMut) (rdList 4 rdMut)))))))))))))
def mkReq (x : RawQ) : Req := ⟨x.2.1, x.2.2.1, x.2.2.2.1, x.2.2.2.2.1, x.2.2.2.2.2.1, x.2.2.2.2.2.2.1, x.2.2.2.2.2.2.2.1, x.2.2.2.2.2.2.2.2.1, x.2.2.2.2.2.2.2.2.2.1, x.2.2.2.2.2.2.2.2.2.2.1, slN x.2.2.2.2.2.2.2.2.2.2.2.1, slN x.2.2.2.2.2.2.2.2.2.2.2.2.1, slN x.2.2.2.2.2.2.2.2.2.2.2.2.2⟩
def unReq (q : Req) : RawQ := (1, q.kind, q.who, q.seq, q.once, q.key, q.value, q.lease, q.rev, q.ttl, q.token, q.iff.l, q.thn.l, q.els.l)
def goodReq := goodN.seq (goodN.seq (goodN.seq (goodN.seq (goodB.seq (goodT.seq (goodT.seq (goodN.seq (goodN.seq (goodN.seq (goodN.seq ((goodL goodCmp 4 (by omega)).seq ((goodL goodMut 4 (by omega)).seq (goodL goodMut 4 (by omega))))))))))))))
/-- The request that some bytes are. -/
def askedOk (s : Bs) : Bool := !(rdReq (s, false)).2.2 && (decide ((rdReq (s, false)).2.1 = []) && (decide ((rdReq (s, false)).1.1 = 1) && reqOk (mkReq (rdReq (s, false)).1)))
theorem asked_inv {s : Bs} (h : askedOk s = true) : reqOk (mkReq (rdReq (s, false)).1) = true ∧ encReq (mkReq (rdReq (s, false)).1) = s := by
  unfold askedOk at h
  simp only [Bool.and_eq_true, Bool.not_eq_true', decide_eq_true_eq] at h
  obtain ⟨h1, h2, h3, h4⟩ := h
  refine ⟨h4, ?_⟩
  obtain ⟨_, k⟩ := goodReq.c s false h1
  rw [show seqP rdN _ = rdReq from rfl] at k
  rw [h2, List.append_nil] at k
  simp only [h3, encN1] at k
  simp only [encReq, encHead, encMuts, mkReq, slN_l]
  refine Eq.trans ?_ k.symm
  simp only [List.append_assoc]
theorem asked_enc {q : Req} (h : reqOk q = true) : askedOk (encReq q) = true ∧ (rdReq (encReq q, false)).1 = unReq q := by
  have hk := reqOk_iff h
  obtain ⟨kk1, kk2, ht, n1, n2, n3, n4, n5, n6, i1, i2, m1, m2⟩ := hk
  obtain ⟨j1, j2⟩ := mutsOk_iff.1 m1
  obtain ⟨j3, j4⟩ := mutsOk_iff.1 m2
  have hr := goodReq.r (unReq q) ⟨⟨by simp [unReq], by simp [unReq]⟩, ⟨by simp only [unReq]; omega, by simp only [unReq]; omega⟩, n1, n2, trivial, by simp only [unReq]; omega, by simp only [unReq]; omega, n3, n4, n5, n6, ⟨by simp only [unReq]; omega, i2⟩, ⟨by simp only [unReq]; omega, j2⟩, ⟨by simp only [unReq]; omega, j4⟩⟩ []
  rw [show seqP rdN _ = rdReq from rfl] at hr
  simp only [unReq, encN1, List.append_nil] at hr
  have e : encReq q = [1] ++ (encN q.kind ++ (encN q.who ++ (encN q.seq ++ (encB q.once ++ (encS q.key ++ (encS q.value ++ (encN q.lease ++ (encN q.rev ++ (encN q.ttl ++ (encN q.token ++ ((encN q.iff.l.length ++ (q.iff.l.map encCmp).flatten) ++ ((encN q.thn.l.length ++ (q.thn.l.map encMut).flatten) ++ (encN q.els.l.length ++ (q.els.l.map encMut).flatten))))))))))))) := by
    simp only [encReq, encHead, encMuts, List.append_assoc]
  rw [← e] at hr
  unfold askedOk
  rw [hr]
  refine ⟨?_, rfl⟩
  have : reqOk (mkReq (unReq q)) = reqOk q := by
    simp only [reqOk, cmpsOk, mutsOk, mkReq, unReq, slN_l]
    rfl
  simp only [unReq] at this
  simp [this, h]
end Go.Proofs.Ytenndgooepdmiaa
