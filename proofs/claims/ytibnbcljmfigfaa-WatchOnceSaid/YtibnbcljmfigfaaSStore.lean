/- Stores, and what is asked and done: their cells. -/
import Derived.Test.YtibnbcljmfigfaaTabA
import Derived.Test.YtibnbcljmfigfaaAMJ4
namespace Go.AM
open Go
structure Store where
  rev : Int
  low : Int
  base : KVs
  log : Evs
def Store.c (x : Store) : List GV := [.int .i64 x.rev, .int .i64 x.low, KVs.g x.base, Evs.g x.log]
def Store.wf (x : Store) : Prop := I64 x.rev ∧ I64 x.low ∧ ((∀ y ∈ x.base.l, y.wf) ∧ x.base.l.length ≤ 9223372036854775807) ∧ ((∀ y ∈ x.log.l, y.wf) ∧ x.log.l.length ≤ 9223372036854775807)
theorem Store.inv {gs : List GV} (h : HasTy (.p (.i .i64) (.p (.i .i64) (.p (.sl 6 tKV) (.p (.sl 8 tEv) .u)))) gs) : ∃ x : Store, x.wf ∧ gs = x.c := by
  obtain ⟨_, _, rfl, ⟨a, rfl, ha⟩, _, _, rfl, ⟨b, rfl, hb⟩, _, _, rfl, hk, _, _, rfl, hv, rfl⟩ := h
  obtain ⟨k, k1, k2, rfl⟩ := hk.sl_inv (fun _ => KV.inv)
  obtain ⟨v, v1, v2, rfl⟩ := hv.sl_inv (fun _ => Ev.inv)
  exact ⟨⟨a, b, k, v⟩, ⟨ha, hb, ⟨k1, k2⟩, ⟨v1, v2⟩⟩, rfl⟩
structure Txn where
  iff : Sl Cmp
  thn : Sl Mut
  els : Sl Mut
def Txn.c (x : Txn) : List GV := [Cmps.g x.iff, Muts.g x.thn, Muts.g x.els]
def Txn.wf (x : Txn) : Prop := ((∀ y ∈ x.iff.l, y.wf) ∧ x.iff.l.length ≤ 9223372036854775807) ∧ ((∀ y ∈ x.thn.l, y.wf) ∧ x.thn.l.length ≤ 9223372036854775807) ∧ ((∀ y ∈ x.els.l, y.wf) ∧ x.els.l.length ≤ 9223372036854775807)
theorem Txn.inv {gs : List GV} (h : HasTy tTxn gs) : ∃ x : Txn, x.wf ∧ gs = x.c := by
  obtain ⟨_, _, rfl, h1, _, _, rfl, h2, _, _, rfl, h3, rfl⟩ := h
  obtain ⟨p, p1, p2, rfl⟩ := h1.sl_inv (fun _ => Cmp.inv)
  obtain ⟨q, q1, q2, rfl⟩ := h2.sl_inv (fun _ => Mut.inv)
  obtain ⟨r, r1, r2, rfl⟩ := h3.sl_inv (fun _ => Mut.inv)
  exact ⟨⟨p, q, r⟩, ⟨⟨p1, p2⟩, ⟨q1, q2⟩, ⟨r1, r2⟩⟩, rfl⟩
theorem Muts.inv {gs : List GV} (h : HasTy (.sl 4 tMut) gs) : ∃ s : Sl Mut, ((∀ y ∈ s.l, y.wf) ∧ s.l.length ≤ 9223372036854775807) ∧ gs = [Muts.g s] := by
  obtain ⟨k, k1, k2, rfl⟩ := h.sl_inv (fun _ => Mut.inv)
  exact ⟨k, ⟨k1, k2⟩, rfl⟩
theorem Cmps.inv {gs : List GV} (h : HasTy (.sl 5 tCmp) gs) : ∃ s : Sl Cmp, ((∀ y ∈ s.l, y.wf) ∧ s.l.length ≤ 9223372036854775807) ∧ gs = [Cmps.g s] := by
  obtain ⟨k, k1, k2, rfl⟩ := h.sl_inv (fun _ => Cmp.inv)
  exact ⟨k, ⟨k1, k2⟩, rfl⟩
/-- Two texts. -/
def S2.c (x : Bs × Bs) : List GV := [.str x.1, .str x.2]
theorem ts2_inv {gs : List GV} (h : HasTy (.p .s (.p .s .u)) gs) : ∃ x : Bs × Bs, (S64 x.1 ∧ S64 x.2) ∧ gs = S2.c x := by
  obtain ⟨_, _, rfl, ⟨a, rfl, ha⟩, _, _, rfl, ⟨b, rfl, hb⟩, rfl⟩ := h
  exact ⟨(a, b), ⟨ha, hb⟩, rfl⟩
end Go.AM
