/- What there is in a store; what a key becomes; which events are. -/
import Derived.Test.YtibnbcljmfigfaaSHist5
import Derived.Test.YtibnbcljmfigfaaSStore
namespace Go.Proofs.Ytibnbcljmfigfaa
open Go Go.AM Go.Proofs
set_option maxRecDepth 20000
set_option maxHeartbeats 1000000
set_option linter.unusedSimpArgs false
set_option linter.unusedVariables false
def smallS (s : Store) : Prop := s.base.l.length + s.log.l.length ≤ 100000
theorem Now_ev (s : Store) (hs : smallS s) (H : List Blk) : EvF tab 29 [A s.c] H = some ⟨.g (KVs.g (foldR s.base s.log.l s.rev)), [], []⟩ := by
  have h1 := fun H => Fold_ev s.base s.log s.rev (by unfold smallS at hs; omega) H
  refine EvF_walk t29 (by simp) ?_
  generalize foldR s.base s.log.l s.rev = r at h1 ⊢
  generalize hg1 : KVs.g s.base = G1 at h1
  generalize hg2 : Evs.g s.log = G2 at h1
  simp -implicitDefEqProofs [A, Store.c, hg1, hg2, h1]
def atE (s : Store) (rev : Int) : Int := if rev = 0 then 0 else if rev < 0 ∨ s.rev < rev then 8 else if rev < s.low then 9 else 0
def atV (s : Store) (rev : Int) : Int := if rev = 0 then s.rev else rev
def atR (s : Store) (rev : Int) : Sl KV := if atE s rev = 0 then foldR s.base s.log.l (atV s rev) else .nil
def atR2 (s : Store) (rev : Int) : Sl KV := if atE s rev = 0 then foldR2 s.base s.log.l (atV s rev) else .nil
theorem At_ev (s : Store) (rev : Int) (hs : smallS s) (H : List Blk) : EvF tab 27 [A s.c, I rev] H = some ⟨.tup [.g (KVs.g (atR s rev)), I (atE s rev)], [], []⟩ := by
  have h1 := fun v H => Fold_ev s.base s.log v (by unfold smallS at hs; omega) H
  refine EvF_walk t27 (by simp) ?_
  unfold atR atE atV
  generalize hg1 : KVs.g s.base = G1 at h1
  generalize hg2 : Evs.g s.log = G2 at h1
  by_cases c1 : rev = 0
  · subst c1; simp -implicitDefEqProofs [A, Store.c, hg1, hg2, h1]
  by_cases c2 : rev < 0
  · simp -implicitDefEqProofs [A, Store.c, hg1, hg2, c1, c2]
  by_cases c3 : s.rev < rev
  · simp -implicitDefEqProofs [A, Store.c, hg1, hg2, c1, c2, c3]
  by_cases c4 : rev < s.low
  · simp -implicitDefEqProofs [A, Store.c, hg1, hg2, c1, c2, c3, c4]
  simp -implicitDefEqProofs [A, Store.c, hg1, hg2, c1, c2, c3, c4, h1]
def nextP (l : List KV) (m : Mut) (rev : Int) : KV := if findB l m.key = true then ⟨m.key, m.value, (findX l m.key).create, rev, IntKind.i64.wrap ((findX l m.key).version + 1), m.lease⟩ else ⟨m.key, m.value, rev, rev, 1, m.lease⟩
theorem next_ev (s : Sl KV) (m : Mut) (rev : Int) (hl : s.l.length ≤ 9223372036854775807) (H : List Blk) : EvF tab 85 [.g (KVs.g s), A m.c, I rev] H = some ⟨A (nextP s.l m rev).c, [], []⟩ := by
  have h1 := fun H => Find_ev s m.key hl H
  refine EvF_walk t85 (by simp) ?_
  unfold nextP
  generalize findX s.l m.key = x at h1 ⊢
  generalize findB s.l m.key = b at h1 ⊢
  simp only [A, KV.c, List.map_cons, List.map_nil] at h1
  cases b <;> simp -implicitDefEqProofs [zres, A, Mut.c, KV.c, h1]
def kvEq (a b : KV) : Bool := (a.key == b.key) && ((a.value == b.value) && ((a.create == b.create) && ((a.mod == b.mod) && ((a.version == b.version) && (a.lease == b.lease)))))
theorem kvEq_iff {a b : KV} : kvEq a b = true ↔ a = b := by
  obtain ⟨a1, a2, a3, a4, a5, a6⟩ := a
  obtain ⟨b1, b2, b3, b4, b5, b6⟩ := b
  simp [kvEq]
def rightP (l : List KV) (e : Ev) : Bool :=
  if e.gone = true then findB l e.kv.key && kvEq (findX l e.kv.key) e.kv else
    kvEq e.kv (nextP l ⟨false, e.kv.key, e.kv.value, e.kv.lease⟩ e.rev) && oneOk e.kv
theorem mayL_one (x : KV) : mayL [x] = oneOk x := by
  unfold mayL mayG mayG
  cases h : oneOk x
  · rfl
  · have h1 : 1 ≤ x.key.length := by
      simp only [oneOk, keyOk, Bool.and_eq_true, decide_eq_true_eq] at h; exact h.1.1.1
    cases hq : x.key with
    | nil => rw [hq] at h1; simp at h1
    | cons a b => rfl
theorem ver_iff {n v : Int} (h1 : 1 ≤ n) (h2 : n ≤ 1099511627776) (hv : I64 v) : IntKind.i64.wrap (n - 1) = v ↔ n = IntKind.i64.wrap (v + 1) := by
  obtain ⟨v1, v2⟩ := hv
  rw [wrap_i64 (by omega) (by omega)]
  by_cases h : v ≤ 9223372036854775806
  · rw [wrap_i64 (by omega) (by omega)]; omega
  · have e : v = 9223372036854775807 := by omega
    subst e
    have : IntKind.i64.wrap (9223372036854775807 + 1) = -9223372036854775808 := by decide
    rw [this]; omega
theorem right2_ev (s : Sl KV) (e : Ev) (hk : e.kv.key.length ≤ 9223372036854775807) (hv : I64 (findX s.l e.kv.key).version) (hl : s.l.length ≤ 9223372036854775807) (H : List Blk) : EvF tab 75 [.g (KVs.g s), A e.c] H = some ⟨B (rightP s.l e), [], []⟩ := by
  have h1 := fun H => Find2_ev s e.kv.key hl H
  have h3 := fun H => One2_ev e.kv hk H
  refine EvF_walk t75 (by simp) ?_
  unfold rightP nextP
  simp only
  generalize findX s.l e.kv.key = x at h1 hv ⊢
  generalize findB s.l e.kv.key = b at h1 ⊢
  have ho : oneOk e.kv = true → 1 ≤ e.kv.version ∧ e.kv.version ≤ 1099511627776 := fun h => by
    simp only [oneOk, numL, Bool.and_eq_true, decide_eq_true_eq] at h
    omega
  generalize oneOk e.kv = b2 at h3 ho ⊢
  obtain ⟨er, eg, ek⟩ := e
  obtain ⟨k1, k2, k3, k4, k5, k6⟩ := ek
  obtain ⟨x1, x2, x3, x4, x5, x6⟩ := x
  simp only [A, KV.c, List.map_cons, List.map_nil] at h1 h3
  simp only at hv ho
  unfold kvEq
  cases eg
  · cases b2
    · cases b <;> simp -implicitDefEqProofs [zres, A, Ev.c, KV.c, h1, h3]
    · obtain ⟨o1, o2⟩ := ho rfl
      have hver := ver_iff o1 o2 hv
      by_cases c1 : k4 = er
      · subst c1
        cases b
        · by_cases c2 : k3 = k4
          · subst c2
            by_cases c3 : k5 = 1
            · subst c3
              simp -implicitDefEqProofs [zres, A, Ev.c, KV.c, h1, h3]
            · simp -implicitDefEqProofs [zres, A, Ev.c, KV.c, h1, h3, c3]
          · simp -implicitDefEqProofs [zres, A, Ev.c, KV.c, h1, h3, c2]
        · by_cases c2 : k3 = x3
          · subst c2
            have hb : (IntKind.i64.wrap (k5 - 1) == x5) = (k5 == IntKind.i64.wrap (x5 + 1)) := by
              rw [Bool.eq_iff_iff, beq_iff_eq, beq_iff_eq]; exact hver
            simp -implicitDefEqProofs [zres, A, Ev.c, KV.c, h1, h3, hb]
          · simp -implicitDefEqProofs [zres, A, Ev.c, KV.c, h1, h3, c2]
      · cases b <;> simp -implicitDefEqProofs [zres, A, Ev.c, KV.c, h1, h3, c1]
  · cases b <;> simp -implicitDefEqProofs [zres, A, Ev.c, KV.c, h1]
end Go.Proofs.Ytibnbcljmfigfaa
