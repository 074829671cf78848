/- Replies by the reference: which may be, and their bytes; the lists are given, or lie in rows of the caller's own. -/
import Derived.Test.YtenndgooepdmiaaSRef2
import Derived.Test.YtenndgooepdmiaaSTell2
namespace Go.Proofs.Ytenndgooepdmiaa
open Go Go.AM Go.Proofs
set_option maxRecDepth 20000
set_option maxHeartbeats 2000000
set_option linter.unusedSimpArgs false
set_option linter.unusedVariables false
def Rp {α : Type} (n : Nat) (c : α → List GV) (H : List Blk) (v : AV) (l : List α) : Prop :=
  (l = [] ∧ v = .g .nsl) ∨ (v = .g (.sl n (l.map c))) ∨ ∃ rid g, v = .ms rid g n 0 l.length ∧ ∃ h : rid < H.length, H[rid] = .rows n g (l.map c)
theorem Rp.app {α : Type} {n : Nat} {c : α → List GV} {H : List Blk} {v : AV} {l : List α} (h : Rp n c H v l) (o : List Blk) : Rp n c (H ++ o) v l := by
  rcases h with h | h | ⟨rid, g, h1, h2, h3⟩
  · exact .inl h
  · exact .inr (.inl h)
  · exact .inr (.inr ⟨rid, g, h1, by simp; omega, by rw [List.getElem_append_left h2]; exact h3⟩)
theorem Rp.of {α : Type} {n : Nat} {c : α → List GV} {H : List Blk} (s : Sl α) : Rp n c H (.g (Sl.g n c s)) s.l := by
  cases s with
  | nil => exact .inl ⟨rfl, rfl⟩
  | of l => exact .inr (.inl rfl)
theorem Rp.leaf {α : Type} {n : Nat} {c : α → List GV} {H : List Blk} {v : AV} {l : List α} (h : Rp n c H v l) : v.leaf = true := by
  rcases h with ⟨_, rfl⟩ | rfl | ⟨rid, g, rfl, _⟩ <;> rfl
theorem Rp.len {α : Type} {n : Nat} {c : α → List GV} {H : List Blk} {v : AV} {l : List α} (h : Rp n c H v l) (t : List (Nat × AV)) (o : List Blk) : lenV H ⟨t, [], o⟩ v = some l.length := by
  rcases h with ⟨rfl, rfl⟩ | rfl | ⟨rid, g, rfl, hp, hp2⟩
  · simp [lenV]
  · simp [lenV]
  · simp -implicitDefEqProofs [lenV, hp, hp2, getB_old, orB]
def rc (r : Reply) (v1 v2 : AV) : List AV := [I r.code, I r.who, I r.seq, I r.rev, I r.lease, I r.ttl, B r.yes, v1, v2]
theorem kv2_ev (m : KV) (H : List Blk) : EvF tab 69 [A m.c] H = some ⟨B (kvOk m), [], []⟩ := by
  refine EvF_walk t69 (by simp) ?_
  unfold kvOk
  have ht := texts2_ev m.key m.value
  have h1 := number2_ev m.create
  have h2 := number2_ev m.mod
  have h3 := number2_ev m.version
  have h4 := number2_ev m.lease
  generalize txtOk m.key m.value = b0 at ht ⊢
  generalize numOk m.create = b1 at h1 ⊢
  generalize numOk m.mod = b2 at h2 ⊢
  generalize numOk m.version = b3 at h3 ⊢
  generalize numOk m.lease = b4 at h4 ⊢
  cases b0
  · simp -implicitDefEqProofs [A, KV.c, ht]
  cases b1
  · simp -implicitDefEqProofs [A, KV.c, ht, h1]
  cases b2
  · simp -implicitDefEqProofs [A, KV.c, ht, h1, h2]
  cases b3
  · simp -implicitDefEqProofs [A, KV.c, ht, h1, h2, h3]
  · simp -implicitDefEqProofs [A, KV.c, ht, h1, h2, h3, h4]
theorem MT2_loop0 (r : Reply) (l : List KV) (hl : l.length ≤ 9223372036854775807) {H : List Blk} {v1 v2 : AV} (hr : Rp 6 KV.c H v1 l) :
    loopE (EvF tab) H L24_0 [1, 3] ⟨[(1, .ptr H.length 0), (3, I 0)], [], [.cells (rc r v1 v2)]⟩ =
      some (if allP kvOk l = true then (.exit 0, ⟨[(1, .ptr H.length 0), (3, I l.length), (59, B false)], [], [.cells (rc r v1 v2)]⟩) else (.ret, ⟨[(2, B false)], [], [.cells (rc r v1 v2)]⟩)) := by
  refine loop_all0 (l := l) kvOk (fun k => ⟨[(1, .ptr H.length 0), (3, I k)], [], [.cells (rc r v1 v2)]⟩) _ _ (by simp) (by simp) (fun k x hk hx hy => ?_) (by
    delta L24_0
    rcases hr with ⟨rfl, rfl⟩ | rfl | ⟨rid, g, rfl, hp, hp2⟩
    · simp -implicitDefEqProofs [rc]
    · simp -implicitDefEqProofs [rc]
    · simp -implicitDefEqProofs [rc, hp, hp2, getB_old, orB])
  delta L24_0
  have e2 := wrap_succ hk hl
  have h1 := fun H => kv2_ev x H
  generalize kvOk x = b at h1 ⊢
  simp only [A, KV.c, List.map_cons, List.map_nil] at h1
  rcases hr with ⟨rfl, rfl⟩ | rfl | ⟨rid, g, rfl, hp, hp2⟩
  · simp at hk
  · cases b <;> simp -implicitDefEqProofs [rc, hk, hy, KV.c, h1, e2]
  · cases b <;> simp -implicitDefEqProofs [rc, hk, hy, KV.c, h1, e2, hp, hp2, getB_old, orB]
theorem MT2_loop1 (r : Reply) (l : List Ev) (hl : l.length ≤ 9223372036854775807) {H : List Blk} {v1 v2 : AV} (hr : Rp 8 Ev.c H v2 l) :
    loopE (EvF tab) H L24_1 [1, 4] ⟨[(1, .ptr H.length 0), (4, I 0)], [], [.cells (rc r v1 v2)]⟩ =
      some (if allP evOk l = true then (.exit 2, ⟨[(1, .ptr H.length 0), (4, I l.length), (73, B false)], [], [.cells (rc r v1 v2)]⟩) else (.ret, ⟨[(2, B false)], [], [.cells (rc r v1 v2)]⟩)) := by
  refine loop_all0 (l := l) evOk (fun k => ⟨[(1, .ptr H.length 0), (4, I k)], [], [.cells (rc r v1 v2)]⟩) _ _ (by simp) (by simp) (fun k x hk hx hy => ?_) (by
    delta L24_1
    rcases hr with ⟨rfl, rfl⟩ | rfl | ⟨rid, g, rfl, hp, hp2⟩
    · simp -implicitDefEqProofs [rc]
    · simp -implicitDefEqProofs [rc]
    · simp -implicitDefEqProofs [rc, hp, hp2, getB_old, orB])
  delta L24_1
  have e2 := wrap_succ hk hl
  have h1 := fun H => kv2_ev x.kv H
  have h2 := number2_ev x.rev
  unfold evOk
  generalize kvOk x.kv = b at h1 ⊢
  generalize numOk x.rev = b2 at h2 ⊢
  simp only [A, KV.c, List.map_cons, List.map_nil] at h1
  rcases hr with ⟨rfl, rfl⟩ | rfl | ⟨rid, g, rfl, hp, hp2⟩
  · simp at hk
  · cases b <;> cases b2 <;> simp -implicitDefEqProofs [rc, hk, hy, Ev.c, h1, h2, e2]
  · cases b <;> cases b2 <;> simp -implicitDefEqProofs [rc, hk, hy, Ev.c, h1, h2, e2, hp, hp2, getB_old, orB]
theorem MayTell2_ev (r : Reply) (w : RP r) {H : List Blk} {v1 v2 : AV} (hr1 : Rp 6 KV.c H v1 r.kvs.l) (hr2 : Rp 8 Ev.c H v2 r.events.l) : EvF tab 24 [.agg (rc r v1 v2)] H = some ⟨B (repOk r), [], []⟩ := by
  have hw1 := MT2_loop0 r r.kvs.l w.1 (v2 := v2) hr1
  have hw2 := MT2_loop1 r r.events.l w.2 (v1 := v1) hr2
  have f1 := hr1.leaf
  have f2 := hr2.leaf
  have g1 := hr1.len
  have g2 := hr2.len
  refine EvF_walk t24 (by simp) ?_
  obtain ⟨code, who, seq, rev, lease, ttl, yes, kvs, events⟩ := r
  unfold repOk kvsOk evsOk
  simp only at hw1 hw2 g1 g2 ⊢
  have h1 := number2_ev who
  have h2 := number2_ev seq
  have h3 := number2_ev rev
  have h4 := number2_ev lease
  have h5 := number2_ev ttl
  rw [show kvs.l.all kvOk = allP kvOk kvs.l from rfl, show events.l.all evOk = allP evOk events.l from rfl]
  generalize numOk who = n1 at h1 ⊢
  generalize numOk seq = n2 at h2 ⊢
  generalize numOk rev = n3 at h3 ⊢
  generalize numOk lease = n4 at h4 ⊢
  generalize numOk ttl = n5 at h5 ⊢
  generalize allP kvOk kvs.l = b1 at hw1 ⊢
  generalize allP evOk events.l = b2 at hw2 ⊢
  generalize kvs.l.length = l1 at hw1 g1 ⊢
  generalize events.l.length = l2 at hw2 g2 ⊢
  simp only [rc] at hw1 hw2
  by_cases k1 : 0 ≤ code
  · by_cases k2 : code ≤ 14
    · have k1' : ¬ code < 0 := by omega
      have k2' : ¬ 14 < code := by omega
      cases n1
      · simp -implicitDefEqProofs [rc, f1, f2, h1, k1, k2, k1', k2']
      cases n2
      · simp -implicitDefEqProofs [rc, f1, f2, h1, h2, k1, k2, k1', k2']
      cases n3
      · simp -implicitDefEqProofs [rc, f1, f2, h1, h2, h3, k1, k2, k1', k2']
      cases n4
      · simp -implicitDefEqProofs [rc, f1, f2, h1, h2, h3, h4, k1, k2, k1', k2']
      cases n5
      · simp -implicitDefEqProofs [rc, f1, f2, h1, h2, h3, h4, h5, k1, k2, k1', k2']
      by_cases k3 : l1 ≤ 30
      · have k3' : ¬ (30 : Int) < (l1 : Int) := by omega
        by_cases k4 : l2 ≤ 30
        · have k4' : ¬ (30 : Int) < (l2 : Int) := by omega
          cases b1 <;> simp only [Bool.false_eq_true, if_true, if_false] at hw1
          · simp -implicitDefEqProofs [rc, f1, f2, g1, g2, h1, h2, h3, h4, h5, k1, k2, k1', k2', k3, k3', k4, k4', hw1]
          · cases b2 <;> simp only [Bool.false_eq_true, if_true, if_false] at hw2 <;> simp -implicitDefEqProofs [rc, f1, f2, g1, g2, h1, h2, h3, h4, h5, k1, k2, k1', k2', k3, k3', k4, k4', hw1, hw2]
        · simp -implicitDefEqProofs [rc, f1, f2, g1, g2, h1, h2, h3, h4, h5, k1, k2, k1', k2', k3, k3', k4, show (30 : Int) < (l2 : Int) by omega]
      · simp -implicitDefEqProofs [rc, f1, f2, g1, g2, h1, h2, h3, h4, h5, k1, k2, k1', k2', k3, show (30 : Int) < (l1 : Int) by omega]
    · simp -implicitDefEqProofs [rc, f1, f2, k1, k2, show ¬ code < 0 by omega, show 14 < code by omega]
  · simp -implicitDefEqProofs [rc, f1, f2, k1, show code < 0 by omega]
end Go.Proofs.Ytenndgooepdmiaa
