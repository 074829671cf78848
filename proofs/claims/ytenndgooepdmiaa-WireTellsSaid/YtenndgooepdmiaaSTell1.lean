/- Replies: which may be, and keys written. -/
import Derived.Test.YtenndgooepdmiaaSAsk
namespace Go.Proofs.Ytenndgooepdmiaa
open Go Go.AM Go.Proofs
set_option maxRecDepth 20000
set_option maxHeartbeats 1000000
set_option linter.unusedSimpArgs false
set_option linter.unusedVariables false
def kvsOk (s : Sl KV) : Bool := decide (s.l.length ≤ 30) && s.l.all kvOk
def evsOk (s : Sl Ev) : Bool := decide (s.l.length ≤ 30) && s.l.all evOk
def repOk (r : Reply) : Bool := (decide (0 ≤ r.code) && decide (r.code ≤ 14)) && (numOk r.who && (numOk r.seq && (numOk r.rev && (numOk r.lease && numOk r.ttl)))) && kvsOk r.kvs && evsOk r.events
theorem mayKV_ev (m : KV) (H : List Blk) : EvF tab 66 [A m.c] H = some ⟨B (kvOk m), [], []⟩ := by
  refine EvF_walk t66 (by simp) ?_
  unfold kvOk
  have ht := texts_ev m.key m.value
  have hn := number_ev [m.create, m.mod, m.version, m.lease] (by simp)
  have e : ([m.create, m.mod, m.version, m.lease].all numOk) = (numOk m.create && (numOk m.mod && (numOk m.version && numOk m.lease))) := by simp only [List.all_cons, List.all_nil, Bool.and_true]
  rw [e] at hn
  simp only [ints, List.map_cons, List.map_nil] at hn
  generalize txtOk m.key m.value = b1 at ht ⊢
  generalize (numOk m.create && (numOk m.mod && (numOk m.version && numOk m.lease))) = b2 at hn ⊢
  cases b1 <;> simp -implicitDefEqProofs [A, KV.c, ht, hn, chunk]
theorem mayEvent_ev (m : Ev) (H : List Blk) : EvF tab 68 [A m.c] H = some ⟨B (evOk m), [], []⟩ := by
  refine EvF_walk t68 (by simp) ?_
  unfold evOk
  have ht := fun H => mayKV_ev m.kv H
  have hn := num_one m.rev
  generalize kvOk m.kv = b1 at ht ⊢
  generalize numOk m.rev = b2 at hn ⊢
  simp only [A, KV.c, List.map_cons, List.map_nil] at ht
  cases b1 <;> simp -implicitDefEqProofs [A, Ev.c, ht, hn, chunk]
theorem allKV1_ev (c : KV) {H : List Blk} {p : Nat} (hp : H[p]? = some (.cells [.g (.fn 66)])) : EvF tab 84 [A c.c, .ptr p 0] H = some ⟨B (!kvOk c), [], []⟩ := by
  refine EvF_walk t84 (by simp) ?_
  have hpl : p < H.length := (List.getElem?_eq_some_iff.1 hp).1
  have hp2 := (List.getElem?_eq_some_iff.1 hp).2
  have hm := fun H => mayKV_ev c H
  obtain ⟨b, eb⟩ : ∃ b, kvOk c = b := ⟨_, rfl⟩
  rw [eb] at hm ⊢
  simp only [A, KV.c, List.map_cons, List.map_nil] at hm
  simp -implicitDefEqProofs [A, KV.c, hp2, hpl, getB_old, orB, hm]
theorem allEv1_ev (c : Ev) {H : List Blk} {p : Nat} (hp : H[p]? = some (.cells [.g (.fn 68)])) : EvF tab 86 [A c.c, .ptr p 0] H = some ⟨B (!evOk c), [], []⟩ := by
  refine EvF_walk t86 (by simp) ?_
  have hpl : p < H.length := (List.getElem?_eq_some_iff.1 hp).1
  have hp2 := (List.getElem?_eq_some_iff.1 hp).2
  have hm := fun H => mayEvent_ev c H
  obtain ⟨b, eb⟩ : ∃ b, evOk c = b := ⟨_, rfl⟩
  rw [eb] at hm ⊢
  simp only [A, Ev.c, List.map_cons, List.map_nil] at hm
  simp -implicitDefEqProofs [A, Ev.c, hp2, hpl, getB_old, orB, hm]
theorem allKV_ev (s : Sl KV) (hl : s.l.length ≤ 9223372036854775807) (H : List Blk) : EvF tab 65 [.g (KVs.g s), I 30, .g (.fn 66)] H = some ⟨B (kvsOk s), [], []⟩ := by
  have hc := contains_ev (Tb := tab) (f := 83) (g := 91) (agg := true) (n := 6) (c := KV.c) t83 t91 (fun x => A x.c) (fun x => !kvOk x) (.fv 84 [.ptr H.length 0]) s hl (H ++ [.cells [.g (.fn 66)]]) (fun x => by simp [A, KV.c]) (fun x _ t => by
    have h1 := allKV1_ev x (H := H ++ [.cells [.g (.fn 66)]]) (p := H.length) (by simp)
    simp -implicitDefEqProofs [h1])
  refine EvF_walk t65 (by simp) ?_
  unfold kvsOk
  rw [all_any]
  generalize (s.l.any fun x => !kvOk x) = b at hc ⊢
  by_cases h1 : s.l.length ≤ 30
  · simp -implicitDefEqProofs [hc, h1, show (s.l.length : Int) ≤ 30 by omega]
  · simp -implicitDefEqProofs [hc, h1, show ¬ (s.l.length : Int) ≤ 30 by omega]
theorem allEv_ev (s : Sl Ev) (hl : s.l.length ≤ 9223372036854775807) (H : List Blk) : EvF tab 67 [.g (Evs.g s), I 30, .g (.fn 68)] H = some ⟨B (evsOk s), [], []⟩ := by
  have hc := contains_ev (Tb := tab) (f := 85) (g := 92) (agg := true) (n := 8) (c := Ev.c) t85 t92 (fun x => A x.c) (fun x => !evOk x) (.fv 86 [.ptr H.length 0]) s hl (H ++ [.cells [.g (.fn 68)]]) (fun x => by simp [A, Ev.c]) (fun x _ t => by
    have h1 := allEv1_ev x (H := H ++ [.cells [.g (.fn 68)]]) (p := H.length) (by simp)
    simp -implicitDefEqProofs [h1])
  refine EvF_walk t67 (by simp) ?_
  unfold evsOk
  rw [all_any]
  generalize (s.l.any fun x => !evOk x) = b at hc ⊢
  by_cases h1 : s.l.length ≤ 30
  · simp -implicitDefEqProofs [hc, h1, show (s.l.length : Int) ≤ 30 by omega]
  · simp -implicitDefEqProofs [hc, h1, show ¬ (s.l.length : Int) ≤ 30 by omega]
/-- The lists of a reply, so many things at most. -/
def RP (r : Reply) : Prop := r.kvs.l.length ≤ 9223372036854775807 ∧ r.events.l.length ≤ 9223372036854775807
theorem rp {r : Reply} (w : r.wf) : RP r := ⟨w.2.2.2.2.2.2.1.2, w.2.2.2.2.2.2.2.2⟩
theorem MayTell_ev (r : Reply) (w : RP r) (H : List Blk) : EvF tab 23 [A r.c] H = some ⟨B (repOk r), [], []⟩ := by
  have hn := number_ev [r.who, r.seq, r.rev, r.lease, r.ttl] (by simp)
  have e : ([r.who, r.seq, r.rev, r.lease, r.ttl].all numOk) = (numOk r.who && (numOk r.seq && (numOk r.rev && (numOk r.lease && numOk r.ttl)))) := by simp only [List.all_cons, List.all_nil, Bool.and_true]
  rw [e] at hn
  simp only [ints, List.map_cons, List.map_nil] at hn
  have hc := allKV_ev r.kvs w.1
  have hm1 := allEv_ev r.events w.2
  refine EvF_walk t23 (by simp) ?_
  unfold repOk
  generalize (numOk r.who && (numOk r.seq && (numOk r.rev && (numOk r.lease && numOk r.ttl)))) = b2 at hn ⊢
  generalize kvsOk r.kvs = b3 at hc ⊢
  generalize evsOk r.events = b4 at hm1 ⊢
  generalize hG1 : KVs.g r.kvs = G1 at hc
  generalize hG2 : Evs.g r.events = G2 at hm1
  by_cases h1 : 0 ≤ r.code
  · by_cases h2 : r.code ≤ 14
    · cases b2
      · simp -implicitDefEqProofs [A, Reply.c, hG1, hG2, hn, chunk, h1, h2, show ¬ r.code < 0 by omega, show ¬ 14 < r.code by omega]
      · cases b3
        · simp -implicitDefEqProofs [A, Reply.c, hG1, hG2, hn, hc, chunk, h1, h2, show ¬ r.code < 0 by omega, show ¬ 14 < r.code by omega]
        · simp -implicitDefEqProofs [A, Reply.c, hG1, hG2, hn, hc, hm1, chunk, h1, h2, show ¬ r.code < 0 by omega, show ¬ 14 < r.code by omega]
    · simp -implicitDefEqProofs [A, Reply.c, hG1, hG2, h1, h2, show ¬ r.code < 0 by omega, show 14 < r.code by omega]
  · simp -implicitDefEqProofs [A, Reply.c, hG1, hG2, h1, show r.code < 0 by omega]
theorem encKV_len {x : KV} (h : kvOk x = true) : (encKV x).length ≤ 120 := by
  obtain ⟨⟨h1, h2⟩, h3, h4, h5, h6⟩ := kvOk_iff.1 h
  have a1 := encS_len x.key (by omega)
  have a2 := encS_len x.value (by omega)
  have a3 := encN_len x.create (by omega)
  have a4 := encN_len x.mod (by omega)
  have a5 := encN_len x.version (by omega)
  have a6 := encN_len x.lease (by omega)
  simp only [encKV, List.length_append]; omega
theorem encEv_len {x : Ev} (h : evOk x = true) : (encEv x).length ≤ 131 := by
  obtain ⟨h1, h2, h3⟩ := evOk_iff.1 h
  have a1 := encKV_len h1
  have a2 := encN_len x.rev (by omega)
  have a3 := encB_len x.gone
  simp only [encEv, List.length_append]; omega
theorem kv_ev {H : List Blk} {fr : Bool} {p q g : Nat} {s : Bs} (w : Wr H fr p q g s) (x : KV) (h : kvOk x = true) (hr : s.length ≤ 100000000) :
    EvF tab 58 [.ptr p 0, A x.c] H = some ⟨.tup [], mPQ (!fr) p q (g + gT [x.key, x.value] + 4) (s ++ encKV x), []⟩ := by
  obtain ⟨hpl, hql, hne⟩ := w.lt
  have hlen := encKV_len h
  obtain ⟨⟨h1, h2⟩, h3, h4, h5, h6⟩ := kvOk_iff.1 h
  have t1 := t_ev (w.app [.cells (x.c.map .g)]) [x.key, x.value] (by simp) (by simp) (by
    rw [encT2]; simp only [encKV, List.length_append] at hlen ⊢; omega)
  rw [encT2] at t1
  have n1 := n_ev ((w.set1 (g + gT [x.key, x.value]) (s ++ (encS x.key ++ encS x.value))).app ([.cells (x.c.map .g)])) [x.create, x.mod, x.version, x.lease] (by simp) (fun y hy => by simp at hy; rcases hy with rfl | rfl | rfl | rfl <;> omega) (by simp) (by
    rw [encL4]; simp only [encKV, List.length_append] at hlen ⊢; omega)
  have n2 := n_ev ((w.set2 (g + gT [x.key, x.value]) (s ++ (encS x.key ++ encS x.value))).app ([.cells (x.c.map .g)])) [x.create, x.mod, x.version, x.lease] (by simp) (fun y hy => by simp at hy; rcases hy with rfl | rfl | rfl | rfl <;> omega) (by simp) (by
    rw [encL4]; simp only [encKV, List.length_append] at hlen ⊢; omega)
  rw [encL4] at n1 n2
  refine EvF_walk t58 (by simp) ?_
  unfold encKV
  generalize gT [x.key, x.value] = gk at t1 n1 n2 ⊢
  generalize encS x.key = v2 at t1 n1 n2 ⊢
  generalize encS x.value = v3 at t1 n1 n2 ⊢
  generalize encN x.create = v4 at n1 n2 ⊢
  generalize encN x.mod = v5 at n1 n2 ⊢
  generalize encN x.version = v6 at n1 n2 ⊢
  generalize encN x.lease = v7 at n1 n2 ⊢
  simp only [List.append_assoc] at t1 n1 n2 ⊢
  simp only [ints, txts, KV.c, List.map_cons, List.map_nil, List.length_cons, List.length_nil, Nat.zero_add] at t1 n1 n2 ⊢
  have hlt := @mPQ_lt1 H.length p q (g + gk + 4) (s ++ (v2 ++ (v3 ++ (v4 ++ (v5 ++ (v6 ++ v7)))))) fr hpl hql
  cases fr
  · simp -implicitDefEqProofs [mPQ, A, KV.c, chunk, t1, n1, n2, hpl, hql, hne, Ne.symm hne, setB_old, updM]
  · simp -implicitDefEqProofs [mPQ, A, KV.c, chunk, t1, n1, n2, hpl, hql, hne, Ne.symm hne, setB_old, updM]
end Go.Proofs.Ytenndgooepdmiaa
