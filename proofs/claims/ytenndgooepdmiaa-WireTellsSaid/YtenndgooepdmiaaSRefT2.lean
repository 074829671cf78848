/- Replies as bytes by the reference. -/
import Derived.Test.YtenndgooepdmiaaSRefT1
namespace Go.Proofs.Ytenndgooepdmiaa
open Go Go.AM Go.Proofs
set_option maxRecDepth 20000
set_option maxHeartbeats 2000000
set_option linter.unusedSimpArgs false
set_option linter.unusedVariables false
theorem putKV_ev (x : KV) (h : kvOk x = true) (H : List Blk) : EvF tab 59 [A x.c] H = some ⟨T (encKV x), [], []⟩ := by
  have hlen := encKV_len h
  obtain ⟨⟨h1, h2⟩, h3, h4, h5, h6⟩ := kvOk_iff.1 h
  refine EvF_walk t59 (by simp) ?_
  unfold encKV at hlen ⊢
  have p1 := putS_ev x.key (by omega)
  have p2 := putS_ev x.value (by omega)
  have p3 := putN_ev x.create (by omega) (by omega)
  have p4 := putN_ev x.mod (by omega) (by omega)
  have p5 := putN_ev x.version (by omega) (by omega)
  have p6 := putN_ev x.lease (by omega) (by omega)
  generalize encS x.key = v1 at p1 hlen ⊢
  generalize encS x.value = v2 at p2 hlen ⊢
  generalize encN x.create = v3 at p3 hlen ⊢
  generalize encN x.mod = v4 at p4 hlen ⊢
  generalize encN x.version = v5 at p5 hlen ⊢
  generalize encN x.lease = v6 at p6 hlen ⊢
  simp only [List.length_append] at hlen
  simp only [List.append_assoc]
  simp -implicitDefEqProofs [A, KV.c, p1, p2, p3, p4, p5, p6, List.append_assoc]
  omega
theorem T2_loop0 (r : Reply) (l : List KV) (hl : l.length ≤ 30) (hs : ∀ x ∈ l, kvOk x = true) {H : List Blk} {v1 v2 : AV} (hr : Rp 6 KV.c H v1 l) (b : Bs) (hb : b.length ≤ 1000) :
    loopE (EvF tab) H L20_0 [1, 4, 5] ⟨[(1, .ptr H.length 0), (4, T b), (5, I 0)], [], [.cells (rc r v1 v2)]⟩ = some (.exit 0, ⟨[(1, .ptr H.length 0), (4, T (b ++ (l.map encKV).flatten)), (5, I l.length), (47, B false)], [], [.cells (rc r v1 v2)]⟩) := by
  have hw := loop_fold (E := EvF tab) (h := H) (c := L20_0) (lv := [1, 4, 5]) (l := l) (β := Bs) (fun k b => b.length ≤ 1000 + k * 120) (fun b x => b ++ encKV x)
    (fun k b => ⟨[(1, .ptr H.length 0), (4, T b), (5, I k)], [], [.cells (rc r v1 v2)]⟩) (fun b => (.exit 0, ⟨[(1, .ptr H.length 0), (4, T b), (5, I l.length), (47, B false)], [], [.cells (rc r v1 v2)]⟩)) (by simp) (fun k x b hk hx hy hi => ?_) (fun b _ => by
      delta L20_0
      have g1 := hr.len
      simp -implicitDefEqProofs [rc, g1]) b (by simpa using hb)
  · rw [foldl_app] at hw
    exact hw
  · have hok := hs x (List.mem_of_getElem? hx)
    have hlen := encKV_len hok
    have e2 := wrap_succ hk (by omega)
    have g1 := hr.len
    refine ⟨by simp; omega, ?_⟩
    delta L20_0
    have p1 := fun H => putKV_ev x hok H
    generalize encKV x = v at p1 hlen ⊢
    have q1 : b.length + v.length ≤ 9223372036854775807 := by omega
    simp only [A, KV.c, List.map_cons, List.map_nil] at p1
    rcases hr with ⟨rfl, rfl⟩ | rfl | ⟨rid, g, rfl, hp, hp2⟩
    · simp at hk
    · simp -implicitDefEqProofs [rc, hk, hy, KV.c, p1, e2, q1]
    · simp -implicitDefEqProofs [rc, hk, hy, KV.c, p1, e2, q1, hp, hp2, getB_old, orB]
theorem T2_loop1 (r : Reply) (l : List Ev) (hl : l.length ≤ 30) (hs : ∀ x ∈ l, evOk x = true) {H : List Blk} {v1 v2 : AV} (hr : Rp 8 Ev.c H v2 l) (b : Bs) (hb : b.length ≤ 10000) :
    loopE (EvF tab) H L20_1 [1, 4, 6] ⟨[(1, .ptr H.length 0), (4, T b), (6, I 0)], [], [.cells (rc r v1 v2)]⟩ = some (.exit 2, ⟨[(1, .ptr H.length 0), (4, T (b ++ (l.map encEv).flatten)), (6, I l.length), (68, B false)], [], [.cells (rc r v1 v2)]⟩) := by
  have hw := loop_fold (E := EvF tab) (h := H) (c := L20_1) (lv := [1, 4, 6]) (l := l) (β := Bs) (fun k b => b.length ≤ 10000 + k * 131) (fun b x => b ++ encEv x)
    (fun k b => ⟨[(1, .ptr H.length 0), (4, T b), (6, I k)], [], [.cells (rc r v1 v2)]⟩) (fun b => (.exit 2, ⟨[(1, .ptr H.length 0), (4, T b), (6, I l.length), (68, B false)], [], [.cells (rc r v1 v2)]⟩)) (by simp) (fun k x b hk hx hy hi => ?_) (fun b _ => by
      delta L20_1
      have g1 := hr.len
      simp -implicitDefEqProofs [rc, g1]) b (by simpa using hb)
  · rw [foldl_app] at hw
    exact hw
  · have hok := hs x (List.mem_of_getElem? hx)
    have hlen := encEv_len hok
    obtain ⟨h1, h2, h3⟩ := evOk_iff.1 hok
    have e2 := wrap_succ hk (by omega)
    have g1 := hr.len
    refine ⟨by simp; omega, ?_⟩
    delta L20_1
    unfold encEv at hlen ⊢
    have p1 := putN_ev x.rev (by omega) (by omega)
    have p2 := putB_ev x.gone
    have p3 := fun H => putKV_ev x.kv h1 H
    generalize encN x.rev = w1 at p1 hlen ⊢
    generalize encB x.gone = w2 at p2 hlen ⊢
    generalize encKV x.kv = w3 at p3 hlen ⊢
    simp only [List.length_append] at hlen
    have q1 : b.length + w1.length ≤ 9223372036854775807 := by omega
    have q2 : b.length + w1.length + w2.length ≤ 9223372036854775807 := by omega
    have q2' : b.length + (w1.length + w2.length) ≤ 9223372036854775807 := by omega
    have q3 : b.length + w1.length + w2.length + w3.length ≤ 9223372036854775807 := by omega
    have q3' : b.length + (w1.length + w2.length) + w3.length ≤ 9223372036854775807 := by omega
    simp only [A, KV.c, List.map_cons, List.map_nil] at p3
    rcases hr with ⟨rfl, rfl⟩ | rfl | ⟨rid, g, rfl, hp, hp2⟩
    · simp at hk
    · simp -implicitDefEqProofs [rc, hk, hy, Ev.c, p1, p2, p3, e2, q1, q2, q3, q2', q3']
    · have hlv : ∀ o, isLiveB (H ++ o) rid = true := fun o => by
        unfold isLiveB; rw [List.getElem?_append_left hp, List.getElem?_eq_getElem hp, hp2]; rfl
      simp -implicitDefEqProofs [rc, hk, hy, Ev.c, p1, p2, p3, e2, q1, q2, q3, q2', q3', hp, hp2, getB_old, orB, hlv]
theorem Tell2_ev (r : Reply) (w : RP r) {H : List Blk} {v1 v2 : AV} (hr1 : Rp 6 KV.c H v1 r.kvs.l) (hr2 : Rp 8 Ev.c H v2 r.events.l) : EvF tab 20 [.agg (rc r v1 v2)] H = some ⟨.tup (if repOk r = true then [T (encTell r), B true] else [T [], B false]), [], []⟩ := by
  have hm := fun o => MayTell2_ev r w (hr1.app o) (hr2.app o)
  have f1 := hr1.leaf
  have f2 := hr2.leaf
  have g1 := hr1.len
  have g2 := hr2.len
  refine EvF_walk t20 (by simp) ?_
  cases hok : repOk r
  · rw [hok] at hm
    obtain ⟨code, who, seq, rev, lease, ttl, yes, kvs, events⟩ := r
    simp only [rc] at hm
    simp -implicitDefEqProofs [rc, f1, f2, hm]
  · rw [hok] at hm
    have h := repOk_iff hok
    have hd := encTHead_len h
    have c1 := flat_len (f := encKV) r.kvs.l (fun x hx => encKV_len (h.i2 x hx))
    have c2 := flat_len (f := encEv) r.events.l (fun x hx => encEv_len (h.j2 x hx))
    have i1 := h.i1
    have j1 := h.j1
    have hle := encN_len r.events.l.length (by omega)
    have hw := T2_loop0 r r.kvs.l h.i1 h.i2 (v2 := v2) hr1 (encTHead r) (by omega)
    have hw2 := T2_loop1 r r.events.l h.j1 h.j2 (v1 := v1) hr2 (encTHead r ++ (r.kvs.l.map encKV).flatten ++ encN r.events.l.length) (by simp only [List.length_append]; omega)
    have p1 := putN_ev r.code h.k1 (by have := h.k2; omega)
    have p2 := putN_ev r.who h.n1.1 (by have := h.n1; omega)
    have p3 := putN_ev r.seq h.n2.1 (by have := h.n2; omega)
    have p4 := putN_ev r.rev h.n3.1 (by have := h.n3; omega)
    have p5 := putN_ev r.lease h.n4.1 (by have := h.n4; omega)
    have p6 := putN_ev r.ttl h.n5.1 (by have := h.n5; omega)
    have p7 := putB_ev r.yes
    have p8 := putN_ev (r.kvs.l.length : Int) (by omega) (by omega)
    have p9 := putN_ev (r.events.l.length : Int) (by omega) (by omega)
    unfold encTell
    have eh : encTHead r = [2] ++ encN r.code ++ encN r.who ++ encN r.seq ++ encN r.rev ++ encN r.lease ++ encN r.ttl ++ encB r.yes ++ encN r.kvs.l.length := rfl
    obtain ⟨code, who, seq, rev, lease, ttl, yes, kvs, events⟩ := r
    simp only at hw hw2 c1 c2 g1 g2 hle i1 j1 p1 p2 p3 p4 p5 p6 p7 p8 p9 eh ⊢
    rw [eh] at hd hw hw2 ⊢
    simp only [rc] at hw hw2 hm
    generalize (kvs.l.map encKV).flatten = u1 at hw hw2 c1 ⊢
    generalize (events.l.map encEv).flatten = u2 at hw2 c2 ⊢
    generalize encN code = w1 at p1 hd hw hw2 ⊢
    generalize encN who = w2 at p2 hd hw hw2 ⊢
    generalize encN seq = w3 at p3 hd hw hw2 ⊢
    generalize encN rev = w4 at p4 hd hw hw2 ⊢
    generalize encN lease = w5 at p5 hd hw hw2 ⊢
    generalize encN ttl = w6 at p6 hd hw hw2 ⊢
    generalize encB yes = w7 at p7 hd hw hw2 ⊢
    generalize encN (kvs.l.length : Int) = w8 at p8 hd hw hw2 ⊢
    generalize encN (events.l.length : Int) = w9 at p9 hle hw2 ⊢
    simp only [List.length_append, List.length_cons, List.length_nil] at hd
    simp only [List.append_assoc, List.cons_append, List.nil_append] at hw hw2 ⊢
    simp -implicitDefEqProofs [rc, f1, f2, g1, g2, hm, p1, p2, p3, p4, p5, p6, p7, p8, p9, hw, hw2]
    omega
end Go.Proofs.Ytenndgooepdmiaa
