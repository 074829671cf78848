/- Replies as bytes: Tell. -/
import Derived.Test.YtenndgooepdmiaaSTell1
namespace Go.Proofs.Ytenndgooepdmiaa
open Go Go.AM Go.Proofs
set_option maxRecDepth 20000
set_option maxHeartbeats 1000000
set_option linter.unusedSimpArgs false
set_option linter.unusedVariables false
theorem encL7 (a b c d e f g : Int) : encL [a, b, c, d, e, f, g] = encN a ++ (encN b ++ (encN c ++ (encN d ++ (encN e ++ (encN f ++ encN g))))) := by simp [encL]
theorem encN2 : encN 2 = [2] := by unfold encN varB; rw [varI, varL]; rfl
def encTHead (r : Reply) : Bs := [2] ++ encN r.code ++ encN r.who ++ encN r.seq ++ encN r.rev ++ encN r.lease ++ encN r.ttl ++ encB r.yes ++ encN r.kvs.l.length
def encTell (r : Reply) : Bs := encTHead r ++ (r.kvs.l.map encKV).flatten ++ (encN r.events.l.length ++ (r.events.l.map encEv).flatten)
theorem flat_len {α : Type} {f : α → Bs} {n : Nat} : ∀ (l : List α), (∀ x ∈ l, (f x).length ≤ n) → ((l.map f).flatten).length ≤ n * l.length := by
  intro l
  induction l with
  | nil => intro _; simp
  | cons x l ih =>
    intro h
    have h1 := h x (by simp)
    have h2 := ih fun y hy => h y (by simp [hy])
    simp only [List.map_cons, List.flatten_cons, List.length_append, List.length_cons, Nat.mul_add, Nat.mul_one]; omega
structure RepOk (r : Reply) : Prop where
  k1 : 0 ≤ r.code
  k2 : r.code ≤ 14
  n1 : 0 ≤ r.who ∧ r.who ≤ 1099511627775
  n2 : 0 ≤ r.seq ∧ r.seq ≤ 1099511627775
  n3 : 0 ≤ r.rev ∧ r.rev ≤ 1099511627775
  n4 : 0 ≤ r.lease ∧ r.lease ≤ 1099511627775
  n5 : 0 ≤ r.ttl ∧ r.ttl ≤ 1099511627775
  i1 : r.kvs.l.length ≤ 30
  i2 : ∀ x ∈ r.kvs.l, kvOk x = true
  j1 : r.events.l.length ≤ 30
  j2 : ∀ x ∈ r.events.l, evOk x = true
theorem repOk_iff {r : Reply} (h : repOk r = true) : RepOk r := by
  simp only [repOk, kvsOk, evsOk, Bool.and_eq_true, decide_eq_true_eq, numOk_iff] at h
  obtain ⟨⟨⟨⟨k1, k2⟩, n1, n2, n3, n4, n5⟩, i1, i2⟩, j1, j2⟩ := h
  exact ⟨k1, k2, n1, n2, n3, n4, n5, i1, by simpa using i2, j1, by simpa using j2⟩
theorem encTHead_len {r : Reply} (h : RepOk r) : (encTHead r).length ≤ 200 := by
  have a3 := encN_len r.code (by have := h.k2; omega)
  have a4 := encN_len r.who (by have := h.n1; omega)
  have a5 := encN_len r.seq (by have := h.n2; omega)
  have a6 := encN_len r.rev (by have := h.n3; omega)
  have a7 := encN_len r.lease (by have := h.n4; omega)
  have a8 := encN_len r.ttl (by have := h.n5; omega)
  have b1 := encN_len r.kvs.l.length (by have := h.i1; omega)
  have b2 := encB_len r.yes
  simp only [encTHead, List.length_append, List.length_cons, List.length_nil]; omega
def stKV (a : Nat × Bs) (x : KV) : Nat × Bs := (a.1 + gT [x.key, x.value] + 4, a.2 ++ encKV x)
def stEv (a : Nat × Bs) (x : Ev) : Nat × Bs := (a.1 + 1 + 1 + gT [x.kv.key, x.kv.value] + 4, a.2 ++ encEv x)
theorem foldKV : ∀ (l : List KV) (a : Nat × Bs), (l.foldl stKV a).2 = a.2 ++ (l.map encKV).flatten ∧ a.1 ≤ (l.foldl stKV a).1
  | [], a => by simp
  | x :: l, a => by
    obtain ⟨h1, h2⟩ := foldKV l (stKV a x)
    simp only [List.foldl_cons, h1]
    refine ⟨by simp [stKV], ?_⟩
    have : a.1 ≤ (stKV a x).1 := by simp only [stKV]; omega
    omega
theorem foldEv : ∀ (l : List Ev) (a : Nat × Bs), (l.foldl stEv a).2 = a.2 ++ (l.map encEv).flatten ∧ a.1 ≤ (l.foldl stEv a).1
  | [], a => by simp
  | x :: l, a => by
    obtain ⟨h1, h2⟩ := foldEv l (stEv a x)
    simp only [List.foldl_cons, h1]
    refine ⟨by simp [stEv], ?_⟩
    have : a.1 ≤ (stEv a x).1 := by simp only [stEv]; omega
    omega
theorem runG_fold {α β : Type} (f : β → α → β) : ∀ (l : List α) (k : Nat) (b : β), runG (γ := Unit) (fun k (x : α) b => .inl (f b x)) k l b = .inl (l.foldl f b) := by
  intro l
  induction l with
  | nil => intro k b; simp [runG]
  | cons x l ih => intro k b; simp only [runG, ih]; simp
theorem kvs_step {H : List Blk} (B0 : Blk) (l : List KV) (k : Nat) (hk : k < l.length) (hl : l.length ≤ 30) (hok : kvOk l[k] = true) (g : Nat) (s : Bs) (hr : s.length ≤ 100000000) (o : List Blk) :
    kpN [1, 4, 35, 36, 37] (evCode (EvF tab) H L19_0 ⟨[(1, .ptr H.length 0), (4, .ptr (H.length + 2) 0), (35, .g (.sl 6 (l.map KV.c))), (36, I l.length), (37, I k)], [], B0 :: wR g s :: wB (.ptr (H.length + 2) 0) (H.length + 1) g s :: o⟩) =
      some (.normal, ⟨[(1, .ptr H.length 0), (4, .ptr (H.length + 2) 0), (35, .g (.sl 6 (l.map KV.c))), (36, I l.length), (37, I (k + 1 : Nat))], [], B0 :: wR (stKV (g, s) l[k]).1 (stKV (g, s) l[k]).2 :: wB (.ptr (H.length + 2) 0) (H.length + 1) (stKV (g, s) l[k]).1 (stKV (g, s) l[k]).2 :: (o ++ [.cells (l[k].c.map .g)])⟩) := by
  have e2 := wrap_succ hk (by omega : l.length ≤ 9223372036854775807)
  obtain ⟨x, ex⟩ : ∃ x, l[k] = x := ⟨_, rfl⟩
  rw [ex] at hok ⊢
  have t1 := kv_ev (Wr.ownF H B0 g s (o ++ [.cells (x.c.map .g)])) x hok (by omega)
  unfold stKV
  simp only
  generalize gT [x.key, x.value] = g1 at t1 ⊢
  generalize encKV x = v1 at t1 ⊢
  simp only [A, KV.c, List.map_cons, List.map_nil] at t1 ⊢
  delta L19_0
  simp -implicitDefEqProofs [mPQ, hk, ex, KV.c, chunk, t1, e2]
theorem kvs_loop {H : List Blk} (B0 : Blk) (sl : Sl KV) (hl : sl.l.length ≤ 30) (hok : ∀ x ∈ sl.l, kvOk x = true) (g : Nat) (s : Bs) (hr : s.length ≤ 90000000) :
    ∃ o' g', g ≤ g' ∧ loopE (EvF tab) H L19_0 [1, 4, 35, 36, 37] ⟨[(1, .ptr H.length 0), (4, .ptr (H.length + 2) 0), (35, .g (KVs.g sl)), (36, I sl.l.length), (37, I 0)], [], [B0, wR g s, wB (.ptr (H.length + 2) 0) (H.length + 1) g s]⟩ =
      some (.exit 0, ⟨[(1, .ptr H.length 0), (4, .ptr (H.length + 2) 0), (35, .g (KVs.g sl)), (36, I sl.l.length), (37, I sl.l.length), (38, B false)], [], B0 :: wR g' (s ++ (sl.l.map encKV).flatten) :: wB (.ptr (H.length + 2) 0) (H.length + 1) g' (s ++ (sl.l.map encKV).flatten) :: o'⟩) := by
  cases sl with
  | nil =>
    refine ⟨[], g, Nat.le_refl _, ?_⟩
    refine loopE_out _ _ _ _ _ _ (by simp) ?_
    delta L19_0
    simp -implicitDefEqProofs
  | of l =>
    simp only [Sl.l_of] at hl hok ⊢
    have hw := loop_runJ (E := EvF tab) (h := H) (c := L19_0) (lv := [1, 4, 35, 36, 37]) (l := l) (β := Nat × Bs) (γ := Unit) (fun k b => b.2.length ≤ 90000000 + k * 120) (fun k x b => .inl (stKV b x))
      (fun k b o => ⟨[(1, .ptr H.length 0), (4, .ptr (H.length + 2) 0), (35, .g (.sl 6 (l.map KV.c))), (36, I l.length), (37, I k)], [], B0 :: wR b.1 b.2 :: wB (.ptr (H.length + 2) 0) (H.length + 1) b.1 b.2 :: o⟩)
      (fun b o => (.exit 0, ⟨[(1, .ptr H.length 0), (4, .ptr (H.length + 2) 0), (35, .g (.sl 6 (l.map KV.c))), (36, I l.length), (37, I l.length), (38, B false)], [], B0 :: wR b.1 b.2 :: wB (.ptr (H.length + 2) 0) (H.length + 1) b.1 b.2 :: o⟩)) (fun _ o => (.ret, ⟨[], [], o⟩)) (by simp) (by simp) (fun k x b o hk hx hy hi => ?_) (fun b o _ => by delta L19_0; simp -implicitDefEqProofs) (g, s) [] (by simpa using hr)
    · obtain ⟨o', hw⟩ := hw
      refine ⟨o', _, (foldKV l (g, s)).2, ?_⟩
      rw [runG_fold] at hw
      have e0 : ((0 : Nat) : Int) = 0 := rfl
      simp only [e0, endJ] at hw
      rw [(foldKV l (g, s)).1] at hw
      exact hw
    · have hm := hok x (List.mem_of_getElem? hx)
      have hlen := encKV_len hm
      subst hy
      refine ⟨by simp [stKV]; omega, _, kvs_step B0 l k hk hl hm b.1 b.2 (by omega) o⟩
theorem evs_step {H : List Blk} (B0 : Blk) (l : List Ev) (k : Nat) (hk : k < l.length) (hl : l.length ≤ 30) (hok : evOk l[k] = true) (g : Nat) (s : Bs) (hr : s.length ≤ 90000000) (o : List Blk) :
    kpN [4, 50, 51, 52] (evCode (EvF tab) H L19_1 ⟨[(4, .ptr (H.length + 2) 0), (50, .g (.sl 8 (l.map Ev.c))), (51, I l.length), (52, I k)], [], B0 :: wR g s :: wB (.ptr (H.length + 2) 0) (H.length + 1) g s :: o⟩) =
      some (.normal, ⟨[(4, .ptr (H.length + 2) 0), (50, .g (.sl 8 (l.map Ev.c))), (51, I l.length), (52, I (k + 1 : Nat))], [], B0 :: wR (stEv (g, s) l[k]).1 (stEv (g, s) l[k]).2 :: wB (.ptr (H.length + 2) 0) (H.length + 1) (stEv (g, s) l[k]).1 (stEv (g, s) l[k]).2 :: (o ++ [.cells (l[k].c.map .g)])⟩) := by
  have e2 := wrap_succ hk (by omega : l.length ≤ 9223372036854775807)
  obtain ⟨x, ex⟩ : ∃ x, l[k] = x := ⟨_, rfl⟩
  rw [ex] at hok ⊢
  have hlen := encEv_len hok
  obtain ⟨h1, h2, h3⟩ := evOk_iff.1 hok
  have n1 := n_ev (Wr.ownF H B0 g s (o ++ [.cells (x.c.map .g)])) [x.rev] (by simp) (fun y hy => by rw [List.mem_singleton.1 hy]; omega) (by simp) (by
    rw [encL1]; simp only [encEv, List.length_append] at hlen ⊢; omega)
  have b1 := b_ev (Wr.ownF H B0 (g + 1) (s ++ encN x.rev) (o ++ [.cells (x.c.map .g)])) x.gone (by simp only [encEv, List.length_append] at hlen ⊢; omega)
  have t1 := kv_ev (Wr.ownF H B0 (g + 1 + 1) (s ++ encN x.rev ++ encB x.gone) (o ++ [.cells (x.c.map .g)])) x.kv h1 (by simp only [encEv, List.length_append] at hlen ⊢; omega)
  rw [encL1] at n1
  unfold stEv encEv
  simp only
  generalize gT [x.kv.key, x.kv.value] = g1 at t1 ⊢
  generalize encKV x.kv = v1 at t1 ⊢
  generalize encN x.rev = v2 at n1 b1 t1 ⊢
  generalize encB x.gone = v3 at b1 t1 ⊢
  simp only [List.append_assoc] at n1 b1 t1 ⊢
  simp only [ints, A, KV.c, Ev.c, List.map_cons, List.map_nil, List.length_cons, List.length_nil, Nat.zero_add] at n1 b1 t1 ⊢
  delta L19_1
  simp -implicitDefEqProofs [mPQ, hk, ex, Ev.c, chunk, n1, b1, t1, e2]
theorem evs_loop {H : List Blk} (B0 : Blk) (sl : Sl Ev) (hl : sl.l.length ≤ 30) (hok : ∀ x ∈ sl.l, evOk x = true) (g : Nat) (s : Bs) (hr : s.length ≤ 80000000) (o : List Blk) :
    ∃ o' g', g ≤ g' ∧ loopE (EvF tab) H L19_1 [4, 50, 51, 52] ⟨[(4, .ptr (H.length + 2) 0), (50, .g (Evs.g sl)), (51, I sl.l.length), (52, I 0)], [], B0 :: wR g s :: wB (.ptr (H.length + 2) 0) (H.length + 1) g s :: o⟩ =
      some (.exit 2, ⟨[(4, .ptr (H.length + 2) 0), (50, .g (Evs.g sl)), (51, I sl.l.length), (52, I sl.l.length), (53, B false)], [], B0 :: wR g' (s ++ (sl.l.map encEv).flatten) :: wB (.ptr (H.length + 2) 0) (H.length + 1) g' (s ++ (sl.l.map encEv).flatten) :: o'⟩) := by
  cases sl with
  | nil =>
    refine ⟨o, g, Nat.le_refl _, ?_⟩
    refine loopE_out _ _ _ _ _ _ (by simp) ?_
    delta L19_1
    simp -implicitDefEqProofs
  | of l =>
    simp only [Sl.l_of] at hl hok ⊢
    have hw := loop_runJ (E := EvF tab) (h := H) (c := L19_1) (lv := [4, 50, 51, 52]) (l := l) (β := Nat × Bs) (γ := Unit) (fun k b => b.2.length ≤ 80000000 + k * 131) (fun k x b => .inl (stEv b x))
      (fun k b o => ⟨[(4, .ptr (H.length + 2) 0), (50, .g (.sl 8 (l.map Ev.c))), (51, I l.length), (52, I k)], [], B0 :: wR b.1 b.2 :: wB (.ptr (H.length + 2) 0) (H.length + 1) b.1 b.2 :: o⟩)
      (fun b o => (.exit 2, ⟨[(4, .ptr (H.length + 2) 0), (50, .g (.sl 8 (l.map Ev.c))), (51, I l.length), (52, I l.length), (53, B false)], [], B0 :: wR b.1 b.2 :: wB (.ptr (H.length + 2) 0) (H.length + 1) b.1 b.2 :: o⟩)) (fun _ o => (.ret, ⟨[], [], o⟩)) (by simp) (by simp) (fun k x b o hk hx hy hi => ?_) (fun b o _ => by delta L19_1; simp -implicitDefEqProofs) (g, s) o (by simpa using hr)
    · obtain ⟨o', hw⟩ := hw
      refine ⟨o', _, (foldEv l (g, s)).2, ?_⟩
      rw [runG_fold] at hw
      have e0 : ((0 : Nat) : Int) = 0 := rfl
      simp only [e0, endJ] at hw
      rw [(foldEv l (g, s)).1] at hw
      exact hw
    · have hm := hok x (List.mem_of_getElem? hx)
      have hlen := encEv_len hm
      subst hy
      refine ⟨by simp [stEv]; omega, _, evs_step B0 l k hk hl hm b.1 b.2 (by omega) o⟩
theorem Tell_ev (r : Reply) (w : RP r) (H : List Blk) : EvF tab 19 [A r.c] H = some ⟨.tup (if repOk r = true then [T (encTell r), B true] else [T [], B false]), [], []⟩ := by
  have hm := fun H => MayTell_ev r w H
  refine EvF_walk t19 (by simp) ?_
  cases hok : repOk r
  · rw [hok] at hm
    obtain ⟨code, who, seq, rev, lease, ttl, yes, kvs, events⟩ := r
    simp only [A, Reply.c, List.map_cons, List.map_nil] at hm
    simp -implicitDefEqProofs [A, Reply.c, hm]
  · rw [hok] at hm
    have h := repOk_iff hok
    have hd := encTHead_len h
    have c1 := flat_len (f := encKV) r.kvs.l (fun x hx => encKV_len (h.i2 x hx))
    have c2 := flat_len (f := encEv) r.events.l (fun x hx => encEv_len (h.j2 x hx))
    have hle := encN_len r.events.l.length (by have := h.j1; omega)
    obtain ⟨kk1, kk2, n1, n2, n3, n4, n5, i1, i2, j1, j2⟩ := h
    unfold encTell
    have eh : encTHead r = [2] ++ encN r.code ++ encN r.who ++ encN r.seq ++ encN r.rev ++ encN r.lease ++ encN r.ttl ++ encB r.yes ++ encN r.kvs.l.length := rfl
    obtain ⟨code, who, seq, rev, lease, ttl, yes, kvs, events⟩ := r
    simp only at n1 n2 n3 n4 n5 i1 i2 j1 j2 kk1 kk2 c1 c2 hle eh ⊢
    rw [eh] at hd ⊢
    simp only [List.length_append, List.length_cons, List.length_nil] at hd
    simp only [A, Reply.c, List.map_cons, List.map_nil] at hm
    obtain ⟨B0, eB⟩ : ∃ B0 : Blk, B0 = .cells (List.map AV.g [.int .i64 code, .int .i64 who, .int .i64 seq, .int .i64 rev, .int .i64 lease, .int .i64 ttl, .bool yes, KVs.g kvs, Evs.g events]) := ⟨_, rfl⟩
    have a1 := n_ev (Wr.ownT H B0 1 [] []) [2, code, who, seq, rev, lease, ttl] (by simp) (ints_ok (fun y hy => by simp at hy; rcases hy with rfl | rfl | rfl | rfl | rfl | rfl | rfl <;> omega)) (by simp) (by rw [encL7, encN2]; simp only [List.length_append, List.length_cons, List.length_nil]; omega)
    have a2 := b_ev (Wr.ownF H B0 8 (encL [2, code, who, seq, rev, lease, ttl]) []) yes (by rw [encL7, encN2]; simp only [List.length_append, List.length_cons, List.length_nil]; omega)
    have a3 := n_ev (Wr.ownF H B0 9 (encL [2, code, who, seq, rev, lease, ttl] ++ encB yes) []) [(kvs.l.length : Int)] (by simp) (fun y hy => by rw [List.mem_singleton.1 hy]; omega) (by simp) (by rw [encL7, encN2, encL1]; simp only [List.length_append, List.length_cons, List.length_nil]; omega)
    obtain ⟨o', g2, hg2, hw⟩ := kvs_loop (H := H) B0 kvs i1 i2 10 (encL [2, code, who, seq, rev, lease, ttl] ++ encB yes ++ encN kvs.l.length) (by rw [encL7, encN2]; simp only [List.length_append, List.length_cons, List.length_nil]; omega)
    have a4 := n_ev (Wr.ownF H B0 g2 (encL [2, code, who, seq, rev, lease, ttl] ++ encB yes ++ encN kvs.l.length ++ (kvs.l.map encKV).flatten) o') [(events.l.length : Int)] (by simp) (fun y hy => by rw [List.mem_singleton.1 hy]; omega) (by simp) (by rw [encL7, encN2, encL1]; simp only [List.length_append, List.length_cons, List.length_nil]; omega)
    obtain ⟨o2, g3, hg3, hw2⟩ := evs_loop (H := H) B0 events j1 j2 (g2 + 1) (encL [2, code, who, seq, rev, lease, ttl] ++ encB yes ++ encN kvs.l.length ++ (kvs.l.map encKV).flatten ++ encN events.l.length) (by rw [encL7, encN2]; simp only [List.length_append, List.length_cons, List.length_nil]; omega) o'
    have a7 := String_ev (Wr.ownF H B0 g3 (encL [2, code, who, seq, rev, lease, ttl] ++ encB yes ++ encN kvs.l.length ++ (kvs.l.map encKV).flatten ++ encN events.l.length ++ (events.l.map encEv).flatten) o2) (by rw [encL7, encN2]; simp) (by rw [encL7, encN2]; simp only [List.length_append, List.length_cons, List.length_nil]; omega) (by omega)
    rw [encL7, encN2] at a1 a2 a3 a4 a7 hw hw2
    rw [encL1] at a3 a4
    generalize (kvs.l.map encKV).flatten = v12 at hw hw2 a4 a7 ⊢
    generalize (events.l.map encEv).flatten = v13 at hw2 a7 ⊢
    generalize encN code = v1 at a1 a2 a3 a4 a7 hw hw2 ⊢
    generalize encN who = v2 at a1 a2 a3 a4 a7 hw hw2 ⊢
    generalize encN seq = v3 at a1 a2 a3 a4 a7 hw hw2 ⊢
    generalize encN rev = v4 at a1 a2 a3 a4 a7 hw hw2 ⊢
    generalize encN lease = v5 at a1 a2 a3 a4 a7 hw hw2 ⊢
    generalize encN ttl = v6 at a1 a2 a3 a4 a7 hw hw2 ⊢
    generalize encB yes = v7 at a2 a3 a4 a7 hw hw2 ⊢
    generalize encN (kvs.l.length : Int) = v8 at a3 a4 a7 hw hw2 ⊢
    generalize encN (events.l.length : Int) = v9 at a4 a7 hw2 ⊢
    simp only [List.append_assoc, List.cons_append, List.nil_append] at a1 a2 a3 a4 a7 hw hw2 ⊢
    simp only [ints, txts, List.map_cons, List.map_nil, List.length_cons, List.length_nil, Nat.zero_add] at a1 a2 a3 a4 a7 hw hw2 ⊢
    have z1 : (Blk.trow 5 1 1 [] : Blk) = wR 1 [] := rfl
    have z2 : ∀ q, (Blk.bld 60 [.g .nptr, .ms q 1 1 0 0] : Blk) = wB (.g .nptr) q 1 [] := fun _ => rfl
    subst eB
    simp only [List.map_cons, List.map_nil] at a1 a2 a3 a4 a7 hw hw2
    simp -implicitDefEqProofs [A, Reply.c, hm, zresT, z1, z2, a1, a2, a3, a4, a7, hw, hw2, mPQ, chunk]
end Go.Proofs.Ytenndgooepdmiaa
