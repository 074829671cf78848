/- Requests as bytes: Ask. -/
import Derived.Test.YtenndgooepdmiaaSWire6
namespace Go.Proofs.Ytenndgooepdmiaa
open Go Go.AM Go.Proofs
set_option maxRecDepth 20000
set_option maxHeartbeats 1000000
set_option linter.unusedSimpArgs false
set_option linter.unusedVariables false
theorem Wr.own (H : List Blk) (B0 : Blk) (fr : Bool) (g : Nat) (s : Bs) (o : List Blk) : Wr (H ++ B0 :: wR g s :: wB (if fr = true then .g .nptr else .ptr (H.length + 2) 0) (H.length + 1) g s :: o) fr (H.length + 2) (H.length + 1) g s :=
  ⟨by rw [List.getElem?_append_right (by omega)]; simp, by rw [List.getElem?_append_right (by omega)]; simp⟩
theorem Wr.ownF (H : List Blk) (B0 : Blk) (g : Nat) (s : Bs) (o : List Blk) : Wr (H ++ B0 :: wR g s :: wB (.ptr (H.length + 2) 0) (H.length + 1) g s :: o) false (H.length + 2) (H.length + 1) g s := Wr.own H B0 false g s o
theorem Wr.ownT (H : List Blk) (B0 : Blk) (g : Nat) (s : Bs) (o : List Blk) : Wr (H ++ B0 :: wR g s :: wB (.g .nptr) (H.length + 1) g s :: o) true (H.length + 2) (H.length + 1) g s := Wr.own H B0 true g s o
theorem encL3 (a b c : Int) : encL [a, b, c] = encN a ++ (encN b ++ encN c) := by simp [encL]
theorem encL4 (a b c d : Int) : encL [a, b, c, d] = encN a ++ (encN b ++ (encN c ++ encN d)) := by simp [encL]
theorem encL5 (a b c d e : Int) : encL [a, b, c, d, e] = encN a ++ (encN b ++ (encN c ++ (encN d ++ encN e))) := by simp [encL]
theorem ints_ok {l : List Int} (h : ∀ x ∈ l, 0 ≤ x ∧ x ≤ 1099511627775) : ∀ x ∈ l, 0 ≤ x ∧ x ≤ 9223372036854775807 := fun x hx => by have := h x hx; omega
theorem cmp_step {H : List Blk} (B0 : Blk) (l : List Cmp) (k : Nat) (hk : k < l.length) (hl : l.length ≤ 4) (hok : cmpOk l[k] = true) (g : Nat) (s : Bs) (hr : s.length ≤ 100000000) (o : List Blk) :
    kpN [1, 4, 43, 44, 45] (evCode (EvF tab) H L10_0 ⟨[(1, .ptr H.length 0), (4, .ptr (H.length + 2) 0), (43, .g (.sl 5 (l.map Cmp.c))), (44, I l.length), (45, I k)], [], B0 :: wR g s :: wB (.ptr (H.length + 2) 0) (H.length + 1) g s :: o⟩) =
      some (.normal, ⟨[(1, .ptr H.length 0), (4, .ptr (H.length + 2) 0), (43, .g (.sl 5 (l.map Cmp.c))), (44, I l.length), (45, I (k + 1 : Nat))], [], B0 :: wR (g + gT [l[k].key] + 3 + gT [l[k].value]) (s ++ encCmp l[k]) :: wB (.ptr (H.length + 2) 0) (H.length + 1) (g + gT [l[k].key] + 3 + gT [l[k].value]) (s ++ encCmp l[k]) :: (o ++ [.cells (l[k].c.map .g)])⟩) := by
  have e2 := wrap_succ hk (by omega : l.length ≤ 9223372036854775807)
  obtain ⟨x, ex⟩ : ∃ x, l[k] = x := ⟨_, rfl⟩
  rw [ex] at hok ⊢
  have hlen := encCmp_len hok
  obtain ⟨⟨h1, h2⟩, h3, h4, h5, h6, h7, h8⟩ := cmpOk_iff.1 hok
  have t1 := t_ev (Wr.ownF H B0 g s (o ++ [.cells (x.c.map .g)])) [x.key] (by simp) (by simp) (by
    rw [encT1]; simp only [encCmp, List.length_append] at hlen ⊢; omega)
  have n1 := n_ev (Wr.ownF H B0 (g + gT [x.key]) (s ++ encT [x.key]) (o ++ [.cells (x.c.map .g)])) [x.what, x.how, x.n] (by simp) (fun y hy => by simp at hy; rcases hy with rfl | rfl | rfl <;> omega) (by simp) (by
    rw [encT1, encL3]; simp only [encCmp, List.length_append] at hlen ⊢; omega)
  have t2 := t_ev (Wr.ownF H B0 (g + gT [x.key] + 3) (s ++ encT [x.key] ++ encL [x.what, x.how, x.n]) (o ++ [.cells (x.c.map .g)])) [x.value] (by simp) (by simp) (by
    rw [encT1, encL3, encT1]; simp only [encCmp, List.length_append] at hlen ⊢; omega)
  rw [encT1] at t1 n1
  rw [encL3] at n1 t2
  rw [encT1, encT1] at t2
  unfold encCmp
  generalize gT [x.key] = g1 at t1 t2 n1 ⊢
  generalize gT [x.value] = g2 at t1 t2 n1 ⊢
  generalize encS x.key = v1 at t1 t2 n1 ⊢
  generalize encN x.what = v2 at t1 t2 n1 ⊢
  generalize encN x.how = v3 at t1 t2 n1 ⊢
  generalize encN x.n = v4 at t1 t2 n1 ⊢
  generalize encS x.value = v5 at t1 t2 n1 ⊢
  simp only [List.append_assoc] at t1 t2 n1 ⊢
  simp only [ints, txts, Cmp.c, List.map_cons, List.map_nil, List.length_cons, List.length_nil, Nat.zero_add] at t1 t2 n1 ⊢
  delta L10_0
  simp -implicitDefEqProofs [mPQ, hk, ex, Cmp.c, chunk, t1, n1, t2, e2]
def stC (a : Nat × Bs) (x : Cmp) : Nat × Bs := (a.1 + gT [x.key] + 3 + gT [x.value], a.2 ++ encCmp x)
theorem foldC : ∀ (l : List Cmp) (a : Nat × Bs), (l.foldl stC a).2 = a.2 ++ (l.map encCmp).flatten ∧ a.1 ≤ (l.foldl stC a).1
  | [], a => by simp
  | x :: l, a => by
    obtain ⟨h1, h2⟩ := foldC l (stC a x)
    simp only [List.foldl_cons, h1]
    refine ⟨by simp [stC], ?_⟩
    have : a.1 ≤ (stC a x).1 := by simp only [stC]; omega
    omega
theorem cmp_loop {H : List Blk} (B0 : Blk) (sl : Sl Cmp) (hl : sl.l.length ≤ 4) (hok : ∀ x ∈ sl.l, cmpOk x = true) (g : Nat) (s : Bs) (hr : s.length ≤ 90000000) :
    ∃ o' g', g ≤ g' ∧ loopE (EvF tab) H L10_0 [1, 4, 43, 44, 45] ⟨[(1, .ptr H.length 0), (4, .ptr (H.length + 2) 0), (43, .g (Cmps.g sl)), (44, I sl.l.length), (45, I 0)], [], [B0, wR g s, wB (.ptr (H.length + 2) 0) (H.length + 1) g s]⟩ =
      some (.exit 0, ⟨[(1, .ptr H.length 0), (4, .ptr (H.length + 2) 0), (43, .g (Cmps.g sl)), (44, I sl.l.length), (45, I sl.l.length), (46, B false)], [], B0 :: wR g' (s ++ (sl.l.map encCmp).flatten) :: wB (.ptr (H.length + 2) 0) (H.length + 1) g' (s ++ (sl.l.map encCmp).flatten) :: o'⟩) := by
  cases sl with
  | nil =>
    refine ⟨[], g, Nat.le_refl _, ?_⟩
    refine loopE_out _ _ _ _ _ _ (by simp) ?_
    delta L10_0
    simp -implicitDefEqProofs
  | of l =>
    simp only [Sl.l_of] at hl hok ⊢
    have hw := loop_runJ (E := EvF tab) (h := H) (c := L10_0) (lv := [1, 4, 43, 44, 45]) (l := l) (β := Nat × Bs) (γ := Unit) (fun k b => b.2.length ≤ 90000000 + k * 110) (fun k x b => .inl (stC b x))
      (fun k b o => ⟨[(1, .ptr H.length 0), (4, .ptr (H.length + 2) 0), (43, .g (.sl 5 (l.map Cmp.c))), (44, I l.length), (45, I k)], [], B0 :: wR b.1 b.2 :: wB (.ptr (H.length + 2) 0) (H.length + 1) b.1 b.2 :: o⟩)
      (fun b o => (.exit 0, ⟨[(1, .ptr H.length 0), (4, .ptr (H.length + 2) 0), (43, .g (.sl 5 (l.map Cmp.c))), (44, I l.length), (45, I l.length), (46, B false)], [], B0 :: wR b.1 b.2 :: wB (.ptr (H.length + 2) 0) (H.length + 1) b.1 b.2 :: o⟩)) (fun _ o => (.ret, ⟨[], [], o⟩)) (by simp) (by simp) (fun k x b o hk hx hy hi => ?_) (fun b o _ => by delta L10_0; simp -implicitDefEqProofs) (g, s) [] (by simpa using hr)
    · obtain ⟨o', hw⟩ := hw
      refine ⟨o', _, (foldC l (g, s)).2, ?_⟩
      have key : ∀ (l : List Cmp) (k : Nat) (b : Nat × Bs), runG (γ := Unit) (fun k (x : Cmp) b => .inl (stC b x)) k l b = .inl (l.foldl stC b) := by
        intro l
        induction l with
        | nil => intro k b; simp [runG]
        | cons x l ih => intro k b; simp only [runG, ih]; simp
      rw [key] at hw
      have e0 : ((0 : Nat) : Int) = 0 := rfl
      simp only [e0, endJ] at hw
      rw [(foldC l (g, s)).1] at hw
      exact hw
    · have hm := hok x (List.mem_of_getElem? hx)
      have hlen := encCmp_len hm
      subst hy
      refine ⟨by simp [stC]; omega, _, cmp_step B0 l k hk hl hm b.1 b.2 (by omega) o⟩
theorem Ask_ev (r : Req) (w : RL r) (H : List Blk) : EvF tab 10 [A r.c] H = some ⟨.tup (if reqOk r = true then [T (encReq r), B true] else [T [], B false]), [], []⟩ := by
  have hm := fun H => MayAsk_ev r w H
  refine EvF_walk t10 (by simp) ?_
  cases hok : reqOk r
  · rw [hok] at hm
    obtain ⟨kind, who, seq, once, key, value, lease, rev, ttl, token, iff, thn, els⟩ := r
    simp only [A, Req.c, List.map_cons, List.map_nil] at hm
    simp -implicitDefEqProofs [A, Req.c, hm]
  · rw [hok] at hm
    have h := reqOk_iff hok
    have hd := encHead_len h
    have c1 := encCmps_len h.i1 h.i2
    obtain ⟨j1, j2⟩ := mutsOk_iff.1 h.m1
    obtain ⟨j3, j4⟩ := mutsOk_iff.1 h.m2
    have c2 := encMuts_len j1 j2
    have c3 := encMuts_len j3 j4
    obtain ⟨kk1, kk2, ht, n1, n2, n3, n4, n5, n6, i1, i2, m1, m2⟩ := h
    unfold encReq
    have eh : encHead r = [1] ++ encN r.kind ++ encN r.who ++ encN r.seq ++ encB r.once ++ encS r.key ++ encS r.value ++ encN r.lease ++ encN r.rev ++ encN r.ttl ++ encN r.token ++ encN r.iff.l.length := rfl
    obtain ⟨kind, who, seq, once, key, value, lease, rev, ttl, token, iff, thn, els⟩ := r
    simp only at n1 n2 n3 n4 n5 n6 i1 i2 m1 m2 ht kk1 kk2 c1 c2 c3 j1 j3 eh ⊢
    rw [eh] at hd ⊢
    simp only [List.length_append, List.length_cons, List.length_nil] at hd
    simp only [A, Req.c, List.map_cons, List.map_nil] at hm
    obtain ⟨B0, eB⟩ : ∃ B0 : Blk, B0 = .cells (List.map AV.g [.int .i64 kind, .int .i64 who, .int .i64 seq, .bool once, .str key, .str value, .int .i64 lease, .int .i64 rev, .int .i64 ttl, .int .i64 token, Cmps.g iff, Muts.g thn, Muts.g els]) := ⟨_, rfl⟩
    have a1 := n_ev (Wr.ownT H B0 1 [] []) [1, kind, who, seq] (by simp) (ints_ok (fun y hy => by simp at hy; rcases hy with rfl | rfl | rfl | rfl <;> omega)) (by simp) (by rw [encL4, encN1]; simp only [List.length_append, List.length_cons, List.length_nil]; omega)
    have a2 := b_ev (Wr.ownF H B0 5 (encL [1, kind, who, seq]) []) once (by rw [encL4, encN1]; simp only [List.length_append, List.length_cons, List.length_nil]; omega)
    have a3 := t_ev (Wr.ownF H B0 6 (encL [1, kind, who, seq] ++ encB once) []) [key, value] (by simp) (by simp) (by rw [encL4, encN1, encT2]; simp only [List.length_append, List.length_cons, List.length_nil]; omega)
    have a4 := n_ev (Wr.ownF H B0 (6 + gT [key, value]) (encL [1, kind, who, seq] ++ encB once ++ encT [key, value]) []) [lease, rev, ttl, token, (iff.l.length : Int)] (by simp) (ints_ok (fun y hy => by simp at hy; rcases hy with rfl | rfl | rfl | rfl | rfl <;> omega)) (by simp) (by rw [encL4, encN1, encT2, encL5]; simp only [List.length_append, List.length_cons, List.length_nil]; omega)
    obtain ⟨o', g2, hg2, hw⟩ := cmp_loop (H := H) B0 iff i1 i2 (6 + gT [key, value] + 5) (encL [1, kind, who, seq] ++ encB once ++ encT [key, value] ++ encL [lease, rev, ttl, token, (iff.l.length : Int)]) (by rw [encL4, encN1, encT2, encL5]; simp only [List.length_append, List.length_cons, List.length_nil]; omega)
    obtain ⟨g3, hg3, a5⟩ := muts_ev (Wr.ownF H B0 g2 (encL [1, kind, who, seq] ++ encB once ++ encT [key, value] ++ encL [lease, rev, ttl, token, (iff.l.length : Int)] ++ (iff.l.map encCmp).flatten) o') thn m1 (by rw [encL4, encN1, encT2, encL5]; simp only [List.length_append, List.length_cons, List.length_nil]; omega)
    obtain ⟨g4, hg4, a6⟩ := muts_ev (Wr.ownF H B0 g3 (encL [1, kind, who, seq] ++ encB once ++ encT [key, value] ++ encL [lease, rev, ttl, token, (iff.l.length : Int)] ++ (iff.l.map encCmp).flatten ++ encMuts thn.l) o') els m2 (by rw [encL4, encN1, encT2, encL5]; simp only [List.length_append, List.length_cons, List.length_nil]; omega)
    have a7 := String_ev (Wr.ownF H B0 g4 (encL [1, kind, who, seq] ++ encB once ++ encT [key, value] ++ encL [lease, rev, ttl, token, (iff.l.length : Int)] ++ (iff.l.map encCmp).flatten ++ encMuts thn.l ++ encMuts els.l) o') (by rw [encL4, encN1]; simp) (by rw [encL4, encN1, encT2, encL5]; simp only [List.length_append, List.length_cons, List.length_nil]; omega) (by omega)
    rw [encL4, encN1] at a1 a2 a3 a4 a5 a6 a7 hw
    rw [encT2] at a3 a4 a5 a6 a7 hw
    rw [encL5] at a4 a5 a6 a7 hw
    generalize gT [key, value] = g1 at a1 a2 a3 a4 a5 a6 a7 hw
    generalize encMuts thn.l = v13 at a5 a6 a7 ⊢
    generalize encMuts els.l = v14 at a6 a7 ⊢
    generalize (iff.l.map encCmp).flatten = v12 at hw a5 a6 a7 ⊢
    generalize encN kind = v1 at a1 a2 a3 a4 a5 a6 a7 hw ⊢
    generalize encN who = v2 at a1 a2 a3 a4 a5 a6 a7 hw ⊢
    generalize encN seq = v3 at a1 a2 a3 a4 a5 a6 a7 hw ⊢
    generalize encB once = v4 at a1 a2 a3 a4 a5 a6 a7 hw ⊢
    generalize encS key = v5 at a1 a2 a3 a4 a5 a6 a7 hw ⊢
    generalize encS value = v6 at a1 a2 a3 a4 a5 a6 a7 hw ⊢
    generalize encN lease = v7 at a1 a2 a3 a4 a5 a6 a7 hw ⊢
    generalize encN rev = v8 at a1 a2 a3 a4 a5 a6 a7 hw ⊢
    generalize encN ttl = v9 at a1 a2 a3 a4 a5 a6 a7 hw ⊢
    generalize encN token = v10 at a1 a2 a3 a4 a5 a6 a7 hw ⊢
    generalize encN (iff.l.length : Int) = v11 at a1 a2 a3 a4 a5 a6 a7 hw ⊢
    simp only [List.append_assoc, List.cons_append, List.nil_append] at a1 a2 a3 a4 a5 a6 a7 hw ⊢
    simp only [ints, txts, List.map_cons, List.map_nil, List.length_cons, List.length_nil, Nat.zero_add] at a1 a2 a3 a4 a5 a6 a7 hw ⊢
    have z1 : (Blk.trow 5 1 1 [] : Blk) = wR 1 [] := rfl
    have z2 : ∀ q, (Blk.bld 60 [.g .nptr, .ms q 1 1 0 0] : Blk) = wB (.g .nptr) q 1 [] := fun _ => rfl
    subst eB
    simp only [List.map_cons, List.map_nil] at a1 a2 a3 a4 a5 a6 a7 hw
    simp -implicitDefEqProofs [A, Req.c, hm, zresT, z1, z2, a1, a2, a3, a4, a5, a6, a7, hw, mPQ, chunk]
end Go.Proofs.Ytenndgooepdmiaa
