/- Requests as bytes: the reference's texts. -/
import Derived.Test.YtenndgooepdmiaaSWire4
namespace Go.Proofs.Ytenndgooepdmiaa
open Go Go.AM Go.Proofs
set_option maxRecDepth 20000
set_option maxHeartbeats 1000000
set_option linter.unusedSimpArgs false
set_option linter.unusedVariables false
theorem encN_len (n : Int) (h : n ≤ 9223372036854775807) : (encN n).length ≤ 10 := by
  unfold encN varB
  have := varI_len n.toNat 9 (by omega)
  simp; omega
theorem encS_len (s : Bs) (h : s.length ≤ 9223372036854775807) : (encS s).length ≤ 10 + s.length := by
  unfold encS
  have := encN_len s.length (by omega)
  simp; omega
theorem encB_len (b : Bool) : (encB b).length = 1 := by cases b <;> rfl
def encMut (m : Mut) : Bs := encB m.gone ++ encS m.key ++ encS m.value ++ encN m.lease
def encMuts (l : List Mut) : Bs := encN l.length ++ (l.map encMut).flatten
def encCmp (c : Cmp) : Bs := encS c.key ++ encN c.what ++ encN c.how ++ encN c.n ++ encS c.value
def encHead (r : Req) : Bs := [1] ++ encN r.kind ++ encN r.who ++ encN r.seq ++ encB r.once ++ encS r.key ++ encS r.value ++ encN r.lease ++ encN r.rev ++ encN r.ttl ++ encN r.token ++ encN r.iff.l.length
def encReq (r : Req) : Bs := encHead r ++ (r.iff.l.map encCmp).flatten ++ encMuts r.thn.l ++ encMuts r.els.l
theorem txtOk_iff {k v : Bs} : txtOk k v = true ↔ k.length ≤ 40 ∧ v.length ≤ 20 := by simp [txtOk]
theorem numOk_iff {n : Int} : numOk n = true ↔ 0 ≤ n ∧ n ≤ 1099511627775 := by simp [numOk]
theorem mutOk_iff {m : Mut} : mutOk m = true ↔ (m.key.length ≤ 40 ∧ m.value.length ≤ 20) ∧ 0 ≤ m.lease ∧ m.lease ≤ 1099511627775 := by simp [mutOk, txtOk_iff, numOk_iff]
theorem encMut_len {m : Mut} (h : mutOk m = true) : (encMut m).length ≤ 91 := by
  obtain ⟨⟨h1, h2⟩, h3, h4⟩ := mutOk_iff.1 h
  have a1 := encS_len m.key (by omega)
  have a2 := encS_len m.value (by omega)
  have a3 := encN_len m.lease (by omega)
  have a4 := encB_len m.gone
  simp only [encMut, List.length_append]; omega
theorem putN_ev (n : Int) (h0 : 0 ≤ n) (h1 : n ≤ 9223372036854775807) (H : List Blk) : EvF tab 32 [I n] H = some ⟨T (encN n), [], []⟩ := by
  refine EvF_walk t32 (by simp) ?_
  obtain ⟨k, rfl⟩ : ∃ k : Nat, n = k := ⟨n.toNat, by omega⟩
  have hv := Var2_ev k (by omega)
  have hw : IntKind.u64.wrap (k : Int) = (k : Int) := wrap_u64 (by omega) (by omega)
  have e : encN (k : Int) = varB k := rfl
  simp -implicitDefEqProofs [hw, hv, e]
theorem putB_ev (b : Bool) (H : List Blk) : EvF tab 33 [B b] H = some ⟨T (encB b), [], []⟩ := by
  refine EvF_walk t33 (by simp) ?_
  cases b <;> simp -implicitDefEqProofs [encB]
theorem putS_ev (s : Bs) (h : s.length ≤ 1000000) (H : List Blk) : EvF tab 34 [T s] H = some ⟨T (encS s), [], []⟩ := by
  refine EvF_walk t34 (by simp) ?_
  have hn := putN_ev (s.length : Int) (by omega) (by omega)
  have hl := encN_len s.length (by omega)
  unfold encS
  generalize encN (s.length : Int) = v at hn hl ⊢
  simp -implicitDefEqProofs [hn, show v.length + s.length ≤ 9223372036854775807 by omega]
theorem foldl_app {α : Type} (f : α → Bs) : ∀ (l : List α) (b : Bs), l.foldl (fun b x => b ++ f x) b = b ++ (l.map f).flatten := by
  intro l
  induction l with
  | nil => intro b; simp
  | cons x l ih => intro b; simp [ih]
theorem putMuts_loop (s : Sl Mut) (hl : s.l.length ≤ 4) (hs : ∀ x ∈ s.l, mutOk x = true) (b : Bs) (hb : b.length ≤ 10) (H : List Blk) :
    loopE (EvF tab) H L35_0 [0, 3, 4] ⟨[(0, .g (Muts.g s)), (3, T b), (4, I 0)], [], []⟩ = some (.exit 0, ⟨[(0, .g (Muts.g s)), (3, T (b ++ (s.l.map encMut).flatten)), (4, I s.l.length), (11, B false)], [], []⟩) := by
  have hw := loop_fold (E := EvF tab) (h := H) (c := L35_0) (lv := [0, 3, 4]) (l := s.l) (β := Bs) (fun k b => b.length ≤ 10 + k * 100) (fun b x => b ++ encMut x)
    (fun k b => ⟨[(0, .g (Muts.g s)), (3, T b), (4, I k)], [], []⟩) (fun b => (.exit 0, ⟨[(0, .g (Muts.g s)), (3, T b), (4, I s.l.length), (11, B false)], [], []⟩)) (by simp) (fun k x b hk hx hy hi => ?_) (fun b _ => by delta L35_0; simp -implicitDefEqProofs) b (by simpa using hb)
  · rw [foldl_app] at hw
    exact hw
  · have hok := hs x (List.mem_of_getElem? hx)
    have hlen := encMut_len hok
    have e2 := wrap_succ hk (by omega)
    refine ⟨by simp; omega, ?_⟩
    delta L35_0
    obtain ⟨⟨h1, h2⟩, h3, h4⟩ := mutOk_iff.1 hok
    cases s with
    | nil => simp at hk
    | of l =>
      simp only [Sl.l_of] at hk hy e2 hl ⊢
      unfold encMut at hlen ⊢
      have p1 := putB_ev x.gone
      have p2 := putS_ev x.key (by omega)
      have p3 := putS_ev x.value (by omega)
      have p4 := putN_ev x.lease (by omega) (by omega)
      generalize encB x.gone = v1 at p1 hlen ⊢
      generalize encS x.key = v2 at p2 hlen ⊢
      generalize encS x.value = v3 at p3 hlen ⊢
      generalize encN x.lease = v4 at p4 hlen ⊢
      simp only [List.length_append] at hlen
      have q1 : b.length + v1.length ≤ 9223372036854775807 := by omega
      have q2 : b.length + v1.length + v2.length ≤ 9223372036854775807 := by omega
      have q3 : b.length + v1.length + v2.length + v3.length ≤ 9223372036854775807 := by omega
      have q4 : b.length + v1.length + v2.length + v3.length + v4.length ≤ 9223372036854775807 := by omega
      simp -implicitDefEqProofs [hk, hy, Mut.c, p1, p2, p3, p4, e2, q1, q2, q3, q4, ← Nat.add_assoc]
theorem mutsOk_iff {s : Sl Mut} : mutsOk s = true ↔ s.l.length ≤ 4 ∧ ∀ x ∈ s.l, mutOk x = true := by simp [mutsOk]
theorem encMuts_len {l : List Mut} (hl : l.length ≤ 4) (h : ∀ x ∈ l, mutOk x = true) : (encMuts l).length ≤ 410 := by
  have key : ∀ l : List Mut, (∀ x ∈ l, mutOk x = true) → ((l.map encMut).flatten).length ≤ 100 * l.length := by
    intro l
    induction l with
    | nil => intro _; simp
    | cons x l ih =>
      intro h
      have h1 := encMut_len (h x (by simp))
      have h2 := ih fun y hy => h y (by simp [hy])
      simp only [List.map_cons, List.flatten_cons, List.length_append, List.length_cons]; omega
  have h1 := key l h
  have h2 := encN_len l.length (by omega)
  simp only [encMuts, List.length_append]; omega
theorem putMuts_ev (s : Sl Mut) (h : mutsOk s = true) (H : List Blk) : EvF tab 35 [.g (Muts.g s)] H = some ⟨T (encMuts s.l), [], []⟩ := by
  obtain ⟨h1, h2⟩ := mutsOk_iff.1 h
  have hn := putN_ev (s.l.length : Int) (by omega) (by omega)
  have hw := putMuts_loop s h1 h2 (encN s.l.length) (encN_len _ (by omega)) H
  refine EvF_walk t35 (by simp) ?_
  unfold encMuts
  generalize encN (s.l.length : Int) = v at hn hw ⊢
  simp -implicitDefEqProofs [hn, hw]
theorem cmpOk_iff {c : Cmp} : cmpOk c = true ↔ (c.key.length ≤ 40 ∧ c.value.length ≤ 20) ∧ 1 ≤ c.what ∧ c.what ≤ 4 ∧ 1 ≤ c.how ∧ c.how ≤ 3 ∧ 0 ≤ c.n ∧ c.n ≤ 1099511627775 := by
  simp only [cmpOk, Bool.and_eq_true, decide_eq_true_eq, txtOk_iff, numOk_iff]
  constructor
  · rintro ⟨⟨⟨⟨⟨h1, h2⟩, h3⟩, h4⟩, h5⟩, h6, h7⟩; exact ⟨h1, h2, h3, h4, h5, h6, h7⟩
  · rintro ⟨h1, h2, h3, h4, h5, h6, h7⟩; exact ⟨⟨⟨⟨⟨h1, h2⟩, h3⟩, h4⟩, h5⟩, h6, h7⟩
theorem encCmp_len {c : Cmp} (h : cmpOk c = true) : (encCmp c).length ≤ 110 := by
  obtain ⟨⟨h1, h2⟩, h3, h4, h5, h6, h7, h8⟩ := cmpOk_iff.1 h
  have a1 := encS_len c.key (by omega)
  have a2 := encS_len c.value (by omega)
  have a3 := encN_len c.what (by omega)
  have a4 := encN_len c.how (by omega)
  have a5 := encN_len c.n (by omega)
  simp only [encCmp, List.length_append]; omega
theorem encCmps_len {l : List Cmp} (hl : l.length ≤ 4) (h : ∀ x ∈ l, cmpOk x = true) : ((l.map encCmp).flatten).length ≤ 440 := by
  have key : ∀ l : List Cmp, (∀ x ∈ l, cmpOk x = true) → ((l.map encCmp).flatten).length ≤ 110 * l.length := by
    intro l
    induction l with
    | nil => intro _; simp
    | cons x l ih =>
      intro h
      have h1 := encCmp_len (h x (by simp))
      have h2 := ih fun y hy => h y (by simp [hy])
      simp only [List.map_cons, List.flatten_cons, List.length_append, List.length_cons]; omega
  have := key l h; omega
structure ReqOk (r : Req) : Prop where
  k1 : 1 ≤ r.kind
  k2 : r.kind ≤ 8
  t : r.key.length ≤ 40 ∧ r.value.length ≤ 20
  n1 : 0 ≤ r.who ∧ r.who ≤ 1099511627775
  n2 : 0 ≤ r.seq ∧ r.seq ≤ 1099511627775
  n3 : 0 ≤ r.lease ∧ r.lease ≤ 1099511627775
  n4 : 0 ≤ r.rev ∧ r.rev ≤ 1099511627775
  n5 : 0 ≤ r.ttl ∧ r.ttl ≤ 1099511627775
  n6 : 0 ≤ r.token ∧ r.token ≤ 1099511627775
  i1 : r.iff.l.length ≤ 4
  i2 : ∀ x ∈ r.iff.l, cmpOk x = true
  m1 : mutsOk r.thn = true
  m2 : mutsOk r.els = true
theorem reqOk_iff {r : Req} (h : reqOk r = true) : ReqOk r := by
  simp only [reqOk, cmpsOk, Bool.and_eq_true, decide_eq_true_eq, txtOk_iff, numOk_iff] at h
  obtain ⟨⟨⟨⟨⟨⟨k1, k2⟩, t⟩, n1, n2, n3, n4, n5, n6⟩, i1, i2⟩, m1⟩, m2⟩ := h
  exact ⟨k1, k2, t, n1, n2, n3, n4, n5, n6, i1, by simpa using i2, m1, m2⟩
theorem encHead_len {r : Req} (h : ReqOk r) : (encHead r).length ≤ 200 := by
  have a1 := encS_len r.key (by have := h.t; omega)
  have a2 := encS_len r.value (by have := h.t; omega)
  have a3 := encN_len r.kind (by have := h.k2; omega)
  have a4 := encN_len r.who (by have := h.n1; omega)
  have a5 := encN_len r.seq (by have := h.n2; omega)
  have a6 := encN_len r.lease (by have := h.n3; omega)
  have a7 := encN_len r.rev (by have := h.n4; omega)
  have a8 := encN_len r.ttl (by have := h.n5; omega)
  have a9 := encN_len r.token (by have := h.n6; omega)
  have b1 := encN_len r.iff.l.length (by have := h.i1; omega)
  have b2 := encB_len r.once
  have b3 := h.t
  simp only [encHead, List.length_append, List.length_cons, List.length_nil]; omega
theorem Ask2_loop (r : Req) (h : ReqOk r) (b : Bs) (hb : b.length ≤ 200) (H : List Blk) : ∃ o', loopE (EvF tab) H L11_0 [1, 4, 5] ⟨[(1, .ptr H.length 0), (4, T b), (5, I 0)], [], [.cells (r.c.map .g)]⟩ =
    some (.exit 0, ⟨[(1, .ptr H.length 0), (4, T (b ++ (r.iff.l.map encCmp).flatten)), (5, I r.iff.l.length), (61, B false)], [], .cells (r.c.map .g) :: o'⟩) := by
  have hw := loop_runJ (E := EvF tab) (h := H) (c := L11_0) (lv := [1, 4, 5]) (l := r.iff.l) (β := Bs) (γ := Unit) (fun k b => b.length ≤ 200 + k * 110) (fun k x b => .inl (b ++ encCmp x))
    (fun k b o => ⟨[(1, .ptr H.length 0), (4, T b), (5, I k)], [], .cells (r.c.map .g) :: o⟩) (fun b o => (.exit 0, ⟨[(1, .ptr H.length 0), (4, T b), (5, I r.iff.l.length), (61, B false)], [], .cells (r.c.map .g) :: o⟩)) (fun _ o => (.ret, ⟨[], [], o⟩)) (by simp) (by simp) (fun k x b o hk hx hy hi => ?_) (fun b o _ => by delta L11_0; simp -implicitDefEqProofs [Req.c]) b [] (by simpa using hb)
  · obtain ⟨o', hw⟩ := hw
    refine ⟨o', ?_⟩
    have key : ∀ (l : List Cmp) (k : Nat) (b : Bs), runG (γ := Unit) (fun k (x : Cmp) b => .inl (b ++ encCmp x)) k l b = .inl (b ++ (l.map encCmp).flatten) := by
      intro l
      induction l with
      | nil => intro k b; simp [runG]
      | cons x l ih => intro k b; simp only [runG, ih]; simp
    rw [key] at hw
    have e0 : ((0 : Nat) : Int) = 0 := rfl
    simp only [e0] at hw
    rw [hw]
    rfl
  · have hok := h.i2 x (List.mem_of_getElem? hx)
    have hlen := encCmp_len hok
    have hl4 := h.i1
    have e2 := wrap_succ hk (by omega)
    refine ⟨by simp; omega, o ++ [.cells (x.c.map .g)], ?_⟩
    clear hx
    delta L11_0
    obtain ⟨⟨h1, h2⟩, h3, h4, h5, h6, h7, h8⟩ := cmpOk_iff.1 hok
    obtain ⟨b1, b2, b3, b4, b5, b6, b7, b8, b9, b10, bi, bt, be⟩ := r
    simp only at hk hy e2 hl4 ⊢
    cases bi with
    | nil => simp at hk
    | of l =>
      simp only [Sl.l_of] at hk hy e2 hl4 ⊢
      unfold encCmp at hlen ⊢
      have p1 := putS_ev x.key (by omega)
      have p2 := putN_ev x.what (by omega) (by omega)
      have p3 := putN_ev x.how (by omega) (by omega)
      have p4 := putN_ev x.n (by omega) (by omega)
      have p5 := putS_ev x.value (by omega)
      generalize encS x.key = v1 at p1 hlen ⊢
      generalize encN x.what = v2 at p2 hlen ⊢
      generalize encN x.how = v3 at p3 hlen ⊢
      generalize encN x.n = v4 at p4 hlen ⊢
      generalize encS x.value = v5 at p5 hlen ⊢
      simp only [List.length_append] at hlen
      have q1 : b.length + v1.length ≤ 9223372036854775807 := by omega
      have q2 : b.length + v1.length + v2.length ≤ 9223372036854775807 := by omega
      have q3 : b.length + (v1.length + v2.length) + v3.length ≤ 9223372036854775807 := by omega
      have q4 : b.length + (v1.length + (v2.length + v3.length)) + v4.length ≤ 9223372036854775807 := by omega
      have q5 : b.length + (v1.length + (v2.length + (v3.length + v4.length))) + v5.length ≤ 9223372036854775807 := by omega
      simp -implicitDefEqProofs [hk, hy, Req.c, Cmp.c, p1, p2, p3, p4, p5, e2, q1, q2, q3, q4, q5]
theorem Ask2_ev (r : Req) (w : RL r) (H : List Blk) : EvF tab 11 [A r.c] H = some ⟨.tup (if reqOk r = true then [T (encReq r), B true] else [T [], B false]), [], []⟩ := by
  have hm := fun H => MayAsk2_ev r w H
  refine EvF_walk t11 (by simp) ?_
  cases hok : reqOk r
  · rw [hok] at hm
    obtain ⟨kind, who, seq, once, key, value, lease, rev, ttl, token, iff, thn, els⟩ := r
    simp only [A, Req.c, List.map_cons, List.map_nil] at hm
    simp -implicitDefEqProofs [A, Req.c, hm]
  · rw [hok] at hm
    have h := reqOk_iff hok
    have hd := encHead_len h
    obtain ⟨o', hw⟩ := Ask2_loop r h (encHead r) hd H
    have c1 := encCmps_len h.i1 h.i2
    obtain ⟨j1, j2⟩ := mutsOk_iff.1 h.m1
    obtain ⟨j3, j4⟩ := mutsOk_iff.1 h.m2
    have c2 := encMuts_len j1 j2
    have c3 := encMuts_len j3 j4
    have m1 := putMuts_ev r.thn h.m1
    have m2 := putMuts_ev r.els h.m2
    have p1 := putN_ev r.kind (by have := h.k1; omega) (by have := h.k2; omega)
    have p2 := putN_ev r.who h.n1.1 (by have := h.n1; omega)
    have p3 := putN_ev r.seq h.n2.1 (by have := h.n2; omega)
    have p4 := putB_ev r.once
    have p5 := putS_ev r.key (by have := h.t; omega)
    have p6 := putS_ev r.value (by have := h.t; omega)
    have p7 := putN_ev r.lease h.n3.1 (by have := h.n3; omega)
    have p8 := putN_ev r.rev h.n4.1 (by have := h.n4; omega)
    have p9 := putN_ev r.ttl h.n5.1 (by have := h.n5; omega)
    have p10 := putN_ev r.token h.n6.1 (by have := h.n6; omega)
    have p11 := putN_ev (r.iff.l.length : Int) (by omega) (by have := h.i1; omega)
    unfold encReq
    have eh : encHead r = [1] ++ encN r.kind ++ encN r.who ++ encN r.seq ++ encB r.once ++ encS r.key ++ encS r.value ++ encN r.lease ++ encN r.rev ++ encN r.ttl ++ encN r.token ++ encN r.iff.l.length := rfl
    obtain ⟨kind, who, seq, once, key, value, lease, rev, ttl, token, iff, thn, els⟩ := r
    simp only at hw c1 c2 c3 m1 m2 p1 p2 p3 p4 p5 p6 p7 p8 p9 p10 p11 eh ⊢
    rw [eh] at hd
    simp only [Req.c, List.map_cons, List.map_nil] at hw
    simp only [A, Req.c, List.map_cons, List.map_nil] at hm
    generalize encMuts thn.l = v13 at m1 c2 ⊢
    generalize encMuts els.l = v14 at m2 c3 ⊢
    generalize (iff.l.map encCmp).flatten = v12 at hw c1 ⊢
    rw [eh] at hw ⊢
    generalize encN kind = v1 at p1 hd hw ⊢
    generalize encN who = v2 at p2 hd hw ⊢
    generalize encN seq = v3 at p3 hd hw ⊢
    generalize encB once = v4 at p4 hd hw ⊢
    generalize encS key = v5 at p5 hd hw ⊢
    generalize encS value = v6 at p6 hd hw ⊢
    generalize encN lease = v7 at p7 hd hw ⊢
    generalize encN rev = v8 at p8 hd hw ⊢
    generalize encN ttl = v9 at p9 hd hw ⊢
    generalize encN token = v10 at p10 hd hw ⊢
    generalize encN (iff.l.length : Int) = v11 at p11 hd hw ⊢
    simp only [List.length_append, List.length_cons, List.length_nil] at hd
    simp only [List.append_assoc, List.cons_append, List.nil_append] at hw ⊢
    simp -implicitDefEqProofs [A, Req.c, hm, p1, p2, p3, p4, p5, p6, p7, p8, p9, p10, p11, m1, m2, hw]
    omega
end Go.Proofs.Ytenndgooepdmiaa
