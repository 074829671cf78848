/- Part of the proof: what the functions answer, part 4 (SRef3, SRef4, PRef, SRef5, LFence5). No conditions. -/
import Derived.Test.YtenndgooepdmiaaGreatDoorSPJ3
section
namespace Go.Proofs.YtenndgooepdmiaaGreatDoor
open Go Go.AM Go.Proofs
set_option maxRecDepth 20000
set_option maxHeartbeats 2000000
set_option linter.unusedSimpArgs false
set_option linter.unusedVariables false
/-- A request whose questions are some other value. -/
def qc (r : Req) (v : AV) : List AV := [I r.kind, I r.who, I r.seq, B r.once, T r.key, T r.value, I r.lease, I r.rev, I r.ttl, I r.token, v, .g (Muts.g r.thn), .g (Muts.g r.els)]
theorem rp_ptr {H : List Blk} {rid : Nat} {b : Blk} (hR : H[rid]? = some b) : ∃ h : rid < H.length, H[rid] = b := List.getElem?_eq_some_iff.1 hR
theorem MayAsk2m_loop (r : Req) (l : List Cmp) (hl : l.length ≤ 9223372036854775807) {H : List Blk} {rid g : Nat} (hR : H[rid]? = some (.rows 5 g (l.map Cmp.c))) : ∃ o', loopE (EvF tab) H L58_0 [1, 3] ⟨[(1, .ptr H.length 0), (3, I 0)], [], [.cells (qc r (.ms rid g 5 0 l.length))]⟩ =
      some (if allP cmpOk l = true then (.exit 0, ⟨[(1, .ptr H.length 0), (3, I l.length), (69, B false)], [], .cells (qc r (.ms rid g 5 0 l.length)) :: o'⟩) else (.ret, ⟨[(2, B false)], [], .cells (qc r (.ms rid g 5 0 l.length)) :: o'⟩)) := by
  obtain ⟨hRl, hR2⟩ := rp_ptr hR
  have hw := loop_runJ (E := EvF tab) (h := H) (c := L58_0) (lv := [1, 3]) (l := l) (β := Unit) (γ := Unit) (fun _ _ => True) (fun k x _ => if cmpOk x = true then .inl () else .inr ())
    (fun k _ o => ⟨[(1, .ptr H.length 0), (3, I k)], [], .cells (qc r (.ms rid g 5 0 l.length)) :: o⟩) (fun _ o => (.exit 0, ⟨[(1, .ptr H.length 0), (3, I l.length), (69, B false)], [], .cells (qc r (.ms rid g 5 0 l.length)) :: o⟩)) (fun _ o => (.ret, ⟨[(2, B false)], [], .cells (qc r (.ms rid g 5 0 l.length)) :: o⟩)) (by simp) (by simp) (fun k x _ o hk hx hy _ => ?_) (fun _ o _ => by delta L58_0; simp -implicitDefEqProofs [qc, hRl, hR2, getB_old, orB]) () [] trivial
  · obtain ⟨o', hw⟩ := hw
    refine ⟨o', ?_⟩
    rw [runG_all] at hw
    have e0 : ((0 : Nat) : Int) = 0 := rfl
    simp only [e0] at hw
    rw [hw]
    cases allP cmpOk l <;> rfl
  · have e2 := wrap_succ hk hl
    delta L58_0
    have h1 := texts2_ev x.key x.value
    have h2 := number2_ev x.n
    have hO : cmpOk x = (txtOk x.key x.value && decide (1 ≤ x.what) && decide (x.what ≤ 4) && decide (1 ≤ x.how) && decide (x.how ≤ 3) && numOk x.n) := rfl
    generalize txtOk x.key x.value = b1 at h1 hO
    generalize numOk x.n = b2 at h2 hO
    cases hc : cmpOk x <;> rw [hc] at hO
    · refine ⟨o ++ [.cells (x.c.map .g)], ?_⟩
      cases b1
      · simp -implicitDefEqProofs [hk, hy, qc, hRl, hR2, getB_old, orB, Cmp.c, h1, e2]
      · by_cases k1 : 1 ≤ x.what
        · by_cases k2 : x.what ≤ 4
          · by_cases k3 : 1 ≤ x.how
            · by_cases k4 : x.how ≤ 3
              · cases b2
                · simp -implicitDefEqProofs [hk, hy, qc, hRl, hR2, getB_old, orB, Cmp.c, h1, h2, e2, k1, k2, k3, k4, show ¬ x.what < 1 by omega, show ¬ 4 < x.what by omega, show ¬ x.how < 1 by omega, show ¬ 3 < x.how by omega]
                · simp [k1, k2, k3, k4] at hO
              · simp -implicitDefEqProofs [hk, hy, qc, hRl, hR2, getB_old, orB, Cmp.c, h1, h2, e2, k1, k2, k3, k4, show ¬ x.what < 1 by omega, show ¬ 4 < x.what by omega, show ¬ x.how < 1 by omega, show 3 < x.how by omega]
            · simp -implicitDefEqProofs [hk, hy, qc, hRl, hR2, getB_old, orB, Cmp.c, h1, h2, e2, k1, k2, k3, show ¬ x.what < 1 by omega, show ¬ 4 < x.what by omega, show x.how < 1 by omega]
          · simp -implicitDefEqProofs [hk, hy, qc, hRl, hR2, getB_old, orB, Cmp.c, h1, h2, e2, k1, k2, show ¬ x.what < 1 by omega, show 4 < x.what by omega]
        · simp -implicitDefEqProofs [hk, hy, qc, hRl, hR2, getB_old, orB, Cmp.c, h1, h2, e2, k1, show x.what < 1 by omega]
    · refine ⟨trivial, o ++ [.cells (x.c.map .g)], ?_⟩
      symm at hO
      simp only [Bool.and_eq_true, decide_eq_true_eq] at hO
      obtain ⟨⟨⟨⟨⟨rfl, k1⟩, k2⟩, k3⟩, k4⟩, rfl⟩ := hO
      simp -implicitDefEqProofs [hk, hy, qc, hRl, hR2, getB_old, orB, Cmp.c, h1, h2, e2, k1, k2, k3, k4, show ¬ x.what < 1 by omega, show ¬ 4 < x.what by omega, show ¬ x.how < 1 by omega, show ¬ 3 < x.how by omega]
theorem MayAsk2m_ev (r : Req) (l : List Cmp) (w : RL r) (hiff : r.iff = .of l) {H : List Blk} {rid g : Nat} (hR : H[rid]? = some (.rows 5 g (l.map Cmp.c))) : EvF tab 58 [.agg (qc r (.ms rid g 5 0 l.length))] H = some ⟨B (reqOk r), [], []⟩ := by
  obtain ⟨hRl, hR2⟩ := rp_ptr hR
  obtain ⟨o', hw⟩ := MayAsk2m_loop r l (by have := w.1; rw [hiff] at this; exact this) hR
  have hm1 := muts2_ev r.thn w.2.1
  have hm2 := muts2_ev r.els w.2.2
  refine EvF_walk t58 (by simp) ?_
  obtain ⟨kind, who, seq, once, key, value, lease, rev, ttl, token, iff, thn, els⟩ := r
  simp only at hiff
  subst hiff
  unfold reqOk cmpsOk
  simp only [Sl.l_of] at hw hm1 hm2 ⊢
  have ht := texts2_ev key value
  have h1 := number2_ev who
  have h2 := number2_ev seq
  have h3 := number2_ev lease
  have h4 := number2_ev rev
  have h5 := number2_ev ttl
  have h6 := number2_ev token
  rw [show l.all cmpOk = allP cmpOk l from rfl]
  generalize txtOk key value = bt at ht ⊢
  generalize numOk who = n1 at h1 ⊢
  generalize numOk seq = n2 at h2 ⊢
  generalize numOk lease = n3 at h3 ⊢
  generalize numOk rev = n4 at h4 ⊢
  generalize numOk ttl = n5 at h5 ⊢
  generalize numOk token = n6 at h6 ⊢
  generalize mutsOk thn = m1 at hm1 ⊢
  generalize mutsOk els = m2 at hm2 ⊢
  simp only [qc] at hw
  by_cases k1 : 1 ≤ kind
  · by_cases k2 : kind ≤ 8
    · cases n1
      · simp -implicitDefEqProofs [qc, hRl, hR2, getB_old, orB, h1, k1, k2, show ¬ kind < 1 by omega, show ¬ 8 < kind by omega]
      cases n2
      · simp -implicitDefEqProofs [qc, hRl, hR2, getB_old, orB, h1, h2, k1, k2, show ¬ kind < 1 by omega, show ¬ 8 < kind by omega]
      cases n3
      · simp -implicitDefEqProofs [qc, hRl, hR2, getB_old, orB, h1, h2, h3, k1, k2, show ¬ kind < 1 by omega, show ¬ 8 < kind by omega]
      cases n4
      · simp -implicitDefEqProofs [qc, hRl, hR2, getB_old, orB, h1, h2, h3, h4, k1, k2, show ¬ kind < 1 by omega, show ¬ 8 < kind by omega]
      cases n5
      · simp -implicitDefEqProofs [qc, hRl, hR2, getB_old, orB, h1, h2, h3, h4, h5, k1, k2, show ¬ kind < 1 by omega, show ¬ 8 < kind by omega]
      cases n6
      · simp -implicitDefEqProofs [qc, hRl, hR2, getB_old, orB, h1, h2, h3, h4, h5, h6, k1, k2, show ¬ kind < 1 by omega, show ¬ 8 < kind by omega]
      cases bt
      · simp -implicitDefEqProofs [qc, hRl, hR2, getB_old, orB, h1, h2, h3, h4, h5, h6, ht, k1, k2, show ¬ kind < 1 by omega, show ¬ 8 < kind by omega]
      by_cases k3 : l.length ≤ 4
      · cases hs : allP cmpOk l <;> rw [hs] at hw <;> simp only [Bool.false_eq_true, if_true, if_false] at hw
        · simp -implicitDefEqProofs [qc, hRl, hR2, getB_old, orB, h1, h2, h3, h4, h5, h6, ht, k1, k2, k3, hw, show ¬ kind < 1 by omega, show ¬ 8 < kind by omega, show ¬ (4 : Int) < (l.length : Int) by omega]
        · cases m1 <;> simp -implicitDefEqProofs [qc, hRl, hR2, getB_old, orB, h1, h2, h3, h4, h5, h6, ht, hm1, hm2, k1, k2, k3, hw, show ¬ kind < 1 by omega, show ¬ 8 < kind by omega, show ¬ (4 : Int) < (l.length : Int) by omega]
      · simp -implicitDefEqProofs [qc, hRl, hR2, getB_old, orB, h1, h2, h3, h4, h5, h6, ht, k1, k2, k3, show ¬ kind < 1 by omega, show ¬ 8 < kind by omega, show (4 : Int) < (l.length : Int) by omega]
    · simp -implicitDefEqProofs [qc, hRl, hR2, getB_old, orB, k1, k2, show ¬ kind < 1 by omega, show 8 < kind by omega]
  · simp -implicitDefEqProofs [qc, hRl, hR2, getB_old, orB, k1, show kind < 1 by omega]
theorem Ask2m_loop (r : Req) (l : List Cmp) (hlen4 : l.length ≤ 4) (hall : ∀ x ∈ l, cmpOk x = true) (b : Bs) (hb : b.length ≤ 200) {H : List Blk} {rid g : Nat} (hR : H[rid]? = some (.rows 5 g (l.map Cmp.c))) : ∃ o', loopE (EvF tab) H L42_0 [1, 4, 5] ⟨[(1, .ptr H.length 0), (4, T b), (5, I 0)], [], [.cells (qc r (.ms rid g 5 0 l.length))]⟩ =
    some (.exit 0, ⟨[(1, .ptr H.length 0), (4, T (b ++ (l.map encCmp).flatten)), (5, I l.length), (61, B false)], [], .cells (qc r (.ms rid g 5 0 l.length)) :: o'⟩) := by
  obtain ⟨hRl, hR2⟩ := rp_ptr hR
  have hw := loop_runJ (E := EvF tab) (h := H) (c := L42_0) (lv := [1, 4, 5]) (l := l) (β := Bs) (γ := Unit) (fun k b => b.length ≤ 200 + k * 110) (fun k x b => .inl (b ++ encCmp x))
    (fun k b o => ⟨[(1, .ptr H.length 0), (4, T b), (5, I k)], [], .cells (qc r (.ms rid g 5 0 l.length)) :: o⟩) (fun b o => (.exit 0, ⟨[(1, .ptr H.length 0), (4, T b), (5, I l.length), (61, B false)], [], .cells (qc r (.ms rid g 5 0 l.length)) :: o⟩)) (fun _ o => (.ret, ⟨[], [], o⟩)) (by simp) (by simp) (fun k x b o hk hx hy hi => ?_) (fun b o _ => by delta L42_0; simp -implicitDefEqProofs [qc, hRl, hR2, getB_old, orB]) b [] (by simpa using hb)
  · obtain ⟨o', hw⟩ := hw
    refine ⟨o', ?_⟩
    have key : ∀ (l : List Cmp) (k : Nat) (b : Bs), runG (γ := Unit) (fun k (x : Cmp) b => .inl (b ++ encCmp x)) k l b = .inl (b ++ (l.map encCmp).flatten) := by
      intro l
      induction l with
      | nil => intro k b; simp [runG]
      | cons x l ih => intro k b; simp only [runG, ih]; simp
    rw [key] at hw
    have e0 : ((0 : Nat) : Int) = 0 := rfl
    simp only [e0] at hw
    rw [hw]
    rfl
  · have hok := hall x (List.mem_of_getElem? hx)
    have hlen := encCmp_len hok
    have hl4 := hlen4
    have e2 := wrap_succ hk (by omega)
    refine ⟨by simp; omega, o ++ [.cells (x.c.map .g)], ?_⟩
    clear hx
    delta L42_0
    obtain ⟨⟨h1, h2⟩, h3, h4, h5, h6, h7, h8⟩ := cmpOk_iff.1 hok
    unfold encCmp at hlen ⊢
    have p1 := putS_ev x.key (by omega)
    have p2 := putN_ev x.what (by omega) (by omega)
    have p3 := putN_ev x.how (by omega) (by omega)
    have p4 := putN_ev x.n (by omega) (by omega)
    have p5 := putS_ev x.value (by omega)
    generalize encS x.key = v1 at p1 hlen ⊢
    generalize encN x.what = v2 at p2 hlen ⊢
    generalize encN x.how = v3 at p3 hlen ⊢
    generalize encN x.n = v4 at p4 hlen ⊢
    generalize encS x.value = v5 at p5 hlen ⊢
    simp only [List.length_append] at hlen
    have q1 : b.length + v1.length ≤ 9223372036854775807 := by omega
    have q2 : b.length + v1.length + v2.length ≤ 9223372036854775807 := by omega
    have q3 : b.length + (v1.length + v2.length) + v3.length ≤ 9223372036854775807 := by omega
    have q4 : b.length + (v1.length + (v2.length + v3.length)) + v4.length ≤ 9223372036854775807 := by omega
    have q5 : b.length + (v1.length + (v2.length + (v3.length + v4.length))) + v5.length ≤ 9223372036854775807 := by omega
    simp -implicitDefEqProofs [hk, hy, qc, hRl, hR2, getB_old, orB, Cmp.c, p1, p2, p3, p4, p5, e2, q1, q2, q3, q4, q5]
theorem Ask2m_ev (r : Req) (l : List Cmp) (w : RL r) (hiff : r.iff = .of l) {H : List Blk} {rid g : Nat} (hR : H[rid]? = some (.rows 5 g (l.map Cmp.c))) : EvF tab 42 [.agg (qc r (.ms rid g 5 0 l.length))] H = some ⟨.tup (if reqOk r = true then [T (encReq r), B true] else [T [], B false]), [], []⟩ := by
  obtain ⟨hRl, hR2⟩ := rp_ptr hR
  have hm := MayAsk2m_ev r l w hiff (H := H ++ [.cells (qc r (.ms rid g 5 0 l.length))]) (rid := rid) (g := g) (by rw [List.getElem?_append_left hRl]; exact hR)
  refine EvF_walk t42 (by simp) ?_
  cases hok : reqOk r
  · rw [hok] at hm
    obtain ⟨kind, who, seq, once, key, value, lease, rev, ttl, token, iff, thn, els⟩ := r
    simp only at hiff
    subst hiff
    simp only [qc] at hm
    simp -implicitDefEqProofs [qc, hRl, hR2, getB_old, orB, hm]
  · rw [hok] at hm
    have h := reqOk_iff hok
    have hd := encHead_len h
    obtain ⟨o', hw⟩ := Ask2m_loop r l (by have := h.i1; rw [hiff] at this; exact this) (by have := h.i2; rw [hiff] at this; exact this) (encHead r) hd hR
    have c1 := encCmps_len h.i1 h.i2
    obtain ⟨j1, j2⟩ := mutsOk_iff.1 h.m1
    obtain ⟨j3, j4⟩ := mutsOk_iff.1 h.m2
    have c2 := encMuts_len j1 j2
    have c3 := encMuts_len j3 j4
    have m1 := putMuts_ev r.thn h.m1
    have m2 := putMuts_ev r.els h.m2
    have p1 := putN_ev r.kind (by have := h.k1; omega) (by have := h.k2; omega)
    have p2 := putN_ev r.who h.n1.1 (by have := h.n1; omega)
    have p3 := putN_ev r.seq h.n2.1 (by have := h.n2; omega)
    have p4 := putB_ev r.once
    have p5 := putS_ev r.key (by have := h.t; omega)
    have p6 := putS_ev r.value (by have := h.t; omega)
    have p7 := putN_ev r.lease h.n3.1 (by have := h.n3; omega)
    have p8 := putN_ev r.rev h.n4.1 (by have := h.n4; omega)
    have p9 := putN_ev r.ttl h.n5.1 (by have := h.n5; omega)
    have p10 := putN_ev r.token h.n6.1 (by have := h.n6; omega)
    have p11 := putN_ev (r.iff.l.length : Int) (by omega) (by have := h.i1; omega)
    unfold encReq
    have eh : encHead r = [1] ++ encN r.kind ++ encN r.who ++ encN r.seq ++ encB r.once ++ encS r.key ++ encS r.value ++ encN r.lease ++ encN r.rev ++ encN r.ttl ++ encN r.token ++ encN r.iff.l.length := rfl
    obtain ⟨kind, who, seq, once, key, value, lease, rev, ttl, token, iff, thn, els⟩ := r
    simp only at hiff
    subst hiff
    simp only [Sl.l_of] at hw c1 c2 c3 m1 m2 p1 p2 p3 p4 p5 p6 p7 p8 p9 p10 p11 eh ⊢
    rw [eh] at hd
    simp only [qc] at hw
    simp only [qc] at hm
    generalize encMuts thn.l = v13 at m1 c2 ⊢
    generalize encMuts els.l = v14 at m2 c3 ⊢
    generalize (l.map encCmp).flatten = v12 at hw c1 ⊢
    rw [eh] at hw ⊢
    generalize encN kind = v1 at p1 hd hw ⊢
    generalize encN who = v2 at p2 hd hw ⊢
    generalize encN seq = v3 at p3 hd hw ⊢
    generalize encB once = v4 at p4 hd hw ⊢
    generalize encS key = v5 at p5 hd hw ⊢
    generalize encS value = v6 at p6 hd hw ⊢
    generalize encN lease = v7 at p7 hd hw ⊢
    generalize encN rev = v8 at p8 hd hw ⊢
    generalize encN ttl = v9 at p9 hd hw ⊢
    generalize encN token = v10 at p10 hd hw ⊢
    generalize encN (l.length : Int) = v11 at p11 hd hw ⊢
    simp only [List.length_append, List.length_cons, List.length_nil] at hd
    simp only [List.append_assoc, List.cons_append, List.nil_append] at hw ⊢
    simp -implicitDefEqProofs [qc, hRl, hR2, getB_old, orB, hm, p1, p2, p3, p4, p5, p6, p7, p8, p9, p10, p11, m1, m2, hw]
    omega
end Go.Proofs.YtenndgooepdmiaaGreatDoor
end
section
namespace Go.Proofs.YtenndgooepdmiaaGreatDoor
open Go Go.AM Go.Proofs
set_option maxRecDepth 20000
set_option maxHeartbeats 4000000
set_option linter.unusedSimpArgs false
set_option linter.unusedVariables false
theorem r2C_own (H : List Blk) (a b c d : Blk) (s : Bs) (st : R2) (o : List Blk) : (H ++ a :: b :: c :: d :: r2C s st :: o)[H.length + 4]? = some (r2C s st) := by
  rw [List.getElem?_append_right (by omega)]; simp
section
variable (H : List Blk) (b0 b1 b2 b3 b5 b6 b7 : Blk) (q1 q2 q3 q4 q5 q6 q7 q8 q9 q10 : AV) (s : Bs) (k : Int)
def stK (v : AV) (i : Nat) (st : R2) (o : List Blk) : St := ⟨[(0, T s), (2, .ptr (H.length + 3) 0), (4, .ptr (H.length + 4) 0), (5, .ptr (H.length + 8) 0), (6, I k), (7, I i)], [], b0 :: b1 :: b2 :: b3 :: r2C s st :: b5 :: b6 :: b7 :: .cells [q1, q2, q3, q4, q5, q6, q7, q8, q9, q10, v, .g .nsl, .g .nsl] :: o⟩
def exK (v : AV) (i : Nat) (st : R2) (o : List Blk) : Ex × St := (.exit 0, ⟨[(0, T s), (2, .ptr (H.length + 3) 0), (4, .ptr (H.length + 4) 0), (5, .ptr (H.length + 8) 0), (6, I k), (7, I i), (63, B false)], [], b0 :: b1 :: b2 :: b3 :: r2C s st :: b5 :: b6 :: b7 :: .cells [q1, q2, q3, q4, q5, q6, q7, q8, q9, q10, v, .g .nsl, .g .nsl] :: o⟩)
theorem q_exit (v : AV) (i : Nat) (st : R2) (o : List Blk) (hc : ¬ ((i : Int) < k ∧ st.2 = false) ∨ 4 < i) :
    loopE (EvF tab) H L17_0 [0, 2, 4, 5, 6, 7] (stK H b0 b1 b2 b3 b5 b6 b7 q1 q2 q3 q4 q5 q6 q7 q8 q9 q10 s k v i st o) = some (exK H b0 b1 b2 b3 b5 b6 b7 q1 q2 q3 q4 q5 q6 q7 q8 q9 q10 s k v i st o) := by
  refine loopE_out _ _ _ _ _ _ (by simp [exK]) ?_
  unfold stK exK
  delta L17_0
  obtain ⟨a, w⟩ := st
  simp only at hc
  by_cases hk : (i : Int) < k
  · cases w
    · have h5 : ¬ (i : Int) ≤ 4 := by rcases hc with h | h; exact absurd ⟨hk, rfl⟩ h; omega
      have h5' : ¬ i ≤ 4 := by omega
      simp -implicitDefEqProofs [r2C, hk, h5, h5']
    · simp -implicitDefEqProofs [r2C, hk]
  · simp -implicitDefEqProofs [r2C, hk]
theorem q_stepA (hl : s.length ≤ 9223372036854775807) (st : R2) (hi : Iv s st) (hk : 0 < k) (hw : st.2 = false) :
    kpN [0, 2, 4, 5, 6, 7] (evCode (EvF tab) H L17_0 (stK H b0 b1 b2 b3 b5 b6 b7 q1 q2 q3 q4 q5 q6 q7 q8 q9 q10 s k (.g .nsl) 0 st [])) =
      some (.normal, stK H b0 b1 b2 b3 b5 b6 b7 q1 q2 q3 q4 q5 q6 q7 q8 q9 q10 s k (.ms (H.length + 10) 2 5 0 1) 1 (r2Cmp s st).2 [.cells ((r2Cmp s st).1.c.map .g), .rows 5 2 [(r2Cmp s st).1.c]]) := by
  have i1 := r2T_iv hi
  have i2 := (r2N_iv i1).1
  have i3 := (r2N_iv i2).1
  have i4 := (r2N_iv i3).1
  have hst : st = (st.1, false) := by rw [← hw]
  have hrC : r2C s st = .cells [T s, I st.1, B false] := by rw [← hw]; rfl
  have a1 := r2t_ev (r2C_own H b0 b1 b2 b3 s st (b5 :: b6 :: b7 :: .cells [q1, q2, q3, q4, q5, q6, q7, q8, q9, q10, .g .nsl, .g .nsl, .g .nsl] :: [])) hl hi
  have a2 := r2n_ev (r2C_own H b0 b1 b2 b3 s (r2T s st).2 (b5 :: b6 :: b7 :: .cells [q1, q2, q3, q4, q5, q6, q7, q8, q9, q10, .g .nsl, .g .nsl, .g .nsl] :: [.cells [T (r2T s st).1, I 0, I 0, I 0, T []]])) hl
  have a3 := r2n_ev (r2C_own H b0 b1 b2 b3 s (r2N s (r2T s st).2).2 (b5 :: b6 :: b7 :: .cells [q1, q2, q3, q4, q5, q6, q7, q8, q9, q10, .g .nsl, .g .nsl, .g .nsl] :: [.cells [T (r2T s st).1, I (r2N s (r2T s st).2).1, I 0, I 0, T []]])) hl
  have a4 := r2n_ev (r2C_own H b0 b1 b2 b3 s (r2N s (r2N s (r2T s st).2).2).2 (b5 :: b6 :: b7 :: .cells [q1, q2, q3, q4, q5, q6, q7, q8, q9, q10, .g .nsl, .g .nsl, .g .nsl] :: [.cells [T (r2T s st).1, I (r2N s (r2T s st).2).1, I (r2N s (r2N s (r2T s st).2).2).1, I 0, T []]])) hl
  have a5 := r2t_ev (r2C_own H b0 b1 b2 b3 s (r2N s (r2N s (r2N s (r2T s st).2).2).2).2 (b5 :: b6 :: b7 :: .cells [q1, q2, q3, q4, q5, q6, q7, q8, q9, q10, .g .nsl, .g .nsl, .g .nsl] :: [.cells [T (r2T s st).1, I (r2N s (r2T s st).2).1, I (r2N s (r2N s (r2T s st).2).2).1, I (r2N s (r2N s (r2N s (r2T s st).2).2).2).1, T []]])) hl i4
  have u1 : IntKind.i64.wrap 1 = 1 := rfl
  unfold stK
  delta L17_0
  simp only [r2Cmp, seq2]
  rw [hrC] at a1 ⊢
  generalize r2T s st = x1 at a1 a2 a3 a4 a5 ⊢; obtain ⟨v1, s1⟩ := x1; simp only at a1 a2 a3 a4 a5 ⊢
  generalize r2N s s1 = x2 at a2 a3 a4 a5 ⊢; obtain ⟨v2, s2⟩ := x2; simp only at a2 a3 a4 a5 ⊢
  generalize r2N s s2 = x3 at a3 a4 a5 ⊢; obtain ⟨v3, s3⟩ := x3; simp only at a3 a4 a5 ⊢
  generalize r2N s s3 = x4 at a4 a5 ⊢; obtain ⟨v4, s4⟩ := x4; simp only at a4 a5 ⊢
  generalize r2T s s4 = x5 at a5 ⊢; obtain ⟨v5, s5⟩ := x5; simp only at a5 ⊢
  simp -implicitDefEqProofs [zres, hk, u1, a1, a2, a3, a4, a5, Cmp.c, chunk, appV, room]
theorem q_stepB (hl : s.length ≤ 9223372036854775807) (out : List Cmp) (ho : out.length ≤ 4) (st : R2) (hi : Iv s st) (hk : (out.length : Int) < k) (hw : st.2 = false) (jc : Blk) (o : List Blk) :
    kpN [0, 2, 4, 5, 6, 7] (evCode (EvF tab) H L17_0 (stK H b0 b1 b2 b3 b5 b6 b7 q1 q2 q3 q4 q5 q6 q7 q8 q9 q10 s k (.ms (H.length + 10) (out.length + 1) 5 0 out.length) out.length st (jc :: .rows 5 (out.length + 1) (out.map Cmp.c) :: o))) =
      some (.normal, stK H b0 b1 b2 b3 b5 b6 b7 q1 q2 q3 q4 q5 q6 q7 q8 q9 q10 s k (.ms (H.length + 10) ((out ++ [(r2Cmp s st).1]).length + 1) 5 0 (out ++ [(r2Cmp s st).1]).length) (out ++ [(r2Cmp s st).1]).length (r2Cmp s st).2 (jc :: .rows 5 ((out ++ [(r2Cmp s st).1]).length + 1) ((out ++ [(r2Cmp s st).1]).map Cmp.c) :: (o ++ [.cells ((r2Cmp s st).1.c.map .g)]))) := by
  have i1 := r2T_iv hi
  have i2 := (r2N_iv i1).1
  have i3 := (r2N_iv i2).1
  have i4 := (r2N_iv i3).1
  have hst : st = (st.1, false) := by rw [← hw]
  have hrC : r2C s st = .cells [T s, I st.1, B false] := by rw [← hw]; rfl
  obtain ⟨QB, eQ⟩ : ∃ b : Blk, b = .cells [q1, q2, q3, q4, q5, q6, q7, q8, q9, q10, .ms (H.length + 10) (out.length + 1) 5 0 out.length, .g .nsl, .g .nsl] := ⟨_, rfl⟩
  obtain ⟨RB, eR⟩ : ∃ b : Blk, b = .rows 5 (out.length + 1) (out.map Cmp.c) := ⟨_, rfl⟩
  have a1 := r2t_ev (r2C_own H b0 b1 b2 b3 s st (b5 :: b6 :: b7 :: QB :: jc :: RB :: o)) hl hi
  have a2 := r2n_ev (r2C_own H b0 b1 b2 b3 s (r2T s st).2 (b5 :: b6 :: b7 :: QB :: jc :: RB :: (o ++ [.cells [T (r2T s st).1, I 0, I 0, I 0, T []]]))) hl
  have a3 := r2n_ev (r2C_own H b0 b1 b2 b3 s (r2N s (r2T s st).2).2 (b5 :: b6 :: b7 :: QB :: jc :: RB :: (o ++ [.cells [T (r2T s st).1, I (r2N s (r2T s st).2).1, I 0, I 0, T []]]))) hl
  have a4 := r2n_ev (r2C_own H b0 b1 b2 b3 s (r2N s (r2N s (r2T s st).2).2).2 (b5 :: b6 :: b7 :: QB :: jc :: RB :: (o ++ [.cells [T (r2T s st).1, I (r2N s (r2T s st).2).1, I (r2N s (r2N s (r2T s st).2).2).1, I 0, T []]]))) hl
  have a5 := r2t_ev (r2C_own H b0 b1 b2 b3 s (r2N s (r2N s (r2N s (r2T s st).2).2).2).2 (b5 :: b6 :: b7 :: QB :: jc :: RB :: (o ++ [.cells [T (r2T s st).1, I (r2N s (r2T s st).2).1, I (r2N s (r2N s (r2T s st).2).2).1, I (r2N s (r2N s (r2N s (r2T s st).2).2).2).1, T []]]))) hl i4
  have e1 : IntKind.i64.wrap ((out.length : Int) + 1) = (out.length : Int) + 1 := wrap_i64 (by omega) (by omega)
  have htk : List.take out.length (List.map Cmp.c out) = List.map Cmp.c out := List.take_of_length_le (by simp)
  have hr1 : out.length + 1 ≤ 140737488355328 := by omega
  have hr2 : (out.length + 1) * 56 ≤ 140737488355328 := by omega
  have h4 : (out.length : Int) ≤ 4 := by omega
  unfold stK
  delta L17_0
  simp only [r2Cmp, seq2]
  subst eQ eR
  rw [hrC] at a1 ⊢
  generalize r2T s st = x1 at a1 a2 a3 a4 a5 ⊢; obtain ⟨v1, s1⟩ := x1; simp only at a1 a2 a3 a4 a5 ⊢
  generalize r2N s s1 = x2 at a2 a3 a4 a5 ⊢; obtain ⟨v2, s2⟩ := x2; simp only at a2 a3 a4 a5 ⊢
  generalize r2N s s2 = x3 at a3 a4 a5 ⊢; obtain ⟨v3, s3⟩ := x3; simp only at a3 a4 a5 ⊢
  generalize r2N s s3 = x4 at a4 a5 ⊢; obtain ⟨v4, s4⟩ := x4; simp only at a4 a5 ⊢
  generalize r2T s s4 = x5 at a5 ⊢; obtain ⟨v5, s5⟩ := x5; simp only at a5 ⊢
  simp -implicitDefEqProofs [zres, hk, h4, ho, e1, a1, a2, a3, a4, a5, Cmp.c, chunk, appV, room, hr1, hr2, htk, Nat.not_succ_le_self]
end
end Go.Proofs.YtenndgooepdmiaaGreatDoor
end
section
namespace Go.Proofs.YtenndgooepdmiaaGreatDoor
open Go Go.AM Go.Proofs
set_option maxRecDepth 20000
set_option maxHeartbeats 1000000
set_option linter.unusedSimpArgs false
set_option linter.unusedVariables false
def Good2 {α : Type} (it : Bs → R2 → α × R2) (enc : α → Bs) (ok : α → Prop) : Prop :=
  ∀ x, ok x → ∀ pre t : Bs, it (pre ++ (enc x ++ t)) (((pre.length : Nat) : Int), false) = (x, ((((pre ++ enc x).length : Nat) : Int), false))
theorem Good2.seq {α β : Type} {a : Bs → R2 → α × R2} {b : Bs → R2 → β × R2} {ea : α → Bs} {eb : β → Bs} {oa : α → Prop} {ob : β → Prop} (ha : Good2 a ea oa) (hb : Good2 b eb ob) :
    Good2 (fun s => seq2 (a s) (b s)) (fun p => ea p.1 ++ eb p.2) (fun p => oa p.1 ∧ ob p.2) := by
  rintro ⟨x, y⟩ ⟨h1, h2⟩ pre t
  have k1 := ha x h1 pre (eb y ++ t)
  have k2 := hb y h2 (pre ++ ea x) t
  simp only [List.append_assoc] at k1 k2 ⊢
  simp only [seq2, k1, k2]
theorem Good2.map {α β : Type} {a : Bs → R2 → α × R2} {ea : α → Bs} {oa : α → Prop} (ha : Good2 a ea oa) (f : α → β) (g : β → α) (eb : β → Bs) (ob : β → Prop) (hfg : ∀ y, f (g y) = y) (hgf : ∀ x, eb (f x) = ea x) (ho : ∀ y, ob y → oa (g y)) :
    Good2 (fun s st => (f (a s st).1, (a s st).2)) eb ob := by
  intro y hy pre t
  have h1 : eb y = ea (g y) := by rw [← hgf, hfg]
  simp only [h1, ha (g y) (ho y hy), hfg]
theorem readS_pre (n : Nat) (pre t : Bs) (h : n < 18446744073709551616) : readS (pre ++ (varB n ++ t)) pre.length = (n, (((pre ++ varB n).length : Nat) : Int), 0) := by
  unfold readS
  rw [if_pos ⟨by omega, by simp; omega⟩]
  have e : (pre ++ (varB n ++ t)).drop ((pre.length : Nat) : Int).toNat = varB n ++ t := by simp
  rw [e, read_var pre.length t n 0 0 (by simpa using h) (by omega) (by omega)]
  simp
theorem good2N : Good2 r2N encN (fun n => 0 ≤ n ∧ n ≤ 1099511627775) := by
  intro n ⟨h0, h1⟩ pre t
  obtain ⟨k, rfl⟩ : ∃ k : Nat, n = k := ⟨n.toNat, by omega⟩
  have hr := readS_pre k pre t (by omega)
  have e : encN (k : Int) = varB k := rfl
  unfold r2N
  simp only [e, hr]
  rw [if_neg (by simp; omega)]
theorem good2T : Good2 r2T encS (fun s => s.length ≤ 1099511627775) := by
  intro x hx pre t
  have h1 := good2N (x.length : Int) ⟨by omega, by omega⟩ pre (x ++ t)
  unfold r2T encS
  simp only [List.append_assoc] at h1 ⊢
  simp only [h1]
  rw [if_neg (by simp; omega)]
  have e1 : ((((pre ++ encN (x.length : Int)).length : Nat) : Int) + (x.length : Int)).toNat = (pre ++ (encN (x.length : Int) ++ x)).length := by simp; omega
  have e2 : ((((pre ++ encN (x.length : Int)).length : Nat) : Int)).toNat = (pre ++ encN (x.length : Int)).length := by omega
  rw [e1, e2]
  have e3 : pre ++ (encN (x.length : Int) ++ (x ++ t)) = (pre ++ (encN (x.length : Int) ++ x)) ++ t := by simp
  have e4 : List.take (pre ++ (encN (x.length : Int) ++ x)).length (pre ++ (encN (x.length : Int) ++ (x ++ t))) = pre ++ (encN (x.length : Int) ++ x) := by rw [e3, List.take_left]
  rw [e4]
  refine Prod.ext ?_ (Prod.ext ?_ rfl)
  · simp only
    rw [← List.append_assoc, List.drop_left]
  · simp; omega
theorem good2B : Good2 r2B encB (fun _ => True) := by
  intro b _ pre t
  have h1 := good2N 1 ⟨by omega, by omega⟩ pre t
  have h0 := good2N 0 ⟨by omega, by omega⟩ pre t
  rw [encN1] at h1
  rw [encN0] at h0
  cases b <;> simp only [r2B, encB, h1, h0, if_true, if_false, Bool.false_eq_true] <;> simp
theorem good2Cmp : Good2 r2Cmp encCmp (fun c => cmpOk c = true) := by
  have h := good2T.seq (good2N.seq (good2N.seq (good2N.seq good2T)))
  exact h.map (fun x => (⟨x.1, x.2.1, x.2.2.1, x.2.2.2.1, x.2.2.2.2⟩ : Cmp)) (fun c => (c.key, c.what, c.how, c.n, c.value)) encCmp _ (fun _ => rfl) (fun x => by simp [encCmp]) (fun c hc => by
    obtain ⟨⟨h1, h2⟩, h3, h4, h5, h6, h7, h8⟩ := cmpOk_iff.1 hc
    exact ⟨by simp only; omega, ⟨by simp only; omega, by simp only; omega⟩, ⟨by simp only; omega, by simp only; omega⟩, ⟨h7, h8⟩, by simp only; omega⟩)
theorem good2Mut : Good2 r2Mut encMut (fun c => mutOk c = true) := by
  have h := good2B.seq (good2T.seq (good2T.seq good2N))
  exact h.map (fun x => (⟨x.1, x.2.1, x.2.2.1, x.2.2.2⟩ : Mut)) (fun c => (c.gone, c.key, c.value, c.lease)) encMut _ (fun _ => rfl) (fun x => by simp [encMut]) (fun c hc => by
    obtain ⟨⟨h1, h2⟩, h3, h4⟩ := mutOk_iff.1 hc
    exact ⟨trivial, by simp only; omega, by simp only; omega, h3, h4⟩)
theorem good2KV : Good2 r2KV encKV (fun c => kvOk c = true) := by
  have h := good2T.seq (good2T.seq (good2N.seq (good2N.seq (good2N.seq good2N))))
  exact h.map (fun x => (⟨x.1, x.2.1, x.2.2.1, x.2.2.2.1, x.2.2.2.2.1, x.2.2.2.2.2⟩ : KV)) (fun c => (c.key, c.value, c.create, c.mod, c.version, c.lease)) encKV _ (fun _ => rfl) (fun x => by simp [encKV]) (fun c hc => by
    obtain ⟨⟨h1, h2⟩, h3, h4, h5, h6⟩ := kvOk_iff.1 hc
    exact ⟨by simp only; omega, by simp only; omega, h3, h4, h5, h6⟩)
theorem good2Ev : Good2 r2Ev encEv (fun c => evOk c = true) := by
  have h := good2N.seq (good2B.seq good2KV)
  exact h.map (fun x => (⟨x.1, x.2.1, x.2.2⟩ : Ev)) (fun c => (c.rev, c.gone, c.kv)) encEv _ (fun _ => rfl) (fun x => by simp [encEv]) (fun c hc => by
    obtain ⟨h1, h2, h3⟩ := evOk_iff.1 hc
    exact ⟨⟨h2, h3⟩, trivial, h1⟩)
/-- A list: its number, and its things. -/
def r2Li {α : Type} (it : Bs → R2 → α × R2) (d : Nat) (s : Bs) (st : R2) : List α × R2 := r2L (it s) (r2N s st).1 d [] (r2N s st).2
theorem r2L_r {α : Type} {it : Bs → R2 → α × R2} {enc : α → Bs} {ok : α → Prop} (h : Good2 it enc ok) (t : Bs) : ∀ (l : List α) (d : Nat) (out : List α) (pre : Bs), (∀ x ∈ l, ok x) → l.length ≤ d →
    r2L (it (pre ++ ((l.map enc).flatten ++ t))) ((out.length + l.length : Nat) : Int) d out (((pre.length : Nat) : Int), false) = (out ++ l, ((((pre ++ (l.map enc).flatten).length : Nat) : Int), false)) := by
  intro l
  induction l with
  | nil =>
    intro d out pre _ _
    cases d with
    | zero => simp [r2L]
    | succ d => simp [r2L]
  | cons x l ih =>
    intro d out pre hl hd
    obtain ⟨d', rfl⟩ : ∃ d', d = d' + 1 := ⟨d - 1, by simp at hd; omega⟩
    have k1 := h x (hl x (by simp)) pre ((l.map enc).flatten ++ t)
    have k2 := ih d' (out ++ [x]) (pre ++ enc x) (fun y hy => hl y (by simp [hy])) (by simp at hd; omega)
    unfold r2L
    rw [if_pos ⟨by simp only [List.length_cons]; omega, rfl⟩]
    simp only [List.map_cons, List.flatten_cons, List.append_assoc] at k1 k2 ⊢
    rw [k1]
    simp only [List.length_append, List.length_cons, List.length_nil] at k2 ⊢
    rw [show out.length + (l.length + 1) = out.length + (0 + 1) + l.length by omega]
    rw [k2]
    simp
theorem good2L {α : Type} {it : Bs → R2 → α × R2} {enc : α → Bs} {ok : α → Prop} (h : Good2 it enc ok) (d : Nat) (hd : d ≤ 1000) :
    Good2 (r2Li it d) (fun l => encN l.length ++ (l.map enc).flatten) (fun l => l.length ≤ d ∧ ∀ x ∈ l, ok x) := by
  intro l ⟨h1, h2⟩ pre t
  have hn := good2N (l.length : Int) ⟨by omega, by omega⟩ pre ((l.map enc).flatten ++ t)
  have hr := r2L_r h t l d [] (pre ++ encN (l.length : Int)) h2 h1
  unfold r2Li
  simp only [List.append_assoc, List.length_nil, Nat.zero_add, List.nil_append] at hn hr ⊢
  rw [hn]
  simp only
  rw [hr]
end Go.Proofs.YtenndgooepdmiaaGreatDoor
end
section
namespace Go.Proofs.YtenndgooepdmiaaGreatDoor
open Go Go.AM Go.Proofs
set_option maxRecDepth 20000
set_option maxHeartbeats 4000000
set_option linter.unusedSimpArgs false
set_option linter.unusedVariables false
set_option linter.defProp false
section
variable (H : List Blk) (b0 b1 b2 b3 b5 b6 b7 : Blk) (q1 q2 q3 q4 q5 q6 q7 q8 q9 q10 : AV) (s : Bs) (k : Int)
theorem q_loopB (hl : s.length ≤ 9223372036854775807) : ∀ (d : Nat) (out : List Cmp) (st : R2) (jc : Blk) (o : List Blk), out.length + d = 5 → Iv s st →
    ∃ o', loopE (EvF tab) H L17_0 [0, 2, 4, 5, 6, 7] (stK H b0 b1 b2 b3 b5 b6 b7 q1 q2 q3 q4 q5 q6 q7 q8 q9 q10 s k (.ms (H.length + 10) (out.length + 1) 5 0 out.length) out.length st (jc :: .rows 5 (out.length + 1) (out.map Cmp.c) :: o)) =
      some (exK H b0 b1 b2 b3 b5 b6 b7 q1 q2 q3 q4 q5 q6 q7 q8 q9 q10 s k (.ms (H.length + 10) ((r2L (r2Cmp s) k d out st).1.length + 1) 5 0 (r2L (r2Cmp s) k d out st).1.length) (r2L (r2Cmp s) k d out st).1.length (r2L (r2Cmp s) k d out st).2 (jc :: .rows 5 ((r2L (r2Cmp s) k d out st).1.length + 1) ((r2L (r2Cmp s) k d out st).1.map Cmp.c) :: o')) := by
  intro d
  induction d with
  | zero =>
    intro out st jc o h1 hi
    refine ⟨o, ?_⟩
    simp only [r2L]
    exact q_exit H b0 b1 b2 b3 b5 b6 b7 q1 q2 q3 q4 q5 q6 q7 q8 q9 q10 s k _ _ _ _ (.inr (by omega))
  | succ d ih =>
    intro out st jc o h1 hi
    by_cases hc : (out.length : Int) < k ∧ st.2 = false
    · simp only [r2L, if_pos hc]
      obtain ⟨o', ho'⟩ := ih (out ++ [(r2Cmp s st).1]) (r2Cmp s st).2 jc (o ++ [.cells ((r2Cmp s st).1.c.map .g)]) (by simp; omega) (r2Cmp_iv hi)
      refine ⟨o', ?_⟩
      rw [loopE_kp _ _ _ _ _ _ (q_stepB H b0 b1 b2 b3 b5 b6 b7 q1 q2 q3 q4 q5 q6 q7 q8 q9 q10 s k hl out (by omega) st hi hc.1 hc.2 jc o), ho']
    · simp only [r2L, if_neg hc]
      exact ⟨o, q_exit H b0 b1 b2 b3 b5 b6 b7 q1 q2 q3 q4 q5 q6 q7 q8 q9 q10 s k _ _ _ _ (.inl hc)⟩
theorem r2L_ge {α : Type} (it : R2 → α × R2) (k : Int) : ∀ (d : Nat) (out : List α) (st : R2), out.length ≤ (r2L it k d out st).1.length := by
  intro d
  induction d with
  | zero => intro out st; simp [r2L]
  | succ d ih =>
    intro out st
    unfold r2L
    split
    · have := ih (out ++ [(it st).1]) (it st).2
      simp only [List.length_append, List.length_cons, List.length_nil] at this
      omega
    · simp
theorem q_loop (hl : s.length ≤ 9223372036854775807) (st : R2) (hi : Iv s st) :
    ∃ v o', loopE (EvF tab) H L17_0 [0, 2, 4, 5, 6, 7] (stK H b0 b1 b2 b3 b5 b6 b7 q1 q2 q3 q4 q5 q6 q7 q8 q9 q10 s k (.g .nsl) 0 st []) =
      some (exK H b0 b1 b2 b3 b5 b6 b7 q1 q2 q3 q4 q5 q6 q7 q8 q9 q10 s k v (r2L (r2Cmp s) k 5 [] st).1.length (r2L (r2Cmp s) k 5 [] st).2 o') ∧
      (((r2L (r2Cmp s) k 5 [] st).1 = [] ∧ v = .g .nsl ∧ o' = []) ∨ ((r2L (r2Cmp s) k 5 [] st).1 ≠ [] ∧ v = .ms (H.length + 10) ((r2L (r2Cmp s) k 5 [] st).1.length + 1) 5 0 (r2L (r2Cmp s) k 5 [] st).1.length ∧ ∃ jc o2, o' = jc :: .rows 5 ((r2L (r2Cmp s) k 5 [] st).1.length + 1) ((r2L (r2Cmp s) k 5 [] st).1.map Cmp.c) :: o2)) := by
  by_cases hc : (([] : List Cmp).length : Int) < k ∧ st.2 = false
  · have e : r2L (r2Cmp s) k 5 [] st = r2L (r2Cmp s) k 4 [(r2Cmp s st).1] (r2Cmp s st).2 := by
      rw [r2L, if_pos hc]; rfl
    obtain ⟨o', ho'⟩ := q_loopB H b0 b1 b2 b3 b5 b6 b7 q1 q2 q3 q4 q5 q6 q7 q8 q9 q10 s k hl 4 [(r2Cmp s st).1] (r2Cmp s st).2 (.cells ((r2Cmp s st).1.c.map .g)) [] rfl (r2Cmp_iv hi)
    have hge := r2L_ge (r2Cmp s) k 4 [(r2Cmp s st).1] (r2Cmp s st).2
    have hs := q_stepA H b0 b1 b2 b3 b5 b6 b7 q1 q2 q3 q4 q5 q6 q7 q8 q9 q10 s k hl st hi (by simpa using hc.1) hc.2
    rw [e]
    have hne : (r2L (r2Cmp s) k 4 [(r2Cmp s st).1] (r2Cmp s st).2).1 ≠ [] := fun h0 => by rw [h0] at hge; simp at hge
    have hh := (loopE_kp (EvF tab) H L17_0 [0, 2, 4, 5, 6, 7] _ _ hs).trans ho'
    exact ⟨_, _, hh, .inr ⟨hne, rfl, _, _, rfl⟩⟩
  · have e : r2L (r2Cmp s) k 5 [] st = ([], st) := by rw [r2L, if_neg hc]
    rw [e]
    exact ⟨.g .nsl, [], q_exit H b0 b1 b2 b3 b5 b6 b7 q1 q2 q3 q4 q5 q6 q7 q8 q9 q10 s k _ 0 st [] (.inl hc), .inl ⟨rfl, rfl, rfl⟩⟩
end
def r2Req (s : Bs) : R2 → RawQ × R2 := seq2 (r2N s) (seq2 (r2N s) (seq2 (r2N s) (seq2 (r2N s) (seq2 (r2B s) (seq2 (r2T s) (seq2 (r2T s) (seq2 (r2N s) (seq2 (r2N s) (seq2 (r2N s) (seq2 (r2N s) (seq2 (r2Li r2Cmp 5 s) (seq2 (r2Li r2Mut 5 s) (r2Li r2Mut 5 s)))))))))))))
def good2Req := good2N.seq (good2N.seq (good2N.seq (good2N.seq (good2B.seq (good2T.seq (good2T.seq (good2N.seq (good2N.seq (good2N.seq (good2N.seq ((good2L good2Cmp 5 (by omega)).seq ((good2L good2Mut 5 (by omega)).seq (good2L good2Mut 5 (by omega))))))))))))))
theorem ref_enc {q : Req} (h : reqOk q = true) : (r2Req (encReq q) (0, false)).1 = unReq q ∧ (r2Req (encReq q) (0, false)).2.2 = false := by
  have hk := reqOk_iff h
  obtain ⟨kk1, kk2, ht, n1, n2, n3, n4, n5, n6, i1, i2, m1, m2⟩ := hk
  obtain ⟨j1, j2⟩ := mutsOk_iff.1 m1
  obtain ⟨j3, j4⟩ := mutsOk_iff.1 m2
  have hr := good2Req (unReq q) ⟨⟨by simp [unReq], by simp [unReq]⟩, ⟨by simp only [unReq]; omega, by simp only [unReq]; omega⟩, n1, n2, trivial, by simp only [unReq]; omega, by simp only [unReq]; omega, n3, n4, n5, n6, ⟨by simp only [unReq]; omega, i2⟩, ⟨by simp only [unReq]; omega, j2⟩, ⟨by simp only [unReq]; omega, j4⟩⟩ [] []
  simp only [unReq, encN1, List.append_nil, List.nil_append] at hr
  have e : encReq q = [1] ++ (encN q.kind ++ (encN q.who ++ (encN q.seq ++ (encB q.once ++ (encS q.key ++ (encS q.value ++ (encN q.lease ++ (encN q.rev ++ (encN q.ttl ++ (encN q.token ++ ((encN q.iff.l.length ++ (q.iff.l.map encCmp).flatten) ++ ((encN q.thn.l.length ++ (q.thn.l.map encMut).flatten) ++ (encN q.els.l.length ++ (q.els.l.map encMut).flatten))))))))))))) := by
    simp only [encReq, encHead, encMuts, List.append_assoc]
  rw [← e] at hr
  have hr2 : r2Req (encReq q) (0, false) = (unReq q, ((((encReq q).length : Nat) : Int), false)) := hr
  rw [hr2]
  exact ⟨rfl, rfl⟩
def asked2Ok (s : Bs) : Bool := decide ((r2Req s (0, false)).1.1 = 1) && (!(r2Req s (0, false)).2.2 && (reqOk (mkReq (r2Req s (0, false)).1) && decide (encReq (mkReq (r2Req s (0, false)).1) = s)))
theorem asked2_eq (s : Bs) : asked2Ok s = askedOk s ∧ (askedOk s = true → mkReq (r2Req s (0, false)).1 = mkReq (rdReq (s, false)).1) := by
  cases h : askedOk s
  · refine ⟨?_, fun h => by cases h⟩
    cases h2 : asked2Ok s
    · rfl
    · unfold asked2Ok at h2
      simp only [Bool.and_eq_true, decide_eq_true_eq] at h2
      have := (asked_enc h2.2.2.1).1
      rw [h2.2.2.2, h] at this
      cases this
  · obtain ⟨h1, h2⟩ := asked_inv h
    obtain ⟨k1, k2⟩ := ref_enc h1
    rw [h2] at k1 k2
    have k3 : (r2Req s (0, false)).1.1 = 1 := by rw [k1]; rfl
    have k4 : mkReq (r2Req s (0, false)).1 = mkReq (rdReq (s, false)).1 := by
      rw [k1]
      simp only [mkReq, unReq, slN_l]
    refine ⟨?_, fun _ => k4⟩
    unfold asked2Ok
    rw [k4, k3, k2, h1, h2]
    simp
theorem Asked2_ev (s : Bs) (hl : s.length ≤ 9223372036854775807) (H : List Blk) : EvF tab 17 [T s] H = some ⟨.tup [A (askedQ s).c, B (askedOk s)], [], []⟩ := by
  obtain ⟨ZC, eZ⟩ : ∃ b : Blk, b = .cells [I 0, I 0, I 0, B false, T [], T [], I 0, I 0, I 0, I 0, .ms H.length 1 5 0 0, .ms (H.length + 1) 1 4 0 0, .ms (H.length + 2) 1 4 0 0] := ⟨_, rfl⟩
  have i0 : Iv s (0, false) := ⟨by simp, by simp⟩
  obtain ⟨v1, s1, e1⟩ : ∃ v' t', r2N s (0, false) = (v', t') := ⟨(r2N s (0, false)).1, (r2N s (0, false)).2, rfl⟩
  have i1 := (r2N_iv i0).1; rw [e1] at i1; try simp only at i1
  have a1 := r2n_ev (r2C_own H (.rows 5 1 []) (.rows 4 1 []) (.rows 4 1 []) ZC s (0, false) []) hl; rw [e1] at a1; try simp only at a1
  obtain ⟨v2, s2, e2⟩ : ∃ v' t', r2N s s1 = (v', t') := ⟨(r2N s s1).1, (r2N s s1).2, rfl⟩
  have i2 := (r2N_iv i1).1; rw [e2] at i2; try simp only at i2
  have a2 := r2n_ev (r2C_own H (.rows 5 1 []) (.rows 4 1 []) (.rows 4 1 []) ZC s s1 []) hl; rw [e2] at a2; try simp only at a2
  obtain ⟨v3, s3, e3⟩ : ∃ v' t', r2N s s2 = (v', t') := ⟨(r2N s s2).1, (r2N s s2).2, rfl⟩
  have i3 := (r2N_iv i2).1; rw [e3] at i3; try simp only at i3
  have a3 := r2n_ev (r2C_own H (.rows 5 1 []) (.rows 4 1 []) (.rows 4 1 []) ZC s s2 [.rows 5 1 [], .rows 4 1 [], .rows 4 1 [], .cells [I v2, I 0, I 0, B false, T [], T [], I 0, I 0, I 0, I 0, .g .nsl, .g .nsl, .g .nsl]]) hl; rw [e3] at a3; try simp only at a3
  obtain ⟨v4, s4, e4⟩ : ∃ v' t', r2N s s3 = (v', t') := ⟨(r2N s s3).1, (r2N s s3).2, rfl⟩
  have i4 := (r2N_iv i3).1; rw [e4] at i4; try simp only at i4
  have a4 := r2n_ev (r2C_own H (.rows 5 1 []) (.rows 4 1 []) (.rows 4 1 []) ZC s s3 [.rows 5 1 [], .rows 4 1 [], .rows 4 1 [], .cells [I v2, I v3, I 0, B false, T [], T [], I 0, I 0, I 0, I 0, .g .nsl, .g .nsl, .g .nsl]]) hl; rw [e4] at a4; try simp only at a4
  obtain ⟨v5, s5, e5⟩ : ∃ v' t', r2B s s4 = (v', t') := ⟨(r2B s s4).1, (r2B s s4).2, rfl⟩
  have i5 := r2B_iv i4; rw [e5] at i5; try simp only at i5
  have a5 := r2b_ev (r2C_own H (.rows 5 1 []) (.rows 4 1 []) (.rows 4 1 []) ZC s s4 [.rows 5 1 [], .rows 4 1 [], .rows 4 1 [], .cells [I v2, I v3, I v4, B false, T [], T [], I 0, I 0, I 0, I 0, .g .nsl, .g .nsl, .g .nsl]]) hl; rw [e5] at a5; try simp only at a5
  obtain ⟨v6, s6, e6⟩ : ∃ v' t', r2T s s5 = (v', t') := ⟨(r2T s s5).1, (r2T s s5).2, rfl⟩
  have i6 := r2T_iv i5; rw [e6] at i6; try simp only at i6
  have a6 := r2t_ev (r2C_own H (.rows 5 1 []) (.rows 4 1 []) (.rows 4 1 []) ZC s s5 [.rows 5 1 [], .rows 4 1 [], .rows 4 1 [], .cells [I v2, I v3, I v4, B v5, T [], T [], I 0, I 0, I 0, I 0, .g .nsl, .g .nsl, .g .nsl]]) hl i5; rw [e6] at a6; try simp only at a6
  obtain ⟨v7, s7, e7⟩ : ∃ v' t', r2T s s6 = (v', t') := ⟨(r2T s s6).1, (r2T s s6).2, rfl⟩
  have i7 := r2T_iv i6; rw [e7] at i7; try simp only at i7
  have a7 := r2t_ev (r2C_own H (.rows 5 1 []) (.rows 4 1 []) (.rows 4 1 []) ZC s s6 [.rows 5 1 [], .rows 4 1 [], .rows 4 1 [], .cells [I v2, I v3, I v4, B v5, T v6, T [], I 0, I 0, I 0, I 0, .g .nsl, .g .nsl, .g .nsl]]) hl i6; rw [e7] at a7; try simp only at a7
  obtain ⟨v8, s8, e8⟩ : ∃ v' t', r2N s s7 = (v', t') := ⟨(r2N s s7).1, (r2N s s7).2, rfl⟩
  have i8 := (r2N_iv i7).1; rw [e8] at i8; try simp only at i8
  have a8 := r2n_ev (r2C_own H (.rows 5 1 []) (.rows 4 1 []) (.rows 4 1 []) ZC s s7 [.rows 5 1 [], .rows 4 1 [], .rows 4 1 [], .cells [I v2, I v3, I v4, B v5, T v6, T v7, I 0, I 0, I 0, I 0, .g .nsl, .g .nsl, .g .nsl]]) hl; rw [e8] at a8; try simp only at a8
  obtain ⟨v9, s9, e9⟩ : ∃ v' t', r2N s s8 = (v', t') := ⟨(r2N s s8).1, (r2N s s8).2, rfl⟩
  have i9 := (r2N_iv i8).1; rw [e9] at i9; try simp only at i9
  have a9 := r2n_ev (r2C_own H (.rows 5 1 []) (.rows 4 1 []) (.rows 4 1 []) ZC s s8 [.rows 5 1 [], .rows 4 1 [], .rows 4 1 [], .cells [I v2, I v3, I v4, B v5, T v6, T v7, I v8, I 0, I 0, I 0, .g .nsl, .g .nsl, .g .nsl]]) hl; rw [e9] at a9; try simp only at a9
  obtain ⟨v10, s10, e10⟩ : ∃ v' t', r2N s s9 = (v', t') := ⟨(r2N s s9).1, (r2N s s9).2, rfl⟩
  have i10 := (r2N_iv i9).1; rw [e10] at i10; try simp only at i10
  have a10 := r2n_ev (r2C_own H (.rows 5 1 []) (.rows 4 1 []) (.rows 4 1 []) ZC s s9 [.rows 5 1 [], .rows 4 1 [], .rows 4 1 [], .cells [I v2, I v3, I v4, B v5, T v6, T v7, I v8, I v9, I 0, I 0, .g .nsl, .g .nsl, .g .nsl]]) hl; rw [e10] at a10; try simp only at a10
  obtain ⟨v11, s11, e11⟩ : ∃ v' t', r2N s s10 = (v', t') := ⟨(r2N s s10).1, (r2N s s10).2, rfl⟩
  have i11 := (r2N_iv i10).1; rw [e11] at i11; try simp only at i11
  have a11 := r2n_ev (r2C_own H (.rows 5 1 []) (.rows 4 1 []) (.rows 4 1 []) ZC s s10 [.rows 5 1 [], .rows 4 1 [], .rows 4 1 [], .cells [I v2, I v3, I v4, B v5, T v6, T v7, I v8, I v9, I v10, I 0, .g .nsl, .g .nsl, .g .nsl]]) hl; rw [e11] at a11; try simp only at a11
  obtain ⟨v12, s12, e12⟩ : ∃ v' t', r2N s s11 = (v', t') := ⟨(r2N s s11).1, (r2N s s11).2, rfl⟩
  have i12 := (r2N_iv i11).1; rw [e12] at i12; try simp only at i12
  have a12 := r2n_ev (r2C_own H (.rows 5 1 []) (.rows 4 1 []) (.rows 4 1 []) ZC s s11 [.rows 5 1 [], .rows 4 1 [], .rows 4 1 [], .cells [I v2, I v3, I v4, B v5, T v6, T v7, I v8, I v9, I v10, I v11, .g .nsl, .g .nsl, .g .nsl]]) hl; rw [e12] at a12; try simp only at a12
  obtain ⟨v, o1, hw, hv⟩ := q_loop H (.rows 5 1 []) (.rows 4 1 []) (.rows 4 1 []) ZC (.rows 5 1 []) (.rows 4 1 []) (.rows 4 1 []) (I v2) (I v3) (I v4) (B v5) (T v6) (T v7) (I v8) (I v9) (I v10) (I v11) s v12 hl s12 i12
  have i13 := r2L_iv (fun st h => r2Cmp_iv h) v12 5 [] s12 i12
  have le13 := r2L_le (r2Cmp s) v12 5 [] s12
  obtain ⟨L, s13, e13⟩ : ∃ v' t', r2L (r2Cmp s) v12 5 [] s12 = (v', t') := ⟨(r2L (r2Cmp s) v12 5 [] s12).1, (r2L (r2Cmp s) v12 5 [] s12).2, rfl⟩
  rw [e13] at hw hv i13 le13
  simp only at hw hv i13 le13
  obtain ⟨M1, s14, e14⟩ : ∃ v' t', r2Li r2Mut 5 s s13 = (v', t') := ⟨(r2Li r2Mut 5 s s13).1, (r2Li r2Mut 5 s s13).2, rfl⟩
  have i14 := r2L_iv (fun st h => r2Mut_iv h) (r2N s s13).1 5 [] (r2N s s13).2 (r2N_iv i13).1
  have le14 := r2L_le (r2Mut s) (r2N s s13).1 5 [] (r2N s s13).2
  rw [show r2L (r2Mut s) (r2N s s13).1 5 [] (r2N s s13).2 = (M1, s14) from e14] at i14 le14
  obtain ⟨M2, s15, e15⟩ : ∃ v' t', r2Li r2Mut 5 s s14 = (v', t') := ⟨(r2Li r2Mut 5 s s14).1, (r2Li r2Mut 5 s s14).2, rfl⟩
  have le15 := r2L_le (r2Mut s) (r2N s s14).1 5 [] (r2N s s14).2
  rw [show r2L (r2Mut s) (r2N s s14).1 5 [] (r2N s s14).2 = (M2, s15) from e15] at le15
  have a14 := r2muts_ev (r2C_own H (.rows 5 1 []) (.rows 4 1 []) (.rows 4 1 []) ZC s s13 (.rows 5 1 [] :: .rows 4 1 [] :: .rows 4 1 [] :: .cells [I v2, I v3, I v4, B v5, T v6, T v7, I v8, I v9, I v10, I v11, v, .g .nsl, .g .nsl] :: o1)) hl i13
  rw [show r2L (r2Mut s) (r2N s s13).1 5 [] (r2N s s13).2 = (M1, s14) from e14] at a14
  have a15 := r2muts_ev (r2C_own H (.rows 5 1 []) (.rows 4 1 []) (.rows 4 1 []) ZC s s14 (.rows 5 1 [] :: .rows 4 1 [] :: .rows 4 1 [] :: .cells [I v2, I v3, I v4, B v5, T v6, T v7, I v8, I v9, I v10, I v11, v, .g (Sl.g 4 Mut.c (slN M1)), .g .nsl] :: o1)) hl i14
  rw [show r2L (r2Mut s) (r2N s s14).1 5 [] (r2N s s14).2 = (M2, s15) from e15] at a15
  simp only [List.length_nil, Nat.zero_add] at le13 le14 le15 a14 a15 i14
  have eR : r2Req s (0, false) = ((v1, v2, v3, v4, v5, v6, v7, v8, v9, v10, v11, L, M1, M2), s15) := by
    have e13' : r2Li r2Cmp 5 s s11 = (L, s13) := by unfold r2Li; rw [e12]; exact e13
    simp only [r2Req, seq2, e1, e2, e3, e4, e5, e6, e7, e8, e9, e10, e11, e13', e14, e15]
  obtain ⟨hE1, hE2⟩ := asked2_eq s
  obtain ⟨qq, hqq⟩ : ∃ q, q = mkReq (v1, v2, v3, v4, v5, v6, v7, v8, v9, v10, v11, L, M1, M2) := ⟨_, rfl⟩
  have hO : askedOk s = (decide (v1 = 1) && (!s15.2 && (reqOk qq && decide (encReq qq = s)))) := by rw [← hE1]; unfold asked2Ok; rw [eR, hqq]
  rw [eR] at hE2
  simp only [← hqq] at hE2
  have hRL : RL qq := by rw [hqq]; exact ⟨by simp only [mkReq, slN_l]; omega, by simp only [mkReq, slN_l]; omega, by simp only [mkReq, slN_l]; omega⟩
  have hqc : A qq.c = .agg [I v2, I v3, I v4, B v5, T v6, T v7, I v8, I v9, I v10, I v11, .g (Sl.g 5 Cmp.c (slN L)), .g (Sl.g 4 Mut.c (slN M1)), .g (Sl.g 4 Mut.c (slN M2))] := by rw [hqq]; rfl
  unfold askedQ
  refine EvF_walk t17 (by simp) ?_
  unfold r2C at a1 a2 a3 a4 a5 a6 a7 a8 a9 a10 a11 a12 a14 a15
  unfold exK stK r2C at hw
  subst eZ
  by_cases h1 : v1 = 1
  · subst h1
    simp only [decide_true, Bool.true_and] at hO
    have a16 : ∀ o2 : List Blk, ∀ jc, (L = [] → EvF tab 42 [.agg [I v2, I v3, I v4, B v5, T v6, T v7, I v8, I v9, I v10, I v11, .g .nsl, .g (Sl.g 4 Mut.c (slN M1)), .g (Sl.g 4 Mut.c (slN M2))]] (H ++ [.rows 5 1 [], .rows 4 1 [], .rows 4 1 [], .cells [I 0, I 0, I 0, B false, T [], T [], I 0, I 0, I 0, I 0, .ms H.length 1 5 0 0, .ms (H.length + 1) 1 4 0 0, .ms (H.length + 2) 1 4 0 0], .cells [T s, I s15.1, B s15.2], .rows 5 1 [], .rows 4 1 [], .rows 4 1 [], .cells [I v2, I v3, I v4, B v5, T v6, T v7, I v8, I v9, I v10, I v11, .g .nsl, .g (Sl.g 4 Mut.c (slN M1)), .g (Sl.g 4 Mut.c (slN M2))]]) = some ⟨.tup (if reqOk qq = true then [T (encReq qq), B true] else [T [], B false]), [], []⟩) ∧
        (L ≠ [] → EvF tab 42 [.agg [I v2, I v3, I v4, B v5, T v6, T v7, I v8, I v9, I v10, I v11, .ms (H.length + 10) (L.length + 1) 5 0 L.length, .g (Sl.g 4 Mut.c (slN M1)), .g (Sl.g 4 Mut.c (slN M2))]] (H ++ .rows 5 1 [] :: .rows 4 1 [] :: .rows 4 1 [] :: .cells [I 0, I 0, I 0, B false, T [], T [], I 0, I 0, I 0, I 0, .ms H.length 1 5 0 0, .ms (H.length + 1) 1 4 0 0, .ms (H.length + 2) 1 4 0 0] :: .cells [T s, I s15.1, B s15.2] :: .rows 5 1 [] :: .rows 4 1 [] :: .rows 4 1 [] :: .cells [I v2, I v3, I v4, B v5, T v6, T v7, I v8, I v9, I v10, I v11, .ms (H.length + 10) (L.length + 1) 5 0 L.length, .g (Sl.g 4 Mut.c (slN M1)), .g (Sl.g 4 Mut.c (slN M2))] :: jc :: .rows 5 (L.length + 1) (L.map Cmp.c) :: o2) = some ⟨.tup (if reqOk qq = true then [T (encReq qq), B true] else [T [], B false]), [], []⟩) := by
      intro o2 jc
      constructor
      · intro hL
        rw [← Ask2_ev qq hRL, hqc, hL]
        rfl
      · intro hL
        have hiff : qq.iff = .of L := by
          rw [hqq]
          cases L with
          | nil => exact absurd rfl hL
          | cons x l => rfl
        rw [← Ask2m_ev qq L hRL hiff (rid := H.length + 10) (g := L.length + 1) (H := H ++ .rows 5 1 [] :: .rows 4 1 [] :: .rows 4 1 [] :: .cells [I 0, I 0, I 0, B false, T [], T [], I 0, I 0, I 0, I 0, .ms H.length 1 5 0 0, .ms (H.length + 1) 1 4 0 0, .ms (H.length + 2) 1 4 0 0] :: .cells [T s, I s15.1, B s15.2] :: .rows 5 1 [] :: .rows 4 1 [] :: .rows 4 1 [] :: .cells [I v2, I v3, I v4, B v5, T v6, T v7, I v8, I v9, I v10, I v11, .ms (H.length + 10) (L.length + 1) 5 0 L.length, .g (Sl.g 4 Mut.c (slN M1)), .g (Sl.g 4 Mut.c (slN M2))] :: jc :: .rows 5 (L.length + 1) (L.map Cmp.c) :: o2) (by rw [List.getElem?_append_right (by omega)]; simp)]
        rw [hqq]
        rfl
    generalize encReq qq = er at a16 hO
    generalize reqOk qq = b1 at a16 hO
    obtain ⟨a15', w15⟩ := s15
    rcases hv with ⟨hL, rfl, rfl⟩ | ⟨hne, rfl, jc, o2, rfl⟩
    · have a17 := (a16 [] (.hid)).1 hL
      have hz : Sl.g 5 Cmp.c (slN L) = .nsl := by rw [hL]; rfl
      rw [hz] at hqc
      clear a16
      subst hL
      simp only [List.length_nil, List.map_nil, show ((0 : Nat) : Int) = 0 from rfl] at hw
      cases w15
      · cases b1
        · simp only [Bool.false_and, Bool.and_false] at hO
          simp -implicitDefEqProofs [zres, hO, reqZ, A, Req.c, a1, a2, a3, a4, a5, a6, a7, a8, a9, a10, a11, a12, hw, a14, a15, a17]
        · by_cases he : er = s
          · subst he
            simp only [Bool.not_false, Bool.true_and, decide_true] at hO
            rw [if_pos hO, ← hE2 hO, hqc]
            simp -implicitDefEqProofs [zres, hO, a1, a2, a3, a4, a5, a6, a7, a8, a9, a10, a11, a12, hw, a14, a15, a17]
          · simp only [he, decide_false, Bool.and_false] at hO
            simp -implicitDefEqProofs [zres, hO, reqZ, A, Req.c, a1, a2, a3, a4, a5, a6, a7, a8, a9, a10, a11, a12, hw, a14, a15, a17, he]
      · simp only [Bool.not_true, Bool.false_and] at hO
        cases b1 <;> simp -implicitDefEqProofs [zres, hO, reqZ, A, Req.c, a1, a2, a3, a4, a5, a6, a7, a8, a9, a10, a11, a12, hw, a14, a15, a17]
    · have a17 := (a16 o2 jc).2 hne
      simp only [show ((0 : Nat) : Int) = 0 from rfl] at hw
      have hz : Sl.g 5 Cmp.c (slN L) = .sl 5 (L.map Cmp.c) := by
        cases L with
        | nil => exact absurd rfl hne
        | cons x l => rfl
      have htk : List.take L.length (List.map Cmp.c L) = List.map Cmp.c L := List.take_of_length_le (by simp)
      have hl0 : ¬ L.length = 0 := fun e => hne (List.eq_nil_of_length_eq_zero e)
      rw [hz] at hqc
      clear a16
      cases w15
      · cases b1
        · simp only [Bool.false_and, Bool.and_false] at hO
          simp -implicitDefEqProofs [zres, hO, reqZ, A, Req.c, a1, a2, a3, a4, a5, a6, a7, a8, a9, a10, a11, a12, hw, a14, a15, a17]
        · by_cases he : er = s
          · subst he
            simp only [Bool.not_false, Bool.true_and, decide_true] at hO
            rw [if_pos hO, ← hE2 hO, hqc]
            simp -implicitDefEqProofs [zres, hO, a1, a2, a3, a4, a5, a6, a7, a8, a9, a10, a11, a12, hw, a14, a15, a17, htk, hl0, hne]
          · simp only [he, decide_false, Bool.and_false] at hO
            simp -implicitDefEqProofs [zres, hO, reqZ, A, Req.c, a1, a2, a3, a4, a5, a6, a7, a8, a9, a10, a11, a12, hw, a14, a15, a17, he]
      · simp only [Bool.not_true, Bool.false_and] at hO
        cases b1 <;> simp -implicitDefEqProofs [zres, hO, reqZ, A, Req.c, a1, a2, a3, a4, a5, a6, a7, a8, a9, a10, a11, a12, hw, a14, a15, a17]
  · simp only [h1, decide_false, Bool.false_and] at hO
    simp -implicitDefEqProofs [zres, hO, reqZ, A, Req.c, a1, h1]
end Go.Proofs.YtenndgooepdmiaaGreatDoor
end
section
namespace Go.Proofs.YtenndgooepdmiaaGreatDoor
open Go Go.AM Go.Proofs
set_option maxRecDepth 20000
set_option maxHeartbeats 2000000
set_option linter.unusedSimpArgs false
set_option linter.unusedVariables false
theorem doR_len (r : Rsc) (s : Bs) : (doR r s).log.l.length ≤ r.log.l.length + 1 := by
  unfold doR wrR
  split
  · split
    · simp [takeR]
    · omega
  · omega
theorem Do2_ev (r : Rsc) (s : Bs) (hl : r.log.l.length ≤ 9223372036854775807) (hs : s.length ≤ 9223372036854775807) (H : List Blk) : EvF tab 6 [A r.c, T s] H = some ⟨.tup [A (doR r s).c, I (doE r s)], [], []⟩ := by
  have m1 := fun H => Asked2_ev s hs H
  have m2 := fun H => Write2_ev r (qAcc (askedQ s)) hl H
  refine EvF_walk t6 (by simp) ?_
  unfold doR doE doOk
  generalize askedQ s = q at *
  generalize askedOk s = b at *
  obtain ⟨p1, p2, p3, p4, p5, p6, p7, p8, p9, p10, p11, p12, p13⟩ := q
  obtain ⟨rh, rv, rl⟩ := r
  simp only [A, Req.c, List.map_cons, List.map_nil, qAcc] at m1 m2 ⊢
  generalize wrE ⟨rh, rv, rl⟩ ⟨p2, p10, p6⟩ = e at *
  obtain ⟨w, hw⟩ : ∃ w, wrR ⟨rh, rv, rl⟩ ⟨p2, p10, p6⟩ = w := ⟨_, rfl⟩
  rw [hw] at m2 ⊢
  obtain ⟨wh, wv, wl⟩ := w
  simp only [Rsc.c, List.map_cons, List.map_nil] at m1 m2 ⊢
  cases b
  · simp -implicitDefEqProofs [m1, m2, zres]
  · by_cases hk : p1 = 8
    · simp -implicitDefEqProofs [m1, m2, zres, hk]
    · simp -implicitDefEqProofs [m1, m2, zres, hk]
theorem FenceDoes_ev {H : List Blk} (hG : Glb H) (x0 : Rsc) (x1 : Bs) (x2 : Int) (w0 : x0.wf) (w1 : S64 x1) : EvF tab 3 [A x0.c, T x1, I x2] H = some ⟨.g (.bool true), [], []⟩ := by
  have hl := w0.2.2.2
  have m0 := fun o => live20 (hG.app o)
  have m1 := fun o => Do_ev (hG.app o) x0 x1 w1
  have m2 := fun H => Do2_ev x0 x1 hl w1 H
  have hlen := fun h st => lenV_Sl h st 3 Acc.c x0.log
  refine EvF_walk t3 (by simp) ?_
  by_cases h1 : 60 < x0.log.l.length
  · have h1' : (60 : Int) < (x0.log.l.length : Int) := by omega
    simp -implicitDefEqProofs [A, Rsc.c, hlen, h1', m0]
  · have h1' : ¬ (60 : Int) < (x0.log.l.length : Int) := by omega
    by_cases h2 : 600 < x1.length
    · have h2' : (600 : Int) < (x1.length : Int) := by omega
      simp -implicitDefEqProofs [A, Rsc.c, hlen, h1', h2', m0]
    · have h2' : ¬ (600 : Int) < (x1.length : Int) := by omega
      have hw := doR_len x0 x1
      have m5 := fun H => Same_ev (doR x0 x1) (by omega) H
      have n1 := fun H => Tokens_ev x0 (by omega) H
      have n2 := fun H => Tokens2_ev x0 (by omega) H
      have n3 := fun H => Owners_ev x0 x2 (by omega) H
      have n4 := fun H => Owners2_ev x0 x2 (by omega) H
      have e1 := upL_len (toks x0.log.l)
      have e2 : (toks x0.log.l).length = x0.log.l.length := by simp [toks]
      have e3 := upL_len (owns x2 x0.log.l)
      have e4 : (owns x2 x0.log.l).length ≤ x0.log.l.length := by unfold owns; rw [List.length_map]; exact List.length_filter_le ..
      have sl : ∀ l : List Int, (slI l).l = l := fun l => by
        unfold slI
        split
        · rename_i h; subst h; rfl
        · rfl
      have n5 := fun H => Ints_ev (slI (upL (toks x0.log.l))) (by rw [sl]; omega) H
      have n6 := fun H => Ints_ev (slI (upL (owns x2 x0.log.l))) (by rw [sl]; omega) H
      generalize slI (upL (toks x0.log.l)) = s1 at *
      generalize slI (upL (owns x2 x0.log.l)) = s2 at *
      generalize doE x0 x1 = e at *
      generalize doR x0 x1 = w at *
      obtain ⟨wh, wv, wl⟩ := w
      obtain ⟨rh, rv, rl⟩ := x0
      simp only [A, Rsc.c, List.map_cons, List.map_nil] at m1 m2 m5 n1 n2 n3 n4
      simp -implicitDefEqProofs [A, Rsc.c, hlen, h1', h2', zres, m0, m1, m2, m5, n1, n2, n3, n4, n5, n6]
theorem FenceDoes_law (x0 : Rsc) (x1 : Bs) (x2 : Int) (w0 : x0.wf) (w1 : S64 x1) (w2 : I64 x2) : EvF tab 3 [A x0.c, T x1, I x2] H0 = some ⟨.g (.bool true), [], []⟩ :=
  FenceDoes_ev glb0 x0 x1 x2 w0 w1
end Go.Proofs.YtenndgooepdmiaaGreatDoor
end
