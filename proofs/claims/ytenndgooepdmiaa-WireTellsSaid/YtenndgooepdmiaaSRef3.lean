/- Requests as bytes by the reference, the questions lying in a row of the caller's own. -/
import Derived.Test.YtenndgooepdmiaaSRef2
namespace Go.Proofs.Ytenndgooepdmiaa
open Go Go.AM Go.Proofs
set_option maxRecDepth 20000
set_option maxHeartbeats 2000000
set_option linter.unusedSimpArgs false
set_option linter.unusedVariables false
/-- A request whose questions are some other value. -/
def qc (r : Req) (v : AV) : List AV := [I r.kind, I r.who, I r.seq, B r.once, T r.key, T r.value, I r.lease, I r.rev, I r.ttl, I r.token, v, .g (Muts.g r.thn), .g (Muts.g r.els)]
theorem rp_ptr {H : List Blk} {rid : Nat} {b : Blk} (hR : H[rid]? = some b) : ∃ h : rid < H.length, H[rid] = b := List.getElem?_eq_some_iff.1 hR
theorem MayAsk2m_loop (r : Req) (l : List Cmp) (hl : l.length ≤ 9223372036854775807) {H : List Blk} {rid g : Nat} (hR : H[rid]? = some (.rows 5 g (l.map Cmp.c))) : ∃ o', loopE (EvF tab) H L15_0 [1, 3] ⟨[(1, .ptr H.length 0), (3, I 0)], [], [.cells (qc r (.ms rid g 5 0 l.length))]⟩ =
      some (if allP cmpOk l = true then (.exit 0, ⟨[(1, .ptr H.length 0), (3, I l.length), (69, B false)], [], .cells (qc r (.ms rid g 5 0 l.length)) :: o'⟩) else (.ret, ⟨[(2, B false)], [], .cells (qc r (.ms rid g 5 0 l.length)) :: o'⟩)) := by
  obtain ⟨hRl, hR2⟩ := rp_ptr hR
  have hw := loop_runJ (E := EvF tab) (h := H) (c := L15_0) (lv := [1, 3]) (l := l) (β := Unit) (γ := Unit) (fun _ _ => True) (fun k x _ => if cmpOk x = true then .inl () else .inr ())
    (fun k _ o => ⟨[(1, .ptr H.length 0), (3, I k)], [], .cells (qc r (.ms rid g 5 0 l.length)) :: o⟩) (fun _ o => (.exit 0, ⟨[(1, .ptr H.length 0), (3, I l.length), (69, B false)], [], .cells (qc r (.ms rid g 5 0 l.length)) :: o⟩)) (fun _ o => (.ret, ⟨[(2, B false)], [], .cells (qc r (.ms rid g 5 0 l.length)) :: o⟩)) (by simp) (by simp) (fun k x _ o hk hx hy _ => ?_) (fun _ o _ => by delta L15_0; simp -implicitDefEqProofs [qc, hRl, hR2, getB_old, orB]) () [] trivial
  · obtain ⟨o', hw⟩ := hw
    refine ⟨o', ?_⟩
    rw [runG_all] at hw
    have e0 : ((0 : Nat) : Int) = 0 := rfl
    simp only [e0] at hw
    rw [hw]
    cases allP cmpOk l <;> rfl
  · have e2 := wrap_succ hk hl
    delta L15_0
    have h1 := texts2_ev x.key x.value
    have h2 := number2_ev x.n
    have hO : cmpOk x = (txtOk x.key x.value && decide (1 ≤ x.what) && decide (x.what ≤ 4) && decide (1 ≤ x.how) && decide (x.how ≤ 3) && numOk x.n) := rfl
    generalize txtOk x.key x.value = b1 at h1 hO
    generalize numOk x.n = b2 at h2 hO
    cases hc : cmpOk x <;> rw [hc] at hO
    · refine ⟨o ++ [.cells (x.c.map .g)], ?_⟩
      cases b1
      · simp -implicitDefEqProofs [hk, hy, qc, hRl, hR2, getB_old, orB, Cmp.c, h1, e2]
      · by_cases k1 : 1 ≤ x.what
        · by_cases k2 : x.what ≤ 4
          · by_cases k3 : 1 ≤ x.how
            · by_cases k4 : x.how ≤ 3
              · cases b2
                · simp -implicitDefEqProofs [hk, hy, qc, hRl, hR2, getB_old, orB, Cmp.c, h1, h2, e2, k1, k2, k3, k4, show ¬ x.what < 1 by omega, show ¬ 4 < x.what by omega, show ¬ x.how < 1 by omega, show ¬ 3 < x.how by omega]
                · simp [k1, k2, k3, k4] at hO
              · simp -implicitDefEqProofs [hk, hy, qc, hRl, hR2, getB_old, orB, Cmp.c, h1, h2, e2, k1, k2, k3, k4, show ¬ x.what < 1 by omega, show ¬ 4 < x.what by omega, show ¬ x.how < 1 by omega, show 3 < x.how by omega]
            · simp -implicitDefEqProofs [hk, hy, qc, hRl, hR2, getB_old, orB, Cmp.c, h1, h2, e2, k1, k2, k3, show ¬ x.what < 1 by omega, show ¬ 4 < x.what by omega, show x.how < 1 by omega]
          · simp -implicitDefEqProofs [hk, hy, qc, hRl, hR2, getB_old, orB, Cmp.c, h1, h2, e2, k1, k2, show ¬ x.what < 1 by omega, show 4 < x.what by omega]
        · simp -implicitDefEqProofs [hk, hy, qc, hRl, hR2, getB_old, orB, Cmp.c, h1, h2, e2, k1, show x.what < 1 by omega]
    · refine ⟨trivial, o ++ [.cells (x.c.map .g)], ?_⟩
      symm at hO
      simp only [Bool.and_eq_true, decide_eq_true_eq] at hO
      obtain ⟨⟨⟨⟨⟨rfl, k1⟩, k2⟩, k3⟩, k4⟩, rfl⟩ := hO
      simp -implicitDefEqProofs [hk, hy, qc, hRl, hR2, getB_old, orB, Cmp.c, h1, h2, e2, k1, k2, k3, k4, show ¬ x.what < 1 by omega, show ¬ 4 < x.what by omega, show ¬ x.how < 1 by omega, show ¬ 3 < x.how by omega]
theorem MayAsk2m_ev (r : Req) (l : List Cmp) (w : RL r) (hiff : r.iff = .of l) {H : List Blk} {rid g : Nat} (hR : H[rid]? = some (.rows 5 g (l.map Cmp.c))) : EvF tab 15 [.agg (qc r (.ms rid g 5 0 l.length))] H = some ⟨B (reqOk r), [], []⟩ := by
  obtain ⟨hRl, hR2⟩ := rp_ptr hR
  obtain ⟨o', hw⟩ := MayAsk2m_loop r l (by have := w.1; rw [hiff] at this; exact this) hR
  have hm1 := muts2_ev r.thn w.2.1
  have hm2 := muts2_ev r.els w.2.2
  refine EvF_walk t15 (by simp) ?_
  obtain ⟨kind, who, seq, once, key, value, lease, rev, ttl, token, iff, thn, els⟩ := r
  simp only at hiff
  subst hiff
  unfold reqOk cmpsOk
  simp only [Sl.l_of] at hw hm1 hm2 ⊢
  have ht := texts2_ev key value
  have h1 := number2_ev who
  have h2 := number2_ev seq
  have h3 := number2_ev lease
  have h4 := number2_ev rev
  have h5 := number2_ev ttl
  have h6 := number2_ev token
  rw [show l.all cmpOk = allP cmpOk l from rfl]
  generalize txtOk key value = bt at ht ⊢
  generalize numOk who = n1 at h1 ⊢
  generalize numOk seq = n2 at h2 ⊢
  generalize numOk lease = n3 at h3 ⊢
  generalize numOk rev = n4 at h4 ⊢
  generalize numOk ttl = n5 at h5 ⊢
  generalize numOk token = n6 at h6 ⊢
  generalize mutsOk thn = m1 at hm1 ⊢
  generalize mutsOk els = m2 at hm2 ⊢
  simp only [qc] at hw
  by_cases k1 : 1 ≤ kind
  · by_cases k2 : kind ≤ 8
    · cases n1
      · simp -implicitDefEqProofs [qc, hRl, hR2, getB_old, orB, h1, k1, k2, show ¬ kind < 1 by omega, show ¬ 8 < kind by omega]
      cases n2
      · simp -implicitDefEqProofs [qc, hRl, hR2, getB_old, orB, h1, h2, k1, k2, show ¬ kind < 1 by omega, show ¬ 8 < kind by omega]
      cases n3
      · simp -implicitDefEqProofs [qc, hRl, hR2, getB_old, orB, h1, h2, h3, k1, k2, show ¬ kind < 1 by omega, show ¬ 8 < kind by omega]
      cases n4
      · simp -implicitDefEqProofs [qc, hRl, hR2, getB_old, orB, h1, h2, h3, h4, k1, k2, show ¬ kind < 1 by omega, show ¬ 8 < kind by omega]
      cases n5
      · simp -implicitDefEqProofs [qc, hRl, hR2, getB_old, orB, h1, h2, h3, h4, h5, k1, k2, show ¬ kind < 1 by omega, show ¬ 8 < kind by omega]
      cases n6
      · simp -implicitDefEqProofs [qc, hRl, hR2, getB_old, orB, h1, h2, h3, h4, h5, h6, k1, k2, show ¬ kind < 1 by omega, show ¬ 8 < kind by omega]
      cases bt
      · simp -implicitDefEqProofs [qc, hRl, hR2, getB_old, orB, h1, h2, h3, h4, h5, h6, ht, k1, k2, show ¬ kind < 1 by omega, show ¬ 8 < kind by omega]
      by_cases k3 : l.length ≤ 4
      · cases hs : allP cmpOk l <;> rw [hs] at hw <;> simp only [Bool.false_eq_true, if_true, if_false] at hw
        · simp -implicitDefEqProofs [qc, hRl, hR2, getB_old, orB, h1, h2, h3, h4, h5, h6, ht, k1, k2, k3, hw, show ¬ kind < 1 by omega, show ¬ 8 < kind by omega, show ¬ (4 : Int) < (l.length : Int) by omega]
        · cases m1 <;> simp -implicitDefEqProofs [qc, hRl, hR2, getB_old, orB, h1, h2, h3, h4, h5, h6, ht, hm1, hm2, k1, k2, k3, hw, show ¬ kind < 1 by omega, show ¬ 8 < kind by omega, show ¬ (4 : Int) < (l.length : Int) by omega]
      · simp -implicitDefEqProofs [qc, hRl, hR2, getB_old, orB, h1, h2, h3, h4, h5, h6, ht, k1, k2, k3, show ¬ kind < 1 by omega, show ¬ 8 < kind by omega, show (4 : Int) < (l.length : Int) by omega]
    · simp -implicitDefEqProofs [qc, hRl, hR2, getB_old, orB, k1, k2, show ¬ kind < 1 by omega, show 8 < kind by omega]
  · simp -implicitDefEqProofs [qc, hRl, hR2, getB_old, orB, k1, show kind < 1 by omega]
theorem Ask2m_loop (r : Req) (l : List Cmp) (hlen4 : l.length ≤ 4) (hall : ∀ x ∈ l, cmpOk x = true) (b : Bs) (hb : b.length ≤ 200) {H : List Blk} {rid g : Nat} (hR : H[rid]? = some (.rows 5 g (l.map Cmp.c))) : ∃ o', loopE (EvF tab) H L11_0 [1, 4, 5] ⟨[(1, .ptr H.length 0), (4, T b), (5, I 0)], [], [.cells (qc r (.ms rid g 5 0 l.length))]⟩ =
    some (.exit 0, ⟨[(1, .ptr H.length 0), (4, T (b ++ (l.map encCmp).flatten)), (5, I l.length), (61, B false)], [], .cells (qc r (.ms rid g 5 0 l.length)) :: o'⟩) := by
  obtain ⟨hRl, hR2⟩ := rp_ptr hR
  have hw := loop_runJ (E := EvF tab) (h := H) (c := L11_0) (lv := [1, 4, 5]) (l := l) (β := Bs) (γ := Unit) (fun k b => b.length ≤ 200 + k * 110) (fun k x b => .inl (b ++ encCmp x))
    (fun k b o => ⟨[(1, .ptr H.length 0), (4, T b), (5, I k)], [], .cells (qc r (.ms rid g 5 0 l.length)) :: o⟩) (fun b o => (.exit 0, ⟨[(1, .ptr H.length 0), (4, T b), (5, I l.length), (61, B false)], [], .cells (qc r (.ms rid g 5 0 l.length)) :: o⟩)) (fun _ o => (.ret, ⟨[], [], o⟩)) (by simp) (by simp) (fun k x b o hk hx hy hi => ?_) (fun b o _ => by delta L11_0; simp -implicitDefEqProofs [qc, hRl, hR2, getB_old, orB]) b [] (by simpa using hb)
  · obtain ⟨o', hw⟩ := hw
    refine ⟨o', ?_⟩
    have key : ∀ (l : List Cmp) (k : Nat) (b : Bs), runG (γ := Unit) (fun k (x : Cmp) b => .inl (b ++ encCmp x)) k l b = .inl (b ++ (l.map encCmp).flatten) := by
      intro l
      induction l with
      | nil => intro k b; simp [runG]
      | cons x l ih => intro k b; simp only [runG, ih]; simp
    rw [key] at hw
    have e0 : ((0 : Nat) : Int) = 0 := rfl
    simp only [e0] at hw
    rw [hw]
    rfl
  · have hok := hall x (List.mem_of_getElem? hx)
    have hlen := encCmp_len hok
    have hl4 := hlen4
    have e2 := wrap_succ hk (by omega)
    refine ⟨by simp; omega, o ++ [.cells (x.c.map .g)], ?_⟩
    clear hx
    delta L11_0
    obtain ⟨⟨h1, h2⟩, h3, h4, h5, h6, h7, h8⟩ := cmpOk_iff.1 hok
    unfold encCmp at hlen ⊢
    have p1 := putS_ev x.key (by omega)
    have p2 := putN_ev x.what (by omega) (by omega)
    have p3 := putN_ev x.how (by omega) (by omega)
    have p4 := putN_ev x.n (by omega) (by omega)
    have p5 := putS_ev x.value (by omega)
    generalize encS x.key = v1 at p1 hlen ⊢
    generalize encN x.what = v2 at p2 hlen ⊢
    generalize encN x.how = v3 at p3 hlen ⊢
    generalize encN x.n = v4 at p4 hlen ⊢
    generalize encS x.value = v5 at p5 hlen ⊢
    simp only [List.length_append] at hlen
    have q1 : b.length + v1.length ≤ 9223372036854775807 := by omega
    have q2 : b.length + v1.length + v2.length ≤ 9223372036854775807 := by omega
    have q3 : b.length + (v1.length + v2.length) + v3.length ≤ 9223372036854775807 := by omega
    have q4 : b.length + (v1.length + (v2.length + v3.length)) + v4.length ≤ 9223372036854775807 := by omega
    have q5 : b.length + (v1.length + (v2.length + (v3.length + v4.length))) + v5.length ≤ 9223372036854775807 := by omega
    simp -implicitDefEqProofs [hk, hy, qc, hRl, hR2, getB_old, orB, Cmp.c, p1, p2, p3, p4, p5, e2, q1, q2, q3, q4, q5]
theorem Ask2m_ev (r : Req) (l : List Cmp) (w : RL r) (hiff : r.iff = .of l) {H : List Blk} {rid g : Nat} (hR : H[rid]? = some (.rows 5 g (l.map Cmp.c))) : EvF tab 11 [.agg (qc r (.ms rid g 5 0 l.length))] H = some ⟨.tup (if reqOk r = true then [T (encReq r), B true] else [T [], B false]), [], []⟩ := by
  obtain ⟨hRl, hR2⟩ := rp_ptr hR
  have hm := MayAsk2m_ev r l w hiff (H := H ++ [.cells (qc r (.ms rid g 5 0 l.length))]) (rid := rid) (g := g) (by rw [List.getElem?_append_left hRl]; exact hR)
  refine EvF_walk t11 (by simp) ?_
  cases hok : reqOk r
  · rw [hok] at hm
    obtain ⟨kind, who, seq, once, key, value, lease, rev, ttl, token, iff, thn, els⟩ := r
    simp only at hiff
    subst hiff
    simp only [qc] at hm
    simp -implicitDefEqProofs [qc, hRl, hR2, getB_old, orB, hm]
  · rw [hok] at hm
    have h := reqOk_iff hok
    have hd := encHead_len h
    obtain ⟨o', hw⟩ := Ask2m_loop r l (by have := h.i1; rw [hiff] at this; exact this) (by have := h.i2; rw [hiff] at this; exact this) (encHead r) hd hR
    have c1 := encCmps_len h.i1 h.i2
    obtain ⟨j1, j2⟩ := mutsOk_iff.1 h.m1
    obtain ⟨j3, j4⟩ := mutsOk_iff.1 h.m2
    have c2 := encMuts_len j1 j2
    have c3 := encMuts_len j3 j4
    have m1 := putMuts_ev r.thn h.m1
    have m2 := putMuts_ev r.els h.m2
    have p1 := putN_ev r.kind (by have := h.k1; omega) (by have := h.k2; omega)
    have p2 := putN_ev r.who h.n1.1 (by have := h.n1; omega)
    have p3 := putN_ev r.seq h.n2.1 (by have := h.n2; omega)
    have p4 := putB_ev r.once
    have p5 := putS_ev r.key (by have := h.t; omega)
    have p6 := putS_ev r.value (by have := h.t; omega)
    have p7 := putN_ev r.lease h.n3.1 (by have := h.n3; omega)
    have p8 := putN_ev r.rev h.n4.1 (by have := h.n4; omega)
    have p9 := putN_ev r.ttl h.n5.1 (by have := h.n5; omega)
    have p10 := putN_ev r.token h.n6.1 (by have := h.n6; omega)
    have p11 := putN_ev (r.iff.l.length : Int) (by omega) (by have := h.i1; omega)
    unfold encReq
    have eh : encHead r = [1] ++ encN r.kind ++ encN r.who ++ encN r.seq ++ encB r.once ++ encS r.key ++ encS r.value ++ encN r.lease ++ encN r.rev ++ encN r.ttl ++ encN r.token ++ encN r.iff.l.length := rfl
    obtain ⟨kind, who, seq, once, key, value, lease, rev, ttl, token, iff, thn, els⟩ := r
    simp only at hiff
    subst hiff
    simp only [Sl.l_of] at hw c1 c2 c3 m1 m2 p1 p2 p3 p4 p5 p6 p7 p8 p9 p10 p11 eh ⊢
    rw [eh] at hd
    simp only [qc] at hw
    simp only [qc] at hm
    generalize encMuts thn.l = v13 at m1 c2 ⊢
    generalize encMuts els.l = v14 at m2 c3 ⊢
    generalize (l.map encCmp).flatten = v12 at hw c1 ⊢
    rw [eh] at hw ⊢
    generalize encN kind = v1 at p1 hd hw ⊢
    generalize encN who = v2 at p2 hd hw ⊢
    generalize encN seq = v3 at p3 hd hw ⊢
    generalize encB once = v4 at p4 hd hw ⊢
    generalize encS key = v5 at p5 hd hw ⊢
    generalize encS value = v6 at p6 hd hw ⊢
    generalize encN lease = v7 at p7 hd hw ⊢
    generalize encN rev = v8 at p8 hd hw ⊢
    generalize encN ttl = v9 at p9 hd hw ⊢
    generalize encN token = v10 at p10 hd hw ⊢
    generalize encN (l.length : Int) = v11 at p11 hd hw ⊢
    simp only [List.length_append, List.length_cons, List.length_nil] at hd
    simp only [List.append_assoc, List.cons_append, List.nil_append] at hw ⊢
    simp -implicitDefEqProofs [qc, hRl, hR2, getB_old, orB, hm, p1, p2, p3, p4, p5, p6, p7, p8, p9, p10, p11, m1, m2, hw]
    omega
end Go.Proofs.Ytenndgooepdmiaa
