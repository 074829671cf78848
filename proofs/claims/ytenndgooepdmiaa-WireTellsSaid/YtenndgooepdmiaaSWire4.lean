/- Requests as bytes: what the reference says. -/
import Derived.Test.YtenndgooepdmiaaSWire3
namespace Go.Proofs.Ytenndgooepdmiaa
open Go Go.AM Go.Proofs
set_option maxRecDepth 4000
set_option linter.unusedSimpArgs false
set_option linter.unusedVariables false
theorem cat {a b : Bs} (h : a.length + b.length ≤ 9223372036854775807) : binV .add (T a) (T b) = some (T (a ++ b)) := by rw [binV_sadd, if_pos h]
theorem number2_ev (n : Int) (H : List Blk) : EvF tab 54 [I n] H = some ⟨B (numOk n), [], []⟩ := by
  refine EvF_walk t54 (by simp) ?_
  unfold numOk
  by_cases h1 : 0 ≤ n <;> simp -implicitDefEqProofs [h1]
theorem texts2_ev (k v : Bs) (H : List Blk) : EvF tab 55 [T k, T v] H = some ⟨B (txtOk k v), [], []⟩ := by
  refine EvF_walk t55 (by simp) ?_
  unfold txtOk
  by_cases h1 : k.length ≤ 40
  · by_cases h2 : v.length ≤ 20
    · simp -implicitDefEqProofs [h1, h2, show (k.length : Int) ≤ 40 by omega, show (v.length : Int) ≤ 20 by omega]
    · simp -implicitDefEqProofs [h1, h2, show (k.length : Int) ≤ 40 by omega, show ¬ (v.length : Int) ≤ 20 by omega]
  · simp -implicitDefEqProofs [h1, show ¬ (k.length : Int) ≤ 40 by omega]
theorem muts2_loop (s : Sl Mut) (hl : s.l.length ≤ 9223372036854775807) (H : List Blk) :
    loopE (EvF tab) H L56_0 [0, 3] ⟨[(0, .g (Muts.g s)), (3, I 0)], [], []⟩ =
      some (if allP mutOk s.l = true then (.exit 0, ⟨[(0, .g (Muts.g s)), (3, I s.l.length), (10, B false)], [], []⟩) else (.ret, ⟨[(2, B false)], [], []⟩)) := by
  refine loop_all0 (l := s.l) mutOk (fun k => ⟨[(0, .g (Muts.g s)), (3, I k)], [], []⟩) _ _ (by simp) (by simp) (fun k x hk hx hy => ?_) (by delta L56_0; cases s <;> simp -implicitDefEqProofs)
  delta L56_0
  have e2 := wrap_succ hk hl
  cases s with
  | nil => simp at hk
  | of l =>
    simp only [Sl.l_of] at hk hy
    unfold mutOk
    have h1 := texts2_ev x.key x.value
    have h2 := number2_ev x.lease
    generalize txtOk x.key x.value = b1 at h1 ⊢
    generalize numOk x.lease = b2 at h2 ⊢
    cases b1 <;> cases b2 <;> simp -implicitDefEqProofs [hk, hy, Mut.c, h1, h2, e2]
theorem muts2_ev (s : Sl Mut) (hl : s.l.length ≤ 9223372036854775807) (H : List Blk) : EvF tab 56 [.g (Muts.g s)] H = some ⟨B (mutsOk s), [], []⟩ := by
  refine EvF_walk t56 (by simp) ?_
  have hw := muts2_loop s hl H
  unfold mutsOk
  rw [show s.l.all mutOk = allP mutOk s.l from rfl]
  by_cases h : s.l.length ≤ 4
  · cases hs : allP mutOk s.l <;> rw [hs] at hw <;> simp only [Bool.false_eq_true, if_true, if_false] at hw
    all_goals simp -implicitDefEqProofs [h, show ¬ (4 : Int) < (s.l.length : Int) by omega, hw]
  · simp -implicitDefEqProofs [h, show (4 : Int) < (s.l.length : Int) by omega]
theorem runG_all {α : Type} (p : α → Bool) : ∀ (l : List α) k, runG (fun k (x : α) (_ : Unit) => if p x = true then .inl () else .inr ()) k l () = if allP p l = true then .inl () else (.inr () : Unit ⊕ Unit) := by
  intro l
  induction l with
  | nil => intro k; rfl
  | cons x l ih =>
    intro k
    simp only [runG, allP_cons]
    by_cases h : p x = true
    · simp only [h, if_true, Bool.true_and]; exact ih _
    · simp [h]
theorem MayAsk2_loop (r : Req) (hl : r.iff.l.length ≤ 9223372036854775807) (H : List Blk) : ∃ o', loopE (EvF tab) H L15_0 [1, 3] ⟨[(1, .ptr H.length 0), (3, I 0)], [], [.cells (r.c.map .g)]⟩ =
      some (if allP cmpOk r.iff.l = true then (.exit 0, ⟨[(1, .ptr H.length 0), (3, I r.iff.l.length), (69, B false)], [], .cells (r.c.map .g) :: o'⟩) else (.ret, ⟨[(2, B false)], [], .cells (r.c.map .g) :: o'⟩)) := by
  have hw := loop_runJ (E := EvF tab) (h := H) (c := L15_0) (lv := [1, 3]) (l := r.iff.l) (β := Unit) (γ := Unit) (fun _ _ => True) (fun k x _ => if cmpOk x = true then .inl () else .inr ())
    (fun k _ o => ⟨[(1, .ptr H.length 0), (3, I k)], [], .cells (r.c.map .g) :: o⟩) (fun _ o => (.exit 0, ⟨[(1, .ptr H.length 0), (3, I r.iff.l.length), (69, B false)], [], .cells (r.c.map .g) :: o⟩)) (fun _ o => (.ret, ⟨[(2, B false)], [], .cells (r.c.map .g) :: o⟩)) (by simp) (by simp) (fun k x _ o hk hx hy _ => ?_) (fun _ o _ => by delta L15_0; simp -implicitDefEqProofs [Req.c]) () [] trivial
  · obtain ⟨o', hw⟩ := hw
    refine ⟨o', ?_⟩
    rw [runG_all] at hw
    have e0 : ((0 : Nat) : Int) = 0 := rfl
    simp only [e0] at hw
    rw [hw]
    cases allP cmpOk r.iff.l <;> rfl
  · have e2 := wrap_succ hk hl
    delta L15_0
    obtain ⟨b1, b2, b3, b4, b5, b6, b7, b8, b9, b10, bi, bt, be⟩ := r
    simp only at hk hl hx hy e2 ⊢
    cases bi with
    | nil => simp at hk
    | of l =>
      simp only [Sl.l_of] at hk hy e2 ⊢
      have h1 := texts2_ev x.key x.value
      have h2 := number2_ev x.n
      have hO : cmpOk x = (txtOk x.key x.value && decide (1 ≤ x.what) && decide (x.what ≤ 4) && decide (1 ≤ x.how) && decide (x.how ≤ 3) && numOk x.n) := rfl
      generalize txtOk x.key x.value = b1 at h1 hO
      generalize numOk x.n = b2 at h2 hO
      cases hc : cmpOk x <;> rw [hc] at hO
      · refine ⟨o ++ [.cells (x.c.map .g)], ?_⟩
        cases b1
        · simp -implicitDefEqProofs [hk, hy, Req.c, Cmp.c, h1, e2]
        · by_cases k1 : 1 ≤ x.what
          · by_cases k2 : x.what ≤ 4
            · by_cases k3 : 1 ≤ x.how
              · by_cases k4 : x.how ≤ 3
                · cases b2
                  · simp -implicitDefEqProofs [hk, hy, Req.c, Cmp.c, h1, h2, e2, k1, k2, k3, k4, show ¬ x.what < 1 by omega, show ¬ 4 < x.what by omega, show ¬ x.how < 1 by omega, show ¬ 3 < x.how by omega]
                  · simp [k1, k2, k3, k4] at hO
                · simp -implicitDefEqProofs [hk, hy, Req.c, Cmp.c, h1, h2, e2, k1, k2, k3, k4, show ¬ x.what < 1 by omega, show ¬ 4 < x.what by omega, show ¬ x.how < 1 by omega, show 3 < x.how by omega]
              · simp -implicitDefEqProofs [hk, hy, Req.c, Cmp.c, h1, h2, e2, k1, k2, k3, show ¬ x.what < 1 by omega, show ¬ 4 < x.what by omega, show x.how < 1 by omega]
            · simp -implicitDefEqProofs [hk, hy, Req.c, Cmp.c, h1, h2, e2, k1, k2, show ¬ x.what < 1 by omega, show 4 < x.what by omega]
          · simp -implicitDefEqProofs [hk, hy, Req.c, Cmp.c, h1, h2, e2, k1, show x.what < 1 by omega]
      · refine ⟨trivial, o ++ [.cells (x.c.map .g)], ?_⟩
        symm at hO
        simp only [Bool.and_eq_true, decide_eq_true_eq] at hO
        obtain ⟨⟨⟨⟨⟨rfl, k1⟩, k2⟩, k3⟩, k4⟩, rfl⟩ := hO
        simp -implicitDefEqProofs [hk, hy, Req.c, Cmp.c, h1, h2, e2, k1, k2, k3, k4, show ¬ x.what < 1 by omega, show ¬ 4 < x.what by omega, show ¬ x.how < 1 by omega, show ¬ 3 < x.how by omega]
theorem MayAsk2_ev (r : Req) (w : RL r) (H : List Blk) : EvF tab 15 [A r.c] H = some ⟨B (reqOk r), [], []⟩ := by
  obtain ⟨o', hw⟩ := MayAsk2_loop r w.1 H
  have hm1 := muts2_ev r.thn w.2.1
  have hm2 := muts2_ev r.els w.2.2
  refine EvF_walk t15 (by simp) ?_
  obtain ⟨kind, who, seq, once, key, value, lease, rev, ttl, token, iff, thn, els⟩ := r
  unfold reqOk cmpsOk
  simp only at hw hm1 hm2 ⊢
  have ht := texts2_ev key value
  have h1 := number2_ev who
  have h2 := number2_ev seq
  have h3 := number2_ev lease
  have h4 := number2_ev rev
  have h5 := number2_ev ttl
  have h6 := number2_ev token
  rw [show iff.l.all cmpOk = allP cmpOk iff.l from rfl]
  generalize txtOk key value = bt at ht ⊢
  generalize numOk who = n1 at h1 ⊢
  generalize numOk seq = n2 at h2 ⊢
  generalize numOk lease = n3 at h3 ⊢
  generalize numOk rev = n4 at h4 ⊢
  generalize numOk ttl = n5 at h5 ⊢
  generalize numOk token = n6 at h6 ⊢
  generalize mutsOk thn = m1 at hm1 ⊢
  generalize mutsOk els = m2 at hm2 ⊢
  simp only [Req.c, List.map_cons, List.map_nil] at hw
  by_cases k1 : 1 ≤ kind
  · by_cases k2 : kind ≤ 8
    · cases n1
      · simp -implicitDefEqProofs [A, Req.c, h1, k1, k2, show ¬ kind < 1 by omega, show ¬ 8 < kind by omega]
      cases n2
      · simp -implicitDefEqProofs [A, Req.c, h1, h2, k1, k2, show ¬ kind < 1 by omega, show ¬ 8 < kind by omega]
      cases n3
      · simp -implicitDefEqProofs [A, Req.c, h1, h2, h3, k1, k2, show ¬ kind < 1 by omega, show ¬ 8 < kind by omega]
      cases n4
      · simp -implicitDefEqProofs [A, Req.c, h1, h2, h3, h4, k1, k2, show ¬ kind < 1 by omega, show ¬ 8 < kind by omega]
      cases n5
      · simp -implicitDefEqProofs [A, Req.c, h1, h2, h3, h4, h5, k1, k2, show ¬ kind < 1 by omega, show ¬ 8 < kind by omega]
      cases n6
      · simp -implicitDefEqProofs [A, Req.c, h1, h2, h3, h4, h5, h6, k1, k2, show ¬ kind < 1 by omega, show ¬ 8 < kind by omega]
      cases bt
      · simp -implicitDefEqProofs [A, Req.c, h1, h2, h3, h4, h5, h6, ht, k1, k2, show ¬ kind < 1 by omega, show ¬ 8 < kind by omega]
      by_cases k3 : iff.l.length ≤ 4
      · cases hs : allP cmpOk iff.l <;> rw [hs] at hw <;> simp only [Bool.false_eq_true, if_true, if_false] at hw
        · simp -implicitDefEqProofs [A, Req.c, h1, h2, h3, h4, h5, h6, ht, k1, k2, k3, hw, show ¬ kind < 1 by omega, show ¬ 8 < kind by omega, show ¬ (4 : Int) < (iff.l.length : Int) by omega]
        · cases m1 <;> simp -implicitDefEqProofs [A, Req.c, h1, h2, h3, h4, h5, h6, ht, hm1, hm2, k1, k2, k3, hw, show ¬ kind < 1 by omega, show ¬ 8 < kind by omega, show ¬ (4 : Int) < (iff.l.length : Int) by omega]
      · simp -implicitDefEqProofs [A, Req.c, h1, h2, h3, h4, h5, h6, ht, k1, k2, k3, show ¬ kind < 1 by omega, show ¬ 8 < kind by omega, show (4 : Int) < (iff.l.length : Int) by omega]
    · simp -implicitDefEqProofs [A, Req.c, k1, k2, show ¬ kind < 1 by omega, show 8 < kind by omega]
  · simp -implicitDefEqProofs [A, Req.c, k1, show kind < 1 by omega]
end Go.Proofs.Ytenndgooepdmiaa
