/- Requests as bytes: what the program says. -/
import Derived.Test.YtenndgooepdmiaaSWire5
namespace Go.Proofs.Ytenndgooepdmiaa
open Go Go.AM Go.Proofs
set_option maxRecDepth 20000
set_option maxHeartbeats 1000000
set_option linter.unusedSimpArgs false
set_option linter.unusedVariables false
theorem Wr.app {H : List Blk} {fr : Bool} {p q g : Nat} {s : Bs} (w : Wr H fr p q g s) (O : List Blk) : Wr (H ++ O) fr p q g s := by
  obtain ⟨h1, h2, h3⟩ := w.lt
  exact ⟨by rw [List.getElem?_append_left h1]; exact w.hp, by rw [List.getElem?_append_left h2]; exact w.hq⟩
theorem txt_ok {l : List Bs} (hl : l.length ≤ 9223372036854775807) : True := trivial
theorem encT2 (a b : Bs) : encT [a, b] = encS a ++ encS b := by simp [encT]
theorem encT1 (a : Bs) : encT [a] = encS a := by simp [encT]
theorem muts_step {H : List Blk} {fr : Bool} {p q g g0 : Nat} {s s0 : Bs} (w : Wr H fr p q g0 s0) (l : List Mut) (k : Nat) (hk : k < l.length) (hl : l.length ≤ 4) (hok : mutOk l[k] = true) (hr : s.length ≤ 100000000) (o : List Blk) :
    kpN [0, 11, 12, 13] (evCode (EvF tab) H L30_0 ⟨[(0, .ptr p 0), (11, .g (.sl 4 (l.map Mut.c))), (12, I l.length), (13, I k)], mPQ fr p q g s, o⟩) =
      some (.normal, ⟨[(0, .ptr p 0), (11, .g (.sl 4 (l.map Mut.c))), (12, I l.length), (13, I (k + 1 : Nat))], mPQ fr p q (g + 1 + gT [l[k].key, l[k].value] + 1) (s ++ encMut l[k]), o ++ [.cells (l[k].c.map .g)]⟩) := by
  obtain ⟨hpl, hql, hne⟩ := w.lt
  have e2 := wrap_succ hk (by omega : l.length ≤ 9223372036854775807)
  obtain ⟨x, ex⟩ : ∃ x, l[k] = x := ⟨_, rfl⟩
  rw [ex] at hok ⊢
  have hlen := encMut_len hok
  obtain ⟨⟨h1, h2⟩, h3, h4⟩ := mutOk_iff.1 hok
  have hlx : ∀ y ∈ [x.lease], 0 ≤ y ∧ y ≤ 9223372036854775807 := fun y hy => by rw [List.mem_singleton.1 hy]; omega
  have b1 := b_ev ((w.set1 g s).app (o ++ [.cells (x.c.map .g)])) x.gone (by omega)
  have b2 := b_ev ((w.set2 g s).app (o ++ [.cells (x.c.map .g)])) x.gone (by omega)
  have t1 := t_ev ((w.set1 (g + 1) (s ++ encB x.gone)).app (o ++ [.cells (x.c.map .g)])) [x.key, x.value] (by simp) (by simp) (by
    rw [encT2]; simp only [encMut, List.length_append] at hlen ⊢; omega)
  have t2 := t_ev ((w.set2 (g + 1) (s ++ encB x.gone)).app (o ++ [.cells (x.c.map .g)])) [x.key, x.value] (by simp) (by simp) (by
    rw [encT2]; simp only [encMut, List.length_append] at hlen ⊢; omega)
  rw [encT2] at t1 t2
  have n1 := n_ev ((w.set1 (g + 1 + gT [x.key, x.value]) (s ++ encB x.gone ++ (encS x.key ++ encS x.value))).app (o ++ [.cells (x.c.map .g)])) [x.lease] (by simp) hlx (by simp) (by
    rw [encL1]; simp only [encMut, List.length_append] at hlen ⊢; omega)
  have n2 := n_ev ((w.set2 (g + 1 + gT [x.key, x.value]) (s ++ encB x.gone ++ (encS x.key ++ encS x.value))).app (o ++ [.cells (x.c.map .g)])) [x.lease] (by simp) hlx (by simp) (by
    rw [encL1]; simp only [encMut, List.length_append] at hlen ⊢; omega)
  rw [encL1] at n1 n2
  unfold encMut
  generalize gT [x.key, x.value] = gk at t1 t2 n1 n2 ⊢
  generalize encB x.gone = v1 at b1 b2 t1 t2 n1 n2 ⊢
  generalize encS x.key = v2 at t1 t2 n1 n2 ⊢
  generalize encS x.value = v3 at t1 t2 n1 n2 ⊢
  generalize encN x.lease = v4 at n1 n2 ⊢
  simp only [List.append_assoc] at t1 t2 n1 n2 ⊢
  simp only [ints, txts, Mut.c, List.map_cons, List.map_nil, List.length_cons, List.length_nil, Nat.zero_add] at b1 b2 t1 t2 n1 n2 ⊢
  delta L30_0
  cases fr
  · simp -implicitDefEqProofs [mPQ, hk, ex, Mut.c, chunk, b1, t1, n1, hpl, hql, hne, Ne.symm hne, setB_old, updM, e2]
  · simp -implicitDefEqProofs [mPQ, hk, ex, Mut.c, chunk, b2, t2, n2, hpl, hql, hne, Ne.symm hne, setB_old, updM, e2]
theorem mPQ_lt1 {n p q g : Nat} {s : Bs} {fr : Bool} (h1 : p < n) (h2 : q < n) : ((mPQ fr p q g s).all fun x => x.2.lt1 n) = true := by cases fr <;> simp [mPQ, h1, h2]
def stM (a : Nat × Bs) (x : Mut) : Nat × Bs := (a.1 + 1 + gT [x.key, x.value] + 1, a.2 ++ encMut x)
theorem foldM : ∀ (l : List Mut) (a : Nat × Bs), (l.foldl stM a).2 = a.2 ++ (l.map encMut).flatten ∧ a.1 ≤ (l.foldl stM a).1
  | [], a => by simp
  | x :: l, a => by
    obtain ⟨h1, h2⟩ := foldM l (stM a x)
    simp only [List.foldl_cons, h1]
    refine ⟨by simp [stM], ?_⟩
    have : a.1 ≤ (stM a x).1 := by simp only [stM]; omega
    omega
theorem muts_loop {H : List Blk} {fr : Bool} {p q g g0 : Nat} {s s0 : Bs} (w : Wr H fr p q g0 s0) (l : List Mut) (hl : l.length ≤ 4) (hok : ∀ x ∈ l, mutOk x = true) (hr : s.length ≤ 90000000) :
    ∃ o', loopE (EvF tab) H L30_0 [0, 11, 12, 13] ⟨[(0, .ptr p 0), (11, .g (.sl 4 (l.map Mut.c))), (12, I l.length), (13, I 0)], mPQ fr p q g s, []⟩ =
      some (.exit 0, ⟨[(0, .ptr p 0), (11, .g (.sl 4 (l.map Mut.c))), (12, I l.length), (13, I l.length), (14, B false)], mPQ fr p q (l.foldl stM (g, s)).1 (s ++ (l.map encMut).flatten), o'⟩) := by
  have hw := loop_runJ (E := EvF tab) (h := H) (c := L30_0) (lv := [0, 11, 12, 13]) (l := l) (β := Nat × Bs) (γ := Unit) (fun k b => b.2.length ≤ 90000000 + k * 100) (fun k x b => .inl (stM b x))
    (fun k b o => ⟨[(0, .ptr p 0), (11, .g (.sl 4 (l.map Mut.c))), (12, I l.length), (13, I k)], mPQ fr p q b.1 b.2, o⟩) (fun b o => (.exit 0, ⟨[(0, .ptr p 0), (11, .g (.sl 4 (l.map Mut.c))), (12, I l.length), (13, I l.length), (14, B false)], mPQ fr p q b.1 b.2, o⟩)) (fun _ o => (.ret, ⟨[], [], o⟩)) (by simp) (by simp) (fun k x b o hk hx hy hi => ?_) (fun b o _ => by delta L30_0; simp -implicitDefEqProofs) (g, s) [] (by simpa using hr)
  · obtain ⟨o', hw⟩ := hw
    refine ⟨o', ?_⟩
    have key : ∀ (l : List Mut) (k : Nat) (b : Nat × Bs), runG (γ := Unit) (fun k (x : Mut) b => .inl (stM b x)) k l b = .inl (l.foldl stM b) := by
      intro l
      induction l with
      | nil => intro k b; simp [runG]
      | cons x l ih => intro k b; simp only [runG, ih]; simp
    rw [key] at hw
    have e0 : ((0 : Nat) : Int) = 0 := rfl
    simp only [e0, endJ] at hw
    rw [hw, (foldM l (g, s)).1]
  · have hm := hok x (List.mem_of_getElem? hx)
    have hlen := encMut_len hm
    subst hy
    refine ⟨by simp [stM]; omega, _, muts_step w l k hk hl hm (by omega) o⟩
theorem muts_ev {H : List Blk} {fr : Bool} {p q g : Nat} {s : Bs} (w : Wr H fr p q g s) (sl : Sl Mut) (h : mutsOk sl = true) (hr : s.length ≤ 10000000) :
    ∃ g', g < g' ∧ EvF tab 30 [.ptr p 0, .g (Muts.g sl)] H = some ⟨.tup [], mPQ fr p q g' (s ++ encMuts sl.l), []⟩ := by
  obtain ⟨hpl, hql, hne⟩ := w.lt
  obtain ⟨h1, h2⟩ := mutsOk_iff.1 h
  have hle := encN_len (sl.l.length : Int) (by omega)
  have hn := n_ev w [(sl.l.length : Int)] (by simp) (fun y hy => by rw [List.mem_singleton.1 hy]; omega) (by simp) (by rw [encL1]; omega)
  rw [encL1] at hn
  simp only [ints, List.map_cons, List.map_nil, List.length_cons, List.length_nil, Nat.zero_add] at hn
  cases sl with
  | nil =>
    refine ⟨g + 1, by omega, ?_⟩
    refine EvF_walk t30 (by simp) ?_
    have e : encMuts (Sl.nil : Sl Mut).l = encN 0 := by simp [encMuts]
    have e0 : (((Sl.nil : Sl Mut).l.length : Nat) : Int) = 0 := rfl
    rw [e0] at hn
    rw [e]
    have hlt := @mPQ_lt1 H.length p q (g + 1) (s ++ encN 0) fr hpl hql
    generalize s ++ encN 0 = v at hn hlt ⊢
    have hw : loopE (EvF tab) H L30_0 [0, 11, 12, 13] ⟨[(0, .ptr p 0), (11, .g .nsl), (12, I 0), (13, I 0)], mPQ fr p q (g + 1) v, []⟩ = some (.exit 0, ⟨[(0, .ptr p 0), (11, .g .nsl), (12, I 0), (13, I 0), (14, B false)], mPQ fr p q (g + 1) v, []⟩) := by
      refine loopE_out _ _ _ _ _ _ (by simp) ?_
      delta L30_0
      simp -implicitDefEqProofs
    cases fr <;> simp only [mPQ, Bool.not_false, Bool.not_true, if_true, if_false, Bool.false_eq_true] at hn hw hlt ⊢ <;> simp -implicitDefEqProofs [lenV, hn, chunk, setB_old, hpl, hql, hne, Ne.symm hne, updM, hw]
  | of l =>
    simp only [Sl.l_of] at h1 h2 hn hle ⊢
    obtain ⟨o', hw⟩ := muts_loop (g := g + 1) (s := s ++ encN l.length) w l h1 h2 (by simp; omega)
    refine ⟨(l.foldl stM (g + 1, s ++ encN l.length)).1, by have := (foldM l (g + 1, s ++ encN l.length)).2; simp only at this; omega, ?_⟩
    refine EvF_walk t30 (by simp) ?_
    have e : s ++ encMuts l = s ++ encN l.length ++ (l.map encMut).flatten := by simp [encMuts]
    rw [e]
    generalize (l.foldl stM (g + 1, s ++ encN l.length)).1 = g2 at hw ⊢
    generalize s ++ encN (l.length : Int) ++ (l.map encMut).flatten = v2 at hw ⊢
    generalize s ++ encN (l.length : Int) = v at hn hw
    cases fr <;> simp only [mPQ, Bool.not_false, Bool.not_true, if_true, if_false, Bool.false_eq_true] at hn hw ⊢ <;> simp -implicitDefEqProofs [lenV, hn, chunk, setB_old, hpl, hql, hne, Ne.symm hne, updM, hw]
end Go.Proofs.Ytenndgooepdmiaa
