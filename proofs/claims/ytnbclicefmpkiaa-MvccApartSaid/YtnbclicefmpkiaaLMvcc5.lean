/- The law MvccLays. -/
import Derived.Test.YtnbclicefmpkiaaLMvcc3
namespace Go.Proofs.Ytnbclicefmpkiaa
open Go Go.AM Go.Proofs
set_option maxRecDepth 20000
set_option maxHeartbeats 4000000
set_option linter.unusedSimpArgs false
set_option linter.unusedVariables false
theorem mutK_mem : ∀ {ms : List Mut} {met : List Bs}, mayMG met ms = true → ∀ m ∈ ms, mutK ms m.key = some m
  | [], _, _, m, hm => by cases hm
  | a :: ms, met, h, m, hm => by
    unfold mayMG at h
    simp only [Bool.and_eq_true, Bool.not_eq_true'] at h
    unfold mutK
    rcases List.mem_cons.1 hm with rfl | hm
    · rw [if_pos rfl]
    · have hne : a.key ≠ m.key := fun e => by
        have := (mayMG_all h.2 m hm).1
        rw [← e] at this; simp at this
      rw [if_neg hne]; exact mutK_mem h.2 m hm
theorem nextK_parts (o : Option KV) (m : Mut) (rev : Int) : (nextK o m rev).key = m.key ∧ (nextK o m rev).value = m.value ∧ (nextK o m rev).lease = m.lease ∧ (nextK o m rev).mod = rev := by unfold nextK; split <;> exact ⟨rfl, rfl, rfl, rfl⟩
theorem lays_one {s : Store} (h : SOk s) {ms : List Mut} (he : applyE s ms = 0) {m : Mut} (hm : m ∈ ms) :
    (∀ y ∈ nowP (applyS s ms), y.key = m.key → y.value = m.value ∧ y.lease = m.lease ∧ y.mod = (applyS s ms).rev ∧ m.gone = false) ∧ ((nowP (applyS s ms)).any fun y => y.key == m.key) = !m.gone := by
  obtain ⟨hmay, -⟩ := applyE_zero he
  have hmay2 := hmay
  unfold mayM at hmay2
  rw [Bool.and_eq_true] at hmay2
  have hk := mutK_mem hmay2.1 m hm
  have ht := apply_SOk h ms
  have hg := apply_now h he m.key
  unfold outK at hg
  rw [hk] at hg
  simp only at hg
  have hrev : m.gone = false → (applyS s ms).rev = s.rev + 1 := fun hgn => by
    rw [(apply_rev h he).1, if_neg]
    unfold actsN
    have : m ∈ ms.filter (doesP (nowP s)) := List.mem_filter.2 ⟨hm, by unfold doesP; rw [hgn]; rfl⟩
    intro hz
    rw [List.length_eq_zero_iff.1 hz] at this; cases this
  obtain ⟨p1, p2, p3, p4⟩ := nextK_parts (getK (nowP s) m.key) m (s.rev + 1)
  cases hgn : m.gone
  · rw [hgn] at hg
    simp only [Bool.false_eq_true, if_false] at hg
    refine ⟨fun y hy hyk => ?_, ?_⟩
    · have := mem_getK ht.nowGood.srt hy
      rw [hyk, hg] at this
      cases this
      exact ⟨p2, p3, by rw [p4, hrev hgn], rfl⟩
    · obtain ⟨q1, q2⟩ := getK_some hg
      rw [List.any_eq_true.2 ⟨_, q1, by rw [q2]; simp⟩]; rfl
  · rw [hgn] at hg
    simp only [if_true] at hg
    refine ⟨fun y hy hyk => absurd hyk (getK_none hg y hy), ?_⟩
    rw [Bool.not_true, List.any_eq_false]
    exact fun y hy => by simpa using getK_none hg y hy
theorem lays_stay {s : Store} (h : SOk s) {ms : List Mut} (he : applyE s ms = 0) {x : KV} (hx : x ∈ nowP s) (hn : (ms.any fun m => m.key == x.key) = false) : x ∈ nowP (applyS s ms) := by
  have hg := apply_now h he x.key
  unfold outK at hg
  rw [mutK_none fun m hm e => by rw [List.any_eq_false] at hn; exact hn m hm (by simpa using e)] at hg
  rw [mem_getK h.nowGood.srt hx] at hg
  exact (getK_some hg).1
theorem any_fold {α : Type} (p : α → Bool) : ∀ (l : List α) (b : Bool), l.foldl (fun b x => b || p x) b = (b || l.any p)
  | [], b => by simp
  | x :: l, b => by rw [List.foldl_cons, any_fold p l, List.any_cons, Bool.or_assoc]
theorem lays0 (now : Sl KV) (ms : List Mut) (i : Nat) (m : Mut) (hi : i < ms.length) (hm : ms[i] = m) (trev : Int) (hl : now.l.length ≤ 1000000)
    (hy : ∀ y ∈ now.l, y.key = m.key → y.value = m.value ∧ y.lease = m.lease ∧ y.mod = trev ∧ m.gone = false) (was : AV) (p0 p1 p2 : Blk) (q1 q2 q3 : AV) :
    loopE (EvF tab) [] L10_0 [1, 5, 8, 9, 10, 11, 12] ⟨[(1, .g (.sl 4 (ms.map Mut.c))), (5, .ptr 3 0), (8, was), (9, .g (KVs.g now)), (10, I i), (11, B false), (12, I 0)], [], [p0, p1, p2, .cells [I trev, q1, q2, q3]]⟩ =
      some (.exit 2, ⟨[(1, .g (.sl 4 (ms.map Mut.c))), (5, .ptr 3 0), (8, was), (9, .g (KVs.g now)), (10, I i), (11, B (now.l.any fun y => y.key == m.key)), (12, I now.l.length), (65, B false)], [], [p0, p1, p2, .cells [I trev, q1, q2, q3]]⟩) := by
  have hw := loop_runJ (E := EvF tab) (h := []) (c := L10_0) (lv := [1, 5, 8, 9, 10, 11, 12]) (l := now.l) (β := Bool) (γ := Unit) (fun _ _ => True) (fun k y b => .inl (b || (y.key == m.key)))
    (fun k b _ => ⟨[(1, .g (.sl 4 (ms.map Mut.c))), (5, .ptr 3 0), (8, was), (9, .g (KVs.g now)), (10, I i), (11, B b), (12, I k)], [], [p0, p1, p2, .cells [I trev, q1, q2, q3]]⟩)
    (fun b _ => (.exit 2, ⟨[(1, .g (.sl 4 (ms.map Mut.c))), (5, .ptr 3 0), (8, was), (9, .g (KVs.g now)), (10, I i), (11, B b), (12, I now.l.length), (65, B false)], [], [p0, p1, p2, .cells [I trev, q1, q2, q3]]⟩))
    (fun _ o => (.ret, ⟨[], [], o⟩)) (by simp) (by simp) (fun k y b o hk hx hyy _ => ?_) (fun b o _ => by delta L10_0; cases now <;> simp -implicitDefEqProofs) false [] trivial
  · obtain ⟨o', hw⟩ := hw
    rw [runG_fold, any_fold, Bool.false_or] at hw
    exact hw
  · have e2 := wrap_succ hk (by omega)
    delta L10_0
    have hh := hy y (List.mem_of_getElem? hx)
    cases now with
    | nil => simp at hk
    | of l =>
      simp only [Sl.l_of] at hk hx hyy hl ⊢
      refine ⟨trivial, o, ?_⟩
      obtain ⟨mg, mk, mv, ml⟩ := m
      simp only at hh ⊢
      by_cases c : y.key = mk
      · obtain ⟨h1, h2, h3, h4⟩ := hh c
        subst h4
        simp -implicitDefEqProofs [hk, hyy, hi, hm, KV.c, Mut.c, c, h1, h2, h3, e2]
      · simp -implicitDefEqProofs [hk, hyy, hi, hm, KV.c, Mut.c, c, e2]
theorem lays1 (now : Sl KV) (ms : Sl Mut) (trev : Int) (hl : now.l.length ≤ 1000000) (hl2 : ms.l.length ≤ 1000000)
    (hy : ∀ m ∈ ms.l, (∀ y ∈ now.l, y.key = m.key → y.value = m.value ∧ y.lease = m.lease ∧ y.mod = trev ∧ m.gone = false) ∧ (now.l.any fun y => y.key == m.key) = !m.gone) (was : AV) (p0 p1 p2 : Blk) (q1 q2 q3 : AV) :
    loopE (EvF tab) [] L10_1 [1, 5, 8, 9, 10] ⟨[(1, .g (Muts.g ms)), (5, .ptr 3 0), (8, was), (9, .g (KVs.g now)), (10, I 0)], [], [p0, p1, p2, .cells [I trev, q1, q2, q3]]⟩ =
      some (.exit 0, ⟨[(1, .g (Muts.g ms)), (5, .ptr 3 0), (8, was), (9, .g (KVs.g now)), (10, I ms.l.length), (59, B false)], [], [p0, p1, p2, .cells [I trev, q1, q2, q3]]⟩) := by
  refine loop_cnt ms.l.length (fun k => ⟨[(1, .g (Muts.g ms)), (5, .ptr 3 0), (8, was), (9, .g (KVs.g now)), (10, I k)], [], [p0, p1, p2, .cells [I trev, q1, q2, q3]]⟩) _ (by simp) (fun k hk => ?_) (by delta L10_1; cases ms <;> simp -implicitDefEqProofs)
  have e2 := wrap_succ hk (by omega)
  obtain ⟨m, hm⟩ : ∃ m, ms.l[k] = m := ⟨_, rfl⟩
  have hmem : m ∈ ms.l := by rw [← hm]; exact List.getElem_mem hk
  obtain ⟨h1, h2⟩ := hy m hmem
  cases ms with
  | nil => simp at hk
  | of l =>
    simp only [Sl.l_of] at hk hm hl2 ⊢
    have hw := lays0 now l k m hk hm trev hl h1 was p0 p1 p2 q1 q2 q3
    rw [h2] at hw
    obtain ⟨mg, mk, mv, ml⟩ := m
    delta L10_1
    cases mg
    · simp only [Bool.not_false] at hw
      simp -implicitDefEqProofs [hk, hm, Mut.c, hw, e2]
    · simp only [Bool.not_true] at hw
      simp -implicitDefEqProofs [hk, hm, Mut.c, hw, e2]
theorem lays2 (was : List KV) (ms : Sl Mut) (i : Nat) (x : KV) (hi : i < was.length) (hx : was[i] = x) (hl : ms.l.length ≤ 1000000) (now : AV) (o : List Blk) :
    loopE (EvF tab) [] L10_2 [1, 8, 9, 13, 14, 15] ⟨[(1, .g (Muts.g ms)), (8, .g (.sl 6 (was.map KV.c))), (9, now), (13, I i), (14, B false), (15, I 0)], [], o⟩ =
      some (.exit 6, ⟨[(1, .g (Muts.g ms)), (8, .g (.sl 6 (was.map KV.c))), (9, now), (13, I i), (14, B (ms.l.any fun m => m.key == x.key)), (15, I ms.l.length), (139, B false)], [], o⟩) := by
  have hw := loop_runJ (E := EvF tab) (h := []) (c := L10_2) (lv := [1, 8, 9, 13, 14, 15]) (l := ms.l) (β := Bool) (γ := Unit) (fun _ _ => True) (fun k m b => .inl (b || (m.key == x.key)))
    (fun k b _ => ⟨[(1, .g (Muts.g ms)), (8, .g (.sl 6 (was.map KV.c))), (9, now), (13, I i), (14, B b), (15, I k)], [], o⟩)
    (fun b _ => (.exit 6, ⟨[(1, .g (Muts.g ms)), (8, .g (.sl 6 (was.map KV.c))), (9, now), (13, I i), (14, B b), (15, I ms.l.length), (139, B false)], [], o⟩))
    (fun _ o => (.ret, ⟨[], [], o⟩)) (by simp) (by simp) (fun k m b o' hk hx2 hy _ => ?_) (fun b o' _ => by delta L10_2; cases ms <;> simp -implicitDefEqProofs) false [] trivial
  · obtain ⟨o', hw⟩ := hw
    rw [runG_fold, any_fold, Bool.false_or] at hw
    exact hw
  · have e2 := wrap_succ hk (by omega)
    delta L10_2
    cases ms with
    | nil => simp at hk
    | of l =>
      simp only [Sl.l_of] at hk hx2 hy hl ⊢
      refine ⟨trivial, o', ?_⟩
      cases b
      · by_cases c : m.key = x.key <;> simp -implicitDefEqProofs [hk, hy, hi, hx, KV.c, Mut.c, c, e2]
      · simp -implicitDefEqProofs [hk, hy, hi, hx, KV.c, Mut.c, e2]
theorem lays3 (was : List KV) (nw : Sl KV) (i : Nat) (x : KV) (hi : i < was.length) (hx : was[i] = x) (hl : nw.l.length ≤ 1000000) (ms : AV) (asked : Bool) (o : List Blk) :
    loopE (EvF tab) [] L10_3 [1, 8, 9, 13, 14, 16, 17] ⟨[(1, ms), (8, .g (.sl 6 (was.map KV.c))), (9, .g (KVs.g nw)), (13, I i), (14, B asked), (16, B false), (17, I 0)], [], o⟩ =
      some (.exit 8, ⟨[(1, ms), (8, .g (.sl 6 (was.map KV.c))), (9, .g (KVs.g nw)), (13, I i), (14, B asked), (16, B (nw.l.any fun y => kvEq y x)), (17, I nw.l.length), (159, B false)], [], o⟩) := by
  have hw := loop_runJ (E := EvF tab) (h := []) (c := L10_3) (lv := [1, 8, 9, 13, 14, 16, 17]) (l := nw.l) (β := Bool) (γ := Unit) (fun _ _ => True) (fun k y b => .inl (b || kvEq y x))
    (fun k b _ => ⟨[(1, ms), (8, .g (.sl 6 (was.map KV.c))), (9, .g (KVs.g nw)), (13, I i), (14, B asked), (16, B b), (17, I k)], [], o⟩)
    (fun b _ => (.exit 8, ⟨[(1, ms), (8, .g (.sl 6 (was.map KV.c))), (9, .g (KVs.g nw)), (13, I i), (14, B asked), (16, B b), (17, I nw.l.length), (159, B false)], [], o⟩))
    (fun _ o => (.ret, ⟨[], [], o⟩)) (by simp) (by simp) (fun k y b o' hk hx2 hy _ => ?_) (fun b o' _ => by delta L10_3; cases nw <;> simp -implicitDefEqProofs) false [] trivial
  · obtain ⟨o', hw⟩ := hw
    rw [runG_fold, any_fold, Bool.false_or] at hw
    exact hw
  · have e2 := wrap_succ hk (by omega)
    delta L10_3
    cases nw with
    | nil => simp at hk
    | of l =>
      simp only [Sl.l_of] at hk hx2 hy hl ⊢
      refine ⟨trivial, o', ?_⟩
      unfold kvEq
      obtain ⟨x1, x2, x3, x4, x5, x6⟩ := x
      obtain ⟨y1, y2, y3, y4, y5, y6⟩ := y
      cases b
      · simp -implicitDefEqProofs [hk, hy, hi, hx, KV.c, e2]
      · simp -implicitDefEqProofs [hk, hy, hi, hx, KV.c, e2]
theorem lays4 (was nw : Sl KV) (ms : Sl Mut) (hl : was.l.length ≤ 1000000) (hl2 : nw.l.length ≤ 1000000) (hl3 : ms.l.length ≤ 1000000)
    (hy : ∀ x ∈ was.l, (ms.l.any fun m => m.key == x.key) = false → (nw.l.any fun y => kvEq y x) = true) (o : List Blk) :
    loopE (EvF tab) [] L10_4 [1, 8, 9, 13] ⟨[(1, .g (Muts.g ms)), (8, .g (KVs.g was)), (9, .g (KVs.g nw)), (13, I 0)], [], o⟩ =
      some (.exit 4, ⟨[(1, .g (Muts.g ms)), (8, .g (KVs.g was)), (9, .g (KVs.g nw)), (13, I was.l.length), (133, B false)], [], o⟩) := by
  refine loop_cnt was.l.length (fun k => ⟨[(1, .g (Muts.g ms)), (8, .g (KVs.g was)), (9, .g (KVs.g nw)), (13, I k)], [], o⟩) _ (by simp) (fun k hk => ?_) (by delta L10_4; cases was <;> simp -implicitDefEqProofs)
  have e2 := wrap_succ hk (by omega)
  obtain ⟨x, hx⟩ : ∃ x, was.l[k] = x := ⟨_, rfl⟩
  have hmem : x ∈ was.l := by rw [← hx]; exact List.getElem_mem hk
  have h1 := hy x hmem
  cases was with
  | nil => simp at hk
  | of l =>
    simp only [Sl.l_of] at hk hx hl ⊢
    have hw2 := lays2 l ms k x hk hx hl3 (.g (KVs.g nw)) o
    have hw3 := fun b => lays3 l nw k x hk hx hl2 (.g (Muts.g ms)) b o
    generalize (ms.l.any fun m => m.key == x.key) = a at h1 hw2
    generalize (nw.l.any fun y => kvEq y x) = b at h1 hw3
    delta L10_4
    cases a
    · have h1 := h1 rfl
      subst h1
      simp -implicitDefEqProofs [hk, hx, hw2, hw3, e2]
    · cases b <;> simp -implicitDefEqProofs [hk, hx, hw2, hw3, e2]
theorem MvccLays_law (x0 : Store) (x1 : Sl Mut) (w0 : x0.wf) (w1 : (∀ y ∈ x1.l, y.wf) ∧ x1.l.length ≤ 9223372036854775807) : EvF tab 10 [A x0.c, .g (Muts.g x1)] [] = some ⟨.g (.bool true), [], []⟩ := by
  have m0 := fun H => FewS_ev x0 w0 H
  have m1 := fun H => May_ev x0 w0 H
  have m2 := fun H => short5_ev x1 w1.2 H
  have hk : ∀ m ∈ x1.l, m.key.length ≤ 9223372036854775807 := fun m hm => (w1.1 m hm).1
  refine EvF_walk t10 (by simp) ?_
  by_cases hg : fewS x0 = true ∧ storeOk x0 = true ∧ x1.l.length ≤ 40 ∧ allP shortM x1.l = true
  · obtain ⟨g1, g2, g3, g4⟩ := hg
    rw [g1] at m0
    rw [g2] at m1
    rw [g4] at m2
    have hs := storeOk_iff.1 g2
    have hr := storeOk_rev g2
    have hsm := fewS_smallS g1
    have m3 := fun H => Apply_ev x0 x1 hsm (by omega) hk (by omega) H
    have n1 : ¬ (40 : Int) < (x1.l.length : Int) := by omega
    by_cases he : applyE x0 x1.l = 0
    · have ht := apply_SOk hs x1.l
      have m4 := fun H => Now_ev x0 hsm H
      have m5 := fun H => Now_ev (applyS x0 x1.l) ht.small H
      have nl := hs.nowLen
      have tl := ht.nowLen
      have hw1 := fun p0 p1 p2 q1 q2 q3 => lays1 (foldR (applyS x0 x1.l).base (applyS x0 x1.l).log.l (applyS x0 x1.l).rev) x1 (applyS x0 x1.l).rev (by rw [now_l]; omega) (by omega)
        (fun m hm => by rw [now_l]; exact lays_one hs he hm) (.g (KVs.g (foldR x0.base x0.log.l x0.rev))) p0 p1 p2 q1 q2 q3
      have hw4 := fun o => lays4 (foldR x0.base x0.log.l x0.rev) (foldR (applyS x0 x1.l).base (applyS x0 x1.l).log.l (applyS x0 x1.l).rev) x1 (by rw [now_l]; omega) (by rw [now_l]; omega) (by omega)
        (fun x hx hn => by
          rw [now_l] at hx ⊢
          exact List.any_eq_true.2 ⟨x, lays_stay hs he hx hn, kvEq_iff.2 rfl⟩) o
      generalize foldR x0.base x0.log.l x0.rev = was at m4 hw1 hw4
      generalize foldR (applyS x0 x1.l).base (applyS x0 x1.l).log.l (applyS x0 x1.l).rev = nw at m5 hw1 hw4
      rw [he] at m3
      generalize applyS x0 x1.l = t at m3 m5 hw1
      generalize hv : applyV x0 x1.l = v at m3
      obtain ⟨trev, tlow, tbase, tlog⟩ := t
      obtain ⟨a1, a2, a3, a4, ha⟩ := store4 x0
      rw [ha] at m0 m1 m3 m4 ⊢
      simp only [A, Store.c, List.map_cons, List.map_nil] at m0 m1 m3 m4 m5 hw1 ⊢
      generalize hgv : Evs.g v = gv at m3
      simp -implicitDefEqProofs [live05, m0, m1, m2, m3, m4, m5, hw1, hw4, n1]
    · have hv : applyV x0 x1.l = .nil := by unfold applyV applyN; rw [decide_eq_false he]; rfl
      rw [hv] at m3
      obtain ⟨a1, a2, a3, a4, ha⟩ := store4 x0
      obtain ⟨b1, b2, b3, b4, hb⟩ := store4 (applyS x0 x1.l)
      rw [ha] at m0 m1 m3 ⊢
      rw [hb] at m3
      generalize applyE x0 x1.l = e1 at m3 he
      simp only [A, List.map_cons, List.map_nil, Evs.g, Sl.g_nil] at m0 m1 m3 ⊢
      simp -implicitDefEqProofs [live05, m0, m1, m2, m3, n1, he]
  · obtain ⟨a1, a2, a3, a4, ha⟩ := store4 x0
    rw [ha] at m0 m1 ⊢
    simp only [A, List.map_cons, List.map_nil] at m0 m1 ⊢
    cases g1 : fewS x0
    · rw [g1] at m0
      simp -implicitDefEqProofs [live05, m0]
    · rw [g1] at m0
      cases g2 : storeOk x0
      · rw [g2] at m1
        simp -implicitDefEqProofs [live05, m0, m1]
      · rw [g2] at m1
        by_cases n1 : (40 : Int) < (x1.l.length : Int)
        · simp -implicitDefEqProofs [live05, m0, m1, n1]
        · cases g4 : allP shortM x1.l
          · rw [g4] at m2
            simp -implicitDefEqProofs [live05, m0, m1, m2, n1]
          · exact absurd ⟨g1, g2, by omega, g4⟩ hg
end Go.Proofs.Ytnbclicefmpkiaa
