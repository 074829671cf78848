/- The law MvccApart. -/
import Derived.Test.YtnbclicefmpkiaaLMvcc5
namespace Go.Proofs.Ytnbclicefmpkiaa
open Go Go.AM Go.Proofs
set_option maxRecDepth 20000
set_option maxHeartbeats 4000000
set_option linter.unusedSimpArgs false
set_option linter.unusedVariables false
def prK (x : KV) : Bs × Bs × Int × Int := (x.key, x.value, x.lease, x.version)
theorem nextK_pr (o : Option KV) (m : Mut) (r1 r2 : Int) : prK (nextK o m r1) = prK (nextK o m r2) := by unfold nextK prK; cases o <;> rfl
theorem mutK_some {k : Bs} {m : Mut} : ∀ {ms : List Mut}, mutK ms k = some m → m ∈ ms ∧ m.key = k
  | [], h => by cases h
  | a :: ms, h => by
    unfold mutK at h
    split at h
    · rename_i hk; cases h; exact ⟨List.mem_cons_self, hk⟩
    · obtain ⟨h1, h2⟩ := mutK_some h; exact ⟨List.mem_cons_of_mem _ h1, h2⟩
def apartL (l m : List Mut) : Prop := ∀ a ∈ l, ∀ b ∈ m, a.key ≠ b.key
theorem apart_none {l m : List Mut} (h : apartL l m) {k : Bs} {a : Mut} (ha : mutK l k = some a) : mutK m k = none := by
  obtain ⟨h1, h2⟩ := mutK_some ha
  exact mutK_none fun b hb e => h a h1 b hb (h2.trans e.symm)
theorem apart_symm {l m : List Mut} (h : apartL l m) : apartL m l := fun a ha b hb e => h b hb a ha e.symm
theorem apart_acts {s : Store} (h : SOk s) {l m : List Mut} (hd : applyE s l = 0) (hap : apartL l m) : actsN (nowP (applyS s l)) m = actsN (nowP s) m := by
  unfold actsN
  congr 1
  refine List.filter_congr fun y hy => ?_
  unfold doesP
  rw [apply_now h hd]
  unfold outK
  rw [mutK_none fun a ha e => hap a ha y hy e]
theorem apart_get {s : Store} (h : SOk s) {l m : List Mut} (hd : applyE s l = 0) (he : applyE (applyS s l) m = 0) (hf : applyE s m = 0) (hh : applyE (applyS s m) l = 0) (hap : apartL l m) (k : Bs) :
    (getK (nowP (applyS (applyS s l) m)) k).map prK = (getK (nowP (applyS (applyS s m) l)) k).map prK := by
  have ha := apply_SOk h l
  have hc := apply_SOk h m
  rw [apply_now ha he, apply_now hc hh]
  unfold outK
  rw [apply_now h hd, apply_now h hf]
  unfold outK
  cases h1 : mutK l k with
  | none =>
    cases h2 : mutK m k with
    | none => rfl
    | some b =>
      simp only
      split
      · rfl
      · exact congrArg some (nextK_pr ..)
  | some a =>
    rw [apart_none hap h1]
    simp only
    split
    · rfl
    · exact congrArg some (nextK_pr ..)
theorem apart_now {s : Store} (h : SOk s) {l m : List Mut} (hd : applyE s l = 0) (he : applyE (applyS s l) m = 0) (hf : applyE s m = 0) (hh : applyE (applyS s m) l = 0) (hap : apartL l m) :
    (nowP (applyS (applyS s l) m)).map prK = (nowP (applyS (applyS s m) l)).map prK :=
  srt_ext prK (fun a b e => congrArg (·.1) e) (apply_SOk (apply_SOk h l) m).nowGood.srt (apply_SOk (apply_SOk h m) l).nowGood.srt (apart_get h hd he hf hh hap)
theorem apart_rev {s : Store} (h : SOk s) {l m : List Mut} (hd : applyE s l = 0) (he : applyE (applyS s l) m = 0) (hf : applyE s m = 0) (hh : applyE (applyS s m) l = 0) (hap : apartL l m) :
    (applyS (applyS s l) m).rev = (applyS (applyS s m) l).rev ∧ (applyS (applyS s l) m).log.l.length = (applyS (applyS s m) l).log.l.length := by
  have ha := apply_SOk h l
  have hc := apply_SOk h m
  obtain ⟨a1, a2⟩ := apply_rev h hd
  obtain ⟨b1, b2⟩ := apply_rev ha he
  obtain ⟨c1, c2⟩ := apply_rev h hf
  obtain ⟨d1, d2⟩ := apply_rev hc hh
  rw [apart_acts h hd hap] at b1 b2
  rw [apart_acts h hf (apart_symm hap)] at d1 d2
  rw [b1, b2, d1, d2, a1, a2, c1, c2]
  refine ⟨?_, by omega⟩
  split <;> split <;> omega
theorem apart0 (l m : List Mut) (i : Nat) (a : Mut) (hi : i < l.length) (ha : l[i] = a) (ms : Sl Mut) (hms : ms.l = m) (hl : m.length ≤ 1000000) (p : AV) (o : List Blk) :
    loopE (EvF tab) [] L11_0 [1, 2, 3, 7, 8] ⟨[(1, .g (.sl 4 (l.map Mut.c))), (2, .g (Muts.g ms)), (3, p), (7, I i), (8, I 0)], [], o⟩ =
      some (if allP (fun b : Mut => !(a.key == b.key)) m = true then (.exit 2, ⟨[(1, .g (.sl 4 (l.map Mut.c))), (2, .g (Muts.g ms)), (3, p), (7, I i), (8, I m.length), (62, B false)], [], o⟩) else (.ret, ⟨[(6, B true)], [], o⟩)) := by
  subst hms
  refine loop_all0 (l := ms.l) (fun b : Mut => !(a.key == b.key)) (fun k => ⟨[(1, .g (.sl 4 (l.map Mut.c))), (2, .g (Muts.g ms)), (3, p), (7, I i), (8, I k)], [], o⟩) _ _ (by simp) (by simp) (fun k x hk hx hy => ?_) (by delta L11_0; cases ms <;> simp -implicitDefEqProofs)
  have e2 := wrap_succ hk (by omega)
  delta L11_0
  cases ms with
  | nil => simp at hk
  | of m =>
    simp only [Sl.l_of] at hk hy
    by_cases c : a.key = x.key
    · simp -implicitDefEqProofs [hk, hy, hi, ha, Mut.c, c, live05]
    · simp -implicitDefEqProofs [hk, hy, hi, ha, Mut.c, c, e2]
theorem apart1 (ls ms : Sl Mut) (hl : ls.l.length ≤ 1000000) (hl2 : ms.l.length ≤ 1000000) (p : AV) (o : List Blk) :
    loopE (EvF tab) [] L11_1 [1, 2, 3, 7] ⟨[(1, .g (Muts.g ls)), (2, .g (Muts.g ms)), (3, p), (7, I 0)], [], o⟩ =
      some (if allP (fun a : Mut => allP (fun b : Mut => !(a.key == b.key)) ms.l) ls.l = true then (.exit 0, ⟨[(1, .g (Muts.g ls)), (2, .g (Muts.g ms)), (3, p), (7, I ls.l.length), (56, B false)], [], o⟩) else (.ret, ⟨[(6, B true)], [], o⟩)) := by
  refine loop_all0 (l := ls.l) (fun a : Mut => allP (fun b : Mut => !(a.key == b.key)) ms.l) (fun k => ⟨[(1, .g (Muts.g ls)), (2, .g (Muts.g ms)), (3, p), (7, I k)], [], o⟩) _ _ (by simp) (by simp) (fun k x hk hx hy => ?_) (by delta L11_1; cases ls <;> simp -implicitDefEqProofs)
  have e2 := wrap_succ hk (by omega)
  cases ls with
  | nil => simp at hk
  | of l =>
    simp only [Sl.l_of] at hk hy
    have hw := apart0 l ms.l k x hk hy ms rfl hl2 p o
    delta L11_1
    cases hb : allP (fun b : Mut => !(x.key == b.key)) ms.l
    · rw [hb] at hw
      simp only [Bool.false_eq_true, if_false] at hw
      simp -implicitDefEqProofs [hk, hy, hw, e2]
    · rw [hb] at hw
      simp only [if_true] at hw
      simp -implicitDefEqProofs [hk, hy, hw, e2]
theorem apart2 (xs ys : Sl KV) (hxy : xs.l.map prK = ys.l.map prK) (hl : xs.l.length ≤ 1000000) (o : List Blk) :
    loopE (EvF tab) [] L11_2 [21, 22, 23] ⟨[(21, .g (KVs.g xs)), (22, .g (KVs.g ys)), (23, I 0)], [], o⟩ =
      some (.exit 4, ⟨[(21, .g (KVs.g xs)), (22, .g (KVs.g ys)), (23, I xs.l.length), (148, B false)], [], o⟩) := by
  have hlen : xs.l.length = ys.l.length := by have := congrArg List.length hxy; simpa using this
  refine loop_cnt xs.l.length (fun k => ⟨[(21, .g (KVs.g xs)), (22, .g (KVs.g ys)), (23, I k)], [], o⟩) _ (by simp) (fun k hk => ?_) (by delta L11_2; cases xs <;> simp -implicitDefEqProofs)
  have e2 := wrap_succ hk (by omega)
  have hk2 : k < ys.l.length := by omega
  obtain ⟨x, hx⟩ : ∃ x, xs.l[k] = x := ⟨_, rfl⟩
  obtain ⟨y, hy⟩ : ∃ y, ys.l[k] = y := ⟨_, rfl⟩
  have hp : prK x = prK y := by
    have := congrArg (·[k]?) hxy
    simp only [List.getElem?_map, List.getElem?_eq_getElem hk, List.getElem?_eq_getElem hk2, Option.map_some, Option.some.injEq] at this
    rw [hx, hy] at this; exact this
  unfold prK at hp
  simp only [Prod.mk.injEq] at hp
  obtain ⟨h1, h2, h3, h4⟩ := hp
  cases xs with
  | nil => simp at hk
  | of l =>
    cases ys with
    | nil => simp at hk2
    | of m =>
      simp only [Sl.l_of] at hk hk2 hx hy
      delta L11_2
      simp -implicitDefEqProofs [hk, hk2, hx, hy, KV.c, h1, h2, h3, h4, e2]
theorem MvccApart_law (x0 : Store) (x1 x2 : Sl Mut) (w0 : x0.wf) (w1 : (∀ y ∈ x1.l, y.wf) ∧ x1.l.length ≤ 9223372036854775807) (w2 : (∀ y ∈ x2.l, y.wf) ∧ x2.l.length ≤ 9223372036854775807) : EvF tab 11 [A x0.c, .g (Muts.g x1), .g (Muts.g x2)] [] = some ⟨.g (.bool true), [], []⟩ := by
  have m0 := fun H => FewS_ev x0 w0 H
  have m1 := fun H => May_ev x0 w0 H
  have m2 := fun H => short5_ev x1 w1.2 H
  have m3 := fun H => short5_ev x2 w2.2 H
  have hk1 : ∀ m ∈ x1.l, m.key.length ≤ 9223372036854775807 := fun m hm => (w1.1 m hm).1
  have hk2 : ∀ m ∈ x2.l, m.key.length ≤ 9223372036854775807 := fun m hm => (w2.1 m hm).1
  refine EvF_walk t11 (by simp) ?_
  by_cases hg : (fewS x0 = true ∧ storeOk x0 = true) ∧ (x1.l.length ≤ 20 ∧ x2.l.length ≤ 20) ∧ allP shortM x1.l = true ∧ allP shortM x2.l = true
  · obtain ⟨⟨g1, g2⟩, ⟨g3, g4⟩, g5, g6⟩ := hg
    rw [g1] at m0
    rw [g2] at m1
    rw [g5] at m2
    rw [g6] at m3
    have hs := storeOk_iff.1 g2
    have hr := storeOk_rev g2
    have hsm := fewS_smallS g1
    have n1 : ¬ (20 : Int) < (x1.l.length : Int) := by omega
    have n2 : ¬ (20 : Int) < (x2.l.length : Int) := by omega
    have hw1 := fun p o => apart1 x1 x2 (by omega) (by omega) p o
    cases hap : allP (fun a : Mut => allP (fun b : Mut => !(a.key == b.key)) x2.l) x1.l
    · rw [hap] at hw1
      simp only [Bool.false_eq_true, if_false] at hw1
      obtain ⟨a1, a2, a3, a4, ha⟩ := store4 x0
      rw [ha] at m0 m1 ⊢
      simp only [A, List.map_cons, List.map_nil] at m0 m1 ⊢
      simp -implicitDefEqProofs [live05, m0, m1, m2, m3, n1, n2, hw1]
    · rw [hap] at hw1
      simp only [if_true] at hw1
      have hapl : apartL x1.l x2.l := fun a ha b hb e => by
        have h1 := allP_iff.1 hap a ha
        have h2 := allP_iff.1 h1 b hb
        simp [e] at h2
      have hsa := apply_SOk hs x1.l
      have hsc := apply_SOk hs x2.l
      have hra := hsa.revM
      have hrc := hsc.revM
      have hra0 := hsa.low0
      have hrc0 := hsc.low0
      have hra1 := hsa.lowr
      have hrc1 := hsc.lowr
      have m4 := fun H => Apply_ev x0 x1 hsm (by omega) hk1 (by omega) H
      have m5 := fun H => Apply_ev (applyS x0 x1.l) x2 hsa.small (by omega) hk2 (by omega) H
      have m6 := fun H => Apply_ev x0 x2 hsm (by omega) hk2 (by omega) H
      have m7 := fun H => Apply_ev (applyS x0 x2.l) x1 hsc.small (by omega) hk1 (by omega) H
      have hsb := apply_SOk hsa x2.l
      have hsg := apply_SOk hsc x1.l
      have m8 := fun H => Now_ev (applyS (applyS x0 x1.l) x2.l) hsb.small H
      have m9 := fun H => Now_ev (applyS (applyS x0 x2.l) x1.l) hsg.small H
      have nb := hsb.nowLen
      have ng := hsg.nowLen
      have pure1 := fun hd he hf hh => apart_now hs hd he hf hh hapl
      have pure2 := fun hd he hf hh => apart_rev hs hd he hf hh hapl
      have lb := now_l (s := applyS (applyS x0 x1.l) x2.l)
      have lg := now_l (s := applyS (applyS x0 x2.l) x1.l)
      rw [← lb] at pure1 nb
      rw [← lg] at pure1 ng
      clear lb lg
      have hw2 := fun h o => apart2 (foldR (applyS (applyS x0 x1.l) x2.l).base (applyS (applyS x0 x1.l) x2.l).log.l (applyS (applyS x0 x1.l) x2.l).rev) (foldR (applyS (applyS x0 x2.l) x1.l).base (applyS (applyS x0 x2.l) x1.l).log.l (applyS (applyS x0 x2.l) x1.l).rev) h (by omega) o
      generalize foldR (applyS (applyS x0 x1.l) x2.l).base (applyS (applyS x0 x1.l) x2.l).log.l (applyS (applyS x0 x1.l) x2.l).rev = nwb at *
      generalize foldR (applyS (applyS x0 x2.l) x1.l).base (applyS (applyS x0 x2.l) x1.l).log.l (applyS (applyS x0 x2.l) x1.l).rev = nwg at *
      generalize applyE x0 x1.l = e1 at m4 pure1 pure2
      generalize applyE (applyS x0 x1.l) x2.l = e2 at m5 pure1 pure2
      generalize applyE x0 x2.l = e3 at m6 pure1 pure2
      generalize applyE (applyS x0 x2.l) x1.l = e4 at m7 pure1 pure2
      generalize applyV x0 x1.l = v1 at m4
      generalize applyV (applyS x0 x1.l) x2.l = v2 at m5
      generalize applyV x0 x2.l = v3 at m6
      generalize applyV (applyS x0 x2.l) x1.l = v4 at m7
      generalize applyS (applyS x0 x1.l) x2.l = sb at m5 m8 pure2
      generalize applyS (applyS x0 x2.l) x1.l = sg at m7 m9 pure2
      obtain ⟨a1, a2, a3, a4, ha⟩ := store4 x0
      obtain ⟨b1, b2, b3, b4, hb⟩ := store4 (applyS x0 x1.l)
      obtain ⟨c1, c2, c3, c4, hc⟩ := store4 (applyS x0 x2.l)
      rw [ha] at m0 m1 m4 m6 ⊢
      rw [hb] at m4 m5
      rw [hc] at m6 m7
      obtain ⟨brev, blow, bbase, blog⟩ := sb
      obtain ⟨grev, glow, gbase, glog⟩ := sg
      generalize hv1 : Evs.g v1 = gv1 at m4
      generalize hv2 : Evs.g v2 = gv2 at m5
      generalize hv3 : Evs.g v3 = gv3 at m6
      generalize hv4 : Evs.g v4 = gv4 at m7
      simp only [A, Store.c, List.map_cons, List.map_nil] at m0 m1 m4 m5 m6 m7 m8 m9 ⊢
      by_cases k1 : e1 = 0
      · by_cases k2 : e2 = 0
        · by_cases k3 : e3 = 0
          · by_cases k4 : e4 = 0
            · subst k1 k2 k3 k4
              have p1 := pure1 rfl rfl rfl rfl
              obtain ⟨p2, p3⟩ := pure2 rfl rfl rfl rfl
              have p4 := congrArg List.length p1
              simp only [List.length_map] at p4
              simp only at p2 p3
              have hw2 := hw2 p1
              subst p2
              simp -implicitDefEqProofs [live05, m0, m1, m2, m3, m4, m5, m6, m7, m8, m9, n1, n2, hw1, hw2, p3, p4]
            · simp -implicitDefEqProofs [live05, m0, m1, m2, m3, m4, m5, m6, m7, m8, m9, n1, n2, hw1, k1, k2, k3, k4]
          · simp -implicitDefEqProofs [live05, m0, m1, m2, m3, m4, m5, m6, m7, m8, m9, n1, n2, hw1, k1, k2, k3]
        · simp -implicitDefEqProofs [live05, m0, m1, m2, m3, m4, m5, m6, m7, m8, m9, n1, n2, hw1, k1, k2]
      · simp -implicitDefEqProofs [live05, m0, m1, m2, m3, m4, m5, m6, m7, m8, m9, n1, n2, hw1, k1]
  · obtain ⟨a1, a2, a3, a4, ha⟩ := store4 x0
    rw [ha] at m0 m1 ⊢
    simp only [A, List.map_cons, List.map_nil] at m0 m1 ⊢
    cases g1 : fewS x0
    · rw [g1] at m0
      simp -implicitDefEqProofs [live05, m0]
    · rw [g1] at m0
      cases g2 : storeOk x0
      · rw [g2] at m1
        simp -implicitDefEqProofs [live05, m0, m1]
      · rw [g2] at m1
        by_cases n1 : (20 : Int) < (x1.l.length : Int)
        · simp -implicitDefEqProofs [live05, m0, m1, n1]
        · by_cases n2 : (20 : Int) < (x2.l.length : Int)
          · simp -implicitDefEqProofs [live05, m0, m1, n1, n2]
          · cases g4 : allP shortM x1.l
            · rw [g4] at m2
              simp -implicitDefEqProofs [live05, m0, m1, m2, n1, n2]
            · rw [g4] at m2
              cases g5 : allP shortM x2.l
              · rw [g5] at m3
                simp -implicitDefEqProofs [live05, m0, m1, m2, m3, n1, n2]
              · exact absurd ⟨⟨g1, g2⟩, ⟨by omega, by omega⟩, g4, g5⟩ hg
end Go.Proofs.Ytnbclicefmpkiaa
