/- All events of a store, gone on to the end. -/
import Derived.Test.YtibnbcljmfigfaaSWatch5
import Derived.Test.YtibnbcljmfigfaaPWatch2
namespace Go.Proofs.Ytibnbcljmfigfaa
open Go Go.AM Go.Proofs
set_option maxRecDepth 20000
set_option maxHeartbeats 2000000
set_option linter.unusedSimpArgs false
set_option linter.unusedVariables false
structure AInv (s : Store) (p : Bs) (rev most : Int) (b : Nat × List Ev × Int) : Prop where
  g : b.1 = 1 ↔ b.2.1 = []
  gp : 1 ≤ b.1
  len : b.2.1.length + (ofP s.log.l p b.2.2).length ≤ s.log.l.length
  eq : allW s p rev most = if (allW s p b.2.2 most).2 = 0 then (b.2.1 ++ (allW s p b.2.2 most).1, 0) else ([], (allW s p b.2.2 most).2)
theorem AInv.next {s : Store} (h : SOk s) {p : Bs} {rev most : Int} {g : Nat} {out : List Ev} {nx : Int} (hi : AInv s p rev most (g, out, nx)) (he : (sinP s p nx most).2.2 = 0) :
    AInv s p rev most (if (sinP s p nx most).1 = [] then g else g + 1, out ++ (sinP s p nx most).1, (sinP s p nx most).2.1) := by
  obtain ⟨h1, h2, h3⟩ := sinP_ok h he
  obtain ⟨i1, i2, i3, i4⟩ := hi
  simp only at i1 i2 i3 i4
  refine ⟨?_, ?_, ?_, ?_⟩
  · simp only
    split
    · rename_i hq; rw [hq, List.append_nil]; exact i1
    · rename_i hq; exact ⟨fun h => by exfalso; omega, fun h => absurd (List.append_eq_nil_iff.1 h).2 hq⟩
  · simp only; split <;> omega
  · simp only [List.length_append]
    have := congrArg List.length h2.split
    simp only [List.length_append] at this
    omega
  · simp only
    rw [i4, allW_step h he]
    by_cases hz : (allW s p (sinP s p nx most).2.1 most).2 = 0
    · simp [hz]
    · rw [if_neg hz, if_neg hz]
      simp only [hz, if_false]
/-- How going on ends. -/
def AEnd (n : Nat) (S : Blk) (s : Store) (p : Bs) (rev most : Int) (r : Ex × St) : Prop :=
  ∃ g out, ((g = 1 ↔ out = []) ∧ allW s p rev most = (out, 0) ∧ r = (.ret, ⟨[(8, .ms (n + 2) g 8 0 out.length), (9, I 0)], [], [S, .rows 8 1 [], .rows 8 g (out.map Ev.c)]⟩)) ∨
    (∃ e, allW s p rev most = ([], e) ∧ r = (.ret, ⟨[(8, .ms (n + 3) 1 8 0 0), (9, I e)], [], [S, .rows 8 1 [], .rows 8 g (out.map Ev.c), .rows 8 1 []]⟩))
theorem AEnd.err {n : Nat} {S : Blk} {s : Store} {p : Bs} {rev most : Int} {g : Nat} {out : List Ev} {nx : Int} (hi : AInv s p rev most (g, out, nx)) (he : (sinP s p nx most).2.2 ≠ 0) :
    AEnd n S s p rev most (.ret, ⟨[(8, .ms (n + 3) 1 8 0 0), (9, I (sinP s p nx most).2.2)], [], [S, .rows 8 1 [], .rows 8 g (out.map Ev.c), .rows 8 1 []]⟩) := by
  refine ⟨g, out, .inr ⟨_, ?_, rfl⟩⟩
  have h1 := (allW_err he).2
  have h2 := hi.eq
  simp only at h2
  rw [h1] at h2
  rw [if_neg he] at h2
  exact h2
theorem AEnd.done {n : Nat} {S : Blk} {s : Store} (h : SOk s) {p : Bs} {rev most : Int} {g : Nat} {out : List Ev} {nx : Int} (hi : AInv s p rev most (g, out, nx)) (he : (sinP s p nx most).2.2 = 0) (hd : s.rev < (sinP s p nx most).2.1) (g' : Nat) (out' : List Ev) (hg : g' = if (sinP s p nx most).1 = [] then g else g + 1) (ho : out' = out ++ (sinP s p nx most).1) :
    AEnd n S s p rev most (.ret, ⟨[(8, .ms (n + 2) g' 8 0 out'.length), (9, I 0)], [], [S, .rows 8 1 [], .rows 8 g' (out'.map Ev.c)]⟩) := by
  have h1 := hi.next h he
  obtain ⟨q1, q2, q3⟩ := sinP_ok h he
  have h3 : (sinP s p nx most).2.1 = s.rev + 1 := by have := q2.hi; omega
  refine ⟨g', out', .inl ⟨?_, ?_, rfl⟩⟩
  · rw [hg, ho]; exact h1.g
  · have h2 := h1.eq
    simp only at h2
    rw [h3, allW_end h (h3 ▸ q3)] at h2
    simp only [if_true, List.append_nil] at h2
    rw [ho]; exact h2
theorem app_any {H : List Blk} {S : Blk} {g : Nat} {out ys : List Ev} (hl : out.length + ys.length ≤ 1000) (t : List (Nat × AV)) :
    ∃ W, appV H ⟨t, [], [S, .rows 8 1 [], .rows 8 g (out.map Ev.c)]⟩ 8 80 (.ms (H.length + 2) g 8 0 out.length) (ys.map Ev.c) =
      some (.ms (H.length + 2) (if ys = [] then g else g + 1) 8 0 (out.length + ys.length), ⟨t, [], [S, .rows 8 1 [], .rows 8 (if ys = [] then g else g + 1) (out.map Ev.c ++ ys.map Ev.c)]⟩, W) := by
  by_cases hy : ys = []
  · subst hy; exact ⟨[], by simp -implicitDefEqProofs [appV]⟩
  · rw [if_neg hy]
    have := app_grow (sz := 8) (bytes := 80) (g := g) (xs := out.map Ev.c) (ys := ys.map Ev.c) (by simpa using hy) (by simp; omega) (by simp; omega) H t [] [S, .rows 8 1 []]
    simp only [List.length_map, List.length_cons, List.length_nil, Nat.zero_add, List.cons_append, List.nil_append] at this
    exact ⟨_, this⟩
theorem All_loop {s : Store} (h : SOk s) (p : Bs) (rev most : Int) (H : List Blk) (b : Nat × List Ev × Int) (hb : AInv s p rev most b) :
    ∃ r, AEnd H.length (.cells (s.c.map .g)) s p rev most r ∧ loopE (EvF tab) H L20_0 [1, 3, 4, 10, 11] ⟨[(1, T p), (3, I most), (4, .ptr H.length 0), (10, .ms (H.length + 2) b.1 8 0 b.2.1.length), (11, I b.2.2)], [], [.cells (s.c.map .g), .rows 8 1 [], .rows 8 b.1 (b.2.1.map Ev.c)]⟩ = some r := by
  have hsm : smallS s := by have := h.bl; have := h.ll; unfold smallS; omega
  refine loop_measE (E := EvF tab) (h := H) (c := L20_0) (lv := [1, 3, 4, 10, 11]) (β := Nat × List Ev × Int) (fun b => (s.rev + 1 - b.2.2).toNat) (AInv s p rev most)
    (fun b => ⟨[(1, T p), (3, I most), (4, .ptr H.length 0), (10, .ms (H.length + 2) b.1 8 0 b.2.1.length), (11, I b.2.2)], [], [.cells (s.c.map .g), .rows 8 1 [], .rows 8 b.1 (b.2.1.map Ev.c)]⟩)
    (AEnd H.length (.cells (s.c.map .g)) s p rev most) (fun b hi => ?_) _ b (Nat.le_refl _) hb
  obtain ⟨g, out, nx⟩ := b
  simp only
  have h1 := fun H => Since_ev s p nx most hsm (by have := h.low0; have := h.lowr; omega) (by have := h.revM; omega) h.srt H
  have hll := h.ll
  have hlen := hi.len
  simp only at hlen
  by_cases he : (sinP s p nx most).2.2 = 0
  · have hnx := hi.next h he
    have hdn := fun n S hd => AEnd.done (n := n) (S := S) h hi he hd
    obtain ⟨q1, q2, q3⟩ := sinP_ok h he
    have hlo := q2.lo
    have hsp := congrArg List.length q2.split
    simp only [List.length_append] at hsp
    obtain ⟨rr, hr⟩ : ∃ rr, sinP s p nx most = rr := ⟨_, rfl⟩
    rw [hr] at h1 he hnx hdn hlo hsp
    obtain ⟨l, nx2, e⟩ := rr
    simp only at h1 he hnx hdn hlo hsp
    subst he
    obtain ⟨W, hap⟩ : ∃ W : List (Nat × AV) → List Nat, ∀ t, appV H ⟨t, [], [.cells (s.c.map .g), .rows 8 1 [], .rows 8 g (out.map Ev.c)]⟩ 8 80 (.ms (H.length + 2) g 8 0 out.length) (l.map Ev.c) = some (.ms (H.length + 2) (if l = [] then g else g + 1) 8 0 (out.length + l.length), ⟨t, [], [.cells (s.c.map .g), .rows 8 1 [], .rows 8 (if l = [] then g else g + 1) (out.map Ev.c ++ l.map Ev.c)]⟩, W t) :=
      ⟨fun t => (app_any (by omega) t).choose, fun t => (app_any (by omega) t).choose_spec⟩
    obtain ⟨g2, hg2⟩ : ∃ g2, (if l = [] then g else g + 1) = g2 := ⟨_, rfl⟩
    rw [hg2] at hap hnx
    obtain ⟨a1, a2, a3, a4⟩ := s
    simp only [A, Store.c, List.map_cons, List.map_nil] at h1 hap hdn hlo ⊢
    generalize hq1 : KVs.g a3 = G1 at h1 hap hdn ⊢
    generalize hq2 : Evs.g a4 = G2 at h1 hap hdn ⊢
    have hel : (slOf l).l = l := slOf_l l
    generalize hq3 : slOf l = sl at h1 hel
    by_cases hd : a1 < nx2
    · right
      refine ⟨_, by simp, hdn H.length _ hd g2 (out ++ l) hg2.symm rfl, ?_⟩
      delta L20_0
      simp -implicitDefEqProofs [A, h1, hel, hap, hd]
    · left
      refine ⟨(g2, out ++ l, nx2), ?_, hnx, ?_⟩
      · simp only; omega
      · delta L20_0
        simp -implicitDefEqProofs [A, h1, hel, hap, hd]
  · right
    refine ⟨_, by simp, AEnd.err hi he, ?_⟩
    obtain ⟨rr, hr⟩ : ∃ rr, sinP s p nx most = rr := ⟨_, rfl⟩
    rw [hr] at h1 he ⊢
    obtain ⟨l, nx2, e⟩ := rr
    simp only at h1 he ⊢
    obtain ⟨a1, a2, a3, a4⟩ := s
    simp only [A, Store.c, List.map_cons, List.map_nil] at h1 ⊢
    generalize hq1 : KVs.g a3 = G1 at h1 ⊢
    generalize hq2 : Evs.g a4 = G2 at h1 ⊢
    delta L20_0
    simp -implicitDefEqProofs [A, h1, he]
theorem All2_loop {s : Store} (h : SOk s) (p : Bs) (rev most : Int) (H : List Blk) (b : Nat × List Ev × Int) (hb : AInv s p rev most b) :
    ∃ r, AEnd H.length (.cells (s.c.map .g)) s p rev most r ∧ loopE (EvF tab) H L21_0 [1, 2, 3, 4, 10] ⟨[(1, T p), (2, I b.2.2), (3, I most), (4, .ptr H.length 0), (10, .ms (H.length + 2) b.1 8 0 b.2.1.length)], [], [.cells (s.c.map .g), .rows 8 1 [], .rows 8 b.1 (b.2.1.map Ev.c)]⟩ = some r := by
  have hsm : smallS s := by have := h.bl; have := h.ll; unfold smallS; omega
  refine loop_measE (E := EvF tab) (h := H) (c := L21_0) (lv := [1, 2, 3, 4, 10]) (β := Nat × List Ev × Int) (fun b => (s.rev + 1 - b.2.2).toNat) (AInv s p rev most)
    (fun b => ⟨[(1, T p), (2, I b.2.2), (3, I most), (4, .ptr H.length 0), (10, .ms (H.length + 2) b.1 8 0 b.2.1.length)], [], [.cells (s.c.map .g), .rows 8 1 [], .rows 8 b.1 (b.2.1.map Ev.c)]⟩)
    (AEnd H.length (.cells (s.c.map .g)) s p rev most) (fun b hi => ?_) _ b (Nat.le_refl _) hb
  obtain ⟨g, out, nx⟩ := b
  simp only
  have h1 := fun H => Since2_ev s p nx most hsm (by have := h.low0; have := h.lowr; omega) (by have := h.revM; omega) H
  have hll := h.ll
  have hlen := hi.len
  simp only at hlen
  by_cases he : (sinP s p nx most).2.2 = 0
  · have hnx := hi.next h he
    have hdn := fun n S hd => AEnd.done (n := n) (S := S) h hi he hd
    obtain ⟨q1, q2, q3⟩ := sinP_ok h he
    have hlo := q2.lo
    have hsp := congrArg List.length q2.split
    simp only [List.length_append] at hsp
    obtain ⟨rr, hr⟩ : ∃ rr, sinP s p nx most = rr := ⟨_, rfl⟩
    rw [hr] at h1 he hnx hdn hlo hsp
    obtain ⟨l, nx2, e⟩ := rr
    simp only at h1 he hnx hdn hlo hsp
    subst he
    obtain ⟨W, hap⟩ : ∃ W : List (Nat × AV) → List Nat, ∀ t, appV H ⟨t, [], [.cells (s.c.map .g), .rows 8 1 [], .rows 8 g (out.map Ev.c)]⟩ 8 80 (.ms (H.length + 2) g 8 0 out.length) (l.map Ev.c) = some (.ms (H.length + 2) (if l = [] then g else g + 1) 8 0 (out.length + l.length), ⟨t, [], [.cells (s.c.map .g), .rows 8 1 [], .rows 8 (if l = [] then g else g + 1) (out.map Ev.c ++ l.map Ev.c)]⟩, W t) :=
      ⟨fun t => (app_any (by omega) t).choose, fun t => (app_any (by omega) t).choose_spec⟩
    obtain ⟨g2, hg2⟩ : ∃ g2, (if l = [] then g else g + 1) = g2 := ⟨_, rfl⟩
    rw [hg2] at hap hnx
    obtain ⟨a1, a2, a3, a4⟩ := s
    simp only [A, Store.c, List.map_cons, List.map_nil] at h1 hap hdn hlo ⊢
    generalize hq1 : KVs.g a3 = G1 at h1 hap hdn ⊢
    generalize hq2 : Evs.g a4 = G2 at h1 hap hdn ⊢
    have hel : (slOf l).l = l := slOf_l l
    generalize hq3 : slOf l = sl at h1 hel
    by_cases hd : a1 < nx2
    · right
      refine ⟨_, by simp, hdn H.length _ hd g2 (out ++ l) hg2.symm rfl, ?_⟩
      delta L21_0
      simp -implicitDefEqProofs [A, h1, hel, hap, hd]
    · left
      refine ⟨(g2, out ++ l, nx2), ?_, hnx, ?_⟩
      · simp only; omega
      · delta L21_0
        simp -implicitDefEqProofs [A, h1, hel, hap, hd]
  · right
    refine ⟨_, by simp, AEnd.err hi he, ?_⟩
    obtain ⟨rr, hr⟩ : ∃ rr, sinP s p nx most = rr := ⟨_, rfl⟩
    rw [hr] at h1 he ⊢
    obtain ⟨l, nx2, e⟩ := rr
    simp only at h1 he ⊢
    obtain ⟨a1, a2, a3, a4⟩ := s
    simp only [A, Store.c, List.map_cons, List.map_nil] at h1 ⊢
    generalize hq1 : KVs.g a3 = G1 at h1 ⊢
    generalize hq2 : Evs.g a4 = G2 at h1 ⊢
    delta L21_0
    simp -implicitDefEqProofs [A, h1, he]

theorem All_ev {s : Store} (h : SOk s) (p : Bs) (rev most : Int) (H : List Blk) : EvF tab 20 [A s.c, T p, I rev, I most] H = some ⟨.tup [.g (Evs.g (slOf (allW s p rev most).1)), I (allW s p rev most).2], [], []⟩ := by
  obtain ⟨r, h1, h2⟩ := All_loop h p rev most H (1, [], rev) ⟨by simp, by simp, by simpa using ofP_len _ _ _, by
    simp only [List.nil_append]
    split
    · rename_i hz; rw [← hz]
    · rename_i hz; exact allW_nil hz⟩
  refine EvF_walk t20 (by simp) ?_
  obtain ⟨a1, a2, a3, a4⟩ := s
  simp only [Store.c, List.map_cons, List.map_nil, List.length_nil] at h1 h2
  generalize hq1 : KVs.g a3 = G1 at h1 h2
  generalize hq2 : Evs.g a4 = G2 at h1 h2
  obtain ⟨g, out, ⟨z1, z2, rfl⟩ | ⟨e, z2, rfl⟩⟩ := h1
  · rw [z2]
    have e1 : List.take out.length (List.map Ev.c out) = List.map Ev.c out := List.take_of_length_le (by simp)
    by_cases ho : out = []
    · have hg := z1.2 ho
      subst ho hg
      simp -implicitDefEqProofs [A, Store.c, hq1, hq2, h2, slOf]
    · have hg : ¬ g = 1 := fun h => ho (z1.1 h)
      simp -implicitDefEqProofs [A, Store.c, hq1, hq2, h2, slOf, ho, hg, e1]
  · rw [z2]
    simp -implicitDefEqProofs [A, Store.c, hq1, hq2, h2, slOf]

theorem All2_ev {s : Store} (h : SOk s) (p : Bs) (rev most : Int) (H : List Blk) : EvF tab 21 [A s.c, T p, I rev, I most] H = some ⟨.tup [.g (Evs.g (slOf (allW s p rev most).1)), I (allW s p rev most).2], [], []⟩ := by
  obtain ⟨r, h1, h2⟩ := All2_loop h p rev most H (1, [], rev) ⟨by simp, by simp, by simpa using ofP_len _ _ _, by
    simp only [List.nil_append]
    split
    · rename_i hz; rw [← hz]
    · rename_i hz; exact allW_nil hz⟩
  refine EvF_walk t21 (by simp) ?_
  obtain ⟨a1, a2, a3, a4⟩ := s
  simp only [Store.c, List.map_cons, List.map_nil, List.length_nil] at h1 h2
  generalize hq1 : KVs.g a3 = G1 at h1 h2
  generalize hq2 : Evs.g a4 = G2 at h1 h2
  obtain ⟨g, out, ⟨z1, z2, rfl⟩ | ⟨e, z2, rfl⟩⟩ := h1
  · rw [z2]
    have e1 : List.take out.length (List.map Ev.c out) = List.map Ev.c out := List.take_of_length_le (by simp)
    by_cases ho : out = []
    · have hg := z1.2 ho
      subst ho hg
      simp -implicitDefEqProofs [A, Store.c, hq1, hq2, h2, slOf]
    · have hg : ¬ g = 1 := fun h => ho (z1.1 h)
      simp -implicitDefEqProofs [A, Store.c, hq1, hq2, h2, slOf, ho, hg, e1]
  · rw [z2]
    simp -implicitDefEqProofs [A, Store.c, hq1, hq2, h2, slOf]
end Go.Proofs.Ytibnbcljmfigfaa
