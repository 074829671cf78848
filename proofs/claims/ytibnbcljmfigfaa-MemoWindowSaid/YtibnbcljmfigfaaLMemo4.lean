/- The law MemoWindow. -/
import Derived.Test.YtibnbcljmfigfaaPMemo6
namespace Go.Proofs.Ytibnbcljmfigfaa
open Go Go.AM Go.Proofs
set_option maxRecDepth 20000
set_option maxHeartbeats 8000000
set_option linter.unusedSimpArgs false
set_option linter.unusedVariables false
theorem and3 (n : Int) : 0 ≤ andI .i64 n 3 ∧ andI .i64 n 3 ≤ 3 := by
  unfold andI
  have h : (BitVec.ofInt IntKind.i64.bits n &&& BitVec.ofInt IntKind.i64.bits 3).toNat ≤ 3 := by
    rw [BitVec.toNat_and]
    have h3 : (BitVec.ofInt IntKind.i64.bits 3).toNat = 3 := by decide
    rw [h3]
    exact Nat.and_le_right
  rw [wrap_i64 (by omega) (by omega)]
  omega
def winF (w2 : Int) (k : Nat) (x : Int) (b : Int × Memos) : (Int × Memos) ⊕ Unit :=
  if x ≤ b.1 ∨ 1099511627775 < x then .inr () else .inl (x, keepM (keepM b.2 3 x (rv9 (k + 1))) w2 x rep0)
structure WinB (w2 : Int) (a : List Int) (b : Int × Memos) : Prop where
  win : WinI w2 a b.2
  last : 0 ≤ b.1 ∧ ∀ x ∈ a, x ≤ b.1
theorem WinB.next {w2 : Int} {a : List Int} {b : Int × Memos} (h : WinB w2 a b) (hw2 : 4 ≤ w2 ∧ w2 ≤ 7) {x : Int} (hx : ¬ (x ≤ b.1 ∨ 1099511627775 < x)) (hn : a.length ≤ 1000) : WinB w2 (a ++ [x]) (x, keepM (keepM b.2 3 x (rv9 (a.length + 1))) w2 x rep0) := by
  have hl := h.last
  have hlt : ∀ y ∈ a, y < x := fun y hy => by have := hl.2 y hy; omega
  obtain ⟨_, _, _, _, h5⟩ := h.win.next hw2 (q := x) (by omega) (by omega) hlt hn
  refine ⟨h5, by simp only; omega, fun y hy => ?_⟩
  rcases List.mem_append.1 hy with hy | hy
  · exact Int.le_of_lt (hlt y hy)
  · rw [List.mem_singleton] at hy; subst hy; exact Int.le_refl _
theorem winF_run {w2 : Int} (hw2 : 4 ≤ w2 ∧ w2 ≤ 7) : ∀ (l p : List Int) (b : Int × Memos), WinB w2 p b → p.length + l.length ≤ 1000 → (∃ b', runG (winF w2) p.length l b = .inl b' ∧ WinB w2 (p ++ l) b') ∨ runG (winF w2) p.length l b = .inr ()
  | [], p, b, h, _ => .inl ⟨b, rfl, by simpa using h⟩
  | x :: l, p, b, h, hn => by
    unfold runG winF
    rw [List.length_cons] at hn
    by_cases hx : x ≤ b.1 ∨ 1099511627775 < x
    · right; simp [hx]
    · simp only [hx, if_false]
      have := winF_run hw2 l (p ++ [x]) _ (h.next hw2 hx (by omega)) (by simp; omega)
      rw [List.length_append, List.length_cons, List.length_nil, List.append_assoc, List.singleton_append] at this
      exact this
theorem window_loop (l : Sl Int) (oth : Int) (hl : l.l.length ≤ 30) : ∃ o,
    loopE (EvF tab) [] L12_0 [0, 1, 5, 6, 7] ⟨[(0, .g (Ints.g l)), (1, I oth), (5, .ptr 2 0), (6, I 0), (7, I 0)], [], [.rows 11 1 [], .rows 2 1 [], .cells ((Memos.c ⟨.nil, .nil⟩).map .g)]⟩ =
      some (endJ (fun (b : Int × Memos) o => (.exit 0, ⟨[(0, .g (Ints.g l)), (1, I oth), (5, .ptr 2 0), (6, I b.1), (7, I l.l.length), (24, B false)], [], .rows 11 1 [] :: .rows 2 1 [] :: .cells ((Memos.c b.2).map .g) :: o⟩)) (fun (_ : Unit) o => (.ret, ⟨[(4, B true)], [], o⟩)) o (runG (winF (4 + andI .i64 oth 3)) 0 l.l (0, ⟨.nil, .nil⟩))) := by
  have h3 := and3 oth
  obtain ⟨w3, hw3⟩ : ∃ w3, andI .i64 oth 3 = w3 := ⟨_, rfl⟩
  rw [hw3] at h3 ⊢
  refine loop_runJ (E := EvF tab) (h := []) (c := L12_0) (lv := [0, 1, 5, 6, 7]) (l := l.l) (β := Int × Memos) (γ := Unit) (fun k b => WinB (4 + w3) (l.l.take k) b) (winF (4 + w3))
    (fun k b o => ⟨[(0, .g (Ints.g l)), (1, I oth), (5, .ptr 2 0), (6, I b.1), (7, I k)], [], .rows 11 1 [] :: .rows 2 1 [] :: .cells ((Memos.c b.2).map .g) :: o⟩)
    (fun b o => (.exit 0, ⟨[(0, .g (Ints.g l)), (1, I oth), (5, .ptr 2 0), (6, I b.1), (7, I l.l.length), (24, B false)], [], .rows 11 1 [] :: .rows 2 1 [] :: .cells ((Memos.c b.2).map .g) :: o⟩))
    (fun _ o => (.ret, ⟨[(4, B true)], [], o⟩)) (by simp) (by simp) (fun k x b o hk hx hy hi => ?_) (fun _ o _ => by delta L12_0; simp -implicitDefEqProofs) (0, ⟨.nil, .nil⟩) [] ?_
  · have e2 := wrap_succ hk (by omega)
    have htl : (l.l.take k).length = k := by rw [List.length_take]; omega
    unfold winF
    obtain ⟨last, b⟩ := b
    by_cases hc : x ≤ last ∨ 1099511627775 < x
    · simp only [hc, if_true]
      delta L12_0
      cases l with
      | nil => simp at hk
      | of l =>
        simp only [Sl.l_of] at hk hy hl
        refine ⟨.rows 11 1 [] :: .rows 2 1 [] :: .cells ((Memos.c b).map .g) :: o, ?_⟩
        by_cases hc1 : x ≤ last
        · simp -implicitDefEqProofs [hk, hy, hx, Ints.c, hc1, live09]
        · have hc2 : 1099511627775 < x := hc.elim (fun h => absurd h hc1) id
          simp -implicitDefEqProofs [hk, hy, hx, Ints.c, hc1, hc2, live09]
    · simp only [hc, if_false]
      have hnx := hi.next (by omega) (x := x) hc (by rw [htl]; omega)
      have hl0 := hi.last
      obtain ⟨f1, f2, f3, f4, f5⟩ := hi.win.next (by omega) (q := x) (by simp only at hl0; omega) (by omega) (fun y hy => by have := hl0.2 y hy; simp only at this; omega) (by rw [htl]; omega)
      rw [htl] at hnx f2 f3 f4 f5
      have htk : l.l.take (k + 1) = l.l.take k ++ [x] := by rw [List.take_add_one, hx]; rfl
      refine ⟨by rw [htk]; exact hnx, ?_⟩
      have hle := hi.win.len
      rw [htl] at hle
      have k1 := fun H => Keep_ev b 3 x (rv9 (k + 1)) hi.win.wf (by simp only at hle; omega) H
      have k2 := fun H => Keep_ev (keepM b 3 x (rv9 (k + 1))) (4 + w3) x rep0 f2 (by omega) H
      rw [f1] at k1
      rw [f4] at k2
      have hc1 : ¬ x ≤ last := fun h => hc (.inl h)
      have hc2 : ¬ 1099511627775 < x := fun h => hc (.inr h)
      have e3 : IntKind.i64.wrap (4 + w3) = 4 + w3 := wrap_i64 (by omega) (by omega)
      generalize keepM b 3 x (rv9 (k + 1)) = b1 at k1 k2 ⊢
      generalize keepM b1 (4 + w3) x rep0 = b2 at k2 ⊢
      delta L12_0
      cases l with
      | nil => simp at hk
      | of l =>
        simp only [Sl.l_of] at hk hy hl
        simp only [A, Memos.c, rv9, rep0, Reply.c, List.map_cons, List.map_nil, Sl.g_nil, KVs.g, Evs.g] at k1 k2 ⊢
        generalize MemoL.g b.l = G1 at k1 ⊢
        generalize Floors.g b.old = G2 at k1 ⊢
        generalize MemoL.g b1.l = G3 at k1 k2 ⊢
        generalize Floors.g b1.old = G4 at k1 k2 ⊢
        generalize MemoL.g b2.l = G5 at k2 ⊢
        generalize Floors.g b2.old = G6 at k2 ⊢
        refine ⟨o ++ [.cells [.g G3, .g G4], .cells [.g G5, .g G6]], ?_⟩
        simp -implicitDefEqProofs [hk, hy, hx, Ints.c, hc1, hc2, k1, k2, e2, e3, hw3, pends]
  · rw [List.take_zero]
    exact ⟨⟨by simp [Memos.wf], ⟨by simp, by simp, by simp, by simp [seqL], by simp [whosP, whoL, onceL, sortL_nil]⟩, by simp, ⟨List.Pairwise.nil, by simp⟩, ⟨rfl, rfl⟩, ⟨rfl, rfl⟩, by simp [whosP, whoL, onceL, sortL_nil], fun i hi => by simp at hi⟩, by simp, by simp⟩

theorem window_told (l : Sl Int) (w2 : Int) (b : Memos) (h : WinI w2 l.l b) (hl : l.l.length ≤ 30) (R1 R2 : Blk) (o0 : List Blk) : ∃ o,
    loopE (EvF tab) [] L12_1 [0, 5, 12] ⟨[(0, .g (Ints.g l)), (5, .ptr 2 0), (12, I 0)], [], R1 :: R2 :: .cells (b.c.map .g) :: o0⟩ =
      some (.exit 2, ⟨[(0, .g (Ints.g l)), (5, .ptr 2 0), (12, I l.l.length), (78, B false)], [], R1 :: R2 :: .cells (b.c.map .g) :: o⟩) := by
  have hw := loop_runJ (E := EvF tab) (h := []) (c := L12_1) (lv := [0, 5, 12]) (l := l.l) (β := Unit) (γ := Unit) (fun _ _ => True) (fun _ _ _ => .inl ())
    (fun k b2 o => ⟨[(0, .g (Ints.g l)), (5, .ptr 2 0), (12, I k)], [], R1 :: R2 :: .cells (b.c.map .g) :: o⟩)
    (fun b2 o => (.exit 2, ⟨[(0, .g (Ints.g l)), (5, .ptr 2 0), (12, I l.l.length), (78, B false)], [], R1 :: R2 :: .cells (b.c.map .g) :: o⟩))
    (fun _ o => (.ret, ⟨[], [], o⟩)) (by simp) (by simp) (fun k x b2 o hk hx hy hi => ?_) (fun _ o _ => by delta L12_1; simp -implicitDefEqProofs) () o0 trivial
  · obtain ⟨o', hw⟩ := hw
    have hr : ∀ (l : List Int) k, runG (β := Unit) (γ := Unit) (fun _ (_ : Int) _ => .inl ()) k l () = .inl () := by
      intro l
      induction l with
      | nil => intro k; rfl
      | cons x l ih => intro k; unfold runG; exact ih _
    rw [hr] at hw
    exact ⟨o', by simpa only [endJ, Int.ofNat_zero, Int.cast_ofNat_Int] using hw⟩
  · have e2 := wrap_succ hk (by omega)
    have hle := h.len
    have k1 := fun H => Look_ev b 3 x h.wf (by omega) H
    have e4 : IntKind.i64.wrap ((k : Int) + 4) = (k : Int) + 4 := wrap_i64 (by omega) (by omega)
    refine ⟨trivial, ?_⟩
    by_cases h4 : k + 4 < l.l.length
    · have hlk := h.old h4
      rw [hy] at hlk
      rw [hlk] at k1
      have h4I : (k : Int) + 4 < (l.l.length : Int) := by omega
      delta L12_1
      cases l with
      | nil => simp at hk
      | of l =>
        simp only [Sl.l_of] at hk hy hl h4 h4I
        simp only [A, Memos.c, rep0, Reply.c, List.map_cons, List.map_nil, Sl.g_nil, KVs.g, Evs.g] at k1 ⊢
        generalize MemoL.g b.l = G1 at k1 ⊢
        generalize Floors.g b.old = G2 at k1 ⊢
        refine ⟨o ++ [.cells (rep0.c.map .g)], ?_⟩
        simp -implicitDefEqProofs [hk, hy, hx, Ints.c, k1, e2, e4, h4I, pends, rep0, Reply.c, show ¬ (l.length : Int) ≤ (k : Int) + 4 by omega]
    · obtain ⟨r, hlk, hrev⟩ := h.told hk (by omega)
      rw [hy] at hlk
      rw [hlk] at k1
      obtain ⟨r1, r2, r3, r4, r5, r6, r7, r8, r9⟩ := r
      simp only at hrev
      subst hrev
      have h4I : ¬ (k : Int) + 4 < (l.l.length : Int) := by omega
      have h5I : (l.l.length : Int) ≤ (k : Int) + 4 := by omega
      delta L12_1
      cases l with
      | nil => simp at hk
      | of l =>
        simp only [Sl.l_of] at hk hy hl h4 h4I h5I
        simp only [A, Memos.c, Reply.c, List.map_cons, List.map_nil] at k1 ⊢
        generalize MemoL.g b.l = G1 at k1 ⊢
        generalize Floors.g b.old = G2 at k1 ⊢
        refine ⟨o ++ [.cells ((Reply.c ⟨r1, r2, r3, (k : Int) + 1, r5, r6, r7, r8, r9⟩).map .g)], ?_⟩
        simp -implicitDefEqProofs [hk, hy, hx, Ints.c, k1, e2, e4, h4I, h5I, pends, Reply.c]
theorem MemoWindow_law (x0 : Sl Int) (x1 : Int) (w0 : (∀ x ∈ x0.l, I64 x) ∧ x0.l.length ≤ 9223372036854775807) (w1 : I64 x1) : EvF tab 12 [.g (Ints.g x0), I x1] [] = some ⟨.g (.bool true), [], []⟩ := by
  refine EvF_walk t12 (by simp) ?_
  have hlen : ∀ h s, lenV h s (.g (Ints.g x0)) = some x0.l.length := fun h s => lenV_Sl ..
  by_cases hl : x0.l.length ≤ 30
  · have hlI : ¬ (30 : Int) < (x0.l.length : Int) := by omega
    have h3 := and3 x1
    obtain ⟨o, m1⟩ := window_loop x0 x1 hl
    have hB : WinB (4 + andI .i64 x1 3) [] (0, ⟨.nil, .nil⟩) := ⟨⟨by simp [Memos.wf], ⟨by simp, by simp, by simp, by simp [seqL], by simp [whosP, whoL, onceL, sortL_nil]⟩, by simp, ⟨List.Pairwise.nil, by simp⟩, ⟨rfl, rfl⟩, ⟨rfl, rfl⟩, by simp [whosP, whoL, onceL, sortL_nil], fun i hi => by simp at hi⟩, by simp, by simp⟩
    rcases winF_run (w2 := 4 + andI .i64 x1 3) (by omega) x0.l [] _ hB (by simp; omega) with ⟨⟨last, b'⟩, r1, r2⟩ | r1
    · rw [List.length_nil] at r1
      rw [r1] at m1
      simp only [endJ] at m1
      rw [List.nil_append] at r2
      have hwin := r2.win
      simp only at hwin
      obtain ⟨o2, m2⟩ := window_told x0 _ b' hwin hl (.rows 11 1 []) (.rows 2 1 []) o
      have hle := hwin.len
      have m3 := fun H => MMay_ev b' hwin.wf (by omega) H
      rw [mayMe_iff.2 hwin.may] at m3
      simp only [A, Memos.c, List.map_cons, List.map_nil, MemoL.g, Floors.g, Sl.g_nil] at m1 m2 m3
      generalize Sl.g 11 Memo.c b'.l = G6 at m1 m2 m3
      generalize Sl.g 2 Floor.c b'.old = G7 at m1 m2 m3
      generalize Ints.g x0 = G3 at hlen m1 m2 ⊢
      simp -implicitDefEqProofs [live09, hlen, hlI, m1, m2, m3]
    · rw [List.length_nil] at r1
      rw [r1] at m1
      simp only [endJ] at m1
      simp only [Memos.c, List.map_cons, List.map_nil, MemoL.g, Floors.g, Sl.g_nil] at m1
      generalize Ints.g x0 = G3 at hlen m1 ⊢
      simp -implicitDefEqProofs [live09, hlen, hlI, m1]
  · have hlI : (30 : Int) < (x0.l.length : Int) := by omega
    generalize Ints.g x0 = G3 at hlen ⊢
    simp -implicitDefEqProofs [live09, hlen, hlI]
end Go.Proofs.Ytibnbcljmfigfaa
