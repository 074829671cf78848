/- What is asked and done: Do, by the program and by the reference. -/
import Derived.Test.YtnbclicefmpkiaaSTxn2
namespace Go.Proofs.Ytnbclicefmpkiaa
open Go Go.AM Go.Proofs
set_option maxRecDepth 20000
set_option maxHeartbeats 4000000
set_option linter.unusedSimpArgs false
set_option linter.unusedVariables false
def listOk (t : Txn) : Bool := decide (t.iff.l.length ≤ 4) && (decide (t.thn.l.length ≤ 4) && decide (t.els.l.length ≤ 4))
def doOk (t : Txn) : Bool := listOk t && allP askOk t.iff.l
def yesP (s : Store) (t : Txn) : Bool := allP (holdsP (nowP s)) t.iff.l
def doL (s : Store) (t : Txn) : Sl Mut := if yesP s t = true then t.thn else t.els
def doS (s : Store) (t : Txn) : Store := if doOk t = true then applyS s (doL s t).l else s
def doY (s : Store) (t : Txn) : Bool := doOk t && (yesP s t && decide (applyE s (doL s t).l = 0))
def doV (s : Store) (t : Txn) : Sl Ev := if doOk t = true then applyV s (doL s t).l else .nil
def doE (s : Store) (t : Txn) : Int := if doOk t = true then applyE s (doL s t).l else 1
theorem runG_ask : ∀ (l : List Cmp) k, runG (γ := Unit) (fun _ (c : Cmp) (_ : Unit) => if askOk c = true then .inl () else .inr ()) k l () = if allP askOk l = true then .inl () else .inr () := by
  intro l
  induction l with
  | nil => intro k; rfl
  | cons c l ih =>
    intro k
    rw [allP_cons]
    cases hh : askOk c
    · simp [runG, hh]
    · simp only [runG, hh, if_true, Bool.true_and]; exact ih _
theorem Do_loop (cs : Sl Cmp) (hc : cs.l.length ≤ 9223372036854775807) (a1 a2 a3 a4 : GV) (q1 q2 q3 q5 : Blk) (b1 b2 b3 b4 : AV) (H : List Blk) :
    ∃ o, loopE (EvF tab) H L24_0 [2, 3, 4, 28, 29, 30] ⟨[(2, .ptr H.length 0), (3, .ptr (H.length + 1) 0), (4, .ptr (H.length + 4) 0), (28, .g (Cmps.g cs)), (29, I cs.l.length), (30, I 0)], [], [.cells [.g a1, .g a2, .g a3, .g a4], q1, q2, q3, .cells [b1, b2, b3, b4], q5]⟩ =
      some (if allP askOk cs.l = true then (.exit 0, ⟨[(2, .ptr H.length 0), (3, .ptr (H.length + 1) 0), (4, .ptr (H.length + 4) 0), (28, .g (Cmps.g cs)), (29, I cs.l.length), (30, I cs.l.length), (31, B false)], [], .cells [.g a1, .g a2, .g a3, .g a4] :: q1 :: q2 :: q3 :: .cells [b1, b2, b3, b4] :: q5 :: o⟩)
        else (.ret, ⟨[(4, .ptr (H.length + 4) 0), (5, B false), (6, .ms (H.length + (o.length + 6)) 1 8 0 0), (7, I 1)], [], .cells [.g a1, .g a2, .g a3, .g a4] :: q1 :: q2 :: q3 :: .cells [.g a1, .g a2, .g a3, .g a4] :: q5 :: (o ++ [.rows 8 1 []])⟩)) := by
  have hq := loop_runJ (E := EvF tab) (h := H) (c := L24_0) (lv := [2, 3, 4, 28, 29, 30]) (l := cs.l) (β := Unit) (γ := Unit) (fun _ _ => True) (fun _ c _ => if askOk c = true then .inl () else .inr ())
    (fun k _ o => ⟨[(2, .ptr H.length 0), (3, .ptr (H.length + 1) 0), (4, .ptr (H.length + 4) 0), (28, .g (Cmps.g cs)), (29, I cs.l.length), (30, I k)], [], .cells [.g a1, .g a2, .g a3, .g a4] :: q1 :: q2 :: q3 :: .cells [b1, b2, b3, b4] :: q5 :: o⟩)
    (fun _ o => (.exit 0, ⟨[(2, .ptr H.length 0), (3, .ptr (H.length + 1) 0), (4, .ptr (H.length + 4) 0), (28, .g (Cmps.g cs)), (29, I cs.l.length), (30, I cs.l.length), (31, B false)], [], .cells [.g a1, .g a2, .g a3, .g a4] :: q1 :: q2 :: q3 :: .cells [b1, b2, b3, b4] :: q5 :: o⟩))
    (fun _ o => (.ret, ⟨[(4, .ptr (H.length + 4) 0), (5, B false), (6, .ms (H.length + (o.length + 6)) 1 8 0 0), (7, I 1)], [], .cells [.g a1, .g a2, .g a3, .g a4] :: q1 :: q2 :: q3 :: .cells [.g a1, .g a2, .g a3, .g a4] :: q5 :: (o ++ [.rows 8 1 []])⟩))
    (by simp) (by simp) (fun k c _ o hk hx hy _ => ?_) (fun _ o _ => by delta L24_0; cases cs <;> simp -implicitDefEqProofs) () [] trivial
  · obtain ⟨o', hq⟩ := hq
    refine ⟨o', ?_⟩
    rw [runG_ask] at hq
    have e0 : ((0 : Nat) : Int) = 0 := rfl
    simp only [e0] at hq
    rw [hq]
    cases allP askOk cs.l <;> rfl
  · have e2 := wrap_succ hk (by omega)
    have h1 := fun H => tmay_ev c H
    delta L24_0
    cases cs with
    | nil => simp at hk
    | of l =>
      simp only [Sl.l_of] at hk hx hy hc ⊢
      generalize askOk c = b at h1 ⊢
      obtain ⟨c1, c2, c3, c4, c5⟩ := c
      simp only [A, Cmp.c, List.map_cons, List.map_nil] at h1
      cases b
      · simp only [Bool.false_eq_true, if_false]
        refine ⟨o ++ [.cells [T c1, I c2, I c3, I c4, T c5]], ?_⟩
        simp -implicitDefEqProofs [hk, hy, Cmp.c, h1]
      · simp only [if_true]
        refine ⟨trivial, o ++ [.cells [T c1, I c2, I c3, I c4, T c5]], ?_⟩
        simp -implicitDefEqProofs [hk, hy, Cmp.c, h1, e2]
theorem mx3_le {a b c : Nat} (h : a ≤ 4 ∧ b ≤ 4 ∧ c ≤ 4) : ¬ (4 : Int) < (if (if a < b then (b : Int) else (a : Int)) < (c : Int) then (c : Int) else if a < b then (b : Int) else (a : Int)) := by
  split <;> split <;> omega
theorem mx3_gt {a b c : Nat} (h : ¬ (a ≤ 4 ∧ b ≤ 4 ∧ c ≤ 4)) : (4 : Int) < (if (if a < b then (b : Int) else (a : Int)) < (c : Int) then (c : Int) else if a < b then (b : Int) else (a : Int)) := by
  by_cases h1 : a < b
  · simp only [if_pos h1]; split <;> omega
  · simp only [if_neg h1]; split <;> omega
theorem Do_ev (s : Store) (t : Txn) (hs : smallS s) (hr : -1 ≤ s.rev ∧ s.rev ≤ 4611686018427387904) (w : t.wf) (H : List Blk) :
    EvF tab 24 [A s.c, A t.c] H = some ⟨.tup [A (doS s t).c, B (doY s t), .g (Evs.g (doV s t)), I (doE s t)], [], []⟩ := by
  have hn := foldP_len s.rev s.log.l s.base.l
  have hs2 := hs
  unfold smallS at hs2
  obtain ⟨⟨w1, w2⟩, ⟨w3, w4⟩, ⟨w5, w6⟩⟩ := w
  have hlp := fun a1 a2 a3 a4 q1 q2 q3 q5 b1 b2 b3 b4 => Do_loop t.iff w2 a1 a2 a3 a4 q1 q2 q3 q5 b1 b2 b3 b4 H
  have m1 := fun H => Now_ev s hs H
  have m2 := fun H => All_ev (foldR s.base s.log.l s.rev) t.iff (by rw [foldR_l]; omega) w2 H
  rw [show (foldR s.base s.log.l s.rev).l = nowP s from foldR_l .., show allP (holdsP (nowP s)) t.iff.l = yesP s t from rfl] at m2
  generalize foldR s.base s.log.l s.rev = N at m1 m2
  have m3 := fun (hl : (doL s t).l.length ≤ 4) H => Apply_ev s (doL s t) hs hr (fun m hm => by
    unfold doL at hm
    split at hm
    · exact (w3 m hm).1
    · exact (w5 m hm).1) (by omega) H
  refine EvF_walk t24 (by simp) ?_
  unfold doS doY doV doE doOk listOk
  obtain ⟨a1, a2, a3, a4, ha⟩ : ∃ a1 a2 a3 a4, s.c = [a1, a2, a3, a4] := ⟨_, _, _, _, rfl⟩
  obtain ⟨b1, b2, b3, b4, hb⟩ : ∃ a1 a2 a3 a4, (applyS s (doL s t).l).c = [a1, a2, a3, a4] := ⟨_, _, _, _, rfl⟩
  by_cases hl : t.iff.l.length ≤ 4 ∧ t.thn.l.length ≤ 4 ∧ t.els.l.length ≤ 4
  · obtain ⟨l1, l2, l3⟩ := hl
    have m3 := m3 (by unfold doL; split <;> assumption)
    have lp := Do_loop t.iff w2 a1 a2 a3 a4 (.cells (t.c.map .g)) (.rows 6 1 []) (.rows 8 1 []) (.rows 8 1 []) (I 0) (I 0) (.ms (H.length + 2) 1 6 0 0) (.ms (H.length + 3) 1 8 0 0) H
    rw [ha] at m1 m3 ⊢
    rw [hb] at m3
    generalize applyE s (doL s t).l = e1 at m3 ⊢
    generalize hv : applyV s (doL s t).l = v at m3 ⊢
    generalize hgv : Evs.g v = gv at m3
    generalize hu : applyS s (doL s t).l = u at m3 hb ⊢
    obtain ⟨o, lp⟩ := lp
    clear hv hu
    unfold doL at m3
    generalize yesP s t = y at m2 m3 ⊢
    obtain ⟨tif, tth, tel⟩ := t
    simp only [Txn.c, List.map_cons, List.map_nil, A] at l1 l2 l3 m1 m2 m3 lp ⊢
    generalize hk : allP askOk tif.l = k at lp ⊢
    have mx := mx3_le ⟨l1, l2, l3⟩
    have i1 : ¬ (4 : Int) < (tif.l.length : Int) := by omega
    have i2 : ¬ (4 : Int) < (tth.l.length : Int) := by omega
    have i3 : ¬ (4 : Int) < (tel.l.length : Int) := by omega
    cases k
    · simp only [Bool.false_eq_true, if_false] at lp
      simp -implicitDefEqProofs [l1, l2, l3, mx, lp, ha]
    · simp only [if_true] at lp
      cases y
      · simp only [Bool.false_eq_true, if_false] at m3
        by_cases he : e1 = 0 <;> simp -implicitDefEqProofs [l1, l2, l3, mx, lp, ha, hb, hgv, m1, m2, m3, he]
      · simp only [if_true] at m3
        by_cases he : e1 = 0 <;> simp -implicitDefEqProofs [l1, l2, l3, mx, lp, ha, hb, hgv, m1, m2, m3, he]
  · rw [ha]
    obtain ⟨tif, tth, tel⟩ := t
    simp only [Txn.c, List.map_cons, List.map_nil, A] at hl ⊢
    have mx := mx3_gt hl
    by_cases l1 : tif.l.length ≤ 4
    · by_cases l2 : tth.l.length ≤ 4
      · by_cases l3 : tel.l.length ≤ 4
        · exact absurd ⟨l1, l2, l3⟩ hl
        · simp -implicitDefEqProofs [l1, l2, l3, ha, mx]
      · simp -implicitDefEqProofs [l1, l2, ha, mx]
    · simp -implicitDefEqProofs [l1, ha, mx]
end Go.Proofs.Ytnbclicefmpkiaa
