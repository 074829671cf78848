/- Few memos; memos that are the same; memos that are kept are memos. -/
import Derived.Test.YtibnbcljmfigfaaLLive09
import Derived.Test.YtibnbcljmfigfaaPMemo4
namespace Go.Proofs.Ytibnbcljmfigfaa
open Go Go.AM Go.Proofs
set_option maxRecDepth 20000
set_option maxHeartbeats 8000000
set_option linter.unusedSimpArgs false
set_option linter.unusedVariables false
def fewR (x : Memo) : Bool := (decide ((x.rep.kvs.l.length : Int) ≤ 40) && allP shortKV x.rep.kvs.l) && (decide ((x.rep.events.l.length : Int) ≤ 40) && allP shortEv x.rep.events.l)
def fewM (m : Memos) : Bool := (decide (m.l.l.length ≤ 40) && decide (m.old.l.length ≤ 20)) && allP fewR m.l.l
theorem FewM_ev (m : Memos) (wf : m.wf) (H : List Blk) : EvF tab 30 [A m.c] H = some ⟨B (fewM m), [], []⟩ := by
  obtain ⟨ml, mo⟩ := m
  obtain ⟨⟨w1, w2⟩, ⟨w3, w4⟩⟩ := wf
  simp only at w1 w2 w3 w4
  have hw := loop_all0 (E := EvF tab) (h := H) (c := L30_0) (lv := [1, 3]) (l := ml.l) fewR (fun k => ⟨[(1, .ptr H.length 0), (3, I k)], [], [.cells ((Memos.c ⟨ml, mo⟩).map .g)]⟩) (.exit 0, ⟨[(1, .ptr H.length 0), (3, I ml.l.length), (18, B false)], [], [.cells ((Memos.c ⟨ml, mo⟩).map .g)]⟩) (.ret, ⟨[(2, B false)], [], [.cells ((Memos.c ⟨ml, mo⟩).map .g)]⟩) (by simp) (by simp) (fun k x hk hx hy => ?_) (by delta L30_0; simp -implicitDefEqProofs [Memos.c])
  · refine EvF_walk t30 (by simp) ?_
    unfold fewM
    simp only [Memos.c, List.map_cons, List.map_nil, Int.ofNat_zero, Int.cast_ofNat_Int] at hw
    have hlen : ∀ h s, lenV h s (.g (MemoL.g ml)) = some ml.l.length := fun h s => lenV_Sl ..
    have hlen2 : ∀ h s, lenV h s (.g (Floors.g mo)) = some mo.l.length := fun h s => lenV_Sl ..
    generalize hg1 : MemoL.g ml = G1 at hw hlen
    generalize hg2 : Floors.g mo = G2 at hw hlen2
    by_cases c1 : ml.l.length ≤ 40
    · have c1I : ¬ (40 : Int) < (ml.l.length : Int) := by omega
      by_cases c2 : mo.l.length ≤ 20
      · have c2I : ¬ (20 : Int) < (mo.l.length : Int) := by omega
        cases hs : allP fewR ml.l <;> rw [hs] at hw <;> simp only [Bool.false_eq_true, if_true, if_false] at hw
        · simp -implicitDefEqProofs [A, Memos.c, hg1, hg2, hlen, hlen2, hw, c1, c2, c1I, c2I]
        · simp -implicitDefEqProofs [A, Memos.c, hg1, hg2, hlen, hlen2, hw, c1, c2, c1I, c2I]
      · have c2I : (20 : Int) < (mo.l.length : Int) := by omega
        simp -implicitDefEqProofs [A, Memos.c, hg1, hg2, hlen, hlen2, c1, c2, c1I, c2I]
    · have c1I : (40 : Int) < (ml.l.length : Int) := by omega
      simp -implicitDefEqProofs [A, Memos.c, hg1, hg2, hlen, c1, c1I]
  · have e2 := wrap_succ hk w2
    have hxw := w1 x (List.mem_of_getElem? hx)
    obtain ⟨_, _, r1, r2, r3, r4, r5, r6, ⟨_, r7⟩, ⟨_, r8⟩⟩ := hxw
    have f1 := fun H => Few_ev x.rep.kvs r7 40 H
    have f2 := fun H => FewEvents_ev x.rep.events r8 40 H
    delta L30_0
    unfold fewR
    generalize (decide ((x.rep.kvs.l.length : Int) ≤ 40) && allP shortKV x.rep.kvs.l) = b1 at f1 ⊢
    generalize (decide ((x.rep.events.l.length : Int) ≤ 40) && allP shortEv x.rep.events.l) = b2 at f2 ⊢
    cases ml with
    | nil => simp at hk
    | of l =>
      simp only [Sl.l_of] at hk hy
      obtain ⟨xw, xs, x1, x2, x3, x4, x5, x6, x7, x8, x9⟩ := x
      simp only at f1 f2
      generalize hgk : KVs.g x8 = GK at f1
      generalize hge : Evs.g x9 = GE at f2
      cases b1
      · simp -implicitDefEqProofs [hk, hy, Memos.c, Memo.c, hgk, hge, f1]
      · cases b2
        · simp -implicitDefEqProofs [hk, hy, Memos.c, Memo.c, hgk, hge, f1, f2]
        · simp -implicitDefEqProofs [hk, hy, Memos.c, Memo.c, hgk, hge, f1, f2, e2]
theorem fewM_small {m : Memos} (h : fewM m = true) : m.l.l.length ≤ 40 ∧ m.old.l.length ≤ 20 := by
  unfold fewM at h
  simp only [Bool.and_eq_true, decide_eq_true_eq] at h
  exact ⟨h.1.1, h.1.2⟩
theorem sameRep_self (r : Reply) : sameRep r r := ⟨rfl, rfl, rfl, rfl, rfl, rfl, rfl, rfl, rfl⟩
theorem AlikeS_ev (r : Reply) (wr : r.wf) (H : List Blk) : EvF tab 37 [A r.c, A r.c] H = some ⟨B true, [], []⟩ := Alike_ev r r (sameRep_self r) wr.2.2.2.2.2.2.1.2 wr.2.2.2.2.2.2.2.2 H
theorem SameM_ev (a b : Memos) (h1 : a.l.l = b.l.l) (h2 : a.old.l = b.old.l) (wf : b.wf) (H : List Blk) : EvF tab 38 [A a.c, A b.c] H = some ⟨B true, [], []⟩ := by
  obtain ⟨al, ao⟩ := a
  obtain ⟨bl, bo⟩ := b
  obtain ⟨⟨w1, w2⟩, ⟨w3, w4⟩⟩ := wf
  simp only at h1 h2 w1 w2 w3 w4
  have hw : loopE (EvF tab) H L38_0 [2, 3, 5] ⟨[(2, .ptr H.length 0), (3, .ptr (H.length + 1) 0), (5, I 0)], [], [.cells ((Memos.c ⟨al, ao⟩).map .g), .cells ((Memos.c ⟨bl, bo⟩).map .g)]⟩ =
      some (.exit 0, ⟨[(2, .ptr H.length 0), (3, .ptr (H.length + 1) 0), (5, I bl.l.length), (27, B false)], [], [.cells ((Memos.c ⟨al, ao⟩).map .g), .cells ((Memos.c ⟨bl, bo⟩).map .g)]⟩) := by
    refine loop_cnt bl.l.length (fun k => ⟨[(2, .ptr H.length 0), (3, .ptr (H.length + 1) 0), (5, I k)], [], _⟩) _ (by simp) (fun k hk => ?_) ?_
    · delta L38_0
      have e2 := wrap_succ hk w2
      have hal := fun (hk : k < bl.l.length) H => AlikeS_ev bl.l[k].rep (w1 bl.l[k] (List.getElem_mem hk)).2.2 H
      rcases Sl.both h1 with ⟨l, ⟨rfl, rfl⟩ | ⟨rfl, rfl, rfl⟩ | ⟨rfl, rfl, rfl⟩ | ⟨rfl, rfl, rfl⟩⟩
      · simp only [Sl.l_of] at hk hal
        have hal := hal hk
        obtain ⟨x, hx⟩ : ∃ x, l[k] = x := ⟨_, rfl⟩
        rw [hx] at hal
        obtain ⟨xw, xs, x1, x2, x3, x4, x5, x6, x7, x8, x9⟩ := x
        simp only [A, Reply.c, List.map_cons, List.map_nil] at hal
        simp -implicitDefEqProofs [hk, hx, Memos.c, Memo.c, e2, hal]
      all_goals simp at hk
    · delta L38_0
      rcases Sl.both h1 with ⟨l, ⟨rfl, rfl⟩ | ⟨rfl, rfl, rfl⟩ | ⟨rfl, rfl, rfl⟩ | ⟨rfl, rfl, rfl⟩⟩ <;> simp -implicitDefEqProofs [Memos.c]
  have hw2 : loopE (EvF tab) H L38_1 [2, 3, 6] ⟨[(2, .ptr H.length 0), (3, .ptr (H.length + 1) 0), (6, I 0)], [], [.cells ((Memos.c ⟨al, ao⟩).map .g), .cells ((Memos.c ⟨bl, bo⟩).map .g)]⟩ =
      some (.exit 2, ⟨[(2, .ptr H.length 0), (3, .ptr (H.length + 1) 0), (6, I bo.l.length), (78, B false)], [], [.cells ((Memos.c ⟨al, ao⟩).map .g), .cells ((Memos.c ⟨bl, bo⟩).map .g)]⟩) := by
    refine loop_cnt bo.l.length (fun k => ⟨[(2, .ptr H.length 0), (3, .ptr (H.length + 1) 0), (6, I k)], [], _⟩) _ (by simp) (fun k hk => ?_) ?_
    · delta L38_1
      have e2 := wrap_succ hk w4
      rcases Sl.both h2 with ⟨l, ⟨rfl, rfl⟩ | ⟨rfl, rfl, rfl⟩ | ⟨rfl, rfl, rfl⟩ | ⟨rfl, rfl, rfl⟩⟩
      · simp only [Sl.l_of] at hk
        obtain ⟨x, hx⟩ : ∃ x, l[k] = x := ⟨_, rfl⟩
        simp -implicitDefEqProofs [hk, hx, Memos.c, Floor.c, e2]
      all_goals simp at hk
    · delta L38_1
      rcases Sl.both h2 with ⟨l, ⟨rfl, rfl⟩ | ⟨rfl, rfl, rfl⟩ | ⟨rfl, rfl, rfl⟩ | ⟨rfl, rfl, rfl⟩⟩ <;> simp -implicitDefEqProofs [Memos.c]
  have l1 : ∀ h s, lenV h s (.g (MemoL.g al)) = some bl.l.length := fun h s => by rw [lenV_Sl, h1]
  have l2 : ∀ h s, lenV h s (.g (MemoL.g bl)) = some bl.l.length := fun h s => lenV_Sl ..
  have l3 : ∀ h s, lenV h s (.g (Floors.g ao)) = some bo.l.length := fun h s => by rw [lenV_Sl, h2]
  have l4 : ∀ h s, lenV h s (.g (Floors.g bo)) = some bo.l.length := fun h s => lenV_Sl ..
  refine EvF_walk t38 (by simp) ?_
  simp only [A, Memos.c, List.map_cons, List.map_nil] at hw hw2 ⊢
  generalize MemoL.g al = G1 at hw hw2 l1 ⊢
  generalize MemoL.g bl = G2 at hw hw2 l2 ⊢
  generalize Floors.g ao = G3 at hw hw2 l3 ⊢
  generalize Floors.g bo = G4 at hw hw2 l4 ⊢
  simp -implicitDefEqProofs [hw, hw2, l1, l2, l3, l4]
theorem raiseP_len (w y : Int) : ∀ l : List Floor, (raiseP l w y).length ≤ l.length + 1
  | [] => by simp [raiseP]
  | f :: l => by
    have := raiseP_len w y l
    unfold raiseP
    split <;> simp <;> omega
theorem keepM_len (m : Memos) (w q : Int) (r : Reply) : (keepM m w q r).l.l.length ≤ m.l.l.length + 1 ∧ (keepM m w q r).old.l.length ≤ m.old.l.length + 1 := by
  unfold keepM
  split
  · omega
  · split
    · simp [keepL1]
    · have h1 := raiseP_len w (headI (seqsP (keepL1 m.l.l w q r) w)) m.old.l
      have h2 : (delP (keepL1 m.l.l w q r) w (headI (seqsP (keepL1 m.l.l w q r) w))).length ≤ (keepL1 m.l.l w q r).length := by unfold delP; exact (List.eraseIdx_sublist _ _).length_le
      have h3 : (keepL1 m.l.l w q r).length = m.l.l.length + 1 := by simp [keepL1]
      simp only [Sl.l_of]; omega
theorem keepM_wf {m : Memos} {w q : Int} {r : Reply} (wm : m.wf) (hl : m.l.l.length ≤ 10000 ∧ m.old.l.length ≤ 10000) (ww : I64 w) (wq : I64 q) (wr : r.wf) : (keepM m w q r).wf := by
  have hlen := keepM_len m w q r
  have hL : ∀ x ∈ keepL1 m.l.l w q r, x.wf := fun x hx => by
    unfold keepL1 at hx
    rcases List.mem_append.1 hx with hx | hx
    · exact wm.1.1 x hx
    · rw [List.mem_singleton] at hx; subst hx; exact ⟨ww, wq, wr⟩
  refine ⟨⟨fun x hx => ?_, by omega⟩, ⟨fun f hf => ?_, by omega⟩⟩
  · unfold keepM at hx
    split at hx
    · exact wm.1.1 x hx
    · split at hx
      · exact hL x hx
      · exact hL x ((List.eraseIdx_sublist _ _).subset hx)
  · unfold keepM at hf
    split at hf
    · exact wm.2.1 f hf
    · split at hf
      · exact wm.2.1 f hf
      · rename_i h4
        simp only [Sl.l_of] at hf
        have hne : seqsP (keepL1 m.l.l w q r) w ≠ [] := fun e => by rw [e] at h4; simp at h4
        obtain ⟨x, hx, hp⟩ := head_mem _ w hne
        have hxs := (hL x hx).2.1
        rw [isP_iff] at hp
        have hxe : x.seq = headI (seqsP (keepL1 m.l.l w q r) w) := congrArg Prod.snd hp
        rcases raiseP_mem hf with hf | ⟨g1, g2, g3 | ⟨g, g4, g5, g6⟩⟩
        · exact wm.2.1 f hf
        · exact ⟨g1 ▸ ww, by rw [g3, ← hxe]; exact hxs⟩
        · exact ⟨g1 ▸ ww, by rw [g6]; exact (wm.2.1 g g4).2⟩
end Go.Proofs.Ytibnbcljmfigfaa
