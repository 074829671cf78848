/- live() of the laws on memos answers true, behind any blocks. -/
import Derived.Test.YtibnbcljmfigfaaSMemo9
import Derived.Test.YtibnbcljmfigfaaSAlike
import Derived.KernelRfl
namespace Go.Proofs.Ytibnbcljmfigfaa
open Go Go.AM Go.Proofs
set_option maxRecDepth 20000
set_option maxHeartbeats 8000000
set_option linter.unusedSimpArgs false
set_option linter.unusedVariables false
def sortQ (l : List Int) : List Int := l.foldl (fun s n => insL n s) []
theorem sortL_c (l : List Int) : sortL l = sortQ l := by
  have := insL_fold l []
  rw [sortL_nil, List.nil_append] at this
  exact this.symm
def lookC (l : List Memo) (old : List Floor) (w s : Int) : Reply × Bool × Int :=
  match lookF l w s with
  | some x => (x.rep, true, 0)
  | none => if s ≤ floorP old w then (rep0, false, 7) else if 8 ≤ (sortQ (whoL l old)).length ∧ w ∉ sortQ (whoL l old) then (rep0, false, 4) else (rep0, false, 0)
theorem lookP_c (l : List Memo) (old : List Floor) (w s : Int) : lookP l old w s = lookC l old w s := by
  unfold lookP lookC whosP
  rw [sortL_c]
  cases lookF l w s <;> rfl
def keepC (m : Memos) (w q : Int) (r : Reply) : Memos :=
  if (lookC m.l.l m.old.l w q).2.1 = true ∨ (lookC m.l.l m.old.l w q).2.2 ≠ 0 then m else
  if (sortQ (seqL (keepL1 m.l.l w q r) w)).length ≤ 4 then ⟨.of (keepL1 m.l.l w q r), m.old⟩ else
    ⟨.of (delP (keepL1 m.l.l w q r) w (headI (sortQ (seqL (keepL1 m.l.l w q r) w)))), .of (raiseP m.old.l w (headI (sortQ (seqL (keepL1 m.l.l w q r) w))))⟩
theorem keepM_c (m : Memos) (w q : Int) (r : Reply) : keepM m w q r = keepC m w q r := by
  unfold keepM keepC seqsP
  rw [lookP_c, sortL_c]
def mayC (l : List Memo) (old : List Floor) : Bool := match goFl old [] with | some F => goMe F l [] [] && decide ((sortQ (whoL l old)).length ≤ 8) | none => false
theorem mayMe_c (l : List Memo) (old : List Floor) : mayMe l old = mayC l old := by
  unfold mayMe mayC whosP
  rw [sortL_c]
  cases goFl old [] <;> rfl
def rv9 (i : Int) : Reply := ⟨0, 0, 0, i, 0, 0, false, .nil, .nil⟩
def m90 : Memos := ⟨.nil, .nil⟩
def m91 : Memos := ⟨.of [⟨7, 1, rv9 1⟩], .nil⟩
def m92 : Memos := ⟨.of [⟨7, 1, rv9 1⟩, ⟨7, 2, rv9 2⟩], .nil⟩
def m93 : Memos := ⟨.of [⟨7, 1, rv9 1⟩, ⟨7, 2, rv9 2⟩, ⟨7, 3, rv9 3⟩], .nil⟩
def m94 : Memos := ⟨.of [⟨7, 1, rv9 1⟩, ⟨7, 2, rv9 2⟩, ⟨7, 3, rv9 3⟩, ⟨7, 4, rv9 4⟩], .nil⟩
def m95 : Memos := ⟨.of [⟨7, 2, rv9 2⟩, ⟨7, 3, rv9 3⟩, ⟨7, 4, rv9 4⟩, ⟨7, 5, rv9 5⟩], .of [⟨7, 1⟩]⟩
def m96 : Memos := ⟨.nil, .of [⟨1, 0⟩, ⟨1, 0⟩]⟩
theorem w9 : m90.wf ∧ m91.wf ∧ m92.wf ∧ m93.wf ∧ m94.wf ∧ m95.wf ∧ m96.wf := by
  simp [Memos.wf, m90, m91, m92, m93, m94, m95, m96, Memo.wf, Floor.wf, Reply.wf, rv9, I64]
theorem live09 (H : List Blk) : EvF tab 32 [] H = some ⟨.g (.bool true), [], []⟩ := by
  obtain ⟨w0, w1, w2, w3, w4, w5, w6⟩ := w9
  have k1 := fun H => Keep_ev m90 7 1 (rv9 1) w0 (by simp [m90]) H
  have k2 := fun H => Keep_ev m91 7 2 (rv9 2) w1 (by simp [m91]) H
  have k3 := fun H => Keep_ev m92 7 3 (rv9 3) w2 (by simp [m92]) H
  have k4 := fun H => Keep_ev m93 7 4 (rv9 4) w3 (by simp [m93]) H
  have k5 := fun H => Keep_ev m94 7 5 (rv9 5) w4 (by simp [m94]) H
  have k6 := fun H => Keep_ev m95 7 3 rep0 w5 (by simp [m95]) H
  have a1 := fun H => Look_ev m95 7 3 w5 (by simp [m95]) H
  have a2 := fun H => Look_ev m95 7 1 w5 (by simp [m95]) H
  have a3 := fun H => Look_ev m95 7 6 w5 (by simp [m95]) H
  have a4 := fun H => Seqs_ev m95 7 (by simp [m95]) H
  have a5 := fun H => Whos_ev m95 w5 (by simp [m95]) H
  have a6 := fun H => Floor_ev m95 7 (by simp [m95]) H
  have a7 := fun H => Floor_ev m95 8 (by simp [m95]) H
  have a8 := fun H => MMay_ev m95 w5 (by simp [m95]) H
  have a9 := fun H => MMay_ev m96 w6 (by simp [m96]) H
  unfold keepE at k1 k2 k3 k4 k5 k6
  unfold seqsP at a4
  unfold whosP at a5
  simp only [lookP_c, keepM_c, sortL_c, mayMe_c] at k1 k2 k3 k4 k5 k6 a1 a2 a3 a4 a5 a8 a9
  simp only [show keepC m90 7 1 (rv9 1) = m91 by kernel_rfl, show lookC m90.l.l m90.old.l 7 1 = (rep0, false, 0) by kernel_rfl] at k1
  simp only [show keepC m91 7 2 (rv9 2) = m92 by kernel_rfl, show lookC m91.l.l m91.old.l 7 2 = (rep0, false, 0) by kernel_rfl] at k2
  simp only [show keepC m92 7 3 (rv9 3) = m93 by kernel_rfl, show lookC m92.l.l m92.old.l 7 3 = (rep0, false, 0) by kernel_rfl] at k3
  simp only [show keepC m93 7 4 (rv9 4) = m94 by kernel_rfl, show lookC m93.l.l m93.old.l 7 4 = (rep0, false, 0) by kernel_rfl] at k4
  simp only [show keepC m94 7 5 (rv9 5) = m95 by kernel_rfl, show lookC m94.l.l m94.old.l 7 5 = (rep0, false, 0) by kernel_rfl] at k5
  simp only [show keepC m95 7 3 rep0 = m95 by kernel_rfl, show lookC m95.l.l m95.old.l 7 3 = (rv9 3, true, 0) by kernel_rfl] at k6 a1
  simp only [show lookC m95.l.l m95.old.l 7 1 = (rep0, false, 7) by kernel_rfl] at a2
  simp only [show lookC m95.l.l m95.old.l 7 6 = (rep0, false, 0) by kernel_rfl] at a3
  simp only [show sortQ (seqL m95.l.l 7) = [2, 3, 4, 5] by kernel_rfl] at a4
  simp only [show sortQ (whoL m95.l.l m95.old.l) = [7] by kernel_rfl] at a5
  simp only [show floorP m95.old.l 7 = 1 by kernel_rfl] at a6
  simp only [show floorP m95.old.l 8 = -1 by kernel_rfl] at a7
  simp only [show mayC m95.l.l m95.old.l = true by kernel_rfl] at a8
  simp only [show mayC m96.l.l m96.old.l = false by kernel_rfl] at a9
  simp only [A, Memos.c, m90, m91, m92, m93, m94, m95, m96, MemoL.g, Floors.g, Ints.g, slOf, Sl.g_of, Sl.g_nil, Memo.c, Floor.c, Reply.c, rv9, rep0, KVs.g, Evs.g, Ints.c, List.map_cons, List.map_nil, reduceCtorEq, if_true, if_false, Bool.false_eq_true] at k1 k2 k3 k4 k5 k6 a1 a2 a3 a4 a5 a6 a7 a8 a9
  refine EvF_walk t32 (by simp) ?_
  simp -implicitDefEqProofs
  rw [loopE_step (c := L32_0) (by delta L32_0; rfl)]
  simp -implicitDefEqProofs [k1, show IntKind.i64.wrap 2 = 2 from rfl]
  rw [loopE_step (c := L32_0) (by delta L32_0; rfl)]
  simp -implicitDefEqProofs [k2, show IntKind.i64.wrap 3 = 3 from rfl]
  rw [loopE_step (c := L32_0) (by delta L32_0; rfl)]
  simp -implicitDefEqProofs [k3, show IntKind.i64.wrap 4 = 4 from rfl]
  rw [loopE_step (c := L32_0) (by delta L32_0; rfl)]
  simp -implicitDefEqProofs [k4, show IntKind.i64.wrap 5 = 5 from rfl]
  rw [loopE_step (c := L32_0) (by delta L32_0; rfl)]
  simp -implicitDefEqProofs [k5, show IntKind.i64.wrap 6 = 6 from rfl]
  rw [loopE_step (c := L32_0) (by delta L32_0; rfl)]
  simp -implicitDefEqProofs [k6, a1, a2, a3, a4, a5, a6, a7, a8, a9, chunk]
end Go.Proofs.Ytibnbcljmfigfaa
