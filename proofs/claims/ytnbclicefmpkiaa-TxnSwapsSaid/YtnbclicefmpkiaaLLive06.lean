/- live() of the laws on questions answers true, behind any blocks. -/
import Derived.Test.YtnbclicefmpkiaaSTxn4
import Derived.Test.YtnbclicefmpkiaaLLive05
import Derived.KernelRfl
namespace Go.Proofs.Ytnbclicefmpkiaa
open Go Go.AM Go.Proofs
set_option maxRecDepth 20000
set_option maxHeartbeats 8000000
set_option linter.unusedSimpArgs false
set_option linter.unusedVariables false
def l6e : Ev := ⟨1, false, ⟨[97], [118], 1, 1, 1, 5⟩⟩
def l6f : Ev := ⟨2, true, ⟨[97], [118], 1, 1, 1, 5⟩⟩
def l6s : Store := ⟨1, 0, .nil, .of [l6e]⟩
def l6v : Store := ⟨2, 0, .nil, .of [l6e, l6f]⟩
def l6t : Txn := ⟨.of [⟨[97], 5, 1, 0, []⟩], .nil, .nil⟩
theorem wfPut (k v : Bs) (n : Int) (h1 : S64 k) (h2 : S64 v) (h3 : I64 n) : (txnPut k v n).wf := by
  unfold S64 I64 at *
  refine ⟨⟨fun y hy => ?_, by simp [txnPut]⟩, ⟨fun y hy => ?_, by simp [txnPut]⟩, ⟨fun y hy => by simp [txnPut] at hy, by simp [txnPut]⟩⟩
  · have : y = cmpMade k 0 := by simpa [txnPut] using hy
    subst this; simp [Cmp.wf, cmpMade, S64, I64]; omega
  · have : y = ⟨false, k, v, n⟩ := by simpa [txnPut] using hy
    subst this; simp [Mut.wf, S64, I64]; omega
theorem wfDrop (k : Bs) (n : Int) (h1 : S64 k) (h3 : I64 n) : (txnDrop k n).wf := by
  unfold S64 I64 at *
  refine ⟨⟨fun y hy => ?_, by simp [txnDrop]⟩, ⟨fun y hy => ?_, by simp [txnDrop]⟩, ⟨fun y hy => by simp [txnDrop] at hy, by simp [txnDrop]⟩⟩
  · have : y = cmpMade k n := by simpa [txnDrop] using hy
    subst this; simp [Cmp.wf, cmpMade, S64, I64]; omega
  · have : y = ⟨true, k, [], 0⟩ := by simpa [txnDrop] using hy
    subst this; simp [Mut.wf, S64, I64]; omega
theorem live06 (H : List Blk) : EvF tab 16 [] H = some ⟨.g (.bool true), [], []⟩ := by
  have m0 := New_ev
  have m1 := fun H => Do_ev ⟨0, 0, .nil, .nil⟩ (txnPut [97] [118] 5) (by simp [smallS]) (by simp) (wfPut _ _ _ (by simp [S64]) (by simp [S64]) (by simp [I64])) H
  have m2 := fun H => Do_ev l6s (txnPut [97] [119] 6) (by simp [smallS, l6s]) (by simp [l6s]) (wfPut _ _ _ (by simp [S64]) (by simp [S64]) (by simp [I64])) H
  have m3 := fun H => Do_ev l6s (txnDrop [97] 2) (by simp [smallS, l6s]) (by simp [l6s]) (wfDrop _ _ (by simp [S64]) (by simp [I64])) H
  have m4 := fun H => Do_ev l6s (txnDrop [97] 1) (by simp [smallS, l6s]) (by simp [l6s]) (wfDrop _ _ (by simp [S64]) (by simp [I64])) H
  have m5 := fun H => Do_ev l6v l6t (by simp [smallS, l6v]) (by simp [l6v]) (by simp [Txn.wf, l6t, Cmp.wf, S64, I64]) H
  have m6 := fun H => Now_ev l6s (by simp [smallS, l6s]) H
  have m7 := fun H => SameS_ev l6s l6s ⟨rfl, rfl, rfl, rfl⟩ (by simp [smallS, l6s]) H
  have m8 := fun H => HoldsK_ev (.of [l6e.kv]) ⟨[97], 4, 3, 0, [117]⟩ (by simp) H
  have m9 := fun H => HoldsK_ev (.of [l6e.kv]) ⟨[97], 3, 2, 1, []⟩ (by simp) H
  have m10 := fun H => HoldsK_ev .nil (cmpMade [97] 0) (by simp) H
  have m11 := fun H => All_ev (.of [l6e.kv]) (.of [cmpMade [97] 1, cmpMade [97] 0]) (by simp) (by simp) H
  have m12 := fun H => Absent_ev [97] H
  have m13 := fun H => Made_ev [97] 1 H
  have m14 := fun H => Put_ev [97] [118] 5 H
  have m15 := fun H => Put_ev [97] [119] 6 H
  have m16 := fun H => Drop_ev [97] 2 H
  have m17 := fun H => Drop_ev [97] 1 H
  simp only [show doS ⟨0, 0, .nil, .nil⟩ (txnPut [97] [118] 5) = l6s by kernel_rfl, show doY ⟨0, 0, .nil, .nil⟩ (txnPut [97] [118] 5) = true by kernel_rfl, show doV ⟨0, 0, .nil, .nil⟩ (txnPut [97] [118] 5) = .of [l6e] by kernel_rfl, show doE ⟨0, 0, .nil, .nil⟩ (txnPut [97] [118] 5) = 0 by kernel_rfl] at m1
  simp only [show doS l6s (txnPut [97] [119] 6) = l6s by kernel_rfl, show doY l6s (txnPut [97] [119] 6) = false by kernel_rfl, show doV l6s (txnPut [97] [119] 6) = .nil by kernel_rfl, show doE l6s (txnPut [97] [119] 6) = 0 by kernel_rfl] at m2
  simp only [show doS l6s (txnDrop [97] 2) = l6s by kernel_rfl, show doY l6s (txnDrop [97] 2) = false by kernel_rfl, show doV l6s (txnDrop [97] 2) = .nil by kernel_rfl, show doE l6s (txnDrop [97] 2) = 0 by kernel_rfl] at m3
  simp only [show doS l6s (txnDrop [97] 1) = l6v by kernel_rfl, show doY l6s (txnDrop [97] 1) = true by kernel_rfl, show doV l6s (txnDrop [97] 1) = .of [l6f] by kernel_rfl, show doE l6s (txnDrop [97] 1) = 0 by kernel_rfl] at m4
  simp only [show doS l6v l6t = l6v by kernel_rfl, show doY l6v l6t = false by kernel_rfl, show doV l6v l6t = .nil by kernel_rfl, show doE l6v l6t = 1 by kernel_rfl] at m5
  simp only [show foldR l6s.base l6s.log.l l6s.rev = .of [l6e.kv] by kernel_rfl] at m6
  simp only [show holdsP (Sl.of [l6e.kv]).l ⟨[97], 4, 3, 0, [117]⟩ = true by kernel_rfl] at m8
  simp only [show holdsP (Sl.of [l6e.kv]).l ⟨[97], 3, 2, 1, []⟩ = false by kernel_rfl] at m9
  simp only [show holdsP (Sl.nil : Sl KV).l (cmpMade [97] 0) = true by kernel_rfl] at m10
  simp only [show allP (holdsP (Sl.of [l6e.kv]).l) (Sl.of [cmpMade [97] 1, cmpMade [97] 0]).l = false by kernel_rfl] at m11
  simp only [A, Store.c, KVs.g, Evs.g, Muts.g, Cmps.g, l6s, l6v, l6t, l6e, l6f, cmpMade, txnPut, txnDrop, Txn.c, Sl.g_of, Sl.g_nil, Ev.c, KV.c, Mut.c, Cmp.c, List.map_cons, List.map_nil] at m0 m1 m2 m3 m4 m5 m6 m7 m8 m9 m10 m11 m12 m13 m14 m15 m16 m17
  refine EvF_walk t16 (by simp) ?_
  simp -implicitDefEqProofs [m0, m1, m2, m3, m4, m5, m6, m7, m8, m9, m10, m11, m12, m13, m14, m15, m16, m17, chunk, pends]
end Go.Proofs.Ytnbclicefmpkiaa
