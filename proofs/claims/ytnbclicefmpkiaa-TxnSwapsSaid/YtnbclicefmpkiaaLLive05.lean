/- live() of the laws on stores answers true, behind any blocks. -/
import Derived.Test.YtnbclicefmpkiaaSMvcc8
import Derived.KernelRfl
namespace Go.Proofs.Ytnbclicefmpkiaa
open Go Go.AM Go.Proofs
set_option maxRecDepth 20000
set_option maxHeartbeats 4000000
set_option linter.unusedSimpArgs false
set_option linter.unusedVariables false
theorem New_ev (H : List Blk) : EvF tab 51 [] H = some ⟨A (Store.c ⟨0, 0, .nil, .nil⟩), [], []⟩ := by
  refine EvF_walk t51 (by simp) ?_
  simp -implicitDefEqProofs [A, Store.c]
theorem New0_ev (H : List Blk) : EvF tab 51 [] H = some ⟨A (Store.c ⟨0, 0, .nil, .nil⟩), [], []⟩ := New_ev H
def l5a : Ev := ⟨1, false, ⟨[97], [120], 1, 1, 1, 0⟩⟩
def l5b : Ev := ⟨1, false, ⟨[98], [], 1, 1, 1, 3⟩⟩
def l5c : Ev := ⟨2, false, ⟨[97], [121], 1, 2, 2, 0⟩⟩
def l5d : Ev := ⟨2, true, ⟨[98], [], 1, 1, 1, 3⟩⟩
def l5s : Store := ⟨1, 0, .nil, .of [l5a, l5b]⟩
def l5t : Store := ⟨2, 0, .nil, .of [l5a, l5b, l5c, l5d]⟩
def l5k : Store := ⟨2, 2, .of [l5c.kv], .of []⟩
theorem live05 (H : List Blk) : EvF tab 37 [] H = some ⟨.g (.bool true), [], []⟩ := by
  have m0 := New_ev
  have m1 := fun H => Apply_ev ⟨0, 0, .nil, .nil⟩ (.of [⟨false, [97], [120], 0⟩, ⟨false, [98], [], 3⟩]) (by simp [smallS]) (by simp) (by simp) (by simp) H
  have m2 := fun H => Apply_ev l5s (.of [⟨false, [97], [121], 0⟩, ⟨true, [98], [], 0⟩, ⟨true, [99], [], 0⟩]) (by simp [smallS, l5s]) (by simp [l5s]) (by simp) (by simp) H
  have m3 := fun H => Apply_ev l5t (.of [⟨true, [99], [], 0⟩]) (by simp [smallS, l5t]) (by simp [l5t]) (by simp) (by simp) H
  have m4 := fun H => Apply_ev l5t (.of [⟨false, [], [], 0⟩]) (by simp [smallS, l5t]) (by simp [l5t]) (by simp) (by simp) H
  have m5 := fun H => At_ev l5t 1 (by simp [smallS, l5t]) H
  have m6 := fun H => At_ev l5t 3 (by simp [smallS, l5t]) H
  have m7 := fun H => Shrink_ev l5t 2 (by simp [smallS, l5t]) H
  have m8 := fun H => At_ev l5k 1 (by simp [smallS, l5k]) H
  have m9 := fun H => Now_ev l5k (by simp [smallS, l5k]) H
  have m10 := fun H => SameS_ev l5t l5t ⟨rfl, rfl, rfl, rfl⟩ (by simp [smallS, l5t]) H
  have m11 := fun H => May_ev l5t (by simp [Store.wf, l5t, l5a, l5b, l5c, l5d, Ev.wf, KV.wf, I64, S64]) H
  have m12 := fun H => May_ev l5k (by simp [Store.wf, l5k, l5c, KV.wf, I64, S64]) H
  have m13 := fun H => May_ev ⟨0, 1, .nil, .nil⟩ (by simp [Store.wf, I64]) H
  simp only [show applyS ⟨0, 0, .nil, .nil⟩ (Sl.of [(⟨false, [97], [120], 0⟩ : Mut), ⟨false, [98], [], 3⟩]).l = l5s by kernel_rfl, show applyV ⟨0, 0, .nil, .nil⟩ (Sl.of [(⟨false, [97], [120], 0⟩ : Mut), ⟨false, [98], [], 3⟩]).l = .of [l5a, l5b] by kernel_rfl, show applyE ⟨0, 0, .nil, .nil⟩ (Sl.of [(⟨false, [97], [120], 0⟩ : Mut), ⟨false, [98], [], 3⟩]).l = 0 by kernel_rfl] at m1
  simp only [show applyS l5s (Sl.of [(⟨false, [97], [121], 0⟩ : Mut), ⟨true, [98], [], 0⟩, ⟨true, [99], [], 0⟩]).l = l5t by kernel_rfl, show applyV l5s (Sl.of [(⟨false, [97], [121], 0⟩ : Mut), ⟨true, [98], [], 0⟩, ⟨true, [99], [], 0⟩]).l = .of [l5c, l5d] by kernel_rfl, show applyE l5s (Sl.of [(⟨false, [97], [121], 0⟩ : Mut), ⟨true, [98], [], 0⟩, ⟨true, [99], [], 0⟩]).l = 0 by kernel_rfl] at m2
  simp only [show applyS l5t (Sl.of [(⟨true, [99], [], 0⟩ : Mut)]).l = l5t by kernel_rfl, show applyV l5t (Sl.of [(⟨true, [99], [], 0⟩ : Mut)]).l = .nil by kernel_rfl, show applyE l5t (Sl.of [(⟨true, [99], [], 0⟩ : Mut)]).l = 0 by kernel_rfl] at m3
  simp only [show applyS l5t (Sl.of [(⟨false, [], [], 0⟩ : Mut)]).l = l5t by kernel_rfl, show applyV l5t (Sl.of [(⟨false, [], [], 0⟩ : Mut)]).l = .nil by kernel_rfl, show applyE l5t (Sl.of [(⟨false, [], [], 0⟩ : Mut)]).l = 1 by kernel_rfl] at m4
  simp only [show atR l5t 1 = .of [l5a.kv, l5b.kv] by kernel_rfl, show atE l5t 1 = 0 by kernel_rfl] at m5
  simp only [show atR l5t 3 = .nil by kernel_rfl, show atE l5t 3 = 8 by kernel_rfl] at m6
  simp only [show shrS l5t 2 = l5k by kernel_rfl, show shrE l5t 2 = 0 by kernel_rfl] at m7
  simp only [show atR l5k 1 = .nil by kernel_rfl, show atE l5k 1 = 9 by kernel_rfl] at m8
  simp only [show foldR l5k.base l5k.log.l l5k.rev = .of [l5c.kv] by kernel_rfl] at m9
  simp only [show storeOk l5t = true by kernel_rfl] at m11
  simp only [show storeOk l5k = true by kernel_rfl] at m12
  simp only [show storeOk ⟨0, 1, .nil, .nil⟩ = false by kernel_rfl] at m13
  simp only [A, Store.c, KVs.g, Evs.g, Muts.g, l5s, l5t, l5k, l5a, l5b, l5c, l5d, Sl.g_of, Sl.g_nil, Ev.c, KV.c, Mut.c, List.map_cons, List.map_nil] at m0 m1 m2 m3 m4 m5 m6 m7 m8 m9 m10 m11 m12 m13
  refine EvF_walk t37 (by simp) ?_
  simp -implicitDefEqProofs [m0, m1, m2, m3, m4, m5, m6, m7, m8, m9, m10, m11, m12, m13, chunk]
end Go.Proofs.Ytnbclicefmpkiaa
