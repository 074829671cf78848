/- live() of the laws on events answers true, behind any blocks; whether a store has few things. -/
import Derived.Test.YtibnbcljmfigfaaSWatch7
import Derived.KernelRfl
namespace Go.Proofs.Ytibnbcljmfigfaa
open Go Go.AM Go.Proofs
set_option maxRecDepth 20000
set_option maxHeartbeats 4000000
set_option linter.unusedSimpArgs false
set_option linter.unusedVariables false
theorem New7_ev (H : List Blk) : EvF tab 45 [] H = some ⟨A (Store.c ⟨0, 0, .nil, .nil⟩), [], []⟩ := by
  refine EvF_walk t45 (by simp) ?_
  simp -implicitDefEqProofs [A, Store.c]
def l7a : Ev := ⟨1, false, ⟨[97], [], 1, 1, 1, 0⟩⟩
def l7b : Ev := ⟨1, false, ⟨[98], [], 1, 1, 1, 0⟩⟩
def l7c : Ev := ⟨2, false, ⟨[97], [], 1, 2, 2, 0⟩⟩
def l7d : Ev := ⟨2, true, ⟨[98], [], 1, 1, 1, 0⟩⟩
def l7e : Ev := ⟨3, false, ⟨[97, 98], [], 3, 3, 1, 0⟩⟩
def l7f : Ev := ⟨3, false, ⟨[99], [], 3, 3, 1, 0⟩⟩
def l7s : Store := ⟨1, 0, .nil, .of [l7a, l7b]⟩
def l7t : Store := ⟨2, 0, .nil, .of [l7a, l7b, l7c, l7d]⟩
def l7u : Store := ⟨3, 0, .nil, .of [l7a, l7b, l7c, l7d, l7e, l7f]⟩
def l7k : Store := ⟨3, 2, .of [l7c.kv], .of [l7e, l7f]⟩
theorem l7u_ok : SOk l7u := storeOk_iff.1 (by kernel_rfl)
theorem l7k_ok : SOk l7k := storeOk_iff.1 (by kernel_rfl)
theorem live07 (H : List Blk) : EvF tab 15 [] H = some ⟨.g (.bool true), [], []⟩ := by
  have m0 := New7_ev
  have m1 := fun H => Apply_ev ⟨0, 0, .nil, .nil⟩ (.of [⟨false, [97], [], 0⟩, ⟨false, [98], [], 0⟩]) (by simp [smallS]) (by simp) (by simp) (by simp) H
  have m2 := fun H => Apply_ev l7s (.of [⟨false, [97], [], 0⟩, ⟨true, [98], [], 0⟩]) (by simp [smallS, l7s]) (by simp [l7s]) (by simp) (by simp) H
  have m3 := fun H => Apply_ev l7t (.of [⟨false, [97, 98], [], 0⟩, ⟨false, [99], [], 0⟩]) (by simp [smallS, l7t]) (by simp [l7t]) (by simp) (by simp) H
  have m4 := fun H => Since_ev l7u [] 1 5 (by simp [smallS, l7u]) (by simp [l7u]) (by simp [l7u]) l7u_ok.srt H
  have m5 := fun H => Since_ev l7u [97] 2 5 (by simp [smallS, l7u]) (by simp [l7u]) (by simp [l7u]) l7u_ok.srt H
  have m6 := fun H => Since_ev l7u [] 1 1 (by simp [smallS, l7u]) (by simp [l7u]) (by simp [l7u]) l7u_ok.srt H
  have m7 := fun H => Since_ev l7u [] 5 1 (by simp [smallS, l7u]) (by simp [l7u]) (by simp [l7u]) l7u_ok.srt H
  have m8 := fun H => All_ev l7u_ok [] 1 2 H
  have m9 := fun H => Now_ev l7s (by simp [smallS, l7s]) H
  have m10 := fun H => View_ev (.of [l7a.kv, l7b.kv]) (.of [l7c, l7e]) (by simp) H
  have m11 := fun H => Shrink_ev l7u 2 (by simp [smallS, l7u]) H
  have m12 := fun H => Since_ev l7k [] 2 5 (by simp [smallS, l7k]) (by simp [l7k]) (by simp [l7k]) l7k_ok.srt H
  simp only [show applyS ⟨0, 0, .nil, .nil⟩ (Sl.of [(⟨false, [97], [], 0⟩ : Mut), ⟨false, [98], [], 0⟩]).l = l7s by kernel_rfl, show applyV ⟨0, 0, .nil, .nil⟩ (Sl.of [(⟨false, [97], [], 0⟩ : Mut), ⟨false, [98], [], 0⟩]).l = .of [l7a, l7b] by kernel_rfl, show applyE ⟨0, 0, .nil, .nil⟩ (Sl.of [(⟨false, [97], [], 0⟩ : Mut), ⟨false, [98], [], 0⟩]).l = 0 by kernel_rfl] at m1
  simp only [show applyS l7s (Sl.of [(⟨false, [97], [], 0⟩ : Mut), ⟨true, [98], [], 0⟩]).l = l7t by kernel_rfl, show applyV l7s (Sl.of [(⟨false, [97], [], 0⟩ : Mut), ⟨true, [98], [], 0⟩]).l = .of [l7c, l7d] by kernel_rfl, show applyE l7s (Sl.of [(⟨false, [97], [], 0⟩ : Mut), ⟨true, [98], [], 0⟩]).l = 0 by kernel_rfl] at m2
  simp only [show applyS l7t (Sl.of [(⟨false, [97, 98], [], 0⟩ : Mut), ⟨false, [99], [], 0⟩]).l = l7u by kernel_rfl, show applyV l7t (Sl.of [(⟨false, [97, 98], [], 0⟩ : Mut), ⟨false, [99], [], 0⟩]).l = .of [l7e, l7f] by kernel_rfl, show applyE l7t (Sl.of [(⟨false, [97, 98], [], 0⟩ : Mut), ⟨false, [99], [], 0⟩]).l = 0 by kernel_rfl] at m3
  simp only [show sinP l7u [] 1 5 = ([l7a, l7b, l7c, l7d], 3, 0) by kernel_rfl] at m4
  simp only [show sinP l7u [97] 2 5 = ([l7c, l7e], 4, 0) by kernel_rfl] at m5
  simp only [show sinP l7u [] 1 1 = ([], 0, 4) by kernel_rfl] at m6
  simp only [show sinP l7u [] 5 1 = ([], 0, 8) by kernel_rfl] at m7
  simp only [show allW l7u [] 1 2 = ([l7a, l7b, l7c, l7d, l7e, l7f], 0) by kernel_rfl] at m8
  simp only [show foldR l7s.base l7s.log.l l7s.rev = .of [l7a.kv, l7b.kv] by kernel_rfl] at m9
  simp only [show viewR (.of [l7a.kv, l7b.kv]) (Sl.of [l7c, l7e]).l = .of [l7c.kv, l7e.kv, l7b.kv] by kernel_rfl] at m10
  simp only [show shrS l7u 2 = l7k by kernel_rfl, show shrE l7u 2 = 0 by kernel_rfl] at m11
  simp only [show sinP l7k [] 2 5 = ([], 0, 9) by kernel_rfl] at m12
  simp only [A, Store.c, KVs.g, Evs.g, Muts.g, slOf, l7s, l7t, l7u, l7k, l7a, l7b, l7c, l7d, l7e, l7f, Sl.g_of, Sl.g_nil, Ev.c, KV.c, Mut.c, List.map_cons, List.map_nil, reduceCtorEq, if_true, if_false] at m0 m1 m2 m3 m4 m5 m6 m7 m8 m9 m10 m11 m12
  refine EvF_walk t15 (by simp) ?_
  simp -implicitDefEqProofs [m0, m1, m2, m3, m4, m5, m6, m7, m8, m9, m10, m11, m12, chunk]
def few7 (s : Store) (p : Bs) : Bool := (fewS s && storeOk s) && decide (p.length ≤ 60)
theorem few7_ev (s : Store) (p : Bs) (w : s.wf) (H : List Blk) : EvF tab 14 [A s.c, T p] H = some ⟨B (few7 s p), [], []⟩ := by
  have m0 := fun H => FewS_ev s w H
  have m1 := fun H => May2_ev s w H
  refine EvF_walk t14 (by simp) ?_
  unfold few7
  obtain ⟨a1, a2, a3, a4⟩ := s
  generalize fewS ⟨a1, a2, a3, a4⟩ = b1 at m0 ⊢
  generalize storeOk ⟨a1, a2, a3, a4⟩ = b2 at m1 ⊢
  simp only [A, Store.c, List.map_cons, List.map_nil] at m0 m1 ⊢
  generalize KVs.g a3 = G1 at m0 m1 ⊢
  generalize Evs.g a4 = G2 at m0 m1 ⊢
  cases b1
  · simp -implicitDefEqProofs [m0]
  cases b2
  · simp -implicitDefEqProofs [m0, m1]
  by_cases hp : p.length ≤ 60
  · simp -implicitDefEqProofs [m0, m1, hp]; try omega
  · simp -implicitDefEqProofs [m0, m1, hp]; try omega
theorem few7_ok {s : Store} {p : Bs} (h : few7 s p = true) : SOk s ∧ smallS s ∧ s.base.l.length ≤ 40 ∧ s.log.l.length ≤ 70 := by
  unfold few7 at h
  simp only [Bool.and_eq_true] at h
  exact ⟨storeOk_iff.1 h.1.2, fewS_smallS h.1.1, fewS_small h.1.1⟩
end Go.Proofs.Ytibnbcljmfigfaa
