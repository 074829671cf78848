/- The laws CallTells and CallPauses. -/
import Derived.Test.YtlcjocciianphaaLLive13
namespace Go.Proofs.Ytlcjocciianphaa
open Go Go.AM Go.Proofs
set_option maxRecDepth 20000
set_option maxHeartbeats 2000000
set_option linter.unusedSimpArgs false
set_option linter.unusedVariables false
theorem CallTells_law (x0 : Req) (x1 x2 : Int) (w0 : x0.wf) (w1 : I64 x1) (w2 : I64 x2) : EvF tab 9 [A x0.c, I x1, I x2] [] = some ⟨.g (.bool true), [], []⟩ := by
  have m1 := fun H => Short_ev x0 w0 H
  have m2 := fun H => Begin_ev x0 x1 H
  have m3 := fun H => Begin2_ev x0 x1 H
  have wc : AM.Call.wf ⟨true, x0, x1, x1, 0⟩ := ⟨w0, w1, w1, I64_of (by simp only; omega) (by simp only; omega)⟩
  have m4 := fun H => Same13_ev ⟨true, x0, x1, x1, 0⟩ wc H
  have m5 := fun H => Due_ev ⟨true, x0, x1, x1, 0⟩ x2 H
  have m6 := fun H => Due2_ev ⟨true, x0, x1, x1, 0⟩ x2 H
  have m7 := fun H => Pause_ev x2 H
  have m8 := fun H => Pause2_ev x2 H
  have m9 := fun H => Wait_ev x2 H
  have m10 := fun H => Wait2_ev x2 H
  refine EvF_walk t9 (by simp) ?_
  generalize shortReq x0 = b at m1
  generalize pauseN x2 = pn at m7 m8
  generalize waitN x2 = wn at m9 m10
  simp only [Bool.true_and] at m5 m6
  generalize decide (x1 ≤ x2) = dd at m5 m6
  simp only [A, Call.c, Req.c, List.map_cons, List.map_nil, List.cons_append, List.nil_append] at m1 m2 m3 m4 m5 m6
  cases b
  · simp -implicitDefEqProofs [A, Req.c, m1, live13]
  · by_cases h : 2000 < x2
    · simp -implicitDefEqProofs [A, Req.c, m1, h, live13]
    · cases dd <;> simp -implicitDefEqProofs [A, Req.c, zres, m1, h, m2, m3, m4, m5, m6, m7, m8, m9, m10, live13]
theorem Pauses_loop (t : Int) (h0 : 0 ≤ t) (h1 : t ≤ 100) : loopE (EvF tab) [] L13_0 [0, 3, 4] ⟨[(0, I t), (3, I 0), (4, I 0)], [], []⟩ = some (.exit 0, ⟨[(0, I t), (3, I (waitN t)), (4, I t), (15, B false)], [], []⟩) := by
  obtain ⟨n, rfl⟩ : ∃ n : Nat, t = n := ⟨t.toNat, by omega⟩
  have hw := loop_cnt (E := EvF tab) (h := []) (c := L13_0) (lv := [0, 3, 4]) n (fun k => ⟨[(0, I n), (3, I (waitN k)), (4, I k)], [], []⟩) (.exit 0, ⟨[(0, I n), (3, I (waitN n)), (4, I n), (15, B false)], [], []⟩) (by simp) (fun k hk => by
    delta L13_0
    have m1 := fun H => Pause_ev (k : Int) H
    have m2 := fun H => Wait_ev (k : Int) H
    have m3 := fun H => Pause_ev ((k : Int) - 1) H
    have b1 := pauseN_bd (k : Int)
    have b2 := waitN_bd (k : Int)
    have b3 := pauseN_bd ((k : Int) - 1)
    have e1 : IntKind.i64.wrap ((k : Int) + 1) = (k : Int) + 1 := wrap_i64 (by omega) (by omega)
    have e2 : IntKind.i64.wrap (waitN k + pauseN k) = waitN ((k : Int) + 1) := by rw [wrap_i64 (by omega) (by omega), waitN_succ (by omega) (by omega)]
    have e3 : IntKind.i64.wrap ((k : Int) - 1) = (k : Int) - 1 := wrap_i64 (by omega) (by omega)
    have e4 : IntKind.i64.wrap (2 * pauseN ((k : Int) - 1)) = 2 * pauseN ((k : Int) - 1) := wrap_i64 (by omega) (by omega)
    have c1 : ¬ pauseN (k : Int) < 16 := by omega
    have c2 : ¬ 256 < pauseN (k : Int) := by omega
    by_cases hk0 : k = 0
    · subst hk0
      have p0 : pauseN 0 = 16 := rfl
      have q0 : waitN 0 = 0 := rfl
      have q1 : waitN 1 = 16 := rfl
      have u1 : IntKind.i64.wrap 1 = 1 := rfl
      have u2 : IntKind.i64.wrap 16 = 16 := rfl
      simp only [show ((0 : Nat) : Int) = 0 from rfl, p0, q0] at m1 m2
      simp -implicitDefEqProofs [m1, m2, p0, q0, q1, u1, u2, show (0 : Int) < n by omega, show ¬ n = 0 by omega]
    · have hk1 : (0 : Int) < k := by omega
      have hmin : (if 256 < 2 * pauseN ((k : Int) - 1) then 256 else 2 * pauseN ((k : Int) - 1)) = pauseN k := by
        unfold pauseN
        repeat' split
        all_goals omega
      have hk2 : ¬ (k : Int) = 0 := by omega
      generalize pauseN (k : Int) = pk at m1 e2 c1 c2 hmin b1
      generalize pauseN ((k : Int) - 1) = pk1 at m3 e4 hmin b3
      simp -implicitDefEqProofs [m1, m2, m3, e1, e2, e3, e4, c1, c2, hk1, hk2, hk0, hmin, show (k : Int) < n by omega]) (by delta L13_0; simp -implicitDefEqProofs)
  have e0 : ((0 : Nat) : Int) = 0 := rfl
  have e1 : waitN 0 = 0 := rfl
  simp only [e0, e1] at hw
  exact hw
theorem CallPauses_law (x0 : Int) (w0 : I64 x0) : EvF tab 13 [I x0] [] = some ⟨.g (.bool true), [], []⟩ := by
  refine EvF_walk t13 (by simp) ?_
  by_cases h0 : x0 < 0
  · simp -implicitDefEqProofs [h0, live13]
  · by_cases h1 : 100 < x0
    · simp -implicitDefEqProofs [h0, h1, live13]
    · have hw := Pauses_loop x0 (by omega) (by omega)
      have m := fun H => Wait_ev x0 H
      simp -implicitDefEqProofs [h0, h1, hw, m, live13]
end Go.Proofs.Ytlcjocciianphaa
