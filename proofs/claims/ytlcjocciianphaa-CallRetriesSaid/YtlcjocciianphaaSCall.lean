/- Calls: what the program's functions answer, and the reference's. -/
import Derived.Test.YtlcjocciianphaaSWire7
namespace Go.Proofs.Ytlcjocciianphaa
open Go Go.AM Go.Proofs
set_option maxRecDepth 20000
set_option maxHeartbeats 1000000
set_option linter.unusedSimpArgs false
set_option linter.unusedVariables false
def pauseN (t : Int) : Int := if t ≤ 0 then 16 else if t = 1 then 32 else if t = 2 then 64 else if t = 3 then 128 else 256
def waitN (t : Int) : Int := if t ≤ 0 then 0 else if t = 1 then 16 else if t = 2 then 48 else if t = 3 then 112 else if t ≤ 1048576 then 256 * t - 784 else 268434672
theorem pauseN_bd (t : Int) : 16 ≤ pauseN t ∧ pauseN t ≤ 256 := by unfold pauseN; repeat' split
                                                                   all_goals omega
theorem waitN_bd (t : Int) : 0 ≤ waitN t ∧ waitN t ≤ 268434672 := by unfold waitN; repeat' split
                                                                     all_goals omega
theorem waitN_succ {t : Int} (h0 : 0 ≤ t) (h1 : t < 1048576) : waitN (t + 1) = waitN t + pauseN t := by
  unfold waitN pauseN
  repeat' split
  all_goals omega
theorem Begin_ev (r : Req) (now : Int) (H : List Blk) : EvF tab 38 [A r.c, I now] H = some ⟨A (Call.c ⟨true, r, now, now, 0⟩), [], []⟩ := by
  refine EvF_walk t38 (by simp) ?_
  simp -implicitDefEqProofs [A, Call.c, Req.c, zres]
theorem Begin2_ev (r : Req) (now : Int) (H : List Blk) : EvF tab 40 [A r.c, I now] H = some ⟨A (Call.c ⟨true, r, now, now, 0⟩), [], []⟩ := by
  refine EvF_walk t40 (by simp) ?_
  simp -implicitDefEqProofs [A, Call.c, Req.c, zres]
theorem Due_ev (c : AM.Call) (now : Int) (H : List Blk) : EvF tab 41 [A c.c, I now] H = some ⟨B (c.on && decide (c.next ≤ now)), [], []⟩ := by
  refine EvF_walk t41 (by simp) ?_
  obtain ⟨on, r, sent, next, tries⟩ := c
  cases on <;> simp -implicitDefEqProofs [A, Call.c, Req.c]
theorem Due2_ev (c : AM.Call) (now : Int) (H : List Blk) : EvF tab 42 [A c.c, I now] H = some ⟨B (c.on && decide (c.next ≤ now)), [], []⟩ := by
  refine EvF_walk t42 (by simp) ?_
  obtain ⟨on, r, sent, next, tries⟩ := c
  cases on <;> simp -implicitDefEqProofs [A, Call.c, Req.c]
theorem Pause_ev (t : Int) (H : List Blk) : EvF tab 43 [I t] H = some ⟨I (pauseN t), [], []⟩ := by
  refine EvF_walk t43 (by simp) ?_
  have w0 : IntKind.u8.wrap 0 = 0 := rfl
  have w1 : IntKind.u8.wrap 1 = 1 := rfl
  have w2 : IntKind.u8.wrap 2 = 2 := rfl
  have w3 : IntKind.u8.wrap 3 = 3 := rfl
  have w4 : IntKind.u8.wrap 4 = 4 := rfl
  have v0 : IntKind.i64.wrap 16 = 16 := rfl
  have v1 : IntKind.i64.wrap 32 = 32 := rfl
  have v2 : IntKind.i64.wrap 64 = 64 := rfl
  have v3 : IntKind.i64.wrap 128 = 128 := rfl
  have v4 : IntKind.i64.wrap 256 = 256 := rfl
  rcases (by omega : t ≤ 0 ∨ t = 1 ∨ t = 2 ∨ t = 3 ∨ t = 4 ∨ 4 < t) with h | rfl | rfl | rfl | rfl | h
  · rcases (by omega : t < 0 ∨ t = 0) with h' | rfl
    · simp -implicitDefEqProofs [pauseN, h, h', w0, v0, IntKind.bits, show (0 : Int) > t by omega]
    · simp -implicitDefEqProofs [pauseN, w0, v0, IntKind.bits]
  · simp -implicitDefEqProofs [pauseN, w1, v1, IntKind.bits]
  · simp -implicitDefEqProofs [pauseN, w2, v2, IntKind.bits]
  · simp -implicitDefEqProofs [pauseN, w3, v3, IntKind.bits]
  · simp -implicitDefEqProofs [pauseN, w4, v4, IntKind.bits]
  · simp -implicitDefEqProofs [pauseN, h, w4, v4, IntKind.bits, show ¬ t < 0 by omega, show ¬ t ≤ 0 by omega, show ¬ t = 1 by omega, show ¬ t = 2 by omega, show ¬ t = 3 by omega]
theorem Pause2_ev (t : Int) (H : List Blk) : EvF tab 44 [I t] H = some ⟨I (pauseN t), [], []⟩ := by
  have v1 : IntKind.i64.wrap 32 = 32 := rfl
  have v2 : IntKind.i64.wrap 64 = 64 := rfl
  have v3 : IntKind.i64.wrap 128 = 128 := rfl
  have v4 : IntKind.i64.wrap 256 = 256 := rfl
  have u1 : IntKind.i64.wrap 1 = 1 := rfl
  have u2 : IntKind.i64.wrap 2 = 2 := rfl
  have u3 : IntKind.i64.wrap 3 = 3 := rfl
  have u4 : IntKind.i64.wrap 4 = 4 := rfl
  have hp0 : pauseN 0 = 16 := rfl
  have hp1 : pauseN 1 = 32 := rfl
  have hp2 : pauseN 2 = 64 := rfl
  have hp3 : pauseN 3 = 128 := rfl
  have hp4 : pauseN 4 = 256 := rfl
  obtain ⟨n, hn, hn2, hn3⟩ : ∃ n : Nat, n ≤ 4 ∧ (n = 4 ∨ t ≤ n) ∧ (n = 0 ∨ (n : Int) ≤ t) := ⟨(min t 4).toNat, by omega, by omega, by omega⟩
  obtain ⟨b, hb⟩ : ∃ b : Bool, b = decide ((n : Int) < t) := ⟨_, rfl⟩
  have hw := loop_cnt (E := EvF tab) (h := H) (c := L44_0) (lv := [0, 3, 4]) n (fun k => ⟨[(0, I t), (3, I (pauseN k)), (4, I k)], [], []⟩) (.exit 0, ⟨[(0, I t), (3, I (pauseN t)), (4, I n), (11, B false)], [], []⟩) (by simp) (fun k hk => by
    delta L44_0
    rcases (by omega : k = 0 ∨ k = 1 ∨ k = 2 ∨ k = 3) with rfl | rfl | rfl | rfl
    · simp -implicitDefEqProofs [hp0, hp1, v1, u1, show (0 : Int) < t by omega]
    · simp -implicitDefEqProofs [hp1, hp2, v2, u2, show (1 : Int) < t by omega]
    · simp -implicitDefEqProofs [hp2, hp3, v3, u3, show (2 : Int) < t by omega]
    · simp -implicitDefEqProofs [hp3, hp4, v4, u4, show (3 : Int) < t by omega]) (by
    delta L44_0
    by_cases h4 : n = 4
    · subst h4
      have hpt : pauseN t = 256 := by
        unfold pauseN
        repeat' split
        all_goals omega
      by_cases h : (4 : Int) < t <;> simp -implicitDefEqProofs [hp4, hpt, h]
    · have hle : t ≤ n := by omega
      have hpt : pauseN t = pauseN n := by
        rcases (by omega : t = n ∨ (n = 0 ∧ t < 0)) with e | ⟨e, h⟩
        · rw [e]
        · subst e; unfold pauseN; rw [if_pos (by omega), if_pos (by simp)]
      rw [hpt]
      simp -implicitDefEqProofs [show ¬ (n : Int) < t by omega])
  have e0 : ((0 : Nat) : Int) = 0 := rfl
  simp only [e0, hp0] at hw
  refine EvF_walk t44 (by simp) ?_
  simp -implicitDefEqProofs [hw]
theorem Wait_ev (t : Int) (H : List Blk) : EvF tab 45 [I t] H = some ⟨I (waitN t), [], []⟩ := by
  refine EvF_walk t45 (by simp) ?_
  have w0 : IntKind.u8.wrap 0 = 0 := rfl
  have w1 : IntKind.u8.wrap 1 = 1 := rfl
  have w2 : IntKind.u8.wrap 2 = 2 := rfl
  have w3 : IntKind.u8.wrap 3 = 3 := rfl
  have w4 : IntKind.u8.wrap 4 = 4 := rfl
  have i (n : Int) (h0 : 0 ≤ n) (h1 : n ≤ 1000000000) : IntKind.i64.wrap n = n := wrap_i64 (by omega) (by omega)
  rcases (by omega : t < 0 ∨ t = 0 ∨ t = 1 ∨ t = 2 ∨ t = 3 ∨ t = 4 ∨ (4 < t ∧ t ≤ 1048576) ∨ 1048576 < t) with h | rfl | rfl | rfl | rfl | rfl | ⟨h, h2⟩ | h
  · simp -implicitDefEqProofs [waitN, h, w0, i, IntKind.bits, show (0 : Int) > t by omega, show t ≤ 0 by omega]
  · simp -implicitDefEqProofs [waitN, w0, i, IntKind.bits]
  · simp -implicitDefEqProofs [waitN, w1, i, IntKind.bits]
  · simp -implicitDefEqProofs [waitN, w2, i, IntKind.bits]
  · simp -implicitDefEqProofs [waitN, w3, i, IntKind.bits]
  · simp -implicitDefEqProofs [waitN, w4, i, IntKind.bits]
  · have e1 : IntKind.i64.wrap (t - 4) = t - 4 := i _ (by omega) (by omega)
    have e2 : IntKind.i64.wrap (256 * (t - 4)) = 256 * (t - 4) := i _ (by omega) (by omega)
    have e3 : IntKind.i64.wrap (240 + 256 * (t - 4)) = 256 * t - 784 := by rw [i _ (by omega) (by omega)]; omega
    have e4 : IntKind.i64.wrap 256 = 256 := rfl
    have e5 : IntKind.i64.wrap 240 = 240 := rfl
    simp -implicitDefEqProofs [waitN, h, h2, w4, e1, e2, e3, e4, e5, IntKind.bits, show ¬ t < 0 by omega, show ¬ t ≤ 0 by omega, show ¬ t = 1 by omega, show ¬ t = 2 by omega, show ¬ t = 3 by omega, show ¬ 1048576 < t by omega]
  · simp -implicitDefEqProofs [waitN, h, w4, i, IntKind.bits, show ¬ t < 0 by omega, show ¬ t ≤ 0 by omega, show ¬ t = 1 by omega, show ¬ t = 2 by omega, show ¬ t = 3 by omega, show ¬ t ≤ 1048576 by omega]
theorem Wait2_ev (t : Int) (H : List Blk) : EvF tab 46 [I t] H = some ⟨I (waitN t), [], []⟩ := by
  obtain ⟨n, hn, hn2, hn3⟩ : ∃ n : Nat, n ≤ 1048576 ∧ (n = 1048576 ∨ t ≤ n) ∧ (n = 0 ∨ (n : Int) ≤ t) := ⟨(min t 1048576).toNat, by omega, by omega, by omega⟩
  have hw := loop_cnt (E := EvF tab) (h := H) (c := L46_0) (lv := [0, 3, 4]) n (fun k => ⟨[(0, I t), (3, I (waitN k)), (4, I k)], [], []⟩) (.exit 0, ⟨[(0, I t), (3, I (waitN t)), (4, I n), (11, B false)], [], []⟩) (by simp) (fun k hk => by
    delta L46_0
    have hp := Pause2_ev (k : Int)
    have b1 := pauseN_bd (k : Int)
    have b2 := waitN_bd (k : Int)
    have e1 : IntKind.i64.wrap ((k : Int) + 1) = (k : Int) + 1 := wrap_i64 (by omega) (by omega)
    have e2 : IntKind.i64.wrap (waitN k + pauseN k) = waitN ((k : Int) + 1) := by rw [wrap_i64 (by omega) (by omega), waitN_succ (by omega) (by omega)]
    simp -implicitDefEqProofs [hp, e1, e2, show (k : Int) < t by omega, show (k : Int) < 1048576 by omega]) (by
    delta L46_0
    have hpt : waitN t = waitN n := by
      rcases (by omega : t = n ∨ (n = 0 ∧ t < 0) ∨ (n = 1048576 ∧ 1048576 < t)) with e | ⟨e, h⟩ | ⟨e, h⟩
      · rw [e]
      · subst e; unfold waitN; rw [if_pos (by omega), if_pos (by simp)]
      · subst e; unfold waitN; repeat' split
        all_goals omega
    rw [hpt]
    by_cases h4 : (n : Int) < t
    · simp -implicitDefEqProofs [h4, show ¬ (n : Int) < 1048576 by omega]
    · simp -implicitDefEqProofs [h4])
  have e0 : ((0 : Nat) : Int) = 0 := rfl
  have e1 : waitN 0 = 0 := rfl
  simp only [e0, e1] at hw
  refine EvF_walk t46 (by simp) ?_
  simp -implicitDefEqProofs [hw]
end Go.Proofs.Ytlcjocciianphaa
