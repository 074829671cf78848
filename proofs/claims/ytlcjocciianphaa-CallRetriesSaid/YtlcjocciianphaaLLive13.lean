/- live() of the laws on calls answers true, behind any blocks. -/
import Derived.Test.YtlcjocciianphaaSCall2
import Derived.Test.YtlcjocciianphaaSShort
import Derived.Test.YtlcjocciianphaaSFew
namespace Go.Proofs.Ytlcjocciianphaa
open Go Go.AM Go.Proofs
set_option maxRecDepth 20000
set_option maxHeartbeats 1000000
set_option linter.unusedSimpArgs false
set_option linter.unusedVariables false
theorem encN_small (n : Int) (h : n.toNat < 128) : encN n = [UInt8.ofNat n.toNat] := by
  unfold encN varB
  rw [varI, varL, if_pos h, if_pos h]; rfl
theorem Same13_ev (c : AM.Call) (w : c.wf) (H : List Blk) : EvF tab 39 [A c.c, A c.c] H = some ⟨B true, [], []⟩ := by
  have hs := fun H => Same_ev c.req c.req ⟨rfl, rfl, rfl, rfl, rfl, rfl, rfl, rfl, rfl, rfl, rfl, rfl, rfl⟩ w.1.2.2.2.2.2.2.2.2.2.1.2 w.1.2.2.2.2.2.2.2.2.2.2.1.2 w.1.2.2.2.2.2.2.2.2.2.2.2.2 H
  refine EvF_walk t39 (by simp) ?_
  obtain ⟨on, r, sent, next, tries⟩ := c
  obtain ⟨kind, who, seq, once, key, value, lease, rev, ttl, token, iff, thn, els⟩ := r
  simp only [A, Req.c, List.map_cons, List.map_nil] at hs
  simp -implicitDefEqProofs [A, Call.c, Req.c, hs]
def req34 : Req := ⟨1, 3, 4, false, [], [], 0, 0, 0, 0, .nil, .nil, .nil⟩
theorem req34_ok : reqOk req34 = true := by decide
theorem req34_enc : encReq req34 = [1, 1, 3, 4, 0, 0, 0, 0, 0, 0, 0, 0, 0, 0] := by
  unfold encReq encHead encMuts encS encB req34
  simp [encN_small]
theorem I64_of {n : Int} (h0 : -1000000 ≤ n) (h1 : n ≤ 1000000) : I64 n := ⟨by omega, by omega⟩
theorem req34_wf : req34.wf := by
  refine ⟨I64_of ?_ ?_, I64_of ?_ ?_, I64_of ?_ ?_, ?_, ?_, I64_of ?_ ?_, I64_of ?_ ?_, I64_of ?_ ?_, I64_of ?_ ?_, ⟨?_, ?_⟩, ⟨?_, ?_⟩, ⟨?_, ?_⟩⟩ <;> simp [req34, S64]
theorem live13 (H : List Blk) : EvF tab 37 [] H = some ⟨.g (.bool true), [], []⟩ := by
  have wf : ∀ a b c : Int, 0 ≤ a → a ≤ 1000 → 0 ≤ b → b ≤ 1000 → 0 ≤ c → c ≤ 1000 → AM.Call.wf ⟨true, req34, a, b, c⟩ := fun a b c _ _ _ _ _ _ => ⟨req34_wf, I64_of (by simp only; omega) (by simp only; omega), I64_of (by simp only; omega) (by simp only; omega), I64_of (by simp only; omega) (by simp only; omega)⟩
  have m1 := fun H => Begin_ev req34 5 H
  have m2 := fun H => Sends_ev ⟨true, req34, 5, 5, 0⟩ (wf _ _ _ (by omega) (by omega) (by omega) (by omega) (by omega) (by omega)) 5 H
  have m3 := fun H => Sends_ev ⟨true, req34, 5, 21, 1⟩ (wf _ _ _ (by omega) (by omega) (by omega) (by omega) (by omega) (by omega)) 20 H
  have m4 := fun H => Sends_ev ⟨true, req34, 5, 21, 1⟩ (wf _ _ _ (by omega) (by omega) (by omega) (by omega) (by omega) (by omega)) 21 H
  have m5 := fun H => Gets_ev ⟨true, req34, 5, 53, 2⟩ ⟨0, 3, 5, 0, 0, 0, false, .nil, .nil⟩ H
  have m6 := fun H => Gets_ev ⟨true, req34, 5, 53, 2⟩ ⟨0, 3, 4, 0, 0, 0, false, .nil, .nil⟩ H
  have m7 := fun H => Due_ev ⟨true, req34, 5, 5, 0⟩ 5 H
  have m8 := fun H => Due_ev ⟨true, req34, 5, 5, 0⟩ 4 H
  have m9 := fun H => Pause_ev (-1) H
  have m10 := fun H => Pause_ev 4 H
  have m11 := fun H => Pause_ev 99 H
  have m12 := fun H => Wait_ev 3 H
  have o2 : sendsOk ⟨true, req34, 5, 5, 0⟩ 5 = true := by simp [sendsOk, req34_ok, timOk]
  have o3 : sendsOk ⟨true, req34, 5, 21, 1⟩ 20 = false := by simp [sendsOk]
  have o4 : sendsOk ⟨true, req34, 5, 21, 1⟩ 21 = true := by simp [sendsOk, req34_ok, timOk]
  have o5 : getsOk ⟨true, req34, 5, 53, 2⟩ ⟨0, 3, 5, 0, 0, 0, false, .nil, .nil⟩ = false := by simp [getsOk, req34]
  have o6 : getsOk ⟨true, req34, 5, 53, 2⟩ ⟨0, 3, 4, 0, 0, 0, false, .nil, .nil⟩ = true := by simp [getsOk, req34]
  have w1 : IntKind.i64.wrap (0 + 1) = 1 := rfl
  have w2 : IntKind.i64.wrap (1 + 1) = 2 := rfl
  have w3 : IntKind.i64.wrap 1 = 1 := rfl
  have w4 : IntKind.i64.wrap 2 = 2 := rfl
  simp only [sendsC, sendsT, o2, o3, o4, if_true, if_false, Bool.false_eq_true, req34_enc] at m2 m3 m4
  simp only [getsC, o5, o6, if_true, if_false, Bool.false_eq_true] at m5 m6
  simp [A, Call.c, Req.c, Reply.c, req34, call0, req0, pauseN, waitN, w1, w2, w3, w4] at m1 m2 m3 m4 m5 m6 m7 m8 m9 m10 m11 m12
  refine EvF_walk t37 (by simp) ?_
  simp -implicitDefEqProofs [zres, m1, m2, m3, m4, m5, m6, m7, m8, m9, m10, m11, m12]
end Go.Proofs.Ytlcjocciianphaa
