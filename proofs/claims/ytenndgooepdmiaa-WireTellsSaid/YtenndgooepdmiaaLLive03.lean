/- live() of the laws on wire answers true, behind any blocks. -/
import Derived.Test.YtenndgooepdmiaaSTold
import Derived.Test.YtenndgooepdmiaaPApart
import Derived.Test.YtenndgooepdmiaaSShort
import Derived.Test.YtenndgooepdmiaaSFew
namespace Go.Proofs.Ytenndgooepdmiaa
open Go Go.AM Go.Proofs
set_option maxRecDepth 20000
set_option maxHeartbeats 1000000
set_option linter.unusedSimpArgs false
set_option linter.unusedVariables false
theorem encN_small (n : Int) (h : n.toNat < 128) : encN n = [UInt8.ofNat n.toNat] := by
  unfold encN varB
  rw [varI, varL, if_pos h, if_pos h]; rfl
theorem encN_300 : encN 300 = [172, 2] := by
  have h : ¬ (300 : Int).toNat < 128 := by decide
  unfold encN varB
  rw [varI, varL, if_neg h, if_neg h]
  have h2 : (300 : Int).toNat / 128 < 128 := by decide
  rw [varI, varL, if_pos h2, if_pos h2]; rfl
def req03 : Req := ⟨1, 0, 1, false, [97], [], 0, 0, 0, 0, .nil, .nil, .nil⟩
def rep03 : Reply := ⟨7, 0, 0, 0, 0, 0, true, .of [⟨[107], [], 300, 0, 0, 0⟩], .nil⟩
theorem req03_ok : reqOk req03 = true := by decide
theorem rep03_ok : repOk rep03 = true := by decide
theorem req03_enc : encReq req03 = [1, 1, 0, 1, 0, 1, 97, 0, 0, 0, 0, 0, 0, 0, 0] := by
  unfold encReq encHead encMuts encS encB req03
  simp [encN_small]
theorem rep03_enc : encTell rep03 = [2, 7, 0, 0, 0, 0, 0, 1, 1, 1, 107, 0, 172, 2, 0, 0, 0, 0] := by
  unfold encTell encTHead encB rep03
  simp [encKV, encS, encN_small, encN_300]
theorem live03 (H : List Blk) : EvF tab 9 [] H = some ⟨.g (.bool true), [], []⟩ := by
  have m1 := fun H => Ask_ev req03 ⟨by simp [req03], by simp [req03], by simp [req03]⟩ H
  have m2 := fun H => Asked_ev (encReq req03) (by rw [req03_enc]; simp) H
  have m3 := fun H => Asked_ev (encReq req03 ++ [0]) (by rw [req03_enc]; simp) H
  have m4 := fun H => Ask_ev ⟨9, 0, 0, false, [], [], 0, 0, 0, 0, .nil, .nil, .nil⟩ ⟨by simp, by simp, by simp⟩ H
  have m5 := fun H => Tell_ev rep03 ⟨by simp [rep03], by simp [rep03]⟩ H
  have m6 := fun H => Told_ev (encTell rep03) (by rw [rep03_enc]; simp) H
  have m7 := fun H => Told_ev (encReq req03) (by rw [req03_enc]; simp) H
  have m8 := fun H => Same_ev req03 req03 ⟨rfl, rfl, rfl, rfl, rfl, rfl, rfl, rfl, rfl, rfl, rfl, rfl, rfl⟩ (by simp [req03]) (by simp [req03]) (by simp [req03]) H
  have m9 := fun H => MayAsk_ev req03 ⟨by simp [req03], by simp [req03], by simp [req03]⟩ H
  have m10 := fun H => MayAsk_ev ⟨0, 0, 0, false, [], [], 0, 0, 0, 0, .nil, .nil, .nil⟩ ⟨by simp, by simp, by simp⟩ H
  have m11 := fun H => MayTell_ev rep03 ⟨by simp [rep03], by simp [rep03]⟩ H
  have q1 : askedQ (encReq req03) = req03 := by rw [askedQ_enc req03_ok]; rfl
  have q2 : toldQ (encTell rep03) = rep03 := by rw [toldQ_enc rep03_ok]; rfl
  have q3 : askedOk (encReq req03 ++ [0]) = false := by rw [asked_more req03_ok]; rfl
  have q4 : toldOk (encReq req03) = false := by
    have := told_ask req03 (encReq req03).length
    rwa [List.take_length] at this
  have q5 : askedQ (encReq req03 ++ [0]) = reqZ := by unfold askedQ; rw [q3]; rfl
  have q6 : toldQ (encReq req03) = repZ := by unfold toldQ; rw [q4]; rfl
  have z9 : reqOk ⟨9, 0, 0, false, [], [], 0, 0, 0, 0, .nil, .nil, .nil⟩ = false := by decide
  have z0 : reqOk ⟨0, 0, 0, false, [], [], 0, 0, 0, 0, .nil, .nil, .nil⟩ = false := by decide
  rw [req03_ok] at m1 m9
  rw [rep03_ok] at m5 m11
  rw [q1, (asked_enc req03_ok).1] at m2
  rw [q5, q3] at m3
  rw [z9] at m4
  rw [z0] at m10
  rw [q2, (told_enc rep03_ok).1] at m6
  rw [q6, q4] at m7
  simp only [req03_enc, rep03_enc, if_true, if_false, Bool.false_eq_true] at m1 m2 m3 m4 m5 m6 m7 m8 m9 m10 m11
  simp [A, Req.c, Reply.c, KV.c, req03, reqZ, repZ, rep03] at m1 m2 m3 m4 m5 m6 m7 m8 m9 m10 m11
  refine EvF_walk t9 (by simp) ?_
  simp -implicitDefEqProofs [zres, chunk, m1, m2, m3, m4, m5, m6, m7, m8, m9, m10, m11]
end Go.Proofs.Ytenndgooepdmiaa
