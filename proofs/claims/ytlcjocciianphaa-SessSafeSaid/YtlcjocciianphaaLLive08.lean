/- live() of the laws on leases answers true, behind any blocks. -/
import Derived.Test.YtlcjocciianphaaPLease
namespace Go.Proofs.Ytlcjocciianphaa
open Go Go.AM Go.Proofs
set_option maxRecDepth 4000
set_option linter.unusedSimpArgs false
theorem live08 (H : List Blk) : EvF tab 16 [] H = some ⟨.g (.bool true), [], []⟩ := by
  refine EvF_walk t16 (by simp) ?_
  have wf : ∀ (L : Leases), mayS L = true → L.wf := fun L h => may_wf h
  have m1 := fun H => Grant_ev ⟨0, .nil⟩ 10 5 (wf _ rfl) H
  have m2 := fun H => Grant_ev ⟨1, .of [⟨1, 10, 15⟩]⟩ 3 6 (wf _ rfl) H
  have m3 := fun H => Keep_ev ⟨2, .of [⟨1, 10, 15⟩, ⟨2, 3, 9⟩]⟩ 1 12 (may_small rfl) H
  have m4 := fun H => End_ev ⟨2, .of [⟨1, 10, 22⟩, ⟨2, 3, 9⟩]⟩ 2 (by simp) H
  have m5 := fun H => Keep_ev ⟨2, .of [⟨1, 10, 22⟩]⟩ 2 12 (may_small rfl) H
  have m6 := fun H => Grant_ev ⟨2, .of [⟨1, 10, 22⟩]⟩ 0 12 (wf _ rfl) H
  have m7 := fun H => Due_ev ⟨2, .of [⟨1, 10, 15⟩, ⟨2, 3, 9⟩]⟩ 10 (by simp) H
  have m8 := fun H => Drops_ev (.of [⟨[120], [], 0, 0, 0, 2⟩, ⟨[121], [], 0, 0, 0, 0⟩, ⟨[122], [], 0, 0, 0, 2⟩]) 2 (by simp) H
  have m9 := fun H => Has_ev ⟨2, .of [⟨1, 10, 15⟩, ⟨2, 3, 9⟩]⟩ 2 (by simp) H
  have m10 := fun H => Has_ev ⟨2, .of [⟨1, 10, 22⟩]⟩ 2 (by simp) H
  have m11 := fun H => May_ev ⟨2, .of [⟨1, 10, 15⟩, ⟨2, 3, 9⟩]⟩ (wf _ rfl) H
  have m12 := fun H => May_ev ⟨-1, .nil⟩ ⟨⟨by decide, by decide⟩, by simp, by simp⟩ H
  rw [show grantS ⟨0, .nil⟩ 10 5 = ⟨1, .of [⟨1, 10, 15⟩]⟩ from rfl, show grantI ⟨0, .nil⟩ 10 5 = 1 from rfl, show grantOk ⟨0, .nil⟩ 10 5 = 0 from rfl] at m1
  rw [show grantS ⟨1, .of [⟨1, 10, 15⟩]⟩ 3 6 = ⟨2, .of [⟨1, 10, 15⟩, ⟨2, 3, 9⟩]⟩ from rfl, show grantI ⟨1, .of [⟨1, 10, 15⟩]⟩ 3 6 = 2 from rfl, show grantOk ⟨1, .of [⟨1, 10, 15⟩]⟩ 3 6 = 0 from rfl] at m2
  rw [show keepS ⟨2, .of [⟨1, 10, 15⟩, ⟨2, 3, 9⟩]⟩ 1 12 = ⟨2, .of [⟨1, 10, 22⟩, ⟨2, 3, 9⟩]⟩ from rfl, show keepT ⟨2, .of [⟨1, 10, 15⟩, ⟨2, 3, 9⟩]⟩ 1 12 = 10 from rfl, show keepE ⟨2, .of [⟨1, 10, 15⟩, ⟨2, 3, 9⟩]⟩ 1 12 = 0 from rfl] at m3
  rw [show endS ⟨2, .of [⟨1, 10, 22⟩, ⟨2, 3, 9⟩]⟩ 2 = ⟨2, .of [⟨1, 10, 22⟩]⟩ from rfl, show endE ⟨2, .of [⟨1, 10, 22⟩, ⟨2, 3, 9⟩]⟩ 2 = 0 from rfl] at m4
  rw [show keepS ⟨2, .of [⟨1, 10, 22⟩]⟩ 2 12 = ⟨2, .of [⟨1, 10, 22⟩]⟩ from rfl, show keepT ⟨2, .of [⟨1, 10, 22⟩]⟩ 2 12 = 0 from rfl, show keepE ⟨2, .of [⟨1, 10, 22⟩]⟩ 2 12 = 6 from rfl] at m5
  rw [show grantS ⟨2, .of [⟨1, 10, 22⟩]⟩ 0 12 = ⟨2, .of [⟨1, 10, 22⟩]⟩ from rfl, show grantI ⟨2, .of [⟨1, 10, 22⟩]⟩ 0 12 = 0 from rfl, show grantOk ⟨2, .of [⟨1, 10, 22⟩]⟩ 0 12 = 1 from rfl] at m6
  simp only [show dueS (Sl.of [(⟨1, 10, 15⟩ : Lease), ⟨2, 3, 9⟩]).l 10 = [2] from rfl] at m7
  simp only [show dropsS (Sl.of [(⟨[120], [], 0, 0, 0, 2⟩ : KV), ⟨[121], [], 0, 0, 0, 0⟩, ⟨[122], [], 0, 0, 0, 2⟩]).l 2 = [⟨true, [120], [], 0⟩, ⟨true, [122], [], 0⟩] from rfl] at m8
  simp only [show hasS 2 (Sl.of [(⟨1, 10, 15⟩ : Lease), ⟨2, 3, 9⟩]).l = true from rfl] at m9
  simp only [show hasS 2 (Sl.of [(⟨1, 10, 22⟩ : Lease)]).l = false from rfl] at m10
  rw [show mayS ⟨2, .of [⟨1, 10, 15⟩, ⟨2, 3, 9⟩]⟩ = true from rfl] at m11
  rw [show mayS ⟨-1, .nil⟩ = false from rfl] at m12
  simp [A, Leases.c, Lease.c, KV.c, Mut.c, Ints.c, slOf] at m1 m2 m3 m4 m5 m6 m7 m8 m9 m10 m11 m12
  simp -implicitDefEqProofs [A, Leases.c, Lease.c, KV.c, Mut.c, Ints.c, chunk, m1, m2, m3, m4, m5, m6, m7, m8, m9, m10, m11, m12]
end Go.Proofs.Ytlcjocciianphaa
