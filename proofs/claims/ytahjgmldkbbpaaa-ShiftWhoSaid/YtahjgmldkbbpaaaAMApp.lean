/- append, by its runs. -/
import Derived.Test.YtahjgmldkbbpaaaAMActs4
import Derived.Laws.AppendOwn
import Derived.IntWalk
set_option linter.unusedSimpArgs false
set_option linter.unusedVariables false
namespace Go.AM
open Go

/-- What is appended: so many elements, these cells. -/
def Src (P : Program) (u : TypeId) (x : Value) (size n : Nat) (news : List Value) (w : World) : Prop :=
  ((∃ d, P.underlying u = some d ∧ ((∃ e, d = .slice e) ∨ d = .string)) ∧ (∀ w1, (Builtin.lenOf x).run P w1 = .ok n w1) ∧ ∀ w1 : World, w1.heap = w.heap → (Builtin.firstCells size n x).run P w1 = .ok news.toArray w1)

section
variable {P : Program} {w : World} {t u ty e : TypeId} {size bytes : Nat}

theorem info_of (hs : szT P e = some size) (hb : bytesT P e = some bytes) : ∃ i, P.info? e = some i ∧ i.size = size ∧ i.bytes = bytes := by
  unfold szT at hs; unfold bytesT at hb
  cases hi : P.info? e with
  | none => simp [hi] at hs
  | some i => simp [hi] at hs hb; exact ⟨i, rfl, hs, hb⟩

theorem run_app_room (ht : P.underlying t = some (.slice e)) (hs : szT P e = some size) (hby : bytesT P e = some bytes) (A : Option Addr) (sLen sCap n : Nat) (x : Value) (news : List Value) (hsrc : Src P u x size n news w) (hroom : sLen + n ≤ sCap) (w2 : World)
    (hst : match A with | none => w2 = w | some a => (storeCells (a.add (sLen * size)) news).run P w = .ok () w2) :
    (Builtin.append_ #[t, u] ty #[.slice A sLen sCap, x]).run P w = .ok (.slice A (sLen + n) sCap) w2 := by
  obtain ⟨i, hi, rfl, rfl⟩ := info_of hs hby
  obtain ⟨⟨d, hu, hd⟩, hl, hf⟩ := hsrc
  have hf' := hf w rfl
  rcases hd with ⟨e', rfl⟩ | rfl <;> cases A <;>
    simp only [] at hst <;>
    simp [Builtin.append_, run_underlying ht, run_underlying hu, sizeOf, typeInfo, hi, hl, hroom, hf', hst]

/-- The world behind an append that has found no room. -/
def grownW (w : World) (need old : Nat) (e : TypeId) (z : Value) (olds news : List Value) : World :=
  w.drew.alloc (.cells (olds.toArray ++ (news.toArray ++ Builtin.zeroCells z.cells (grownCap w need old e - need))) e)

theorem run_app_grow (ht : P.underlying t = some (.slice e)) (hs : szT P e = some size) (hby : bytesT P e = some bytes) {z : Value} (hz : (P.info? e).bind (·.zero) = some z) (A : Option Addr) (sLen sCap n : Nat) (x : Value) (olds news : List Value) (hsrc : Src P u x size n news w)
    (hroom : ¬ sLen + n ≤ sCap) (hn : sLen + n ≤ 9223372036854775807) (hbytes : (sLen + n) * bytes ≤ 140737488355328)
    (hold : ∀ w1 : World, w1.heap = w.heap → (Builtin.firstCells size sLen (.slice A sLen sCap)).run P w1 = .ok olds.toArray w1) :
    (Builtin.append_ #[t, u] ty #[.slice A sLen sCap, x]).run P w =
      .ok (.slice (some ⟨w.heap.size, 0, none⟩) (sLen + n) (grownCap w (sLen + n) sCap e)) (grownW w (sLen + n) sCap e z olds news) := by
  obtain ⟨i, hi, rfl, rfl⟩ := info_of hs hby
  obtain ⟨⟨d, hu, hd⟩, hl, hf⟩ := hsrc
  have hf' := hf w.drew rfl
  have ho' := hold w.drew rfl
  have hfit := growslice_fits (old := sCap) (need := sLen + n) (bytes := i.bytes) (by omega) hbytes
  have hz' : i.zero = some z := by simpa [hi] using hz
  have hmax' : ¬ (9223372036854775807 < (sLen : Int) + (n : Int)) := by omega
  have hfit' : ¬ (281474976710656 < Builtin.nextslicecap (sLen + n) sCap * i.bytes) := by omega
  rcases hd with ⟨e', rfl⟩ | rfl
  · simp [Builtin.append_, run_underlying ht, run_underlying hu, sizeOf, typeInfo, zeroValue, hi, hz', hl, hroom, hmax', hfit', Question.forced, grownCap, newRow, hf', ho', grownW]
  · simp [Builtin.append_, run_underlying ht, run_underlying hu, sizeOf, typeInfo, zeroValue, hi, hz', hl, hroom, hmax', hfit', Question.forced, grownCap, newRow, hf', ho', grownW]

theorem zero_nil (z : Value) : Builtin.zeroCells z.cells 0 = #[] := by
  apply Array.eq_empty_of_size_eq_zero; simp [Builtin.zeroCells]
theorem zero_nil' (z : Value) (n : Nat) (h : z.cells.size = 0) : Builtin.zeroCells z.cells n = #[] := by
  apply Array.eq_empty_of_size_eq_zero; simp [Builtin.zeroCells, h]

theorem run_appZ_room (ht : P.underlying t = some (.slice e)) (hs : szT P e = some size) (hby : bytesT P e = some bytes) (A : Option Addr) (sLen sCap n : Nat) (x : Value) (news : List Value) {z : Value} (hz : (P.info? e).bind (·.zero) = some z) (hzs : z.cells.size = size) {k : IntKind} (hu : P.underlying u = some (.int k)) (hn1 : n ≤ 281474976710656) (hn2 : n * bytes ≤ 281474976710656) (hroom : sLen + n ≤ sCap) (w2 : World)
    (hst : match A with | none => w2 = w | some a => (storeCells (a.add (sLen * size)) (Builtin.zeroCells z.cells n).toList).run P w = .ok () w2) :
    (Builtin.append_ #[t, u] ty #[.slice A sLen sCap, .int .i64 n]).run P w = .ok (.slice A (sLen + n) sCap) w2 := by
  obtain ⟨i, hi, rfl, rfl⟩ := info_of hs hby
  have hw : IntKind.i64.wrap (n : Int) = n := IntWalk.i64_in _ (by omega)
  have hz' : i.zero = some z := by simpa [hi] using hz
  have h0 : ¬ ((n : Int) < 0) := by omega
  have h1 : ¬ ((n : Int) * (i.bytes : Int) > 281474976710656) := by
    have : ((n * i.bytes : Nat) : Int) ≤ 281474976710656 := by omega
    rw [Int.natCast_mul] at this; omega
  have h1' : ¬ (281474976710656 < (n : Int) * (i.bytes : Int)) := h1
  by_cases hnz : n * i.size = 0
  · have hzero : Builtin.zeroCells z.cells n = #[] := by
      rcases Nat.mul_eq_zero.mp hnz with h | h
      · subst h; exact zero_nil z
      · exact zero_nil' z n (by omega)
    cases A <;> simp only [] at hst <;>
      simp [Builtin.append_, run_underlying ht, run_underlying hu, sizeOf, typeInfo, hi, asInt, asIntOf, hw, h0, h1', hroom, hnz, hzero] at hst ⊢ <;>
      simp_all [storeCells]
  · cases A <;> simp only [] at hst <;>
      simp [Builtin.append_, run_underlying ht, run_underlying hu, sizeOf, typeInfo, zeroValue, hi, hz', asInt, asIntOf, hw, h0, h1', hroom, hnz, hst]

theorem run_appZ_grow (ht : P.underlying t = some (.slice e)) (hs : szT P e = some size) (hby : bytesT P e = some bytes) {z : Value} (hz : (P.info? e).bind (·.zero) = some z) (hzs : z.cells.size = size) (A : Option Addr) (sLen sCap n : Nat) (olds : List Value) {k : IntKind} (hu : P.underlying u = some (.int k)) (hn1 : n ≤ 281474976710656) (hn2 : n * bytes ≤ 281474976710656)
    (hroom : ¬ sLen + n ≤ sCap) (hn : sLen + n ≤ 9223372036854775807) (hbytes : (sLen + n) * bytes ≤ 140737488355328)
    (hold : ∀ w1 : World, w1.heap = w.heap → (Builtin.firstCells size sLen (.slice A sLen sCap)).run P w1 = .ok olds.toArray w1) :
    (Builtin.append_ #[t, u] ty #[.slice A sLen sCap, .int .i64 n]).run P w =
      .ok (.slice (some ⟨w.heap.size, 0, none⟩) (sLen + n) (grownCap w (sLen + n) sCap e)) (grownW w (sLen + n) sCap e z olds (Builtin.zeroCells z.cells n).toList) := by
  obtain ⟨i, hi, rfl, rfl⟩ := info_of hs hby
  have hw : IntKind.i64.wrap (n : Int) = n := IntWalk.i64_in _ (by omega)
  have ho' := hold w.drew rfl
  have hfit := growslice_fits (old := sCap) (need := sLen + n) (bytes := i.bytes) (by omega) hbytes
  have hz' : i.zero = some z := by simpa [hi] using hz
  have h0 : ¬ ((n : Int) < 0) := by omega
  have h1' : ¬ (281474976710656 < (n : Int) * (i.bytes : Int)) := by
    have : ((n * i.bytes : Nat) : Int) ≤ 281474976710656 := by omega
    rw [Int.natCast_mul] at this; omega
  have hmax' : ¬ (9223372036854775807 < (sLen : Int) + (n : Int)) := by omega
  have hfit' : ¬ (281474976710656 < Builtin.nextslicecap (sLen + n) sCap * i.bytes) := by omega
  by_cases hnz : n * i.size = 0
  · have hzero : Builtin.zeroCells z.cells n = #[] := by
      rcases Nat.mul_eq_zero.mp hnz with h | h
      · subst h; exact zero_nil z
      · exact zero_nil' z n (by omega)
    simp [Builtin.append_, run_underlying ht, run_underlying hu, sizeOf, typeInfo, zeroValue, hi, hz', asInt, asIntOf, hw, h0, h1', hroom, hmax', hfit', Question.forced, grownCap, newRow, hnz, ho', grownW, hzero]
  · simp [Builtin.append_, run_underlying ht, run_underlying hu, sizeOf, typeInfo, zeroValue, hi, hz', asInt, asIntOf, hw, h0, h1', hroom, hmax', hfit', Question.forced, grownCap, newRow, hnz, ho', grownW]

end
end Go.AM
