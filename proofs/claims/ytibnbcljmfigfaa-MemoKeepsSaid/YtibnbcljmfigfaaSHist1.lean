/- Keys, things, lists of things: what the program and the reference say of them. -/
import Derived.Test.YtibnbcljmfigfaaTabA
import Derived.Test.YtibnbcljmfigfaaAMJ4
import Derived.KernelRfl
namespace Go.Proofs.Ytibnbcljmfigfaa
open Go Go.AM Go.Proofs
set_option maxRecDepth 20000
set_option maxHeartbeats 1000000
set_option linter.unusedSimpArgs false
set_option linter.unusedVariables false
def byteOk (b : UInt8) : Bool := decide (33 ≤ b.toNat) && decide (b.toNat ≤ 126)
def keyOk (k : Bs) : Bool := (decide (1 ≤ k.length) && decide (k.length ≤ 40)) && k.all byteOk
def numL (n least : Int) : Bool := decide (least ≤ n) && decide (n ≤ 1099511627775)
def oneOk (x : KV) : Bool := keyOk x.key && (decide (x.value.length ≤ 20) && (numL x.create 1 && (numL x.mod x.create && (decide (1 ≤ x.version) && (decide (x.version ≤ x.mod - x.create + 1) && numL x.lease 0)))))
def findN (k : Bs) : Nat → List KV → Option Nat
  | _, [] => none
  | i, x :: l => if x.key = k then some i else findN k (i + 1) l
def kv0 : KV := ⟨[], [], 0, 0, 0, 0⟩
def findX (l : List KV) (k : Bs) : KV := match findN k 0 l with | some i => l[i]?.getD kv0 | none => kv0
def findB (l : List KV) (k : Bs) : Bool := (findN k 0 l).isSome
def findI (l : List KV) (k : Bs) : Int := match findN k 0 l with | some i => i | none => -1
theorem findN_spec (k : Bs) : ∀ (l : List KV) i j, findN k i l = some j → i ≤ j ∧ ∃ (h : j - i < l.length), l[j - i].key = k := by
  intro l
  induction l with
  | nil => intro i j h; simp [findN] at h
  | cons x l ih =>
    intro i j h
    unfold findN at h
    split at h
    · cases h; rename_i hk; exact ⟨Nat.le_refl _, by simp, by simp [hk]⟩
    · obtain ⟨h1, h2, h3⟩ := ih (i + 1) j h
      refine ⟨by omega, by simp; omega, ?_⟩
      have e : j - i = (j - (i + 1)) + 1 := by omega
      simp only [e, List.getElem_cons_succ]; exact h3
theorem find_some {k : Bs} {l : List KV} {i : Nat} (h : findN k 0 l = some i) : ∃ h : i < l.length, l[i].key = k := by
  obtain ⟨_, h2⟩ := findN_spec k l 0 i h
  simpa using h2
theorem idxG_find (k : Bs) : ∀ (l : List KV) i, idxG (fun x : KV => x.key == k) i l = match findN k i l with | some j => (j : Int) | none => -1 := by
  intro l
  induction l with
  | nil => intro i; rfl
  | cons x l ih =>
    intro i
    by_cases h : x.key = k
    · simp [idxG, findN, h]
    · simp only [idxG, findN, h, if_false]
      rw [← ih]; simp [h]
theorem runG_find (k : Bs) : ∀ (l : List KV) i, runG (fun i (x : KV) (_ : Unit) => if x.key = k then .inr i else .inl ()) i l () = match findN k i l with | some j => .inr j | none => (.inl () : Unit ⊕ Nat) := by
  intro l
  induction l with
  | nil => intro i; rfl
  | cons x l ih =>
    intro i
    by_cases h : x.key = k
    · simp [runG, findN, h]
    · simp only [runG, findN, h, if_false]
      exact ih _
end Go.Proofs.Ytibnbcljmfigfaa
