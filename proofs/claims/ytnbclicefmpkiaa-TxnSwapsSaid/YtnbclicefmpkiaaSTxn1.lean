/- Questions, and whether they hold, by the program and by the reference. -/
import Derived.Test.YtnbclicefmpkiaaSMvcc8
namespace Go.Proofs.Ytnbclicefmpkiaa
open Go Go.AM Go.Proofs
set_option maxRecDepth 20000
set_option maxHeartbeats 2000000
set_option linter.unusedSimpArgs false
set_option linter.unusedVariables false
def cmpI (a b : Int) : Int := if a < b then -1 else if b < a then 1 else 0
def cmpS (a b : Bs) : Int := if Op.bytesLess a b = true then -1 else if Op.bytesLess b a = true then 1 else 0
theorem nanI_ev (a : Int) (H : List Blk) : EvF tab 99 [I a] H = some ⟨B false, [], []⟩ := by
  refine EvF_walk t99 (by simp) ?_
  simp -implicitDefEqProofs
theorem nanS_ev (a : Bs) (H : List Blk) : EvF tab 100 [T a] H = some ⟨B false, [], []⟩ := by
  refine EvF_walk t100 (by simp) ?_
  simp -implicitDefEqProofs
theorem cmpI_ev (a b : Int) (H : List Blk) : EvF tab 93 [I a, I b] H = some ⟨I (cmpI a b), [], []⟩ := by
  refine EvF_walk t93 (by simp) ?_
  unfold cmpI
  by_cases h1 : a < b
  · simp -implicitDefEqProofs [nanI_ev, h1]
  · by_cases h2 : b < a <;> simp -implicitDefEqProofs [nanI_ev, h1, h2]
theorem cmpS_ev (a b : Bs) (H : List Blk) : EvF tab 94 [T a, T b] H = some ⟨I (cmpS a b), [], []⟩ := by
  refine EvF_walk t94 (by simp) ?_
  unfold cmpS
  rcases bl_tri a b with h | h | h
  · simp -implicitDefEqProofs [nanS_ev, h]
  · subst h
    simp -implicitDefEqProofs [nanS_ev, bl_irrefl]
  · simp -implicitDefEqProofs [nanS_ev, h, bl_asymm h, (bl_ne h).symm]
def qArg (c : Cmp) (x : KV) : AV := .agg ((c.c ++ x.c).map .g)
theorem qCreate_ev (c : Cmp) (x : KV) (H : List Blk) : EvF tab 76 [qArg c x] H = some ⟨I (cmpI x.create c.n), [], []⟩ := by
  refine EvF_walk t76 (by simp) ?_
  simp -implicitDefEqProofs [qArg, Cmp.c, KV.c, cmpI_ev]
theorem qMod_ev (c : Cmp) (x : KV) (H : List Blk) : EvF tab 77 [qArg c x] H = some ⟨I (cmpI x.mod c.n), [], []⟩ := by
  refine EvF_walk t77 (by simp) ?_
  simp -implicitDefEqProofs [qArg, Cmp.c, KV.c, cmpI_ev]
theorem qVersion_ev (c : Cmp) (x : KV) (H : List Blk) : EvF tab 78 [qArg c x] H = some ⟨I (cmpI x.version c.n), [], []⟩ := by
  refine EvF_walk t78 (by simp) ?_
  simp -implicitDefEqProofs [qArg, Cmp.c, KV.c, cmpI_ev]
theorem qValue_ev (c : Cmp) (x : KV) (H : List Blk) : EvF tab 79 [qArg c x] H = some ⟨I (cmpS x.value c.value), [], []⟩ := by
  refine EvF_walk t79 (by simp) ?_
  simp -implicitDefEqProofs [qArg, Cmp.c, KV.c, cmpS_ev]
def askOk (c : Cmp) : Bool := decide (1 ≤ c.what) && (decide (c.what ≤ 4) && (decide (1 ≤ c.how) && decide (c.how ≤ 3)))
theorem tmay_ev (c : Cmp) (H : List Blk) : EvF tab 52 [A c.c] H = some ⟨B (askOk c), [], []⟩ := by
  refine EvF_walk t52 (by simp) ?_
  unfold askOk
  obtain ⟨k, w, h, n, v⟩ := c
  simp only
  by_cases h1 : 1 ≤ w
  · by_cases h2 : w ≤ 4
    · by_cases h3 : 1 ≤ h
      · by_cases h4 : h ≤ 3 <;> simp -implicitDefEqProofs [A, Cmp.c, h1, h2, h3, h4]
      · simp -implicitDefEqProofs [A, Cmp.c, h1, h2, h3]
    · simp -implicitDefEqProofs [A, Cmp.c, h1, h2]
  · simp -implicitDefEqProofs [A, Cmp.c, h1]
def numP (how a b : Int) : Bool := (decide (how = 1) && decide (a = b)) || ((decide (how = 2) && decide (a < b)) || (decide (how = 3) && decide (b < a)))
def strP (how : Int) (a b : Bs) : Bool := (decide (how = 1) && a == b) || ((decide (how = 2) && Op.bytesLess a b) || (decide (how = 3) && Op.bytesLess b a))
def holdsP (l : List KV) (c : Cmp) : Bool :=
  if c.what = 1 then numP c.how (findX l c.key).create c.n else if c.what = 2 then numP c.how (findX l c.key).mod c.n else
  if c.what = 3 then numP c.how (findX l c.key).version c.n else if c.what = 4 then strP c.how (findX l c.key).value c.value else false
theorem number6_ev (a how b : Int) (H : List Blk) : EvF tab 55 [I a, I how, I b] H = some ⟨B (numP how a b), [], []⟩ := by
  refine EvF_walk t55 (by simp) ?_
  unfold numP
  by_cases h1 : how = 1
  · subst h1
    by_cases h2 : a = b <;> simp -implicitDefEqProofs [h2]
  · by_cases h2 : how = 2
    · subst h2
      by_cases h3 : a < b <;> simp -implicitDefEqProofs [h3]
    · by_cases h3 : how = 3
      · subst h3
        by_cases h4 : b < a <;> simp -implicitDefEqProofs [h4]
      · simp -implicitDefEqProofs [h1, h2, h3]
theorem Holds2_ev (s : Sl KV) (c : Cmp) (hl : s.l.length ≤ 9223372036854775807) (H : List Blk) : EvF tab 18 [.g (KVs.g s), A c.c] H = some ⟨B (holdsP s.l c), [], []⟩ := by
  have h1 := fun H => Find2_ev s c.key hl H
  refine EvF_walk t18 (by simp) ?_
  unfold holdsP
  generalize findX s.l c.key = x at h1 ⊢
  generalize findB s.l c.key = b at h1
  obtain ⟨x1, x2, x3, x4, x5, x6⟩ := x
  obtain ⟨k, w, h, n, v⟩ := c
  simp only [A, KV.c, List.map_cons, List.map_nil] at h1 ⊢
  by_cases w1 : w = 1
  · subst w1
    simp -implicitDefEqProofs [zres, Cmp.c, h1, number6_ev]
  · by_cases w2 : w = 2
    · subst w2
      simp -implicitDefEqProofs [zres, Cmp.c, h1, number6_ev]
    · by_cases w3 : w = 3
      · subst w3
        simp -implicitDefEqProofs [zres, Cmp.c, h1, number6_ev]
      · by_cases w4 : w = 4
        · subst w4
          unfold strP
          by_cases i1 : h = 1
          · subst i1
            by_cases j : x2 = v <;> simp -implicitDefEqProofs [zres, Cmp.c, h1, j]
          · by_cases i2 : h = 2
            · subst i2
              cases j : Op.bytesLess x2 v <;> simp -implicitDefEqProofs [zres, Cmp.c, h1, j]
            · by_cases i3 : h = 3
              · subst i3
                rcases bl_tri x2 v with j | j | j
                · simp -implicitDefEqProofs [zres, Cmp.c, h1, j, bl_asymm j]
                · subst j
                  simp -implicitDefEqProofs [zres, Cmp.c, h1, bl_irrefl]
                · simp -implicitDefEqProofs [zres, Cmp.c, h1, j, bl_asymm j, (bl_ne j).symm]
              · simp -implicitDefEqProofs [zres, Cmp.c, h1, i1, i2, i3]
        · simp -implicitDefEqProofs [zres, Cmp.c, h1, w1, w2, w3, w4]
theorem ways_ev (H : List Blk) : EvF tab 54 [] H = some ⟨.agg [.g .nfn, .g (.fn 76), .g (.fn 77), .g (.fn 78), .g (.fn 79)], [], [.cells [.g .nfn, .g (.fn 76), .g (.fn 77), .g (.fn 78), .g (.fn 79)]]⟩ := by
  refine EvF_walk t54 (by simp) ?_
  simp -implicitDefEqProofs
theorem cmpI_num {a b : Int} : (cmpI a b == 0) = decide (a = b) ∧ (cmpI a b == -1) = decide (a < b) ∧ (cmpI a b == 1) = decide (b < a) := by
  unfold cmpI
  by_cases h1 : a < b
  · rw [if_pos h1]; exact ⟨by simp; omega, by simp [h1], by simp; omega⟩
  · rw [if_neg h1]
    by_cases h2 : b < a
    · rw [if_pos h2]; exact ⟨by simp; omega, by simp; omega, by simp [h2]⟩
    · rw [if_neg h2]; exact ⟨by simp; omega, by simp; omega, by simp; omega⟩
theorem cmpS_num {a b : Bs} : (cmpS a b == 0) = (a == b) ∧ (cmpS a b == -1) = Op.bytesLess a b ∧ (cmpS a b == 1) = Op.bytesLess b a := by
  unfold cmpS
  rcases bl_tri a b with h | h | h
  · simp [h, bl_asymm h, bl_ne h]
  · subst h; simp [bl_irrefl]
  · simp [h, bl_asymm h, (bl_ne h).symm]
theorem Holds_ev (s : Sl KV) (c : Cmp) (hl : s.l.length ≤ 9223372036854775807) (H : List Blk) : EvF tab 17 [.g (KVs.g s), A c.c] H = some ⟨B (askOk c && holdsP s.l c), [], []⟩ := by
  have h1 := fun H => Find_ev s c.key hl H
  have h2 := fun H => tmay_ev c H
  refine EvF_walk t17 (by simp) ?_
  unfold holdsP
  generalize findX s.l c.key = x at h1 ⊢
  generalize findB s.l c.key = b at h1
  have q1 := fun H => qCreate_ev c x H
  have q2 := fun H => qMod_ev c x H
  have q3 := fun H => qVersion_ev c x H
  have q4 := fun H => qValue_ev c x H
  obtain ⟨x1, x2, x3, x4, x5, x6⟩ := x
  cases ho : askOk c
  · rw [ho] at h2
    obtain ⟨k, w, h, n, v⟩ := c
    simp only [A, KV.c, Cmp.c, qArg, List.cons_append, List.nil_append, List.map_cons, List.map_nil] at h1 h2 ⊢
    simp -implicitDefEqProofs [h2]
  · rw [ho] at h2
    unfold askOk at ho
    simp only [Bool.and_eq_true, decide_eq_true_eq] at ho
    obtain ⟨k, w, h, n, v⟩ := c
    simp only [A, KV.c, Cmp.c, qArg, List.cons_append, List.nil_append, List.map_cons, List.map_nil] at h1 h2 q1 q2 q3 q4 ho ⊢
    have hw : w = 1 ∨ w = 2 ∨ w = 3 ∨ w = 4 := by omega
    have hh : h = 1 ∨ h = 2 ∨ h = 3 := by omega
    obtain ⟨n1, n2, n3⟩ := cmpI_num (a := x3) (b := n)
    obtain ⟨n4, n5, n6⟩ := cmpI_num (a := x4) (b := n)
    obtain ⟨n7, n8, n9⟩ := cmpI_num (a := x5) (b := n)
    obtain ⟨s1, s2, s3⟩ := cmpS_num (a := x2) (b := v)
    rcases hw with rfl | rfl | rfl | rfl <;> rcases hh with rfl | rfl | rfl <;> simp -implicitDefEqProofs [zres, h1, h2, ways_ev, q1, q2, q3, q4, numP, strP, n1, n2, n3, n4, n5, n6, n7, n8, n9, s1, s2, s3]
end Go.Proofs.Ytnbclicefmpkiaa
