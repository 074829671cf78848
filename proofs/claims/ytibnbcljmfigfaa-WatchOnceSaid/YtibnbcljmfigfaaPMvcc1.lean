/- Lists of things in the order of their keys, and what is found in them. Pure. -/
import Derived.Test.YtibnbcljmfigfaaSMvcc4
namespace Go.Proofs.Ytibnbcljmfigfaa
open Go Go.AM Go.Proofs
set_option linter.unusedSimpArgs false
set_option linter.unusedVariables false
set_option linter.defProp false
def getK : List KV → Bs → Option KV
  | [], _ => none
  | y :: l, k => if y.key = k then some y else getK l k
def Srt (l : List KV) : Prop := l.Pairwise fun a b => Op.bytesLess a.key b.key = true
theorem getK_some {k : Bs} {x : KV} : ∀ {l : List KV}, getK l k = some x → x ∈ l ∧ x.key = k
  | [], h => by simp [getK] at h
  | y :: l, h => by
    unfold getK at h
    split at h
    · rename_i hk; cases h; exact ⟨List.mem_cons_self, hk⟩
    · obtain ⟨h1, h2⟩ := getK_some h; exact ⟨List.mem_cons_of_mem _ h1, h2⟩
theorem getK_none {k : Bs} : ∀ {l : List KV}, getK l k = none → ∀ x ∈ l, x.key ≠ k
  | [], _, x, hx => by cases hx
  | y :: l, h, x, hx => by
    unfold getK at h
    split at h
    · cases h
    · rename_i hk
      rcases List.mem_cons.1 hx with rfl | hx
      · exact hk
      · exact getK_none h x hx
theorem getK_no {k : Bs} : ∀ {l : List KV}, (∀ x ∈ l, x.key ≠ k) → getK l k = none
  | [], _ => rfl
  | y :: l, h => by
    unfold getK
    rw [if_neg (h y List.mem_cons_self)]
    exact getK_no fun x hx => h x (List.mem_cons_of_mem _ hx)
theorem findN_get (k : Bs) : ∀ (l : List KV) i, match findN k i l with | some j => i ≤ j ∧ ∃ x, l[j - i]? = some x ∧ getK l k = some x | none => getK l k = none
  | [], i => rfl
  | y :: l, i => by
    unfold findN getK
    by_cases h : y.key = k
    · simp [h]
    · simp only [if_neg h]
      have := findN_get k l (i + 1)
      split at this
      · rename_i j hj
        obtain ⟨h1, x, h2, h3⟩ := this
        refine ⟨by omega, x, ?_, h3⟩
        rw [show j - i = (j - (i + 1)) + 1 by omega, List.getElem?_cons_succ]; exact h2
      · exact this
theorem findB_get (l : List KV) (k : Bs) : findB l k = (getK l k).isSome := by
  have := findN_get k l 0
  unfold findB
  split at this
  · rename_i j hj
    obtain ⟨-, x, -, h⟩ := this
    rw [hj, h]; rfl
  · rename_i hj
    rw [hj, this]; rfl
theorem findX_get (l : List KV) (k : Bs) : findX l k = (getK l k).getD kv0 := by
  have := findN_get k l 0
  unfold findX
  split at this
  · rename_i j hj
    obtain ⟨-, x, h1, h⟩ := this
    rw [Nat.sub_zero] at h1
    rw [hj, h]; simp only [h1]
  · rename_i hj
    rw [hj, this]; rfl
theorem Srt.cons {y : KV} {l : List KV} : Srt (y :: l) ↔ (∀ x ∈ l, Op.bytesLess y.key x.key = true) ∧ Srt l := List.pairwise_cons
theorem mem_getK {x : KV} : ∀ {l : List KV}, Srt l → x ∈ l → getK l x.key = some x
  | [], _, h => by cases h
  | y :: l, hs, h => by
    obtain ⟨h1, h2⟩ := Srt.cons.1 hs
    unfold getK
    rcases List.mem_cons.1 h with rfl | h
    · rw [if_pos rfl]
    · rw [if_neg (bl_ne (h1 x h))]; exact mem_getK h2 h
theorem layP_lt {x : KV} {y : KV} {l : List KV} (h1 : ∀ z ∈ l, Op.bytesLess y.key z.key = true) (h : Op.bytesLess y.key x.key = true) : ∀ z ∈ layP l x, Op.bytesLess y.key z.key = true := by
  intro z hz
  rcases mem_layP hz with hz | rfl
  · exact h1 z hz
  · exact h
theorem layP_srt (x : KV) : ∀ {l : List KV}, Srt l → Srt (layP l x)
  | [], _ => List.pairwise_singleton _ _
  | y :: l, hs => by
    obtain ⟨h1, h2⟩ := Srt.cons.1 hs
    unfold layP
    split
    · rename_i h
      exact Srt.cons.2 ⟨layP_lt h1 h, layP_srt x h2⟩
    · rename_i h
      split
      · rename_i hk
        exact Srt.cons.2 ⟨fun z hz => by rw [← hk]; exact h1 z hz, h2⟩
      · rename_i hk
        have hlt : Op.bytesLess x.key y.key = true := by
          rcases bl_tri y.key x.key with h3 | h3 | h3
          · exact absurd h3 h
          · exact absurd h3 hk
          · exact h3
        refine Srt.cons.2 ⟨fun z hz => ?_, hs⟩
        rcases List.mem_cons.1 hz with rfl | hz
        · exact hlt
        · exact bl_trans _ _ _ hlt (h1 z hz)
theorem layP_get (x : KV) (k : Bs) : ∀ {l : List KV}, Srt l → getK (layP l x) k = if k = x.key then some x else getK l k
  | [], _ => by
    unfold layP getK getK
    by_cases h : k = x.key
    · rw [if_pos h, if_pos h.symm]
    · rw [if_neg h, if_neg (fun e => h e.symm)]
  | y :: l, hs => by
    obtain ⟨h1, h2⟩ := Srt.cons.1 hs
    unfold layP
    split
    · rename_i h
      unfold getK
      rw [layP_get x k h2]
      by_cases hy : y.key = k
      · rw [if_pos hy, if_pos hy, if_neg (fun e => bl_ne h (hy.trans e))]
      · rw [if_neg hy, if_neg hy]
    · rename_i h
      split
      · rename_i hk
        unfold getK
        by_cases hx : k = x.key
        · rw [if_pos hx, if_pos hx.symm]
        · rw [if_neg hx, if_neg (fun e => hx e.symm), if_neg (fun e => hx (e.symm.trans hk))]
      · rename_i hk
        rw [show getK (x :: y :: l) k = if x.key = k then some x else getK (y :: l) k from rfl]
        by_cases hx : k = x.key
        · rw [if_pos hx, if_pos hx.symm]
        · rw [if_neg hx, if_neg (fun e => hx e.symm)]
theorem takeP_sub (k : Bs) : ∀ (l : List KV), (takeP l k).Sublist l
  | [] => List.Sublist.slnil
  | y :: l => by
    unfold takeP
    split
    · exact List.sublist_cons_self _ _
    · exact (takeP_sub k l).cons_cons _
theorem takeP_srt (k : Bs) {l : List KV} (h : Srt l) : Srt (takeP l k) := List.Pairwise.sublist (takeP_sub k l) h
theorem takeP_get (k' k : Bs) : ∀ {l : List KV}, Srt l → getK (takeP l k') k = if k = k' then none else getK l k
  | [], _ => by unfold takeP getK; split <;> rfl
  | y :: l, hs => by
    obtain ⟨h1, h2⟩ := Srt.cons.1 hs
    unfold takeP
    split
    · rename_i hk
      by_cases h : k = k'
      · rw [if_pos h, h, ← hk]
        exact getK_no fun x hx => (bl_ne (h1 x hx)).symm
      · rw [if_neg h]
        rw [show getK (y :: l) k = if y.key = k then some y else getK l k from rfl, if_neg (fun e => h (e.symm.trans hk))]
    · rename_i hk
      rw [show getK (y :: takeP l k') k = if y.key = k then some y else getK (takeP l k') k from rfl, takeP_get k' k h2]
      rw [show getK (y :: l) k = if y.key = k then some y else getK l k from rfl]
      by_cases h : k = k'
      · rw [if_pos h, if_pos h, if_neg (fun e => hk (e.trans h))]
      · rw [if_neg h, if_neg h]
theorem oneOk_key {x : KV} (h : oneOk x = true) : 1 ≤ x.key.length := by
  simp only [oneOk, keyOk, Bool.and_eq_true, decide_eq_true_eq] at h
  exact h.1.1.1
theorem mayG_iff : ∀ (l : List KV) (last : Bs), mayG last l = true ↔ (∀ x ∈ l, oneOk x = true ∧ Op.bytesLess last x.key = true) ∧ Srt l
  | [], last => by simp [mayG, Srt]
  | x :: l, last => by
    unfold mayG
    rw [Bool.and_eq_true, Bool.and_eq_true, mayG_iff l x.key, Srt.cons]
    constructor
    · rintro ⟨⟨h1, h2⟩, h3, h4⟩
      refine ⟨fun z hz => ?_, fun z hz => (h3 z hz).2, h4⟩
      rcases List.mem_cons.1 hz with rfl | hz
      · exact ⟨h1, h2⟩
      · exact ⟨(h3 z hz).1, bl_trans _ _ _ h2 (h3 z hz).2⟩
    · rintro ⟨h1, h2, h3⟩
      exact ⟨h1 x List.mem_cons_self, fun z hz => ⟨(h1 z (List.mem_cons_of_mem _ hz)).1, h2 z hz⟩, h3⟩
theorem mayL_iff (l : List KV) : mayL l = true ↔ (∀ x ∈ l, oneOk x = true) ∧ Srt l := by
  unfold mayL
  rw [mayG_iff]
  constructor
  · rintro ⟨h1, h2⟩; exact ⟨fun x hx => (h1 x hx).1, h2⟩
  · rintro ⟨h1, h2⟩
    refine ⟨fun x hx => ⟨h1 x hx, ?_⟩, h2⟩
    have := oneOk_key (h1 x hx)
    cases hq : x.key with
    | nil => rw [hq] at this; simp at this
    | cons a b => rfl
def actP (l : List KV) (e : Ev) : List KV := if e.gone = true then takeP l e.kv.key else layP l e.kv
theorem stepP_le {rev : Int} {l : List KV} {e : Ev} (h : e.rev ≤ rev) : stepP rev l e = actP l e := by unfold stepP actP; rw [if_neg (by omega)]
theorem stepP_gt {rev : Int} {l : List KV} {e : Ev} (h : rev < e.rev) : stepP rev l e = l := by unfold stepP; rw [if_pos h]
theorem foldP_le {rev : Int} : ∀ {a : List Ev} {l : List KV}, (∀ e ∈ a, e.rev ≤ rev) → foldP l a rev = a.foldl actP l
  | [], l, _ => rfl
  | e :: a, l, h => by
    have := foldP_le (a := a) (l := actP l e) (rev := rev) fun x hx => h x (List.mem_cons_of_mem _ hx)
    unfold foldP at this ⊢
    rw [List.foldl_cons, List.foldl_cons, stepP_le (h e List.mem_cons_self)]; exact this
theorem foldP_gt {rev : Int} : ∀ {a : List Ev} {l : List KV}, (∀ e ∈ a, rev < e.rev) → foldP l a rev = l
  | [], l, _ => rfl
  | e :: a, l, h => by
    have := foldP_gt (a := a) (l := l) (rev := rev) fun x hx => h x (List.mem_cons_of_mem _ hx)
    unfold foldP at this ⊢
    rw [List.foldl_cons, stepP_gt (h e List.mem_cons_self)]; exact this
theorem foldP_app (l : List KV) (a b : List Ev) (rev : Int) : foldP l (a ++ b) rev = foldP (foldP l a rev) b rev := List.foldl_append
theorem actP_srt (e : Ev) {l : List KV} (h : Srt l) : Srt (actP l e) := by
  unfold actP; split
  · exact takeP_srt _ h
  · exact layP_srt _ h
theorem actP_get (e : Ev) (k : Bs) {l : List KV} (h : Srt l) : getK (actP l e) k = if k = e.kv.key then (if e.gone = true then none else some e.kv) else getK l k := by
  unfold actP; split
  · rw [takeP_get _ _ h]
  · rw [layP_get _ _ h]
theorem mem_actP {l : List KV} {e : Ev} {y : KV} (h : y ∈ actP l e) : y ∈ l ∨ (e.gone = false ∧ y = e.kv) := by
  unfold actP at h
  split at h
  · exact .inl (mem_takeP h)
  · rename_i hg
    rcases mem_layP h with h | h
    · exact .inl h
    · exact .inr ⟨Bool.eq_false_iff.2 hg, h⟩
/-- Two lists in order that answer alike have alike things, place by place. -/
theorem srt_ext {β : Type} (pr : KV → β) (hk : ∀ a b, pr a = pr b → a.key = b.key) : ∀ {l m : List KV}, Srt l → Srt m → (∀ k, (getK l k).map pr = (getK m k).map pr) → l.map pr = m.map pr
  | [], [], _, _, _ => rfl
  | [], y :: m, _, _, h => by have := h y.key; simp [getK] at this
  | x :: l, [], _, _, h => by have := h x.key; simp [getK] at this
  | x :: l, y :: m, hl, hm, h => by
    obtain ⟨l1, l2⟩ := Srt.cons.1 hl
    obtain ⟨m1, m2⟩ := Srt.cons.1 hm
    have hxy : pr x = pr y := by
      have e1 := h x.key
      have e2 := h y.key
      by_cases hq : x.key = y.key
      · simp only [getK, hq, if_true, Option.map_some, Option.some.injEq] at e1; exact e1
      · have hq' : ¬ y.key = x.key := fun e => hq e.symm
        simp only [getK, if_true, if_neg hq, if_neg hq', Option.map_some] at e1 e2
        cases g1 : getK m x.key with
        | none => rw [g1] at e1; cases e1
        | some z =>
          cases g2 : getK l y.key with
          | none => rw [g2] at e2; cases e2
          | some w =>
            obtain ⟨z1, z2⟩ := getK_some g1
            obtain ⟨w1, w2⟩ := getK_some g2
            have a1 := m1 z z1
            have a2 := l1 w w1
            rw [z2] at a1
            rw [w2] at a2
            rw [bl_asymm a1] at a2; cases a2
    have hkey := hk _ _ hxy
    rw [List.map_cons, List.map_cons, hxy]
    congr 1
    refine srt_ext pr hk l2 m2 fun k => ?_
    have e := h k
    by_cases hq : x.key = k
    · rw [getK_no (l := l) fun z hz => by rw [← hq]; exact (bl_ne (l1 z hz)).symm, getK_no (l := m) fun z hz => by rw [← hq, hkey]; exact (bl_ne (m1 z hz)).symm]
    · simp only [getK, if_neg hq, if_neg (show ¬ y.key = k from fun e => hq (hkey.trans e))] at e
      exact e
end Go.Proofs.Ytibnbcljmfigfaa
