/- What is kept: what of memos that may be comes of it. -/
import Derived.Test.YtibnbcljmfigfaaPMemo2
namespace Go.Proofs.Ytibnbcljmfigfaa
open Go Go.AM Go.Proofs
set_option maxRecDepth 20000
set_option linter.unusedSimpArgs false
set_option linter.unusedVariables false
set_option linter.defProp false
theorem nodup_sub_len : ∀ {a b : List Int}, a.Nodup → (∀ x ∈ a, x ∈ b) → a.length ≤ b.length
  | [], _, _, _ => Nat.zero_le _
  | x :: a, b, hn, hs => by
    rw [List.nodup_cons] at hn
    have hx := hs x (by simp)
    have h2 := nodup_sub_len (a := a) (b := b.erase x) hn.2 (fun y hy => by
      have hne : y ≠ x := fun e => hn.1 (e ▸ hy)
      exact (List.mem_erase_of_ne hne).2 (hs y (List.mem_cons_of_mem _ hy)))
    rw [List.length_erase_of_mem hx] at h2
    have : 0 < b.length := List.length_pos_of_mem hx
    rw [List.length_cons]; omega
/-! ### Taken out -/
theorem isP_iff {w q : Int} {x : Memo} : isP w q x = true ↔ mkey x = (w, q) := by
  unfold isP mkey
  rw [Bool.and_eq_true, decide_eq_true_eq, decide_eq_true_eq, Prod.mk.injEq]
theorem delP_filter (w q : Int) : ∀ {l : List Memo}, (l.map mkey).Nodup → (∃ x ∈ l, isP w q x = true) → delP l w q = l.filter fun x => !isP w q x
  | [], _, ⟨x, hx, _⟩ => by simp at hx
  | y :: l, hn, ⟨x, hx, hp⟩ => by
    rw [List.map_cons, List.nodup_cons] at hn
    unfold delP findJ
    by_cases h : isP w q y = true
    · rw [if_pos h, List.filter_cons]
      simp only [h, Bool.not_true, Bool.false_eq_true, if_false]
      symm
      rw [List.eraseIdx_cons_zero, List.filter_eq_self]
      intro z hz
      have : ¬ isP w q z = true := fun hz2 => hn.1 (by
        rw [isP_iff] at h hz2
        rw [h, ← hz2]
        exact List.mem_map.2 ⟨z, hz, rfl⟩)
      simp [this]
    · rw [if_neg h, List.filter_cons]
      have hb : isP w q y = false := Bool.eq_false_iff.2 h
      simp only [hb, Bool.not_false, if_true]
      rcases List.mem_cons.1 hx with rfl | hx
      · exact absurd hp h
      · have := delP_filter w q hn.2 ⟨x, hx, hp⟩
        unfold delP at this
        rw [List.eraseIdx_cons_succ, this]
theorem floorP_raise (w w' y : Int) : ∀ (old : List Floor), floorP (raiseP old w y) w' = if w' = w then (if hasP old w = true then max (floorP old w) y else y) else floorP old w'
  | [] => by
    unfold raiseP floorP hasP
    by_cases h : w' = w
    · subst h; simp
    · have h' : ¬ w = w' := fun e => h e.symm
      simp [h, h', floorP]
  | f :: old => by
    have ih := floorP_raise w w' y old
    unfold raiseP
    by_cases h1 : f.who = w
    · rw [if_pos h1]
      by_cases h : w' = w
      · subst h
        have hh : hasP (f :: old) w' = true := by unfold hasP; simp [h1]
        rw [if_pos rfl, if_pos hh]
        unfold floorP; rw [if_pos rfl, if_pos h1]
      · rw [if_neg h]
        rw [show floorP (⟨w, max f.seq y⟩ :: old) w' = if w = w' then max f.seq y else floorP old w' from rfl, if_neg fun e => h e.symm, show floorP (f :: old) w' = if f.who = w' then f.seq else floorP old w' from rfl, if_neg fun e => h (by rw [← e, h1])]
    · rw [if_neg h1]
      have hh : hasP (f :: old) w = hasP old w := by unfold hasP; simp [h1]
      rw [show floorP (f :: raiseP old w y) w' = if f.who = w' then f.seq else floorP (raiseP old w y) w' from rfl, ih, hh]
      rw [show floorP (f :: old) w' = if f.who = w' then f.seq else floorP old w' from rfl, show floorP (f :: old) w = if f.who = w then f.seq else floorP old w from rfl, if_neg h1]
      by_cases h2 : f.who = w'
      · rw [if_pos h2, if_pos h2, if_neg fun e => h1 (by rw [h2, e])]
      · rw [if_neg h2, if_neg h2]
theorem raiseP_who (w y : Int) : ∀ (old : List Floor), (raiseP old w y).map Floor.who = if hasP old w = true then old.map Floor.who else old.map Floor.who ++ [w]
  | [] => rfl
  | f :: old => by
    have ih := raiseP_who w y old
    unfold raiseP
    by_cases h1 : f.who = w
    · have hh : hasP (f :: old) w = true := by unfold hasP; simp [h1]
      rw [if_pos h1, if_pos hh]; simp [h1]
    · have hh : hasP (f :: old) w = hasP old w := by unfold hasP; simp [h1]
      rw [if_neg h1, hh, List.map_cons, ih]
      split <;> rfl
theorem hasP_iff {old : List Floor} {w : Int} : hasP old w = true ↔ w ∈ old.map Floor.who := by
  unfold hasP; rw [List.any_eq_true, List.mem_map]; simp
theorem raiseP_mem {w y : Int} {old : List Floor} {f : Floor} (h : f ∈ raiseP old w y) : f ∈ old ∨ (f.who = w ∧ y ≤ f.seq ∧ (f.seq = y ∨ ∃ g ∈ old, g.who = w ∧ f.seq = g.seq)) := by
  induction old with
  | nil =>
    unfold raiseP at h
    rw [List.mem_singleton] at h
    subst h; exact .inr ⟨rfl, Int.le_refl _, .inl rfl⟩
  | cons g old ih =>
    unfold raiseP at h
    split at h
    · rename_i h1
      rcases List.mem_cons.1 h with rfl | h
      · refine .inr ⟨rfl, Int.le_max_right _ _, ?_⟩
        by_cases hc : g.seq ≤ y
        · exact .inl (by simp only; omega)
        · exact .inr ⟨g, by simp, h1, by simp only; omega⟩
      · exact .inl (List.mem_cons_of_mem _ h)
    · rcases List.mem_cons.1 h with rfl | h
      · exact .inl (by simp)
      · rcases ih h with h | ⟨h1, h2, h3⟩
        · exact .inl (List.mem_cons_of_mem _ h)
        · refine .inr ⟨h1, h2, h3.imp id ?_⟩
          rintro ⟨z, hz, hw, hs⟩
          exact ⟨z, List.mem_cons_of_mem _ hz, hw, hs⟩
theorem floorP_mem {old : List Floor} (hn : (old.map Floor.who).Nodup) {f : Floor} (hf : f ∈ old) : floorP old f.who = f.seq := by
  induction old with
  | nil => simp at hf
  | cons g old ih =>
    rw [List.map_cons, List.nodup_cons] at hn
    unfold floorP
    rcases List.mem_cons.1 hf with rfl | hf
    · rw [if_pos rfl]
    · rw [if_neg fun e => hn.1 (by rw [e]; exact List.mem_map.2 ⟨f, hf, rfl⟩), ih hn.2 hf]
theorem floorP_cases (old : List Floor) (w : Int) : (∃ f ∈ old, f.who = w ∧ floorP old w = f.seq) ∨ (hasP old w = false ∧ floorP old w = -1) := by
  induction old with
  | nil => exact .inr ⟨rfl, rfl⟩
  | cons g old ih =>
    unfold floorP hasP
    by_cases h : g.who = w
    · exact .inl ⟨g, by simp, h, by rw [if_pos h]⟩
    · rw [if_neg h]
      rcases ih with ⟨f, h1, h2, h3⟩ | ⟨h1, h2⟩
      · exact .inl ⟨f, List.mem_cons_of_mem _ h1, h2, h3⟩
      · unfold hasP at h1
        exact .inr ⟨by simp [h, h1], h2⟩
/-! ### Kept -/
structure KeptOk (l : List Memo) (old : List Floor) (w q : Int) : Prop where
  no : lookF l w q = none
  fl : floorP old w < q
  room : ¬ (8 ≤ (whosP l old).length ∧ w ∉ whosP l old)
theorem kept_ok {l : List Memo} {old : List Floor} {w q : Int} (h1 : (lookP l old w q).2.1 = false) (h2 : (lookP l old w q).2.2 = 0) : KeptOk l old w q := by
  unfold lookP at h1 h2
  split at h1
  · cases h1
  · rename_i hn
    rw [hn] at h2
    simp only at h2
    split at h2
    · simp at h2
    · rename_i hf
      split at h2
      · simp at h2
      · rename_i hr
        exact ⟨hn, by omega, hr⟩
theorem lookF_none {l : List Memo} {w q : Int} : lookF l w q = none ↔ (w, q) ∉ l.map mkey := by
  rw [lookF_eq, List.find?_eq_none, List.mem_map]
  constructor
  · rintro h ⟨x, hx, he⟩; exact h x hx (isP_iff.2 he)
  · intro h x hx hp; exact h ⟨x, hx, isP_iff.1 hp⟩
theorem keep1_keys {l : List Memo} {old : List Floor} {w q : Int} (r : Reply) (hk : KeptOk l old w q) (hn : (l.map mkey).Nodup) : ((keepL1 l w q r).map mkey).Nodup := by
  unfold keepL1
  rw [List.map_append, List.nodup_append]
  refine ⟨hn, by simp, fun a ha b hb => ?_⟩
  simp only [List.map_cons, List.map_nil, List.mem_singleton] at hb
  subst hb
  intro e
  subst e
  exact lookF_none.1 hk.no ha
theorem seqL_keep (l : List Memo) (w q w' : Int) (r : Reply) : seqL (keepL1 l w q r) w' = if w' = w then seqL l w' ++ [q] else seqL l w' := by
  unfold keepL1
  rw [seqL_app]
  unfold seqL
  by_cases h : w' = w
  · subst h; simp
  · have h' : ¬ w = w' := fun e => h e.symm
    simp [h, h']
/-- The least of one's numbers. -/
theorem head_least {l : List Memo} {w : Int} {x : Memo} (hx : x ∈ l) (hw : x.who = w) : headI (seqsP l w) ≤ x.seq := by
  have hm : x.seq ∈ seqsP l w := by
    unfold seqsP
    rw [(sortL_perm _).mem_iff]
    unfold seqL
    exact List.mem_map.2 ⟨x, List.mem_filter.2 ⟨hx, by simpa using hw⟩, rfl⟩
  have hs : SrtI (seqsP l w) := sortL_srt _
  cases hq : seqsP l w with
  | nil => rw [hq] at hm; simp at hm
  | cons y ys =>
    rw [hq] at hm hs
    obtain ⟨h1, _⟩ := List.pairwise_cons.1 hs
    rcases List.mem_cons.1 hm with h | h
    · simp only [headI]; omega
    · simp only [headI]; exact h1 _ h
end Go.Proofs.Ytibnbcljmfigfaa
