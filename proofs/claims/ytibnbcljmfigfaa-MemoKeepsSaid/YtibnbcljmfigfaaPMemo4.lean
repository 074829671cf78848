/- What of memos that may be comes of keeping. -/
import Derived.Test.YtibnbcljmfigfaaPMemo3
namespace Go.Proofs.Ytibnbcljmfigfaa
open Go Go.AM Go.Proofs
set_option maxRecDepth 20000
set_option linter.unusedSimpArgs false
set_option linter.unusedVariables false
set_option linter.defProp false
theorem keep_err {m : Memos} {w q : Int} {r : Reply} (h : (lookP m.l.l m.old.l w q).2.1 = true ∨ (lookP m.l.l m.old.l w q).2.2 ≠ 0) : keepM m w q r = m := by unfold keepM; rw [if_pos h]
/-- The two ways of keeping. -/
def KeepA (m : Memos) (w q : Int) (r : Reply) : Prop := (seqL m.l.l w).length ≤ 3 ∧ (keepM m w q r).l.l = keepL1 m.l.l w q r ∧ (keepM m w q r).old.l = m.old.l
def KeepB (m : Memos) (w q y : Int) (r : Reply) : Prop := 4 ≤ (seqL m.l.l w).length ∧ (keepM m w q r).l.l = (keepL1 m.l.l w q r).filter (fun x => !isP w y x) ∧ (keepM m w q r).old.l = raiseP m.old.l w y ∧
  (∃ x ∈ keepL1 m.l.l w q r, isP w y x = true) ∧ ∀ x ∈ keepL1 m.l.l w q r, x.who = w → y ≤ x.seq
theorem keep_ways {m : Memos} {w q : Int} (r : Reply) (h1 : (lookP m.l.l m.old.l w q).2.1 = false) (h2 : (lookP m.l.l m.old.l w q).2.2 = 0) (hn : (m.l.l.map mkey).Nodup) : KeepA m w q r ∨ ∃ y, KeepB m w q y r := by
  have hk := kept_ok h1 h2
  have hlen : (seqsP (keepL1 m.l.l w q r) w).length = (seqL m.l.l w).length + 1 := by
    unfold seqsP
    rw [sortL_len, seqL_keep, if_pos rfl]; simp
  have hkn := keep1_keys r hk hn
  unfold KeepA KeepB keepM
  rw [if_neg (by rw [h1, h2]; simp)]
  by_cases h4 : (seqsP (keepL1 m.l.l w q r) w).length ≤ 4
  · rw [if_pos h4]
    exact .inl ⟨by omega, rfl, rfl⟩
  · rw [if_neg h4]
    have hne : seqsP (keepL1 m.l.l w q r) w ≠ [] := fun e => by rw [e] at h4; simp at h4
    have hm := head_mem _ w hne
    refine .inr ⟨headI (seqsP (keepL1 m.l.l w q r) w), by omega, ?_, rfl, hm, fun x hx hw => head_least hx hw⟩
    exact delP_filter w _ hkn hm
theorem lookF_app (l : List Memo) (w q a b : Int) (r : Reply) : lookF (keepL1 l w q r) a b = match lookF l a b with | some x => some x | none => if (a, b) = (w, q) then some ⟨w, q, r⟩ else none := by
  unfold keepL1
  rw [lookF_eq, lookF_eq, List.find?_append]
  cases hl : l.find? (isP a b) with
  | some x => rfl
  | none =>
    simp only [Option.none_or]
    by_cases h : (a, b) = (w, q)
    · rw [if_pos h]
      have : isP a b ⟨w, q, r⟩ = true := isP_iff.2 h.symm
      simp [this]
    · rw [if_neg h]
      have : ¬ isP a b ⟨w, q, r⟩ = true := fun hp => h (isP_iff.1 hp).symm
      simp [this]
theorem lookF_filter (l : List Memo) (w y a b : Int) : lookF (l.filter fun x => !isP w y x) a b = if (a, b) = (w, y) then none else lookF l a b := by
  rw [lookF_eq, lookF_eq]
  induction l with
  | nil => simp
  | cons x l ih =>
    rw [List.filter_cons]
    by_cases hx : isP w y x = true
    · simp only [hx, Bool.not_true, Bool.false_eq_true, if_false]
      rw [ih]
      by_cases h : (a, b) = (w, y)
      · rw [if_pos h, if_pos h]
      · rw [if_neg h, if_neg h]
        have : ¬ isP a b x = true := fun hp => h (by rw [isP_iff] at hp hx; rw [← hp, hx])
        rw [List.find?_cons_of_neg this]
    · have hb : isP w y x = false := Bool.eq_false_iff.2 hx
      simp only [hb, Bool.not_false, if_true]
      by_cases hp : isP a b x = true
      · have h : ¬ (a, b) = (w, y) := fun e => hx (by rw [isP_iff] at hp ⊢; rw [hp, e])
        rw [if_neg h, List.find?_cons_of_pos hp, List.find?_cons_of_pos hp]
      · rw [List.find?_cons_of_neg hp, List.find?_cons_of_neg hp]
        exact ih
theorem whosP_mem2 {l : List Memo} {old : List Floor} {a : Int} : a ∈ whosP l old ↔ a ∈ l.map Memo.who ∨ a ∈ old.map Floor.who := by
  rw [whosP_mem, List.mem_map, List.mem_map]
/-- What keeping does to the rest. -/
structure KeepOk (m k : Memos) (w q : Int) (r : Reply) : Prop where
  other : ∀ a b, a ≠ w → lookF k.l.l a b = lookF m.l.l a b
  found : ∀ b x, lookF k.l.l w b = some x → (b = q ∧ x.rep = r) ∨ lookF m.l.l w b = some x
  lost : ∀ b, lookF k.l.l w b = none → (lookF m.l.l w b = none ∧ b ≠ q) ∨ (hasP k.old.l w = true ∧ b ≤ floorP k.old.l w)
  fo : ∀ a, a ≠ w → floorP k.old.l a = floorP m.old.l a ∧ hasP k.old.l a = hasP m.old.l a
  fw : hasP m.old.l w = true → hasP k.old.l w = true ∧ floorP m.old.l w ≤ floorP k.old.l w
  who : ∀ a, a ∈ whosP k.l.l k.old.l ↔ a = w ∨ a ∈ whosP m.l.l m.old.l
theorem keep_KeepOk {m : Memos} {w q : Int} (r : Reply) (h1 : (lookP m.l.l m.old.l w q).2.1 = false) (h2 : (lookP m.l.l m.old.l w q).2.2 = 0) (hn : (m.l.l.map mkey).Nodup) : KeepOk m (keepM m w q r) w q r := by
  have hk := kept_ok h1 h2
  rcases keep_ways r h1 h2 hn with ⟨e0, e1, e2⟩ | ⟨y, e0, e1, e2, e3, e4⟩
  · refine ⟨fun a b ha => ?_, fun b x hx => ?_, fun b hb => ?_, fun a ha => by rw [e2]; exact ⟨rfl, rfl⟩, fun h => by rw [e2]; exact ⟨h, Int.le_refl _⟩, fun a => ?_⟩
    · rw [e1, lookF_app]
      cases lookF m.l.l a b with
      | some x => rfl
      | none => simp only; rw [if_neg fun e => ha (Prod.mk.inj e).1]
    · rw [e1, lookF_app] at hx
      cases hq : lookF m.l.l w b with
      | some z => rw [hq] at hx; exact .inr hx
      | none =>
        rw [hq] at hx
        simp only at hx
        split at hx
        · rename_i he
          cases hx
          exact .inl ⟨(Prod.mk.inj he).2, rfl⟩
        · cases hx
    · rw [e1, lookF_app] at hb
      cases hq : lookF m.l.l w b with
      | some z => rw [hq] at hb; cases hb
      | none =>
        rw [hq] at hb
        simp only at hb
        split at hb
        · cases hb
        · rename_i he; exact .inl ⟨rfl, fun e => he (by rw [e])⟩
    · rw [whosP_mem2, whosP_mem2, e1, e2]
      unfold keepL1
      rw [List.map_append, List.mem_append]
      simp only [List.map_cons, List.map_nil, List.mem_singleton]
      constructor
      · rintro ((h | h) | h)
        · exact .inr (.inl h)
        · exact .inl h
        · exact .inr (.inr h)
      · rintro (h | h | h)
        · exact .inl (.inr h)
        · exact .inl (.inl h)
        · exact .inr h
  · have hfl := fun a => floorP_raise w a y m.old.l
    have hwho := raiseP_who w y m.old.l
    have hhas : hasP (keepM m w q r).old.l w = true := by
      rw [hasP_iff, e2, hwho]
      split
      · rename_i h; exact hasP_iff.1 h
      · simp
    have hfw : y ≤ floorP (keepM m w q r).old.l w := by
      rw [e2, hfl, if_pos rfl]; split <;> omega
    refine ⟨fun a b ha => ?_, fun b x hx => ?_, fun b hb => ?_, fun a ha => ?_, fun h => ?_, fun a => ?_⟩
    · rw [e1, lookF_filter, if_neg fun e => ha (Prod.mk.inj e).1, lookF_app]
      cases lookF m.l.l a b with
      | some x => rfl
      | none => simp only; rw [if_neg fun e => ha (Prod.mk.inj e).1]
    · rw [e1, lookF_filter] at hx
      split at hx
      · cases hx
      · rw [lookF_app] at hx
        cases hq : lookF m.l.l w b with
        | some z => rw [hq] at hx; exact .inr hx
        | none =>
          rw [hq] at hx
          simp only at hx
          split at hx
          · rename_i he
            cases hx
            exact .inl ⟨(Prod.mk.inj he).2, rfl⟩
          · cases hx
    · rw [e1, lookF_filter] at hb
      split at hb
      · rename_i he
        refine .inr ⟨hhas, ?_⟩
        rw [(Prod.mk.inj he).2]; exact hfw
      · rw [lookF_app] at hb
        cases hq : lookF m.l.l w b with
        | some z => rw [hq] at hb; cases hb
        | none =>
          rw [hq] at hb
          simp only at hb
          split at hb
          · cases hb
          · rename_i he; exact .inl ⟨rfl, fun e => he (by rw [e])⟩
    · refine ⟨by rw [e2, hfl, if_neg ha], ?_⟩
      rw [Bool.eq_iff_iff, hasP_iff, hasP_iff, e2, hwho]
      split
      · rfl
      · rw [List.mem_append, List.mem_singleton]
        exact ⟨fun h => h.elim id fun e => absurd e ha, .inl⟩
    · refine ⟨hhas, ?_⟩
      rw [e2, hfl, if_pos rfl, if_pos h]; omega
    · have hwin : w ∈ (raiseP m.old.l w y).map Floor.who := by
        have := hasP_iff.1 hhas
        rw [e2] at this; exact this
      rw [whosP_mem2, whosP_mem2, e1, e2]
      by_cases ha : a = w
      · subst ha; simp [hwin]
      · have hm1 : a ∈ ((keepL1 m.l.l w q r).filter fun x => !isP w y x).map Memo.who ↔ a ∈ m.l.l.map Memo.who := by
          unfold keepL1
          rw [List.mem_map, List.mem_map]
          constructor
          · rintro ⟨x, hx, rfl⟩
            rw [List.mem_filter, List.mem_append] at hx
            rcases hx.1 with h | h
            · exact ⟨x, h, rfl⟩
            · rw [List.mem_singleton] at h; subst h; exact absurd rfl ha
          · rintro ⟨x, hx, rfl⟩
            refine ⟨x, ?_, rfl⟩
            rw [List.mem_filter, List.mem_append]
            refine ⟨.inl hx, ?_⟩
            have : isP w y x = false := by unfold isP; simp [ha]
            simp [this]
        have hm2 : a ∈ (raiseP m.old.l w y).map Floor.who ↔ a ∈ m.old.l.map Floor.who := by
          rw [hwho]
          split
          · rfl
          · rw [List.mem_append, List.mem_singleton]
            exact ⟨fun h => h.elim id fun e => absurd e ha, .inl⟩
        rw [hm1, hm2]
        exact ⟨.inr, fun h => h.elim (fun e => absurd e ha) id⟩
theorem seqL_filter (l : List Memo) (w y w' : Int) : seqL (l.filter fun x => !isP w y x) w' = if w' = w then (seqL l w').filter (fun s => decide (s ≠ y)) else seqL l w' := by
  unfold seqL
  rw [List.filter_filter]
  by_cases h : w' = w
  · subst h
    rw [if_pos rfl, List.filter_map, List.filter_filter]
    congr 1
    apply List.filter_congr
    intro x _
    unfold isP
    by_cases hx : x.who = w' <;> simp [hx]
  · rw [if_neg h]
    congr 1
    apply List.filter_congr
    intro x _
    unfold isP
    by_cases hx : x.who = w'
    · have : ¬ x.who = w := fun e => h (by rw [← hx, e])
      simp [hx, h]
    · simp [hx]
theorem keep_MayOk {m : Memos} {w q : Int} (r : Reply) (h1 : (lookP m.l.l m.old.l w q).2.1 = false) (h2 : (lookP m.l.l m.old.l w q).2.2 = 0) (hm : MayOk m.l.l m.old.l) : MayOk (keepM m w q r).l.l (keepM m w q r).old.l := by
  have hk := kept_ok h1 h2
  have hko := keep_KeepOk r h1 h2 hm.keys
  have hkn := keep1_keys r hk hm.keys
  have hwhos : (whosP (keepM m w q r).l.l (keepM m w q r).old.l).length ≤ 8 := by
    by_cases hin : w ∈ whosP m.l.l m.old.l
    · have := nodup_sub_len (whosP_nodup (keepM m w q r).l.l (keepM m w q r).old.l) (b := whosP m.l.l m.old.l) (fun a ha => ((hko.who a).1 ha).elim (fun e => e ▸ hin) id)
      have := hm.whos; omega
    · have := nodup_sub_len (whosP_nodup (keepM m w q r).l.l (keepM m w q r).old.l) (b := w :: whosP m.l.l m.old.l) (fun a ha => ((hko.who a).1 ha).elim (fun e => by rw [e]; simp) fun h => List.mem_cons_of_mem _ h)
      rw [List.length_cons] at this
      have h8 : ¬ 8 ≤ (whosP m.l.l m.old.l).length := fun h => hk.room ⟨h, hin⟩
      omega
  have hnew : ∀ f ∈ m.old.l, f.who = w → f.seq < q := fun f hf hw => by
    have := floorP_mem hm.fl hf
    rw [hw] at this
    have := hk.fl; omega
  have habove : ∀ x ∈ keepL1 m.l.l w q r, ∀ f ∈ m.old.l, f.who = x.who → f.seq < x.seq := by
    intro x hx f hf hw
    unfold keepL1 at hx
    rcases List.mem_append.1 hx with hx | hx
    · exact hm.above x hx f hf hw
    · rw [List.mem_singleton] at hx; subst hx; exact hnew f hf hw
  rcases keep_ways r h1 h2 hm.keys with ⟨e0, e1, e2⟩ | ⟨y, e0, e1, e2, e3, e4⟩
  · refine ⟨by rw [e2]; exact hm.fl, by rw [e1]; exact hkn, by rw [e1, e2]; exact habove, fun w' => ?_, hwhos⟩
    rw [e1, seqL_keep]
    split
    · rename_i h; subst h; simp; omega
    · exact hm.cnt w'
  · refine ⟨?_, ?_, ?_, fun w' => ?_, hwhos⟩
    · rw [e2, raiseP_who]
      split
      · exact hm.fl
      · rename_i h
        rw [List.nodup_append]
        refine ⟨hm.fl, by simp, fun a ha b hb => ?_⟩
        rw [List.mem_singleton] at hb
        subst hb
        intro e; subst e
        exact h (hasP_iff.2 ha)
    · rw [e1]
      exact (List.Sublist.map mkey List.filter_sublist).nodup hkn
    · rw [e1, e2]
      intro x hx f hf hw
      rw [List.mem_filter] at hx
      obtain ⟨hx1, hx2⟩ := hx
      rcases raiseP_mem hf with hf | ⟨g1, g2, g3 | ⟨g, g4, g5, g6⟩⟩
      · exact habove x hx1 f hf hw
      · have hxy : x.seq ≠ y := fun e => by
          have : isP w y x = true := isP_iff.2 (by unfold mkey; rw [← hw, g1, e])
          rw [this] at hx2; simp at hx2
        have := e4 x hx1 (by rw [← hw, g1])
        omega
      · have := habove x hx1 g g4 (by rw [g5, ← hw, g1])
        omega
    · rw [e1, seqL_filter]
      split
      · rename_i h
        subst h
        have hy : y ∈ seqL (keepL1 m.l.l w' q r) w' := by
          obtain ⟨x, hx, hp⟩ := e3
          have := isP_iff.1 hp
          unfold mkey at this
          unfold seqL
          refine List.mem_map.2 ⟨x, List.mem_filter.2 ⟨hx, by simpa using (Prod.mk.inj this).1⟩, (Prod.mk.inj this).2⟩
        have hl : ((seqL (keepL1 m.l.l w' q r) w').filter fun s => decide (s ≠ y)).length < (seqL (keepL1 m.l.l w' q r) w').length := by
          rw [List.length_filter_lt_length_iff_exists]
          exact ⟨y, hy, by simp⟩
        have hl2 : (seqL (keepL1 m.l.l w' q r) w').length = (seqL m.l.l w').length + 1 := by rw [seqL_keep, if_pos rfl]; simp
        have := hm.cnt w'
        omega
      · rename_i h
        rw [seqL_keep, if_neg h]; exact hm.cnt w'
end Go.Proofs.Ytibnbcljmfigfaa
