/- Which memos may be. -/
import Derived.Test.YtibnbcljmfigfaaSMemo8
namespace Go.Proofs.Ytibnbcljmfigfaa
open Go Go.AM Go.Proofs
set_option maxRecDepth 20000
set_option linter.unusedSimpArgs false
set_option linter.unusedVariables false
set_option linter.defProp false
def flF (b : List (Int × Int)) (x : Floor) : List (Int × Int) ⊕ Unit := if (getA x.who b).isSome = true then .inr () else .inl (setA x.who x.seq b)
def goFl : List Floor → List (Int × Int) → Option (List (Int × Int))
  | [], b => some b
  | x :: l, b => if (getA x.who b).isSome = true then none else goFl l (setA x.who x.seq b)
def badM (F : List (Int × Int)) (met : List (Int × Int)) (x : Memo) : Bool := met.contains (mkey x) || (match getA x.who F with | some f => decide (x.seq ≤ f) | none => false)
def cntN (cnt : List (Int × Int)) (w : Int) : Int := (getA w cnt).getD 0
def goMe (F : List (Int × Int)) : List Memo → List (Int × Int) → List (Int × Int) → Bool
  | [], _, _ => true
  | x :: l, met, cnt => if badM F met x = true then false else if 4 < cntN cnt x.who + 1 then false else goMe F l (met ++ [mkey x]) (setA x.who (cntN cnt x.who + 1) cnt)
def mayMe (l : List Memo) (old : List Floor) : Bool := match goFl old [] with | some F => goMe F l [] [] && decide ((whosP l old).length ≤ 8) | none => false
theorem getA_none {β : Type} {k : Int} : ∀ {l : List (Int × β)}, getA k l = none ↔ k ∉ l.map (·.1)
  | [] => by simp [getA]
  | p :: l => by
    unfold getA
    by_cases h : p.1 = k
    · rw [if_pos h]; simp [h]
    · rw [if_neg h, getA_none]
      have h' : ¬ k = p.1 := fun e => h e.symm
      simp [h']
theorem getA_some {β : Type} {k : Int} {v : β} : ∀ {l : List (Int × β)}, getA k l = some v → (k, v) ∈ l
  | [], h => by simp [getA] at h
  | p :: l, h => by
    unfold getA at h
    by_cases h1 : p.1 = k
    · rw [if_pos h1] at h; cases h; subst h1; simp
    · rw [if_neg h1] at h; exact List.mem_cons_of_mem _ (getA_some h)
theorem getA_mem {β : Type} {k : Int} {v : β} : ∀ {l : List (Int × β)}, (l.map (·.1)).Nodup → (k, v) ∈ l → getA k l = some v
  | [], _, h => by simp at h
  | p :: l, hn, h => by
    rw [List.map_cons, List.nodup_cons] at hn
    unfold getA
    rcases List.mem_cons.1 h with rfl | h
    · rw [if_pos rfl]
    · have : p.1 ≠ k := fun e => hn.1 (by rw [e]; exact List.mem_map.2 ⟨(k, v), h, rfl⟩)
      rw [if_neg this]; exact getA_mem hn.2 h
theorem setA_new {β : Type} {k : Int} {v : β} : ∀ {l : List (Int × β)}, getA k l = none → setA k v l = l ++ [(k, v)]
  | [], _ => rfl
  | p :: l, h => by
    unfold getA at h
    unfold setA
    by_cases h1 : p.1 = k
    · rw [if_pos h1] at h; cases h
    · rw [if_neg h1] at h ⊢; rw [setA_new h]; rfl
theorem getA_set {β : Type} {k k' : Int} {v : β} : ∀ {l : List (Int × β)}, getA k' (setA k v l) = if k' = k then some v else getA k' l
  | [] => by
    unfold setA getA
    by_cases h : k' = k
    · rw [if_pos h, if_pos h.symm]
    · rw [if_neg h, if_neg fun e => h e.symm]; rfl
  | p :: l => by
    unfold setA
    by_cases h1 : p.1 = k
    · rw [if_pos h1]
      rw [show getA k' ((k, v) :: l) = if k = k' then some v else getA k' l from rfl, show getA k' (p :: l) = if p.1 = k' then some p.2 else getA k' l from rfl]
      by_cases h : k' = k
      · rw [if_pos h, if_pos h.symm]
      · rw [if_neg h, if_neg fun e => h e.symm, if_neg fun e => h (by rw [← e, h1])]
    · rw [if_neg h1]
      rw [show getA k' (p :: setA k v l) = if p.1 = k' then some p.2 else getA k' (setA k v l) from rfl, getA_set (l := l), show getA k' (p :: l) = if p.1 = k' then some p.2 else getA k' l from rfl]
      by_cases h : p.1 = k'
      · rw [if_pos h, if_pos h, if_neg fun e => h1 (by rw [h, e])]
      · rw [if_neg h, if_neg h]
def flP (x : Floor) : Int × Int := (x.who, x.seq)
theorem goFl_iff : ∀ (l p : List Floor), goFl l (p.map flP) = if (l.map Floor.who).Nodup ∧ (∀ x ∈ l, x.who ∉ p.map Floor.who) then some ((p ++ l).map flP) else none
  | [], p => by simp [goFl]
  | x :: l, p => by
    unfold goFl
    have hk : ((p.map flP).map (·.1)) = p.map Floor.who := by rw [List.map_map]; rfl
    by_cases h : x.who ∈ p.map Floor.who
    · have h1 : (getA x.who (p.map flP)).isSome = true := by
        cases hq : getA x.who (p.map flP) with
        | some v => rfl
        | none => rw [getA_none, hk] at hq; exact absurd h hq
      rw [if_pos h1, if_neg]
      rintro ⟨_, h2⟩
      exact h2 x (by simp) h
    · have h1 : getA x.who (p.map flP) = none := by rw [getA_none, hk]; exact h
      rw [h1]
      simp only [Option.isSome_none, Bool.false_eq_true, if_false]
      rw [setA_new h1]
      have := goFl_iff l (p ++ [x])
      rw [List.map_append] at this
      rw [show p.map flP ++ [(x.who, x.seq)] = p.map flP ++ [x].map flP from rfl, this]
      rw [List.append_assoc, List.singleton_append]
      by_cases hc : (l.map Floor.who).Nodup ∧ ∀ y ∈ l, y.who ∉ (p ++ [x]).map Floor.who
      · rw [if_pos hc, if_pos]
        obtain ⟨c1, c2⟩ := hc
        refine ⟨by
          rw [List.map_cons, List.nodup_cons]
          refine ⟨fun hm => ?_, c1⟩
          obtain ⟨y, hy, he⟩ := List.mem_map.1 hm
          exact c2 y hy (by rw [he]; simp), fun y hy => ?_⟩
        rcases List.mem_cons.1 hy with rfl | hy
        · exact h
        · have := c2 y hy
          rw [List.map_append, List.mem_append, not_or] at this
          exact this.1
      · rw [if_neg hc, if_neg]
        rintro ⟨d1, d2⟩
        rw [List.map_cons, List.nodup_cons] at d1
        refine hc ⟨d1.2, fun y hy => ?_⟩
        rw [List.map_append, List.mem_append, not_or]
        refine ⟨d2 y (List.mem_cons_of_mem _ hy), fun hm => ?_⟩
        have : y.who = x.who := by simpa using hm
        exact d1.1 (by rw [← this]; exact List.mem_map.2 ⟨y, hy, rfl⟩)
theorem seqL_app (a b : List Memo) (w : Int) : seqL (a ++ b) w = seqL a w ++ seqL b w := by unfold seqL; rw [List.filter_append, List.map_append]
theorem seqL_one (x : Memo) (w : Int) : (seqL [x] w).length = if x.who = w then 1 else 0 := by unfold seqL; by_cases h : x.who = w <;> simp [h]
theorem goMe_iff (F : List (Int × Int)) : ∀ (l p : List Memo) (cnt : List (Int × Int)), (∀ w, cntN cnt w = ((seqL p w).length : Int)) →
    (goMe F l (p.map mkey) cnt = true ↔ (l.map mkey).Nodup ∧ (∀ x ∈ l, mkey x ∉ p.map mkey) ∧ (∀ x ∈ l, ∀ f, getA x.who F = some f → f < x.seq) ∧ (∀ x ∈ l, (seqL (p ++ l) x.who).length ≤ 4))
  | [], p, cnt, _ => by simp [goMe]
  | x :: l, p, cnt, hc => by
    unfold goMe
    have hbad : badM F (p.map mkey) x = false ↔ mkey x ∉ p.map mkey ∧ ∀ f, getA x.who F = some f → f < x.seq := by
      unfold badM
      rw [Bool.or_eq_false_iff, List.contains_eq_mem, decide_eq_false_iff_not]
      refine and_congr_right fun _ => ?_
      cases getA x.who F with
      | none => simp
      | some f => simp
    have hcn : ∀ w, cntN (setA x.who (cntN cnt x.who + 1) cnt) w = ((seqL (p ++ [x]) w).length : Int) := fun w => by
      unfold cntN
      rw [getA_set, seqL_app, List.length_append, seqL_one]
      have := hc w
      unfold cntN at this
      by_cases h : w = x.who
      · subst h; rw [if_pos rfl, if_pos rfl, Option.getD_some, this]; omega
      · rw [if_neg h, if_neg fun e => h e.symm, this]; omega
    cases hb : badM F (p.map mkey) x
    · simp only [Bool.false_eq_true, if_false]
      obtain ⟨b1, b2⟩ := hbad.1 hb
      have ih := goMe_iff F l (p ++ [x]) (setA x.who (cntN cnt x.who + 1) cnt) hcn
      rw [List.map_append, List.map_cons, List.map_nil] at ih
      have hx := hc x.who
      have hmono : ∀ w, (seqL (p ++ x :: l) w).length = (seqL p w).length + (seqL [x] w).length + (seqL l w).length := fun w => by
        rw [show p ++ x :: l = p ++ ([x] ++ l) from rfl, seqL_app, seqL_app]; simp only [List.length_append]; omega
      by_cases h4 : 4 < cntN cnt x.who + 1
      · rw [if_pos h4]
        simp only [Bool.false_eq_true, false_iff]
        rintro ⟨_, _, _, d⟩
        have := d x (by simp)
        rw [hmono, seqL_one, if_pos rfl] at this
        omega
      · rw [if_neg h4, ih]
        rw [show p ++ [x] ++ l = p ++ x :: l by simp]
        constructor
        · rintro ⟨d1, d2, d3, d4⟩
          refine ⟨?_, ?_, ?_, ?_⟩
          · rw [List.map_cons, List.nodup_cons]
            refine ⟨fun hm => ?_, d1⟩
            obtain ⟨y, hy, he⟩ := List.mem_map.1 hm
            exact d2 y hy (by rw [he]; simp)
          · intro y hy
            rcases List.mem_cons.1 hy with rfl | hy
            · exact b1
            · exact fun hm => d2 y hy (List.mem_append_left _ hm)
          · intro y hy
            rcases List.mem_cons.1 hy with rfl | hy
            · exact b2
            · exact d3 y hy
          · intro y hy
            rcases List.mem_cons.1 hy with rfl | hy
            · by_cases hin : ∃ z ∈ l, z.who = y.who
              · obtain ⟨z, hz, hzw⟩ := hin
                have := d4 z hz
                rw [hzw] at this; exact this
              · have h0 : seqL l y.who = [] := by
                  unfold seqL
                  rw [List.map_eq_nil_iff, List.filter_eq_nil_iff]
                  intro z hz
                  have : ¬ z.who = y.who := fun e => hin ⟨z, hz, e⟩
                  simp [this]
                rw [hmono, h0, seqL_one, if_pos rfl]
                simp only [List.length_nil]; omega
            · exact d4 y hy
        · rintro ⟨d1, d2, d3, d4⟩
          rw [List.map_cons, List.nodup_cons] at d1
          refine ⟨d1.2, ?_, fun y hy => d3 y (List.mem_cons_of_mem _ hy), fun y hy => d4 y (List.mem_cons_of_mem _ hy)⟩
          intro y hy hm
          rcases List.mem_append.1 hm with hm | hm
          · exact d2 y (List.mem_cons_of_mem _ hy) hm
          · rw [List.mem_singleton] at hm
            exact d1.1 (by rw [← hm]; exact List.mem_map.2 ⟨y, hy, rfl⟩)
    · simp only [if_true, Bool.false_eq_true, false_iff]
      rintro ⟨_, d2, d3, _⟩
      have := hbad.2 ⟨d2 x (by simp), d3 x (by simp)⟩
      rw [this] at hb; cases hb
structure MayOk (l : List Memo) (old : List Floor) : Prop where
  fl : (old.map Floor.who).Nodup
  keys : (l.map mkey).Nodup
  above : ∀ x ∈ l, ∀ f ∈ old, f.who = x.who → f.seq < x.seq
  cnt : ∀ w, (seqL l w).length ≤ 4
  whos : (whosP l old).length ≤ 8
theorem mayMe_iff {l : List Memo} {old : List Floor} : mayMe l old = true ↔ MayOk l old := by
  have h0 := goFl_iff old []
  simp only [List.map_nil, List.not_mem_nil, not_false_eq_true, implies_true, and_true, List.nil_append] at h0
  unfold mayMe
  rw [h0]
  by_cases hn : (old.map Floor.who).Nodup
  · rw [if_pos hn]
    simp only [Bool.and_eq_true, decide_eq_true_eq]
    have h1 := goMe_iff (old.map flP) l [] [] (fun w => by simp [cntN, getA, seqL])
    simp only [List.map_nil, List.not_mem_nil, not_false_eq_true, implies_true, true_and, List.nil_append] at h1
    rw [h1]
    have hk : ((old.map flP).map (·.1)) = old.map Floor.who := by rw [List.map_map]; rfl
    constructor
    · rintro ⟨⟨d1, d3, d4⟩, d5⟩
      refine ⟨hn, d1, fun x hx f hf hw => d3 x hx f.seq ?_, fun w => ?_, d5⟩
      · rw [← hw]
        exact getA_mem (by rw [hk]; exact hn) (List.mem_map.2 ⟨f, hf, rfl⟩)
      · by_cases hin : ∃ z ∈ l, z.who = w
        · obtain ⟨z, hz, rfl⟩ := hin; exact d4 z hz
        · have h0 : seqL l w = [] := by
            unfold seqL
            rw [List.map_eq_nil_iff, List.filter_eq_nil_iff]
            intro z hz
            have : ¬ z.who = w := fun e => hin ⟨z, hz, e⟩
            simp [this]
          rw [h0]; simp
    · rintro ⟨c1, c2, c3, c4, c5⟩
      refine ⟨⟨c2, fun x hx f hf => ?_, fun x hx => c4 _⟩, c5⟩
      have := getA_some hf
      obtain ⟨fl, h1, h2⟩ := List.mem_map.1 this
      have e1 : fl.who = x.who := congrArg Prod.fst h2
      have e2 : fl.seq = f := congrArg Prod.snd h2
      rw [← e2]; exact c3 x hx fl h1 e1
  · rw [if_neg hn]
    simp only [Bool.false_eq_true, false_iff]
    exact fun h => hn h.fl
end Go.Proofs.Ytibnbcljmfigfaa
