/- Leases that may be: what becomes of them, in plain lists. -/
import Derived.Test.YtlcjocciianphaaSLease4
namespace Go.Proofs.Ytlcjocciianphaa
open Go Go.AM Go.Proofs
set_option linter.unusedSimpArgs false
set_option linter.unusedVariables false
theorem slOf_l {α : Type} (l : List α) : (slOf l).l = l := by unfold slOf; split <;> simp_all
theorem keepS_len (L : Leases) (id now : Int) : (keepS L id now).l.l.length = L.l.l.length := by
  unfold keepS
  by_cases h : timeOk now = true
  · rw [if_pos h]
    cases placeN id 0 L.l.l <;> simp
  · rw [if_neg h]
theorem grantS_len (L : Leases) (t now : Int) : (grantS L t now).l.l.length ≤ L.l.l.length + 1 := by
  unfold grantS
  by_cases h : grantOk L t now = 0
  · rw [if_pos h]; simp
  · rw [if_neg h]; omega
theorem hasS_iff {id : Int} {l : List Lease} : hasS id l = true ↔ ∃ x ∈ l, x.id = id := by
  unfold hasS
  have key : ∀ (l : List Lease) k, (placeN id k l).isSome = true ↔ ∃ x ∈ l, x.id = id := by
    intro l
    induction l with
    | nil => intro k; simp [placeN]
    | cons x l ih =>
      intro k
      simp only [placeN]
      by_cases h : x.id = id
      · simp [h]
      · simp [h, ih]
  exact key l 0
def fOk (next : Int) (x : Lease) : Prop := x.id ≤ next ∧ 1 ≤ x.ttl ∧ x.ttl ≤ 1000 ∧ 0 ≤ x.till ∧ x.till ≤ 1099511627775 + x.ttl
theorem mayG_iff {next : Int} : ∀ {l : List Lease} {last : Int}, mayG next last l = true ↔ (∀ x ∈ l, last < x.id ∧ fOk next x) ∧ l.Pairwise (fun x y => x.id < y.id) := by
  intro l
  induction l with
  | nil => intro last; simp [mayG]
  | cons x l ih =>
    intro last
    simp only [mayG, Bool.and_eq_true, okL_iff, ih, List.pairwise_cons, List.mem_cons, fOk]
    constructor
    · rintro ⟨⟨h1, h2⟩, h3, h4⟩
      refine ⟨?_, fun y hy => (h3 y hy).1, h4⟩
      rintro y (rfl | hy)
      · exact ⟨h1, h2⟩
      · have := h3 y hy; exact ⟨by omega, this.2⟩
    · rintro ⟨h1, h2, h3⟩
      exact ⟨h1 x (.inl rfl), fun y hy => ⟨h2 y hy, (h1 y (.inr hy)).2⟩, h3⟩
theorem mayS_iff {L : Leases} : mayS L = true ↔ (0 ≤ L.next ∧ L.next ≤ 1099511627775) ∧ L.l.l.length ≤ 8 ∧ (∀ x ∈ L.l.l, 0 < x.id ∧ fOk L.next x) ∧ L.l.l.Pairwise (fun x y => x.id < y.id) := by
  simp only [mayS, Bool.and_eq_true, timeOk_iff, decide_eq_true_eq, mayG_iff, and_assoc]
theorem grantOk_0 {L : Leases} {t now : Int} : grantOk L t now = 0 ↔ (1 ≤ t ∧ t ≤ 1000 ∧ timeOk now = true) ∧ ¬ (8 ≤ L.l.l.length ∨ 1099511627775 ≤ L.next) := by
  unfold grantOk
  by_cases h : 1 ≤ t ∧ t ≤ 1000 ∧ timeOk now = true
  · by_cases h2 : 8 ≤ L.l.l.length ∨ 1099511627775 ≤ L.next
    · simp only [if_pos h, if_pos h2]; simp [h2]
    · simp only [if_pos h, if_neg h2]; simp [h, h2]
  · simp only [if_neg h]; simp only [h, false_and, iff_false]; decide
theorem may_grant {L : Leases} (h : mayS L = true) (t now : Int) : mayS (grantS L t now) = true := by
  unfold grantS
  by_cases hg : grantOk L t now = 0
  · rw [if_pos hg]
    obtain ⟨⟨g1, g2, g3⟩, g4⟩ := grantOk_0.1 hg
    rw [timeOk_iff] at g3
    rw [mayS_iff] at h ⊢
    obtain ⟨h1, h2, h3, h4⟩ := h
    refine ⟨⟨by simp only; omega, by simp only; omega⟩, by simp; omega, ?_, ?_⟩
    · intro x hx
      simp only [Sl.l_of, List.mem_append, List.mem_singleton] at hx
      rcases hx with hx | rfl
      · have := h3 x hx
        simp only [fOk] at this ⊢; omega
      · simp only [fOk]; omega
    · simp only [Sl.l_of, List.pairwise_append, List.mem_singleton]
      refine ⟨h4, by simp, ?_⟩
      rintro x hx y rfl
      have := (h3 x hx).2.1
      simp only; omega
  · rw [if_neg hg]; exact h
theorem may_keep {L : Leases} (h : mayS L = true) (id now : Int) : mayS (keepS L id now) = true := by
  unfold keepS
  by_cases ht : timeOk now = true
  · rw [if_pos ht]
    rw [timeOk_iff] at ht
    rcases hp : placeN id 0 L.l.l with _ | i
    · exact h
    · simp only
      obtain ⟨hi, hid⟩ := place_some hp
      rw [mayS_iff] at h ⊢
      obtain ⟨h1, h2, h3, h4⟩ := h
      have hx := h3 _ (List.getElem_mem hi)
      have hg : L.l.l[i]?.getD default = L.l.l[i] := by simp [hi]
      refine ⟨h1, by simpa using h2, ?_, ?_⟩
      · intro x hm
        simp only [Sl.l_of] at hm
        rcases List.mem_or_eq_of_mem_set hm with hm | rfl
        · exact h3 x hm
        · rw [hg]
          simp only [fOk, keptL] at hx ⊢
          split <;> omega
      · have e : (L.l.l.set i (keptL (L.l.l[i]?.getD default) now)).map Lease.id = L.l.l.map Lease.id := by
          rw [List.map_set, hg]
          simp only [keptL]
          rw [show L.l.l[i].id = (L.l.l.map Lease.id)[i]'(by simpa using hi) by simp, List.set_getElem_self]
        have := (List.pairwise_map (f := Lease.id) (R := fun a b : Int => a < b)).2 h4
        rw [← e] at this
        exact List.pairwise_map.1 this
  · rw [if_neg ht]; exact h
theorem endL'_erase (l : List Lease) (i : Nat) : endL' l i = l.eraseIdx i := by
  rw [endL', List.eraseIdx_eq_take_drop_succ]
theorem may_end {L : Leases} (h : mayS L = true) (id : Int) : mayS (endS L id) = true := by
  unfold endS
  rcases hp : placeN id 0 L.l.l with _ | i
  · exact h
  · simp only
    rw [mayS_iff] at h ⊢
    obtain ⟨h1, h2, h3, h4⟩ := h
    have hs : (endL' L.l.l i).Sublist L.l.l := by rw [endL'_erase]; exact List.eraseIdx_sublist _ _
    simp only [slOf_l]
    exact ⟨h1, by have := hs.length_le; omega, fun x hx => h3 x (hs.subset hx), h4.sublist hs⟩
theorem end_has {L : Leases} (h : mayS L = true) (id : Int) : hasS id (endS L id).l.l = false := by
  rw [Bool.eq_false_iff, ne_eq, hasS_iff]
  rintro ⟨x, hx, hid⟩
  unfold endS at hx
  rcases hp : placeN id 0 L.l.l with _ | i
  · rw [hp] at hx
    have : hasS id L.l.l = true := hasS_iff.2 ⟨x, hx, hid⟩
    simp [hasS, hp] at this
  · rw [hp] at hx
    simp only [slOf_l, endL'] at hx
    obtain ⟨hi, hii⟩ := place_some hp
    have h4 := (mayS_iff.1 h).2.2.2
    have e : L.l.l = L.l.l.take i ++ L.l.l[i] :: L.l.l.drop (i + 1) := by simp
    rw [e, List.pairwise_append] at h4
    obtain ⟨_, h5, h6⟩ := h4
    rw [List.pairwise_cons] at h5
    rcases List.mem_append.1 hx with hx | hx
    · have := h6 x hx _ (List.mem_cons_self ..)
      omega
    · have := h5.1 x hx
      omega
theorem grant_no {L : Leases} {t now : Int} (h : grantOk L t now ≠ 0) : grantS L t now = L ∧ grantI L t now = 0 := by
  simp [grantS, grantI, h]
theorem grant_yes {L : Leases} {t now : Int} (hm : mayS L = true) (h : grantOk L t now = 0) :
    grantI L t now = L.next + 1 ∧ hasS (L.next + 1) (grantS L t now).l.l = true ∧ hasS (L.next + 1) L.l.l = false ∧ (grantS L t now).l.l.length = L.l.l.length + 1 := by
  refine ⟨by simp [grantI, h], ?_, ?_, by simp [grantS, h]⟩
  · rw [hasS_iff]
    exact ⟨⟨L.next + 1, t, now + t⟩, by simp [grantS, h], rfl⟩
  · rw [Bool.eq_false_iff, ne_eq, hasS_iff]
    rintro ⟨x, hx, hid⟩
    have := ((mayS_iff.1 hm).2.2.1 x hx).2.1
    omega
theorem keepE_0 {L : Leases} {id now : Int} : keepE L id now = 0 ↔ timeOk now = true ∧ hasS id L.l.l = true := by
  unfold keepE
  cases timeOk now <;> cases hasS id L.l.l <;> simp
theorem keep_no {L : Leases} {id now : Int} (h : keepE L id now ≠ 0) : keepS L id now = L ∧ keepT L id now = 0 := by
  unfold keepS keepT
  by_cases ht : timeOk now = true
  · rcases hp : placeN id 0 L.l.l with _ | i
    · simp [ht]
    · exact absurd (keepE_0.2 ⟨ht, by simp [hasS, hp]⟩) h
  · simp [ht]
theorem endE_0 {L : Leases} {id : Int} : endE L id = 0 ↔ hasS id L.l.l = true := by
  unfold endE; cases hasS id L.l.l <;> simp
theorem end_no {L : Leases} {id : Int} (h : endE L id ≠ 0) : endS L id = L := by
  unfold endS
  rcases hp : placeN id 0 L.l.l with _ | i
  · rfl
  · exact absurd (endE_0.2 (by simp [hasS, hp])) h
theorem may_small {L : Leases} (h : mayS L = true) : smallT L := by
  obtain ⟨_, h2, h3, _⟩ := mayS_iff.1 h
  exact ⟨by omega, fun x hx => by have := (h3 x hx).2; simp only [fOk] at this; omega⟩
theorem may_wf {L : Leases} (h : mayS L = true) : L.wf := by
  obtain ⟨h1, h2, h3, _⟩ := mayS_iff.1 h
  refine ⟨⟨by omega, by omega⟩, fun x hx => ?_, by omega⟩
  have := h3 x hx
  simp only [fOk] at this
  exact ⟨⟨by omega, by omega⟩, ⟨by omega, by omega⟩, ⟨by omega, by omega⟩⟩
end Go.Proofs.Ytlcjocciianphaa
