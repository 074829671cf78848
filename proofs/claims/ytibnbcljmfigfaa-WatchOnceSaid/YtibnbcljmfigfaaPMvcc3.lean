/- What Apply and Shrink make of stores that may be. Pure. -/
import Derived.Test.YtibnbcljmfigfaaPMvcc2
import Derived.Test.YtibnbcljmfigfaaSMvcc7
namespace Go.Proofs.Ytibnbcljmfigfaa
open Go Go.AM Go.Proofs
set_option linter.unusedSimpArgs false
set_option linter.unusedVariables false
set_option linter.defProp false
theorem more_facts {s : Store} (h : SOk s) {ms : List Mut} (hm : mayM ms = true) : (∀ e ∈ (moreP s ms).1, e.rev = s.rev + 1) ∧ (moreP s ms).1.length = actsN (nowP s) ms ∧ (moreP s ms).2.1 = (moreP s ms).1.foldl actP (nowP s) ∧
    (∀ k, getK ((moreP s ms).1.foldl actP (nowP s)) k = outK (s.rev + 1) (nowP s) ms k) ∧ Srt ((moreP s ms).1.foldl actP (nowP s)) ∧ ((moreP s ms).2.2 = false → ∀ last, last ≤ s.rev + 1 → logOk (s.rev + 1) (nowP s) last (moreP s ms).1 = true) := by
  have hg := h.nowGood
  have hr := h.revM
  have h0 := h.low0
  have h1 := h.lowr
  unfold mayM at hm
  rw [Bool.and_eq_true] at hm
  obtain ⟨E, b, k1, k2, k3, k4, k5, k6⟩ := apply_ind (rev := s.rev + 1) (by omega) (by omega) ms [] [] (nowP s) false ⟨hg.srt, fun x hx => ⟨(hg.one x hx).1, by have := (hg.one x hx).2; omega, fun _ => by have := (hg.one x hx).2; omega⟩⟩ hm.1
  have e : moreP s ms = (E, E.foldl actP (nowP s), b) := by unfold moreP; rw [show foldP s.base.l s.log.l s.rev = nowP s from rfl, k1]; rfl
  rw [e]
  exact ⟨k2, k3, rfl, k4, k5, fun hb => (k6 hb).2⟩
theorem applyE_zero {s : Store} {ms : List Mut} (h : applyE s ms = 0) : mayM ms = true ∧ ((moreP s ms).1 = [] ∨ (moreP s ms).2.2 = false ∧ s.rev ≠ 1099511627774 ∧ s.log.l.length + (moreP s ms).1.length ≤ 60) := by
  unfold applyE at h
  by_cases h1 : mayM ms = true
  · rw [if_pos h1] at h
    by_cases h2 : (moreP s ms).1 = []
    · exact ⟨h1, .inl h2⟩
    · rw [if_neg h2] at h
      refine ⟨h1, .inr ?_⟩
      by_cases h3 : (moreP s ms).2.2 = true ∨ s.rev = 1099511627774 ∨ 60 < s.log.l.length + (moreP s ms).1.length
      · rw [if_pos h3] at h; omega
      · refine ⟨Bool.eq_false_iff.2 fun hh => h3 (.inl hh), fun hh => h3 (.inr (.inl hh)), ?_⟩
        have : ¬ 60 < s.log.l.length + (moreP s ms).1.length := fun hh => h3 (.inr (.inr hh))
        omega
  · rw [if_neg h1] at h; omega
theorem applyN_iff {s : Store} {ms : List Mut} : applyN s ms = true ↔ applyE s ms = 0 ∧ (moreP s ms).1 ≠ [] := by
  unfold applyN
  rw [Bool.and_eq_true, decide_eq_true_eq, Bool.not_eq_true', decide_eq_false_iff_not]
theorem applyN_false {s : Store} {ms : List Mut} (h : applyN s ms = false) : applyS s ms = s ∧ applyV s ms = .nil := by
  unfold applyS applyV
  rw [h]; exact ⟨rfl, rfl⟩
theorem applyN_true {s : Store} {ms : List Mut} (h : applyN s ms = true) : applyS s ms = ⟨s.rev + 1, s.low, s.base, .of (s.log.l ++ (moreP s ms).1)⟩ ∧ applyV s ms = .of (moreP s ms).1 := by
  unfold applyS applyV
  rw [if_pos h, if_pos h]; exact ⟨rfl, rfl⟩
/-- What there was is as it was. -/
theorem fold_old {s : Store} (h : SOk s) {ms : List Mut} (hN : applyN s ms = true) {rev : Int} (hr : rev ≤ s.rev) : foldP (applyS s ms).base.l (applyS s ms).log.l rev = foldP s.base.l s.log.l rev := by
  obtain ⟨h1, -⟩ := applyN_iff.1 hN
  obtain ⟨hm, -⟩ := applyE_zero h1
  obtain ⟨f1, -⟩ := more_facts h hm
  rw [(applyN_true hN).1]
  simp only [Sl.l_of]
  rw [foldP_app, foldP_gt fun e he => by rw [f1 e he]; omega]
theorem now_new {s : Store} (h : SOk s) {ms : List Mut} (hN : applyN s ms = true) : nowP (applyS s ms) = (moreP s ms).1.foldl actP (nowP s) := by
  obtain ⟨h1, -⟩ := applyN_iff.1 hN
  obtain ⟨hm, -⟩ := applyE_zero h1
  obtain ⟨f1, -⟩ := more_facts h hm
  rw [(applyN_true hN).1]
  unfold nowP
  simp only [Sl.l_of]
  rw [foldP_app, foldP_le (a := (moreP s ms).1) fun e he => by rw [f1 e he]; exact Int.le_refl _]
  rw [foldP_le fun e he => by have := (h.all e he).2; omega, ← h.now]; rfl
theorem apply_SOk {s : Store} (h : SOk s) (ms : List Mut) : SOk (applyS s ms) := by
  cases hN : applyN s ms
  · rw [(applyN_false hN).1]; exact h
  · obtain ⟨h1, h2⟩ := applyN_iff.1 hN
    obtain ⟨hm, h3⟩ := applyE_zero h1
    have h3 := h3.resolve_left h2
    obtain ⟨f1, f2, f3, f4, f5, f6⟩ := more_facts h hm
    have f6 := f6 h3.1
    rw [(applyN_true hN).1]
    have r1 := h.low0
    have r2 := h.lowr
    have r3 := h.revM
    refine ⟨h.low0, by show s.low ≤ s.rev + 1; omega, by show s.rev + 1 ≤ 1099511627774; omega, h.bl, by simp only [Sl.l_of, List.length_append]; omega, h.good, ?_⟩
    show logOk (s.rev + 1) s.base.l (s.low + 1) (s.log.l ++ (moreP s ms).1) = true
    refine logOk_join (logOk_srev (by omega) h.log) (fun last' _ hl => ?_) (by omega)
    rw [← h.now]; exact f6 last' hl
theorem apply_now {s : Store} (h : SOk s) {ms : List Mut} (he : applyE s ms = 0) (k : Bs) : getK (nowP (applyS s ms)) k = outK (s.rev + 1) (nowP s) ms k := by
  obtain ⟨hm, h3⟩ := applyE_zero he
  obtain ⟨f1, f2, f3, f4, f5, f6⟩ := more_facts h hm
  cases hN : applyN s ms
  · rw [(applyN_false hN).1]
    have h4 : (moreP s ms).1 = [] := by
      by_cases hh : (moreP s ms).1 = []
      · exact hh
      · rw [applyN_iff.2 ⟨he, hh⟩] at hN; cases hN
    have := f4 k
    rw [h4] at this; exact this
  · rw [now_new h hN]; exact f4 k
theorem apply_rev {s : Store} (h : SOk s) {ms : List Mut} (he : applyE s ms = 0) : (applyS s ms).rev = (if actsN (nowP s) ms = 0 then s.rev else s.rev + 1) ∧ (applyS s ms).log.l.length = s.log.l.length + actsN (nowP s) ms := by
  obtain ⟨hm, h3⟩ := applyE_zero he
  obtain ⟨f1, f2, -⟩ := more_facts h hm
  rw [← f2]
  cases hN : applyN s ms
  · rw [(applyN_false hN).1]
    have h4 : (moreP s ms).1 = [] := by
      by_cases hh : (moreP s ms).1 = []
      · exact hh
      · rw [applyN_iff.2 ⟨he, hh⟩] at hN; cases hN
    rw [h4]; exact ⟨rfl, rfl⟩
  · have h4 := (applyN_iff.1 hN).2
    rw [(applyN_true hN).1, if_neg (by simpa using h4)]
    exact ⟨rfl, by simp⟩
/-! ### Shrunk -/
theorem keepL_all {to : Int} {l : List Ev} (h : ∀ e ∈ l, to < e.rev) : keepL to l = l := by
  unfold keepL
  rw [List.filter_eq_self]
  intro e he
  have := h e he
  simp; omega
theorem keepL_no {to : Int} {l : List Ev} (h : ∀ e ∈ l, e.rev ≤ to) : keepL to l = [] := by
  unfold keepL
  rw [List.filter_eq_nil_iff]
  intro e he
  have := h e he
  simp; omega
theorem keepL_app (to : Int) (a b : List Ev) : keepL to (a ++ b) = keepL to a ++ keepL to b := List.filter_append ..
theorem shr_split {s : Store} (h : SOk s) (to : Int) : ∃ a b, s.log.l = a ++ b ∧ (∀ e ∈ a, e.rev ≤ to) ∧ (∀ e ∈ b, to < e.rev) ∧ keepL to s.log.l = b ∧ foldP s.base.l s.log.l to = a.foldl actP s.base.l := by
  obtain ⟨a, b, h1, h2, h3⟩ := logOk_split to h.log
  refine ⟨a, b, h1, h2, h3, ?_, ?_⟩
  · rw [h1, keepL_app, keepL_no h2, keepL_all h3]; rfl
  · rw [h1, foldP_app, foldP_le h2, foldP_gt h3]
theorem shr_fold {s : Store} (h : SOk s) {to rev : Int} (hr : to ≤ rev) : foldP (foldP s.base.l s.log.l to) (keepL to s.log.l) rev = foldP s.base.l s.log.l rev := by
  obtain ⟨a, b, h1, h2, h3, h4, h5⟩ := shr_split h to
  rw [h5, h4, h1, foldP_app, foldP_le (a := a) fun e he => by have := h2 e he; omega]
theorem shrE_zero {s : Store} {to : Int} : shrE s to = 0 ↔ 0 ≤ to ∧ to ≤ s.rev ∧ s.low ≤ to := by
  unfold shrE
  by_cases h1 : to < 0 ∨ s.rev < to
  · rw [if_pos h1]; omega
  · rw [if_neg h1]
    by_cases h2 : to < s.low
    · rw [if_pos h2]; omega
    · rw [if_neg h2]; omega
theorem shr_SOk {s : Store} (h : SOk s) (to : Int) : SOk (shrS s to) := by
  unfold shrS
  by_cases hz : shrE s to = 0
  · rw [if_pos hz]
    obtain ⟨z1, z2, z3⟩ := shrE_zero.1 hz
    obtain ⟨a, b, h1, h2, h3, h4, h5⟩ := shr_split h to
    have hlog := h.log
    rw [h1] at hlog
    obtain ⟨l1, last', l2⟩ := logOk_app hlog
    refine ⟨z1, z2, h.revM, ?_, ?_, ?_, ?_⟩
    · show (foldR s.base s.log.l to).l.length ≤ 30
      rw [foldR_l, h5]; exact logOk_len h.bl l1
    · show (keepR to s.log).l.length ≤ 60
      have : (keepR to s.log).l.length ≤ s.log.l.length := by
        cases s.log with
        | nil => exact Nat.le_refl _
        | of l => exact List.length_filter_le _ _
      have := h.ll; omega
    · show GoodK (foldR s.base s.log.l to).l to
      rw [foldR_l, h5]
      exact logOk_good h.good (by omega) l1 to z3 h2
    · show logOk s.rev (foldR s.base s.log.l to).l (to + 1) (keepR to s.log).l = true
      have e : (keepR to s.log).l = keepL to s.log.l := by cases s.log <;> rfl
      rw [foldR_l, h5, e, h4]
      exact logOk_last l2 fun x hx => by have := h3 x hx; omega
  · rw [if_neg hz]; exact h
end Go.Proofs.Ytibnbcljmfigfaa
