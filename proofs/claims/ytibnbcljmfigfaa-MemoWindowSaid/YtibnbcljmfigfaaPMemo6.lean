/- The last four of rising numbers are told; the ones ahead are old. -/
import Derived.Test.YtibnbcljmfigfaaPMemo5
namespace Go.Proofs.Ytibnbcljmfigfaa
open Go Go.AM Go.Proofs
set_option maxRecDepth 20000
set_option linter.unusedSimpArgs false
set_option linter.unusedVariables false
set_option linter.defProp false
structure WinI (w2 : Int) (a : List Int) (m : Memos) : Prop where
  wf : m.wf
  may : MayOk m.l.l m.old.l
  len : m.l.l.length ≤ 2 * a.length ∧ m.old.l.length ≤ 2 * a.length
  rise : RiseI a
  w3 : WinV m a 3
  wo : WinV m a w2
  who : ∀ x ∈ whosP m.l.l m.old.l, x = 3 ∨ x = w2
  rep : ∀ i (hi : i < a.length) x, lookF m.l.l 3 a[i] = some x → x.rep.rev = i + 1
theorem two_len {m : Memos} {w2 : Int} (h : ∀ x ∈ whosP m.l.l m.old.l, x = 3 ∨ x = w2) : (whosP m.l.l m.old.l).length ≤ 2 := by
  have := nodup_sub_len (whosP_nodup m.l.l m.old.l) (b := [3, w2]) (fun x hx => by rcases h x hx with rfl | rfl <;> simp)
  simpa using this
theorem rep0_wf : rep0.wf := by simp [Reply.wf, rep0, I64]
theorem WinI.next {w2 : Int} {a : List Int} {m : Memos} (h : WinI w2 a m) (hw2 : 4 ≤ w2 ∧ w2 ≤ 7) {q : Int} (hq : 0 < q) (hq2 : q ≤ 1099511627775) (hl : ∀ x ∈ a, x < q) (hn : a.length ≤ 1000) :
    keepE m 3 q = 0 ∧ (keepM m 3 q (rv9 (a.length + 1))).wf ∧ ((keepM m 3 q (rv9 (a.length + 1))).l.l.length + (keepM m 3 q (rv9 (a.length + 1))).old.l.length ≤ 5000) ∧ keepE (keepM m 3 q (rv9 (a.length + 1))) w2 q = 0 ∧ WinI w2 (a ++ [q]) (keepM (keepM m 3 q (rv9 (a.length + 1))) w2 q rep0) := by
  have h32 : (3 : Int) ≠ w2 := by omega
  obtain ⟨k1, k2⟩ := win_keep (rv9 (a.length + 1)) h.may h.w3 h.rise hq hl (two_len h.who)
  obtain ⟨e1, e2⟩ := keepE_ok.1 k1
  have hko := kept_ok e1 e2
  have hkk := keep_KeepOk (rv9 (a.length + 1)) e1 e2 h.may.keys
  have hmay := keep_MayOk (rv9 (a.length + 1)) e1 e2 h.may
  have hlen := keepM_len m 3 q (rv9 (a.length + 1))
  have hl0 := h.len
  have hwf := keepM_wf (w := 3) (q := q) (r := rv9 (a.length + 1)) h.wf (by omega) ⟨by omega, by omega⟩ ⟨by omega, by omega⟩ (rv9_wf _ ⟨by omega, by omega⟩)
  have hwo := win_other (rv9 (a.length + 1)) h.may k1 (fun e => h32 e.symm) h.wo
  have hwho : ∀ x ∈ whosP (keepM m 3 q (rv9 (a.length + 1))).l.l (keepM m 3 q (rv9 (a.length + 1))).old.l, x = 3 ∨ x = w2 := fun x hx => ((hkk.who x).1 hx).elim .inl (h.who x)
  generalize hm1 : keepM m 3 q (rv9 (a.length + 1)) = m1 at k2 hkk hmay hlen hwf hwo hwho ⊢
  obtain ⟨j1, j2⟩ := win_keep rep0 hmay hwo h.rise hq hl (two_len hwho)
  obtain ⟨f1, f2⟩ := keepE_ok.1 j1
  have hkk2 := keep_KeepOk rep0 f1 f2 hmay.keys
  have hlen2 := keepM_len m1 w2 q rep0
  have hwf2 := keepM_wf (w := w2) (q := q) (r := rep0) hwf (by omega) ⟨by omega, by omega⟩ ⟨by omega, by omega⟩ rep0_wf
  refine ⟨k1, hwf, by omega, j1, hwf2, keep_MayOk rep0 f1 f2 hmay, by simp only [List.length_append, List.length_cons, List.length_nil]; omega, rise_snoc h.rise hq hl, win_other rep0 hmay j1 h32 k2, j2, fun x hx => ((hkk2.who x).1 hx).elim .inr (hwho x), ?_⟩
  intro i hi x hx
  rw [hkk2.other 3 _ h32] at hx
  simp only [List.length_append, List.length_cons, List.length_nil] at hi
  by_cases hil : i < a.length
  · rw [List.getElem_append_left hil] at hx
    have hlt := hl a[i] (List.getElem_mem hil)
    rcases hkk.found _ x hx with ⟨h4, _⟩ | h4
    · omega
    · exact h.rep i hil x h4
  · have hie : i = a.length := by omega
    subst hie
    rw [List.getElem_append_right (Nat.le_refl _)] at hx
    simp only [Nat.sub_self, List.getElem_cons_zero] at hx
    rcases hkk.found _ x hx with ⟨_, h4⟩ | h4
    · rw [h4]; rfl
    · rw [hko.no] at h4; cases h4
theorem WinI.told {w2 : Int} {a : List Int} {m : Memos} (h : WinI w2 a m) {i : Nat} (hi : i < a.length) (h4 : a.length ≤ i + 4) : ∃ r, lookP m.l.l m.old.l 3 a[i] = (r, true, 0) ∧ r.rev = i + 1 := by
  have hin : a[i] ∈ seqL m.l.l 3 := by
    rw [h.w3.seq]
    unfold wnd
    rw [List.mem_iff_getElem]
    refine ⟨i - (a.length - 4), by rw [List.length_drop]; omega, ?_⟩
    rw [List.getElem_drop]
    congr 1; omega
  cases hq : lookF m.l.l 3 a[i] with
  | none => exact absurd hin (lookF_seq.1 hq)
  | some x =>
    refine ⟨x.rep, ?_, h.rep i hi x hq⟩
    unfold lookP; rw [hq]
theorem WinI.old {w2 : Int} {a : List Int} {m : Memos} (h : WinI w2 a m) {i : Nat} (hi : i + 4 < a.length) : lookP m.l.l m.old.l 3 a[i] = (rep0, false, 7) := by
  have hno : lookF m.l.l 3 a[i] = none := by
    rw [lookF_seq, h.w3.seq]
    unfold wnd
    intro hm
    obtain ⟨j, hj, he⟩ := List.mem_iff_getElem.1 hm
    rw [List.getElem_drop] at he
    rw [List.length_drop] at hj
    have := rise_lt h.rise (i := i) (j := a.length - 4 + j) (by omega) (by omega)
    omega
  have hfl : a[i] ≤ floorP m.old.l 3 := by
    rw [h.w3.fl]
    unfold wfl
    rw [if_neg (by omega), List.getElem?_eq_getElem (by omega), Option.getD_some]
    rcases Nat.lt_or_eq_of_le (show i ≤ a.length - 5 by omega) with hlt | heq
    · exact Int.le_of_lt (rise_lt h.rise hlt (by omega))
    · subst heq; exact Int.le_refl _
  unfold lookP
  rw [hno]
  simp only
  rw [if_pos hfl]
end Go.Proofs.Ytibnbcljmfigfaa
