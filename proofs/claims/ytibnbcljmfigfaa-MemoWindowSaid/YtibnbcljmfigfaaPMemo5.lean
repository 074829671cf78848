/- The last four of rising numbers. -/
import Derived.Test.YtibnbcljmfigfaaLMemo3
namespace Go.Proofs.Ytibnbcljmfigfaa
open Go Go.AM Go.Proofs
set_option maxRecDepth 20000
set_option linter.unusedSimpArgs false
set_option linter.unusedVariables false
set_option linter.defProp false
def wnd (a : List Int) : List Int := a.drop (a.length - 4)
def wfl (a : List Int) : Int := if a.length ≤ 4 then -1 else (a[a.length - 5]?).getD 0
def RiseI (a : List Int) : Prop := a.Pairwise (fun x y => x < y) ∧ ∀ x ∈ a, 0 < x
theorem wnd_le {a : List Int} (h : a.length ≤ 4) : wnd a = a := by unfold wnd; rw [show a.length - 4 = 0 by omega]; rfl
theorem wfl_lt {a : List Int} (h : RiseI a) {q : Int} (hq : 0 < q) (hl : ∀ x ∈ a, x < q) : wfl a < q := by
  unfold wfl
  split
  · omega
  · rename_i h4
    have hlt : a.length - 5 < a.length := by omega
    rw [List.getElem?_eq_getElem hlt]
    exact hl _ (List.getElem_mem hlt)
theorem rise_snoc {a : List Int} (h : RiseI a) {q : Int} (hq : 0 < q) (hl : ∀ x ∈ a, x < q) : RiseI (a ++ [q]) := by
  refine ⟨?_, fun x hx => ?_⟩
  · rw [List.pairwise_append]
    exact ⟨h.1, List.pairwise_singleton _ _, fun x hx y hy => by rw [List.mem_singleton] at hy; subst hy; exact hl x hx⟩
  · rcases List.mem_append.1 hx with hx | hx
    · exact h.2 x hx
    · rw [List.mem_singleton] at hx; subst hx; exact hq
theorem rise_lt {a : List Int} (h : RiseI a) {i j : Nat} (hij : i < j) (hj : j < a.length) : a[i] < a[j] := List.pairwise_iff_getElem.1 h.1 i j (by omega) hj hij
structure WinV (m : Memos) (a : List Int) (v : Int) : Prop where
  seq : seqL m.l.l v = wnd a
  fl : floorP m.old.l v = wfl a
theorem mem_seqL {l : List Memo} {w s : Int} : s ∈ seqL l w ↔ (w, s) ∈ l.map mkey := by
  unfold seqL
  rw [List.mem_map, List.mem_map]
  constructor
  · rintro ⟨x, hx, rfl⟩
    rw [List.mem_filter] at hx
    exact ⟨x, hx.1, by unfold mkey; rw [of_decide_eq_true hx.2]⟩
  · rintro ⟨x, hx, he⟩
    unfold mkey at he
    exact ⟨x, List.mem_filter.2 ⟨hx, by simpa using (Prod.mk.inj he).1⟩, (Prod.mk.inj he).2⟩
theorem lookF_seq {l : List Memo} {w s : Int} : lookF l w s = none ↔ s ∉ seqL l w := by rw [lookF_none, mem_seqL]
theorem win_keep {m : Memos} {a : List Int} {v q : Int} (r : Reply) (hm : MayOk m.l.l m.old.l) (hw : WinV m a v) (ha : RiseI a) (hq : 0 < q) (hl : ∀ x ∈ a, x < q) (hroom : (whosP m.l.l m.old.l).length ≤ 2) :
    keepE m v q = 0 ∧ WinV (keepM m v q r) (a ++ [q]) v := by
  have hno : lookF m.l.l v q = none := by
    rw [lookF_seq, hw.seq]
    intro h
    have := hl q (List.mem_of_mem_drop h)
    omega
  have hfl : floorP m.old.l v < q := by rw [hw.fl]; exact wfl_lt ha hq hl
  have hlk : lookP m.l.l m.old.l v q = (rep0, false, 0) := by
    unfold lookP
    rw [hno]
    simp only
    rw [if_neg (by omega), if_neg (fun h => by omega)]
  have e1 : (lookP m.l.l m.old.l v q).2.1 = false := by rw [hlk]
  have e2 : (lookP m.l.l m.old.l v q).2.2 = 0 := by rw [hlk]
  refine ⟨keepE_ok.2 ⟨e1, e2⟩, ?_⟩
  rcases keep_ways r e1 e2 hm.keys with ⟨d0, d1, d2⟩ | ⟨y, d0, d1, d2, d3, d4⟩
  · rw [hw.seq] at d0
    have hal : a.length ≤ 3 := by unfold wnd at d0; rw [List.length_drop] at d0; omega
    refine ⟨?_, ?_⟩
    · rw [d1, seqL_keep, if_pos rfl, hw.seq, wnd_le (by omega), wnd_le (by simp; omega)]
    · rw [d2, hw.fl]; unfold wfl; rw [if_pos (by omega), if_pos (by simp; omega)]
  · rw [hw.seq] at d0
    have hal : 4 ≤ a.length := by unfold wnd at d0; rw [List.length_drop] at d0; omega
    have hL : seqL (keepL1 m.l.l v q r) v = wnd a ++ [q] := by rw [seqL_keep, if_pos rfl, hw.seq]
    have hlt : a.length - 4 < a.length := by omega
    have hwc : wnd a = a[a.length - 4] :: a.drop (a.length - 3) := by
      unfold wnd
      rw [List.drop_eq_getElem_cons hlt, show a.length - 4 + 1 = a.length - 3 by omega]
    have hge : ∀ x ∈ a.drop (a.length - 3) ++ [q], a[a.length - 4] < x := by
      intro x hx
      rcases List.mem_append.1 hx with hx | hx
      · obtain ⟨i, hi, rfl⟩ := List.mem_iff_getElem.1 hx
        rw [List.getElem_drop]
        exact rise_lt ha (by omega) _
      · rw [List.mem_singleton] at hx; subst hx; exact hl _ (List.getElem_mem hlt)
    have hy : y = a[a.length - 4] := by
      have h1 : y ∈ seqL (keepL1 m.l.l v q r) v := by
        obtain ⟨x, hx, hp⟩ := d3
        rw [mem_seqL]; exact List.mem_map.2 ⟨x, hx, isP_iff.1 hp⟩
      rw [hL, hwc, List.cons_append] at h1
      have h2 : y ≤ a[a.length - 4] := by
        have : a[a.length - 4] ∈ seqL (keepL1 m.l.l v q r) v := by rw [hL, hwc]; simp
        rw [mem_seqL] at this
        obtain ⟨x, hx, he⟩ := List.mem_map.1 this
        unfold mkey at he
        have := d4 x hx (Prod.mk.inj he).1
        rw [(Prod.mk.inj he).2] at this; exact this
      rcases List.mem_cons.1 h1 with h | h
      · exact h
      · have := hge y h; omega
    have hlen : (a ++ [q]).length = a.length + 1 := by simp
    refine ⟨?_, ?_⟩
    · rw [d1, seqL_filter, if_pos rfl, hL, hwc, List.cons_append, List.filter_cons, hy]
      simp only [ne_eq, not_true_eq_false, decide_false, Bool.false_eq_true, if_false]
      rw [List.filter_eq_self.2 (fun x hx => by have := hge x hx; simp; omega)]
      unfold wnd
      rw [hlen, List.drop_append_of_le_length (by omega), show a.length + 1 - 4 = a.length - 3 by omega]
    · rw [d2, floorP_raise, if_pos rfl, hw.fl]
      have hf : wfl a < y := by
        rw [hy]
        unfold wfl
        split
        · have := ha.2 _ (List.getElem_mem hlt); omega
        · rw [List.getElem?_eq_getElem (by omega)]
          exact rise_lt ha (by omega) hlt
      have hr : wfl (a ++ [q]) = y := by
        unfold wfl
        rw [if_neg (by omega), hlen, List.getElem?_append_left (by omega), show a.length + 1 - 5 = a.length - 4 by omega, List.getElem?_eq_getElem hlt, hy]; rfl
      rw [hr]
      split <;> omega
theorem win_other {m : Memos} {a : List Int} {v v' q : Int} (r : Reply) (hm : MayOk m.l.l m.old.l) (he : keepE m v q = 0) (hne : v' ≠ v) (hw : WinV m a v') : WinV (keepM m v q r) a v' := by
  obtain ⟨e1, e2⟩ := keepE_ok.1 he
  have hkk := keep_KeepOk r e1 e2 hm.keys
  refine ⟨?_, by rw [(hkk.fo v' hne).1]; exact hw.fl⟩
  rcases keep_ways r e1 e2 hm.keys with ⟨d0, d1, d2⟩ | ⟨y, d0, d1, d2, d3, d4⟩
  · rw [d1, seqL_keep, if_neg hne]; exact hw.seq
  · rw [d1, seqL_filter, if_neg hne, seqL_keep, if_neg hne]; exact hw.seq
end Go.Proofs.Ytibnbcljmfigfaa
