/- What of a log there is of a prefix, from a revision on, few at a time. -/
import Derived.Test.YtibnbcljmfigfaaPMvcc3
namespace Go.Proofs.Ytibnbcljmfigfaa
open Go Go.AM Go.Proofs
set_option maxRecDepth 20000
set_option linter.unusedSimpArgs false
set_option linter.unusedVariables false
def preP (p k : Bs) : Bool := decide (p.length ≤ k.length) && (k.take p.length == p)
def inP (p : Bs) (rev : Int) (e : Ev) : Bool := decide (rev ≤ e.rev) && preP p e.kv.key
def ofP (l : List Ev) (p : Bs) (rev : Int) : List Ev := l.filter (inP p rev)
def revAt (l : List Ev) (i : Nat) : Int := match l[i]? with | some e => e.rev | none => 0
def cutP (all : List Ev) (most srev : Int) : List Ev × Int × Int :=
  if (all.length : Int) ≤ most then (all, srev + 1, 0) else
  if revAt all most.toNat = revAt all 0 then ([], 0, 4) else
    (all.takeWhile (fun e => decide (e.rev < revAt all most.toNat)), revAt all most.toNat, 0)
def sinE (s : Store) (rev most : Int) : Int :=
  if most < 1 ∨ 30 < most then 1 else if rev < 1 ∨ s.rev + 1 < rev then 8 else if rev ≤ s.low then 9 else 0
def sinP (s : Store) (p : Bs) (rev most : Int) : List Ev × Int × Int :=
  if sinE s rev most = 0 then cutP (ofP s.log.l p rev) most s.rev else ([], 0, sinE s rev most)
def SrtE (l : List Ev) : Prop := l.Pairwise (fun a b => a.rev ≤ b.rev)
theorem logOk_srt {srev : Int} : ∀ {log : List Ev} {l : List KV} {last : Int}, logOk srev l last log = true → SrtE log
  | [], _, _, _ => List.Pairwise.nil
  | e :: log, l, last, h => by
    rw [logOk_cons] at h
    obtain ⟨h1, h2, h3, h4, h5⟩ := h
    exact List.pairwise_cons.2 ⟨fun a ha => (logOk_all h5 a ha).1, logOk_srt h5⟩
theorem SOk.srt {s : Store} (h : SOk s) : SrtE s.log.l := logOk_srt h.log
theorem ofP_srt {l : List Ev} (h : SrtE l) (p : Bs) (rev : Int) : SrtE (ofP l p rev) := List.Pairwise.sublist List.filter_sublist h
theorem ofP_len (l : List Ev) (p : Bs) (rev : Int) : (ofP l p rev).length ≤ l.length := List.length_filter_le ..
theorem ofP_mem {l : List Ev} {p : Bs} {rev : Int} {e : Ev} : e ∈ ofP l p rev ↔ e ∈ l ∧ rev ≤ e.rev ∧ preP p e.kv.key = true := by
  unfold ofP inP; rw [List.mem_filter]; simp
theorem revAt_app_left {a b : List Ev} {i : Nat} (h : i < a.length) : revAt (a ++ b) i = revAt a i := by unfold revAt; rw [List.getElem?_append_left h]
theorem revAt_app_right {a b : List Ev} {i : Nat} (h : a.length ≤ i) : revAt (a ++ b) i = revAt b (i - a.length) := by unfold revAt; rw [List.getElem?_append_right h]
theorem revAt_mem {a : List Ev} {i : Nat} (h : i < a.length) : ∃ e ∈ a, revAt a i = e.rev := ⟨a[i], List.getElem_mem h, by unfold revAt; rw [List.getElem?_eq_getElem h]⟩
theorem revAt_le {a : List Ev} (hs : SrtE a) {i j : Nat} (hij : i ≤ j) (h : j < a.length) : revAt a i ≤ revAt a j := by
  unfold revAt
  rw [List.getElem?_eq_getElem h, List.getElem?_eq_getElem (show i < a.length by omega)]
  rcases Nat.lt_or_eq_of_le hij with h2 | h2
  · exact List.pairwise_iff_getElem.1 hs i j (by omega) h h2
  · subst h2; exact Int.le_refl _
/-- The first of a list that has another revision. -/
theorem idx_split (r : Int) : ∀ (l : List Ev) (k : Nat), SrtE l → (∀ e ∈ l, r ≤ e.rev) →
    ∃ g d, l = g ++ d ∧ (∀ e ∈ g, e.rev = r) ∧ (∀ e ∈ d, r < e.rev) ∧ (if idxG (fun e => decide (e.rev ≠ r)) k l < 0 then ((k + l.length : Nat) : Int) else idxG (fun e => decide (e.rev ≠ r)) k l) = ((k + g.length : Nat) : Int)
  | [], k, _, _ => ⟨[], [], rfl, by simp, by simp, by simp [idxG]⟩
  | e :: l, k, hs, hr => by
    obtain ⟨h1, h2⟩ := List.pairwise_cons.1 hs
    by_cases he : e.rev = r
    · obtain ⟨g, d, q1, q2, q3, q4⟩ := idx_split r l (k + 1) h2 (fun x hx => hr x (by simp [hx]))
      refine ⟨e :: g, d, by rw [q1]; rfl, ?_, q3, ?_⟩
      · intro x hx
        rcases List.mem_cons.1 hx with rfl | hx
        · exact he
        · exact q2 x hx
      · simp only [idxG, he, ne_eq, not_true, decide_false, Bool.false_eq_true, if_false, List.length_cons]
        simp only [ne_eq] at q4
        rw [show k + (l.length + 1) = k + 1 + l.length by omega, show k + (g.length + 1) = k + 1 + g.length by omega]
        exact q4
    · refine ⟨[], e :: l, rfl, by simp, ?_, ?_⟩
      · have h0 : r < e.rev := by have := hr e (by simp); omega
        intro x hx
        rcases List.mem_cons.1 hx with rfl | hx
        · exact h0
        · have := h1 x hx; omega
      · have : ¬ ((k : Int) < 0) := by omega
        simp [idxG, he, this]
def grpN (l : List Ev) : Int := if idxG (fun e => decide (e.rev ≠ revAt l 0)) 0 l < 0 then (l.length : Int) else idxG (fun e => decide (e.rev ≠ revAt l 0)) 0 l
theorem grp_split {l : List Ev} (hne : l ≠ []) (hs : SrtE l) : ∃ g d, l = g ++ d ∧ g ≠ [] ∧ (∀ e ∈ g, e.rev = revAt l 0) ∧ (∀ e ∈ d, revAt l 0 < e.rev) ∧ grpN l = (g.length : Int) := by
  cases l with
  | nil => exact absurd rfl hne
  | cons e l =>
    have h0 : revAt (e :: l) 0 = e.rev := rfl
    obtain ⟨h1, h2⟩ := List.pairwise_cons.1 hs
    obtain ⟨g, d, q1, q2, q3, q4⟩ := idx_split (revAt (e :: l) 0) (e :: l) 0 hs (fun x hx => by
      rw [h0]
      rcases List.mem_cons.1 hx with rfl | hx
      · exact Int.le_refl _
      · exact h1 x hx)
    refine ⟨g, d, q1, ?_, q2, q3, ?_⟩
    · intro hg
      subst hg
      have := q3 e (by rw [List.nil_append] at q1; rw [← q1]; simp)
      rw [h0] at this; omega
    · unfold grpN
      simpa using q4
theorem tw_all {α : Type} {p : α → Bool} : ∀ {a b : List α}, (∀ x ∈ a, p x = true) → (∀ x ∈ b.head?, p x = false) → (a ++ b).takeWhile p = a
  | [], [], _, _ => rfl
  | [], x :: b, _, h => by simp [h x (by simp)]
  | x :: a, b, h, h2 => by
    rw [List.cons_append, List.takeWhile_cons, h x (by simp), if_pos rfl, tw_all (fun y hy => h y (by simp [hy])) h2]
theorem cut_fits {all : List Ev} {most srev : Int} (h : (all.length : Int) ≤ most) : cutP all most srev = (all, srev + 1, 0) := by unfold cutP; rw [if_pos h]
theorem cut_full {out g d : List Ev} {most srev r : Int} (h1 : 1 ≤ most) (ho : (out.length : Int) ≤ most) (hf : most < ((out.length + g.length : Nat) : Int)) (hr : ∀ e ∈ out, e.rev < r) (hg : ∀ e ∈ g, e.rev = r) (hd : ∀ e ∈ d, r < e.rev) :
    cutP (out ++ (g ++ d)) most srev = if out = [] then ([], 0, 4) else (out, r, 0) := by
  have hn : ¬ ((out ++ (g ++ d)).length : Int) ≤ most := by simp only [List.length_append]; omega
  have e1 : revAt (out ++ (g ++ d)) most.toNat = r := by
    rw [revAt_app_right (by omega), revAt_app_left (by omega)]
    obtain ⟨e, he, h⟩ := revAt_mem (a := g) (i := most.toNat - out.length) (by omega)
    rw [h]; exact hg e he
  unfold cutP
  rw [if_neg hn, e1]
  have hgl : 0 < g.length := by omega
  by_cases hout : out = []
  · subst hout
    have e2 : revAt ([] ++ (g ++ d)) 0 = r := by
      rw [List.nil_append, revAt_app_left hgl]
      obtain ⟨e, he, h⟩ := revAt_mem hgl
      rw [h]; exact hg e he
    rw [e2, if_pos rfl, if_pos rfl]
  · have hol : 0 < out.length := List.length_pos_iff.2 hout
    have e2 : revAt (out ++ (g ++ d)) 0 < r := by
      rw [revAt_app_left hol]
      obtain ⟨e, he, h⟩ := revAt_mem hol
      rw [h]; exact hr e he
    rw [if_neg (by omega), if_neg hout]
    have e3 : (out ++ (g ++ d)).takeWhile (fun e => decide (e.rev < r)) = out := tw_all (fun x hx => by simpa using hr x hx) (fun x hx => by
      cases g with
      | nil => simp at hgl
      | cons y g =>
        simp at hx
        subst hx
        have := hg y (by simp)
        simp; omega)
    rw [e3]
theorem tw_mem {α : Type} {p : α → Bool} : ∀ {l : List α} {x : α}, x ∈ l.takeWhile p → p x = true
  | [], _, h => by simp at h
  | y :: l, x, h => by
    rw [List.takeWhile_cons] at h
    split at h
    · rename_i hy
      rcases List.mem_cons.1 h with rfl | h
      · exact hy
      · exact tw_mem h
    · simp at h
/-! ### Gone on to the end -/
def bigP (l : List Ev) (most : Int) : Bool := (List.range l.length).any fun i => decide (i + most.toNat < l.length) && decide (revAt l i = revAt l (i + most.toNat))
theorem bigP_iff {l : List Ev} {most : Int} : bigP l most = true ↔ ∃ i, i + most.toNat < l.length ∧ revAt l i = revAt l (i + most.toNat) := by
  unfold bigP
  rw [List.any_eq_true]
  simp only [List.mem_range, Bool.and_eq_true, decide_eq_true_eq]
  exact ⟨fun ⟨i, h1, h2, h3⟩ => ⟨i, h2, h3⟩, fun ⟨i, h2, h3⟩ => ⟨i, by omega, h2, h3⟩⟩
def allW (s : Store) (p : Bs) (rev most : Int) : List Ev × Int :=
  if sinE s rev most = 0 then (if bigP (ofP s.log.l p rev) most = true then ([], 4) else (ofP s.log.l p rev, 0)) else ([], sinE s rev most)
theorem srt_split {l : List Ev} (hs : SrtE l) (p : Bs) (rev nx : Int) (h : rev ≤ nx) : ofP l p rev = (ofP l p rev).takeWhile (fun e => decide (e.rev < nx)) ++ ofP l p nx := by
  have key : ∀ {l : List Ev}, SrtE l → l = l.takeWhile (fun e => decide (e.rev < nx)) ++ l.filter (fun e => decide (nx ≤ e.rev)) := by
    intro l
    induction l with
    | nil => intro _; rfl
    | cons e l ih =>
      intro hs
      obtain ⟨h1, h2⟩ := List.pairwise_cons.1 hs
      by_cases he : e.rev < nx
      · rw [List.takeWhile_cons, if_pos (by simpa using he), List.filter_cons, if_neg (by simp; omega), List.cons_append, ← ih h2]
      · rw [List.takeWhile_cons, if_neg (by simpa using he), List.nil_append]
        symm
        rw [List.filter_eq_self]
        intro x hx
        rcases List.mem_cons.1 hx with rfl | hx
        · simp; omega
        · have := h1 x hx; simp; omega
  have h1 := key (ofP_srt hs p rev)
  have h2 : (ofP l p rev).filter (fun e => decide (nx ≤ e.rev)) = ofP l p nx := by
    unfold ofP
    rw [List.filter_filter]
    apply List.filter_congr
    intro x _
    unfold inP
    by_cases h3 : nx ≤ x.rev
    · simp [h3, show rev ≤ x.rev by omega]
    · simp [h3]
  rw [h2] at h1
  exact h1
/-- What a cut says of the rest. -/
structure CutOk (s : Store) (p : Bs) (rev most : Int) (r : List Ev × Int × Int) : Prop where
  lo : rev ≤ r.2.1 - 1 ∨ (r.2.1 = s.rev + 1 ∧ rev ≤ r.2.1)
  hi : r.2.1 ≤ s.rev + 1
  len : (r.1.length : Int) ≤ most
  pre : r.1 = (ofP s.log.l p rev).takeWhile (fun e => decide (e.rev < r.2.1))
  split : ofP s.log.l p rev = r.1 ++ ofP s.log.l p r.2.1
  ne : r.2.1 ≤ s.rev → r.1 ≠ []
  big : bigP (ofP s.log.l p rev) most = bigP (ofP s.log.l p r.2.1) most
theorem bigP_le {l : List Ev} {most : Int} (h : (l.length : Int) ≤ most) : bigP l most = false := by
  rw [Bool.eq_false_iff]; intro hb
  obtain ⟨i, h1, h2⟩ := bigP_iff.1 hb
  omega
theorem ofP_end {s : Store} (h : SOk s) (p : Bs) : ofP s.log.l p (s.rev + 1) = [] := by
  unfold ofP
  rw [List.filter_eq_nil_iff]
  intro e he
  have := (h.all e he).2
  simp [inP]; omega
theorem tw_len {α : Type} (p : α → Bool) (l : List α) : (l.takeWhile p).length ≤ l.length := List.Sublist.length_le (List.takeWhile_sublist p)
theorem cut_ok {s : Store} (h : SOk s) {p : Bs} {rev most : Int} (h1 : 1 ≤ most) (hr : rev ≤ s.rev + 1) (he : (cutP (ofP s.log.l p rev) most s.rev).2.2 = 0) : CutOk s p rev most (cutP (ofP s.log.l p rev) most s.rev) := by
  have hs := ofP_srt h.srt p rev
  have hin : ∀ e ∈ ofP s.log.l p rev, rev ≤ e.rev ∧ e.rev ≤ s.rev := fun e he => ⟨(ofP_mem.1 he).2.1, (h.all e (ofP_mem.1 he).1).2⟩
  by_cases c1 : ((ofP s.log.l p rev).length : Int) ≤ most
  · rw [cut_fits c1]
    refine ⟨.inr ⟨rfl, hr⟩, Int.le_refl _, c1, ?_, ?_, fun h => by simp only at h; omega, ?_⟩
    · have := tw_all (p := fun e => decide (e.rev < s.rev + 1)) (a := ofP s.log.l p rev) (b := []) (fun x hx => by have := (hin x hx).2; simp; omega) (fun x hx => by simp at hx)
      rw [List.append_nil] at this
      exact this.symm
    · simp [ofP_end h]
    · rw [bigP_le c1, ofP_end h, bigP_le (by simp; omega)]
  · unfold cutP at he ⊢
    rw [if_neg c1] at he ⊢
    by_cases c2 : revAt (ofP s.log.l p rev) most.toNat = revAt (ofP s.log.l p rev) 0
    · rw [if_pos c2] at he; simp at he
    · rw [if_neg c2]
      have hm : most.toNat < (ofP s.log.l p rev).length := by omega
      obtain ⟨e, hme, hee⟩ := revAt_mem hm
      have hle := revAt_le hs (Nat.zero_le most.toNat) hm
      obtain ⟨e0, hme0, hee0⟩ := revAt_mem (show 0 < (ofP s.log.l p rev).length by omega)
      obtain ⟨nx, hnx⟩ : ∃ nx, revAt (ofP s.log.l p rev) most.toNat = nx := ⟨_, rfl⟩
      have hb := hin e hme
      have hb0 := hin e0 hme0
      rw [hnx] at c2 hee hle ⊢
      have hsp := srt_split h.srt p rev nx (by omega)
      have hlt : ((ofP s.log.l p rev).takeWhile (fun e => decide (e.rev < nx))).length ≤ most.toNat := by
        obtain ⟨a, ha⟩ : ∃ a, (ofP s.log.l p rev).takeWhile (fun e => decide (e.rev < nx)) = a := ⟨_, rfl⟩
        have hal : ∀ e ∈ a, e.rev < nx := fun e he => by rw [← ha] at he; simpa using tw_mem he
        rw [ha] at hsp ⊢
        rcases Nat.lt_or_ge most.toNat a.length with hc | hc
        · exfalso
          obtain ⟨e2, hm2, he2⟩ := revAt_mem hc
          have h5 : revAt (ofP s.log.l p rev) most.toNat = revAt a most.toNat := by rw [hsp, revAt_app_left hc]
          have h6 := hal e2 hm2
          omega
        · exact hc
      refine ⟨.inl (by simp only; omega), by simp only; omega, by simp only; omega, rfl, hsp, fun _ => ?_, ?_⟩
      · simp only
        cases hq : ofP s.log.l p rev with
        | nil => rw [hq] at hm; simp at hm
        | cons x l =>
          rw [hq] at hee0 c2 hle
          have : x.rev < nx := by
            have : revAt (x :: l) 0 = x.rev := rfl
            omega
          rw [List.takeWhile_cons, if_pos (by simpa using this)]
          simp
      · simp only
        obtain ⟨a, ha⟩ : ∃ a, (ofP s.log.l p rev).takeWhile (fun e => decide (e.rev < nx)) = a := ⟨_, rfl⟩
        have hal : ∀ e ∈ a, e.rev < nx := fun e he => by rw [← ha] at he; simpa using tw_mem he
        rw [ha] at hsp hlt
        rw [Bool.eq_iff_iff, bigP_iff, bigP_iff]
        constructor
        · rintro ⟨i, hi1, hi2⟩
          rcases Nat.lt_or_ge i a.length with hc | hc
          · exfalso
            have h3 := revAt_le hs (show most.toNat ≤ i + most.toNat by omega) hi1
            rw [hnx] at h3
            have h4 : revAt (ofP s.log.l p rev) i = revAt a i := by rw [hsp, revAt_app_left hc]
            obtain ⟨e2, hm2, he2⟩ := revAt_mem hc
            have := hal e2 hm2
            omega
          · refine ⟨i - a.length, ?_, ?_⟩
            · rw [hsp] at hi1; simp only [List.length_append] at hi1; omega
            · rw [hsp, revAt_app_right hc, revAt_app_right (by omega)] at hi2
              rw [hi2]; congr 1; omega
        · rintro ⟨i, hi1, hi2⟩
          refine ⟨i + a.length, by rw [hsp]; simp only [List.length_append]; omega, ?_⟩
          rw [hsp, revAt_app_right (by omega), revAt_app_right (by omega)]
          rw [show i + a.length - a.length = i by omega, show i + a.length + most.toNat - a.length = i + most.toNat by omega]
          exact hi2
theorem cut_err {all : List Ev} {most srev : Int} (h1 : 1 ≤ most) (he : (cutP all most srev).2.2 ≠ 0) : cutP all most srev = ([], 0, 4) ∧ bigP all most = true := by
  unfold cutP at he ⊢
  by_cases c1 : (all.length : Int) ≤ most
  · rw [if_pos c1] at he; simp at he
  · rw [if_neg c1] at he ⊢
    by_cases c2 : revAt all most.toNat = revAt all 0
    · rw [if_pos c2]
      exact ⟨rfl, bigP_iff.2 ⟨0, by omega, by rw [Nat.zero_add]; exact c2.symm⟩⟩
    · rw [if_neg c2] at he; simp at he
theorem sinE_zero {s : Store} {rev most : Int} : sinE s rev most = 0 ↔ (1 ≤ most ∧ most ≤ 30) ∧ (1 ≤ rev ∧ rev ≤ s.rev + 1) ∧ s.low < rev := by
  unfold sinE
  split
  · exact ⟨fun h => by omega, fun h => by omega⟩
  · split
    · exact ⟨fun h => by omega, fun h => by omega⟩
    · split
      · exact ⟨fun h => by omega, fun h => by omega⟩
      · exact ⟨fun _ => by omega, fun _ => rfl⟩
end Go.Proofs.Ytibnbcljmfigfaa
