/- Bytes as requests and replies: what is written is read, and what is read is what was written. -/
import Derived.Test.YtenndgooepdmiaaSWire7
import Derived.Test.YtenndgooepdmiaaPVar
namespace Go.Proofs.Ytenndgooepdmiaa
open Go Go.AM Go.Proofs
set_option maxRecDepth 20000
set_option maxHeartbeats 1000000
set_option linter.unusedSimpArgs false
set_option linter.unusedVariables false
abbrev RS := Bs × Bool
theorem readS_zero (s : Bs) : readS s 0 = readG 0 0 0 s := by unfold readS; simp
theorem readS_cases (s : Bs) : (readS s 0).2.2 ≠ 0 ∨ ∃ m r, s = varB m ++ r ∧ readS s 0 = (m, ((varB m).length : Int), 0) ∧ m < 18446744073709551616 := by
  rw [readS_zero]
  rcases read_inv 0 s 0 0 (by omega) (by simp) with h | ⟨m, r, h1, h2, h3, _⟩
  · exact .inl h.1
  · right; refine ⟨m, r, h1, ?_, ?_⟩
    · rw [h2]; simp
    · simpa using h3
theorem readS_var (n : Nat) (t : Bs) (h : n < 18446744073709551616) : readS (varB n ++ t) 0 = (n, ((varB n).length : Int), 0) := by
  rw [readS_zero, read_var 0 t n 0 0 (by simpa using h) (by omega) (by omega)]; simp
structure GoodP {α : Type} (it : RS → α × RS) (enc : α → Bs) (ok : α → Prop) : Prop where
  r : ∀ x, ok x → ∀ t, it (enc x ++ t, false) = (x, (t, false))
  c : ∀ s w, (it (s, w)).2.2 = false → w = false ∧ s = enc (it (s, w)).1 ++ (it (s, w)).2.1
def seqP {α β : Type} (a : RS → α × RS) (b : RS → β × RS) (st : RS) : (α × β) × RS := (((a st).1, (b (a st).2).1), (b (a st).2).2)
theorem GoodP.seq {α β : Type} {a : RS → α × RS} {b : RS → β × RS} {ea : α → Bs} {eb : β → Bs} {oa : α → Prop} {ob : β → Prop} (ha : GoodP a ea oa) (hb : GoodP b eb ob) :
    GoodP (seqP a b) (fun p => ea p.1 ++ eb p.2) (fun p => oa p.1 ∧ ob p.2) := by
  constructor
  · rintro ⟨x, y⟩ ⟨h1, h2⟩ t
    simp only [seqP, List.append_assoc, ha.r x h1, hb.r y h2]
  · intro s w h
    simp only [seqP] at h ⊢
    obtain ⟨k1, k2⟩ := hb.c (a (s, w)).2.1 (a (s, w)).2.2 h
    obtain ⟨k3, k4⟩ := ha.c s w k1
    refine ⟨k3, ?_⟩
    rw [List.append_assoc, ← k2]
    exact k4
theorem GoodP.map {α β : Type} {a : RS → α × RS} {ea : α → Bs} {oa : α → Prop} (ha : GoodP a ea oa) (f : α → β) (g : β → α) (eb : β → Bs) (ob : β → Prop) (hfg : ∀ y, f (g y) = y) (hgf : ∀ x, eb (f x) = ea x) (ho : ∀ y, ob y → oa (g y)) :
    GoodP (fun st => (f (a st).1, (a st).2)) eb ob := by
  constructor
  · intro y hy t
    have h1 : eb y = ea (g y) := by rw [← hgf, hfg]
    simp only [h1, ha.r (g y) (ho y hy), hfg]
  · intro s w h
    obtain ⟨k1, k2⟩ := ha.c s w h
    exact ⟨k1, by simp only [hgf]; exact k2⟩
def rdN (st : RS) : Int × RS := if st.2 = true ∨ (readS st.1 0).2.2 ≠ 0 ∨ 1099511627775 < (readS st.1 0).1 then (0, (st.1, true)) else (((readS st.1 0).1 : Int), (st.1.drop (readS st.1 0).2.1.toNat, false))
def rdT (st : RS) : Bs × RS := if (rdN st).2.2 = true ∨ ((rdN st).2.1.length : Int) < (rdN st).1 then ([], ((rdN st).2.1, true)) else ((rdN st).2.1.take (rdN st).1.toNat, ((rdN st).2.1.drop (rdN st).1.toNat, false))
def rdB (st : RS) : Bool × RS := (decide ((rdN st).1 = 1), ((rdN st).2.1, (rdN st).2.2 || decide (1 < (rdN st).1)))
theorem goodN : GoodP rdN encN (fun n => 0 ≤ n ∧ n ≤ 1099511627775) := by
  constructor
  · intro n ⟨h0, h1⟩ t
    obtain ⟨k, rfl⟩ : ∃ k : Nat, n = k := ⟨n.toNat, by omega⟩
    have hr := readS_var k t (by omega)
    have e : encN (k : Int) = varB k := rfl
    unfold rdN
    simp only [e, hr]
    rw [if_neg (by simp; omega)]
    simp
  · intro s w h
    unfold rdN at h ⊢
    by_cases hc : w = true ∨ (readS s 0).2.2 ≠ 0 ∨ 1099511627775 < (readS s 0).1
    · simp only [if_pos hc] at h; cases h
    · simp only [if_neg hc]
      simp only [not_or] at hc
      obtain ⟨c1, c2, c3⟩ := hc
      refine ⟨by simpa using c1, ?_⟩
      rcases readS_cases s with h1 | ⟨m, r, h1, h2, h3⟩
      · exact absurd h1 c2
      · rw [h2]
        have e : encN (m : Int) = varB m := rfl
        simp only [e, h1]
        simp
theorem rdN_bd (st : RS) : 0 ≤ (rdN st).1 ∧ (rdN st).1 ≤ 1099511627775 := by
  unfold rdN
  split
  · simp
  · rename_i h; simp only [not_or] at h; simp; omega
theorem goodT : GoodP rdT encS (fun s => s.length ≤ 1099511627775) := by
  constructor
  · intro x hx t
    have h1 := goodN.r (x.length : Int) ⟨by omega, by omega⟩ (x ++ t)
    unfold rdT encS
    simp only [List.append_assoc, h1]
    rw [if_neg (by simp; omega)]
    simp
  · intro s w h
    unfold rdT at h ⊢
    by_cases hc : (rdN (s, w)).2.2 = true ∨ ((rdN (s, w)).2.1.length : Int) < (rdN (s, w)).1
    · simp only [if_pos hc] at h; cases h
    · simp only [if_neg hc]
      simp only [not_or] at hc
      obtain ⟨k1, k2⟩ := goodN.c s w (by simpa using hc.1)
      refine ⟨k1, ?_⟩
      have hb := rdN_bd (s, w)
      have hlen : ((rdN (s, w)).2.1.take (rdN (s, w)).1.toNat).length = (rdN (s, w)).1.toNat := by simp; omega
      unfold encS
      rw [hlen, show (((rdN (s, w)).1.toNat : Nat) : Int) = (rdN (s, w)).1 by omega, List.append_assoc, List.take_append_drop]
      exact k2
theorem encN_one : encN 1 = [1] := encN1
theorem goodB : GoodP rdB encB (fun _ => True) := by
  constructor
  · intro b _ t
    have h1 := goodN.r 1 ⟨by omega, by omega⟩ t
    have h0 := goodN.r 0 ⟨by omega, by omega⟩ t
    rw [encN1] at h1
    rw [encN0] at h0
    simp only [List.cons_append, List.nil_append] at h1 h0
    cases b <;> simp [rdB, encB, h1, h0]
  · intro s w h
    unfold rdB at h ⊢
    simp only [Bool.or_eq_false_iff, decide_eq_false_iff_not] at h
    obtain ⟨k1, k2⟩ := goodN.c s w h.1
    refine ⟨k1, ?_⟩
    have hb := rdN_bd (s, w)
    have hcase : (rdN (s, w)).1 = 1 ∨ (rdN (s, w)).1 = 0 := by omega
    rcases hcase with e | e
    · rw [e, encN1] at k2
      simpa [e, encB] using k2
    · rw [e, encN0] at k2
      simpa [e, encB] using k2
/-! ### Lists -/
def rdL {α : Type} (it : RS → α × RS) : Nat → List α → RS → List α × RS
  | 0, out, st => (out, st)
  | k + 1, out, st => if st.2 = true then ([], st) else rdL it k (out ++ [(it st).1]) (it st).2
def rdList {α : Type} (most : Int) (it : RS → α × RS) (st : RS) : List α × RS := rdL it (rdN st).1.toNat [] ((rdN st).2.1, (rdN st).2.2 || decide (most < (rdN st).1))
theorem rdL_r {α : Type} {it : RS → α × RS} {enc : α → Bs} {ok : α → Prop} (h : GoodP it enc ok) (t : Bs) : ∀ (l out : List α), (∀ x ∈ l, ok x) → rdL it l.length out ((l.map enc).flatten ++ t, false) = (out ++ l, (t, false)) := by
  intro l
  induction l with
  | nil => intro out _; simp [rdL]
  | cons x l ih =>
    intro out hl
    simp only [List.length_cons, rdL, List.map_cons, List.flatten_cons, List.append_assoc, Bool.false_eq_true, if_false, h.r x (hl x (by simp))]
    rw [ih _ (fun y hy => hl y (by simp [hy]))]
    simp
theorem rdL_c {α : Type} {it : RS → α × RS} {enc : α → Bs} {ok : α → Prop} (h : GoodP it enc ok) : ∀ (k : Nat) (out : List α) (st : RS), (rdL it k out st).2.2 = false →
    st.2 = false ∧ ∃ l, (rdL it k out st).1 = out ++ l ∧ l.length = k ∧ st.1 = (l.map enc).flatten ++ (rdL it k out st).2.1 := by
  intro k
  induction k with
  | zero => intro out st hf; exact ⟨hf, [], by simp [rdL], rfl, by simp [rdL]⟩
  | succ k ih =>
    intro out st hf
    unfold rdL at hf ⊢
    by_cases hw : st.2 = true
    · rw [if_pos hw, hw] at hf; cases hf
    · rw [if_neg hw] at hf ⊢
      obtain ⟨k1, l, k2, k3, k4⟩ := ih _ _ hf
      obtain ⟨k5, k6⟩ := h.c st.1 st.2 k1
      refine ⟨k5, (it st).1 :: l, ?_, by simp [k3], ?_⟩
      · rw [k2]; simp
      · simp only [List.map_cons, List.flatten_cons, List.append_assoc]
        rw [← k4]
        exact k6
theorem goodL {α : Type} {it : RS → α × RS} {enc : α → Bs} {ok : α → Prop} (h : GoodP it enc ok) (most : Int) (hm : most ≤ 1099511627775) :
    GoodP (rdList most it) (fun l => encN l.length ++ (l.map enc).flatten) (fun l => (l.length : Int) ≤ most ∧ ∀ x ∈ l, ok x) := by
  constructor
  · intro l ⟨h1, h2⟩ t
    have hn := goodN.r (l.length : Int) ⟨by omega, by omega⟩ ((l.map enc).flatten ++ t)
    unfold rdList
    simp only [List.append_assoc, hn]
    rw [show decide (most < (l.length : Int)) = false by simp; omega]
    have := rdL_r h t l [] h2
    simpa using this
  · intro s w hf
    unfold rdList at hf ⊢
    obtain ⟨k1, l, k2, k3, k4⟩ := rdL_c h _ _ _ hf
    simp only [Bool.or_eq_false_iff] at k1
    obtain ⟨k5, k6⟩ := goodN.c s w k1.1
    refine ⟨k5, ?_⟩
    have hb := rdN_bd (s, w)
    simp only at k4
    simp only [k2, List.nil_append, k3, show (((rdN (s, w)).1.toNat : Nat) : Int) = (rdN (s, w)).1 by omega, List.append_assoc]
    rw [← k4]
    exact k6
end Go.Proofs.Ytenndgooepdmiaa
