/- What the reader's methods do. -/
import Derived.Test.YtenndgooepdmiaaPWire2
namespace Go.Proofs.Ytenndgooepdmiaa
open Go Go.AM Go.Proofs
set_option maxRecDepth 20000
set_option maxHeartbeats 1000000
set_option linter.unusedSimpArgs false
set_option linter.unusedVariables false
def rC (st : RS) : Blk := .cells [T st.1, B st.2]
theorem rdN_len (st : RS) : (rdN st).2.1.length ≤ st.1.length := by unfold rdN; split <;> simp
theorem rn_ev {H : List Blk} {p : Nat} {st : RS} (hp : H[p]? = some (rC st)) (hl : st.1.length ≤ 9223372036854775807) :
    EvF tab 36 [.ptr p 0] H = some ⟨I (rdN st).1, [(p, rC (rdN st).2)], []⟩ := by
  obtain ⟨s, w⟩ := st
  simp only at hl
  have hpl : p < H.length := (List.getElem?_eq_some_iff.1 hp).1
  have hp2 := (List.getElem?_eq_some_iff.1 hp).2
  have hr := fun H => Read_ev s 0 hl H
  unfold rC at hp2 ⊢
  refine EvF_walk t36 (by simp) ?_
  unfold rdN
  simp only at hp2 ⊢
  cases w
  · rcases readS_cases s with h | ⟨m, r, h1, h2, h3⟩
    · rw [if_pos (.inr (.inl h))]
      generalize (readS s 0).1 = v1 at hr
      generalize (readS s 0).2.1 = v2 at hr
      generalize (readS s 0).2.2 = v3 at hr h
      simp -implicitDefEqProofs [hp2, hpl, getB_old, setB_old, orB, updM, hr, h]
    · rw [h2] at hr ⊢
      simp only at hr ⊢
      by_cases h4 : 1099511627775 < m
      · rw [if_pos (.inr (.inr h4))]
        simp -implicitDefEqProofs [hp2, hpl, getB_old, setB_old, orB, updM, hr, h4, show (1099511627775 : Int) < m by omega]
      · rw [if_neg (by simp; omega)]
        have hw : IntKind.i64.wrap (m : Int) = (m : Int) := wrap_i64 (by omega) (by omega)
        have hlen : (varB m).length ≤ s.length := by rw [h1]; simp
        have ht : List.take s.length s = s := List.take_length
        simp -implicitDefEqProofs [hp2, hpl, getB_old, setB_old, orB, updM, hr, h4, cutB, bnd, intOfA, hw, ht, hlen, show ¬ (1099511627775 : Int) < m by omega]
  · rw [if_pos (.inl rfl)]
    simp -implicitDefEqProofs [hp2, hpl, getB_old, setB_old, orB, updM, hr]
theorem rb_ev {H : List Blk} {p : Nat} {st : RS} (hp : H[p]? = some (rC st)) (hl : st.1.length ≤ 9223372036854775807) :
    EvF tab 37 [.ptr p 0] H = some ⟨B (rdB st).1, [(p, rC (rdB st).2)], []⟩ := by
  have hpl : p < H.length := (List.getElem?_eq_some_iff.1 hp).1
  have hn := rn_ev hp hl
  refine EvF_walk t37 (by simp) ?_
  unfold rdB
  generalize rdN st = x at hn ⊢
  obtain ⟨n, s, w⟩ := x
  unfold rC at hn ⊢
  simp only at hn ⊢
  by_cases h1 : n = 1
  · subst h1
    cases w <;> simp -implicitDefEqProofs [hn, hpl, getB_old, setB_old, orB, updM]
  · by_cases h2 : 1 < n <;> cases w <;> simp -implicitDefEqProofs [hn, hpl, getB_old, setB_old, orB, updM, h1, h2]
theorem rt_ev {H : List Blk} {p : Nat} {st : RS} (hp : H[p]? = some (rC st)) (hl : st.1.length ≤ 9223372036854775807) :
    EvF tab 38 [.ptr p 0] H = some ⟨T (rdT st).1, [(p, rC (rdT st).2)], []⟩ := by
  have hpl : p < H.length := (List.getElem?_eq_some_iff.1 hp).1
  have hn := rn_ev hp hl
  have hb := rdN_bd st
  refine EvF_walk t38 (by simp) ?_
  unfold rdT
  generalize rdN st = x at hn hb ⊢
  obtain ⟨n, s, w⟩ := x
  unfold rC at hn ⊢
  simp only at hn hb ⊢
  cases w
  · by_cases h : (s.length : Int) < n
    · rw [if_pos (.inr h)]
      simp -implicitDefEqProofs [hn, hpl, getB_old, setB_old, orB, updM, h]
    · rw [if_neg (by simp; omega)]
      obtain ⟨k, rfl⟩ : ∃ k : Nat, n = k := ⟨n.toNat, by omega⟩
      have hle : k ≤ s.length := by omega
      simp -implicitDefEqProofs [hn, hpl, getB_old, setB_old, orB, updM, h, cutB, bnd, intOfA, hle, show ¬ (s.length : Int) < (k : Int) by omega]
  · rw [if_pos (.inl rfl)]
    simp -implicitDefEqProofs [hn, hpl, getB_old, setB_old, orB, updM]
theorem rend_ev {H : List Blk} {p : Nat} {st : RS} (hp : H[p]? = some (rC st)) : EvF tab 43 [.ptr p 0] H = some ⟨B (!st.2 && decide (st.1 = [])), [], []⟩ := by
  have hpl : p < H.length := (List.getElem?_eq_some_iff.1 hp).1
  have hp2 := (List.getElem?_eq_some_iff.1 hp).2
  refine EvF_walk t43 (by simp) ?_
  obtain ⟨s, w⟩ := st
  unfold rC at hp2
  cases w
  · by_cases h : s = [] <;> simp -implicitDefEqProofs [hp2, hpl, getB_old, setB_old, orB, updM, h]
  · simp -implicitDefEqProofs [hp2, hpl, getB_old, setB_old, orB, updM]
theorem rC_set {H : List Blk} {p : Nat} {b : Blk} (hp : p < H.length) (st : RS) : (H.set p (rC st))[p]? = some (rC st) := List.getElem?_set_self hp
end Go.Proofs.Ytenndgooepdmiaa
