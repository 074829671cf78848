/- What the reference's reader does. -/
import Derived.Test.YtenndgooepdmiaaSAsk
namespace Go.Proofs.Ytenndgooepdmiaa
open Go Go.AM Go.Proofs
set_option maxRecDepth 20000
set_option maxHeartbeats 1000000
set_option linter.unusedSimpArgs false
set_option linter.unusedVariables false
abbrev R2 := Int × Bool
def r2N (s : Bs) (st : R2) : Int × R2 := if st.2 = true ∨ (readS s st.1).2.2 ≠ 0 ∨ 1099511627775 < (readS s st.1).1 then (0, (st.1, true)) else (((readS s st.1).1 : Int), ((readS s st.1).2.1, false))
def r2T (s : Bs) (st : R2) : Bs × R2 := if (r2N s st).2.2 = true ∨ (s.length : Int) - (r2N s st).2.1 < (r2N s st).1 then ([], ((r2N s st).2.1, true)) else ((s.take ((r2N s st).2.1 + (r2N s st).1).toNat).drop (r2N s st).2.1.toNat, ((r2N s st).2.1 + (r2N s st).1, false))
def r2B (s : Bs) (st : R2) : Bool × R2 := (decide ((r2N s st).1 = 1), ((r2N s st).2.1, (r2N s st).2.2 || decide (1 < (r2N s st).1)))
def Iv (s : Bs) (st : R2) : Prop := 0 ≤ st.1 ∧ st.1 ≤ s.length
def r2C (s : Bs) (st : R2) : Blk := .cells [T s, I st.1, B st.2]
theorem readS_at (s : Bs) (at_ : Int) (h0 : 0 ≤ at_) (h1 : at_ ≤ s.length) : (readS s at_).2.2 ≠ 0 ∨ ∃ m r, s.drop at_.toNat = varB m ++ r ∧ readS s at_ = (m, at_ + ((varB m).length : Int), 0) ∧ m < 18446744073709551616 := by
  have e : readS s at_ = readG at_ 0 0 (s.drop at_.toNat) := by unfold readS; rw [if_pos ⟨h0, h1⟩]
  rw [e]
  rcases read_inv at_ (s.drop at_.toNat) 0 0 (by omega) (by simp) with h | ⟨m, r, h1, h2, h3, _⟩
  · exact .inl h.1
  · right; refine ⟨m, r, h1, ?_, ?_⟩
    · rw [h2]; simp
    · simpa using h3
theorem r2N_iv {s : Bs} {st : R2} (h : Iv s st) : Iv s (r2N s st).2 ∧ 0 ≤ (r2N s st).1 ∧ (r2N s st).1 ≤ 1099511627775 := by
  unfold r2N
  split
  · exact ⟨h, by simp, by simp⟩
  · rename_i hc
    simp only [not_or] at hc
    rcases readS_at s st.1 h.1 h.2 with h1 | ⟨m, r, h1, h2, h3⟩
    · exact absurd h1 hc.2.1
    · rw [h2] at hc ⊢
      have := congrArg List.length h1
      simp at this
      obtain ⟨i1, i2⟩ := h
      simp only at hc
      refine ⟨⟨by simp only; omega, by simp only; omega⟩, by simp only; omega, by simp only; omega⟩
theorem r2n_ev {H : List Blk} {p : Nat} {s : Bs} {st : R2} (hp : H[p]? = some (r2C s st)) (hl : s.length ≤ 9223372036854775807) :
    EvF tab 44 [.ptr p 0] H = some ⟨I (r2N s st).1, [(p, r2C s (r2N s st).2)], []⟩ := by
  obtain ⟨a, w⟩ := st
  have hpl : p < H.length := (List.getElem?_eq_some_iff.1 hp).1
  have hp2 := (List.getElem?_eq_some_iff.1 hp).2
  have hr := fun H => Read2_ev s a hl H
  have hlv : isLiveB H p = true := by unfold isLiveB; rw [hp]; rfl
  unfold r2C at hp2 ⊢
  refine EvF_walk t44 (by simp) ?_
  unfold r2N
  simp only at hp2 ⊢
  generalize readS s a = R at hr ⊢
  obtain ⟨m, a2, e⟩ := R
  simp only at hr ⊢
  cases w
  · by_cases h : e = 0
    · subst h
      by_cases h4 : 1099511627775 < m
      · rw [if_pos (.inr (.inr h4))]
        simp -implicitDefEqProofs [hp2, hpl, getB_old, setB_old, orB, updM, hlv, hr, h4, show (1099511627775 : Int) < m by omega]
      · rw [if_neg (by simp; omega)]
        have hw : IntKind.i64.wrap (m : Int) = (m : Int) := wrap_i64 (by omega) (by omega)
        simp -implicitDefEqProofs [hp2, hpl, getB_old, setB_old, orB, updM, hlv, hr, h4, hw, show ¬ (1099511627775 : Int) < m by omega]
    · rw [if_pos (.inr (.inl h))]
      simp -implicitDefEqProofs [hp2, hpl, getB_old, setB_old, orB, updM, hlv, hr, h]
  · rw [if_pos (.inl rfl)]
    simp -implicitDefEqProofs [hp2, hpl, getB_old, setB_old, orB, updM, hlv, hr]
theorem r2b_ev {H : List Blk} {p : Nat} {s : Bs} {st : R2} (hp : H[p]? = some (r2C s st)) (hl : s.length ≤ 9223372036854775807) :
    EvF tab 45 [.ptr p 0] H = some ⟨B (r2B s st).1, [(p, r2C s (r2B s st).2)], []⟩ := by
  have hpl : p < H.length := (List.getElem?_eq_some_iff.1 hp).1
  have hn := r2n_ev hp hl
  refine EvF_walk t45 (by simp) ?_
  unfold r2B
  generalize r2N s st = x at hn ⊢
  obtain ⟨n, a, w⟩ := x
  unfold r2C at hn ⊢
  simp only at hn ⊢
  by_cases h1 : n = 1
  · subst h1
    cases w <;> simp -implicitDefEqProofs [hn, hpl, getB_old, setB_old, orB, updM]
  · by_cases h2 : 1 < n <;> cases w <;> simp -implicitDefEqProofs [hn, hpl, getB_old, setB_old, orB, updM, h1, h2]
theorem r2t_ev {H : List Blk} {p : Nat} {s : Bs} {st : R2} (hp : H[p]? = some (r2C s st)) (hl : s.length ≤ 9223372036854775807) (hi : Iv s st) :
    EvF tab 46 [.ptr p 0] H = some ⟨T (r2T s st).1, [(p, r2C s (r2T s st).2)], []⟩ := by
  have hpl : p < H.length := (List.getElem?_eq_some_iff.1 hp).1
  have hn := r2n_ev hp hl
  have hb := r2N_iv hi
  refine EvF_walk t46 (by simp) ?_
  unfold r2T
  generalize r2N s st = x at hn hb ⊢
  obtain ⟨n, a, w⟩ := x
  obtain ⟨⟨i1, i2⟩, b1, b2⟩ := hb
  unfold r2C at hn ⊢
  simp only at hn i1 i2 b1 b2 ⊢
  have e1 : IntKind.i64.wrap ((s.length : Int) - a) = (s.length : Int) - a := wrap_i64 (by omega) (by omega)
  have hsetl : (H.set p (Blk.cells [T s, I a, B w])).length = H.length := by simp
  have hlv : ∀ b : Blk, b.live = true → isLiveB (H.set p b) p = true := fun b hb => by unfold isLiveB; rw [List.getElem?_set_self hpl]; exact hb
  have hlv2 : ∀ w a, isLiveB (H.set p (Blk.cells [T s, I a, B w])) p = true := fun w a => hlv _ rfl
  cases w
  · by_cases h : (s.length : Int) - a < n
    · rw [if_pos (.inr h)]
      simp -implicitDefEqProofs [hn, hpl, getB_old, setB_old, orB, updM, hlv2, e1, h]
    · rw [if_neg (by simp; omega)]
      obtain ⟨k, rfl⟩ : ∃ k : Nat, n = k := ⟨n.toNat, by omega⟩
      obtain ⟨j, rfl⟩ : ∃ k : Nat, a = k := ⟨a.toNat, by omega⟩
      have e2 : IntKind.i64.wrap ((j : Int) + k) = (j : Int) + k := wrap_i64 (by omega) (by omega)
      have e3 : IntKind.i64.wrap ((j : Int) + k - k) = (j : Int) := by rw [wrap_i64 (by omega) (by omega)]; omega
      have e4 : ((j : Int) + (k : Int)).toNat = j + k := by omega
      have e5 : IntKind.i64.wrap (j : Int) = (j : Int) := wrap_i64 (by omega) (by omega)
      have hle : (j : Int) + k ≤ s.length := by omega
      have hle2 : (j : Int) ≤ j + k := by omega
      simp -implicitDefEqProofs [hn, hpl, getB_old, setB_old, orB, updM, hlv2, e1, e2, e3, e4, e5, h, cutB, bnd, intOfA, hle, hle2]
  · rw [if_pos (.inl rfl)]
    simp -implicitDefEqProofs [hn, hpl, getB_old, setB_old, orB, updM, hlv2, e1]
end Go.Proofs.Ytenndgooepdmiaa
