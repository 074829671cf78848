/- Lists that may be: what the program and the reference say. -/
import Derived.Test.YtibnbcljmfigfaaSHist1
import Derived.Test.YtibnbcljmfigfaaPStr
namespace Go.Proofs.Ytibnbcljmfigfaa
open Go Go.AM Go.Proofs
set_option maxRecDepth 20000
set_option maxHeartbeats 1000000
set_option linter.unusedSimpArgs false
set_option linter.unusedVariables false
def mayG : Bs → List KV → Bool
  | _, [] => true
  | last, x :: l => (oneOk x && Op.bytesLess last x.key) && mayG x.key l
def mayL (l : List KV) : Bool := mayG [] l
/-- Keys are no longer than can be. -/
def KS (l : List KV) : Prop := ∀ x ∈ l, x.key.length ≤ 9223372036854775807
theorem runG_mayK : ∀ (l : List KV) k last, (∃ b, runG (fun _ (x : KV) (last : Bs) => (if (oneOk x && Op.bytesLess last x.key) = true then .inl x.key else .inr 0 : Bs ⊕ Nat)) k l last = .inl b ∧ mayG last l = true) ∨
    (runG (fun _ (x : KV) (last : Bs) => (if (oneOk x && Op.bytesLess last x.key) = true then .inl x.key else .inr 0 : Bs ⊕ Nat)) k l last = .inr 0 ∧ mayG last l = false) := by
  intro l
  induction l with
  | nil => intro k last; exact .inl ⟨last, rfl, rfl⟩
  | cons x l ih =>
    intro k last
    cases h : (oneOk x && Op.bytesLess last x.key)
    · right; simp only [runG, mayG, h, Bool.false_eq_true, if_false, Bool.false_and, and_self]
    · simp only [runG, mayG, h, if_true, Bool.true_and]
      exact ih _ _
theorem May2L_ev (s : Sl KV) (hk : KS s.l) (hl : s.l.length ≤ 9223372036854775807) (H : List Blk) : EvF tab 74 [.g (KVs.g s)] H = some ⟨B (mayL s.l), [], []⟩ := by
  have hq := loop_runJ (E := EvF tab) (h := H) (c := L74_0) (lv := [0, 3]) (l := s.l) (β := Bs) (γ := Nat) (fun k last => (k = 0 ∧ last = []) ∨ ∃ j y, k = j + 1 ∧ s.l[j]? = some y ∧ last = y.key) (fun _ x last => if (oneOk x && Op.bytesLess last x.key) = true then .inl x.key else .inr 0)
    (fun k r o => ⟨[(0, .g (KVs.g s)), (3, I k)], [], o⟩)
    (fun r o => (.exit 0, ⟨[(0, .g (KVs.g s)), (3, I s.l.length), (7, B false)], [], o⟩))
    (fun _ o => (.ret, ⟨[(2, B false)], [], o⟩)) (by simp) (by simp) (fun k x r o hk2 hx hy hi => ?_) (fun r o _ => by delta L74_0; cases s <;> simp -implicitDefEqProofs) [] [] (.inl ⟨rfl, rfl⟩)
  · obtain ⟨o', hq⟩ := hq
    simp only [Int.ofNat_zero, Int.cast_ofNat_Int] at hq
    refine EvF_walk t74 (by simp) ?_
    unfold mayL
    rcases runG_mayK s.l 0 [] with ⟨b, k1, k2⟩ | ⟨k1, k2⟩ <;> rw [k1] at hq <;> simp only [endJ] at hq <;> simp -implicitDefEqProofs [hq, k2]
  · have e2 := wrap_succ hk2 (by omega)
    have h1 := fun H => One2_ev x (hk x (List.mem_of_getElem? hx)) H
    delta L74_0
    cases s with
    | nil => simp at hk2
    | of l =>
      simp only [Sl.l_of] at hk2 hx hy hl hi ⊢
      have hne : oneOk x = true → Op.bytesLess [] x.key = true := fun h => by
        have h1 : 1 ≤ x.key.length := by
          simp only [oneOk, keyOk, Bool.and_eq_true, decide_eq_true_eq] at h; exact h.1.1.1
        cases hq : x.key with
        | nil => rw [hq] at h1; simp at h1
        | cons a b => rfl
      cases ho : oneOk x <;> rw [ho] at h1
      · refine ⟨o, ?_⟩
        simp only [A, KV.c, List.map_cons, List.map_nil] at h1
        rcases hi with ⟨rfl, rfl⟩ | ⟨j, y, rfl, hj, rfl⟩
        · simp -implicitDefEqProofs [hk2, hy, KV.c, h1]
        · simp -implicitDefEqProofs [hk2, hy, KV.c, h1, show (j : Int) + 1 < (l.length : Int) by omega, show (0 : Int) ≤ (j : Int) + 1 by omega]
      · simp only [A, KV.c, List.map_cons, List.map_nil] at h1
        rcases hi with ⟨rfl, rfl⟩ | ⟨j, y, rfl, hj, rfl⟩
        · rw [hne ho]
          refine ⟨.inr ⟨0, x, rfl, hx, rfl⟩, o, ?_⟩
          simp -implicitDefEqProofs [hk2, hy, KV.c, h1, e2, show IntKind.i64.wrap 1 = 1 from rfl]
        · have hj2 : j < l.length := by omega
          have hj3 : l[j] = y := by have := List.getElem?_eq_getElem hj2; rw [hj] at this; exact (Option.some.inj this).symm
          have e3 : IntKind.i64.wrap ((j : Int) + 1 - 1) = (j : Int) := by rw [wrap_i64 (by omega) (by omega)]; omega
          have e4 : (0 : Int) < (j : Int) + 1 := by omega
          have e6 : IntKind.i64.wrap (j : Int) = (j : Int) := wrap_i64 (by omega) (by omega)
          have e7 : (j : Int) + 1 < (l.length : Int) := by omega
          have e8 : (0 : Int) ≤ (j : Int) + 1 := by omega
          have e9 : ((j : Int) + 1).toNat = j + 1 := by omega
          have e5 : IntKind.i64.wrap ((j : Int) + 1 + 1) = (j : Int) + 1 + 1 := wrap_i64 (by omega) (by omega)
          cases hc : Op.bytesLess y.key x.key
          · refine ⟨o, ?_⟩
            simp -implicitDefEqProofs [hk2, hy, KV.c, h1, e3, e4, e6, e7, e8, e9, hj2, hj3, hc, show j + 1 < l.length by omega]
          · refine ⟨.inr ⟨j + 1, x, rfl, hx, rfl⟩, o, ?_⟩
            simp -implicitDefEqProofs [hk2, hy, KV.c, h1, e3, e4, e5, e6, e7, e8, e9, hj2, hj3, hc, show j + 1 < l.length by omega]
end Go.Proofs.Ytibnbcljmfigfaa
