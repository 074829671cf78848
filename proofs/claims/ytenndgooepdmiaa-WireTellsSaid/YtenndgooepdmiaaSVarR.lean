/- Numbers in sevens of bits: what Read answers, the program's and the reference's. -/
import Derived.Test.YtenndgooepdmiaaSVarW
namespace Go.Proofs.Ytenndgooepdmiaa
open Go Go.AM Go.Proofs
set_option maxRecDepth 4000
set_option linter.unusedSimpArgs false
set_option linter.unusedVariables false
def badB (k : Nat) (b : UInt8) : Bool := (decide (k = 9) && decide (1 < b.toNat)) || (decide (0 < k) && decide (b.toNat = 0))
def readG (at_ : Int) : Nat → Nat → Bs → Nat × Int × Int
  | _, _, [] => (0, 0, 2)
  | k, a, b :: r => if badB k b = true then (0, 0, 3) else if b.toNat < 128 then (a + b.toNat % 128 * 128 ^ k, at_ + k + 1, 0) else readG at_ (k + 1) (a + b.toNat % 128 * 128 ^ k) r
def retS (x : Nat × Int × Int) : St := ⟨[(4, U x.1), (5, I x.2.1), (6, I x.2.2)], [], []⟩
def stepR (at_ : Int) (k : Nat) (b : UInt8) (a : Nat) : Nat ⊕ (Ex × St) :=
  if badB k b = true then .inr (.ret, retS (0, 0, 3)) else if b.toNat < 128 then .inr (.ret, retS (a + b.toNat % 128 * 128 ^ k, at_ + k + 1, 0)) else .inl (a + b.toNat % 128 * 128 ^ k)
theorem runR (at_ : Int) : ∀ l k a, (∃ a', runL (stepR at_) k l a = .inl a' ∧ readG at_ k a l = (0, 0, 2)) ∨ runL (stepR at_) k l a = .inr (.ret, retS (readG at_ k a l)) := by
  intro l
  induction l with
  | nil => intro k a; exact .inl ⟨a, rfl, rfl⟩
  | cons b l ih =>
    intro k a
    cases hb : badB k b
    · by_cases h : b.toNat < 128
      · right; simp only [runL, readG, stepR, hb, h, Bool.false_eq_true, if_false, if_true]
      · simp only [runL, readG, stepR, hb, h, Bool.false_eq_true, if_false]
        exact ih _ _
    · right; simp only [runL, readG, stepR, hb, if_true]
def readS (s : Bs) (at_ : Int) : Nat × Int × Int := if 0 ≤ at_ ∧ at_ ≤ s.length then readG at_ 0 0 (s.drop at_.toNat) else (0, 0, 1)
theorem stepOk {k a : Nat} {b : UInt8} (hk : k ≤ 9) (ha : a < 128 ^ k) (hb : badB k b = false) (h128 : ¬ b.toNat < 128) : k ≤ 8 ∧ a + b.toNat % 128 * 128 ^ k < 128 ^ (k + 1) := by
  have h1 : k ≤ 8 := by
    rcases Nat.lt_or_ge k 9 with h | h
    · omega
    · have : k = 9 := by omega
      subst this
      simp [badB] at hb
      omega
  refine ⟨h1, ?_⟩
  have h2 : b.toNat % 128 * 128 ^ k ≤ 127 * 128 ^ k := Nat.mul_le_mul_right _ (by omega)
  rw [Nat.pow_succ]
  omega
theorem sum_lt {k a : Nat} {b : UInt8} (hk : k ≤ 9) (ha : a < 128 ^ k) (hb : badB k b = false) : a + b.toNat % 128 * 128 ^ k < 18446744073709551616 := by
  rcases Nat.lt_or_ge k 9 with h | h
  · have h2 : b.toNat % 128 * 128 ^ k ≤ 127 * 128 ^ k := Nat.mul_le_mul_right _ (by omega)
    have h3 : 128 ^ (k + 1) ≤ 128 ^ 9 := Nat.pow_le_pow_right (by omega) (by omega)
    rw [Nat.pow_succ] at h3
    omega
  · have : k = 9 := by omega
    subst this
    have h4 : b.toNat ≤ 1 := by simp [badB] at hb; omega
    have h2 : b.toNat % 128 * 128 ^ 9 ≤ 1 * 128 ^ 9 := Nat.mul_le_mul_right _ (by omega)
    omega
theorem Read_loop (s : Bs) (at_ : Int) (h0 : 0 ≤ at_) (hlen : at_ + s.length ≤ 9223372036854775807) (H : List Blk) :
    loopE (EvF tab) H L75_0 [1, 7, 21, 22, 23] ⟨[(1, I at_), (7, U 0), (21, .g (.sl 1 (bytesG s))), (22, I s.length), (23, I 0)], [], []⟩ =
      some (endL (fun a : Nat => (.exit 0, ⟨[(1, I at_), (7, U a), (21, .g (.sl 1 (bytesG s))), (22, I s.length), (23, I s.length), (24, B false)], [], []⟩)) (runL (stepR at_) 0 s 0)) := by
  have hw := loop_run (E := EvF tab) (h := H) (c := L75_0) (lv := [1, 7, 21, 22, 23]) (l := s) (fun k a => k ≤ 9 ∧ a < 128 ^ k) (stepR at_)
    (fun k a => ⟨[(1, I at_), (7, U a), (21, .g (.sl 1 (bytesG s))), (22, I s.length), (23, I k)], [], []⟩)
    (fun a => (.exit 0, ⟨[(1, I at_), (7, U a), (21, .g (.sl 1 (bytesG s))), (22, I s.length), (23, I s.length), (24, B false)], [], []⟩)) (by simp)
    (fun k b a hk hx hy hi => ?_) (fun a hi => by delta L75_0; simp -implicitDefEqProofs) s.length 0 0 (by omega) (by omega) ⟨by omega, by simp⟩
  · simpa using hw
  · delta L75_0
    obtain ⟨h9, ha⟩ := hi
    have hb := b.toNat_lt
    have e2 := wrap_succ hk (show s.length ≤ 9223372036854775807 by omega)
    simp only [stepR]
    cases hbad : badB k b
    · simp only [Bool.false_eq_true, if_false]
      have hs := sum_lt h9 ha hbad
      have p7 : (128 : Nat) ^ k = 2 ^ (7 * k) := by rw [show (128 : Nat) = 2 ^ 7 by rfl, ← Nat.pow_mul]
      have e1 : IntKind.u64.wrap (andNotI .u8 (b.toNat : Int) 128) = ((b.toNat % 128 : Nat) : Int) := by rw [andNot_u8_128 hb, wrap_u64 (by omega) (by omega)]
      have e3 : IntKind.i64.wrap (7 * (k : Int)) = 7 * (k : Int) := wrap_i64 (by omega) (by omega)
      have e4 : min (7 * (k : Int)).toNat 64 = 7 * k := by omega
      have e5 : IntKind.u64.wrap (((b.toNat % 128 : Nat) : Int) * 2 ^ (7 * k)) = ((b.toNat % 128 * 128 ^ k : Nat) : Int) := by
        have : ((b.toNat % 128 : Nat) : Int) * 2 ^ (7 * k) = ((b.toNat % 128 * 128 ^ k : Nat) : Int) := by rw [p7]; simp
        rw [this, wrap_u64 (by omega) (by omega)]
      have e6 : orI .u64 (a : Int) ((b.toNat % 128 * 128 ^ k : Nat) : Int) = ((a + b.toNat % 128 * 128 ^ k : Nat) : Int) := by
        rw [or_u64 (by omega) (by omega), Nat.or_comm, p7, or_shift (7 * k) (by rw [← p7]; exact ha), Nat.add_comm]
      obtain ⟨v, hv⟩ : ∃ v, a + b.toNat % 128 * 128 ^ k = v := ⟨_, rfl⟩
      rw [hv] at e6 hs ⊢
      have e7 : IntKind.u64.wrap (IntKind.u64.wrap (andNotI .u8 (b.toNat : Int) 128) * 2 ^ (7 * k)) = ((b.toNat % 128 * 128 ^ k : Nat) : Int) := by rw [e1, e5]
      have e8 : orI .u64 (a : Int) (IntKind.u64.wrap (IntKind.u64.wrap (andNotI .u8 (b.toNat : Int) 128) * 2 ^ (7 * k))) = (v : Int) := by rw [e7, e6]
      have c1 : k = 9 → ¬ 1 < (b.toNat : Int) := fun h => by simp [badB, h] at hbad; omega
      have c2 : 0 < k → ¬ b.toNat = 0 := fun h => by simp [badB, h] at hbad; omega
      have g7 : ¬ 7 * (k : Int) < 0 := by omega
      have g8 : (0 : Int) ≤ 7 * (k : Int) := by omega
      have e9 : IntKind.i64.wrap (at_ + (k : Int)) = at_ + (k : Int) := wrap_i64 (by omega) (by omega)
      have e10 : IntKind.i64.wrap (at_ + (k : Int) + 1) = at_ + (k : Int) + 1 := wrap_i64 (by omega) (by omega)
      have hg : (bytesG s)[k]? = some [.int .u8 (b.toNat : Int)] := by rw [bytesG_get, hx]; rfl
      have n9 : ((k : Int) = 9) = (k = 9) := by apply propext; omega
      by_cases h128 : b.toNat < 128
      · rw [if_pos h128]
        refine ⟨by simp, ?_⟩
        have g3 : (b.toNat : Int) < 128 := by omega
        by_cases g1 : k = 9
        · have c1' := c1 (by omega)
          have c2' := c2 (by omega)
          have g2 : 0 < k := by omega
          simp -implicitDefEqProofs [hk, hg, n9, eq_true g1, c1', c2', e3, e4, e8, g7, g8, e9, e10, retS, g2, g3]
        · by_cases g2 : 0 < k
          · have c2' := c2 (by omega)
            simp -implicitDefEqProofs [hk, hg, n9, eq_false g1, c2', e3, e4, e8, g7, g8, e9, e10, retS, g2, g3]
          · simp -implicitDefEqProofs [hk, hg, n9, eq_false g1, e3, e4, e8, g7, g8, e9, e10, retS, g2, g3]
      · rw [if_neg h128]
        have hs2 := stepOk h9 ha hbad h128
        rw [hv] at hs2
        refine ⟨⟨by omega, hs2.2⟩, ?_⟩
        have g3 : ¬ (b.toNat : Int) < 128 := by omega
        by_cases g2 : 0 < k
        · have c2' := c2 (by omega)
          have g1 : ¬ k = 9 := by omega
          simp -implicitDefEqProofs [hk, hg, n9, eq_false g1, c2', e3, e4, e8, g7, g8, e2, retS, g2, g3]
        · have g1 : ¬ k = 9 := by omega
          simp -implicitDefEqProofs [hk, hg, n9, eq_false g1, e3, e4, e8, g7, g8, e2, retS, g2, g3]
    · simp only [if_true]
      refine ⟨by simp, ?_⟩
      have n9 : ((k : Int) = 9) = (k = 9) := by apply propext; omega
      have hg : (bytesG s)[k]? = some [.int .u8 (b.toNat : Int)] := by rw [bytesG_get, hx]; rfl
      by_cases g1 : k = 9
      · by_cases g4 : 1 < (b.toNat : Int)
        · simp -implicitDefEqProofs [hk, hg, n9, eq_true g1, g4, retS]
        · have g5 : (b.toNat : Int) = 0 := by simp [badB, g1] at hbad; omega
          have g2 : 0 < k := by omega
          simp -implicitDefEqProofs [hk, hg, n9, eq_true g1, g4, g5, g2, retS]
      · have g5 : (b.toNat : Int) = 0 := by simp [badB, g1] at hbad; omega
        have g2 : 0 < k := by simp [badB, g1] at hbad; omega
        simp -implicitDefEqProofs [hk, hg, n9, eq_false g1, g5, g2, retS]
theorem Read_ev (s : Bs) (at_ : Int) (hs : s.length ≤ 9223372036854775807) (H : List Blk) :
    EvF tab 75 [T s, I at_] H = some ⟨.tup [U (readS s at_).1, I (readS s at_).2.1, I (readS s at_).2.2], [], []⟩ := by
  refine EvF_walk t75 (by simp) ?_
  unfold readS
  by_cases h1 : 0 ≤ at_
  · by_cases h2 : at_ ≤ s.length
    · have hl : (s.drop at_.toNat).length = s.length - at_.toNat := by simp
      have hw := Read_loop (s.drop at_.toNat) at_ h1 (by omega) H
      have ht : List.take s.length s = s := List.take_length
      rw [if_pos ⟨h1, h2⟩]
      rcases runR at_ (s.drop at_.toNat) 0 0 with ⟨a', k1, k2⟩ | k1 <;> rw [k1] at hw
      · rw [k2]
        simp -implicitDefEqProofs [show ¬ at_ < 0 by omega, show ¬ (s.length : Int) < at_ by omega, h1, h2, ht, cutB, bnd, intOfA, bytesG_len] at hw ⊢
        simp -implicitDefEqProofs [hw, endL]
      · simp -implicitDefEqProofs [show ¬ at_ < 0 by omega, show ¬ (s.length : Int) < at_ by omega, h1, h2, ht, cutB, bnd, intOfA, bytesG_len] at hw ⊢
        simp -implicitDefEqProofs [hw, endL, retS]
    · rw [if_neg (by omega)]
      simp -implicitDefEqProofs [show ¬ at_ < 0 by omega, show (s.length : Int) < at_ by omega]
  · rw [if_neg (by omega)]
    simp -implicitDefEqProofs [show at_ < 0 by omega]
theorem Read2_loop (s : Bs) (at_ : Int) (h0 : 0 ≤ at_) (h1 : at_ ≤ s.length) (hlen : s.length ≤ 9223372036854775807) (H : List Blk) :
    loopE (EvF tab) H L76_0 [0, 1, 7, 8, 9] ⟨[(0, T s), (1, I at_), (7, U 0), (8, U 1), (9, I 0)], [], []⟩ =
      some (endL (fun a : Nat => (.ret, retS (0, 0, 2))) (runL (stepR at_) 0 (s.drop at_.toNat) 0)) := by
  have hl : (s.drop at_.toNat).length = s.length - at_.toNat := by simp
  have hw := loop_run (E := EvF tab) (h := H) (c := L76_0) (lv := [0, 1, 7, 8, 9]) (l := s.drop at_.toNat) (fun k a => k ≤ 9 ∧ a < 128 ^ k) (stepR at_)
    (fun k a => ⟨[(0, T s), (1, I at_), (7, U a), (8, U (128 ^ k : Nat)), (9, I k)], [], []⟩)
    (fun a => (.ret, retS (0, 0, 2))) (by simp)
    (fun k b a hk hx hy hi => ?_) (fun a hi => ?_) (s.drop at_.toNat).length 0 0 (by omega) (by omega) ⟨by omega, by simp⟩
  · simpa using hw
  · delta L76_0
    obtain ⟨h9, ha⟩ := hi
    have hb := b.toNat_lt
    have e2 := wrap_succ hk (show (s.drop at_.toNat).length ≤ 9223372036854775807 by omega)
    have e9 : IntKind.i64.wrap (at_ + (k : Int)) = at_ + (k : Int) := wrap_i64 (by omega) (by omega)
    have e10 : IntKind.i64.wrap (at_ + (k : Int) + 1) = at_ + (k : Int) + 1 := wrap_i64 (by omega) (by omega)
    have hg : s[(at_ + (k : Int)).toNat]? = some b := by
      rw [List.getElem?_drop] at hx
      rw [show (at_ + (k : Int)).toNat = at_.toNat + k by omega]; exact hx
    have n9 : ((k : Int) = 9) = (k = 9) := by apply propext; omega
    have c3 : ¬ (s.length : Int) ≤ at_ + k := by omega
    have c4 : 0 ≤ at_ + (k : Int) := by omega
    simp only [stepR]
    cases hbad : badB k b
    · simp only [Bool.false_eq_true, if_false]
      have hs := sum_lt h9 ha hbad
      have hp9 : 128 ^ k ≤ 128 ^ 9 := Nat.pow_le_pow_right (by omega) h9
      obtain ⟨w, hw⟩ : ∃ w, 128 ^ k = w := ⟨_, rfl⟩
      rw [hw] at hp9 hs ha ⊢
      have em : b.toNat % 128 * w = w * (b.toNat % 128) := Nat.mul_comm _ _
      have e1 : IntKind.u64.wrap ((b.toNat : Int) % 128) = ((b.toNat % 128 : Nat) : Int) := by rw [wrap_u64 (by omega) (by omega)]; simp
      have e5 : IntKind.u64.wrap ((w : Int) * ((b.toNat % 128 : Nat) : Int)) = ((b.toNat % 128 * w : Nat) : Int) := by
        rw [em, ← Int.natCast_mul, wrap_u64 (by omega) (by omega)]
      have e6 : IntKind.u64.wrap ((a : Int) + IntKind.u64.wrap ((w : Int) * IntKind.u64.wrap ((b.toNat : Int) % 128))) = ((a + b.toNat % 128 * w : Nat) : Int) := by
        rw [e1, e5, ← Int.natCast_add, wrap_u64 (by omega) (by omega)]
      obtain ⟨v, hv⟩ : ∃ v, a + b.toNat % 128 * w = v := ⟨_, rfl⟩
      rw [hv] at e6 ⊢
      have c1 : k = 9 → ¬ 1 < (b.toNat : Int) := fun h => by simp [badB, h] at hbad; omega
      have c2 : 0 < k → ¬ b.toNat = 0 := fun h => by simp [badB, h] at hbad; omega
      by_cases h128 : b.toNat < 128
      · rw [if_pos h128]
        refine ⟨by simp, ?_⟩
        have g3 : (b.toNat : Int) < 128 := by omega
        by_cases g1 : k = 9
        · have c1' := c1 (by omega)
          have c2' := c2 (by omega)
          have g2 : 0 < k := by omega
          simp -implicitDefEqProofs [hg, n9, eq_true g1, c1', c2', c3, c4, e6, e9, e10, retS, g2, g3, Int.tmod_eq_emod_of_nonneg]
        · by_cases g2 : 0 < k
          · have c2' := c2 (by omega)
            simp -implicitDefEqProofs [hg, n9, eq_false g1, c2', c3, c4, e6, e9, e10, retS, g2, g3, Int.tmod_eq_emod_of_nonneg]
          · simp -implicitDefEqProofs [hg, n9, eq_false g1, c3, c4, e6, e9, e10, retS, g2, g3, Int.tmod_eq_emod_of_nonneg]
      · rw [if_neg h128]
        have hs2 := stepOk h9 (by rw [hw]; exact ha) hbad h128
        rw [hw, hv] at hs2
        have hp8 : 128 ^ (k + 1) ≤ 128 ^ 9 := Nat.pow_le_pow_right (by omega) (by omega)
        have e7 : IntKind.u64.wrap ((w : Int) * 128) = ((128 ^ (k + 1) : Nat) : Int) := by
          rw [Nat.pow_succ, hw] at hp8 ⊢
          rw [wrap_u64 (by omega) (by omega)]; simp
        refine ⟨⟨by omega, hs2.2⟩, ?_⟩
        obtain ⟨w', hw'⟩ : ∃ w', 128 ^ (k + 1) = w' := ⟨_, rfl⟩
        rw [hw'] at e7 ⊢
        have g3 : ¬ (b.toNat : Int) < 128 := by omega
        by_cases g2 : 0 < k
        · have c2' := c2 (by omega)
          have g1 : ¬ k = 9 := by omega
          simp -implicitDefEqProofs [hg, n9, eq_false g1, c2', c3, c4, e6, e7, e9, e2, retS, g2, g3, Int.tmod_eq_emod_of_nonneg]
        · have g1 : ¬ k = 9 := by omega
          simp -implicitDefEqProofs [hg, n9, eq_false g1, c3, c4, e6, e7, e9, e2, retS, g2, g3, Int.tmod_eq_emod_of_nonneg]
    · simp only [if_true]
      refine ⟨by simp, ?_⟩
      by_cases g1 : k = 9
      · by_cases g4 : 1 < (b.toNat : Int)
        · simp -implicitDefEqProofs [hg, n9, eq_true g1, g4, retS, c3, c4, e9]
        · have g5 : (b.toNat : Int) = 0 := by simp [badB, g1] at hbad; omega
          have g2 : 0 < k := by omega
          simp -implicitDefEqProofs [hg, n9, eq_true g1, g4, g5, g2, retS, c3, c4, e9]
      · have g5 : (b.toNat : Int) = 0 := by simp [badB, g1] at hbad; omega
        have g2 : 0 < k := by simp [badB, g1] at hbad; omega
        simp -implicitDefEqProofs [hg, n9, eq_false g1, g5, g2, retS, c3, c4, e9]
  · delta L76_0
    have e9 : IntKind.i64.wrap (at_ + ((s.drop at_.toNat).length : Int)) = (s.length : Int) := by rw [wrap_i64 (by omega) (by omega)]; omega
    obtain ⟨n, hn⟩ : ∃ n, (s.drop at_.toNat).length = n := ⟨_, rfl⟩
    rw [hn] at e9 ⊢
    simp -implicitDefEqProofs [e9, retS]
theorem Read2_ev (s : Bs) (at_ : Int) (hs : s.length ≤ 9223372036854775807) (H : List Blk) :
    EvF tab 76 [T s, I at_] H = some ⟨.tup [U (readS s at_).1, I (readS s at_).2.1, I (readS s at_).2.2], [], []⟩ := by
  refine EvF_walk t76 (by simp) ?_
  unfold readS
  by_cases h1 : 0 ≤ at_
  · by_cases h2 : at_ ≤ s.length
    · have hw := Read2_loop s at_ h1 h2 hs H
      rw [if_pos ⟨h1, h2⟩]
      rcases runR at_ (s.drop at_.toNat) 0 0 with ⟨a', k1, k2⟩ | k1 <;> rw [k1] at hw
      · rw [k2]
        simp -implicitDefEqProofs [show ¬ at_ < 0 by omega, show ¬ (s.length : Int) < at_ by omega, h1, h2, hw, endL, retS]
      · simp -implicitDefEqProofs [show ¬ at_ < 0 by omega, show ¬ (s.length : Int) < at_ by omega, h1, h2, hw, endL, retS]
    · rw [if_neg (by omega)]
      simp -implicitDefEqProofs [show ¬ at_ < 0 by omega, show (s.length : Int) < at_ by omega]
  · rw [if_neg (by omega)]
    simp -implicitDefEqProofs [show at_ < 0 by omega]
end Go.Proofs.Ytenndgooepdmiaa
