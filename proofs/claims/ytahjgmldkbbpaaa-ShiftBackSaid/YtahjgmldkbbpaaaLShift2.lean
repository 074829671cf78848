/- The laws ShiftTurns, ShiftOrder, ShiftBack. -/
import Derived.Test.YtahjgmldkbbpaaaLShift1
namespace Go.Proofs.Ytahjgmldkbbpaaa
open Go Go.AM Go.Proofs
set_option maxRecDepth 4000
set_option linter.unusedSimpArgs false
set_option linter.unusedVariables false
/-! ### Turns -/
theorem narrow_wide (n : Nat) : ∀ w, narrowN (wideS n w) = n % 256 ^ w := by
  intro w
  have key : ∀ k, k ≤ w → ((List.range k).map (wideB n w)).foldl (fun a b => 256 * a + b.toNat) 0 = n / 256 ^ (w - k) % 256 ^ k := by
    intro k
    induction k with
    | zero => intro _; simp; omega
    | succ k ih =>
      intro hk
      rw [List.range_succ, List.map_append, List.foldl_append, ih (by omega)]
      simp only [List.map_cons, List.map_nil, List.foldl_cons, List.foldl_nil, wideB]
      have e1 : n / 256 ^ (w - k) = n / 256 ^ (w - (k + 1)) / 256 := by
        rw [show w - k = (w - (k + 1)) + 1 by omega, Nat.pow_succ, Nat.div_div_eq_div_mul]
      have e2 : w - 1 - k = w - (k + 1) := by omega
      rw [e1, e2]
      obtain ⟨m, hm⟩ : ∃ m, n / 256 ^ (w - (k + 1)) = m := ⟨_, rfl⟩
      rw [hm]
      have e3 : 256 ^ (k + 1) = 256 * 256 ^ k := by rw [Nat.pow_succ, Nat.mul_comm]
      have e4 : (UInt8.ofNat m).toNat = m % 256 := by simp
      rw [e3, Nat.mod_mul, e4]
      omega
  have := key w (Nat.le_refl _)
  simpa [narrowN, wideS] using this
theorem zag_zig (n : Int) : zagN (zigN n) = n := by
  unfold zagN zigN
  by_cases h : 0 ≤ n
  · rw [if_pos h, if_pos (by omega)]; omega
  · rw [if_neg h, if_neg (by omega)]; omega
theorem zig_zag (u : Nat) : zigN (zagN u) = u := by
  unfold zagN zigN
  rcases Nat.mod_two_eq_zero_or_one u with h | h
  · rw [if_pos h, if_pos (by omega)]; omega
  · rw [if_neg (by omega), if_neg (by omega)]; omega
theorem zig_lt {n : Int} (h : I64 n) : zigN n < 18446744073709551616 := by
  obtain ⟨h1, h2⟩ := h
  unfold zigN; split <;> omega
theorem zag_bd {u : Nat} (h : u < 18446744073709551616) : I64 (zagN u) := by
  unfold zagN I64; split <;> omega
theorem low_low (u : Nat) : lowN (lowN u 40) 12 = lowN u 12 := by
  have h : ∀ x, lowN x 12 = x % 4096 := fun x => by simp [lowN]
  have h2 : lowN u 40 = u % 1099511627776 := by simp [lowN]
  rw [h, h, h2]; omega
theorem low_lt {n : Nat} (k : Int) (h : n < 18446744073709551616) : lowN n k < 18446744073709551616 := by
  unfold lowN
  split
  · omega
  · split
    · exact h
    · exact Nat.lt_of_le_of_lt (Nat.mod_le _ _) h
theorem wrap_i32_mod (n : Int) : IntKind.i32.wrap n = if n % 4294967296 < 2147483648 then n % 4294967296 else n % 4294967296 - 4294967296 := by
  simp [IntKind.wrap, IntKind.signed, IntKind.bits]
  split <;> split <;> omega
theorem ShiftTurns_law (n u : Int) (hn : I64 n) (hu : 0 ≤ u ∧ u ≤ 18446744073709551615) : EvF tab 11 [I n, U u] [] = some ⟨.g (.bool true), [], []⟩ := by
  refine EvF_walk t11 (by simp) ?_
  obtain ⟨N, rfl⟩ := Int.eq_ofNat_of_zero_le hu.1
  have hN : N < 18446744073709551616 := by omega
  have w1 := fun H => Wide_ev N 8 hN H
  simp only [show (0 : Int) ≤ 8 ∧ (8 : Int) ≤ 8 by decide, if_true, show (8 : Int).toNat = 8 by rfl] at w1
  have n1 := fun H => Narrow_ev (wideS N 8) H
  simp only [show (wideS N 8).length ≤ 8 by simp [wideS], if_true, narrow_wide, show N % 256 ^ 8 = N by omega] at n1
  have a1 := fun H => Zig_ev n hn H
  have a2 := fun H => Zag_ev (zigN n) (zig_lt hn) H
  rw [zag_zig] at a2
  have b1 := fun H => Zag_ev N hN H
  have b2 := fun H => Zig_ev (zagN N) (zag_bd hN) H
  rw [zig_zag] at b2
  have l1 := fun H => Low_ev N 40 hN H
  have l2 := fun H => Low_ev (lowN N 40) 12 (low_lt 40 hN) H
  have l3 := fun H => Low_ev N 12 hN H
  rw [low_low] at l2
  obtain ⟨M, hM⟩ : ∃ M : Nat, IntKind.u64.wrap n = (M : Int) := ⟨(n % 18446744073709551616).toNat, by rw [wrap_u64_mod]; omega⟩
  have hM' := hM
  rw [wrap_u64_mod] at hM'
  obtain ⟨hn1, hn2⟩ := hn
  have s1 := fun H => Sign_ev M 64 (by omega) H
  have s2 := fun H => Sign_ev M 32 (by omega) H
  have e1 : signN M 64 = n := by
    unfold signN
    rw [if_neg (by omega)]
    simp only [show (64 : Int).toNat = 64 by rfl]
    split <;> omega
  have e2 : signN M 32 = IntKind.i64.wrap (IntKind.i32.wrap n) := by
    have hw : IntKind.i64.wrap (IntKind.i32.wrap n) = IntKind.i32.wrap n := by rw [wrap_i32_mod]; apply wrap_i64 <;> split <;> omega
    rw [hw, wrap_i32_mod]
    unfold signN
    rw [if_neg (by omega)]
    simp only [show (32 : Int).toNat = 32 by rfl]
    split <;> split <;> omega
  rw [e1] at s1
  rw [e2] at s2
  simp -implicitDefEqProofs [live01, w1, n1, a1, a2, b1, b2, l1, l2, l3, hM, s1, s2]
/-! ### Order -/
theorem bytesLess_nil (a : Bs) : Op.bytesLess a [] = false := by cases a <;> rfl
theorem wideS_succ (n w : Nat) : wideS n (w + 1) = UInt8.ofNat (n / 256 ^ w) :: wideS n w := by
  unfold wideS
  rw [List.range_succ_eq_map, List.map_cons, List.map_map]
  congr 1
  apply List.map_congr_left
  intro i hi
  simp only [Function.comp, wideB]
  congr 3
  omega
theorem wide_less (a b : Nat) : ∀ w, Op.bytesLess (wideS a w) (wideS b w) = decide (a % 256 ^ w < b % 256 ^ w) ∧ (wideS a w = wideS b w ↔ a % 256 ^ w = b % 256 ^ w) := by
  intro w
  induction w with
  | zero => simp [wideS, Op.bytesLess, Nat.mod_one]
  | succ w ih =>
    rw [wideS_succ, wideS_succ]
    have h0 : 0 < 256 ^ w := Nat.pow_pos (by omega)
    have ea : a % 256 ^ (w + 1) = a % 256 ^ w + 256 ^ w * (a / 256 ^ w % 256) := Nat.mod_pow_succ
    have eb : b % 256 ^ (w + 1) = b % 256 ^ w + 256 ^ w * (b / 256 ^ w % 256) := Nat.mod_pow_succ
    have la := Nat.mod_lt a h0
    have lb := Nat.mod_lt b h0
    obtain ⟨W, hW⟩ : ∃ W, 256 ^ w = W := ⟨_, rfl⟩
    rw [ea, eb]
    rw [hW] at la lb h0 ih ⊢
    have ha : (UInt8.ofNat (a / W)).toNat = a / W % 256 := by simp
    have hb : (UInt8.ofNat (b / W)).toNat = b / W % 256 := by simp
    have hlt : (UInt8.ofNat (a / W) < UInt8.ofNat (b / W)) ↔ a / W % 256 < b / W % 256 := by rw [UInt8.lt_iff_toNat_lt, ha, hb]
    have heq : (UInt8.ofNat (a / W) = UInt8.ofNat (b / W)) ↔ a / W % 256 = b / W % 256 := by rw [← UInt8.toNat_inj, ha, hb]
    obtain ⟨x, hx⟩ : ∃ x, a / W % 256 = x := ⟨_, rfl⟩
    obtain ⟨y, hy⟩ : ∃ y, b / W % 256 = y := ⟨_, rfl⟩
    rw [hx, hy] at hlt heq
    rw [hx, hy]
    obtain ⟨c, hc⟩ : ∃ c, UInt8.ofNat (a / W) = c := ⟨_, rfl⟩
    obtain ⟨d, hd⟩ : ∃ d, UInt8.ofNat (b / W) = d := ⟨_, rfl⟩
    rw [hc, hd] at hlt heq ⊢
    rcases Nat.lt_trichotomy x y with h | h | h
    · have m1 : W * (x + 1) ≤ W * y := Nat.mul_le_mul_left _ h
      rw [Nat.mul_add, Nat.mul_one] at m1
      have h1 := hlt.2 h
      have h2 : ¬ c = d := fun q => by have := heq.1 q; omega
      constructor
      · simp only [Op.bytesLess, h1, decide_true, Bool.true_or]
        symm; rw [decide_eq_true_eq]; omega
      · simp only [List.cons.injEq, h2, false_and, false_iff]; omega
    · have h2 : c = d := heq.2 h
      have h1 : ¬ c < d := fun q => by have := hlt.1 q; omega
      subst h2 h
      constructor
      · simp only [Op.bytesLess, h1, decide_false, Bool.false_or, beq_self_eq_true, Bool.true_and, ih.1]
        apply decide_eq_decide.2; omega
      · simp only [List.cons.injEq, true_and, ih.2]; omega
    · have m1 : W * (y + 1) ≤ W * x := Nat.mul_le_mul_left _ h
      rw [Nat.mul_add, Nat.mul_one] at m1
      have h1 : ¬ c < d := fun q => by have := hlt.1 q; omega
      have h2 : ¬ c = d := fun q => by have := heq.1 q; omega
      constructor
      · simp only [Op.bytesLess, h1, decide_false, Bool.false_or, beq_eq_false_iff_ne.2 h2, Bool.false_and]
        symm; rw [decide_eq_false_iff_not]; omega
      · simp only [List.cons.injEq, h2, false_and, false_iff]; omega
theorem varI_mono : ∀ (b a : Nat), a ≤ b → (varI a).length ≤ (varI b).length := by
  intro b
  induction b using Nat.strongRecOn with
  | _ b ih =>
    intro a h
    rw [varI, varI.eq_1 b]
    by_cases ha : a < 128
    · rw [if_pos ha]; simp
    · rw [if_neg ha, if_neg (by omega)]
      have := ih (b / 128) (by omega) (a / 128) (by omega)
      simpa using this
theorem varB_len (n : Nat) : (varB n).length = (varI n).length + 1 := by simp [varB]
theorem ShiftOrder_law (a b w : Int) (ha : 0 ≤ a ∧ a ≤ 18446744073709551615) (hb : 0 ≤ b ∧ b ≤ 18446744073709551615) (_ : I64 w) : EvF tab 13 [U a, U b, I w] [] = some ⟨.g (.bool true), [], []⟩ := by
  refine EvF_walk t13 (by simp) ?_
  obtain ⟨M, rfl⟩ := Int.eq_ofNat_of_zero_le ha.1
  obtain ⟨N, rfl⟩ := Int.eq_ofNat_of_zero_le hb.1
  have hM : M < 18446744073709551616 := by omega
  have hN : N < 18446744073709551616 := by omega
  have a1 := fun H => Wide_ev M 8 hM H
  have b1 := fun H => Wide_ev N 8 hN H
  simp only [show (0 : Int) ≤ 8 ∧ (8 : Int) ≤ 8 by decide, if_true, show (8 : Int).toNat = 8 by rfl] at a1 b1
  have hl := wide_less M N 8
  rw [show M % 256 ^ 8 = M by omega, show N % 256 ^ 8 = N by omega] at hl
  have he : (wideS M 8 == wideS N 8) = decide (M = N) := by
    by_cases h : M = N
    · rw [h]; simp
    · rw [decide_eq_false h, beq_eq_false_iff_ne]; exact fun q => h (hl.2.1 q)
  have v1 := fun H => Var_ev M hM H
  have v2 := fun H => Var_ev N hN H
  have wv := fun H => Wide_ev M w hM H
  have hi : (M : Int) ≤ N → ¬ ((varB N).length : Int) < (varB M).length := fun h => by
    have := varI_mono N M (by omega)
    rw [varB_len, varB_len]; omega
  have e1 : ((M : Int) < N) = (M < N) := by apply propext; omega
  have e2 : ((M : Int) = N) = (M = N) := by apply propext; omega
  have e3 : ((M : Int) ≤ N) = (M ≤ N) := by apply propext; omega
  have e4 : ((M : Int) == (N : Int)) = decide (M = N) := by rw [Bool.eq_iff_iff]; simp; omega
  rw [e3] at hi
  have tail : w < 0 ∨ 8 < w ∨ ∃ W : Nat, w = W ∧ W ≤ 8 := by
    rcases Int.lt_or_le w 0 with h | h
    · exact .inl h
    · rcases Int.lt_or_le 8 w with h2 | h2
      · exact .inr (.inl h2)
      · exact .inr (.inr ⟨w.toNat, by omega, by omega⟩)
  have big : ∀ (p : Prop), p → p := fun _ h => h
  rcases tail with h | h | ⟨W, rfl, hW⟩
  · rw [if_neg (by omega)] at wv
    by_cases hle : M ≤ N
    · simp -implicitDefEqProofs [live01, a1, b1, hl.1, he, v1, v2, e1, e2, e3, e4, hle, hi hle, h, wv]
    · simp -implicitDefEqProofs [live01, a1, b1, hl.1, he, v1, v2, e1, e2, e3, e4, hle, h, wv]
  · rw [if_neg (by omega)] at wv
    by_cases hle : M ≤ N
    · simp -implicitDefEqProofs [live01, a1, b1, hl.1, he, v1, v2, e1, e2, e3, e4, hle, hi hle, h, show ¬ w < 0 by omega, wv]
    · simp -implicitDefEqProofs [live01, a1, b1, hl.1, he, v1, v2, e1, e2, e3, e4, hle, h, show ¬ w < 0 by omega, wv]
  · rw [if_pos (by omega)] at wv
    simp only [Int.toNat_natCast] at wv
    have n1 := fun H => Narrow_ev (wideS M W) H
    have hlen : (wideS M W).length = W := by simp [wideS]
    simp only [hlen, hW, if_true, narrow_wide] at n1
    have lo := fun H => Low_ev M (8 * (W : Int)) hM H
    have el : lowN M (8 * (W : Int)) = M % 256 ^ W := by
      unfold lowN
      by_cases h0 : W = 0
      · subst h0; simp; omega
      · rw [if_neg (by omega)]
        by_cases h8 : W = 8
        · subst h8; rw [if_pos (by omega)]; omega
        · rw [if_neg (by omega), show (8 * (W : Int)).toNat = 8 * W by omega, show (256 : Nat) = 2 ^ 8 by rfl, ← Nat.pow_mul]
    rw [el] at lo
    have ew : IntKind.i64.wrap (8 * (W : Int)) = 8 * (W : Int) := wrap_i64 (by omega) (by omega)
    by_cases hle : M ≤ N
    · simp -implicitDefEqProofs [live01, a1, b1, hl.1, he, v1, v2, e1, e2, e3, e4, hle, hi hle, show ¬ (8 : Int) < W by omega, wv, n1, lo, ew, hlen]
    · simp -implicitDefEqProofs [live01, a1, b1, hl.1, he, v1, v2, e1, e2, e3, e4, hle, show ¬ (8 : Int) < W by omega, wv, n1, lo, ew, hlen]
/-! ### Back -/
theorem varB_small {n : Nat} (h : n < 128) : varB n = [UInt8.ofNat n] := by unfold varB; rw [varI, varL, if_pos h, if_pos h]; rfl
theorem varB_big {n : Nat} (h : ¬ n < 128) : varB n = UInt8.ofNat (n % 128 + 128) :: varB (n / 128) := by unfold varB; rw [varI, varL, if_neg h, if_neg h]; rfl
theorem toNat8 {n : Nat} (h : n < 256) : (UInt8.ofNat n).toNat = n := by simp; omega
theorem read_var (at_ : Int) (s : Bs) : ∀ (n k a : Nat), n * 128 ^ k < 18446744073709551616 → k ≤ 9 → (0 < k → n ≠ 0) → readG at_ k a (varB n ++ s) = (a + n * 128 ^ k, at_ + k + (varB n).length, 0) := by
  intro n
  induction n using Nat.strongRecOn with
  | _ n ih =>
    intro k a h1 h2 h3
    by_cases hn : n < 128
    · rw [varB_small hn]
      have hb : badB k (UInt8.ofNat n) = false := by
        simp only [badB, toNat8 (show n < 256 by omega)]
        by_cases h9 : k = 9
        · subst h9
          have : n ≠ 0 := h3 (by omega)
          simp; omega
        · by_cases h0 : 0 < k
          · have := h3 h0; simp [h9, this]
          · simp [h9, h0]
      simp only [List.cons_append, List.nil_append, readG, hb, Bool.false_eq_true, if_false, toNat8 (show n < 256 by omega), hn, if_true, Nat.mod_eq_of_lt hn]
      simp
    · rw [varB_big hn]
      have hk : k ≤ 8 := by
        rcases Nat.lt_or_ge k 9 with h | h
        · omega
        · have : k = 9 := by omega
          subst this; omega
      have ht := toNat8 (show n % 128 + 128 < 256 by omega)
      have hb : badB k (UInt8.ofNat (n % 128 + 128)) = false := by
        simp only [badB, ht]
        simp; omega
      have e1 : (n % 128 + 128) % 128 = n % 128 := by omega
      have e2 : n / 128 * 128 ^ (k + 1) + n % 128 * 128 ^ k = n * 128 ^ k := by
        rw [Nat.pow_succ, Nat.mul_comm (128 ^ k) 128, ← Nat.mul_assoc, ← Nat.add_mul]
        congr 1; omega
      have := ih (n / 128) (by omega) (k + 1) (a + n % 128 * 128 ^ k) (by omega) (by omega) (by omega)
      simp only [List.cons_append, readG, hb, Bool.false_eq_true, if_false, ht, show ¬ n % 128 + 128 < 128 by omega, e1, this, List.length_cons]
      refine Prod.ext (by simp only; omega) (Prod.ext (by simp only; omega) rfl)
theorem read_inv (at_ : Int) : ∀ (l : Bs) (k a : Nat), k ≤ 9 → a < 128 ^ k → ((readG at_ k a l).2.2 ≠ 0 ∧ (readG at_ k a l).1 = 0 ∧ (readG at_ k a l).2.1 = 0) ∨
    ∃ m r, l = varB m ++ r ∧ readG at_ k a l = (a + m * 128 ^ k, at_ + k + (varB m).length, 0) ∧ a + m * 128 ^ k < 18446744073709551616 ∧ (0 < k → m ≠ 0) := by
  intro l
  induction l with
  | nil => intro k a _ _; left; simp [readG]
  | cons b l ih =>
    intro k a hk ha
    cases hb : badB k b
    · by_cases h : b.toNat < 128
      · right
        have hs := sum_lt hk ha hb
        refine ⟨b.toNat, l, ?_, ?_, ?_, ?_⟩
        · rw [varB_small h]; simp
        · rw [varB_small h]
          simp only [readG, hb, Bool.false_eq_true, if_false, h, if_true, Nat.mod_eq_of_lt h]
          simp
        · rw [Nat.mod_eq_of_lt h] at hs; exact hs
        · intro h0 h1; simp [badB, h1, h0] at hb
      · have hs := stepOk hk ha hb h
        have hlt := b.toNat_lt
        simp only [readG, hb, Bool.false_eq_true, if_false, h]
        rcases ih (k + 1) _ (by omega) hs.2 with h1 | ⟨m, r, h1, h2, h3, h4⟩
        · exact .inl h1
        · right
          have hm : m ≠ 0 := h4 (by omega)
          have e2 : b.toNat % 128 * 128 ^ k + m * 128 ^ (k + 1) = (b.toNat % 128 + 128 * m) * 128 ^ k := by
            rw [Nat.pow_succ, Nat.add_mul, Nat.mul_comm 128 m, Nat.mul_assoc, Nat.mul_comm 128 (128 ^ k)]
          have e3 : varB (b.toNat % 128 + 128 * m) = b :: varB m := by
            rw [varB_big (by omega), show (b.toNat % 128 + 128 * m) % 128 + 128 = b.toNat by omega, show (b.toNat % 128 + 128 * m) / 128 = m by omega]
            simp
          refine ⟨b.toNat % 128 + 128 * m, r, ?_, ?_, ?_, ?_⟩
          · rw [e3, h1]; rfl
          · rw [h2, e3]
            refine Prod.ext (by simp only; omega) (Prod.ext (by simp only [List.length_cons]; omega) rfl)
          · omega
          · intro _; omega
    · left; simp [readG, hb]
theorem ShiftBack_law (n : Int) (s : Bs) (at_ : Int) (hn : 0 ≤ n ∧ n ≤ 18446744073709551615) (hs : S64 s) (_ : I64 at_) : EvF tab 10 [U n, T s, I at_] [] = some ⟨.g (.bool true), [], []⟩ := by
  refine EvF_walk t10 (by simp) ?_
  by_cases h60 : 60 < s.length
  · simp -implicitDefEqProofs [show (60 : Int) < s.length by omega, live01]
  obtain ⟨N, rfl⟩ := Int.eq_ofNat_of_zero_le hn.1
  have hN : N < 18446744073709551616 := by omega
  have v1 := fun H => Var_ev N hN H
  have hlen := varI_len N 9 (by omega)
  have hvl := varB_len N
  have r1 := fun H => Read_ev (s ++ varB N ++ s) s.length (by simp; omega) H
  have er : readS (s ++ varB N ++ s) s.length = (N, (s.length : Int) + (varB N).length, 0) := by
    unfold readS
    rw [if_pos ⟨by omega, by simp; omega⟩, Int.toNat_natCast, List.append_assoc, List.drop_left, read_var _ _ _ _ _ (by omega) (by omega) (by omega)]
    simp
  rw [er] at r1
  simp only [List.append_assoc] at r1
  have ew : IntKind.i64.wrap ((s.length : Int) + (varB N).length) = (s.length : Int) + (varB N).length := wrap_i64 (by omega) (by omega)
  have r2 := fun H => Read_ev s at_ hs H
  have c1 : ¬ ((varB N).length : Int) < 1 := by omega
  have c2 : ¬ (10 : Int) < (varB N).length := by omega
  have c3 : s.length + (varB N).length ≤ 9223372036854775807 := by omega
  have c4 : s.length + (varB N).length + s.length ≤ 9223372036854775807 := by omega
  have c5 : s.length + ((varB N).length + s.length) ≤ 9223372036854775807 := by omega
  have c60 : ¬ (60 : Int) < s.length := by omega
  by_cases hat : 0 ≤ at_ ∧ at_ ≤ s.length
  · have hrs : readS s at_ = readG at_ 0 0 (s.drop at_.toNat) := if_pos hat
    rcases read_inv at_ (s.drop at_.toNat) 0 0 (by omega) (by simp) with ⟨h1, h2, h3⟩ | ⟨m, r, h1, h2, h3, _⟩
    · rw [hrs] at r2
      rw [h2, h3] at r2
      simp -implicitDefEqProofs [c60, live01, v1, r1, ew, c1, c2, c3, c4, c5, r2, h1]
    · rw [hrs, h2] at r2
      simp only [Nat.pow_zero, Nat.mul_one, Nat.zero_add, Int.ofNat_zero, Int.add_zero, Int.cast_ofNat_Int] at r2 h3
      have v2 := fun H => Var_ev m h3 H
      have hl : (s.drop at_.toNat).length = (varB m).length + r.length := by rw [h1]; simp
      rw [List.length_drop] at hl
      have hm := varB_len m
      obtain ⟨A, rfl⟩ := Int.eq_ofNat_of_zero_le hat.1
      simp only [Int.toNat_natCast] at hl h1
      have e1 : ((A : Int) + (varB m).length).toNat = A + (varB m).length := by omega
      have e2 : (s.take (A + (varB m).length)).drop A = varB m := by
        rw [List.drop_take, h1, show A + (varB m).length - A = (varB m).length by omega, List.take_left]
      simp -implicitDefEqProofs [c60, live01, v1, r1, ew, c1, c2, c3, c4, c5, r2, v2, cutB, bnd, intOfA, e1, e2, show 0 < (varB m).length by omega, show A + (varB m).length ≤ s.length by omega, show (A : Int) + (varB m).length ≤ s.length by omega, show (0 : Int) < (varB m).length by omega, show (A : Int) < (A : Int) + (varB m).length by omega, show (A : Int) ≤ (A : Int) + (varB m).length by omega]
  · have hrs : readS s at_ = (0, 0, 1) := if_neg hat
    rw [hrs] at r2
    simp -implicitDefEqProofs [c60, live01, v1, r1, ew, c1, c2, c3, c4, c5, r2]
end Go.Proofs.Ytahjgmldkbbpaaa
