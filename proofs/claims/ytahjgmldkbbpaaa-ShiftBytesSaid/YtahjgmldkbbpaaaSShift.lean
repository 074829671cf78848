/- Numbers as bits and bytes: what the functions of shift answer, the program's and the reference's. -/
import Derived.Test.YtahjgmldkbbpaaaTabA
import Derived.Test.YtahjgmldkbbpaaaAMJ3
import Derived.KernelRfl
namespace Go.Proofs.Ytahjgmldkbbpaaa
open Go Go.AM Go.Proofs
set_option maxRecDepth 4000
set_option linter.unusedSimpArgs false
set_option linter.unusedVariables false
/-! ### Narrow -/
def narrowN (s : Bs) : Nat := s.foldl (fun a b => 256 * a + b.toNat) 0
theorem narrow_lt (s : Bs) : ∀ a k, a < 256 ^ k → s.foldl (fun a b => 256 * a + b.toNat) a < 256 ^ (k + s.length) := by
  induction s with
  | nil => intro a k h; exact h
  | cons b s ih =>
    intro a k h
    have : 256 * a + b.toNat < 256 ^ (k + 1) := by
      have := b.toNat_lt
      rw [Nat.pow_succ]; omega
    have := ih _ _ this
    simpa [Nat.add_assoc, Nat.add_comm 1] using this
theorem narrowN_lt (s : Bs) (h : s.length ≤ 8) : narrowN s < 18446744073709551616 := by
  have := narrow_lt s 0 0 (by simp)
  have h2 : 256 ^ (0 + s.length) ≤ 256 ^ 8 := Nat.pow_le_pow_right (by omega) (by omega)
  unfold narrowN
  omega
theorem Narrow_loop (s : Bs) (h8 : s.length ≤ 8) (H : List Blk) :
    loopE (EvF tab) H L32_0 [4, 11, 12, 13] ⟨[(4, U 0), (11, .g (.sl 1 (bytesG s))), (12, I s.length), (13, I 0)], [], []⟩ =
      some (.exit 0, ⟨[(4, U (narrowN s)), (11, .g (.sl 1 (bytesG s))), (12, I s.length), (13, I s.length), (14, B false)], [], []⟩) := by
  refine loop_fold (l := s) (β := Nat) (fun k a => a < 256 ^ k) (fun a b => 256 * a + b.toNat) (fun k a => ⟨[(4, U a), (11, .g (.sl 1 (bytesG s))), (12, I s.length), (13, I k)], [], []⟩)
    (fun a => (.exit 0, ⟨[(4, U a), (11, .g (.sl 1 (bytesG s))), (12, I s.length), (13, I s.length), (14, B false)], [], []⟩)) (by simp) (fun k b a hk hx hy hi => ?_) (fun a hi => ?_) 0 (by simp)
  · delta L32_0
    have e2 := wrap_succ hk (show s.length ≤ 9223372036854775807 by omega)
    have hb := b.toNat_lt
    have h7 : a < 72057594037927936 := by
      have h2 : 256 ^ k ≤ 256 ^ 7 := Nat.pow_le_pow_right (by omega) (by omega)
      omega
    refine ⟨by rw [Nat.pow_succ]; omega, ?_⟩
    have e3 : IntKind.u64.wrap ((a : Int) * 256) = ((a * 256 : Nat) : Int) := by rw [wrap_u64 (by omega) (by omega)]; simp
    have e4 : IntKind.u64.wrap (b.toNat : Int) = (b.toNat : Int) := wrap_u64 (by omega) (by omega)
    have e5 := or_u64 (a := a * 256) (b := b.toNat) (by omega) (by omega)
    have e6 := or_shift (a := a) (b := b.toNat) 8 hb
    rw [show a * 2 ^ 8 = a * 256 by rfl] at e6
    rw [e6] at e5
    simp only [Int.natCast_mul, Int.natCast_add, Int.cast_ofNat_Int] at e5
    simp -implicitDefEqProofs [hk, hy, e2, bytesG, e3, e4, e5]
    omega
  · delta L32_0
    simp -implicitDefEqProofs
theorem Narrow_ev (s : Bs) (H : List Blk) : EvF tab 32 [T s] H = some ⟨.tup (if s.length ≤ 8 then [U (narrowN s), B true] else [U 0, B false]), [], []⟩ := by
  refine EvF_walk t32 (by simp) ?_
  by_cases h : s.length ≤ 8
  · have hw := Narrow_loop s h H
    simp -implicitDefEqProofs [h, show ¬ (8 : Int) < s.length by omega, bytesG_len, hw]
  · simp -implicitDefEqProofs [h, show (8 : Int) < s.length by omega]
theorem Narrow2_loop (s : Bs) (h8 : s.length ≤ 8) (H : List Blk) :
    loopE (EvF tab) H L33_0 [0, 4, 5] ⟨[(0, T s), (4, U 0), (5, I 0)], [], []⟩ =
      some (.exit 0, ⟨[(0, T s), (4, U (narrowN s)), (5, I s.length), (12, B false)], [], []⟩) := by
  refine loop_fold (l := s) (β := Nat) (fun k a => a < 256 ^ k) (fun a b => 256 * a + b.toNat) (fun k a => ⟨[(0, T s), (4, U a), (5, I k)], [], []⟩)
    (fun a => (.exit 0, ⟨[(0, T s), (4, U a), (5, I s.length), (12, B false)], [], []⟩)) (by simp) (fun k b a hk hx hy hi => ?_) (fun a hi => ?_) 0 (by simp)
  · delta L33_0
    have e2 := wrap_succ hk (show s.length ≤ 9223372036854775807 by omega)
    have hb := b.toNat_lt
    have h7 : a < 72057594037927936 := by
      have h2 : 256 ^ k ≤ 256 ^ 7 := Nat.pow_le_pow_right (by omega) (by omega)
      omega
    refine ⟨by rw [Nat.pow_succ]; omega, ?_⟩
    have e3 : IntKind.u64.wrap (256 * (a : Int)) = 256 * (a : Int) := by rw [wrap_u64 (by omega) (by omega)]
    have e4 : IntKind.u64.wrap (b.toNat : Int) = (b.toNat : Int) := wrap_u64 (by omega) (by omega)
    have e5 : IntKind.u64.wrap (256 * (a : Int) + b.toNat) = 256 * (a : Int) + b.toNat := by rw [wrap_u64 (by omega) (by omega)]
    simp -implicitDefEqProofs [hk, hy, e2, e3, e4, e5]
  · delta L33_0
    simp -implicitDefEqProofs
theorem Narrow2_ev (s : Bs) (H : List Blk) : EvF tab 33 [T s] H = some ⟨.tup (if s.length ≤ 8 then [U (narrowN s), B true] else [U 0, B false]), [], []⟩ := by
  refine EvF_walk t33 (by simp) ?_
  by_cases h : s.length ≤ 8
  · have hw := Narrow2_loop s h H
    simp -implicitDefEqProofs [h, show ¬ (8 : Int) < s.length by omega, bytesG_len, hw]
  · simp -implicitDefEqProofs [h, show (8 : Int) < s.length by omega]
/-! ### Wide: the byte at place i of w -/
def wideB (n : Nat) (w i : Nat) : UInt8 := UInt8.ofNat (n / 256 ^ (w - 1 - i))
def wideS (n : Nat) (w : Nat) : Bs := (List.range w).map (wideB n w)
def wideRow (n : Nat) (w k : Nat) : Bs := (List.range w).map fun i => if i < k then wideB n w i else 0
def wideRow2 (n : Nat) (w k : Nat) : Bs := (List.range w).map fun i => if k ≤ i then wideB n w i else 0
theorem rowset (f : Nat → UInt8) (w k : Nat) (h : k < w) : (bytesG ((List.range w).map fun i => if i < k then f i else 0)).set k [.int .u8 (f k).toNat] = bytesG ((List.range w).map fun i => if i < k + 1 then f i else 0) := by
  unfold bytesG
  apply List.ext_getElem?
  intro i
  by_cases e : k = i
  · subst e
    rw [List.getElem?_set_self (by simpa using h)]
    simp [h]
  · rw [List.getElem?_set_ne e]
    simp only [List.map_map, List.getElem?_map]
    by_cases hi : i < w
    · simp [hi]
      by_cases h2 : i < k
      · simp [h2, show i < k + 1 by omega]
      · simp [h2, show ¬ i < k + 1 by omega]
    · simp [hi]
theorem rowset2 (f : Nat → UInt8) (w k : Nat) (h : k < w) : (bytesG ((List.range w).map fun i => if k + 1 ≤ i then f i else 0)).set k [.int .u8 (f k).toNat] = bytesG ((List.range w).map fun i => if k ≤ i then f i else 0) := by
  unfold bytesG
  apply List.ext_getElem?
  intro i
  by_cases e : k = i
  · subst e
    rw [List.getElem?_set_self (by simpa using h)]
    simp [h]
  · rw [List.getElem?_set_ne e]
    simp only [List.map_map, List.getElem?_map]
    by_cases hi : i < w
    · simp [hi]
      by_cases h2 : k + 1 ≤ i
      · simp [h2, show k ≤ i by omega]
      · simp [h2, show ¬ k ≤ i by omega]
    · simp [hi]
theorem Wide_loop (n w : Nat) (hn : n < 18446744073709551616) (hw : w ≤ 8) (H : List Blk) :
    loopE (EvF tab) H L34_0 [0, 1, 5, 16, 17] ⟨[(0, U n), (1, I w), (5, .ms H.length 1 1 0 w), (16, I w), (17, I 0)], [], [.rows 1 1 (bytesG (wideRow n w 0))]⟩ =
      some (.exit 0, ⟨[(0, U n), (1, I w), (5, .ms H.length 1 1 0 w), (16, I w), (17, I w), (18, B false)], [], [.rows 1 1 (bytesG (wideRow n w w))]⟩) := by
  refine loop_cnt w (fun k => ⟨[(0, U n), (1, I w), (5, .ms H.length 1 1 0 w), (16, I w), (17, I k)], [], [.rows 1 1 (bytesG (wideRow n w k))]⟩) _ (by simp) (fun k hk => ?_) (by delta L34_0; simp -implicitDefEqProofs)
  delta L34_0
  have e2 := wrap_succ hk (show w ≤ 9223372036854775807 by omega)
  have e1 : IntKind.i64.wrap (8 * IntKind.i64.wrap (IntKind.i64.wrap ((w : Int) - 1) - k)) = 8 * ((w - 1 - k : Nat) : Int) := by
    rw [wrap_i64 (n := (w : Int) - 1) (by omega) (by omega), wrap_i64 (n := (w : Int) - 1 - k) (by omega) (by omega), wrap_i64 (by omega) (by omega)]
    omega
  have e3 : min (8 * ((w - 1 - k : Nat) : Int)).toNat 64 = 8 * (w - 1 - k) := by omega
  have e0 : (0 : Int) ≤ 8 * ((w - 1 - k : Nat) : Int) := by omega
  have e4 : IntKind.u8.wrap (Int.fdiv n (2 ^ (8 * (w - 1 - k)))) = ((wideB n w k).toNat : Int) := by
    rw [Int.fdiv_eq_ediv_of_nonneg _ (by exact Int.le_of_lt (Int.pow_pos (by omega))), wrap_u8, wideB, show (256 : Nat) = 2 ^ 8 by rfl, ← Nat.pow_mul]
    simp
  have e5 := rowset (wideB n w) w k hk
  have e6 : (wideRow n w k)[k]? = some 0 := by simp [wideRow, hk]
  have e7 : (bytesG (wideRow n w k))[k]? = some [.int .u8 0] := by rw [bytesG_get, e6]; rfl
  simp -implicitDefEqProofs [hk, e1, e3, e0, e2, e7, e4]
  exact e5
theorem Wide_ev (n : Nat) (w : Int) (hn : n < 18446744073709551616) (H : List Blk) : EvF tab 34 [U n, I w] H = some ⟨T (if 0 ≤ w ∧ w ≤ 8 then wideS n w.toNat else []), [], []⟩ := by
  refine EvF_walk t34 (by simp) ?_
  by_cases h1 : 0 ≤ w
  · by_cases h2 : w ≤ 8
    · obtain ⟨W, rfl⟩ := Int.eq_ofNat_of_zero_le h1
      have hW : W ≤ 8 := by omega
      have hw := Wide_loop n W hn hW H
      have e0 : List.replicate W [GV.int .u8 0] = bytesG (wideRow n W 0) := by
        simp only [wideRow, bytesG, Nat.not_lt_zero, if_false, List.map_map]
        apply List.ext_getElem?
        intro i
        by_cases hi : i < W <;> simp [hi]
      have e1 : wideRow n W W = wideS n W := by
        unfold wideRow wideS
        apply List.map_congr_left
        intro i hi
        rw [if_pos (by simpa using hi)]
      have e2 : List.take W (bytesG (wideS n W)) = bytesG (wideS n W) := List.take_of_length_le (by simp [bytesG_len, wideS])
      rw [e1] at hw
      simp -implicitDefEqProofs [h2, show ¬ (8 : Int) < W by omega, show (W : Int) ≤ 281474976710656 by omega, e0, hw, bytesG_len, e2, bytesOf_bytesG, show (wideS n W).length = W by simp [wideS]]
    · simp -implicitDefEqProofs [h2, show 8 < w by omega]
  · simp -implicitDefEqProofs [h1, show w < 0 by omega]
theorem Wide2_loop (n w : Nat) (hn : n < 18446744073709551616) (hw : w ≤ 8) (H : List Blk) :
    loopE (EvF tab) H L35_0 [0, 5, 6] ⟨[(0, U n), (5, .ms H.length 1 1 0 w), (6, I ((w : Int) - 1))], [], [.rows 1 1 (bytesG (wideRow2 n w w))]⟩ =
      some (.exit 0, ⟨[(0, U (n / 256 ^ w : Nat)), (5, .ms H.length 1 1 0 w), (6, I (-1)), (18, B false)], [], [.rows 1 1 (bytesG (wideRow2 n w 0))]⟩) := by
  have hq := loop_cnt (E := EvF tab) (h := H) (c := L35_0) (lv := [0, 5, 6]) w (fun r => ⟨[(0, U (n / 256 ^ r : Nat)), (5, .ms H.length 1 1 0 w), (6, I ((w : Int) - 1 - r))], [], [.rows 1 1 (bytesG (wideRow2 n w (w - r)))]⟩)
    (.exit 0, ⟨[(0, U (n / 256 ^ w : Nat)), (5, .ms H.length 1 1 0 w), (6, I (-1)), (18, B false)], [], [.rows 1 1 (bytesG (wideRow2 n w 0))]⟩) (by simp) (fun r hr => ?_) ?_
  · simp only [Nat.pow_zero, Nat.div_one, Nat.sub_zero, Int.ofNat_zero, Int.sub_zero, Int.cast_ofNat_Int] at hq
    exact hq
  · delta L35_0
    obtain ⟨k, hk⟩ : ∃ k, w - (r + 1) = k := ⟨_, rfl⟩
    have h1 : (w : Int) - 1 - r = (k : Int) := by omega
    have h2 : w - r = k + 1 := by omega
    have h3 : (w : Int) - 1 - ((r + 1 : Nat) : Int) = (k : Int) - 1 := by omega
    rw [hk, h1, h2, h3]
    have e1 : IntKind.i64.wrap ((k : Int) - 1) = (k : Int) - 1 := wrap_i64 (by omega) (by omega)
    obtain ⟨m, hm⟩ : ∃ m, n / 256 ^ r = m := ⟨_, rfl⟩
    have hm2 : m < 18446744073709551616 := by rw [← hm]; exact Nat.lt_of_le_of_lt (Nat.div_le_self _ _) hn
    have e2 : n / 256 ^ (r + 1) = m / 256 := by rw [Nat.pow_succ, ← Nat.div_div_eq_div_mul, hm]
    have e3 : IntKind.u64.wrap ((m : Int) / 256) = (m : Int) / 256 := wrap_u64 (by omega) (by omega)
    have e4 : IntKind.u8.wrap ((m : Int) % 256) = ((wideB n w k).toNat : Int) := by
      rw [wrap_u8, wideB, show w - 1 - k = r by omega, hm]
      simp
    have e5 := rowset2 (wideB n w) w k (by omega)
    have e6 : (wideRow2 n w (k + 1))[k]? = some 0 := by simp [wideRow2, show k < w by omega, show ¬ k + 1 ≤ k by omega]
    have e7 : (bytesG (wideRow2 n w (k + 1)))[k]? = some [.int .u8 0] := by rw [bytesG_get, e6]; rfl
    rw [hm, e2]
    simp -implicitDefEqProofs [e1, show k < w by omega, e7, e4, e3, Int.tmod_eq_emod_of_nonneg, Int.tdiv_eq_ediv_of_nonneg]
    exact e5
  · delta L35_0
    simp -implicitDefEqProofs [show (w : Int) - 1 - w = -1 by omega]
theorem Wide2_ev (n : Nat) (w : Int) (hn : n < 18446744073709551616) (H : List Blk) : EvF tab 35 [U n, I w] H = some ⟨T (if 0 ≤ w ∧ w ≤ 8 then wideS n w.toNat else []), [], []⟩ := by
  refine EvF_walk t35 (by simp) ?_
  by_cases h1 : 0 ≤ w
  · by_cases h2 : w ≤ 8
    · obtain ⟨W, rfl⟩ := Int.eq_ofNat_of_zero_le h1
      have hW : W ≤ 8 := by omega
      have hw := Wide2_loop n W hn hW H
      have e0 : List.replicate W [GV.int .u8 0] = bytesG (wideRow2 n W W) := by
        simp only [wideRow2, bytesG, List.map_map]
        apply List.ext_getElem?
        intro i
        by_cases hi : i < W
        · simp [hi, show ¬ W ≤ i by omega]
        · simp [hi]
      have e1 : wideRow2 n W 0 = wideS n W := by
        unfold wideRow2 wideS
        apply List.map_congr_left
        intro i hi
        rw [if_pos (by omega)]
      have e2 : List.take W (bytesG (wideS n W)) = bytesG (wideS n W) := List.take_of_length_le (by simp [bytesG_len, wideS])
      have e3 : IntKind.i64.wrap ((W : Int) - 1) = (W : Int) - 1 := wrap_i64 (by omega) (by omega)
      rw [e1] at hw
      simp -implicitDefEqProofs [h2, show ¬ (8 : Int) < W by omega, show (W : Int) ≤ 281474976710656 by omega, e0, e3, hw, bytesG_len, e2, bytesOf_bytesG, show (wideS n W).length = W by simp [wideS]]
    · simp -implicitDefEqProofs [h2, show 8 < w by omega]
  · simp -implicitDefEqProofs [h1, show w < 0 by omega]
/-! ### Signs -/
def zigN (n : Int) : Nat := if 0 ≤ n then (2 * n).toNat else (-2 * n - 1).toNat
def zagN (u : Nat) : Int := if u % 2 = 0 then u / 2 else - (u / 2 : Nat) - 1
theorem Zig_ev (n : Int) (hn : I64 n) (H : List Blk) : EvF tab 36 [I n] H = some ⟨U (zigN n), [], []⟩ := by
  refine EvF_walk t36 (by simp) ?_
  obtain ⟨h1, h2⟩ := hn
  unfold zigN
  by_cases h : 0 ≤ n
  · have e1 : IntKind.u64.wrap (IntKind.i64.wrap (n * 2)) = (((2 * n).toNat : Nat) : Int) := by rw [wrap_u64_i64]; omega
    have e2 : IntKind.u64.wrap (n / 9223372036854775808) = ((0 : Nat) : Int) := by rw [wrap_u64_mod]; omega
    have e3 := xor_u64 (a := (2 * n).toNat) (b := 0) (by omega) (by omega)
    rw [← e1, ← e2, Nat.xor_zero] at e3
    simp -implicitDefEqProofs [Int.fdiv_eq_ediv_of_nonneg, h, e3]
  · have e1 : IntKind.u64.wrap (IntKind.i64.wrap (n * 2)) = (((2 * n + 18446744073709551616).toNat : Nat) : Int) := by rw [wrap_u64_i64]; omega
    have e2 : IntKind.u64.wrap (n / 9223372036854775808) = ((18446744073709551615 : Nat) : Int) := by rw [wrap_u64_mod]; omega
    have e3 := xor_u64 (a := (2 * n + 18446744073709551616).toNat) (b := 18446744073709551615) (by omega) (by omega)
    rw [← e1, ← e2, xor_ones (by omega)] at e3
    simp -implicitDefEqProofs [Int.fdiv_eq_ediv_of_nonneg, h, e3]
    omega
theorem Zig2_ev (n : Int) (hn : I64 n) (H : List Blk) : EvF tab 37 [I n] H = some ⟨U (zigN n), [], []⟩ := by
  refine EvF_walk t37 (by simp) ?_
  obtain ⟨h1, h2⟩ := hn
  unfold zigN
  by_cases h : 0 ≤ n
  · have e1 : IntKind.u64.wrap (2 * IntKind.u64.wrap n) = 2 * n := by rw [wrap_u64_mod, wrap_u64_mod]; omega
    simp -implicitDefEqProofs [h, e1]
    omega
  · have e1 : IntKind.u64.wrap (2 * IntKind.u64.wrap (IntKind.i64.wrap (-IntKind.i64.wrap (n + 1))) + 1) = -2 * n - 1 := by
      rw [wrap_u64_i64, wrap_i64 (n := n + 1) (by omega) (by omega), wrap_u64_mod]; omega
    have e2 : IntKind.u64.wrap (2 * IntKind.u64.wrap (IntKind.i64.wrap (-IntKind.i64.wrap (n + 1)))) = 2 * IntKind.u64.wrap (IntKind.i64.wrap (-IntKind.i64.wrap (n + 1))) := by
      rw [wrap_u64_i64, wrap_i64 (n := n + 1) (by omega) (by omega), wrap_u64_mod]; omega
    simp -implicitDefEqProofs [h, e2, e1]
    omega
theorem and1 (a : Nat) : a &&& 1 = a % 2 := Nat.and_one_is_mod a
theorem Zag_ev (u : Nat) (hu : u < 18446744073709551616) (H : List Blk) : EvF tab 38 [U u] H = some ⟨I (zagN u), [], []⟩ := by
  refine EvF_walk t38 (by simp) ?_
  unfold zagN
  have e1 : andI .u64 u 1 = ((u % 2 : Nat) : Int) := by rw [← and1]; exact and_u64 (a := u) (b := 1) hu (by omega)
  have e2 : IntKind.i64.wrap ((u : Int) / 2) = (u : Int) / 2 := wrap_i64 (by omega) (by omega)
  have x0 := xor_i64_0 (a := (u : Int) / 2) (by omega) (by omega)
  have x1 := xor_i64_1 (a := (u : Int) / 2) (by omega) (by omega)
  rcases Nat.mod_two_eq_zero_or_one u with h | h
  · have e3 : IntKind.i64.wrap (-IntKind.i64.wrap (andI .u64 u 1)) = 0 := by rw [e1, h]; rfl
    simp -implicitDefEqProofs [Int.fdiv_eq_ediv_of_nonneg, e3, e2, x0, h]
  · have e3 : IntKind.i64.wrap (-IntKind.i64.wrap (andI .u64 u 1)) = -1 := by rw [e1, h]; rfl
    simp -implicitDefEqProofs [Int.fdiv_eq_ediv_of_nonneg, e3, e2, x1, h]
    omega
theorem Zag2_ev (u : Nat) (hu : u < 18446744073709551616) (H : List Blk) : EvF tab 39 [U u] H = some ⟨I (zagN u), [], []⟩ := by
  refine EvF_walk t39 (by simp) ?_
  unfold zagN
  have e2 : IntKind.i64.wrap ((u : Int) / 2) = (u : Int) / 2 := wrap_i64 (by omega) (by omega)
  have e5 : IntKind.u64.wrap ((u : Int) / 2) = (u : Int) / 2 := wrap_u64 (by omega) (by omega)
  have e3 : IntKind.i64.wrap (-((u : Int) / 2)) = -((u : Int) / 2) := wrap_i64 (by omega) (by omega)
  have e4 : IntKind.i64.wrap (-((u : Int) / 2) - 1) = -((u : Int) / 2) - 1 := wrap_i64 (by omega) (by omega)
  rcases Nat.mod_two_eq_zero_or_one u with h | h
  · have h' : (u : Int) % 2 = 0 := by omega
    simp -implicitDefEqProofs [h, h', Int.tmod_eq_emod_of_nonneg, Int.tdiv_eq_ediv_of_nonneg, e5, e2]
  · have h' : (u : Int) % 2 = 1 := by omega
    simp -implicitDefEqProofs [h, h', Int.tmod_eq_emod_of_nonneg, Int.tdiv_eq_ediv_of_nonneg, e5, e2, e3, e4]
/-! ### Low and Sign -/
def lowN (n : Nat) (k : Int) : Nat := if k ≤ 0 then 0 else if 64 ≤ k then n else n % 2 ^ k.toNat
def signN (n : Nat) (k : Int) : Int := if k < 1 ∨ 64 < k then 0 else if n % 2 ^ k.toNat < 2 ^ (k.toNat - 1) then (n % 2 ^ k.toNat : Nat) else ((n % 2 ^ k.toNat : Nat) : Int) - 2 ^ k.toNat
theorem pow_lt64 {k : Nat} (h : k < 64) : 2 ^ k ≤ 9223372036854775808 := Nat.pow_le_pow_right (n := 2) (by omega) (show k ≤ 63 by omega)
theorem Low_ev (n : Nat) (k : Int) (hn : n < 18446744073709551616) (H : List Blk) : EvF tab 40 [U n, I k] H = some ⟨U (lowN n k), [], []⟩ := by
  refine EvF_walk t40 (by simp) ?_
  unfold lowN
  by_cases h1 : k ≤ 0
  · simp -implicitDefEqProofs [h1]
  · by_cases h2 : 64 ≤ k
    · simp -implicitDefEqProofs [h1, h2]
    · obtain ⟨K, rfl⟩ := Int.eq_ofNat_of_zero_le (show 0 ≤ k by omega)
      have hp := pow_lt64 (k := K) (by omega)
      have hp0 : 0 < 2 ^ K := Nat.pow_pos (by omega)
      have hpi : ((2 ^ K : Nat) : Int) = (2 : Int) ^ K := by simp
      have e0 : min K 64 = K := by omega
      have e1 : IntKind.u64.wrap ((2 : Int) ^ K) = (2 : Int) ^ K := wrap_u64 (by omega) (by omega)
      have e2 : IntKind.u64.wrap ((2 : Int) ^ K - 1) = ((2 ^ K - 1 : Nat) : Int) := by rw [wrap_u64 (by omega) (by omega)]; omega
      have e3 := and_u64 (a := n) (b := 2 ^ K - 1) hn (by omega)
      rw [Nat.and_two_pow_sub_one_eq_mod] at e3
      simp -implicitDefEqProofs [h1, h2, e0, e1, e2, e3, show ¬ (K : Int) < 0 by omega, show ¬ K = 0 by omega]
theorem weight_ev (K : Nat) (hK : K < 64) (H : List Blk) : EvF tab 58 [I K] H = some ⟨U (2 ^ K : Nat), [], []⟩ := by
  refine EvF_walk t58 (by simp) ?_
  have hw : loopE (EvF tab) H L58_0 [0, 3, 4] ⟨[(0, I K), (3, U (2 ^ 0 : Nat)), (4, I (0 : Nat))], [], []⟩ = some (.exit 0, ⟨[(0, I K), (3, U (2 ^ K : Nat)), (4, I K), (7, B false)], [], []⟩) := by
    refine loop_cnt K (fun k => ⟨[(0, I K), (3, U (2 ^ k : Nat)), (4, I k)], [], []⟩) _ (by simp) (fun k hk => ?_) (by delta L58_0; simp -implicitDefEqProofs)
    delta L58_0
    have hp := pow_lt64 (k := k + 1) (by omega)
    have e2 := wrap_succ hk (show K ≤ 9223372036854775807 by omega)
    obtain ⟨p, hp2⟩ : ∃ p, 2 ^ k = p := ⟨_, rfl⟩
    have e3 : 2 ^ (k + 1) = 2 * p := by rw [Nat.pow_succ, hp2]; omega
    rw [e3] at hp ⊢
    rw [hp2]
    have e1 : IntKind.u64.wrap (2 * (p : Int)) = 2 * (p : Int) := wrap_u64 (by omega) (by omega)
    simp -implicitDefEqProofs [hk, e2, e1]
  simp only [Nat.pow_zero, Int.ofNat_zero, Int.cast_ofNat_Int] at hw
  simp -implicitDefEqProofs [hw]
theorem Low2_ev (n : Nat) (k : Int) (hn : n < 18446744073709551616) (H : List Blk) : EvF tab 41 [U n, I k] H = some ⟨U (lowN n k), [], []⟩ := by
  refine EvF_walk t41 (by simp) ?_
  unfold lowN
  by_cases h1 : k ≤ 0
  · simp -implicitDefEqProofs [h1]
  · by_cases h2 : 64 ≤ k
    · simp -implicitDefEqProofs [h1, h2]
    · obtain ⟨K, rfl⟩ := Int.eq_ofNat_of_zero_le (show 0 ≤ k by omega)
      have hp0 : 0 < 2 ^ K := Nat.pow_pos (by omega)
      have hw := fun H => weight_ev K (by omega) H
      obtain ⟨P, hP⟩ : ∃ P, 2 ^ K = P := ⟨_, rfl⟩
      rw [hP] at hp0
      simp only [hP] at hw
      simp -implicitDefEqProofs [h1, h2, hw, show ¬ K = 0 by omega, hP, show ¬ P = 0 by omega, Int.tmod_eq_emod_of_nonneg]
theorem signN_bd (n : Nat) (k : Int) : I64 (signN n k) := by
  unfold signN I64
  split
  · omega
  · rename_i h
    obtain ⟨K, hK⟩ : ∃ K, k.toNat = K + 1 := ⟨k.toNat - 1, by omega⟩
    rw [hK]
    have hp := pow_lt64 (k := K) (by omega)
    have hp1 : 2 ^ (K + 1) = 2 * 2 ^ K := by rw [Nat.pow_succ]; omega
    have hpi : ((2 : Int) ^ (K + 1)) = 2 * (2 ^ K : Nat) := by rw [Int.pow_succ]; simp; omega
    have hlt := Nat.mod_lt n (show 0 < 2 ^ (K + 1) from Nat.pow_pos (by omega))
    simp only [Nat.add_sub_cancel]
    split <;> omega
theorem Sign_ev (n : Nat) (k : Int) (hn : n < 18446744073709551616) (H : List Blk) : EvF tab 42 [U n, I k] H = some ⟨I (signN n k), [], []⟩ := by
  refine EvF_walk t42 (by simp) ?_
  by_cases h1 : k < 1
  · simp -implicitDefEqProofs [h1, signN]
  · by_cases h2 : 64 < k
    · simp -implicitDefEqProofs [h1, h2, signN]
    · obtain ⟨K, hK⟩ : ∃ K : Nat, k = K + 1 := ⟨(k - 1).toNat, by omega⟩
      subst hK
      have hs : IntKind.i64.wrap (64 - ((K : Int) + 1)) = ((63 - K : Nat) : Int) := by rw [wrap_i64 (by omega) (by omega)]; omega
      have e0 : min (63 - K) 64 = 63 - K := by omega
      have hpow : 2 ^ (K + 1) * 2 ^ (63 - K) = 18446744073709551616 := by rw [← Nat.pow_add, show K + 1 + (63 - K) = 64 by omega]
      have hpow1 : 2 ^ K * 2 ^ (63 - K) = 9223372036854775808 := by rw [← Nat.pow_add, show K + (63 - K) = 63 by omega]
      obtain ⟨Q, hQ⟩ : ∃ Q, 2 ^ (63 - K) = Q := ⟨_, rfl⟩
      obtain ⟨P, hP⟩ : ∃ P, 2 ^ K = P := ⟨_, rfl⟩
      have hP1 : 2 ^ (K + 1) = 2 * P := by rw [Nat.pow_succ, hP]; omega
      have hQ0 : 0 < Q := by rw [← hQ]; exact Nat.pow_pos (by omega)
      have hP0 : 0 < P := by rw [← hP]; exact Nat.pow_pos (by omega)
      rw [hP1, hQ] at hpow
      rw [hP, hQ] at hpow1
      have hQi : (2 : Int) ^ (63 - K) = Q := by rw [← hQ]; simp
      have hm : n * Q % 18446744073709551616 = (n % (2 * P)) * Q := by rw [← hpow, Nat.mul_mod_mul_right]
      have hlt : n % (2 * P) < 2 * P := Nat.mod_lt _ (by omega)
      have e1 : IntKind.i64.wrap (IntKind.u64.wrap ((n : Int) * Q)) = if n % (2 * P) < P then (((n % (2 * P)) * Q : Nat) : Int) else (((n % (2 * P)) * Q : Nat) : Int) - 18446744073709551616 := by
        have hx : (n : Int) * Q % 18446744073709551616 = (((n % (2 * P)) * Q : Nat) : Int) := by rw [← hm]; simp
        have hc : (n % (2 * P)) * Q < 9223372036854775808 ↔ n % (2 * P) < P := by
          rw [← hpow1]; exact Nat.mul_lt_mul_right hQ0
        have hb : (n % (2 * P)) * Q < 18446744073709551616 := by rw [← hpow]; exact (Nat.mul_lt_mul_right hQ0).2 hlt
        rw [wrap_i64_mod, wrap_u64_mod, Int.emod_emod, hx]
        by_cases h : n % (2 * P) < P
        · rw [if_pos (by have := hc.2 h; omega), if_pos h]
        · rw [if_neg (by have := mt hc.1 h; omega), if_neg h]
      have esn : signN n ((K : Int) + 1) = if n % (2 * P) < P then ((n % (2 * P) : Nat) : Int) else ((n % (2 * P) : Nat) : Int) - ((2 * P : Nat) : Int) := by
        unfold signN
        rw [if_neg (by omega), show ((K : Int) + 1).toNat = K + 1 by omega, Nat.add_sub_cancel, hP, hP1, show (2 : Int) ^ (K + 1) = ((2 * P : Nat) : Int) by rw [← hP1]; simp]
      have e2 : Int.fdiv (IntKind.i64.wrap (IntKind.u64.wrap ((n : Int) * Q))) Q = signN n ((K : Int) + 1) := by
        rw [e1, Int.fdiv_eq_ediv_of_nonneg _ (by omega), esn]
        have hQ1 : (Q : Int) ≠ 0 := by omega
        by_cases h : n % (2 * P) < P
        · rw [if_pos h, if_pos h, Int.natCast_mul, Int.mul_ediv_cancel _ hQ1]
        · rw [if_neg h, if_neg h, show (18446744073709551616 : Int) = ((2 * P : Nat) : Int) * Q by rw [← Int.natCast_mul, hpow]; rfl, Int.natCast_mul (n % (2 * P)), ← Int.sub_mul, Int.mul_ediv_cancel _ hQ1]
      simp -implicitDefEqProofs [h1, h2, hs, e0, hQi, e2]
theorem Sign2_ev (n : Nat) (k : Int) (hn : n < 18446744073709551616) (H : List Blk) : EvF tab 43 [U n, I k] H = some ⟨I (signN n k), [], []⟩ := by
  refine EvF_walk t43 (by simp) ?_
  by_cases h1 : k < 1
  · simp -implicitDefEqProofs [h1, signN]
  · by_cases h2 : 64 < k
    · simp -implicitDefEqProofs [h1, h2, signN]
    · have l2 := fun H => Low2_ev n k hn H
      obtain ⟨K, rfl⟩ : ∃ K : Nat, k = K + 1 := ⟨(k - 1).toNat, by omega⟩
      have l1 := fun H => Low2_ev n K hn H
      have e0 : IntKind.i64.wrap (K : Int) = K := wrap_i64 (by omega) (by omega)
      have e1 : lowN n (K : Int) = n % 2 ^ K := by
        unfold lowN
        by_cases h : K = 0
        · subst h; simp; omega
        · rw [if_neg (by omega), if_neg (by omega), show (K : Int).toNat = K by omega]
      have e2 : lowN n ((K : Int) + 1) = n % 2 ^ (K + 1) := by
        unfold lowN
        by_cases h : K = 63
        · subst h; rw [if_neg (by omega), if_pos (by omega), Nat.mod_eq_of_lt hn]
        · rw [if_neg (by omega), if_neg (by omega), show ((K : Int) + 1).toNat = K + 1 by omega]
      have e3 : n % 2 ^ (K + 1) = n % 2 ^ K + 2 ^ K * (n / 2 ^ K % 2) := Nat.mod_pow_succ
      have hp := pow_lt64 (k := K) (by omega)
      have hlt := Nat.mod_lt n (show 0 < 2 ^ K from Nat.pow_pos (by omega))
      have es : signN n ((K : Int) + 1) = if n / 2 ^ K % 2 = 0 then ((n % 2 ^ K : Nat) : Int) else ((n % 2 ^ K : Nat) : Int) - ((2 ^ K : Nat) : Int) := by
        unfold signN
        rw [if_neg (by omega), show ((K : Int) + 1).toNat = K + 1 by omega, Nat.add_sub_cancel, e3, show (2 : Int) ^ (K + 1) = ((2 * 2 ^ K : Nat) : Int) by rw [Int.pow_succ]; simp; omega]
        rcases Nat.mod_two_eq_zero_or_one (n / 2 ^ K) with h | h <;> rw [h]
        · rw [if_pos (by omega)]; simp
        · rw [if_neg (by omega)]; simp; omega
      rw [e1] at l1
      rw [e2, e3] at l2
      rw [es]
      obtain ⟨P, hP⟩ : ∃ P, 2 ^ K = P := ⟨_, rfl⟩
      rw [hP] at hp hlt l1 l2 ⊢
      obtain ⟨m, hm⟩ : ∃ m, n % P = m := ⟨_, rfl⟩
      rw [hm] at hlt l1 l2 ⊢
      have em : IntKind.i64.wrap (m : Int) = (m : Int) := wrap_i64 (by omega) (by omega)
      rcases Nat.mod_two_eq_zero_or_one (n / P) with h | h <;> simp only [h, Nat.mul_zero, Nat.mul_one, Nat.add_zero] at l2
      · have e5 : IntKind.u64.wrap 0 = 0 := rfl
        simp -implicitDefEqProofs [h1, h2, l1, l2, e0, h, e5, em]
      · have e5 : IntKind.u64.wrap ((m : Int) + (P : Int) - m) = P := by rw [wrap_u64 (by omega) (by omega)]; omega
        have e6 : IntKind.i64.wrap (IntKind.u64.wrap ((P : Int) - 1)) = (P : Int) - 1 := by rw [wrap_u64 (by omega) (by omega), wrap_i64 (by omega) (by omega)]
        have e7 : IntKind.i64.wrap ((m : Int) - ((P : Int) - 1)) = (m : Int) - ((P : Int) - 1) := wrap_i64 (by omega) (by omega)
        have e8 : IntKind.i64.wrap ((m : Int) - ((P : Int) - 1) - 1) = (m : Int) - P := by rw [wrap_i64 (by omega) (by omega)]; omega
        simp -implicitDefEqProofs [h1, h2, l1, l2, e0, h, e5, em, e6, e7, e8, show ¬ P = 0 by omega]
end Go.Proofs.Ytahjgmldkbbpaaa
