/- What the reader makes of lists. -/
import Derived.Test.YtenndgooepdmiaaSRead2
namespace Go.Proofs.Ytenndgooepdmiaa
open Go Go.AM Go.Proofs
set_option maxRecDepth 20000
set_option maxHeartbeats 1000000
set_option linter.unusedSimpArgs false
set_option linter.unusedVariables false
def rlL (n bytes : Nat) (z : List GV) : IC :=
 .seq (.reg [0, 2, 8, 23, 24, 25] [⟨(some 25), none, .bin .lss (.t 24) (.t 23)⟩]) <|
 .seq (.cond [0, 2, 8, 23, 24] (.t 25)
   (.skip)
   (.exit 0)) <|
 .seq (.block [0, 2, 8, 23, 24] 1 <|
  .seq (.seq (.reg [0, 2, 8, 23, 24, 29] [⟨(some 26), none, .mov (.t 0)⟩,
      ⟨(some 27), none, .nilchk (.t 26)⟩,
      ⟨(some 28), none, .faddr 1 (.t 27)⟩,
      ⟨(some 29), none, .load false 1 (.t 28)⟩]) <|
   .cond [0, 2, 8, 23, 24] (.t 29)
    (.seq (.reg [6] [⟨(some 6), none, .nres n⟩]) <|
     .ret)
    (.skip)) <|
  .reg [0, 2, 8, 23, 24] [⟨(some 30), none, .mov (.t 8)⟩,
    ⟨(some 31), none, .mov (.t 2)⟩,
    ⟨(some 32), none, .call (.t 31) []⟩,
    ⟨(some 33), none, .bslice n 1 z [(0, n, (.t 32))]⟩,
    ⟨(some 34), none, .app n bytes (.t 30) (.t 33)⟩,
    ⟨(some 8), none, .mov (.t 34)⟩]) <|
 .reg [0, 2, 8, 23, 24] [⟨(some 35), none, .bin .add (.t 24) (.c (.g (.int .i64 1)))⟩,
   ⟨(some 24), none, .mov (.t 35)⟩]
def rlF (n bytes : Nat) (z : List GV) : IFunc := ⟨3, 37, [.tmp 6], false,
 .seq (.reg [0, 1, 2] [⟨(some 6), none, .nres n⟩]) <|
 .seq (.reg [0, 1, 2, 7] [⟨(some 9), none, .mov (.t 0)⟩,
    ⟨(some 10), none, .call (.c (.g (.fn 36))) [(.t 9)]⟩,
    ⟨(some 7), none, .mov (.t 10)⟩]) <|
 .seq (.reg [0, 2, 7] [⟨(some 11), none, .mov (.t 0)⟩,
    ⟨(some 12), none, .mov (.t 0)⟩,
    ⟨(some 13), none, .nilchk (.t 12)⟩,
    ⟨(some 14), none, .faddr 1 (.t 13)⟩,
    ⟨(some 15), none, .load false 1 (.t 14)⟩,
    ⟨(some 16), none, .mov (.t 15)⟩,
    ⟨(some 17), (some (16, false)), .mov (.t 7)⟩,
    ⟨(some 18), (some (16, false)), .mov (.t 1)⟩,
    ⟨(some 19), (some (16, false)), .bin .gtr (.t 17) (.t 18)⟩,
    ⟨(some 20), none, .pick (.t 16) (.c (.g (.bool true))) (.t 19)⟩,
    ⟨(some 21), none, .nilchk (.t 11)⟩,
    ⟨(some 22), none, .faddr 1 (.t 21)⟩,
    ⟨none, none, .store 1 (.t 22) (.t 20)⟩]) <|
 .seq (.reg [0, 2, 7, 8] [⟨(some 8), none, .nres n⟩]) <|
 .seq (.seq (.reg [0, 2, 8, 23, 24] [⟨(some 23), none, .mov (.t 7)⟩,
     ⟨(some 24), none, .mov (.c (.g (.int .i64 0)))⟩]) <|
  .block [8] 0 <|
  .loop [0, 2, 8, 23, 24] [] (rlL n bytes z)) <|
 .seq (.reg [6] [⟨(some 36), none, .mov (.t 8)⟩,
    ⟨(some 6), none, .mov (.t 36)⟩]) <|
 .ret⟩
section
variable {α : Type} {c : α → List GV} {it : RS → α × RS} {n bytes : Nat} {z : List GV} {g p : Nat}
def stL (c : α → List GV) (n g p kk : Nat) (H : List Blk) (out : List α) (st : RS) : St :=
  ⟨[(0, .ptr p 0), (2, .bv g [.ptr p 0]), (8, .ms (H.length + 1) (out.length + 1) n 0 out.length), (23, I kk), (24, I out.length)], [(p, rC st)], [.rows n 1 [], .rows n (out.length + 1) (out.map c)]⟩
def resL (c : α → List GV) (it : RS → α × RS) (n g p kk : Nat) (H : List Blk) : Nat → List α → RS → Ex × St
  | 0, out, st => (.exit 0, ⟨[(0, .ptr p 0), (2, .bv g [.ptr p 0]), (8, .ms (H.length + 1) (out.length + 1) n 0 out.length), (23, I kk), (24, I out.length), (25, B false)], [(p, rC st)], [.rows n 1 [], .rows n (out.length + 1) (out.map c)]⟩)
  | k + 1, out, st => if st.2 = true then (.ret, ⟨[(6, .ms (H.length + 2) 1 n 0 0)], [(p, rC st)], [.rows n 1 [], .rows n (out.length + 1) (out.map c), .rows n 1 []]⟩) else resL c it n g p kk H k (out ++ [(it st).1]) (it st).2
theorem rl_loop {H : List Blk} (hpl : p < H.length) (hc : ∀ x, (c x).length = n) (hz : z.length = n) (hb : bytes ≤ 1000)
    (hone : ∀ (H : List Blk) (st : RS), H[p]? = some (rC st) → st.1.length ≤ 9223372036854775807 → EvF tab g [.ptr p 0] H = some ⟨A (c (it st).1), [(p, rC (it st).2)], []⟩) (hlen : ∀ st, (it st).2.1.length ≤ st.1.length) (kk : Nat) (hk63 : kk ≤ 9223372036854775807) :
    ∀ (d : Nat) (out : List α) (st : RS), out.length + d = kk → (st.2 = true ∨ kk ≤ 100) → st.1.length ≤ 9223372036854775807 →
      loopE (EvF tab) H (rlL n bytes z) [0, 2, 8, 23, 24] (stL c n g p kk H out st) = some (resL c it n g p kk H d out st) := by
  intro d
  induction d with
  | zero =>
    intro out st h1 h2 h3
    refine loopE_out _ _ _ _ _ _ (by simp [resL]) ?_
    simp only [resL]
    unfold stL
    delta rlL
    simp -implicitDefEqProofs [show ¬ (out.length : Int) < (kk : Int) by omega, show ¬ out.length < kk by omega]
  | succ d ih =>
    intro out st h1 h2 h3
    have hlt : (out.length : Int) < (kk : Int) := by omega
    have hlt' : out.length < kk := by omega
    by_cases hw : st.2 = true
    · refine loopE_out _ _ _ _ _ _ (by simp [resL, hw]) ?_
      simp only [resL, if_pos hw]
      unfold stL rC
      rw [hw]
      delta rlL
      simp -implicitDefEqProofs [hlt, hlt', hpl, getB_old, orB]
    · have hw' : st.2 = false := by simpa using hw
      have hk := h2.resolve_left hw
      have ho := hone (H.set p (rC st) ++ [.rows n 1 [], .rows n (out.length + 1) (out.map c)]) st (rC_set2 hpl st _) h3
      have e1 : IntKind.i64.wrap ((out.length : Int) + 1) = (out.length : Int) + 1 := wrap_i64 (by omega) (by omega)
      have hstep : kpN [0, 2, 8, 23, 24] (evCode (EvF tab) H (rlL n bytes z) (stL c n g p kk H out st)) = some (.normal, stL c n g p kk H (out ++ [(it st).1]) (it st).2) := by
        have hcl := hc (it st).1
        have hr1 : out.length + 1 ≤ 140737488355328 := by omega
        have hr2 : (out.length + 1) * bytes ≤ 140737488355328 := by
          have := Nat.mul_le_mul (show out.length + 1 ≤ 101 by omega) hb
          omega
        have hfl : (List.replicate 1 (z.map AV.g)).flatten = z.map AV.g := by simp
        have hch : chunk n 1 (c (it st).1) = [c (it st).1] := by simp [chunk, List.take_of_length_le (Nat.le_of_eq hcl)]
        have hgr : grounds (List.map AV.g (c (it st).1)) = some (c (it st).1) := by
          generalize c (it st).1 = l
          induction l with
          | nil => rfl
          | cons x l ih => simp [grounds, ih]
        have hcm : (List.map AV.g (c (it st).1)).length = n := by simp [hcl]
        unfold stL
        delta rlL
        generalize it st = x at ho hcl hch hgr hcm ⊢
        obtain ⟨v, s'⟩ := x
        simp only at ho hcl hch hgr hcm ⊢
        have hst : st = (st.1, false) := by rw [← hw']
        have hrC : rC st = .cells [T st.1, B false] := by rw [← hw']; rfl
        have hdz : List.drop n (List.map AV.g z) = [] := by rw [List.drop_eq_nil_iff]; simp [hz]
        rw [hrC] at ho
        simp only [A] at ho
        have htk : List.take out.length (List.map c out) = List.map c out := List.take_of_length_le (by simp)
        simp -implicitDefEqProofs [-grounds, ho, hlt, hlt', hpl, getB_old, setB_old, orB, updM, hrC, A, fillA, hcm, hcl, hz, hdz, hgr, hch, appV, room, hr1, hr2, e1, htk, Nat.not_succ_le_self]
      rw [loopE_kp _ _ _ _ _ _ hstep]
      simp only [resL, if_neg hw]
      have := hlen st
      exact ih _ _ (by simp; omega) (.inr hk) (by omega)
theorem rl_end {H : List Blk} (hpl : p < H.length) (kk : Nat) : ∀ (d : Nat) (out : List α) (st : RS),
      fnEnd H [.tmp 6] false (sk (bk [8] 0 (some (resL c it n g p kk H d out st))) fun s => evCode (EvF tab) H (.seq (.reg [6] [⟨(some 36), none, .mov (.t 8)⟩, ⟨(some 6), none, .mov (.t 36)⟩]) .ret) s) =
        some ⟨.g (Sl.g n c (slN (rdL it d out st).1)), [(p, rC (rdL it d out st).2)], []⟩ := by
  intro d
  induction d with
  | zero =>
    intro out st
    simp only [resL, rdL]
    have htk : List.take out.length (List.map c out) = List.map c out := List.take_of_length_le (by simp)
    cases out with
    | nil => simp -implicitDefEqProofs [slN, hpl]
    | cons x l =>
      simp only [List.map_cons, List.length_cons] at htk
      simp -implicitDefEqProofs [slN, hpl, htk]
  | succ d ih =>
    intro out st
    simp only [resL, rdL]
    by_cases hw : st.2 = true
    · simp only [if_pos hw]
      simp -implicitDefEqProofs [slN, hpl]
    · simp only [if_neg hw]
      exact ih _ _
theorem list_ev {f : FuncId} (hF : tab.T f = some (rlF n bytes z)) {H : List Blk} {st : RS} (hp : H[p]? = some (rC st)) (hl : st.1.length ≤ 9223372036854775807) (hc : ∀ x, (c x).length = n) (hz : z.length = n) (hb : bytes ≤ 1000)
    (hone : ∀ (H : List Blk) (st : RS), H[p]? = some (rC st) → st.1.length ≤ 9223372036854775807 → EvF tab g [.ptr p 0] H = some ⟨A (c (it st).1), [(p, rC (it st).2)], []⟩) (hlen : ∀ st, (it st).2.1.length ≤ st.1.length) (most : Int) (hm : most ≤ 100) :
    EvF tab f [.ptr p 0, I most, .bv g [.ptr p 0]] H = some ⟨.g (Sl.g n c (slN (rdList most it st).1)), [(p, rC (rdList most it st).2)], []⟩ := by
  have hpl : p < H.length := (List.getElem?_eq_some_iff.1 hp).1
  have hn := rn_ev (rC_app hp [.rows n 1 []]) hl
  have hbd := rdN_bd st
  have hln := rdN_len st
  have hw := rl_loop (c := c) (it := it) (z := z) (g := g) hpl hc hz hb hone hlen (rdN st).1.toNat (by omega) (rdN st).1.toNat [] ((rdN st).2.1, (rdN st).2.2 || decide (most < (rdN st).1)) (by simp) (by
    simp only [Bool.or_eq_true, decide_eq_true_eq]
    by_cases h : most < (rdN st).1
    · exact .inl (.inr h)
    · exact .inr (by omega)) (by simp only; omega)
  have he := rl_end (c := c) (it := it) (n := n) (g := g) hpl (rdN st).1.toNat (rdN st).1.toNat [] ((rdN st).2.1, (rdN st).2.2 || decide (most < (rdN st).1))
  unfold rdList
  refine EvF_walk hF (by simp [rlF]) ?_
  have hcast : (((rdN st).1.toNat : Nat) : Int) = (rdN st).1 := by omega
  rw [← he]
  unfold stL at hw
  rw [hcast] at hw
  generalize resL c it n g p (rdN st).1.toNat H (rdN st).1.toNat [] ((rdN st).2.1, (rdN st).2.2 || decide (most < (rdN st).1)) = R at hw ⊢
  generalize rdN st = x at hn hw
  obtain ⟨k, s, wr⟩ := x
  simp only [rC, List.length_nil, List.map_nil, Nat.zero_add, show ((0 : Nat) : Int) = 0 from rfl] at hn hw
  cases wr <;> simp only [Bool.true_or, Bool.false_or] at hw <;> simp -implicitDefEqProofs [hn, hpl, getB_old, setB_old, orB, updM, hw]
end
end Go.Proofs.Ytenndgooepdmiaa
